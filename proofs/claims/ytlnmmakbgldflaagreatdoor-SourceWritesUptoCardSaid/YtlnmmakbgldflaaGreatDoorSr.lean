/-
  SIGN: plain laws of tokens: a token's bytes say it wherever they stand. No program in sight.
-/
import Derived.Test.YtlnmmakbgldflaaGreatDoorSy
set_option linter.unusedSimpArgs false
set_option linter.unusedVariables false
set_option maxRecDepth 100000
namespace Go.Proofs.YtlnmmakbgldflaaGreatDoor.Vc
open Go

/-- behind a token: nothing, or a byte that is none of a name -/
def endB (r : List UInt8) : Prop := ∀ c t, r = c :: t → nameB c = false
theorem wordL_app {w r : List UInt8} (hw : w.all nameB = true) (hr : endB r) : wordL (w ++ r) = w := by
  unfold wordL
  induction w with
  | nil =>
    cases r with
    | nil => rfl
    | cons c t => simp [List.takeWhile_cons, hr c t rfl]
  | cons a w ih =>
    simp only [List.all_cons, Bool.and_eq_true] at hw
    simp only [List.cons_append, List.takeWhile_cons, hw.1, if_true]
    rw [ih hw.2]
theorem wordL_end (l : List UInt8) : endB (l.drop (wordL l).length) := by
  intro c t h
  unfold wordL at h
  induction l with
  | nil => simp at h
  | cons a l ih =>
    simp only [List.takeWhile_cons] at h
    cases ha : nameB a with
    | true => rw [ha] at h; simp only [if_true, List.length_cons, List.drop_succ_cons] at h; exact ih h
    | false => rw [ha] at h; simp only [Bool.false_eq_true, if_false, List.length_nil, List.drop_zero] at h; cases h; exact ha
theorem escB_app {t : List UInt8} {d : UInt8} {k : Nat} (h : escB t = some (d, k)) (q : List UInt8) : escB (t.take k ++ q) = some (d, k) := by
  match t with
  | [] => cases h
  | c :: r =>
    simp only [escB] at h
    split at h
    · rename_i h1; cases h
      show escB (d :: q) = _
      simp only [escB, if_pos h1]
    · rename_i h1
      split at h
      · rename_i h2; cases h
        show escB (c :: q) = _
        simp only [escB, if_neg h1, if_pos h2]
      · rename_i h2
        split at h
        · rename_i h3
          cases h
          match r, h3 with
          | [], h3 => have : (0 : Int) ≤ -1 := h3.2; omega
          | [a], h3 => have : (0 : Int) ≤ -1 := h3.2; omega
          | a :: b :: r, h3 =>
            show escB (c :: a :: b :: q) = _
            have e : twoI (a :: b :: q) = twoI (a :: b :: r) := rfl
            simp only [escB, if_neg h1, if_neg h2, e, if_pos h3]
        · cases h
/-- a string's bytes stand ahead of what is left -/
theorem textB_split : ∀ (n : Nat) (l : List UInt8), l.length ≤ n → ∀ {x s : List UInt8}, textB l = some (x, s) → ∃ u, l = u ++ s ∧ ∀ r, textB (u ++ r) = some (x, r)
  | _, [], _, _, _, h => by cases h
  | 0, c :: t, hl, _, _, _ => by simp at hl
  | n + 1, c :: t, hl, x, s, h => by
    simp only [List.length_cons] at hl
    by_cases h1 : c = 34
    · subst h1
      rw [textB_end] at h
      cases h
      exact ⟨[34], rfl, fun r => rfl⟩
    by_cases h2 : c = 92
    · subst h2
      rw [textB_esc] at h
      cases he : escB t with
      | none => rw [he] at h; cases h
      | some y =>
        obtain ⟨d, k⟩ := y
        rw [he] at h
        simp only [Option.bind_some] at h
        cases ht : textB (t.drop k) with
        | none => rw [ht] at h; cases h
        | some z =>
          obtain ⟨z1, z2⟩ := z
          rw [ht] at h
          simp only [Option.map_some, Option.some.injEq, Prod.mk.injEq] at h
          obtain ⟨rfl, rfl⟩ := h
          have hk := escB_len he
          obtain ⟨u, hu, hr⟩ := textB_split n (t.drop k) (by simp; omega) ht
          refine ⟨92 :: (t.take k ++ u), ?_, fun r => ?_⟩
          · rw [List.cons_append, List.append_assoc, ← hu, List.take_append_drop]
          · rw [List.cons_append, List.append_assoc, textB_esc, escB_app he]
            simp only [Option.bind_some]
            have hd : (t.take k ++ (u ++ r)).drop k = u ++ r := by
              rw [List.drop_append_of_le_length (by simp; omega), List.drop_eq_nil_of_le (by rw [List.length_take]; omega), List.nil_append]
            rw [hd, hr]; rfl
    · rw [textB_plain h1 h2] at h
      cases ht : textB t with
      | none => rw [ht] at h; cases h
      | some z =>
        obtain ⟨z1, z2⟩ := z
        rw [ht] at h
        simp only [Option.map_some, Option.some.injEq, Prod.mk.injEq] at h
        obtain ⟨rfl, rfl⟩ := h
        obtain ⟨u, hu, hr⟩ := textB_split n t (by omega) ht
        refine ⟨c :: u, by rw [List.cons_append, ← hu], fun r => ?_⟩
        rw [List.cons_append, textB_plain h1 h2, hr]; rfl
theorem wordT_len {w : List UInt8} {kd n : Int} {x : List UInt8} {m : Nat} (h : wordT w = .tok kd x n m) : m = w.length ∧ w ≠ [] := by
  unfold wordT at h
  split at h
  · cases h
  rename_i h0
  split at h
  · rename_i h1; cases h; rw [h1]; exact ⟨rfl, by simp⟩
  split at h
  · split at h
    · cases h
    · cases h; exact ⟨rfl, h0⟩
  split at h
  · cases h
  · cases h; exact ⟨rfl, h0⟩
theorem take_wordL (l : List UInt8) : l.take (wordL l).length = wordL l := wordL_take l
/-- what begins with the sign of a hash, wherever it stands -/
theorem hashL_local {l : List UInt8} {kd n : Int} {x : List UInt8} {m : Nat} (h : hashL l = .tok kd x n m) {r : List UInt8} (hr : endB (l.drop (m - 1)) → endB r) : 2 ≤ m ∧ hashL (l.take (m - 1) ++ r) = .tok kd x n m := by
  have key := h
  unfold hashL at h
  split at h
  · cases h; exact ⟨Nat.le_refl _, rfl⟩
  · rename_i c t
    dsimp only at h
    by_cases hw : wordL (c :: t) = []
    · rw [if_pos hw] at h
      split at h
      · cases h
      · cases h
        rename_i hc
        refine ⟨by simp, ?_⟩
        show hashL (92 :: c :: r) = _
        have hc' : nameB c = false := by
          cases hn : nameB c with
          | false => rfl
          | true => simp [wordL, List.takeWhile_cons, hn] at hw
        have hw2 : wordL (c :: r) = [] := by simp [wordL, List.takeWhile_cons, hc']
        show (if charI (if wordL (c :: r) = [] then [c] else wordL (c :: r)) < 0 then One.bad 31 else .tok 7 [] (charI (if wordL (c :: r) = [] then [c] else wordL (c :: r))) (2 + (if wordL (c :: r) = [] then [c] else wordL (c :: r)).length)) = _
        rw [if_pos hw2, if_neg hc]
    · rw [if_neg hw] at h
      split at h
      · cases h
      · cases h
        rename_i hc
        refine ⟨by omega, ?_⟩
        have ht : (92 :: c :: t).take (2 + (wordL (c :: t)).length - 1) = 92 :: wordL (c :: t) := by
          rw [show 2 + (wordL (c :: t)).length - 1 = (wordL (c :: t)).length + 1 by omega, List.take_succ_cons, take_wordL]
        rw [ht]
        have happ := wordL_app (wordL_all (c :: t)) (hr (by
          rw [show 2 + (wordL (c :: t)).length - 1 = (wordL (c :: t)).length + 1 by omega, List.drop_succ_cons]; exact wordL_end _))
        obtain ⟨a, b, hab⟩ : ∃ a b, wordL (c :: t) = a :: b := List.exists_cons_of_ne_nil hw
        rw [hab] at happ hc ⊢
        show (if charI (if wordL (a :: (b ++ r)) = [] then [a] else wordL (a :: (b ++ r))) < 0 then One.bad 31 else .tok 7 [] (charI (if wordL (a :: (b ++ r)) = [] then [a] else wordL (a :: (b ++ r)))) (2 + (if wordL (a :: (b ++ r)) = [] then [a] else wordL (a :: (b ++ r))).length)) = _
        have happ' : wordL (a :: (b ++ r)) = a :: b := happ
        have hne : ¬ (a :: b = []) := by simp
        simp only [happ', if_neg hne, if_neg hc]
  · have head : ∀ c : UInt8, wordL l = [c] → (endB (l.drop 1) → endB r) → l.take 1 = [c] ∧ wordL (c :: r) = [c] := by
      intro c hw hr
      have hn : nameB c = true := by
        have := wordL_all l
        rw [hw] at this; simpa using this
      refine ⟨?_, wordL_app (w := [c]) (by simp [hn]) (hr (by have := wordL_end l; rw [hw] at this; exact this))⟩
      have := take_wordL l
      rw [hw] at this; exact this
    split at h
    · rename_i hw
      cases h
      obtain ⟨h1, h2⟩ := head _ hw hr
      refine ⟨Nat.le_refl _, ?_⟩
      rw [show 2 - 1 = 1 from rfl, h1]
      show (if wordL (116 :: r) = [116] then One.tok 5 [] 1 2 else if wordL (116 :: r) = [102] then .tok 5 [] 0 2 else .bad 31) = _
      rw [if_pos h2]
    · split at h
      · rename_i hw
        cases h
        obtain ⟨h1, h2⟩ := head _ hw hr
        refine ⟨Nat.le_refl _, ?_⟩
        rw [show 2 - 1 = 1 from rfl, h1]
        show (if wordL (102 :: r) = [116] then One.tok 5 [] 1 2 else if wordL (102 :: r) = [102] then .tok 5 [] 0 2 else .bad 31) = _
        rw [h2]; rfl
      · cases h
/-- a token's bytes say it wherever they stand -/
theorem oneL_local {l : List UInt8} {kd n : Int} {x : List UInt8} {m : Nat} (hl : l ≠ []) (h : oneL l = .tok kd x n m) {r : List UInt8} (hr : endB (l.drop m) → endB r) : 1 ≤ m ∧ m ≤ l.length ∧ oneL (l.take m ++ r) = .tok kd x n m := by
  have hlen := one_len hl h
  refine ⟨hlen.1, hlen.2, ?_⟩
  cases l with
  | nil => exact absurd rfl hl
  | cons c t =>
    obtain ⟨j, rfl⟩ : ∃ j, m = j + 1 := ⟨m - 1, by omega⟩
    rw [List.take_succ_cons, List.cons_append, oneL_cons]
    rw [oneL_cons] at h
    split at h
    · rename_i h1; rw [if_pos h1]; exact h
    rename_i h1
    rw [if_neg h1]
    split at h
    · rename_i h2; rw [if_pos h2]; exact h
    rename_i h2
    rw [if_neg h2]
    split at h
    · rename_i h3; rw [if_pos h3]; exact h
    rename_i h3
    rw [if_neg h3]
    split at h
    · rename_i h4
      rw [if_pos h4]
      exact (hashL_local h hr).2
    rename_i h4
    rw [if_neg h4]
    split at h
    · rename_i h5
      rw [if_pos h5]
      cases ht : textB t with
      | none => rw [ht] at h; cases h
      | some z =>
        obtain ⟨z1, z2⟩ := z
        rw [ht] at h
        simp only [One.tok.injEq] at h
        obtain ⟨rfl, rfl, rfl, hm⟩ := h
        obtain ⟨u, rfl, hu⟩ := textB_split t.length t (Nat.le_refl _) ht
        have hj : j = u.length := by rw [List.length_append] at hm; omega
        subst hj
        rw [List.take_left, hu r]
        simp only [List.length_append, One.tok.injEq, true_and]
        omega
    · rename_i h5
      rw [if_neg h5]
      obtain ⟨hm, hne⟩ := wordT_len h
      have htk := take_wordL (c :: t)
      rw [← hm, List.take_succ_cons] at htk
      have happ := wordL_app (wordL_all (c :: t)) (hr (by rw [hm]; exact wordL_end _))
      rw [← htk, List.cons_append] at happ
      rw [happ, htk]; exact h

/-! ### what is gone over -/
/-- a byte that is none to go over -/
def solid (l : List UInt8) : Prop := ∀ c t, l = c :: t → c ≠ 59 ∧ wsB c = false
theorem solid.gap {l : List UInt8} (h : solid l) : gapL false l = l := by
  cases l with
  | nil => rfl
  | cons c t =>
    obtain ⟨h1, h2⟩ := h c t rfl
    simp only [gapL, if_neg h1, h2, Bool.false_eq_true, if_false]
theorem gapL_solid : ∀ (l : List UInt8) (b : Bool), solid (gapL b l)
  | [], b => by cases b <;> exact fun c t h => by cases h
  | c :: l, true => gapL_solid l (c != 10)
  | c :: l, false => by
    simp only [gapL]
    split
    · exact gapL_solid l true
    · rename_i hc
      split
      · exact gapL_solid l false
      · rename_i hw
        intro d t h
        cases h
        exact ⟨hc, by simpa using hw⟩
/-- what is gone over, and more behind it -/
theorem gapL_app : ∀ (y : List UInt8) (b : Bool), gapL b y ≠ [] → ∀ w, gapL b (y ++ w) = gapL b y ++ w
  | [], b, h, w => by cases b <;> exact absurd rfl h
  | c :: y, true, h, w => gapL_app y (c != 10) h w
  | c :: y, false, h, w => by
    simp only [List.cons_append, gapL] at h ⊢
    split
    · rename_i hc; rw [if_pos hc] at h; exact gapL_app y true h w
    · rename_i hc
      rw [if_neg hc] at h
      split
      · rename_i hw; rw [if_pos hw] at h; exact gapL_app y false h w
      · rfl
/-- a line's end behind what is gone over -/
theorem gapL_line : ∀ (y : List UInt8) (b : Bool), gapL b y = [] → ∀ w, gapL b (y ++ 10 :: w) = gapL false w
  | [], b, _, w => by cases b <;> rfl
  | c :: y, true, h, w => gapL_line y (c != 10) h w
  | c :: y, false, h, w => by
    simp only [List.cons_append, gapL] at h ⊢
    split
    · rename_i hc; rw [if_pos hc] at h; exact gapL_line y true h w
    · rename_i hc
      rw [if_neg hc] at h
      split
      · rename_i hw; rw [if_pos hw] at h; exact gapL_line y false h w
      · rename_i hw; rw [if_neg hw] at h; cases h
theorem take_solid {l : List UInt8} (h : solid l) (m : Nat) (r : List UInt8) (hm : 1 ≤ m) (hl : l ≠ []) : solid (l.take m ++ r) := by
  intro c t e
  cases l with
  | nil => exact absurd rfl hl
  | cons a l =>
    obtain ⟨j, rfl⟩ : ∃ j, m = j + 1 := ⟨m - 1, by omega⟩
    simp only [List.take_succ_cons, List.cons_append] at e
    cases e
    exact h c l rfl

/-! ### tokens, as a relation -/
def Tk.shift (d : Nat) : Tk → Tk
  | .mk k t n a b => .mk k t n (a + d) (b + d)
/-- at p begins l, whose tokens are these -/
inductive TR : Nat → List UInt8 → List Tk → Prop
  | nil {p : Nat} {l : List UInt8} : gapL false l = [] → TR p l []
  | cons {p : Nat} {l v : List UInt8} {kd n : Int} {x : List UInt8} {m g : Nat} {ts : List Tk} : gapL false l = v → v ≠ [] → l.length = g + v.length → oneL v = .tok kd x n m → TR (p + g + m) (v.drop m) ts → TR p l (.mk kd x n ((p + g : Nat) : Int) ((p + g + m : Nat) : Int) :: ts)
theorem TR.shift {p : Nat} {l : List UInt8} {ts : List Tk} (h : TR p l ts) (d : Nat) : TR (p + d) l (ts.map (Tk.shift d)) := by
  induction h with
  | nil h => exact .nil h
  | cons h1 h2 h3 h4 h5 ih =>
    rename_i p l v kd n x m g ts
    have := TR.cons (p := p + d) h1 h2 h3 h4 (by rw [show p + d + g + m = p + g + m + d by omega]; exact ih)
    simp only [List.map_cons, Tk.shift]
    rw [show ((p + g : Nat) : Int) + (d : Int) = ((p + d + g : Nat) : Int) by omega, show ((p + g + m : Nat) : Int) + (d : Int) = ((p + d + g + m : Nat) : Int) by omega]
    exact this
theorem tokL_TR (tot : Nat) : ∀ (n : Nat) (l : List UInt8) (k : Nat) (ts : List Tk), l.length ≤ n → l.length ≤ tot → k ≤ 2048 → (tokL tot (gapL false l) k = .all ts ↔ TR (tot - l.length) l ts ∧ k + ts.length ≤ 2048) := by
  intro n
  induction n with
  | zero =>
    intro l k ts hn ht hk
    obtain rfl : l = [] := List.length_eq_zero_iff.1 (by omega)
    rw [show gapL false [] = [] from rfl, tokL_nil]
    constructor
    · intro h; cases h; exact ⟨.nil rfl, by simpa using hk⟩
    · rintro ⟨h, _⟩
      cases h with
      | nil => rfl
      | cons h1 h2 => exact absurd h1.symm h2
  | succ n ih =>
    intro l k ts hn ht hk
    by_cases hg : gapL false l = []
    · rw [hg, tokL_nil]
      constructor
      · intro h; cases h; exact ⟨.nil hg, by simpa using hk⟩
      · rintro ⟨h, _⟩
        cases h with
        | nil => rfl
        | cons h1 h2 => exact absurd (h1.symm.trans hg) h2
    · have hlen := gapL_len false l
      rw [tokL_cons tot k hg]
      constructor
      · intro h
        split at h
        · cases h
        rename_i hk8
        cases ho : oneL (gapL false l) with
        | bad e => rw [ho] at h; cases h
        | tok kd x n' m =>
          rw [ho] at h
          dsimp only at h
          have hm := one_len hg ho
          cases hr : tokL tot (gapL false ((gapL false l).drop m)) (k + 1) with
          | bad a e => rw [hr] at h; cases h
          | all us =>
            rw [hr] at h
            simp only [Toks.cons, Toks.all.injEq] at h
            subst h
            have hd : ((gapL false l).drop m).length = (gapL false l).length - m := List.length_drop
            obtain ⟨h1, h2⟩ := (ih ((gapL false l).drop m) (k + 1) us (by omega) (by omega) (by omega)).1 hr
            rw [hd] at h1
            have := TR.cons (p := tot - l.length) (g := l.length - (gapL false l).length) rfl hg (by omega) ho (ts := us) (by
              rw [show tot - l.length + (l.length - (gapL false l).length) + m = tot - ((gapL false l).length - m) by omega]; exact h1)
            rw [show tot - l.length + (l.length - (gapL false l).length) = tot - (gapL false l).length by omega] at this
            exact ⟨this, by simp only [List.length_cons]; omega⟩
      · rintro ⟨h, h8⟩
        cases h with
        | nil h => exact absurd h hg
        | cons h1 h2 h3 h4 h5 =>
          rename_i v kd n' x m g ts
          subst h1
          simp only [List.length_cons] at h8
          have hm := one_len hg h4
          have hd : ((gapL false l).drop m).length = (gapL false l).length - m := List.length_drop
          rw [if_neg (by omega), h4]
          dsimp only
          rw [(ih ((gapL false l).drop m) (k + 1) ts (by omega) (by omega) (by omega)).2 ⟨by
            rw [hd, show tot - ((gapL false l).length - m) = tot - l.length + g + m by omega]; exact h5, by omega⟩]
          simp only [Toks.cons]
          rw [show tot - (gapL false l).length = tot - l.length + g by omega]
theorem tokens_TR (s : List UInt8) (ts : List Tk) : tokens s = .all ts ↔ s.length ≤ 4096 ∧ ts.length ≤ 2048 ∧ TR 0 s ts := by
  rw [tokens_eq]
  by_cases h : 4096 < s.length
  · rw [if_pos h]
    constructor
    · intro h; cases h
    · rintro ⟨h1, _⟩; omega
  · rw [if_neg h, tokL_TR s.length s.length s 0 ts (Nat.le_refl _) (Nat.le_refl _) (by omega), Nat.sub_self]
    constructor
    · rintro ⟨h1, h2⟩; exact ⟨by omega, by omega, h1⟩
    · rintro ⟨_, h2, h1⟩; exact ⟨h1, by omega⟩

/-! ### tokens apart -/
/-- of tokens: where the first one lies, what its bytes say by themselves, and what the others are -/
theorem TR.head {p : Nat} {l : List UInt8} {t : Tk} {ts : List Tk} (h : TR p l (t :: ts)) : ∃ g m : Nat, t.at_ = ((p + g : Nat) : Int) ∧ t.to = ((p + g + m : Nat) : Int) ∧ 1 ≤ m ∧ g + m ≤ l.length ∧ TR (p + g + m) (l.drop (g + m)) ts ∧
    ∃ u, ((l.drop g).take m).length ≤ 4096 → tokens ((l.drop g).take m) = .all [u] ∧ u.sh = t.sh := by
  cases h with
  | cons h1 h2 h3 h4 h5 =>
    rename_i v kd n x m g
    have hm := one_len h2 h4
    have hv : l.drop g = v := by
      have := gapL_drop false l
      rw [h1, h3, Nat.add_sub_cancel] at this; exact this.symm
    refine ⟨g, m, rfl, rfl, hm.1, by omega, ?_, .mk kd x n 0 (m : Nat), fun hl => ⟨?_, rfl⟩⟩
    · rw [← List.drop_drop, hv]; exact h5
    · rw [hv] at hl ⊢
      have hs : solid v := by rw [← h1]; exact gapL_solid l false
      have hloc := (oneL_local h2 h4 (r := []) (fun _ c t e => by cases e)).2.2
      rw [List.append_nil] at hloc
      have hlt : (v.take m).length = m := by rw [List.length_take]; omega
      have hne : v.take m ≠ [] := fun e => by rw [e] at hlt; simp at hlt; omega
      have hs' : solid (v.take m) := by
        have := take_solid hs m [] hm.1 h2
        rwa [List.append_nil] at this
      refine (tokens_TR _ _).2 ⟨hl, by simp, ?_⟩
      have := TR.cons (p := 0) (g := 0) (hs'.gap) hne (by omega) hloc (ts := []) (.nil (by rw [List.drop_eq_nil_of_le (by omega)]; rfl))
      simpa using this

/-! ### gaps -/
/-! ### joins -/
def Toks.shift (d : Nat) : Toks → Toks
  | .bad a e => .bad (a + d) e
  | .all l => .all (l.map (Tk.shift d))
theorem tokL_shift (tot d : Nat) : ∀ (n : Nat) (l : List UInt8) (j k : Nat), l.length ≤ n → l.length ≤ tot → j + l.length ≤ 2048 → k + l.length ≤ 2048 → tokL (tot + d) (gapL false l) j = (tokL tot (gapL false l) k).shift d := by
  intro n
  induction n with
  | zero =>
    intro l j k hn _ _ _
    obtain rfl : l = [] := List.length_eq_zero_iff.1 (by omega)
    rw [show gapL false [] = [] from rfl, tokL_nil, tokL_nil]; rfl
  | succ n ih =>
    intro l j k hn ht hj hk
    by_cases hg : gapL false l = []
    · rw [hg, tokL_nil, tokL_nil]; rfl
    · have hlen := gapL_len false l
      have hpos : 0 < (gapL false l).length := List.length_pos_iff.2 hg
      rw [tokL_cons _ _ hg, tokL_cons _ _ hg, if_neg (by omega), if_neg (by omega)]
      cases ho : oneL (gapL false l) with
      | bad e =>
        simp only [Toks.shift]
        rw [show ((tot + d - (gapL false l).length : Nat) : Int) = ((tot - (gapL false l).length : Nat) : Int) + (d : Int) by omega]
      | tok kd x n' m =>
        have hm := one_len hg ho
        have hd : ((gapL false l).drop m).length = (gapL false l).length - m := List.length_drop
        dsimp only
        rw [ih ((gapL false l).drop m) (j + 1) (k + 1) (by omega) (by omega) (by omega) (by omega)]
        cases tokL tot (gapL false ((gapL false l).drop m)) (k + 1) with
        | bad a e => rfl
        | all us =>
          simp only [Toks.shift, Toks.cons, List.map_cons, Tk.shift]
          rw [show ((tot + d - (gapL false l).length : Nat) : Int) = ((tot - (gapL false l).length : Nat) : Int) + (d : Int) by omega,
            show ((tot + d - (gapL false l).length + m : Nat) : Int) = ((tot - (gapL false l).length + m : Nat) : Int) + (d : Int) by omega]
theorem tokL_join {p : Nat} {s : List UInt8} {ts : List Tk} (h : TR p s ts) (t : List UInt8) : ∀ (k tot : Nat), k + ts.length ≤ 2048 → tot = p + s.length + (t.length + 1) → tokL tot (gapL false (s ++ 10 :: t)) k = (tokL tot (gapL false t) (k + ts.length)).pre ts := by
  induction h with
  | nil h => intro k tot hk ht; rw [gapL_line _ _ h, Toks.pre_nil]; rfl
  | cons h1 h2 h3 h4 h5 ih =>
    rename_i p l v kd n x m g ts
    intro k tot hk ht
    simp only [List.length_cons] at hk
    have hm := one_len h2 h4
    have hgp : gapL false (l ++ 10 :: t) = v ++ 10 :: t := by rw [gapL_app l false (by rw [h1]; exact h2), h1]
    have hsp : v ++ 10 :: t = v.take m ++ (v.drop m ++ 10 :: t) := by rw [← List.append_assoc, List.take_append_drop]
    have hloc := (oneL_local h2 h4 (r := v.drop m ++ 10 :: t) (by
      intro he
      cases hd : v.drop m with
      | nil => intro a b e; cases e; rfl
      | cons c z => rw [hd] at he; intro a b e; exact he a z (by simp only [List.cons_append] at e; cases e; rfl))).2.2
    rw [← hsp] at hloc
    have hne : v ++ 10 :: t ≠ [] := by simp
    have hl : (v ++ 10 :: t).length = v.length + (t.length + 1) := by simp
    rw [hgp, tokL_cons _ _ hne, if_neg (by omega), hloc]
    dsimp only
    have hdr : (v ++ 10 :: t).drop m = v.drop m ++ 10 :: t := List.drop_append_of_le_length hm.2
    rw [hdr, ih (k + 1) tot (by omega) (by rw [List.length_drop]; omega), hl, show tot - (v.length + (t.length + 1)) = p + g by omega]
    rw [show k + (Tk.mk kd x n ((p + g : Nat) : Int) ((p + g + m : Nat) : Int) :: ts).length = k + 1 + ts.length by simp only [List.length_cons]; omega]
    cases tokL tot (gapL false t) (k + 1 + ts.length) <;> rfl
theorem tokens_join {s t : List UInt8} {ts : List Tk} (h : tokens s = .all ts) (hs : s.length ≤ 2000) (ht : t.length ≤ 2000) (hn : ts.length + t.length ≤ 1000) : tokens (s ++ 10 :: t) = ((tokens t).shift (s.length + 1)).pre ts := by
  obtain ⟨_, _, hT⟩ := (tokens_TR s ts).1 h
  have hl : (s ++ 10 :: t).length = t.length + (s.length + 1) := by simp; omega
  rw [tokens_eq, if_neg (by omega), tokens_eq, if_neg (by omega), tokL_join hT t 0 _ (by omega) (by rw [hl]; omega), hl, tokL_shift t.length (s.length + 1) t.length t (0 + ts.length) 0 (Nat.le_refl _) (Nat.le_refl _) (by omega) (by omega)]

/-! ### what texts say -/
theorem escQ_all : ((List.range 256).all fun n => match quoteB (UInt8.ofNat n) with
    | [d] => decide (d = UInt8.ofNat n) && decide (d ≠ 34) && decide (d ≠ 92)
    | 92 :: t => decide (escB t = some (UInt8.ofNat n, t.length)) && decide (1 ≤ t.length)
    | _ => false) = true := by decide +kernel
theorem textB_quote (c : UInt8) (r : List UInt8) : textB (quoteB c ++ r) = (textB r).map fun y => (c :: y.1, y.2) := by
  have h := u8_all (p := fun c => match quoteB c with
    | [d] => decide (d = c) && decide (d ≠ 34) && decide (d ≠ 92)
    | 92 :: t => decide (escB t = some (c, t.length)) && decide (1 ≤ t.length)
    | _ => false) escQ_all c
  split at h
  · rename_i d hq
    simp only [Bool.and_eq_true, decide_eq_true_eq] at h
    obtain ⟨⟨rfl, h1⟩, h2⟩ := h
    rw [hq, List.cons_append, List.nil_append, textB_plain h1 h2]
  · rename_i t _ hq
    simp only [Bool.and_eq_true, decide_eq_true_eq] at h
    rw [hq, List.cons_append, textB_esc]
    have h1 := escB_app h.1 r
    rw [List.take_length] at h1
    rw [h1]
    simp only [Option.bind_some, List.drop_left]
  · cases h
theorem textB_quoted : ∀ (l r : List UInt8), textB (l.flatMap quoteB ++ 34 :: r) = some (l, r)
  | [], r => rfl
  | c :: l, r => by rw [List.flatMap_cons, List.append_assoc, textB_quote, textB_quoted l r]; rfl
/-- a text of one token -/
theorem tokens_one {l : List UInt8} {kd n : Int} {x : List UInt8} (hs : solid l) (hl : l ≠ []) (h : oneL l = .tok kd x n l.length) (h4 : l.length ≤ 4096) : tokens l = .all [.mk kd x n 0 (l.length : Nat)] := by
  refine (tokens_TR _ _).2 ⟨h4, by simp, ?_⟩
  have := TR.cons (p := 0) (g := 0) (hs.gap) hl (by omega) h (ts := []) (.nil (by rw [List.drop_eq_nil_of_le (by omega)]; rfl))
  simpa using this
theorem oneL_quoted (l : List UInt8) : oneL (quotedL l) = .tok 8 l 0 (quotedL l).length := by
  have e : quotedL l = 34 :: (l.flatMap quoteB ++ 34 :: []) := by simp [quotedL]
  rw [e, oneL_cons, if_neg (by decide), if_neg (by decide), if_neg (by decide), if_neg (by decide), if_pos rfl, textB_quoted]
  simp
theorem charT_all : ((List.range 256).all fun n => match tokens (charL (UInt8.ofNat n)) with
    | .all [.mk k t i a b] => decide (k = 7) && decide (t = []) && decide (i = (n : Int)) && decide (a = 0) && decide (b = ((charL (UInt8.ofNat n)).length : Nat))
    | _ => false) = true := by decide +kernel
theorem tokens_char (c : UInt8) : tokens (charL c) = .all [.mk 7 [] (c.toNat : Int) 0 ((charL c).length : Nat)] := by
  have h := List.all_eq_true.1 charT_all c.toNat (List.mem_range.2 c.toNat_lt)
  rw [UInt8.ofNat_toNat] at h
  split at h
  · rename_i k t i a b hq
    simp only [Bool.and_eq_true, decide_eq_true_eq] at h
    obtain ⟨⟨⟨⟨rfl, rfl⟩, rfl⟩, rfl⟩, rfl⟩ := h
    exact hq
  · cases h
theorem nameB_solid {c : UInt8} (h : nameB c = true) : c ≠ 59 ∧ wsB c = false ∧ c ≠ 40 ∧ c ≠ 41 ∧ c ≠ 39 ∧ c ≠ 35 ∧ c ≠ 34 := by
  have := u8_all (p := fun c => !nameB c || (decide (c ≠ 59) && !wsB c && decide (c ≠ 40) && decide (c ≠ 41) && decide (c ≠ 39) && decide (c ≠ 35) && decide (c ≠ 34))) (by decide +kernel) c
  simp only [h, Bool.not_true, Bool.false_or, Bool.and_eq_true, decide_eq_true_eq, Bool.not_eq_true'] at this
  exact ⟨this.1.1.1.1.1.1, this.1.1.1.1.1.2, this.1.1.1.1.2, this.1.1.1.2, this.1.1.2, this.1.2, this.2⟩
theorem tokens_word {w x : List UInt8} {kd n : Int} (hw : w.all nameB = true) (h0 : w ≠ []) (h : wordT w = .tok kd x n w.length) (h4 : w.length ≤ 4096) : tokens w = .all [.mk kd x n 0 (w.length : Nat)] := by
  have hwl : wordL w = w := by
    have := wordL_app hw (r := []) (fun c t e => by cases e)
    rwa [List.append_nil] at this
  cases w with
  | nil => exact absurd rfl h0
  | cons c t =>
    have hc : nameB c = true := by simp only [List.all_cons, Bool.and_eq_true] at hw; exact hw.1
    obtain ⟨a1, a2, a3, a4, a5, a6, a7⟩ := nameB_solid hc
    refine tokens_one (fun d r e => ?_) h0 ?_ h4
    · cases e; exact ⟨a1, a2⟩
    · rw [oneL_cons, if_neg a3, if_neg a4, if_neg a5, if_neg a6, if_neg a7, hwl]; exact h
theorem numI_itoa (n : Int) : numI (Lib.itoa n) = n := by
  unfold Lib.itoa
  split
  · rename_i h
    show -(valL (Lib.decDigits _) : Int) = n
    rw [(val_dec _).1]; omega
  · rename_i h
    obtain ⟨c, r, hc, hd⟩ := dec_head n.toNat
    have hne := digit_not45 hd
    have hv := (val_dec n.toNat).1
    rw [hc] at hv ⊢
    have : numI (c :: r) = valL (c :: r) := by
      unfold numI
      split
      · rename_i e; cases e; exact absurd rfl hne.1
      · rename_i e; cases e; exact absurd rfl hne.2
      · rfl
    rw [this, hv]; omega
theorem tokens_int {n : Int} (h1 : -1152921504606846976 ≤ n) (h2 : n ≤ 1152921504606846975) (h4 : (Lib.itoa n).length ≤ 4096) : tokens (Lib.itoa n) = .all [.mk 6 [] n 0 ((Lib.itoa n).length : Nat)] := by
  obtain ⟨ha, h0⟩ := itoa_name n
  refine tokens_word ha h0 ?_ h4
  have hnum := itoa_num n
  have h46 : Lib.itoa n ≠ [46] := by intro e; rw [e] at hnum; exact absurd hnum (by decide)
  unfold wordT
  rw [if_neg h0, if_neg h46, if_pos hnum, numI_itoa, if_neg (by omega)]
theorem tokens_name {w : List UInt8} (h : nameOk w = true) : tokens w = .all [.mk 9 w 0 0 (w.length : Nat)] := by
  obtain ⟨h0, ha, h46, hn⟩ := name_ne h
  have h64 : w.length ≤ 64 := by
    unfold nameOk at h
    simp only [Bool.and_eq_true, decide_eq_true_eq] at h
    exact h.1.1.2
  refine tokens_word ha h0 ?_ (by omega)
  unfold wordT
  rw [if_neg h0, if_neg h46, hn]
  simp only [Bool.false_eq_true, if_false]
  rw [if_neg (by omega)]
theorem toks_bad0 (tot : Nat) : ∀ (f : Nat) (l : List UInt8) (k : Nat) (a : Int), toks tot f l k ≠ .bad a 0
  | 0, _, _, _ => by simp [toks]
  | f + 1, [], _, _ => by simp [toks]
  | f + 1, c :: l, k, a => by
    intro h
    rw [toks] at h
    · split at h
      · cases h
      · split at h
        · rename_i e ho; cases h; exact oneL_bad0 _ ho
        · rename_i kd x n m ho
          cases hr : toks tot f (gapL false ((c :: l).drop m)) (k + 1) with
          | bad b e => rw [hr] at h; cases h; exact toks_bad0 tot f _ _ _ hr
          | all us => rw [hr] at h; cases h
    · intro e; cases e
theorem tokens_bad0 (s : List UInt8) (a : Int) : tokens s ≠ .bad a 0 := by
  unfold tokens
  split
  · intro h; cases h
  · exact toks_bad0 _ _ _ _ _

theorem toks_at (tot : Nat) : ∀ (f : Nat) (l : List UInt8) (k : Nat) (a e : Int), toks tot f l k = .bad a e → ∃ n : Nat, a = n ∧ n ≤ tot
  | 0, _, _, _, _ => by simp [toks]
  | f + 1, [], _, _, _ => by simp [toks]
  | f + 1, c :: l, k, a, e => by
    intro h
    rw [toks] at h
    · split at h
      · cases h; exact ⟨_, rfl, by omega⟩
      · split at h
        · cases h; exact ⟨_, rfl, by omega⟩
        · rename_i kd x n m ho
          cases hr : toks tot f (gapL false ((c :: l).drop m)) (k + 1) with
          | bad b e => rw [hr] at h; cases h; exact toks_at tot f _ _ _ _ hr
          | all us => rw [hr] at h; cases h
    · intro e; cases e
theorem tokens_at {s : List UInt8} {a e : Int} (h : tokens s = .bad a e) : ∃ n : Nat, a = n ∧ n ≤ s.length := by
  unfold tokens at h
  split at h
  · cases h; exact ⟨0, rfl, by omega⟩
  · exact toks_at _ _ _ _ _ _ h
/-- a token's cells -/
abbrev Tk.vs (t : Tk) : List Value := [.int .i64 t.kind, txt t.text, .int .i64 t.int, .int .i64 t.at_, .int .i64 t.to]
end Go.Proofs.YtlnmmakbgldflaaGreatDoor.Vc

