import Derived.Test.YtlnmmakbgldflaaGreatDoorDt
import Derived.Test.YtlnmmakbgldflaaGreatDoorWh
import Derived.Test.YtlnmmakbgldflaaGreatDoorWi
set_option linter.unusedSimpArgs false
set_option linter.unusedVariables false
set_option maxRecDepth 100000
/-
  SIGN: what the tokens of bytes are: plain functions. No program in sight.
-/
namespace Go.Proofs.YtlnmmakbgldflaaGreatDoor.Vc
open Go

/-- a token -/
inductive Tk where
  | mk (kind : Int) (text : List UInt8) (int at_ to : Int)
  deriving DecidableEq
def Tk.kind : Tk → Int
  | .mk k _ _ _ _ => k
def Tk.text : Tk → List UInt8
  | .mk _ t _ _ _ => t
def Tk.int : Tk → Int
  | .mk _ _ n _ _ => n
def Tk.at_ : Tk → Int
  | .mk _ _ _ a _ => a
def Tk.to : Tk → Int
  | .mk _ _ _ _ b => b
def Tk.pv : Tk → List PV
  | .mk k t n a b => [.int .i64 k, .str t, .int .i64 n, .int .i64 a, .int .i64 b]
instance encTk : Enc Tk := ⟨Tk.pv, 5, fun t => by cases t; rfl⟩
theorem Tk.Rep_iff {H : PH} {t : Tk} {cs : List Value} : CsR H t cs ↔ cs = [.int .i64 t.kind, txt t.text, .int .i64 t.int, .int .i64 t.at_, .int .i64 t.to] ∧ InI t.kind ∧ t.text.length ≤ maxLen ∧ InI t.int ∧ InI t.at_ ∧ InI t.to := by
  obtain ⟨k, x, n, a, b⟩ := t
  show PV.RepRow H (Tk.pv _) cs ↔ _
  simp only [Tk.pv, PV.RepRow, Tk.kind, Tk.int, Tk.text, Tk.at_, Tk.to]
  constructor
  · rintro ⟨v1, vs1, rfl, h1, v2, vs2, rfl, h2, v3, vs3, rfl, h3, v4, vs4, rfl, h4, v5, vs5, rfl, h5, rfl⟩
    simp only [PV.Rep] at h1 h2 h3 h4 h5
    obtain ⟨rfl, h1⟩ := h1
    obtain ⟨rfl, h2⟩ := h2
    obtain ⟨rfl, h3⟩ := h3
    obtain ⟨rfl, h4⟩ := h4
    obtain ⟨rfl, h5⟩ := h5
    exact ⟨rfl, inI64.1 h1, h2, inI64.1 h3, inI64.1 h4, inI64.1 h5⟩
  · rintro ⟨rfl, h1, h2, h3, h4, h5⟩
    refine ⟨_, _, rfl, ?_, _, _, rfl, ?_, _, _, rfl, ?_, _, _, rfl, ?_, _, _, rfl, ?_, rfl⟩ <;> simp only [PV.Rep]
    · exact ⟨trivial, inI64.2 h1⟩
    · exact ⟨trivial, h2⟩
    · exact ⟨trivial, inI64.2 h3⟩
    · exact ⟨trivial, inI64.2 h4⟩
    · exact ⟨trivial, inI64.2 h5⟩

/-- a blank -/
def wsB (c : UInt8) : Bool := c == 9 || c == 10 || c == 13 || c == 32
/-- behind what is gone over; within a remark or not -/
def gapL : Bool → List UInt8 → List UInt8
  | _, [] => []
  | true, c :: l => gapL (c != 10) l
  | false, c :: l => if c = 59 then gapL true l else if wsB c then gapL false l else c :: l
/-- the word ahead -/
def wordL (l : List UInt8) : List UInt8 := l.takeWhile nameB
/-- a digit of base sixteen -/
def sixtI (c : UInt8) : Int := if digitI c.toNat then (c.toNat : Int) - 48 else if 97 ≤ c ∧ c ≤ 102 then (c.toNat : Int) - 87 else if 65 ≤ c ∧ c ≤ 70 then (c.toNat : Int) - 55 else -1
def twoI : List UInt8 → Int
  | a :: b :: _ => if sixtI a < 0 ∨ sixtI b < 0 then -1 else 16 * sixtI a + sixtI b
  | _ => -1
/-- the character that is called so -/
def charI (s : List UInt8) : Int :=
  match s with
  | [c] => c.toNat
  | [115, 112, 97, 99, 101] => 32
  | [110, 101, 119, 108, 105, 110, 101] => 10
  | [120, a, b] => twoI [a, b]
  | _ => -1
/-- a token ahead: what is wrong, or its kind, text, number, and how many bytes it has -/
inductive One where
  | bad (e : Int)
  | tok (kind : Int) (text : List UInt8) (int : Int) (n : Nat)
def hashL (r : List UInt8) : One :=
  match r with
  | 40 :: _ => .tok 2 [] 0 2
  | 92 :: c :: r => let w := if wordL (c :: r) = [] then [c] else wordL (c :: r)
      if charI w < 0 then .bad 31 else .tok 7 [] (charI w) (2 + w.length)
  | r => if wordL r = [116] then .tok 5 [] 1 2 else if wordL r = [102] then .tok 5 [] 0 2 else .bad 31
/-- what a string says, and what is left behind it -/
def textB : List UInt8 → Option (List UInt8 × List UInt8)
  | [] => none
  | 34 :: r => some ([], r)
  | 92 :: 34 :: r => (textB r).map fun x => (34 :: x.1, x.2)
  | 92 :: 92 :: r => (textB r).map fun x => (92 :: x.1, x.2)
  | 92 :: 110 :: r => (textB r).map fun x => (10 :: x.1, x.2)
  | 92 :: 120 :: a :: b :: r => if twoI [a, b] < 0 then none else (textB r).map fun x => (UInt8.ofNat (twoI [a, b]).toNat :: x.1, x.2)
  | 92 :: _ => none
  | c :: r => (textB r).map fun x => (c :: x.1, x.2)
/-- the number that a word says -/
def numI : List UInt8 → Int
  | 45 :: l => -(valL l : Int)
  | 43 :: l => valL l
  | l => valL l
def wordT (w : List UInt8) : One :=
  if w = [] then .bad 30 else if w = [46] then .tok 4 [] 0 1 else if numB w then (if numI w < -1152921504606846976 ∨ 1152921504606846975 < numI w then .bad 33 else .tok 6 [] (numI w) w.length)
  else if 64 < w.length then .bad 36 else .tok 9 w 0 w.length
def oneL (l : List UInt8) : One :=
  match l with
  | 40 :: _ => .tok 0 [] 0 1
  | 41 :: _ => .tok 1 [] 0 1
  | 39 :: _ => .tok 3 [] 0 1
  | 35 :: r => hashL r
  | 34 :: r => match textB r with
    | none => .bad 32
    | some (x, s) => .tok 8 x 0 (l.length - s.length)
  | _ => wordT (wordL l)
inductive Toks where
  | bad (at_ : Int) (e : Int)
  | all (l : List Tk)
def Toks.cons (t : Tk) : Toks → Toks
  | .bad a e => .bad a e
  | .all l => .all (t :: l)
/-- the tokens of what is left of so many bytes, so many being there ahead -/
def toks (tot : Nat) : Nat → List UInt8 → Nat → Toks
  | 0, _, _ => .all []
  | _ + 1, [], _ => .all []
  | f + 1, l, k => if k = 2048 then .bad (tot - l.length : Nat) 34 else match oneL l with
    | .bad e => .bad (tot - l.length : Nat) e
    | .tok kd x n m => (toks tot f (gapL false (l.drop m)) (k + 1)).cons (.mk kd x n (tot - l.length : Nat) (tot - l.length + m : Nat))
def tokens (s : List UInt8) : Toks := if 4096 < s.length then .bad 0 35 else toks s.length (s.length + 1) (gapL false s) 0
end Go.Proofs.YtlnmmakbgldflaaGreatDoor.Vc
/-
  SIGN: the document's answer: words, gaps, digits of base sixteen.
-/
namespace Go.Proofs.YtlnmmakbgldflaaGreatDoor.Vc
open Go

theorem takeWhile_at {p : UInt8 → Bool} : ∀ {l : List UInt8} {n : Nat}, (l.take n).all p = true → n ≤ l.length → (∀ c, l[n]? = some c → p c = false) → l.takeWhile p = l.take n
  | [], n, _, _, _ => by simp
  | c :: l, 0, _, _, h => by
    have := h c rfl
    simp [this]
  | c :: l, n + 1, h1, h2, h3 => by
    simp only [List.take_succ_cons, List.all_cons, Bool.and_eq_true] at h1
    simp only [List.takeWhile_cons, h1.1, if_true, List.take_succ_cons]
    rw [takeWhile_at h1.2 (by simpa using h2) (fun c hc => h3 c (by simpa using hc))]
theorem wordL_at {l : List UInt8} {n : Nat} (h1 : (l.take n).all nameB = true) (h2 : n ≤ l.length) (h3 : ∀ c, l[n]? = some c → nameB c = false) : wordL l = l.take n := takeWhile_at h1 h2 h3
theorem wordL_take (l : List UInt8) : l.take (wordL l).length = wordL l := by
  unfold wordL
  induction l with
  | nil => rfl
  | cons c l ih =>
    simp only [List.takeWhile_cons]
    split
    · simp [ih]
    · simp
theorem wordL_le (l : List UInt8) : (wordL l).length ≤ l.length := by
  have := congrArg List.length (wordL_take l)
  simp only [List.length_take] at this
  omega
theorem wordL_all (l : List UInt8) : (wordL l).all nameB = true := by simp [wordL]
/-- the byte at a place -/
theorem ev_sidx {E : List Value} {s : List UInt8} {a i : SV} {k : Nat} {c : UInt8} (ha : ev E (fun _ => 0) a = txt s) (hi : iOf (ev E (fun _ => 0) i) = (k : Int)) (hc : s[k]? = some c) : ev E (fun _ => 0) (.sidx a i) = .int .u8 (c.toNat : Int) := by
  show Value.int .u8 (((sOf (ev E (fun _ => 0) a))[(iOf (ev E (fun _ => 0) i)).toNat]?).getD 0).toNat = _
  rw [ha, hi]
  simp only [sOf, get_txt hc]
theorem inStr_of {E : List Value} {s : List UInt8} {a i : SV} {k : Nat} (ha : ev E (fun _ => 0) a = txt s) (hi : iOf (ev E (fun _ => 0) i) = (k : Int)) (hk : k < s.length) : Chk.holds E (.inStr a i) := by
  show 0 ≤ iOf (ev E (fun _ => 0) i) ∧ iOf (ev E (fun _ => 0) i) < ((sOf (ev E (fun _ => 0) a)).size : Int)
  rw [ha, hi]
  simp only [sOf, txt_size]; omega
theorem plus {a b : Nat} (h : a + b ≤ 9223372036854775807) : IntKind.i64.wrap ((a : Int) + (b : Int)) = ((a + b : Nat) : Int) := by rw [w64 (by omega) (by omega)]; omega
theorem plus1 {a : Nat} (h : a < 9223372036854775807) : IntKind.i64.wrap ((a : Int) + 1) = ((a + 1 : Nat) : Int) := by rw [w64 (by omega) (by omega)]; omega
theorem plus2 {a : Nat} (h : a < 9223372036854775806) : IntKind.i64.wrap ((a : Int) + 2) = ((a + 2 : Nat) : Int) := by rw [w64 (by omega) (by omega)]; omega

theorem gapL_len : ∀ (b : Bool) (l : List UInt8), (gapL b l).length ≤ l.length
  | _, [] => by simp [gapL]
  | true, c :: l => by
    have := gapL_len (c != 10) l
    simp only [gapL, List.length_cons]; omega
  | false, c :: l => by
    simp only [gapL]
    split
    · have := gapL_len true l
      simp only [List.length_cons]; omega
    split
    · have := gapL_len false l
      simp only [List.length_cons]; omega
    · simp
theorem drop_cons {α : Type} {l : List α} {k : Nat} {a : α} (h : l[k]? = some a) : l.drop k = a :: l.drop (k + 1) := drop_get h
theorem sixtI_le (c : UInt8) : -1 ≤ sixtI c ∧ sixtI c ≤ 15 := by
  have := u8_all (p := fun c => decide (-1 ≤ sixtI c) && decide (sixtI c ≤ 15)) (by decide +kernel) c
  simpa using this
end Go.Proofs.YtlnmmakbgldflaaGreatDoor.Vc
/-
  SIGN: the document's answer: what begins with the sign of a hash.
-/
namespace Go.Proofs.YtlnmmakbgldflaaGreatDoor.Vc
open Go

/-- a token ahead, as the calls give it -/
def One.vs : One → List Value
  | .bad e => [.int .i64 0, txt [], .int .i64 0, .int .i64 0, .int .i64 0, .int .i64 0, .int .i64 e]
  | .tok kd x n m => [.int .i64 kd, txt x, .int .i64 n, .int .i64 0, .int .i64 0, .int .i64 (m : Nat), .int .i64 0]
def One.val : One → Value
  | .bad e => .tuple #[.agg #[.int .i64 0, txt [], .int .i64 0, .int .i64 0, .int .i64 0], .int .i64 0, .int .i64 e]
  | .tok kd x n m => .tuple #[.agg #[.int .i64 kd, txt x, .int .i64 n, .int .i64 0, .int .i64 0], .int .i64 (m : Nat), .int .i64 0]
theorem charI_eq (w : List UInt8) : charI w = if w.length = 1 then ((w.getD 0 0).toNat : Int) else if w = [115, 112, 97, 99, 101] then 32 else if w = [110, 101, 119, 108, 105, 110, 101] then 10 else if w.length = 3 ∧ w.getD 0 0 = 120 then twoI (w.drop 1) else -1 := by
  unfold charI
  split
  · simp
  · simp
  · simp
  · simp
  · rename_i h1 h2 h3 h4
    have e1 : ¬ w.length = 1 := fun h => by
      match w, h with
      | [c], _ => exact h1 c rfl
    rw [if_neg e1, if_neg (fun h => h2 h), if_neg (fun h => h3 h)]
    have e4 : ¬ (w.length = 3 ∧ w.getD 0 0 = 120) := by
      rintro ⟨h, h'⟩
      match w, h, h' with
      | [a, b, c], _, h' =>
        simp at h'; subst h'; exact h4 b c rfl
    rw [if_neg e4]
end Go.Proofs.YtlnmmakbgldflaaGreatDoor.Vc
/-
  SIGN: the document's answer: a string.
-/
namespace Go.Proofs.YtlnmmakbgldflaaGreatDoor.Vc
open Go

/-- what stands behind a backslash: a byte, and how many bytes it is -/
def escB : List UInt8 → Option (UInt8 × Nat)
  | [] => none
  | d :: r => if d = 34 ∨ d = 92 then some (d, 1) else if d = 110 then some (10, 1) else if d = 120 ∧ 0 ≤ twoI r then some (UInt8.ofNat (twoI r).toNat, 3) else none
theorem textB_nil : textB [] = none := rfl
theorem textB_end (r : List UInt8) : textB (34 :: r) = some ([], r) := rfl
theorem textB_esc (r : List UInt8) : textB (92 :: r) = (escB r).bind fun x => (textB (r.drop x.2)).map fun y => (x.1 :: y.1, y.2) := by
  match r with
  | [] => rfl
  | d :: r =>
    simp only [escB]
    by_cases h1 : d = 34
    · subst h1; rfl
    by_cases h2 : d = 92
    · subst h2; rfl
    rw [if_neg (by simp [h1, h2])]
    by_cases h3 : d = 110
    · subst h3; rfl
    rw [if_neg h3]
    by_cases h4 : d = 120
    · subst h4
      match r with
      | [] => rfl
      | [a] => rfl
      | a :: b :: r =>
        have e : twoI (a :: b :: r) = twoI [a, b] := rfl
        rw [e]
        simp only [textB, true_and]
        by_cases h5 : twoI [a, b] < 0
        · rw [if_pos h5, if_neg (by omega)]; rfl
        · rw [if_neg h5, if_pos (by omega)]; rfl
    · rw [if_neg (by simp [h4]), textB.eq_def]
      split <;> simp_all
theorem textB_plain {c : UInt8} (h1 : c ≠ 34) (h2 : c ≠ 92) (r : List UInt8) : textB (c :: r) = (textB r).map fun y => (c :: y.1, y.2) := by
  rw [textB.eq_def]
  split <;> simp_all
/-- bytes that grew, made a text -/
theorem wpS_accText {P : Program} {H0 H : PH} {e B S : TypeId} {out : List UInt8} {v : Value} {Φ : Value → PH → Prop} {Ψ : Value → PH → Prop} (hB : P.underlying B = some (.slice e)) (hS : P.underlying S = some .string) (he : P.underlying e = some (.int .u8)) (h : Acc H0 H e out v) (hk : Φ (txt out) H) :
    wpS P (convert B S v) Φ Ψ H := by
  rcases (SlR.mk_iff.1 h.slR).2 with ⟨rfl, rfl⟩ | ⟨g, c', rfl, h3, h4, h5⟩
  · exact wpS_toText_nil hB hS he hk
  · refine wpS_toText hB hS he (fun j x hj => ?_) hk
    obtain ⟨xs, g1, g2, g3⟩ := RepRows.cells h5
    refine g3 j x ?_
    have key : ∀ (l : List UInt8) (xs : List Value), PV.RepRow H (l.flatMap pv) xs → xs = l.map encB := by
      intro l
      induction l with
      | nil => intro xs h; simpa [PV.RepRow] using h
      | cons a l ih =>
        intro xs h
        rw [List.flatMap_cons] at h
        have h' : PV.RepRow H (.int .u8 (a.toNat : Int) :: l.flatMap pv) xs := h
        simp only [PV.RepRow, PV.Rep] at h'
        obtain ⟨v, vs, rfl, ⟨rfl, _⟩, h2⟩ := h'
        rw [ih vs h2]; rfl
    rw [key _ _ g1]; exact hj
theorem den_accText {P : Program} {X : List PanicEntry → PH → Prop} {β : Type} {H0 H : PH} {E : List Value} {L : LK} {K : β → List Value → PH → LK → Prop} {e B S ty : TypeId} {x : Operand} {args : List (Nat × VE)} {k : Fm β} {out : List UInt8} {v : Value}
    (hB : P.underlying B = some (.slice e)) (hS : P.underlying S = some .string) (he : P.underlying e = some (.int .u8)) (hx : argEv E args x = v) (h : Acc H0 H e out v) (hk : den P X k (E ++ [txt out]) H L K) : den P X (.sem (.convert B S x) ty args (.sc .str) [] k) E H L K := by
  show wpS P (execOp (argEv E args) (bare _ ty)) _ _ H
  rw [exec_convert, hx]
  exact wpS_accText hB hS he h ⟨[_], rfl, rfl, pendNil, hk⟩
/-- one byte behind bytes -/
theorem den_byte {X : List PanicEntry → PH → Prop} {β : Type} {H0 H : PH} {E : List Value} {L : LK} {K : β → List Value → PH → LK → Prop} {ty ty2 : TypeId} {ps : Operand} {args args2 : List (Nat × VE)} {x y : Operand} {k : Fm β} {out : List UInt8} {v : Value} (c : UInt8)
    (hps : argEv E args ps = encB c) (hacc : Acc H0 H 5 out v) (hx : ∀ u, argEv (E ++ [u]) args2 x = v) (hy : ∀ u, argEv (E ++ [u]) args2 y = u) (hl : out.length ≤ 1099511627776)
    (hk : ∀ u v' H', Acc H0 H' 5 (out ++ [c]) v' → den Tryz.prog X k (E ++ [u] ++ [v']) H' L K) :
    den Tryz.prog X (.sem (.buildSlice 39 1 #[(0, ps)]) ty args (.sc .sl) [] (.sem (.call ⟨.builtin .append, #[x, y], #[39, 39]⟩) ty2 args2 (.sc .sl) [] k)) E H L K := by
  refine den_push (more := [c]) (b := 1) (H0 := H0) (e := 5) (l := out) (v := v) [encB c] uBytes elemByte rfl (by decide) (by decide) ?_ (.cons ?_ .nil) pendNil hacc hx hy (by simp only [maxLen, List.length_cons, List.length_nil]; omega) (by simp; omega) fun u v' H' g3 g4 => ⟨pendNil, hk u v' H' g3⟩
  · simp only [List.map_cons, List.map_nil, hps, idxs]
  · have := txt_row (H := delV v H) [c]
    simp only [List.flatMap_cons, List.flatMap_nil, List.append_nil] at this
    exact this

def textOne (s : List UInt8) (k : Nat) : One := match textB (s.drop (k + 1)) with
  | none => .bad 32
  | some (x, r) => .tok 8 x 0 (s.length - k - r.length)
end Go.Proofs.YtlnmmakbgldflaaGreatDoor.Vc
/-
  SIGN: the document's answer: numbers, words, a token, all tokens.
-/
namespace Go.Proofs.YtlnmmakbgldflaaGreatDoor.Vc
open Go

/-- the digits of a number, and whether a sign stands ahead -/
def numDs (s : List UInt8) : List UInt8 := s.drop (if signB s then 1 else 0)
def lowB (s : List UInt8) : Bool := s.getD 0 0 == 45
theorem numI_eq (s : List UInt8) : numI s = if lowB s then -(valL (numDs s) : Int) else valL (numDs s) := by
  unfold numI
  split
  · rfl
  · rename_i l; rfl
  · rename_i h1 h2
    match s with
    | [] => rfl
    | c :: l =>
      have a : c ≠ 45 := fun h => h1 l (by rw [h])
      have b : c ≠ 43 := fun h => h2 l (by rw [h])
      have : signB (c :: l) = false := by simp [signB, a, b]
      have hl : lowB (c :: l) = false := by simp [lowB, a]
      rw [hl]
      simp only [numDs, this, Bool.false_eq_true, if_false, List.drop_zero]
end Go.Proofs.YtlnmmakbgldflaaGreatDoor.Vc
/-
  SIGN: the document's answer: a token, all tokens.
-/
namespace Go.Proofs.YtlnmmakbgldflaaGreatDoor.Vc
open Go

abbrev zeroTk : Value := .agg #[.int .i64 0, txt [], .int .i64 0, .int .i64 0, .int .i64 0]
theorem oneL_cons (c : UInt8) (r : List UInt8) : oneL (c :: r) = if c = 40 then .tok 0 [] 0 1 else if c = 41 then .tok 1 [] 0 1 else if c = 39 then .tok 3 [] 0 1 else if c = 35 then hashL r else if c = 34 then (match textB r with | none => .bad 32 | some (x, s) => .tok 8 x 0 (r.length + 1 - s.length)) else wordT (wordL (c :: r)) := by
  unfold oneL
  split
  · simp_all
  · simp_all
  · simp_all
  · simp_all
  · rename_i h; simp only [List.cons.injEq] at h; obtain ⟨rfl, rfl⟩ := h; rfl
  · rename_i h1 h2 h3 h4 h5
    rw [if_neg (fun x => h1 r (by rw [x])), if_neg (fun x => h2 r (by rw [x])), if_neg (fun x => h3 r (by rw [x])), if_neg (fun x => h4 r (by rw [x])), if_neg (fun x => h5 r (by rw [x]))]
def One.ok (o : One) (v : Value) : Prop := match o with
  | .bad e => ∃ n : Int, v = .tuple #[zeroTk, .int .i64 n, .int .i64 e]
  | .tok kd x n m => v = .tuple #[.agg #[.int .i64 kd, txt x, .int .i64 n, .int .i64 0, .int .i64 0], .int .i64 (m : Nat), .int .i64 0]
def One.row (o : One) (vs : List Value) : Prop := match o with
  | .bad e => ∃ n : Int, vs = [.int .i64 0, txt [], .int .i64 0, .int .i64 0, .int .i64 0, .int .i64 n, .int .i64 e]
  | .tok kd x n m => vs = [.int .i64 kd, txt x, .int .i64 n, .int .i64 0, .int .i64 0, .int .i64 (m : Nat), .int .i64 0]
/-! ### all tokens -/
theorem textB_len : ∀ (n : Nat) (l x r : List UInt8), l.length ≤ n → textB l = some (x, r) → r.length + 1 ≤ l.length
  | 0, l, x, r, hl, h => by
    have : l = [] := List.length_eq_zero_iff.1 (by omega)
    subst this; cases h
  | n + 1, [], x, r, _, h => by cases h
  | n + 1, c :: l, x, r, hl, h => by
    simp only [List.length_cons] at hl ⊢
    by_cases h1 : c = 34
    · subst h1; rw [textB_end] at h; cases h; omega
    by_cases h2 : c = 92
    · subst h2
      rw [textB_esc] at h
      obtain ⟨y, h3, h4⟩ := Option.bind_eq_some_iff.1 h
      obtain ⟨z, h5, h6⟩ := Option.map_eq_some_iff.1 h4
      cases h6
      have := textB_len n (l.drop y.2) z.1 z.2 (by simp; omega) h5
      simp at this; omega
    · rw [textB_plain h1 h2] at h
      obtain ⟨z, h5, h6⟩ := Option.map_eq_some_iff.1 h
      cases h6
      have := textB_len n l z.1 z.2 (by omega) h5
      omega
theorem one_len {l : List UInt8} {kd n : Int} {x : List UInt8} {m : Nat} (hl : l ≠ []) (h : oneL l = .tok kd x n m) : 1 ≤ m ∧ m ≤ l.length := by
  cases l with
  | nil => exact absurd rfl hl
  | cons c r =>
    rw [oneL_cons] at h
    simp only [List.length_cons]
    split at h
    · cases h; omega
    split at h
    · cases h; omega
    split at h
    · cases h; omega
    split at h
    · unfold hashL at h
      split at h
      · cases h; simp
      · rename_i d r'
        have hw := wordL_le (d :: r')
        simp only [List.length_cons] at hw
        dsimp only at h
        have hwl : (if wordL (d :: r') = [] then [d] else wordL (d :: r')).length ≤ r'.length + 1 := by
          split
          · simp
          · exact hw
        generalize (if wordL (d :: r') = [] then [d] else wordL (d :: r')) = w at h hwl
        split at h
        · cases h
        · cases h
          simp only [List.length_cons]; omega
      · have hw := wordL_le r
        split at h
        · rename_i hx; cases h; rw [hx] at hw; simp at hw; omega
        split at h
        · rename_i hx; cases h; rw [hx] at hw; simp at hw; omega
        · cases h
    split at h
    · split at h
      · cases h
      · rename_i y s hx
        cases h
        have := textB_len _ _ _ _ (Nat.le_refl _) hx
        omega
    · have hw := wordL_le (c :: r)
      simp only [List.length_cons] at hw
      generalize wordL (c :: r) = w at h hw
      unfold wordT at h
      split at h
      · cases h
      rename_i hne
      have hpos : 0 < w.length := List.length_pos_iff.2 hne
      split at h
      · rename_i hx; cases h; omega
      split at h
      · split at h
        · cases h
        · cases h; omega
      split at h
      · cases h
      · cases h; omega
theorem toks_fuel (tot : Nat) : ∀ (n : Nat) (l : List UInt8) (f g k : Nat), l.length ≤ n → l.length < f → l.length < g → toks tot f l k = toks tot g l k
  | n, [], f, g, k, _, hf, hg => by
    obtain ⟨f, rfl⟩ : ∃ f', f = f' + 1 := ⟨f - 1, by omega⟩
    obtain ⟨g, rfl⟩ : ∃ g', g = g' + 1 := ⟨g - 1, by omega⟩
    rfl
  | 0, c :: r, f, g, k, h, _, _ => by simp at h
  | n + 1, c :: r, f, g, k, h, hf, hg => by
    obtain ⟨f, rfl⟩ : ∃ f', f = f' + 1 := ⟨f - 1, by omega⟩
    obtain ⟨g, rfl⟩ : ∃ g', g = g' + 1 := ⟨g - 1, by omega⟩
    simp only [toks]
    split
    · rfl
    cases ho : oneL (c :: r) with
    | bad e => rfl
    | tok kd x i m =>
      have hm := one_len (by simp) ho
      have hg1 := gapL_len false ((c :: r).drop m)
      simp only [List.length_drop, List.length_cons] at hg1 hm h hf hg
      simp only
      rw [toks_fuel tot n _ f g (k + 1) (by omega) (by omega) (by omega)]
/-- the tokens of what is left -/
def tokL (tot : Nat) (l : List UInt8) (k : Nat) : Toks := toks tot (l.length + 1) l k
theorem tokL_nil (tot k : Nat) : tokL tot [] k = .all [] := rfl
theorem tokL_cons (tot k : Nat) {l : List UInt8} (hl : l ≠ []) : tokL tot l k = if k = 2048 then .bad (tot - l.length : Nat) 34 else match oneL l with
    | .bad e => .bad (tot - l.length : Nat) e
    | .tok kd x n m => (tokL tot (gapL false (l.drop m)) (k + 1)).cons (.mk kd x n (tot - l.length : Nat) (tot - l.length + m : Nat)) := by
  cases l with
  | nil => exact absurd rfl hl
  | cons c r =>
    unfold tokL
    simp only [toks]
    split
    · rfl
    cases ho : oneL (c :: r) with
    | bad e => rfl
    | tok kd x i m =>
      have hm := one_len (by simp) ho
      have hg1 := gapL_len false ((c :: r).drop m)
      simp only [List.length_drop, List.length_cons] at hg1 hm
      simp only [List.length_cons]
      rw [toks_fuel tot _ _ (r.length + 1) ((gapL false ((c :: r).drop m)).length + 1) (k + 1) (Nat.le_refl _) (by omega) (by omega)]
theorem tokens_eq (s : List UInt8) : tokens s = if 4096 < s.length then .bad 0 35 else tokL s.length (gapL false s) 0 := by
  unfold tokens
  split
  · rfl
  · have := gapL_len false s
    exact toks_fuel _ _ _ _ _ _ (Nat.le_refl _) (by omega) (by omega)
end Go.Proofs.YtlnmmakbgldflaaGreatDoor.Vc
/-
  SIGN: the document's answer: all tokens; when two rows of them are the same, or alike.
-/
namespace Go.Proofs.YtlnmmakbgldflaaGreatDoor.Vc
open Go

def Toks.list : Toks → List Tk
  | .bad _ _ => []
  | .all l => l
def Toks.at_ : Toks → Int
  | .bad a _ => a
  | .all _ => 0
def Toks.err : Toks → Int
  | .bad _ e => e
  | .all _ => 0
def Toks.pre (out : List Tk) : Toks → Toks
  | .bad a e => .bad a e
  | .all l => .all (out ++ l)
theorem Toks.pre_nil (t : Toks) : t.pre [] = t := by cases t <;> rfl
theorem Toks.pre_cons (out : List Tk) (x : Tk) (t : Toks) : (t.cons x).pre out = t.pre (out ++ [x]) := by cases t <;> simp [Toks.cons, Toks.pre]
/-- a call that tells tokens -/
def GivesT (f : FuncId) (args : List Value) (H : PH) (t : Toks) : Prop := Tri Tryz.prog f args.toArray H fun e H' => ∃ v, e = .returned (.tuple #[v, .int .i64 t.at_, .int .i64 t.err]) ∧ SlR H' t.list v ∧ PH.le H H'
theorem gapL_drop : ∀ (b : Bool) (l : List UInt8), gapL b l = l.drop (l.length - (gapL b l).length)
  | _, [] => by simp [gapL]
  | true, c :: l => by
    have h1 := gapL_len (c != 10) l
    have h2 := gapL_drop (c != 10) l
    simp only [gapL, List.length_cons]
    rw [show l.length + 1 - (gapL (c != 10) l).length = (l.length - (gapL (c != 10) l).length) + 1 by omega, List.drop_succ_cons]; exact h2
  | false, c :: l => by
    simp only [gapL]
    split
    · have h1 := gapL_len true l
      have h2 := gapL_drop true l
      simp only [List.length_cons]
      rw [show l.length + 1 - (gapL true l).length = (l.length - (gapL true l).length) + 1 by omega, List.drop_succ_cons]; exact h2
    split
    · have h1 := gapL_len false l
      have h2 := gapL_drop false l
      simp only [List.length_cons]
      rw [show l.length + 1 - (gapL false l).length = (l.length - (gapL false l).length) + 1 by omega, List.drop_succ_cons]; exact h2
    · simp
theorem gap_at {s : List UInt8} {k : Nat} (hk : k ≤ s.length) (b : Bool) : s.drop (s.length - (gapL b (s.drop k)).length) = gapL b (s.drop k) := by
  have h1 := gapL_len b (s.drop k)
  conv => rhs; rw [gapL_drop b (s.drop k), List.drop_drop]
  congr 1
  rw [List.length_drop] at h1 ⊢
  omega
theorem uToks : Tryz.prog.underlying 42 = some (.slice 54) := by kernel_rfl
theorem elemTk : ElemOk Tryz.prog 54 5 48 = true := by kernel_rfl
theorem one_bounds {l : List UInt8} {kd n : Int} {x : List UInt8} {m : Nat} (hl : l ≠ []) (hll : l.length ≤ 1099511627776) (h : oneL l = .tok kd x n m) : 0 ≤ kd ∧ kd ≤ 9 ∧ x.length ≤ l.length ∧ -1152921504606846976 ≤ n ∧ n ≤ 1152921504606846975 := by
  cases l with
  | nil => exact absurd rfl hl
  | cons c r =>
    rw [oneL_cons] at h
    simp only [List.length_cons] at hll ⊢
    split at h
    · cases h; simp
    split at h
    · cases h; simp
    split at h
    · cases h; simp
    split at h
    · unfold hashL at h
      split at h
      · cases h; simp
      · rename_i d r'
        dsimp only at h
        generalize (if wordL (d :: r') = [] then [d] else wordL (d :: r')) = w at h
        split at h
        · cases h
        · cases h
          have hc : -1 ≤ charI w ∧ charI w ≤ 255 := by
            rw [charI_eq]
            have := UInt8.toNat_lt (w.getD 0 0)
            split
            · omega
            split
            · omega
            split
            · omega
            split
            · unfold twoI
              split
              · rename_i a b _ _
                have x := sixtI_le a
                have y := sixtI_le b
                split <;> omega
              · omega
            · omega
          refine ⟨by omega, by omega, by simp, by omega, by omega⟩
      · split at h
        · cases h; simp
        split at h
        · cases h; simp
        · cases h
    split at h
    · split at h
      · cases h
      · rename_i y s hx
        cases h
        have key : ∀ (n : Nat) (l x r : List UInt8), l.length ≤ n → textB l = some (x, r) → x.length ≤ l.length := by
          intro n
          induction n with
          | zero =>
            intro l x r hl h
            have : l = [] := List.length_eq_zero_iff.1 (by omega)
            subst this; cases h
          | succ n ih =>
            intro l x r hl h
            cases l with
            | nil => cases h
            | cons c l =>
              simp only [List.length_cons] at hl ⊢
              by_cases h1 : c = 34
              · subst h1; rw [textB_end] at h; cases h; simp
              by_cases h2 : c = 92
              · subst h2
                rw [textB_esc] at h
                obtain ⟨y, h3, h4⟩ := Option.bind_eq_some_iff.1 h
                obtain ⟨z, h5, h6⟩ := Option.map_eq_some_iff.1 h4
                cases h6
                have := ih (l.drop y.2) z.1 z.2 (by simp; omega) h5
                simp at this ⊢; omega
              · rw [textB_plain h1 h2] at h
                obtain ⟨z, h5, h6⟩ := Option.map_eq_some_iff.1 h
                cases h6
                have := ih l z.1 z.2 (by omega) h5
                simp; omega
        have := key _ _ _ _ (Nat.le_refl _) hx
        exact ⟨by omega, by omega, by omega, by omega, by omega⟩
    · have hw := wordL_le (c :: r)
      simp only [List.length_cons] at hw
      generalize wordL (c :: r) = w at h hw
      unfold wordT at h
      split at h
      · cases h
      split at h
      · cases h; simp
      split at h
      · split at h
        · cases h
        · cases h; simp; omega
      split at h
      · cases h
      · cases h; exact ⟨by omega, by omega, hw, by omega, by omega⟩
end Go.Proofs.YtlnmmakbgldflaaGreatDoor.Vc
/-
  SIGN: when two rows of tokens are the same, or alike.
-/
namespace Go.Proofs.YtlnmmakbgldflaaGreatDoor.Vc
open Go

/-- a token but for its place -/
def Tk.sh (t : Tk) : Int × List UInt8 × Int := (t.kind, t.text, t.int)
end Go.Proofs.YtlnmmakbgldflaaGreatDoor.Vc

