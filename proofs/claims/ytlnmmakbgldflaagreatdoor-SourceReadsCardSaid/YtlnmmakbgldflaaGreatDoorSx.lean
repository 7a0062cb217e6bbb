import Derived.Test.YtlnmmakbgldflaaGreatDoorDt
import Derived.Test.YtlnmmakbgldflaaGreatDoorWh
import Derived.Test.YtlnmmakbgldflaaGreatDoorWi
set_option linter.unusedSimpArgs false
set_option linter.unusedVariables false
set_option maxRecDepth 100000
/-
  SIGN: what the tokens of bytes are: plain functions. No program in sight.
-/
namespace Go.Proofs.YtlnmmakbgldflaaGreatDoor.Vc
open Go

/-- a token -/
inductive Tk where
  | mk (kind : Int) (text : List UInt8) (int at_ to : Int)
  deriving DecidableEq
def Tk.kind : Tk → Int
  | .mk k _ _ _ _ => k
def Tk.text : Tk → List UInt8
  | .mk _ t _ _ _ => t
def Tk.int : Tk → Int
  | .mk _ _ n _ _ => n
def Tk.at_ : Tk → Int
  | .mk _ _ _ a _ => a
def Tk.to : Tk → Int
  | .mk _ _ _ _ b => b
def Tk.pv : Tk → List PV
  | .mk k t n a b => [.int .i64 k, .str t, .int .i64 n, .int .i64 a, .int .i64 b]
instance encTk : Enc Tk := ⟨Tk.pv, 5, fun t => by cases t; rfl⟩
theorem Tk.Rep_iff {H : PH} {t : Tk} {cs : List Value} : CsR H t cs ↔ cs = [.int .i64 t.kind, txt t.text, .int .i64 t.int, .int .i64 t.at_, .int .i64 t.to] ∧ InI t.kind ∧ t.text.length ≤ maxLen ∧ InI t.int ∧ InI t.at_ ∧ InI t.to := by
  obtain ⟨k, x, n, a, b⟩ := t
  show PV.RepRow H (Tk.pv _) cs ↔ _
  simp only [Tk.pv, PV.RepRow, Tk.kind, Tk.int, Tk.text, Tk.at_, Tk.to]
  constructor
  · rintro ⟨v1, vs1, rfl, h1, v2, vs2, rfl, h2, v3, vs3, rfl, h3, v4, vs4, rfl, h4, v5, vs5, rfl, h5, rfl⟩
    simp only [PV.Rep] at h1 h2 h3 h4 h5
    obtain ⟨rfl, h1⟩ := h1
    obtain ⟨rfl, h2⟩ := h2
    obtain ⟨rfl, h3⟩ := h3
    obtain ⟨rfl, h4⟩ := h4
    obtain ⟨rfl, h5⟩ := h5
    exact ⟨rfl, inI64.1 h1, h2, inI64.1 h3, inI64.1 h4, inI64.1 h5⟩
  · rintro ⟨rfl, h1, h2, h3, h4, h5⟩
    refine ⟨_, _, rfl, ?_, _, _, rfl, ?_, _, _, rfl, ?_, _, _, rfl, ?_, _, _, rfl, ?_, rfl⟩ <;> simp only [PV.Rep]
    · exact ⟨trivial, inI64.2 h1⟩
    · exact ⟨trivial, h2⟩
    · exact ⟨trivial, inI64.2 h3⟩
    · exact ⟨trivial, inI64.2 h4⟩
    · exact ⟨trivial, inI64.2 h5⟩

/-- a blank -/
def wsB (c : UInt8) : Bool := c == 9 || c == 10 || c == 13 || c == 32
/-- behind what is gone over; within a remark or not -/
def gapL : Bool → List UInt8 → List UInt8
  | _, [] => []
  | true, c :: l => gapL (c != 10) l
  | false, c :: l => if c = 59 then gapL true l else if wsB c then gapL false l else c :: l
/-- the word ahead -/
def wordL (l : List UInt8) : List UInt8 := l.takeWhile nameB
/-- a digit of base sixteen -/
def sixtI (c : UInt8) : Int := if digitI c.toNat then (c.toNat : Int) - 48 else if 97 ≤ c ∧ c ≤ 102 then (c.toNat : Int) - 87 else if 65 ≤ c ∧ c ≤ 70 then (c.toNat : Int) - 55 else -1
def twoI : List UInt8 → Int
  | a :: b :: _ => if sixtI a < 0 ∨ sixtI b < 0 then -1 else 16 * sixtI a + sixtI b
  | _ => -1
/-- the character that is called so -/
def charI (s : List UInt8) : Int :=
  match s with
  | [c] => c.toNat
  | [115, 112, 97, 99, 101] => 32
  | [110, 101, 119, 108, 105, 110, 101] => 10
  | [120, a, b] => twoI [a, b]
  | _ => -1
/-- a token ahead: what is wrong, or its kind, text, number, and how many bytes it has -/
inductive One where
  | bad (e : Int)
  | tok (kind : Int) (text : List UInt8) (int : Int) (n : Nat)
def hashL (r : List UInt8) : One :=
  match r with
  | 40 :: _ => .tok 2 [] 0 2
  | 92 :: c :: r => let w := if wordL (c :: r) = [] then [c] else wordL (c :: r)
      if charI w < 0 then .bad 31 else .tok 7 [] (charI w) (2 + w.length)
  | r => if wordL r = [116] then .tok 5 [] 1 2 else if wordL r = [102] then .tok 5 [] 0 2 else .bad 31
/-- what a string says, and what is left behind it -/
def textB : List UInt8 → Option (List UInt8 × List UInt8)
  | [] => none
  | 34 :: r => some ([], r)
  | 92 :: 34 :: r => (textB r).map fun x => (34 :: x.1, x.2)
  | 92 :: 92 :: r => (textB r).map fun x => (92 :: x.1, x.2)
  | 92 :: 110 :: r => (textB r).map fun x => (10 :: x.1, x.2)
  | 92 :: 120 :: a :: b :: r => if twoI [a, b] < 0 then none else (textB r).map fun x => (UInt8.ofNat (twoI [a, b]).toNat :: x.1, x.2)
  | 92 :: _ => none
  | c :: r => (textB r).map fun x => (c :: x.1, x.2)
/-- the number that a word says -/
def numI : List UInt8 → Int
  | 45 :: l => -(valL l : Int)
  | 43 :: l => valL l
  | l => valL l
def wordT (w : List UInt8) : One :=
  if w = [] then .bad 30 else if w = [46] then .tok 4 [] 0 1 else if numB w then (if numI w < -1152921504606846976 ∨ 1152921504606846975 < numI w then .bad 33 else .tok 6 [] (numI w) w.length)
  else if 64 < w.length then .bad 36 else .tok 9 w 0 w.length
def oneL (l : List UInt8) : One :=
  match l with
  | 40 :: _ => .tok 0 [] 0 1
  | 41 :: _ => .tok 1 [] 0 1
  | 39 :: _ => .tok 3 [] 0 1
  | 35 :: r => hashL r
  | 34 :: r => match textB r with
    | none => .bad 32
    | some (x, s) => .tok 8 x 0 (l.length - s.length)
  | _ => wordT (wordL l)
inductive Toks where
  | bad (at_ : Int) (e : Int)
  | all (l : List Tk)
def Toks.cons (t : Tk) : Toks → Toks
  | .bad a e => .bad a e
  | .all l => .all (t :: l)
/-- the tokens of what is left of so many bytes, so many being there ahead -/
def toks (tot : Nat) : Nat → List UInt8 → Nat → Toks
  | 0, _, _ => .all []
  | _ + 1, [], _ => .all []
  | f + 1, l, k => if k = 2048 then .bad (tot - l.length : Nat) 34 else match oneL l with
    | .bad e => .bad (tot - l.length : Nat) e
    | .tok kd x n m => (toks tot f (gapL false (l.drop m)) (k + 1)).cons (.mk kd x n (tot - l.length : Nat) (tot - l.length + m : Nat))
def tokens (s : List UInt8) : Toks := if 4096 < s.length then .bad 0 35 else toks s.length (s.length + 1) (gapL false s) 0
end Go.Proofs.YtlnmmakbgldflaaGreatDoor.Vc
/-
  SIGN: the document's answer: words, gaps, digits of base sixteen.
-/
namespace Go.Proofs.YtlnmmakbgldflaaGreatDoor.Vc
open Go

theorem takeWhile_at {p : UInt8 → Bool} : ∀ {l : List UInt8} {n : Nat}, (l.take n).all p = true → n ≤ l.length → (∀ c, l[n]? = some c → p c = false) → l.takeWhile p = l.take n
  | [], n, _, _, _ => by simp
  | c :: l, 0, _, _, h => by
    have := h c rfl
    simp [this]
  | c :: l, n + 1, h1, h2, h3 => by
    simp only [List.take_succ_cons, List.all_cons, Bool.and_eq_true] at h1
    simp only [List.takeWhile_cons, h1.1, if_true, List.take_succ_cons]
    rw [takeWhile_at h1.2 (by simpa using h2) (fun c hc => h3 c (by simpa using hc))]
theorem wordL_at {l : List UInt8} {n : Nat} (h1 : (l.take n).all nameB = true) (h2 : n ≤ l.length) (h3 : ∀ c, l[n]? = some c → nameB c = false) : wordL l = l.take n := takeWhile_at h1 h2 h3
theorem wordL_take (l : List UInt8) : l.take (wordL l).length = wordL l := by
  unfold wordL
  induction l with
  | nil => rfl
  | cons c l ih =>
    simp only [List.takeWhile_cons]
    split
    · simp [ih]
    · simp
theorem wordL_le (l : List UInt8) : (wordL l).length ≤ l.length := by
  have := congrArg List.length (wordL_take l)
  simp only [List.length_take] at this
  omega
theorem wordL_all (l : List UInt8) : (wordL l).all nameB = true := by simp [wordL]
/-- the byte at a place -/
theorem ev_sidx {E : List Value} {s : List UInt8} {a i : SV} {k : Nat} {c : UInt8} (ha : ev E (fun _ => 0) a = txt s) (hi : iOf (ev E (fun _ => 0) i) = (k : Int)) (hc : s[k]? = some c) : ev E (fun _ => 0) (.sidx a i) = .int .u8 (c.toNat : Int) := by
  show Value.int .u8 (((sOf (ev E (fun _ => 0) a))[(iOf (ev E (fun _ => 0) i)).toNat]?).getD 0).toNat = _
  rw [ha, hi]
  simp only [sOf, get_txt hc]
theorem inStr_of {E : List Value} {s : List UInt8} {a i : SV} {k : Nat} (ha : ev E (fun _ => 0) a = txt s) (hi : iOf (ev E (fun _ => 0) i) = (k : Int)) (hk : k < s.length) : Chk.holds E (.inStr a i) := by
  show 0 ≤ iOf (ev E (fun _ => 0) i) ∧ iOf (ev E (fun _ => 0) i) < ((sOf (ev E (fun _ => 0) a)).size : Int)
  rw [ha, hi]
  simp only [sOf, txt_size]; omega
theorem plus {a b : Nat} (h : a + b ≤ 9223372036854775807) : IntKind.i64.wrap ((a : Int) + (b : Int)) = ((a + b : Nat) : Int) := by rw [w64 (by omega) (by omega)]; omega
theorem plus1 {a : Nat} (h : a < 9223372036854775807) : IntKind.i64.wrap ((a : Int) + 1) = ((a + 1 : Nat) : Int) := by rw [w64 (by omega) (by omega)]; omega
theorem plus2 {a : Nat} (h : a < 9223372036854775806) : IntKind.i64.wrap ((a : Int) + 2) = ((a + 2 : Nat) : Int) := by rw [w64 (by omega) (by omega)]; omega

theorem Word_gives (s : List UInt8) (k : Nat) (hs : s.length ≤ 1152921504606846976) (hk : k ≤ s.length) (H : PH) : Gives Tryz.prog n_scrimshawref03_Word [txt s, .int .i64 k] H (.int .i64 ((wordL (s.drop k)).length : Nat)) := by
  refine tri_scrimshawref03_Word [txt s, .int .i64 k] (by kernel_rfl) (by kernel_rfl) ?_
  refine ⟨fun m vs H' => ∃ n : Nat, vs = [.int .i64 n] ∧ k + n + m = s.length ∧ ((s.drop k).take n).all nameB = true ∧ PH.le H H', ⟨s.length - k, 0, rfl, by omega, by simp, PH.le_refl H⟩, ?_⟩
  rintro m vs H' _ ⟨n, rfl, hm, hall, hle⟩
  have hp := plus (a := k) (b := n) (by omega)
  have hn1 := plus1 (a := n) (by omega)
  refine ⟨fun vs H2 => ∃ b : Bool, vs = [.bool b] ∧ (b = true → ∃ c, s[k + n]? = some c ∧ nameB c = true) ∧ (b = false → ∀ c, s[k + n]? = some c → nameB c = false) ∧ PH.le H H2, ?_, ?_⟩
  · rintro vs H2 _ ⟨b, rfl, h1, h2, hl2⟩
    refine ⟨fun hb => ?_, fun hb => ?_⟩
    · have hb : b = true := hb
      obtain ⟨c, hc, hcn⟩ := h1 hb
      have hlt : k + n < s.length := (List.getElem?_eq_some_iff.1 hc).1
      refine ⟨_, lookup_hit, m - 1, by omega, n + 1, ?_, by omega, ?_, hl2⟩
      · simp only [ev0, ev, evV, List.cons_append, List.nil_append, List.getD_cons_zero, List.getD_cons_succ, List.map_cons, List.map_nil, iOf, bOf, sOf, pOf, slLen, slBase, cmpI, arI, Value.ite_bool, int_beq, int_bne, ite_band, ite_bor, hn1]
      · rw [List.take_add_one, List.getElem?_drop, hc, List.all_append, hall]
        simp [hcn]
    · have hb : b = false := hb
      refine ⟨?_, hl2⟩
      rw [wordL_at hall (by simp; omega) (fun c hc => h2 hb c (by rw [List.getElem?_drop] at hc; exact hc))]
      simp only [ev0, ev, evV, List.cons_append, List.nil_append, List.getD_cons_zero, List.getD_cons_succ, List.map_cons, List.map_nil, iOf, bOf, sOf, pOf, slLen, slBase, cmpI, arI, Value.ite_bool, int_beq, int_bne, ite_band, ite_bor, List.length_take, List.length_drop]
      congr 3; omega
  · refine ⟨fun hg => ?_, fun h5 => ?_, fun h5 => ?_⟩
    · have := hg _ (List.mem_singleton.2 rfl)
      simp only [ev0, ev, evV, List.cons_append, List.nil_append, List.getD_cons_zero, List.getD_cons_succ, List.map_cons, List.map_nil, iOf, bOf, sOf, pOf, slLen, slBase, cmpI, arI, Value.ite_bool, int_beq, int_bne, ite_band, ite_bor, hp, txt_size] at this
      have hlt : k + n < s.length := by simp at this; omega
      exact inStr_of rfl (by simp only [ev0, ev, evV, List.cons_append, List.nil_append, List.getD_cons_zero, List.getD_cons_succ, List.map_cons, List.map_nil, iOf, bOf, sOf, pOf, slLen, slBase, cmpI, arI, Value.ite_bool, int_beq, int_bne, ite_band, ite_bor, hp]) hlt
    · simp only [ev0, ev, evV, List.cons_append, List.nil_append, List.getD_cons_zero, List.getD_cons_succ, List.map_cons, List.map_nil, iOf, bOf, sOf, pOf, slLen, slBase, cmpI, arI, Value.ite_bool, int_beq, int_bne, ite_band, ite_bor, hp, txt_size, decide_eq_true_eq] at h5
      obtain ⟨c, hc⟩ : ∃ c, s[k + n]? = some c := ⟨_, List.getElem?_eq_getElem (by omega)⟩
      refine den_gives [.bool (nameB c)] cb_scrimshawref02_Byte ?_ rfl pendNil fun H3 h3 => ⟨_, lookup_hit, nameB c, rfl, fun hb => ⟨c, hc, hb⟩, fun hb c' hc' => ?_, PH.le_trans hle h3⟩
      · have := Byte_gives c H'
        simp only [List.map_cons, List.map_nil, evV]
        rw [ev_sidx (s := s) (k := k + n) rfl (by simp only [ev0, ev, evV, List.cons_append, List.nil_append, List.getD_cons_zero, List.getD_cons_succ, List.map_cons, List.map_nil, iOf, bOf, sOf, pOf, slLen, slBase, cmpI, arI, Value.ite_bool, int_beq, int_bne, ite_band, ite_bor, hp]) hc]
        exact this
      · rw [hc] at hc'; cases hc'; exact hb
    · simp only [ev0, ev, evV, List.cons_append, List.nil_append, List.getD_cons_zero, List.getD_cons_succ, List.map_cons, List.map_nil, iOf, bOf, sOf, pOf, slLen, slBase, cmpI, arI, Value.ite_bool, int_beq, int_bne, ite_band, ite_bor, hp, txt_size, decide_eq_false_iff_not] at h5
      refine ⟨_, lookup_hit, false, rfl, (fun hb => by cases hb), fun _ c hc => ?_, hle⟩
      rw [List.getElem?_eq_none (by omega)] at hc; cases hc

theorem gapL_len : ∀ (b : Bool) (l : List UInt8), (gapL b l).length ≤ l.length
  | _, [] => by simp [gapL]
  | true, c :: l => by
    have := gapL_len (c != 10) l
    simp only [gapL, List.length_cons]; omega
  | false, c :: l => by
    simp only [gapL]
    split
    · have := gapL_len true l
      simp only [List.length_cons]; omega
    split
    · have := gapL_len false l
      simp only [List.length_cons]; omega
    · simp
theorem drop_cons {α : Type} {l : List α} {k : Nat} {a : α} (h : l[k]? = some a) : l.drop k = a :: l.drop (k + 1) := drop_get h
theorem gap_gives (s : List UInt8) (k : Nat) (hs : s.length ≤ 1152921504606846976) (hk : k ≤ s.length) (H : PH) : Gives Tryz.prog n_scrimshawref03_gap [txt s, .int .i64 k] H (.int .i64 ((s.length - (gapL false (s.drop k)).length : Nat) : Int)) := by
  refine tri_scrimshawref03_gap [txt s, .int .i64 k] (by kernel_rfl) (by kernel_rfl) ?_
  refine ⟨fun vs H' => vs = [.int .i64 ((s.length - (gapL false (s.drop k)).length : Nat) : Int)] ∧ PH.le H H', ?_, ?_⟩
  · rintro vs H' _ ⟨rfl, h⟩; exact ⟨rfl, h⟩
  refine ⟨fun m vs H' => ∃ j : Nat, vs = [.int .i64 j] ∧ j + m = s.length ∧ gapL false (s.drop j) = gapL false (s.drop k) ∧ PH.le H H', ⟨s.length - k, k, rfl, by omega, rfl, PH.le_refl H⟩, ?_⟩
  rintro m vs H' _ ⟨j, rfl, hm, hg, hle⟩
  have hj1 := plus1 (a := j) (by omega)
  refine ⟨fun h5 => ?_, fun h5 => ?_⟩
  · simp only [ev0, ev, evV, List.cons_append, List.nil_append, List.getD_cons_zero, List.getD_cons_succ, List.map_cons, List.map_nil, iOf, bOf, sOf, pOf, slLen, slBase, cmpI, arI, Value.ite_bool, int_beq, int_bne, ite_band, ite_bor, txt_size, decide_eq_true_eq] at h5
    obtain ⟨c, hc⟩ : ∃ c, s[j]? = some c := ⟨_, List.getElem?_eq_getElem (by omega)⟩
    have hgc := get_txt hc
    have hd := drop_get hc
    have e59 : ((c.toNat : Int) = 59) ↔ c = 59 := u8_eq_lit c 59 (by omega)
    have e9 : ((c.toNat : Int) = 9) ↔ c = 9 := u8_eq_lit c 9 (by omega)
    have e10 : ((c.toNat : Int) = 10) ↔ c = 10 := u8_eq_lit c 10 (by omega)
    have e13 : ((c.toNat : Int) = 13) ↔ c = 13 := u8_eq_lit c 13 (by omega)
    have e32 : ((c.toNat : Int) = 32) ↔ c = 32 := u8_eq_lit c 32 (by omega)
    refine ⟨fun _ => inStr_of rfl rfl (by omega), fun h6 => ?_, fun h6 => ?_⟩
    · simp only [ev0, ev, evV, List.cons_append, List.nil_append, List.getD_cons_zero, List.getD_cons_succ, List.map_cons, List.map_nil, iOf, bOf, sOf, pOf, slLen, slBase, cmpI, arI, Value.ite_bool, int_beq, int_bne, ite_band, ite_bor, hgc, decide_eq_true_eq] at h6
      have h6 := e59.1 h6
      subst h6
      have hgj : gapL false (s.drop j) = gapL true (s.drop (j + 1)) := by rw [hd]; simp [gapL]
      refine ⟨fun n vs H2 => ∃ i : Nat, vs = [.int .i64 i] ∧ i + n = s.length ∧ j ≤ i ∧ gapL true (s.drop i) = gapL false (s.drop j) ∧ PH.le H H2, ⟨s.length - j, j, rfl, by omega, Nat.le_refl _, by rw [hd]; simp [gapL], hle⟩, ?_⟩
      rintro n vs H2 _ ⟨i, rfl, hn, hji, hgi, hle2⟩
      have hi1 := plus1 (a := i) (by omega)
      refine ⟨fun hg' => ?_, fun h7 => ?_, fun h7 => ?_⟩
      · have := hg' _ (List.mem_singleton.2 rfl)
        simp only [ev0, ev, evV, List.cons_append, List.nil_append, List.getD_cons_zero, List.getD_cons_succ, List.map_cons, List.map_nil, iOf, bOf, sOf, pOf, slLen, slBase, cmpI, arI, Value.ite_bool, int_beq, int_bne, ite_band, ite_bor, txt_size] at this
        exact inStr_of rfl rfl (by simp at this; omega)
      · simp only [ev0, ev, evV, List.cons_append, List.nil_append, List.getD_cons_zero, List.getD_cons_succ, List.map_cons, List.map_nil, iOf, bOf, sOf, pOf, slLen, slBase, cmpI, arI, Value.ite_bool, int_beq, int_bne, ite_band, ite_bor, txt_size] at h7
        simp only [Bool.and_eq_true, decide_eq_true_eq] at h7
        obtain ⟨e, he⟩ : ∃ e, s[i]? = some e := ⟨_, List.getElem?_eq_getElem (by omega)⟩
        have h7' := h7.2
        rw [get_txt he] at h7'
        have hne : e ≠ 10 := fun x => h7' (by rw [x]; rfl)
        refine ⟨_, lookup_hit, n - 1, by omega, i + 1, ?_, by omega, by omega, ?_, hle2⟩
        · simp only [ev0, ev, evV, List.cons_append, List.nil_append, List.getD_cons_zero, List.getD_cons_succ, List.map_cons, List.map_nil, iOf, bOf, sOf, pOf, slLen, slBase, cmpI, arI, Value.ite_bool, int_beq, int_bne, ite_band, ite_bor, hi1]
        · have hb : (e != 10) = true := by simpa using hne
          rw [← hgi, drop_get he]; simp only [gapL, hb]
      · simp only [ev0, ev, evV, List.cons_append, List.nil_append, List.getD_cons_zero, List.getD_cons_succ, List.map_cons, List.map_nil, iOf, bOf, sOf, pOf, slLen, slBase, cmpI, arI, Value.ite_bool, int_beq, int_bne, ite_band, ite_bor, txt_size] at h7
        simp only [Bool.and_eq_false_iff, decide_eq_false_iff_not] at h7
        have hend : i = s.length ∨ s[i]? = some 10 := by
          rcases Nat.lt_or_ge i s.length with x | x
          · right
            obtain ⟨e, he⟩ : ∃ e, s[i]? = some e := ⟨_, List.getElem?_eq_getElem x⟩
            rw [get_txt he] at h7
            rcases h7 with h7 | h7
            · exact absurd (by omega) h7
            · have : (e.toNat : Int) = 10 := by omega
              rw [he, (u8_eq_lit e 10 (by omega)).1 this]; rfl
          · left; omega
        have hij : j < i := by
          rcases Nat.lt_or_ge j i with x | x
          · exact x
          · have : i = j := by omega
            subst this
            rcases hend with y | y
            · omega
            · rw [hc] at y; simp at y
        refine ⟨_, rfl, m - (i - j), by omega, i, rfl, by omega, ?_, hle2⟩
        rw [← hg, ← hgi]
        rcases hend with y | y
        · rw [y, List.drop_length]; simp [gapL]
        · rw [drop_get y]; simp [gapL, wsB]
    · simp only [ev0, ev, evV, List.cons_append, List.nil_append, List.getD_cons_zero, List.getD_cons_succ, List.map_cons, List.map_nil, iOf, bOf, sOf, pOf, slLen, slBase, cmpI, arI, Value.ite_bool, int_beq, int_bne, ite_band, ite_bor, hgc, decide_eq_false_iff_not] at h6
      have h6' : ¬ c = 59 := fun x => h6 (e59.2 x)
      refine ⟨fun h7 => ?_, fun h7 => ?_⟩
      · simp only [ev0, ev, evV, List.cons_append, List.nil_append, List.getD_cons_zero, List.getD_cons_succ, List.map_cons, List.map_nil, iOf, bOf, sOf, pOf, slLen, slBase, cmpI, arI, Value.ite_bool, int_beq, int_bne, ite_band, ite_bor, hgc] at h7
        have hw : wsB c = true := by
          simp only [wsB, Bool.or_eq_true, beq_iff_eq]
          simp only [Bool.or_eq_true, decide_eq_true_eq, e9, e10, e13, e32] at h7
          exact h7
        refine ⟨_, lookup_hit, m - 1, by omega, j + 1, ?_, by omega, ?_, hle⟩
        · simp only [ev0, ev, evV, List.cons_append, List.nil_append, List.getD_cons_zero, List.getD_cons_succ, List.map_cons, List.map_nil, iOf, bOf, sOf, pOf, slLen, slBase, cmpI, arI, Value.ite_bool, int_beq, int_bne, ite_band, ite_bor, hj1]
        · rw [← hg, hd]; simp [gapL, h6', hw]
      · simp only [ev0, ev, evV, List.cons_append, List.nil_append, List.getD_cons_zero, List.getD_cons_succ, List.map_cons, List.map_nil, iOf, bOf, sOf, pOf, slLen, slBase, cmpI, arI, Value.ite_bool, int_beq, int_bne, ite_band, ite_bor, hgc] at h7
        have hw : wsB c = false := by
          simp only [wsB, Bool.or_eq_false_iff, beq_eq_false_iff_ne]
          simp only [Bool.or_eq_false_iff, decide_eq_false_iff_not, e9, e10, e13, e32] at h7
          exact h7
        refine ⟨_, rfl, ?_, hle⟩
        rw [← hg, hd]
        simp only [gapL, h6', hw, if_false, Bool.false_eq_true, List.length_cons, List.length_drop, ev0, ev, evV, List.cons_append, List.nil_append, List.getD_cons_zero, List.getD_cons_succ, List.map_cons, List.map_nil, iOf, bOf, sOf, pOf, slLen, slBase, cmpI, arI, Value.ite_bool, int_beq, int_bne, ite_band, ite_bor]
        congr 2; omega
  · simp only [ev0, ev, evV, List.cons_append, List.nil_append, List.getD_cons_zero, List.getD_cons_succ, List.map_cons, List.map_nil, iOf, bOf, sOf, pOf, slLen, slBase, cmpI, arI, Value.ite_bool, int_beq, int_bne, ite_band, ite_bor, txt_size, decide_eq_false_iff_not] at h5
    refine ⟨_, rfl, ?_, hle⟩
    have : j = s.length := by omega
    subst this
    rw [← hg, List.drop_length]
    simp only [gapL, List.length_nil, ev0, ev, evV, List.cons_append, List.nil_append, List.getD_cons_zero, List.getD_cons_succ, List.map_cons, List.map_nil, iOf, bOf, sOf, pOf, slLen, slBase, cmpI, arI, Value.ite_bool, int_beq, int_bne, ite_band, ite_bor]
    rfl

theorem sixteen_gives (c : UInt8) (H : PH) : Gives Tryz.prog n_scrimshawref03_sixteen [.int .u8 c.toNat] H (.int .i64 (sixtI c)) := by
  refine tri_scrimshawref03_sixteen [.int .u8 c.toNat] (by kernel_rfl) (by kernel_rfl) ?_
  have hc := UInt8.toNat_lt c
  have hcv : IntKind.i64.wrap (c.toNat : Int) = (c.toNat : Int) := w64 (by omega) (by omega)
  have a1 := UInt8.le_iff_toNat_le (a := 97) (b := c)
  have a2 := UInt8.le_iff_toNat_le (a := c) (b := 102)
  have b1 := UInt8.le_iff_toNat_le (a := 65) (b := c)
  have b2 := UInt8.le_iff_toNat_le (a := c) (b := 70)
  have t1 : (97 : UInt8).toNat = 97 := rfl
  have t2 : (102 : UInt8).toNat = 102 := rfl
  have t3 : (65 : UInt8).toNat = 65 := rfl
  have t4 : (70 : UInt8).toNat = 70 := rfl
  rw [t1] at a1
  rw [t2] at a2
  rw [t3] at b1
  rw [t4] at b2
  have hdg : digitI c.toNat = true ↔ 48 ≤ c.toNat ∧ c.toNat ≤ 57 := by
    unfold digitI
    by_cases h : (48 : Int) ≤ (c.toNat : Int)
    · rw [if_pos h, decide_eq_true_eq]; omega
    · rw [if_neg h]; simp; omega
  refine ⟨fun h => ?_, fun h => ⟨fun h2 => ?_, fun h2 => ⟨fun h3 => ?_, fun h3 => ?_⟩⟩⟩
  · simp only [ev0, ev, evV, List.cons_append, List.nil_append, List.getD_cons_zero, List.getD_cons_succ, List.map_cons, List.map_nil, iOf, bOf, sOf, pOf, slLen, slBase, cmpI, arI, Value.ite_bool, int_beq, int_bne, ite_band, ite_bor] at h
    simp only [Bool.and_eq_true, decide_eq_true_eq] at h
    refine ⟨?_, PH.le_refl H⟩
    rw [sixtI, if_pos (hdg.2 (by omega))]
    simp only [ev0, ev, evV, List.cons_append, List.nil_append, List.getD_cons_zero, List.getD_cons_succ, List.map_cons, List.map_nil, iOf, bOf, sOf, pOf, slLen, slBase, cmpI, arI, Value.ite_bool, int_beq, int_bne, ite_band, ite_bor, hcv]
    rw [w64 (by omega) (by omega)]
  all_goals
    simp only [ev0, ev, evV, List.cons_append, List.nil_append, List.getD_cons_zero, List.getD_cons_succ, List.map_cons, List.map_nil, iOf, bOf, sOf, pOf, slLen, slBase, cmpI, arI, Value.ite_bool, int_beq, int_bne, ite_band, ite_bor] at h
    simp only [Bool.and_eq_false_iff, decide_eq_false_iff_not] at h
    have hd' : ¬ digitI c.toNat = true := fun x => by have := hdg.1 x; omega
  · simp only [ev0, ev, evV, List.cons_append, List.nil_append, List.getD_cons_zero, List.getD_cons_succ, List.map_cons, List.map_nil, iOf, bOf, sOf, pOf, slLen, slBase, cmpI, arI, Value.ite_bool, int_beq, int_bne, ite_band, ite_bor] at h2
    simp only [Bool.and_eq_true, decide_eq_true_eq] at h2
    refine ⟨?_, PH.le_refl H⟩
    rw [sixtI, if_neg hd', if_pos ⟨a1.2 (by omega), a2.2 (by omega)⟩]
    simp only [ev0, ev, evV, List.cons_append, List.nil_append, List.getD_cons_zero, List.getD_cons_succ, List.map_cons, List.map_nil, iOf, bOf, sOf, pOf, slLen, slBase, cmpI, arI, Value.ite_bool, int_beq, int_bne, ite_band, ite_bor, hcv]
    rw [w64 (n := (c.toNat : Int) - 97) (by omega) (by omega), w64 (by omega) (by omega)]
    congr 2; omega
  all_goals
    simp only [ev0, ev, evV, List.cons_append, List.nil_append, List.getD_cons_zero, List.getD_cons_succ, List.map_cons, List.map_nil, iOf, bOf, sOf, pOf, slLen, slBase, cmpI, arI, Value.ite_bool, int_beq, int_bne, ite_band, ite_bor] at h2
    simp only [Bool.and_eq_false_iff, decide_eq_false_iff_not] at h2
    have h2' : ¬ (97 ≤ c ∧ c ≤ 102) := fun x => by have := a1.1 x.1; have := a2.1 x.2; omega
  · simp only [ev0, ev, evV, List.cons_append, List.nil_append, List.getD_cons_zero, List.getD_cons_succ, List.map_cons, List.map_nil, iOf, bOf, sOf, pOf, slLen, slBase, cmpI, arI, Value.ite_bool, int_beq, int_bne, ite_band, ite_bor] at h3
    simp only [Bool.and_eq_true, decide_eq_true_eq] at h3
    refine ⟨?_, PH.le_refl H⟩
    rw [sixtI, if_neg hd', if_neg h2', if_pos ⟨b1.2 (by omega), b2.2 (by omega)⟩]
    simp only [ev0, ev, evV, List.cons_append, List.nil_append, List.getD_cons_zero, List.getD_cons_succ, List.map_cons, List.map_nil, iOf, bOf, sOf, pOf, slLen, slBase, cmpI, arI, Value.ite_bool, int_beq, int_bne, ite_band, ite_bor, hcv]
    rw [w64 (n := (c.toNat : Int) - 65) (by omega) (by omega), w64 (by omega) (by omega)]
    congr 2; omega
  · simp only [ev0, ev, evV, List.cons_append, List.nil_append, List.getD_cons_zero, List.getD_cons_succ, List.map_cons, List.map_nil, iOf, bOf, sOf, pOf, slLen, slBase, cmpI, arI, Value.ite_bool, int_beq, int_bne, ite_band, ite_bor] at h3
    simp only [Bool.and_eq_false_iff, decide_eq_false_iff_not] at h3
    have h3' : ¬ (65 ≤ c ∧ c ≤ 70) := fun x => by have := b1.1 x.1; have := b2.1 x.2; omega
    refine ⟨?_, PH.le_refl H⟩
    rw [sixtI, if_neg hd', if_neg h2', if_neg h3']; rfl
theorem sixtI_le (c : UInt8) : -1 ≤ sixtI c ∧ sixtI c ≤ 15 := by
  have := u8_all (p := fun c => decide (-1 ≤ sixtI c) && decide (sixtI c ≤ 15)) (by decide +kernel) c
  simpa using this
theorem two_gives (s : List UInt8) (k : Nat) (hs : s.length ≤ 1152921504606846976) (hk : k ≤ s.length + 2) (H : PH) : Gives Tryz.prog n_scrimshawref03_two [txt s, .int .i64 k] H (.int .i64 (twoI (s.drop k))) := by
  refine tri_scrimshawref03_two [txt s, .int .i64 k] (by kernel_rfl) (by kernel_rfl) ?_
  have hk2 := plus2 (a := k) (by omega)
  have hk1 := plus1 (a := k) (by omega)
  refine ⟨fun h => ?_, fun h => ?_⟩
  · simp only [ev0, ev, evV, List.cons_append, List.nil_append, List.getD_cons_zero, List.getD_cons_succ, List.map_cons, List.map_nil, iOf, bOf, sOf, pOf, slLen, slBase, cmpI, arI, Value.ite_bool, int_beq, int_bne, ite_band, ite_bor, hk2, txt_size, decide_eq_true_eq] at h
    refine ⟨?_, PH.le_refl H⟩
    have : twoI (s.drop k) = -1 := by
      have hl : (s.drop k).length < 2 := by simp; omega
      match hd : s.drop k, hl with
      | [], _ => rfl
      | [a], _ => rfl
      | a :: b :: r, hl => simp at hl; omega
    rw [this]; rfl
  · simp only [ev0, ev, evV, List.cons_append, List.nil_append, List.getD_cons_zero, List.getD_cons_succ, List.map_cons, List.map_nil, iOf, bOf, sOf, pOf, slLen, slBase, cmpI, arI, Value.ite_bool, int_beq, int_bne, ite_band, ite_bor, hk2, txt_size, decide_eq_false_iff_not] at h
    obtain ⟨a, ha⟩ : ∃ c, s[k]? = some c := ⟨_, List.getElem?_eq_getElem (by omega)⟩
    obtain ⟨b, hb⟩ : ∃ c, s[k + 1]? = some c := ⟨_, List.getElem?_eq_getElem (by omega)⟩
    have hd : s.drop k = a :: b :: s.drop (k + 2) := by rw [drop_get ha, drop_get hb]
    rw [hd]
    refine ⟨fun _ => inStr_of rfl rfl (by omega), ?_⟩
    refine den_gives [.int .i64 (sixtI a)] cb_scrimshawref03_sixteen ?_ rfl pendNil fun H1 h1 => ⟨fun _ => ?_, ?_⟩
    · simp only [List.map_cons, List.map_nil, evV]
      rw [ev_sidx (s := s) (k := k) rfl rfl ha]
      exact sixteen_gives a H
    · exact inStr_of (k := k + 1) rfl (by simp only [ev0, ev, evV, List.cons_append, List.nil_append, List.getD_cons_zero, List.getD_cons_succ, List.map_cons, List.map_nil, iOf, bOf, sOf, pOf, slLen, slBase, cmpI, arI, Value.ite_bool, int_beq, int_bne, ite_band, ite_bor, hk1]) (by omega)
    refine den_gives [.int .i64 (sixtI b)] cb_scrimshawref03_sixteen ?_ rfl pendNil fun H2 h2 => ⟨fun h3 => ?_, fun h3 => ?_⟩
    · simp only [List.map_cons, List.map_nil, evV]
      rw [ev_sidx (s := s) (k := k + 1) rfl (by simp only [ev0, ev, evV, List.cons_append, List.nil_append, List.getD_cons_zero, List.getD_cons_succ, List.map_cons, List.map_nil, iOf, bOf, sOf, pOf, slLen, slBase, cmpI, arI, Value.ite_bool, int_beq, int_bne, ite_band, ite_bor, hk1]) hb]
      exact sixteen_gives b H1
    · simp only [ev0, ev, evV, List.cons_append, List.nil_append, List.getD_cons_zero, List.getD_cons_succ, List.map_cons, List.map_nil, iOf, bOf, sOf, pOf, slLen, slBase, cmpI, arI, Value.ite_bool, int_beq, int_bne, ite_band, ite_bor] at h3
      simp only [Bool.or_eq_true, decide_eq_true_eq] at h3
      refine ⟨?_, PH.le_trans h1 h2⟩
      rw [twoI, if_pos h3]; rfl
    · simp only [ev0, ev, evV, List.cons_append, List.nil_append, List.getD_cons_zero, List.getD_cons_succ, List.map_cons, List.map_nil, iOf, bOf, sOf, pOf, slLen, slBase, cmpI, arI, Value.ite_bool, int_beq, int_bne, ite_band, ite_bor] at h3
      simp only [Bool.or_eq_false_iff, decide_eq_false_iff_not] at h3
      refine ⟨?_, PH.le_trans h1 h2⟩
      have x := sixtI_le a
      have y := sixtI_le b
      rw [twoI, if_neg (by omega)]
      simp only [ev0, ev, evV, List.cons_append, List.nil_append, List.getD_cons_zero, List.getD_cons_succ, List.map_cons, List.map_nil, iOf, bOf, sOf, pOf, slLen, slBase, cmpI, arI, Value.ite_bool, int_beq, int_bne, ite_band, ite_bor]
      rw [w64 (n := 16 * sixtI a) (by omega) (by omega), w64 (by omega) (by omega)]
end Go.Proofs.YtlnmmakbgldflaaGreatDoor.Vc
/-
  SIGN: the document's answer: what begins with the sign of a hash.
-/
namespace Go.Proofs.YtlnmmakbgldflaaGreatDoor.Vc
open Go

/-- a token ahead, as the calls give it -/
def One.vs : One → List Value
  | .bad e => [.int .i64 0, txt [], .int .i64 0, .int .i64 0, .int .i64 0, .int .i64 0, .int .i64 e]
  | .tok kd x n m => [.int .i64 kd, txt x, .int .i64 n, .int .i64 0, .int .i64 0, .int .i64 (m : Nat), .int .i64 0]
def One.val : One → Value
  | .bad e => .tuple #[.agg #[.int .i64 0, txt [], .int .i64 0, .int .i64 0, .int .i64 0], .int .i64 0, .int .i64 e]
  | .tok kd x n m => .tuple #[.agg #[.int .i64 kd, txt x, .int .i64 n, .int .i64 0, .int .i64 0], .int .i64 (m : Nat), .int .i64 0]
theorem charI_eq (w : List UInt8) : charI w = if w.length = 1 then ((w.getD 0 0).toNat : Int) else if w = [115, 112, 97, 99, 101] then 32 else if w = [110, 101, 119, 108, 105, 110, 101] then 10 else if w.length = 3 ∧ w.getD 0 0 = 120 then twoI (w.drop 1) else -1 := by
  unfold charI
  split
  · simp
  · simp
  · simp
  · simp
  · rename_i h1 h2 h3 h4
    have e1 : ¬ w.length = 1 := fun h => by
      match w, h with
      | [c], _ => exact h1 c rfl
    rw [if_neg e1, if_neg (fun h => h2 h), if_neg (fun h => h3 h)]
    have e4 : ¬ (w.length = 3 ∧ w.getD 0 0 = 120) := by
      rintro ⟨h, h'⟩
      match w, h, h' with
      | [a, b, c], _, h' =>
        simp at h'; subst h'; exact h4 b c rfl
    rw [if_neg e4]
theorem take_word {l : List UInt8} {n : Nat} (h : n = (wordL l).length) : l.take n = wordL l := by subst h; exact wordL_take l

theorem evV_tok (E : List Value) (r : Nat → Nat) (cs : List SV) (a b : SV) : evV E r (.tu [(true, cs), (false, [a]), (false, [b])]) = .tuple #[.agg (cs.map (ev E r)).toArray, ev E r a, ev E r b] := rfl
theorem Rhash_gives (s : List UInt8) (k : Nat) (hs : s.length ≤ 1152921504606846976) (hk : k < s.length) (H : PH) : Gives Tryz.prog n_scrimshawref03_hash [txt s, .int .i64 k] H (hashL (s.drop (k + 1))).val := by
  refine tri_scrimshawref03_hash [txt s, .int .i64 k] (by kernel_rfl) (by kernel_rfl) ?_
  have p1 := plus1 (a := k) (by omega)
  have p2 := plus2 (a := k) (by omega)
  have in1 : ∀ E : List Value, E.getD 0 (Value.bool false) = txt s → E.getD 1 (Value.bool false) = .int .i64 k → k + 1 < s.length → Chk.holds E (.inStr (.atom 0) (.ar .add .i64 (.atom 1) (.int .i64 1))) := fun E e0 e1 h =>
    inStr_of (s := s) (k := k + 1) e0 (by simp only [ev0, ev, evV, List.cons_append, List.nil_append, List.getD_cons_zero, List.getD_cons_succ, List.map_cons, List.map_nil, iOf, bOf, sOf, pOf, slLen, slBase, cmpI, arI, Value.ite_bool, int_beq, int_bne, ite_band, ite_bor, e1, p1]) h
  refine ⟨fun hg => ?_, fun h1 => ?_, fun h1 => ⟨fun hg => ?_, fun h2 => ?_, fun h2 => ?_⟩⟩
  · have := hg _ (List.mem_singleton.2 rfl)
    simp only [ev0, ev, evV, List.cons_append, List.nil_append, List.getD_cons_zero, List.getD_cons_succ, List.map_cons, List.map_nil, iOf, bOf, sOf, pOf, slLen, slBase, cmpI, arI, Value.ite_bool, int_beq, int_bne, ite_band, ite_bor, p1, txt_size] at this
    exact in1 _ rfl rfl (by simp at this; omega)
  · simp only [ev0, ev, evV, List.cons_append, List.nil_append, List.getD_cons_zero, List.getD_cons_succ, List.map_cons, List.map_nil, iOf, bOf, sOf, pOf, slLen, slBase, cmpI, arI, Value.ite_bool, int_beq, int_bne, ite_band, ite_bor, p1, txt_size] at h1
    simp only [Bool.and_eq_true, decide_eq_true_eq] at h1
    obtain ⟨c, hc⟩ : ∃ c, s[k + 1]? = some c := ⟨_, List.getElem?_eq_getElem (by omega)⟩
    have h1' := h1.2
    rw [get_txt hc] at h1'
    have : c = 40 := (u8_eq_lit c 40 (by omega)).1 h1'
    subst this
    refine ⟨?_, PH.le_refl H⟩
    rw [drop_get hc]; rfl
  · have := hg _ (List.mem_singleton.2 rfl)
    simp only [ev0, ev, evV, List.cons_append, List.nil_append, List.getD_cons_zero, List.getD_cons_succ, List.map_cons, List.map_nil, iOf, bOf, sOf, pOf, slLen, slBase, cmpI, arI, Value.ite_bool, int_beq, int_bne, ite_band, ite_bor, p2, txt_size] at this
    exact in1 _ rfl rfl (by simp at this; omega)
  · simp only [ev0, ev, evV, List.cons_append, List.nil_append, List.getD_cons_zero, List.getD_cons_succ, List.map_cons, List.map_nil, iOf, bOf, sOf, pOf, slLen, slBase, cmpI, arI, Value.ite_bool, int_beq, int_bne, ite_band, ite_bor, p1, p2, txt_size] at h2
    simp only [Bool.and_eq_true, decide_eq_true_eq] at h2
    obtain ⟨c, hc⟩ : ∃ c, s[k + 1]? = some c := ⟨_, List.getElem?_eq_getElem (by omega)⟩
    obtain ⟨c2, hc2⟩ : ∃ c, s[k + 2]? = some c := ⟨_, List.getElem?_eq_getElem (by omega)⟩
    have h2' := h2.2
    rw [get_txt hc] at h2'
    have : c = 92 := (u8_eq_lit c 92 (by omega)).1 h2'
    subst this
    have hd2 := drop_get hc2
    have hd1 : s.drop (k + 1) = 92 :: c2 :: s.drop (k + 2 + 1) := by rw [drop_get hc, hd2]
    have hH : hashL (s.drop (k + 1)) = (if charI (if wordL (s.drop (k + 2)) = [] then [c2] else wordL (s.drop (k + 2))) < 0 then One.bad 31 else .tok 7 [] (charI (if wordL (s.drop (k + 2)) = [] then [c2] else wordL (s.drop (k + 2)))) (2 + (if wordL (s.drop (k + 2)) = [] then [c2] else wordL (s.drop (k + 2))).length)) := by
      rw [hd1, hd2]; rfl
    rw [hH]
    have hwl := wordL_le (s.drop (k + 2))
    rw [List.length_drop] at hwl
    generalize hn : (wordL (s.drop (k + 2))).length = n at hwl
    generalize hw : (if wordL (s.drop (k + 2)) = [] then [c2] else wordL (s.drop (k + 2))) = w
    have hn1 : (if decide ((n : Int) < 1) = true then Value.int .i64 1 else Value.int .i64 n) = .int .i64 (w.length : Nat) := by
      by_cases h : wordL (s.drop (k + 2)) = []
      · rw [if_pos h] at hw
        rw [h] at hn
        rw [← hw, ← hn]; rfl
      · rw [if_neg h] at hw
        have : 0 < n := by rw [← hn]; exact List.length_pos_iff.2 h
        rw [if_neg (by simp; omega), ← hw, hn]
    have hwt : (s.take (k + 2 + w.length)).drop (k + 2) = w := by
      have e : (s.take (k + 2 + w.length)).drop (k + 2) = (s.drop (k + 2)).take w.length := by
        rw [List.drop_take]; congr 1; omega
      rw [e]
      by_cases h : wordL (s.drop (k + 2)) = []
      · rw [if_pos h] at hw
        rw [← hw, hd2]; rfl
      · rw [if_neg h] at hw
        rw [← hw]; exact wordL_take _
    have hw1 : 1 ≤ w.length ∧ k + 2 + w.length ≤ s.length := by
      by_cases h : wordL (s.drop (k + 2)) = []
      · rw [if_pos h] at hw
        rw [← hw]; simp; omega
      · rw [if_neg h] at hw
        have := List.length_pos_iff.2 h
        rw [← hw]; omega
    have hext : (⟨s.toArray⟩ : ByteArray).extract (k + 2) (k + 2 + w.length) = ⟨w.toArray⟩ := by rw [extract_txt, hwt]
    have p3 := plus (a := k + 2) (b := w.length) (by omega)
    have p4 : IntKind.i64.wrap (2 + (w.length : Int)) = ((2 + w.length : Nat) : Int) := by rw [w64 (by omega) (by omega)]; omega
    have hcI := charI_eq w
    refine den_gives [.int .i64 n] cb_scrimshawref03_Word (by
      have := Word_gives s (k + 2) hs (by omega) H
      rw [hn] at this
      simp only [ev0, ev, evV, List.cons_append, List.nil_append, List.getD_cons_zero, List.getD_cons_succ, List.map_cons, List.map_nil, iOf, bOf, sOf, pOf, slLen, slBase, cmpI, arI, Value.ite_bool, int_beq, int_bne, ite_band, ite_bor, p2]
      exact this) rfl pendNil fun H1 l1 => ⟨fun _ => ?_, ⟨fun vs H' => vs = [.int .i64 (charI w)] ∧ PH.le H H', ?_, ?_⟩⟩
    · simp only [Chk.holds, ev0, ev, evV, List.cons_append, List.nil_append, List.getD_cons_zero, List.getD_cons_succ, List.map_cons, List.map_nil, iOf, bOf, sOf, pOf, slLen, slBase, cmpI, arI, Value.ite_bool, int_beq, int_bne, ite_band, ite_bor, hn1, p2, p3, txt_size]; omega
    · rintro vs H2 _ ⟨rfl, l2⟩
      refine ⟨fun h3 => ?_, fun h3 => ?_⟩
      · simp only [ev0, ev, evV, List.cons_append, List.nil_append, List.getD_cons_zero, List.getD_cons_succ, List.map_cons, List.map_nil, iOf, bOf, sOf, pOf, slLen, slBase, cmpI, arI, Value.ite_bool, int_beq, int_bne, ite_band, ite_bor, decide_eq_true_eq] at h3
        refine ⟨?_, l2⟩
        rw [if_pos h3]; rfl
      · simp only [ev0, ev, evV, List.cons_append, List.nil_append, List.getD_cons_zero, List.getD_cons_succ, List.map_cons, List.map_nil, iOf, bOf, sOf, pOf, slLen, slBase, cmpI, arI, Value.ite_bool, int_beq, int_bne, ite_band, ite_bor, decide_eq_false_iff_not] at h3
        refine ⟨?_, l2⟩
        rw [if_neg h3]
        rw [evV_tok]
        simp only [ev0, ev, evV, List.cons_append, List.nil_append, List.getD_cons_zero, List.getD_cons_succ, List.map_cons, List.map_nil, iOf, bOf, sOf, pOf, slLen, slBase, cmpI, arI, Value.ite_bool, int_beq, int_bne, ite_band, ite_bor, hn1, p4]
        rfl
    · refine ⟨fun h3 => ?_, fun h3 => ⟨fun h4 => ?_, fun h4 => ⟨fun h5 => ?_, fun h5 => ⟨fun hg => ?_, fun h6 => ?_, fun h6 => ?_⟩⟩⟩⟩
      · simp only [ev0, ev, evV, List.cons_append, List.nil_append, List.getD_cons_zero, List.getD_cons_succ, List.map_cons, List.map_nil, iOf, bOf, sOf, pOf, slLen, slBase, cmpI, arI, Value.ite_bool, int_beq, int_bne, ite_band, ite_bor, hn1] at h3
        rw [decide_eq_true_eq] at h3
        have hw1' : w.length = 1 := by omega
        refine ⟨fun _ => ?_, _, lookup_hit, ?_, l1⟩
        · simp only [Chk.holds, ev0, ev, evV, List.cons_append, List.nil_append, List.getD_cons_zero, List.getD_cons_succ, List.map_cons, List.map_nil, iOf, bOf, sOf, pOf, slLen, slBase, cmpI, arI, Value.ite_bool, int_beq, int_bne, ite_band, ite_bor, hn1, p2, p3, Int.toNat_natCast, hext, txt_size]; omega
        · rw [hcI, if_pos hw1']
          match w, hw1' with
          | [a], _ =>
            simp only [ev0, ev, evV, List.cons_append, List.nil_append, List.getD_cons_zero, List.getD_cons_succ, List.map_cons, List.map_nil, iOf, bOf, sOf, pOf, slLen, slBase, cmpI, arI, Value.ite_bool, int_beq, int_bne, ite_band, ite_bor, hn1, p2, p3, Int.toNat_natCast, hext]
            have hg : ((⟨[a].toArray⟩ : ByteArray)[(0 : Int).toNat]?).getD 0 = a := get_txt (k := 0) rfl
            have := UInt8.toNat_lt a
            rw [hg, w64 (by omega) (by omega)]
      all_goals
        simp only [ev0, ev, evV, List.cons_append, List.nil_append, List.getD_cons_zero, List.getD_cons_succ, List.map_cons, List.map_nil, iOf, bOf, sOf, pOf, slLen, slBase, cmpI, arI, Value.ite_bool, int_beq, int_bne, ite_band, ite_bor, hn1, decide_eq_false_iff_not] at h3
        have hw1' : ¬ w.length = 1 := by omega
        rw [if_neg hw1'] at hcI
      · simp only [ev0, ev, evV, List.cons_append, List.nil_append, List.getD_cons_zero, List.getD_cons_succ, List.map_cons, List.map_nil, iOf, bOf, sOf, pOf, slLen, slBase, cmpI, arI, Value.ite_bool, int_beq, int_bne, ite_band, ite_bor, hn1, p2, p3, Int.toNat_natCast, hext, txt_eql] at h4
        rw [decide_eq_true_eq] at h4
        rw [hcI, if_pos h4]
        exact ⟨_, lookup_hit, rfl, l1⟩
      all_goals
        simp only [ev0, ev, evV, List.cons_append, List.nil_append, List.getD_cons_zero, List.getD_cons_succ, List.map_cons, List.map_nil, iOf, bOf, sOf, pOf, slLen, slBase, cmpI, arI, Value.ite_bool, int_beq, int_bne, ite_band, ite_bor, hn1, p2, p3, Int.toNat_natCast, hext, txt_eql, decide_eq_false_iff_not] at h4
        rw [if_neg h4] at hcI
      · simp only [ev0, ev, evV, List.cons_append, List.nil_append, List.getD_cons_zero, List.getD_cons_succ, List.map_cons, List.map_nil, iOf, bOf, sOf, pOf, slLen, slBase, cmpI, arI, Value.ite_bool, int_beq, int_bne, ite_band, ite_bor, hn1, p2, p3, Int.toNat_natCast, hext, txt_eql] at h5
        rw [decide_eq_true_eq] at h5
        rw [hcI, if_pos h5]
        exact ⟨_, lookup_hit, rfl, l1⟩
      all_goals
        simp only [ev0, ev, evV, List.cons_append, List.nil_append, List.getD_cons_zero, List.getD_cons_succ, List.map_cons, List.map_nil, iOf, bOf, sOf, pOf, slLen, slBase, cmpI, arI, Value.ite_bool, int_beq, int_bne, ite_band, ite_bor, hn1, p2, p3, Int.toNat_natCast, hext, txt_eql, decide_eq_false_iff_not] at h5
        rw [if_neg h5] at hcI
      · simp only [Chk.holds, ev0, ev, evV, List.cons_append, List.nil_append, List.getD_cons_zero, List.getD_cons_succ, List.map_cons, List.map_nil, iOf, bOf, sOf, pOf, slLen, slBase, cmpI, arI, Value.ite_bool, int_beq, int_bne, ite_band, ite_bor, hn1, p2, p3, Int.toNat_natCast, hext, txt_size]; omega
      all_goals
        have hg0 : ((⟨w.toArray⟩ : ByteArray)[(0 : Int).toNat]?).getD 0 = w.getD 0 0 := by
          have : w[0]? = some (w.getD 0 0) := by
            rw [List.getD_eq_getElem?_getD, List.getElem?_eq_getElem (by omega)]; rfl
          exact get_txt (k := 0) this
      · simp only [ev0, ev, evV, List.cons_append, List.nil_append, List.getD_cons_zero, List.getD_cons_succ, List.map_cons, List.map_nil, iOf, bOf, sOf, pOf, slLen, slBase, cmpI, arI, Value.ite_bool, int_beq, int_bne, ite_band, ite_bor, hn1, p2, p3, Int.toNat_natCast, hext] at h6
        rw [hg0] at h6
        simp only [Bool.and_eq_true, decide_eq_true_eq] at h6
        have h6' : w.length = 3 ∧ w.getD 0 0 = 120 := ⟨by omega, (u8_eq_lit _ 120 (by omega)).1 h6.2⟩
        rw [hcI, if_pos h6']
        refine den_gives [.int .i64 (twoI (w.drop 1))] cb_scrimshawref03_two ?_ rfl pendNil fun H2 l2 => ⟨_, lookup_hit, rfl, PH.le_trans l1 l2⟩
        have := two_gives w 1 (by omega) (by omega) H1
        simp only [ev0, ev, evV, List.cons_append, List.nil_append, List.getD_cons_zero, List.getD_cons_succ, List.map_cons, List.map_nil, iOf, bOf, sOf, pOf, slLen, slBase, cmpI, arI, Value.ite_bool, int_beq, int_bne, ite_band, ite_bor, hn1, p2, p3, Int.toNat_natCast, hext]
        exact this
      · simp only [ev0, ev, evV, List.cons_append, List.nil_append, List.getD_cons_zero, List.getD_cons_succ, List.map_cons, List.map_nil, iOf, bOf, sOf, pOf, slLen, slBase, cmpI, arI, Value.ite_bool, int_beq, int_bne, ite_band, ite_bor, hn1, p2, p3, Int.toNat_natCast, hext] at h6
        rw [hg0] at h6
        have h6' : ¬ (w.length = 3 ∧ w.getD 0 0 = 120) := by
          rintro ⟨x, y⟩
          rw [y, x] at h6
          revert h6; decide
        rw [hcI, if_neg h6']
        exact ⟨_, lookup_hit, rfl, l1⟩
  · have hH : hashL (s.drop (k + 1)) = if wordL (s.drop (k + 1)) = [116] then One.tok 5 [] 1 2 else if wordL (s.drop (k + 1)) = [102] then .tok 5 [] 0 2 else .bad 31 := by
      unfold hashL
      split
      · rename_i r hr
        exfalso
        have hc : s[k + 1]? = some 40 := by
          have := congrArg (·[0]?) hr
          simpa [List.getElem?_drop] using this
        have : k + 1 < s.length := (List.getElem?_eq_some_iff.1 hc).1
        simp only [ev0, ev, evV, List.cons_append, List.nil_append, List.getD_cons_zero, List.getD_cons_succ, List.map_cons, List.map_nil, iOf, bOf, sOf, pOf, slLen, slBase, cmpI, arI, Value.ite_bool, int_beq, int_bne, ite_band, ite_bor, p1, txt_size] at h1
        rw [get_txt hc] at h1
        simp at h1; omega
      · rename_i c r hr
        exfalso
        have hc : s[k + 1]? = some 92 := by
          have := congrArg (·[0]?) hr
          simpa [List.getElem?_drop] using this
        have hc2 : s[k + 2]? = some c := by
          have := congrArg (·[1]?) hr
          simpa [List.getElem?_drop] using this
        have : k + 2 < s.length := (List.getElem?_eq_some_iff.1 hc2).1
        simp only [ev0, ev, evV, List.cons_append, List.nil_append, List.getD_cons_zero, List.getD_cons_succ, List.map_cons, List.map_nil, iOf, bOf, sOf, pOf, slLen, slBase, cmpI, arI, Value.ite_bool, int_beq, int_bne, ite_band, ite_bor, p1, p2, txt_size] at h2
        rw [get_txt hc] at h2
        simp at h2; omega
      · rfl
    rw [hH]
    have hwl := wordL_le (s.drop (k + 1))
    rw [List.length_drop] at hwl
    have hwt := wordL_take (s.drop (k + 1))
    generalize hn : (wordL (s.drop (k + 1))).length = n at hwl hwt
    have hone : ∀ (c : UInt8), (decide ((n : Int) = 1) && decide ((((⟨s.toArray⟩ : ByteArray)[((k + 1 : Nat) : Int).toNat]?).getD 0).toNat = (c.toNat : Int))) = decide (wordL (s.drop (k + 1)) = [c]) := by
      intro c
      by_cases h : n = 1
      · obtain ⟨e, he⟩ : ∃ e, s[k + 1]? = some e := ⟨_, List.getElem?_eq_getElem (by omega)⟩
        rw [get_txt he, ← hwt, h, drop_get he]
        simp only [List.take_succ_cons, List.take_zero, List.cons.injEq, and_true]
        have : ((e.toNat : Int) = (c.toNat : Int)) ↔ e = c := ⟨fun x => UInt8.toNat_inj.1 (by omega), fun x => by rw [x]⟩
        simp [this]
      · have : ¬ wordL (s.drop (k + 1)) = [c] := fun x => h (by rw [← hn, x]; rfl)
        rw [decide_eq_false this, decide_eq_false (show ¬ (n : Int) = 1 by omega)]; rfl
    refine den_gives [.int .i64 n] cb_scrimshawref03_Word (by
      have := Word_gives s (k + 1) hs (by omega) H
      rw [hn] at this
      simp only [ev0, ev, evV, List.cons_append, List.nil_append, List.getD_cons_zero, List.getD_cons_succ, List.map_cons, List.map_nil, iOf, bOf, sOf, pOf, slLen, slBase, cmpI, arI, Value.ite_bool, int_beq, int_bne, ite_band, ite_bor, p1]
      exact this) rfl pendNil fun H1 l1 => ⟨fun hg => ?_, fun h3 => ?_, fun h3 => ⟨fun hg => ?_, fun h4 => ?_, fun h4 => ?_⟩⟩
    · have := hg _ (List.mem_singleton.2 rfl)
      simp only [ev0, ev, evV, List.cons_append, List.nil_append, List.getD_cons_zero, List.getD_cons_succ, List.map_cons, List.map_nil, iOf, bOf, sOf, pOf, slLen, slBase, cmpI, arI, Value.ite_bool, int_beq, int_bne, ite_band, ite_bor] at this
      exact in1 _ rfl rfl (by simp at this; omega)
    · simp only [ev0, ev, evV, List.cons_append, List.nil_append, List.getD_cons_zero, List.getD_cons_succ, List.map_cons, List.map_nil, iOf, bOf, sOf, pOf, slLen, slBase, cmpI, arI, Value.ite_bool, int_beq, int_bne, ite_band, ite_bor, p1] at h3
      have h3' := (hone 116).symm.trans h3
      rw [decide_eq_true_eq] at h3'
      refine ⟨?_, l1⟩
      rw [if_pos h3']; rfl
    · have := hg _ (List.mem_singleton.2 rfl)
      simp only [ev0, ev, evV, List.cons_append, List.nil_append, List.getD_cons_zero, List.getD_cons_succ, List.map_cons, List.map_nil, iOf, bOf, sOf, pOf, slLen, slBase, cmpI, arI, Value.ite_bool, int_beq, int_bne, ite_band, ite_bor] at this
      exact in1 _ rfl rfl (by simp at this; omega)
    · simp only [ev0, ev, evV, List.cons_append, List.nil_append, List.getD_cons_zero, List.getD_cons_succ, List.map_cons, List.map_nil, iOf, bOf, sOf, pOf, slLen, slBase, cmpI, arI, Value.ite_bool, int_beq, int_bne, ite_band, ite_bor, p1] at h3 h4
      have h3' := (hone 116).symm.trans h3
      have h4' := (hone 102).symm.trans h4
      rw [decide_eq_false_iff_not] at h3'
      rw [decide_eq_true_eq] at h4'
      refine ⟨?_, l1⟩
      rw [if_neg h3', if_pos h4']; rfl
    · simp only [ev0, ev, evV, List.cons_append, List.nil_append, List.getD_cons_zero, List.getD_cons_succ, List.map_cons, List.map_nil, iOf, bOf, sOf, pOf, slLen, slBase, cmpI, arI, Value.ite_bool, int_beq, int_bne, ite_band, ite_bor, p1] at h3 h4
      have h3' := (hone 116).symm.trans h3
      have h4' := (hone 102).symm.trans h4
      rw [decide_eq_false_iff_not] at h3' h4'
      refine ⟨?_, l1⟩
      rw [if_neg h3', if_neg h4']; rfl
end Go.Proofs.YtlnmmakbgldflaaGreatDoor.Vc
/-
  SIGN: the document's answer: a string.
-/
namespace Go.Proofs.YtlnmmakbgldflaaGreatDoor.Vc
open Go

/-- what stands behind a backslash: a byte, and how many bytes it is -/
def escB : List UInt8 → Option (UInt8 × Nat)
  | [] => none
  | d :: r => if d = 34 ∨ d = 92 then some (d, 1) else if d = 110 then some (10, 1) else if d = 120 ∧ 0 ≤ twoI r then some (UInt8.ofNat (twoI r).toNat, 3) else none
theorem textB_nil : textB [] = none := rfl
theorem textB_end (r : List UInt8) : textB (34 :: r) = some ([], r) := rfl
theorem textB_esc (r : List UInt8) : textB (92 :: r) = (escB r).bind fun x => (textB (r.drop x.2)).map fun y => (x.1 :: y.1, y.2) := by
  match r with
  | [] => rfl
  | d :: r =>
    simp only [escB]
    by_cases h1 : d = 34
    · subst h1; rfl
    by_cases h2 : d = 92
    · subst h2; rfl
    rw [if_neg (by simp [h1, h2])]
    by_cases h3 : d = 110
    · subst h3; rfl
    rw [if_neg h3]
    by_cases h4 : d = 120
    · subst h4
      match r with
      | [] => rfl
      | [a] => rfl
      | a :: b :: r =>
        have e : twoI (a :: b :: r) = twoI [a, b] := rfl
        rw [e]
        simp only [textB, true_and]
        by_cases h5 : twoI [a, b] < 0
        · rw [if_pos h5, if_neg (by omega)]; rfl
        · rw [if_neg h5, if_pos (by omega)]; rfl
    · rw [if_neg (by simp [h4]), textB.eq_def]
      split <;> simp_all
theorem textB_plain {c : UInt8} (h1 : c ≠ 34) (h2 : c ≠ 92) (r : List UInt8) : textB (c :: r) = (textB r).map fun y => (c :: y.1, y.2) := by
  rw [textB.eq_def]
  split <;> simp_all
/-- bytes that grew, made a text -/
theorem wpS_accText {P : Program} {H0 H : PH} {e B S : TypeId} {out : List UInt8} {v : Value} {Φ : Value → PH → Prop} {Ψ : Value → PH → Prop} (hB : P.underlying B = some (.slice e)) (hS : P.underlying S = some .string) (he : P.underlying e = some (.int .u8)) (h : Acc H0 H e out v) (hk : Φ (txt out) H) :
    wpS P (convert B S v) Φ Ψ H := by
  rcases (SlR.mk_iff.1 h.slR).2 with ⟨rfl, rfl⟩ | ⟨g, c', rfl, h3, h4, h5⟩
  · exact wpS_toText_nil hB hS he hk
  · refine wpS_toText hB hS he (fun j x hj => ?_) hk
    obtain ⟨xs, g1, g2, g3⟩ := RepRows.cells h5
    refine g3 j x ?_
    have key : ∀ (l : List UInt8) (xs : List Value), PV.RepRow H (l.flatMap pv) xs → xs = l.map encB := by
      intro l
      induction l with
      | nil => intro xs h; simpa [PV.RepRow] using h
      | cons a l ih =>
        intro xs h
        rw [List.flatMap_cons] at h
        have h' : PV.RepRow H (.int .u8 (a.toNat : Int) :: l.flatMap pv) xs := h
        simp only [PV.RepRow, PV.Rep] at h'
        obtain ⟨v, vs, rfl, ⟨rfl, _⟩, h2⟩ := h'
        rw [ih vs h2]; rfl
    rw [key _ _ g1]; exact hj
theorem den_accText {P : Program} {X : List PanicEntry → PH → Prop} {β : Type} {H0 H : PH} {E : List Value} {L : LK} {K : β → List Value → PH → LK → Prop} {e B S ty : TypeId} {x : Operand} {args : List (Nat × VE)} {k : Fm β} {out : List UInt8} {v : Value}
    (hB : P.underlying B = some (.slice e)) (hS : P.underlying S = some .string) (he : P.underlying e = some (.int .u8)) (hx : argEv E args x = v) (h : Acc H0 H e out v) (hk : den P X k (E ++ [txt out]) H L K) : den P X (.sem (.convert B S x) ty args (.sc .str) [] k) E H L K := by
  show wpS P (execOp (argEv E args) (bare _ ty)) _ _ H
  rw [exec_convert, hx]
  exact wpS_accText hB hS he h ⟨[_], rfl, rfl, pendNil, hk⟩
/-- one byte behind bytes -/
theorem den_byte {X : List PanicEntry → PH → Prop} {β : Type} {H0 H : PH} {E : List Value} {L : LK} {K : β → List Value → PH → LK → Prop} {ty ty2 : TypeId} {ps : Operand} {args args2 : List (Nat × VE)} {x y : Operand} {k : Fm β} {out : List UInt8} {v : Value} (c : UInt8)
    (hps : argEv E args ps = encB c) (hacc : Acc H0 H 5 out v) (hx : ∀ u, argEv (E ++ [u]) args2 x = v) (hy : ∀ u, argEv (E ++ [u]) args2 y = u) (hl : out.length ≤ 1099511627776)
    (hk : ∀ u v' H', Acc H0 H' 5 (out ++ [c]) v' → den Tryz.prog X k (E ++ [u] ++ [v']) H' L K) :
    den Tryz.prog X (.sem (.buildSlice 39 1 #[(0, ps)]) ty args (.sc .sl) [] (.sem (.call ⟨.builtin .append, #[x, y], #[39, 39]⟩) ty2 args2 (.sc .sl) [] k)) E H L K := by
  refine den_push (more := [c]) (b := 1) (H0 := H0) (e := 5) (l := out) (v := v) [encB c] uBytes elemByte rfl (by decide) (by decide) ?_ (.cons ?_ .nil) pendNil hacc hx hy (by simp only [maxLen, List.length_cons, List.length_nil]; omega) (by simp; omega) fun u v' H' g3 g4 => ⟨pendNil, hk u v' H' g3⟩
  · simp only [List.map_cons, List.map_nil, hps, idxs]
  · have := txt_row (H := delV v H) [c]
    simp only [List.flatMap_cons, List.flatMap_nil, List.append_nil] at this
    exact this

def textOne (s : List UInt8) (k : Nat) : One := match textB (s.drop (k + 1)) with
  | none => .bad 32
  | some (x, r) => .tok 8 x 0 (s.length - k - r.length)
theorem Rtext_gives (s : List UInt8) (k : Nat) (hs : s.length ≤ 1099511627776) (hk : k < s.length) (H : PH) : Gives Tryz.prog n_scrimshawref03_text [txt s, .int .i64 k] H (textOne s k).val := by
  refine tri_scrimshawref03_text [txt s, .int .i64 k] (by kernel_rfl) (by kernel_rfl) ?_
  have p1 := plus1 (a := k) (by omega)
  refine den_lit0 (α := UInt8) (b := 1) uBytes elemByte fun v0 H0 a0 l0 => ?_
  refine ⟨fun vs H' => textB (s.drop (k + 1)) = none ∧ PH.le H H', ?_, ?_⟩
  · rintro vs H' _ ⟨h1, h2⟩
    refine ⟨?_, h2⟩
    rw [textOne, h1]
    rfl
  refine ⟨fun m vs H' => ∃ (i : Nat) (v : Value) (out : List UInt8), vs = [.int .i64 0, .int .i64 0, v, .int .i64 i, .int .i64 0, txt [], .int .i64 0, .int .i64 0, .int .i64 0] ∧ i + m = s.length ∧ k + 1 ≤ i ∧ out.length + k + 1 ≤ i ∧ Acc H H' 5 out v ∧
    textB (s.drop (k + 1)) = (textB (s.drop i)).map fun x => (out ++ x.1, x.2), ⟨s.length - (k + 1), k + 1, v0, [], ?_, by omega, Nat.le_refl _, by simp, a0, ?_⟩, ?_⟩
  · simp only [ev0, ev, evV, List.cons_append, List.nil_append, List.getD_cons_zero, List.getD_cons_succ, List.map_cons, List.map_nil, iOf, bOf, sOf, pOf, slLen, slBase, cmpI, arI, Value.ite_bool, int_beq, int_bne, ite_band, ite_bor, p1]
  · cases textB (s.drop (k + 1)) <;> simp
  rintro m vs H' _ ⟨i, v, out, rfl, hm, hki, hol, hacc, htx⟩
  have i1 := plus1 (a := i) (by omega)
  have i2 := plus2 (a := i) (by omega)
  have i4 : IntKind.i64.wrap ((i : Int) + 4) = ((i + 4 : Nat) : Int) := by rw [w64 (by omega) (by omega)]; omega
  have push : ∀ (c : UInt8) (n : Nat), textB (s.drop i) = (textB (s.drop (i + n))).map (fun y => (c :: y.1, y.2)) → textB (s.drop (k + 1)) = (textB (s.drop (i + n))).map fun x => ((out ++ [c]) ++ x.1, x.2) := by
    intro c n h
    rw [htx, h, Option.map_map]
    congr 1
    funext x; simp
  refine ⟨fun h5 => ?_, fun h5 => ?_⟩
  · simp only [ev0, ev, evV, List.cons_append, List.nil_append, List.getD_cons_zero, List.getD_cons_succ, List.map_cons, List.map_nil, iOf, bOf, sOf, pOf, slLen, slBase, cmpI, arI, Value.ite_bool, int_beq, int_bne, ite_band, ite_bor, txt_size, decide_eq_true_eq] at h5
    obtain ⟨c, hc⟩ : ∃ c, s[i]? = some c := ⟨_, List.getElem?_eq_getElem (by omega)⟩
    have hd := drop_get hc
    have e34 : ((c.toNat : Int) = 34) ↔ c = 34 := u8_eq_lit c 34 (by omega)
    have e92 : ((c.toNat : Int) = 92) ↔ c = 92 := u8_eq_lit c 92 (by omega)
    have sx : ∀ E : List Value, E.getD 0 (Value.bool false) = txt s → E.getD 6 (Value.bool false) = .int .i64 i → ev E (fun _ => 0) (.sidx (.atom 0) (.atom 6)) = encB c := fun E x0 x6 => ev_sidx (s := s) (k := i) x0 (by show iOf (E.getD 6 _) = _; rw [x6]; rfl) hc
    have sx0 : ∀ (E : List Value) (c : SV) (z : SV) (op : BinOp), ev0 E (.cmp op c z) = .bool (cmpI op (iOf (ev E (fun _ => 0) c)) (iOf (ev E (fun _ => 0) z))) := fun _ _ _ _ => rfl
    refine ⟨fun _ => inStr_of rfl rfl (by omega), fun h6 => ?_, fun h6 => ⟨fun h7 => ?_, fun h7 => ?_⟩⟩
    · rw [sx0, sx _ rfl rfl] at h6
      have h6' := e34.1 (of_decide_eq_true (by simpa [cmpI, iOf, ev, bOf, encB, int_beq] using h6))
      subst h6'
      refine den_accText uBytes uString uByte rfl hacc ⟨?_, hacc.all⟩
      rw [textOne, htx, hd, textB_end]
      simp only [Option.map_some, List.append_nil, One.val, List.length_drop]
      rw [evV_tok]
      simp only [ev0, ev, evV, List.cons_append, List.nil_append, List.getD_cons_zero, List.getD_cons_succ, List.map_cons, List.map_nil, iOf, bOf, sOf, pOf, slLen, slBase, cmpI, arI, Value.ite_bool, int_beq, int_bne, ite_band, ite_bor, i1]
      rw [w64 (n := ((i + 1 : Nat) : Int) - (k : Int)) (by omega) (by omega)]
      have : ((i + 1 : Nat) : Int) - (k : Int) = ((s.length - k - (s.length - (i + 1)) : Nat) : Int) := by omega
      rw [this]
    all_goals
      rw [sx0, sx _ rfl rfl] at h6
      have h6 : cmpI .eql (iOf (encB c)) 34 = false := h6
      have h6' : ¬ c = 34 := fun x => by subst x; revert h6; decide
    · rw [sx0, sx _ rfl rfl] at h7
      have h7 : cmpI .neq (iOf (encB c)) 92 = true := h7
      have h7' : ¬ c = 92 := fun x => by subst x; revert h7; decide
      refine den_byte c (by
        show ev _ _ _ = _
        exact sx _ rfl rfl) hacc (fun _ => rfl) (fun _ => rfl) (by omega) fun u v' H2 a2 => ⟨_, rfl, m - 1, by omega, i + 1, v', out ++ [c], ?_, by omega, by omega, by simp; omega, a2, push c 1 (by rw [hd, textB_plain h6' h7'])⟩
      simp only [ev0, ev, evV, List.cons_append, List.nil_append, List.getD_cons_zero, List.getD_cons_succ, List.map_cons, List.map_nil, iOf, bOf, sOf, pOf, slLen, slBase, cmpI, arI, Value.ite_bool, int_beq, int_bne, ite_band, ite_bor, i1]
    · rw [sx0, sx _ rfl rfl] at h7
      have h7' : c = 92 := by
        have : cmpI .neq (iOf (encB c)) 92 = false := h7
        simp only [cmpI, int_bne, iOf, decide_eq_false_iff_not, ne_eq, Decidable.not_not] at this
        exact e92.1 this
      subst h7'
      refine ⟨fun h8 => ?_, fun h8 => ?_⟩
      · simp only [ev0, ev, evV, List.cons_append, List.nil_append, List.getD_cons_zero, List.getD_cons_succ, List.map_cons, List.map_nil, iOf, bOf, sOf, pOf, slLen, slBase, cmpI, arI, Value.ite_bool, int_beq, int_bne, ite_band, ite_bor, i1, txt_size, decide_eq_true_eq] at h8
        refine ⟨_, rfl, ?_, hacc.all⟩
        have : s.drop (i + 1) = [] := List.drop_eq_nil_of_le (by omega)
        rw [htx, hd, this, textB_esc]; rfl
      · simp only [ev0, ev, evV, List.cons_append, List.nil_append, List.getD_cons_zero, List.getD_cons_succ, List.map_cons, List.map_nil, iOf, bOf, sOf, pOf, slLen, slBase, cmpI, arI, Value.ite_bool, int_beq, int_bne, ite_band, ite_bor, i1, txt_size, decide_eq_false_iff_not] at h8
        obtain ⟨d, hdd⟩ : ∃ c, s[i + 1]? = some c := ⟨_, List.getElem?_eq_getElem (by omega)⟩
        have hd1 := drop_get hdd
        have f34 : ((d.toNat : Int) = 34) ↔ d = 34 := u8_eq_lit d 34 (by omega)
        have f92 : ((d.toNat : Int) = 92) ↔ d = 92 := u8_eq_lit d 92 (by omega)
        have f110 : ((d.toNat : Int) = 110) ↔ d = 110 := u8_eq_lit d 110 (by omega)
        have f120 : ((d.toNat : Int) = 120) ↔ d = 120 := u8_eq_lit d 120 (by omega)
        have hesc : textB (s.drop i) = (escB (d :: s.drop (i + 1 + 1))).bind fun x => (textB ((d :: s.drop (i + 1 + 1)).drop x.2)).map fun y => (x.1 :: y.1, y.2) := by rw [hd, hd1]; exact textB_esc _
        refine den_gives [.int .i64 (twoI (s.drop (i + 2)))] cb_scrimshawref03_two (by
          have := two_gives s (i + 2) (by omega) (by omega) H'
          simp only [ev0, ev, evV, List.cons_append, List.nil_append, List.getD_cons_zero, List.getD_cons_succ, List.map_cons, List.map_nil, iOf, bOf, sOf, pOf, slLen, slBase, cmpI, arI, Value.ite_bool, int_beq, int_bne, ite_band, ite_bor, i2]
          exact this) rfl pendNil fun H2 l2 => ?_
        have hacc2 := hacc.mono l2
        have sy : ∀ E : List Value, E.getD 0 (Value.bool false) = txt s → E.getD 6 (Value.bool false) = .int .i64 i → ev E (fun _ => 0) (.sidx (.atom 0) (.ar .add .i64 (.atom 6) (.int .i64 1))) = encB d := fun E x0 x6 => ev_sidx (s := s) (k := i + 1) x0 (by simp only [ev0, ev, evV, List.cons_append, List.nil_append, List.getD_cons_zero, List.getD_cons_succ, List.map_cons, List.map_nil, iOf, bOf, sOf, pOf, slLen, slBase, cmpI, arI, Value.ite_bool, int_beq, int_bne, ite_band, ite_bor, x6, i1]) hdd
        have iny : ∀ E : List Value, E.getD 0 (Value.bool false) = txt s → E.getD 6 (Value.bool false) = .int .i64 i → Chk.holds E (.inStr (.atom 0) (.ar .add .i64 (.atom 6) (.int .i64 1))) := fun E x0 x6 => inStr_of (s := s) (k := i + 1) x0 (by simp only [ev0, ev, evV, List.cons_append, List.nil_append, List.getD_cons_zero, List.getD_cons_succ, List.map_cons, List.map_nil, iOf, bOf, sOf, pOf, slLen, slBase, cmpI, arI, Value.ite_bool, int_beq, int_bne, ite_band, ite_bor, x6, i1]) (by omega)
        have sp : ∀ (E : List Value) (a b c : SV), ev0 E (.pick a b c) = if bOf (ev E (fun _ => 0) a) = true then ev E (fun _ => 0) b else ev E (fun _ => 0) c := fun _ _ _ _ => rfl
        have sc : ∀ (E : List Value) (c : SV) (z : SV) (op : BinOp), ev E (fun _ => 0) (.cmp op c z) = .bool (cmpI op (iOf (ev E (fun _ => 0) c)) (iOf (ev E (fun _ => 0) z))) := fun _ _ _ _ => rfl
        have hq : ∀ E : List Value, E.getD 0 (Value.bool false) = txt s → E.getD 6 (Value.bool false) = .int .i64 i → bOf (ev0 E (.pick (.cmp .eql (.sidx (.atom 0) (.ar .add .i64 (.atom 6) (.int .i64 1))) (.int .u8 34)) (.bool true) (.cmp .eql (.sidx (.atom 0) (.ar .add .i64 (.atom 6) (.int .i64 1))) (.int .u8 92)))) = decide (d = 34 ∨ d = 92) := fun E x0 x6 => by
          rw [sp, sc, sc, sy E x0 x6]
          simp only [ev, encB, iOf, cmpI, int_beq, bOf, f34, f92]
          by_cases x : d = 34 <;> simp [x]
        have hn : ∀ E : List Value, E.getD 0 (Value.bool false) = txt s → E.getD 6 (Value.bool false) = .int .i64 i → bOf (ev0 E (.cmp .eql (.sidx (.atom 0) (.ar .add .i64 (.atom 6) (.int .i64 1))) (.int .u8 110))) = decide (d = 110) := fun E x0 x6 => by
          rw [sx0, sy E x0 x6]
          simp only [ev, encB, iOf, cmpI, int_beq, bOf, f110]
        have hx : ∀ E : List Value, E.getD 0 (Value.bool false) = txt s → E.getD 6 (Value.bool false) = .int .i64 i → E.getD 12 (Value.bool false) = .int .i64 (twoI (s.drop (i + 2))) → bOf (ev0 E (.pick (.cmp .eql (.sidx (.atom 0) (.ar .add .i64 (.atom 6) (.int .i64 1))) (.int .u8 120)) (.cmp .geq (.atom 12) (.int .i64 0)) (.bool false))) = decide (d = 120 ∧ 0 ≤ twoI (s.drop (i + 2))) := fun E x0 x6 x12 => by
          rw [sp, sc, sc, sy E x0 x6]
          simp only [ev, x12, encB, iOf, cmpI, int_beq, bOf, f120]
          by_cases x : d = 120 <;> simp [x]
        refine ⟨fun _ => iny _ rfl rfl, fun _ => iny _ rfl rfl, fun h9 => ?_, fun h9 => ?_⟩
        · have h9' := of_decide_eq_true ((hq _ rfl rfl).symm.trans h9)
          refine ⟨fun _ => iny _ rfl rfl, ?_⟩
          refine den_byte d (by
            show ev _ _ _ = _
            exact sy _ rfl rfl) hacc2 (fun _ => rfl) (fun _ => rfl) (by omega) fun u v' H3 a3 => ⟨_, rfl, m - 2, by omega, i + 2, v', out ++ [d], ?_, by omega, by omega, by simp; omega, a3, push d 2 (by rw [hesc, escB, if_pos h9']; rfl)⟩
          simp only [ev0, ev, evV, List.cons_append, List.nil_append, List.getD_cons_zero, List.getD_cons_succ, List.map_cons, List.map_nil, iOf, bOf, sOf, pOf, slLen, slBase, cmpI, arI, Value.ite_bool, int_beq, int_bne, ite_band, ite_bor, i2]
        · have h9' := of_decide_eq_false ((hq _ rfl rfl).symm.trans h9)
          refine ⟨fun _ => iny _ rfl rfl, fun h10 => ?_, fun h10 => ⟨fun _ => iny _ rfl rfl, fun h11 => ?_, fun h11 => ?_⟩⟩
          · have h10' := of_decide_eq_true ((hn _ rfl rfl).symm.trans h10)
            refine den_byte 10 rfl hacc2 (fun _ => rfl) (fun _ => rfl) (by omega) fun u v' H3 a3 => ⟨_, rfl, m - 2, by omega, i + 2, v', out ++ [10], ?_, by omega, by omega, by simp; omega, a3, push 10 2 (by rw [hesc, escB, if_neg h9', if_pos h10']; rfl)⟩
            simp only [ev0, ev, evV, List.cons_append, List.nil_append, List.getD_cons_zero, List.getD_cons_succ, List.map_cons, List.map_nil, iOf, bOf, sOf, pOf, slLen, slBase, cmpI, arI, Value.ite_bool, int_beq, int_bne, ite_band, ite_bor, i2]
          all_goals
            have h10' := of_decide_eq_false ((hn _ rfl rfl).symm.trans h10)
          · have h11' := of_decide_eq_true ((hx _ rfl rfl rfl).symm.trans h11)
            have hlen4 : i + 4 ≤ s.length := by
              have h0 := h11'.2
              rcases Nat.lt_or_ge (i + 3) s.length with x | x
              · omega
              · exfalso
                have : (s.drop (i + 2)).length < 2 := by simp; omega
                match hdd : s.drop (i + 2), this with
                | [], _ => rw [hdd] at h0; revert h0; decide
                | [a], _ => rw [hdd] at h0; have : twoI [a] = -1 := rfl; omega
                | a :: b :: r, this => simp at this; omega
            have htb : 0 ≤ twoI (s.drop (i + 2)) ∧ twoI (s.drop (i + 2)) ≤ 255 := by
              refine ⟨h11'.2, ?_⟩
              match s.drop (i + 2) with
              | [] => decide
              | [a] => show (-1 : Int) ≤ 255; decide
              | a :: b :: r =>
                have x := sixtI_le a
                have y := sixtI_le b
                simp only [twoI]
                split <;> omega
            refine den_byte (UInt8.ofNat (twoI (s.drop (i + 2))).toNat) ?_ hacc2 (fun _ => rfl) (fun _ => rfl) (by omega) fun u v' H3 a3 => ⟨_, rfl, m - 4, by omega, i + 4, v', out ++ [UInt8.ofNat (twoI (s.drop (i + 2))).toNat], ?_, by omega, by omega, by simp; omega, a3, push _ 4 (by rw [hesc, escB, if_neg h9', if_neg h10', if_pos h11']; simp only [Option.bind_some, List.drop_succ_cons, List.drop_drop])⟩
            · show Value.int .u8 (IntKind.u8.wrap (twoI (s.drop (i + 2)))) = _
              rw [wu8 htb.1 htb.2]
              congr 1
              rw [UInt8.toNat_ofNat_of_lt' (by show _ < 256; omega)]; omega
            · simp only [ev0, ev, evV, List.cons_append, List.nil_append, List.getD_cons_zero, List.getD_cons_succ, List.map_cons, List.map_nil, iOf, bOf, sOf, pOf, slLen, slBase, cmpI, arI, Value.ite_bool, int_beq, int_bne, ite_band, ite_bor, i4]
          · have h11' := of_decide_eq_false ((hx _ rfl rfl rfl).symm.trans h11)
            refine ⟨?_, hacc2.all⟩
            have : textB (s.drop i) = none := by rw [hesc, escB, if_neg h9', if_neg h10', if_neg h11']; rfl
            rw [textOne, htx, this]; rfl
  · simp only [ev0, ev, evV, List.cons_append, List.nil_append, List.getD_cons_zero, List.getD_cons_succ, List.map_cons, List.map_nil, iOf, bOf, sOf, pOf, slLen, slBase, cmpI, arI, Value.ite_bool, int_beq, int_bne, ite_band, ite_bor, txt_size, decide_eq_false_iff_not] at h5
    refine ⟨_, rfl, ?_, hacc.all⟩
    have : s.drop i = [] := List.drop_eq_nil_of_le (by omega)
    rw [htx, this]; rfl
end Go.Proofs.YtlnmmakbgldflaaGreatDoor.Vc
/-
  SIGN: the document's answer: numbers, words, a token, all tokens.
-/
namespace Go.Proofs.YtlnmmakbgldflaaGreatDoor.Vc
open Go

theorem valL_mono : ∀ (m l : List UInt8), valL l ≤ valL (l ++ m)
  | [], l => by simp
  | c :: m, l => by
    have h1 := valL_mono m (l ++ [c])
    rw [valL_snoc, List.append_assoc, List.cons_append, List.nil_append] at h1
    omega
theorem signB_digit {s : List UInt8} {c : UInt8} (hc : s[0]? = some c) (h : digitI c.toNat = true) : signB s = false := by
  cases s with
  | nil => simp at hc
  | cons a l =>
    simp at hc
    subst hc
    have := digit_not45 h
    simp [signB, this.1, this.2]
/-- the digits of a number, and whether a sign stands ahead -/
def numDs (s : List UInt8) : List UInt8 := s.drop (if signB s then 1 else 0)
def lowB (s : List UInt8) : Bool := s.getD 0 0 == 45
theorem numI_eq (s : List UInt8) : numI s = if lowB s then -(valL (numDs s) : Int) else valL (numDs s) := by
  unfold numI
  split
  · rfl
  · rename_i l; rfl
  · rename_i h1 h2
    match s with
    | [] => rfl
    | c :: l =>
      have a : c ≠ 45 := fun h => h1 l (by rw [h])
      have b : c ≠ 43 := fun h => h2 l (by rw [h])
      have : signB (c :: l) = false := by simp [signB, a, b]
      have hl : lowB (c :: l) = false := by simp [lowB, a]
      rw [hl]
      simp only [numDs, this, Bool.false_eq_true, if_false, List.drop_zero]
def numOk (s : List UInt8) : Bool := decide (-1152921504606846976 ≤ numI s) && decide (numI s ≤ 1152921504606846975)
theorem tdiv_neg (x : Int) (h : x ≤ 0) : x.tdiv 10 * 10 - x < 10 ∧ x ≤ x.tdiv 10 * 10 ∧ x.tdiv 10 ≤ 0 := by
  have : x.tdiv 10 = -((-x) / 10) := by
    have e : x = -(-x) := by omega
    conv => lhs; rw [e, Int.neg_tdiv, Int.tdiv_eq_ediv_of_nonneg (by omega)]
  rw [this]; omega
theorem RNumber_tri (s : List UInt8) (hs : s.length ≤ 1099511627776) (hnum : numB s = true) (H : PH) : Tri Tryz.prog n_scrimshawref03_Number #[txt s] H fun e H' => ∃ v : Int, e = .returned (.tuple #[.int .i64 v, .bool (numOk s)]) ∧ (numOk s = true → v = numI s) ∧ PH.le H H' := by
  refine tri_scrimshawref03_Number [txt s] (by kernel_rfl) (by kernel_rfl) ?_
  rw [numB_eq] at hnum
  simp only [Bool.and_eq_true, decide_eq_true_eq] at hnum
  obtain ⟨hn1, hn2⟩ := hnum
  have hn2 : (numDs s).all (fun c => digitI c.toNat) = true := hn2
  have hni := numI_eq s
  generalize hsg : (if signB s then 1 else 0 : Nat) = sg at hn1
  have hds : numDs s = s.drop sg := by rw [numDs, hsg]
  have hlow : lowB s = true → sg = 1 := by
    intro h
    rw [← hsg]
    match s, h with
    | c :: l, h =>
      have : c = 45 := by simpa [lowB] using h
      subst this; rfl
  have hsg1 : sg ≤ 1 := by rw [← hsg]; split <;> omega
  refine ⟨fun m vs H' => ∃ (i k : Nat) (z1 z2 : Int) (b1 : Bool), vs = [.int .i64 z1, .bool b1, .int .i64 (-(k : Int)), .bool (decide (0 < i) && lowB s), .int .i64 i] ∧ i + m = s.length ∧ k = valL ((numDs s).take (i - sg)) ∧ k ≤ 1152921504606846976 ∧ PH.le H H', ⟨s.length, 0, 0, 0, 0, false, ?_, by omega, by simp [valL], by omega, PH.le_refl H⟩, ?_⟩
  · simp only [ev0, ev, evV, List.cons_append, List.nil_append, List.getD_cons_zero, List.getD_cons_succ, List.map_cons, List.map_nil, iOf, bOf, sOf, pOf, slLen, slBase, cmpI, arI, Value.ite_bool, int_beq, int_bne, ite_band, ite_bor]; rfl
  rintro m vs H' _ ⟨i, k, z1, z2, b1, rfl, hm, hk, hkb, hle⟩
  have i1 := plus1 (a := i) (by omega)
  refine ⟨fun h5 => ?_, fun h5 => ?_⟩
  · simp only [ev0, ev, evV, List.cons_append, List.nil_append, List.getD_cons_zero, List.getD_cons_succ, List.map_cons, List.map_nil, iOf, bOf, sOf, pOf, slLen, slBase, cmpI, arI, Value.ite_bool, int_beq, int_bne, ite_band, ite_bor, txt_size, decide_eq_true_eq] at h5
    obtain ⟨c, hc⟩ : ∃ c, s[i]? = some c := ⟨_, List.getElem?_eq_getElem (by omega)⟩
    have hgc := get_txt hc
    have hcl := UInt8.toNat_lt c
    have hcw : IntKind.i64.wrap (c.toNat : Int) = (c.toNat : Int) := w64 (by omega) (by omega)
    refine ⟨fun vs H2 => (∃ k' : Nat, vs = [.int .i64 (-(k' : Int)), .bool (lowB s)] ∧ k' = valL ((numDs s).take (i + 1 - sg)) ∧ k' ≤ 1152921504606846976) ∧ PH.le H H2, ?_, fun _ => inStr_of rfl rfl (by omega), ?_⟩
    · rintro vs H2 _ ⟨⟨k', rfl, hk', hkb'⟩, hl2⟩
      refine ⟨_, rfl, m - 1, by omega, i + 1, k', z1, z2, b1, ?_, by omega, hk', hkb', hl2⟩
      simp only [ev0, ev, evV, List.cons_append, List.nil_append, List.getD_cons_zero, List.getD_cons_succ, List.map_cons, List.map_nil, iOf, bOf, sOf, pOf, slLen, slBase, cmpI, arI, Value.ite_bool, int_beq, int_bne, ite_band, ite_bor, i1]
      simp
    refine den_gives [.bool (digitI c.toNat)] cb_scrimshawref02_Digit ?_ rfl pendNil fun H2 l2 => ?_
    · have := Digit_gives (c.toNat : Int) H'
      simp only [ev0, ev, evV, List.cons_append, List.nil_append, List.getD_cons_zero, List.getD_cons_succ, List.map_cons, List.map_nil, iOf, bOf, sOf, pOf, slLen, slBase, cmpI, arI, Value.ite_bool, int_beq, int_bne, ite_band, ite_bor, hgc]
      exact this
    have l02 := PH.le_trans hle l2
    refine ⟨fun h6 => ⟨fun _ => inStr_of rfl rfl (by omega), ?_⟩, fun h6 => ⟨fun _ => inStr_of rfl rfl (by omega), fun h7 => ?_, fun h7 => ?_⟩⟩
    · simp only [ev0, ev, evV, List.cons_append, List.nil_append, List.getD_cons_zero, List.getD_cons_succ, List.map_cons, List.map_nil, iOf, bOf, sOf, pOf, slLen, slBase, cmpI, arI, Value.ite_bool, int_beq, int_bne, ite_band, ite_bor, Bool.not_eq_true'] at h6
      -- the sign: it is the first byte
      have hi0 : i = 0 ∧ sg = 1 := by
        rcases Nat.lt_or_ge i sg with x | x
        · omega
        · exfalso
          have : c ∈ numDs s := by
            rw [hds]
            exact List.mem_of_getElem? (i := i - sg) (by rw [List.getElem?_drop, show sg + (i - sg) = i by omega]; exact hc)
          have := List.all_eq_true.1 hn2 c this
          rw [this] at h6; cases h6
      obtain ⟨rfl, hsg0⟩ := hi0
      refine ⟨_, rfl, ⟨k, ?_, ?_, hkb⟩, l02⟩
      · simp only [ev0, ev, evV, List.cons_append, List.nil_append, List.getD_cons_zero, List.getD_cons_succ, List.map_cons, List.map_nil, iOf, bOf, sOf, pOf, slLen, slBase, cmpI, arI, Value.ite_bool, int_beq, int_bne, ite_band, ite_bor, hgc]
        have e45 : ((c.toNat : Int) = 45) ↔ c = 45 := u8_eq_lit c 45 (by omega)
        have : lowB s = decide ((c.toNat : Int) = 45) := by
          have h0 : s.getD 0 0 = c := by rw [List.getD_eq_getElem?_getD, hc]; rfl
          rw [lowB, h0]
          by_cases x : c = 45 <;> simp [x, e45]
        rw [this]
      · rw [hk, hsg0]
    all_goals
      simp only [ev0, ev, evV, List.cons_append, List.nil_append, List.getD_cons_zero, List.getD_cons_succ, List.map_cons, List.map_nil, iOf, bOf, sOf, pOf, slLen, slBase, cmpI, arI, Value.ite_bool, int_beq, int_bne, ite_band, ite_bor, Bool.not_eq_false'] at h6
      have hig : sg ≤ i := by
        rcases Nat.lt_or_ge i sg with x | x
        · exfalso
          have h0 : i = 0 := by omega
          subst h0
          rw [signB_digit hc h6] at hsg
          simp at hsg; omega
        · exact x
      have hdg : 48 ≤ c.toNat ∧ c.toNat ≤ 57 := by
        unfold digitI at h6
        by_cases x : (48 : Int) ≤ (c.toNat : Int)
        · rw [if_pos x, decide_eq_true_eq] at h6; omega
        · rw [if_neg x] at h6; cases h6
      have hd48 : IntKind.i64.wrap ((c.toNat : Int) - 48) = ((c.toNat - 48 : Nat) : Int) := by rw [w64 (by omega) (by omega)]; omega
      have hq0 : IntKind.i64.wrap (-1152921504606846976 + ((c.toNat - 48 : Nat) : Int)) = -1152921504606846976 + ((c.toNat - 48 : Nat) : Int) := w64 (by omega) (by omega)
      have htd := tdiv_neg (-1152921504606846976 + ((c.toNat - 48 : Nat) : Int)) (by omega)
      have hq1 : IntKind.i64.wrap ((-1152921504606846976 + ((c.toNat - 48 : Nat) : Int)).tdiv 10) = (-1152921504606846976 + ((c.toNat - 48 : Nat) : Int)).tdiv 10 := w64 (by omega) (by omega)
      have hnext : valL ((numDs s).take (i + 1 - sg)) = 10 * k + (c.toNat - 48) := by
        have hci : (numDs s)[i - sg]? = some c := by rw [hds, List.getElem?_drop, show sg + (i - sg) = i by omega]; exact hc
        rw [show i + 1 - sg = (i - sg) + 1 by omega, List.take_add_one, hci, Option.toList_some, valL_snoc, ← hk]
    · simp only [ev0, ev, evV, List.cons_append, List.nil_append, List.getD_cons_zero, List.getD_cons_succ, List.map_cons, List.map_nil, iOf, bOf, sOf, pOf, slLen, slBase, cmpI, arI, Value.ite_bool, int_beq, int_bne, ite_band, ite_bor, hgc, hcw, hd48, hq0, hq1] at h7
      rw [decide_eq_true_eq] at h7
      have hbig : 1152921504606846976 < valL (numDs s) := by
        have h1 := valL_mono ((numDs s).drop (i + 1 - sg)) ((numDs s).take (i + 1 - sg))
        rw [List.take_append_drop, hnext] at h1
        omega
      have hno : numOk s = false := by
        unfold numOk
        rw [hni]
        cases lowB s <;> simp <;> omega
      refine ⟨0, ?_, fun h => absurd h (by rw [hno]; simp), l02⟩
      rw [hno]; rfl
    · simp only [ev0, ev, evV, List.cons_append, List.nil_append, List.getD_cons_zero, List.getD_cons_succ, List.map_cons, List.map_nil, iOf, bOf, sOf, pOf, slLen, slBase, cmpI, arI, Value.ite_bool, int_beq, int_bne, ite_band, ite_bor, hgc, hcw, hd48, hq0, hq1] at h7
      rw [decide_eq_false_iff_not] at h7
      have e1 : IntKind.i64.wrap (10 * -(k : Int)) = 10 * -(k : Int) := w64 (by omega) (by omega)
      have e2 : IntKind.i64.wrap (10 * -(k : Int) - ((c.toNat - 48 : Nat) : Int)) = -((10 * k + (c.toNat - 48) : Nat) : Int) := by rw [w64 (by omega) (by omega)]; omega
      refine ⟨_, rfl, ⟨10 * k + (c.toNat - 48), ?_, hnext.symm, by omega⟩, l02⟩
      simp only [ev0, ev, evV, List.cons_append, List.nil_append, List.getD_cons_zero, List.getD_cons_succ, List.map_cons, List.map_nil, iOf, bOf, sOf, pOf, slLen, slBase, cmpI, arI, Value.ite_bool, int_beq, int_bne, ite_band, ite_bor, hgc, hcw, hd48, e1, e2]
      have hlw : (decide (0 < i) && lowB s) = lowB s := by
        cases hlb : lowB s with
        | false => simp
        | true =>
          have := hlow hlb
          have : 0 < i := by omega
          simp [this]
      rw [hlw]
  · simp only [ev0, ev, evV, List.cons_append, List.nil_append, List.getD_cons_zero, List.getD_cons_succ, List.map_cons, List.map_nil, iOf, bOf, sOf, pOf, slLen, slBase, cmpI, arI, Value.ite_bool, int_beq, int_bne, ite_band, ite_bor, txt_size, decide_eq_false_iff_not] at h5
    have hi : i = s.length := by omega
    subst hi
    have hkk : k = valL (numDs s) := by
      rw [hk, List.take_of_length_le]
      rw [hds, List.length_drop]; omega
    have hpos : 0 < s.length := by omega
    have hlw : (decide (0 < s.length) && lowB s) = lowB s := by simp [hpos]
    rw [hlw]
    refine ⟨fun h6 => ?_, fun h6 => ?_⟩
    · have h6 : lowB s = true := h6
      rw [h6] at hni
      simp only [if_true] at hni
      refine ⟨-(k : Int), ?_, fun _ => by rw [hni, hkk], hle⟩
      have : numOk s = decide (-(k : Int) ≥ -1152921504606846976) := by
        unfold numOk
        rw [hni, hkk]
        have : decide (-(valL (numDs s) : Int) ≤ 1152921504606846975) = true := decide_eq_true (by omega)
        rw [this]; simp
      rw [this, evV_tu2]
      simp only [ev0, ev, evV, List.cons_append, List.nil_append, List.getD_cons_zero, List.getD_cons_succ, List.map_cons, List.map_nil, iOf, bOf, sOf, pOf, slLen, slBase, cmpI, arI, Value.ite_bool, int_beq, int_bne, ite_band, ite_bor]
    · have h6 : lowB s = false := h6
      rw [h6] at hni
      simp only [Bool.false_eq_true, if_false] at hni
      refine ⟨(k : Int), ?_, fun _ => by rw [hni, hkk], hle⟩
      have : numOk s = decide (-(k : Int) > -1152921504606846976) := by
        unfold numOk
        rw [hni, hkk]
        have : decide (-1152921504606846976 ≤ (valL (numDs s) : Int)) = true := decide_eq_true (by omega)
        rw [this, Bool.true_and, decide_eq_decide]; omega
      rw [this, evV_tu2]
      have e : IntKind.i64.wrap (0 - -(k : Int)) = (k : Int) := by rw [w64 (by omega) (by omega)]; omega
      simp only [ev0, ev, evV, List.cons_append, List.nil_append, List.getD_cons_zero, List.getD_cons_succ, List.map_cons, List.map_nil, iOf, bOf, sOf, pOf, slLen, slBase, cmpI, arI, Value.ite_bool, int_beq, int_bne, ite_band, ite_bor, e]
end Go.Proofs.YtlnmmakbgldflaaGreatDoor.Vc
/-
  SIGN: the document's answer: a token, all tokens.
-/
namespace Go.Proofs.YtlnmmakbgldflaaGreatDoor.Vc
open Go

abbrev zeroTk : Value := .agg #[.int .i64 0, txt [], .int .i64 0, .int .i64 0, .int .i64 0]
theorem evV_tok2 (E : List Value) (r : Nat → Nat) (cs : List SV) (a : SV) : evV E r (.tu [(true, cs), (false, [a])]) = .tuple #[.agg (cs.map (ev E r)).toArray, ev E r a] := rfl
def One.val2 : One → Value
  | .bad e => .tuple #[zeroTk, .int .i64 e]
  | .tok kd x n _ => .tuple #[.agg #[.int .i64 kd, txt x, .int .i64 n, .int .i64 0, .int .i64 0], .int .i64 0]
theorem Rword_gives (w : List UInt8) (hs : w.length ≤ 1099511627776) (hw : w ≠ []) (H : PH) : Gives Tryz.prog n_scrimshawref03_word [txt w] H (wordT w).val2 := by
  refine tri_scrimshawref03_word [txt w] (by kernel_rfl) (by kernel_rfl) ?_
  refine ⟨fun h => ?_, fun h => ?_⟩
  · simp only [ev0, ev, evV, List.cons_append, List.nil_append, List.getD_cons_zero, List.getD_cons_succ, List.map_cons, List.map_nil, iOf, bOf, sOf, pOf, slLen, slBase, cmpI, arI, Value.ite_bool, int_beq, int_bne, ite_band, ite_bor, txt_eql] at h
    rw [decide_eq_true_eq] at h
    refine ⟨?_, PH.le_refl H⟩
    rw [wordT, if_neg hw, if_pos h]; rfl
  simp only [ev0, ev, evV, List.cons_append, List.nil_append, List.getD_cons_zero, List.getD_cons_succ, List.map_cons, List.map_nil, iOf, bOf, sOf, pOf, slLen, slBase, cmpI, arI, Value.ite_bool, int_beq, int_bne, ite_band, ite_bor, txt_eql] at h
  rw [decide_eq_false_iff_not] at h
  refine den_gives [.bool (numB w)] cb_scrimshawref02_Number (Number_gives w (by simp only [maxLen]; omega) H) rfl pendNil fun H1 l1 => ⟨fun h2 => ?_, fun h2 => ⟨fun h3 => ?_, fun h3 => ?_⟩⟩
  · have h2 : numB w = true := h2
    refine den_call cb_scrimshawref03_Number (RNumber_tri w hs h2 H1) ?_
    rintro e H2 ⟨v, rfl, hv, l2⟩
    have l12 := PH.le_trans l1 l2
    refine ⟨_, [.int .i64 v, .bool (numOk w)], rfl, rfl, rfl, pendNil, fun h3 => ?_, fun h3 => ?_⟩
    · have h3 : numOk w = false := by simpa [ev0, ev, evV, List.cons_append, List.nil_append, List.getD_cons_zero, List.getD_cons_succ, List.map_cons, List.map_nil, iOf, bOf, sOf, pOf, slLen, slBase, cmpI, arI, Value.ite_bool] using h3
      refine ⟨?_, l12⟩
      have h4 : numI w < -1152921504606846976 ∨ 1152921504606846975 < numI w := by
        simp only [numOk, Bool.and_eq_false_iff, decide_eq_false_iff_not] at h3; omega
      rw [wordT, if_neg hw, if_neg h, if_pos h2, if_pos h4]; rfl
    · have h3 : numOk w = true := by simpa [ev0, ev, evV, List.cons_append, List.nil_append, List.getD_cons_zero, List.getD_cons_succ, List.map_cons, List.map_nil, iOf, bOf, sOf, pOf, slLen, slBase, cmpI, arI, Value.ite_bool] using h3
      refine ⟨?_, l12⟩
      have h4 : ¬ (numI w < -1152921504606846976 ∨ 1152921504606846975 < numI w) := by
        simp only [numOk, Bool.and_eq_true, decide_eq_true_eq] at h3; omega
      rw [wordT, if_neg hw, if_neg h, if_pos h2, if_neg h4, evV_tok2]
      simp only [ev0, ev, evV, List.cons_append, List.nil_append, List.getD_cons_zero, List.getD_cons_succ, List.map_cons, List.map_nil, iOf, bOf, sOf, pOf, slLen, slBase, cmpI, arI, Value.ite_bool, int_beq, int_bne, ite_band, ite_bor, One.val2, hv h3]
  all_goals
    have h2 : ¬ numB w = true := fun x => by have h2 : numB w = false := h2; rw [x] at h2; cases h2
  · simp only [ev0, ev, evV, List.cons_append, List.nil_append, List.getD_cons_zero, List.getD_cons_succ, List.map_cons, List.map_nil, iOf, bOf, sOf, pOf, slLen, slBase, cmpI, arI, Value.ite_bool, int_beq, int_bne, ite_band, ite_bor, txt_size, decide_eq_true_eq] at h3
    refine ⟨?_, l1⟩
    rw [wordT, if_neg hw, if_neg h, if_neg h2, if_pos (by omega)]; rfl
  · simp only [ev0, ev, evV, List.cons_append, List.nil_append, List.getD_cons_zero, List.getD_cons_succ, List.map_cons, List.map_nil, iOf, bOf, sOf, pOf, slLen, slBase, cmpI, arI, Value.ite_bool, int_beq, int_bne, ite_band, ite_bor, txt_size, decide_eq_false_iff_not] at h3
    refine ⟨?_, l1⟩
    rw [wordT, if_neg hw, if_neg h, if_neg h2, if_neg (by omega)]; rfl

theorem oneL_cons (c : UInt8) (r : List UInt8) : oneL (c :: r) = if c = 40 then .tok 0 [] 0 1 else if c = 41 then .tok 1 [] 0 1 else if c = 39 then .tok 3 [] 0 1 else if c = 35 then hashL r else if c = 34 then (match textB r with | none => .bad 32 | some (x, s) => .tok 8 x 0 (r.length + 1 - s.length)) else wordT (wordL (c :: r)) := by
  unfold oneL
  split
  · simp_all
  · simp_all
  · simp_all
  · simp_all
  · rename_i h; simp only [List.cons.injEq] at h; obtain ⟨rfl, rfl⟩ := h; rfl
  · rename_i h1 h2 h3 h4 h5
    rw [if_neg (fun x => h1 r (by rw [x])), if_neg (fun x => h2 r (by rw [x])), if_neg (fun x => h3 r (by rw [x])), if_neg (fun x => h4 r (by rw [x])), if_neg (fun x => h5 r (by rw [x]))]
def One.ok (o : One) (v : Value) : Prop := match o with
  | .bad e => ∃ n : Int, v = .tuple #[zeroTk, .int .i64 n, .int .i64 e]
  | .tok kd x n m => v = .tuple #[.agg #[.int .i64 kd, txt x, .int .i64 n, .int .i64 0, .int .i64 0], .int .i64 (m : Nat), .int .i64 0]
theorem One.ok_val (o : One) : o.ok o.val := by
  cases o with
  | bad e => exact ⟨0, rfl⟩
  | tok kd x n m => rfl
def One.row (o : One) (vs : List Value) : Prop := match o with
  | .bad e => ∃ n : Int, vs = [.int .i64 0, txt [], .int .i64 0, .int .i64 0, .int .i64 0, .int .i64 n, .int .i64 e]
  | .tok kd x n m => vs = [.int .i64 kd, txt x, .int .i64 n, .int .i64 0, .int .i64 0, .int .i64 (m : Nat), .int .i64 0]
/-- an answer of three parts, as a row -/
theorem One.ok_vs {o : One} {v : Value} (h : o.ok v) : ∃ vs, v = .tuple #[.agg (vs.take 5).toArray, vs.getD 5 (.bool false), vs.getD 6 (.bool false)] ∧ tagsOk [.int .i64, .str, .int .i64, .int .i64, .int .i64, .int .i64, .int .i64] vs = true ∧ o.row vs := by
  cases o with
  | bad e => obtain ⟨n, rfl⟩ := h; exact ⟨_, rfl, rfl, n, rfl⟩
  | tok kd x n m => obtain rfl := h; exact ⟨_, rfl, rfl, rfl⟩
theorem Rone_tri (s : List UInt8) (k : Nat) (hs : s.length ≤ 1099511627776) (hk : k < s.length) (H : PH) : Tri Tryz.prog n_scrimshawref03_one #[txt s, .int .i64 k] H fun e H' => ∃ v, e = .returned v ∧ (oneL (s.drop k)).ok v ∧ PH.le H H' := by
  refine tri_scrimshawref03_one [txt s, .int .i64 k] (by kernel_rfl) (by kernel_rfl) ?_
  obtain ⟨c, hc⟩ : ∃ c, s[k]? = some c := ⟨_, List.getElem?_eq_getElem hk⟩
  have hd := drop_get hc
  have hgc := get_txt hc
  have e40 : ((c.toNat : Int) = 40) ↔ c = 40 := u8_eq_lit c 40 (by omega)
  have e41 : ((c.toNat : Int) = 41) ↔ c = 41 := u8_eq_lit c 41 (by omega)
  have e39 : ((c.toNat : Int) = 39) ↔ c = 39 := u8_eq_lit c 39 (by omega)
  have e35 : ((c.toNat : Int) = 35) ↔ c = 35 := u8_eq_lit c 35 (by omega)
  have e34 : ((c.toNat : Int) = 34) ↔ c = 34 := u8_eq_lit c 34 (by omega)
  have hrl : (s.drop (k + 1)).length = s.length - (k + 1) := by simp
  rw [hd, oneL_cons]
  refine ⟨fun _ => inStr_of rfl rfl hk, fun h => ?_, fun h => ⟨fun h1 => ?_, fun h1 => ⟨fun h2 => ?_, fun h2 => ⟨fun h3 => ?_, fun h3 => ⟨fun h4 => ?_, fun h4 => ?_⟩⟩⟩⟩⟩
  · simp only [ev0, ev, evV, List.cons_append, List.nil_append, List.getD_cons_zero, List.getD_cons_succ, List.map_cons, List.map_nil, iOf, bOf, sOf, pOf, slLen, slBase, cmpI, arI, Value.ite_bool, int_beq, int_bne, ite_band, ite_bor, hgc, decide_eq_true_eq] at h
    rw [if_pos (e40.1 h)]
    exact ⟨_, rfl, rfl, PH.le_refl H⟩
  all_goals
    simp only [ev0, ev, evV, List.cons_append, List.nil_append, List.getD_cons_zero, List.getD_cons_succ, List.map_cons, List.map_nil, iOf, bOf, sOf, pOf, slLen, slBase, cmpI, arI, Value.ite_bool, int_beq, int_bne, ite_band, ite_bor, hgc, decide_eq_false_iff_not] at h
    rw [if_neg (fun x => h (e40.2 x))]
  · simp only [ev0, ev, evV, List.cons_append, List.nil_append, List.getD_cons_zero, List.getD_cons_succ, List.map_cons, List.map_nil, iOf, bOf, sOf, pOf, slLen, slBase, cmpI, arI, Value.ite_bool, int_beq, int_bne, ite_band, ite_bor, hgc, decide_eq_true_eq] at h1
    rw [if_pos (e41.1 h1)]
    exact ⟨_, rfl, rfl, PH.le_refl H⟩
  all_goals
    simp only [ev0, ev, evV, List.cons_append, List.nil_append, List.getD_cons_zero, List.getD_cons_succ, List.map_cons, List.map_nil, iOf, bOf, sOf, pOf, slLen, slBase, cmpI, arI, Value.ite_bool, int_beq, int_bne, ite_band, ite_bor, hgc, decide_eq_false_iff_not] at h1
    rw [if_neg (fun x => h1 (e41.2 x))]
  · simp only [ev0, ev, evV, List.cons_append, List.nil_append, List.getD_cons_zero, List.getD_cons_succ, List.map_cons, List.map_nil, iOf, bOf, sOf, pOf, slLen, slBase, cmpI, arI, Value.ite_bool, int_beq, int_bne, ite_band, ite_bor, hgc, decide_eq_true_eq] at h2
    rw [if_pos (e39.1 h2)]
    exact ⟨_, rfl, rfl, PH.le_refl H⟩
  all_goals
    simp only [ev0, ev, evV, List.cons_append, List.nil_append, List.getD_cons_zero, List.getD_cons_succ, List.map_cons, List.map_nil, iOf, bOf, sOf, pOf, slLen, slBase, cmpI, arI, Value.ite_bool, int_beq, int_bne, ite_band, ite_bor, hgc, decide_eq_false_iff_not] at h2
    rw [if_neg (fun x => h2 (e39.2 x))]
  · simp only [ev0, ev, evV, List.cons_append, List.nil_append, List.getD_cons_zero, List.getD_cons_succ, List.map_cons, List.map_nil, iOf, bOf, sOf, pOf, slLen, slBase, cmpI, arI, Value.ite_bool, int_beq, int_bne, ite_band, ite_bor, hgc, decide_eq_true_eq] at h3
    rw [if_pos (e35.1 h3)]
    refine den_call cb_scrimshawref03_hash (Rhash_gives s k (by omega) hk H) ?_
    rintro e H1 ⟨rfl, l1⟩
    obtain ⟨vs, h5, h6, h7⟩ := One.ok_vs (One.ok_val (hashL (s.drop (k + 1))))
    have hlen := tagsOk_length h6
    match vs, hlen with
    | [a0, a1, a2, a3, a4, a5, a6], _ =>
      refine ⟨_, [a0, a1, a2, a3, a4, a5, a6], rfl, h6, h5, pendNil, _, rfl, ?_, l1⟩
      have : One.ok (hashL (s.drop (k + 1))) (hashL (s.drop (k + 1))).val := One.ok_val _
      rw [h5] at this
      exact this
  all_goals
    simp only [ev0, ev, evV, List.cons_append, List.nil_append, List.getD_cons_zero, List.getD_cons_succ, List.map_cons, List.map_nil, iOf, bOf, sOf, pOf, slLen, slBase, cmpI, arI, Value.ite_bool, int_beq, int_bne, ite_band, ite_bor, hgc, decide_eq_false_iff_not] at h3
    rw [if_neg (fun x => h3 (e35.2 x))]
  · simp only [ev0, ev, evV, List.cons_append, List.nil_append, List.getD_cons_zero, List.getD_cons_succ, List.map_cons, List.map_nil, iOf, bOf, sOf, pOf, slLen, slBase, cmpI, arI, Value.ite_bool, int_beq, int_bne, ite_band, ite_bor, hgc, decide_eq_true_eq] at h4
    rw [if_pos (e34.1 h4)]
    refine den_call cb_scrimshawref03_text (Rtext_gives s k hs hk H) ?_
    rintro e H1 ⟨rfl, l1⟩
    have hto : textOne s k = (match textB (s.drop (k + 1)) with | none => One.bad 32 | some (x, s_1) => .tok 8 x 0 ((s.drop (k + 1)).length + 1 - s_1.length)) := by
      unfold textOne
      cases textB (s.drop (k + 1)) with
      | none => rfl
      | some x => simp only [hrl]; congr 1; omega
    rw [← hto]
    obtain ⟨vs, h5, h6, h7⟩ := One.ok_vs (One.ok_val (textOne s k))
    have hlen := tagsOk_length h6
    match vs, hlen with
    | [a0, a1, a2, a3, a4, a5, a6], _ =>
      refine ⟨_, [a0, a1, a2, a3, a4, a5, a6], rfl, h6, h5, pendNil, _, rfl, ?_, l1⟩
      have : One.ok (textOne s k) (textOne s k).val := One.ok_val _
      rw [h5] at this
      exact this
  · simp only [ev0, ev, evV, List.cons_append, List.nil_append, List.getD_cons_zero, List.getD_cons_succ, List.map_cons, List.map_nil, iOf, bOf, sOf, pOf, slLen, slBase, cmpI, arI, Value.ite_bool, int_beq, int_bne, ite_band, ite_bor, hgc, decide_eq_false_iff_not] at h4
    rw [if_neg (fun x => h4 (e34.2 x)), ← hd]
    have hwl := wordL_le (s.drop k)
    rw [List.length_drop] at hwl
    have hwt := wordL_take (s.drop k)
    generalize hw : wordL (s.drop k) = w at hwl hwt
    have pk := plus (a := k) (b := w.length) (by omega)
    refine den_gives [.int .i64 (w.length : Nat)] cb_scrimshawref03_Word (by have := Word_gives s k (by omega) (by omega) H; rw [hw] at this; exact this) rfl pendNil fun H1 l1 => ⟨fun h5 => ?_, fun h5 => ?_⟩
    · simp only [ev0, ev, evV, List.cons_append, List.nil_append, List.getD_cons_zero, List.getD_cons_succ, List.map_cons, List.map_nil, iOf, bOf, sOf, pOf, slLen, slBase, cmpI, arI, Value.ite_bool, int_beq, int_bne, ite_band, ite_bor, decide_eq_true_eq] at h5
      have : w = [] := List.length_eq_zero_iff.1 (by omega)
      rw [this, wordT, if_pos rfl]
      exact ⟨_, rfl, ⟨0, rfl⟩, l1⟩
    · simp only [ev0, ev, evV, List.cons_append, List.nil_append, List.getD_cons_zero, List.getD_cons_succ, List.map_cons, List.map_nil, iOf, bOf, sOf, pOf, slLen, slBase, cmpI, arI, Value.ite_bool, int_beq, int_bne, ite_band, ite_bor, decide_eq_false_iff_not] at h5
      have hne : w ≠ [] := fun x => h5 (by rw [x]; rfl)
      have hcut : (⟨s.toArray⟩ : ByteArray).extract k (k + w.length) = ⟨w.toArray⟩ := by
        rw [extract_txt]
        have : (s.take (k + w.length)).drop k = w := by
          rw [List.drop_take, show k + w.length - k = w.length by omega]; exact hwt
        rw [this]
      refine ⟨fun _ => ?_, ?_⟩
      · simp only [Chk.holds, ev0, ev, evV, List.cons_append, List.nil_append, List.getD_cons_zero, List.getD_cons_succ, List.map_cons, List.map_nil, iOf, bOf, sOf, pOf, slLen, slBase, cmpI, arI, Value.ite_bool, int_beq, int_bne, ite_band, ite_bor, pk, txt_size]; omega
      have hcall := Rword_gives w (by omega) hne H1
      refine den_call cb_scrimshawref03_word (R := fun e H' => e = .returned (wordT w).val2 ∧ PH.le H1 H') (by
        simp only [ev0, ev, evV, List.cons_append, List.nil_append, List.getD_cons_zero, List.getD_cons_succ, List.map_cons, List.map_nil, iOf, bOf, sOf, pOf, slLen, slBase, cmpI, arI, Value.ite_bool, int_beq, int_bne, ite_band, ite_bor, pk, Int.toNat_natCast, hcut]
        exact hcall) ?_
      rintro e H2 ⟨rfl, l2⟩
      have l12 := PH.le_trans l1 l2
      cases hwT : wordT w with
      | bad e => exact ⟨_, [.int .i64 0, txt [], .int .i64 0, .int .i64 0, .int .i64 0, .int .i64 e], rfl, rfl, rfl, pendNil, _, rfl, ⟨_, rfl⟩, l12⟩
      | tok kd x n m =>
        have hm : m = w.length := by
          unfold wordT at hwT
          rw [if_neg hne] at hwT
          split at hwT
          · rename_i hx; cases hwT; rw [hx]; rfl
          split at hwT
          · split at hwT
            · cases hwT
            · cases hwT; rfl
          split at hwT
          · cases hwT
          · cases hwT; rfl
        refine ⟨_, [.int .i64 kd, txt x, .int .i64 n, .int .i64 0, .int .i64 0, .int .i64 0], rfl, rfl, rfl, pendNil, _, rfl, ?_, l12⟩
        rw [hm]; rfl

/-! ### all tokens -/
theorem textB_len : ∀ (n : Nat) (l x r : List UInt8), l.length ≤ n → textB l = some (x, r) → r.length + 1 ≤ l.length
  | 0, l, x, r, hl, h => by
    have : l = [] := List.length_eq_zero_iff.1 (by omega)
    subst this; cases h
  | n + 1, [], x, r, _, h => by cases h
  | n + 1, c :: l, x, r, hl, h => by
    simp only [List.length_cons] at hl ⊢
    by_cases h1 : c = 34
    · subst h1; rw [textB_end] at h; cases h; omega
    by_cases h2 : c = 92
    · subst h2
      rw [textB_esc] at h
      obtain ⟨y, h3, h4⟩ := Option.bind_eq_some_iff.1 h
      obtain ⟨z, h5, h6⟩ := Option.map_eq_some_iff.1 h4
      cases h6
      have := textB_len n (l.drop y.2) z.1 z.2 (by simp; omega) h5
      simp at this; omega
    · rw [textB_plain h1 h2] at h
      obtain ⟨z, h5, h6⟩ := Option.map_eq_some_iff.1 h
      cases h6
      have := textB_len n l z.1 z.2 (by omega) h5
      omega
theorem one_len {l : List UInt8} {kd n : Int} {x : List UInt8} {m : Nat} (hl : l ≠ []) (h : oneL l = .tok kd x n m) : 1 ≤ m ∧ m ≤ l.length := by
  cases l with
  | nil => exact absurd rfl hl
  | cons c r =>
    rw [oneL_cons] at h
    simp only [List.length_cons]
    split at h
    · cases h; omega
    split at h
    · cases h; omega
    split at h
    · cases h; omega
    split at h
    · unfold hashL at h
      split at h
      · cases h; simp
      · rename_i d r'
        have hw := wordL_le (d :: r')
        simp only [List.length_cons] at hw
        dsimp only at h
        have hwl : (if wordL (d :: r') = [] then [d] else wordL (d :: r')).length ≤ r'.length + 1 := by
          split
          · simp
          · exact hw
        generalize (if wordL (d :: r') = [] then [d] else wordL (d :: r')) = w at h hwl
        split at h
        · cases h
        · cases h
          simp only [List.length_cons]; omega
      · have hw := wordL_le r
        split at h
        · rename_i hx; cases h; rw [hx] at hw; simp at hw; omega
        split at h
        · rename_i hx; cases h; rw [hx] at hw; simp at hw; omega
        · cases h
    split at h
    · split at h
      · cases h
      · rename_i y s hx
        cases h
        have := textB_len _ _ _ _ (Nat.le_refl _) hx
        omega
    · have hw := wordL_le (c :: r)
      simp only [List.length_cons] at hw
      generalize wordL (c :: r) = w at h hw
      unfold wordT at h
      split at h
      · cases h
      rename_i hne
      have hpos : 0 < w.length := List.length_pos_iff.2 hne
      split at h
      · rename_i hx; cases h; omega
      split at h
      · split at h
        · cases h
        · cases h; omega
      split at h
      · cases h
      · cases h; omega
theorem toks_fuel (tot : Nat) : ∀ (n : Nat) (l : List UInt8) (f g k : Nat), l.length ≤ n → l.length < f → l.length < g → toks tot f l k = toks tot g l k
  | n, [], f, g, k, _, hf, hg => by
    obtain ⟨f, rfl⟩ : ∃ f', f = f' + 1 := ⟨f - 1, by omega⟩
    obtain ⟨g, rfl⟩ : ∃ g', g = g' + 1 := ⟨g - 1, by omega⟩
    rfl
  | 0, c :: r, f, g, k, h, _, _ => by simp at h
  | n + 1, c :: r, f, g, k, h, hf, hg => by
    obtain ⟨f, rfl⟩ : ∃ f', f = f' + 1 := ⟨f - 1, by omega⟩
    obtain ⟨g, rfl⟩ : ∃ g', g = g' + 1 := ⟨g - 1, by omega⟩
    simp only [toks]
    split
    · rfl
    cases ho : oneL (c :: r) with
    | bad e => rfl
    | tok kd x i m =>
      have hm := one_len (by simp) ho
      have hg1 := gapL_len false ((c :: r).drop m)
      simp only [List.length_drop, List.length_cons] at hg1 hm h hf hg
      simp only
      rw [toks_fuel tot n _ f g (k + 1) (by omega) (by omega) (by omega)]
/-- the tokens of what is left -/
def tokL (tot : Nat) (l : List UInt8) (k : Nat) : Toks := toks tot (l.length + 1) l k
theorem tokL_nil (tot k : Nat) : tokL tot [] k = .all [] := rfl
theorem tokL_cons (tot k : Nat) {l : List UInt8} (hl : l ≠ []) : tokL tot l k = if k = 2048 then .bad (tot - l.length : Nat) 34 else match oneL l with
    | .bad e => .bad (tot - l.length : Nat) e
    | .tok kd x n m => (tokL tot (gapL false (l.drop m)) (k + 1)).cons (.mk kd x n (tot - l.length : Nat) (tot - l.length + m : Nat)) := by
  cases l with
  | nil => exact absurd rfl hl
  | cons c r =>
    unfold tokL
    simp only [toks]
    split
    · rfl
    cases ho : oneL (c :: r) with
    | bad e => rfl
    | tok kd x i m =>
      have hm := one_len (by simp) ho
      have hg1 := gapL_len false ((c :: r).drop m)
      simp only [List.length_drop, List.length_cons] at hg1 hm
      simp only [List.length_cons]
      rw [toks_fuel tot _ _ (r.length + 1) ((gapL false ((c :: r).drop m)).length + 1) (k + 1) (Nat.le_refl _) (by omega) (by omega)]
theorem tokens_eq (s : List UInt8) : tokens s = if 4096 < s.length then .bad 0 35 else tokL s.length (gapL false s) 0 := by
  unfold tokens
  split
  · rfl
  · have := gapL_len false s
    exact toks_fuel _ _ _ _ _ _ (Nat.le_refl _) (by omega) (by omega)
end Go.Proofs.YtlnmmakbgldflaaGreatDoor.Vc
/-
  SIGN: the document's answer: all tokens; when two rows of them are the same, or alike.
-/
namespace Go.Proofs.YtlnmmakbgldflaaGreatDoor.Vc
open Go

def Toks.list : Toks → List Tk
  | .bad _ _ => []
  | .all l => l
def Toks.at_ : Toks → Int
  | .bad a _ => a
  | .all _ => 0
def Toks.err : Toks → Int
  | .bad _ e => e
  | .all _ => 0
def Toks.pre (out : List Tk) : Toks → Toks
  | .bad a e => .bad a e
  | .all l => .all (out ++ l)
theorem Toks.pre_nil (t : Toks) : t.pre [] = t := by cases t <;> rfl
theorem Toks.pre_cons (out : List Tk) (x : Tk) (t : Toks) : (t.cons x).pre out = t.pre (out ++ [x]) := by cases t <;> simp [Toks.cons, Toks.pre]
/-- a call that tells tokens -/
def GivesT (f : FuncId) (args : List Value) (H : PH) (t : Toks) : Prop := Tri Tryz.prog f args.toArray H fun e H' => ∃ v, e = .returned (.tuple #[v, .int .i64 t.at_, .int .i64 t.err]) ∧ SlR H' t.list v ∧ PH.le H H'
theorem gapL_drop : ∀ (b : Bool) (l : List UInt8), gapL b l = l.drop (l.length - (gapL b l).length)
  | _, [] => by simp [gapL]
  | true, c :: l => by
    have h1 := gapL_len (c != 10) l
    have h2 := gapL_drop (c != 10) l
    simp only [gapL, List.length_cons]
    rw [show l.length + 1 - (gapL (c != 10) l).length = (l.length - (gapL (c != 10) l).length) + 1 by omega, List.drop_succ_cons]; exact h2
  | false, c :: l => by
    simp only [gapL]
    split
    · have h1 := gapL_len true l
      have h2 := gapL_drop true l
      simp only [List.length_cons]
      rw [show l.length + 1 - (gapL true l).length = (l.length - (gapL true l).length) + 1 by omega, List.drop_succ_cons]; exact h2
    split
    · have h1 := gapL_len false l
      have h2 := gapL_drop false l
      simp only [List.length_cons]
      rw [show l.length + 1 - (gapL false l).length = (l.length - (gapL false l).length) + 1 by omega, List.drop_succ_cons]; exact h2
    · simp
theorem gap_at {s : List UInt8} {k : Nat} (hk : k ≤ s.length) (b : Bool) : s.drop (s.length - (gapL b (s.drop k)).length) = gapL b (s.drop k) := by
  have h1 := gapL_len b (s.drop k)
  conv => rhs; rw [gapL_drop b (s.drop k), List.drop_drop]
  congr 1
  rw [List.length_drop] at h1 ⊢
  omega
theorem uToks : Tryz.prog.underlying 42 = some (.slice 54) := by kernel_rfl
theorem elemTk : ElemOk Tryz.prog 54 5 48 = true := by kernel_rfl
theorem tags7 {a0 a1 a2 a3 a4 a5 a6 : Value} (h : tagsOk [.int .i64, .str, .int .i64, .int .i64, .int .i64, .int .i64, .int .i64] [a0, a1, a2, a3, a4, a5, a6] = true) : True := trivial
theorem one_bounds {l : List UInt8} {kd n : Int} {x : List UInt8} {m : Nat} (hl : l ≠ []) (hll : l.length ≤ 1099511627776) (h : oneL l = .tok kd x n m) : 0 ≤ kd ∧ kd ≤ 9 ∧ x.length ≤ l.length ∧ -1152921504606846976 ≤ n ∧ n ≤ 1152921504606846975 := by
  cases l with
  | nil => exact absurd rfl hl
  | cons c r =>
    rw [oneL_cons] at h
    simp only [List.length_cons] at hll ⊢
    split at h
    · cases h; simp
    split at h
    · cases h; simp
    split at h
    · cases h; simp
    split at h
    · unfold hashL at h
      split at h
      · cases h; simp
      · rename_i d r'
        dsimp only at h
        generalize (if wordL (d :: r') = [] then [d] else wordL (d :: r')) = w at h
        split at h
        · cases h
        · cases h
          have hc : -1 ≤ charI w ∧ charI w ≤ 255 := by
            rw [charI_eq]
            have := UInt8.toNat_lt (w.getD 0 0)
            split
            · omega
            split
            · omega
            split
            · omega
            split
            · unfold twoI
              split
              · rename_i a b _ _
                have x := sixtI_le a
                have y := sixtI_le b
                split <;> omega
              · omega
            · omega
          refine ⟨by omega, by omega, by simp, by omega, by omega⟩
      · split at h
        · cases h; simp
        split at h
        · cases h; simp
        · cases h
    split at h
    · split at h
      · cases h
      · rename_i y s hx
        cases h
        have key : ∀ (n : Nat) (l x r : List UInt8), l.length ≤ n → textB l = some (x, r) → x.length ≤ l.length := by
          intro n
          induction n with
          | zero =>
            intro l x r hl h
            have : l = [] := List.length_eq_zero_iff.1 (by omega)
            subst this; cases h
          | succ n ih =>
            intro l x r hl h
            cases l with
            | nil => cases h
            | cons c l =>
              simp only [List.length_cons] at hl ⊢
              by_cases h1 : c = 34
              · subst h1; rw [textB_end] at h; cases h; simp
              by_cases h2 : c = 92
              · subst h2
                rw [textB_esc] at h
                obtain ⟨y, h3, h4⟩ := Option.bind_eq_some_iff.1 h
                obtain ⟨z, h5, h6⟩ := Option.map_eq_some_iff.1 h4
                cases h6
                have := ih (l.drop y.2) z.1 z.2 (by simp; omega) h5
                simp at this ⊢; omega
              · rw [textB_plain h1 h2] at h
                obtain ⟨z, h5, h6⟩ := Option.map_eq_some_iff.1 h
                cases h6
                have := ih l z.1 z.2 (by omega) h5
                simp; omega
        have := key _ _ _ _ (Nat.le_refl _) hx
        exact ⟨by omega, by omega, by omega, by omega, by omega⟩
    · have hw := wordL_le (c :: r)
      simp only [List.length_cons] at hw
      generalize wordL (c :: r) = w at h hw
      unfold wordT at h
      split at h
      · cases h
      split at h
      · cases h; simp
      split at h
      · split at h
        · cases h
        · cases h; simp; omega
      split at h
      · cases h
      · cases h; exact ⟨by omega, by omega, hw, by omega, by omega⟩
theorem RTokens_tri (s : List UInt8) (hs : s.length ≤ maxLen) (H : PH) : GivesT n_scrimshawref03_Tokens [txt s] H (tokens s) := by
  refine tri_scrimshawref03_Tokens [txt s] (by kernel_rfl) (by kernel_rfl) ?_
  rw [tokens_eq]
  refine ⟨fun h => ?_, fun h => ?_⟩
  · simp only [ev0, ev, evV, List.cons_append, List.nil_append, List.getD_cons_zero, List.getD_cons_succ, List.map_cons, List.map_nil, iOf, bOf, sOf, pOf, slLen, slBase, cmpI, arI, Value.ite_bool, int_beq, int_bne, ite_band, ite_bor, txt_size, decide_eq_true_eq] at h
    rw [if_pos (by omega)]
    exact ⟨.slice none 0 0, rfl, SlR.mk_iff.2 ⟨Nat.zero_le _, .inl ⟨rfl, rfl⟩⟩, PH.le_refl H⟩
  simp only [ev0, ev, evV, List.cons_append, List.nil_append, List.getD_cons_zero, List.getD_cons_succ, List.map_cons, List.map_nil, iOf, bOf, sOf, pOf, slLen, slBase, cmpI, arI, Value.ite_bool, int_beq, int_bne, ite_band, ite_bor, txt_size, decide_eq_false_iff_not] at h
  rw [if_neg (by omega)]
  have hs4 : s.length ≤ 4096 := by omega
  refine den_lit0 (α := Tk) (b := 48) uToks elemTk fun v0 H0 a0 l0 => ?_
  refine den_gives [.int .i64 ((s.length - (gapL false s).length : Nat) : Int)] cb_scrimshawref03_gap (by have := gap_gives s 0 (by omega) (by omega) H0; rw [List.drop_zero] at this; exact this) rfl pendNil fun H1 l1 => ?_
  have hg0 := gap_at (s := s) (k := 0) (by omega) false
  rw [List.drop_zero] at hg0
  refine ⟨fun m vs H' => ∃ (p : Nat) (v : Value) (out : List Tk), vs = [.slice none 0 0, .int .i64 0, .int .i64 0, v, .int .i64 p] ∧ p + m = s.length ∧ out.length ≤ 2048 ∧ Acc H H' 54 out v ∧ tokL s.length (gapL false s) 0 = (tokL s.length (s.drop p) out.length).pre out, ⟨(gapL false s).length, s.length - (gapL false s).length, v0, [], rfl, ?_, by simp, a0.mono l1, ?_⟩, ?_⟩
  · have := gapL_len false s; omega
  · rw [hg0, Toks.pre_nil]; rfl
  rintro m vs H' _ ⟨p, v, out, rfl, hm, hol, hacc, htk⟩
  obtain ⟨bv, cv, hv⟩ := hacc.sl
  refine ⟨fun h5 => ?_, fun h5 => ?_⟩
  · simp only [ev0, ev, evV, List.cons_append, List.nil_append, List.getD_cons_zero, List.getD_cons_succ, List.map_cons, List.map_nil, iOf, bOf, sOf, pOf, slLen, slBase, cmpI, arI, Value.ite_bool, int_beq, int_bne, ite_band, ite_bor, txt_size, decide_eq_true_eq] at h5
    have hne : s.drop p ≠ [] := fun x => by rw [List.drop_eq_nil_iff] at x; omega
    have hpl : s.length - (s.drop p).length = p := by simp; omega
    rw [tokL_cons _ _ hne, hpl] at htk
    refine ⟨fun h6 => ?_, fun h6 => ?_⟩
    · have h6' : out.length = 2048 := by
        have : cmpI .eql (slLen v : Int) 2048 = true := h6
        rw [hv] at this
        simp only [slLen, cmpI, int_beq, decide_eq_true_eq] at this
        omega
      rw [htk, if_pos h6']
      refine ⟨.slice none 0 0, ?_, SlR.mk_iff.2 ⟨Nat.zero_le _, .inl ⟨rfl, rfl⟩⟩, hacc.all⟩
      rfl
    · have h6' : ¬ out.length = 2048 := fun x => by
        have : cmpI .eql (slLen v : Int) 2048 = false := h6
        rw [hv] at this
        simp only [slLen, cmpI, int_beq, decide_eq_false_iff_not] at this
        omega
      rw [if_neg h6'] at htk
      refine den_call cb_scrimshawref03_one (Rone_tri s p (by omega) (by omega) H') ?_
      rintro e H2 ⟨w, rfl, hok, l2⟩
      have hacc2 := hacc.mono l2
      obtain ⟨vs, h7, h8, h9⟩ := One.ok_vs hok
      have hlen := tagsOk_length h8
      match vs, hlen with
      | [b0, b1, b2, b3, b4, b5, b6], _ =>
      refine ⟨_, [b0, b1, b2, b3, b4, b5, b6], rfl, h8, h7, pendNil, ?_⟩
      have hdl : (s.drop p).length ≤ 1099511627776 := by rw [List.length_drop]; omega
      cases ho : oneL (s.drop p) with
      | bad er =>
        rw [ho] at h9 htk
        obtain ⟨n, h9⟩ := h9
        simp only [One.row, List.cons.injEq, and_true] at h9
        obtain ⟨rfl, rfl, rfl, rfl, rfl, rfl, rfl⟩ := h9
        simp only [Toks.pre] at htk
        rw [htk]
        refine ⟨fun _ => ⟨.slice none 0 0, rfl, SlR.mk_iff.2 ⟨Nat.zero_le _, .inl ⟨rfl, rfl⟩⟩, hacc2.all⟩, fun h10 => ?_⟩
        exfalso
        simp only [ev0, ev, evV, List.cons_append, List.nil_append, List.getD_cons_zero, List.getD_cons_succ, List.map_cons, List.map_nil, iOf, bOf, sOf, pOf, slLen, slBase, cmpI, arI, Value.ite_bool, int_beq, int_bne, ite_band, ite_bor] at h10
        have her : er ≠ 0 := by
          intro x
          subst x
          have key : ∀ l : List UInt8, oneL l ≠ .bad 0 := by
            intro l hl
            cases l with
            | nil =>
              have h0 : oneL [] = One.bad 30 := rfl
              rw [h0] at hl; cases hl
            | cons c r =>
              rw [oneL_cons] at hl
              split at hl
              · cases hl
              split at hl
              · cases hl
              split at hl
              · cases hl
              split at hl
              · unfold hashL at hl
                split at hl
                · cases hl
                · rename_i d r' 
                  dsimp only at hl
                  generalize (if wordL (d :: r') = [] then [d] else wordL (d :: r')) = w at hl
                  split at hl <;> cases hl
                · split at hl
                  · cases hl
                  split at hl <;> cases hl
              split at hl
              · split at hl <;> cases hl
              · unfold wordT at hl
                split at hl
                · cases hl
                split at hl
                · cases hl
                split at hl
                · split at hl <;> cases hl
                split at hl <;> cases hl
          exact key _ ho
        simp [her] at h10
      | tok kd x n j =>
        obtain ⟨k1, k2, k3, k4, k5⟩ := one_bounds hne hdl ho
        have hj := one_len hne ho
        rw [List.length_drop] at hj k3
        rw [ho] at h9 htk
        simp only [One.row, List.cons.injEq, and_true] at h9
        obtain ⟨rfl, rfl, rfl, rfl, rfl, rfl, rfl⟩ := h9
        simp only at htk
        rw [Toks.pre_cons] at htk
        have pp := plus (a := p) (b := j) (by omega)
        refine ⟨fun h10 => absurd h10 (by simp [ev0, ev, evV, List.cons_append, List.nil_append, List.getD_cons_zero, List.getD_cons_succ, List.map_cons, List.map_nil, iOf, bOf, sOf, pOf, slLen, slBase, cmpI, arI, Value.ite_bool]), fun _ => ?_⟩
        refine den_push (more := [Tk.mk kd x n (p : Nat) (p + j : Nat)]) (b := 48) [.agg #[.int .i64 kd, txt x, .int .i64 n, .int .i64 (p : Nat), .int .i64 (p + j : Nat)]] uToks elemTk rfl (by decide) (by decide) ?_ (.cons ?_ .nil) pendNil hacc2 (fun _ => rfl) (fun _ => rfl) (by simp only [maxLen, List.length_cons, List.length_nil]; omega) (by simp only [List.length_cons, List.length_nil]; omega) fun u v' H3 a3 w3 => ⟨pendNil, ?_⟩
        · simp only [argEv, List.lookup, List.map_cons, List.map_nil, idxs, show ((42 : Nat) == 42) = true from rfl, ev0, ev, evV, List.cons_append, List.nil_append, List.getD_cons_zero, List.getD_cons_succ, List.map_cons, List.map_nil, iOf, bOf, sOf, pOf, slLen, slBase, cmpI, arI, Value.ite_bool, int_beq, int_bne, ite_band, ite_bor, pp]
        · refine Tk.Rep_iff.2 ⟨rfl, ?_, ?_, ?_, ?_, ?_⟩
          · exact ⟨by simp only [Tk.kind]; omega, by simp only [Tk.kind]; omega⟩
          · simp only [Tk.text, maxLen]; omega
          · exact ⟨by simp only [Tk.int]; omega, by simp only [Tk.int]; omega⟩
          · exact ⟨by simp only [Tk.at_]; omega, by simp only [Tk.at_]; omega⟩
          · exact ⟨by simp only [Tk.to]; omega, by simp only [Tk.to]; omega⟩
        refine den_gives [.int .i64 ((s.length - (gapL false (s.drop (p + j))).length : Nat) : Int)] cb_scrimshawref03_gap (by
          have := gap_gives s (p + j) (by omega) (by omega) H3
          simp only [ev0, ev, evV, List.cons_append, List.nil_append, List.getD_cons_zero, List.getD_cons_succ, List.map_cons, List.map_nil, iOf, bOf, sOf, pOf, slLen, slBase, cmpI, arI, Value.ite_bool, int_beq, int_bne, ite_band, ite_bor, pp]
          exact this) rfl pendNil fun H4 l4 => ?_
        have hg1 := gapL_len false (s.drop (p + j))
        rw [List.length_drop] at hg1
        refine ⟨_, rfl, (gapL false (s.drop (p + j))).length, by omega, s.length - (gapL false (s.drop (p + j))).length, v', out ++ [Tk.mk kd x n (p : Nat) (p + j : Nat)], rfl, by omega, by simp; omega, a3.mono l4, ?_⟩
        rw [htk, gap_at (by omega), List.drop_drop]
        simp only [List.length_append, List.length_cons, List.length_nil]
  · simp only [ev0, ev, evV, List.cons_append, List.nil_append, List.getD_cons_zero, List.getD_cons_succ, List.map_cons, List.map_nil, iOf, bOf, sOf, pOf, slLen, slBase, cmpI, arI, Value.ite_bool, int_beq, int_bne, ite_band, ite_bor, txt_size, decide_eq_false_iff_not] at h5
    have : s.drop p = [] := List.drop_eq_nil_of_le (by omega)
    rw [htk, this, tokL_nil]
    refine ⟨v, rfl, ?_, hacc.all⟩
    simp only [Toks.pre, Toks.list, List.append_nil]
    exact hacc.slR
end Go.Proofs.YtlnmmakbgldflaaGreatDoor.Vc
/-
  SIGN: when two rows of tokens are the same, or alike.
-/
namespace Go.Proofs.YtlnmmakbgldflaaGreatDoor.Vc
open Go

theorem takeEqS {α : Type} {l m : List α} {k : Nat} {a b : α} (h : l.take k = m.take k) (ha : l[k]? = some a) (hb : m[k]? = some b) (e : a = b) : l.take (k + 1) = m.take (k + 1) := by
  rw [List.take_add_one, List.take_add_one, h, ha, hb, e]
/-- a token but for its place -/
def Tk.sh (t : Tk) : Int × List UInt8 × Int := (t.kind, t.text, t.int)
theorem ba_beq (a b : List UInt8) : ((⟨a.toArray⟩ : ByteArray) == ⟨b.toArray⟩) = decide (a = b) := by
  show (a.toArray == b.toArray) = _
  rw [Bool.eq_iff_iff]; simp
theorem tk_cells (a b : Tk) : eqCells [.int .i64 a.kind, txt a.text, .int .i64 a.int, .int .i64 a.at_, .int .i64 a.to] [.int .i64 b.kind, txt b.text, .int .i64 b.int, .int .i64 b.at_, .int .i64 b.to] = decide (a = b) := by
  obtain ⟨k, x, n, p, q⟩ := a
  obtain ⟨k', x', n', p', q'⟩ := b
  rw [Bool.eq_iff_iff]
  simp only [eqCells, eqCell, txt, Tk.kind, Tk.text, Tk.int, Tk.at_, Tk.to, Bool.and_true, ba_beq]
  simp only [Bool.and_eq_true, beq_iff_eq, decide_eq_true_eq, Tk.mk.injEq]
theorem fieldsTk : ∃ fs, Tryz.prog.underlying 54 = some (.struct (List.toArray fs)) ∧ OffB 0 fs = true ∧ ∀ a b : Tk, FitB Tryz.prog fs [.int .i64 a.kind, txt a.text, .int .i64 a.int, .int .i64 a.at_, .int .i64 a.to] [.int .i64 b.kind, txt b.text, .int .i64 b.int, .int .i64 b.at_, .int .i64 b.to] = true :=
  ⟨_, Tryz.underlying54, by kernel_rfl, fun a b => by kernel_rfl⟩
theorem heldTk : Tryz.prog.stoodInHeld 54 = false := by kernel_rfl
theorem guardTk : Tryz.prog.eqGuardType Tryz.prog.depth 54 = false := by kernel_rfl

end Go.Proofs.YtlnmmakbgldflaaGreatDoor.Vc

