import Derived.Test.YtlnmmakbgldflaaGreatDoorRy
set_option linter.unusedSimpArgs false
set_option linter.unusedVariables false
set_option maxRecDepth 100000
/-
  SOURCE: two sources, a line's end between them.
-/
namespace Go.Proofs.YtlnmmakbgldflaaGreatDoor.Vc
open Go

theorem TR.len {p : Nat} {l : List UInt8} {ts : List Tk} (h : TR p l ts) : ts.length ≤ l.length := by
  induction h with
  | nil h => exact Nat.zero_le _
  | cons h1 h2 h3 h4 h5 ih =>
    have hm := one_len h2 h4
    simp only [List.length_cons, List.length_drop] at ih ⊢
    omega
def Reads.pre (out : List Dat) : Reads → Reads
  | .bad a e => .bad a e
  | .all l => .all (out ++ l)
def Reads.shift (d : Nat) : Reads → Reads
  | .bad a e => .bad (a + d) e
  | .all l => .all l
theorem run_append {en : Int} : ∀ {ts : List Tk} {rs : List Opn} {out l : List Dat}, runR en ts rs out = .all l → ∀ (en' : Int) (ts' : List Tk), runR en' (ts ++ ts') rs out = runR en' ts' [] l
  | [], rs, out, l, h, en', ts' => by
    rw [runR] at h
    split at h
    · rename_i h0
      cases h
      rw [List.length_eq_zero_iff.1 h0, List.nil_append]
    · cases h
  | t :: ts, rs, out, l, h, en', ts' => by
    rw [runR] at h
    split at h
    · rename_i h0
      rw [List.cons_append, runR, if_pos h0]
      exact run_append h en' ts'
    · cases h
theorem run_pre (en : Int) (o0 : List Dat) : ∀ (ts : List Tk) (rs : List Opn) (out : List Dat), runR en ts rs (o0 ++ out) = (runR en ts rs out).pre o0
  | [], rs, out => by rw [runR, runR]; split <;> rfl
  | t :: ts, rs, out => by
    rw [runR, runR]
    split
    · rw [List.append_assoc]; exact run_pre en o0 ts _ _
    · rfl
theorem next_shift (d : Nat) (t : Tk) (rs : List Opn) : nextS (t.shift d) rs = nextS t rs := by cases t; rfl
theorem run_shift (en : Int) (d : Nat) : ∀ (ts : List Tk) (rs : List Opn) (out : List Dat), runR (en + d) (ts.map (Tk.shift d)) rs out = (runR en ts rs out).shift d
  | [], rs, out => by rw [List.map_nil, runR, runR]; split <;> rfl
  | t :: ts, rs, out => by
    have hk : (t.shift d).kind = t.kind := by cases t; rfl
    have ha : (t.shift d).at_ = t.at_ + d := by cases t; rfl
    rw [List.map_cons, runR, runR, hk, next_shift, ha]
    split
    · exact run_shift en d ts _ _
    · rfl
/-- two sources joined -/
theorem reads_join {s t : List UInt8} {l : List Dat} (h : readS s = .all l) (hs : s.length ≤ 500) (ht : t.length ≤ 500) : readS (s ++ 10 :: t) = ((readS t).shift (s.length + 1)).pre l := by
  cases htk : tokens s with
  | bad a e => rw [readS, htk] at h; cases h
  | all ts =>
    rw [readS, htk] at h
    have hr : runR s.length ts [] [] = .all l := h
    obtain ⟨_, _, hT⟩ := (tokens_TR s ts).1 htk
    have hn := hT.len
    rw [readS, tokens_join htk (by omega) (by omega) (by omega)]
    cases htt : tokens t with
    | bad a e => rw [readS, htt]; rfl
    | all tt =>
      rw [readS, htt]
      show runR ((s ++ 10 :: t).length : Nat) (ts ++ tt.map (Tk.shift (s.length + 1))) [] [] = ((runR t.length tt [] []).shift (s.length + 1)).pre l
      rw [run_append hr, show (((s ++ 10 :: t).length : Nat) : Int) = (t.length : Int) + ((s.length + 1 : Nat) : Int) by simp; omega]
      have := run_pre ((t.length : Int) + ((s.length + 1 : Nat) : Int)) l (tt.map (Tk.shift (s.length + 1))) [] []
      rw [List.append_nil] at this
      rw [this, run_shift]
end Go.Proofs.YtlnmmakbgldflaaGreatDoor.Vc
/-
  SOURCE: plain laws: the tokens of a datum's text, and what is read of them. No program in sight.
-/
namespace Go.Proofs.YtlnmmakbgldflaaGreatDoor.Vc
open Go

/-! ### how deep data are; which may be but for size -/
mutual
def Dat.deep : Dat → Nat
  | .mk k _ _ l => if nested k then 1 + Dats.deep l else 0
def Dats.deep : List Dat → Nat
  | [] => 0
  | d :: l => max (Dat.deep d) (Dats.deep l)
end
theorem Dat.deep_eq (d : Dat) : d.deep = if nested d.kind then 1 + Dats.deep d.list else 0 := by cases d; simp only [Dat.deep, Dat.kind, Dat.list]; rfl
theorem Dats.deep_le {l : List Dat} {b : Nat} : Dats.deep l ≤ b ↔ ∀ e ∈ l, e.deep ≤ b := by
  induction l with
  | nil => simp [Dats.deep]
  | cons d l ih =>
    simp only [Dats.deep, List.mem_cons, forall_eq_or_imp, ← ih]; omega
inductive Dat.AF : Dat → Prop
  | mk {d : Dat} : formOk d = true → (∀ e ∈ d.list, Dat.AF e) → Dat.AF d
theorem Dat.AF.form {d : Dat} : d.AF → formOk d = true
  | .mk h _ => h
theorem Dat.AF.kids {d : Dat} : d.AF → ∀ e ∈ d.list, e.AF
  | .mk _ h => h
theorem Dat.Good.af : ∀ {d : Dat}, d.Good → d.AF := by
  refine fun {d} => Dat.ind (p := fun d => d.Good → d.AF) (fun d ih h => ?_) d
  exact .mk h.form fun e he => ih e he (h.kids e he)
theorem ok_good {d : Dat} (h : (d.chk 0 0).2 = 0) : d.Good := ⟨0, 0, by omega, h⟩
theorem form_plain {d : Dat} (h : formOk d = true) (hn : nested d.kind = false) : d.list = [] := by
  cases hl : d.list with
  | nil => rfl
  | cons e l => rw [formOk_nested h (by rw [hl]; simp)] at hn; cases hn

def ChkAt (d : Dat) : Prop := d.AF → ∀ deep seen, deep ≤ 32 → seen + d.cnt ≤ 4096 → (deep + d.deep ≤ 32 → d.chk deep seen = (seen + d.cnt, 0)) ∧ (32 < deep + d.deep → (d.chk deep seen).2 = 21)
theorem Dats.chk_at : ∀ (l : List Dat), (∀ e ∈ l, ChkAt e) → (∀ e ∈ l, e.AF) → ∀ deep seen, deep ≤ 32 → seen + Dats.cnt l ≤ 4096 → (deep + Dats.deep l ≤ 32 → Dats.chk l deep seen = (seen + Dats.cnt l, 0)) ∧ (32 < deep + Dats.deep l → (Dats.chk l deep seen).2 = 21)
  | [], _, _, deep, seen, hd, _ => by
    simp only [Dats.chk, Dats.deep, Dats.cnt]
    exact ⟨fun _ => rfl, fun h => by omega⟩
  | d :: l, ih, ha, deep, seen, hd, hs => by
    simp only [Dats.cnt] at hs
    have h1 := ih d (List.mem_cons_self ..) (ha d (List.mem_cons_self ..)) deep seen hd (by omega)
    simp only [Dats.chk, Dats.deep, Dats.cnt]
    by_cases hq : deep + d.deep ≤ 32
    · rw [h1.1 hq]
      simp only [ne_eq, not_true_eq_false, if_false]
      have h2 := Dats.chk_at l (fun e he => ih e (List.mem_cons_of_mem _ he)) (fun e he => ha e (List.mem_cons_of_mem _ he)) deep (seen + d.cnt) hd (by omega)
      refine ⟨fun h => ?_, fun h => h2.2 (by omega)⟩
      rw [h2.1 (by omega), Nat.add_assoc]
    · have h3 := h1.2 (by omega)
      rw [if_pos (by rw [h3]; decide)]
      exact ⟨fun h => by omega, fun _ => h3⟩
theorem Dat.chk_at : ∀ d, ChkAt d := by
  refine Dat.ind fun d ih ha deep seen hd hs => ?_
  have hc := Dat.cnt_eq d
  have hdp := Dat.deep_eq d
  rw [Dat.chk_eq, if_neg (by omega)]
  cases hn : nested d.kind with
  | false =>
    have hl := form_plain ha.form hn
    rw [hn] at hdp
    simp only [Bool.false_eq_true, if_false] at hdp
    rw [if_neg (by simp), if_neg (by rw [ha.form]; simp), hl, hdp]
    rw [hl] at hc
    simp only [Dats.cnt, Nat.add_zero] at hc
    refine ⟨fun _ => ?_, fun h => by omega⟩
    simp only [Dats.chk, hc]
  | true =>
    rw [hn] at hdp
    simp only [if_true] at hdp
    by_cases h32 : deep = 32
    · rw [if_pos ⟨rfl, h32⟩]
      exact ⟨fun h => by omega, fun _ => rfl⟩
    · rw [if_neg (by simp [h32]), if_neg (by rw [ha.form]; simp)]
      have h2 := Dats.chk_at d.list ih ha.kids (deep + 1) (seen + 1) (by omega) (by omega)
      refine ⟨fun h => ?_, fun h => h2.2 (by omega)⟩
      rw [h2.1 (by omega), hc]
      simp only [Prod.mk.injEq, and_true]; omega
def ChkBack (d : Dat) : Prop := ∀ deep seen, deep ≤ 32 → (d.chk deep seen).2 = 0 → deep + d.deep ≤ 32 ∧ (d.chk deep seen).1 = seen + d.cnt
theorem Dats.chk_back : ∀ (l : List Dat), (∀ e ∈ l, ChkBack e) → ∀ deep seen, deep ≤ 32 → (Dats.chk l deep seen).2 = 0 → deep + Dats.deep l ≤ 32 ∧ (Dats.chk l deep seen).1 = seen + Dats.cnt l
  | [], _, deep, seen, hd, _ => by simp only [Dats.chk, Dats.deep, Dats.cnt]; exact ⟨by omega, rfl⟩
  | d :: l, ih, deep, seen, hd, h => by
    simp only [Dats.chk] at h ⊢
    split at h
    · rename_i h1; exact absurd h h1
    · rename_i h1
      rw [if_neg h1]
      have h1' : (d.chk deep seen).2 = 0 := by simpa using h1
      have h2 := ih d (List.mem_cons_self ..) deep seen hd h1'
      have h3 := Dats.chk_back l (fun e he => ih e (List.mem_cons_of_mem _ he)) deep _ hd h
      simp only [Dats.deep, Dats.cnt]
      rw [h3.2, h2.2]
      exact ⟨by omega, by omega⟩
theorem Dat.chk_back : ∀ d, ChkBack d := by
  refine Dat.ind fun d ih deep seen hd h => ?_
  have hc := Dat.cnt_eq d
  have hdp := Dat.deep_eq d
  rw [Dat.chk_eq] at h ⊢
  split at h
  · cases h
  rename_i h0
  split at h
  · cases h
  rename_i h1
  split at h
  · cases h
  rename_i h2
  rw [if_neg h0, if_neg h1, if_neg h2]
  have hf : formOk d = true := by simpa using h2
  cases hn : nested d.kind with
  | false =>
    have hl := form_plain hf hn
    rw [hn] at hdp
    simp only [Bool.false_eq_true, if_false] at hdp
    rw [hl] at hc ⊢
    simp only [Dats.cnt, Nat.add_zero] at hc
    simp only [Dats.chk, hdp, hc]
    exact ⟨by omega, trivial⟩
  | true =>
    rw [hn] at hdp h1
    simp only [if_true] at hdp
    have h32 : deep ≠ 32 := fun e => h1 ⟨rfl, e⟩
    have h3 := Dats.chk_back d.list ih (deep + 1) (seen + 1) (by omega) h
    exact ⟨by omega, by omega⟩
theorem ok_iff {d : Dat} : (d.chk 0 0).2 = 0 ↔ d.AF ∧ d.deep ≤ 32 ∧ d.cnt ≤ 4096 := by
  constructor
  · intro h
    have h1 := Dat.chk_back d 0 0 (by omega) h
    have h2 := Dat.chk_le d 0 0 (by omega)
    exact ⟨(ok_good h).af, by omega, by omega⟩
  · rintro ⟨h1, h2, h3⟩
    have := (Dat.chk_at d h1 0 0 (by omega) (by omega)).1 (by omega)
    rw [this]

/-! ### the tokens of a text -/
mutual
/-- a text's tokens, but for their places -/
def Dat.shs : Dat → List (Int × List UInt8 × Int)
  | .mk k n t l => if k = 0 then [(5, [], n)] else if k = 1 then [(6, [], n)] else if k = 2 then [(7, [], n)] else if k = 3 then [(8, t, 0)] else if k = 4 then [(9, t, 0)] else (if k = 7 then 2 else 0, [], 0) :: (Dats.shs (decide (k = 6)) l ++ [(1, [], 0)])
def Dats.shs (dotted : Bool) : List Dat → List (Int × List UInt8 × Int)
  | [] => []
  | d :: l => (if dotted && l.isEmpty then [(4, [], 0)] else []) ++ (Dat.shs d ++ Dats.shs dotted l)
end
theorem Dat.shs_eq (d : Dat) : d.shs = if d.kind = 0 then [(5, [], d.int)] else if d.kind = 1 then [(6, [], d.int)] else if d.kind = 2 then [(7, [], d.int)] else if d.kind = 3 then [(8, d.text, 0)] else if d.kind = 4 then [(9, d.text, 0)] else (if d.kind = 7 then 2 else 0, [], 0) :: (Dats.shs (decide (d.kind = 6)) d.list ++ [(1, [], 0)]) := by
  cases d; simp only [Dat.shs, Dat.kind, Dat.list, Dat.int, Dat.text]; rfl
theorem TR.blank {p : Nat} {r : List UInt8} {ts : List Tk} {c : UInt8} (hc : wsB c = true) (h : TR (p + 1) r ts) : TR p (c :: r) ts := by
  have h59 : c ≠ 59 := by intro e; rw [e] at hc; exact absurd hc (by decide)
  have hg : gapL false (c :: r) = gapL false r := by simp only [gapL, if_neg h59, hc, if_true]
  generalize hq : p + 1 = q at h
  cases h with
  | nil h => exact .nil (by rw [hg]; exact h)
  | cons h1 h2 h3 h4 h5 =>
    rename_i v kd n x m g ts
    have := TR.cons (p := p) (g := g + 1) (l := c :: r) (hg.trans h1) h2 (by simp only [List.length_cons]; omega) h4 (by rw [show p + (g + 1) + m = q + g + m by omega]; exact h5)
    rw [show p + (g + 1) + m = q + g + m by omega, show p + (g + 1) = q + g by omega] at this
    exact this
theorem TR.tok {p : Nat} {u r : List UInt8} {kd n : Int} {x : List UInt8} {ts : List Tk} (hs : solid (u ++ r)) (hu : u ≠ []) (h : oneL (u ++ r) = .tok kd x n u.length) (hr : TR (p + u.length) r ts) : TR p (u ++ r) (.mk kd x n (p : Nat) (p + u.length : Nat) :: ts) := by
  have := TR.cons (p := p) (l := u ++ r) (v := u ++ r) (g := 0) (m := u.length) hs.gap (by simp [hu]) (by omega) h (by rw [List.drop_left]; exact hr)
  simpa using this
/-- a text of one token, more behind it -/
theorem TR.tok_local {p : Nat} {u r : List UInt8} {kd n : Int} {x : List UInt8} {ts : List Tk} (hs : solid u) (hu : u ≠ []) (h : oneL u = .tok kd x n u.length) (he : endB r) (hr : TR (p + u.length) r ts) : TR p (u ++ r) (.mk kd x n (p : Nat) (p + u.length : Nat) :: ts) := by
  have h1 := (oneL_local hu h (r := r) (fun _ => he)).2.2
  rw [List.take_length] at h1
  refine TR.tok ?_ hu h1 hr
  cases u with
  | nil => exact absurd rfl hu
  | cons c t => intro a b e; simp only [List.cons_append] at e; cases e; exact hs c t rfl
theorem TR.sign {p : Nat} {c : UInt8} {r : List UInt8} {kd : Int} {ts : List Tk} (hc : c ≠ 59 ∧ wsB c = false) (h : oneL (c :: r) = .tok kd [] 0 1) (hr : TR (p + 1) r ts) : TR p (c :: r) (.mk kd [] 0 (p : Nat) (p + 1 : Nat) :: ts) :=
  TR.tok (u := [c]) (fun a b e => by simp only [List.cons_append, List.nil_append] at e; cases e; exact hc) (by simp) h hr
theorem oneL_of_tokens {u : List UInt8} {kd n : Int} {x : List UInt8} (hs : solid u) (h : tokens u = .all [.mk kd x n 0 (u.length : Nat)]) : u ≠ [] ∧ oneL u = .tok kd x n u.length := by
  obtain ⟨_, _, hT⟩ := (tokens_TR _ _).1 h
  generalize hts : [Tk.mk kd x n 0 (u.length : Nat)] = ts at hT
  cases hT with
  | nil _ => cases hts
  | cons h1 h2 h3 h4 h5 =>
    rename_i v kd' n' x' m g ts'
    simp only [List.cons.injEq, Tk.mk.injEq] at hts
    obtain ⟨⟨rfl, rfl, rfl, ha, hb⟩, rfl⟩ := hts
    rw [hs.gap] at h1
    subst h1
    have : m = u.length := by omega
    subst this
    exact ⟨h2, h4⟩
theorem Delim.endB {r : List UInt8} (h : Delim r) : endB r := h.noName

def TxtAt (d : Dat) : Prop := d.Good → ∀ (r : List UInt8) (p : Nat) (ts' : List Tk), endB r → TR (p + (d.txtL false).length) r ts' → ∃ ts, TR p (d.txtL false ++ r) (ts ++ ts') ∧ ts.map Tk.sh = d.shs
theorem items_TR : ∀ (l : List Dat) (first dotted : Bool), (∀ e ∈ l, TxtAt e) → (∀ e ∈ l, e.Good) → ∀ (r : List UInt8) (p : Nat) (ts' : List Tk), TR (p + (Dats.txtL false dotted first l).length + 1) r ts' →
    ∃ ts, TR p (Dats.txtL false dotted first l ++ 41 :: r) (ts ++ ts') ∧ ts.map Tk.sh = Dats.shs dotted l ++ [(1, [], 0)]
  | [], first, dotted, _, _, r, p, ts', h => by
    refine ⟨[.mk 1 [] 0 (p : Nat) (p + 1 : Nat)], ?_, rfl⟩
    simp only [Dats.txtL, List.nil_append, List.cons_append, List.length_nil, Nat.add_zero] at h ⊢
    exact TR.sign ⟨by decide, by decide⟩ rfl h
  | d :: l, first, dotted, ih, hg, r, p, ts', h => by
    have hrest := items_TR l false dotted (fun e he => ih e (List.mem_cons_of_mem _ he)) (fun e he => hg e (List.mem_cons_of_mem _ he)) r
    have hd := ih d (List.mem_cons_self ..) (hg d (List.mem_cons_self ..)) (Dats.txtL false dotted false l ++ 41 :: r)
    have hend : endB (Dats.txtL false dotted false l ++ 41 :: r) := (delim_rest dotted l r).endB
    -- behind the blank
    have core : ∀ q : Nat, q + (if dotted && l.isEmpty then [46, 32] else ([] : List UInt8)).length + (d.txtL false).length + (Dats.txtL false dotted false l).length + 1 = p + (Dats.txtL false dotted first (d :: l)).length + 1 →
        ∃ ts, TR q ((if dotted && l.isEmpty then [46, 32] else []) ++ (d.txtL false ++ (Dats.txtL false dotted false l ++ 41 :: r))) (ts ++ ts') ∧ ts.map Tk.sh = Dats.shs dotted (d :: l) ++ [(1, [], 0)] := by
      intro q hq
      rw [← hq] at h
      obtain ⟨ts2, h2, h2'⟩ := hrest (q + (if dotted && l.isEmpty then [46, 32] else ([] : List UInt8)).length + (d.txtL false).length) ts' h
      cases hb : (dotted && l.isEmpty) with
      | false =>
        rw [hb] at h2
        simp only [Bool.false_eq_true, if_false, List.length_nil, Nat.add_zero, List.nil_append] at h2 ⊢
        obtain ⟨ts1, h1, h1'⟩ := hd q _ hend h2
        refine ⟨ts1 ++ ts2, by rw [List.append_assoc]; exact h1, ?_⟩
        simp only [List.map_append, h1', h2', Dats.shs, hb, Bool.false_eq_true, if_false, List.nil_append, List.append_assoc]
      | true =>
        rw [hb] at h2
        simp only [if_true, List.length_cons, List.length_nil] at h2 ⊢
        obtain ⟨ts1, h1, h1'⟩ := hd (q + 2) _ hend h2
        refine ⟨.mk 4 [] 0 (q : Nat) (q + 1 : Nat) :: (ts1 ++ ts2), ?_, ?_⟩
        · have h3 := TR.sign (c := 46) (p := q) ⟨by decide, by decide⟩ (by rfl) (TR.blank (p := q + 1) (c := 32) (by decide) h1)
          simp only [List.cons_append, List.nil_append, List.append_assoc]
          exact h3
        · simp only [List.map_cons, List.map_append, h1', h2', Dats.shs, hb, if_true, List.append_assoc, Tk.sh, Tk.kind, Tk.text, Tk.int, List.cons_append, List.nil_append]
    simp only [Dats.txtL, List.append_assoc]
    cases first with
    | true =>
      simp only [if_true, List.nil_append]
      refine core p ?_
      simp only [Dats.txtL, List.length_append, if_true, List.length_nil]; omega
    | false =>
      obtain ⟨ts, h1, h2⟩ := core (p + 1) (by simp only [Dats.txtL, List.length_append, Bool.false_eq_true, if_false, List.length_cons, List.length_nil]; omega)
      refine ⟨ts, ?_, h2⟩
      simp only [Bool.false_eq_true, if_false, List.cons_append, List.nil_append]
      exact TR.blank (by decide) h1
theorem form_int {d : Dat} (h : formOk d = true) (h1 : d.kind = 1) : -1152921504606846976 ≤ d.int ∧ d.int ≤ 1152921504606846975 := by
  unfold formOk at h
  rw [h1] at h
  simp only [if_neg (show ¬ (1 : Int) = 0 by decide), if_true, Bool.and_eq_true, decide_eq_true_eq] at h
  omega
theorem solid_word {w : List UInt8} (h : w.all nameB = true) : solid w := by
  intro c t e
  rw [e] at h
  simp only [List.all_cons, Bool.and_eq_true] at h
  exact ⟨(nameB_solid h.1).1, (nameB_solid h.1).2.1⟩
theorem txt_TR : ∀ d, TxtAt d := by
  refine Dat.ind fun d ih hg r p ts' he hr => ?_
  have hf := hg.form
  have atom : ∀ (kd n : Int) (x : List UInt8), solid (d.txtL false) → d.txtL false ≠ [] → oneL (d.txtL false) = .tok kd x n (d.txtL false).length → d.shs = [(kd, x, n)] → ∃ ts, TR p (d.txtL false ++ r) (ts ++ ts') ∧ ts.map Tk.sh = d.shs := by
    intro kd n x h1 h2 h3 h4
    exact ⟨[.mk kd x n (p : Nat) (p + (d.txtL false).length : Nat)], TR.tok_local h1 h2 h3 he hr, by rw [h4]; rfl⟩
  have hash : ∀ w : List UInt8, solid (35 :: w) := fun w a b e => by cases e; exact ⟨by decide, by decide⟩
  rcases form_cases hf with ⟨hk, hi, _, _⟩ | ⟨hk, _, _⟩ | ⟨hk, h0, h255, _, _⟩ | ⟨hk, _, _⟩ | ⟨hk, _, _, hn⟩ | ⟨hk, _, _⟩ | ⟨hk, _, _, _⟩ | ⟨hk, _, _⟩
  · have hs : d.shs = [(5, [], d.int)] := by rw [Dat.shs_eq, if_pos hk]
    rcases hi with hi | hi
    · have ht : d.txtL false = [35, 102] := by rw [Dat.txtL_eq, if_pos hk, if_pos hi]
      exact atom 5 d.int [] (by rw [ht]; exact hash _) (by rw [ht]; simp) (by rw [ht, hi]; rfl) hs
    · have ht : d.txtL false = [35, 116] := by rw [Dat.txtL_eq, if_pos hk, if_neg (by omega)]
      exact atom 5 d.int [] (by rw [ht]; exact hash _) (by rw [ht]; simp) (by rw [ht, hi]; rfl) hs
  · have hs : d.shs = [(6, [], d.int)] := by rw [Dat.shs_eq, if_neg (by omega), if_pos hk]
    have ht : d.txtL false = Lib.itoa d.int := by rw [Dat.txtL_eq, if_neg (by omega), if_pos hk]
    have hb := form_int hf hk
    have hsol := solid_word (itoa_name d.int).1
    have hlen := itoa_len d.int ⟨by omega, by omega⟩
    have hone := oneL_of_tokens hsol (tokens_int hb.1 hb.2 (by omega))
    exact atom 6 d.int [] (by rw [ht]; exact hsol) (by rw [ht]; exact hone.1) (by rw [ht]; exact hone.2) hs
  · have hs : d.shs = [(7, [], d.int)] := by rw [Dat.shs_eq, if_neg (by omega), if_neg (by omega), if_pos hk]
    have ht : d.txtL false = charL (byteOf d.int) := by rw [Dat.txtL_eq, if_neg (by omega), if_neg (by omega), if_pos hk]; rfl
    have hb : ((byteOf d.int).toNat : Int) = d.int := by
      rw [byteOf, UInt8.toNat_ofNat_of_lt' (by show (d.int % 256).toNat < 256; omega)]; omega
    obtain ⟨a, w, hcw, _⟩ := char_parts (byteOf d.int)
    have hsol : solid (charL (byteOf d.int)) := by rw [hcw]; exact hash _
    have hone := oneL_of_tokens hsol (tokens_char (byteOf d.int))
    rw [hb] at hone
    exact atom 7 d.int [] (by rw [ht]; exact hsol) (by rw [ht]; exact hone.1) (by rw [ht]; exact hone.2) hs
  · have hs : d.shs = [(8, d.text, 0)] := by rw [Dat.shs_eq, if_neg (by omega), if_neg (by omega), if_neg (by omega), if_pos hk]
    have ht : d.txtL false = quotedL d.text := by rw [Dat.txtL_eq, if_neg (by omega), if_neg (by omega), if_neg (by omega), if_pos hk]; rfl
    refine atom 8 0 d.text ?_ ?_ (by rw [ht]; exact oneL_quoted _) hs
    · rw [ht]; intro c t e; simp only [quotedL, List.cons_append] at e; cases e; exact ⟨by decide, by decide⟩
    · rw [ht]; simp [quotedL]
  · have hs : d.shs = [(9, d.text, 0)] := by rw [Dat.shs_eq, if_neg (by omega), if_neg (by omega), if_neg (by omega), if_neg (by omega), if_pos hk]
    have ht : d.txtL false = d.text := by rw [Dat.txtL_eq, if_neg (by omega), if_neg (by omega), if_neg (by omega), if_neg (by omega), if_pos hk]
    have hsol := solid_word (name_ne hn).2.1
    have hone := oneL_of_tokens hsol (tokens_name hn)
    exact atom 9 0 d.text (by rw [ht]; exact hsol) (by rw [ht]; exact hone.1) (by rw [ht]; exact hone.2) hs
  all_goals
    have ht : d.txtL false = (if d.kind = 7 then [35, 40] else [40]) ++ Dats.txtL false (decide (d.kind = 6)) true d.list ++ [41] := by
      rw [Dat.txtL_eq, if_neg (by omega), if_neg (by omega), if_neg (by omega), if_neg (by omega), if_neg (by omega)]
    have hs : d.shs = (if d.kind = 7 then 2 else 0, [], 0) :: (Dats.shs (decide (d.kind = 6)) d.list ++ [(1, [], 0)]) := by
      rw [Dat.shs_eq, if_neg (by omega), if_neg (by omega), if_neg (by omega), if_neg (by omega), if_neg (by omega)]
    have hit := items_TR d.list true (decide (d.kind = 6)) ih hg.kids r
    rw [ht] at hr ⊢
    rw [hs]
    simp only [hk, List.length_append, List.length_cons, List.length_nil, List.append_assoc, List.cons_append, List.nil_append] at hr hit ⊢
  · obtain ⟨ts, h1, h2⟩ := hit (p + 1) ts' (by simpa [Nat.add_assoc, Nat.add_comm, Nat.add_left_comm] using hr)
    exact ⟨_ :: ts, TR.sign ⟨by decide, by decide⟩ (by rfl) h1, by simp only [List.map_cons, h2]; rfl⟩
  · obtain ⟨ts, h1, h2⟩ := hit (p + 1) ts' (by simpa [Nat.add_assoc, Nat.add_comm, Nat.add_left_comm] using hr)
    exact ⟨_ :: ts, TR.sign ⟨by decide, by decide⟩ (by rfl) h1, by simp only [List.map_cons, h2]; rfl⟩
  · obtain ⟨ts, h1, h2⟩ := hit (p + 2) ts' (by simpa [Nat.add_assoc, Nat.add_comm, Nat.add_left_comm] using hr)
    exact ⟨_ :: ts, TR.tok (u := [35, 40]) (hash _) (by simp) (by rfl) h1, by simp only [List.map_cons, h2]; rfl⟩
/-- what is written of data: its tokens -/
def wrL (l : List Dat) : List UInt8 := l.flatMap fun d => d.txtL false ++ [10]
theorem all_TR : ∀ (l : List Dat), (∀ e ∈ l, e.Good) → ∀ p : Nat, ∃ ts, TR p (wrL l) ts ∧ ts.map Tk.sh = l.flatMap Dat.shs
  | [], _, p => ⟨[], .nil rfl, rfl⟩
  | d :: l, hg, p => by
    obtain ⟨ts', h1, h2⟩ := all_TR l (fun e he => hg e (List.mem_cons_of_mem _ he)) (p + (d.txtL false).length + 1)
    obtain ⟨ts, h3, h4⟩ := txt_TR d (hg d (List.mem_cons_self ..)) (10 :: wrL l) p ts' (fun c t e => by cases e; rfl) (TR.blank (by decide) h1)
    refine ⟨ts ++ ts', ?_, by simp only [List.map_append, h2, h4, List.flatMap_cons]⟩
    simp only [wrL, List.flatMap_cons, List.append_assoc, List.cons_append, List.nil_append] at h3 ⊢
    exact h3
end Go.Proofs.YtlnmmakbgldflaaGreatDoor.Vc
/-
  SOURCE: plain laws: what is read of a text's tokens. No program in sight.
-/
namespace Go.Proofs.YtlnmmakbgldflaaGreatDoor.Vc
open Go

/-- the token of a shape -/
theorem Tk.of_sh {t : Tk} {k n : Int} {x : List UInt8} (h : t.sh = (k, x, n)) : t.kind = k ∧ t.text = x ∧ t.int = n := by
  simp only [Tk.sh, Prod.mk.injEq] at h; exact h
theorem map_cons_inv {α β : Type} {f : α → β} {l : List α} {b : β} {m : List β} (h : l.map f = b :: m) : ∃ a l', l = a :: l' ∧ f a = b ∧ l'.map f = m := by
  cases l with
  | nil => cases h
  | cons a l' => simp only [List.map_cons, List.cons.injEq] at h; exact ⟨a, l', rfl, h.1, h.2⟩
theorem map_app_inv {α β : Type} {f : α → β} : ∀ {u v : List β} {l : List α}, l.map f = u ++ v → ∃ a b, l = a ++ b ∧ a.map f = u ∧ b.map f = v
  | [], v, l, h => ⟨[], l, rfl, rfl, h⟩
  | x :: u, v, l, h => by
    obtain ⟨a, l', rfl, h1, h2⟩ := map_cons_inv h
    obtain ⟨p, q, rfl, h3, h4⟩ := map_app_inv h2
    exact ⟨a :: p, q, rfl, by simp only [List.map_cons, h1, h3], h4⟩
/-- a token of an atom -/
theorem run_atom {en : Int} {t : Tk} {ts : List Tk} {rs : List Opn} {out : List Dat} (hk : 5 ≤ t.kind) (hf : fullB (topO rs) = false) : runR en (t :: ts) rs out = runR en ts (endedS rs (oneD t)).1 (out ++ (endedS rs (oneD t)).2.toList) := by
  have hm : mayI rs t.kind = 0 := by
    unfold mayI
    rw [if_neg (by omega), if_neg (by omega), hf, if_neg (by simp), if_neg (by omega)]
  have hn : nextS t rs = endedS rs (oneD t) := by
    unfold nextS
    rw [if_neg (by omega), if_neg (by omega), if_neg (by omega)]
  rw [runR, if_pos hm, hn]
theorem run_open {en : Int} {t : Tk} {ts : List Tk} {rs : List Opn} {out : List Dat} (hk : t.kind = 0 ∨ t.kind = 2 ∨ t.kind = 3) (hf : fullB (topO rs) = false) (hl : rs.length < 32) : runR en (t :: ts) rs out = runR en ts (.mk t.kind [] (-1) :: rs) out := by
  have hm : mayI rs t.kind = 0 := by
    unfold mayI
    rw [if_neg (by omega), if_neg (by omega), hf, if_neg (by simp), if_neg (by omega)]
  have hn : nextS t rs = (.mk t.kind [] (-1) :: rs, none) := by
    unfold nextS
    rw [if_pos hk]
  rw [runR, if_pos hm, hn]
  simp
theorem run_over {en : Int} {t : Tk} {ts : List Tk} {rs : List Opn} {out : List Dat} (hk : t.kind = 0 ∨ t.kind = 2 ∨ t.kind = 3) (hf : fullB (topO rs) = false) (hl : 32 ≤ rs.length) : runR en (t :: ts) rs out = .bad t.at_ 43 := by
  have hm : mayI rs t.kind = 43 := by
    unfold mayI
    rw [if_neg (by omega), if_neg (by omega), hf, if_neg (by simp), if_pos ⟨hk, hl⟩]
  rw [runR, hm]; rfl
theorem run_close {en : Int} {t : Tk} {ts : List Tk} {o : Opn} {rs : List Opn} {out : List Dat} (hk : t.kind = 1) (h1 : o.kind ≠ -1) (h3 : o.kind ≠ 3) (hd : o.dot < 0 ∨ fullB o = true) : runR en (t :: ts) (o :: rs) out = runR en ts (endedS rs (closedD o)).1 (out ++ (endedS rs (closedD o)).2.toList) := by
  have hm : mayI (o :: rs) t.kind = 0 := by
    unfold mayI
    rw [if_pos hk]
    refine if_neg ?_
    rintro (h | h | ⟨h, h'⟩)
    · exact h1 h
    · exact h3 h
    · have h : 0 ≤ o.dot := h
      have h' : fullB o = false := h'
      rcases hd with hd | hd
      · omega
      · rw [hd] at h'; cases h'
  have hn : nextS t (o :: rs) = endedS rs (closedD o) := by
    unfold nextS
    rw [if_neg (by omega), if_neg (by omega), if_pos hk]; rfl
  rw [runR, if_pos hm, hn]
theorem run_dot {en : Int} {t : Tk} {ts : List Tk} {l : List Dat} {rs : List Opn} {out : List Dat} (hk : t.kind = 4) (hl : l ≠ []) : runR en (t :: ts) (.mk 0 l (-1) :: rs) out = runR en ts (.mk 0 l l.length :: rs) out := by
  have h0 : 0 < l.length := List.length_pos_iff.2 hl
  have hm : mayI (.mk 0 l (-1) :: rs) t.kind = 0 := by
    unfold mayI
    rw [if_neg (by omega), if_pos hk]
    refine if_neg ?_
    show ¬ ((0 : Int) ≠ 0 ∨ (0 : Int) ≤ -1 ∨ l.length = 0)
    omega
  have hn : nextS t (.mk 0 l (-1) :: rs) = (.mk 0 l l.length :: rs, none) := by
    unfold nextS
    rw [if_neg (by omega), if_pos hk]; rfl
  rw [runR, if_pos hm, hn]
  simp
theorem full_neg {k : Int} {l : List Dat} : fullB (.mk k l (-1)) = false := by unfold fullB; simp [Opn.dot]
theorem full_dot {k : Int} {l : List Dat} : fullB (.mk k l (l.length : Int)) = false := by
  have h : ¬ ((l.length : Int) = (l.length : Int) + 1) := by omega
  simp [fullB, Opn.dot, Opn.list, h]
theorem full_tail {k : Int} {l : List Dat} {d : Dat} : fullB (.mk k (l ++ [d]) (l.length : Int)) = true := by unfold fullB; simp [Opn.dot, Opn.list]
theorem ended_into {k : Int} {l : List Dat} {dt : Int} {rs : List Opn} {d : Dat} (h : k ≠ 3) : endedS (.mk k l dt :: rs) d = (.mk k (l ++ [d]) dt :: rs, none) := by
  rw [endedS, if_neg (by simpa [Opn.kind] using h)]; rfl

def RunAt (d : Dat) : Prop := d.Good → ∀ (en : Int) (ts ts' : List Tk) (rs : List Opn) (out : List Dat), ts.map Tk.sh = d.shs → fullB (topO rs) = false → rs.length ≤ 32 →
  (rs.length + d.deep ≤ 32 → runR en (ts ++ ts') rs out = runR en ts' (endedS rs d).1 (out ++ (endedS rs d).2.toList)) ∧ (32 < rs.length + d.deep → ∃ t ∈ ts, runR en (ts ++ ts') rs out = .bad t.at_ 43)
/-- what stands in brackets is read into what is open -/
theorem items_run : ∀ (l : List Dat), (∀ e ∈ l, RunAt e) → (∀ e ∈ l, e.Good) → ∀ (k : Int) (dotted : Bool) (en : Int) (ts ts' : List Tk) (acc : List Dat) (rs : List Opn) (out : List Dat), ts.map Tk.sh = Dats.shs dotted l → k ≠ 3 → rs.length < 32 → (dotted = true → k = 0 ∧ 2 ≤ acc.length + l.length) →
    (rs.length + 1 + Dats.deep l ≤ 32 → runR en (ts ++ ts') (.mk k acc (-1) :: rs) out = runR en ts' (.mk k (acc ++ l) (if dotted = true ∧ l ≠ [] then ((acc.length + l.length - 1 : Nat) : Int) else -1) :: rs) out) ∧
    (32 < rs.length + 1 + Dats.deep l → ∃ t ∈ ts, runR en (ts ++ ts') (.mk k acc (-1) :: rs) out = .bad t.at_ 43)
  | [], _, _, k, dotted, en, ts, ts', acc, rs, out, hts, hk, hr, hd => by
    simp only [Dats.shs, List.map_eq_nil_iff] at hts
    subst hts
    simp only [Dats.deep]
    exact ⟨fun _ => by simp, fun h => by omega⟩
  | d :: l, ih, hg, k, dotted, en, ts, ts', acc, rs, out, hts, hk, hr, hd => by
    have hgd := hg d (List.mem_cons_self ..)
    have ihd := ih d (List.mem_cons_self ..) hgd
    simp only [Dats.shs] at hts
    simp only [Dats.deep]
    cases hb : (dotted && l.isEmpty) with
    | true =>
      rw [hb] at hts
      simp only [if_true, List.cons_append, List.nil_append] at hts
      simp only [Bool.and_eq_true, List.isEmpty_iff] at hb
      obtain ⟨rfl, rfl⟩ := hb
      obtain ⟨rfl, h2⟩ := hd rfl
      simp only [List.length_cons, List.length_nil] at h2
      obtain ⟨t, ts, rfl, ht, hts⟩ := map_cons_inv hts
      simp only [Dats.shs, List.append_nil] at hts
      have hne : acc ≠ [] := fun e => by rw [e] at h2; simp at h2
      have hr1 := ihd en ts ts' (.mk 0 acc acc.length :: rs) out hts full_dot (by simp only [List.length_cons]; omega)
      rw [List.cons_append, run_dot (Tk.of_sh ht).1 hne]
      simp only [List.length_cons, Dats.deep] at hr1 ⊢
      refine ⟨fun h => ?_, fun h => ?_⟩
      · rw [hr1.1 (by omega), ended_into hk]
        simp
      · obtain ⟨t', h3, h4⟩ := hr1.2 (by omega)
        exact ⟨t', List.mem_cons_of_mem _ h3, h4⟩
    | false =>
      rw [hb] at hts
      simp only [Bool.false_eq_true, if_false, List.nil_append] at hts
      obtain ⟨ts1, ts2, rfl, h1, h2⟩ := map_app_inv hts
      have hr1 := ihd en ts1 (ts2 ++ ts') (.mk k acc (-1) :: rs) out h1 full_neg (by simp only [List.length_cons]; omega)
      have hr2 := items_run l (fun e he => ih e (List.mem_cons_of_mem _ he)) (fun e he => hg e (List.mem_cons_of_mem _ he)) k dotted en ts2 ts' (acc ++ [d]) rs out h2 hk hr (fun hdt => ⟨(hd hdt).1, by
        have := (hd hdt).2
        simp only [List.length_cons, List.length_append, List.length_nil] at this ⊢; omega⟩)
      simp only [List.length_cons] at hr1
      rw [List.append_assoc]
      by_cases hq : rs.length + 1 + d.deep ≤ 32
      · rw [hr1.1 hq, ended_into hk]
        simp only [Option.toList, List.append_nil]
        refine ⟨fun h => ?_, fun h => ?_⟩
        · rw [hr2.1 (by omega)]
          have e1 : acc ++ [d] ++ l = acc ++ d :: l := by simp
          have e2 : (if dotted = true ∧ l ≠ [] then (((acc ++ [d]).length + l.length - 1 : Nat) : Int) else -1) = if dotted = true ∧ d :: l ≠ [] then ((acc.length + (d :: l).length - 1 : Nat) : Int) else -1 := by
            cases dotted with
            | false => simp
            | true =>
              have hl : l ≠ [] := fun e => by rw [e] at hb; cases hb
              rw [if_pos ⟨rfl, hl⟩, if_pos ⟨rfl, by simp⟩]
              simp only [List.length_append, List.length_cons, List.length_nil]
              congr 1; omega
          rw [e1, e2]
        · obtain ⟨t, h3, h4⟩ := hr2.2 (by omega)
          exact ⟨t, List.mem_append_right _ h3, h4⟩
      · refine ⟨fun h => by omega, fun _ => ?_⟩
        obtain ⟨t, h3, h4⟩ := hr1.2 (by omega)
        exact ⟨t, List.mem_append_left _ h3, h4⟩
theorem closed_lst (l : List Dat) : closedD (.mk 0 l (-1)) = .mk 5 0 [] l := by
  unfold closedD
  simp [Opn.kind, Opn.dot, Opn.list]
theorem closed_vec (l : List Dat) : closedD (.mk 2 l (-1)) = .mk 7 0 [] l := by
  unfold closedD
  simp [Opn.kind, Opn.list]
theorem closed_dotted (l : List Dat) (d : Dat) : closedD (.mk 0 (l ++ [d]) (l.length : Int)) = makeD l d := by
  unfold closedD
  rw [if_neg (show ¬ (Opn.mk 0 (l ++ [d]) (l.length : Int)).kind = 2 from (by decide : ¬ (0 : Int) = 2)), if_neg (show ¬ (Opn.mk 0 (l ++ [d]) (l.length : Int)).dot < 0 from by show ¬ ((l.length : Int) < 0); omega)]
  show makeD ((l ++ [d]).take (l.length : Int).toNat) (((l ++ [d])[(l.length : Int).toNat]?).getD _) = _
  rw [Int.toNat_natCast, List.take_left]
  simp
theorem dotted_split {d : Dat} (h : formOk d = true) (h6 : d.kind = 6) : ∃ l e, d.list = l ++ [e] ∧ l ≠ [] ∧ e.kind ≠ 5 ∧ e.kind ≠ 6 := by
  have h2 := form_dotted h h6
  have hl : d.list ≠ [] := fun e => by rw [e] at h2; simp at h2
  refine ⟨d.list.dropLast, d.list.getLast hl, (List.dropLast_concat_getLast hl).symm, ?_, ?_⟩
  · intro e
    have := congrArg List.length e
    simp only [List.length_dropLast, List.length_nil] at this; omega
  · have hg : d.list[d.list.length - 1]? = some (d.list.getLast hl) := by rw [← List.getLast?_eq_getElem?, List.getLast?_eq_some_getLast hl]
    unfold formOk at h
    rw [h6, hg] at h
    simp at h
    exact h.2
theorem run_at : ∀ d, RunAt d := by
  refine Dat.ind fun d ih hg en ts ts' rs out hts hf hr => ?_
  have hform := hg.form
  have hdp := Dat.deep_eq d
  have atom : ∀ (kd n : Int) (x : List UInt8), d.shs = [(kd, x, n)] → 5 ≤ kd → nested d.kind = false → oneD (.mk kd x n 0 0) = d →
      (rs.length + d.deep ≤ 32 → runR en (ts ++ ts') rs out = runR en ts' (endedS rs d).1 (out ++ (endedS rs d).2.toList)) ∧ (32 < rs.length + d.deep → ∃ t ∈ ts, runR en (ts ++ ts') rs out = .bad t.at_ 43) := by
    intro kd n x h1 h2 h3 h4
    rw [h3] at hdp
    simp only [Bool.false_eq_true, if_false] at hdp
    refine ⟨fun _ => ?_, fun h => by omega⟩
    rw [h1] at hts
    obtain ⟨t, tl, rfl, ht, htl⟩ := map_cons_inv hts
    obtain rfl := List.map_eq_nil_iff.1 htl
    obtain ⟨g1, g2, g3⟩ := Tk.of_sh ht
    have e : oneD t = d := by rw [← h4]; unfold oneD; rw [g1, g2, g3]; rfl
    rw [List.cons_append, List.nil_append, run_atom (by omega) hf, e]
  have list : ∀ (k : Int) (dotted : Bool), (k = 0 ∨ k = 2) → (dotted = true → k = 0 ∧ 2 ≤ d.list.length) → nested d.kind = true → d.shs = (k, [], 0) :: (Dats.shs dotted d.list ++ [(1, [], 0)]) →
      closedD (.mk k d.list (if dotted = true ∧ d.list ≠ [] then ((d.list.length - 1 : Nat) : Int) else -1)) = d →
      (rs.length + d.deep ≤ 32 → runR en (ts ++ ts') rs out = runR en ts' (endedS rs d).1 (out ++ (endedS rs d).2.toList)) ∧ (32 < rs.length + d.deep → ∃ t ∈ ts, runR en (ts ++ ts') rs out = .bad t.at_ 43) := by
    intro k dotted hk hdt hn hs hc
    rw [hn] at hdp
    simp only [if_true] at hdp
    rw [hs] at hts
    obtain ⟨t, tl, rfl, ht, htl⟩ := map_cons_inv hts
    obtain ⟨tl1, tl2, rfl, h1, h2⟩ := map_app_inv htl
    obtain ⟨u, tl3, rfl, hu, h3⟩ := map_cons_inv h2
    obtain rfl := List.map_eq_nil_iff.1 h3
    obtain ⟨g1, _, _⟩ := Tk.of_sh ht
    obtain ⟨u1, _, _⟩ := Tk.of_sh hu
    have hop : t.kind = 0 ∨ t.kind = 2 ∨ t.kind = 3 := by omega
    rw [List.cons_append]
    by_cases h32 : rs.length < 32
    · rw [run_open hop hf h32, g1, List.append_assoc]
      have hi := items_run d.list ih hg.kids k dotted en tl1 ([u] ++ ts') [] rs out h1 (by omega) h32 (fun h => ⟨(hdt h).1, by have := (hdt h).2; simp only [List.length_nil]; omega⟩)
      refine ⟨fun h => ?_, fun h => ?_⟩
      · rw [hi.1 (by omega)]
        simp only [List.nil_append, List.length_nil, Nat.zero_add, List.cons_append]
        rw [run_close u1 (by simp only [Opn.kind]; omega) (by simp only [Opn.kind]; omega) ?_, hc]
        by_cases hq : dotted = true ∧ d.list ≠ []
        · right
          rw [if_pos hq]
          have h0 : 0 < d.list.length := List.length_pos_iff.2 hq.2
          have e1 : (0 : Int) ≤ ((d.list.length - 1 : Nat) : Int) := by omega
          have e2 : (d.list.length : Int) = ((d.list.length - 1 : Nat) : Int) + 1 := by omega
          show (decide ((0 : Int) ≤ ((d.list.length - 1 : Nat) : Int)) && decide ((d.list.length : Int) = ((d.list.length - 1 : Nat) : Int) + 1)) = true
          rw [decide_eq_true e1, decide_eq_true e2]; rfl
        · left
          rw [if_neg hq]; show (-1 : Int) < 0; decide
      · obtain ⟨t', h4, h5⟩ := hi.2 (by omega)
        exact ⟨t', List.mem_cons_of_mem _ (List.mem_append_left _ h4), h5⟩
    · refine ⟨fun h => by omega, fun _ => ⟨t, List.mem_cons_self .., run_over hop hf (by omega)⟩⟩
  rcases form_cases hform with ⟨hk, hi, ht, hl⟩ | ⟨hk, ht, hl⟩ | ⟨hk, h0, h255, ht, hl⟩ | ⟨hk, hi, hl⟩ | ⟨hk, hi, hl, hn⟩ | ⟨hk, hi, ht⟩ | ⟨hk, hi, ht, h2⟩ | ⟨hk, hi, ht⟩
  · exact atom 5 d.int [] (by rw [Dat.shs_eq, if_pos hk]) (by omega) (by rw [hk]; decide) (Dat.eq_iff.2 ⟨hk.symm, rfl, ht.symm, hl.symm⟩)
  · exact atom 6 d.int [] (by rw [Dat.shs_eq, if_neg (by omega), if_pos hk]) (by omega) (by rw [hk]; decide) (Dat.eq_iff.2 ⟨hk.symm, rfl, ht.symm, hl.symm⟩)
  · exact atom 7 d.int [] (by rw [Dat.shs_eq, if_neg (by omega), if_neg (by omega), if_pos hk]) (by omega) (by rw [hk]; decide) (Dat.eq_iff.2 ⟨hk.symm, rfl, ht.symm, hl.symm⟩)
  · exact atom 8 0 d.text (by rw [Dat.shs_eq, if_neg (by omega), if_neg (by omega), if_neg (by omega), if_pos hk]) (by omega) (by rw [hk]; decide) (Dat.eq_iff.2 ⟨hk.symm, hi.symm, rfl, hl.symm⟩)
  · exact atom 9 0 d.text (by rw [Dat.shs_eq, if_neg (by omega), if_neg (by omega), if_neg (by omega), if_neg (by omega), if_pos hk]) (by omega) (by rw [hk]; decide) (Dat.eq_iff.2 ⟨hk.symm, hi.symm, rfl, hl.symm⟩)
  all_goals
    have hs : d.shs = (if d.kind = 7 then 2 else 0, [], 0) :: (Dats.shs (decide (d.kind = 6)) d.list ++ [(1, [], 0)]) := by
      rw [Dat.shs_eq, if_neg (by omega), if_neg (by omega), if_neg (by omega), if_neg (by omega), if_neg (by omega)]
  · refine list 0 false (.inl rfl) (fun h => by cases h) (by rw [hk]; decide) (by rw [hs, hk]; rfl) ?_
    simp only [Bool.false_eq_true, false_and, if_false]
    rw [closed_lst]
    exact Dat.eq_iff.2 ⟨hk.symm, hi.symm, ht.symm, rfl⟩
  · refine list 0 true (.inl rfl) (fun _ => ⟨rfl, h2⟩) (by rw [hk]; decide) (by rw [hs, hk]; rfl) ?_
    obtain ⟨l, e, hle, hne, h5, h6⟩ := dotted_split hform hk
    have h0 : d.list ≠ [] := by rw [hle]; simp
    rw [if_pos ⟨rfl, h0⟩, hle, show (l ++ [e]).length - 1 = l.length by simp, closed_dotted]
    have : 0 < l.length := List.length_pos_iff.2 hne
    unfold makeD
    rw [if_neg (by omega), if_neg (by omega)]
    exact Dat.eq_iff.2 ⟨hk.symm, hi.symm, ht.symm, hle.symm⟩
  · refine list 2 false (.inr rfl) (fun h => by cases h) (by rw [hk]; decide) (by rw [hs, hk]; rfl) ?_
    simp only [Bool.false_eq_true, false_and, if_false]
    rw [closed_vec]
    exact Dat.eq_iff.2 ⟨hk.symm, hi.symm, ht.symm, rfl⟩
/-- data at the outermost -/
theorem run_all : ∀ (l : List Dat), (∀ e ∈ l, (e.chk 0 0).2 = 0) → ∀ (en : Int) (ts : List Tk) (out : List Dat), ts.map Tk.sh = l.flatMap Dat.shs → runR en ts [] out = .all (out ++ l)
  | [], _, en, ts, out, h => by
    obtain rfl := List.map_eq_nil_iff.1 h
    rw [runR]; simp
  | d :: l, hg, en, ts, out, h => by
    rw [List.flatMap_cons] at h
    obtain ⟨ts1, ts2, rfl, h1, h2⟩ := map_app_inv h
    have hd := hg d (List.mem_cons_self ..)
    have := (run_at d (ok_good hd) en ts1 ts2 [] out h1 (by rfl) (by simp)).1 (by have := (ok_iff.1 hd).2.1; simp only [List.length_nil]; omega)
    rw [this]
    show runR en ts2 [] (out ++ [d]) = _
    rw [run_all l (fun e he => hg e (List.mem_cons_of_mem _ he)) en ts2 _ h2]
    simp

/-! ### what is written is read -/
theorem tokL_many (tot : Nat) {p : Nat} {l : List UInt8} {ts : List Tk} (h : TR p l ts) : ∀ k : Nat, k ≤ 2048 → 2048 < k + ts.length → ∃ a, tokL tot (gapL false l) k = .bad a 34 := by
  induction h with
  | nil h => intro k hk h2; simp only [List.length_nil] at h2; omega
  | cons h1 h2 h3 h4 h5 ih =>
    intro k hk hl
    simp only [List.length_cons] at hl
    rw [h1, tokL_cons _ _ h2]
    split
    · exact ⟨_, rfl⟩
    · rename_i hk'
      rw [h4]
      obtain ⟨a, ha⟩ := ih (k + 1) (by omega) (by omega)
      exact ⟨a, by dsimp only; rw [ha]; rfl⟩
/-- what data are written as is read as them, unless that is too long or too much -/
theorem read_wr {l : List Dat} (h : ∀ e ∈ l, (e.chk 0 0).2 = 0) : (readS (wrL l) = .all l) ∨ (∃ a e, readS (wrL l) = .bad a e ∧ (e = 34 ∨ e = 35) ∧ 2048 < (wrL l).length ∧ (4096 < (wrL l).length ∨ 2048 < (l.flatMap Dat.shs).length)) := by
  obtain ⟨ts, h1, h2⟩ := all_TR l (fun e he => ok_good (h e he)) 0
  have hlen : ts.length = (l.flatMap Dat.shs).length := by rw [← h2, List.length_map]
  have hn := h1.len
  by_cases h4 : (wrL l).length ≤ 4096
  · by_cases h5 : ts.length ≤ 2048
    · left
      rw [readS, (tokens_TR _ _).2 ⟨h4, h5, h1⟩]
      have := run_all l h (wrL l).length ts [] h2
      rw [List.nil_append] at this
      exact this
    · right
      obtain ⟨a, ha⟩ := tokL_many (wrL l).length h1 0 (by omega) (by omega)
      refine ⟨a, 34, ?_, .inl rfl, by omega, .inr (by omega)⟩
      rw [readS, tokens_eq, if_neg (by omega), ha]
  · right
    refine ⟨0, 35, ?_, .inr rfl, by omega, .inl (by omega)⟩
    rw [readS, tokens_eq, if_pos (by omega)]
theorem writeL_all : ∀ (l : List Dat) (acc : List UInt8), (∀ e ∈ l, (e.chk 0 0).2 = 0) → writeL l acc = (acc ++ wrL l, 0)
  | [], acc, _ => by simp [writeL, wrL]
  | d :: l, acc, h => by
    rw [writeL, if_pos (h d (List.mem_cons_self ..)), writeL_all l _ (fun e he => h e (List.mem_cons_of_mem _ he))]
    simp [wrL]
theorem writeL_bad : ∀ (l : List Dat) (acc : List UInt8), (¬ ∀ e ∈ l, (e.chk 0 0).2 = 0) → ∃ e, e ≠ 0 ∧ writeL l acc = ([], e)
  | [], acc, h => absurd (fun e he => by cases he) h
  | d :: l, acc, h => by
    rw [writeL]
    by_cases hd : (d.chk 0 0).2 = 0
    · rw [if_pos hd]
      refine writeL_bad l _ fun hl => h fun e he => ?_
      rcases List.mem_cons.1 he with rfl | he
      · exact hd
      · exact hl e he
    · rw [if_neg hd]; exact ⟨_, hd, rfl⟩
end Go.Proofs.YtlnmmakbgldflaaGreatDoor.Vc
/-
  SOURCE: plain laws: what is read may be, and how long what is written of it is. No program in sight.
-/
namespace Go.Proofs.YtlnmmakbgldflaaGreatDoor.Vc
open Go

/-! ### how long texts are -/
def Dats.tw : List Dat → Nat
  | [] => 0
  | d :: l => (d.txtL false).length + 1 + Dats.tw l
theorem Dats.tw_append : ∀ l m : List Dat, Dats.tw (l ++ m) = Dats.tw l + Dats.tw m
  | [], m => by simp [Dats.tw]
  | d :: l, m => by simp only [List.cons_append, Dats.tw, Dats.tw_append l m]; omega
theorem wrL_len : ∀ l : List Dat, (wrL l).length = Dats.tw l
  | [] => rfl
  | d :: l => by
    have := wrL_len l
    simp only [wrL, List.flatMap_cons, List.length_append, List.length_cons, List.length_nil, Dats.tw] at this ⊢; omega
theorem txts_len (dotted : Bool) : ∀ (l : List Dat) (first : Bool), (Dats.txtL false dotted first l).length + (if first = true ∧ l ≠ [] then 1 else 0) = Dats.tw l + (if dotted = true ∧ l ≠ [] then 2 else 0)
  | [], first => by simp [Dats.txtL, Dats.tw]
  | d :: l, first => by
    have := txts_len dotted l false
    simp only [Bool.false_eq_true, false_and, if_false, Nat.add_zero] at this
    simp only [Dats.txtL, Dats.tw, List.length_append, this]
    cases l with
    | nil => cases first <;> cases dotted <;> simp <;> omega
    | cons e l => cases first <;> cases dotted <;> simp <;> omega
theorem list_len {d : Dat} (h : d.kind = 5 ∨ d.kind = 6 ∨ d.kind = 7) : Dats.tw d.list + 2 ≤ (d.txtL false).length + 1 ∧ (d.txtL false).length + 1 ≤ (if d.kind = 7 then 4 else if d.kind = 6 then 5 else 3) + Dats.tw d.list := by
  have ht : d.txtL false = (if d.kind = 7 then [35, 40] else [40]) ++ Dats.txtL false (decide (d.kind = 6)) true d.list ++ [41] := by
    rw [Dat.txtL_eq, if_neg (by omega), if_neg (by omega), if_neg (by omega), if_neg (by omega), if_neg (by omega)]
  have hl := txts_len (decide (d.kind = 6)) d.list true
  rw [ht]
  simp only [List.length_append, List.length_cons, List.length_nil]
  by_cases hn : d.list = []
  · rw [hn] at hl ⊢
    simp only [Dats.txtL, Dats.tw, List.length_nil]
    rcases h with h | h | h <;> simp [h]
  · simp only [hn, ne_eq, not_false_eq_true, and_true, if_true, decide_eq_true_eq] at hl
    rcases h with h | h | h <;> simp [h] at hl ⊢ <;> omega
theorem len5 (l : List Dat) : ((Dat.mk 5 0 [] l).txtL false).length + 1 ≤ 3 + Dats.tw l := by
  have h := (list_len (d := .mk 5 0 [] l) (.inl rfl)).2
  rw [if_neg (show ¬ (Dat.mk 5 0 [] l).kind = 7 from (by decide : ¬ (5 : Int) = 7)), if_neg (show ¬ (Dat.mk 5 0 [] l).kind = 6 from (by decide : ¬ (5 : Int) = 6))] at h
  exact h
theorem len6 (l : List Dat) : ((Dat.mk 6 0 [] l).txtL false).length + 1 ≤ 5 + Dats.tw l := by
  have h := (list_len (d := .mk 6 0 [] l) (.inr (.inl rfl))).2
  rw [if_neg (show ¬ (Dat.mk 6 0 [] l).kind = 7 from (by decide : ¬ (6 : Int) = 7)), if_pos (show (Dat.mk 6 0 [] l).kind = 6 from rfl)] at h
  exact h
theorem len7 (l : List Dat) : ((Dat.mk 7 0 [] l).txtL false).length + 1 ≤ 4 + Dats.tw l := by
  have h := (list_len (d := .mk 7 0 [] l) (.inr (.inr rfl))).2
  rw [if_pos (show (Dat.mk 7 0 [] l).kind = 7 from rfl)] at h
  exact h
/-- what is open, as bytes -/
def wT (o : Opn) : Nat := (if o.kind = 3 then 8 else if o.kind = 2 then 4 else 3) + (if 0 ≤ o.dot then 2 else 0) + Dats.tw o.list
theorem wT_mk (k : Int) (l : List Dat) (d : Int) : wT (.mk k l d) = (if k = 3 then 8 else if k = 2 then 4 else 3) + (if 0 ≤ d then 2 else 0) + Dats.tw l := rfl
def wTS : List Opn → Nat
  | [] => 0
  | o :: rs => wT o + wTS rs
theorem closed_len {o : Opn} (h3 : o.kind ≠ 3) (hd : 0 ≤ o.dot → (o.list.length : Int) = o.dot + 1) : ((closedD o).txtL false).length + 1 ≤ wT o := by
  unfold closedD wT
  rw [if_neg h3]
  split
  · rename_i h2
    have := len7 o.list
    split <;> omega
  split
  · rename_i h2 h1
    have := len5 o.list
    split <;> omega
  · rename_i h2 h1
    have h4 := hd (by omega)
    obtain ⟨k, hk⟩ : ∃ k : Nat, o.dot = k := ⟨o.dot.toNat, by omega⟩
    have hkl : k < o.list.length := by omega
    obtain ⟨x, hx⟩ : ∃ x, o.list[k]? = some x := ⟨_, List.getElem?_eq_getElem hkl⟩
    have hsp : o.list = o.list.take k ++ [x] := by
      have := List.take_append_drop k o.list
      rw [drop_get hx, List.drop_eq_nil_of_le (by omega)] at this
      exact this.symm
    have htw : Dats.tw o.list = Dats.tw (o.list.take k) + ((x.txtL false).length + 1) := by
      rw [congrArg Dats.tw hsp, Dats.tw_append]; simp [Dats.tw]
    rw [hk, Int.toNat_natCast, hx, if_pos (by omega), htw]
    simp only [Option.getD_some]
    unfold makeD
    split
    · omega
    split
    · rename_i h0 h56
      have h6 := (list_len (d := x) (by omega)).1
      rcases h56 with h56 | h56
      · rw [h56]
        have h5 := len5 (o.list.take k ++ x.list)
        rw [Dats.tw_append] at h5; omega
      · rw [h56]
        have h5 := len6 (o.list.take k ++ x.list)
        rw [Dats.tw_append] at h5; omega
    · have h5 := len6 (o.list.take k ++ [x])
      rw [Dats.tw_append] at h5
      simp only [Dats.tw] at h5
      omega
theorem quote_len (d : Dat) : ((quoteD d).txtL false).length = (d.txtL false).length + 8 := by
  have hq : ∀ t : List UInt8, (Dat.mk 4 0 t []).txtL false = t := fun t => by rw [Dat.txtL_eq]; rfl
  have ht : ∀ l : List Dat, (Dat.mk 5 0 [] l).txtL false = [40] ++ Dats.txtL false false true l ++ [41] := fun l => by rw [Dat.txtL_eq]; simp [Dat.kind, Dat.list]
  rw [quoteD, ht]
  simp [Dats.txtL, hq]
theorem ended_len : ∀ (rs : List Opn) (d : Dat), wTS (endedS rs d).1 + Dats.tw (endedS rs d).2.toList ≤ wTS rs + ((d.txtL false).length + 1)
  | [], d => by simp [endedS, wTS, Dats.tw]
  | o :: rs, d => by
    rw [endedS]
    split
    · rename_i h
      have h1 := ended_len rs (quoteD d)
      rw [quote_len] at h1
      have h2 : 8 ≤ wT o := by unfold wT; rw [if_pos h]; omega
      simp only [wTS]; omega
    · have h1 : wT o = (if o.kind = 3 then 8 else if o.kind = 2 then 4 else 3) + (if 0 ≤ o.dot then 2 else 0) + Dats.tw o.list := rfl
      simp only [wTS, wT_mk, Dats.tw_append, Dats.tw, Option.toList]; omega
theorem ended_cnt : ∀ (rs : List Opn) (d : Dat), cntS (endedS rs d).1 + Dats.cnt (endedS rs d).2.toList ≤ cntS rs + d.cnt
  | [], d => by simp [endedS, cntS, Dats.cnt]
  | o :: rs, d => by
    rw [endedS]
    split
    · rename_i h
      have h1 := ended_cnt rs (quoteD d)
      have hq : (quoteD d).cnt = d.cnt + 2 := by simp [quoteD, Dat.cnt, Dats.cnt]; omega
      have h2 : 2 ≤ wtO o := by rw [wtO_3 h]; omega
      simp only [cntS]; omega
    · rename_i h
      simp only [cntS, Option.toList, Dats.cnt]
      rw [wtO_mk, if_neg h, wtO_1 h, Dats.cnt_append]
      simp only [Dats.cnt]; omega
/-- a token, as bytes -/
def tkW (t : Tk) : Nat := if t.kind = 0 then 3 else if t.kind = 1 then 0 else if t.kind = 2 then 4 else if t.kind = 3 then 8 else if t.kind = 4 then 2 else ((oneD t).txtL false).length + 1
def tkWs : List Tk → Nat
  | [] => 0
  | t :: ts => tkW t + tkWs ts
theorem next_len {rs : List Opn} {t : Tk} (hm : mayI rs t.kind = 0) : wTS (nextS t rs).1 + Dats.tw (nextS t rs).2.toList ≤ wTS rs + tkW t ∧ cntS (nextS t rs).1 + Dats.cnt (nextS t rs).2.toList ≤ cntS rs + 2 := by
  unfold nextS
  split
  · rename_i h
    simp only [wTS, wT_mk, Dats.tw, Option.toList, cntS, Dats.cnt]
    rw [wtO_mk, Dats.cnt]
    unfold tkW
    rcases h with h | h | h <;> simp [h] <;> omega
  split
  · rename_i h0 h4
    rw [h4] at hm
    obtain ⟨o, r, rfl⟩ := may_dot hm
    have hdt : ¬ 0 ≤ o.dot := by
      unfold mayI at hm
      rw [if_neg (by decide), if_pos rfl] at hm
      split at hm
      · cases hm
      · rename_i h; intro hh; exact h (.inr (.inl hh))
    have h1 : wT o = (if o.kind = 3 then 8 else if o.kind = 2 then 4 else 3) + (if 0 ≤ o.dot then 2 else 0) + Dats.tw o.list := rfl
    rw [if_neg hdt] at h1
    have h2 : wtO o = (if o.kind = 3 then 2 else 1) + Dats.cnt o.list := rfl
    simp only [wTS, wT_mk, Dats.tw, Option.toList, cntS, Dats.cnt]
    rw [wtO_mk, h2]
    have : tkW t = 2 := by unfold tkW; simp [h4]
    rw [this, if_pos (show (0 : Int) ≤ (o.list.length : Int) by omega)]
    exact ⟨by omega, by omega⟩
  split
  · rename_i h0 h4 h1
    rw [h1] at hm
    obtain ⟨o, r, rfl, h3, hd⟩ := may_close hm
    have e1 := ended_len r (closedD o)
    have e2 := ended_cnt r (closedD o)
    have e3 := closed_len h3 hd
    have e4 := closedD_cnt hd
    have e5 := wtO_1 h3
    simp only [List.tail_cons, topO, wTS, cntS]
    exact ⟨by omega, by omega⟩
  · rename_i h0 h4 h1
    have e1 := ended_len rs (oneD t)
    have e2 := ended_cnt rs (oneD t)
    have e3 : (oneD t).cnt = 1 := by simp [oneD, Dat.cnt, Dats.cnt]
    have e4 : tkW t = ((oneD t).txtL false).length + 1 := by
      unfold tkW
      rw [if_neg (by omega), if_neg h1, if_neg (by omega), if_neg (by omega), if_neg h4]
    exact ⟨by omega, by omega⟩

/-! ### what is open may be -/
def StkOk : List Opn → Prop
  | [] => True
  | o :: rs => (∀ e ∈ o.list, e.AF ∧ e.deep + rs.length + 1 ≤ 32) ∧ (0 ≤ o.dot → 1 ≤ o.dot) ∧ rs.length + 1 ≤ 32 ∧ StkOk rs
theorem StkOk.len : ∀ {rs : List Opn}, StkOk rs → rs.length ≤ 32
  | [], _ => by simp
  | o :: rs, h => by have := h.2.2.1; simp only [List.length_cons]; omega
theorem form_dotted_of {l : List Dat} {e : Dat} (hl : l ≠ []) (h5 : e.kind ≠ 5) (h6 : e.kind ≠ 6) : formOk (.mk 6 0 [] (l ++ [e])) = true := by
  have h0 : 0 < l.length := List.length_pos_iff.2 hl
  have hg : (l ++ [e])[(l ++ [e]).length - 1]? = some e := by simp
  show (decide ((0 : Int) = 0) && decide (([] : List UInt8) = []) && decide (2 ≤ (l ++ [e]).length) && (match (l ++ [e])[(l ++ [e]).length - 1]? with | some e => decide (e.kind ≠ 5) && decide (e.kind ≠ 6) | none => false)) = true
  rw [hg]
  have h2 : 2 ≤ (l ++ [e]).length := by simp; omega
  simp only [h2, h5, h6, ne_eq, not_false_eq_true, decide_true, Bool.and_true]
theorem form_5 (l : List Dat) : formOk (.mk 5 0 [] l) = true := rfl
theorem form_7 (l : List Dat) : formOk (.mk 7 0 [] l) = true := rfl
theorem deep_nest {k n : Int} {t : List UInt8} {l : List Dat} {b : Nat} (h : ∀ e ∈ l, e.deep + b + 1 ≤ 32) (hb : b + 1 ≤ 32) : (Dat.mk k n t l).deep + b ≤ 32 := by
  have : Dats.deep l ≤ 31 - b := Dats.deep_le.2 fun e he => by have := h e he; omega
  have e : (Dat.mk k n t l).deep = if nested k = true then 1 + Dats.deep l else 0 := by rw [Dat.deep_eq]; rfl
  rw [e]
  split <;> omega
theorem closed_ok {o : Opn} {b : Nat} (ha : ∀ e ∈ o.list, e.AF ∧ e.deep + b + 1 ≤ 32) (hb : b + 1 ≤ 32) (hd : 0 ≤ o.dot → (o.list.length : Int) = o.dot + 1) (h1 : 0 ≤ o.dot → 1 ≤ o.dot) : (closedD o).AF ∧ (closedD o).deep + b ≤ 32 := by
  unfold closedD
  split
  · exact ⟨.mk (form_7 _) fun e he => (ha e he).1, deep_nest (fun e he => (ha e he).2) hb⟩
  split
  · exact ⟨.mk (form_5 _) fun e he => (ha e he).1, deep_nest (fun e he => (ha e he).2) hb⟩
  · rename_i hk2 hdn
    have h4 := hd (by omega)
    obtain ⟨k, hk⟩ : ∃ k : Nat, o.dot = k := ⟨o.dot.toNat, by omega⟩
    have hkl : k < o.list.length := by omega
    have hk1 : 1 ≤ k := by have := h1 (by omega); omega
    obtain ⟨x, hx⟩ : ∃ x, o.list[k]? = some x := ⟨_, List.getElem?_eq_getElem hkl⟩
    have hxm := ha x (List.mem_of_getElem? hx)
    have htm : ∀ e ∈ o.list.take k, e.AF ∧ e.deep + b + 1 ≤ 32 := fun e he => ha e (List.mem_of_mem_take he)
    have hlen : (o.list.take k).length = k := by rw [List.length_take]; omega
    have hne : o.list.take k ≠ [] := fun e => by rw [e] at hlen; simp at hlen; omega
    rw [hk, Int.toNat_natCast, hx]
    simp only [Option.getD_some]
    unfold makeD
    rw [if_neg (by omega)]
    split
    · rename_i h56
      have hxd := Dat.deep_eq x
      have hxn : nested x.kind = true := by rcases h56 with h | h <;> rw [h] <;> rfl
      rw [hxn] at hxd
      simp only [if_true] at hxd
      have hxl : ∀ e ∈ x.list, e.deep ≤ Dats.deep x.list := Dats.deep_le.1 (Nat.le_refl _)
      have hkids : ∀ e ∈ o.list.take k ++ x.list, e.AF ∧ e.deep + b + 1 ≤ 32 := fun e he => by
        rcases List.mem_append.1 he with he | he
        · exact htm e he
        · have := hxl e he
          have := hxm.2
          exact ⟨hxm.1.kids e he, by omega⟩
      refine ⟨.mk ?_ fun e he => (hkids e he).1, deep_nest (fun e he => (hkids e he).2) hb⟩
      rcases h56 with h | h
      · rw [h]; rfl
      · obtain ⟨l, e, hle, hl0, h5, h6⟩ := dotted_split hxm.1.form h
        rw [h, hle, ← List.append_assoc]
        exact form_dotted_of (by simp [hne]) h5 h6
    · rename_i h56
      have hkids : ∀ e ∈ o.list.take k ++ [x], e.AF ∧ e.deep + b + 1 ≤ 32 := fun e he => by
        rcases List.mem_append.1 he with he | he
        · exact htm e he
        · rw [List.mem_singleton.1 he]; exact hxm
      exact ⟨.mk (form_dotted_of hne (fun h => h56 (.inl h)) (fun h => h56 (.inr h))) fun e he => (hkids e he).1, deep_nest (fun e he => (hkids e he).2) hb⟩
theorem sym_ok : (Dat.mk 4 0 [113, 117, 111, 116, 101] []).AF := .mk (by decide +kernel) fun e he => by cases he
theorem quote_af {d : Dat} (h : d.AF) : (quoteD d).AF := .mk rfl fun e he => by
  simp only [quoteD, Dat.list, List.mem_cons, List.not_mem_nil, or_false] at he
  rcases he with rfl | rfl
  · exact sym_ok
  · exact h
theorem quote_deep (d : Dat) : (quoteD d).deep = d.deep + 1 := by
  have h4 : (Dat.mk 4 0 [113, 117, 111, 116, 101] []).deep = 0 := rfl
  rw [quoteD, Dat.deep_eq]
  simp only [Dat.kind, Dat.list, Dats.deep, h4]
  rw [if_pos (by decide)]; omega
theorem ended_ok : ∀ {rs : List Opn} {d : Dat}, StkOk rs → d.AF → d.deep + rs.length ≤ 32 → StkOk (endedS rs d).1 ∧ ∀ x ∈ (endedS rs d).2.toList, x.AF ∧ x.deep ≤ 32
  | [], d, _, hd, hp => ⟨trivial, fun x hx => by simp [endedS] at hx; subst hx; exact ⟨hd, by simpa using hp⟩⟩
  | o :: rs, d, hs, hd, hp => by
    simp only [List.length_cons] at hp
    rw [endedS]
    split
    · exact ended_ok hs.2.2.2 (quote_af hd) (by rw [quote_deep]; omega)
    · refine ⟨⟨fun e he => ?_, hs.2.1, hs.2.2⟩, fun x hx => by cases hx⟩
      simp only [Opn.list] at he
      rcases List.mem_append.1 he with he | he
      · exact hs.1 e he
      · rw [List.mem_singleton.1 he]; exact ⟨hd, by omega⟩
theorem next_ok {rs : List Opn} {t : Tk} (hs : StkOk rs) (hm : mayI rs t.kind = 0) (ht : 5 ≤ t.kind → (oneD t).AF ∧ (oneD t).deep = 0) (hk : 0 ≤ t.kind) : StkOk (nextS t rs).1 ∧ ∀ x ∈ (nextS t rs).2.toList, x.AF ∧ x.deep ≤ 32 := by
  unfold nextS
  split
  · rename_i h
    have h32 : rs.length < 32 := by
      unfold mayI at hm
      rw [if_neg (by omega), if_neg (by omega)] at hm
      split at hm
      · cases hm
      · split at hm
        · cases hm
        · rename_i h'; have := fun hl => h' ⟨h, hl⟩; omega
    exact ⟨⟨fun e he => (by cases he), fun h => absurd h (show ¬ (0 : Int) ≤ -1 by decide), by omega, hs⟩, fun x hx => by cases hx⟩
  split
  · rename_i h0 h4
    rw [h4] at hm
    obtain ⟨o, r, rfl⟩ := may_dot hm
    have hl : o.list.length ≠ 0 := by
      unfold mayI at hm
      rw [if_neg (by decide), if_pos rfl] at hm
      split at hm
      · cases hm
      · rename_i h; intro hh; exact h (.inr (.inr hh))
    refine ⟨⟨hs.1, fun _ => ?_, hs.2.2⟩, fun x hx => by cases hx⟩
    simp only [Opn.dot]; omega
  split
  · rename_i h0 h4 h1
    rw [h1] at hm
    obtain ⟨o, r, rfl, h3, hd⟩ := may_close hm
    have := closed_ok hs.1 hs.2.2.1 hd hs.2.1
    simp only [List.tail_cons, topO]
    exact ended_ok hs.2.2.2 this.1 this.2
  · rename_i h0 h4 h1
    have h5 := ht (by omega)
    exact ended_ok hs h5.1 (by rw [h5.2]; have := hs.len; omega)
theorem run_inv {en : Int} : ∀ (ts : List Tk) (rs : List Opn) (out l : List Dat), runR en ts rs out = .all l → StkOk rs → (∀ x ∈ out, x.AF ∧ x.deep ≤ 32) → (∀ t ∈ ts, 0 ≤ t.kind ∧ (5 ≤ t.kind → (oneD t).AF ∧ (oneD t).deep = 0)) →
    (∀ x ∈ l, x.AF ∧ x.deep ≤ 32) ∧ Dats.tw l ≤ Dats.tw out + wTS rs + tkWs ts ∧ Dats.cnt l ≤ Dats.cnt out + cntS rs + 2 * ts.length
  | [], rs, out, l, h, hs, ho, _ => by
    rw [runR] at h
    split at h
    · cases h; exact ⟨ho, by omega, by omega⟩
    · cases h
  | t :: ts, rs, out, l, h, hs, ho, ht => by
    rw [runR] at h
    split at h
    · rename_i hm
      have htt := ht t (List.mem_cons_self ..)
      have h1 := next_ok hs hm htt.2 htt.1
      have h2 := next_len hm
      have := run_inv ts _ _ l h h1.1 (fun x hx => by
        rcases List.mem_append.1 hx with hx | hx
        · exact ho x hx
        · exact h1.2 x hx) fun t' h' => ht t' (List.mem_cons_of_mem _ h')
      rw [Dats.tw_append, Dats.cnt_append] at this
      simp only [tkWs, List.length_cons]
      exact ⟨this.1, by omega, by omega⟩
    · cases h

/-! ### what a token's bytes say -/
theorem textB_len2 : ∀ (n : Nat) (l x r : List UInt8), l.length ≤ n → textB l = some (x, r) → x.length + r.length + 1 ≤ l.length
  | 0, l, x, r, hl, h => by
    have : l = [] := List.length_eq_zero_iff.1 (by omega)
    subst this; cases h
  | n + 1, [], x, r, _, h => by cases h
  | n + 1, c :: l, x, r, hl, h => by
    simp only [List.length_cons] at hl ⊢
    by_cases h1 : c = 34
    · subst h1; rw [textB_end] at h; cases h; simp
    by_cases h2 : c = 92
    · subst h2
      rw [textB_esc] at h
      obtain ⟨y, h3, h4⟩ := Option.bind_eq_some_iff.1 h
      obtain ⟨z, h5, h6⟩ := Option.map_eq_some_iff.1 h4
      cases h6
      have := textB_len2 n (l.drop y.2) z.1 z.2 (by simp; omega) h5
      have hy := escB_len h3
      simp only [List.length_cons, List.length_drop] at this ⊢; omega
    · rw [textB_plain h1 h2] at h
      obtain ⟨z, h5, h6⟩ := Option.map_eq_some_iff.1 h
      cases h6
      have := textB_len2 n l z.1 z.2 (by omega) h5
      simp only [List.length_cons]; omega
theorem charI_le (w : List UInt8) : charI w ≤ 255 := by
  rw [charI_eq]
  split
  · have := (w.getD 0 0).toNat_lt; omega
  split
  · omega
  split
  · omega
  split
  · have h := fun a b => (show twoI [a, b] ≤ 255 from by
      have h1 := sixtI_le a
      have h2 := sixtI_le b
      simp only [twoI]; split <;> omega)
    unfold twoI
    split
    · rename_i a b _ _
      have h1 := sixtI_le a
      have h2 := sixtI_le b
      split <;> omega
    · omega
  · omega
theorem fold_lt : ∀ (l : List UInt8) (a : Nat), l.all (fun c => digitI c.toNat) = true → l.foldl (fun a c => 10 * a + (c.toNat - 48)) a + 1 ≤ (a + 1) * 10 ^ l.length
  | [], a, _ => by simp
  | c :: l, a, h => by
    simp only [List.all_cons, Bool.and_eq_true] at h
    have h1 := fold_lt l (10 * a + (c.toNat - 48)) h.2
    have h9 : c.toNat - 48 ≤ 9 := by
      have := h.1
      simp only [digitI] at this
      split at this
      · have := of_decide_eq_true this; omega
      · cases this
    simp only [List.foldl_cons, List.length_cons]
    refine Nat.le_trans h1 ?_
    rw [Nat.pow_succ, Nat.mul_comm (10 ^ l.length) 10, ← Nat.mul_assoc]
    exact Nat.mul_le_mul_right _ (by omega)
theorem num_len {w : List UInt8} (h : numB w = true) : (Lib.itoa (numI w)).length ≤ w.length + 2 := by
  rw [numB_eq] at h
  simp only [Bool.and_eq_true, decide_eq_true_eq] at h
  have hf := fold_lt (numDs w) 0 h.2
  have hv : valL (numDs w) < 10 ^ (numDs w).length := by
    have e : valL (numDs w) = (numDs w).foldl (fun a c => 10 * a + (c.toNat - 48)) 0 := rfl
    rw [e]; omega
  have hl : (numDs w).length ≤ w.length := by unfold numDs; rw [List.length_drop]; omega
  have hd : (Lib.decDigits (valL (numDs w))).length ≤ w.length + 1 := by
    rw [Lib.decDigits_length]
    refine Nat.le_trans (nDigits_le (numDs w).length _ ?_) (by omega)
    rw [Nat.pow_succ]; omega
  rw [numI_eq]
  unfold Lib.itoa
  split
  · split
    · simp only [List.length_cons]
      rw [show (-(valL (numDs w) : Int)).natAbs = valL (numDs w) by omega]; omega
    · rename_i h0
      rw [show (-(valL (numDs w) : Int)).toNat = valL (numDs w) by omega]; omega
  · rw [if_neg (by omega), Int.toNat_natCast]; omega
theorem one_facts {v : List UInt8} {kd n : Int} {x : List UInt8} {m : Nat} (a b : Int) (hv : v ≠ []) (hl : v.length ≤ 4096) (h : oneL v = .tok kd x n m) : (5 ≤ kd → formOk (oneD (.mk kd x n a b)) = true) ∧ tkW (.mk kd x n a b) ≤ 9 * m := by
  have hm := one_len hv h
  cases v with
  | nil => exact absurd rfl hv
  | cons c r =>
    rw [oneL_cons] at h
    simp only [List.length_cons] at hl hm
    have small : ∀ k' : Int, k' < 5 → 0 ≤ k' → tkW (.mk k' x n a b) ≤ 8 := by
      intro k' h1 h0
      unfold tkW
      simp only [Tk.kind]
      rcases (show k' = 0 ∨ k' = 1 ∨ k' = 2 ∨ k' = 3 ∨ k' = 4 by omega) with rfl | rfl | rfl | rfl | rfl
      · show (3 : Nat) ≤ 8; decide
      · show (0 : Nat) ≤ 8; decide
      · show (4 : Nat) ≤ 8; decide
      · show (8 : Nat) ≤ 8; decide
      · show (2 : Nat) ≤ 8; decide
    split at h
    · simp only [One.tok.injEq] at h; obtain ⟨rfl, rfl, rfl, rfl⟩ := h
      exact ⟨fun h => absurd h (by decide), Nat.le_trans (small 0 (by decide) (by decide)) (by omega)⟩
    split at h
    · simp only [One.tok.injEq] at h; obtain ⟨rfl, rfl, rfl, rfl⟩ := h
      exact ⟨fun h => absurd h (by decide), Nat.le_trans (small 1 (by decide) (by decide)) (by omega)⟩
    split at h
    · simp only [One.tok.injEq] at h; obtain ⟨rfl, rfl, rfl, rfl⟩ := h
      exact ⟨fun h => absurd h (by decide), Nat.le_trans (small 3 (by decide) (by decide)) (by omega)⟩
    split at h
    · unfold hashL at h
      split at h
      · simp only [One.tok.injEq] at h; obtain ⟨rfl, rfl, rfl, rfl⟩ := h
        exact ⟨fun h => absurd h (by decide), Nat.le_trans (small 2 (by decide) (by decide)) (by omega)⟩
      · rename_i d r'
        dsimp only at h
        generalize (if wordL (d :: r') = [] then [d] else wordL (d :: r')) = w at h
        split at h
        · cases h
        · rename_i h0
          simp only [One.tok.injEq] at h; obtain ⟨rfl, rfl, rfl, hm'⟩ := h
          have h255 := charI_le w
          refine ⟨fun _ => ?_, ?_⟩
          · show (decide (([] : List UInt8) = []) && ([] : List Dat).isEmpty && decide (0 ≤ charI w) && decide (charI w ≤ 255)) = true
            simp; omega
          · have ht : (oneD (.mk 7 [] (charI w) a b)).txtL false = charL (byteOf (charI w)) := by rw [Dat.txtL_eq]; rfl
            have := charL_len (byteOf (charI w))
            show ((oneD (.mk 7 [] (charI w) a b)).txtL false).length + 1 ≤ _
            rw [ht]; omega
      · split at h
        · simp only [One.tok.injEq] at h; obtain ⟨rfl, rfl, rfl, rfl⟩ := h
          refine ⟨fun _ => by rfl, ?_⟩
          have ht : (oneD (.mk 5 [] 1 a b)).txtL false = [35, 116] := by rw [Dat.txtL_eq]; rfl
          show ((oneD (.mk 5 [] 1 a b)).txtL false).length + 1 ≤ _
          rw [ht]; decide
        split at h
        · simp only [One.tok.injEq] at h; obtain ⟨rfl, rfl, rfl, rfl⟩ := h
          refine ⟨fun _ => by rfl, ?_⟩
          have ht : (oneD (.mk 5 [] 0 a b)).txtL false = [35, 102] := by rw [Dat.txtL_eq]; rfl
          show ((oneD (.mk 5 [] 0 a b)).txtL false).length + 1 ≤ _
          rw [ht]; decide
        · cases h
    split at h
    · split at h
      · cases h
      · rename_i y s hx
        simp only [One.tok.injEq] at h; obtain ⟨rfl, rfl, rfl, hm'⟩ := h
        have h2 := textB_len2 _ _ _ _ (Nat.le_refl _) hx
        refine ⟨fun _ => ?_, ?_⟩
        · show (decide ((0 : Int) = 0) && ([] : List Dat).isEmpty && decide (y.length ≤ 4096)) = true
          simp; omega
        · have ht : (oneD (.mk 8 y 0 a b)).txtL false = quotedL y := by rw [Dat.txtL_eq]; rfl
          have := quotedL_len y
          show ((oneD (.mk 8 y 0 a b)).txtL false).length + 1 ≤ _
          rw [ht]; omega
    · have hall := wordL_all (c :: r)
      generalize wordL (c :: r) = w at h hall
      have hwl := wordT_len h
      unfold wordT at h
      split at h
      · cases h
      rename_i hne
      split at h
      · simp only [One.tok.injEq] at h; obtain ⟨rfl, rfl, rfl, rfl⟩ := h
        exact ⟨fun h => absurd h (by decide), Nat.le_trans (small 4 (by decide) (by decide)) (by omega)⟩
      rename_i h46
      split at h
      · rename_i hnum
        split at h
        · cases h
        · rename_i hr
          simp only [One.tok.injEq] at h; obtain ⟨rfl, rfl, rfl, hm'⟩ := h
          refine ⟨fun _ => ?_, ?_⟩
          · show (decide (([] : List UInt8) = []) && ([] : List Dat).isEmpty && decide (-1152921504606846976 ≤ numI w) && decide (numI w < 1152921504606846976)) = true
            simp; omega
          · have ht : (oneD (.mk 6 [] (numI w) a b)).txtL false = Lib.itoa (numI w) := by rw [Dat.txtL_eq]; rfl
            have := num_len hnum
            show ((oneD (.mk 6 [] (numI w) a b)).txtL false).length + 1 ≤ _
            rw [ht]; omega
      · rename_i hnum
        split at h
        · cases h
        · rename_i h64
          simp only [One.tok.injEq] at h; obtain ⟨rfl, rfl, rfl, hm'⟩ := h
          refine ⟨fun _ => ?_, ?_⟩
          · show (decide ((0 : Int) = 0) && ([] : List Dat).isEmpty && nameOk w) = true
            unfold nameOk
            simp [hne, h46, hnum, hall]; omega
          · have ht : (oneD (.mk 9 w 0 a b)).txtL false = w := by rw [Dat.txtL_eq]; rfl
            show ((oneD (.mk 9 w 0 a b)).txtL false).length + 1 ≤ _
            rw [ht]; omega
theorem TR.facts {p : Nat} {l : List UInt8} {ts : List Tk} (h : TR p l ts) (hl : l.length ≤ 4096) : (∀ t ∈ ts, 0 ≤ t.kind ∧ (5 ≤ t.kind → (oneD t).AF ∧ (oneD t).deep = 0)) ∧ tkWs ts ≤ 9 * l.length ∧ ∀ t ∈ ts, ∃ q : Nat, t.at_ = q ∧ q ≤ p + l.length := by
  induction h with
  | nil _ => exact ⟨fun t ht => (by cases ht), by simp [tkWs], fun t ht => (by cases ht)⟩
  | cons h1 h2 h3 h4 h5 ih =>
    rename_i p l v kd n x m g ts
    have hb := one_bounds h2 (by omega) h4
    have hm := one_len h2 h4
    have hf := one_facts ((p + g : Nat) : Int) ((p + g + m : Nat) : Int) h2 (by omega) h4
    have hi := ih (by rw [List.length_drop]; omega)
    rw [List.length_drop] at hi
    refine ⟨fun t ht => ?_, ?_, fun t ht => ?_⟩
    · rcases List.mem_cons.1 ht with rfl | ht
      · refine ⟨hb.1, fun h => ⟨.mk (hf.1 h) fun e he => (by cases he), ?_⟩⟩
        rw [Dat.deep_eq, if_neg]
        intro hn
        simp only [Tk.kind] at h
        have hk9 := hb.2.1
        rcases (show kd = 5 ∨ kd = 6 ∨ kd = 7 ∨ kd = 8 ∨ kd = 9 by omega) with rfl | rfl | rfl | rfl | rfl <;> exact absurd hn (by simp only [oneD, Dat.kind, Tk.kind]; decide)
      · exact hi.1 t ht
    · simp only [tkWs]; omega
    · rcases List.mem_cons.1 ht with rfl | ht
      · exact ⟨p + g, rfl, by omega⟩
      · obtain ⟨q, h1, h2⟩ := hi.2.2 t ht
        exact ⟨q, h1, by omega⟩
theorem shs_len : ∀ d : Dat, d.shs.length ≤ 3 * d.cnt := by
  refine Dat.ind fun d ih => ?_
  have hall : ∀ (l : List Dat) (dotted : Bool), (∀ e ∈ l, e.shs.length ≤ 3 * e.cnt) → (Dats.shs dotted l).length ≤ 3 * Dats.cnt l + 1 := by
    intro l dotted
    induction l with
    | nil => intro _; simp [Dats.shs]
    | cons e l ih' =>
      intro hl
      have h1 := hl e (List.mem_cons_self ..)
      have h2 := ih' fun e he => hl e (List.mem_cons_of_mem _ he)
      simp only [Dats.shs, List.length_append, Dats.cnt]
      split
      · rename_i hb
        simp only [Bool.and_eq_true, List.isEmpty_iff] at hb
        rw [hb.2]
        simp only [Dats.shs, Dats.cnt, List.length_cons, List.length_nil]; omega
      · simp only [List.length_nil]; omega
  have h3 := hall d.list (decide (d.kind = 6)) ih
  have hc := Dat.cnt_eq d
  rw [Dat.shs_eq]
  repeat' split
  all_goals simp only [List.length_cons, List.length_nil, List.length_append]
  all_goals omega
theorem shs_all_len : ∀ l : List Dat, (l.flatMap Dat.shs).length ≤ 3 * Dats.cnt l
  | [] => by simp
  | d :: l => by
    have h1 := shs_len d
    have h2 := shs_all_len l
    simp only [List.flatMap_cons, List.length_append, Dats.cnt]; omega
theorem StkOk.nil : StkOk [] := trivial
/-- what is read may be; a short source's data are written shortly -/
theorem read_ok {s : List UInt8} {l : List Dat} (h : readS s = .all l) : (∀ e ∈ l, (e.chk 0 0).2 = 0) ∧ (s.length ≤ 300 → (wrL l).length ≤ 2700 ∧ (l.flatMap Dat.shs).length ≤ 1800) := by
  unfold readS at h
  split at h
  · cases h
  · rename_i ts htk
    obtain ⟨h1, h2, hT⟩ := (tokens_TR _ _).1 htk
    have hf := hT.facts h1
    have hi := run_inv ts [] [] l h StkOk.nil (fun x hx => by cases hx) hf.1
    simp only [Dats.tw, wTS, Dats.cnt, cntS, Nat.zero_add] at hi
    refine ⟨fun e he => ok_iff.2 ⟨(hi.1 e he).1, (hi.1 e he).2, ?_⟩, fun hs => ⟨?_, ?_⟩⟩
    · have := Dats.cnt_mem he; omega
    · rw [wrL_len]; omega
    · have := shs_all_len l
      have := hT.len
      omega
theorem read_cnt {s : List UInt8} {l : List Dat} (h : readS s = .all l) : Dats.cnt l ≤ 4096 := by
  unfold readS at h
  split at h
  · cases h
  · rename_i ts htk
    obtain ⟨h1, h2, hT⟩ := (tokens_TR _ _).1 htk
    have hi := (run_inv ts [] [] l h StkOk.nil (fun x hx => by cases hx) (hT.facts h1).1).2.2
    simp only [Dats.cnt, cntS, Nat.zero_add] at hi
    omega
theorem read_bad {s : List UInt8} {a e : Int} (h : readS s = .bad a e) : e ≠ 0 ∧ ∃ q : Nat, a = q ∧ q ≤ s.length := by
  unfold readS at h
  split at h
  · rename_i a' e' htk
    cases h
    exact ⟨fun he => tokens_bad0 s a (by rw [htk, he]), tokens_at htk⟩
  · rename_i ts htk
    obtain ⟨h1, h2, hT⟩ := (tokens_TR _ _).1 htk
    have hf := (hT.facts h1).2.2
    have : ∀ (ts : List Tk) (rs : List Opn) (out : List Dat), (∀ t ∈ ts, ∃ q : Nat, t.at_ = q ∧ q ≤ 0 + s.length) → runR s.length ts rs out = .bad a e → e ≠ 0 ∧ ∃ q : Nat, a = q ∧ q ≤ s.length := by
      intro ts
      induction ts with
      | nil =>
        intro rs out _ h
        rw [runR] at h
        split at h
        · cases h
        · cases h; exact ⟨by decide, _, rfl, Nat.le_refl _⟩
      | cons t ts ih =>
        intro rs out hq h
        rw [runR] at h
        split at h
        · exact ih _ _ (fun t' h' => hq t' (List.mem_cons_of_mem _ h')) h
        · rename_i hm
          cases h
          obtain ⟨q, h1, h2⟩ := hq t (List.mem_cons_self ..)
          exact ⟨hm, q, h1, by omega⟩
    exact this ts [] [] hf h
/-- what is read is read again from what is written of it -/
theorem read_again {s : List UInt8} {l : List Dat} (h : readS s = .all l) : readS (wrL l) = .all l ∨ (∃ a e, readS (wrL l) = .bad a e ∧ (e = 34 ∨ e = 35) ∧ 300 < s.length) := by
  obtain ⟨h1, h2⟩ := read_ok h
  rcases read_wr h1 with h3 | ⟨a, e, h3, h4, h5, h6⟩
  · exact .inl h3
  · right
    refine ⟨a, e, h3, h4, ?_⟩
    by_cases hs : s.length ≤ 300
    · have := h2 hs; omega
    · omega
end Go.Proofs.YtlnmmakbgldflaaGreatDoor.Vc
/-
  SOURCE: plain laws: signs of quoting ahead of a text; items, a dot and a tail in brackets. No program in sight.
-/
namespace Go.Proofs.YtlnmmakbgldflaaGreatDoor.Vc
open Go

/-! ### how many data a text has -/
theorem cnt_txt : ∀ {d : Dat}, d.Good → d.cnt ≤ (d.txtL false).length := by
  refine fun {d} => Dat.ind (p := fun d => d.Good → d.cnt ≤ (d.txtL false).length) (fun d ih hg => ?_) d
  have hc := Dat.cnt_eq d
  cases hn : nested d.kind with
  | false =>
    have hl := form_plain hg.form hn
    rw [hl] at hc
    simp only [Dats.cnt] at hc
    obtain ⟨c, t, h, _⟩ := txt_head hg.form
    rw [h]
    simp only [List.length_cons]; omega
  | true =>
    have h5 : d.kind = 5 ∨ d.kind = 6 ∨ d.kind = 7 := by
      simp only [nested, Bool.or_eq_true, decide_eq_true_eq] at hn; omega
    have h6 := (list_len h5).1
    have : ∀ l : List Dat, (∀ e ∈ l, e.cnt ≤ (e.txtL false).length) → Dats.cnt l ≤ Dats.tw l := by
      intro l
      induction l with
      | nil => intro _; simp [Dats.cnt]
      | cons e l ih' =>
        intro h
        have h1 := h e (List.mem_cons_self ..)
        have h2 := ih' fun e he => h e (List.mem_cons_of_mem _ he)
        simp only [Dats.cnt, Dats.tw]; omega
    have := this d.list fun e he => ih e he (hg.kids e he)
    omega

/-! ### signs of quoting -/
def quoteN : Nat → Dat → Dat
  | 0, d => d
  | n + 1, d => quoteD (quoteN n d)
theorem quoteN_in : ∀ (n : Nat) (d : Dat), quoteN n (quoteD d) = quoteD (quoteN n d)
  | 0, _ => rfl
  | n + 1, d => by rw [quoteN, quoteN_in n d]; rfl
theorem quoteN_af {d : Dat} (h : d.AF) : ∀ n, (quoteN n d).AF
  | 0 => h
  | n + 1 => quote_af (quoteN_af h n)
theorem quoteN_deep (d : Dat) : ∀ n, (quoteN n d).deep = d.deep + n
  | 0 => rfl
  | n + 1 => by rw [quoteN, quote_deep, quoteN_deep d n, Nat.add_assoc]
theorem quoteN_cnt (d : Dat) : ∀ n, (quoteN n d).cnt = d.cnt + 2 * n
  | 0 => rfl
  | n + 1 => by
    have := quoteN_cnt d n
    simp only [quoteN, quoteD, Dat.cnt, Dats.cnt]; omega
def marksL (n : Nat) (l : List UInt8) : List UInt8 := List.replicate n 39 ++ l
theorem quotes_TR : ∀ (n : Nat) {d : Dat} (_ : d.Good) (p : Nat), ∃ ts, TR p (marksL n (d.txtL false)) ts ∧ ts.map Tk.sh = List.replicate n (3, [], 0) ++ d.shs
  | 0, d, hg, p => by
    obtain ⟨ts, h1, h2⟩ := txt_TR d hg [] p [] (fun c t e => by cases e) (.nil rfl)
    rw [List.append_nil, List.append_nil] at h1
    exact ⟨ts, h1, h2⟩
  | n + 1, d, hg, p => by
    obtain ⟨ts, h1, h2⟩ := quotes_TR n hg (p + 1)
    exact ⟨_ :: ts, TR.sign (c := 39) ⟨by decide, by decide⟩ rfl h1, by simp only [List.map_cons, h2, List.replicate_succ, List.cons_append]; rfl⟩
theorem ended_quotes : ∀ (n : Nat) (d : Dat), endedS (List.replicate n (.mk 3 [] (-1))) d = ([], some (quoteN n d))
  | 0, d => rfl
  | n + 1, d => by
    rw [List.replicate_succ, endedS, if_pos (by rfl), ended_quotes n, quoteN_in]; rfl
theorem full_quotes (n : Nat) : fullB (topO (List.replicate n (.mk 3 [] (-1)))) = false := by
  cases n with
  | zero => rfl
  | succ n => rw [List.replicate_succ]; rfl
theorem run_quotes {d : Dat} (hg : d.Good) (en : Int) : ∀ (n k : Nat) (ts : List Tk), ts.map Tk.sh = List.replicate n (3, [], 0) ++ d.shs → k ≤ 32 →
    (k + n + d.deep ≤ 32 → runR en ts (List.replicate k (.mk 3 [] (-1))) [] = .all [quoteN (k + n) d]) ∧ (32 < k + n + d.deep → ∃ t ∈ ts, runR en ts (List.replicate k (.mk 3 [] (-1))) [] = .bad t.at_ 43)
  | 0, k, ts, h, hk => by
    simp only [List.replicate_zero, List.nil_append] at h
    have := run_at d hg en ts [] (List.replicate k (.mk 3 [] (-1))) [] h (full_quotes k) (by rw [List.length_replicate]; exact hk)
    rw [List.append_nil, List.length_replicate, ended_quotes] at this
    simp only [Nat.add_zero]
    refine ⟨fun h => ?_, this.2⟩
    rw [this.1 h, runR]; rfl
  | n + 1, k, ts, h, hk => by
    rw [List.replicate_succ, List.cons_append] at h
    obtain ⟨t, ts, rfl, ht, h⟩ := map_cons_inv h
    have hk3 := (Tk.of_sh ht).1
    by_cases h32 : k < 32
    · have := run_quotes hg en n (k + 1) ts h (by omega)
      rw [run_open (by omega) (full_quotes k) (by rw [List.length_replicate]; exact h32), hk3]
      rw [List.replicate_succ, show k + 1 + n = k + (n + 1) by omega] at this
      exact ⟨this.1, fun hh => by obtain ⟨t', h1, h2⟩ := this.2 hh; exact ⟨t', List.mem_cons_of_mem _ h1, h2⟩⟩
    · refine ⟨fun h => by omega, fun _ => ⟨t, List.mem_cons_self .., run_over (by omega) (full_quotes k) (by rw [List.length_replicate]; omega)⟩⟩
/-- signs of quoting ahead of a text -/
theorem read_quotes {d : Dat} (h : (d.chk 0 0).2 = 0) (hl : (d.txtL false).length ≤ 500) {n : Nat} (hn : n ≤ 40) :
    (readS (marksL n (d.txtL false)) = .all [quoteN n d] ∧ ((quoteN n d).chk 0 0).2 = 0) ∨ (∃ a : Nat, readS (marksL n (d.txtL false)) = .bad a 43 ∧ ((quoteN n d).chk 0 0).2 = 21) := by
  have hg := ok_good h
  obtain ⟨haf, hdp, hct⟩ := ok_iff.1 h
  obtain ⟨ts, h1, h2⟩ := quotes_TR n hg 0
  have hlen : (marksL n (d.txtL false)).length ≤ 540 := by unfold marksL; rw [List.length_append, List.length_replicate]; omega
  have htk := (tokens_TR _ _).2 ⟨by omega, by have := h1.len; omega, h1⟩
  have hrun := run_quotes hg (marksL n (d.txtL false)).length n 0 ts h2 (by omega)
  have hcq := quoteN_cnt d n
  have hdq := quoteN_deep d n
  have hc := cnt_txt hg
  have hchk := Dat.chk_at (quoteN n d) (quoteN_af haf n) 0 0 (by omega) (by omega)
  rw [readS, htk]
  simp only [Nat.zero_add, List.replicate_zero] at hrun
  by_cases hq : n + d.deep ≤ 32
  · left
    refine ⟨hrun.1 hq, ?_⟩
    rw [hchk.1 (by omega)]
  · right
    obtain ⟨t, ht, hb⟩ := hrun.2 (by omega)
    obtain ⟨q, hq1, _⟩ := (h1.facts (by omega)).2.2 t ht
    exact ⟨q, by rw [← hq1]; exact hb, hchk.2 (by omega)⟩

/-! ### items, a dot and a tail -/
def dotL (items : List Dat) (tail : Dat) : List UInt8 := 40 :: (Dats.txtL false true true (items ++ [tail]) ++ [41])
/-- each item's text, a blank behind it -/
def spL (l : List Dat) : List UInt8 := l.flatMap fun d => d.txtL false ++ [32]
theorem dots_txt (t : Dat) : ∀ (l : List Dat) (first : Bool), Dats.txtL false true first (l ++ [t]) = (if first then [] else [32]) ++ (if l = [] then [] else ((spL l).dropLast ++ [32])) ++ [46, 32] ++ t.txtL false
  | [], first => by simp [Dats.txtL, spL]
  | d :: l, first => by
    have h := dots_txt t l false
    have hs : spL (d :: l) = d.txtL false ++ 32 :: spL l := by simp [spL]
    simp only [List.cons_append, Dats.txtL, h]
    have hne : (l ++ [t]).isEmpty = false := by cases l <;> rfl
    rw [hne, hs]
    cases l with
    | nil => simp [spL]
    | cons e l =>
      have hne2 : spL (e :: l) ≠ [] := by simp [spL]
      rw [List.dropLast_append_of_ne_nil (by simp), List.dropLast_cons_of_ne_nil hne2]
      simp
theorem spL_last {l : List Dat} (h : l ≠ []) : (spL l).dropLast ++ [32] = spL l := by
  obtain ⟨m, e, rfl⟩ : ∃ m e, l = m ++ [e] := ⟨l.dropLast, l.getLast h, (List.dropLast_concat_getLast h).symm⟩
  have : spL (m ++ [e]) = spL m ++ (e.txtL false ++ [32]) := by simp [spL]
  rw [this, ← List.append_assoc, List.dropLast_concat]
theorem dotL_eq {l : List Dat} (h : l ≠ []) (t : Dat) : dotL l t = 40 :: (spL l ++ ([46, 32] ++ (t.txtL false ++ [41]))) := by
  unfold dotL
  rw [dots_txt]
  simp only [if_true, if_neg h, spL_last h, List.nil_append, List.append_assoc]
theorem read_dots {l : List Dat} {t : Dat} (hl : ∀ e ∈ l, (e.chk 0 0).2 = 0) (ht : (t.chk 0 0).2 = 0) (h0 : l ≠ []) (hlen : (dotL l t).length ≤ 1000) :
    (readS (dotL l t) = .all [makeD l t]) ∨ (∃ a, readS (dotL l t) = .bad a 43 ∧ ((Dat.mk 7 0 [] (l ++ [t])).chk 0 0).2 = 21) := by
  have hall : ∀ e ∈ l ++ [t], (e.chk 0 0).2 = 0 := fun e he => by
    rcases List.mem_append.1 he with he | he
    · exact hl e he
    · rw [List.mem_singleton.1 he]; exact ht
  have hgood : ∀ e ∈ l ++ [t], e.Good := fun e he => ok_good (hall e he)
  obtain ⟨ts, h1, h2⟩ := items_TR (l ++ [t]) true true (fun e _ => txt_TR e) hgood [] 1 [] (.nil rfl)
  rw [List.append_nil] at h1
  have h3 : TR 0 (dotL l t) (.mk 0 [] 0 (0 : Nat) (0 + 1 : Nat) :: ts) := TR.sign (c := 40) (p := 0) ⟨by decide, by decide⟩ rfl h1
  have htk := (tokens_TR _ _).2 ⟨by omega, by have := h3.len; omega, h3⟩
  obtain ⟨ts1, ts2, rfl, g1, g2⟩ := map_app_inv h2
  obtain ⟨u, tl, rfl, hu, h4⟩ := map_cons_inv g2
  obtain rfl := List.map_eq_nil_iff.1 h4
  have hrun := items_run (l ++ [t]) (fun e _ => run_at e) hgood 0 true (dotL l t).length ts1 [u] [] [] [] g1 (by decide) (by simp) (fun _ => ⟨rfl, by
    have : 0 < l.length := List.length_pos_iff.2 h0
    simp only [List.length_nil, List.length_append, List.length_cons]; omega⟩)
  simp only [List.nil_append, List.length_nil, Nat.zero_add] at hrun
  rw [readS, htk]
  have hop : runR (dotL l t).length (.mk 0 [] 0 (0 : Nat) (0 + 1 : Nat) :: (ts1 ++ [u])) [] [] = runR (dotL l t).length (ts1 ++ [u]) [.mk 0 [] (-1)] [] := run_open (.inl rfl) rfl (by simp)
  simp only [hop]
  by_cases hq : 1 + Dats.deep (l ++ [t]) ≤ 32
  · left
    rw [hrun.1 hq, if_pos ⟨trivial, by simp⟩, show (l ++ [t]).length - 1 = l.length by simp]
    rw [run_close (Tk.of_sh hu).1 (by simp only [Opn.kind]; decide) (by simp only [Opn.kind]; decide) (.inr full_tail), closed_dotted, runR]
    rfl
  · right
    obtain ⟨t', _, hb⟩ := hrun.2 (by omega)
    refine ⟨_, hb, ?_⟩
    have haf : (Dat.mk 7 0 [] (l ++ [t])).AF := .mk rfl fun e he => (ok_iff.1 (hall e he)).1
    have hd : (Dat.mk 7 0 [] (l ++ [t])).deep = 1 + Dats.deep (l ++ [t]) := by rw [Dat.deep_eq]; rfl
    refine (Dat.chk_at _ haf 0 0 (by omega) ?_).2 (by omega)
    -- not too many
    have hcnt : ∀ m : List Dat, (∀ e ∈ m, e.Good) → Dats.cnt m ≤ Dats.tw m := by
      intro m
      induction m with
      | nil => intro _; simp [Dats.cnt]
      | cons e m ih =>
        intro h
        have h1 := cnt_txt (h e (List.mem_cons_self ..))
        have h2 := ih fun e he => h e (List.mem_cons_of_mem _ he)
        simp only [Dats.cnt, Dats.tw]; omega
    have h5 := hcnt _ hgood
    have h6 := txts_len true (l ++ [t]) true
    have h7 : (dotL l t).length = (Dats.txtL false true true (l ++ [t])).length + 2 := by unfold dotL; simp
    rw [if_pos ⟨rfl, by simp⟩, if_pos ⟨rfl, by simp⟩] at h6
    simp only [Dat.cnt]; omega
end Go.Proofs.YtlnmmakbgldflaaGreatDoor.Vc
/-
  SOURCE: the laws' calls: each is walked over what both readers give. No condition but that the library's table and errors lie there.
-/
namespace Go.Proofs.YtlnmmakbgldflaaGreatDoor.Vc
open Go

theorem wrL_le : ∀ {l : List Dat}, (∀ e ∈ l, (e.chk 0 0).2 = 0) → (wrL l).length ≤ l.length * 67600001
  | [], _ => by simp [wrL]
  | d :: l, h => by
    have h1 := good_len (h d (List.mem_cons_self ..))
    have h2 := wrL_le (l := l) fun e he => h e (List.mem_cons_of_mem _ he)
    simp only [wrL, List.flatMap_cons, List.length_append, List.length_cons, List.length_nil] at h2 ⊢
    omega
theorem SourceBack_gives (l : List Dat) (v : Value) (H : PH) (hl : SlR H l v) (hn : l.length ≤ 1048576) (hE : Errs H) (hT : Tab H) : Gives Tryz.prog n_scrimshawlaw04_SourceBack [v] H (.bool true) := by
  obtain ⟨b, c, rfl⟩ := hl.sl
  refine tri_scrimshawlaw04_SourceBack [.slice b l.length c] (by kernel_rfl) (by kernel_rfl) ?_
  refine den_gives [txt (writeL l []).1, .int .i64 (writeL l []).2] cb_read_Write (LWrite_gives l _ H hl hn hT) rfl pendNil fun H1 l1 => ?_
  refine den_gives [.bool true] cb_scrimshawlaw04_fixed (fixedR_gives H1 (hE.le l1) (hT.le l1)) rfl pendNil fun H2 l2 => ⟨fun h => absurd h (by simp [ev0, ev, evV, List.cons_append, List.nil_append, List.getD_cons_zero, List.getD_cons_succ, List.map_cons, List.map_nil, iOf, bOf, sOf, pOf, slLen, slBase, cmpI, arI, Value.ite_bool]), fun _ => ?_⟩
  have l02 := PH.le_trans l1 l2
  by_cases hok : ∀ e ∈ l, (e.chk 0 0).2 = 0
  · have hw := writeL_all l [] hok
    rw [List.nil_append] at hw
    rw [hw]
    have hlen := wrL_le hok
    refine ⟨fun h => absurd h (by simp [ev0, ev, evV, List.cons_append, List.nil_append, List.getD_cons_zero, List.getD_cons_succ, List.map_cons, List.map_nil, iOf, bOf, sOf, pOf, slLen, slBase, cmpI, arI, Value.ite_bool]), fun _ => ?_⟩
    refine Read_call (s := wrL l) cb_read_Read rfl (LRead_tri _ (by simp only [maxLen]; omega) H2 (hE.le l02)) fun v2 H3 h3 l3 => ?_
    have l03 := PH.le_trans l02 l3
    rcases read_wr hok with hr | ⟨a, e, hr, he, hlen2, _⟩
    · rw [hr] at h3 ⊢
      simp only [Reads.list, Reads.err, Reads.at_] at h3 ⊢
      refine ⟨fun h => absurd h (by simp [ev0, ev, evV, List.cons_append, List.nil_append, List.getD_cons_zero, List.getD_cons_succ, List.map_cons, List.map_nil, iOf, bOf, sOf, pOf, slLen, slBase, cmpI, arI, Value.ite_bool]), fun _ => ?_⟩
      refine ⟨fun vs H' => vs = [.bool true] ∧ PH.le H H', ?_, ?_⟩
      · rintro vs H' _ ⟨rfl, h⟩; exact ⟨rfl, h⟩
      refine ⟨fun _ => ?_, fun h => absurd h (by simp [ev0, ev, evV, List.cons_append, List.nil_append, List.getD_cons_zero, List.getD_cons_succ, List.map_cons, List.map_nil, iOf, bOf, sOf, pOf, slLen, slBase, cmpI, arI, Value.ite_bool])⟩
      have hc := SameAll_gives l l _ v2 H3 (hl.le l03) h3
      rw [decide_eq_true rfl] at hc
      exact den_gives [.bool true] cb_scrimshawref02_SameAll hc rfl pendNil fun H4 l4 => ⟨_, lookup_hit, rfl, PH.le_trans l03 l4⟩
    · rw [hr] at h3 ⊢
      simp only [Reads.list, Reads.err, Reads.at_] at h3 ⊢
      obtain ⟨b2, c2, rfl⟩ := h3.sl
      refine ⟨fun _ => ⟨?_, l03⟩, fun h => ?_⟩
      · simp only [ev0, ev, evV, List.cons_append, List.nil_append, List.getD_cons_zero, List.getD_cons_succ, List.map_cons, List.map_nil, iOf, bOf, sOf, pOf, slLen, slBase, cmpI, arI, Value.ite_bool, int_beq, int_bne, ite_band, ite_bor, txt_size, List.length_nil]
        have : (2048 : Int) < ((wrL l).length : Int) := by omega
        simp [this]
      · exfalso
        simp only [ev0, ev, evV, List.cons_append, List.nil_append, List.getD_cons_zero, List.getD_cons_succ, List.map_cons, List.map_nil, iOf, bOf, sOf, pOf, slLen, slBase, cmpI, arI, Value.ite_bool, int_beq, int_bne, ite_band, ite_bor] at h
        rcases he with rfl | rfl <;> simp at h
  · obtain ⟨e, he, hw⟩ := writeL_bad l [] hok
    rw [hw]
    refine ⟨fun _ => ⟨?_, l02⟩, fun h => ?_⟩
    · simp only [ev0, ev, evV, List.cons_append, List.nil_append, List.getD_cons_zero, List.getD_cons_succ, List.map_cons, List.map_nil, iOf, bOf, sOf, pOf, slLen, slBase, cmpI, arI, Value.ite_bool, int_beq, int_bne, ite_band, ite_bor, txt_eql]; simp
    exfalso
    simp only [ev0, ev, evV, List.cons_append, List.nil_append, List.getD_cons_zero, List.getD_cons_succ, List.map_cons, List.map_nil, iOf, bOf, sOf, pOf, slLen, slBase, cmpI, arI, Value.ite_bool, int_beq, int_bne, ite_band, ite_bor] at h
    simp [he] at h

theorem SourceAgain_gives (s : List UInt8) (hs : s.length ≤ maxLen) (H : PH) (hE : Errs H) (hT : Tab H) : Gives Tryz.prog n_scrimshawlaw04_SourceAgain [txt s] H (.bool true) := by
  refine tri_scrimshawlaw04_SourceAgain [txt s] (by kernel_rfl) (by kernel_rfl) ?_
  refine Read_call (s := s) cb_read_Read rfl (LRead_tri s hs H hE) fun v H1 h1 l1 => ?_
  obtain ⟨b1, c1, rfl⟩ := h1.sl
  refine den_gives [.bool true] cb_scrimshawlaw04_fixed (fixedR_gives H1 (hE.le l1) (hT.le l1)) rfl pendNil fun H2 l2 => ?_
  have l02 := PH.le_trans l1 l2
  cases hr : readS s with
  | bad a e =>
    obtain ⟨he, q, rfl, hq⟩ := read_bad hr
    rw [hr] at h1
    simp only [Reads.list, Reads.err, Reads.at_] at h1 ⊢
    refine ⟨fun h => ?_, fun _ => ⟨fun _ => ⟨rfl, l02⟩, fun h => ?_⟩⟩
    · exfalso
      simp only [ev0, ev, evV, List.cons_append, List.nil_append, List.getD_cons_zero, List.getD_cons_succ, List.map_cons, List.map_nil, iOf, bOf, sOf, pOf, slLen, slBase, cmpI, arI, Value.ite_bool, int_beq, int_bne, ite_band, ite_bor, txt_size] at h
      have a1 : ¬ ((q : Int) < 0) := by omega
      have a2 : ¬ ((s.length : Int) < (q : Int)) := by omega
      simp [a1, a2] at h
    · exfalso
      simp only [ev0, ev, evV, List.cons_append, List.nil_append, List.getD_cons_zero, List.getD_cons_succ, List.map_cons, List.map_nil, iOf, bOf, sOf, pOf, slLen, slBase, cmpI, arI, Value.ite_bool, int_beq, int_bne, ite_band, ite_bor] at h
      simp [he] at h
  | all l =>
    obtain ⟨hok, _⟩ := read_ok hr
    have hcnt := read_cnt hr
    have hll := Dats.cnt_le l
    rw [hr] at h1
    simp only [Reads.list, Reads.err, Reads.at_] at h1 ⊢
    refine ⟨fun h => ?_, fun _ => ⟨fun h => absurd h (by simp [ev0, ev, evV, List.cons_append, List.nil_append, List.getD_cons_zero, List.getD_cons_succ, List.map_cons, List.map_nil, iOf, bOf, sOf, pOf, slLen, slBase, cmpI, arI, Value.ite_bool]), fun _ => ?_⟩⟩
    · exfalso
      simp only [ev0, ev, evV, List.cons_append, List.nil_append, List.getD_cons_zero, List.getD_cons_succ, List.map_cons, List.map_nil, iOf, bOf, sOf, pOf, slLen, slBase, cmpI, arI, Value.ite_bool, int_beq, int_bne, ite_band, ite_bor, txt_size] at h
      have a2 : ¬ ((s.length : Int) < 0) := by omega
      simp [a2] at h
    refine ⟨fun m vs H' => ∃ k : Nat, vs = [.bool false, .int .i64 k] ∧ k + m = l.length ∧ PH.le H2 H', ⟨l.length, 0, rfl, by omega, PH.le_refl _⟩, ?_⟩
    rintro m vs H3 _ ⟨k, rfl, hk, l3⟩
    have hs1 := h1.le (PH.le_trans l2 l3)
    have l03 := PH.le_trans l02 l3
    refine ⟨fun hc => ?_, fun hc => ?_⟩
    · simp only [ev0, ev, evV, List.cons_append, List.nil_append, List.getD_cons_zero, List.getD_cons_succ, List.map_cons, List.map_nil, iOf, bOf, sOf, pOf, slLen, slBase, cmpI, arI, Value.ite_bool, int_beq, int_bne, ite_band, ite_bor, decide_eq_true_eq] at hc
      have hkl : k < l.length := by omega
      obtain ⟨d, hkd⟩ : ∃ d, l[k]? = some d := ⟨_, List.getElem?_eq_getElem hkl⟩
      have hd := hok d (List.mem_of_getElem? hkd)
      obtain ⟨g1, _, ces, g2, g3⟩ := hs1.get hkd
      have g2' := g2
      obtain ⟨dv, rfl, y1, y2, y3, y4⟩ := Dat.Rep_iff.1 g2
      obtain ⟨db, dc, rfl⟩ := y4.sl
      refine ⟨fun _ => ?_, [.int .i64 d.kind, .int .i64 d.int, txt d.text, .slice db d.list.length dc], rfl, ?_, ?_⟩
      · simp only [Chk.holds, ev0, ev, evV, List.cons_append, List.nil_append, List.getD_cons_zero, List.getD_cons_succ, List.map_cons, List.map_nil, iOf, bOf, sOf, pOf, slLen, slBase, cmpI, arI, Value.ite_bool, int_beq, int_bne, ite_band, ite_bor]; exact ⟨g1, by omega, by omega⟩
      · simp only [ev0, ev, evV, List.cons_append, List.nil_append, List.getD_cons_zero, List.getD_cons_succ, List.map_cons, List.map_nil, iOf, bOf, sOf, pOf, slLen, slBase, cmpI, arI, Value.ite_bool, int_beq, int_bne, ite_band, ite_bor]; exact g3
      have hck := DCheckF_gives d _ H3 g2'
      rw [hd] at hck
      refine den_gives [.int .i64 0] cb_data_Check hck rfl pendNil fun H4 l4 => ⟨fun h => absurd h (by simp [ev0, ev, evV, List.cons_append, List.nil_append, List.getD_cons_zero, List.getD_cons_succ, List.map_cons, List.map_nil, iOf, bOf, sOf, pOf, slLen, slBase, cmpI, arI, Value.ite_bool]), fun _ => ?_⟩
      refine ⟨_, lookup_hit, m - 1, by omega, k + 1, ?_, by omega, PH.le_trans l3 l4⟩
      simp only [ev0, ev, evV, List.cons_append, List.nil_append, List.getD_cons_zero, List.getD_cons_succ, List.map_cons, List.map_nil, iOf, bOf, sOf, pOf, slLen, slBase, cmpI, arI, Value.ite_bool, int_beq, int_bne, ite_band, ite_bor]; rw [w64 (by omega) (by omega)]; rfl
    · have hw := writeL_all l [] hok
      rw [List.nil_append] at hw
      have hg := LWrite_gives l _ H3 hs1 (by omega) (hT.le l03)
      rw [hw] at hg
      have hlen := wrL_le hok
      refine den_gives [txt (wrL l), .int .i64 0] cb_read_Write hg rfl pendNil fun H4 l4 => ?_
      have l04 := PH.le_trans l03 l4
      refine Read_call (s := wrL l) cb_read_Read rfl (LRead_tri _ (by simp only [maxLen]; omega) H4 (hE.le l04)) fun v2 H5 h5 l5 => ?_
      have l05 := PH.le_trans l04 l5
      rcases read_again hr with hr2 | ⟨a, e, hr2, he, hs3⟩
      · rw [hr2] at h5 ⊢
        simp only [Reads.list, Reads.err, Reads.at_] at h5 ⊢
        refine ⟨fun h => absurd h (by simp [ev0, ev, evV, List.cons_append, List.nil_append, List.getD_cons_zero, List.getD_cons_succ, List.map_cons, List.map_nil, iOf, bOf, sOf, pOf, slLen, slBase, cmpI, arI, Value.ite_bool]), fun _ => ?_⟩
        refine ⟨fun vs H' => vs = [.bool true] ∧ PH.le H H', ?_, ?_⟩
        · rintro vs H' _ ⟨rfl, h⟩; exact ⟨rfl, h⟩
        refine ⟨fun _ => ?_, fun h => absurd h (by simp [ev0, ev, evV, List.cons_append, List.nil_append, List.getD_cons_zero, List.getD_cons_succ, List.map_cons, List.map_nil, iOf, bOf, sOf, pOf, slLen, slBase, cmpI, arI, Value.ite_bool])⟩
        have hc := SameAll_gives l l _ v2 H5 (hs1.le (PH.le_trans l4 l5)) h5
        rw [decide_eq_true rfl] at hc
        exact den_gives [.bool true] cb_scrimshawref02_SameAll hc rfl pendNil fun H6 l6 => ⟨_, lookup_hit, rfl, PH.le_trans l05 l6⟩
      · rw [hr2] at h5 ⊢
        simp only [Reads.list, Reads.err, Reads.at_] at h5 ⊢
        refine ⟨fun _ => ⟨?_, l05⟩, fun h => ?_⟩
        · simp only [ev0, ev, evV, List.cons_append, List.nil_append, List.getD_cons_zero, List.getD_cons_succ, List.map_cons, List.map_nil, iOf, bOf, sOf, pOf, slLen, slBase, cmpI, arI, Value.ite_bool, int_beq, int_bne, ite_band, ite_bor, txt_size]
          have : (300 : Int) < (s.length : Int) := by omega
          simp [this]
        · exfalso
          simp only [ev0, ev, evV, List.cons_append, List.nil_append, List.getD_cons_zero, List.getD_cons_succ, List.map_cons, List.map_nil, iOf, bOf, sOf, pOf, slLen, slBase, cmpI, arI, Value.ite_bool, int_beq, int_bne, ite_band, ite_bor] at h
          rcases he with rfl | rfl <;> simp at h

theorem SourceJoins_gives (s t : List UInt8) (hs : s.length ≤ maxLen) (ht : t.length ≤ maxLen) (H : PH) (hE : Errs H) (hT : Tab H) : Gives Tryz.prog n_scrimshawlaw04_SourceJoins [txt s, txt t] H (.bool true) := by
  refine tri_scrimshawlaw04_SourceJoins [txt s, txt t] (by kernel_rfl) (by kernel_rfl) ?_
  refine Read_call (s := s) cb_read_Read rfl (LRead_tri s hs H hE) fun v1 H1 h1 l1 => ?_
  refine Read_call (s := t) cb_read_Read rfl (LRead_tri t ht H1 (hE.le l1)) fun v2 H2 h2 l2 => ?_
  obtain ⟨b1, c1, rfl⟩ := h1.sl
  obtain ⟨b2, c2, rfl⟩ := h2.sl
  have l02 := PH.le_trans l1 l2
  refine den_gives [.bool true] cb_scrimshawlaw04_fixed (fixedR_gives H2 (hE.le l02) (hT.le l02)) rfl pendNil fun H3 l3 => ?_
  have l03 := PH.le_trans l02 l3
  refine ⟨fun _ => ?_, fun hc => ?_⟩
  · exact den_gives [.bool true] cb_scrimshawlaw04_fixed (fixedR_gives H3 (hE.le l03) (hT.le l03)) rfl pendNil fun H4 l4 => ⟨rfl, PH.le_trans l03 l4⟩
  simp only [ev0, ev, evV, List.cons_append, List.nil_append, List.getD_cons_zero, List.getD_cons_succ, List.map_cons, List.map_nil, iOf, bOf, sOf, pOf, slLen, slBase, cmpI, arI, Value.ite_bool, int_beq, int_bne, ite_band, ite_bor, txt_size] at hc
  cases hrs : readS s with
  | bad a e =>
    obtain ⟨he, _⟩ := read_bad hrs
    simp [hrs, Reads.err, he] at hc
  | all l =>
    have hcl := read_cnt hrs
    have hll := Dats.cnt_le l
    simp only [Reads.list, Reads.err, Reads.at_, hrs] at hc h1 ⊢
    simp only [maxLen] at hs ht
    obtain ⟨hs2, ht2⟩ : s.length ≤ 500 ∧ t.length ≤ 500 := by
      simp at hc
      omega
    have hj := reads_join hrs hs2 ht2
    refine ⟨fun _ => ?_, fun _ => ?_, ?_⟩
    · simp only [Chk.holds, ev0, ev, evV, List.cons_append, List.nil_append, List.getD_cons_zero, List.getD_cons_succ, List.map_cons, List.map_nil, iOf, bOf, sOf, pOf, slLen, slBase, cmpI, arI, Value.ite_bool, int_beq, int_bne, ite_band, ite_bor, txt_size, List.length_cons, List.length_nil]; simp [IntKind.max, IntKind.bits, IntKind.signed]; omega
    · simp only [Chk.holds, ev0, ev, evV, List.cons_append, List.nil_append, List.getD_cons_zero, List.getD_cons_succ, List.map_cons, List.map_nil, iOf, bOf, sOf, pOf, slLen, slBase, cmpI, arI, Value.ite_bool, int_beq, int_bne, ite_band, ite_bor, cat_txt, txt_size, List.length_append, List.length_cons, List.length_nil]; simp [IntKind.max, IntKind.bits, IntKind.signed]; omega
    refine Read_call (s := s ++ 10 :: t) cb_read_Read ?_ (LRead_tri _ (by simp only [List.length_append, List.length_cons, maxLen]; omega) _ (hE.le l03)) fun v3 H4 h4 l4 => ?_
    · simp only [ev0, ev, evV, List.cons_append, List.nil_append, List.getD_cons_zero, List.getD_cons_succ, List.map_cons, List.map_nil, iOf, bOf, sOf, pOf, slLen, slBase, cmpI, arI, Value.ite_bool, int_beq, int_bne, ite_band, ite_bor, cat_txt]; simp
    obtain ⟨b3, c3, rfl⟩ := h4.sl
    have l04 := PH.le_trans l03 l4
    rw [hj] at h4 ⊢
    cases hrt : readS t with
    | bad a e =>
      obtain ⟨he, q, rfl, hq⟩ := read_bad hrt
      simp only [hrt, Reads.list, Reads.err, Reads.at_, Reads.shift, Reads.pre] at h2 h4 ⊢
      refine ⟨fun _ => ⟨?_, l04⟩, fun h => ?_⟩
      · simp only [ev0, ev, evV, List.cons_append, List.nil_append, List.getD_cons_zero, List.getD_cons_succ, List.map_cons, List.map_nil, iOf, bOf, sOf, pOf, slLen, slBase, cmpI, arI, Value.ite_bool, int_beq, int_bne, ite_band, ite_bor, txt_size]
        rw [w64 (n := (q : Int) + (s.length : Int)) (by omega) (by omega), w64 (by omega) (by omega)]
        have : ((q : Int) + ((s.length + 1 : Nat) : Int)) = (q : Int) + (s.length : Int) + 1 := by omega
        rw [this]; simp
      · simp only [ev0, ev, evV, List.cons_append, List.nil_append, List.getD_cons_zero, List.getD_cons_succ, List.map_cons, List.map_nil, iOf, bOf, sOf, pOf, slLen, slBase, cmpI, arI, Value.ite_bool, int_beq, int_bne, ite_band, ite_bor] at h
        simp [he] at h
    | all m =>
      have hcm := read_cnt hrt
      have hml := Dats.cnt_le m
      simp only [hrt, Reads.list, Reads.err, Reads.at_, Reads.shift, Reads.pre] at h2 h4 ⊢
      refine ⟨fun h => absurd h (by simp [ev0, ev, evV, List.cons_append, List.nil_append, List.getD_cons_zero, List.getD_cons_succ, List.map_cons, List.map_nil, iOf, bOf, sOf, pOf, slLen, slBase, cmpI, arI, Value.ite_bool]), fun _ => ?_⟩
      refine ⟨fun vs H' => vs = [.bool true] ∧ PH.le H H', ?_, ?_⟩
      · rintro vs H' _ ⟨rfl, hl⟩
        exact ⟨rfl, hl⟩
      refine ⟨fun _ => ?_, fun h => absurd h (by simp [ev0, ev, evV, List.cons_append, List.nil_append, List.getD_cons_zero, List.getD_cons_succ, List.map_cons, List.map_nil, iOf, bOf, sOf, pOf, slLen, slBase, cmpI, arI, Value.ite_bool])⟩
      refine den_lit0 (α := Dat) (b := 56) uDats elemDat fun v5 H5 a5 l5 => ?_
      refine den_append (b := 56) uDats elemDat rfl rfl a5 ((h1.le (PH.le_trans l2 (PH.le_trans l3 l4))).le a5.le) (by simp only [maxLen, List.length_nil]; omega) (by simp only [List.length_nil]; omega) fun v6 H6 a6 w6 => ⟨pendNil, ?_⟩
      refine den_append (b := 56) uDats elemDat rfl rfl a6 ((h2.le (PH.le_trans l3 l4)).le a6.le) (by simp only [maxLen, List.length_append, List.length_nil]; omega) (by simp only [List.length_append, List.length_nil]; omega) fun v7 H7 a7 w7 => ⟨pendNil, ?_⟩
      have hc := SameAll_gives _ _ _ v7 H7 (h4.le a7.all) a7.slR
      rw [decide_eq_true (by simp only [List.nil_append])] at hc
      exact den_gives [.bool true] cb_scrimshawref02_SameAll hc rfl pendNil fun H8 l8 => ⟨_, lookup_hit, rfl, PH.le_trans l04 (PH.le_trans a7.all l8)⟩

theorem SourceQuotes_gives (d : Dat) (n : Int) (cs : List Value) (H : PH) (hd : d.Rep H cs) (hn : InI n) (hE : Errs H) (hT : Tab H) : Gives Tryz.prog n_scrimshawlaw04_SourceQuotes [.agg cs.toArray, .int .i64 n] H (.bool true) := by
  have hd' := hd
  obtain ⟨sv, rfl, g1, g2, g3, hsv⟩ := Dat.Rep_iff.1 hd
  obtain ⟨b, c, rfl⟩ := hsv.sl
  have hmax : IntKind.i64.max = 9223372036854775807 := rfl
  refine tri_scrimshawlaw04_SourceQuotes [.int .i64 d.kind, .int .i64 d.int, txt d.text, .slice b d.list.length c, .int .i64 n] (by kernel_rfl) (by kernel_rfl) ?_
  refine den_gives [txt (d.textL false), .int .i64 (d.chk 0 0).2] cb_data_Text (DText_gives d _ H hd' hT) rfl pendNil fun H1 l1 => ?_
  refine den_gives [.bool true] cb_scrimshawlaw04_fixed (fixedR_gives H1 (hE.le l1) (hT.le l1)) rfl pendNil fun H2 l2 => ?_
  have l02 := PH.le_trans l1 l2
  refine ⟨fun _ => ?_, fun hc => ?_⟩
  · exact den_gives [.bool true] cb_scrimshawlaw04_fixed (fixedR_gives H2 (hE.le l02) (hT.le l02)) rfl pendNil fun H3 l3 => ⟨rfl, PH.le_trans l02 l3⟩
  simp only [ev0, ev, evV, List.cons_append, List.nil_append, List.getD_cons_zero, List.getD_cons_succ, List.map_cons, List.map_nil, iOf, bOf, sOf, pOf, slLen, slBase, cmpI, arI, Value.ite_bool, int_beq, int_bne, ite_band, ite_bor, txt_size] at hc
  have hok : (d.chk 0 0).2 = 0 := by
    by_cases h : (d.chk 0 0).2 = 0
    · exact h
    · simp [h] at hc
  have htx : d.textL false = d.txtL false := by rw [Dat.textL, if_pos hok]
  rw [htx, hok] at hc
  rw [htx]
  have hc2 : ¬ (500 < (d.txtL false).length) ∧ ¬ n < 0 ∧ ¬ 40 < n := by
    simp at hc
    omega
  obtain ⟨m, rfl⟩ : ∃ m : Nat, n = m := ⟨n.toNat, by omega⟩
  refine ⟨fun f vs H' => ∃ (k : Nat) (wb : Option Addr) (wc : Nat), vs = [txt (marksL k (d.txtL false)), .int .i64 k, .int .i64 (quoteN k d).kind, .int .i64 (quoteN k d).int, txt (quoteN k d).text, .slice wb (quoteN k d).list.length wc] ∧
      Dat.Rep H' (quoteN k d) [.int .i64 (quoteN k d).kind, .int .i64 (quoteN k d).int, txt (quoteN k d).text, .slice wb (quoteN k d).list.length wc] ∧ k + f = m ∧ PH.le H H', ⟨m, 0, b, c, rfl, Dat.Rep.le l02 d hd', by omega, l02⟩, ?_⟩
  rintro f vs H3 _ ⟨k, wb, wc, rfl, hw, hk, l3⟩
  refine ⟨fun h => ?_, fun h => ?_⟩
  · simp only [ev0, ev, evV, List.cons_append, List.nil_append, List.getD_cons_zero, List.getD_cons_succ, List.map_cons, List.map_nil, iOf, bOf, sOf, pOf, slLen, slBase, cmpI, arI, Value.ite_bool, int_beq, int_bne, ite_band, ite_bor, decide_eq_true_eq] at h
    have hsl : (marksL k (d.txtL false)).length = k + (d.txtL false).length := by unfold marksL; rw [List.length_append, List.length_replicate]
    refine ⟨fun _ => ?_, ?_⟩
    · simp only [Chk.holds, ev0, ev, evV, List.cons_append, List.nil_append, List.getD_cons_zero, List.getD_cons_succ, List.map_cons, List.map_nil, iOf, bOf, sOf, pOf, slLen, slBase, cmpI, arI, Value.ite_bool, int_beq, int_bne, ite_band, ite_bor, txt_size, hmax, List.length_cons, List.length_nil]; omega
    refine den_lit (l := [.mk 4 0 [113, 117, 111, 116, 101] [], quoteN k d]) (b := 56) [.agg #[.int .i64 4, .int .i64 0, txt [113, 117, 111, 116, 101], .slice none 0 0], .agg #[.int .i64 (quoteN k d).kind, .int .i64 (quoteN k d).int, txt (quoteN k d).text, .slice wb (quoteN k d).list.length wc]]
      uDats elemDat rfl (by decide) (by decide) rfl (.cons (sym_rep H3) (.cons hw .nil)) pendNil fun v1 H4 a4 l4 _ => ?_
    have hs4 := a4.slR
    obtain ⟨vb, vc, rfl⟩ := hs4.sl
    refine ⟨_, lookup_hit, f - 1, by omega, k + 1, vb, vc, ?_, ?_, by omega, PH.le_trans l3 l4⟩
    · simp only [ev0, ev, evV, List.cons_append, List.nil_append, List.getD_cons_zero, List.getD_cons_succ, List.map_cons, List.map_nil, iOf, bOf, sOf, pOf, slLen, slBase, cmpI, arI, Value.ite_bool, int_beq, int_bne, ite_band, ite_bor, cat_txt]
      rw [w64 (by omega) (by omega)]
      rfl
    · exact Dat.Rep_iff.2 ⟨_, rfl, (show InI 5 from by decide), (show InI 0 from by decide), Nat.zero_le _, hs4⟩
  · simp only [ev0, ev, evV, List.cons_append, List.nil_append, List.getD_cons_zero, List.getD_cons_succ, List.map_cons, List.map_nil, iOf, bOf, sOf, pOf, slLen, slBase, cmpI, arI, Value.ite_bool, int_beq, int_bne, ite_band, ite_bor, decide_eq_false_iff_not] at h
    have hkm : k = m := by omega
    subst hkm
    have hsl : (marksL k (d.txtL false)).length = k + (d.txtL false).length := by unfold marksL; rw [List.length_append, List.length_replicate]
    refine Read_call (s := marksL k (d.txtL false)) cb_read_Read rfl (LRead_tri _ (by simp only [maxLen]; omega) H3 (hE.le l3)) fun v2 H4 h4 l4 => ?_
    have l04 := PH.le_trans l3 l4
    rcases read_quotes hok (by omega) (n := k) (by omega) with ⟨hr, hck⟩ | ⟨a, hr, hck⟩
    · rw [hr] at h4 ⊢
      simp only [Reads.list, Reads.err, Reads.at_] at h4 ⊢
      obtain ⟨b2, c2, rfl⟩ := h4.sl
      refine ⟨fun h => absurd h (by simp [ev0, ev, evV, List.cons_append, List.nil_append, List.getD_cons_zero, List.getD_cons_succ, List.map_cons, List.map_nil, iOf, bOf, sOf, pOf, slLen, slBase, cmpI, arI, Value.ite_bool]), fun _ => ?_⟩
      refine ⟨fun vs H' => vs = [.bool true] ∧ PH.le H H', ?_, ?_⟩
      · rintro vs H' _ ⟨rfl, hl⟩
        exact ⟨rfl, hl⟩
      have hk0 : ([quoteN k d] : List Dat)[0]? = some (quoteN k d) := rfl
      obtain ⟨q1, _, ces, q2, q3⟩ := h4.get hk0
      have q2' := q2
      obtain ⟨dv, rfl, y1, y2, y3, y4⟩ := Dat.Rep_iff.1 q2
      obtain ⟨db, dc, rfl⟩ := y4.sl
      refine ⟨fun _ => ?_, fun _ => ?_, fun h => absurd h (by simp [ev0, ev, evV, List.cons_append, List.nil_append, List.getD_cons_zero, List.getD_cons_succ, List.map_cons, List.map_nil, iOf, bOf, sOf, pOf, slLen, slBase, cmpI, arI, Value.ite_bool])⟩
      · simp only [Chk.holds, ev0, ev, evV, List.cons_append, List.nil_append, List.getD_cons_zero, List.getD_cons_succ, List.map_cons, List.map_nil, iOf, bOf, sOf, pOf, slLen, slBase, cmpI, arI, Value.ite_bool, int_beq, int_bne, ite_band, ite_bor, List.length_cons, List.length_nil]; simp; exact q1
      refine ⟨[.int .i64 (quoteN k d).kind, .int .i64 (quoteN k d).int, txt (quoteN k d).text, .slice db (quoteN k d).list.length dc], rfl, ?_, ?_⟩
      · simp only [ev0, ev, evV, List.cons_append, List.nil_append, List.getD_cons_zero, List.getD_cons_succ, List.map_cons, List.map_nil, iOf, bOf, sOf, pOf, slLen, slBase, cmpI, arI, Value.ite_bool, int_beq, int_bne, ite_band, ite_bor]; exact q3
      have he := Equal_gives (quoteN k d) (quoteN k d) _ _ H4 q2' (Dat.Rep.le l4 _ hw)
      rw [decide_eq_true rfl] at he
      refine den_gives [.bool true] cb_data_Equal he rfl pendNil fun H5 l5 => ⟨fun _ => ?_, fun h => absurd h (by simp [ev0, ev, evV, List.cons_append, List.nil_append, List.getD_cons_zero, List.getD_cons_succ, List.map_cons, List.map_nil, iOf, bOf, sOf, pOf, slLen, slBase, cmpI, arI, Value.ite_bool])⟩
      have hcc := DCheckF_gives (quoteN k d) _ H5 (Dat.Rep.le (PH.le_trans l4 l5) _ hw)
      rw [hck] at hcc
      exact den_gives [.int .i64 0] cb_data_Check hcc rfl pendNil fun H6 l6 => ⟨_, lookup_hit, rfl, PH.le_trans l04 (PH.le_trans l5 l6)⟩
    · rw [hr] at h4 ⊢
      simp only [Reads.list, Reads.err, Reads.at_] at h4 ⊢
      obtain ⟨b2, c2, rfl⟩ := h4.sl
      refine ⟨fun _ => ?_, fun h => absurd h (by simp [ev0, ev, evV, List.cons_append, List.nil_append, List.getD_cons_zero, List.getD_cons_succ, List.map_cons, List.map_nil, iOf, bOf, sOf, pOf, slLen, slBase, cmpI, arI, Value.ite_bool])⟩
      refine ⟨fun vs H' => vs = [.bool true] ∧ PH.le H H', ?_, ?_⟩
      · rintro vs H' _ ⟨rfl, hl⟩
        exact ⟨rfl, hl⟩
      refine ⟨fun _ => ?_, fun h => ?_⟩
      · have hcc := DCheckF_gives (quoteN k d) _ H4 (Dat.Rep.le l4 _ hw)
        rw [hck] at hcc
        exact den_gives [.int .i64 21] cb_data_Check hcc rfl pendNil fun H5 l5 => ⟨_, lookup_hit, rfl, PH.le_trans l04 l5⟩
      · exfalso
        simp only [ev0, ev, evV, List.cons_append, List.nil_append, List.getD_cons_zero, List.getD_cons_succ, List.map_cons, List.map_nil, iOf, bOf, sOf, pOf, slLen, slBase, cmpI, arI, Value.ite_bool, int_beq, int_bne, ite_band, ite_bor, List.length_nil] at h
        simp at h

/-! ### bytes that are written out, made bytes again -/
section
variable {P : Program} {Ψ : Value → PH → Prop} {H : PH}
theorem wpS_bytesSame {T e el : TypeId} (hT : P.underlying T = some (.slice e)) (he : P.underlying e = some (.int .u8)) {r n c : Nat} {cs : Array Value} (ha : H r = some (.cells cs el (0, 0))) {Φ : Value → PH → Prop}
    (hk : ∀ H', (∀ k, k ≠ r → H' k = H k) → (∃ f, H' r = some (.cells cs el f)) → Φ (.slice (some ⟨r, 0, none⟩) n c) H') : wpS P (convert T T (.slice (some ⟨r, 0, none⟩) n c)) Φ Ψ H := by
  unfold convert
  simp only [wpS_bind', wpS_underlying hT, wpS_underlying he, beq_self_eq_true]
  unfold markStringish
  simp only [wpS_bind']
  refine ⟨_, ha, ?_⟩
  refine ⟨_, ha, by decide, ?_⟩
  refine hk _ (fun k hk => PH.upd_other hk) ⟨_, PH.upd_same⟩
theorem wpS_appendFull {t t2 ty e : TypeId} {d2 : TypeDesc} {i : TypeInfo} {z : Value} (ht : P.underlying t = some (.slice e)) (ht2 : P.underlying t2 = some d2) (hd2 : ∀ k, d2 ≠ .int k) (hi : P.info? e = some i) (hz : i.zero = some z) (hzs : z.cells.size = i.size)
    {a : Addr} {x : Value} {n m : Nat} {xs news : List Value} {Φ : Value → PH → Prop} (hsrc : Src H (.slice (some a) n n) n xs) (hxl : xs.length = n * i.size) (hm : 0 < m) (hx : Src H x m news) (hl : news.length = m * i.size) (h63 : n + m ≤ maxLen) (hby : (n + m) * i.bytes ≤ 140737488355328)
    (hk : ∀ v' H', Own H' e i.size v' (n + m) (xs ++ news) → PH.le H H' → (∀ k, ob v' = some k → H k = none) → Φ v' H') :
    wpS P (Builtin.append_ #[t, t2] ty #[.slice (some a) n n, x]) Φ Ψ H := by
  have hlen : (xs ++ news).length = (n + m) * i.size := by rw [List.length_append, hxl, hl, Nat.add_mul]
  unfold Builtin.append_
  simp only [List.getElem?_toArray, List.getElem?_cons_zero, List.getElem?_cons_succ, wpS_bind', wpS_underlying ht, wpS_underlying ht2, wpS_sizeOf hi, wpS_pure, if_false, wpS_lenOf hx, Bool.not_false, if_true, Bool.false_eq_true]
  split
  · omega
  · rename_i hroom
    have hmax : ¬ (((n + m : Nat) : Int) > IntKind.i64.max ∧ (False ∨ i.bytes = 0)) := by
      rintro ⟨h, _⟩
      have : IntKind.i64.max = 9223372036854775807 := rfl
      rw [this] at h
      simp only [maxLen] at h63
      omega
    have hfit : ¬ (Builtin.nextslicecap (n + m) n * i.bytes > 2 ^ 48) := by
      have := growslice_fits (need := n + m) (old := n) (by omega) hby
      omega
    simp only [wpS_bind', wpS_typeInfo hi, if_neg hmax, if_neg hfit, wpS_choose (q := .appendCap (n + m) n e) rfl, wpS_askRoom]
    intro tp
    have hcap : n + m ≤ Question.cut (.appendCap (n + m) n e) tp ∧ Question.cut (.appendCap (n + m) n e) tp ≤ maxLen := by
      simp only [Question.cut]
      simp only [maxLen] at h63 ⊢
      have := Nat.mod_lt tp (show 0 < 2 ^ 63 - (n + m) by omega)
      omega
    generalize Question.cut (.appendCap (n + m) n e) tp = nc at hcap
    refine wpS_firstCells hsrc hxl ?_
    refine wpS_firstCells hx hl ?_
    simp only [wpS_zeroValue hi hz, wpS_newRow]
    intro r hr
    show Φ _ _
    refine hk _ _ ⟨hlen, .inr ⟨r, nc, _, rfl, PH.upd_same, hcap.1, hcap.2, ?_, ?_⟩⟩ (PH.le_upd hr) (fun k h => ?_)
    · simp only [Array.size_append, size_zeroCells, hzs, List.size_toArray]
      rw [← List.length_append, hlen, ← Nat.add_mul]
      congr 1; omega
    · rw [Array.toList_append, Array.toList_append, List.take_left' (by simpa using hlen)]
    · cases h; exact hr
end
section
variable {P : Program} {X : List PanicEntry → PH → Prop} {β : Type} {E : List Value} {L : LK} {K : β → List Value → PH → LK → Prop} {H : PH}
/-- a row laid out of things that stand in S -/
theorem den_litR {α : Type} [Enc α] {S : PH} {l : List α} {T ty e : TypeId} {n b : Nat} {ps : Array (Nat × Operand)} {args : List (Nat × VE)} {k : Fm β} (vs : List Value)
    (hT : P.underlying T = some (.slice e)) (he : ElemOk P e (sz α) b = true) (hn : l.length = n) (h0 : n * sz α ≠ 0) (hle : n * sz α ≤ 2 ^ 24)
    (hps : ps.toList.map (fun x => (x.1, argEv E args x.2)) = idxs 0 vs) (hvs : All2 (fun a v => CsR S a v.cells.toList) l vs)
    (hk : ∀ r cs, H r = none → PV.RepRow S (l.flatMap pv) cs → den P X k (E ++ [.slice (some ⟨r, 0, none⟩) n n]) (H.upd r (.cells cs.toArray e (0, 0))) L K) : den P X (.sem (.buildSlice T n ps) ty args (.sc .sl) [] k) E H L K := by
  obtain ⟨i, z, hi, i1, i2, i3, i4⟩ := ElemOk.info he
  obtain ⟨hr, hsz, hlen⟩ := rows_of hvs
  show wpS P (execOp (argEv E args) (bare (.buildSlice T n ps) ty)) _ _ H
  rw [exec_buildSlice]
  have hcs : (vs.flatMap fun v => v.cells.toList).length = n * sz α := by
    rw [hr.length, pvs_length, hn]
  have hcells : ((Array.range (n * i.size)).map (z.cells[· % z.cells.size]!)).size = (vs.flatMap fun v => v.cells.toList).length := by simp [hcs, i1]
  refine wpS_buildSlice hT hi i3 (by rw [i1]; exact h0) (by rw [i1]; exact hle) (cells := (vs.flatMap fun v => v.cells.toList).toArray) ?_ fun r hr' => ?_
  · have hpl : (ps.map fun (i, x) => (i, argEv E args x)).toList = idxs 0 vs := by rw [← hps]; simp
    rw [hpl, i1, fill_rows vs 0 _ hsz (by simp [i1] at hcells ⊢; rw [hlen, hn]; omega)]
    congr 1
    rw [Nat.zero_mul]
    refine splice_all ?_
    rw [i1] at hcells; exact hcells
  · exact ⟨[_], rfl, rfl, pendNil, hk _ _ hr' hr⟩
theorem lit_slR {α : Type} [Enc α] {S K : PH} {l : List α} {r : Nat} {cs : List Value} {e : TypeId} {f : Nat × Nat} (hK : K r = some (.cells cs.toArray e f)) (hS : PH.le S K) (hr : PV.RepRow S (l.flatMap pv) cs) (hl : l.length ≤ maxLen) : SlR K l (.slice (some ⟨r, 0, none⟩) l.length l.length) := by
  refine SlR.mk_iff.2 ⟨hl, .inr ⟨_, _, rfl, Nat.le_refl _, hl, RepRows.of (PV.RepRow.le hS hr) fun j u hu => ?_⟩⟩
  rw [Addr.add_plain, PH.cell_at hK, Nat.zero_add]
  simpa using hu
end
/-- text behind a full row of bytes: a new row -/
theorem den_appendFullTxt {P : Program} {X : List PanicEntry → PH → Prop} {β : Type} {H0 H : PH} {E : List Value} {L : LK} {K : β → List Value → PH → LK → Prop} {e T S ty : TypeId} {x y : Operand} {args : List (Nat × VE)} {k : Fm β} {l more : List UInt8} {r : Nat}
    (hT : P.underlying T = some (.slice e)) (hS : P.underlying S = some .string) (he : ElemOk P e 1 1 = true) (hx : argEv E args x = .slice (some ⟨r, 0, none⟩) l.length l.length) (hy : argEv E args y = txt more) (hm : 0 < more.length)
    (hc : ∀ j u, (l.map fun b => Value.int .u8 (b.toNat : Int))[j]? = some u → H.cell? ((⟨r, 0, none⟩ : Addr).add j) = some u) (h0 : PH.le H0 H) (h63 : l.length + more.length ≤ 140737488355328)
    (hk : ∀ v' H', Acc H0 H' e (l ++ more) v' → PH.le H H' → den P X k (E ++ [v']) H' L K) : den P X (.sem (.call ⟨.builtin .append, #[x, y], #[T, S]⟩) ty args (.sc .sl) [] k) E H L K := by
  obtain ⟨i, z, hi, i1, i2, i3, i4⟩ := ElemOk.info he
  show wpS P (execOp (argEv E args) (bare _ ty)) _ _ H
  rw [exec_append, hx, hy]
  refine wpS_appendFull hT hS (fun k => by intro h; cases h) hi i3 (by rw [i4, i1]) (m := more.length) (xs := l.map fun b => Value.int .u8 (b.toNat : Int)) (.inl ⟨_, _, rfl, hc⟩) (by rw [List.length_map, i1, Nat.mul_one]) hm (txt_src more) (by rw [List.length_map, i1, Nat.mul_one]) (by simp only [maxLen]; omega) (by rw [i2]; omega) fun v' H' h1 h2 h3 => ?_
  have hacc : Acc H0 H' e (l ++ more) v' := by
    refine ⟨fun k o hk => ?_, _, ?_, txt_row (l ++ more)⟩
    · have hne : ob v' ≠ some k := fun e => by
        have := h3 k e
        rw [h0 k o hk] at this; cases this
      rw [delV_at hne]; exact h2 k o (h0 k o hk)
    · rw [i1] at h1
      rw [List.length_append, List.map_append]; exact h1
  obtain ⟨bb, c, hv'⟩ := hacc.sl
  exact ⟨[v'], by rw [hv']; rfl, rfl, pendNil, hk _ _ hacc h2⟩
theorem row_encB {H : PH} : ∀ {l : List UInt8} {cs : List Value}, PV.RepRow H (l.flatMap pv) cs → cs = l.map encB
  | [], cs, h => by simpa [PV.RepRow] using h
  | a :: l, cs, h => by
    rw [List.flatMap_cons] at h
    have h' : PV.RepRow H (.int .u8 (a.toNat : Int) :: l.flatMap pv) cs := h
    simp only [PV.RepRow, PV.Rep] at h'
    obtain ⟨v, vs, rfl, ⟨rfl, _⟩, h2⟩ := h'
    rw [row_encB h2]; rfl

set_option maxHeartbeats 1000000 in
theorem SourceDots_gives (l : List Dat) (t : Dat) (v : Value) (cs : List Value) (H : PH) (hl : SlR H l v) (ht : t.Rep H cs) (hE : Errs H) (hT : Tab H) : Gives Tryz.prog n_scrimshawlaw04_SourceDots [v, .agg cs.toArray] H (.bool true) := by
  have ht' := ht
  obtain ⟨b, c, rfl⟩ := hl.sl
  obtain ⟨tv, rfl, t1, t2, t3, t4⟩ := Dat.Rep_iff.1 ht
  obtain ⟨tb, tc, rfl⟩ := t4.sl
  have hlm := hl.max
  simp only [maxLen] at hlm
  have hmax : IntKind.i64.max = 9223372036854775807 := rfl
  refine tri_scrimshawlaw04_SourceDots [.slice b l.length c, .int .i64 t.kind, .int .i64 t.int, txt t.text, .slice tb t.list.length tc] (by kernel_rfl) (by kernel_rfl) ?_
  refine den_litR (S := H) (l := [(40 : UInt8)]) (b := 1) [.int .u8 40] uBytes elemByte rfl (by decide) (by decide) rfl (.cons ⟨_, _, rfl, ⟨rfl, by decide⟩, rfl⟩ .nil) fun r cs0 hr0 hc0 => ?_
  obtain rfl := row_encB hc0
  show wpS _ (execOp (argEv _ _) (bare _ _)) _ _ _
  rw [exec_convert]
  refine wpS_bytesSame uBytes uByte (r := r) PH.upd_same fun H1 hk1 hf1 => ?_
  obtain ⟨f1, hf1⟩ := hf1
  have l1 : PH.le H H1 := fun k o hk => by
    have : k ≠ r := fun e => by rw [e, hr0] at hk; cases hk
    rw [hk1 k this, PH.upd_other this]; exact hk
  refine ⟨[_], rfl, rfl, pendNil, ?_⟩
  refine ⟨fun m vs H' => ∃ (k : Nat) (w : Value), vs = [.bool false, w, .int .i64 k] ∧ k + m = min l.length 20 ∧ (∀ e ∈ l.take k, (e.chk 0 0).2 = 0) ∧ (spL (l.take k)).length ≤ k * 67600001 ∧
      ((k = 0 ∧ w = .slice (some ⟨r, 0, none⟩) 1 1 ∧ PH.le H1 H') ∨ (0 < k ∧ Acc H H' 5 (40 :: spL (l.take k)) w)), ⟨min l.length 20, 0, _, rfl, by omega, by simp, by simp [spL], .inl ⟨rfl, rfl, PH.le_refl _⟩⟩, ?_⟩
  rintro m vs H2 _ ⟨k, w, rfl, hk, hok, hspl, hw⟩
  have l2 : PH.le H H2 := by
    rcases hw with ⟨_, _, h⟩ | ⟨_, h⟩
    · exact PH.le_trans l1 h
    · exact h.all
  have hws : ∃ wb wc, w = .slice wb (1 + (spL (l.take k)).length) wc := by
    rcases hw with ⟨rfl, rfl, _⟩ | ⟨_, h⟩
    · exact ⟨some ⟨r, 0, none⟩, 1, by simp [spL]⟩
    · obtain ⟨wb, wc, h⟩ := h.sl
      exact ⟨wb, wc, by rw [h]; simp only [List.length_cons, Nat.add_comm]⟩
  refine ⟨fun h => ?_, fun h => ?_⟩
  · have hkl : k < l.length ∧ k < 20 := by
      simp only [ev0, ev, evV, List.cons_append, List.nil_append, List.getD_cons_zero, List.getD_cons_succ, List.map_cons, List.map_nil, iOf, bOf, sOf, pOf, slLen, slBase, cmpI, arI, Value.ite_bool, int_beq, int_bne, ite_band, ite_bor] at h
      simp at h; omega
    obtain ⟨d, hkd⟩ : ∃ d, l[k]? = some d := ⟨_, List.getElem?_eq_getElem hkl.1⟩
    obtain ⟨g1, _, ces, g2, g3⟩ := (hl.le l2).get hkd
    have g2' := g2
    obtain ⟨dv, rfl, y1, y2, y3, y4⟩ := Dat.Rep_iff.1 g2
    obtain ⟨db, dc, rfl⟩ := y4.sl
    refine ⟨fun _ => ?_, [.int .i64 d.kind, .int .i64 d.int, txt d.text, .slice db d.list.length dc], rfl, ?_, ?_⟩
    · simp only [Chk.holds, ev0, ev, evV, List.cons_append, List.nil_append, List.getD_cons_zero, List.getD_cons_succ, List.map_cons, List.map_nil, iOf, bOf, sOf, pOf, slLen, slBase, cmpI, arI, Value.ite_bool, int_beq, int_bne, ite_band, ite_bor]; exact ⟨g1, by omega, by omega⟩
    · simp only [ev0, ev, evV, List.cons_append, List.nil_append, List.getD_cons_zero, List.getD_cons_succ, List.map_cons, List.map_nil, iOf, bOf, sOf, pOf, slLen, slBase, cmpI, arI, Value.ite_bool, int_beq, int_bne, ite_band, ite_bor]; exact g3
    refine den_gives [txt (d.textL false), .int .i64 (d.chk 0 0).2] cb_data_Text (DText_gives d _ H2 g2' (hT.le l2)) rfl pendNil fun H3 l3 => ⟨fun h2 => ?_, fun h2 => ?_⟩
    · exact den_gives [.bool true] cb_scrimshawlaw04_fixed (fixedR_gives H3 (hE.le (PH.le_trans l2 l3)) (hT.le (PH.le_trans l2 l3))) rfl pendNil fun H4 l4 => ⟨rfl, PH.le_trans l2 (PH.le_trans l3 l4)⟩
    · simp only [ev0, ev, evV, List.cons_append, List.nil_append, List.getD_cons_zero, List.getD_cons_succ, List.map_cons, List.map_nil, iOf, bOf, sOf, pOf, slLen, slBase, cmpI, arI, Value.ite_bool, int_beq, int_bne, ite_band, ite_bor, decide_eq_false_iff_not, ne_eq, Decidable.not_not] at h2
      have htx : d.textL false = d.txtL false := by rw [Dat.textL, if_pos h2]
      have hgl := good_len h2
      rw [htx]
      refine ⟨fun _ => ?_, ?_⟩
      · simp only [Chk.holds, ev0, ev, evV, List.cons_append, List.nil_append, List.getD_cons_zero, List.getD_cons_succ, List.map_cons, List.map_nil, iOf, bOf, sOf, pOf, slLen, slBase, cmpI, arI, Value.ite_bool, int_beq, int_bne, ite_band, ite_bor, txt_size, hmax, List.length_cons, List.length_nil]; omega
      have htk : l.take (k + 1) = l.take k ++ [d] := by rw [List.take_add_one, hkd]; rfl
      have hsp1 : spL (l.take (k + 1)) = spL (l.take k) ++ (d.txtL false ++ [32]) := by rw [htk]; simp [spL]
      have hokn : ∀ e ∈ l.take (k + 1), (e.chk 0 0).2 = 0 := fun e he => by
        rw [htk] at he
        rcases List.mem_append.1 he with he | he
        · exact hok e he
        · rw [List.mem_singleton.1 he]; exact h2
      have hlenn : (spL (l.take (k + 1))).length ≤ (k + 1) * 67600001 := by rw [hsp1]; simp only [List.length_append, List.length_cons, List.length_nil]; omega
      rcases hw with ⟨rfl, rfl, hle⟩ | ⟨hk0, hacc⟩
      · refine den_appendFullTxt (H0 := H) (e := 5) (r := r) (l := [40]) (more := d.txtL false ++ [32]) uBytes uString elemByte rfl ?_ (by simp) (fun j u hu => ?_) (PH.le_trans l2 l3) (by simp only [List.length_cons, List.length_append, List.length_nil]; omega) fun v' H4 a4 l4 => ?_
        · rw [← cat_val]; rfl
        · rw [Addr.add_plain, PH.cell_at (l3 _ _ (hle _ _ hf1)), Nat.zero_add, List.getElem?_toArray]
          exact hu
        refine ⟨_, lookup_hit, m - 1, by omega, 1, v', ?_, by omega, hokn, hlenn, .inr ⟨by omega, ?_⟩⟩
        · simp only [ev0, ev, evV, List.cons_append, List.nil_append, List.getD_cons_zero, List.getD_cons_succ, List.map_cons, List.map_nil, iOf, bOf, sOf, pOf, slLen, slBase, cmpI, arI, Value.ite_bool, int_beq, int_bne, ite_band, ite_bor]; rw [w64 (by omega) (by omega)]; rfl
        · rw [hsp1]; simpa [spL] using a4
      · refine den_appendTxt (H0 := H) (e := 5) (l := 40 :: spL (l.take k)) (more := d.txtL false ++ [32]) uBytes uString elemByte rfl ?_ (hacc.mono l3) (by simp only [List.length_cons, List.length_append, List.length_nil]; omega) fun v' H4 a4 w4 => ⟨pendNil, ?_⟩
        · rw [← cat_val]; rfl
        refine ⟨_, lookup_hit, m - 1, by omega, k + 1, v', ?_, by omega, hokn, hlenn, .inr ⟨by omega, ?_⟩⟩
        · simp only [ev0, ev, evV, List.cons_append, List.nil_append, List.getD_cons_zero, List.getD_cons_succ, List.map_cons, List.map_nil, iOf, bOf, sOf, pOf, slLen, slBase, cmpI, arI, Value.ite_bool, int_beq, int_bne, ite_band, ite_bor]; rw [w64 (by omega) (by omega)]; rfl
        · rw [hsp1]; exact a4
  · have hkl : ¬ (k < l.length ∧ k < 20) := by
      simp only [ev0, ev, evV, List.cons_append, List.nil_append, List.getD_cons_zero, List.getD_cons_succ, List.map_cons, List.map_nil, iOf, bOf, sOf, pOf, slLen, slBase, cmpI, arI, Value.ite_bool, int_beq, int_bne, ite_band, ite_bor] at h
      simp at h; omega
    refine den_gives [txt (t.textL false), .int .i64 (t.chk 0 0).2] cb_data_Text (DText_gives t _ H2 (Dat.Rep.le l2 t ht') (hT.le l2)) rfl pendNil fun H3 l3 => ?_
    have l03 := PH.le_trans l2 l3
    refine den_gives [.bool true] cb_scrimshawlaw04_fixed (fixedR_gives H3 (hE.le l03) (hT.le l03)) rfl pendNil fun H4 l4 => ?_
    have l04 := PH.le_trans l03 l4
    have l24 := PH.le_trans l3 l4
    refine ⟨fun _ => ?_, fun hc => ?_⟩
    · exact den_gives [.bool true] cb_scrimshawlaw04_fixed (fixedR_gives H4 (hE.le l04) (hT.le l04)) rfl pendNil fun H5 l5 => ⟨rfl, PH.le_trans l04 l5⟩
    obtain ⟨wb, wc, rfl⟩ := hws
    simp only [ev0, ev, evV, List.cons_append, List.nil_append, List.getD_cons_zero, List.getD_cons_succ, List.map_cons, List.map_nil, iOf, bOf, sOf, pOf, slLen, slBase, cmpI, arI, Value.ite_bool, int_beq, int_bne, ite_band, ite_bor, txt_size] at hc
    have hok2 : (t.chk 0 0).2 = 0 := by
      by_cases h : (t.chk 0 0).2 = 0
      · exact h
      · simp [h] at hc
    have htx : t.textL false = t.txtL false := by rw [Dat.textL, if_pos hok2]
    have htl := good_len hok2
    rw [htx, hok2, w64 (by omega) (by omega)] at hc
    rw [htx]
    have hc2 : 1 ≤ l.length ∧ l.length ≤ 20 ∧ 1 + (spL (l.take k)).length + (t.txtL false).length ≤ 800 := by
      simp at hc
      omega
    have hkl2 : k = l.length := by omega
    subst hkl2
    rw [List.take_length] at hc2 hok hw hspl hc
    have hacc : Acc H H2 5 (40 :: spL l) (.slice wb (1 + (spL (l.take l.length)).length) wc) := by
      rcases hw with ⟨h, _⟩ | ⟨_, h⟩
      · omega
      · rw [List.take_length]; exact h
    have hne : l ≠ [] := fun e => by rw [e] at hc2; simp at hc2
    have hdl := dotL_eq hne t
    have hdll : (dotL l t).length = (spL l).length + (t.txtL false).length + 4 := by rw [hdl]; simp only [List.length_cons, List.length_append, List.length_nil]; omega
    refine den_accTxt rfl (hacc.mono l24) ?_
    refine ⟨fun _ => ?_, fun _ => ?_, fun _ => ?_, ?_⟩
    · simp only [Chk.holds, ev0, ev, evV, List.cons_append, List.nil_append, List.getD_cons_zero, List.getD_cons_succ, List.map_cons, List.map_nil, iOf, bOf, sOf, pOf, slLen, slBase, cmpI, arI, Value.ite_bool, int_beq, int_bne, ite_band, ite_bor, txt_size, hmax, List.length_cons, List.length_nil]; omega
    · simp only [Chk.holds, ev0, ev, evV, List.cons_append, List.nil_append, List.getD_cons_zero, List.getD_cons_succ, List.map_cons, List.map_nil, iOf, bOf, sOf, pOf, slLen, slBase, cmpI, arI, Value.ite_bool, int_beq, int_bne, ite_band, ite_bor, cat_txt, txt_size, hmax, List.length_append, List.length_cons, List.length_nil]; omega
    · simp only [Chk.holds, ev0, ev, evV, List.cons_append, List.nil_append, List.getD_cons_zero, List.getD_cons_succ, List.map_cons, List.map_nil, iOf, bOf, sOf, pOf, slLen, slBase, cmpI, arI, Value.ite_bool, int_beq, int_bne, ite_band, ite_bor, cat_txt, txt_size, hmax, List.length_append, List.length_cons, List.length_nil]; omega
    refine Read_call (s := dotL l t) cb_read_Read ?_ (LRead_tri _ (by simp only [maxLen]; omega) H4 (hE.le l04)) fun v2 H5 h5 l5 => ?_
    · simp only [ev0, ev, evV, List.cons_append, List.nil_append, List.getD_cons_zero, List.getD_cons_succ, List.map_cons, List.map_nil, iOf, bOf, sOf, pOf, slLen, slBase, cmpI, arI, Value.ite_bool, int_beq, int_bne, ite_band, ite_bor, cat_txt, hdl]; simp
    have l05 := PH.le_trans l04 l5
    have hcl : Dats.cnt l ≤ 100000 ∧ t.cnt ≤ 100000 := by
      have h1 := cnt_txt (ok_good hok2)
      have h2 : ∀ m : List Dat, (∀ e ∈ m, (e.chk 0 0).2 = 0) → Dats.cnt m ≤ (spL m).length := by
        intro m
        induction m with
        | nil => intro _; simp [Dats.cnt, spL]
        | cons e m ih =>
          intro h
          have h1 := cnt_txt (ok_good (h e (List.mem_cons_self ..)))
          have h2 := ih fun e he => h e (List.mem_cons_of_mem _ he)
          simp only [Dats.cnt, spL, List.flatMap_cons, List.length_append, List.length_cons, List.length_nil] at h2 ⊢; omega
      have h3 := h2 l hok
      omega
    rcases read_dots hok hok2 hne (by omega) with hr | ⟨a, hr, hck⟩
    · rw [hr] at h5 ⊢
      simp only [Reads.list, Reads.err, Reads.at_] at h5 ⊢
      obtain ⟨b2, c2, rfl⟩ := h5.sl
      refine ⟨fun h => absurd h (by simp [ev0, ev, evV, List.cons_append, List.nil_append, List.getD_cons_zero, List.getD_cons_succ, List.map_cons, List.map_nil, iOf, bOf, sOf, pOf, slLen, slBase, cmpI, arI, Value.ite_bool]), fun _ => ?_⟩
      refine ⟨fun vs H' => vs = [.bool true] ∧ PH.le H H', ?_, ?_⟩
      · rintro vs H' _ ⟨rfl, hl⟩
        exact ⟨rfl, hl⟩
      have hk0 : ([makeD l t] : List Dat)[0]? = some (makeD l t) := rfl
      obtain ⟨q1, _, ces, q2, q3⟩ := h5.get hk0
      have q2' := q2
      obtain ⟨dv, rfl, y1, y2, y3, y4⟩ := Dat.Rep_iff.1 q2
      obtain ⟨db, dc, rfl⟩ := y4.sl
      refine ⟨fun _ => ?_, fun _ => ?_, fun h => absurd h (by simp [ev0, ev, evV, List.cons_append, List.nil_append, List.getD_cons_zero, List.getD_cons_succ, List.map_cons, List.map_nil, iOf, bOf, sOf, pOf, slLen, slBase, cmpI, arI, Value.ite_bool])⟩
      · simp only [Chk.holds, ev0, ev, evV, List.cons_append, List.nil_append, List.getD_cons_zero, List.getD_cons_succ, List.map_cons, List.map_nil, iOf, bOf, sOf, pOf, slLen, slBase, cmpI, arI, Value.ite_bool, int_beq, int_bne, ite_band, ite_bor, List.length_cons, List.length_nil]; simp; exact q1
      refine ⟨[.int .i64 (makeD l t).kind, .int .i64 (makeD l t).int, txt (makeD l t).text, .slice db (makeD l t).list.length dc], rfl, ?_, ?_⟩
      · simp only [ev0, ev, evV, List.cons_append, List.nil_append, List.getD_cons_zero, List.getD_cons_succ, List.map_cons, List.map_nil, iOf, bOf, sOf, pOf, slLen, slBase, cmpI, arI, Value.ite_bool, int_beq, int_bne, ite_band, ite_bor]; exact q3
      refine den_call cb_data_Make (DMake_gives l t _ _ H5 (hl.le l05) (Dat.Rep.le l05 t ht') hcl.1 hcl.2) ?_
      rintro e H6 ⟨cs6, rfl, l6, r6⟩
      have t6 := r6.tags
      have r6' := r6
      obtain ⟨sv6, rfl, _⟩ := Dat.Rep_iff.1 r6
      refine ⟨_, _, rfl, t6, rfl, ?_, ?_⟩
      · intro x hx
        rw [List.mem_singleton.1 hx]
        have := rowAt_le l6 q3
        simp only [ev0, ev, evV, List.cons_append, List.nil_append, List.getD_cons_zero, List.getD_cons_succ, List.map_cons, List.map_nil, iOf, bOf, sOf, pOf, slLen, slBase, cmpI, arI, Value.ite_bool, int_beq, int_bne, ite_band, ite_bor]; exact this
      have he := Equal_gives (makeD l t) (makeD l t) _ _ H6 (Dat.Rep.le l6 _ q2') r6'
      rw [decide_eq_true rfl] at he
      exact den_gives [.bool true] cb_data_Equal he rfl pendNil fun H7 l7 => ⟨_, lookup_hit, rfl, PH.le_trans l05 (PH.le_trans l6 l7)⟩
    · rw [hr] at h5 ⊢
      simp only [Reads.list, Reads.err, Reads.at_] at h5 ⊢
      refine ⟨fun _ => ?_, fun h => absurd h (by simp [ev0, ev, evV, List.cons_append, List.nil_append, List.getD_cons_zero, List.getD_cons_succ, List.map_cons, List.map_nil, iOf, bOf, sOf, pOf, slLen, slBase, cmpI, arI, Value.ite_bool])⟩
      refine ⟨fun vs H' => vs = [.bool true] ∧ PH.le H H', ?_, ?_⟩
      · rintro vs H' _ ⟨rfl, hl⟩
        exact ⟨rfl, hl⟩
      have hck2 : ∀ (H' : PH) (v' : Value), SlR H' ([] ++ l ++ [t]) v' → Gives Tryz.prog n_data_Check [.agg #[.int .i64 7, .int .i64 0, txt [], v']] H' (.int .i64 21) := by
        intro H' v' hs'
        rw [List.nil_append] at hs'
        have := DCheckF_gives (.mk 7 0 [] (l ++ [t])) [.int .i64 7, .int .i64 0, txt [], v'] H' (Dat.Rep_iff.2 ⟨_, rfl, (show InI 7 from by decide), (show InI 0 from by decide), Nat.zero_le _, hs'⟩)
        rw [hck] at this
        exact this
      have tl1 : ∀ (K : PH) (q : Nat) (cs : List Value) (e : TypeId), PH.le H K → PV.RepRow H ([t].flatMap pv) cs → K q = some (.cells cs.toArray e (0, 0)) → SlR K [t] (.slice (some ⟨q, 0, none⟩) 1 1) := fun K q cs e hK hr hq => lit_slR (l := [t]) hq hK hr (by simp [maxLen])
      have nt : l.length + 1 ≤ 1000 := by omega
      refine ⟨?_, ?_⟩
      · refine den_lit0 (α := Dat) (b := 56) uDats elemDat fun v6 H6 a6 l6 => ?_
        have l06 := PH.le_trans l05 l6
        refine ⟨?_, ?_⟩
        · refine den_append (b := 56) uDats elemDat rfl rfl a6 ((hl.le l05).le a6.le) (by simp only [maxLen, List.length_nil]; omega) (by simp only [List.length_nil]; omega) fun v7 H7 a7 w7 => ⟨pendNil, ?_⟩
          refine den_litR (S := H) (l := [t]) (b := 56) [.agg #[.int .i64 t.kind, .int .i64 t.int, txt t.text, .slice tb t.list.length tc]] uDats elemDat rfl (by decide) (by decide) rfl (.cons ht' .nil) fun q cs8 hq hr8 => ?_
          have a8 := a7.mono (PH.le_upd (o := .cells cs8.toArray 34 (0, 0)) hq)
          have hd : ob v7 ≠ some q := fun e => a7.dwell e hq
          refine den_append (b := 56) uDats elemDat rfl rfl a8 (tl1 _ q cs8 34 (PH.le_trans l05 a8.le) hr8 (by show delV v7 _ q = _; rw [delV_at hd]; exact PH.upd_same)) (by simp only [maxLen, List.length_nil, List.length_append, List.length_cons]; omega) (by simp only [List.length_nil, List.length_append, List.length_cons]; omega) fun v9 H9 a9 w9 => ⟨pendNil, ?_⟩
          exact den_gives [.int .i64 21] cb_data_Check (hck2 H9 v9 a9.slR) rfl pendNil fun H10 l10 => ⟨_, lookup_hit, rfl, PH.le_trans l05 (PH.le_trans a9.all l10)⟩
        · refine den_litR (S := H) (l := [t]) (b := 56) [.agg #[.int .i64 t.kind, .int .i64 t.int, txt t.text, .slice tb t.list.length tc]] uDats elemDat rfl (by decide) (by decide) rfl (.cons ht' .nil) fun q cs7 hq hr7 => ?_
          have a7 := a6.mono (PH.le_upd (o := .cells cs7.toArray 34 (0, 0)) hq)
          have hd : ob v6 ≠ some q := fun e => a6.dwell e hq
          refine den_append (b := 56) uDats elemDat rfl rfl a7 ((hl.le l05).le a7.le) (by simp only [maxLen, List.length_nil]; omega) (by simp only [List.length_nil]; omega) fun v8 H8 a8 w8 => ⟨pendNil, ?_⟩
          have hq8 := w8.keep q _ PH.upd_same (fun e => hd e.symm)
          have hd8 : ob v8 ≠ some q := fun e => by
            rcases w8.fresh q e with h | h
            · exact hd h
            · rw [PH.upd_same] at h; cases h
          refine den_append (b := 56) uDats elemDat rfl rfl a8 (tl1 _ q cs7 34 (PH.le_trans l05 a8.le) hr7 (by show delV v8 _ q = _; rw [delV_at hd8]; exact hq8)) (by simp only [maxLen, List.length_nil, List.length_append, List.length_cons]; omega) (by simp only [List.length_nil, List.length_append, List.length_cons]; omega) fun v9 H9 a9 w9 => ⟨pendNil, ?_⟩
          exact den_gives [.int .i64 21] cb_data_Check (hck2 H9 v9 a9.slR) rfl pendNil fun H10 l10 => ⟨_, lookup_hit, rfl, PH.le_trans l05 (PH.le_trans a9.all l10)⟩
      · refine den_litR (S := H) (l := [t]) (b := 56) [.agg #[.int .i64 t.kind, .int .i64 t.int, txt t.text, .slice tb t.list.length tc]] uDats elemDat rfl (by decide) (by decide) rfl (.cons ht' .nil) fun q cs6 hq hr6 => ?_
        have l6 := PH.le_upd (o := .cells cs6.toArray 34 (0, 0)) hq
        refine den_lit0 (α := Dat) (b := 56) uDats elemDat fun v7 H7 a7 l7 => ?_
        have hq7 := a7.le q _ PH.upd_same
        have hd7 : ob v7 ≠ some q := fun e => by
          have h := hq7
          unfold delV at h
          rw [e] at h
          have h : (H7.del q) q = some (.cells cs6.toArray 34 (0, 0)) := h
          rw [PH.del_none] at h; cases h
        refine den_append (b := 56) uDats elemDat rfl rfl a7 ((hl.le (PH.le_trans l05 l6)).le a7.le) (by simp only [maxLen, List.length_nil]; omega) (by simp only [List.length_nil]; omega) fun v8 H8 a8 w8 => ⟨pendNil, ?_⟩
        refine den_append (b := 56) uDats elemDat rfl rfl a8 (tl1 _ q cs6 34 (PH.le_trans (PH.le_trans l05 l6) a8.le) hr6 (a8.le q _ PH.upd_same)) (by simp only [maxLen, List.length_nil, List.length_append, List.length_cons]; omega) (by simp only [List.length_nil, List.length_append, List.length_cons]; omega) fun v9 H9 a9 w9 => ⟨pendNil, ?_⟩
        exact den_gives [.int .i64 21] cb_data_Check (hck2 H9 v9 a9.slR) rfl pendNil fun H10 l10 => ⟨_, lookup_hit, rfl, PH.le_trans l05 (PH.le_trans l6 (PH.le_trans a9.all l10))⟩
theorem sumWt_len : ∀ l : List Dat, l.length ≤ sumWt Dat.wt l
  | [] => Nat.zero_le _
  | d :: l => by
    have h1 := Dat.wt_eq d
    have h2 := sumWt_len l
    simp only [sumWt, List.length_cons]; omega
open Go.ChangeShapes Go.WideShapes Go.ChangeAt Go.RowKit in
theorem arg_int {H : Type} {enc : TypeId × Value → H} {w : World} {v : Value} {d : DataW H} {p : List MemPlace} {r : Reach} {b : Nat} (hval : Value.okWide Tryz.prog w r b 3 v) (h : DataW.Trod enc Tryz.prog w 0 (fun _ => true) true 3 v d p) :
    ∃ n : Int, v = .int .i64 n ∧ InI n := by
  obtain ⟨n, rfl, rfl, rfl, hw⟩ := open_int (k := .i64) (by kernel_rfl) hval h
  refine ⟨n, rfl, ?_⟩
  simpa [Lit.wf, IntKind.min, IntKind.max, IntKind.bits, IntKind.signed, InI] using hw
end Go.Proofs.YtlnmmakbgldflaaGreatDoor.Vc

