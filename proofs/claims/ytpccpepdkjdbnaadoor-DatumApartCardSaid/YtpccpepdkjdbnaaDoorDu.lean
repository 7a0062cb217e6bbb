/-
  DATA that may be have the same text just if they are the same: the theorem; and the law, at the level of calls.
-/
import Derived.Test.YtpccpepdkjdbnaaDoorDt
set_option linter.unusedSimpArgs false
set_option linter.unusedVariables false
namespace Go.Proofs.YtpccpepdkjdbnaaDoor.Vc
open Go

/-- a number or a name: a word of name bytes, no dot; told apart by what it says -/
theorem word_text {d : Dat} (h : d.kind = 1 ∨ (d.kind = 4 ∧ nameOk d.text = true)) : ∃ c t, d.txtL false = c :: t ∧ nameB c = true ∧ (d.txtL false).all nameB = true ∧ d.txtL false ≠ [46] ∧ numB (d.txtL false) = decide (d.kind = 1) := by
  have key : (d.txtL false).all nameB = true ∧ d.txtL false ≠ [] ∧ d.txtL false ≠ [46] ∧ numB (d.txtL false) = decide (d.kind = 1) := by
    rw [Dat.txtL_eq]
    rcases h with h | ⟨h, hn⟩
    · have e0 : ¬ d.kind = 0 := by omega
      rw [if_neg e0, if_pos h]
      have hi := itoa_name d.int
      refine ⟨hi.1, hi.2, fun x => ?_, by rw [itoa_num]; simp [h]⟩
      have := itoa_num d.int
      rw [x] at this; revert this; decide
    · have e0 : ¬ d.kind = 0 := by omega
      have e1 : ¬ d.kind = 1 := by omega
      have e2 : ¬ d.kind = 2 := by omega
      have e3 : ¬ d.kind = 3 := by omega
      rw [if_neg e0, if_neg e1, if_neg e2, if_neg e3, if_pos h]
      obtain ⟨h1, h2, h3, h4⟩ := name_ne hn
      exact ⟨h2, h1, h3, by rw [h4]; simp [h]⟩
  obtain ⟨h1, h2, h3, h4⟩ := key
  cases hl : d.txtL false with
  | nil => exact absurd hl h2
  | cons c t =>
    rw [hl] at h1 h3 h4
    have h1' := h1
    simp only [List.all_cons, Bool.and_eq_true] at h1'
    exact ⟨c, t, rfl, h1'.1, h1, h3, h4⟩
def kcls (d : Dat) : Nat := if d.kind = 1 then 4 else if d.kind = 6 then 5 else d.kind.toNat
theorem cls_txt {d : Dat} (h : formOk d = true) (r : List UInt8) : cls (d.txtL false ++ r) = kcls d := by
  unfold kcls
  rcases form_cases h with h | h | h | h | h | h | h | h
  · obtain ⟨hk, hi, _⟩ := h
    rw [Dat.txtL_eq, if_pos hk, hk]
    rcases hi with hi | hi <;> rw [hi] <;> rfl
  · obtain ⟨c, t, h1, h2, _⟩ := word_text (.inl h.1)
    rw [h1, if_pos h.1]; exact cls_word h2
  · obtain ⟨hk, _⟩ := h
    rw [Dat.txtL_eq, hk]
    simp only [show ¬ (2 : Int) = 0 by omega, show ¬ (2 : Int) = 1 by omega, show ¬ (2 : Int) = 6 by omega, if_false, if_true, Bool.false_eq_true]
    obtain ⟨a, w, h1, _⟩ := char_parts (byteOf d.int)
    rw [h1]; rfl
  · obtain ⟨hk, _⟩ := h
    rw [Dat.txtL_eq, hk]; rfl
  · obtain ⟨c, t, h1, h2, _⟩ := word_text (.inr ⟨h.1, h.2.2.2⟩)
    rw [h1, h.1]; exact cls_word h2
  · obtain ⟨hk, _⟩ := h
    rw [Dat.txtL_eq, hk]; rfl
  · obtain ⟨hk, _⟩ := h
    rw [Dat.txtL_eq, hk]; rfl
  · obtain ⟨hk, _⟩ := h
    rw [Dat.txtL_eq, hk]; rfl
theorem txt_head {d : Dat} (h : formOk d = true) : ∃ c t, d.txtL false = c :: t ∧ c ≠ 41 ∧ c ≠ 32 := by
  rcases form_cases h with h | h | h | h | h | h | h | h
  · obtain ⟨hk, hi, _⟩ := h
    rw [Dat.txtL_eq, if_pos hk]
    rcases hi with hi | hi <;> rw [hi] <;> exact ⟨_, _, rfl, by decide, by decide⟩
  · obtain ⟨c, t, h1, h2, _⟩ := word_text (.inl h.1)
    exact ⟨c, t, h1, (by rintro rfl; revert h2; decide), (by rintro rfl; revert h2; decide)⟩
  · obtain ⟨hk, _⟩ := h
    rw [Dat.txtL_eq, hk]
    obtain ⟨a, w, h1, _⟩ := char_parts (byteOf d.int)
    exact ⟨35, 92 :: a :: w, h1, by decide, by decide⟩
  · obtain ⟨hk, _⟩ := h
    rw [Dat.txtL_eq, hk]; exact ⟨34, _, rfl, by decide, by decide⟩
  · obtain ⟨c, t, h1, h2, _⟩ := word_text (.inr ⟨h.1, h.2.2.2⟩)
    exact ⟨c, t, h1, (by rintro rfl; revert h2; decide), (by rintro rfl; revert h2; decide)⟩
  · obtain ⟨hk, _⟩ := h
    rw [Dat.txtL_eq, hk]; exact ⟨40, _, rfl, by decide, by decide⟩
  · obtain ⟨hk, _⟩ := h
    rw [Dat.txtL_eq, hk]; exact ⟨40, _, rfl, by decide, by decide⟩
  · obtain ⟨hk, _⟩ := h
    rw [Dat.txtL_eq, hk]; exact ⟨35, _, rfl, by decide, by decide⟩
theorem no_dot {d : Dat} (h : formOk d = true) {r x : List UInt8} (hr : Delim r) : d.txtL false ++ r ≠ 46 :: 32 :: x := by
  intro e
  have hc := cls_txt h r
  rw [e] at hc
  have hc : 4 = kcls d := hc
  have hk : d.kind = 1 ∨ (d.kind = 4 ∧ nameOk d.text = true) := by
    rcases form_cases h with h | h | h | h | h | h | h | h
    · exfalso; rw [kcls, h.1] at hc; revert hc; decide
    · exact .inl h.1
    · exfalso; rw [kcls, h.1] at hc; revert hc; decide
    · exfalso; rw [kcls, h.1] at hc; revert hc; decide
    · exact .inr ⟨h.1, h.2.2.2⟩
    · exfalso; rw [kcls, h.1] at hc; revert hc; decide
    · exfalso; rw [kcls, h.1] at hc; revert hc; decide
    · exfalso; rw [kcls, h.1] at hc; revert hc; decide
  obtain ⟨c, t, h1, h2, h3, h4, _⟩ := word_text hk
  have := word_split (v := [46]) (s := 32 :: x) h3 (by decide) hr.noName (fun c t h => by cases h; decide) e
  exact h4 this.1

def InjAt (a : Dat) : Prop := ∀ (b : Dat) (r s : List UInt8), a.Good → b.Good → Delim r → Delim s → a.txtL false ++ r = b.txtL false ++ s → a = b ∧ r = s
theorem delim_rest (p : Bool) (l : List Dat) (r : List UInt8) : Delim (Dats.txtL false p false l ++ 41 :: r) := by
  cases l with
  | nil => exact .inr ⟨41, r, by simp [Dats.txtL], .inr rfl⟩
  | cons d l =>
    refine .inr ⟨32, (if (p && l.isEmpty) = true then [46, 32] else []) ++ Dat.txtL false d ++ Dats.txtL false p false l ++ 41 :: r, ?_, .inl rfl⟩
    simp only [Dats.txtL, Bool.false_eq_true, if_false, List.cons_append, List.nil_append, List.append_assoc]
theorem body_inj : ∀ (l m : List Dat) (first p q : Bool) (r s : List UInt8), (∀ e ∈ l, InjAt e) → (∀ e ∈ l, e.Good) → (∀ e ∈ m, e.Good) → Dats.txtL false p first l ++ 41 :: r = Dats.txtL false q first m ++ 41 :: s → l = m ∧ r = s ∧ (l ≠ [] → p = q)
  | [], [], _, _, _, r, s, _, _, _, h => by
    simp only [Dats.txtL, List.nil_append, List.cons.injEq, true_and] at h
    exact ⟨rfl, h, fun x => absurd rfl x⟩
  | [], e :: m, first, p, q, r, s, _, _, hm, h => by
    exfalso
    obtain ⟨c, t, h1, h2, h3⟩ := txt_head (hm e (List.mem_cons_self ..)).form
    simp only [Dats.txtL, List.nil_append, h1] at h
    cases first <;> cases hq : (q && m.isEmpty) <;> simp [hq] at h
    exact h2 h.1.symm
  | d :: l, [], first, p, q, r, s, _, hl, _, h => by
    exfalso
    obtain ⟨c, t, h1, h2, h3⟩ := txt_head (hl d (List.mem_cons_self ..)).form
    simp only [Dats.txtL, List.nil_append, h1] at h
    cases first <;> cases hp : (p && l.isEmpty) <;> simp [hp] at h
    exact h2 h.1
  | d :: l, e :: m, first, p, q, r, s, hi, hl, hm, h => by
    have hd := hl d (List.mem_cons_self ..)
    have he := hm e (List.mem_cons_self ..)
    simp only [Dats.txtL, List.append_assoc] at h
    have h := List.append_cancel_left h
    have dr := delim_rest p l r
    have ds := delim_rest q m s
    have hpq : (p && l.isEmpty) = (q && m.isEmpty) := by
      cases hp : (p && l.isEmpty) <;> cases hq : (q && m.isEmpty)
      · rfl
      · exfalso
        rw [hp, hq] at h
        simp only [Bool.false_eq_true, if_false, if_true, List.nil_append, List.cons_append] at h
        exact no_dot hd.form dr h
      · exfalso
        rw [hp, hq] at h
        simp only [Bool.false_eq_true, if_false, if_true, List.nil_append, List.cons_append] at h
        exact no_dot he.form ds h.symm
      · rfl
    rw [hpq] at h
    have h := List.append_cancel_left h
    obtain ⟨rfl, h2⟩ := hi d (List.mem_cons_self ..) e _ _ hd he dr ds h
    obtain ⟨rfl, rfl, h4⟩ := body_inj l m false p q r s (fun x hx => hi x (List.mem_cons_of_mem _ hx)) (fun x hx => hl x (List.mem_cons_of_mem _ hx)) (fun x hx => hm x (List.mem_cons_of_mem _ hx)) h2
    refine ⟨rfl, rfl, fun _ => ?_⟩
    cases l with
    | nil => simpa using hpq
    | cons x l => exact h4 (by simp)
theorem byteOf_inj {m n : Int} (h1 : 0 ≤ m) (h2 : m ≤ 255) (h3 : 0 ≤ n) (h4 : n ≤ 255) (h : byteOf m = byteOf n) : m = n := by
  have a := byteOf_eq m
  have b := byteOf_eq n
  rw [wu8 h1 h2] at a
  rw [wu8 h3 h4] at b
  rw [a, b, h]
theorem txt_inj : ∀ a, InjAt a := by
  refine Dat.ind ?_
  intro a ih b r s ha hb hr hs h
  have fa := ha.form
  have fb := hb.form
  have hc : kcls a = kcls b := by rw [← cls_txt fa r, ← cls_txt fb s, h]
  have body : ∀ (t u : List UInt8), a.txtL false = t ++ Dats.txtL false (decide (a.kind = 6)) true a.list ++ [41] → b.txtL false = t ++ Dats.txtL false (decide (b.kind = 6)) true b.list ++ [41] →
      a.list = b.list ∧ r = s ∧ (a.list ≠ [] → decide (a.kind = 6) = decide (b.kind = 6)) := by
    intro t u e1 e2
    rw [e1, e2] at h
    simp only [List.append_assoc, List.cons_append, List.nil_append] at h
    exact body_inj a.list b.list true _ _ r s ih ha.kids hb.kids (List.append_cancel_left h)
  have word : (a.kind = 1 ∨ (a.kind = 4 ∧ nameOk a.text = true)) → (b.kind = 1 ∨ (b.kind = 4 ∧ nameOk b.text = true)) → a.txtL false = b.txtL false ∧ r = s ∧ a.kind = b.kind := by
    intro x y
    obtain ⟨_, _, _, _, h1, _, h2⟩ := word_text x
    obtain ⟨_, _, _, _, h3, _, h4⟩ := word_text y
    obtain ⟨h5, h6⟩ := word_split h1 h3 hr.noName hs.noName h
    refine ⟨h5, h6, ?_⟩
    rw [h5, h4] at h2
    have := decide_eq_decide.1 h2
    omega
  rcases form_cases fa with h1 | h1 | h1 | h1 | h1 | h1 | h1 | h1 <;> rcases form_cases fb with h2 | h2 | h2 | h2 | h2 | h2 | h2 | h2 <;>
    first
    | (exfalso; rw [kcls, kcls, h1.1, h2.1] at hc; revert hc; decide)
    | skip
  · obtain ⟨k1, i1, t1, l1⟩ := h1
    obtain ⟨k2, i2, t2, l2⟩ := h2
    rw [Dat.txtL_eq, Dat.txtL_eq, if_pos k1, if_pos k2] at h
    rcases i1 with i1 | i1 <;> rcases i2 with i2 | i2 <;> simp [i1, i2] at h
    · exact ⟨Dat.eq_iff.2 ⟨by omega, by omega, by rw [t1, t2], by rw [l1, l2]⟩, h⟩
    · exact ⟨Dat.eq_iff.2 ⟨by omega, by omega, by rw [t1, t2], by rw [l1, l2]⟩, h⟩
  · obtain ⟨h3, h4, _⟩ := word (.inl h1.1) (.inl h2.1)
    rw [Dat.txtL_eq, Dat.txtL_eq, h1.1, h2.1] at h3
    exact ⟨Dat.eq_iff.2 ⟨by rw [h1.1, h2.1], itoa_inj h3, by rw [h1.2.1, h2.2.1], by rw [h1.2.2, h2.2.2]⟩, h4⟩
  · have := (word (.inl h1.1) (.inr ⟨h2.1, h2.2.2.2⟩)).2.2
    omega
  · obtain ⟨k1, i1, j1, t1, l1⟩ := h1
    obtain ⟨k2, i2, j2, t2, l2⟩ := h2
    rw [Dat.txtL_eq, Dat.txtL_eq, k1, k2] at h
    obtain ⟨h3, h4⟩ := char_split hr hs h
    exact ⟨Dat.eq_iff.2 ⟨by omega, byteOf_inj i1 j1 i2 j2 h3, by rw [t1, t2], by rw [l1, l2]⟩, h4⟩
  · obtain ⟨k1, i1, l1⟩ := h1
    obtain ⟨k2, i2, l2⟩ := h2
    rw [Dat.txtL_eq, Dat.txtL_eq, k1, k2] at h
    have h' : quotedL a.text ++ r = quotedL b.text ++ s := h
    simp only [quotedL, List.append_assoc, List.cons_append, List.nil_append, List.cons.injEq, true_and] at h'
    obtain ⟨h3, h4⟩ := quoted_split h'
    exact ⟨Dat.eq_iff.2 ⟨by omega, by omega, h3, by rw [l1, l2]⟩, h4⟩
  · have := (word (.inr ⟨h1.1, h1.2.2.2⟩) (.inl h2.1)).2.2
    omega
  · obtain ⟨h3, h4, _⟩ := word (.inr ⟨h1.1, h1.2.2.2⟩) (.inr ⟨h2.1, h2.2.2.2⟩)
    rw [Dat.txtL_eq, Dat.txtL_eq, h1.1, h2.1] at h3
    exact ⟨Dat.eq_iff.2 ⟨by rw [h1.1, h2.1], by rw [h1.2.1, h2.2.1], h3, by rw [h1.2.2.1, h2.2.2.1]⟩, h4⟩
  · obtain ⟨h3, h4, _⟩ := body [40] [] (by rw [Dat.txtL_eq, h1.1]; rfl) (by rw [Dat.txtL_eq, h2.1]; rfl)
    exact ⟨Dat.eq_iff.2 ⟨by rw [h1.1, h2.1], by rw [h1.2.1, h2.2.1], by rw [h1.2.2, h2.2.2], h3⟩, h4⟩
  · exfalso
    obtain ⟨h3, h4, h5⟩ := body [40] [] (by rw [Dat.txtL_eq, h1.1]; rfl) (by rw [Dat.txtL_eq, h2.1]; rfl)
    have hne : a.list ≠ [] := fun x => by
      have := h2.2.2.2
      rw [← h3, x] at this; simp at this
    have := decide_eq_decide.1 (h5 hne)
    omega
  · exfalso
    obtain ⟨h3, h4, h5⟩ := body [40] [] (by rw [Dat.txtL_eq, h1.1]; rfl) (by rw [Dat.txtL_eq, h2.1]; rfl)
    have hne : a.list ≠ [] := fun x => by
      have := h1.2.2.2
      rw [x] at this; simp at this
    have := decide_eq_decide.1 (h5 hne)
    omega
  · obtain ⟨h3, h4, _⟩ := body [40] [] (by rw [Dat.txtL_eq, h1.1]; rfl) (by rw [Dat.txtL_eq, h2.1]; rfl)
    exact ⟨Dat.eq_iff.2 ⟨by rw [h1.1, h2.1], by rw [h1.2.1, h2.2.1], by rw [h1.2.2.1, h2.2.2.1], h3⟩, h4⟩
  · obtain ⟨h3, h4, _⟩ := body [35, 40] [] (by rw [Dat.txtL_eq, h1.1]; rfl) (by rw [Dat.txtL_eq, h2.1]; rfl)
    exact ⟨Dat.eq_iff.2 ⟨by rw [h1.1, h2.1], by rw [h1.2.1, h2.2.1], by rw [h1.2.2, h2.2.2], h3⟩, h4⟩
theorem txt_apart {a b : Dat} (ha : (a.chk 0 0).2 = 0) (hb : (b.chk 0 0).2 = 0) : decide (a.txtL false = b.txtL false) = decide (a = b) := by
  rw [decide_eq_decide]
  refine ⟨fun h => ?_, fun h => by rw [h]⟩
  exact (txt_inj a b [] [] ⟨0, 0, by omega, ha⟩ ⟨0, 0, by omega, hb⟩ (.inl rfl) (.inl rfl) (by rw [List.append_nil, List.append_nil]; exact h)).1

theorem DatumApart_gives (a b : Dat) (ca cb : List Value) (H : PH) (ht : Tab H) (ha : a.Rep H ca) (hb : b.Rep H cb) : Gives Tryd.prog n_scrimshawlaw02_DatumApart [.agg ca.toArray, .agg cb.toArray] H (.bool true) := by
  have c1 := fun H' (hl : PH.le H H') => DText_gives a ca H' (Dat.Rep.le hl a ha) (ht.le hl)
  have c2 := fun H' (hl : PH.le H H') => DText_gives b cb H' (Dat.Rep.le hl b hb) (ht.le hl)
  have c3 := fun H' (hl : PH.le H H') => DCheckF_gives a ca H' (Dat.Rep.le hl a ha)
  have c4 := fun H' (hl : PH.le H H') => DCheckF_gives b cb H' (Dat.Rep.le hl b hb)
  have c5 := fun H' (hl : PH.le H H') => Equal_gives a b ca cb H' (Dat.Rep.le hl a ha) (Dat.Rep.le hl b hb)
  obtain ⟨s1, rfl, _, _, _, hs1⟩ := Dat.Rep_iff.1 ha
  obtain ⟨s2, rfl, _, _, _, hs2⟩ := Dat.Rep_iff.1 hb
  obtain ⟨b1, k1, rfl⟩ := hs1.sl
  obtain ⟨b2, k2, rfl⟩ := hs2.sl
  refine tri_scrimshawlaw02_DatumApart [.int .i64 a.kind, .int .i64 a.int, txt a.text, .slice b1 a.list.length k1, .int .i64 b.kind, .int .i64 b.int, txt b.text, .slice b2 b.list.length k2] (by kernel_rfl) (by kernel_rfl) ?_
  refine den_gives [txt (a.textL false), .int .i64 (a.chk 0 0).2] cb_data_Text (c1 H (PH.le_refl H)) rfl pendNil fun H1 l1 => ?_
  refine den_gives [txt (b.textL false), .int .i64 (b.chk 0 0).2] cb_data_Text (c2 H1 l1) rfl pendNil fun H2 l2 => ?_
  have l12 := PH.le_trans l1 l2
  refine ⟨fun vs H' => vs = [.bool false] ∧ PH.le H H', ?_, ?_⟩
  · rintro vs H3 _ ⟨rfl, l3⟩
    refine ⟨fun h => absurd h (by simp [ev0, ev, evV, List.cons_append, List.nil_append, List.getD_cons_zero, List.getD_cons_succ, List.map_cons, List.map_nil, iOf, bOf, sOf, pOf, slLen, slBase, cmpI, arI, Value.ite_bool]), fun _ => ⟨fun vs H' => vs = [.bool true] ∧ PH.le H H', ?_, ?_⟩⟩
    · rintro vs H' _ ⟨rfl, h⟩; exact ⟨rfl, h⟩
    refine ⟨fun _ => ⟨_, lookup_hit, rfl, l3⟩, fun h => ?_⟩
    simp only [ev0, ev, evV, List.cons_append, List.nil_append, List.getD_cons_zero, List.getD_cons_succ, List.map_cons, List.map_nil, iOf, bOf, sOf, pOf, slLen, slBase, cmpI, arI, Value.ite_bool, int_beq, int_bne, ite_band, ite_bor] at h
    simp only [Bool.or_eq_false_iff, decide_eq_false_iff_not, ne_eq, Decidable.not_not] at h
    refine den_gives [.bool (decide (a = b))] cb_data_Equal (c5 H3 l3) rfl pendNil fun H4 l4 => ⟨_, lookup_hit, ?_, PH.le_trans l3 l4⟩
    have e1 : a.textL false = a.txtL false := by rw [Dat.textL, if_pos h.1]
    have e2 : b.textL false = b.txtL false := by rw [Dat.textL, if_pos h.2]
    simp only [ev0, ev, evV, List.cons_append, List.nil_append, List.getD_cons_zero, List.getD_cons_succ, List.map_cons, List.map_nil, iOf, bOf, sOf, pOf, slLen, slBase, cmpI, arI, Value.ite_bool, txt_eql, e1, e2, txt_apart h.1 h.2]; simp
  · refine den_gives [.bool true] cb_scrimshawlaw02_fixed (fixed_gives H2 (ht.le l12)) rfl pendNil fun H3 l3 => ⟨fun h => absurd h (by simp [ev0, ev, evV, List.cons_append, List.nil_append, List.getD_cons_zero, List.getD_cons_succ, List.map_cons, List.map_nil, iOf, bOf, sOf, pOf, slLen, slBase, cmpI, arI, Value.ite_bool]), fun _ => ?_⟩
    have l13 := PH.le_trans l12 l3
    refine den_gives [.int .i64 (a.chk 0 0).2] cb_data_Check (c3 H3 l13) rfl pendNil fun H4 l4 => ⟨fun h => absurd h (by simp [ev0, ev, evV, List.cons_append, List.nil_append, List.getD_cons_zero, List.getD_cons_succ, List.map_cons, List.map_nil, iOf, bOf, sOf, pOf, slLen, slBase, cmpI, arI, Value.ite_bool]), fun _ => ?_⟩
    have l14 := PH.le_trans l13 l4
    refine den_gives [.int .i64 (b.chk 0 0).2] cb_data_Check (c4 H4 l14) rfl pendNil fun H5 l5 => ⟨_, lookup_hit, by simp [ev0, ev, evV, List.cons_append, List.nil_append, List.getD_cons_zero, List.getD_cons_succ, List.map_cons, List.map_nil, iOf, bOf, sOf, pOf, slLen, slBase, cmpI, arI, Value.ite_bool], PH.le_trans l14 l5⟩
end Go.Proofs.YtpccpepdkjdbnaaDoor.Vc
