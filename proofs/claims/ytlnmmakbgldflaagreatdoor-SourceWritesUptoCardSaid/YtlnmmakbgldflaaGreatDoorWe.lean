/-
  PLAIN VALUES, and that a place in memory holds them: whatever is only read. A row that grows, of plain values. No program in sight.
-/
import Derived.Test.YtlnmmakbgldflaaGreatDoorWd
set_option linter.unusedSimpArgs false
set_option linter.unusedVariables false
set_option maxRecDepth 100000
namespace Go.Proofs.YtlnmmakbgldflaaGreatDoor.Vc
open Go

/-- the text of these bytes -/
abbrev txt (l : List UInt8) : Value := .string ⟨l.toArray⟩
theorem txt_size (l : List UInt8) : (⟨l.toArray⟩ : ByteArray).size = l.length := by simp [ByteArray.size]
inductive PV where
  | int (k : IntKind) (n : Int)
  | bool (b : Bool)
  | str (l : List UInt8)
  | sl (rows : List (List PV))

mutual
/-- this value is that plain one -/
def PV.Rep (H : PH) : PV → Value → Prop
  | .int k n, v => v = .int k n ∧ k.min ≤ n ∧ n ≤ k.max
  | .bool b, v => v = .bool b
  | .str l, v => v = txt l ∧ l.length ≤ maxLen
  | .sl rows, v => rows.length ≤ maxLen ∧ ((v = .slice none 0 0 ∧ rows = []) ∨ ∃ a c, v = .slice (some a) rows.length c ∧ rows.length ≤ c ∧ c ≤ maxLen ∧ PV.RepRows H rows a)
/-- the cells from there on are these rows -/
def PV.RepRows (H : PH) : List (List PV) → Addr → Prop
  | [], _ => True
  | row :: rows, a => (∃ cs, PV.RepRow H row cs ∧ ∀ i v, cs[i]? = some v → H.cell? (a.add i) = some v) ∧ PV.RepRows H rows (a.add row.length)
/-- these values are that row -/
def PV.RepRow (H : PH) : List PV → List Value → Prop
  | [], cs => cs = []
  | p :: ps, cs => ∃ v vs, cs = v :: vs ∧ PV.Rep H p v ∧ PV.RepRow H ps vs
end

def PV.tag : PV → Tag
  | .int k _ => .int k
  | .bool _ => .bool
  | .str _ => .str
  | .sl _ => .sl

mutual
theorem PV.Rep.le {H H' : PH} (h : PH.le H H') : ∀ {p : PV} {v : Value}, p.Rep H v → p.Rep H' v
  | .int _ _, v, hp => by simp only [PV.Rep] at hp ⊢; exact hp
  | .bool _, v, hp => by simp only [PV.Rep] at hp ⊢; exact hp
  | .str _, v, hp => by simp only [PV.Rep] at hp ⊢; exact hp
  | .sl rows, v, hp => by
    simp only [PV.Rep] at hp ⊢
    refine ⟨hp.1, ?_⟩
    rcases hp.2 with hp | ⟨a, c, h1, h2, h3, h4⟩
    · exact .inl hp
    · exact .inr ⟨a, c, h1, h2, h3, PV.RepRows.le h h4⟩
theorem PV.RepRows.le {H H' : PH} (h : PH.le H H') : ∀ {rows : List (List PV)} {a : Addr}, PV.RepRows H rows a → PV.RepRows H' rows a
  | [], _, _ => by simp only [PV.RepRows]
  | row :: rows, a, hp => by
    simp only [PV.RepRows] at hp ⊢
    obtain ⟨⟨cs, h1, h2⟩, h3⟩ := hp
    exact ⟨⟨cs, PV.RepRow.le h h1, fun i v hi => PH.cell_le h (h2 i v hi)⟩, PV.RepRows.le h h3⟩
theorem PV.RepRow.le {H H' : PH} (h : PH.le H H') : ∀ {row : List PV} {cs : List Value}, PV.RepRow H row cs → PV.RepRow H' row cs
  | [], cs, hp => by simp only [PV.RepRow] at hp ⊢; exact hp
  | p :: ps, cs, hp => by
    simp only [PV.RepRow] at hp ⊢
    obtain ⟨v, vs, h1, h2, h3⟩ := hp
    exact ⟨v, vs, h1, PV.Rep.le h h2, PV.RepRow.le h h3⟩
end
theorem PV.RepRow.length {H : PH} : ∀ {row : List PV} {cs : List Value}, PV.RepRow H row cs → cs.length = row.length
  | [], cs, hp => by simp only [PV.RepRow] at hp; simp [hp]
  | p :: ps, cs, hp => by
    simp only [PV.RepRow] at hp
    obtain ⟨v, vs, rfl, _, h3⟩ := hp
    simp [PV.RepRow.length h3]
theorem PV.Rep.tag {H : PH} {p : PV} {v : Value} (h : p.Rep H v) : p.tag.ok v = true := by
  cases p with
  | sl rows =>
    simp only [PV.Rep] at h
    rcases h.2 with ⟨rfl, _⟩ | ⟨a, c, rfl, _⟩ <;> rfl
  | int k n => simp only [PV.Rep] at h; rw [h.1]; simp [PV.tag, Tag.ok]
  | bool b => simp only [PV.Rep] at h; rw [h]; rfl
  | str l => simp only [PV.Rep] at h; rw [h.1]; rfl
theorem PV.RepRow.tags {H : PH} : ∀ {row : List PV} {cs : List Value}, PV.RepRow H row cs → tagsOk (row.map PV.tag) cs = true
  | [], cs, hp => by simp only [PV.RepRow] at hp; subst hp; rfl
  | p :: ps, cs, hp => by
    simp only [PV.RepRow] at hp
    obtain ⟨v, vs, rfl, h2, h3⟩ := hp
    simp only [List.map_cons, tagsOk, h2.tag, PV.RepRow.tags h3, Bool.and_self]
theorem PV.RepRow.append {H : PH} : ∀ {row : List PV} {cs : List Value} {row' : List PV} {cs' : List Value}, PV.RepRow H row cs → PV.RepRow H row' cs' → PV.RepRow H (row ++ row') (cs ++ cs')
  | [], cs, row', cs', h1, h2 => by simp only [PV.RepRow] at h1; subst h1; exact h2
  | p :: ps, cs, row', cs', h1, h2 => by
    simp only [PV.RepRow, List.cons_append] at h1 ⊢
    obtain ⟨v, vs, rfl, h3, h4⟩ := h1
    exact ⟨v, vs ++ cs', rfl, h3, PV.RepRow.append h4 h2⟩
theorem PV.RepRow.split {H : PH} : ∀ {row row' : List PV} {cs : List Value}, PV.RepRow H (row ++ row') cs → PV.RepRow H row (cs.take row.length) ∧ PV.RepRow H row' (cs.drop row.length)
  | [], row', cs, h => by simp only [PV.RepRow, List.nil_append] at h ⊢; simpa using h
  | p :: ps, row', cs, h => by
    simp only [PV.RepRow, List.cons_append] at h ⊢
    obtain ⟨v, vs, rfl, h3, h4⟩ := h
    have := PV.RepRow.split h4
    exact ⟨⟨v, vs.take ps.length, by simp, h3, this.1⟩, by simpa using this.2⟩

/-! ### a kind of plain things -/
class Enc (α : Type) where
  pv : α → List PV
  sz : Nat
  len : ∀ a, (pv a).length = sz
abbrev pv {α : Type} [Enc α] : α → List PV := Enc.pv
abbrev sz (α : Type) [Enc α] : Nat := Enc.sz α
instance encInt : Enc Int := ⟨fun n => [.int .i64 n], 1, fun _ => rfl⟩
instance encByte : Enc UInt8 := ⟨fun c => [.int .u8 (c.toNat : Int)], 1, fun _ => rfl⟩
instance encBool : Enc Bool := ⟨fun b => [.bool b], 1, fun _ => rfl⟩
instance encTxt : Enc (List UInt8) := ⟨fun l => [.str l], 1, fun _ => rfl⟩
/-- a row of things -/
abbrev slp {α : Type} [Enc α] (l : List α) : PV := .sl (l.map pv)
/-- the slice holds these things -/
def SlR {α : Type} [Enc α] (H : PH) (l : List α) (v : Value) : Prop := (slp l).Rep H v
/-- these cells are the thing -/
def CsR {α : Type} [Enc α] (H : PH) (a : α) (cs : List Value) : Prop := PV.RepRow H (pv a) cs

theorem Addr.add_add (a : Addr) (i j : Nat) : (a.add i).add j = a.add (i + j) := by
  obtain ⟨b, o, s⟩ := a
  unfold Addr.add
  by_cases h1 : i = 0 <;> by_cases h2 : j = 0 <;> simp_all [Nat.add_assoc]
theorem Addr.add_zero (a : Addr) : a.add 0 = a := by simp [Addr.add]
theorem rowAt_sub {H : PH} {p : Option Addr} {cs : List Value} (h : rowAt H p cs) (off n : Nat) : rowAt H (p.map (·.add off)) ((cs.drop off).take n) := by
  obtain ⟨a, rfl, h⟩ := h
  refine ⟨a.add off, rfl, fun i v hi => ?_⟩
  rw [List.getElem?_take] at hi
  split at hi
  · rw [List.getElem?_drop] at hi
    have := h (off + i) v hi
    rw [Addr.add_add]; exact this
  · cases hi

section
variable {α : Type} [Enc α] {H H' : PH} {l : List α} {v : Value}
theorem SlR.le (h : PH.le H H') (hs : SlR H l v) : SlR H' l v := PV.Rep.le h hs
theorem CsR.le {a : α} {cs : List Value} (h : PH.le H H') (hs : CsR H a cs) : CsR H' a cs := PV.RepRow.le h hs
theorem SlR.mk_iff : SlR H l v ↔ l.length ≤ maxLen ∧ ((v = .slice none 0 0 ∧ l = []) ∨ ∃ a c, v = .slice (some a) l.length c ∧ l.length ≤ c ∧ c ≤ maxLen ∧ PV.RepRows H (l.map pv) a) := by
  unfold SlR slp
  simp only [PV.Rep, List.length_map, List.map_eq_nil_iff]
theorem SlR.max (h : SlR H l v) : l.length ≤ maxLen := (SlR.mk_iff.1 h).1
theorem SlR.sl (h : SlR H l v) : ∃ b c, v = .slice b l.length c := by
  rcases (SlR.mk_iff.1 h).2 with ⟨rfl, rfl⟩ | ⟨a, c, rfl, _⟩ <;> exact ⟨_, _, rfl⟩
theorem SlR.len (h : SlR H l v) : slLen v = l.length := by
  obtain ⟨b, c, rfl⟩ := h.sl; rfl
theorem RepRows.get : ∀ {l : List α} {p : Addr} {i : Nat} {a : α}, PV.RepRows H (l.map pv) p → l[i]? = some a → ∃ cs, CsR H a cs ∧ ∀ j v, cs[j]? = some v → H.cell? ((p.add (i * sz α)).add j) = some v
  | [], _, _, _, _, h => by simp at h
  | d :: l, p, 0, e, hd, h => by
    simp only [List.map_cons, PV.RepRows] at hd
    simp only [List.getElem?_cons_zero, Option.some.injEq] at h
    subst h
    obtain ⟨cs, h1, h2⟩ := hd.1
    exact ⟨cs, h1, by simpa [Addr.add_zero] using h2⟩
  | d :: l, p, i + 1, e, hd, h => by
    simp only [List.map_cons, PV.RepRows, Enc.len] at hd
    simp only [List.getElem?_cons_succ] at h
    obtain ⟨cs, h1, h2⟩ := RepRows.get hd.2 h
    refine ⟨cs, h1, fun j v hj => ?_⟩
    have := h2 j v hj
    rw [Addr.add_add p] at this
    rwa [show Enc.sz α + i * sz α = (i + 1) * sz α by rw [Nat.add_mul]; simp only [sz]; omega] at this
/-- the cells of element i -/
theorem SlR.get (h : SlR H l v) {i : Nat} {a : α} (hi : l[i]? = some a) :
    (slBase v).isSome = true ∧ (pOf (eltV v (i : Int) (sz α))).isSome = true ∧ ∃ cs, CsR H a cs ∧ rowAt H (pOf (eltV v (i : Int) (sz α))) cs := by
  rcases (SlR.mk_iff.1 h).2 with ⟨rfl, rfl⟩ | ⟨p, c, rfl, h1, h2, h3⟩
  · simp at hi
  · obtain ⟨cs, h4, h5⟩ := RepRows.get h3 hi
    refine ⟨rfl, rfl, cs, h4, ⟨p.add (i * sz α), ?_, fun j v hj => h5 j v hj⟩⟩
    simp [eltV, pOf, slBase]
theorem RepRows.drop : ∀ {l : List α} {p : Addr} (i : Nat), PV.RepRows H (l.map pv) p → PV.RepRows H ((l.drop i).map pv) (p.add (i * sz α))
  | [], _, _, _ => by simp [PV.RepRows]
  | d :: l, p, 0, hd => by simpa [Addr.add_zero] using hd
  | d :: l, p, i + 1, hd => by
    simp only [List.map_cons, PV.RepRows, Enc.len] at hd
    have := RepRows.drop i hd.2
    rw [List.drop_succ_cons]
    rw [Addr.add_add] at this
    rwa [show Enc.sz α + i * sz α = (i + 1) * sz α by rw [Nat.add_mul]; simp only [sz]; omega] at this
theorem RepRows.take : ∀ {l : List α} {p : Addr} (i : Nat), PV.RepRows H (l.map pv) p → PV.RepRows H ((l.take i).map pv) p
  | [], _, _, _ => by simp [PV.RepRows]
  | d :: l, p, 0, hd => by simp [PV.RepRows]
  | d :: l, p, i + 1, hd => by
    simp only [List.take_succ_cons, List.map_cons, PV.RepRows] at hd ⊢
    exact ⟨hd.1, RepRows.take i hd.2⟩
/-- a piece of it -/
theorem SlR.cut (h : SlR H l v) {a b : Nat} (hab : a ≤ b) (hb : b ≤ l.length) : SlR H ((l.take b).drop a) (slsV v a b (sz α)) := by
  rw [SlR.mk_iff]
  have hl := h.max
  have e : ((l.take b).drop a).length = b - a := by simp; omega
  refine ⟨by omega, ?_⟩
  rcases (SlR.mk_iff.1 h).2 with ⟨rfl, rfl⟩ | ⟨p, c, rfl, h1, h2, h3⟩
  · simp at hb; subst hb
    have : a = 0 := by omega
    subst this
    exact .inl ⟨rfl, by simp⟩
  · right
    have hv : slsV (.slice (some p) l.length c) a b (sz α) = .slice (some (if c = a then p else p.add (a * sz α))) (b - a) (c - a) := by
      by_cases hc : c = a
      · subst hc; simp [slsV, slBase, slCap]
      · have : ¬ c = (a : Int).toNat := by simpa using hc
        simp [slsV, slBase, slCap, hc]
    rw [hv, e]
    by_cases hc : c = a
    · rw [if_pos hc]
      have : b = a := by omega
      subst this
      refine ⟨p, c - b, rfl, by omega, by omega, ?_⟩
      have : (l.take b).drop b = [] := by simp
      rw [this]; simp [PV.RepRows]
    · rw [if_neg hc]
      refine ⟨p.add (a * sz α), c - a, rfl, by omega, by omega, ?_⟩
      exact RepRows.drop a (RepRows.take b h3)
theorem RepRows.cells : ∀ {l : List α} {p : Addr}, PV.RepRows H (l.map pv) p → ∃ cs, PV.RepRow H (l.flatMap pv) cs ∧ cs.length = l.length * sz α ∧ ∀ j v, cs[j]? = some v → H.cell? (p.add j) = some v
  | [], _, _ => ⟨[], by simp [PV.RepRow], by simp, by simp⟩
  | d :: l, p, hd => by
    simp only [List.map_cons, PV.RepRows, Enc.len] at hd
    obtain ⟨⟨c1, h1, h2⟩, h3⟩ := hd
    obtain ⟨c2, h4, h5, h6⟩ := RepRows.cells h3
    have hl := h1.length
    rw [Enc.len] at hl
    refine ⟨c1 ++ c2, ?_, ?_, fun j v hj => ?_⟩
    · rw [List.flatMap_cons]; exact PV.RepRow.append h1 h4
    · rw [List.length_append, h5, hl, List.length_cons, Nat.add_mul]; simp only [sz]; omega
    · by_cases hj' : j < c1.length
      · rw [List.getElem?_append_left hj'] at hj; exact h2 j v hj
      · rw [List.getElem?_append_right (by omega)] at hj
        have := h6 _ v hj
        rw [Addr.add_add] at this
        rwa [show Enc.sz α + (j - c1.length) = j by omega] at this
theorem RepRows.of : ∀ {l : List α} {p : Addr} {cs : List Value}, PV.RepRow H (l.flatMap pv) cs → (∀ j v, cs[j]? = some v → H.cell? (p.add j) = some v) → PV.RepRows H (l.map pv) p
  | [], _, _, _, _ => by simp [PV.RepRows]
  | d :: l, p, cs, h1, h2 => by
    rw [List.flatMap_cons] at h1
    have h3 := PV.RepRow.split h1
    simp only [List.map_cons, PV.RepRows]
    refine ⟨⟨_, h3.1, fun i v hi => ?_⟩, RepRows.of h3.2 fun j v hj => ?_⟩
    · rw [List.getElem?_take] at hi
      split at hi
      · exact h2 i v hi
      · cases hi
    · rw [List.getElem?_drop] at hj
      have := h2 _ v hj
      rw [Addr.add_add]; exact this
/-- as the source of an append -/
theorem SlR.src (h : SlR H l v) : ∃ news, PV.RepRow H (l.flatMap pv) news ∧ news.length = l.length * sz α ∧ Src H v l.length news := by
  rcases (SlR.mk_iff.1 h).2 with ⟨rfl, rfl⟩ | ⟨p, c, rfl, h1, h2, h3⟩
  · exact ⟨[], by simp [PV.RepRow], by simp, .inr (.inl ⟨rfl, rfl, rfl⟩)⟩
  · obtain ⟨cs, h4, h5, h6⟩ := RepRows.cells h3
    exact ⟨cs, h4, h5, .inl ⟨_, _, rfl, h6⟩⟩
end

/-! ### a row of things that grows -/
def PH.del (H : PH) (r : Nat) : PH := fun k => if k = r then none else H k
theorem PH.del_le (H : PH) (r : Nat) : PH.le (H.del r) H := fun k o h => by
  unfold PH.del at h; split at h
  · cases h
  · exact h
theorem PH.del_upd (H : PH) (r : Nat) (o : Obj) : (H.upd r o).del r = H.del r := by
  funext k; unfold PH.del PH.upd; split <;> rfl
theorem PH.del_mono {H H' : PH} (h : PH.le H H') (r : Nat) : PH.le (H.del r) (H'.del r) := fun k o hk => by
  unfold PH.del at hk ⊢; split at hk
  · cases hk
  · rename_i e; rw [if_neg e]; exact h k o hk
theorem PH.del_new (H : PH) (r : Nat) (o : Obj) (h : H r = none) : PH.le H ((H.upd r o).del r) := fun k x hk => by
  have e : k ≠ r := fun e => by rw [e, h] at hk; cases hk
  unfold PH.del; rw [if_neg e, PH.upd_other e]; exact hk
theorem PH.del_none {H : PH} {r : Nat} : (H.del r) r = none := by simp [PH.del]
theorem PH.del_other {H : PH} {r k : Nat} (h : k ≠ r) : (H.del r) k = H k := by simp [PH.del, h]
theorem PH.le_del {H H' : PH} {r : Nat} (h : PH.le H H') (hr : H r = none) : PH.le H (H'.del r) := fun k o hk => by
  have e : k ≠ r := fun e => by rw [e, hr] at hk; cases hk
  rw [PH.del_other e]; exact h k o hk
theorem rowAt_le {H H' : PH} (h : PH.le H H') {p : Option Addr} {vs : List Value} (hr : rowAt H p vs) : rowAt H' p vs := by
  obtain ⟨a, h1, h2⟩ := hr
  exact ⟨a, h1, fun i v hi => PH.cell_le h (h2 i v hi)⟩
/-- the heap but for the slice's own block -/
def delV (v : Value) (H : PH) : PH := match ob v with
  | some g => H.del g
  | none => H
theorem delV_le (v : Value) (H : PH) : PH.le (delV v H) H := by
  unfold delV; split
  · exact PH.del_le _ _
  · exact PH.le_refl _
theorem delV_mono {v : Value} {H H' : PH} (h : PH.le H H') : PH.le (delV v H) (delV v H') := by
  unfold delV; split
  · exact PH.del_mono h _
  · exact h
/-- in H, the slice v is a row that grows, of these things, in a block of its own; and what is in H0 stands. -/
structure Acc {α : Type} [Enc α] (H0 H : PH) (e : TypeId) (l : List α) (v : Value) : Prop where
  le : PH.le H0 (delV v H)
  own : ∃ xs, Own H e (sz α) v l.length xs ∧ PV.RepRow (delV v H) (l.flatMap pv) xs

section
variable {α : Type} [Enc α] {H0 H H' : PH} {e : TypeId} {l : List α} {v : Value}
theorem Acc.nil (H : PH) (e : TypeId) : Acc (α := α) H H e [] (.slice none 0 0) := ⟨PH.le_refl H, [], Own.nil _ _ _, by simp [PV.RepRow]⟩
theorem Acc.mono (h : Acc H0 H e l v) (hl : PH.le H H') : Acc H0 H' e l v := by
  refine ⟨PH.le_trans h.le (delV_mono hl), ?_⟩
  obtain ⟨xs, h1, h2⟩ := h.own
  refine ⟨xs, ?_, PV.RepRow.le (delV_mono hl) h2⟩
  refine ⟨h1.1, ?_⟩
  rcases h1.2 with h | ⟨g, cap, cur, rfl, h3, h4⟩
  · exact .inl h
  · exact .inr ⟨g, cap, cur, rfl, hl _ _ h3, h4⟩
theorem Acc.base {H1 : PH} (h : Acc H0 H e l v) (hl : PH.le H1 H0) : Acc H1 H e l v := ⟨PH.le_trans hl h.le, h.own⟩
theorem Acc.all (h : Acc H0 H e l v) : PH.le H0 H := PH.le_trans h.le (delV_le v H)
theorem Acc.max (h : Acc H0 H e l v) : l.length ≤ maxLen := by
  obtain ⟨xs, h1, h2⟩ := h.own
  rcases h1.2 with ⟨rfl, hz⟩ | ⟨g, cap, cur, rfl, h3, h4, h5, _⟩
  · omega
  · omega
theorem Acc.sl (h : Acc H0 H e l v) : ∃ b c, v = .slice b l.length c := by
  obtain ⟨xs, h1, h2⟩ := h.own; exact h1.slice
theorem Acc.slR (h : Acc H0 H e l v) : SlR H l v := by
  rw [SlR.mk_iff]
  refine ⟨h.max, ?_⟩
  obtain ⟨xs, h1, h2⟩ := h.own
  have hc := fun a m c hv => (h1.cells (a := a) (m := m) (c := c) hv).2
  rcases h1.2 with ⟨rfl, hz⟩ | ⟨g, cap, cur, rfl, h3, h4, h5, _⟩
  · exact .inl ⟨rfl, List.length_eq_zero_iff.1 hz⟩
  · exact .inr ⟨_, cap, rfl, h4, h5, RepRows.of (PV.RepRow.le (delV_le _ H) h2) fun j u hj => hc _ _ _ rfl j u hj⟩
/-- a new block, of its own -/
theorem Acc.new {r cap : Nat} {cs : List Value} (hr : H r = none) (h0 : PH.le H0 H) (hcs : PV.RepRow H (l.flatMap pv) cs) (hl : l.length = cap) (hm : cap ≤ maxLen) : Acc H0 (H.upd r (.cells cs.toArray e (0, 0))) e l (.slice (some ⟨r, 0, none⟩) l.length cap) := by
  have hlen : cs.length = l.length * sz α := by
    rw [hcs.length]
    have : ∀ l : List α, (l.flatMap pv).length = l.length * sz α := fun l => by
      induction l with
      | nil => simp
      | cons d l ih => rw [List.flatMap_cons, List.length_append, ih, Enc.len, List.length_cons, Nat.add_mul]; simp only [sz]; omega
    exact this l
  refine ⟨PH.le_trans h0 (PH.del_new H r _ hr), cs, ⟨hlen, .inr ⟨r, cap, cs.toArray, rfl, PH.upd_same, by omega, hm, by simp [hlen, hl], ?_⟩⟩, PV.RepRow.le (PH.del_new H r _ hr) hcs⟩
  rw [← hlen]; simp
end
end Go.Proofs.YtlnmmakbgldflaaGreatDoor.Vc
