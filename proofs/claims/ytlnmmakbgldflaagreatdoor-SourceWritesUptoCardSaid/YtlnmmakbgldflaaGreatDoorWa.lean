/-
  OPERATIONS ON ROWS, told over a part of the heap: what is loaded, stored, laid, appended. No program in sight.
-/
import Derived.Test.YtlnmmakbgldflaaGreatDoorVo
import Derived.Laws.Append
set_option linter.unusedSimpArgs false
set_option linter.unusedVariables false
set_option maxRecDepth 100000
namespace Go.Proofs.YtlnmmakbgldflaaGreatDoor.Vc
open Go

theorem PH.upd_upd {H : PH} {b : Nat} {x y : Obj} : (H.upd b x).upd b y = H.upd b y := by
  funext k; unfold PH.upd; split <;> rfl
theorem PH.upd_self {H : PH} {b : Nat} {x : Obj} (h : H b = some x) : H.upd b x = H := by
  funext k; unfold PH.upd; split
  · rename_i e; rw [e, h]
  · rfl
theorem Addr.add_plain (b o i : Nat) : (⟨b, o, none⟩ : Addr).add i = ⟨b, o + i, none⟩ := by
  unfold Addr.add; split
  · simp_all
  · rfl
theorem PH.cell_at {H : PH} {b o : Nat} {c : Array Value} {e : TypeId} {f : Nat × Nat} (h : H b = some (.cells c e f)) : H.cell? ⟨b, o, none⟩ = c[o]? := by
  unfold PH.cell?; simp [h]

section
variable {P : Program} {α β : Type} {Φ : α → PH → Prop} {Ψ : Value → PH → Prop} {H : PH}

theorem wpS_pure (a : α) : wpS P (pure a : Sem α) Φ Ψ H = Φ a H := rfl
theorem wpS_bind' (s : Sem β) (f : β → Sem α) : wpS P (s >>= f) Φ Ψ H = wpS P s (fun a H' => wpS P (f a) Φ Ψ H') Ψ H := propext (wpS_bind s f)
theorem wpS_underlying {t : TypeId} {d : TypeDesc} (h : P.underlying t = some d) {Φ : TypeDesc → PH → Prop} : wpS P (underlying t) Φ Ψ H = Φ d H := by
  show wpS P (match P.underlying t with | some d => pure d | none => stuck "no such type") Φ Ψ H = _
  rw [h]; rfl
theorem wpS_typeInfo {t : TypeId} {i : TypeInfo} (h : P.info? t = some i) {Φ : TypeInfo → PH → Prop} : wpS P (typeInfo t) Φ Ψ H = Φ i H := by
  show wpS P (match P.info? t with | some i => pure i | none => stuck "no such type") Φ Ψ H = _
  rw [h]; rfl
theorem wpS_sizeOf {t : TypeId} {i : TypeInfo} (h : P.info? t = some i) {Φ : Nat → PH → Prop} : wpS P (sizeOf t) Φ Ψ H = Φ i.size H := by
  unfold sizeOf
  rw [wpS_bind', wpS_typeInfo h]; rfl
theorem wpS_zeroValue {t : TypeId} {i : TypeInfo} {z : Value} (h : P.info? t = some i) (hz : i.zero = some z) {Φ : Value → PH → Prop} : wpS P (zeroValue t) Φ Ψ H = Φ z H := by
  unfold zeroValue
  rw [wpS_bind', wpS_typeInfo h, hz]; rfl
theorem wpS_newRow {e : TypeId} {cells : Array Value} {Φ : Addr → PH → Prop} : wpS P (newRow e cells) Φ Ψ H = ∀ r, H r = none → Φ ⟨r, 0, none⟩ (H.upd r (.cells cells e)) := rfl
theorem wpS_askRoom {n : Nat} {Φ : Unit → PH → Prop} : wpS P (askRoom n) Φ Ψ H = Φ () H := by
  unfold askRoom; split <;> rfl
theorem wpS_choose {q : Question} (hq : q.forced = false) {Φ : Nat → PH → Prop} : wpS P (choose q) Φ Ψ H = ∀ t, Φ (q.cut t) H := by
  show ((q.forced = true → Φ 0 H) ∧ (q.forced = false → ∀ t, Φ (q.cut t) H)) = _
  rw [hq]; simp

theorem wpS_loadCellsFrom {a : Addr} : ∀ (n j : Nat) (acc : Array Value) (vs : List Value) {Φ : Array Value → PH → Prop}, vs.length = n → (∀ i v, vs[i]? = some v → H.cell? (a.add (j + i)) = some v) →
    Φ (acc ++ vs.toArray) H → wpS P (loadCellsFrom a j n acc) Φ Ψ H
  | 0, j, acc, vs, Φ, hl, _, hk => by
    have : vs = [] := List.length_eq_zero_iff.1 hl
    subst this
    show Φ acc H
    simpa using hk
  | n + 1, j, acc, vs, Φ, hl, h, hk => by
    cases vs with
    | nil => simp at hl
    | cons v vs =>
      unfold loadCellsFrom
      rw [wpS_bind']
      refine ⟨v, by simpa using h 0 v rfl, ?_⟩
      refine wpS_loadCellsFrom n (j + 1) (acc.push v) vs (by simpa using hl) (fun i u hi => ?_) (by simpa using hk)
      have := h (i + 1) u (by simpa using hi)
      rwa [show j + (i + 1) = j + 1 + i by omega] at this
theorem wpS_loadCells {a : Addr} {n : Nat} {vs : List Value} {Φ : Array Value → PH → Prop} (hl : vs.length = n) (h : ∀ i v, vs[i]? = some v → H.cell? (a.add i) = some v) (hk : Φ vs.toArray H) : wpS P (loadCells a n) Φ Ψ H :=
  wpS_loadCellsFrom n 0 #[] vs hl (fun i v hi => by rw [Nat.zero_add]; exact h i v hi) (by simpa using hk)

/-- the cells from o on are these -/
def splice (cs : Array Value) (o : Nat) (vs : List Value) : Array Value := (cs.toList.take o ++ vs ++ cs.toList.drop (o + vs.length)).toArray
theorem splice_nil (cs : Array Value) (o : Nat) : splice cs o [] = cs := by simp [splice]
theorem splice_size {cs : Array Value} {o : Nat} {vs : List Value} (h : o + vs.length ≤ cs.size) : (splice cs o vs).size = cs.size := by
  simp [splice]; omega
theorem splice_cons {cs : Array Value} {o : Nat} {v : Value} {vs : List Value} (h : o + (v :: vs).length ≤ cs.size) : splice (cs.setIfInBounds o v) (o + 1) vs = splice cs o (v :: vs) := by
  simp only [List.length_cons] at h
  unfold splice
  congr 1
  rw [Array.toList_setIfInBounds, List.take_succ_eq_append_getElem (by simp; omega), List.take_set_of_le (Nat.le_refl _), List.drop_set_of_lt (by omega)]
  simp only [List.getElem_set_self, List.append_assoc, List.length_cons, List.cons_append, List.nil_append]
  rw [show o + 1 + vs.length = o + (vs.length + 1) by omega]

theorem wpS_storeCells {b : Nat} {e : TypeId} : ∀ (vs : List Value) (o i : Nat) (cs : Array Value) (H : PH) {Φ : Unit → PH → Prop}, H b = some (.cells cs e (0, 0)) → o + i + vs.length ≤ cs.size → (∀ v ∈ vs, oneC v = true) →
    Φ () (H.upd b (.cells (splice cs (o + i) vs) e (0, 0))) → wpS P (storeCells ⟨b, o, none⟩ vs i) Φ Ψ H
  | [], o, i, cs, H, Φ, hb, _, _, hk => by
    rw [splice_nil, PH.upd_self hb] at hk
    exact hk
  | v :: vs, o, i, cs, H, Φ, hb, hl, h1, hk => by
    have hl' := hl
    simp only [List.length_cons] at hl
    unfold storeCells
    rw [wpS_bind', Addr.add_plain]
    have hcell : H.cell? ⟨b, o + i, none⟩ = some (cs[o + i]'(by omega)) := by rw [PH.cell_at hb]; simp [show o + i < cs.size by omega]
    refine ⟨h1 v (List.mem_cons_self ..), _, _, hb, hcell, by simp [PH.frozenO], ?_⟩
    show wpS P (storeCells ⟨b, o, none⟩ vs (i + 1)) Φ Ψ _
    have hset : PH.setC ⟨b, o + i, none⟩ v (.cells cs e (0, 0)) = .cells (cs.setIfInBounds (o + i) v) e (0, 0) := rfl
    refine wpS_storeCells vs o (i + 1) (cs.setIfInBounds (o + i) v) _ (PH.upd_same.trans (congrArg some hset)) (by simp; omega) (fun u hu => h1 u (List.mem_cons_of_mem _ hu)) ?_
    rw [PH.upd_upd, ← Nat.add_assoc, splice_cons hl']
    exact hk
end

/-! ### a row that grows -/
/-- the block of a slice -/
def ob : Value → Option Nat
  | .slice (some a) _ _ => some a.block
  | _ => none
/-- v is a slice of n elements that owns its block: its cells are xs, with room behind them. -/
def Own (H : PH) (e : TypeId) (sz : Nat) (v : Value) (n : Nat) (xs : List Value) : Prop :=
  xs.length = n * sz ∧ ((v = .slice none 0 0 ∧ n = 0) ∨ ∃ g cap cur, v = .slice (some ⟨g, 0, none⟩) n cap ∧ H g = some (.cells cur e (0, 0)) ∧ n ≤ cap ∧ cap ≤ maxLen ∧ cur.size = cap * sz ∧ cur.toList.take (n * sz) = xs)
theorem Own.nil (H : PH) (e : TypeId) (sz : Nat) : Own H e sz (.slice none 0 0) 0 [] := ⟨by simp, .inl ⟨rfl, rfl⟩⟩
theorem Own.le {H H' : PH} {e : TypeId} {sz : Nat} {v : Value} {n : Nat} {xs : List Value} (h : Own H e sz v n xs) (hk : ∀ k, ob v = some k → H' k = H k) : Own H' e sz v n xs := by
  refine ⟨h.1, ?_⟩
  rcases h.2 with h | ⟨g, cap, cur, rfl, h1, h2⟩
  · exact .inl h
  · exact .inr ⟨g, cap, cur, rfl, by rw [hk g rfl]; exact h1, h2⟩
theorem Own.cells {H : PH} {e : TypeId} {sz : Nat} {v : Value} {n : Nat} {xs : List Value} (h : Own H e sz v n xs) {a : Addr} {m c : Nat} (hv : v = .slice (some a) m c) : m = n ∧ ∀ j u, xs[j]? = some u → H.cell? (a.add j) = some u := by
  rcases h.2 with ⟨rfl, _⟩ | ⟨g, cap, cur, rfl, h1, h2, h3, h4, h5⟩
  · cases hv
  · cases hv
    refine ⟨rfl, fun j u hu => ?_⟩
    rw [Addr.add_plain, PH.cell_at h1, Nat.zero_add]
    rw [← h5, List.getElem?_take] at hu
    split at hu
    · simpa using hu
    · cases hu
theorem Own.slice {H : PH} {e : TypeId} {sz : Nat} {v : Value} {n : Nat} {xs : List Value} (h : Own H e sz v n xs) : ∃ b c, v = .slice b n c := by
  rcases h.2 with ⟨rfl, rfl⟩ | ⟨g, cap, cur, rfl, _⟩ <;> exact ⟨_, _, rfl⟩

/-- what is appended: m elements, the cells news -/
def Src (H : PH) (x : Value) (m : Nat) (news : List Value) : Prop :=
  (∃ b c, x = .slice (some b) m c ∧ ∀ j u, news[j]? = some u → H.cell? (b.add j) = some u) ∨ (x = .slice none 0 0 ∧ m = 0 ∧ news = []) ∨
  (∃ s, x = .string s ∧ m = s.size ∧ news = s.data.toList.map fun b => .int .u8 b.toNat)

section
variable {P : Program} {Φ : Value → PH → Prop} {Ψ : Value → PH → Prop} {H : PH}

theorem wpS_lenOf {x : Value} {m : Nat} {news : List Value} (h : Src H x m news) {Φ : Nat → PH → Prop} : wpS P (Builtin.lenOf x) Φ Ψ H = Φ m H := by
  rcases h with ⟨b, c, rfl, _⟩ | ⟨rfl, rfl, _⟩ | ⟨s, rfl, rfl, _⟩ <;> rfl
theorem wpS_firstCells {x : Value} {m sz : Nat} {news : List Value} (h : Src H x m news) (hl : news.length = m * sz) {Φ : Array Value → PH → Prop} (hk : Φ news.toArray H) : wpS P (Builtin.firstCells sz m x) Φ Ψ H := by
  rcases h with ⟨b, c, rfl, h⟩ | ⟨rfl, rfl, rfl⟩ | ⟨s, rfl, rfl, rfl⟩
  · exact wpS_loadCells hl h hk
  · exact hk
  · show Φ _ H
    have : (s.extract 0 s.size).data.map (fun b => Value.int .u8 b.toNat) = (s.data.toList.map fun b => Value.int .u8 b.toNat).toArray := by
      apply Array.ext'
      simp [ByteArray.extract_zero_size]
    rw [this]; exact hk

theorem size_zeroCells (z : Array Value) (n : Nat) : (Builtin.zeroCells z n).size = n * z.size := by simp [Builtin.zeroCells]
theorem Own.src {H : PH} {e : TypeId} {sz : Nat} {v : Value} {n : Nat} {xs : List Value} (h : Own H e sz v n xs) : Src H v n xs := by
  rcases h.2 with ⟨rfl, rfl⟩ | ⟨g, cap, cur, rfl, h1, h2⟩
  · exact .inr (.inl ⟨rfl, rfl, List.length_eq_zero_iff.1 (by rw [h.1]; simp)⟩)
  · exact .inl ⟨_, _, rfl, (h.cells rfl).2⟩
/-- APPEND to a row that owns its block. -/
theorem wpS_append {t t2 ty e : TypeId} {d2 : TypeDesc} {i : TypeInfo} {z : Value} (ht : P.underlying t = some (.slice e)) (ht2 : P.underlying t2 = some d2) (hd2 : ∀ k, d2 ≠ .int k) (hi : P.info? e = some i) (hz : i.zero = some z) (hzs : z.cells.size = i.size)
    {v x : Value} {n m : Nat} {xs news : List Value} (hown : Own H e i.size v n xs) (hx : Src H x m news) (hl : news.length = m * i.size) (h1 : ∀ u ∈ news, oneC u = true) (h63 : n + m ≤ maxLen) (hby : (n + m) * i.bytes ≤ 140737488355328)
    (hk : ∀ v' H', Own H' e i.size v' (n + m) (xs ++ news) → (∀ k o, H k = some o → some k ≠ ob v → H' k = some o) → (∀ k, ob v' = some k → ob v = some k ∨ H k = none) → Φ v' H') :
    wpS P (Builtin.append_ #[t, t2] ty #[v, x]) Φ Ψ H := by
  have hlen : (xs ++ news).length = (n + m) * i.size := by rw [List.length_append, hown.1, hl, Nat.add_mul]
  obtain ⟨b, c, hv⟩ := hown.slice
  subst hv
  have hnc : n ≤ c := by
    rcases hown.2 with ⟨h, h'⟩ | ⟨g, cap, cur, h, _, h2, _⟩
    · cases h; omega
    · cases h; exact h2
  unfold Builtin.append_
  simp only [List.getElem?_toArray, List.getElem?_cons_zero, List.getElem?_cons_succ, wpS_bind', wpS_underlying ht, wpS_underlying ht2, wpS_sizeOf hi, wpS_pure, if_false, wpS_lenOf hx, Bool.not_false, if_true, Bool.false_eq_true]
  split
  · rename_i hroom
    rw [wpS_bind']
    refine wpS_firstCells hx hl ?_
    rcases hown.2 with ⟨h, h'⟩ | ⟨g, cap, cur, h, hg, g2, g3, g4, g5⟩
    · cases h
      have hm : m = 0 := by omega
      subst hm
      have hnews : news = [] := List.length_eq_zero_iff.1 (by rw [hl]; simp)
      subst hnews
      show Φ _ H
      refine hk _ _ (by simpa using hown) (fun k o h _ => h) (fun k h => .inl h)
    · cases h
      simp only [wpS_bind', Addr.add_plain]
      have hfit : n * i.size + news.length ≤ cur.size := by
        rw [hl, g4, ← Nat.add_mul]; exact Nat.mul_le_mul_right _ hroom
      refine wpS_storeCells news (0 + n * i.size) 0 cur H hg (by omega) h1 ?_
      show Φ _ _
      refine hk _ _ ⟨hlen, .inr ⟨g, c, splice cur (0 + n * i.size + 0) news, rfl, PH.upd_same, hroom, g3, ?_, ?_⟩⟩ (fun k o h hne => ?_) (fun k h => .inl h)
      · rw [splice_size (by omega)]; exact g4
      · rw [Nat.zero_add, Nat.add_zero]
        unfold splice
        rw [List.toList_toArray, g5, List.append_assoc, ← List.append_assoc, List.take_left' hlen]
      · rw [PH.upd_other (fun e => hne (by subst e; rfl))]; exact h
  · rename_i hroom
    have hmax : ¬ (((n + m : Nat) : Int) > IntKind.i64.max ∧ (False ∨ i.bytes = 0)) := by
      rintro ⟨h, _⟩
      have : IntKind.i64.max = 9223372036854775807 := rfl
      rw [this] at h
      simp only [maxLen] at h63
      omega
    have hfit : ¬ (Builtin.nextslicecap (n + m) c * i.bytes > 2 ^ 48) := by
      have := growslice_fits (need := n + m) (old := c) (by omega) hby
      omega
    simp only [wpS_bind', wpS_typeInfo hi, if_neg hmax, if_neg hfit, wpS_choose (q := .appendCap (n + m) c e) rfl, wpS_askRoom]
    intro tp
    have hcap : n + m ≤ Question.cut (.appendCap (n + m) c e) tp ∧ Question.cut (.appendCap (n + m) c e) tp ≤ maxLen := by
      simp only [Question.cut]
      simp only [maxLen] at h63 ⊢
      have := Nat.mod_lt tp (show 0 < 2 ^ 63 - (n + m) by omega)
      omega
    generalize Question.cut (.appendCap (n + m) c e) tp = nc at hcap
    refine wpS_firstCells hown.src hown.1 ?_
    refine wpS_firstCells hx hl ?_
    simp only [wpS_zeroValue hi hz, wpS_newRow]
    intro r hr
    show Φ _ _
    refine hk _ _ ⟨hlen, .inr ⟨r, nc, _, rfl, PH.upd_same, hcap.1, hcap.2, ?_, ?_⟩⟩ (fun k o h _ => ?_) (fun k h => ?_)
    · simp only [Array.size_append, size_zeroCells, hzs, List.size_toArray]
      rw [← List.length_append, hlen, ← Nat.add_mul]
      congr 1; omega
    · rw [Array.toList_append, Array.toList_append, List.take_left' (by simpa using hlen)]
    · rw [PH.upd_other (fun e => by rw [e, hr] at h; cases h)]; exact h
    · cases h; exact .inr hr
end
end Go.Proofs.YtlnmmakbgldflaaGreatDoor.Vc
