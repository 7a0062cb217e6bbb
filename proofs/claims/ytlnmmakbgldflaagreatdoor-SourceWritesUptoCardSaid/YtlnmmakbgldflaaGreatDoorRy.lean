import Derived.Test.YtlnmmakbgldflaaGreatDoorRx
import Derived.Test.YtlnmmakbgldflaaGreatDoorWm
import Derived.Test.YtlnmmakbgldflaaGreatDoorDz
import Derived.Lay
set_option linter.unusedSimpArgs false
set_option linter.unusedVariables false
set_option maxRecDepth 100000
/-
  SOURCE: the program's Read: it answers as readS does. Its closure takes up what the reader gives up with.
-/
namespace Go.Proofs.YtlnmmakbgldflaaGreatDoor.Vc
open Go

theorem uAny : Tryz.prog.underlying 20 = some (.interface #[]) := by kernel_rfl
/-- a type assertion that holds -/
theorem den_assert {X : List PanicEntry → PH → Prop} {β : Type} {E : List Value} {L : LK} {K : β → List Value → PH → LK → Prop} {H : PH} {U ty : TypeId} {x : Operand} {a b : Value} {args : List (Nat × VE)} {k : Fm β} (ha : Tag.ok (.int .i64) a = true) (hb : Tag.ok (.int .i64) b = true) (hx : argEv E args x = .iface 46 (.agg #[a, b])) (hk : den Tryz.prog X k (E ++ [a, b, .bool true]) H L K) :
    den Tryz.prog X (.sem (.typeAssert x U 46 true) ty args (.tu [(true, [.int .i64, .int .i64]), (false, [.bool])]) [] k) E H L K := by
  show wpS _ (execOp (argEv E args) (bare _ ty)) _ _ H
  simp only [execOp, bare, hx, Instr.typeAssert, wpS_bind', wpS_underlying uTrouble, if_true, wpS_pure]
  refine ⟨[a, b, .bool true], ?_, rfl, pendNil, hk⟩
  simp [tagsOk, RS.tags, ha, hb]
  rfl
/-- the three results lie there -/
structure Outs (H : PH) (b1 b2 b3 : Nat) (v : Value) (x y : Int) : Prop where
  a1 : H b1 = some (.cells #[v] 22 (0, 0))
  a2 : H b2 = some (.cells #[.int .i64 x] 3 (0, 0))
  a3 : H b3 = some (.cells #[.int .i64 y] 23 (0, 0))
  n12 : b1 ≠ b2
  n13 : b1 ≠ b3
  n23 : b2 ≠ b3
abbrev pA (b : Nat) : Value := .pointer (some ⟨b, 0, none⟩)
theorem Outs.of {H H' : PH} {b1 b2 b3 : Nat} {v : Value} {x y : Int} (h : Outs H b1 b2 b3 v x y) (h1 : H' b1 = H b1) (h2 : H' b2 = H b2) (h3 : H' b3 = H b3) : Outs H' b1 b2 b3 v x y :=
  ⟨by rw [h1]; exact h.a1, by rw [h2]; exact h.a2, by rw [h3]; exact h.a3, h.n12, h.n13, h.n23⟩
theorem Outs.le {H H' : PH} {b1 b2 b3 : Nat} {v : Value} {x y : Int} (h : Outs H b1 b2 b3 v x y) (hl : PH.le H H') : Outs H' b1 b2 b3 v x y :=
  ⟨hl _ _ h.a1, hl _ _ h.a2, hl _ _ h.a3, h.n12, h.n13, h.n23⟩
section
variable {X : List PanicEntry → PH → Prop} {β : Type} {E : List Value} {L : LK} {K : β → List Value → PH → LK → Prop} {H : PH} {b1 b2 b3 m : Nat} {v : Value} {x y : Int}
theorem rowAt_one {b : Nat} {u : Value} {T : TypeId} {f : Nat × Nat} (h : H b = some (.cells #[u] T f)) : rowAt H (some ⟨b, 0, none⟩) [u] := by
  refine ⟨_, rfl, fun i w hw => ?_⟩
  cases i with
  | zero => simp at hw; subst hw; rw [Addr.add_plain, PH.cell_at h]; rfl
  | succ i => simp at hw
theorem den_o1 {f : Fm β} (hE : E.getD m (.bool false) = pA b1) (h : Outs H b1 b2 b3 v x y) (hv : ∃ b n c, v = .slice b n c) (hk : den Tryz.prog X f (E ++ [v]) H L K) : den Tryz.prog X (.load (.atom m) [.sl] f) E H L K := by
  obtain ⟨b, n, c, rfl⟩ := hv
  refine ⟨[_], rfl, ?_, hk⟩
  show rowAt H (pOf (E.getD m (.bool false))) _
  rw [hE]; exact rowAt_one h.a1
theorem den_o2 {f : Fm β} (hE : E.getD m (.bool false) = pA b2) (h : Outs H b1 b2 b3 v x y) (hk : den Tryz.prog X f (E ++ [.int .i64 x]) H L K) : den Tryz.prog X (.load (.atom m) [.int .i64] f) E H L K := by
  refine ⟨[_], rfl, ?_, hk⟩
  show rowAt H (pOf (E.getD m (.bool false))) _
  rw [hE]; exact rowAt_one h.a2
theorem den_o3 {f : Fm β} (hE : E.getD m (.bool false) = pA b3) (h : Outs H b1 b2 b3 v x y) (hk : den Tryz.prog X f (E ++ [.int .i64 y]) H L K) : den Tryz.prog X (.load (.atom m) [.int .i64] f) E H L K := by
  refine ⟨[_], rfl, ?_, hk⟩
  show rowAt H (pOf (E.getD m (.bool false))) _
  rw [hE]; exact rowAt_one h.a3
theorem put_one {Ψ : Value → PH → Prop} {b : Nat} {u w : Value} {T : TypeId} {Φ : Unit → PH → Prop} (h : H b = some (.cells #[u] T (0, 0))) (hw : oneC w = true) (hk : Φ () (H.upd b (.cells #[w] T (0, 0)))) : wpS Tryz.prog (storeCells ⟨b, 0, none⟩ [w]) Φ Ψ H := by
  refine wpS_storeCells [w] 0 0 _ H h (by simp) (by simp [hw]) ?_
  simpa [splice] using hk
theorem den_p1 {f : Fm β} {s : SV} {w : Value} (hE : E.getD m (.bool false) = pA b1) (h : Outs H b1 b2 b3 v x y) (hs : ev0 E s = w) (hw : oneC w = true) (hk : ∀ H', Outs H' b1 b2 b3 w x y → (∀ g, g ≠ b1 → H' g = H g) → den Tryz.prog X f E H' L K) : den Tryz.prog X (.store (.atom m) [s] f) E H L K := by
  refine ⟨⟨b1, 0, none⟩, ?_, ?_⟩
  · show pOf (E.getD m (.bool false)) = _
    rw [hE]; rfl
  · show wpS _ (storeCells _ [ev0 E s]) _ _ H
    rw [hs]
    refine put_one h.a1 hw (hk _ ⟨PH.upd_same, ?_, ?_, h.n12, h.n13, h.n23⟩ fun g hg => PH.upd_other hg)
    · rw [PH.upd_other h.n12.symm]; exact h.a2
    · rw [PH.upd_other h.n13.symm]; exact h.a3
theorem den_p2 {f : Fm β} {s : SV} {z : Int} (hE : E.getD m (.bool false) = pA b2) (h : Outs H b1 b2 b3 v x y) (hs : ev0 E s = .int .i64 z) (hk : ∀ H', Outs H' b1 b2 b3 v z y → (∀ g, g ≠ b2 → H' g = H g) → den Tryz.prog X f E H' L K) : den Tryz.prog X (.store (.atom m) [s] f) E H L K := by
  refine ⟨⟨b2, 0, none⟩, ?_, ?_⟩
  · show pOf (E.getD m (.bool false)) = _
    rw [hE]; rfl
  · show wpS _ (storeCells _ [ev0 E s]) _ _ H
    rw [hs]
    refine put_one h.a2 rfl (hk _ ⟨?_, PH.upd_same, ?_, h.n12, h.n13, h.n23⟩ fun g hg => PH.upd_other hg)
    · rw [PH.upd_other h.n12]; exact h.a1
    · rw [PH.upd_other h.n23.symm]; exact h.a3
theorem den_p3 {f : Fm β} {s : SV} {z : Int} (hE : E.getD m (.bool false) = pA b3) (h : Outs H b1 b2 b3 v x y) (hs : ev0 E s = .int .i64 z) (hk : ∀ H', Outs H' b1 b2 b3 v x z → (∀ g, g ≠ b3 → H' g = H g) → den Tryz.prog X f E H' L K) : den Tryz.prog X (.store (.atom m) [s] f) E H L K := by
  refine ⟨⟨b3, 0, none⟩, ?_, ?_⟩
  · show pOf (E.getD m (.bool false)) = _
    rw [hE]; rfl
  · show wpS _ (storeCells _ [ev0 E s]) _ _ H
    rw [hs]
    refine put_one h.a3 rfl (hk _ ⟨?_, ?_, PH.upd_same, h.n12, h.n13, h.n23⟩ fun g hg => PH.upd_other hg)
    · rw [PH.upd_other h.n13]; exact h.a1
    · rw [PH.upd_other h.n23]; exact h.a2
end
abbrev readPr (b1 b2 b3 : Nat) : List (Nat × Value) := [(2, pA b1), (3, pA b2), (4, pA b3)]
theorem read_results {H : PH} {b1 b2 b3 : Nat} {v : Value} {x y : Int} (h : Outs H b1 b2 b3 v x y) {w : World} (hw : Vis H w) {tmps : Array Value} (ht : ∀ z ∈ readPr b1 b2 b3, tmps.getD z.1 undef = z.2) :
    (results Tryz.f10 tmps).run Tryz.prog w = .ok (.tuple #[v, .int .i64 x, .int .i64 y]) w := by
  have h2 := ht (2, pA b1) (by simp)
  have h3 := ht (3, pA b2) (by simp)
  have h4 := ht (4, pA b3) (by simp)
  have c1 : w.cell? ⟨b1, 0, none⟩ = some v := hw.cell (by rw [PH.cell_at h.a1]; rfl)
  have c2 : w.cell? ⟨b2, 0, none⟩ = some (.int .i64 x) := hw.cell (by rw [PH.cell_at h.a2]; rfl)
  have c3 : w.cell? ⟨b3, 0, none⟩ = some (.int .i64 y) := hw.cell (by rw [PH.cell_at h.a3]; rfl)
  have er : Tryz.f10.results = #[.cell 2 22, .cell 3 3, .cell 4 23] := rfl
  have u1 := uDats
  have u2 : Tryz.prog.underlying 3 = some (.int .i64) := by kernel_rfl
  have u3 : Tryz.prog.underlying 23 = some (.int .i64) := by kernel_rfl
  have v1 : isAggT Tryz.prog 22 = false := by kernel_rfl
  have v2 : isAggT Tryz.prog 3 = false := by kernel_rfl
  have v3 : isAggT Tryz.prog 23 = false := by kernel_rfl
  have t2 : tmps[2]?.getD undef = pA b1 := by simpa [Array.getD_eq_getD_getElem?] using h2
  have t3 : tmps[3]?.getD undef = pA b2 := by simpa [Array.getD_eq_getD_getElem?] using h3
  have t4 : tmps[4]?.getD undef = pA b3 := by simpa [Array.getD_eq_getD_getElem?] using h4
  unfold results
  rw [er]
  simp [t2, t3, t4, asAddr, loadVar, run_agg u1, run_agg u2, run_agg u3, c1, c2, c3, v1, v2, v3]
/-! ### the closure -/
theorem Outs.some {H : PH} {b1 b2 b3 : Nat} {v : Value} {x y : Int} (h : Outs H b1 b2 b3 v x y) : ∀ g, g = b1 ∨ g = b2 ∨ g = b3 → H g ≠ none := by
  rintro g (rfl | rfl | rfl)
  · rw [h.a1]; exact fun e => by cases e
  · rw [h.a2]; exact fun e => by cases e
  · rw [h.a3]; exact fun e => by cases e
theorem closure_den {X : List PanicEntry → PH → Prop} {E : List Value} {H : PH} {K : Ex × St → List Value → PH → LK → Prop} (h : den Tryz.prog X fmC_read_Read_1 E H [] K) :
    den Tryz.prog X (execC Tryz.prog { pub := [], nojoin := false } rest_read_Read_1 ((addRes (st00 Tryz.f21 [(.sc (.ptr)), (.sc (.ptr)), (.sc (.ptr))]) (some 6) (.sc .any)).set (some 3) ⟨[], .sc (.atom (st00 Tryz.f21 [(.sc (.ptr)), (.sc (.ptr)), (.sc (.ptr))]).tags.length)⟩)) E H [] K := by
  have e : (st00 Tryz.f21 [(.sc (.ptr)), (.sc (.ptr)), (.sc (.ptr))]).tags.length = 3 := rfl
  rw [e, fmC_read_Read_1_eq]
  exact h
theorem ends_ret {R : Ending → PH → Prop} {H : PH} {b1 b2 b3 : Nat} {v : Value} {x y : Int} (h : Outs H b1 b2 b3 v x y) (hR : R (.returned (.tuple #[v, .int .i64 x, .int .i64 y])) H) :
    Ends Tryz.prog Tryz.f10 n_read_Read_1 #[pA b1, pA b2, pA b3] (readPr b1 b2 b3) R .returning H := by
  intro w hw
  refine (closure_calls (op := { pub := [], nojoin := false }) (rest := rest_read_Read_1) (d1 := 6) (d2 := 3) (rsl := [(.sc (.ptr)), (.sc (.ptr)), (.sc (.ptr))]) (E := [pA b1, pA b2, pA b3]) (R := fun H' => H' = H) Tryz.func21 rfl rfl rfl rfl rfl Recov.none rfl (by decide) rfl (closure_den ?_) w hw).mono ?_
  · refine den_neqNil (v := .nilIface) uAny rfl (.inl rfl) ?_
    exact ⟨fun h => (by cases h), fun _ => ⟨trivial, rfl⟩⟩
  · rintro e u' w' ⟨rfl, rfl, H', hadv, rfl⟩
    exact ⟨rfl, rfl, H', hadv, fun tmps ht => ⟨_, read_results h hadv.vis ht, hR⟩⟩
theorem ends_pan {R : Ending → PH → Prop} {H : PH} {b1 b2 b3 : Nat} {v : Value} {x y a e : Int} (h : Outs H b1 b2 b3 v x y) (ha : Tag.ok (.int .i64) (.int .i64 a) = true) (he : Tag.ok (.int .i64) (.int .i64 e) = true)
    (hR : ∀ H', (∀ g, g ≠ b1 → g ≠ b2 → g ≠ b3 → H' g = H g) → R (.returned (.tuple #[.slice none 0 0, .int .i64 a, .int .i64 e])) H') :
    Ends Tryz.prog Tryz.f10 n_read_Read_1 #[pA b1, pA b2, pA b3] (readPr b1 b2 b3) R (.panicking [{ v := troubleV a e, recovered := false, goexit := false }]) H := by
  intro w hw
  refine (closure_calls (op := { pub := [], nojoin := false }) (rest := rest_read_Read_1) (d1 := 6) (d2 := 3) (rsl := [(.sc (.ptr)), (.sc (.ptr)), (.sc (.ptr))]) (E := [pA b1, pA b2, pA b3])
    (R := fun H' => Outs H' b1 b2 b3 (.slice none 0 0) a e ∧ ∀ g, g ≠ b1 → g ≠ b2 → g ≠ b3 → H' g = H g) Tryz.func21 rfl rfl rfl rfl rfl (Recov.some _ []) rfl (by decide) rfl (closure_den ?_) w hw).mono ?_
  · refine den_neqNil (v := troubleV a e) uAny rfl (.inr ⟨_, _, rfl⟩) ?_
    refine ⟨fun _ => ?_, fun h => (by cases h)⟩
    refine den_assert (a := .int .i64 a) (b := .int .i64 e) ha he rfl ?_
    refine ⟨fun zs H' => zs = [] ∧ H' = H, ?_, ?_⟩
    · rintro zs H' _ ⟨rfl, hH⟩
      rw [hH]
      refine den_p1 rfl h rfl rfl fun H1 o1 k1 => ?_
      refine den_p2 rfl o1 rfl fun H2 o2 k2 => ?_
      refine den_p3 rfl o2 rfl fun H3 o3 k3 => ?_
      exact ⟨trivial, o3, fun g g1 g2 g3 => by rw [k3 g g3, k2 g g2, k1 g g1]⟩
    · exact ⟨fun h => (by cases h), fun _ => ⟨_, lookup_hit, rfl, rfl⟩⟩
  · rintro e' u' w' ⟨rfl, rfl, H', hadv, ho, hk⟩
    exact ⟨rfl, rfl, H', hadv, fun tmps ht => ⟨_, read_results ho hadv.vis ht, hR H' hk⟩⟩

/-! ### how its loop stands -/
/-- a row w with the things l grows beside the reader at p; the cells hold v, 0, 0 -/
structure Lp (S H : PH) (b1 b2 b3 p : Nat) (lv : Value) (k en : Nat) (l : List Dat) (w v : Value) : Prop where
  x : RX S H p lv k en
  r : Row S H 34 l w
  o : Outs H b1 b2 b3 v 0 0
  s : ∀ g, g = b1 ∨ g = b2 ∨ g = b3 → S g = none
  wp : ob w ≠ some p
  wb : ∀ g, g = b1 ∨ g = b2 ∨ g = b3 → ob w ≠ some g
  pb : ∀ g, g = b1 ∨ g = b2 ∨ g = b3 → g ≠ p
section
variable {S H S' H' : PH} {b1 b2 b3 p k k' en : Nat} {lv w w' v : Value} {l l' : List Dat}
theorem Lp.ext (h : Lp S H b1 b2 b3 p lv k en l w v) (x : Ext S H S' H') : Lp S' H' b1 b2 b3 p lv k en l w v :=
  ⟨h.x.ext x, h.r.ext x, h.o.le x.h, fun g hg => by
    cases hs : S' g with
    | none => rfl
    | some o => exact absurd (x.n g (h.s g hg) (by rw [hs]; exact fun e => by cases e)) (h.o.some g hg), h.wp, h.wb, h.pb⟩
theorem Lp.aside (h : Lp S H b1 b2 b3 p lv k en l w v) (hs : PH.le S S') (hx : RX S' H' p lv k' en) (ha : Aside p S H S' H') : Lp S' H' b1 b2 b3 p lv k' en l w v :=
  have key : ∀ g, g = b1 ∨ g = b2 ∨ g = b3 → S' g = none ∧ H' g = H g := fun g hg => ha g (h.pb g hg) (h.s g hg) (h.o.some g hg)
  ⟨hx, h.r.aside h.wp hs ha, h.o.of (key _ (.inl rfl)).2 (key _ (.inr (.inl rfl))).2 (key _ (.inr (.inr rfl))).2, fun g hg => (key g hg).1, h.wp, h.wb, h.pb⟩
theorem Lp.went (h : Lp S H b1 b2 b3 p lv k en l w v) (hr : Row S H' 34 l' w') (hw : Went H H' w w') (hs : PH.le S H') : Lp S H' b1 b2 b3 p lv k en l' w' v :=
  have key : ∀ g, g = b1 ∨ g = b2 ∨ g = b3 → H' g = H g := fun g hg => by
    cases e : H g with
    | none => exact absurd e (h.o.some g hg)
    | some o => exact hw.keep g o e fun e' => h.wb g hg e'.symm
  ⟨⟨hs, h.x.off, hw.keep _ _ h.x.at_ fun e => h.wp e.symm⟩, hr, h.o.of (key _ (.inl rfl)) (key _ (.inr (.inl rfl))) (key _ (.inr (.inr rfl))), h.s,
    fun e => (hw.fresh p e).elim h.wp fun e => (by rw [h.x.at_] at e; cases e), fun g hg e => (hw.fresh g e).elim (h.wb g hg) fun e => h.o.some g hg e, h.pb⟩
theorem Lp.cell (h : Lp S H b1 b2 b3 p lv k en l w v) (ho : Outs H' b1 b2 b3 w' 0 0) (hk : ∀ g, g ≠ b1 → H' g = H g) : Lp S H' b1 b2 b3 p lv k en l w w' :=
  have hle : PH.le S H' := fun g o hg => by
    rw [hk g fun e => (by rw [h.s g (.inl e)] at hg; cases hg)]
    exact h.x.le g o hg
  ⟨⟨hle, h.x.off, by rw [hk p fun e => h.pb b1 (.inl rfl) e.symm]; exact h.x.at_⟩, h.r.aside (h.wb b1 (.inl rfl)) (PH.le_refl _) fun g hg hs _ => ⟨hs, hk g hg⟩, ho, h.s, h.wp, h.wb, h.pb⟩
variable {X : List PanicEntry → PH → Prop} {β : Type} {E : List Value} {L : LK} {K : β → List Value → PH → LK → Prop}
theorem put_both {f : Fm β} {z d : Dat} {cs : List SV} {ces : List Value} {b : Option Addr} {c : Nat} (h : Lp S H b1 b2 b3 p lv k en (l ++ [z]) w v) (hE1 : E.getD 1 (.bool false) = pA b1) (hE11 : E.getD 11 (.bool false) = .slice b l.length c) (hE17 : E.getD 17 (.bool false) = w)
    (hcs : cs.map (ev0 E) = ces) (h1 : ∀ u ∈ ces, oneC u = true) (hd : CsR S d ces) (hk : ∀ H', Lp S H' b1 b2 b3 p lv k en (l ++ [d]) w w → den Tryz.prog X f E H' L K) :
    den Tryz.prog X (.chk [] (.inSl (.atom 17) (.len (.atom 11))) (.both (.store (.elt (.atom 17) (.len (.atom 11)) 4) cs (.store (.atom 1) [(.atom 17)] f)) (.store (.atom 1) [(.atom 17)] (.store (.elt (.atom 17) (.len (.atom 11)) 4) cs f)))) E H L K := by
  have eset : (l ++ [z]).set l.length d = l ++ [d] := by simp
  have hone : oneC w = true := by obtain ⟨b', c', e⟩ := h.r.sl; rw [e]; rfl
  refine ⟨fun _ => ?_, ?_, ?_⟩
  · obtain ⟨g1, _⟩ := h.r.get (i := l.length) (a := z) (by simp)
    obtain ⟨b', c', e⟩ := h.r.sl
    simp only [Chk.holds, ev0, ev, hE11, hE17, iOf, slLen]
    refine ⟨g1, by omega, ?_⟩
    rw [e]
    show ((l.length : Nat) : Int) < (((l ++ [z]).length : Nat) : Int)
    simp; omega
  · obtain ⟨ad, ha, hp⟩ := h.r.put (Ψ := fun _ _ => False) (i := l.length) (a' := d) (ces := ces) (by simp) h1 hd
    refine ⟨ad, ?_, ?_⟩
    · show pOf (eltV (E.getD 17 (.bool false)) (iOf (.int .i64 (slLen (E.getD 11 (.bool false))))) 4) = _
      rw [hE11, hE17]; exact ha
    · rw [hcs]
      refine hp fun H1 r1 w1 => ?_
      rw [eset] at r1
      have hs1 : PH.le S H1 := fun g o hg => w1.keep g o (h.x.le g o hg) fun e => by rw [h.r.off g e.symm] at hg; cases hg
      have h2 := h.went r1 w1 hs1
      exact den_p1 hE1 h2.o hE17 hone fun H2 o2 k2 => hk _ (h2.cell o2 k2)
  · refine den_p1 hE1 h.o hE17 hone fun H2 o2 k2 => ?_
    have h2 := h.cell o2 k2
    obtain ⟨ad, ha, hp⟩ := h2.r.put (Ψ := fun _ _ => False) (i := l.length) (a' := d) (ces := ces) (by simp) h1 hd
    refine ⟨ad, ?_, ?_⟩
    · show pOf (eltV (E.getD 17 (.bool false)) (iOf (.int .i64 (slLen (E.getD 11 (.bool false))))) 4) = _
      rw [hE11, hE17]; exact ha
    · rw [hcs]
      refine hp fun H1 r1 w1 => ?_
      rw [eset] at r1
      have hs1 : PH.le S H1 := fun g o hg => w1.keep g o (h2.x.le g o hg) fun e => by rw [h2.r.off g e.symm] at hg; cases hg
      exact hk _ (h2.went r1 w1 hs1)
end
end Go.Proofs.YtlnmmakbgldflaaGreatDoor.Vc
/-
  SOURCE: the program's Read.
-/
namespace Go.Proofs.YtlnmmakbgldflaaGreatDoor.Vc
open Go

/-- is this the region that makes the closure and defers it? -/
def regOf (d : Nat) (g : FuncId) (x y z : Nat) : Code → Bool
  | .region _ ⟨[{ dst := some d', op := .makeFunc (.func g') ⟨[]⟩ ⟨[.tmp x', .tmp y', .tmp z']⟩, type := _, pos := _, after := _, guard := none }, { dst := none, op := .defer { callee := .value (.tmp d2), args := ⟨[]⟩, argTypes := ⟨[]⟩ }, type := _, pos := _, after := _, guard := none }]⟩ false => decide (d' = d) && decide (g' = g) && decide (x' = x) && decide (y' = y) && decide (z' = z) && decide (d2 = d)
  | _ => false
theorem regOf_eq {d : Nat} {g : FuncId} {x y z : Nat} {c : Code} (h : regOf d g x y z c = true) : ∃ rid ty ty2 pos pos2 af af2, c = Code.region rid #[{ dst := some d, op := .makeFunc (.func g) #[] #[.tmp x, .tmp y, .tmp z], type := ty, pos := pos, after := af, guard := none }, { dst := none, op := .defer { callee := .value (.tmp d), args := #[], argTypes := #[] }, type := ty2, pos := pos2, after := af2, guard := none }] false := by
  unfold regOf at h
  split at h
  · simp only [Bool.and_eq_true, decide_eq_true_eq] at h
    obtain ⟨⟨⟨⟨⟨rfl, rfl⟩, rfl⟩, rfl⟩, rfl⟩, rfl⟩ := h
    exact ⟨_, _, _, _, _, _, _, rfl⟩
  · cases h
theorem body_read : Tryz.f10.body = some (seqR (partA Tryz.f10) ((partR Tryz.f10).seq (partB Tryz.f10))) := by kernel_rfl
theorem reg_read : regOf 17 n_read_Read_1 2 3 4 (partR Tryz.f10) = true := by kernel_rfl
theorem opsOk : ((opersC (partB Tryz.f10)).all fun o => match o.dst with | some k => decide (2 ≠ k) && (decide (3 ≠ k) && (decide (4 ≠ k) && true)) | none => true) = true := by kernel_rfl
theorem rel_slots {st : St} {E : List Value} {r : Nat → Nat} {H H0 : PH} {a : Act} {w w0 : World} {b1 b2 b3 : Nat} (hR : Rel (.plain []) H0 w0 st E r H a w) (h2 : st.fr[2]? = some ⟨[], .sc (.atom 1)⟩) (h3 : st.fr[3]? = some ⟨[], .sc (.atom 2)⟩) (h4 : st.fr[4]? = some ⟨[], .sc (.atom 3)⟩)
    (e1 : E.getD 1 (.bool false) = pA b1) (e2 : E.getD 2 (.bool false) = pA b2) (e3 : E.getD 3 (.bool false) = pA b3) : (#[Operand.tmp 2, .tmp 3, .tmp 4] : Array Operand).map a.eval = #[pA b1, pA b2, pA b3] ∧ ∀ y ∈ readPr b1 b2 b3, a.tmps.getD y.1 undef = y.2 := by
  have s2 : a.tmps.getD 2 undef = pA b1 := ((hR.fr 2 _ h2 (fun h => by cases h)).1 (fun x hx => by cases hx)).trans e1
  have s3 : a.tmps.getD 3 undef = pA b2 := ((hR.fr 3 _ h3 (fun h => by cases h)).1 (fun x hx => by cases hx)).trans e2
  have s4 : a.tmps.getD 4 undef = pA b3 := ((hR.fr 4 _ h4 (fun h => by cases h)).1 (fun x hx => by cases hx)).trans e3
  have t2 : a.eval (.tmp 2) = pA b1 := s2
  have t3 : a.eval (.tmp 3) = pA b2 := s3
  have t4 : a.eval (.tmp 4) = pA b3 := s4
  refine ⟨by simp [t2, t3, t4], fun y hy => ?_⟩
  simp only [readPr, List.mem_cons, List.not_mem_nil, or_false] at hy
  rcases hy with rfl | rfl | rfl
  · exact s2
  · exact s3
  · exact s4
theorem outs_new {H : PH} {b1 b2 b3 : Nat} (n1 : H b1 = none) (n2 : (H.upd b1 (.cells #[.slice none 0 0] 22 (0, 0))) b2 = none) (n3 : ((H.upd b1 (.cells #[.slice none 0 0] 22 (0, 0))).upd b2 (.cells #[.int .i64 0] 3 (0, 0))) b3 = none) :
    PH.le H (((H.upd b1 (.cells #[.slice none 0 0] 22 (0, 0))).upd b2 (.cells #[.int .i64 0] 3 (0, 0))).upd b3 (.cells #[.int .i64 0] 23 (0, 0))) ∧
    Outs (((H.upd b1 (.cells #[.slice none 0 0] 22 (0, 0))).upd b2 (.cells #[.int .i64 0] 3 (0, 0))).upd b3 (.cells #[.int .i64 0] 23 (0, 0))) b1 b2 b3 (.slice none 0 0) 0 0 ∧ ∀ g, g = b1 ∨ g = b2 ∨ g = b3 → H g = none := by
  have h12 : b1 ≠ b2 := fun e => by rw [← e, PH.upd_same] at n2; cases n2
  have h23 : b2 ≠ b3 := fun e => by rw [← e, PH.upd_same] at n3; cases n3
  have h13 : b1 ≠ b3 := fun e => by rw [← e, PH.upd_other h12, PH.upd_same] at n3; cases n3
  have m2 : H b2 = none := by rw [PH.upd_other h12.symm] at n2; exact n2
  have m3 : H b3 = none := by rw [PH.upd_other h23.symm, PH.upd_other h13.symm] at n3; exact n3
  refine ⟨PH.le_trans (PH.le_trans (PH.le_upd n1) (PH.le_upd n2)) (PH.le_upd n3), ⟨?_, ?_, PH.upd_same, h12, h13, h23⟩, ?_⟩
  · rw [PH.upd_other h13, PH.upd_other h12, PH.upd_same]
  · rw [PH.upd_other h23, PH.upd_same]
  · rintro g (rfl | rfl | rfl)
    · exact n1
    · exact m2
    · exact m3
theorem Outs.p1 {H : PH} {E : List Value} {b1 b2 b3 m n : Nat} {v : Value} {x y : Int} (h : Outs H b1 b2 b3 v x y) (hE : E.getD m (.bool false) = pA b1) (hv : E.getD n (.bool false) = v) : pendOk E H [((.atom m), [(.atom n)])] := by
  intro z hz
  simp only [List.mem_cons, List.not_mem_nil, or_false] at hz
  subst hz
  show rowAt H (pOf (E.getD m (.bool false))) [E.getD n (.bool false)]
  rw [hE, hv]; exact rowAt_one h.a1
theorem Outs.p3 {H : PH} {E : List Value} {b1 b2 b3 m n : Nat} {v : Value} {x y : Int} (h : Outs H b1 b2 b3 v x y) (hE : E.getD m (.bool false) = pA b3) (hv : E.getD n (.bool false) = .int .i64 y) : pendOk E H [((.atom m), [(.atom n)])] := by
  intro z hz
  simp only [List.mem_cons, List.not_mem_nil, or_false] at hz
  subst hz
  show rowAt H (pOf (E.getD m (.bool false))) [E.getD n (.bool false)]
  rw [hE, hv]; exact rowAt_one h.a3
theorem Outs.p2 {H : PH} {E : List Value} {b1 b2 b3 m n : Nat} {v : Value} {x y : Int} (h : Outs H b1 b2 b3 v x y) (hE : E.getD m (.bool false) = pA b2) (hv : E.getD n (.bool false) = .int .i64 x) : pendOk E H [((.atom m), [(.atom n)])] := by
  intro z hz
  simp only [List.mem_cons, List.not_mem_nil, or_false] at hz
  subst hz
  show rowAt H (pOf (E.getD m (.bool false))) [E.getD n (.bool false)]
  rw [hE, hv]; exact rowAt_one h.a2
theorem pendOk_cons {E : List Value} {H : PH} {x : SV × List SV} {l : List (SV × List SV)} (h1 : pendOk E H [x]) (h2 : pendOk E H l) : pendOk E H (x :: l) := by
  intro z hz
  rcases List.mem_cons.1 hz with rfl | hz
  · exact h1 _ (List.mem_cons_self ..)
  · exact h2 z hz
theorem nilR {H : PH} {α : Type} [Enc α] : SlR H ([] : List α) (.slice none 0 0) := SlR.mk_iff.2 ⟨Nat.zero_le _, .inl ⟨rfl, rfl⟩⟩

set_option maxHeartbeats 4000000 in
theorem LRead_tri (s : List UInt8) (hs : s.length ≤ maxLen) (H : PH) (hE : Errs H) : GivesR n_read_Read [txt s] H (readS s) := by
  obtain ⟨rid, ty, ty2, pos, pos2, af, af2, hreg⟩ := regOf_eq reg_read
  have hbody := body_read
  rw [hreg] at hbody
  refine deferred_tri (op := { pub := [2, 3, 4, 22], nojoin := false }) (A := partA Tryz.f10) (B := partB Tryz.f10) (g := n_read_Read_1) (d := 17) (caps := #[.tmp 2, .tmp 3, .tmp 4]) (E := [txt s]) Tryz.func10 cb_read_Read_1 hbody (by rfl) (by rfl) (by rfl) ?_
  rw [fmA_read_Read_eq]
  intro b1 n1 b2 n2 b3 n3
  obtain ⟨hle, o0, m0⟩ := outs_new n1 n2 n3
  refine den_call cb_lex_Tokens (Tri.ext hle (fun e K hK => hK.choose_spec.2.2) (LTokens_tri s hs H hE)) ?_
  rintro e H4 ⟨S, ⟨lv, rfl, hsl, hS⟩, x4⟩
  obtain ⟨lb, lc, rfl⟩ := hsl.sl
  refine ⟨_, [_, _, _], rfl, rfl, rfl, pendNil, ?_⟩
  have o4 := o0.le x4.h
  have hSb : ∀ g, g = b1 ∨ g = b2 ∨ g = b3 → S g = none := fun g hg => by
    cases hs : S g with
    | none => rfl
    | some o => exact absurd (x4.n g (m0 g hg) (by rw [hs]; exact fun e => by cases e)) (o0.some g hg)
  refine den_p2 rfl o4 rfl fun H5 o5 k5 => ?_
  refine den_p3 rfl o5 rfl fun H6 o6 k6 => ?_
  have hSH : PH.le S H6 := fun g o hg => by
    rw [k6 g fun e => (by rw [hSb g (.inr (.inr e))] at hg; cases hg), k5 g fun e => (by rw [hSb g (.inr (.inl e))] at hg; cases hg)]
    exact x4.i g o hg
  refine den_o3 rfl o6 ⟨fun h => ?_, fun h => ?_⟩
  · -- the lexer's error
    refine den_o2 rfl o6 (den_o3 rfl o6 (den_p1 rfl o6 rfl rfl fun H7 o7 k7 => ⟨pendOk_cons (o7.p3 rfl rfl) (o7.p2 rfl rfl), den_p2 rfl o7 rfl fun H8 o8 k8 => ⟨o8.p3 rfl rfl, den_p3 rfl o8 rfl fun H9 o9 k9 => ?_⟩⟩))
    intro H0 w0 r a w hR
    obtain ⟨_, hsl9⟩ := rel_slots hR rfl rfl rfl rfl rfl rfl
    refine ⟨_, read_results o9 hR.vis hsl9, .slice none 0 0, ?_, ?_, ?_⟩
    · cases htk : tokens s with
      | bad a e => rw [readS, htk]; rfl
      | all ts => simp only [ev0, ev, evV, List.cons_append, List.nil_append, List.getD_cons_zero, List.getD_cons_succ, List.map_cons, List.map_nil, iOf, bOf, sOf, pOf, slLen, slBase, cmpI, arI, Value.ite_bool, int_beq, int_bne, ite_band, ite_bor, htk] at h; exact absurd h (by simp [Toks.err])
    · cases htk : tokens s with
      | bad a e => rw [readS, htk]; exact nilR
      | all ts => simp only [ev0, ev, evV, List.cons_append, List.nil_append, List.getD_cons_zero, List.getD_cons_succ, List.map_cons, List.map_nil, iOf, bOf, sOf, pOf, slLen, slBase, cmpI, arI, Value.ite_bool, int_beq, int_bne, ite_band, ite_bor, htk] at h; exact absurd h (by simp [Toks.err])
    · intro g o hg
      have q : ∀ x, x = b1 ∨ x = b2 ∨ x = b3 → g ≠ x := fun x hx e => by rw [e, m0 x hx] at hg; cases hg
      rw [k9 g (q _ (.inr (.inr rfl))), k8 g (q _ (.inr (.inl rfl))), k7 g (q _ (.inl rfl))]
      exact hSH g o (hS g o hg)
  · obtain ⟨ts, htk⟩ : ∃ ts, tokens s = .all ts := by
      cases htk : tokens s with
      | bad a e =>
        have he : e ≠ 0 := fun h => tokens_bad0 s a (by rw [htk, h])
        simp only [ev0, ev, evV, List.cons_append, List.nil_append, List.getD_cons_zero, List.getD_cons_succ, List.map_cons, List.map_nil, iOf, bOf, sOf, pOf, slLen, slBase, cmpI, arI, Value.ite_bool, int_beq, int_bne, ite_band, ite_bor, htk, Toks.err] at h
        simp [he] at h
      | all ts => exact ⟨ts, rfl⟩
    refine ⟨by decide, by rfl, #[pA b1, pA b2, pA b3], readPr b1 b2 b3, fun H0 w0 r a w hR => rel_slots hR rfl rfl rfl rfl rfl rfl, ?_, ?_, ?_⟩
    · intro y hy
      simp only [readPr, List.mem_cons, List.not_mem_nil, or_false] at hy
      rcases hy with rfl | rfl | rfl
      · show (2 : Nat) ≠ 17; decide
      · show (3 : Nat) ≠ 17; decide
      · show (4 : Nat) ≠ 17; decide
    · intro o ho k hk
      have := List.all_eq_true.1 opsOk o ho
      rw [hk] at this
      exact this
    show den Tryz.prog _ (execC Tryz.prog { pub := [2, 3, 4, 22], nojoin := false } (partB Tryz.f10) (addRes stA_read_Read (some 17) (.sc .any))) _ _ _ _
    rw [fmB_read_Read_eq]
    obtain ⟨hs4, h8, hTR⟩ := (tokens_TR s ts).1 htk
    have hkinds := hTR.kinds hs4
    have hread : readS s = runR s.length ts [] [] := by rw [readS, htk]
    simp only [htk, Toks.list, Toks.err, Toks.at_] at hsl o6 ⊢
    intro p hp
    have hpb : ∀ g, g = b1 ∨ g = b2 ∨ g = b3 → g ≠ p := fun g hg e => o6.some g hg (by rw [e]; exact hp)
    have lp0 : Lp S (H6.upd p (rb (.slice lb ts.length lc) 0 s.length)) b1 b2 b3 p (.slice lb ts.length lc) 0 s.length [] (.slice none 0 0) (.slice none 0 0) :=
      ⟨⟨PH.le_trans hSH (PH.le_upd hp), PH.none_of_le hSH hp, PH.upd_same⟩, Row.nil _ _ _, o6.le (PH.le_upd hp), hSb, (fun h => by cases h), (fun _ _ h => by cases h), hpb⟩
    refine ⟨fun m vs H' => ∃ (S1 : PH) (k1 : Nat) (l : List Dat) (v : Value), vs = [] ∧ PH.le S S1 ∧ Lp S1 H' b1 b2 b3 p (.slice lb ts.length lc) k1 s.length l v v ∧ k1 ≤ ts.length ∧ m = (ts.drop k1).length ∧ Dats.cnt l + 2 * m ≤ 2 * ts.length ∧ readS s = runR s.length (ts.drop k1) [] l,
      ⟨ts.length, S, 0, [], _, rfl, PH.le_refl _, lp0, Nat.zero_le _, rfl, by simp [Dats.cnt], hread⟩, ?_⟩
    rintro m vs H8 _ ⟨S1, k1, l, v, rfl, hS1, lp, hk1, rfl, hc, hrun⟩
    have hs1 := hsl.le hS1
    have hcl := Dats.cnt_le l
    have hm4 : ts.length ≤ 4096 := by omega
    have hdl1 : (ts.drop k1).length = ts.length - k1 := List.length_drop
    obtain ⟨b, c, rfl⟩ := lp.r.sl
    refine den_rsome rfl (den_r1 rfl lp.x ⟨fun h1 => ?_, fun h1 => ?_⟩)
    · simp only [ev0, ev, evV, List.cons_append, List.nil_append, List.getD_cons_zero, List.getD_cons_succ, List.map_cons, List.map_nil, iOf, bOf, sOf, pOf, slLen, slBase, cmpI, arI, Value.ite_bool, int_beq, int_bne, ite_band, ite_bor, decide_eq_true_eq] at h1
      have hne : ts.drop k1 ≠ [] := fun e => by rw [e, List.length_nil] at hdl1; omega
      have hask : Asked [] (ts.drop k1) := ⟨fun _ _ _ _ => by decide, fun _ _ _ _ => by decide, by decide, .inl hne, by simp⟩
      have pan : ∀ {H9 : PH} {a x : Int} {v : Value}, Outs H9 b1 b2 b3 v 0 0 → PH.le S H9 → (∀ out, runR s.length (ts.drop k1) [] out = .bad a x) →
          ∃ v older, [{ v := troubleV a x, recovered := false }] = ({ v, recovered := false, goexit := false } : PanicEntry) :: older ∧ Ends Tryz.prog Tryz.f10 n_read_Read_1 #[pA b1, pA b2, pA b3] (readPr b1 b2 b3) (fun e H' => ∃ v, e = .returned (.tuple #[v, .int .i64 (readS s).at_, .int .i64 (readS s).err]) ∧ SlR H' (readS s).list v ∧ PH.le H H') (.panicking [{ v := troubleV a x, recovered := false }]) H9 := by
        intro H9 a x v o9 hS9 hr
        rw [hr] at hrun
        refine ⟨_, [], rfl, ends_pan o9 rfl rfl fun H' hk => ⟨.slice none 0 0, by rw [hrun]; rfl, by rw [hrun]; exact nilR, fun g o hg => ?_⟩⟩
        have q : ∀ x, x = b1 ∨ x = b2 ∨ x = b3 → g ≠ x := fun x hx e => by rw [e, m0 x hx] at hg; cases hg
        rw [hk g (q _ (.inl rfl)) (q _ (.inr (.inl rfl))) (q _ (.inr (.inr rfl)))]
        exact hS9 g o (hS g o hg)
      have go : ∀ {S9 H9 : PH} {k5 : Nat} {d : Dat} {v7 : Value}, PH.le S S9 → Lp S9 H9 b1 b2 b3 p (.slice lb ts.length lc) k5 s.length (l ++ [d]) v7 v7 → k5 ≤ ts.length → (ts.drop k5).length < (ts.drop k1).length → d.cnt + 2 * (ts.drop k5).length ≤ 2 * (ts.drop k1).length →
          (∀ out, runR s.length (ts.drop k1) [] out = runR s.length (ts.drop k5) (endedS [] d).1 (out ++ (endedS [] d).2.toList)) → ∃ m, m < (ts.drop k1).length ∧ ∃ (S1 : PH) (k1 : Nat) (l : List Dat) (v : Value), ([] : List Value) = [] ∧ PH.le S S1 ∧ Lp S1 H9 b1 b2 b3 p (.slice lb ts.length lc) k1 s.length l v v ∧ k1 ≤ ts.length ∧ m = (ts.drop k1).length ∧ Dats.cnt l + 2 * m ≤ 2 * ts.length ∧ readS s = runR s.length (ts.drop k1) [] l := by
        intro S9 H9 k5 d v7 g1 g2 g3 g4 g5 g6
        refine ⟨_, g4, S9, k5, l ++ [d], v7, rfl, g1, g2, g3, rfl, ?_, ?_⟩
        · rw [Dats.cnt_append]; simp only [Dats.cnt]; omega
        · rw [hrun, g6]; rfl
      have hzero : ∀ S : PH, CsR S (Dat.mk 0 0 [] []) [.int .i64 0, .int .i64 0, txt [], .slice none 0 0] := fun S => Dat.plain_rep' (by decide) (by decide) (Nat.zero_le _)
      have n1 : l.length + [Dat.mk 0 0 [] []].length ≤ maxLen := by simp only [maxLen, List.length_cons, List.length_nil]; omega
      have n2 : (l.length + [Dat.mk 0 0 [] []].length) * 56 ≤ 140737488355328 := by simp only [List.length_cons, List.length_nil]; omega
      refine den_o1 rfl lp.o ⟨_, _, _, rfl⟩ ⟨?_, ?_⟩
      · refine den_callP cb_read_reader__datum (RDone.within lp.x (datum_tri hm4 hkinds (ts.drop k1).length S1 k1 [] lp.x.off hs1 hk1 (Nat.le_refl _) hask)) ?_
        rintro e H9 (⟨S5, k5, d, cs, rfl, q2, q3, q4, q5, q6, q7, q8, q9⟩ | ⟨a, x, rfl, q2, q4, q3⟩)
        rotate_left
        · exact pan (lp.o.of (q4 _ (lp.pb _ (.inl rfl)) (lp.s _ (.inl rfl)) (lp.o.some _ (.inl rfl))) (q4 _ (lp.pb _ (.inr (.inl rfl))) (lp.s _ (.inr (.inl rfl))) (lp.o.some _ (.inr (.inl rfl)))) (q4 _ (lp.pb _ (.inr (.inr rfl))) (lp.s _ (.inr (.inr rfl))) (lp.o.some _ (.inr (.inr rfl))))) (PH.le_trans hS1 q2) q3
        have lp5 := lp.aside q2 q3 q9
        obtain ⟨dv, rfl, y1, y2, y3, y4⟩ := Dat.Rep_iff.1 q4
        obtain ⟨db, dc, rfl⟩ := y4.sl
        refine ⟨[.int .i64 d.kind, .int .i64 d.int, txt d.text, .slice db d.list.length dc], rfl, rfl, lp5.o.p1 rfl rfl, ?_⟩
        refine den_rowLit (l := [Dat.mk 0 0 [] []]) (b := 56) [.agg #[.int .i64 0, .int .i64 0, txt [], .slice none 0 0]] uDats elemDat rfl (by decide) (by decide) q3.le rfl (.cons (hzero _) .nil) (lp5.o.p1 rfl rfl) fun v6 S6 H6 x6 h6 _ => ?_
        have lp6 := lp5.ext x6
        refine den_rowAppend (b := 56) uDats elemDat rfl rfl lp6.x.le lp6.r h6 n1 n2 fun v7 H7 r7 w7 s7 => ⟨pendNil, ?_⟩
        have lp7 := lp6.went r7 w7 s7
        refine put_both (d := d) (ces := [.int .i64 d.kind, .int .i64 d.int, txt d.text, .slice db d.list.length dc]) lp7 rfl rfl rfl rfl (by intro u hu; simp only [List.mem_cons, List.not_mem_nil, or_false] at hu; rcases hu with rfl | rfl | rfl | rfl <;> rfl) (q4.le x6.s) fun H' lp8 => ?_
        exact ⟨_, lookup_hit, go (PH.le_trans hS1 (PH.le_trans q2 x6.s)) lp8 q5 (by simpa using q6) (by simpa using q7) q8⟩
      · refine den_rowLit (l := [Dat.mk 0 0 [] []]) (b := 56) [.agg #[.int .i64 0, .int .i64 0, txt [], .slice none 0 0]] uDats elemDat rfl (by decide) (by decide) lp.x.le rfl (.cons (hzero _) .nil) (lp.o.p1 rfl rfl) fun v6 S6 H6 x6 h6 _ => ?_
        have lp6 := lp.ext x6
        refine den_callP cb_read_reader__datum (RDone.within lp6.x (datum_tri hm4 hkinds (ts.drop k1).length S6 k1 [] lp6.x.off (hs1.le x6.s) hk1 (Nat.le_refl _) hask)) ?_
        rintro e H9 (⟨S5, k5, d, cs, rfl, q2, q3, q4, q5, q6, q7, q8, q9⟩ | ⟨a, x, rfl, q2, q4, q3⟩)
        rotate_left
        · exact pan (lp6.o.of (q4 _ (lp6.pb _ (.inl rfl)) (lp6.s _ (.inl rfl)) (lp6.o.some _ (.inl rfl))) (q4 _ (lp6.pb _ (.inr (.inl rfl))) (lp6.s _ (.inr (.inl rfl))) (lp6.o.some _ (.inr (.inl rfl)))) (q4 _ (lp6.pb _ (.inr (.inr rfl))) (lp6.s _ (.inr (.inr rfl))) (lp6.o.some _ (.inr (.inr rfl))))) (PH.le_trans hS1 (PH.le_trans x6.s q2)) q3
        have lp5 := lp6.aside q2 q3 q9
        obtain ⟨dv, rfl, y1, y2, y3, y4⟩ := Dat.Rep_iff.1 q4
        obtain ⟨db, dc, rfl⟩ := y4.sl
        refine ⟨[.int .i64 d.kind, .int .i64 d.int, txt d.text, .slice db d.list.length dc], rfl, rfl, lp5.o.p1 rfl rfl, ?_⟩
        refine den_rowAppend (b := 56) uDats elemDat rfl rfl lp5.x.le lp5.r (h6.le q2) n1 n2 fun v7 H7 r7 w7 s7 => ⟨pendNil, ?_⟩
        have lp7 := lp5.went r7 w7 s7
        refine put_both (d := d) (ces := [.int .i64 d.kind, .int .i64 d.int, txt d.text, .slice db d.list.length dc]) lp7 rfl rfl rfl rfl (by intro u hu; simp only [List.mem_cons, List.not_mem_nil, or_false] at hu; rcases hu with rfl | rfl | rfl | rfl <;> rfl) q4 fun H' lp8 => ?_
        exact ⟨_, lookup_hit, go (PH.le_trans hS1 (PH.le_trans x6.s q2)) lp8 q5 (by simpa using q6) (by simpa using q7) q8⟩
    · simp only [ev0, ev, evV, List.cons_append, List.nil_append, List.getD_cons_zero, List.getD_cons_succ, List.map_cons, List.map_nil, iOf, bOf, sOf, pOf, slLen, slBase, cmpI, arI, Value.ite_bool, int_beq, int_bne, ite_band, ite_bor, decide_eq_false_iff_not] at h1
      have hd0 : ts.drop k1 = [] := List.drop_eq_nil_of_le (by omega)
      have hr : readS s = .all l := by rw [hrun, hd0]; simp [runR]
      obtain ⟨S9, f1, f2, f3, f4⟩ := lp.r.freeze lp.x.le
      refine den_o1 rfl lp.o ⟨_, _, _, rfl⟩ (den_p1 rfl lp.o rfl rfl fun H9 o9 k9 => den_p2 rfl o9 rfl fun H10 o10 k10 => den_p3 rfl o10 rfl fun H11 o11 k11 => ⟨trivial, ends_ret o11 ⟨_, by rw [hr]; rfl, ?_⟩⟩)
      have h911 : PH.le S9 H11 := fun g o hg => by
        have q : ∀ x, x = b1 ∨ x = b2 ∨ x = b3 → g ≠ x := fun x hx e => by
          subst e
          exact lp.wb g hx (f4 g (lp.s g hx) (by rw [hg]; exact fun e => by cases e))
        rw [k11 g (q _ (.inr (.inr rfl))), k10 g (q _ (.inr (.inl rfl))), k9 g (q _ (.inl rfl))]
        exact f3 g o hg
      rw [hr]
      exact ⟨f1.le h911, PH.le_trans hS (PH.le_trans hS1 (PH.le_trans f2 h911))⟩
end Go.Proofs.YtlnmmakbgldflaaGreatDoor.Vc
/-
  SOURCE: the two Writes; the fixed calls; what all statements of this seat ask.
-/
namespace Go.Proofs.YtlnmmakbgldflaaGreatDoor.Vc
open Go Go.ChangeShapes Go.WideShapes Go.ChangeAt Go.RowKit

abbrev tabsR : List (String × DataW Unit) := [("math/bits.deBruijn32tab", Rows.laid_math_bits_deBruijn32tab), ("math/bits.deBruijn64tab", Rows.laid_math_bits_deBruijn64tab), ("internal/strconv.uint64pow10", Rows.laid_internal_strconv_uint64pow10), ("unicode/utf8.acceptRanges", Rows.laid_unicode_utf8_acceptRanges), ("strconv.ErrRange", Rows.laid_strconv_ErrRange), ("strconv.ErrSyntax", Rows.laid_strconv_ErrSyntax), ("unicode/utf8.first", Rows.laid_unicode_utf8_first)]
theorem tabR_of_laid {W : World} (h : laidMetH Tryz.prog tabsR W) : Tab (whole W) := by
  have h1 : laidMet Tryz.prog tabsR W := h
  have h3 := laidMet_tail (laidMet_tail h1)
  have ht : Lib.TabIs Tryz.prog W "internal/strconv.uint64pow10" .u64 Lib.pow10Tab := Lib.tabIs_of_head (k := .u64) (zs := Lib.pow10Tab) gPow tPow uPow uPowE cPowE cPow h3
  unfold Lib.TabIs World.var? at ht
  rw [gPow] at ht
  simp only [Option.bind_some] at ht
  cases hb : W.heap[3]? with
  | none => rw [hb] at ht; cases ht
  | some o =>
    rw [hb] at ht
    cases o with
    | cells cs e f =>
      simp only [Option.some.injEq] at ht
      exact ⟨3, e, f, gPow, by unfold whole; rw [hb, ht]⟩
    | _ => cases ht
theorem trod_iface {H : Type} {enc : TypeId × Value → H} {P : Program} {w : World} {base : Nat} {sp : Nat → Bool} {held : Bool} {fuel : Nat} {t : TypeId} {ms} {cs : List Value} {x : DataW H × List MemPlace} (ht : P.underlying t = some (.interface ms)) (h : DataW.trod enc P w base sp held fuel t cs = some x) : ∃ v, cs = [v] ∧ IfaceV v := by
  cases fuel with
  | zero => simp [DataW.trod] at h
  | succ fuel =>
    simp only [DataW.trod, ht] at h
    split at h
    all_goals first
      | (rename_i heq; cases heq; done)
      | (rename_i heq; cases heq; exact ⟨_, rfl, .inl rfl⟩)
      | (rename_i heq; cases heq; exact ⟨_, rfl, .inr ⟨_, _, rfl⟩⟩)
      | exact ⟨_, rfl, .inl rfl⟩
      | exact ⟨_, rfl, .inr ⟨_, _, rfl⟩⟩
      | cases h
theorem err_of_laid {W : World} {n : String} {d : DataW Unit} {rest : List (String × DataW Unit)} {g : Nat} (hg : Tryz.prog.globalNamed n = some g) (hty : (Tryz.prog.globals[g]?).map (·.type) = some 104) (h : laidMet Tryz.prog ((n, d) :: rest) W) : ErrC (whole W) g := by
  obtain ⟨ps, ⟨g', t', cs, fuel, p, q, hg', ht', hvar, hd, _, _⟩, _⟩ := h
  obtain rfl := Option.some.inj (hg.symm.trans hg')
  obtain rfl := Option.some.inj (hty.symm.trans ht')
  obtain ⟨v, hv, hi⟩ := trod_iface Tryz.underlying104 hd
  unfold World.var? at hvar
  rw [hg] at hvar
  simp only [Option.bind_some] at hvar
  cases hb : W.heap[g]? with
  | none => rw [hb] at hvar; cases hvar
  | some o =>
    rw [hb] at hvar
    cases o with
    | cells cs' e f =>
      simp only [Option.some.injEq] at hvar
      subst hvar
      refine ⟨v, ?_, hi⟩
      unfold PH.cell? whole
      simp only [hb, Option.bind_some]
      have : cs' = #[v] := by cases cs'; simp_all
      rw [this]; rfl
    | _ => cases hvar
theorem errs_of_laid {W : World} (h : laidMetH Tryz.prog tabsR W) : Errs (whole W) := by
  have h1 : laidMet Tryz.prog tabsR W := h
  have h5 := laidMet_tail (laidMet_tail (laidMet_tail (laidMet_tail h1)))
  exact ⟨err_of_laid (by kernel_rfl) (by kernel_rfl) (laidMet_tail h5), err_of_laid (by kernel_rfl) (by kernel_rfl) h5⟩
noncomputable def laidWorldR (os : Os) : World := World.laidAll Tryz.prog os tabsR

/-! ### the two Writes -/
/-- what data say as a source -/
def writeL : List Dat → List UInt8 → List UInt8 × Int
  | [], acc => (acc, 0)
  | d :: ds, acc => if (d.chk 0 0).2 = 0 then writeL ds (acc ++ (d.txtL false ++ [10])) else ([], (d.chk 0 0).2)
theorem den_accTxt {X : List PanicEntry → PH → Prop} {β : Type} {H0 H : PH} {E : List Value} {L : LK} {K : β → List Value → PH → LK → Prop} {ty : TypeId} {x : Operand} {args : List (Nat × VE)} {k : Fm β} {l : List UInt8} {w : Value} (hx : argEv E args x = w) (hacc : Acc H0 H 5 l w) (hk : den Tryz.prog X k (E ++ [txt l]) H L K) : den Tryz.prog X (.sem (.convert 39 9 x) ty args (.sc .str) [] k) E H L K := by
  show wpS _ (execOp (argEv E args) (bare _ ty)) _ _ H
  rw [exec_convert, hx]
  have hs := hacc.slR
  rcases (SlR.mk_iff.1 hs).2 with ⟨hbv, he⟩ | ⟨g, c', hbv, h3, h4, h5⟩
  · rw [he] at hk
    rw [hbv]
    exact wpS_toText_nil uBytes uString uByte ⟨[_], rfl, rfl, pendNil, hk⟩
  · rw [hbv]
    refine wpS_toText uBytes uString uByte (fun j x hj => ?_) ⟨[_], rfl, rfl, pendNil, hk⟩
    obtain ⟨xs, g1, g2, g3⟩ := RepRows.cells h5
    refine g3 j x ?_
    have key : ∀ (l : List UInt8) (xs : List Value), PV.RepRow H (l.flatMap pv) xs → xs = l.map encB := by
      intro l
      induction l with
      | nil => intro xs h; simpa [PV.RepRow] using h
      | cons a l ih =>
        intro xs h
        rw [List.flatMap_cons] at h
        have h' : PV.RepRow H (.int .u8 (a.toNat : Int) :: l.flatMap pv) xs := h
        simp only [PV.RepRow, PV.Rep] at h'
        obtain ⟨v, vs, rfl, ⟨rfl, _⟩, h2⟩ := h'
        rw [ih vs h2]; rfl
    rw [key _ _ g1]; exact hj
theorem cat_val (a b : List UInt8) : Value.string ((⟨a.toArray⟩ : ByteArray) ++ ⟨b.toArray⟩) = txt (a ++ b) := by rw [cat_txt]
theorem good_len {d : Dat} (h : (d.chk 0 0).2 = 0) : (d.txtL false).length ≤ 67600000 := Dat.Good.len ⟨0, 0, by omega, h⟩ false
theorem LWrite_gives (l : List Dat) (v : Value) (H : PH) (hl : SlR H l v) (hn : l.length ≤ 1048576) (ht : Tab H) : Gives Tryz.prog n_read_Write [v] H (.tuple #[txt (writeL l []).1, .int .i64 (writeL l []).2]) := by
  obtain ⟨b, c, rfl⟩ := hl.sl
  refine tri_read_Write [.slice b l.length c] (by rfl) (by rfl) ?_
  refine ⟨fun m vs H' => ∃ (k : Nat) (acc : List UInt8) (w : Value), vs = [txt [], .int .i64 0, w, .int .i64 k] ∧ k + m = l.length ∧ Acc H H' 5 acc w ∧ writeL l [] = writeL (l.drop k) acc ∧ acc.length ≤ k * 67600001, ⟨l.length, 0, [], .slice none 0 0, rfl, by omega, Acc.nil _ _, rfl, by simp⟩, ?_⟩
  rintro m vs H1 _ ⟨k, acc, w, rfl, hk, ha, hw, hal⟩
  obtain ⟨wb, wc, rfl⟩ := ha.sl
  have hs1 := hl.le ha.all
  refine ⟨fun h1 => ?_, fun h1 => ?_⟩
  · simp only [ev0, ev, evV, List.cons_append, List.nil_append, List.getD_cons_zero, List.getD_cons_succ, List.map_cons, List.map_nil, iOf, bOf, sOf, pOf, slLen, slBase, cmpI, arI, Value.ite_bool, int_beq, int_bne, ite_band, ite_bor, decide_eq_true_eq] at h1
    have hkl : k < l.length := by omega
    obtain ⟨d, hkd⟩ : ∃ d, l[k]? = some d := ⟨_, List.getElem?_eq_getElem hkl⟩
    rw [drop_cons hkd, writeL] at hw
    obtain ⟨g1, _, ces, g2, g3⟩ := hs1.get hkd
    have g2' := g2
    obtain ⟨dv, rfl, y1, y2, y3, y4⟩ := Dat.Rep_iff.1 g2
    obtain ⟨db, dc, rfl⟩ := y4.sl
    refine ⟨fun _ => ?_, [.int .i64 d.kind, .int .i64 d.int, txt d.text, .slice db d.list.length dc], rfl, ?_, ?_⟩
    · simp only [Chk.holds, ev0, ev, evV, List.cons_append, List.nil_append, List.getD_cons_zero, List.getD_cons_succ, List.map_cons, List.map_nil, iOf, bOf, sOf, pOf, slLen, slBase, cmpI, arI, Value.ite_bool, int_beq, int_bne, ite_band, ite_bor]; exact ⟨g1, by omega, by omega⟩
    · simp only [ev0, ev, evV, List.cons_append, List.nil_append, List.getD_cons_zero, List.getD_cons_succ, List.map_cons, List.map_nil, iOf, bOf, sOf, pOf, slLen, slBase, cmpI, arI, Value.ite_bool, int_beq, int_bne, ite_band, ite_bor]; exact g3
    refine den_gives [txt (d.textL false), .int .i64 (d.chk 0 0).2] cb_data_Text (DText_gives d _ H1 g2' (ht.le ha.all)) rfl pendNil fun H2 l2 => ⟨fun h2 => ?_, fun h2 => ?_⟩
    · simp only [ev0, ev, evV, List.cons_append, List.nil_append, List.getD_cons_zero, List.getD_cons_succ, List.map_cons, List.map_nil, iOf, bOf, sOf, pOf, slLen, slBase, cmpI, arI, Value.ite_bool, int_beq, int_bne, ite_band, ite_bor, decide_eq_true_eq] at h2
      rw [hw, if_neg h2]
      exact ⟨rfl, PH.le_trans ha.all l2⟩
    · simp only [ev0, ev, evV, List.cons_append, List.nil_append, List.getD_cons_zero, List.getD_cons_succ, List.map_cons, List.map_nil, iOf, bOf, sOf, pOf, slLen, slBase, cmpI, arI, Value.ite_bool, int_beq, int_bne, ite_band, ite_bor, decide_eq_false_iff_not, ne_eq, Decidable.not_not] at h2
      rw [if_pos h2] at hw
      have ht2 : d.textL false = d.txtL false := by rw [Dat.textL, if_pos h2]
      have hgl := good_len h2
      have hlen : (d.txtL false ++ [10]).length ≤ 67600001 := by simp; omega
      refine ⟨fun _ => ?_, ?_⟩
      · have hmax : IntKind.i64.max = 9223372036854775807 := rfl
        simp only [Chk.holds, ev0, ev, evV, List.cons_append, List.nil_append, List.getD_cons_zero, List.getD_cons_succ, List.map_cons, List.map_nil, iOf, bOf, sOf, pOf, slLen, slBase, cmpI, arI, Value.ite_bool, int_beq, int_bne, ite_band, ite_bor, txt_size, ht2, hmax, List.length_cons, List.length_nil]; omega
      refine den_appendTxt (H0 := H) (e := 5) (l := acc) (more := d.txtL false ++ [10]) uBytes uString elemByte rfl ?_ (ha.mono l2) (by omega) fun v' H3 a3 w3 => ⟨pendNil, ?_⟩
      · rw [← cat_val, ← ht2]; rfl
      refine ⟨_, lookup_hit, m - 1, by omega, k + 1, acc ++ (d.txtL false ++ [10]), v', ?_, by omega, a3, hw, ?_⟩
      · simp only [ev0, ev, evV, List.cons_append, List.nil_append, List.getD_cons_zero, List.getD_cons_succ, List.map_cons, List.map_nil, iOf, bOf, sOf, pOf, slLen, slBase, cmpI, arI, Value.ite_bool, int_beq, int_bne, ite_band, ite_bor]; rw [w64 (by omega) (by omega)]; rfl
      · rw [List.length_append]; omega
  · simp only [ev0, ev, evV, List.cons_append, List.nil_append, List.getD_cons_zero, List.getD_cons_succ, List.map_cons, List.map_nil, iOf, bOf, sOf, pOf, slLen, slBase, cmpI, arI, Value.ite_bool, int_beq, int_bne, ite_band, ite_bor, decide_eq_false_iff_not] at h1
    rw [List.drop_eq_nil_of_le (by omega), writeL] at hw
    rw [hw]
    exact den_accTxt rfl ha ⟨rfl, ha.all⟩
theorem RWrite_gives (l : List Dat) (v : Value) (H : PH) (hl : SlR H l v) (hn : l.length ≤ 1048576) : Gives Tryz.prog n_scrimshawref04_Write [v] H (.tuple #[txt (writeL l []).1, .int .i64 (writeL l []).2]) := by
  obtain ⟨b, c, rfl⟩ := hl.sl
  refine tri_scrimshawref04_Write [.slice b l.length c] (by rfl) (by rfl) ?_
  refine ⟨fun m vs H' => ∃ (k : Nat) (acc : List UInt8), vs = [txt [], .int .i64 0, txt acc, .int .i64 k] ∧ k + m = l.length ∧ PH.le H H' ∧ writeL l [] = writeL (l.drop k) acc ∧ acc.length ≤ k * 67600001, ⟨l.length, 0, [], rfl, by omega, PH.le_refl _, rfl, by simp⟩, ?_⟩
  rintro m vs H1 _ ⟨k, acc, rfl, hk, ha, hw, hal⟩
  have hs1 := hl.le ha
  have hmax : IntKind.i64.max = 9223372036854775807 := rfl
  refine ⟨fun h1 => ?_, fun h1 => ?_⟩
  · simp only [ev0, ev, evV, List.cons_append, List.nil_append, List.getD_cons_zero, List.getD_cons_succ, List.map_cons, List.map_nil, iOf, bOf, sOf, pOf, slLen, slBase, cmpI, arI, Value.ite_bool, int_beq, int_bne, ite_band, ite_bor, decide_eq_true_eq] at h1
    have hkl : k < l.length := by omega
    obtain ⟨d, hkd⟩ : ∃ d, l[k]? = some d := ⟨_, List.getElem?_eq_getElem hkl⟩
    rw [drop_cons hkd, writeL] at hw
    obtain ⟨g1, _, ces, g2, g3⟩ := hs1.get hkd
    have g2' := g2
    obtain ⟨dv, rfl, y1, y2, y3, y4⟩ := Dat.Rep_iff.1 g2
    obtain ⟨db, dc, rfl⟩ := y4.sl
    refine ⟨fun _ => ?_, [.int .i64 d.kind, .int .i64 d.int, txt d.text, .slice db d.list.length dc], rfl, ?_, ?_⟩
    · simp only [Chk.holds, ev0, ev, evV, List.cons_append, List.nil_append, List.getD_cons_zero, List.getD_cons_succ, List.map_cons, List.map_nil, iOf, bOf, sOf, pOf, slLen, slBase, cmpI, arI, Value.ite_bool, int_beq, int_bne, ite_band, ite_bor]; exact ⟨g1, by omega, by omega⟩
    · simp only [ev0, ev, evV, List.cons_append, List.nil_append, List.getD_cons_zero, List.getD_cons_succ, List.map_cons, List.map_nil, iOf, bOf, sOf, pOf, slLen, slBase, cmpI, arI, Value.ite_bool, int_beq, int_bne, ite_band, ite_bor]; exact g3
    refine den_gives [.int .i64 (d.chk 0 0).2] cb_scrimshawref02_Check (RCheckF_gives d _ H1 g2') rfl pendNil fun H2 l2 => ⟨fun h2 => ?_, fun h2 => ?_⟩
    · simp only [ev0, ev, evV, List.cons_append, List.nil_append, List.getD_cons_zero, List.getD_cons_succ, List.map_cons, List.map_nil, iOf, bOf, sOf, pOf, slLen, slBase, cmpI, arI, Value.ite_bool, int_beq, int_bne, ite_band, ite_bor, decide_eq_true_eq] at h2
      rw [hw, if_neg h2]
      exact ⟨rfl, PH.le_trans ha l2⟩
    · simp only [ev0, ev, evV, List.cons_append, List.nil_append, List.getD_cons_zero, List.getD_cons_succ, List.map_cons, List.map_nil, iOf, bOf, sOf, pOf, slLen, slBase, cmpI, arI, Value.ite_bool, int_beq, int_bne, ite_band, ite_bor, decide_eq_false_iff_not, ne_eq, Decidable.not_not] at h2
      rw [if_pos h2] at hw
      have hgl := good_len h2
      refine ⟨[.int .i64 d.kind, .int .i64 d.int, txt d.text, .slice db d.list.length dc], rfl, ?_, ?_⟩
      · simp only [ev0, ev, evV, List.cons_append, List.nil_append, List.getD_cons_zero, List.getD_cons_succ, List.map_cons, List.map_nil, iOf, bOf, sOf, pOf, slLen, slBase, cmpI, arI, Value.ite_bool, int_beq, int_bne, ite_band, ite_bor]; exact rowAt_le l2 g3
      refine den_gives [txt (d.txtL false)] cb_scrimshawref02_Text (RText_gives d false _ H2 (Dat.Rep.le l2 d g2') (by omega)) rfl pendNil fun H3 l3 => ⟨fun _ => ?_, fun _ => ?_, ?_⟩
      · simp only [Chk.holds, ev0, ev, evV, List.cons_append, List.nil_append, List.getD_cons_zero, List.getD_cons_succ, List.map_cons, List.map_nil, iOf, bOf, sOf, pOf, slLen, slBase, cmpI, arI, Value.ite_bool, int_beq, int_bne, ite_band, ite_bor, txt_size, hmax, List.length_cons, List.length_nil]; omega
      · simp only [Chk.holds, ev0, ev, evV, List.cons_append, List.nil_append, List.getD_cons_zero, List.getD_cons_succ, List.map_cons, List.map_nil, iOf, bOf, sOf, pOf, slLen, slBase, cmpI, arI, Value.ite_bool, int_beq, int_bne, ite_band, ite_bor, cat_txt, txt_size, hmax, List.length_append, List.length_cons, List.length_nil]; omega
      refine ⟨_, lookup_hit, m - 1, by omega, k + 1, acc ++ (d.txtL false ++ [10]), ?_, by omega, PH.le_trans ha (PH.le_trans l2 l3), hw, ?_⟩
      · simp only [ev0, ev, evV, List.cons_append, List.nil_append, List.getD_cons_zero, List.getD_cons_succ, List.map_cons, List.map_nil, iOf, bOf, sOf, pOf, slLen, slBase, cmpI, arI, Value.ite_bool, int_beq, int_bne, ite_band, ite_bor, cat_txt]; rw [w64 (by omega) (by omega)]; rfl
      · simp only [List.length_append, List.length_cons, List.length_nil]; omega
  · simp only [ev0, ev, evV, List.cons_append, List.nil_append, List.getD_cons_zero, List.getD_cons_succ, List.map_cons, List.map_nil, iOf, bOf, sOf, pOf, slLen, slBase, cmpI, arI, Value.ite_bool, int_beq, int_bne, ite_band, ite_bor, decide_eq_false_iff_not] at h1
    rw [List.drop_eq_nil_of_le (by omega), writeL] at hw
    rw [hw]
    exact ⟨rfl, ha⟩

/-! ### the fixed calls -/
theorem Read_call {X : List PanicEntry → PH → Prop} {β : Type} {E : List Value} {L : LK} {K : β → List Value → PH → LK → Prop} {H : PH} {f : FuncId} {args : List VE} {k : Fm β} {s : List UInt8} (hok : callB Tryz.prog f = true) (ha : args.map (evV E fun _ => 0) = [txt s]) (h : GivesR f [txt s] H (readS s))
    (hk : ∀ v H', SlR H' (readS s).list v → PH.le H H' → den Tryz.prog X k (E ++ [v, .int .i64 (readS s).at_, .int .i64 (readS s).err]) H' L K) : den Tryz.prog X (.call (.fn f) args (.tu [(false, [.sl]), (false, [.int .i64]), (false, [.int .i64])]) [] k) E H L K := by
  refine den_call hok (by rw [ha]; exact h) ?_
  rintro e H' ⟨v, rfl, h1, h2⟩
  obtain ⟨b, c, rfl⟩ := h1.sl
  exact ⟨_, [_, _, _], rfl, rfl, rfl, pendNil, hk _ _ h1 h2⟩
def rx1 : List Dat := [.mk 5 0 [] [.mk 4 0 [97] [], .mk 4 0 [98] [], .mk 4 0 [99] []], .mk 5 0 [] [.mk 4 0 [113, 117, 111, 116, 101] [], .mk 4 0 [120] []]]
theorem read_f1 : readS [40, 97, 32, 46, 32, 40, 98, 32, 99, 41, 41, 32, 39, 120] = .all rx1 := by kernel_rfl
theorem read_f2 : readS [40, 97, 32, 46, 32, 98, 32, 99, 41] = .bad 7 42 := by kernel_rfl
theorem read_f3 : readS [40, 97] = .bad 2 41 := by kernel_rfl
theorem write_f1 : writeL rx1 [] = ([40, 97, 32, 98, 32, 99, 41, 10, 40, 113, 117, 111, 116, 101, 32, 120, 41, 10], 0) := by decide +kernel
theorem fixedR_gives (H : PH) (hE : Errs H) (hT : Tab H) : Gives Tryz.prog n_scrimshawlaw04_fixed [] H (.bool true) := by
  refine tri_scrimshawlaw04_fixed [] (by kernel_rfl) (by kernel_rfl) ?_
  refine Read_call (s := [40, 97, 32, 46, 32, 40, 98, 32, 99, 41, 41, 32, 39, 120]) cb_read_Read rfl (LRead_tri _ (by simp [maxLen]) H hE) fun v H1 h1 l1 => ?_
  refine Read_call (s := [40, 97, 32, 46, 32, 98, 32, 99, 41]) cb_read_Read rfl (LRead_tri _ (by simp [maxLen]) H1 (hE.le l1)) fun v2 H2 h2 l2 => ?_
  refine Read_call (s := [40, 97]) cb_read_Read rfl (LRead_tri _ (by simp [maxLen]) H2 (hE.le (PH.le_trans l1 l2))) fun v3 H3 h3 l3 => ?_
  rw [read_f1] at h1 ⊢
  rw [read_f2] at h2 ⊢
  rw [read_f3] at h3 ⊢
  obtain ⟨b, c, rfl⟩ := h1.sl
  refine ⟨fun h => (by cases h), fun _ => ?_⟩
  have hw := LWrite_gives rx1 _ H3 (h1.le (PH.le_trans l2 l3)) (by decide) (hT.le (PH.le_trans l1 (PH.le_trans l2 l3)))
  rw [write_f1] at hw
  refine den_gives [txt [40, 97, 32, 98, 32, 99, 41, 10, 40, 113, 117, 111, 116, 101, 32, 120, 41, 10], .int .i64 0] cb_read_Write hw rfl pendNil fun H4 l4 => ⟨?_, PH.le_trans l1 (PH.le_trans l2 (PH.le_trans l3 l4))⟩
  simp only [ev0, ev, evV, List.cons_append, List.nil_append, List.getD_cons_zero, List.getD_cons_succ, List.map_cons, List.map_nil, iOf, bOf, sOf, pOf, slLen, slBase, cmpI, arI, Value.ite_bool, int_beq, int_bne, ite_band, ite_bor, cmpS, beq_self_eq_true]
  rfl

theorem SourceWrites_gives (l : List Dat) (v : Value) (H : PH) (hl : SlR H l v) (hn : l.length ≤ 1048576) (hE : Errs H) (hT : Tab H) : Gives Tryz.prog n_scrimshawlaw04_SourceWrites [v] H (.bool true) := by
  obtain ⟨b, c, rfl⟩ := hl.sl
  refine tri_scrimshawlaw04_SourceWrites [.slice b l.length c] (by kernel_rfl) (by kernel_rfl) ?_
  refine den_gives [txt (writeL l []).1, .int .i64 (writeL l []).2] cb_read_Write (LWrite_gives l _ H hl hn hT) rfl pendNil fun H1 l1 => ?_
  refine den_gives [txt (writeL l []).1, .int .i64 (writeL l []).2] cb_scrimshawref04_Write (RWrite_gives l _ H1 (hl.le l1) hn) rfl pendNil fun H2 l2 => ?_
  refine den_gives [.bool true] cb_scrimshawlaw04_fixed (fixedR_gives H2 (hE.le (PH.le_trans l1 l2)) (hT.le (PH.le_trans l1 l2))) rfl pendNil fun H3 l3 => ⟨?_, PH.le_trans l1 (PH.le_trans l2 l3)⟩
  simp only [ev0, ev, evV, List.cons_append, List.nil_append, List.getD_cons_zero, List.getD_cons_succ, List.map_cons, List.map_nil, iOf, bOf, sOf, pOf, slLen, slBase, cmpI, arI, Value.ite_bool, int_beq, int_bne, ite_band, ite_bor, txt_eql]
  simp
end Go.Proofs.YtlnmmakbgldflaaGreatDoor.Vc

