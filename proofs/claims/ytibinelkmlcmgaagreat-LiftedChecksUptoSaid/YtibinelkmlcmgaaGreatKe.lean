/-
  Texts on the way to the statement, one behind the other, without what it does not reach.
-/
import Derived.Test.YtibinelkmlcmgaaGreatKd
import Derived.Recover
set_option linter.unusedSimpArgs false
set_option linter.unusedVariables false
set_option maxRecDepth 100000
/-
  A FUNCTION THAT DEFERS A CLOSURE, in pieces: what goes on ahead of it, what goes on behind it, and the closure where the function leaves. No program in sight.
-/
namespace Go.Proofs.YtibinelkmlcmgaaGreat.Vc
open Go

section
variable {P : Program} {D : Prot} {H0 : PH} {w0 : World} {X : List PanicEntry → PH → Prop}
/-- where a function begins -/
def st00 (fn : Func) (rsl : List RS) : St :=
  { fr := paramEs 0 rsl ++ List.replicate (fn.ntmps - rsl.length) none0, bx := [], nb := 0, nl := 0, tags := rsl.flatMap RS.tags, as := [], kn := [], its := [] }
theorem rel_start {fn : Func} {rsl : List RS} {args : Array Value} {E : List Value} {H : PH} {w : World} (hv : Vis H w) (hpl : rsl.all RS.plain = true) (hE : tagsOk (rsl.flatMap RS.tags) E = true) (hargs : args.toList = packAll rsl E) :
    Rel (.plain []) H w (st00 fn rsl) E (fun _ => 0) H { tmps := args ++ Array.replicate (fn.ntmps - args.size) undef, defers := [] } w := by
  obtain ⟨p1, p2, p3⟩ := paramEs_ev (r := fun _ => 0) rsl [] E hpl hE
  have hsz : args.size = rsl.length := by rw [← p2, ← hargs]; simp
  refine { adv := .refl hv, tags := hE, size := ?_, df := rfl, fr := ?_, bx := (fun b hb => by cases hb), inj := (fun b hb => by cases hb), nd := List.nodup_nil, as := (fun x hx => by cases hx), kn := (fun c hc => by cases hc) }
  · simp only [st00, List.length_append, List.length_replicate, Array.size_append, Array.size_replicate]
    have : (paramEs 0 rsl).length = rsl.length := p1
    rw [this, hsz]
  · intro t e he hj
    have hp1 : (paramEs 0 rsl).length = rsl.length := p1
    simp only [st00, List.getElem?_append, hp1] at he
    have hget : ({ tmps := args ++ Array.replicate (fn.ntmps - args.size) undef, defers := [] } : Act).tmps.getD t undef = if t < args.size then args.toList.getD t undef else undef := by
      simp only [Array.getD_eq_getD_getElem?, Array.getElem?_append, List.getD_eq_getElem?_getD, Array.getElem?_toList]
      split
      · rfl
      · simp only [Array.getElem?_replicate]
        split <;> rfl
    rw [hget]
    by_cases ht : t < rsl.length
    · rw [if_pos ht] at he
      obtain ⟨v, hv', hg, hev⟩ := p3 t e he
      rw [if_pos (by rw [hsz]; exact ht), hargs, List.getD_eq_getElem?_getD, hv', hg]
      refine ⟨fun _ => ?_, fun h => absurd (fun x hx => by cases hx) h⟩
      rw [← hev]; rfl
    · rw [if_neg ht] at he
      rw [if_neg (by rw [hsz]; exact ht)]
      have : e = none0 := by
        rw [List.getElem?_replicate] at he
        split at he
        · cases he; rfl
        · cases he
      subst this
      exact ⟨fun _ => rfl, fun _ => rfl⟩
end

section
variable {P : Program}
/-- these calls are deferred, and these slots stay as they are -/
def Prot.keep (l : List Deferred) (pr : List (Nat × Value)) : Prot :=
  ⟨fun a => a.defers = l ∧ ∀ y ∈ pr, a.tmps.getD y.1 undef = y.2, fun d => pr.all fun y => decide (y.1 ≠ d),
    fun a d v hd h => ⟨h.1, fun y hy => by
      have := List.all_eq_true.1 hd y hy
      rw [decide_eq_true_eq] at this
      rw [← h.2 y hy]
      simp only [Act.put, Array.getD_eq_getD_getElem?, Array.getElem?_setIfInBounds, if_neg (Ne.symm this)]⟩,
    fun a d v hd h => ⟨h.1, fun y hy => by
      have := List.all_eq_true.1 hd y hy
      rw [decide_eq_true_eq] at this
      rw [← h.2 y hy]
      simp only [Act.put, Array.getD_eq_getD_getElem?, Array.getElem?_setIfInBounds, if_neg (Ne.symm this)]⟩⟩
/-- what recover gives in a frame that leaves so, and how it leaves then -/
inductive Recov : FrameMode → Value → FrameMode → Prop
  | none : Recov .returning .nilIface .returning
  | some (v : Value) (older : List PanicEntry) : Recov (.panicking ({ v, recovered := false, goexit := false } :: older)) v (.panicking ({ v, recovered := true, goexit := false } :: older))
end
end Go.Proofs.YtibinelkmlcmgaaGreat.Vc
/-
  A CLOSURE WITH CAPTURES, executed: its captures come in behind its parameters; and that a function's value is made. No program in sight.
-/
namespace Go.Proofs.YtibinelkmlcmgaaGreat.Vc
open Go

def execFC (P : Program) (op : Opt) (fn : Func) (rsl : List RS) : Fm VE :=
  match fn.body with
  | some c => if rsl.all RS.plain = true then (execC P op c (st00 fn rsl)).bind fun x => match x.1 with
    | .normal => retL P fn x.2
    | .ret => retL P fn x.2
    | .exit _ => .fail 64
    else .fail 66
  | none => .fail 65
theorem execFC_tri {P : Program} {op : Opt} {f : FuncId} {fn : Func} {rsl : List RS} (hf : P.funcs[f]? = some fn) {args : Array Value} {E : List Value} (hE : tagsOk (rsl.flatMap RS.tags) E = true) (hargs : args.toList = packAll rsl E) {H : PH} {R : Ending → PH → Prop}
    (hden : den P (fun c H' => R (.panicked c) H') (execFC P op fn rsl) E H [] (fun ve E' H' _ => R (.returned (evV E' (fun _ => 0) ve)) H')) : Tri P f args H R := by
  intro w hv
  unfold execFC at hden
  split at hden
  · rename_i c hb
    split at hden
    · rename_i hpl
      rw [den_bind] at hden
      refine calls_of_wp hf hb ?_
      have hR := rel_start (fn := fn) hv hpl hE hargs
      refine execC_sound (drawSound P op.pub) c (fun o _ => Prot.plain_may [] o) (st00 fn rsl) E _ H _ w [] _ _ hR hden ?_ ?_
      · intro e st' F r' H' L' a' w' h1 _ _ h4
        cases e with
        | normal =>
          obtain ⟨ve, hk, hrun⟩ := retL_sound h1 h4
          exact ⟨h1.df, _, hrun, H', h1.adv, hk⟩
        | ret =>
          obtain ⟨ve, hk, hrun⟩ := retL_sound h1 h4
          exact ⟨h1.df, _, hrun, H', h1.adv, hk⟩
        | exit j => exact h4.elim
      · rintro ch a' w' ⟨H', h1, h2⟩ hdf
        exact ⟨hdf, H', h1, h2⟩
    · exact hden.elim
  · exact hden.elim
section
variable {P : Program} {X : List PanicEntry → PH → Prop} {β : Type} {E : List Value} {H : PH} {L : LK} {K : β → List Value → PH → LK → Prop}
/-- a function's value is made -/
theorem den_makeFunc {fn : Fn} {first caps : Array Operand} {ty : TypeId} {args : List (Nat × VE)} {k : Fm β} {f : FuncId} (hf : fn = .func f) (hk : den P X k (E ++ [.func (.func f) (first.map (argEv E args)) (caps.map (argEv E args))]) H L K) :
    den P X (.sem (.makeFunc fn first caps) ty args (.sc .any) [] k) E H L K := by
  subst hf
  exact ⟨[_], rfl, rfl, pendNil, hk⟩
/-- a call of a function's value -/
theorem den_callF {i : Nat} {f : FuncId} {first caps : Array Value} {args : List VE} {rs : RS} {pend : List (SV × List SV)} {k : Fm β} {R : Ending → PH → Prop} (hi : E.getD i (.bool false) = .func (.func f) first caps) (hok : callB P f = true)
    (hc : Tri P f (first ++ (args.map (evV E fun _ => 0)).toArray ++ caps) H R)
    (hk : ∀ e H', R e H' → ∃ v vs, e = .returned v ∧ tagsOk rs.tags vs = true ∧ v = rs.pack vs ∧ pendOk E H' pend ∧ den P X k (E ++ vs) H' L K) : den P X (.call (.atom i) args rs pend k) E H L K := by
  refine ⟨f, first, caps, hi, callOk_of hok, hc.mono fun e H' hr => ?_⟩
  obtain ⟨v, vs, rfl, h1, h2, h3, h4⟩ := hk e H' hr
  exact ⟨vs, h1, h2, h3, h4⟩
end
end Go.Proofs.YtibinelkmlcmgaaGreat.Vc
