/-
  A FUNCTION THAT DEFERS A CLOSURE, in pieces: what goes on ahead of it, what goes on behind it, and the closure where the function leaves. No program in sight.
-/
import Derived.Test.YtlnmmakbgldflaaGreatDoorWl
import Derived.Test.YtlnmmakbgldflaaGreatDoorWc
import Derived.Recover
set_option linter.unusedSimpArgs false
set_option linter.unusedVariables false
set_option maxRecDepth 100000
namespace Go.Proofs.YtlnmmakbgldflaaGreatDoor.Vc
open Go

section
variable {P : Program} {D : Prot} {H0 : PH} {w0 : World} {X : List PanicEntry → PH → Prop}
/-- the pieces, one behind the other -/
def execL (P : Program) (op : Opt) : List Code → St → Fm (Ex × St)
  | [], st => .leaf (.normal, st)
  | c :: l, st => (execC P op c st).bind fun x => match x.1 with
    | .normal => execL P op l x.2
    | .ret => .leaf (.ret, x.2)
    | .exit _ => .fail 67
def seqR : List Code → Code → Code
  | [], y => y
  | c :: l, y => c.seq (seqR l y)
def unseq : Code → List Code
  | .seq a b => a :: unseq b
  | c => [c]
def hasDefer : Code → Bool
  | .region _ ops _ => ops.any fun o => match o.op with | .defer _ => true | _ => false
  | _ => false
def partA (fn : Func) : List Code := match fn.body with
  | some c => (unseq c).takeWhile fun c => !hasDefer c
  | none => []
def partR (fn : Func) : Code := match fn.body with
  | some c => (((unseq c).dropWhile fun c => !hasDefer c).headD .skip)
  | none => .skip
def partB (fn : Func) : Code := match fn.body with
  | some c => (match ((unseq c).dropWhile fun c => !hasDefer c).tail with
    | c :: l => seqR ((c :: l).dropLast) (((c :: l).getLast?).getD .skip)
    | [] => .skip)
  | none => .skip
theorem execL_wp {op : Opt} {y : Code} {Q : Exit → Act → World → Prop} {K : Ex × St → List Value → PH → LK → Prop}
    (hn : ∀ st E r H L a w, Rel D H0 w0 st E r H a w → K (.normal, st) E H L → y.wp P Q a w)
    (hr : ∀ st E r H L a w, Rel D H0 w0 st E r H a w → K (.ret, st) E H L → Q .ret a w)
    (hp : ∀ ch a w, PanOf H0 w0 X ch w → D.ok a → Q (.panic ch) a w) :
    ∀ (l : List Code), (∀ c ∈ l, ∀ o ∈ opersC c, D.may o) → ∀ (st : St) (E : List Value) (r : Nat → Nat) (H : PH) (L : LK) (a : Act) (w : World), Rel D H0 w0 st E r H a w → den P X (execL P op l st) E H L K → (seqR l y).wp P Q a w
  | [], _, st, E, r, H, L, a, w, hR, hden => hn st E r H L a w hR hden
  | c :: l, hm, st, E, r, H, L, a, w, hR, hden => by
    simp only [execL] at hden
    rw [den_bind] at hden
    refine wp_seq (execC_sound (drawSound P op.pub) c (hm c (List.mem_cons_self ..)) st E r H a w L _ _ hR hden ?_ hp)
    intro e st' F r' H' L' a' w' h1 _ _ h4
    cases e with
    | normal => exact execL_wp hn hr hp l (fun c' h => hm c' (List.mem_cons_of_mem _ h)) st' (E ++ F) r' H' L' a' w' h1 h4
    | ret => exact hr st' (E ++ F) r' H' L' a' w' h1 h4
    | exit j => exact h4.elim
/-- where a function begins -/
def st00 (fn : Func) (rsl : List RS) : St :=
  { fr := paramEs 0 rsl ++ List.replicate (fn.ntmps - rsl.length) none0, bx := [], nb := 0, nl := 0, tags := rsl.flatMap RS.tags, as := [], kn := [], its := [] }
theorem rel_start {fn : Func} {rsl : List RS} {args : Array Value} {E : List Value} {H : PH} {w : World} (hv : Vis H w) (hpl : rsl.all RS.plain = true) (hE : tagsOk (rsl.flatMap RS.tags) E = true) (hargs : args.toList = packAll rsl E) :
    Rel (.plain []) H w (st00 fn rsl) E (fun _ => 0) H { tmps := args ++ Array.replicate (fn.ntmps - args.size) undef, defers := [] } w := by
  obtain ⟨p1, p2, p3⟩ := paramEs_ev (r := fun _ => 0) rsl [] E hpl hE
  have hsz : args.size = rsl.length := by rw [← p2, ← hargs]; simp
  refine { adv := .refl hv, tags := hE, size := ?_, df := rfl, fr := ?_, bx := (fun b hb => by cases hb), inj := (fun b hb => by cases hb), nd := List.nodup_nil, as := (fun x hx => by cases hx), kn := (fun c hc => by cases hc) }
  · simp only [st00, List.length_append, List.length_replicate, Array.size_append, Array.size_replicate]
    have : (paramEs 0 rsl).length = rsl.length := p1
    rw [this, hsz]
  · intro t e he hj
    have hp1 : (paramEs 0 rsl).length = rsl.length := p1
    simp only [st00, List.getElem?_append, hp1] at he
    have hget : ({ tmps := args ++ Array.replicate (fn.ntmps - args.size) undef, defers := [] } : Act).tmps.getD t undef = if t < args.size then args.toList.getD t undef else undef := by
      simp only [Array.getD_eq_getD_getElem?, Array.getElem?_append, List.getD_eq_getElem?_getD, Array.getElem?_toList]
      split
      · rfl
      · simp only [Array.getElem?_replicate]
        split <;> rfl
    rw [hget]
    by_cases ht : t < rsl.length
    · rw [if_pos ht] at he
      obtain ⟨v, hv', hg, hev⟩ := p3 t e he
      rw [if_pos (by rw [hsz]; exact ht), hargs, List.getD_eq_getElem?_getD, hv', hg]
      refine ⟨fun _ => ?_, fun h => absurd (fun x hx => by cases hx) h⟩
      rw [← hev]; rfl
    · rw [if_neg ht] at he
      rw [if_neg (by rw [hsz]; exact ht)]
      have : e = none0 := by
        rw [List.getElem?_replicate] at he
        split at he
        · cases he; rfl
        · cases he
      subst this
      exact ⟨fun _ => rfl, fun _ => rfl⟩
/-- the region that makes the closure and defers it -/
theorem wp_defer {Q : Exit → Act → World → Prop} {a : Act} {w : World} {id d ty ty2 : Nat} {g : FuncId} {caps : Array Operand} {pos pos2 : String} {af af2 : Array Edge}
    (hd : d < a.tmps.size) (h : Q .normal { (a.put (some d) (.func (.func g) #[] (caps.map a.eval))) with defers := { target := .fn (.func g) (caps.map a.eval), args := #[] } :: a.defers } w) :
    (Code.region id #[{ dst := some d, op := .makeFunc (.func g) #[] caps, type := ty, pos := pos, after := af, guard := none }, { dst := none, op := .defer { callee := .value (.tmp d), args := #[], argTypes := #[] }, type := ty2, pos := pos2, after := af2, guard := none }] false).wp P Q a w := by
  refine wp_region_list ?_
  have e1 : (a.put (some d) (.func (.func g) #[] (caps.map a.eval))).eval (.tmp d) = .func (.func g) #[] (caps.map a.eval) := by
    simp [Act.put, Act.eval, hd]
  simp only [wpList, Region.wanted, if_true]
  refine .inl ?_
  show Oper.upon _ _ _ _ _ _
  simp only [execOp, Instr.makeFunc, Sem.run_bind, Sem.run_pure, Result.andThen_ok, Oper.upon, Array.map_empty]
  refine .inl ?_
  show Oper.upon _ _ _ _ _ _
  simp only [execOp, resolve, Deferred.ofValue, Sem.run_bind, Sem.run_pure, Result.andThen_ok, Oper.upon, e1, Array.map_empty]
  exact h
end

section
variable {P : Program}
/-- these calls are deferred, and these slots stay as they are -/
def Prot.keep (l : List Deferred) (pr : List (Nat × Value)) : Prot :=
  ⟨fun a => a.defers = l ∧ ∀ y ∈ pr, a.tmps.getD y.1 undef = y.2, fun d => pr.all fun y => decide (y.1 ≠ d),
    fun a d v hd h => ⟨h.1, fun y hy => by
      have := List.all_eq_true.1 hd y hy
      rw [decide_eq_true_eq] at this
      rw [← h.2 y hy]
      simp only [Act.put, Array.getD_eq_getD_getElem?, Array.getElem?_setIfInBounds, if_neg (Ne.symm this)]⟩,
    fun a d v hd h => ⟨h.1, fun y hy => by
      have := List.all_eq_true.1 hd y hy
      rw [decide_eq_true_eq] at this
      rw [← h.2 y hy]
      simp only [Act.put, Array.getD_eq_getD_getElem?, Array.getElem?_setIfInBounds, if_neg (Ne.symm this)]⟩⟩
/-- what recover gives in a frame that leaves so, and how it leaves then -/
inductive Recov : FrameMode → Value → FrameMode → Prop
  | none : Recov .returning .nilIface .returning
  | some (v : Value) (older : List PanicEntry) : Recov (.panicking ({ v, recovered := false, goexit := false } :: older)) v (.panicking ({ v, recovered := true, goexit := false } :: older))
theorem wpOpsS_cons {ops : Array Oper} {Q : Exit → Act → List Frame → World → Prop} {i : Nat} {rest : List Nat} {a : Act} {cs : List Frame} {w : World} {o : Oper} (ho : ops[i]? = some o) (hg : o.guard = none) :
    wpOpsS P ops Q (i :: rest) a cs w = (match (execOp a.eval o).run P w with
      | .ok .recover w' => (match recoverD cs with
        | some (v, cs') => wpOpsS P ops Q rest (a.put o.dst v) cs' w'
        | none => wpOpsS P ops Q rest (a.put o.dst .nilIface) cs w')
      | r => o.upon P a (fun a' w' => wpOpsS P ops Q rest a' cs w') (fun e a' w' => Q e a' cs w') r) := by
  simp only [wpOpsS, ho, Region.wanted, hg, if_true]
  rfl
/-- A DEFERRED CLOSURE that asks recover first. -/
theorem closure_calls {op : Opt} {g : FuncId} {fn : Func} {rest : Code} {id d1 d2 ty1 ty2 : Nat} {pos1 pos2 : String} {af1 af2 : Array Edge} {rsl : List RS} {E : List Value} {args : Array Value} {H : PH} {u u' : FrameMode} {v : Value} {R : PH → Prop}
    (hf : P.funcs[g]? = some fn) (hb : fn.body = some ((Code.region id #[{ dst := some d1, op := .call { callee := .builtin .recover, args := #[], argTypes := #[] }, type := ty1, pos := pos1, after := af1, guard := none }, { dst := some d2, op := .assign (.tmp d1), type := ty2, pos := pos2, after := af2, guard := none }] false).seq rest))
    (hres : fn.results = #[]) (hpl : rsl.all RS.plain = true) (hE : tagsOk (rsl.flatMap RS.tags) E = true) (hargs : args.toList = packAll rsl E) (hrec : Recov u v u') (hv : Tag.any.ok v = true) (hd1 : d1 < (st00 fn rsl).fr.length) (hu : (st00 fn rsl).under = true)
    (hden : den P (fun _ _ => False) (execC P op rest ((addRes (st00 fn rsl) (some d1) (.sc .any)).set (some d2) ⟨[], .sc (.atom (st00 fn rsl).tags.length)⟩)) (E ++ [v]) H [] (fun x _ H' _ => (match x.1 with | .exit _ => False | _ => True) ∧ R H')) :
    ∀ w, Vis H w → CallsD P g args u w fun e u1 w' => e = .returned (.tuple #[]) ∧ u1 = u' ∧ ∃ H', Adv H w H' w' ∧ R H' := by
  intro w hw
  refine callsD_of_wpS hf hb fun c₀ cs hu0 => ?_
  have hR0 := rel_start (fn := fn) hw hpl hE hargs
  have hR1 := hR0.res hu (rs := .sc .any) trivial (vs := [v]) (by simp [tagsOk, RS.tags, hv]) (some d1) (fun _ _ => rfl)
  have hlen : (st00 fn rsl).tags.length = E.length := tagsOk_length hR0.tags
  have hR2 := hR1.put (some d2) [] (.sc (.atom (st00 fn rsl).tags.length)) v (fun _ => by rw [hlen]; simp [evV, ev]) (fun h => absurd (fun x hx => by cases hx) h) (fun _ _ => rfl)
  have hsz := hR0.size
  refine wpS_seq (wpS_region ?_)
  show wpOpsS P _ _ [0, 1] _ _ _
  have key : ∀ cs2, rest.wpS P (bodyPostS P fn c₀ cs fun e u1 w' => e = .returned (.tuple #[]) ∧ u1 = u' ∧ ∃ H', Adv H w H' w' ∧ R H') ((({ tmps := args ++ Array.replicate (fn.ntmps - args.size) undef, defers := [] } : Act).put (some d1) v).put (some d2) v) cs2 w ∨ cs2 ≠ { c₀ with mode := u' } :: cs := by
    intro cs2
    by_cases hcs : cs2 = { c₀ with mode := u' } :: cs
    · left
      subst hcs
      refine wpS_of_wp ?_
      refine execC_sound (drawSound P op.pub) rest (fun o _ => Prot.plain_may [] o) _ _ _ _ _ _ [] _ _ hR2 hden ?_ ?_
      · intro e st' F r' H' L' a' w' h1 _ _ h4
        have hdf : a'.defers = [] := h1.df
        cases e with
        | normal => exact ⟨hdf, u', rfl, .tuple #[], by simp [results, hres], rfl, rfl, H', h1.adv, h4.2⟩
        | ret => exact ⟨hdf, u', rfl, .tuple #[], by simp [results, hres], rfl, rfl, H', h1.adv, h4.2⟩
        | exit j => exact h4.1.elim
      · rintro ch a' w' ⟨H', _, h⟩ _; exact h.elim
    · exact .inr hcs
  have ev1 : ∀ x : Value, (({ tmps := args ++ Array.replicate (fn.ntmps - args.size) undef, defers := [] } : Act).put (some d1) x).eval (.tmp d1) = x := by
    intro x
    have : d1 < (args ++ Array.replicate (fn.ntmps - args.size) undef).size := by rw [show (args ++ Array.replicate (fn.ntmps - args.size) undef).size = _ from hsz]; exact hd1
    simp [Act.put, Act.eval, this]
    intro h
    simp only [Array.size_append, Array.size_replicate] at this
    omega
  cases hrec with
  | none =>
    have hcs : c₀ :: cs = { c₀ with mode := .returning } :: cs := by rw [← hu0]
    have k := (key (c₀ :: cs)).resolve_right (fun h => h hcs)
    rw [wpOpsS_cons rfl rfl]
    show (match recoverD (c₀ :: cs) with | some (v, cs') => wpOpsS P _ _ [1] _ cs' w | none => wpOpsS P _ _ [1] _ (c₀ :: cs) w)
    have hrd : recoverD (c₀ :: cs) = none := by simp [recoverD, hu0]
    rw [hrd]
    show wpOpsS P _ _ [1] _ (c₀ :: cs) w
    rw [wpOpsS_cons (o := { dst := some d2, op := .assign (.tmp d1), type := ty2, pos := pos2, after := af2, guard := none }) rfl rfl]
    simp only [execOp, Sem.run_pure, Oper.upon]
    rw [show (#[({ dst := some d1, op := Op.call { callee := Callee.builtin Builtin.recover, args := #[], argTypes := #[] }, type := ty1, pos := pos1, after := af1, guard := none } : Oper), { dst := some d2, op := Op.assign (Operand.tmp d1), type := ty2, pos := pos2, after := af2, guard := none }][0]).dst = some d1 from rfl, ev1]
    exact k
  | some v older =>
    have k := (key ({ c₀ with mode := .panicking ({ v, recovered := true, goexit := false } :: older) } :: cs)).resolve_right (fun h => h rfl)
    rw [wpOpsS_cons rfl rfl]
    show (match recoverD (c₀ :: cs) with | some (v, cs') => wpOpsS P _ _ [1] _ cs' w | none => wpOpsS P _ _ [1] _ (c₀ :: cs) w)
    have hrd : recoverD (c₀ :: cs) = some (v, { c₀ with mode := .panicking ({ v, recovered := true, goexit := false } :: older) } :: cs) := by simp [recoverD, hu0]
    rw [hrd]
    show wpOpsS P _ _ [1] _ ({ c₀ with mode := .panicking ({ v, recovered := true, goexit := false } :: older) } :: cs) w
    rw [wpOpsS_cons (o := { dst := some d2, op := .assign (.tmp d1), type := ty2, pos := pos2, after := af2, guard := none }) rfl rfl]
    simp only [execOp, Sem.run_pure, Oper.upon]
    rw [show (#[({ dst := some d1, op := Op.call { callee := Callee.builtin Builtin.recover, args := #[], argTypes := #[] }, type := ty1, pos := pos1, after := af1, guard := none } : Oper), { dst := some d2, op := Op.assign (Operand.tmp d1), type := ty2, pos := pos2, after := af2, guard := none }][0]).dst = some d1 from rfl, ev1]
    exact k

/-- how a function ends through its deferred closure, where it leaves so and these slots are as they are -/
def Ends (P : Program) (fn : Func) (g : FuncId) (capv : Array Value) (pr : List (Nat × Value)) (R : Ending → PH → Prop) (u : FrameMode) (H : PH) : Prop :=
  ∀ w, Vis H w → CallsD P g capv u w fun e u' w' => e = .returned (.tuple #[]) ∧ settle u' = .returning ∧ ∃ H', Adv H w H' w' ∧
    ∀ tmps : Array Value, (∀ y ∈ pr, tmps.getD y.1 undef = y.2) → ∃ v, (results fn tmps).run P w' = .ok v w' ∧ R (.returned v) H'
/-- what is owed behind the pieces ahead of the closure -/
def DefK (P : Program) (op : Opt) (fn : Func) (g : FuncId) (B : Code) (d : Nat) (caps : Array Operand) (R : Ending → PH → Prop) (x : Ex × St) (E1 : List Value) (H1 : PH) : Prop :=
  match x.1 with
  | .ret => ∀ H0 w0 r a w, Rel (.plain []) H0 w0 x.2 E1 r H1 a w → ∃ v, (results fn a.tmps).run P w = .ok v w ∧ R (.returned v) H1
  | .normal => d < x.2.fr.length ∧ x.2.under = true ∧ ∃ (capv : Array Value) (pr : List (Nat × Value)), (∀ H0 w0 r a w, Rel (.plain []) H0 w0 x.2 E1 r H1 a w → caps.map a.eval = capv ∧ ∀ y ∈ pr, a.tmps.getD y.1 undef = y.2) ∧
      (∀ y ∈ pr, y.1 ≠ d) ∧ (∀ o ∈ opersC B, ∀ k, o.dst = some k → (pr.all fun y => decide (y.1 ≠ k)) = true) ∧
      den P (fun ch H2 => ∃ v older, ch = { v, recovered := false, goexit := false } :: older ∧ Ends P fn g capv pr R (.panicking ch) H2) (execC P op B (addRes x.2 (some d) (.sc .any))) (E1 ++ [.func (.func g) #[] capv]) H1 []
        fun y _ H2 _ => (match y.1 with | .exit _ => False | _ => True) ∧ Ends P fn g capv pr R .returning H2
  | .exit _ => False
/-- A FUNCTION THAT DEFERS A CLOSURE does what its pieces and the closure say. -/
theorem deferred_tri {op : Opt} {f g : FuncId} {fn : Func} {A : List Code} {B : Code} {rid d ty ty2 : Nat} {caps : Array Operand} {pos pos2 : String} {af af2 : Array Edge} {args : Array Value} {E : List Value} {H : PH} {R : Ending → PH → Prop}
    (hf : P.funcs[f]? = some fn) (hg : callB P g = true)
    (hb : fn.body = some (seqR A ((Code.region rid #[{ dst := some d, op := .makeFunc (.func g) #[] caps, type := ty, pos := pos, after := af, guard := none }, { dst := none, op := .defer { callee := .value (.tmp d), args := #[], argTypes := #[] }, type := ty2, pos := pos2, after := af2, guard := none }] false).seq B)))
    (hpl : (paramRS P fn).all RS.plain = true) (hE : tagsOk ((paramRS P fn).flatMap RS.tags) E = true) (hargs : args.toList = packAll (paramRS P fn) E)
    (hden : den P (fun c H' => R (.panicked c) H') (execL P op A (st0 P fn)) E H [] fun x E1 H1 _ => DefK P op fn g B d caps R x E1 H1) : Tri P f args H R := by
  intro w hv
  refine calls_of_wp_defers hf hb ?_
  have hR0 := rel_start (fn := fn) (rsl := paramRS P fn) hv hpl hE hargs
  refine execL_wp (D := .plain []) (X := fun c H' => R (.panicked c) H') (K := fun x E1 H1 _ => DefK P op fn g B d caps R x E1 H1) ?_ ?_ ?_ A (fun _ _ o _ => Prot.plain_may [] o) _ _ _ _ [] _ _ hR0 hden
  · intro st E1 r H1 L a w1 hR1 hK
    obtain ⟨hd, hu, capv, pr, hcap, hne, hop, hdenB⟩ := hK
    obtain ⟨hc1, hpr⟩ := hcap _ _ _ _ _ hR1
    refine wp_seq (wp_defer (by rw [hR1.size]; exact hd) ?_)
    have hdf : a.defers = [] := hR1.df
    rw [hc1, hdf]
    show B.wp P _ _ w1
    have hR2 := hR1.res hu (rs := .sc .any) trivial (vs := [.func (.func g) #[] capv]) rfl (some d) (fun _ _ => rfl)
    have hslot : ∀ y ∈ pr, (a.put (some d) (.func (.func g) #[] capv)).tmps.getD y.1 undef = y.2 := by
      intro y hy
      rw [← hpr y hy]
      simp only [Act.put, Array.getD_eq_getD_getElem?, Array.getElem?_setIfInBounds, if_neg (Ne.symm (hne y hy))]
    have hR3 : Rel (.keep [{ target := .fn (.func g) capv, args := #[] }] pr) H w (addRes st (some d) (.sc .any)) (E1 ++ [.func (.func g) #[] capv]) r H1 { (a.put (some d) (.func (.func g) #[] capv)) with defers := [{ target := .fn (.func g) capv, args := #[] }] } w1 :=
      { adv := hR2.adv, tags := hR2.tags, size := hR2.size, df := ⟨rfl, hslot⟩, fr := hR2.fr, bx := hR2.bx, inj := hR2.inj, nd := hR2.nd, as := hR2.as, kn := hR2.kn }
    have hinv : ∀ w2 : World, (invoke (.fn (.func g) capv) #[]).run P w2 = .ok (.enter g capv) w2 := fun w2 => by
      have := callOk_of hg capv w2
      simp [invoke, this]
    have leave : ∀ (u : FrameMode) (H2 : PH) (a2 : Act) (w2 : World), u ≠ .run → (Prot.keep [{ target := .fn (.func g) capv, args := #[] }] pr).ok a2 → Adv H w H2 w2 → Ends P fn g capv pr R u H2 →
        Leaves P fn a2.tmps (fun e w' => ∃ H', Adv H w H' w' ∧ R e H') a2.defers u w2 := by
      intro u H2 a2 w2 hu2 hok hadv hends
      rw [hok.1]
      refine leaves_cons hu2 (hinv w2) ((hends w2 hadv.vis).mono ?_)
      rintro e u' w' ⟨rfl, hset, H', ha', hfin⟩
      obtain ⟨v, hv1, hv2⟩ := hfin a2.tmps hok.2
      show Leaves P fn a2.tmps _ [] (settle u') w'
      rw [hset]
      exact ⟨v, hv1, H', hadv.trans ha', hv2⟩
    refine execC_sound (drawSound P op.pub) B (fun o ho k hk => hop o ho k hk) _ _ _ _ _ _ [] _ _ hR3 hdenB ?_ ?_
    · intro e st' F r' H' L' a' w' h1 _ _ h4
      have hl := leave .returning H' a' w' (by intro h; cases h) h1.df h1.adv h4.2
      cases e with
      | normal => exact hl
      | ret => exact hl
      | exit j => exact h4.1.elim
    · rintro ch a' w' ⟨H2, hadv, v, older, rfl, hends⟩ hok
      exact leave _ H2 a' w' (by intro h; cases h) hok hadv hends
  · intro st E1 r H1 L a w1 hR1 hK
    obtain ⟨v, hv1, hv2⟩ := hK _ _ _ _ _ hR1
    have hdf : a.defers = [] := hR1.df
    show Leaves P fn a.tmps _ a.defers .returning w1
    rw [hdf]
    exact ⟨v, hv1, H1, hR1.adv, hv2⟩
  · rintro ch a w1 ⟨H1, hadv, hr⟩ hdf
    show Leaves P fn a.tmps _ a.defers (.panicking ch) w1
    rw [show a.defers = [] from hdf]
    exact ⟨H1, hadv, hr⟩
end
end Go.Proofs.YtlnmmakbgldflaaGreatDoor.Vc
