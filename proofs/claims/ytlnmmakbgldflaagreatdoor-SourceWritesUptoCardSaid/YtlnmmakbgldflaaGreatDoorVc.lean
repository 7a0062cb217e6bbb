/-
  A SYMBOLIC EXECUTOR for the model's code: the code.
-/
import Derived.Test.YtlnmmakbgldflaaGreatDoorVb
set_option linter.unusedSimpArgs false
set_option linter.unusedVariables false
set_option maxRecDepth 100000
namespace Go.Proofs.YtlnmmakbgldflaaGreatDoor.Vc
open Go

def St.set (st : St) (d : Option Nat) (e : Ent) : St :=
  match d with
  | some t => { st with fr := st.fr.set t e }
  | none => st

inductive GK where
  | never
  | bad
  | ctx (g : Guard)
/-- May the operation be carried out? 'ctx g': just if g holds. -/
def guardOf (ops : Array Oper) (st : St) (o : Oper) : GK :=
  match o.guard with
  | none => .ctx []
  | some (j, want) => match (ops[j]?).bind (·.dst) with
    | none => .bad
    | some d => match st.fr[d]? with
      | none => .bad
      | some e =>
        if e.g.any (fun x => hasG st.as (x.1, !x.2)) then (match e.v with | .junk => .bad | _ => .never) else
        let g := e.g.filter fun x => !hasG st.as x
        match e.v with
        | .sc s => match litOf st.as s with
          | .bool b => if b = want then .ctx g else .never
          | c => if tagOf st.tags c = .bool then .ctx (g ++ [(c, want)]) else .bad
        | .tu [] => .never
        | _ => .bad
def assume (st : St) (c : SV) (b : Bool) : St := { st with as := (c, b) :: st.as }

def addRes (st : St) (d : Option Nat) (rs : RS) : St :=
  { (st.set d ⟨[], rs.ve st.tags.length⟩) with tags := st.tags ++ rs.tags }
def noBoxV : VE → Bool
  | .junk => false
  | .sc s => s.noBox
  | .ag cs => cs.all SV.noBox
  | .tu vs => vs.all fun x => x.2.all SV.noBox
def newBox (st : St) (d : Option Nat) (T : TypeId) (cs : List SV) : St :=
  { (st.set d ⟨[], .sc (.box st.nb 0)⟩) with bx := ⟨st.nb, T, cs, d.getD 0⟩ :: st.bx, nb := st.nb + 1 }
def SV.boxIn (st : St) : SV → Nat
  | .box d _ => ((findBx st d).map (·.sl)).getD 0
  | _ => 0
def VE.boxIn (st : St) : VE → Nat
  | .sc s => s.boxIn st
  | .ag cs => (cs.map (SV.boxIn st)).foldl max 0
  | .tu vs => (vs.map fun x => (x.2.map (SV.boxIn st)).foldl max 0).foldl max 0
  | .junk => 0
def putBx (d off : Nat) (cs : List SV) (b : Bx) : Bx :=
  if b.id = d then { b with cs := b.cs.take off ++ cs ++ b.cs.drop (off + cs.length) } else b
def tmpArgs (st : St) : List Operand → Option (List (Nat × VE))
  | [] => some []
  | .tmp t :: l => match opv st [] (.tmp t), tmpArgs st l with
    | some v, some r => if noBoxV v then some ((t, v) :: r) else none
    | _, _ => none
  | _ :: l => tmpArgs st l
def semOk : Op → Bool
  | .call { callee := .builtin .append, .. } | .call { callee := .builtin .copy, .. } | .call { callee := .builtin .delete, .. } | .call { callee := .builtin .len, .. } => true
  | .call { callee := .builtin .clear, .. } => true
  | .buildSlice .. | .makeSlice .. | .makeMap .. | .lookup .. | .mapUpdate .. | .insert .. | .convert .. | .slice .. | .binOp .. | .indexAddr .. | .index ..
  | .makeInterface .. | .makeFunc .. | .typeAssert .. | .panic .. => true
  | _ => false
def VE.under (n : Nat) : VE → Bool
  | .junk => true
  | .sc a => a.under n
  | .ag a => a.all (SV.under n)
  | .tu a => a.all fun x => x.2.all (SV.under n)
def mapRS (P : Program) (st : St) (x : Operand) : Option ((Bool × List Tag) × (Bool × List Tag)) :=
  match ops1 st [] x with
  | some (.atom i) => match st.its.lookup i with
    | some T => match P.underlying T with
      | some (.map k e) => some ((isAggT P k, tagsOfT P 12 k), (isAggT P e, tagsOfT P 12 e))
      | _ => none
    | none => none
  | _ => none
def St.under (st : St) : Bool :=
  let n := st.tags.length
  (st.fr.all fun e => e.v.under n && e.g.all fun x => x.1.under n) && (st.bx.all fun b => b.cs.all (SV.under n)) && (st.as.all fun x => x.1.under n) && (st.kn.all (Chk.under n))
def VE.bxu (m : Nat) : VE → Bool
  | .junk => true
  | .sc a => a.bxu m
  | .ag a => a.all (SV.bxu m)
  | .tu a => a.all fun x => x.2.all (SV.bxu m)
def St.bxu (st : St) : Bool :=
  (st.fr.all fun e => e.v.bxu st.nb && e.g.all fun x => x.1.bxu st.nb) && (st.bx.all fun b => b.cs.all (SV.bxu st.nb)) && (st.as.all fun x => x.1.bxu st.nb)
def RS.fineB : RS → Bool
  | .tu l => l.all fun x => x.1 || !x.2.isEmpty
  | _ => true
def isPub (pub : List Nat) (d : Option Nat) : Bool :=
  match d with
  | some d => pub.contains d
  | none => false
def mkBox (pub : List Nat) (st : St) (o : Oper) (T : TypeId) (cs : List SV) : Fm St :=
  if isPub pub o.dst = true then
    (if cs.all SV.noBox = true then .new T cs (.leaf (addRes st o.dst (.sc .ptr))) else .fail 10)
  else if st.bxu = true ∧ cs.all (SV.bxu st.nb) = true then .leaf (newBox st o.dst T cs) else .fail 97
def storeB (st : St) (o : Oper) (d off n : Nat) (cs : List SV) : Fm St :=
  match findBx st d with
  | some b => if cs.length = n ∧ off + cs.length ≤ b.cs.length ∧ o.dst = none then .leaf { st with bx := st.bx.map (putBx d off cs) } else .fail 13
  | none => .fail 14
def holdF (pend : List (SV × List SV)) (k : Fm St) : Fm St := match pend with
  | [] => k
  | _ => .hold pend k
def storeH (st : St) (o : Oper) (n : Nat) (p : SV) (cs : List SV) (pend : List (SV × List SV)) : Fm St :=
  if tagOf st.tags p = .ptr ∧ p.noBox = true ∧ cs.all SV.noBox = true ∧ cs.length = n ∧ o.dst = none then .store p cs (holdF pend (.leaf st)) else .fail 15
def loadRS (P : Program) (T : TypeId) : RS := if isAggT P T then .ag (tagsOfT P 12 T) else .sc ((tagsOfT P 12 T).headD .any)
def loadH (P : Program) (st : St) (o : Oper) (T : TypeId) (n : Nat) (p : SV) : Fm St :=
  if tagOf st.tags p = .ptr ∧ p.noBox = true ∧ (tagsOfT P 12 T).length = n ∧ (loadRS P T).tags = tagsOfT P 12 T ∧ (P.underlying T).isSome = true then .load p (tagsOfT P 12 T) (.leaf (addRes st o.dst (loadRS P T))) else .fail 17
def callH (P : Program) (st : St) (o : Oper) (pend : List (SV × List SV)) (fv : SV) (vs : List VE) : Fm St :=
  if fv.noBox = true ∧ vs.all noBoxV = true ∧ (rsOf P o.type).fineB = true then .call fv vs (rsOf P o.type) pend (.leaf (addRes st o.dst (rsOf P o.type))) else .fail (1000 + ((VE.sc fv :: vs).map (VE.boxIn st)).foldl max 0)
def semH (P : Program) (st : St) (o : Oper) (pend : List (SV × List SV)) : Fm St :=
  match o.op with
  | .range T x => match tmpArgs st [x] with
    | some args => .sem (.range T x) o.type args (.sc .ptr) pend (.leaf { (addRes st o.dst (.sc .ptr)) with its := (st.tags.length, T) :: st.its })
    | none => .fail 25
  | .indexAddr T x i => match tmpArgs st (Op.indexAddr T x i).operands.toList with
    | some args => .sem (.indexAddr T x i) o.type args (.sc .ptr) pend (.leaf (addRes st o.dst (.sc .ptr)))
    | none => .fail 27
  | .entry x => match tmpArgs st [x], mapRS P st x with
    | some args, some (k, e) => if (RS.tu [k, e]).fineB = true then .sem (.entry x) o.type args (.tu [k, e]) pend (.leaf (addRes st o.dst (.tu [k, e]))) else .fail 96
    | _, _ => .fail 26
  | op => if semOk op then (match tmpArgs st op.operands.toList with
      | some args => if (rsOf P o.type).fineB = true then .sem op o.type args (rsOf P o.type) pend (.leaf (addRes st o.dst (rsOf P o.type))) else .fail 96
      | none => .fail 21) else .fail 22
def altH (P : Program) (st : St) (o : Oper) (x : Operand) (isS : Bool) : Fm St :=
  match tmpArgs st [x], (if isS then some ((false, [.int .i64]), (false, [.int .i32])) else mapRS P st x) with
  | some args, some (k, e) => if (RS.tu [k, e]).fineB = true then .alt (.next x isS) o.type args (.tu [(false, [.bool])]) (.tu [(false, [.bool]), k, e])
      (.leaf (addRes st o.dst (.tu [(false, [.bool])]))) (.leaf (addRes st o.dst (.tu [(false, [.bool]), k, e]))) else .fail 96
  | _, _ => .fail 24
def heavyL (P : Program) (pub : List Nat) (st : St) (o : Oper) (pend : List (SV × List SV)) : Fm St :=
  match o.op with
  | .box T x => match (opv st [] x).bind cellsOfVE with
    | some cs => mkBox pub st o T cs
    | none => .fail 11
  | .alloc T => match (zeroL P T).bind cellsOfVE with
    | some cs => mkBox pub st o T cs
    | none => .fail 12
  | .store T p x => match ops1 st [] p, (opv st [] x).bind cellsOfVE, P.info? T with
    | some (.box d off), some cs, some i => storeB st o d off i.size cs
    | some p, some cs, some i => storeH st o i.size p cs pend
    | _, _, _ => .fail 16
  | .load T p => match ops1 st [] p, P.info? T with
    | some p, some i => loadH P st o T i.size p
    | _, _ => .fail 18
  | .call c => match c.callee with
    | .value f => match ops1 st [] f, c.args.toList.mapM (opv st []) with
      | some fv, some vs => callH P st o pend fv vs
      | _, _ => .fail 20
    | _ => semH P st o pend
  | .next x isS => if pend.isEmpty then altH P st o x isS else .fail 23
  | _ => semH P st o pend

def chksL {α : Type} (g : Guard) : List Chk → Fm α → Fm α
  | [], k => k
  | c :: cs, k => if c.noBox = true ∧ g.all (fun x => x.1.noBox) = true then .chk g c (chksL g cs k) else .fail 30
def learn (st : St) (g : Guard) (cks : List Chk) : St := if g.isEmpty then { st with kn := cks ++ st.kn } else st

def regionL (P : Program) (pub : List Nat) (ops : Array Oper) : Nat → List Oper → St → Fm St
  | 0, _, _ => .fail 1
  | _ + 1, [], st => .leaf st
  | n + 1, o :: rest, st =>
    match guardOf ops st o with
    | .bad => .fail 2
    | .never => regionL P pub ops n rest (st.set o.dst none0)
    | .ctx G => match lightL P st G o.op with
      | some (cks, v) => chksL G cks (regionL P pub ops n rest (learn (st.set o.dst ⟨G, v⟩) G cks))
      | none => match G with
        | [] => if st.under = true then (heavyL P pub st o []).bind (regionL P pub ops n rest) else .fail 98
        | (c, _) :: _ => if c.noBox = true ∧ tagOf st.tags c = .bool then .ite c (regionL P pub ops n (o :: rest) (assume st c true)) (regionL P pub ops n (o :: rest) (assume st c false)) else .fail 3

def readyL (ops : Array Oper) (done : List Nat) : List Nat :=
  (List.range ops.size).filter fun i => !done.contains i && ((ops[i]?).map (·.after.all fun e => !Region.binds .any e || done.contains e.on)).getD false
/-- for each operation those for which it waits, near or far, as a number's bits -/
def ancOf (o : Oper) (anc : List Nat) : Nat := o.after.toList.foldr (fun e m => if Region.binds .any e then (1 <<< e.on) ||| (anc.getD e.on 0 ||| m) else m) 0
def ancTab (ops : Array Oper) : List Nat := ops.toList.foldl (fun acc o => acc ++ [ancOf o acc]) []
def ancOk (ops : Array Oper) (anc : List Nat) : Bool := anc.length == ops.size && (List.range ops.size).all fun j => match ops[j]? with
  | some o => anc.getD j 0 == ancOf o anc
  | none => true
def waits (anc : List Nat) (i j : Nat) : Bool := (anc.getD j 0).testBit i
def isStore (o : Oper) : Bool :=
  match o.op with
  | .store .. => true
  | _ => false
def isLoad (o : Oper) : Bool :=
  match o.op with
  | .load .. => true
  | _ => false
def viewOf (st : St) (o : Oper) : St := if isLoad o then st else { st with bx := [] }
abbrev Hold := Nat × List (SV × List SV)
def pendU (n : Nat) (l : List (SV × List SV)) : Bool := l.all fun x => x.1.under n && x.2.all (SV.under n)
inductive Ahead where
  | never
  | light (G : Guard) (cks : List Chk) (v : VE)
  | load (T : TypeId) (p : SV)
  | no
def aheadK (P : Program) (ops : Array Oper) (st : St) (o : Oper) : Ahead :=
  match guardOf ops st o with
  | .never => .never
  | .bad => .no
  | .ctx G => match lightL P (viewOf st o) G o.op with
    | some (cks, v) => .light G cks v
    | none => match G, o.op with
      | [], .load T p => match ops1 st [] p with
        | some s => if s.under st.tags.length then .load T s else .no
        | none => .no
      | _, _ => .no
def freeL (ops : Array Oper) (anc done : List Nat) (i : Nat) (o : Oper) : Bool :=
  done.all (fun k => !waits anc i k) && (List.range ops.size).all fun j => j == i || done.contains j || waits anc i j || match ops[j]? with
    | some oj => o.apart ops oj
    | none => true
def aheadAt (P : Program) (ops : Array Oper) (anc : List Nat) (st : St) (done : List Nat) (i : Nat) : Bool :=
  match ops[i]? with
  | some o => (match aheadK P ops st o with | .no => false | _ => true) && freeL ops anc done i o
  | none => false
def drawAhead (P : Program) (pub : List Nat) (ops : Array Oper) (go : List Nat → List Hold → St → Fm St) (done : List Nat) (hold : List Hold) (st : St) (i : Nat) (o : Oper) : Fm St :=
  match aheadK P ops st o with
  | .never => go (i :: done) hold (st.set o.dst none0)
  | .light G cks v => chksL G cks (go (i :: done) (if isLoad o then (i, []) :: hold else hold) (learn (st.set o.dst ⟨G, v⟩) G cks))
  | .load T s => if st.under = true ∧ hold.all (fun h => pendU st.tags.length h.2) = true then (heavyL P pub st o []).bind (go (i :: done) ((i, [(s, atomsFrom st.tags.length (tagsOfT P 12 T))]) :: hold)) else .fail 98
  | .no => .fail 42
def boxStore (st : St) (o : Oper) : Bool :=
  match o.op with
  | .store _ p _ => (match ops1 st [] p with | some (.box _ _) => true | _ => false)
  | _ => false
def heldOk (anc : List Nat) (hold : List Hold) (st : St) (i : Nat) (o : Oper) : Bool := hold.all fun h => waits anc h.1 i || ((!boxStore st o || !h.2.isEmpty) && pendU st.tags.length h.2)
def pendFor (anc : List Nat) (hold : List Hold) (i : Nat) : List (SV × List SV) := (hold.filter fun h => !waits anc h.1 i).flatMap (·.2)
def drawStep (P : Program) (pub : List Nat) (ops : Array Oper) (anc : List Nat) (go : List Nat → List Hold → St → Fm St) (done : List Nat) (hold : List Hold) (st : St) (i : Nat) : Fm St :=
  match ops[i]? with
  | none => .fail 43
  | some o => match aheadK P ops st o with
    | .never => go (i :: done) hold (st.set o.dst none0)
    | .light G cks v => chksL G cks (go (i :: done) hold (learn (st.set o.dst ⟨G, v⟩) G cks))
    | _ => match guardOf ops st o with
      | .ctx [] => if st.under = true ∧ heldOk anc hold st i o = true then (heavyL P pub st o (pendFor anc hold i)).bind (go (i :: done) (hold.filter fun h => !waits anc h.1 i)) else .fail 98
      | _ => .fail 46
def bothL : Fm St → List (Fm St) → Fm St
  | a, [] => a
  | a, b :: l => .both a (bothL b l)
def askL (ops : Array Oper) (st : St) (i : Nat) : Option SV :=
  match ops[i]? with
  | some o => (match guardOf ops st o with | .ctx ((c, _) :: _) => some c | _ => none)
  | none => none
def drawL (P : Program) (pub : List Nat) (ops : Array Oper) (anc : List Nat) : Nat → List Nat → List Hold → St → Fm St
  | 0, _, _, _ => .fail 40
  | n + 1, done, hold, st =>
    let rd := readyL ops done
    match rd with
    | [] => .leaf st
    | i0 :: l0 =>
      if done.length < ops.size then
        match rd.find? (aheadAt P ops anc st done) with
        | some i => match ops[i]? with
          | some o => drawAhead P pub ops (drawL P pub ops anc n) done hold st i o
          | none => .fail 43
        | none => match rd.findSome? (askL ops st) with
          | some c => if c.noBox = true ∧ tagOf st.tags c = .bool then .ite c (drawL P pub ops anc n done hold (assume st c true)) (drawL P pub ops anc n done hold (assume st c false)) else .fail 45
          | none => bothL (drawStep P pub ops anc (drawL P pub ops anc n) done hold st i0) (l0.map (drawStep P pub ops anc (drawL P pub ops anc n) done hold st))
      else .fail 39
def drawR (P : Program) (pub : List Nat) (ops : Array Oper) (st : St) : Fm St :=
  let anc := ancTab ops
  if ancOk ops anc = true ∧ Region.noSelect ops = true then drawL P pub ops anc 400 [] [] st else .fail 38

/-! ### code -/
inductive Ex where
  | normal
  | exit (id : Nat)
  | ret
def writesO (ops : Array Oper) : List Nat := ops.toList.filterMap (·.dst)
def writesC : Code → List Nat
  | .region _ ops _ => writesO ops
  | .seq a b => writesC a ++ writesC b
  | .cond _ a b => writesC a ++ writesC b
  | .block _ b => writesC b
  | .loop b => writesC b
  | .scope b => writesC b
  | _ => []
def opersC : Code → List Oper
  | .region _ ops _ => ops.toList
  | .seq a b => opersC a ++ opersC b
  | .cond _ a b => opersC a ++ opersC b
  | .block _ b => opersC b
  | .loop b => opersC b
  | .scope b => opersC b
  | _ => []
def baseOf : Op → Option Nat
  | .fieldAddr _ (.tmp x) _ | .indexAddr _ (.tmp x) _ | .nilCheck (.tmp x) | .move (.tmp x) | .assign (.tmp x) => some x
  | _ => none
/-- the slots through which the code may store -/
def storeSlots (os : List Oper) : List Nat :=
  let s0 := os.filterMap fun o => match o.op with | .store _ (.tmp p) _ => some p | _ => none
  let grow (s : List Nat) : List Nat := s ++ (os.filterMap fun o => match o.dst with | some d => if s.contains d then baseOf o.op else none | none => none)
  grow (grow (grow (grow s0)))

def VE.same : VE → VE → Bool
  | .sc a, .sc b => a.same b
  | .ag a, .ag b => a.length == b.length && (a.zip b).all fun x => x.1.same x.2
  | .tu a, .tu b => a.length == 0 && b.length == 0
  | _, _ => false

/-- one slot of the wanted state against the state that is there -/
def fitE (n : Nat) (e eT : Ent) : Option (List (Nat × SV)) :=
  match eT.v with
  | .junk => some []
  | .sc (.atom i) => if n ≤ i then (match e.g, e.v with
      | [], .sc s => if s.noBox && eT.g.isEmpty then some [(i, s)] else none
      | _, _ => none)
    else (match e.g, e.v with
      | [], .sc s => if s.same (.atom i) && eT.g.isEmpty then some [] else none
      | _, _ => none)
  | v => if e.g.isEmpty && eT.g.isEmpty && e.v.same v && v.under n then some [] else none
def fitEs (n : Nat) : List Ent → List Ent → Option (List (Nat × SV))
  | [], [] => some []
  | e :: es, f :: fs => match fitE n e f, fitEs n es fs with
    | some a, some b => some (a ++ b)
    | _, _ => none
  | _, _ => none
def fitC (n : Nat) (s sT : SV) : Option (List (Nat × SV)) :=
  match sT with
  | .atom i => if n ≤ i then (if s.noBox then some [(i, s)] else none) else if s.same (.atom i) then some [] else none
  | v => if s.same v && v.under n then some [] else none
def fitCs (n : Nat) : List SV → List SV → Option (List (Nat × SV))
  | [], [] => some []
  | e :: es, f :: fs => match fitC n e f, fitCs n es fs with
    | some a, some b => some (a ++ b)
    | _, _ => none
  | _, _ => none
def fitBs (n : Nat) (s : St) : List Bx → Option (List (Nat × SV))
  | [] => some []
  | b :: bs => match findBx s b.id, fitBs n s bs with
    | some c, some r => if c.ty = b.ty then (match fitCs n c.cs b.cs with | some x => some (x ++ r) | none => none) else none
    | _, _ => none
def nodupB : List Nat → Bool
  | [] => true
  | a :: l => !l.contains a && nodupB l
/-- The cells to be handed on, where the state s fits the wanted state sT, whose atoms from n on are new. -/
def fits (s sT : St) (n : Nat) : Option (List SV) :=
  match fitEs n s.fr sT.fr, fitBs n s sT.bx with
  | some a, some b =>
    let l := a ++ b
    let vs := l.map (·.2)
    if (decide (l.map (·.1) = List.range' n l.length) && decide (vs.map (tagOf s.tags) = sT.tags.drop n) && decide (sT.tags.take n = s.tags.take n) && decide (n ≤ s.tags.length) && decide (sT.tags.length = n + l.length) && nodupB (sT.bx.map (·.id)) && sT.bx.all (fun b => decide (b.id < sT.nb)) && sub1 sT.as s.as && sT.as.all (fun x => x.1.under n) && sT.kn.all (fun c => s.kn.any (Chk.same c) && c.under n)) = true then some vs else none
  | _, _ => none

/-- Slots of 'wr' that hold one cell get a new atom, if 'ch' says so; else what was there is dropped. 'lf': the state out of which the kinds are taken; 'rd': slots that are read behind. -/
def absEs (ts : List Tag) (wr rd : List Nat) (ch : Nat → Ent → Bool) : Nat → List Ent → List Ent → List Tag → List Ent × List Tag
  | t, e :: es, f :: fs, tg =>
    if wr.contains t && ch t e then
      (match f.g, f.v, (match e.v with | .sc _ => true | _ => false) || rd.contains t with
       | [], .sc s, true => let r := absEs ts wr rd ch (t + 1) es fs (tg ++ [tagOf ts s]); (⟨[], .sc (.atom tg.length)⟩ :: r.1, r.2)
       | _, _, _ => let r := absEs ts wr rd ch (t + 1) es fs tg; (dead :: r.1, r.2))
    else let r := absEs ts wr rd ch (t + 1) es fs tg; ((match e.v with | .tu (_ :: _) => dead | _ => if e.g.isEmpty then e else dead) :: r.1, r.2)
  | _, _, _, tg => ([], tg)
def absCs (ts : List Tag) : List SV → List Tag → List SV × List Tag
  | [], tg => ([], tg)
  | s :: ss, tg => let r := absCs ts ss (tg ++ [tagOf ts s]); (.atom tg.length :: r.1, r.2)
def absBs (ts : List Tag) (ch : Bx → Bool) : List Bx → List Bx → List Tag → List Bx × List Tag
  | l :: ls, b :: bs, tg =>
    if ch b then (let c := absCs ts l.cs tg; let r := absBs ts ch ls bs c.2; (⟨b.id, b.ty, c.1, b.sl⟩ :: r.1, r.2))
    else (let r := absBs ts ch ls bs tg; (b :: r.1, r.2))
  | _, _, tg => ([], tg)
def absSt (st lf : St) (wr rd : List Nat) (ch : Nat → Ent → Bool) (chB : Bx → Bool) : St :=
  let a := absEs lf.tags wr rd ch 0 st.fr lf.fr st.tags
  let b := absBs lf.tags chB (st.bx.map fun x => match findBx lf x.id with | some y => y | none => x) st.bx a.2
  { fr := a.1, bx := b.1, nb := st.nb, nl := st.nl + 1, tags := b.2, as := st.as, kn := st.kn, its := st.its }

def readsO (o : Oper) : List Nat := o.op.operands.toList.filterMap fun | .tmp t => some t | _ => none
def readsC : Code → List Nat
  | .region _ ops _ => ops.toList.flatMap readsO
  | .seq a b => readsC a ++ readsC b
  | .cond (.tmp t) a b => t :: (readsC a ++ readsC b)
  | .cond _ a b => readsC a ++ readsC b
  | .block _ b => readsC b
  | .loop b => readsC b
  | .scope b => readsC b
  | _ => []

def Fm.normals : Fm (Ex × St) → List St
  | .leaf (.normal, s) => [s]
  | .leaf _ => []
  | .fail _ => []
  | .ite _ a b | .both a b => a.normals ++ b.normals
  | .hold _ k => k.normals
  | .chk _ _ k | .call _ _ _ _ k | .load _ _ k | .store _ _ k | .new _ _ k | .sem _ _ _ _ _ k => k.normals
  | .alt _ _ _ _ _ k l => k.normals ++ l.normals
  | .loop _ _ _ b => b.normals
  | .join _ _ r m => r.normals ++ m.normals
  | .next _ _ => []

def sameEnt (a b : Ent) : Bool := a.g.isEmpty && b.g.isEmpty && a.v.same b.v
def sameCs (a b : List SV) : Bool := a.length == b.length && (a.zip b).all fun x => x.1.same x.2

/-- two ways of a test that has no effect meet again -/
def mergeEs (c : SV) : List Ent → List Ent → List Ent → List Ent
  | e :: es, f :: fs, g :: gs =>
    (if sameEnt e f then e else match e.g, f.g, g.v, e.v, f.v with
      | [], [], .sc _, .sc x, .sc y => ⟨[], .sc (.pick c x y)⟩
      | _, _, _, _, _ => dead) :: mergeEs c es fs gs
  | _, _, _ => []
def mergeBs (c : SV) : List Bx → List Bx → Option (List Bx)
  | [], [] => some []
  | a :: as, b :: bs => match mergeBs c as bs with
    | some r => if a.id = b.id ∧ a.ty = b.ty ∧ a.cs.length = b.cs.length then some (⟨a.id, a.ty, a.cs.zipWith (mkPick c) b.cs, a.sl⟩ :: r) else none
    | none => none
  | _, _ => none
def merge (c : SV) (st s1 s2 : St) : Option St :=
  match mergeBs c s1.bx s2.bx with
  | some bs => if s1.nb = s2.nb ∧ s1.nl = s2.nl ∧ s1.tags = s2.tags ∧ s1.fr.length = s2.fr.length ∧ s1.fr.length = st.fr.length ∧ sub1 st.as s1.as = true ∧ sub1 st.as s2.as = true ∧
      st.kn.all (fun k => s1.kn.any (Chk.same k) && s2.kn.any (Chk.same k)) = true then some { fr := mergeEs c s1.fr s2.fr st.fr, bx := bs, nb := s1.nb, nl := s1.nl, tags := s1.tags, as := st.as, kn := st.kn, its := st.its } else none
  | none => none

structure Opt where
  pub : List Nat := []
  /-- regions ahead of whose followers no meeting point is laid -/
  nojoin : Bool := false

def iteL (c : SV) (st : St) (x y : Fm (Ex × St)) : Fm (Ex × St) :=
  match x, y with
  | .leaf (.normal, s1), .leaf (.normal, s2) => match merge c st s1 s2 with
    | some s => .leaf (.normal, s)
    | none => .ite c x y
  | _, _ => .ite c x y

def execC (P : Program) (op : Opt) : Code → St → Fm (Ex × St)
  | .skip, st => .leaf (.normal, st)
  | .label _, st => .leaf (.normal, st)
  | .region _ ops draw, st =>
    (if draw then (if P.follows .mixedOrders then drawR P op.pub ops st else .fail 50) else regionL P op.pub ops 400 ops.toList st).bind fun s => .leaf (.normal, s)
  | .seq a b, st =>
    let t := execC P op a { st with nl := st.nl + 1 }
    let ls := t.normals
    if ls.length ≤ 1 || op.nojoin then t.bind fun x => match x.1 with | .normal => execC P op b x.2 | e => .leaf (e, x.2)
    else
      let wr := writesC a
      let sJ := absSt st (ls.headD st) wr (readsC b) (fun t e => !(ls.all fun s => match s.fr[t]? with | some f => sameEnt e f | none => false)) (fun b => !(ls.all fun s => match findBx s b.id with | some c => sameCs c.cs b.cs | none => false))
      let n := st.tags.length
      .join st.nl (sJ.tags.drop n) (execC P op b sJ) (t.bind fun x => match x.1 with
        | .normal => (match fits x.2 sJ n with | some vs => .next st.nl vs | none => .fail 51)
        | e => .leaf (e, x.2))
  | .cond c x y, st => match ops1 st [] c with
    | some (.bool b) => if b then execC P op x st else execC P op y st
    | some c => if c.noBox ∧ tagOf st.tags c = .bool then iteL c st (execC P op x (assume st c true)) (execC P op y (assume st c false)) else .fail 52
    | none => .fail 53
  | .block id b, st => (execC P op b st).bind fun x => match x.1 with
    | .exit j => if j = id then .leaf (.normal, x.2) else .leaf x
    | _ => .leaf x
  | .loop b, st =>
    let ss := storeSlots (opersC b)
    let mods : List Nat := ss.filterMap fun t => match st.fr[t]? with
      | some e => (match e.g, e.v with | [], .sc (.box d _) => some d | _, _ => none)
      | none => none
    let s1 := absSt st st (writesC b) [] (fun _ _ => true) (fun x => mods.contains x.id)
    let n := st.tags.length
    match fits st s1 n with
    | some init => .loop st.nl (s1.tags.drop n) init ((execC P op b s1).bind fun x => match x.1 with
      | .normal => (match fits x.2 s1 n with | some vs => .next st.nl vs | none => .fail 54)
      | e => .leaf (e, x.2))
    | none => .fail 55
  | .scope b, st => execC P op b st
  | .exit id, st => .leaf (.exit id, st)
  | .ret, st => .leaf (.ret, st)
  | _, _ => .fail 56

/-- what the function hands back -/
def resL (P : Program) (st : St) : ResultVar → Option VE
  | .tmp t => opv st [] (.tmp t)
  | .cell a T => match ops1 st [] (.tmp a) with
    | some (.box d off) => match findBx st d with
      | some b => partL P T b.cs off
      | none => none
    | _ => none
def partOf : VE → Option (Bool × List SV)
  | .sc s => some (false, [s])
  | .ag cs => some (true, cs)
  | _ => none
def retL (P : Program) (fn : Func) (st : St) : Fm VE :=
  match fn.results.toList.mapM (resL P st) with
  | some [v] => if noBoxV v then .leaf v else .fail 60
  | some vs => match vs.mapM partOf with
    | some ps => if noBoxV (.tu ps) then .leaf (.tu ps) else .fail 61
    | none => .fail 62
  | none => .fail 63
def RS.plain : RS → Bool
  | .tu _ => false
  | _ => true
def paramEs : Nat → List RS → List Ent
  | _, [] => []
  | n, rs :: l => ⟨[], rs.ve n⟩ :: paramEs (n + rs.tags.length) l
def paramRS (P : Program) (fn : Func) : List RS := fn.params.toList.map (rsOf P)
def st0 (P : Program) (fn : Func) : St :=
  { fr := paramEs 0 (paramRS P fn) ++ List.replicate (fn.ntmps - (paramRS P fn).length) none0, bx := [], nb := 0, nl := 0, tags := (paramRS P fn).flatMap RS.tags, as := [], kn := [], its := [] }
def execF (P : Program) (op : Opt) (fn : Func) : Fm VE :=
  match fn.body with
  | some c => if (paramRS P fn).all RS.plain = true then (execC P op c (st0 P fn)).bind fun x => match x.1 with
    | .normal => retL P fn x.2
    | .ret => retL P fn x.2
    | .exit _ => .fail 64
    else .fail 66
  | none => .fail 65
/-- the arguments that these cells make -/
def packAll : List RS → List Value → List Value
  | [], _ => []
  | rs :: l, E => rs.pack (E.take rs.tags.length) :: packAll l (E.drop rs.tags.length)

end Go.Proofs.YtlnmmakbgldflaaGreatDoor.Vc
