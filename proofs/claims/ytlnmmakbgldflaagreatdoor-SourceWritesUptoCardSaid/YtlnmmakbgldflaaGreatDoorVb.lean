/-
  A SYMBOLIC EXECUTOR for the model's code: definitions. 'exec' turns a function's code into a small formula.
-/
import Derived.Test.YtlnmmakbgldflaaGreatDoorVa
set_option linter.unusedSimpArgs false
set_option linter.unusedVariables false
set_option maxRecDepth 100000
namespace Go.Proofs.YtlnmmakbgldflaaGreatDoor.Vc
open Go

/-! ### values by their kind -/
inductive Tag where
  | int (k : IntKind)
  | bool
  | str
  | sl
  | ptr
  | map
  | any
  deriving DecidableEq

def Tag.ok : Tag → Value → Bool
  | .int k, .int k' _ => decide (k = k')
  | .bool, .bool _ => true
  | .str, .string _ => true
  | .sl, .slice .. => true
  | .ptr, .pointer _ => true
  | .map, .map _ => true
  | .any, .bool _ => true
  | .any, .int .. => true
  | .any, .float .. => true
  | .any, .complex .. => true
  | .any, .string _ => true
  | .any, .pointer _ => true
  | .any, .slice .. => true
  | .any, .map _ => true
  | .any, .chan _ => true
  | .any, .func .. => true
  | .any, .nilFunc => true
  | .any, .iface .. => true
  | .any, .nilIface => true
  | _, _ => false

def tagsOk : List Tag → List Value → Bool
  | [], [] => true
  | t :: ts, v :: vs => t.ok v && tagsOk ts vs
  | _, _ => false

def iOf : Value → Int
  | .int _ n => n
  | _ => 0
def bOf : Value → Bool
  | .bool b => b
  | _ => false
def sOf : Value → ByteArray
  | .string s => s
  | _ => .empty
def pOf : Value → Option Addr
  | .pointer a => a
  | _ => none
def slBase : Value → Option Addr
  | .slice a _ _ => a
  | _ => none
def slLen : Value → Nat
  | .slice _ n _ => n
  | _ => 0
def slCap : Value → Nat
  | .slice _ _ c => c
  | _ => 0
def isNilV : Value → Bool
  | .pointer none => true
  | .slice none _ _ => true
  | .map none => true
  | _ => false

/-! ### symbolic values: one cell each -/
inductive SV where
  | atom (i : Nat)
  | int (k : IntKind) (n : Int)
  | bool (b : Bool)
  | str (l : List UInt8)
  | nil (c : Nat)
  | fn (f : Nat)
  | glob (g : Nat)
  | box (d off : Nat)
  | ar (op : BinOp) (k : IntKind) (a b : SV)
  | cmp (op : BinOp) (a b : SV)
  | scmp (op : BinOp) (a b : SV)
  | beq (a b : SV)
  | isnil (a : SV)
  | pick (c a b : SV)
  | not (a : SV)
  | com (k : IntKind) (a : SV)
  | conv (k : IntKind) (a : SV)
  | len (a : SV)
  | cap (a : SV)
  | slen (a : SV)
  | padd (p : SV) (n : Nat)
  | elt (s i : SV) (sz : Nat)
  | sidx (s i : SV)
  | ssub (s lo hi : SV)
  | cat (a b : SV)
  | sls (s lo hi : SV) (sz : Nat)

def arI (op : BinOp) (k : IntKind) (x y : Int) : Int :=
  match op with
  | .add => k.wrap (x + y)
  | .sub => k.wrap (x - y)
  | .mul => k.wrap (x * y)
  | .quo => k.wrap (x.tdiv y)
  | .rem => x.tmod y
  | .and => k.wrap (BitVec.ofInt k.bits x &&& BitVec.ofInt k.bits y).toNat
  | .or => k.wrap (BitVec.ofInt k.bits x ||| BitVec.ofInt k.bits y).toNat
  | .xor => k.wrap (BitVec.ofInt k.bits x ^^^ BitVec.ofInt k.bits y).toNat
  | .andNot => k.wrap (BitVec.ofInt k.bits x &&& ~~~(BitVec.ofInt k.bits y)).toNat
  | .shl => k.wrap (x * 2 ^ (min y.toNat k.bits))
  | .shr => x.fdiv (2 ^ (min y.toNat k.bits))
  | _ => 0
def cmpI (op : BinOp) (x y : Int) : Bool :=
  match op with
  | .eql => x == y
  | .neq => x != y
  | .lss => decide (x < y)
  | .leq => decide (x ≤ y)
  | .gtr => decide (x > y)
  | .geq => decide (x ≥ y)
  | _ => false
def cmpS (op : BinOp) (x y : ByteArray) : Bool :=
  match op with
  | .eql => x.toList == y.toList
  | .neq => !(x.toList == y.toList)
  | .lss => Op.bytesLess x.toList y.toList
  | .leq => Op.bytesLess x.toList y.toList || x.toList == y.toList
  | .gtr => !(Op.bytesLess x.toList y.toList || x.toList == y.toList)
  | .geq => !Op.bytesLess x.toList y.toList
  | _ => false
def comI (k : IntKind) (n : Int) : Int := k.wrap (BitVec.ofInt k.bits (if k.signed then -1 else k.max) ^^^ BitVec.ofInt k.bits n).toNat
def nilV : Nat → Value
  | 0 => .pointer none
  | 1 => .slice none 0 0
  | 2 => .map none
  | 3 => .nilFunc
  | 4 => .nilIface
  | _ => .chan none
def eltV (s : Value) (i : Int) (sz : Nat) : Value := .pointer ((slBase s).map (·.add (i.toNat * sz)))
def slsV (s : Value) (lo hi : Int) (sz : Nat) : Value :=
  .slice (if slCap s = lo.toNat then slBase s else (slBase s).map (·.add (lo.toNat * sz))) (hi.toNat - lo.toNat) (slCap s - lo.toNat)

def ev (E : List Value) (r : Nat → Nat) : SV → Value
  | .atom i => E.getD i (.bool false)
  | .int k n => .int k n
  | .bool b => .bool b
  | .str l => .string ⟨l.toArray⟩
  | .nil c => nilV c
  | .fn f => .func (.func f) #[] #[]
  | .glob g => .pointer (some ⟨g, 0, none⟩)
  | .box d off => .pointer (some ⟨r d, off, none⟩)
  | .ar op k a b => .int k (arI op k (iOf (ev E r a)) (iOf (ev E r b)))
  | .cmp op a b => .bool (cmpI op (iOf (ev E r a)) (iOf (ev E r b)))
  | .scmp op a b => .bool (cmpS op (sOf (ev E r a)) (sOf (ev E r b)))
  | .beq a b => .bool (bOf (ev E r a) == bOf (ev E r b))
  | .isnil a => .bool (isNilV (ev E r a))
  | .pick c a b => if bOf (ev E r c) then ev E r a else ev E r b
  | .not a => .bool (!bOf (ev E r a))
  | .com k a => .int k (comI k (iOf (ev E r a)))
  | .conv k a => .int k (k.wrap (iOf (ev E r a)))
  | .len a => .int .i64 (slLen (ev E r a))
  | .cap a => .int .i64 (slCap (ev E r a))
  | .slen a => .int .i64 (sOf (ev E r a)).size
  | .padd p n => .pointer ((pOf (ev E r p)).map (·.add n))
  | .elt s i sz => eltV (ev E r s) (iOf (ev E r i)) sz
  | .sidx s i => .int .u8 (((sOf (ev E r s))[(iOf (ev E r i)).toNat]?).getD 0).toNat
  | .ssub s lo hi => .string ((sOf (ev E r s)).extract (iOf (ev E r lo)).toNat (iOf (ev E r hi)).toNat)
  | .cat a b => .string (sOf (ev E r a) ++ sOf (ev E r b))
  | .sls s lo hi sz => slsV (ev E r s) (iOf (ev E r lo)) (iOf (ev E r hi)) sz

def SV.noBox : SV → Bool
  | .box _ _ => false
  | .ar _ _ a b | .cmp _ a b | .scmp _ a b | .beq a b | .sidx a b | .cat a b => a.noBox && b.noBox
  | .elt a b _ => a.noBox && b.noBox
  | .pick a b c | .ssub a b c => a.noBox && b.noBox && c.noBox
  | .sls a b c _ => a.noBox && b.noBox && c.noBox
  | .not a | .com _ a | .conv _ a | .len a | .cap a | .slen a | .padd a _ | .isnil a => a.noBox
  | _ => true

/-- all atoms below n -/
def SV.under (n : Nat) : SV → Bool
  | .atom i => decide (i < n)
  | .ar _ _ a b | .cmp _ a b | .scmp _ a b | .beq a b | .sidx a b | .cat a b => a.under n && b.under n
  | .elt a b _ => a.under n && b.under n
  | .pick a b c | .ssub a b c => a.under n && b.under n && c.under n
  | .sls a b c _ => a.under n && b.under n && c.under n
  | .not a | .com _ a | .conv _ a | .len a | .cap a | .slen a | .padd a _ | .isnil a => a.under n
  | _ => true

/-- all boxes below m -/
def SV.bxu (m : Nat) : SV → Bool
  | .box d _ => decide (d < m)
  | .ar _ _ a b | .cmp _ a b | .scmp _ a b | .beq a b | .sidx a b | .cat a b => a.bxu m && b.bxu m
  | .elt a b _ => a.bxu m && b.bxu m
  | .pick a b c | .ssub a b c => a.bxu m && b.bxu m && c.bxu m
  | .sls a b c _ => a.bxu m && b.bxu m && c.bxu m
  | .not a | .com _ a | .conv _ a | .len a | .cap a | .slen a | .padd a _ | .isnil a => a.bxu m
  | _ => true
def SV.same : SV → SV → Bool
  | .atom i, .atom j => i == j
  | .int k n, .int k' n' => decide (k = k') && decide (n = n')
  | .bool a, .bool b => a == b
  | .str l, .str m => l == m
  | .nil c, .nil d => c == d
  | .fn f, .fn g => f == g
  | .glob f, .glob g => f == g
  | .box d o, .box d' o' => d == d' && o == o'
  | .ar op k a b, .ar op' k' a' b' => decide (op = op') && decide (k = k') && a.same a' && b.same b'
  | .cmp op a b, .cmp op' a' b' => decide (op = op') && a.same a' && b.same b'
  | .scmp op a b, .scmp op' a' b' => decide (op = op') && a.same a' && b.same b'
  | .beq a b, .beq a' b' => a.same a' && b.same b'
  | .isnil a, .isnil a' => a.same a'
  | .pick c a b, .pick c' a' b' => c.same c' && a.same a' && b.same b'
  | .not a, .not a' => a.same a'
  | .com k a, .com k' a' => decide (k = k') && a.same a'
  | .conv k a, .conv k' a' => decide (k = k') && a.same a'
  | .len a, .len a' => a.same a'
  | .cap a, .cap a' => a.same a'
  | .slen a, .slen a' => a.same a'
  | .padd a n, .padd a' n' => a.same a' && n == n'
  | .elt a b n, .elt a' b' n' => a.same a' && b.same b' && n == n'
  | .sidx a b, .sidx a' b' => a.same a' && b.same b'
  | .ssub c a b, .ssub c' a' b' => c.same c' && a.same a' && b.same b'
  | .cat a b, .cat a' b' => a.same a' && b.same b'
  | .sls c a b n, .sls c' a' b' n' => c.same c' && a.same a' && b.same b' && n == n'
  | _, _ => false

def tagOf (ts : List Tag) : SV → Tag
  | .atom i => ts.getD i .bool
  | .int k _ => .int k
  | .bool _ => .bool
  | .str _ => .str
  | .nil 0 => .ptr
  | .nil 1 => .sl
  | .nil 2 => .map
  | .nil _ => .any
  | .fn _ => .any
  | .glob _ => .ptr
  | .box _ _ => .ptr
  | .ar _ k _ _ => .int k
  | .cmp .. | .scmp .. | .beq .. | .not _ | .isnil _ => .bool
  | .pick _ a b => if tagOf ts a = tagOf ts b then tagOf ts a else .any
  | .com k _ => .int k
  | .conv k _ => .int k
  | .len _ | .cap _ | .slen _ => .int .i64
  | .padd .. | .elt .. => .ptr
  | .sidx .. => .int .u8
  | .ssub .. | .cat .. => .str
  | .sls .. => .sl

/-! ### what a slot holds -/
inductive VE where
  | junk
  | sc (s : SV)
  | ag (cs : List SV)
  | tu (vs : List (Bool × List SV))

def partV (E : List Value) (r : Nat → Nat) (x : Bool × List SV) : Value :=
  if x.1 then .agg (x.2.map (ev E r)).toArray else ev E r (x.2.headD (.nil 0))
def evV (E : List Value) (r : Nat → Nat) : VE → Value
  | .junk => undef
  | .sc s => ev E r s
  | .ag cs => .agg (cs.map (ev E r)).toArray
  | .tu vs => .tuple (vs.map (partV E r)).toArray

abbrev Guard := List (SV × Bool)
structure Ent where
  g : Guard
  v : VE
structure Bx where
  id : Nat
  ty : TypeId
  cs : List SV
  sl : Nat

def dead : Ent := ⟨[], .junk⟩
def none0 : Ent := ⟨[], .tu []⟩

/-! ### side conditions -/
inductive Chk where
  | inSl (s i : SV)
  | inStr (s i : SV)
  | sub (n lo hi : SV)
  | nz (a : SV)
  | nneg (a : SV)
  | some (p : SV)
  | catOk (a b : SV)
def Chk.same : Chk → Chk → Bool
  | .inSl a b, .inSl c d => a.same c && b.same d
  | .inStr a b, .inStr c d => a.same c && b.same d
  | .sub a b e, .sub c d f => a.same c && b.same d && e.same f
  | .nz a, .nz b => a.same b
  | .nneg a, .nneg b => a.same b
  | .some a, .some b => a.same b
  | .catOk a b, .catOk c d => a.same c && b.same d
  | _, _ => false
def Chk.under (n : Nat) : Chk → Bool
  | .inSl a b | .inStr a b | .catOk a b => a.under n && b.under n
  | .sub a b c => a.under n && b.under n && c.under n
  | .nz a | .nneg a | .some a => a.under n
/-- The state: the slots, the boxes of the function's own, how many boxes and meeting points there were, the kinds of the atoms, what has been assumed, what has been shown; over which map an iterator goes. -/
structure St where
  fr : List Ent
  bx : List Bx
  nb : Nat
  nl : Nat
  tags : List Tag
  as : Guard
  kn : List Chk
  its : List (Nat × TypeId)
def Chk.noBox : Chk → Bool
  | .inSl a b | .inStr a b | .catOk a b => a.noBox && b.noBox
  | .sub a b c => a.noBox && b.noBox && c.noBox
  | .nz a | .nneg a | .some a => a.noBox
def ev0 (E : List Value) (s : SV) : Value := ev E (fun _ => 0) s
def Chk.holds (E : List Value) : Chk → Prop
  | .inSl s i => (slBase (ev0 E s)).isSome = true ∧ 0 ≤ iOf (ev0 E i) ∧ iOf (ev0 E i) < slLen (ev0 E s)
  | .inStr s i => 0 ≤ iOf (ev0 E i) ∧ iOf (ev0 E i) < (sOf (ev0 E s)).size
  | .sub n lo hi => 0 ≤ iOf (ev0 E lo) ∧ iOf (ev0 E lo) ≤ iOf (ev0 E hi) ∧ iOf (ev0 E hi) ≤ iOf (ev0 E n)
  | .nz a => iOf (ev0 E a) ≠ 0
  | .nneg a => 0 ≤ iOf (ev0 E a)
  | .some p => (pOf (ev0 E p)).isSome = true
  | .catOk a b => (((sOf (ev0 E a)).size + (sOf (ev0 E b)).size : Nat) : Int) ≤ IntKind.i64.max
def Guard.holds (E : List Value) (r : Nat → Nat) (g : Guard) : Prop := ∀ x ∈ g, bOf (ev E r x.1) = x.2

/-! ### shapes of what comes in -/
inductive RS where
  | sc (t : Tag)
  | ag (ts : List Tag)
  | tu (l : List (Bool × List Tag))
def RS.tags : RS → List Tag
  | .sc t => [t]
  | .ag ts => ts
  | .tu l => l.flatMap (·.2)
def atomsFrom (n : Nat) : List Tag → List SV
  | [] => []
  | _ :: ts => .atom n :: atomsFrom (n + 1) ts
def tuFrom (n : Nat) : List (Bool × List Tag) → List (Bool × List SV)
  | [] => []
  | (b, ts) :: l => (b, atomsFrom n ts) :: tuFrom (n + ts.length) l
def RS.ve (n : Nat) : RS → VE
  | .sc _ => .sc (.atom n)
  | .ag ts => .ag (atomsFrom n ts)
  | .tu l => .tu (tuFrom n l)
def tuPack : List (Bool × List Tag) → List Value → List Value
  | [], _ => []
  | (b, ts) :: l, vs => (if b then .agg (vs.take ts.length).toArray else vs.headD (.pointer none)) :: tuPack l (vs.drop ts.length)
/-- The value that these cells make. -/
def RS.pack : RS → List Value → Value
  | .sc _, vs => vs.headD (.bool false)
  | .ag _, vs => .agg vs.toArray
  | .tu l, vs => .tuple (tuPack l vs).toArray

def tagsOfT (P : Program) : Nat → TypeId → List Tag
  | 0, _ => []
  | d + 1, t =>
    match P.underlying t with
    | some (.int k) => [.int k]
    | some .bool => [.bool]
    | some .string => [.str]
    | some (.slice _) => [.sl]
    | some (.pointer _) => [.ptr]
    | some (.map _ _) => [.map]
    | some (.struct fs) => fs.toList.flatMap fun f => tagsOfT P d f.type
    | some (.array n e) => (List.replicate n (tagsOfT P d e)).flatten
    | _ => [.any]
def isAggT (P : Program) (t : TypeId) : Bool :=
  match P.underlying t with
  | some (.struct _) | some (.array _ _) => true
  | _ => false
def rsOf (P : Program) (t : TypeId) : RS :=
  match P.underlying t with
  | some (.tuple ts) => .tu (ts.toList.map fun u => (isAggT P u, tagsOfT P 12 u))
  | some (.struct _) | some (.array _ _) => .ag (tagsOfT P 12 t)
  | _ => .sc ((tagsOfT P 12 t).headD .any)

/-! ### formulas -/
inductive Fm (α : Type) where
  | leaf (x : α)
  | fail (why : Nat)
  | ite (c : SV) (a b : Fm α)
  | chk (g : Guard) (c : Chk) (k : Fm α)
  | call (f : SV) (args : List VE) (res : RS) (pend : List (SV × List SV)) (k : Fm α)
  | load (p : SV) (tags : List Tag) (k : Fm α)
  | store (p : SV) (cs : List SV) (k : Fm α)
  | new (t : TypeId) (cs : List SV) (k : Fm α)
  | sem (o : Op) (ty : TypeId) (args : List (Nat × VE)) (res : RS) (pend : List (SV × List SV)) (k : Fm α)
  | alt (o : Op) (ty : TypeId) (args : List (Nat × VE)) (r1 r2 : RS) (k1 k2 : Fm α)
  | loop (id : Nat) (tags : List Tag) (init : List SV) (body : Fm α)
  | join (id : Nat) (tags : List Tag) (rest main : Fm α)
  | next (id : Nat) (vs : List SV)
  | both (a b : Fm α)
  | hold (pend : List (SV × List SV)) (k : Fm α)

def Fm.bind {α β : Type} : Fm α → (α → Fm β) → Fm β
  | .leaf x, f => f x
  | .fail w, _ => .fail w
  | .ite c a b, f => .ite c (a.bind f) (b.bind f)
  | .chk g c k, f => .chk g c (k.bind f)
  | .call a b c d k, f => .call a b c d (k.bind f)
  | .load p t k, f => .load p t (k.bind f)
  | .store p c k, f => .store p c (k.bind f)
  | .new t c k, f => .new t c (k.bind f)
  | .sem a b c d e k, f => .sem a b c d e (k.bind f)
  | .alt a b c d e k l, f => .alt a b c d e (k.bind f) (l.bind f)
  | .loop i t v b, f => .loop i t v (b.bind f)
  | .join i t r m, f => .join i t (r.bind f) (m.bind f)
  | .next i v, _ => .next i v
  | .both a b, f => .both (a.bind f) (b.bind f)
  | .hold p k, f => .hold p (k.bind f)

/-! ### operands, light operations -/
def hasG (G : Guard) (x : SV × Bool) : Bool := G.any fun y => x.1.same y.1 && x.2 == y.2
def sub1 (g : Guard) (G : Guard) : Bool := g.all (hasG G)
def litOf (as : Guard) (s : SV) : SV := if hasG as (s, true) then .bool true else if hasG as (s, false) then .bool false else s
def constC : Value → Option SV
  | .bool b => some (.bool b)
  | .int k n => some (.int k n)
  | .string s => some (.str s.data.toList)
  | .pointer none => some (.nil 0)
  | .slice none 0 0 => some (.nil 1)
  | .map none => some (.nil 2)
  | .nilFunc => some (.nil 3)
  | .nilIface => some (.nil 4)
  | .chan none => some (.nil 5)
  | _ => none
def constV : Value → Option VE
  | .agg cs => (cs.toList.mapM constC).map .ag
  | .tuple vs => if vs.size = 0 then some (.tu []) else none
  | v => (constC v).map .sc
def opv (st : St) (G : Guard) : Operand → Option VE
  | .tmp t => match st.fr[t]? with
    | some e => match e.v with
      | .junk => none
      | .sc s => if sub1 e.g (G ++ st.as) then some (.sc (litOf st.as s)) else none
      | v => if sub1 e.g (G ++ st.as) then some v else none
    | none => none
  | .const v => constV v
  | .global g => some (.sc (.glob g))
  | .func f => some (.sc (.fn f))
def ops1 (st : St) (G : Guard) (x : Operand) : Option SV :=
  match opv st G x with
  | some (.sc s) => some s
  | _ => none
def cellsOfVE : VE → Option (List SV)
  | .sc s => some [s]
  | .ag cs => some cs
  | _ => none
def mkPick (c a b : SV) : SV := if a.same b then a else .pick c a b
def pickV (c : SV) (a b : VE) : Option VE :=
  match c with
  | .bool true => some a
  | .bool false => some b
  | _ => match a, b with
    | .sc x, .sc y => some (.sc (mkPick c x y))
    | .ag xs, .ag ys => if xs.length = ys.length then some (.ag (xs.zipWith (mkPick c) ys)) else none
    | _, _ => none
def findBx (st : St) (d : Nat) : Option Bx := st.bx.find? fun b => b.id == d
def isArith : BinOp → Bool
  | .add | .sub | .mul | .and | .or | .xor | .andNot | .quo | .rem | .shl | .shr => true
  | _ => false
def isCmp : BinOp → Bool
  | .eql | .neq | .lss | .leq | .gtr | .geq => true
  | _ => false
def isNz : SV → Bool
  | .int _ n => decide (n ≠ 0)
  | _ => false
def isNneg : SV → Bool
  | .int _ n => decide (0 ≤ n)
  | .conv k _ => !k.signed
  | _ => false
def isBoolT (P : Program) (t : TypeId) : Bool :=
  match P.underlying t with
  | some .bool => true
  | _ => false
def isSlT (P : Program) (t : TypeId) : Bool :=
  match P.underlying t with
  | some (.slice _) => true
  | _ => false
def isMapT (P : Program) (t : TypeId) : Bool :=
  match P.underlying t with
  | some (.map _ _) => true
  | _ => false
def isPtrT (P : Program) (t : TypeId) : Bool :=
  match P.underlying t with
  | some (.pointer _) => true
  | _ => false
def isNilC (c : Nat) : SV → Bool
  | .nil d => c == d
  | _ => false
abbrev Light := Option (List Chk × VE)
def binL (P : Program) (ts : List Tag) (op : BinOp) (xT : TypeId) (a b : SV) : Light :=
  match tagOf ts a, tagOf ts b with
  | .int k, .int k' =>
    if op = .shl ∨ op = .shr then (if isNneg b then some ([], .sc (.ar op k a b)) else some ([.nneg b], .sc (.ar op k a b)))
    else if k = k' then
      (if isCmp op then some ([], .sc (.cmp op a b))
       else if op = .quo ∨ op = .rem then (if isNz b then some ([], .sc (.ar op k a b)) else some ([.nz b], .sc (.ar op k a b)))
       else if isArith op then some ([], .sc (.ar op k a b)) else none)
    else none
  | .str, .str => if isCmp op then some ([], .sc (.scmp op a b)) else if op = .add then some ([.catOk a b], .sc (.cat a b)) else none
  | .bool, .bool =>
    if isBoolT P xT = true then
      (if op = .eql then some ([], .sc (.beq a b)) else if op = .neq then some ([], .sc (.not (.beq a b))) else none)
    else none
  | .sl, .sl =>
    if isSlT P xT = true ∧ isNilC 1 b = true then
      (if op = .eql then some ([], .sc (.isnil a)) else if op = .neq then some ([], .sc (.not (.isnil a))) else none)
    else none
  | .map, .map =>
    if isMapT P xT = true ∧ isNilC 2 b = true then
      (if op = .eql then some ([], .sc (.isnil a)) else if op = .neq then some ([], .sc (.not (.isnil a))) else none)
    else none
  | .ptr, .ptr =>
    if isPtrT P xT = true ∧ isNilC 0 b = true then
      (if op = .eql then some ([], .sc (.isnil a)) else if op = .neq then some ([], .sc (.not (.isnil a))) else none)
    else none
  | _, _ => none
def nnKnown (kn : List Chk) : SV → Bool
  | .elt s i z => kn.any (fun c => c.same (.inSl s i)) || kn.any (fun c => c.same (.some (.elt s i z)))
  | .padd p n => nnKnown kn p || kn.any (fun c => c.same (.some (.padd p n)))
  | p => kn.any (fun c => c.same (.some p))
def nnL (st : St) (p : SV) : List Chk := if nnKnown st.kn p then [] else [.some p]
def fieldOff (P : Program) (T : TypeId) (f : Nat) : Option Field :=
  match P.underlying T with
  | some (.struct fs) => fs[f]?
  | _ => none
def cut (cs : List SV) (off n : Nat) : Option (List SV) := if off + n ≤ cs.length then some ((cs.drop off).take n) else none
def partL (P : Program) (t : TypeId) (cs : List SV) (off : Nat) : Option VE :=
  if isAggT P t then (match P.info? t with | some i => (cut cs off i.size).map .ag | none => none)
  else match P.underlying t with
    | some _ => (cs[off]?).map .sc
    | none => none
def lenL (P : Program) (T : TypeId) (ts : List Tag) (x : SV) : Light :=
  match P.underlying T, tagOf ts x with
  | some .string, .str => match x with
    | .str l => some ([], .sc (.int .i64 l.length))
    | _ => some ([], .sc (.slen x))
  | some (.slice _), .sl => some ([], .sc (.len x))
  | _, _ => none
def fillL (place : Nat → Option (Nat × Nat)) (cells : List SV) : List (Nat × VE) → Option (List SV)
  | [] => some cells
  | (i, v) :: rest => match place i, cellsOfVE v with
    | some (off, size), some cs => if cs.length = size ∧ off + cs.length ≤ cells.length then fillL place (cells.take off ++ cs ++ cells.drop (off + cs.length)) rest else none
    | _, _ => none
def zeroL (P : Program) (t : TypeId) : Option VE :=
  match P.info? t with
  | some i => i.zero.bind constV
  | none => none
def optOp (st : St) (G : Guard) (x : Option Operand) (d : SV) : Option SV :=
  match x with
  | some v => ops1 st G v
  | none => some d
def callL (P : Program) (st : St) (G : Guard) (c : Call) : Light :=
  match c.callee, c.args.toList, c.argTypes.toList with
  | .builtin .len, [x], [T] => (match ops1 st G x with
    | some a => lenL P T st.tags a
    | none => none)
  | .builtin .cap, [x], [T] => (match ops1 st G x with
    | some a => (match P.underlying T, tagOf st.tags a with
      | some (.slice _), .sl => some ([], .sc (.cap a))
      | _, _ => none)
    | none => none)
  | .builtin .min, [x, y], _ => (match ops1 st G x, ops1 st G y with
    | some a, some b => (match tagOf st.tags a, tagOf st.tags b with
      | .int k, .int k' => if k = k' then some ([], .sc (.pick (.cmp .lss b a) b a)) else none
      | _, _ => none)
    | _, _ => none)
  | .builtin .max, [x, y], _ => (match ops1 st G x, ops1 st G y with
    | some a, some b => (match tagOf st.tags a, tagOf st.tags b with
      | .int k, .int k' => if k = k' then some ([], .sc (.pick (.cmp .gtr b a) b a)) else none
      | _, _ => none)
    | _, _ => none)
  | _, _, _ => none
def lightL (P : Program) (st : St) (G : Guard) (op : Op) : Light :=
  match op with
  | .move x | .assign x => (opv st G x).map ([], ·)
  | .pick c a b => match ops1 st G c with
    | some c => if tagOf st.tags c = .bool then
        (match opv st (G ++ [(c, true)]) a, opv st (G ++ [(c, false)]) b, c with
        | some x, _, .bool true => some ([], x)
        | _, some y, .bool false => some ([], y)
        | some x, some y, c => (pickV c x y).map ([], ·)
        | _, _, _ => none) else none
    | none => none
  | .fieldAddr T x f => do
    let p ← ops1 st G x
    let fd ← fieldOff P T f
    let i ← P.info? fd.type
    if i.size = 0 then none else
    match p with
    | .box d off => some ([], .sc (.box d (off + fd.offset)))
    | p => if tagOf st.tags p = .ptr then some (nnL st p, .sc (.padd p fd.offset)) else none
  | .nilCheck x => do
    let p ← ops1 st G x
    match p with
    | .box d off => some ([], .sc (.box d off))
    | .fn f => some ([], .sc (.fn f))
    | p => if tagOf st.tags p = .ptr then some (nnL st p, .sc p) else none
  | .load T x => do
    let p ← ops1 st G x
    match p with
    | .box d off => do
      let b ← findBx st d
      let v ← partL P T b.cs off
      some ([], v)
    | _ => none
  | .binOp op xT x y _ => do
    let a ← ops1 st G x
    let b ← ops1 st G y
    binL P st.tags op xT a b
  | .unOp op _ x => do
    let a ← ops1 st G x
    match op, tagOf st.tags a with
    | .not, .bool => some ([], .sc (.not a))
    | .neg, .int k => some ([], .sc (.ar .sub k (.int k 0) a))
    | .xor, .int k => some ([], .sc (.com k a))
    | _, _ => none
  | .convert src dst x => do
    let a ← ops1 st G x
    let _ ← P.underlying src
    match P.underlying dst, tagOf st.tags a with
    | some (.int k), .int _ => some ([], .sc (.conv k a))
    | some .string, .str => some ([], .sc a)
    | _, _ => none
  | .extract x i => match opv st G x with
    | some (.tu vs) => match vs[i]? with
      | some (true, cs) => some ([], .ag cs)
      | some (false, c :: _) => some ([], .sc c)
      | _ => none
    | _ => none
  | .field T x f => match opv st G x with
    | some (.ag cs) => do
      let fd ← fieldOff P T f
      let v ← partL P fd.type cs fd.offset
      some ([], v)
    | _ => none
  | .index T x i => do
    let a ← ops1 st G x
    let b ← ops1 st G i
    match P.underlying T, tagOf st.tags a, tagOf st.tags b with
    | some .string, .str, .int _ => some ([.inStr a b], .sc (.sidx a b))
    | _, _, _ => none
  | .indexAddr T x i => do
    let a ← ops1 st G x
    let b ← ops1 st G i
    match P.underlying T, a, tagOf st.tags a, tagOf st.tags b with
    | some (.array n e), .box d off, _, .int _ => do
      let inf ← P.info? e
      match b with
      | .int _ j => if 0 ≤ j ∧ j < n ∧ 1 < n then some ([], .sc (.box d (off + j.toNat * inf.size))) else none
      | _ => none
    | some (.slice e), _, .sl, .int _ => do
      let inf ← P.info? e
      some (if st.kn.any (fun c => c.same (.inSl a b)) then [] else [.inSl a b], .sc (.elt a b inf.size))
    | _, _, _, _ => none
  | .call c => callL P st G c
  | .slice T x lo hi none => do
    let a ← ops1 st G x
    let l ← optOp st G lo (.int .i64 0)
    match P.underlying T, tagOf st.tags a, tagOf st.tags l with
    | some .string, .str, .int _ => do
      let h ← optOp st G hi (.slen a)
      match tagOf st.tags h with
      | .int _ => some ([.sub (.slen a) l h], .sc (.ssub a l h))
      | _ => none
    | some (.slice e), .sl, .int _ => do
      let h ← optOp st G hi (.len a)
      let inf ← P.info? e
      match tagOf st.tags h with
      | .int _ => some ([.sub (.cap a) l h], .sc (.sls a l h inf.size))
      | _ => none
    | _, _, _ => none
  | .build T parts => match zeroL P T, parts.toList.mapM fun p => (opv st G p.2).map fun v => (p.1, v) with
    | some (.ag zs), some ps => (match P.underlying T with
      | some (.struct fs) => (match fs.toList.mapM fun f => (P.info? f.type).map fun i => (f.offset, i.size) with
        | some places => (fillL (places[·]?) zs ps).map fun cs => ([], .ag cs)
        | none => none)
      | some (.array _ e) => (match P.info? e with
        | some inf => (fillL (fun i => some (i * inf.size, inf.size)) zs ps).map fun cs => ([], .ag cs)
        | none => none)
      | _ => none)
    | _, _ => none
  | _ => none

end Go.Proofs.YtlnmmakbgldflaaGreatDoor.Vc
