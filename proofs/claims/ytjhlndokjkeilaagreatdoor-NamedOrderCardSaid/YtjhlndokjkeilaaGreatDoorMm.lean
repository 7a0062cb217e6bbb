import Derived.Test.YtjhlndokjkeilaaGreatDoorMl
import Derived.Lib.ItoaNum
import Derived.Lib.LaidTab
set_option linter.unusedSimpArgs false
set_option linter.unusedVariables false
set_option maxRecDepth 100000
namespace Go.Proofs.YtjhlndokjkeilaaGreatDoor.Vc
open Go
theorem zjk:∀(k u:Nat),u < 10 ^ (k+1)→Lib.nDigits u≤k+1
 | 0,u,h=>by rw [Lib.nDigits_small (by simpa using h)];omega
 | k+1,u,h=>by
  by_cases h1:u < 10
  ·rw [Lib.nDigits_small h1];omega
  ·rw [Lib.nDigits_big h1]
   have:=zjk k (u / 10) (by rw [Nat.pow_succ] at h;omega)
   omega
theorem zpm (n:Nat) (h:n≤9223372036854775808):(Lib.decDigits n).length≤20:=by
 rw [Lib.decDigits_length]
 exact zjk 19 n (by omega)
def z32 (n:Int):UInt8:=UInt8.ofNat (n % 256).toNat
mutual
def Dat.txtL (bare:Bool):Dat→List UInt8
 | .mk k n t l=>if k=0 then (if n=0 then [35,102] else [35,116]) else if k=1 then Lib.itoa n else if k=2 then (if bare then [z32 n] else charL (z32 n)) else if k=3 then (if bare then t else zq3 t) else if k=4 then t
   else (if k=7 then [35,40] else [40])++Dats.txtL bare (decide (k=6)) true l++[41]
def Dats.txtL (bare dotted:Bool):Bool→List Dat→List UInt8
 | _,[]=>[]
 | first,d::l=>(if first then [] else [32])++(if dotted && l.isEmpty then [46,32] else [])++Dat.txtL bare d++Dats.txtL bare dotted false l
end
theorem Z0q (n:Int):IntKind.u8.wrap n=((z32 n).toNat:Int):=by
 have h:(n % 256).toNat < 256:=by omega
 rw [z32,UInt8.toNat_ofNat_of_lt' h]
 simp only [IntKind.wrap,IntKind.bits,IntKind.signed];simp;omega
theorem zzr (c:UInt8):(charL c).length≤9:=by
 unfold charL;split
 ·simp
 split
 ·simp
 split
 ·simp
 ·simp [twoL]
theorem Z28 (n:Int) (h:InI n):(Lib.itoa n).length≤21:=by
 obtain ⟨a,b⟩:=h
 unfold Lib.itoa;split
 ·have:=zpm n.natAbs (by omega);simp only [zlc];omega
 ·have:=zpm n.toNat (by omega);omega
theorem zvo (l:List UInt8):(zq3 l).length≤4 * l.length+2:=by
 have:=zya l
 simp only [zq3,zla,zlc,List.length_nil];omega
mutual
theorem Dat.chk_len (bare:Bool):∀(d:Dat) (deep seen:Nat),seen≤4096→(d.chk deep seen).2=0→seen < (d.chk deep seen).1∧(d.txtL bare).length+3≤16500 * ((d.chk deep seen).1 - seen)
 | .mk k n t l,deep,seen,hs,h=>by
  simp only [Dat.chk] at h ⊢
  split at h
  ·simp at h
  rename_i h0
  rw [if_neg h0]
  split at h
  ·simp at h
  rename_i h1
  rw [if_neg h1]
  split at h
  ·simp at h
  rename_i h2
  rw [if_neg h2]
  have hf:z0x (.mk k n t l)=true:=by simpa using h2
  have ih:=Dats.chk_len bare (decide (k=6)) true l (deep+1) (seen+1) (by omega) h
  refine ⟨by omega,?_⟩
  have hch:=zzr (z32 n)
  have hqu:=zvo t
  have hit:k=1→(Lib.itoa n).length≤21:=fun hk=>Z28 n (by
   subst hk
   simp only [z0x,Dat.kind,Dat.int,Dat.text,Dat.list] at hf
   simp at hf
   obtain ⟨⟨_,h5⟩,h6⟩:=hf
   have h5:=of_decide_eq_true h5
   have h6:=of_decide_eq_true h6
   exact ⟨by omega,by omega⟩)
  have ht3:k=3→t.length≤4096:=fun hk=>by
   subst hk
   simp only [z0x,Dat.kind,Dat.int,Dat.text,Dat.list] at hf
   simp at hf;exact of_decide_eq_true hf.2
  have ht4:k=4→t.length≤64:=fun hk=>by
   subst hk
   simp only [z0x,Dat.kind,Dat.int,Dat.text,Dat.list,z0p] at hf
   simp at hf;exact of_decide_eq_true hf.2.1.1.2
  simp only [Dat.txtL]
  split
  ·split<;>simp<;>omega
  split
  ·rename_i hk;have:=hit hk;omega
  split
  ·split
   ·simp;omega
   ·omega
  split
  ·rename_i hk;have:=ht3 hk
   split<;>omega
  split
  ·rename_i hk;have:=ht4 hk;omega
  ·simp only [zla,zlc,List.length_nil]
   split<;>simp only [zlc,List.length_nil]<;>omega
theorem Dats.chk_len (bare dotted:Bool):∀(first:Bool) (l:List Dat) (deep seen:Nat),seen≤4096→(Dats.chk l deep seen).2=0→seen≤(Dats.chk l deep seen).1∧(Dats.txtL bare dotted first l).length≤16500 * ((Dats.chk l deep seen).1 - seen)
 | _,[],_,_,_,_=>by simp [Dats.chk,Dats.txtL]
 | first,d::l,deep,seen,hs,h=>by
  simp only [Dats.chk] at h ⊢
  split at h
  ·rename_i hx;exact absurd h hx
  rename_i hx
  rw [if_neg hx]
  have i1:=Dat.chk_len bare d deep seen hs (by simpa using hx)
  have hle:=Dat.chk_le d deep seen hs
  have i2:=Dats.chk_len bare dotted false l deep (d.chk deep seen).1 hle h
  refine ⟨by omega,?_⟩
  simp only [Dats.txtL,zla]
  have e1:(if first=true then [] else [32]:List UInt8).length≤1:=by split<;>simp
  have e2:(if (dotted && l.isEmpty)=true then [46,32] else []:List UInt8).length≤2:=by split<;>simp
  omega
end
theorem z4v {α:Type} {l:List α} {k:Nat} {a:α} (h:l[k]?=some a):l.drop k=a::l.drop (k+1):=by
 obtain ⟨hk,rfl⟩:=List.getElem?_eq_some_iff.1 h
 exact List.drop_eq_getElem_cons hk
theorem zzk (n:Int):Value.int .u8 (IntKind.u8.wrap n)=.int .u8 ((z32 n).toNat:Int):=by rw [Z0q]
def Tab (H : PH) : Prop := ∃ g e f, Tryz.prog.globalNamed "internal/strconv.uint64pow10" = some g ∧ H g = some (.cells (Lib.pow10Tab.map fun z => Value.int .u64 z).toArray e f)
theorem Tab.le {H H':PH} (h:Tab H) (hl:PH.le H H'):Tab H':=by
 obtain ⟨g,e,f,h1,h2⟩:=h;exact ⟨g,e,f,h1,hl _ _ h2⟩
theorem Tab.is {H : PH} {w : World} (h : Tab H) (hv : Vis H w) : Lib.TabIs Tryz.prog w "internal/strconv.uint64pow10" .u64 Lib.pow10Tab := by
 obtain ⟨g,e,f,h1,h2⟩:=h
 unfold Lib.TabIs World.var?
 rw [h1]
 simp only [Option.bind_some,hv _ _ h2]
theorem zrb {H H':PH}:∀{l:List UInt8} {xs:List Value},PV.RepRow H (l.flatMap pv) xs→PV.RepRow H' (l.flatMap pv) xs
 | [],xs,h=>by simp only [List.flatMap_nil,PV.RepRow] at h ⊢;exact h
 | c::l,xs,h=>by
  rw [List.flatMap_cons] at h ⊢
  have h':PV.RepRow H (.int .u8 (c.toNat:Int)::l.flatMap pv) xs:=h
  show PV.RepRow H' (.int .u8 (c.toNat:Int)::l.flatMap pv) xs
  simp only [PV.RepRow,PV.Rep] at h' ⊢
  obtain ⟨v,vs,rfl,h1,h2⟩:=h'
  exact ⟨v,vs,rfl,h1,zrb h2⟩
structure WSv (H0 H:PH) (w:Nat) (T:TypeId) (out:List UInt8) (bare:Bool) (bv:Value):Prop where
 at_:H w=some (.cells #[bv,.bool bare] T (0,0))
 acc:Acc H0 H 5 out bv
 own:ob bv≠some w
 base:H0 w=none
def WS (H0 H:PH) (w:Nat) (T:TypeId) (out:List UInt8) (bare:Bool):Prop:=∃bv,WSv H0 H w T out bare bv
section
variable {H0 H:PH} {w:Nat} {T:TypeId} {out:List UInt8} {bare:Bool} {bv:Value}
theorem WSv.row (h:WSv H0 H w T out bare bv):rowAt H ((some ⟨w,0,none⟩:Option Addr).map (·.add 0)) [bv]:=⟨_,rfl,fun i v hi=>by
 show H.cell? ((Addr.add ⟨w,0,none⟩ 0).add i)=_
 rw [Addr.add_plain,Addr.add_plain,PH.cell_at h.at_]
 cases i with
 | zero=>simpa using hi
 | succ i=>simp at hi⟩
theorem WSv.tag (h:WSv H0 H w T out bare bv):z0c [.sl] [bv]=true:=by
 obtain ⟨b,c,rfl⟩:=h.acc.sl;rfl
theorem WSv.mono {H':PH} (h:WSv H0 H w T out bare bv) (hl:PH.le H H'):WSv H0 H' w T out bare bv:=⟨hl _ _ h.at_,h.acc.mono hl,h.own,h.base⟩
theorem WSv.store {H':PH} {v':Value} {out':List UInt8} (h:WSv H0 H w T out bare bv) (ha:Acc H0 H' 5 out' v') (hw:Went H H' bv v'):WS H0 (H'.upd w (.cells #[v',.bool bare] T (0,0))) w T out' bare:=by
 have hne:ob v'≠some w:=fun e=>(hw.fresh w e).elim h.own fun hn=>by rw [h.at_] at hn;cases hn
 refine ⟨v',PH.upd_same,⟨?_,?_⟩,hne,h.base⟩
 ·intro k o hk
  have hkw:k≠w:=fun e=>by rw [e,h.base] at hk;cases hk
  have:=ha.le k o hk
  unfold delV at this ⊢
  cases hv':ob v' with
  | none=>rw [hv'] at this;show (H'.upd w _) k=_;rw [PH.upd_other hkw];exact this
  | some g=>
   rw [hv'] at this
   show ((H'.upd w _).del g) k=_
   have this':(H'.del g) k=some o:=this
   unfold PH.del at this' ⊢
   split at this'
   ·cases this'
   ·rename_i e;rw [if_neg e,PH.upd_other hkw];exact this'
 ·obtain ⟨xs,h1,h2⟩:=ha.own
  exact ⟨xs,h1.le fun k hk=>PH.upd_other fun e=>hne (by rw [hk,e]),zrb h2⟩
variable {X:List PanicEntry→PH→Prop} {β:Type} {E:List Value} {L:LK} {K:β→List Value→PH→LK→Prop}
end
def Dat.Good (d:Dat):Prop:=∃deep seen,seen≤4096∧(d.chk deep seen).2=0
theorem Dats.good:∀(l:List Dat) (deep seen:Nat),seen≤4096→(Dats.chk l deep seen).2=0→∀e∈l,e.Good
 | [],_,_,_,_,e,he=>by cases he
 | d::l,deep,seen,hs,h,e,he=>by
  simp only [Dats.chk] at h
  split at h
  ·rename_i hx;exact absurd h hx
  rename_i hx
  have hx:(d.chk deep seen).2=0:=by simpa using hx
  rcases List.mem_cons.1 he with rfl | he
  ·exact ⟨deep,seen,hs,hx⟩
  ·exact Dats.good l deep _ (Dat.chk_le d deep seen hs) h e he
theorem Dat.Good.form {d:Dat} (h:d.Good):z0x d=true:=by
 obtain ⟨deep,seen,hs,h⟩:=h
 rw [Dat.chk_eq] at h
 split at h
 ·simp at h
 split at h
 ·simp at h
 split at h
 ·simp at h
 ·rename_i hx;simpa using hx
theorem Dat.Good.kids {d:Dat} (h:d.Good):∀e∈d.list,e.Good:=by
 obtain ⟨deep,seen,hs,h⟩:=h
 rw [Dat.chk_eq] at h
 split at h
 ·simp at h
 split at h
 ·simp at h
 split at h
 ·simp at h
 ·exact Dats.good d.list _ _ (by omega) h
theorem Dat.Good.len {d:Dat} (h:d.Good) (bare:Bool):(d.txtL bare).length≤67600000:=by
 obtain ⟨deep,seen,hs,h⟩:=h
 have h1:=Dat.chk_len bare d deep seen hs h
 have h2:=Dat.chk_le d deep seen hs
 omega
theorem WS.le {H0 H:PH} {w:Nat} {T:TypeId} {out:List UInt8} {bare:Bool} (h:WS H0 H w T out bare):PH.le H0 H:=by
 obtain ⟨bv,h⟩:=h;exact h.acc.all
def valL (l:List UInt8):Nat:=l.foldl (fun a c=>10 * a+(c.toNat - 48)) 0
theorem Z09 (l:List UInt8) (c:UInt8):valL (l++[c])=10 * valL l+(c.toNat - 48):=by simp [valL]
theorem znh (k:Nat) (h:k < 10):(UInt8.ofNat (48+k)).toNat=48+k:=UInt8.toNat_ofNat_of_lt' (by show _ < 256;omega)
theorem zq6:∀u:Nat,valL (Lib.decDigits u)=u∧Lib.decDigits u≠[]∧(Lib.decDigits u).all (fun c=>z2g c.toNat)=true:=by
 intro u
 induction u using Nat.strongRecOn with
 | ind u ih=>
  by_cases h:u < 10
  ·rw [Lib.decDigits_one h]
   have hd:=znh u h
   refine ⟨?_,by simp,?_⟩
   ·simp only [valL,List.foldl_cons,List.foldl_nil,hd];omega
   ·simp only [List.all_cons,List.all_nil,Bool.and_true,hd,z2g]
    rw [if_pos (by omega)];simp;omega
  ·rw [Lib.decDigits,dif_neg h]
   have hr:u % 10 < 10:=Nat.mod_lt _ (by omega)
   have hd:=znh (u % 10) hr
   obtain ⟨h1,h2,h3⟩:=ih (u / 10) (by omega)
   refine ⟨?_,by simp,?_⟩
   ·rw [Z09,h1,hd];omega
   ·rw [List.all_append,h3]
    simp only [List.all_cons,List.all_nil,Bool.and_true,Bool.true_and,hd,z2g]
    rw [if_pos (by omega)];simp;omega
theorem Z42 {u v:Nat} (h:Lib.decDigits u=Lib.decDigits v):u=v:=by rw [←(zq6 u).1,h,(zq6 v).1]
theorem zyp {c:UInt8} (h:z2g c.toNat=true):nameB c=true:=by simp [nameB,h]
def pre:List UInt8→List UInt8→Bool
 | [],_=>true
 | _::_,[]=>false
 | a::l,b::m=>a == b && pre l m
theorem zxw {d:Dat} (h:z0x d=true) :
  (d.kind=0∧(d.int=0∨d.int=1)∧d.text=[]∧d.list=[])∨(d.kind=1∧d.text=[]∧d.list=[])∨(d.kind=2∧0≤d.int∧d.int≤255∧d.text=[]∧d.list=[])∨(d.kind=3∧d.int=0∧d.list=[]) ∨
  (d.kind=4∧d.int=0∧d.list=[]∧z0p d.text=true)∨(d.kind=5∧d.int=0∧d.text=[])∨(d.kind=6∧d.int=0∧d.text=[]∧2≤d.list.length)∨(d.kind=7∧d.int=0∧d.text=[]):=by
 obtain ⟨k,n,t,l⟩:=d
 simp only [z0x,Dat.kind,Dat.int,Dat.text,Dat.list,List.isEmpty_iff] at h ⊢
 by_cases h0:k=0
 ·subst h0;simp at h ⊢;obtain ⟨⟨h1,h2⟩,h3⟩:=h;exact ⟨h3.imp of_decide_eq_true of_decide_eq_true,of_decide_eq_true h1,h2⟩
 by_cases h1:k=1
 ·subst h1;simp at h ⊢;exact ⟨of_decide_eq_true h.1.1.1,h.1.1.2⟩
 by_cases h2:k=2
 ·subst h2;simp at h ⊢;obtain ⟨⟨⟨a,b⟩,c⟩,e⟩:=h;exact ⟨of_decide_eq_true c,of_decide_eq_true e,of_decide_eq_true a,b⟩
 by_cases h3:k=3
 ·subst h3;simp at h ⊢;obtain ⟨⟨a,b⟩,c⟩:=h;exact ⟨of_decide_eq_true a,b⟩
 by_cases h4:k=4
 ·subst h4;simp at h ⊢;obtain ⟨⟨a,b⟩,c⟩:=h;exact ⟨of_decide_eq_true a,b,c⟩
 by_cases h5:k=5
 ·subst h5;simp at h ⊢;exact ⟨of_decide_eq_true h.1,of_decide_eq_true h.2⟩
 by_cases h7:k=7
 ·subst h7;simp at h ⊢;exact ⟨of_decide_eq_true h.1,of_decide_eq_true h.2⟩
 by_cases h6:k=6
 ·subst h6;simp at h ⊢;obtain ⟨⟨⟨a,b⟩,c⟩,e⟩:=h;exact ⟨of_decide_eq_true a,of_decide_eq_true b,of_decide_eq_true c⟩
 ·simp [h0,h1,h2,h3,h4,h5,h6,h7] at h
theorem uDats:Tryz.prog.underlying 23=some (.slice 25):=by kernel_rfl
theorem zd8:ElemOk Tryz.prog 25 4 56=true:=by kernel_rfl
instance decInI (n:Int):Decidable (InI n):=inferInstanceAs (Decidable (_∧_))
theorem z2u {H:PH} {k n:Int} {t:List UInt8} (hk:InI k) (hn:InI n) (ht:t.length≤maxLen):Dat.Rep H (.mk k n t []) [.int .i64 k,.int .i64 n,txt t,.slice none 0 0]:=
 Dat.Rep_iff.2 ⟨_,rfl,hk,hn,ht,SlR.mk_iff.2 ⟨Nat.zero_le _,.inl ⟨rfl,rfl⟩⟩⟩
end Go.Proofs.YtjhlndokjkeilaaGreatDoor.Vc
namespace Go.Proofs.YtjhlndokjkeilaaGreatDoor.Vc
open Go Go.ChangeShapes Go.WideShapes Go.ChangeAt Go.RowKit
mutual
def Dat.wt:Dat→Nat
 | .mk _ _ t l=>t.length+5+Dats.wt l
def Dats.wt:List Dat→Nat
 | []=>0
 | d::l=>Dat.wt d+Dats.wt l
end
theorem Z3j:ownKnob Tryz.prog.godebug=none:=by kernel_rfl
theorem zv2:laidOutB Tryz.prog=true:=by kernel_rfl
theorem zs4:mapsRowed Tryz.prog=true:=by kernel_rfl
theorem Z1p:Kids Tryz.prog (· < Tryz.prog.types.size):=kids_rows zv2 zs4
theorem Z2p:∀t e,t < Tryz.prog.types.size→Tryz.prog.underlying t=some (.slice e)→0 < Tryz.prog.cellsOf e:=slices_full_of Tryz.prog (by kernel_rfl)
abbrev tabs : List (String × DataW Unit) := [("math/bits.deBruijn32tab", Rows.laid_math_bits_deBruijn32tab), ("math/bits.deBruijn64tab", Rows.laid_math_bits_deBruijn64tab), ("internal/strconv.uint64pow10", Rows.laid_internal_strconv_uint64pow10)]
theorem gPow : Tryz.prog.globalNamed "internal/strconv.uint64pow10" = some 0 := by kernel_rfl
theorem tPow:(Tryz.prog.globals[0]?).map (·.type)=some 161:=by kernel_rfl
theorem uPow:Tryz.prog.underlying 161=some (.array 20 153):=by kernel_rfl
theorem uPowE:Tryz.prog.underlying 153=some (.int .u64):=by kernel_rfl
theorem cPowE:Tryz.prog.cellsOf 153=1:=by kernel_rfl
theorem cPow:Tryz.prog.cellsOf 161=20:=by kernel_rfl
theorem zvr {W:World} (h:laidMetH Tryz.prog tabs W):Tab (whole W):=by
 have h1:laidMet Tryz.prog tabs W:=h
 have h3:=zlh (zlh h1)
 have ht : Lib.TabIs Tryz.prog W "internal/strconv.uint64pow10" .u64 Lib.pow10Tab := Lib.tabIs_of_head (rest := []) gPow tPow uPow uPowE cPowE cPow h3
 unfold Lib.TabIs World.var? at ht
 rw [gPow] at ht
 simp only [Option.bind_some] at ht
 cases hb:W.heap[0]? with
 | none=>rw [hb] at ht;cases ht
 | some o=>
  rw [hb] at ht
  cases o with
  | cells cs e f=>
   simp only [Option.some.injEq] at ht
   exact ⟨0,e,f,gPow,by unfold whole;rw [hb,ht]⟩
  | _=>cases ht
def zqh (k:IntKind) (zs:List Int):Obj→Obj
 | .cells _ t f=>.cells (zs.map fun z=>Value.int k z).toArray t f
 | o=>o
noncomputable def zld (os:Os):World:=
 let w:=World.holding Tryz.prog os ⟨#[],#[],[]⟩
 { w with heap:=((w.heap.modify 0 (zqh .u64 Lib.pow10Tab)).modify 2 (zqh .u8 [0,1,28,2,29,14,24,3,30,22,20,15,25,17,4,8,31,27,13,23,21,19,16,7,26,12,18,6,11,5,10,9])).modify 3 (zqh .u8 [0,1,56,2,57,49,28,3,61,58,42,50,38,29,17,4,62,47,59,36,45,43,51,22,53,39,33,30,24,18,12,5,63,55,48,27,60,41,37,16,46,35,44,21,52,32,23,11,54,26,40,15,34,20,31,10,25,14,19,9,13,8,7,6]) }
def Dat.Mono (d:Dat):Prop:=∀(deep seen deep' seen':Nat),deep≤32→deep'≤deep→seen'≤seen→seen≤4096→(d.chk deep seen).2=0→(d.chk deep' seen').2=0∧(d.chk deep' seen').1+seen=(d.chk deep seen).1+seen'
theorem Dats.mono:∀(l:List Dat),(∀e∈l,e.Mono)→∀(deep seen deep' seen':Nat),deep≤32→deep'≤deep→seen'≤seen→seen≤4096→(Dats.chk l deep seen).2=0→(Dats.chk l deep' seen').2=0∧(Dats.chk l deep' seen').1+seen=(Dats.chk l deep seen).1+seen'
 | [],_,deep,seen,deep',seen',_,_,_,_,_=>by simp only [Dats.chk];exact ⟨trivial,by omega⟩
 | d::l,hl,deep,seen,deep',seen',h1,h2,h3,h4,h=>by
  simp only [Dats.chk] at h ⊢
  split at h
  ·rename_i hx;exact absurd h hx
  rename_i hx
  have hx:(d.chk deep seen).2=0:=by simpa using hx
  obtain ⟨g1,g2⟩:=hl d (zms) deep seen deep' seen' h1 h2 h3 h4 hx
  have g3:=Dats.mono l (fun e he=>hl e (zmm _ he)) deep (d.chk deep seen).1 deep' (d.chk deep' seen').1 h1 h2 (by omega) (Dat.chk_le d deep seen h4) h
  rw [if_neg (by simp [g1]),if_neg (by simp [hx])]
  exact ⟨g3.1,by omega⟩
theorem Dat.mono:∀d:Dat,d.Mono:=by
 refine Dat.ind ?_
 intro d ih deep seen deep' seen' h1 h2 h3 h4 h
 rw [Dat.chk_eq] at h
 rw [Dat.chk_eq d deep' seen',Dat.chk_eq d deep seen]
 split at h
 ·simp at h
 rename_i h0
 split at h
 ·simp at h
 rename_i h5
 split at h
 ·simp at h
 rename_i h6
 have hn:z27 d.kind=true→deep < 32:=fun x=>by
  rcases Nat.lt_or_ge deep 32 with y | y
  ·exact y
  ·exact absurd ⟨x,by omega⟩ h5
 rw [if_neg h0,if_neg h5,if_neg h6,if_neg (show ¬seen'=4096 by omega),if_neg (fun x=>by have:=hn x.1;omega),if_neg h6]
 by_cases hl:d.list=[]
 ·rw [hl];simp only [Dats.chk];exact ⟨trivial,by omega⟩
 ·have hn':=hn (zc6 (by simpa using h6) hl)
  have g:=Dats.mono d.list ih (deep+1) (seen+1) (deep'+1) (seen'+1) (by omega) (by omega) (by omega) (by omega) h
  exact ⟨g.1,by omega⟩
noncomputable instance decDat:DecidableEq Dat:=fun a b=>Classical.propDecidable (a=b)
noncomputable instance decDats:DecidableEq (List Dat):=fun a b=>Classical.propDecidable (a=b)
theorem Dat.eq_iff {a b:Dat}:a=b↔a.kind=b.kind∧a.int=b.int∧a.text=b.text∧a.list=b.list:=by
 cases a;cases b;simp [Dat.kind,Dat.int,Dat.text,Dat.list]
theorem zpn {P:Program} {X:List PanicEntry→PH→Prop} {α:Type} {E:List Value} {H:PH} {L:LK} {K:α→List Value→PH→LK→Prop} {i f:Nat} {args:List VE} {rs:RS} {pend:List (SV×List SV)} {k:Fm α} (vs:List Value) (hi:E.getD i (.bool false)=.func (.func f) #[] #[]) (hok:callB P f=true)
  (hc:Gives P f (args.map (evV E fun _=>0)) H (rs.pack vs)) (ht:z0c rs.tags vs=true) (hp:z0m E H pend) (hk:∀H',PH.le H H'→den P X k (E++vs) H' L K):den P X (.call (.atom i) args rs pend k) E H L K:=by
 refine ⟨f,#[],#[],hi,zkw hok,?_⟩
 have e:(#[]:Array Value)++(args.map (evV E fun _=>0)).toArray++#[]=(args.map (evV E fun _=>0)).toArray:=by simp
 rw [e]
 exact Tri.mono hc fun e H' ⟨he,hl⟩=>by subst he;exact ⟨vs,ht,rfl,z2b hp hl,hk H' hl⟩
theorem zl7 {l m:List Dat} {k:Nat} {a b:Dat} (h:l.take k=m.take k) (ha:l[k]?=some a) (hb:m[k]?=some b) (hab:a=b):l.take (k+1)=m.take (k+1):=by
 rw [List.take_add_one,List.take_add_one,h,ha,hb,hab]
def zus (f:FuncId) (a:Dat):Prop:=∀(b:Dat) (ca cb:List Value) (H:PH),a.Rep H ca→b.Rep H cb→Gives Tryz.prog f [.agg ca.toArray,.agg cb.toArray] H (.bool (decide (a=b)))
theorem zpj (l m:List Dat) (va vb:Value) (H:PH) (hl:SlR H l va) (hm:SlR H m vb) (ih:∀e∈l,zus z9c e) :
  Gives Tryz.prog z1y [va,vb,.func (.func z9c) #[] #[]] H (.bool (decide (l=m))):=by
 obtain ⟨b1,c1,rfl⟩:=hl.sl
 obtain ⟨b2,c2,rfl⟩:=hm.sl
 have m1:=hl.max
 have m2:=hm.max
 simp only [maxLen] at m1 m2
 refine z1t [.slice b1 l.length c1,.slice b2 m.length c2,.func (.func z9c) #[] #[]] (by kernel_rfl) (by kernel_rfl) ?_
 refine ⟨fun h=>?_,fun h=>?_⟩
 ·simp only [ev0,ev,evV,List.cons_append,List.nil_append,List.getD_cons_zero,List.getD_cons_succ,List.map_cons,List.map_nil,iOf,bOf,sOf,pOf,slLen,z04,cmpI,arI,Value.ite_bool,z01,z03,z00,z02,zdt] at h
  refine ⟨?_,PH.le_refl H⟩
  have:¬l=m:=fun e=>h (by rw [e])
  simp only [ev0,ev,evV,List.cons_append,List.nil_append,List.getD_cons_zero,List.getD_cons_succ,List.map_cons,List.map_nil,iOf,bOf,sOf,pOf,slLen,z04,cmpI,arI,Value.ite_bool,z01,z03,z00,z02,decide_eq_false this]
 simp only [ev0,ev,evV,List.cons_append,List.nil_append,List.getD_cons_zero,List.getD_cons_succ,List.map_cons,List.map_nil,iOf,bOf,sOf,pOf,slLen,z04,cmpI,arI,Value.ite_bool,z01,z03,z00,z02,zdf,ne_eq,Decidable.not_not] at h
 have hlen:l.length=m.length:=by omega
 refine ⟨fun n vs H'=>∃k:Nat,vs=[.bool false,.int .i64 k]∧k+n=l.length∧l.take k=m.take k∧PH.le H H',⟨l.length,0,rfl,by omega,by simp,PH.le_refl H⟩,?_⟩
 rintro n vs H' _ ⟨k,rfl,hkn,htk,hle⟩
 refine ⟨fun h5=>?_,fun h5=>?_⟩
 ·simp only [ev0,ev,evV,List.cons_append,List.nil_append,List.getD_cons_zero,List.getD_cons_succ,List.map_cons,List.map_nil,iOf,bOf,sOf,pOf,slLen,z04,cmpI,arI,Value.ite_bool,z01,z03,z00,z02,zdt] at h5
  obtain ⟨e,he⟩:∃e,l[k]?=some e:=⟨_,zge (show k < l.length by omega)⟩
  obtain ⟨e',he'⟩:∃e,m[k]?=some e:=⟨_,zge (show k < m.length by omega)⟩
  obtain ⟨g1,ces,g2,g3,_,_⟩:=SlRep.get (hl.le hle) he
  obtain ⟨g1',ces',g2',g3',_,_⟩:=SlRep.get (hm.le hle) he'
  have htags:=g2.tags
  have htags':=g2'.tags
  have hcall:=ih e (List.mem_of_getElem? he) e' ces ces' H' g2 g2'
  obtain ⟨sve,rfl,_⟩:=Dat.Rep_iff.1 g2
  obtain ⟨sve',rfl,_⟩:=Dat.Rep_iff.1 g2'
  refine ⟨fun _=>?_,_,htags,by simp only [ev0,ev,evV,List.cons_append,List.nil_append,List.getD_cons_zero,List.getD_cons_succ,List.map_cons,List.map_nil,iOf,bOf,sOf,pOf,slLen,z04,cmpI,arI,Value.ite_bool,z01,z03,z00,z02];exact g3,fun _=>?_,_,htags',by simp only [ev0,ev,evV,List.cons_append,List.nil_append,List.getD_cons_zero,List.getD_cons_succ,List.map_cons,List.map_nil,iOf,bOf,sOf,pOf,slLen,z04,cmpI,arI,Value.ite_bool,z01,z03,z00,z02];exact g3',?_⟩
  ·simp only [Chk.holds,ev0,ev,evV,List.cons_append,List.nil_append,List.getD_cons_zero,List.getD_cons_succ,List.map_cons,List.map_nil,iOf,bOf,sOf,pOf,slLen,z04,cmpI,arI,Value.ite_bool,z01,z03,z00,z02];exact ⟨g1,by omega,by omega⟩
  ·simp only [Chk.holds,ev0,ev,evV,List.cons_append,List.nil_append,List.getD_cons_zero,List.getD_cons_succ,List.map_cons,List.map_nil,iOf,bOf,sOf,pOf,slLen,z04,cmpI,arI,Value.ite_bool,z01,z03,z00,z02];exact ⟨g1',by omega,by omega⟩
  refine zpn [.bool (decide (e=e'))] rfl zjw hcall rfl z05 fun H2 h2=>⟨fun h6=>?_,fun h6=>?_⟩
  ·simp only [ev0,ev,evV,List.cons_append,List.nil_append,List.getD_cons_zero,List.getD_cons_succ,List.map_cons,List.map_nil,iOf,bOf,sOf,pOf,slLen,z04,cmpI,arI,Value.ite_bool,z01,z03,z00,z02,Bool.not_eq_true',zdf] at h6
   refine ⟨?_,PH.le_trans hle h2⟩
   have:¬l=m:=fun x=>h6 (by subst x;rw [he] at he';exact Option.some.inj he')
   simp only [ev0,ev,evV,List.cons_append,List.nil_append,List.getD_cons_zero,List.getD_cons_succ,List.map_cons,List.map_nil,iOf,bOf,sOf,pOf,slLen,z04,cmpI,arI,Value.ite_bool,z01,z03,z00,z02,decide_eq_false this]
  ·simp only [ev0,ev,evV,List.cons_append,List.nil_append,List.getD_cons_zero,List.getD_cons_succ,List.map_cons,List.map_nil,iOf,bOf,sOf,pOf,slLen,z04,cmpI,arI,Value.ite_bool,z01,z03,z00,z02,Bool.not_eq_false',zdt] at h6
   refine ⟨_,z06,n - 1,by omega,k+1,?_,by omega,zl7 htk he he' h6,PH.le_trans hle h2⟩
   simp only [ev0,ev,evV,List.cons_append,List.nil_append,List.getD_cons_zero,List.getD_cons_succ,List.map_cons,List.map_nil,iOf,bOf,sOf,pOf,slLen,z04,cmpI,arI,Value.ite_bool,z01,z03,z00,z02]
   rw [w64 (by omega) (by omega)]
   rfl
 ·simp only [ev0,ev,evV,List.cons_append,List.nil_append,List.getD_cons_zero,List.getD_cons_succ,List.map_cons,List.map_nil,iOf,bOf,sOf,pOf,slLen,z04,cmpI,arI,Value.ite_bool,z01,z03,z00,z02,zdf] at h5
  refine ⟨?_,hle⟩
  have:l=m:=by rw [List.take_of_length_le (by omega),List.take_of_length_le (by omega)] at htk;exact htk
  simp only [ev0,ev,evV,List.cons_append,List.nil_append,List.getD_cons_zero,List.getD_cons_succ,List.map_cons,List.map_nil,iOf,bOf,sOf,pOf,slLen,z04,cmpI,arI,Value.ite_bool,z01,z03,z00,z02,decide_eq_true this]
theorem zv3:∀a,zus z9c a:=by
 refine Dat.ind ?_
 intro a ih b ca cb H ha hb
 obtain ⟨s1,rfl,_,_,_,hs1⟩:=Dat.Rep_iff.1 ha
 obtain ⟨s2,rfl,_,_,_,hs2⟩:=Dat.Rep_iff.1 hb
 have hcall:=zpj a.list b.list s1 s2 H hs1 hs2 ih
 obtain ⟨b1,c1,rfl⟩:=hs1.sl
 obtain ⟨b2,c2,rfl⟩:=hs2.sl
 refine zqt [.int .i64 a.kind,.int .i64 a.int,txt a.text,.slice b1 a.list.length c1,.int .i64 b.kind,.int .i64 b.int,txt b.text,.slice b2 b.list.length c2] (by kernel_rfl) (by kernel_rfl) ?_
 refine ⟨fun vs H'=>vs=[.bool (decide (a=b))]∧PH.le H H',?_,?_⟩
 ·rintro vs H' _ ⟨rfl,h⟩;exact ⟨rfl,h⟩
 refine ⟨fun h=>?_,fun h=>?_⟩
 ·simp only [ev0,ev,evV,List.cons_append,List.nil_append,List.getD_cons_zero,List.getD_cons_succ,List.map_cons,List.map_nil,iOf,bOf,sOf,pOf,slLen,z04,cmpI,arI,Value.ite_bool,z01,z03,z00,z02,z09] at h
  simp only [zba,zdt] at h
  refine z07 [.bool (decide (a.list=b.list))] z1v hcall rfl z05 fun H2 h2=>⟨_,z06,?_,h2⟩
  have:(a=b)↔a.list=b.list:=by rw [Dat.eq_iff];simp [h.1.1,h.1.2,h.2]
  simp only [ev0,ev,evV,List.cons_append,List.nil_append,List.getD_cons_zero,List.getD_cons_succ,List.map_cons,List.map_nil,iOf,bOf,sOf,pOf,slLen,z04,cmpI,arI,Value.ite_bool,z01,z03,z00,z02,decide_eq_decide.2 this]
 ·simp only [ev0,ev,evV,List.cons_append,List.nil_append,List.getD_cons_zero,List.getD_cons_succ,List.map_cons,List.map_nil,iOf,bOf,sOf,pOf,slLen,z04,cmpI,arI,Value.ite_bool,z01,z03,z00,z02,z09] at h
  refine ⟨_,z06,?_,PH.le_refl H⟩
  have:¬a=b:=fun e=>by subst e;simp at h
  simp only [ev0,ev,evV,List.cons_append,List.nil_append,List.getD_cons_zero,List.getD_cons_succ,List.map_cons,List.map_nil,iOf,bOf,sOf,pOf,slLen,z04,cmpI,arI,Value.ite_bool,z01,z03,z00,z02,decide_eq_false this]
theorem zj2:∀a,zus zhs a:=by
 refine Dat.ind ?_
 intro a ih b ca cb H ha hb
 obtain ⟨s1,rfl,_,_,_,hl⟩:=Dat.Rep_iff.1 ha
 obtain ⟨s2,rfl,_,_,_,hm⟩:=Dat.Rep_iff.1 hb
 obtain ⟨b1,c1,rfl⟩:=hl.sl
 obtain ⟨b2,c2,rfl⟩:=hm.sl
 have m1:=hl.max
 have m2:=hm.max
 simp only [maxLen] at m1 m2
 refine zf6 [.int .i64 a.kind,.int .i64 a.int,txt a.text,.slice b1 a.list.length c1,.int .i64 b.kind,.int .i64 b.int,txt b.text,.slice b2 b.list.length c2] (by kernel_rfl) (by kernel_rfl) ?_
 refine ⟨fun h=>?_,fun h=>?_⟩
 ·simp only [ev0,ev,evV,List.cons_append,List.nil_append,List.getD_cons_zero,List.getD_cons_succ,List.map_cons,List.map_nil,iOf,bOf,sOf,pOf,slLen,z04,cmpI,arI,Value.ite_bool,z01,z03,z00,z02,z1d] at h
  refine ⟨?_,PH.le_refl H⟩
  have:¬a=b:=fun e=>by subst e;simp at h
  simp only [ev0,ev,evV,List.cons_append,List.nil_append,List.getD_cons_zero,List.getD_cons_succ,List.map_cons,List.map_nil,iOf,bOf,sOf,pOf,slLen,z04,cmpI,arI,Value.ite_bool,z01,z03,z00,z02,decide_eq_false this]
 simp only [ev0,ev,evV,List.cons_append,List.nil_append,List.getD_cons_zero,List.getD_cons_succ,List.map_cons,List.map_nil,iOf,bOf,sOf,pOf,slLen,z04,cmpI,arI,Value.ite_bool,z01,z03,z00,z02,z1d] at h
 simp only [Bool.or_eq_false_iff,zdf,ne_eq,Decidable.not_not] at h
 obtain ⟨⟨⟨h1,h2⟩,h3⟩,h4⟩:=h
 have heq:(a=b)↔a.list=b.list:=by rw [Dat.eq_iff];simp [h1,h2,h3]
 have hlen:a.list.length=b.list.length:=by omega
 refine ⟨fun n vs H'=>∃k:Nat,vs=[.bool false,.int .i64 k]∧k+n=a.list.length∧a.list.take k=b.list.take k∧PH.le H H',⟨a.list.length,0,rfl,by omega,by simp,PH.le_refl H⟩,?_⟩
 rintro n vs H' _ ⟨k,rfl,hkn,htk,hle⟩
 refine ⟨fun h5=>?_,fun h5=>?_⟩
 ·simp only [ev0,ev,evV,List.cons_append,List.nil_append,List.getD_cons_zero,List.getD_cons_succ,List.map_cons,List.map_nil,iOf,bOf,sOf,pOf,slLen,z04,cmpI,arI,Value.ite_bool,z01,z03,z00,z02,zdt] at h5
  obtain ⟨e,he⟩:∃e,a.list[k]?=some e:=⟨_,zge (show k < a.list.length by omega)⟩
  obtain ⟨e',he'⟩:∃e,b.list[k]?=some e:=⟨_,zge (show k < b.list.length by omega)⟩
  obtain ⟨g1,ces,g2,g3,_,_⟩:=SlRep.get (hl.le hle) he
  obtain ⟨g1',ces',g2',g3',_,_⟩:=SlRep.get (hm.le hle) he'
  have htags:=g2.tags
  have htags':=g2'.tags
  have hcall:=ih e (List.mem_of_getElem? he) e' ces ces' H' g2 g2'
  obtain ⟨sve,rfl,_⟩:=Dat.Rep_iff.1 g2
  obtain ⟨sve',rfl,_⟩:=Dat.Rep_iff.1 g2'
  refine ⟨fun _=>?_,_,htags,by simp only [ev0,ev,evV,List.cons_append,List.nil_append,List.getD_cons_zero,List.getD_cons_succ,List.map_cons,List.map_nil,iOf,bOf,sOf,pOf,slLen,z04,cmpI,arI,Value.ite_bool,z01,z03,z00,z02];exact g3,fun _=>?_,_,htags',by simp only [ev0,ev,evV,List.cons_append,List.nil_append,List.getD_cons_zero,List.getD_cons_succ,List.map_cons,List.map_nil,iOf,bOf,sOf,pOf,slLen,z04,cmpI,arI,Value.ite_bool,z01,z03,z00,z02];exact g3',?_⟩
  ·simp only [Chk.holds,ev0,ev,evV,List.cons_append,List.nil_append,List.getD_cons_zero,List.getD_cons_succ,List.map_cons,List.map_nil,iOf,bOf,sOf,pOf,slLen,z04,cmpI,arI,Value.ite_bool,z01,z03,z00,z02];exact ⟨g1,by omega,by omega⟩
  ·simp only [Chk.holds,ev0,ev,evV,List.cons_append,List.nil_append,List.getD_cons_zero,List.getD_cons_succ,List.map_cons,List.map_nil,iOf,bOf,sOf,pOf,slLen,z04,cmpI,arI,Value.ite_bool,z01,z03,z00,z02];exact ⟨g1',by omega,by omega⟩
  refine z07 [.bool (decide (e=e'))] z2l hcall rfl z05 fun H2 h2=>⟨fun h6=>?_,fun h6=>?_⟩
  ·simp only [ev0,ev,evV,List.cons_append,List.nil_append,List.getD_cons_zero,List.getD_cons_succ,List.map_cons,List.map_nil,iOf,bOf,sOf,pOf,slLen,z04,cmpI,arI,Value.ite_bool,z01,z03,z00,z02,Bool.not_eq_true',zdf] at h6
   refine ⟨?_,PH.le_trans hle h2⟩
   have:¬a=b:=fun x=>h6 (by subst x;rw [he] at he';exact Option.some.inj he')
   simp only [ev0,ev,evV,List.cons_append,List.nil_append,List.getD_cons_zero,List.getD_cons_succ,List.map_cons,List.map_nil,iOf,bOf,sOf,pOf,slLen,z04,cmpI,arI,Value.ite_bool,z01,z03,z00,z02,decide_eq_false this]
  ·simp only [ev0,ev,evV,List.cons_append,List.nil_append,List.getD_cons_zero,List.getD_cons_succ,List.map_cons,List.map_nil,iOf,bOf,sOf,pOf,slLen,z04,cmpI,arI,Value.ite_bool,z01,z03,z00,z02,Bool.not_eq_false',zdt] at h6
   refine ⟨_,z06,n - 1,by omega,k+1,?_,by omega,zl7 htk he he' h6,PH.le_trans hle h2⟩
   simp only [ev0,ev,evV,List.cons_append,List.nil_append,List.getD_cons_zero,List.getD_cons_succ,List.map_cons,List.map_nil,iOf,bOf,sOf,pOf,slLen,z04,cmpI,arI,Value.ite_bool,z01,z03,z00,z02]
   rw [w64 (by omega) (by omega)]
   rfl
 ·simp only [ev0,ev,evV,List.cons_append,List.nil_append,List.getD_cons_zero,List.getD_cons_succ,List.map_cons,List.map_nil,iOf,bOf,sOf,pOf,slLen,z04,cmpI,arI,Value.ite_bool,z01,z03,z00,z02,zdf] at h5
  refine ⟨?_,hle⟩
  have:a=b:=heq.2 (by rw [List.take_of_length_le (by omega),List.take_of_length_le (by omega)] at htk;exact htk)
  simp only [ev0,ev,evV,List.cons_append,List.nil_append,List.getD_cons_zero,List.getD_cons_succ,List.map_cons,List.map_nil,iOf,bOf,sOf,pOf,slLen,z04,cmpI,arI,Value.ite_bool,z01,z03,z00,z02,decide_eq_true this]
mutual
def Dat.cnt:Dat→Nat
 | .mk _ _ _ l=>1+Dats.cnt l
def Dats.cnt:List Dat→Nat
 | []=>0
 | d::l=>Dat.cnt d+Dats.cnt l
end
theorem Dat.cnt_eq (d:Dat):d.cnt=1+Dats.cnt d.list:=by cases d;simp only [Dat.cnt,Dat.list]
theorem Dats.cnt_le:∀l:List Dat,l.length≤Dats.cnt l
 | []=>by simp
 | d::l=>by
  have:=Dats.cnt_le l
  have h:=Dat.cnt_eq d
  simp only [Dats.cnt,zlc];omega
theorem Dats.cnt_append:∀l m:List Dat,Dats.cnt (l++m)=Dats.cnt l+Dats.cnt m
 | [],m=>by simp [Dats.cnt]
 | d::l,m=>by simp only [List.cons_append,Dats.cnt,Dats.cnt_append l m];omega
def Z4g (f:FuncId) (args:List Value) (H:PH) (d:Dat):Prop:=Tri Tryz.prog f args.toArray H fun e H'=>∃cs,e=.returned (.agg cs.toArray)∧PH.le H H'∧d.Rep H' cs
def makeD (l:List Dat) (d:Dat):Dat:=if l.length=0 then d else if d.kind=5∨d.kind=6 then .mk d.kind 0 [] (l++d.list) else .mk 6 0 [] (l++[d])
theorem or_if (p q:Prop) [Decidable p] [Decidable q]:(if decide p=true then true else decide q)=decide (p∨q):=by by_cases hp:p<;>simp [hp]
theorem zw5 (l:List Dat) (d:Dat) (v:Value) (cs:List Value) (H:PH) (hl:SlR H l v) (hd:d.Rep H cs) (hc1:Dats.cnt l≤100000) (hc2:d.cnt≤100000):Z4g zih [v,.agg cs.toArray] H (makeD l d):=by
 have hll:=Dats.cnt_le l
 have hdl:=Dats.cnt_le d.list
 have hcd:=Dat.cnt_eq d
 have hd':=hd
 obtain ⟨sv,rfl,g1,g2,g3,hs⟩:=Dat.Rep_iff.1 hd
 obtain ⟨b0,c0,rfl⟩:=hl.sl
 obtain ⟨b,c,rfl⟩:=hs.sl
 refine zey [.slice b0 l.length c0,.int .i64 d.kind,.int .i64 d.int,txt d.text,.slice b d.list.length c] (by kernel_rfl) (by kernel_rfl) ?_
 refine ⟨fun h=>?_,fun h=>?_⟩
 ·simp only [ev0,ev,evV,List.cons_append,List.nil_append,List.getD_cons_zero,List.getD_cons_succ,List.map_cons,List.map_nil,iOf,bOf,sOf,pOf,slLen,z04,cmpI,arI,Value.ite_bool,z01,z03,z00,z02,zdt] at h
  rw [makeD,if_pos (by omega)]
  exact ⟨_,rfl,PH.le_refl H,hd'⟩
 simp only [ev0,ev,evV,List.cons_append,List.nil_append,List.getD_cons_zero,List.getD_cons_succ,List.map_cons,List.map_nil,iOf,bOf,sOf,pOf,slLen,z04,cmpI,arI,Value.ite_bool,z01,z03,z00,z02,zdf] at h
 refine zo8 (α:=Dat) (b:=56) uDats zd8 fun v5 H2 a5 l5=>?_
 refine zit (b:=56) uDats zd8 rfl rfl a5 (hl.le a5.le) (by simp only [maxLen,List.length_nil];omega) (by simp only [List.length_nil];omega) fun v6 H3 a6 w6=>⟨z05,?_⟩
 rw [List.nil_append] at a6
 refine ⟨fun h2=>?_,fun h2=>?_⟩
 ·simp only [ev0,ev,evV,List.cons_append,List.nil_append,List.getD_cons_zero,List.getD_cons_succ,List.map_cons,List.map_nil,iOf,bOf,sOf,pOf,slLen,z04,cmpI,arI,Value.ite_bool,z01,or_if] at h2
  rw [zdt] at h2
  rw [makeD,if_neg (by omega),if_pos h2]
  refine zit (b:=56) uDats zd8 rfl rfl a6 (hs.le a6.le) (by simp only [maxLen];omega) (by omega) fun v' H4 a7 w7=>⟨z05,[.int .i64 d.kind,.int .i64 0,txt [],v'],rfl,a7.all,?_⟩
  exact Dat.Rep_iff.2 ⟨_,rfl,g1,(by decide:InI 0),Nat.zero_le _,a7.slR⟩
 ·simp only [ev0,ev,evV,List.cons_append,List.nil_append,List.getD_cons_zero,List.getD_cons_succ,List.map_cons,List.map_nil,iOf,bOf,sOf,pOf,slLen,z04,cmpI,arI,Value.ite_bool,z01,or_if] at h2
  rw [zdf] at h2
  rw [makeD,if_neg (by omega),if_neg h2]
  refine Z2n (more:=[d]) (b:=56) [.agg #[.int .i64 d.kind,.int .i64 d.int,txt d.text,.slice b d.list.length c]] uDats zd8 rfl (by decide) (by decide) rfl (.cons (Dat.Rep.le a6.le d hd') .nil) z05 a6 (fun _=>rfl) (fun _=>rfl)
   (by simp only [maxLen,zlc,List.length_nil];omega) (by simp only [zlc,List.length_nil];omega) fun u v' H4 a7 w7=>⟨z05,[.int .i64 6,.int .i64 0,txt [],v'],rfl,a7.all,?_⟩
  exact Dat.Rep_iff.2 ⟨_,rfl,(by decide:InI 6),(by decide:InI 0),Nat.zero_le _,a7.slR⟩
inductive Xp where
 | mk (kind:Int) (name:List UInt8) (names:List (List UInt8)) (const:Dat) (kids:List Xp)
def Xp.kind:Xp→Int
 | .mk k _ _ _ _=>k
def Xp.name:Xp→List UInt8
 | .mk _ s _ _ _=>s
def Xp.names:Xp→List (List UInt8)
 | .mk _ _ l _ _=>l
def Xp.const:Xp→Dat
 | .mk _ _ _ d _=>d
def Xp.kids:Xp→List Xp
 | .mk _ _ _ _ l=>l
theorem Xp.kind_mk (k:Int) (s:List UInt8) (ns:List (List UInt8)) (d:Dat) (l:List Xp):(Xp.mk k s ns d l).kind=k:=rfl
theorem Xp.kids_mk (k:Int) (s:List UInt8) (ns:List (List UInt8)) (d:Dat) (l:List Xp):(Xp.mk k s ns d l).kids=l:=rfl
mutual
def Xp.pv:Xp→List PV
 | .mk k s ns d l=>.int .i64 k::.str s::.sl (ns.map fun x=>[PV.str x])::(d.pv++[.sl (Xps.pvs l)])
def Xps.pvs:List Xp→List (List PV)
 | []=>[]
 | e::l=>Xp.pv e::Xps.pvs l
end
theorem Xps.pvs_eq:∀l:List Xp,Xps.pvs l=l.map Xp.pv
 | []=>by simp only [Xps.pvs,List.map_nil]
 | e::l=>by simp only [Xps.pvs,List.map_cons,Xps.pvs_eq l]
theorem Dat.pv_len (d:Dat):d.pv.length=4:=by cases d;simp only [Dat.pv,zlc,List.length_nil]
instance encEx:Enc Xp:=⟨Xp.pv,8,fun e=>by cases e;simp only [Xp.pv,zlc,zla,List.length_nil,Dat.pv_len]⟩
abbrev Xp.Rep (H:PH) (e:Xp) (cs:List Value):Prop:=CsR H e cs
theorem Xp.Rep_iff {H:PH} {e:Xp} {cs:List Value}:e.Rep H cs↔∃nv dv kv,cs=[.int .i64 e.kind,txt e.name,nv,.int .i64 e.const.kind,.int .i64 e.const.int,txt e.const.text,dv,kv] ∧
  InI e.kind∧e.name.length≤maxLen∧SlR H e.names nv∧e.const.Rep H [.int .i64 e.const.kind,.int .i64 e.const.int,txt e.const.text,dv]∧SlR H e.kids kv:=by
 obtain ⟨k,s,ns,d,l⟩:=e
 unfold Xp.Rep CsR SlR slp
 show PV.RepRow H (Xp.pv _) cs↔_
 simp only [Xp.pv,PV.RepRow,Xp.kind,Xp.name,Xp.names,Xp.const,Xp.kids,Xps.pvs_eq]
 constructor
 ·rintro ⟨v1,vs1,rfl,h1,v2,vs2,rfl,h2,v3,vs3,rfl,h3,h4⟩
  have h5:=h4.split
  rw [Dat.pv_len] at h5
  obtain ⟨dv,he,g⟩:=Dat.Rep_iff.1 (show d.Rep H (vs3.take 4) from h5.1)
  obtain ⟨v8,vs8,he8,h8,hn⟩:=h5.2
  simp only [PV.RepRow] at hn
  subst hn
  simp only [PV.Rep] at h1 h2
  obtain ⟨rfl,h1⟩:=h1
  obtain ⟨rfl,h2⟩:=h2
  have hvs:vs3=[.int .i64 d.kind,.int .i64 d.int,txt d.text,dv]++[v8]:=by rw [←he,←he8,List.take_append_drop]
  refine ⟨v3,dv,v8,by rw [hvs];rfl,inI64.1 h1,h2,h3,?_,h8⟩
  have:=h5.1
  rw [he] at this
  exact this
 ·rintro ⟨nv,dv,kv,rfl,h1,h2,h3,h4,h5⟩
  refine ⟨_,_,rfl,?_,_,_,rfl,?_,_,_,rfl,h3,?_⟩
  ·simp only [PV.Rep];exact ⟨trivial,inI64.2 h1⟩
  ·simp only [PV.Rep];exact ⟨trivial,h2⟩
  ·refine PV.RepRow.append (cs:=[.int .i64 d.kind,.int .i64 d.int,txt d.text,dv]) h4 ?_
   exact ⟨_,_,rfl,h5,rfl⟩
theorem Xp.Rep.le {H H':PH} (h:PH.le H H') (e:Xp) {cs:List Value} (he:e.Rep H cs):e.Rep H' cs:=CsR.le h he
structure ExV (H:PH) (e:Xp) (nb db kb:Option Addr) (nc dc kc:Nat):Prop where
 kind:InI e.kind
 name:e.name.length≤maxLen
 names:SlR H e.names (.slice nb e.names.length nc)
 const:e.const.Rep H [.int .i64 e.const.kind,.int .i64 e.const.int,txt e.const.text,.slice db e.const.list.length dc]
 kids:SlR H e.kids (.slice kb e.kids.length kc)
abbrev exVs (e:Xp) (nb db kb:Option Addr) (nc dc kc:Nat):List Value:=[.int .i64 e.kind,txt e.name,.slice nb e.names.length nc,.int .i64 e.const.kind,.int .i64 e.const.int,txt e.const.text,.slice db e.const.list.length dc,.slice kb e.kids.length kc]
theorem Xp.Rep.open {H:PH} {e:Xp} {cs:List Value} (h:e.Rep H cs):∃nb db kb nc dc kc,cs=exVs e nb db kb nc dc kc∧ExV H e nb db kb nc dc kc:=by
 obtain ⟨nv,dv,kv,rfl,h1,h2,h3,h4,h5⟩:=Xp.Rep_iff.1 h
 obtain ⟨nb,nc,rfl⟩:=h3.sl
 obtain ⟨kb,kc,rfl⟩:=h5.sl
 obtain ⟨dv',e',_,_,_,h6⟩:=Dat.Rep_iff.1 h4
 obtain ⟨db,dc,rfl⟩:=h6.sl
 cases e'
 exact ⟨nb,db,kb,nc,dc,kc,rfl,h1,h2,h3,h4,h5⟩
theorem ExV.rep {H:PH} {e:Xp} {nb db kb:Option Addr} {nc dc kc:Nat} (h:ExV H e nb db kb nc dc kc):e.Rep H (exVs e nb db kb nc dc kc):=
 Xp.Rep_iff.2 ⟨_,_,_,rfl,h.kind,h.name,h.names,h.const,h.kids⟩
theorem Xp.Rep.tags {H:PH} {e:Xp} {cs:List Value} (h:e.Rep H cs):z0c [.int .i64,.str,.sl,.int .i64,.int .i64,.str,.sl,.sl] cs=true:=by
 obtain ⟨nb,db,kb,nc,dc,kc,rfl,_⟩:=h.open
 rfl
theorem Xp.eq_iff {a b:Xp}:a=b↔a.kind=b.kind∧a.name=b.name∧a.names=b.names∧a.const=b.const∧a.kids=b.kids:=by
 obtain ⟨a1,a2,a3,a4,a5⟩:=a
 obtain ⟨b1,b2,b3,b4,b5⟩:=b
 simp only [Xp.mk.injEq,Xp.kind,Xp.name,Xp.names,Xp.const,Xp.kids]
mutual
theorem Xp.ind {p:Xp→Prop} (h:∀d,(∀e∈d.kids,p e)→p d):∀d,p d
 | .mk _ _ _ _ l=>h _ (Xps.ind h l)
theorem Xps.ind {p:Xp→Prop} (h:∀d,(∀e∈d.kids,p e)→p d):∀(l:List Xp),∀e∈l,p e
 | [],e,he=>by cases he
 | d::l,e,he=>(List.mem_cons.1 he).elim (fun h1=>h1 ▸ Xp.ind h d) (fun h1=>Xps.ind h l e h1)
end
def ar0:List (List UInt8):=[[114,101,97,100,45,117,56],[101,114,114,111,114],[118,111,105,100],[37,119,105,110,100,101,114,115],[37,117,110,115,101,116]]
def ar1:List (List UInt8):=[[110,117,108,108,63],[112,97,105,114,63],[118,101,99,116,111,114,63],[115,116,114,105,110,103,63],[115,121,109,98,111,108,63],[99,104,97,114,63],[105,110,116,101,103,101,114,63],[98,111,111,108,101,97,110,63],[112,114,111,99,101,100,117,114,101,63],[101,111,102,45,111,98,106,101,99,116,63],[99,97,114],[99,100,114],[118,101,99,116,111,114,45,108,101,110,103,116,104],[115,116,114,105,110,103,45,108,101,110,103,116,104],[99,104,97,114,45,62,105,110,116,101,103,101,114],[105,110,116,101,103,101,114,45,62,99,104,97,114],[119,114,105,116,101,45,117,56],[37,98,111,120],[37,117,110,98,111,120],[37,119,105,110,100,33],[37,99,97,108,108,99,99]]
def ar2:List (List UInt8):=[[43],[45],[42],[113,117,111,116,105,101,110,116],[114,101,109,97,105,110,100,101,114],[60],[61],[101,113,63],[99,111,110,115],[115,101,116,45,99,97,114,33],[115,101,116,45,99,100,114,33],[109,97,107,101,45,118,101,99,116,111,114],[118,101,99,116,111,114,45,114,101,102],[109,97,107,101,45,115,116,114,105,110,103],[115,116,114,105,110,103,45,114,101,102],[37,115,101,116,45,98,111,120,33]]
def ar3:List (List UInt8):=[[118,101,99,116,111,114,45,115,101,116,33],[115,116,114,105,110,103,45,115,101,116,33]]
def z0y (p:List UInt8):Int:=if ar0.contains p then 0 else if ar1.contains p then 1 else if ar2.contains p then 2 else if ar3.contains p then 3 else -1
def dat0:Dat:=.mk 0 0 [] []
def z36 (d:Dat):Bool:=decide (d.kind=0) && decide (d.int=0) && d.text.isEmpty && d.list.isEmpty
theorem zxm {d:Dat}:z36 d=true↔d=dat0:=by
 obtain ⟨k,n,t,l⟩:=d
 show (decide (k=0) && decide (n=0) && t.isEmpty && l.isEmpty)=true↔Dat.mk k n t l=.mk 0 0 [] []
 simp [and_assoc]
def z1r (d:Dat):Bool:=decide ((d.chk 0 0).2=0) && (decide (d.kind=0) || decide (d.kind=1) || decide (d.kind=2) || decide (d.kind=4) || (decide (d.kind=5) && d.list.isEmpty))
def z2d (pre:List (List UInt8)):List (List UInt8)→Bool
 | []=>true
 | s::r=>z0p s && !pre.contains s && z2d (pre++[s]) r
def z1n (l:List (List UInt8)):Bool:=z2d [] l
def z0i (e:Xp):Bool:=
 if e.kind=0 then e.name.isEmpty && e.names.isEmpty && e.kids.isEmpty && z1r e.const
 else z36 e.const && z1n e.names &&
  (if e.kind=1 then z0p e.name && e.names.isEmpty && decide (e.kids.length=0)
  else if e.kind=2 then z0p e.name && e.names.isEmpty && decide (e.kids.length=1)
  else if e.kind=3 then e.name.isEmpty && e.names.isEmpty && decide (e.kids.length=3)
  else if e.kind=4 then e.name.isEmpty && e.names.isEmpty && decide (2≤e.kids.length)
  else if e.kind=5 then e.name.isEmpty && decide (e.names.length≤6) && decide (e.kids.length=1)
  else if e.kind=6 then e.name.isEmpty && e.names.isEmpty && decide (1≤e.kids.length) && decide (e.kids.length≤7)
  else if e.kind=7 then e.names.isEmpty && decide (z0y e.name=e.kids.length)
  else if e.kind=8∨e.kind=9 then e.name.isEmpty && decide (e.kids.length=e.names.length+1)
  else if e.kind=10 then e.name.isEmpty && decide (1≤e.names.length) && decide (e.kids.length=e.names.length+1) && (e.kids.take e.names.length).all fun k=>decide (k.kind=5)
  else false)
def z18 (e:Xp):Bool:=z0i e && !(decide (e.kind=4) && decide (4096 < e.kids.length))
mutual
def Xp.chk (tight:Bool):Xp→Nat→Nat→Nat×Int
 | .mk k s ns d l,deep,seen=>if seen=4096 then (seen,62) else if 250≤deep then (seen+1,61) else if (if tight then z18 (.mk k s ns d l) else z0i (.mk k s ns d l))=false then (seen+1,60) else Xps.chk tight l (deep+1) (seen+1)
def Xps.chk (tight:Bool):List Xp→Nat→Nat→Nat×Int
 | [],_,seen=>(seen,0)
 | e::l,deep,seen=>if (Xp.chk tight e deep seen).2≠0 then Xp.chk tight e deep seen else Xps.chk tight l deep (Xp.chk tight e deep seen).1
end
def inB (k:Int) (rest:List Xp):Bool:=decide (k=5) || decide (k=9) || decide (k=10) || (decide (k=8) && rest.isEmpty)
mutual
def Xp.fr (bound:List (List UInt8)):Xp→List (List UInt8)
 | .mk k s ns _ l=>(if (k=1∨k=2)∧s∉bound then [s] else [])++Xps.fr bound (bound++ns) k l
def Xps.fr (bound inner:List (List UInt8)) (k:Int):List Xp→List (List UInt8)
 | []=>[]
 | e::l=>Xp.fr (if inB k l then inner else bound) e++Xps.fr bound inner k l
end
theorem Xp.fr_eq (e:Xp) (bound:List (List UInt8)):e.fr bound=(if (e.kind=1∨e.kind=2)∧e.name∉bound then [e.name] else [])++Xps.fr bound (bound++e.names) e.kind e.kids:=by
 cases e;simp only [Xp.fr,Xp.kind,Xp.name,Xp.names,Xp.kids];rfl
mutual
def Xp.all:Xp→List (List UInt8)
 | .mk k s ns _ l=>(if k=7 then [] else [s])++ns++Xps.all l
def Xps.all:List Xp→List (List UInt8)
 | []=>[]
 | e::l=>Xp.all e++Xps.all l
end
mutual
def Xp.bnd:Xp→List (List UInt8)
 | .mk _ _ ns _ l=>ns++Xps.bnd l
def Xps.bnd:List Xp→List (List UInt8)
 | []=>[]
 | e::l=>Xp.bnd e++Xps.bnd l
end
theorem Xp.bnd_eq (e:Xp):e.bnd=e.names++Xps.bnd e.kids:=by cases e;simp only [Xp.bnd,Xp.names,Xp.kids]
def lastA:List (List UInt8×Nat)→List UInt8→Option Nat
 | [],_=>none
 | x::l,s=>match lastA l s with
  | some k=>some k
  | none=>if x.1=s then some x.2 else none
theorem zoc {α:Type} [DecidableEq α]:∀{l m:List α},l.Nodup→(∀x∈l,x∈m)→l.length≤m.length
 | [],_,_,_=>Nat.zero_le _
 | a::l,m,h,hs=>by
  rw [List.nodup_cons] at h
  have ha:=hs a (zms)
  have:=zoc (l:=l) (m:=m.erase a) h.2 fun x hx=>(List.mem_erase_of_ne (fun e=>h.1 (by rw [←e];exact hx))).2 (hs x (zmm _ hx))
  rw [List.length_erase_of_mem ha] at this
  have h0:=List.length_pos_of_mem ha
  simp only [zlc];omega
theorem zl5:∀(az bs:List (List UInt8×Nat)) (s:List UInt8),lastA (az++bs) s=(lastA bs s).or (lastA az s)
 | [],bs,s=>by cases h:lastA bs s<;>simp [lastA,h]
 | x::az,bs,s=>by
  simp only [List.cons_append,lastA,zl5 az bs s]
  cases lastA bs s<;>simp
theorem zem {k:Nat} (h:k < 1000000000000000000):(Lib.decDigits k).length≤18:=by
 rw [Lib.decDigits_length]
 exact zjk 17 k (by omega)
theorem con_t {l:List (List UInt8)} {s:List UInt8} (h:s∈l):l.contains s=true:=List.contains_iff_mem.2 h
theorem con_f {l:List (List UInt8)} {s:List UInt8} (h:s∉l):l.contains s=false:=by
 cases hc:l.contains s with
 | false=>rfl
 | true=>exact absurd (List.contains_iff_mem.1 hc) h
theorem z5r {H:PH} {l:List UInt8} {cs:List Value} (h:CsR H l cs):cs=[txt l]∧l.length≤maxLen:=by
 obtain ⟨v,vs,rfl,⟨rfl,h2⟩,rfl⟩:=h
 exact ⟨rfl,h2⟩
theorem uTxts:Tryz.prog.underlying 22=some (.slice 9):=by kernel_rfl
theorem z5d:ElemOk Tryz.prog 9 1 16=true:=by kernel_rfl
theorem zlg {α:Type} {l m:List α} {k:Nat} {a b:α} (h:l.take k=m.take k) (ha:l[k]?=some a) (hb:m[k]?=some b) (e:a=b):l.take (k+1)=m.take (k+1):=by
 rw [List.take_add_one,List.take_add_one,h,ha,hb,e]
theorem zce {α:Type} {l:List α} {k:Nat} {a x:α} (h:l[k]?=some a) (hx:x∈l.take (k+1)):x∈l.take k∨x=a:=by
 rw [List.take_add_one,h] at hx
 rcases List.mem_append.1 hx with hx | hx
 ·exact .inl hx
 ·exact .inr (List.mem_singleton.1 hx)
theorem zzh (l:List (List UInt8)) (s:List UInt8) (v:Value) (H:PH) (hl:SlR H l v):Tri Tryz.prog z8w #[v,txt s] H fun e H'=>∃n:Int,e=.returned (.int .i64 n)∧decide (0≤n)=l.contains s∧PH.le H H':=by
 obtain ⟨b,c,rfl⟩:=hl.sl
 have hm:=hl.max
 simp only [maxLen] at hm
 refine z78 [.slice b l.length c,txt s] (by kernel_rfl) (by kernel_rfl) ?_
 refine ⟨fun n vs H'=>∃k:Nat,vs=[.int .i64 0,.int .i64 k]∧k+n=l.length∧s∉l.take k∧PH.le H H',⟨l.length,0,rfl,by omega,by simp,PH.le_refl H⟩,?_⟩
 rintro n vs H' _ ⟨k,rfl,hkn,hno,hle⟩
 refine ⟨fun h=>?_,fun h=>?_⟩
 ·simp only [ev0,ev,evV,List.cons_append,List.nil_append,List.getD_cons_zero,List.getD_cons_succ,List.map_cons,List.map_nil,iOf,bOf,sOf,pOf,slLen,z04,cmpI,arI,Value.ite_bool,z01,z03,z00,z02,zdt] at h
  obtain ⟨a,ha⟩:∃a,l[k]?=some a:=⟨_,zge (show k < l.length by omega)⟩
  obtain ⟨g1,_,ces,g2,g3⟩:=(hl.le hle).get ha
  obtain ⟨rfl,_⟩:=z5r g2
  refine ⟨fun _=>?_,[txt a],rfl,?_,fun h2=>?_,fun h2=>?_⟩
  ·simp only [Chk.holds,ev0,ev,evV,List.cons_append,List.nil_append,List.getD_cons_zero,List.getD_cons_succ,List.map_cons,List.map_nil,iOf,bOf,sOf,pOf,slLen,z04,cmpI,arI,Value.ite_bool,z01,z03,z00,z02];exact ⟨g1,by omega,by omega⟩
  ·simp only [ev0,ev,evV,List.cons_append,List.nil_append,List.getD_cons_zero,List.getD_cons_succ,List.map_cons,List.map_nil,iOf,bOf,sOf,pOf,slLen,z04,cmpI,arI,Value.ite_bool,z01,z03,z00,z02];exact g3
  ·simp only [ev0,ev,evV,List.cons_append,List.nil_append,List.getD_cons_zero,List.getD_cons_succ,List.map_cons,List.map_nil,iOf,bOf,sOf,pOf,slLen,z04,cmpI,arI,Value.ite_bool,z01,z03,z00,z02,z09,zdt] at h2
   subst h2
   exact ⟨k,rfl,by rw [con_t (List.mem_of_getElem? ha)];simp,hle⟩
  ·simp only [ev0,ev,evV,List.cons_append,List.nil_append,List.getD_cons_zero,List.getD_cons_succ,List.map_cons,List.map_nil,iOf,bOf,sOf,pOf,slLen,z04,cmpI,arI,Value.ite_bool,z01,z03,z00,z02,z09,zdf] at h2
   refine ⟨_,z06,n - 1,by omega,k+1,?_,by omega,fun hx=>?_,hle⟩
   ·simp only [ev0,ev,evV,List.cons_append,List.nil_append,List.getD_cons_zero,List.getD_cons_succ,List.map_cons,List.map_nil,iOf,bOf,sOf,pOf,slLen,z04,cmpI,arI,Value.ite_bool,z01,z03,z00,z02];rw [w64 (by omega) (by omega)];rfl
   ·rcases zce ha hx with hx | hx
    ·exact hno hx
    ·exact h2 hx
 ·simp only [ev0,ev,evV,List.cons_append,List.nil_append,List.getD_cons_zero,List.getD_cons_succ,List.map_cons,List.map_nil,iOf,bOf,sOf,pOf,slLen,z04,cmpI,arI,Value.ite_bool,z01,z03,z00,z02,zdf] at h
  rw [List.take_of_length_le (by omega)] at hno
  exact ⟨-1,rfl,by rw [con_f hno];rfl,hle⟩
theorem zqm (l:List (List UInt8)) (s:List UInt8) (v:Value) (H:PH) (hl:SlR H l v):Gives Tryz.prog z6t [v,txt s] H (.bool (l.contains s)):=by
 obtain ⟨b,c,rfl⟩:=hl.sl
 refine z5m [.slice b l.length c,txt s] (by kernel_rfl) (by kernel_rfl) ?_
 refine z08 z81 (zzh l s _ H hl) ?_
 rintro e H' ⟨n,rfl,h1,h2⟩
 refine ⟨_,[_],rfl,rfl,rfl,z05,?_,h2⟩
 simp only [ev0,ev,evV,List.cons_append,List.nil_append,List.getD_cons_zero,List.getD_cons_succ,List.map_cons,List.map_nil,iOf,bOf,sOf,pOf,slLen,z04,cmpI,arI,Value.ite_bool,z01,z03,z00,z02,h1]
theorem zko (l:List (List UInt8)) (s:List UInt8) (v:Value) (H:PH) (hl:SlR H l v):Gives Tryz.prog zjp [v,txt s] H (.bool (l.contains s)):=by
 obtain ⟨b,c,rfl⟩:=hl.sl
 have hm:=hl.max
 simp only [maxLen] at hm
 refine zgk [.slice b l.length c,txt s] (by kernel_rfl) (by kernel_rfl) ?_
 refine ⟨fun n vs H'=>∃k:Nat,vs=[.bool false,.int .i64 k]∧k+n=l.length∧s∉l.take k∧PH.le H H',⟨l.length,0,rfl,by omega,by simp,PH.le_refl H⟩,?_⟩
 rintro n vs H' _ ⟨k,rfl,hkn,hno,hle⟩
 refine ⟨fun h=>?_,fun h=>?_⟩
 ·simp only [ev0,ev,evV,List.cons_append,List.nil_append,List.getD_cons_zero,List.getD_cons_succ,List.map_cons,List.map_nil,iOf,bOf,sOf,pOf,slLen,z04,cmpI,arI,Value.ite_bool,z01,z03,z00,z02,zdt] at h
  obtain ⟨a,ha⟩:∃a,l[k]?=some a:=⟨_,zge (show k < l.length by omega)⟩
  obtain ⟨g1,_,ces,g2,g3⟩:=(hl.le hle).get ha
  obtain ⟨rfl,_⟩:=z5r g2
  refine ⟨fun _=>?_,[txt a],rfl,?_,fun h2=>?_,fun h2=>?_⟩
  ·simp only [Chk.holds,ev0,ev,evV,List.cons_append,List.nil_append,List.getD_cons_zero,List.getD_cons_succ,List.map_cons,List.map_nil,iOf,bOf,sOf,pOf,slLen,z04,cmpI,arI,Value.ite_bool,z01,z03,z00,z02];exact ⟨g1,by omega,by omega⟩
  ·simp only [ev0,ev,evV,List.cons_append,List.nil_append,List.getD_cons_zero,List.getD_cons_succ,List.map_cons,List.map_nil,iOf,bOf,sOf,pOf,slLen,z04,cmpI,arI,Value.ite_bool,z01,z03,z00,z02];exact g3
  ·simp only [ev0,ev,evV,List.cons_append,List.nil_append,List.getD_cons_zero,List.getD_cons_succ,List.map_cons,List.map_nil,iOf,bOf,sOf,pOf,slLen,z04,cmpI,arI,Value.ite_bool,z01,z03,z00,z02,z09,zdt] at h2
   subst h2
   rw [con_t (List.mem_of_getElem? ha)]
   exact ⟨rfl,hle⟩
  ·simp only [ev0,ev,evV,List.cons_append,List.nil_append,List.getD_cons_zero,List.getD_cons_succ,List.map_cons,List.map_nil,iOf,bOf,sOf,pOf,slLen,z04,cmpI,arI,Value.ite_bool,z01,z03,z00,z02,z09,zdf] at h2
   refine ⟨_,z06,n - 1,by omega,k+1,?_,by omega,fun hx=>?_,hle⟩
   ·simp only [ev0,ev,evV,List.cons_append,List.nil_append,List.getD_cons_zero,List.getD_cons_succ,List.map_cons,List.map_nil,iOf,bOf,sOf,pOf,slLen,z04,cmpI,arI,Value.ite_bool,z01,z03,z00,z02];rw [w64 (by omega) (by omega)];rfl
   ·rcases zce ha hx with hx | hx
    ·exact hno hx
    ·exact h2 hx.symm
 ·simp only [ev0,ev,evV,List.cons_append,List.nil_append,List.getD_cons_zero,List.getD_cons_succ,List.map_cons,List.map_nil,iOf,bOf,sOf,pOf,slLen,z04,cmpI,arI,Value.ite_bool,z01,z03,z00,z02,zdf] at h
  rw [List.take_of_length_le (by omega)] at hno
  rw [con_f hno]
  exact ⟨rfl,hle⟩
theorem zfy (l m:List (List UInt8)) (va vb:Value) (H:PH) (hl:SlR H l va) (hm:SlR H m vb):Gives Tryz.prog zc2 [va,vb] H (.bool (decide (l=m))):=by
 obtain ⟨b1,c1,rfl⟩:=hl.sl
 obtain ⟨b2,c2,rfl⟩:=hm.sl
 have m1:=hl.max
 have m2:=hm.max
 simp only [maxLen] at m1 m2
 refine zah [.slice b1 l.length c1,.slice b2 m.length c2] (by kernel_rfl) (by kernel_rfl) ?_
 refine ⟨fun h=>?_,fun h=>?_⟩
 ·simp only [ev0,ev,evV,List.cons_append,List.nil_append,List.getD_cons_zero,List.getD_cons_succ,List.map_cons,List.map_nil,iOf,bOf,sOf,pOf,slLen,z04,cmpI,arI,Value.ite_bool,z01,z03,z00,z02,zdt] at h
  have:¬l=m:=fun e=>h (by rw [e])
  exact ⟨by simp only [ev0,ev,evV,List.cons_append,List.nil_append,List.getD_cons_zero,List.getD_cons_succ,List.map_cons,List.map_nil,iOf,bOf,sOf,pOf,slLen,z04,cmpI,arI,Value.ite_bool,z01,z03,z00,z02,decide_eq_false this],PH.le_refl H⟩
 simp only [ev0,ev,evV,List.cons_append,List.nil_append,List.getD_cons_zero,List.getD_cons_succ,List.map_cons,List.map_nil,iOf,bOf,sOf,pOf,slLen,z04,cmpI,arI,Value.ite_bool,z01,z03,z00,z02,zdf,ne_eq,Decidable.not_not] at h
 refine ⟨fun n vs H'=>∃k:Nat,vs=[.bool false,.int .i64 k]∧k+n=l.length∧l.take k=m.take k∧PH.le H H',⟨l.length,0,rfl,by omega,by simp,PH.le_refl H⟩,?_⟩
 rintro n vs H' _ ⟨k,rfl,hkn,htk,hle⟩
 refine ⟨fun h5=>?_,fun h5=>?_⟩
 ·simp only [ev0,ev,evV,List.cons_append,List.nil_append,List.getD_cons_zero,List.getD_cons_succ,List.map_cons,List.map_nil,iOf,bOf,sOf,pOf,slLen,z04,cmpI,arI,Value.ite_bool,z01,z03,z00,z02,zdt] at h5
  obtain ⟨a,ha⟩:∃a,l[k]?=some a:=⟨_,zge (show k < l.length by omega)⟩
  obtain ⟨a',ha'⟩:∃a,m[k]?=some a:=⟨_,zge (show k < m.length by omega)⟩
  obtain ⟨g1,_,ces,g2,g3⟩:=(hl.le hle).get ha
  obtain ⟨g1',_,ces',g2',g3'⟩:=(hm.le hle).get ha'
  obtain ⟨rfl,_⟩:=z5r g2
  obtain ⟨rfl,_⟩:=z5r g2'
  refine ⟨fun _=>?_,[txt a],rfl,by simp only [ev0,ev,evV,List.cons_append,List.nil_append,List.getD_cons_zero,List.getD_cons_succ,List.map_cons,List.map_nil,iOf,bOf,sOf,pOf,slLen,z04,cmpI,arI,Value.ite_bool,z01,z03,z00,z02];exact g3,fun _=>?_,[txt a'],rfl,by simp only [ev0,ev,evV,List.cons_append,List.nil_append,List.getD_cons_zero,List.getD_cons_succ,List.map_cons,List.map_nil,iOf,bOf,sOf,pOf,slLen,z04,cmpI,arI,Value.ite_bool,z01,z03,z00,z02];exact g3',fun h6=>?_,fun h6=>?_⟩
  ·simp only [Chk.holds,ev0,ev,evV,List.cons_append,List.nil_append,List.getD_cons_zero,List.getD_cons_succ,List.map_cons,List.map_nil,iOf,bOf,sOf,pOf,slLen,z04,cmpI,arI,Value.ite_bool,z01,z03,z00,z02];exact ⟨g1,by omega,by omega⟩
  ·simp only [Chk.holds,ev0,ev,evV,List.cons_append,List.nil_append,List.getD_cons_zero,List.getD_cons_succ,List.map_cons,List.map_nil,iOf,bOf,sOf,pOf,slLen,z04,cmpI,arI,Value.ite_bool,z01,z03,z00,z02];exact ⟨g1',by omega,by omega⟩
  ·simp only [ev0,ev,evV,List.cons_append,List.nil_append,List.getD_cons_zero,List.getD_cons_succ,List.map_cons,List.map_nil,iOf,bOf,sOf,pOf,slLen,z04,cmpI,arI,Value.ite_bool,z01,z03,z00,z02,z1d,zdt] at h6
   have:¬l=m:=fun x=>h6 (by subst x;rw [ha] at ha';exact Option.some.inj ha')
   exact ⟨by simp only [ev0,ev,evV,List.cons_append,List.nil_append,List.getD_cons_zero,List.getD_cons_succ,List.map_cons,List.map_nil,iOf,bOf,sOf,pOf,slLen,z04,cmpI,arI,Value.ite_bool,z01,z03,z00,z02,decide_eq_false this],hle⟩
  ·simp only [ev0,ev,evV,List.cons_append,List.nil_append,List.getD_cons_zero,List.getD_cons_succ,List.map_cons,List.map_nil,iOf,bOf,sOf,pOf,slLen,z04,cmpI,arI,Value.ite_bool,z01,z03,z00,z02,z1d,zdf,ne_eq,Decidable.not_not] at h6
   refine ⟨_,z06,n - 1,by omega,k+1,?_,by omega,zlg htk ha ha' h6,hle⟩
   simp only [ev0,ev,evV,List.cons_append,List.nil_append,List.getD_cons_zero,List.getD_cons_succ,List.map_cons,List.map_nil,iOf,bOf,sOf,pOf,slLen,z04,cmpI,arI,Value.ite_bool,z01,z03,z00,z02];rw [w64 (by omega) (by omega)];rfl
 ·simp only [ev0,ev,evV,List.cons_append,List.nil_append,List.getD_cons_zero,List.getD_cons_succ,List.map_cons,List.map_nil,iOf,bOf,sOf,pOf,slLen,z04,cmpI,arI,Value.ite_bool,z01,z03,z00,z02,zdf] at h5
  have:l=m:=by rw [List.take_of_length_le (by omega),List.take_of_length_le (by omega)] at htk;exact htk
  exact ⟨by simp only [ev0,ev,evV,List.cons_append,List.nil_append,List.getD_cons_zero,List.getD_cons_succ,List.map_cons,List.map_nil,iOf,bOf,sOf,pOf,slLen,z04,cmpI,arI,Value.ite_bool,z01,z03,z00,z02,decide_eq_true this],hle⟩
theorem zw9 (p:List UInt8) (H:PH):Gives Tryz.prog zuj [txt p] H (.int .i64 (z0y p)):=by
 refine zpx [txt p] (by kernel_rfl) (by kernel_rfl) ?_
 refine ⟨fun vs H'=>vs=[.bool (ar0.contains p)]∧H'=H,?_,?_⟩
 ·rintro vs H' _ ⟨rfl,rfl⟩
  refine ⟨fun h=>?_,fun h=>?_⟩
  ·simp only [ev0,ev,evV,List.cons_append,List.nil_append,List.getD_cons_zero,List.getD_cons_succ,List.map_cons,List.map_nil,iOf,bOf,sOf,pOf,slLen,z04,cmpI,arI,Value.ite_bool,z01,z03,z00,z02] at h
   exact ⟨by simp only [ev0,ev,evV,List.cons_append,List.nil_append,List.getD_cons_zero,List.getD_cons_succ,List.map_cons,List.map_nil,iOf,bOf,sOf,pOf,slLen,z04,cmpI,arI,Value.ite_bool,z01,z03,z00,z02,z0y,h];rfl,PH.le_refl _⟩
  simp only [ev0,ev,evV,List.cons_append,List.nil_append,List.getD_cons_zero,List.getD_cons_succ,List.map_cons,List.map_nil,iOf,bOf,sOf,pOf,slLen,z04,cmpI,arI,Value.ite_bool,z01,z03,z00,z02] at h
  refine ⟨fun vs H2=>vs=[.bool (ar1.contains p)]∧H2=H',?_,?_⟩
  ·rintro vs H' _ ⟨rfl,rfl⟩
   refine ⟨fun h2=>?_,fun h2=>?_⟩
   ·simp only [ev0,ev,evV,List.cons_append,List.nil_append,List.getD_cons_zero,List.getD_cons_succ,List.map_cons,List.map_nil,iOf,bOf,sOf,pOf,slLen,z04,cmpI,arI,Value.ite_bool,z01,z03,z00,z02] at h2
    exact ⟨by simp only [ev0,ev,evV,List.cons_append,List.nil_append,List.getD_cons_zero,List.getD_cons_succ,List.map_cons,List.map_nil,iOf,bOf,sOf,pOf,slLen,z04,cmpI,arI,Value.ite_bool,z01,z03,z00,z02,z0y,h,h2];rfl,PH.le_refl _⟩
   simp only [ev0,ev,evV,List.cons_append,List.nil_append,List.getD_cons_zero,List.getD_cons_succ,List.map_cons,List.map_nil,iOf,bOf,sOf,pOf,slLen,z04,cmpI,arI,Value.ite_bool,z01,z03,z00,z02] at h2
   refine ⟨fun vs H3=>vs=[.bool (ar2.contains p)]∧H3=H',?_,?_⟩
   ·rintro vs H' _ ⟨rfl,rfl⟩
    refine ⟨fun h3=>?_,fun h3=>?_⟩
    ·simp only [ev0,ev,evV,List.cons_append,List.nil_append,List.getD_cons_zero,List.getD_cons_succ,List.map_cons,List.map_nil,iOf,bOf,sOf,pOf,slLen,z04,cmpI,arI,Value.ite_bool,z01,z03,z00,z02] at h3
     exact ⟨by simp only [ev0,ev,evV,List.cons_append,List.nil_append,List.getD_cons_zero,List.getD_cons_succ,List.map_cons,List.map_nil,iOf,bOf,sOf,pOf,slLen,z04,cmpI,arI,Value.ite_bool,z01,z03,z00,z02,z0y,h,h2,h3];rfl,PH.le_refl _⟩
    simp only [ev0,ev,evV,List.cons_append,List.nil_append,List.getD_cons_zero,List.getD_cons_succ,List.map_cons,List.map_nil,iOf,bOf,sOf,pOf,slLen,z04,cmpI,arI,Value.ite_bool,z01,z03,z00,z02] at h3
    refine ⟨fun h4=>?_,fun h4=>?_⟩
    ·simp only [ev0,ev,evV,List.cons_append,List.nil_append,List.getD_cons_zero,List.getD_cons_succ,List.map_cons,List.map_nil,iOf,bOf,sOf,pOf,slLen,z04,cmpI,arI,Value.ite_bool,z01,z03,z00,z02,z09] at h4
     have:ar3.contains p=true:=by simp [ar3] at h4 ⊢;exact h4
     exact ⟨by simp only [ev0,ev,evV,List.cons_append,List.nil_append,List.getD_cons_zero,List.getD_cons_succ,List.map_cons,List.map_nil,iOf,bOf,sOf,pOf,slLen,z04,cmpI,arI,Value.ite_bool,z01,z03,z00,z02,z0y,h,h2,h3,this];rfl,PH.le_refl _⟩
    ·simp only [ev0,ev,evV,List.cons_append,List.nil_append,List.getD_cons_zero,List.getD_cons_succ,List.map_cons,List.map_nil,iOf,bOf,sOf,pOf,slLen,z04,cmpI,arI,Value.ite_bool,z01,z03,z00,z02,z09] at h4
     have:ar3.contains p=false:=by simp [ar3] at h4 ⊢;exact h4
     exact ⟨by simp only [ev0,ev,evV,List.cons_append,List.nil_append,List.getD_cons_zero,List.getD_cons_succ,List.map_cons,List.map_nil,iOf,bOf,sOf,pOf,slLen,z04,cmpI,arI,Value.ite_bool,z01,z03,z00,z02,z0y,h,h2,h3,this];rfl,PH.le_refl _⟩
   ·repeat' refine And.intro (fun h=>?_) (fun h=>?_)
    all_goals
     refine ⟨_,z06,?_,rfl⟩
     simp only [ev0,ev,evV,List.cons_append,List.nil_append,List.getD_cons_zero,List.getD_cons_succ,List.map_cons,List.map_nil,iOf,bOf,sOf,pOf,slLen,z04,cmpI,arI,Value.ite_bool,z01,z03,z00,z02,z09,zdt,zdf] at *
     simp_all [ar2]
  ·repeat' refine And.intro (fun h=>?_) (fun h=>?_)
   all_goals
    refine ⟨_,z06,?_,rfl⟩
    simp only [ev0,ev,evV,List.cons_append,List.nil_append,List.getD_cons_zero,List.getD_cons_succ,List.map_cons,List.map_nil,iOf,bOf,sOf,pOf,slLen,z04,cmpI,arI,Value.ite_bool,z01,z03,z00,z02,z09,zdt,zdf] at *
    simp_all [ar1]
 ·repeat' refine And.intro (fun h=>?_) (fun h=>?_)
  all_goals
   refine ⟨_,z06,?_,rfl⟩
   simp only [ev0,ev,evV,List.cons_append,List.nil_append,List.getD_cons_zero,List.getD_cons_succ,List.map_cons,List.map_nil,iOf,bOf,sOf,pOf,slLen,z04,cmpI,arI,Value.ite_bool,z01,z03,z00,z02,z09,zdt,zdf] at *
   simp_all [ar0]
theorem SlR.capLe {α:Type} [Enc α] {H:PH} {l:List α} {b:Option Addr} {n c:Nat} (h:SlR H l (.slice b n c)):n≤c:=by
 rcases (SlR.mk_iff.1 h).2 with ⟨e,_⟩ | ⟨a,c',e,hc,_⟩
 ·cases e;exact Nat.le_refl _
 ·cases e;exact hc
theorem zhg {pre:List (List UInt8)} {s:List UInt8} {r:List (List UInt8)} (h:z0p s=false∨pre.contains s=true):z2d pre (s::r)=false:=by
 simp only [z2d]
 rcases h with h | h
 ·rw [h];rfl
 ·rw [h];cases z0p s<;>rfl
theorem zuq (l:List (List UInt8)) (v:Value) (H:PH) (hl:SlR H l v):Gives Tryz.prog zu0 [v] H (.bool (z1n l)):=by
 obtain ⟨b,c,rfl⟩:=hl.sl
 have hm:=hl.max
 simp only [maxLen] at hm
 have hcap:=hl.capLe
 refine zq9 [.slice b l.length c] (by kernel_rfl) (by kernel_rfl) ?_
 refine ⟨fun n vs H'=>∃k:Nat,vs=[.bool false,.int .i64 k]∧k+n=l.length∧z1n l=z2d (l.take k) (l.drop k)∧PH.le H H',⟨l.length,0,rfl,by omega,by simp [z1n],PH.le_refl H⟩,?_⟩
 rintro n vs H1 _ ⟨k,rfl,hkn,hn,hle⟩
 refine ⟨fun h=>?_,fun h=>?_⟩
 ·simp only [ev0,ev,evV,List.cons_append,List.nil_append,List.getD_cons_zero,List.getD_cons_succ,List.map_cons,List.map_nil,iOf,bOf,sOf,pOf,slLen,z04,cmpI,arI,Value.ite_bool,z01,z03,z00,z02,zdt] at h
  obtain ⟨a,ha⟩:∃a,l[k]?=some a:=⟨_,zge (show k < l.length by omega)⟩
  obtain ⟨g1,_,ces,g2,g3⟩:=(hl.le hle).get ha
  obtain ⟨rfl,hla⟩:=z5r g2
  rw [z4v ha] at hn
  refine ⟨fun _=>?_,[txt a],rfl,by simp only [ev0,ev,evV,List.cons_append,List.nil_append,List.getD_cons_zero,List.getD_cons_succ,List.map_cons,List.map_nil,iOf,bOf,sOf,pOf,slLen,z04,cmpI,arI,Value.ite_bool,z01,z03,z00,z02];exact g3,?_⟩
  ·simp only [Chk.holds,ev0,ev,evV,List.cons_append,List.nil_append,List.getD_cons_zero,List.getD_cons_succ,List.map_cons,List.map_nil,iOf,bOf,sOf,pOf,slLen,z04,cmpI,arI,Value.ite_bool,z01,z03,z00,z02];exact ⟨g1,by omega,by omega⟩
  refine ⟨fun vs H'=>vs=[.bool (!z0p a || (l.take k).contains a)]∧PH.le H H',?_,?_⟩
  ·rintro vs H' _ ⟨rfl,h1⟩
   refine ⟨fun h2=>?_,fun h2=>?_⟩
   ·simp only [ev0,ev,evV,List.cons_append,List.nil_append,List.getD_cons_zero,List.getD_cons_succ,List.map_cons,List.map_nil,iOf,bOf,sOf,pOf,slLen,z04,cmpI,arI,Value.ite_bool,z01,z03,z00,z02,Bool.or_eq_true,Bool.not_eq_true'] at h2
    rw [hn,zhg h2]
    exact ⟨rfl,h1⟩
   ·simp only [ev0,ev,evV,List.cons_append,List.nil_append,List.getD_cons_zero,List.getD_cons_succ,List.map_cons,List.map_nil,iOf,bOf,sOf,pOf,slLen,z04,cmpI,arI,Value.ite_bool,z01,z03,z00,z02,Bool.or_eq_false_iff,Bool.not_eq_false'] at h2
    refine ⟨_,z06,n - 1,by omega,k+1,?_,by omega,?_,h1⟩
    ·simp only [ev0,ev,evV,List.cons_append,List.nil_append,List.getD_cons_zero,List.getD_cons_succ,List.map_cons,List.map_nil,iOf,bOf,sOf,pOf,slLen,z04,cmpI,arI,Value.ite_bool,z01,z03,z00,z02];rw [w64 (by omega) (by omega)];rfl
    ·rw [hn]
     simp only [z2d,h2.1,h2.2,Bool.not_false,Bool.true_and]
     rw [List.take_add_one,ha];rfl
  ·refine z07 [.bool (z0p a)] ze8 (zj9 a hla H1) rfl z05 fun H2 h2=>⟨fun _=>?_,fun h3=>?_,fun h3=>?_⟩
   ·simp only [Chk.holds,ev0,ev,evV,List.cons_append,List.nil_append,List.getD_cons_zero,List.getD_cons_succ,List.map_cons,List.map_nil,iOf,bOf,sOf,pOf,slLen,z04,cmpI,arI,Value.ite_bool,z01,z03,z00,z02,slCap];omega
   ·simp only [ev0,ev,evV,List.cons_append,List.nil_append,List.getD_cons_zero,List.getD_cons_succ,List.map_cons,List.map_nil,iOf,bOf,sOf,pOf,slLen,z04,cmpI,arI,Value.ite_bool,z01,z03,z00,z02,Bool.not_eq_true'] at h3
    exact ⟨_,z06,by simp only [ev0,ev,evV,List.cons_append,List.nil_append,List.getD_cons_zero,List.getD_cons_succ,List.map_cons,List.map_nil,iOf,bOf,sOf,pOf,slLen,z04,cmpI,arI,Value.ite_bool,z01,z03,z00,z02,h3];rfl,PH.le_trans hle h2⟩
   ·simp only [ev0,ev,evV,List.cons_append,List.nil_append,List.getD_cons_zero,List.getD_cons_succ,List.map_cons,List.map_nil,iOf,bOf,sOf,pOf,slLen,z04,cmpI,arI,Value.ite_bool,z01,z03,z00,z02,Bool.not_eq_false'] at h3
    have hcut:=(hl.le (PH.le_trans hle h2)).cut (a:=0) (b:=k) (by omega) (by omega)
    rw [List.drop_zero] at hcut
    refine z07 [.bool ((l.take k).contains a)] z61 ?_ rfl z05 fun H4 h4=>⟨_,z06,by simp only [ev0,ev,evV,List.cons_append,List.nil_append,List.getD_cons_zero,List.getD_cons_succ,List.map_cons,List.map_nil,iOf,bOf,sOf,pOf,slLen,z04,cmpI,arI,Value.ite_bool,z01,z03,z00,z02,h3];rfl,PH.le_trans hle (PH.le_trans h2 h4)⟩
    have:=zqm (l.take k) a _ H2 hcut
    simp only [ev0,ev,evV,List.cons_append,List.nil_append,List.getD_cons_zero,List.getD_cons_succ,List.map_cons,List.map_nil,iOf,bOf,sOf,pOf,slLen,z04,cmpI,arI,Value.ite_bool,z01,z03,z00,z02]
    exact this
 ·simp only [ev0,ev,evV,List.cons_append,List.nil_append,List.getD_cons_zero,List.getD_cons_succ,List.map_cons,List.map_nil,iOf,bOf,sOf,pOf,slLen,z04,cmpI,arI,Value.ite_bool,z01,z03,z00,z02,zdf] at h
  rw [List.drop_eq_nil_of_le (by omega)] at hn
  rw [hn]
  exact ⟨rfl,hle⟩
theorem zs9 (d:Dat) (cs:List Value) (H:PH) (hd:d.Rep H cs):Gives Tryz.prog zqg [.agg cs.toArray] H (.bool (z1r d)):=by
 have hc:=zry d cs H hd
 obtain ⟨sv,rfl,hk,hn,ht,hs⟩:=Dat.Rep_iff.1 hd
 obtain ⟨b,c,rfl⟩:=hs.sl
 refine znw [.int .i64 d.kind,.int .i64 d.int,txt d.text,.slice b d.list.length c] (by kernel_rfl) (by kernel_rfl) ?_
 refine z07 [.int .i64 (d.chk 0 0).2] zs2 hc rfl z05 fun H1 h1=>⟨?_,h1⟩
 have:z1r d=(decide ((d.chk 0 0).2=0) && decide (d.kind≠3) && (decide (d.kind < 5) || (decide (d.kind=5) && decide ((d.list.length:Int)=0)))):=by
  unfold z1r
  by_cases h:(d.chk 0 0).2=0
  ·have hg:z0x d=true:=Dat.Good.form ⟨0,0,by omega,h⟩
   have hr:0≤d.kind:=by rcases zxw hg with h | h | h | h | h | h | h | h<;>omega
   rw [z2n]
   simp only [h,decide_true,Bool.true_and]
   rw [Bool.eq_iff_iff]
   simp only [Bool.or_eq_true,zba,zdt]
   constructor
   ·rintro ((((h | h) | h) | h) | h)
    ·exact ⟨by omega,.inl (by omega)⟩
    ·exact ⟨by omega,.inl (by omega)⟩
    ·exact ⟨by omega,.inl (by omega)⟩
    ·exact ⟨by omega,.inl (by omega)⟩
    ·exact ⟨by omega,.inr h⟩
   ·rintro ⟨h1,h2 | h2⟩
    ·left;omega
    ·exact .inr h2
  ·simp [h]
 rw [this]
 simp only [ev0,ev,evV,List.cons_append,List.nil_append,List.getD_cons_zero,List.getD_cons_succ,List.map_cons,List.map_nil,iOf,bOf,sOf,pOf,slLen,z04,cmpI,arI,Value.ite_bool,z01,z03,z00,z02]
def shpX (e:Xp):Bool×Bool×Int×Int×Bool:=
 if e.kind=0 then (false,false,0,0,true) else if e.kind=1 then (true,false,0,0,true) else if e.kind=2 then (true,false,1,1,true) else if e.kind=3 then (false,false,3,3,true)
 else if e.kind=4 then (false,false,2,4096,true) else if e.kind=5 then (false,true,1,1,decide ((e.names.length:Int)≤6)) else if e.kind=6 then (false,false,1,7,true)
 else if e.kind=7 then (true,false,z0y e.name,z0y e.name,decide (0≤z0y e.name)) else if e.kind=8∨e.kind=9 then (false,true,IntKind.i64.wrap ((e.names.length:Int)+1),IntKind.i64.wrap ((e.names.length:Int)+1),true)
 else if e.kind=10 then (false,true,IntKind.i64.wrap ((e.names.length:Int)+1),IntKind.i64.wrap ((e.names.length:Int)+1),decide ((0:Int) < e.names.length)) else (false,false,0,0,false)
theorem zs7 (e:Xp) (cs:List Value) (H:PH) (he:e.Rep H cs):Gives Tryz.prog zsc [.agg cs.toArray] H (.tuple #[.agg #[.bool (shpX e).1,.bool (shpX e).2.1,.int .i64 (shpX e).2.2.1,.int .i64 (shpX e).2.2.2.1],.bool (shpX e).2.2.2.2]):=by
 obtain ⟨nb,db,kb,nc,dc,kc,rfl,hx⟩:=he.open
 refine zpg (exVs e nb db kb nc dc kc) (by kernel_rfl) (by kernel_rfl) ?_
 refine ⟨fun h0=>?_,fun h0=>?_⟩
 ·simp only [ev0,ev,evV,List.cons_append,List.nil_append,List.getD_cons_zero,List.getD_cons_succ,List.map_cons,List.map_nil,iOf,bOf,sOf,pOf,slLen,z04,cmpI,arI,Value.ite_bool,z01,z03,z00,z02,zdt] at h0
  exact ⟨by rw [show shpX e=_ from by unfold shpX;rw [if_pos h0]];simp only [ev0,ev,evV,List.cons_append,List.nil_append,List.getD_cons_zero,List.getD_cons_succ,List.map_cons,List.map_nil,iOf,bOf,sOf,pOf,slLen,z04,cmpI,arI,Value.ite_bool,z01,z03,z00,z02,partV];rfl,PH.le_refl _⟩
 simp only [ev0,ev,evV,List.cons_append,List.nil_append,List.getD_cons_zero,List.getD_cons_succ,List.map_cons,List.map_nil,iOf,bOf,sOf,pOf,slLen,z04,cmpI,arI,Value.ite_bool,z01,z03,z00,z02,zdf] at h0
 refine ⟨fun h1=>?_,fun h1=>?_⟩
 ·simp only [ev0,ev,evV,List.cons_append,List.nil_append,List.getD_cons_zero,List.getD_cons_succ,List.map_cons,List.map_nil,iOf,bOf,sOf,pOf,slLen,z04,cmpI,arI,Value.ite_bool,z01,z03,z00,z02,zdt] at h1
  exact ⟨by rw [show shpX e=_ from by unfold shpX;rw [if_neg h0,if_pos h1]];simp only [ev0,ev,evV,List.cons_append,List.nil_append,List.getD_cons_zero,List.getD_cons_succ,List.map_cons,List.map_nil,iOf,bOf,sOf,pOf,slLen,z04,cmpI,arI,Value.ite_bool,z01,z03,z00,z02,partV];rfl,PH.le_refl _⟩
 simp only [ev0,ev,evV,List.cons_append,List.nil_append,List.getD_cons_zero,List.getD_cons_succ,List.map_cons,List.map_nil,iOf,bOf,sOf,pOf,slLen,z04,cmpI,arI,Value.ite_bool,z01,z03,z00,z02,zdf] at h1
 refine ⟨fun h2=>?_,fun h2=>?_⟩
 ·simp only [ev0,ev,evV,List.cons_append,List.nil_append,List.getD_cons_zero,List.getD_cons_succ,List.map_cons,List.map_nil,iOf,bOf,sOf,pOf,slLen,z04,cmpI,arI,Value.ite_bool,z01,z03,z00,z02,zdt] at h2
  exact ⟨by rw [show shpX e=_ from by unfold shpX;rw [if_neg h0,if_neg h1,if_pos h2]];simp only [ev0,ev,evV,List.cons_append,List.nil_append,List.getD_cons_zero,List.getD_cons_succ,List.map_cons,List.map_nil,iOf,bOf,sOf,pOf,slLen,z04,cmpI,arI,Value.ite_bool,z01,z03,z00,z02,partV];rfl,PH.le_refl _⟩
 simp only [ev0,ev,evV,List.cons_append,List.nil_append,List.getD_cons_zero,List.getD_cons_succ,List.map_cons,List.map_nil,iOf,bOf,sOf,pOf,slLen,z04,cmpI,arI,Value.ite_bool,z01,z03,z00,z02,zdf] at h2
 refine ⟨fun h3=>?_,fun h3=>?_⟩
 ·simp only [ev0,ev,evV,List.cons_append,List.nil_append,List.getD_cons_zero,List.getD_cons_succ,List.map_cons,List.map_nil,iOf,bOf,sOf,pOf,slLen,z04,cmpI,arI,Value.ite_bool,z01,z03,z00,z02,zdt] at h3
  exact ⟨by rw [show shpX e=_ from by unfold shpX;rw [if_neg h0,if_neg h1,if_neg h2,if_pos h3]];simp only [ev0,ev,evV,List.cons_append,List.nil_append,List.getD_cons_zero,List.getD_cons_succ,List.map_cons,List.map_nil,iOf,bOf,sOf,pOf,slLen,z04,cmpI,arI,Value.ite_bool,z01,z03,z00,z02,partV];rfl,PH.le_refl _⟩
 simp only [ev0,ev,evV,List.cons_append,List.nil_append,List.getD_cons_zero,List.getD_cons_succ,List.map_cons,List.map_nil,iOf,bOf,sOf,pOf,slLen,z04,cmpI,arI,Value.ite_bool,z01,z03,z00,z02,zdf] at h3
 refine ⟨fun h4=>?_,fun h4=>?_⟩
 ·simp only [ev0,ev,evV,List.cons_append,List.nil_append,List.getD_cons_zero,List.getD_cons_succ,List.map_cons,List.map_nil,iOf,bOf,sOf,pOf,slLen,z04,cmpI,arI,Value.ite_bool,z01,z03,z00,z02,zdt] at h4
  exact ⟨by rw [show shpX e=_ from by unfold shpX;rw [if_neg h0,if_neg h1,if_neg h2,if_neg h3,if_pos h4]];simp only [ev0,ev,evV,List.cons_append,List.nil_append,List.getD_cons_zero,List.getD_cons_succ,List.map_cons,List.map_nil,iOf,bOf,sOf,pOf,slLen,z04,cmpI,arI,Value.ite_bool,z01,z03,z00,z02,partV];rfl,PH.le_refl _⟩
 simp only [ev0,ev,evV,List.cons_append,List.nil_append,List.getD_cons_zero,List.getD_cons_succ,List.map_cons,List.map_nil,iOf,bOf,sOf,pOf,slLen,z04,cmpI,arI,Value.ite_bool,z01,z03,z00,z02,zdf] at h4
 refine ⟨fun h5=>?_,fun h5=>?_⟩
 ·simp only [ev0,ev,evV,List.cons_append,List.nil_append,List.getD_cons_zero,List.getD_cons_succ,List.map_cons,List.map_nil,iOf,bOf,sOf,pOf,slLen,z04,cmpI,arI,Value.ite_bool,z01,z03,z00,z02,zdt] at h5
  exact ⟨by rw [show shpX e=_ from by unfold shpX;rw [if_neg h0,if_neg h1,if_neg h2,if_neg h3,if_neg h4,if_pos h5]];simp only [ev0,ev,evV,List.cons_append,List.nil_append,List.getD_cons_zero,List.getD_cons_succ,List.map_cons,List.map_nil,iOf,bOf,sOf,pOf,slLen,z04,cmpI,arI,Value.ite_bool,z01,z03,z00,z02,partV];rfl,PH.le_refl _⟩
 simp only [ev0,ev,evV,List.cons_append,List.nil_append,List.getD_cons_zero,List.getD_cons_succ,List.map_cons,List.map_nil,iOf,bOf,sOf,pOf,slLen,z04,cmpI,arI,Value.ite_bool,z01,z03,z00,z02,zdf] at h5
 refine ⟨fun h6=>?_,fun h6=>?_⟩
 ·simp only [ev0,ev,evV,List.cons_append,List.nil_append,List.getD_cons_zero,List.getD_cons_succ,List.map_cons,List.map_nil,iOf,bOf,sOf,pOf,slLen,z04,cmpI,arI,Value.ite_bool,z01,z03,z00,z02,zdt] at h6
  exact ⟨by rw [show shpX e=_ from by unfold shpX;rw [if_neg h0,if_neg h1,if_neg h2,if_neg h3,if_neg h4,if_neg h5,if_pos h6]];simp only [ev0,ev,evV,List.cons_append,List.nil_append,List.getD_cons_zero,List.getD_cons_succ,List.map_cons,List.map_nil,iOf,bOf,sOf,pOf,slLen,z04,cmpI,arI,Value.ite_bool,z01,z03,z00,z02,partV];rfl,PH.le_refl _⟩
 simp only [ev0,ev,evV,List.cons_append,List.nil_append,List.getD_cons_zero,List.getD_cons_succ,List.map_cons,List.map_nil,iOf,bOf,sOf,pOf,slLen,z04,cmpI,arI,Value.ite_bool,z01,z03,z00,z02,zdf] at h6
 refine ⟨fun h7=>?_,fun h7=>?_⟩
 ·simp only [ev0,ev,evV,List.cons_append,List.nil_append,List.getD_cons_zero,List.getD_cons_succ,List.map_cons,List.map_nil,iOf,bOf,sOf,pOf,slLen,z04,cmpI,arI,Value.ite_bool,z01,z03,z00,z02,zdt] at h7
  refine z07 [.int .i64 (z0y e.name)] zrw (zw9 e.name H) rfl z05 fun H1 hh=>⟨?_,hh⟩
  rw [show shpX e=_ from by unfold shpX;rw [if_neg h0,if_neg h1,if_neg h2,if_neg h3,if_neg h4,if_neg h5,if_neg h6,if_pos h7]]
  simp only [ev0,ev,evV,List.cons_append,List.nil_append,List.getD_cons_zero,List.getD_cons_succ,List.map_cons,List.map_nil,iOf,bOf,sOf,pOf,slLen,z04,cmpI,arI,Value.ite_bool,z01,z03,z00,z02,partV];rfl
 simp only [ev0,ev,evV,List.cons_append,List.nil_append,List.getD_cons_zero,List.getD_cons_succ,List.map_cons,List.map_nil,iOf,bOf,sOf,pOf,slLen,z04,cmpI,arI,Value.ite_bool,z01,z03,z00,z02,zdf] at h7
 refine ⟨fun h8=>?_,fun h8=>?_⟩
 ·simp only [ev0,ev,evV,List.cons_append,List.nil_append,List.getD_cons_zero,List.getD_cons_succ,List.map_cons,List.map_nil,iOf,bOf,sOf,pOf,slLen,z04,cmpI,arI,Value.ite_bool,z01,z03,z00,z02,Bool.or_eq_true,zdt] at h8
  have h8:e.kind=8∨e.kind=9:=by
   by_cases hh:e.kind=8
   ·exact .inl hh
   ·simp [hh] at h8;exact .inr h8
  rw [show shpX e=_ from by unfold shpX;rw [if_neg h0,if_neg h1,if_neg h2,if_neg h3,if_neg h4,if_neg h5,if_neg h6,if_neg h7,if_pos h8]]
  refine ⟨?_,PH.le_refl _⟩
  simp only [ev0,ev,evV,List.cons_append,List.nil_append,List.getD_cons_zero,List.getD_cons_succ,List.map_cons,List.map_nil,iOf,bOf,sOf,pOf,slLen,z04,cmpI,arI,Value.ite_bool,z01,z03,z00,z02,partV];rfl
 simp only [ev0,ev,evV,List.cons_append,List.nil_append,List.getD_cons_zero,List.getD_cons_succ,List.map_cons,List.map_nil,iOf,bOf,sOf,pOf,slLen,z04,cmpI,arI,Value.ite_bool,z01,z03,z00,z02] at h8
 have h8:¬(e.kind=8∨e.kind=9):=by
  rintro (hh | hh)<;>simp [hh] at h8
 refine ⟨fun h10=>?_,fun h10=>?_⟩
 ·simp only [ev0,ev,evV,List.cons_append,List.nil_append,List.getD_cons_zero,List.getD_cons_succ,List.map_cons,List.map_nil,iOf,bOf,sOf,pOf,slLen,z04,cmpI,arI,Value.ite_bool,z01,z03,z00,z02,zdt] at h10
  rw [show shpX e=_ from by unfold shpX;rw [if_neg h0,if_neg h1,if_neg h2,if_neg h3,if_neg h4,if_neg h5,if_neg h6,if_neg h7,if_neg h8,if_pos h10]]
  refine ⟨?_,PH.le_refl _⟩
  simp only [ev0,ev,evV,List.cons_append,List.nil_append,List.getD_cons_zero,List.getD_cons_succ,List.map_cons,List.map_nil,iOf,bOf,sOf,pOf,slLen,z04,cmpI,arI,Value.ite_bool,z01,z03,z00,z02,partV];rfl
 ·simp only [ev0,ev,evV,List.cons_append,List.nil_append,List.getD_cons_zero,List.getD_cons_succ,List.map_cons,List.map_nil,iOf,bOf,sOf,pOf,slLen,z04,cmpI,arI,Value.ite_bool,z01,z03,z00,z02,zdf] at h10
  rw [show shpX e=_ from by unfold shpX;rw [if_neg h0,if_neg h1,if_neg h2,if_neg h3,if_neg h4,if_neg h5,if_neg h6,if_neg h7,if_neg h8,if_neg h10]]
  exact ⟨rfl,PH.le_refl _⟩
def frmB (e:Xp):Bool:=
 if (((!(shpX e).2.2.2.2 || decide ((e.kids.length:Int) < (shpX e).2.2.1)) || decide ((shpX e).2.2.2.1 < (e.kids.length:Int))) || (decide ((0:Int) < e.names.length) && !(shpX e).2.1)) || !z1n e.names then false
 else if ((shpX e).1 && decide (e.kind≠7) && !z0p e.name) || (!(shpX e).1 && decide (e.name≠[])) then false
 else if e.kind=0 then z1r e.const
 else (decide (e.kind≠10) || !((e.kids.take e.names.length).any fun k=>decide (k.kind≠5))) && z36 e.const
theorem zzp (p:List UInt8):-1≤z0y p∧z0y p≤3:=by unfold z0y;repeat' split<;>omega
def shpN (k:Int) (n:Nat) (A:Int):Bool×Bool×Int×Int×Bool:=
 if k=0 then (false,false,0,0,true) else if k=1 then (true,false,0,0,true) else if k=2 then (true,false,1,1,true) else if k=3 then (false,false,3,3,true)
 else if k=4 then (false,false,2,4096,true) else if k=5 then (false,true,1,1,decide ((n:Int)≤6)) else if k=6 then (false,false,1,7,true)
 else if k=7 then (true,false,A,A,decide (0≤A)) else if k=8∨k=9 then (false,true,IntKind.i64.wrap ((n:Int)+1),IntKind.i64.wrap ((n:Int)+1),true)
 else if k=10 then (false,true,IntKind.i64.wrap ((n:Int)+1),IntKind.i64.wrap ((n:Int)+1),decide ((0:Int) < n)) else (false,false,0,0,false)
def frmN (k:Int) (u n m:Nat) (A:Int) (N S D C B:Bool):Bool:=
 if (((!(shpN k n A).2.2.2.2 || decide ((m:Int) < (shpN k n A).2.2.1)) || decide ((shpN k n A).2.2.2.1 < (m:Int))) || (decide ((0:Int) < n) && !(shpN k n A).2.1)) || !N then false
 else if ((shpN k n A).1 && decide (k≠7) && !S) || (!(shpN k n A).1 && decide (u≠0)) then false
 else if k=0 then C
 else (decide (k≠10) || B) && D
def exN (k:Int) (u n m:Nat) (A:Int) (N S D C B:Bool):Bool:=
 (if k=0 then decide (u=0) && decide (n=0) && decide (m=0) && C
 else D && N &&
  (if k=1 then S && decide (n=0) && decide (m=0)
  else if k=2 then S && decide (n=0) && decide (m=1)
  else if k=3 then decide (u=0) && decide (n=0) && decide (m=3)
  else if k=4 then decide (u=0) && decide (n=0) && decide (2≤m)
  else if k=5 then decide (u=0) && decide (n≤6) && decide (m=1)
  else if k=6 then decide (u=0) && decide (n=0) && decide (1≤m) && decide (m≤7)
  else if k=7 then decide (n=0) && decide (A=m)
  else if k=8∨k=9 then decide (u=0) && decide (m=n+1)
  else if k=10 then decide (u=0) && decide (1≤n) && decide (m=n+1) && B
  else false)) && !(decide (k=4) && decide (4096 < m))
theorem Z48 (k:Int) (u n m:Nat) (A:Int) (N S D C B:Bool) (hn:n≤9223372036854775807) (hm:m≤9223372036854775807) (hN:n=0→N=true):frmN k u n m A N S D C B=exN k u n m A N S D C B:=by
 have hwr:IntKind.i64.wrap ((n:Int)+1)=if n=9223372036854775807 then -9223372036854775808 else (n:Int)+1:=by
  split
  ·rename_i h;rw [h];decide
  ·exact w64 (by omega) (by omega)
 unfold frmN exN shpN
 rw [hwr]
 by_cases h0:k=0
 ·subst h0;grind
 by_cases h1:k=1
 ·subst h1;grind
 by_cases h2:k=2
 ·subst h2;grind
 by_cases h3:k=3
 ·subst h3;grind
 by_cases h4:k=4
 ·subst h4;grind
 by_cases h5:k=5
 ·subst h5;grind
 by_cases h6:k=6
 ·subst h6;grind
 by_cases h7:k=7
 ·subst h7;grind
 by_cases h8:k=8
 ·subst h8;grind
 by_cases h9:k=9
 ·subst h9;grind
 by_cases h10:k=10
 ·subst h10;grind
 ·simp [h0,h1,h2,h3,h4,h5,h6,h7,h8,h9,h10]
theorem zvw {α:Type} (l:List α):l.isEmpty=decide (l.length=0):=by cases l<;>simp
theorem Z41 (e:Xp) (hn:e.names.length≤9223372036854775807) (hk:e.kids.length≤9223372036854775807):frmB e=z18 e:=by
 have hany:(e.kids.take e.names.length).any (fun k=>decide (k.kind≠5))=!((e.kids.take e.names.length).all fun k=>decide (k.kind=5)):=by
  rw [Bool.eq_iff_iff];simp
 have hne:decide (e.name≠[])=decide (e.name.length≠0):=by cases e.name<;>simp
 have h1:frmB e=frmN e.kind e.name.length e.names.length e.kids.length (z0y e.name) (z1n e.names) (z0p e.name) (z36 e.const) (z1r e.const) ((e.kids.take e.names.length).all fun k=>decide (k.kind=5)):=by
  unfold frmB
  rw [hany,hne,Bool.not_not]
  rfl
 have h2:z18 e=exN e.kind e.name.length e.names.length e.kids.length (z0y e.name) (z1n e.names) (z0p e.name) (z36 e.const) (z1r e.const) ((e.kids.take e.names.length).all fun k=>decide (k.kind=5)):=by
  unfold z18 z0i
  simp only [zvw]
  rfl
 rw [h1,h2]
 exact Z48 _ _ _ _ _ _ _ _ _ _ hn hk fun h=>by rw [List.length_eq_zero_iff.1 h];rfl
theorem zu2 (e:Xp) (cs:List Value) (H:PH) (he:e.Rep H cs):Gives Tryz.prog z55 [.agg cs.toArray] H (.bool (decide (e.kind≠5))):=by
 obtain ⟨nb,db,kb,nc,dc,kc,rfl,hx⟩:=he.open
 refine zod (exVs e nb db kb nc dc kc) (by kernel_rfl) (by kernel_rfl) ⟨?_,PH.le_refl _⟩
 simp only [ev0,ev,evV,List.cons_append,List.nil_append,List.getD_cons_zero,List.getD_cons_succ,List.map_cons,List.map_nil,iOf,bOf,sOf,pOf,slLen,z04,cmpI,arI,Value.ite_bool,z01,z03,z00,z02]
theorem ztf (l:List Xp) (v:Value) (H:PH) (hl:SlR H l v):Tri Tryz.prog z59 #[v,.func (.func z55) #[] #[]] H fun e H'=>∃n:Int,e=.returned (.int .i64 n)∧decide (0≤n)=l.any (fun k=>decide (k.kind≠5))∧PH.le H H':=by
 obtain ⟨b,c,rfl⟩:=hl.sl
 have hm:=hl.max
 simp only [maxLen] at hm
 refine z4j [.slice b l.length c,.func (.func z55) #[] #[]] (by kernel_rfl) (by kernel_rfl) ?_
 refine ⟨fun n vs H'=>∃k:Nat,vs=[.int .i64 0,.int .i64 k]∧k+n=l.length∧(∀x∈l.take k,x.kind=5)∧PH.le H H',⟨l.length,0,rfl,by omega,by simp,PH.le_refl H⟩,?_⟩
 rintro n vs H' _ ⟨k,rfl,hkn,hno,hle⟩
 refine ⟨fun h=>?_,fun h=>?_⟩
 ·simp only [ev0,ev,evV,List.cons_append,List.nil_append,List.getD_cons_zero,List.getD_cons_succ,List.map_cons,List.map_nil,iOf,bOf,sOf,pOf,slLen,z04,cmpI,arI,Value.ite_bool,z01,z03,z00,z02,zdt] at h
  obtain ⟨a,ha⟩:∃a,l[k]?=some a:=⟨_,zge (show k < l.length by omega)⟩
  obtain ⟨g1,_,ces,g2,g3⟩:=(hl.le hle).get ha
  have htags:=Xp.Rep.tags g2
  have hcall:=zu2 a ces H' g2
  obtain ⟨nb,db,kb,nc,dc,kc,rfl,hx⟩:=Xp.Rep.open g2
  refine ⟨fun _=>?_,_,htags,by simp only [ev0,ev,evV,List.cons_append,List.nil_append,List.getD_cons_zero,List.getD_cons_succ,List.map_cons,List.map_nil,iOf,bOf,sOf,pOf,slLen,z04,cmpI,arI,Value.ite_bool,z01,z03,z00,z02];exact g3,?_⟩
  ·simp only [Chk.holds,ev0,ev,evV,List.cons_append,List.nil_append,List.getD_cons_zero,List.getD_cons_succ,List.map_cons,List.map_nil,iOf,bOf,sOf,pOf,slLen,z04,cmpI,arI,Value.ite_bool,z01,z03,z00,z02];exact ⟨g1,by omega,by omega⟩
  refine zpn [.bool (decide (a.kind≠5))] rfl zqq hcall rfl z05 fun H2 h2=>⟨fun h3=>?_,fun h3=>?_⟩
  ·simp only [ev0,ev,evV,List.cons_append,List.nil_append,List.getD_cons_zero,List.getD_cons_succ,List.map_cons,List.map_nil,iOf,bOf,sOf,pOf,slLen,z04,cmpI,arI,Value.ite_bool,z01,z03,z00,z02,zdt] at h3
   refine ⟨k,rfl,?_,PH.le_trans hle h2⟩
   have:l.any (fun k=>decide (k.kind≠5))=true:=List.any_eq_true.2 ⟨a,List.mem_of_getElem? ha,by simpa using h3⟩
   rw [this];simp
  ·simp only [ev0,ev,evV,List.cons_append,List.nil_append,List.getD_cons_zero,List.getD_cons_succ,List.map_cons,List.map_nil,iOf,bOf,sOf,pOf,slLen,z04,cmpI,arI,Value.ite_bool,z01,z03,z00,z02,zdf,ne_eq,Decidable.not_not] at h3
   refine ⟨_,z06,n - 1,by omega,k+1,?_,by omega,fun x hx=>?_,PH.le_trans hle h2⟩
   ·simp only [ev0,ev,evV,List.cons_append,List.nil_append,List.getD_cons_zero,List.getD_cons_succ,List.map_cons,List.map_nil,iOf,bOf,sOf,pOf,slLen,z04,cmpI,arI,Value.ite_bool,z01,z03,z00,z02];rw [w64 (by omega) (by omega)];rfl
   ·rcases zce ha hx with hx | hx
    ·exact hno x hx
    ·rw [hx];exact h3
 ·simp only [ev0,ev,evV,List.cons_append,List.nil_append,List.getD_cons_zero,List.getD_cons_succ,List.map_cons,List.map_nil,iOf,bOf,sOf,pOf,slLen,z04,cmpI,arI,Value.ite_bool,z01,z03,z00,z02,zdf] at h
  rw [List.take_of_length_le (by omega)] at hno
  refine ⟨-1,rfl,?_,hle⟩
  have:l.any (fun k=>decide (k.kind≠5))=false:=by
   rw [List.any_eq_false]
   intro x hx
   simp [hno x hx]
  rw [this];rfl
theorem zm9 (l:List Xp) (v:Value) (H:PH) (hl:SlR H l v):Gives Tryz.prog z4a [v,.func (.func z55) #[] #[]] H (.bool (l.any fun k=>decide (k.kind≠5))):=by
 obtain ⟨b,c,rfl⟩:=hl.sl
 refine z40 [.slice b l.length c,.func (.func z55) #[] #[]] (by kernel_rfl) (by kernel_rfl) ?_
 refine z08 z4w (ztf l _ H hl) ?_
 rintro e H' ⟨n,rfl,h1,h2⟩
 refine ⟨_,[_],rfl,rfl,rfl,z05,?_,h2⟩
 simp only [ev0,ev,evV,List.cons_append,List.nil_append,List.getD_cons_zero,List.getD_cons_succ,List.map_cons,List.map_nil,iOf,bOf,sOf,pOf,slLen,z04,cmpI,arI,Value.ite_bool,z01,z03,z00,z02,h1]
theorem zj3 (d:Dat):decide (d=.mk 0 0 [] [])=z36 d:=by
 rw [Bool.eq_iff_iff,zdt,zxm];rfl
theorem zt4 (H:PH):Dat.Rep H (.mk 0 0 [] []) [.int .i64 0,.int .i64 0,txt [],.slice none 0 0]:=z2u (by decide) (by decide) (by decide)
theorem zvz (e:Xp) (cs:List Value) (H:PH) (he:e.Rep H cs):Gives Tryz.prog zvg [.agg cs.toArray] H (.bool (z18 e)):=by
 have hsh:=fun H' (h:PH.le H H')=>zs7 e cs H' (Xp.Rep.le h e he)
 obtain ⟨nb,db,kb,nc,dc,kc,rfl,hx⟩:=he.open
 have hn:=hx.names.max
 have hk:=hx.kids.max
 have hcap:=hx.kids.capLe
 simp only [maxLen] at hn hk
 rw [←Z41 e (by omega) (by omega)]
 refine zsi (exVs e nb db kb nc dc kc) (by kernel_rfl) (by kernel_rfl) ?_
 refine z07 [.bool (shpX e).1,.bool (shpX e).2.1,.int .i64 (shpX e).2.2.1,.int .i64 (shpX e).2.2.2.1,.bool (shpX e).2.2.2.2] zqr (hsh H (PH.le_refl H)) rfl z05 fun H1 h1=>?_
 generalize hb1:((((!(shpX e).2.2.2.2 || decide ((e.kids.length:Int) < (shpX e).2.2.1)) || decide ((shpX e).2.2.2.1 < (e.kids.length:Int))) || (decide ((0:Int) < e.names.length) && !(shpX e).2.1)) || !z1n e.names)=bad1
 refine ⟨fun vs H'=>vs=[.bool bad1]∧PH.le H H',?_,?_⟩
 ·rintro vs H2 _ ⟨rfl,h2⟩
  refine ⟨fun h=>?_,fun h=>?_⟩
  ·simp only [ev0,ev,evV,List.cons_append,List.nil_append,List.getD_cons_zero,List.getD_cons_succ,List.map_cons,List.map_nil,iOf,bOf,sOf,pOf,slLen,z04,cmpI,arI,Value.ite_bool,z01,z03,z00,z02] at h
   refine ⟨?_,h2⟩
   unfold frmB
   rw [hb1,if_pos h];rfl
  simp only [ev0,ev,evV,List.cons_append,List.nil_append,List.getD_cons_zero,List.getD_cons_succ,List.map_cons,List.map_nil,iOf,bOf,sOf,pOf,slLen,z04,cmpI,arI,Value.ite_bool,z01,z03,z00,z02] at h
  generalize hb2:(((shpX e).1 && decide (e.kind≠7) && !z0p e.name) || (!(shpX e).1 && decide (e.name≠[])))=bad2
  refine ⟨fun vs H'=>vs=[.bool bad2]∧PH.le H H',?_,?_⟩
  ·rintro vs H3 _ ⟨rfl,h3⟩
   refine ⟨fun g=>?_,fun g=>?_⟩
   ·simp only [ev0,ev,evV,List.cons_append,List.nil_append,List.getD_cons_zero,List.getD_cons_succ,List.map_cons,List.map_nil,iOf,bOf,sOf,pOf,slLen,z04,cmpI,arI,Value.ite_bool,z01,z03,z00,z02] at g
    refine ⟨?_,h3⟩
    unfold frmB
    rw [hb1,hb2,h,g];rfl
   simp only [ev0,ev,evV,List.cons_append,List.nil_append,List.getD_cons_zero,List.getD_cons_succ,List.map_cons,List.map_nil,iOf,bOf,sOf,pOf,slLen,z04,cmpI,arI,Value.ite_bool,z01,z03,z00,z02] at g
   refine ⟨fun g0=>?_,fun g0=>?_⟩
   ·simp only [ev0,ev,evV,List.cons_append,List.nil_append,List.getD_cons_zero,List.getD_cons_succ,List.map_cons,List.map_nil,iOf,bOf,sOf,pOf,slLen,z04,cmpI,arI,Value.ite_bool,z01,z03,z00,z02,zdt] at g0
    refine z07 [.bool (z1r e.const)] zp9 (zs9 e.const _ H3 (Dat.Rep.le h3 _ hx.const)) rfl z05 fun H4 h4=>⟨?_,PH.le_trans h3 h4⟩
    unfold frmB
    rw [hb1,hb2,h,g]
    simp only [Bool.false_eq_true,if_false,if_pos g0];rfl
   simp only [ev0,ev,evV,List.cons_append,List.nil_append,List.getD_cons_zero,List.getD_cons_succ,List.map_cons,List.map_nil,iOf,bOf,sOf,pOf,slLen,z04,cmpI,arI,Value.ite_bool,z01,z03,z00,z02,zdf] at g0
   have hfr:frmB e=((decide (e.kind≠10) || !((e.kids.take e.names.length).any fun k=>decide (k.kind≠5))) && z36 e.const):=by
    unfold frmB
    rw [hb1,hb2,h,g]
    simp only [Bool.false_eq_true,if_false,if_neg g0]
   rw [hfr]
   refine ⟨fun vs H'=>vs=[.bool (decide (e.kind≠10) || !((e.kids.take e.names.length).any fun k=>decide (k.kind≠5)))]∧PH.le H H',?_,?_⟩
   ·rintro vs H4 _ ⟨rfl,h4⟩
    refine ⟨fun vs H'=>vs=[.bool ((decide (e.kind≠10) || !((e.kids.take e.names.length).any fun k=>decide (k.kind≠5))) && z36 e.const)]∧PH.le H H',?_,?_⟩
    ·rintro vs H5 _ ⟨rfl,h5⟩
     exact ⟨rfl,h5⟩
    refine ⟨fun w=>?_,fun w=>?_⟩
    ·simp only [ev0,ev,evV,List.cons_append,List.nil_append,List.getD_cons_zero,List.getD_cons_succ,List.map_cons,List.map_nil,iOf,bOf,sOf,pOf,slLen,z04,cmpI,arI,Value.ite_bool,z01,z03,z00,z02] at w
     have he:=zv3 e.const (.mk 0 0 [] []) _ _ H4 (Dat.Rep.le h4 _ hx.const) (zt4 H4)
     rw [zj3] at he
     refine z07 [.bool (z36 e.const)] zjw he rfl z05 fun H5 h5=>⟨_,z06,?_,PH.le_trans h4 h5⟩
     rw [w];rfl
    ·simp only [ev0,ev,evV,List.cons_append,List.nil_append,List.getD_cons_zero,List.getD_cons_succ,List.map_cons,List.map_nil,iOf,bOf,sOf,pOf,slLen,z04,cmpI,arI,Value.ite_bool,z01,z03,z00,z02] at w
     refine ⟨_,z06,?_,h4⟩
     rw [w];rfl
   ·
    have hlen:¬(e.kind≠10)→(e.kids.length:Int)=(e.names.length:Int)+1:=by
     intro h10
     have h10:e.kind=10:=Decidable.not_not.1 h10
     have hb:=hb1
     rw [h] at hb
     have hs:shpX e=(false,true,IntKind.i64.wrap ((e.names.length:Int)+1),IntKind.i64.wrap ((e.names.length:Int)+1),decide ((0:Int) < e.names.length)):=by unfold shpX;simp [h10]
     rw [hs] at hb
     simp only [Bool.or_eq_false_iff,zdf] at hb
     obtain ⟨⟨⟨⟨_,b1⟩,b2⟩,_⟩,_⟩:=hb
     by_cases hx:e.names.length=9223372036854775807
     ·rw [hx] at b1 b2
      have:IntKind.i64.wrap (((9223372036854775807:Nat):Int)+1)=-9223372036854775808:=by decide
      rw [this] at b1 b2
      omega
     ·rw [w64 (by omega) (by omega)] at b1 b2
      omega
    refine ⟨fun w=>?_,fun w=>?_,fun w=>?_⟩
    ·have w':¬(e.kind≠10):=by
      have:=w _ (List.mem_singleton.2 rfl)
      simp only [ev0,ev,evV,List.cons_append,List.nil_append,List.getD_cons_zero,List.getD_cons_succ,List.map_cons,List.map_nil,iOf,bOf,sOf,pOf,slLen,z04,cmpI,arI,Value.ite_bool,z01,z03,z00,z02,zdf] at this
      exact this
     have:=hlen w'
     simp only [Chk.holds,ev0,ev,evV,List.cons_append,List.nil_append,List.getD_cons_zero,List.getD_cons_succ,List.map_cons,List.map_nil,iOf,bOf,sOf,pOf,slLen,z04,cmpI,arI,Value.ite_bool,z01,z03,z00,z02,slCap];omega
    ·simp only [ev0,ev,evV,List.cons_append,List.nil_append,List.getD_cons_zero,List.getD_cons_succ,List.map_cons,List.map_nil,iOf,bOf,sOf,pOf,slLen,z04,cmpI,arI,Value.ite_bool,z01,z03,z00,z02,zdt] at w
     refine ⟨_,z06,?_,h3⟩
     rw [decide_eq_true w];rfl
    ·simp only [ev0,ev,evV,List.cons_append,List.nil_append,List.getD_cons_zero,List.getD_cons_succ,List.map_cons,List.map_nil,iOf,bOf,sOf,pOf,slLen,z04,cmpI,arI,Value.ite_bool,z01,z03,z00,z02,zdf] at w
     have hl:=hlen w
     have hcut:=(hx.kids.le h3).cut (a:=0) (b:=e.names.length) (by omega) (by omega)
     rw [List.drop_zero] at hcut
     refine z07 [.bool ((e.kids.take e.names.length).any fun k=>decide (k.kind≠5))] z44 ?_ rfl z05 fun H4 h4=>⟨_,z06,?_,PH.le_trans h3 h4⟩
     ·have:=zm9 _ _ H3 hcut
      simp only [ev0,ev,evV,List.cons_append,List.nil_append,List.getD_cons_zero,List.getD_cons_succ,List.map_cons,List.map_nil,iOf,bOf,sOf,pOf,slLen,z04,cmpI,arI,Value.ite_bool,z01,z03,z00,z02]
      exact this
     ·rw [decide_eq_false w]
      simp only [ev0,ev,evV,List.cons_append,List.nil_append,List.getD_cons_zero,List.getD_cons_succ,List.map_cons,List.map_nil,iOf,bOf,sOf,pOf,slLen,z04,cmpI,arI,Value.ite_bool,z01,z03,z00,z02,Bool.false_or]
  ·refine ⟨fun g=>?_,fun g=>?_⟩
   ·simp only [ev0,ev,evV,List.cons_append,List.nil_append,List.getD_cons_zero,List.getD_cons_succ,List.map_cons,List.map_nil,iOf,bOf,sOf,pOf,slLen,z04,cmpI,arI,Value.ite_bool,z01,z03,z00,z02,zba,zdt] at g
    refine z07 [.bool (z0p e.name)] ze8 (zj9 e.name hx.name H2) rfl z05 fun H3 h3=>⟨_,z06,?_,PH.le_trans h2 h3⟩
    rw [←hb2]
    simp only [ev0,ev,evV,List.cons_append,List.nil_append,List.getD_cons_zero,List.getD_cons_succ,List.map_cons,List.map_nil,iOf,bOf,sOf,pOf,slLen,z04,cmpI,arI,Value.ite_bool,z01,z03,z00,z02,z1d,g.1,decide_eq_true g.2]
    cases z0p e.name<;>rfl
   ·refine ⟨_,z06,?_,h2⟩
    rw [←hb2]
    simp only [ev0,ev,evV,List.cons_append,List.nil_append,List.getD_cons_zero,List.getD_cons_succ,List.map_cons,List.map_nil,iOf,bOf,sOf,pOf,slLen,z04,cmpI,arI,Value.ite_bool,z01,z03,z00,z02,z1d] at g ⊢
    cases h1:(shpX e).1
    ·rfl
    ·rw [h1] at g
     simp only [Bool.true_and] at g
     simp [g]
 ·refine ⟨fun g=>?_,fun g=>?_⟩
  ·refine ⟨_,z06,?_,h1⟩
   simp only [ev0,ev,evV,List.cons_append,List.nil_append,List.getD_cons_zero,List.getD_cons_succ,List.map_cons,List.map_nil,iOf,bOf,sOf,pOf,slLen,z04,cmpI,arI,Value.ite_bool,z01,z03,z00,z02] at g
   rw [←hb1]
   simp only [ev0,ev,evV,List.cons_append,List.nil_append,List.getD_cons_zero,List.getD_cons_succ,List.map_cons,List.map_nil,iOf,bOf,sOf,pOf,slLen,z04,cmpI,arI,Value.ite_bool,z01,z03,z00,z02]
   simp only [gt_iff_lt] at g
   rw [g];rfl
  ·refine z07 [.bool (z1n e.names)] zru (zuq e.names _ H1 (hx.names.le h1)) rfl z05 fun H2 h2=>⟨_,z06,?_,PH.le_trans h1 h2⟩
   rw [←hb1]
   simp only [ev0,ev,evV,List.cons_append,List.nil_append,List.getD_cons_zero,List.getD_cons_succ,List.map_cons,List.map_nil,iOf,bOf,sOf,pOf,slLen,z04,cmpI,arI,Value.ite_bool,z01,z03,z00,z02] at g ⊢
   simp only [gt_iff_lt] at g
   rw [g];rfl
theorem Xp.chk_eq (t:Bool) (e:Xp) (deep seen:Nat):e.chk t deep seen=if seen=4096 then (seen,62) else if 250≤deep then (seen+1,61) else if (if t then z18 e else z0i e)=false then (seen+1,60) else Xps.chk t e.kids (deep+1) (seen+1):=by
 cases e;simp only [Xp.chk,Xp.kids]
mutual
theorem Xp.chk_le (t:Bool):∀(e:Xp) (deep seen:Nat),seen≤4096→(e.chk t deep seen).1≤4096
 | .mk k s ns d l,deep,seen,h=>by
  simp only [Xp.chk]
  repeat' split
  all_goals first
   | exact h
   | exact Xps.chk_le t l _ _ (by omega)
   | (show seen+1≤4096;omega)
theorem Xps.chk_le (t:Bool):∀(l:List Xp) (deep seen:Nat),seen≤4096→(Xps.chk t l deep seen).1≤4096
 | [],_,_,h=>by simpa only [Xps.chk] using h
 | e::l,deep,seen,h=>by
  simp only [Xps.chk]
  split
  ·exact Xp.chk_le t e deep seen h
  ·exact Xps.chk_le t l deep _ (Xp.chk_le t e deep seen h)
end
theorem zyq:∀(d:Xp) (cs:List Value) (H:PH) (wr deep seen:Nat) (T:TypeId),d.Rep (H.del wr) cs→H wr=some (.cells #[.int .i64 seen] T (0,0))→deep≤250→seen≤4096 →
  Tri Tryz.prog ztc #[.agg cs.toArray,.int .i64 deep,.pointer (some ⟨wr,0,none⟩)] H fun e H'=>e=.returned (.int .i64 (d.chk true deep seen).2)∧H' wr=some (.cells #[.int .i64 (d.chk true deep seen).1] T (0,0))∧PH.le (H.del wr) (H'.del wr):=by
 refine Xp.ind ?_
 intro d ih cs H wr deep seen T hd hwr hdeep hseen
 have hd':=hd
 obtain ⟨nb,db,kb,nc,dc,kc,rfl,hx⟩:=Xp.Rep.open hd
 have hs:=hx.kids
 have hlen:=hs.max
 simp only [maxLen] at hlen
 rw [Xp.chk_eq]
 refine zqe (exVs d nb db kb nc dc kc++[.int .i64 deep,.pointer (some ⟨wr,0,none⟩)]) (by kernel_rfl) (by kernel_rfl) ?_
 have hrow:rowAt H (some ⟨wr,0,none⟩) [.int .i64 seen]:=⟨_,rfl,fun i v hi=>by
  rw [Addr.add_plain,PH.cell_at hwr]
  cases i with
  | zero=>simpa using hi
  | succ i=>simp at hi⟩
 have hs1:IntKind.i64.wrap ((seen:Int)+1)=((seen+1:Nat):Int):=by rw [w64 (by omega) (by omega)];omega
 refine ⟨fun _=>rfl,[.int .i64 seen],rfl,hrow,?_⟩
 refine ⟨fun h0=>?_,fun h0=>?_⟩
 ·simp only [ev0,ev,evV,List.cons_append,List.nil_append,List.getD_cons_zero,List.getD_cons_succ,List.map_cons,List.map_nil,iOf,bOf,sOf,pOf,slLen,z04,cmpI,arI,Value.ite_bool,z01,z03,z00,z02,zdt] at h0
  have h0':seen=4096:=by omega
  refine ⟨?_,?_,PH.le_refl _⟩
  ·rw [if_pos h0'];rfl
  ·rw [if_pos h0'];exact hwr
 simp only [ev0,ev,evV,List.cons_append,List.nil_append,List.getD_cons_zero,List.getD_cons_succ,List.map_cons,List.map_nil,iOf,bOf,sOf,pOf,slLen,z04,cmpI,arI,Value.ite_bool,z01,z03,z00,z02,zdf] at h0
 rw [if_neg (show ¬seen=4096 by omega)]
 refine ⟨[.int .i64 seen],rfl,hrow,⟨wr,0,none⟩,rfl,?_⟩
 refine z1m _ 0 0 #[.int .i64 seen] H hwr (by simp) (by simp [ev0,ev,oneC]) ?_
 have hsp:z11 #[Value.int .i64 seen] (0+0) (List.map (ev0 (exVs d nb db kb nc dc kc++[.int .i64 deep,.pointer (some ⟨wr,0,none⟩)]++[.int .i64 seen]++[.int .i64 seen])) [.ar .add .i64 (.atom 11) (.int .i64 1)])=#[.int .i64 ((seen+1:Nat):Int)]:=by
  simp only [ev0,ev,evV,List.cons_append,List.nil_append,List.getD_cons_zero,List.getD_cons_succ,List.map_cons,List.map_nil,iOf,bOf,sOf,pOf,slLen,z04,cmpI,arI,Value.ite_bool,z01,z03,z00,z02,hs1];rfl
 rw [hsp]
 have hw1:(H.upd wr (.cells #[.int .i64 ((seen+1:Nat):Int)] T (0,0))) wr=some (.cells #[.int .i64 ((seen+1:Nat):Int)] T (0,0)):=PH.upd_same
 have hdl:PH.le (H.del wr) ((H.upd wr (.cells #[.int .i64 ((seen+1:Nat):Int)] T (0,0))).del wr):=by rw [PH.del_upd];exact PH.le_refl _
 generalize H.upd wr (.cells #[.int .i64 ((seen+1:Nat):Int)] T (0,0))=H1 at hw1 hdl ⊢
 refine ⟨fun h3=>?_,fun h3=>?_⟩
 ·simp only [ev0,ev,evV,List.cons_append,List.nil_append,List.getD_cons_zero,List.getD_cons_succ,List.map_cons,List.map_nil,iOf,bOf,sOf,pOf,slLen,z04,cmpI,arI,Value.ite_bool,z01,z03,z00,z02,zdt] at h3
  have h3':250≤deep:=by omega
  refine ⟨?_,?_,hdl⟩
  ·rw [if_pos h3'];rfl
  ·rw [if_pos h3'];exact hw1
 simp only [ev0,ev,evV,List.cons_append,List.nil_append,List.getD_cons_zero,List.getD_cons_succ,List.map_cons,List.map_nil,iOf,bOf,sOf,pOf,slLen,z04,cmpI,arI,Value.ite_bool,z01,z03,z00,z02,zdf] at h3
 rw [if_neg (show ¬250≤deep by omega)]
 refine z07 [.bool (z18 d)] zts (zvz d _ H1 (Xp.Rep.le (PH.le_trans hdl (PH.del_le _ _)) d hd')) rfl z05 fun H3 h4=>?_
 have hw3:=h4 _ _ hw1
 have hd3:=PH.le_trans hdl (PH.del_mono h4 wr)
 simp only [if_true]
 refine ⟨fun h5=>?_,fun h5=>?_⟩
 ·simp only [ev0,ev,evV,List.cons_append,List.nil_append,List.getD_cons_zero,List.getD_cons_succ,List.map_cons,List.map_nil,iOf,bOf,sOf,pOf,slLen,z04,cmpI,arI,Value.ite_bool,z01,z03,z00,z02,Bool.not_eq_true'] at h5
  refine ⟨?_,?_,hd3⟩
  ·rw [if_pos h5];rfl
  ·rw [if_pos h5];exact hw3
 simp only [ev0,ev,evV,List.cons_append,List.nil_append,List.getD_cons_zero,List.getD_cons_succ,List.map_cons,List.map_nil,iOf,bOf,sOf,pOf,slLen,z04,cmpI,arI,Value.ite_bool,z01,z03,z00,z02,Bool.not_eq_false'] at h5
 rw [if_neg (show ¬z18 d=false by rw [h5];simp)]
 refine ⟨fun n vs H'=>∃(k s:Nat) (x:Int),vs=[.int .i64 x,.int .i64 k]∧k+n=d.kids.length∧s≤4096∧Xps.chk true d.kids (deep+1) (seen+1)=Xps.chk true (d.kids.drop k) (deep+1) s∧H' wr=some (.cells #[.int .i64 s] T (0,0))∧PH.le (H.del wr) (H'.del wr),
  ⟨d.kids.length,0,seen+1,0,rfl,by omega,by omega,by simp,hw3,hd3⟩,?_⟩
 rintro n vs H' _ ⟨k,s,x,rfl,hkn,hs4,heq,hw,hle⟩
 refine ⟨fun h6=>?_,fun h6=>?_⟩
 ·simp only [ev0,ev,evV,List.cons_append,List.nil_append,List.getD_cons_zero,List.getD_cons_succ,List.map_cons,List.map_nil,iOf,bOf,sOf,pOf,slLen,z04,cmpI,arI,Value.ite_bool,z01,z03,z00,z02,zdt] at h6
  have hkl:k < d.kids.length:=by omega
  obtain ⟨e,he⟩:∃e,d.kids[k]?=some e:=⟨_,zge hkl⟩
  obtain ⟨g1,_,ces,g2,g3⟩:=(hs.le hle).get he
  have hd1:IntKind.i64.wrap ((deep:Int)+1)=((deep+1:Nat):Int):=by rw [w64 (by omega) (by omega)];omega
  refine ⟨fun _=>?_,?_⟩
  ·simp only [Chk.holds,ev0,ev,evV,List.cons_append,List.nil_append,List.getD_cons_zero,List.getD_cons_succ,List.map_cons,List.map_nil,iOf,bOf,sOf,pOf,slLen,z04,cmpI,arI,Value.ite_bool,z01,z03,z00,z02];exact ⟨g1,by omega,by omega⟩
  have htags:=Xp.Rep.tags g2
  have hcall:=ih e (List.mem_of_getElem? he) ces H' wr (deep+1) s T g2 hw (by omega) hs4
  obtain ⟨nb',db',kb',nc',dc',kc',rfl,_⟩:=Xp.Rep.open g2
  refine ⟨_,htags,?_,?_⟩
  ·simp only [ev0,ev,evV,List.cons_append,List.nil_append,List.getD_cons_zero,List.getD_cons_succ,List.map_cons,List.map_nil,iOf,bOf,sOf,pOf,slLen,z04,cmpI,arI,Value.ite_bool,z01,z03,z00,z02];exact z0b (PH.del_le _ _) g3
  refine z08 (R:=fun e' H''=>e'=.returned (.int .i64 (e.chk true (deep+1) s).2)∧H'' wr=some (.cells #[.int .i64 (e.chk true (deep+1) s).1] T (0,0))∧PH.le (H'.del wr) (H''.del wr)) zk8 ?_ ?_
  ·simp only [ev0,ev,evV,List.cons_append,List.nil_append,List.getD_cons_zero,List.getD_cons_succ,List.map_cons,List.map_nil,iOf,bOf,sOf,pOf,slLen,z04,cmpI,arI,Value.ite_bool,z01,z03,z00,z02,hd1]
   exact hcall
  rintro e' H4 ⟨rfl,hw4,hl4⟩
  refine ⟨_,[.int .i64 (e.chk true (deep+1) s).2],rfl,rfl,rfl,z05,?_⟩
  have hle4:=PH.le_trans hle hl4
  rw [z4v he] at heq
  simp only [Xps.chk] at heq
  refine ⟨fun h7=>?_,fun h7=>?_⟩
  ·simp only [ev0,ev,evV,List.cons_append,List.nil_append,List.getD_cons_zero,List.getD_cons_succ,List.map_cons,List.map_nil,iOf,bOf,sOf,pOf,slLen,z04,cmpI,arI,Value.ite_bool,z01,z03,z00,z02,zdt] at h7
   rw [if_pos h7] at heq
   refine ⟨?_,?_,hle4⟩
   ·rw [heq];rfl
   ·rw [heq];exact hw4
  ·simp only [ev0,ev,evV,List.cons_append,List.nil_append,List.getD_cons_zero,List.getD_cons_succ,List.map_cons,List.map_nil,iOf,bOf,sOf,pOf,slLen,z04,cmpI,arI,Value.ite_bool,z01,z03,z00,z02,zdf,ne_eq,Decidable.not_not] at h7
   rw [if_neg (by simp [h7])] at heq
   refine ⟨_,z06,n - 1,by omega,k+1,(e.chk true (deep+1) s).1,x,?_,by omega,Xp.chk_le true e _ _ hs4,heq,hw4,hle4⟩
   simp only [ev0,ev,evV,List.cons_append,List.nil_append,List.getD_cons_zero,List.getD_cons_succ,List.map_cons,List.map_nil,iOf,bOf,sOf,pOf,slLen,z04,cmpI,arI,Value.ite_bool,z01,z03,z00,z02]
   rw [w64 (by omega) (by omega)]
   rfl
 ·simp only [ev0,ev,evV,List.cons_append,List.nil_append,List.getD_cons_zero,List.getD_cons_succ,List.map_cons,List.map_nil,iOf,bOf,sOf,pOf,slLen,z04,cmpI,arI,Value.ite_bool,z01,z03,z00,z02,zdf] at h6
  have:k=d.kids.length:=by omega
  subst this
  rw [List.drop_length] at heq
  simp only [Xps.chk] at heq
  refine ⟨?_,?_,hle⟩
  ·rw [heq];rfl
  ·rw [heq];exact hw
theorem zjz (d:Xp) (cs:List Value) (H:PH) (hd:d.Rep H cs):Gives Tryz.prog zte [.agg cs.toArray] H (.int .i64 (d.chk true 0 0).2):=by
 have hd':=hd
 obtain ⟨nb,db,kb,nc,dc,kc,rfl,hx⟩:=Xp.Rep.open hd
 refine zql (exVs d nb db kb nc dc kc) (by kernel_rfl) (by kernel_rfl) ?_
 intro r hr
 have hw:(H.upd r (.cells #[.int .i64 ((0:Nat):Int)] 3 (0,0))) r=some (.cells #[.int .i64 ((0:Nat):Int)] 3 (0,0)):=PH.upd_same
 have hle:PH.le H ((H.upd r (.cells #[.int .i64 ((0:Nat):Int)] 3 (0,0))).del r):=PH.del_new H r _ hr
 refine z08 zk8 (zyq d _ _ r 0 0 3 (Xp.Rep.le hle d hd') hw (by omega) (by omega)) ?_
 rintro e H' ⟨rfl,_,h2⟩
 exact ⟨_,[_],rfl,rfl,rfl,z05,rfl,PH.le_trans hle (PH.le_trans h2 (PH.del_le _ _))⟩
end Go.Proofs.YtjhlndokjkeilaaGreatDoor.Vc
namespace Go.Proofs.YtjhlndokjkeilaaGreatDoor.Vc
open Go Go.Sort
theorem Z30 {H:PH} {w:World} (hv:Vis H w) (k:Nat) (os:Array Obj):Adv H w H (grow (w.drewN k) os):=by
 have hs:∀i,i < w.heap.size→(w.heap++os)[i]?=w.heap[i]?:=fun i hi=>Array.getElem?_append_left hi
 refine ⟨?_,fun i o hi=>?_,fun i hi hn=>⟨hs i hi,hn⟩,rfl,rfl,rfl⟩
 ·show w.heap.size≤(w.heap++os).size
  rw [Array.size_append];omega
 ·show (w.heap++os)[i]?=some o
  rw [hs i (hv.lt hi)];exact hv i o hi
theorem Z3v:callB Tryz.prog 68=true:=by kernel_rfl
theorem Z1x (n:Nat) (hn:n≤9223372036854775807) (H:PH) (hT:Tab H):Tri Tryz.prog 68 #[.int .i64 (n:Int)] H fun e H'=>e=.returned (txt (Lib.decDigits n))∧H'=H:=fun w hv=>
 (Tryz.strconv_Itoa (n:Int) (by omega) (by omega) w (hT.is hv)).mono fun e w' ⟨g1,k,os,g2⟩=>by
  subst g2
  refine ⟨H,Z30 hv k os,?_,rfl⟩
  rw [g1]
  have:Lib.itoa (n:Int)=Lib.decDigits n:=by unfold Lib.itoa;rw [if_neg (by omega),Int.toNat_natCast]
  rw [this]
theorem ztj:Tryz.prog.underlying 44=some (.map 9 3):=by kernel_rfl
theorem kdStr:Tryz.prog.underlying 9=some (Key.kd (List UInt8)):=by kernel_rfl
theorem zInt:(Tryz.prog.info? 3).map (·.zero)=some (some (.int .i64 0)):=by kernel_rfl
def putsM (m:List (List UInt8×Value)) (l:List (List UInt8)):List (List UInt8×Value):=l.foldl (fun m s=>putM m s (.int .i64 1)) m
theorem zl8 (m:List (List UInt8×Value)) (a b:List (List UInt8)):putsM m (a++b)=putsM (putsM m a) b:=by unfold putsM;rw [List.foldl_append]
theorem zr4 (s:List UInt8):∀(l:List (List UInt8)) (m:List (List UInt8×Value)),getM (putsM m l) s=if s∈l then some (.int .i64 1) else getM m s
 | [],m=>by simp [putsM]
 | a::l,m=>by
  have:=zr4 s l (putM m a (.int .i64 1))
  show getM (putsM (putM m a (.int .i64 1)) l) s=_
  rw [this,znr]
  by_cases h1:s∈l
  ·rw [if_pos h1,if_pos (zmm _ h1)]
  ·rw [if_neg h1]
   by_cases h2:s=a
   ·rw [if_pos h2,if_pos (by rw [h2];exact zms)]
   ·rw [if_neg h2,if_neg (by simp [h1,h2])]
theorem zz7 {H:PH} {r:Nat} {a b:Value} {T:TypeId} (h:H r=some (.cells #[a,b] T (0,0))):rowAt H ((some ⟨r,0,none⟩:Option Addr).map (·.add 0)) [a]:=⟨_,rfl,fun i v hi=>by
 rw [Addr.add_add,Addr.add_plain,PH.cell_at h]
 cases i with
 | zero=>simpa using hi
 | succ i=>simp at hi⟩
theorem Z0l {S H:PH} (h:PH.le S H) {r:Nat} (hr:S r=none) (o:Obj):PH.le S (H.upd r o):=fun k x hk=>by
 have e:k≠r:=fun e=>by rw [e,hr] at hk;cases hk
 rw [PH.upd_other e];exact h k x hk
end Go.Proofs.YtjhlndokjkeilaaGreatDoor.Vc
namespace Go.Proofs.YtjhlndokjkeilaaGreatDoor.Vc
open Go Go.Sort
def UsedM (m:List (List UInt8×Value)) (used:List (List UInt8)):Prop:=∀s,(getM m s).getD (.int .i64 0)=.int .i64 (if s∈used then 1 else 0)
theorem Z15 {p:Prop} [Decidable p] (h:¬p):true=decide (¬p):=(decide_eq_true h).symm
noncomputable instance decXp:DecidableEq Xp:=fun a b=>Classical.propDecidable (a=b)
noncomputable instance decXps:DecidableEq (List Xp):=fun a b=>Classical.propDecidable (a=b)
theorem znj:∀(a b:Xp) (ca cb:List Value) (H:PH),a.Rep H ca→b.Rep H cb→Gives Tryz.prog zi8 [.agg ca.toArray,.agg cb.toArray] H (.bool (decide (a=b))):=by
 refine Xp.ind fun a ih b ca cb H ha hb=>?_
 obtain ⟨nb,db,kb,nc,dc,kc,rfl,hx⟩:=Xp.Rep.open ha
 obtain ⟨nb2,db2,kb2,nc2,dc2,kc2,rfl,hy⟩:=Xp.Rep.open hb
 have m1:=hx.kids.max
 have m2:=hy.kids.max
 simp only [maxLen] at m1 m2
 refine zfp (exVs a nb db kb nc dc kc++exVs b nb2 db2 kb2 nc2 dc2 kc2) (by kernel_rfl) (by kernel_rfl) ?_
 refine ⟨fun vs H'=>vs=[.bool (decide (¬(a.kind=b.kind∧a.name=b.name∧a.names=b.names∧a.const=b.const∧a.kids.length=b.kids.length)))]∧PH.le H H',?_,?_⟩
 ·rintro vs H1 _ ⟨rfl,l1⟩
  refine ⟨fun g=>?_,fun g=>?_⟩
  ·simp only [ev0,ev,evV,List.cons_append,List.nil_append,List.getD_cons_zero,List.getD_cons_succ,List.map_cons,List.map_nil,iOf,bOf,sOf,pOf,slLen,z04,cmpI,arI,Value.ite_bool,z01,z03,z00,z02,zdt] at g
   refine ⟨?_,l1⟩
   have:¬a=b:=fun e=>g (by subst e;simp)
   simp only [ev0,ev,evV,List.cons_append,List.nil_append,List.getD_cons_zero,List.getD_cons_succ,List.map_cons,List.map_nil,iOf,bOf,sOf,pOf,slLen,z04,cmpI,arI,Value.ite_bool,z01,z03,z00,z02,decide_eq_false this]
  simp only [ev0,ev,evV,List.cons_append,List.nil_append,List.getD_cons_zero,List.getD_cons_succ,List.map_cons,List.map_nil,iOf,bOf,sOf,pOf,slLen,z04,cmpI,arI,Value.ite_bool,z01,z03,z00,z02,zdf,Decidable.not_not] at g
  obtain ⟨h1,h2,h3,h4,h5⟩:=g
  have heq:(a=b)↔a.kids=b.kids:=by rw [Xp.eq_iff];simp [h1,h2,h3,h4]
  refine ⟨fun n vs H'=>∃k:Nat,vs=[.bool false,.int .i64 k]∧k+n=a.kids.length∧a.kids.take k=b.kids.take k∧PH.le H H',⟨a.kids.length,0,rfl,by omega,by simp,l1⟩,?_⟩
  rintro n vs H2 _ ⟨k,rfl,hkn,htk,l2⟩
  refine ⟨fun g=>?_,fun g=>?_⟩
  ·simp only [ev0,ev,evV,List.cons_append,List.nil_append,List.getD_cons_zero,List.getD_cons_succ,List.map_cons,List.map_nil,iOf,bOf,sOf,pOf,slLen,z04,cmpI,arI,Value.ite_bool,z01,z03,z00,z02,zdt] at g
   obtain ⟨e,he⟩:∃e,a.kids[k]?=some e:=⟨_,zge (show k < a.kids.length by omega)⟩
   obtain ⟨e',he'⟩:∃e,b.kids[k]?=some e:=⟨_,zge (show k < b.kids.length by omega)⟩
   obtain ⟨g1,_,ces,g2,g3⟩:=(hx.kids.le l2).get he
   obtain ⟨g1',_,ces',g2',g3'⟩:=(hy.kids.le l2).get he'
   have hcall:=ih e (List.mem_of_getElem? he) e' ces ces' H2 g2 g2'
   have htags:=Xp.Rep.tags g2
   have htags':=Xp.Rep.tags g2'
   obtain ⟨p1,p2,p3,p4,p5,p6,rfl,_⟩:=Xp.Rep.open g2
   obtain ⟨q1,q2,q3,q4,q5,q6,rfl,_⟩:=Xp.Rep.open g2'
   refine ⟨fun _=>?_,_,htags,by simp only [ev0,ev,evV,List.cons_append,List.nil_append,List.getD_cons_zero,List.getD_cons_succ,List.map_cons,List.map_nil,iOf,bOf,sOf,pOf,slLen,z04,cmpI,arI,Value.ite_bool,z01,z03,z00,z02];exact g3,fun _=>?_,_,htags',by simp only [ev0,ev,evV,List.cons_append,List.nil_append,List.getD_cons_zero,List.getD_cons_succ,List.map_cons,List.map_nil,iOf,bOf,sOf,pOf,slLen,z04,cmpI,arI,Value.ite_bool,z01,z03,z00,z02];exact g3',?_⟩
   ·simp only [Chk.holds,ev0,ev,evV,List.cons_append,List.nil_append,List.getD_cons_zero,List.getD_cons_succ,List.map_cons,List.map_nil,iOf,bOf,sOf,pOf,slLen,z04,cmpI,arI,Value.ite_bool,z01,z03,z00,z02];exact ⟨g1,by omega,by omega⟩
   ·simp only [Chk.holds,ev0,ev,evV,List.cons_append,List.nil_append,List.getD_cons_zero,List.getD_cons_succ,List.map_cons,List.map_nil,iOf,bOf,sOf,pOf,slLen,z04,cmpI,arI,Value.ite_bool,z01,z03,z00,z02];exact ⟨g1',by omega,by omega⟩
   refine z07 [.bool (decide (e=e'))] z3y hcall rfl z05 fun H3 l3=>⟨fun h6=>?_,fun h6=>?_⟩
   ·simp only [ev0,ev,evV,List.cons_append,List.nil_append,List.getD_cons_zero,List.getD_cons_succ,List.map_cons,List.map_nil,iOf,bOf,sOf,pOf,slLen,z04,cmpI,arI,Value.ite_bool,z01,z03,z00,z02,Bool.not_eq_true',zdf] at h6
    refine ⟨?_,PH.le_trans l2 l3⟩
    have:¬a=b:=fun x=>h6 (by subst x;rw [he] at he';exact Option.some.inj he')
    simp only [ev0,ev,evV,List.cons_append,List.nil_append,List.getD_cons_zero,List.getD_cons_succ,List.map_cons,List.map_nil,iOf,bOf,sOf,pOf,slLen,z04,cmpI,arI,Value.ite_bool,z01,z03,z00,z02,decide_eq_false this]
   ·simp only [ev0,ev,evV,List.cons_append,List.nil_append,List.getD_cons_zero,List.getD_cons_succ,List.map_cons,List.map_nil,iOf,bOf,sOf,pOf,slLen,z04,cmpI,arI,Value.ite_bool,z01,z03,z00,z02,Bool.not_eq_false',zdt] at h6
    refine ⟨_,z06,n - 1,by omega,k+1,?_,by omega,zlg htk he he' h6,PH.le_trans l2 l3⟩
    simp only [ev0,ev,evV,List.cons_append,List.nil_append,List.getD_cons_zero,List.getD_cons_succ,List.map_cons,List.map_nil,iOf,bOf,sOf,pOf,slLen,z04,cmpI,arI,Value.ite_bool,z01,z03,z00,z02]
    rw [w64 (by omega) (by omega)]
    rfl
  ·simp only [ev0,ev,evV,List.cons_append,List.nil_append,List.getD_cons_zero,List.getD_cons_succ,List.map_cons,List.map_nil,iOf,bOf,sOf,pOf,slLen,z04,cmpI,arI,Value.ite_bool,z01,z03,z00,z02,zdf] at g
   refine ⟨?_,l2⟩
   have:a=b:=heq.2 (by rw [List.take_of_length_le (by omega),List.take_of_length_le (by omega)] at htk;exact htk)
   simp only [ev0,ev,evV,List.cons_append,List.nil_append,List.getD_cons_zero,List.getD_cons_succ,List.map_cons,List.map_nil,iOf,bOf,sOf,pOf,slLen,z04,cmpI,arI,Value.ite_bool,z01,z03,z00,z02,decide_eq_true this]
 ·refine ⟨fun g=>?_,fun g=>?_⟩
  ·refine ⟨_,z06,?_,PH.le_refl H⟩
   have:¬(a.kind=b.kind∧a.name=b.name):=fun ⟨h1,h2⟩=>by simp [ev0,ev,evV,List.cons_append,List.nil_append,List.getD_cons_zero,List.getD_cons_succ,List.map_cons,List.map_nil,iOf,bOf,sOf,pOf,slLen,z04,cmpI,arI,Value.ite_bool,z01,z03,z00,z02,z1d,h1,h2] at g
   simp only [ev0,ev,evV,List.cons_append,List.nil_append,List.getD_cons_zero,List.getD_cons_succ,List.map_cons,List.map_nil,iOf,bOf,sOf,pOf,slLen,z04,cmpI,arI,Value.ite_bool,z01,z03,z00,z02]
   congr 2
   exact Z15 fun h=>this ⟨h.1,h.2.1⟩
  ·have h12:a.kind=b.kind∧a.name=b.name:=by
    simp only [ev0,ev,evV,List.cons_append,List.nil_append,List.getD_cons_zero,List.getD_cons_succ,List.map_cons,List.map_nil,iOf,bOf,sOf,pOf,slLen,z04,cmpI,arI,Value.ite_bool,z01,z03,z00,z02,z1d] at g
    by_cases h1:a.kind=b.kind
    ·refine ⟨h1,?_⟩
     by_cases h2:a.name=b.name
     ·exact h2
     ·simp [h1,h2] at g
    ·simp [h1] at g
   refine z07 [.bool (decide (a.names=b.names))] z4k (zfy _ _ _ _ H hx.names hy.names) rfl z05 fun H1 l1=>⟨fun g3=>?_,fun g3=>?_⟩
   ·simp only [ev0,ev,evV,List.cons_append,List.nil_append,List.getD_cons_zero,List.getD_cons_succ,List.map_cons,List.map_nil,iOf,bOf,sOf,pOf,slLen,z04,cmpI,arI,Value.ite_bool,z01,z03,z00,z02,Bool.not_eq_true',zdf] at g3
    refine ⟨_,z06,?_,l1⟩
    simp only [ev0,ev,evV,List.cons_append,List.nil_append,List.getD_cons_zero,List.getD_cons_succ,List.map_cons,List.map_nil,iOf,bOf,sOf,pOf,slLen,z04,cmpI,arI,Value.ite_bool,z01,z03,z00,z02]
    congr 2
    exact Z15 fun h=>g3 h.2.2.1
   ·simp only [ev0,ev,evV,List.cons_append,List.nil_append,List.getD_cons_zero,List.getD_cons_succ,List.map_cons,List.map_nil,iOf,bOf,sOf,pOf,slLen,z04,cmpI,arI,Value.ite_bool,z01,z03,z00,z02,Bool.not_eq_false',zdt] at g3
    refine z07 [.bool (decide (a.const=b.const))] z2l (zj2 a.const b.const _ _ H1 (Dat.Rep.le l1 _ hx.const) (Dat.Rep.le l1 _ hy.const)) rfl z05 fun H2 l2=>⟨_,z06,?_,PH.le_trans l1 l2⟩
    simp only [ev0,ev,evV,List.cons_append,List.nil_append,List.getD_cons_zero,List.getD_cons_succ,List.map_cons,List.map_nil,iOf,bOf,sOf,pOf,slLen,z04,cmpI,arI,Value.ite_bool,z01,z03,z00,z02]
    congr 2
    by_cases h4:a.const=b.const
    ·by_cases h5:a.kids.length=b.kids.length
     ·simp [h12.1,h12.2,g3,h4,h5]
     ·have:¬((a.kids.length:Int)=b.kids.length):=by omega
      simp [h12.1,h12.2,g3,h4,h5,this]
    ·simp [h12.1,h12.2,g3,h4]
end Go.Proofs.YtjhlndokjkeilaaGreatDoor.Vc
namespace Go.Proofs.YtjhlndokjkeilaaGreatDoor.Vc
open Go Go.ChangeShapes Go.WideShapes Go.ChangeAt Go.RowKit
def txtWt (l:List UInt8):Nat:=l.length+1
mutual
def Xp.wt:Xp→Nat
 | .mk _ s ns d l=>s.length+5+sumWt txtWt ns+d.wt+Xps.wt l
def Xps.wt:List Xp→Nat
 | []=>0
 | e::l=>Xp.wt e+Xps.wt l
end
theorem z4u {H:PH} {n:Int} {v:Value}:PV.Rep H (.int .i64 n) v↔v=.int .i64 n∧InI n:=by
 simp only [PV.Rep];exact ⟨fun h=>⟨h.1,inI64.1 h.2⟩,fun h=>⟨h.1,inI64.2 h.2⟩⟩
theorem zeh {H:PH} {s:List UInt8} {v:Value}:PV.Rep H (.str s) v↔v=txt s∧s.length≤maxLen:=by
 simp only [PV.Rep]
abbrev nI (j:Nat):Value:=.int .i64 (j:Int)
theorem csIK {H:PH} {a:Int} {cs:List Value} (h:CsR H a cs):cs=[.int .i64 a]∧InI a:=by
 have h':PV.RepRow H [.int .i64 a] cs:=h
 simp only [PV.RepRow,z4u] at h'
 obtain ⟨v,vs,rfl,⟨rfl,h1⟩,rfl⟩:=h'
 exact ⟨rfl,h1⟩
theorem zrg {H:PH} {b:Bool} {v:Value}:PV.Rep H (.bool b) v↔v=.bool b:=by simp only [PV.Rep]
end Go.Proofs.YtjhlndokjkeilaaGreatDoor.Vc
namespace Go.Proofs.YtjhlndokjkeilaaGreatDoor.Vc
open Go Go.Sort
def AsM (m:List (List UInt8×Value)) (az:List (List UInt8×Nat)):Prop:=∀s,getM m s=(lastA az s).map fun k=>.int .i64 (k:Int)
theorem AsM.put {m:List (List UInt8×Value)} {az:List (List UInt8×Nat)} (h:AsM m az) (s:List UInt8) (k:Nat):AsM (putM m s (.int .i64 (k:Int))) (az++[(s,k)]):=by
 intro q
 rw [znr,zl5]
 by_cases e:q=s
 ·subst e;simp [lastA]
 ·have e2:¬s=q:=fun x=>e x.symm
  simp [lastA,e,e2,h q]
mutual
def Xp.fit:Xp→Prop
 | .mk _ _ ns _ l=>ns.length≤1048576∧l.length≤1048576∧Xps.fit l
def Xps.fit:List Xp→Prop
 | []=>True
 | e::l=>Xp.fit e∧Xps.fit l
end
theorem Xps.fit_iff:∀l:List Xp,Xps.fit l↔∀e∈l,e.fit
 | []=>by simp [Xps.fit]
 | e::l=>by simp only [Xps.fit,Xps.fit_iff l,List.forall_mem_cons]
theorem Xp.fit_iff (e:Xp):e.fit↔e.names.length≤1048576∧e.kids.length≤1048576∧∀k∈e.kids,k.fit:=by
 cases e;simp only [Xp.fit,Xps.fit_iff,Xp.names,Xp.kids]
theorem Row.left {α:Type} [Enc α] {S H S' H':PH} {e:TypeId} {l:List α} {v:Value} (h:Row S H e l v) (hs:PH.le S S') (hg:∀g,ob v=some g→S' g=none∧H' g=H g):Row S' H' e l v:=by
 obtain ⟨xs,h1,h2⟩:=h.own
 exact ⟨fun g hv=>(hg g hv).1,xs,h1.le fun k hk=>(hg k hk).2,PV.RepRow.le hs h2⟩
mutual
def Xp.size:Xp→Nat
 | .mk _ _ _ _ l=>1+Xps.size l
def Xps.size:List Xp→Nat
 | []=>0
 | e::l=>Xp.size e+Xps.size l
end
mutual
def Xp.okF (t:Bool):Xp→Prop
 | .mk k s ns d l=>(if t then z18 (.mk k s ns d l) else z0i (.mk k s ns d l))=true∧Xps.okF t l
def Xps.okF (t:Bool):List Xp→Prop
 | []=>True
 | e::l=>Xp.okF t e∧Xps.okF t l
end
mutual
theorem Xp.chk_ok (t:Bool):∀(e:Xp) (deep seen:Nat),(e.chk t deep seen).2=0→e.okF t∧(e.chk t deep seen).1=seen+e.size
 | .mk k s ns d l,deep,seen=>by
  intro h
  simp only [Xp.chk] at h ⊢
  by_cases h1:seen=4096
  ·rw [if_pos h1] at h;exact absurd h (show ¬(62:Int)=0 by decide)
  rw [if_neg h1] at h ⊢
  by_cases h2:250≤deep
  ·rw [if_pos h2] at h;exact absurd h (show ¬(61:Int)=0 by decide)
  rw [if_neg h2] at h ⊢
  generalize hb:(if t=true then z18 (.mk k s ns d l) else z0i (.mk k s ns d l))=b at h ⊢
  cases b
  ·exact absurd h (show ¬(60:Int)=0 by decide)
  ·simp only [Bool.true_eq_false,if_false] at h ⊢
   obtain ⟨h4,h5⟩:=Xps.chk_ok t l _ _ h
   refine ⟨⟨hb,h4⟩,?_⟩
   rw [h5,Xp.size];omega
theorem Xps.chk_ok (t:Bool):∀(l:List Xp) (deep seen:Nat),(Xps.chk t l deep seen).2=0→Xps.okF t l∧(Xps.chk t l deep seen).1=seen+Xps.size l
 | [],deep,seen=>fun _=>⟨trivial,rfl⟩
 | e::l,deep,seen=>by
  simp only [Xps.chk]
  split
  ·rename_i h1
   intro h;exact absurd h h1
  ·rename_i h1
   intro h
   obtain ⟨h2,h3⟩:=Xp.chk_ok t e deep seen (by simpa using h1)
   obtain ⟨h4,h5⟩:=Xps.chk_ok t l _ _ h
   refine ⟨⟨h2,h4⟩,?_⟩
   rw [h5,h3,Xps.size];omega
end
theorem Xps.size_len:∀l:List Xp,l.length≤Xps.size l
 | []=>Nat.le_refl _
 | e::l=>by
  have:=Xps.size_len l
  have h:1≤e.size:=by cases e;simp only [Xp.size];omega
  simp only [Xps.size,zlc];omega
theorem zy8 {e:Xp} (h:z0i e=true):e.names.length≤6+e.kids.length:=by
 unfold z0i at h
 split at h
 ·simp at h
  rw [h.1.1.2];simp
 ·simp only [zba] at h
  obtain ⟨_,h⟩:=h
  have hem:∀l:List (List UInt8),l.isEmpty=true→l.length=0:=fun l hl=>by rw [List.isEmpty_iff.1 hl];rfl
  repeat' split at h
  all_goals first
   | exact absurd h (by decide)
   | (simp only [zba,zdt] at h;first | omega | (have:=hem e.names (by first | exact h.1.2 | exact h.1.1.2 | exact h.1);omega))
theorem zef {e:Xp} (h:z18 e=true):z0i e=true:=by
 unfold z18 at h
 simp only [zba] at h
 exact h.1
mutual
theorem Xp.okF_bnd (t:Bool):∀e:Xp,e.okF t→e.bnd.length+1≤7 * e.size
 | .mk k s ns d l,h=>by
  simp only [Xp.okF] at h
  have hf:z0i (.mk k s ns d l)=true:=by
   cases t
   ·simpa using h.1
   ·exact zef (by simpa using h.1)
  have h1:=zy8 hf
  simp only [Xp.names,Xp.kids] at h1
  have h2:=Xps.okF_bnd t l h.2
  simp only [Xp.bnd,Xp.size,zla];omega
theorem Xps.okF_bnd (t:Bool):∀l:List Xp,Xps.okF t l→(Xps.bnd l).length+l.length≤7 * Xps.size l
 | [],_=>by simp [Xps.bnd,Xps.size]
 | e::l,h=>by
  simp only [Xps.okF] at h
  have h1:=Xp.okF_bnd t e h.1
  have h2:=Xps.okF_bnd t l h.2
  simp only [Xps.bnd,Xps.size,zla,zlc];omega
end
mutual
theorem Xp.all_len:∀e:Xp,e.all.length≤e.size+e.bnd.length
 | .mk k s ns d l=>by
  have:=Xps.all_len l
  simp only [Xp.all,Xp.size,Xp.bnd,zla]
  split<;>simp only [List.length_nil,zlc]<;>omega
theorem Xps.all_len:∀l:List Xp,(Xps.all l).length≤Xps.size l+(Xps.bnd l).length
 | []=>by simp [Xps.all]
 | e::l=>by
  have h1:=Xp.all_len e
  have h2:=Xps.all_len l
  simp only [Xps.all,Xps.size,Xps.bnd,zla];omega
end
mutual
theorem Xp.fit_of:∀e:Xp,e.size≤4096→e.bnd.length≤28672→e.fit
 | .mk k s ns d l,h1,h2=>by
  simp only [Xp.size] at h1
  simp only [Xp.bnd,zla] at h2
  have:=Xps.size_len l
  exact ⟨by omega,by omega,Xps.fit_of l (by omega) (by omega)⟩
theorem Xps.fit_of:∀l:List Xp,Xps.size l≤4096→(Xps.bnd l).length≤28672→Xps.fit l
 | [],_,_=>trivial
 | e::l,h1,h2=>by
  simp only [Xps.size] at h1
  simp only [Xps.bnd,zla] at h2
  exact ⟨Xp.fit_of e (by omega) (by omega),Xps.fit_of l (by omega) (by omega)⟩
end
theorem z4t {t:Bool} {e:Xp} (h:(e.chk t 0 0).2=0):e.size≤4096:=by
 have h1:=(Xp.chk_ok t e 0 0 h).2
 have h2:=Xp.chk_le t e 0 0 (by omega)
 omega
theorem z3q {t:Bool} {e:Xp} (h:(e.chk t 0 0).2=0):e.fit∧e.bnd.length≤28672∧e.all.length≤32768:=by
 have h1:=z4t h
 have h2:=Xp.okF_bnd t e (Xp.chk_ok t e 0 0 h).1
 have h3:=Xp.all_len e
 exact ⟨Xp.fit_of e h1 (by omega),by omega,by omega⟩
structure FunX where
 params:List (List UInt8)
 frees:List (List UInt8)
 body:Xp
theorem Xp.pv_len (e:Xp):e.pv.length=8:=Enc.len (α:=Xp) e
instance encFun:Enc FunX:=⟨fun f=>slp f.params::slp f.frees::f.body.pv,10,fun f=>by simp [Xp.pv_len]⟩
structure LifX where
 funs:List FunX
 main:Xp
instance encLif:Enc LifX:=⟨fun l=>slp l.funs::l.main.pv,9,fun f=>by simp [Xp.pv_len]⟩
theorem z2i:Tryz.prog.underlying 26=some (.slice 28):=by kernel_rfl
theorem z1j:ElemOk Tryz.prog 28 8 128=true:=by kernel_rfl
def XRet (S:PH) (e:Xp) (x:Ending):Prop:=∃es:List Value,x=.returned (.agg es.toArray)∧e.Rep S es
theorem zym (l:List (List UInt8)) (v:Value) (S:PH) (h:SlR S l v) (hl:l.length≤1048576):Tri Tryz.prog z98 #[v] S fun x S'=>PH.le S S'∧∃v',x=.returned v'∧SlR S' l v':=by
 obtain ⟨b,c,hv⟩:=h.sl
 subst hv
 refine z71 [.slice b l.length c] (by kernel_rfl) (by kernel_rfl) ?_
 refine ⟨fun g=>?_,fun g=>?_⟩
 ·simp only [ev0,ev,evV,List.cons_append,List.nil_append,List.getD_cons_zero,List.getD_cons_succ,List.map_cons,List.map_nil,iOf,bOf,sOf,pOf,slLen,z04,cmpI,arI,Value.ite_bool,z01,z03,z00,z02] at g
  have:b=none:=by
   cases b with
   | none=>rfl
   | some a=>simp [z5h] at g
  subst this
  refine ⟨PH.le_refl S,_,rfl,?_⟩
  have hl0:l=[]:=by
   rcases (SlR.mk_iff.1 h).2 with ⟨_,e⟩ | ⟨a,c',e,_⟩
   ·exact e
   ·cases e
  rw [hl0]
  exact SlR.mk_iff.2 ⟨Nat.zero_le _,.inl ⟨rfl,rfl⟩⟩
 ·refine z1k (α:=List UInt8) (b:=16) uTxts z5d (Held.nil (PH.le_refl S)) z05 fun v1 H1 h1 _ _=>?_
  refine z1o (b:=16) (more:=l) uTxts z5d (by kernel_rfl) (by kernel_rfl) h1 (h.srcS h1.sh) (by simp only [maxLen,List.length_nil];omega) (by simp only [List.length_nil];omega) fun v2 H2 h2 _=>⟨z05,?_⟩
  obtain ⟨S3,s3,l3,h3⟩:=h2.freeze
  exact ⟨PH.le_trans l3 h3.sh,v2,rfl,s3.le h3.sh⟩
def mapS {σ:Type} (f:σ→Xp→Xp×σ):σ→List Xp→List Xp×σ
 | s,[]=>([],s)
 | s,e::l=>((f s e).1::(mapS f (f s e).2 l).1,(mapS f (f s e).2 l).2)
theorem zmq {σ:Type} (f:σ→Xp→Xp×σ):∀(s:σ) (l m:List Xp),mapS f s (l++m)=((mapS f s l).1++(mapS f (mapS f s l).2 m).1,(mapS f (mapS f s l).2 m).2)
 | s,[],m=>rfl
 | s,e::l,m=>by simp only [List.cons_append,mapS,zmq f _ l m]
theorem zu5 {σ:Type} (f:σ→Xp→Xp×σ):∀(s:σ) (l:List Xp),(mapS f s l).1.length=l.length
 | s,[]=>rfl
 | s,e::l=>by simp only [mapS,zlc,zu5 f _ l]
theorem zx4 {σ:Type} (f:σ→Xp→Xp×σ) (JR:σ→List Itm→Prop) (s0:σ) (e:Xp) (cs:List Value) (S K:PH) (Js0:List Itm) {g:FuncId} {first caps:Array Value} (hcb:callB Tryz.prog g=true) (h:Held S K Js0) (h0:JR s0 Js0) (he:e.Rep S cs) (hk:e.kids.length≤1048576)
  (hf:∀(j:Nat) (k:Xp),e.kids[j]?=some k→∀(S' K':PH) (Js:List Itm) (cs:List Value),PH.le S S'→Held S' K' Js→JR (mapS f s0 (e.kids.take j)).2 Js→k.Rep S' cs →
   Tri Tryz.prog g (first++#[.agg cs.toArray]++caps) K' fun x K''=>∃S'' J'',PH.le S' S''∧Held S'' K'' J''∧JR (f (mapS f s0 (e.kids.take j)).2 k).2 J''∧XRet S'' (f (mapS f s0 (e.kids.take j)).2 k).1 x) :
  Tri Tryz.prog zji #[.agg cs.toArray,.func (.func g) first caps] K fun x K'=>∃S' J',PH.le S S'∧Held S' K' J'∧JR (mapS f s0 e.kids).2 J'∧XRet S' (.mk e.kind e.name e.names e.const (mapS f s0 e.kids).1) x:=by
 obtain ⟨nb,db,kb,nc,dc,kc,rfl,hx⟩:=Xp.Rep.open he
 refine zth (exVs e nb db kb nc dc kc++[.func (.func g) first caps]) (by kernel_rfl) (by kernel_rfl) ?_
 refine ⟨fun n vs K'=>∃(k:Nat) (out:Value) (S':PH) (Js:List Itm),vs=[out,.int .i64 k]∧k+n=e.kids.length∧PH.le S S'∧Held S' K' (orow 28 (mapS f s0 (e.kids.take k)).1 out::Js)∧JR (mapS f s0 (e.kids.take k)).2 Js,
  ⟨e.kids.length,0,.slice none 0 0,S,Js0,rfl,by omega,PH.le_refl _,h.empty _,h0⟩,?_⟩
 rintro n vs K1 _ ⟨k,out,S1,Js,rfl,hkn,l1,h1,hj⟩
 refine ⟨fun g1=>?_,fun g1=>?_⟩
 ·simp only [ev0,ev,evV,List.cons_append,List.nil_append,List.getD_cons_zero,List.getD_cons_succ,List.map_cons,List.map_nil,iOf,bOf,sOf,pOf,slLen,z04,cmpI,arI,Value.ite_bool,z01,z03,z00,z02,zdt] at g1
  obtain ⟨a,ha⟩:∃a,e.kids[k]?=some a:=⟨_,zge (show k < e.kids.length by omega)⟩
  obtain ⟨g2,_,ces,g3,g4⟩:=(hx.kids.le l1).get ha
  have htags:=Xp.Rep.tags g3
  have g3':=g3
  obtain ⟨nb',db',kb',nc',dc',kc',rfl,_⟩:=Xp.Rep.open g3'
  refine ⟨fun _=>?_,_,htags,by simp only [ev0,ev,evV,List.cons_append,List.nil_append,List.getD_cons_zero,List.getD_cons_succ,List.map_cons,List.map_nil,iOf,bOf,sOf,pOf,slLen,z04,cmpI,arI,Value.ite_bool,z01,z03,z00,z02];exact z0b h1.sh g4,?_⟩
  ·simp only [Chk.holds,ev0,ev,evV,List.cons_append,List.nil_append,List.getD_cons_zero,List.getD_cons_succ,List.map_cons,List.map_nil,iOf,bOf,sOf,pOf,slLen,z04,cmpI,arI,Value.ite_bool,z01,z03,z00,z02];exact ⟨g2,by omega,by omega⟩
  have hcall:=Held.call (J:=Js) (R:=fun x S' J'=>JR (f (mapS f s0 (e.kids.take k)).2 a).2 J'∧XRet S' (f (mapS f s0 (e.kids.take k)).2 a).1 x) (h1.perm (List.perm_append_comm (l₁:=[_]))) fun K' hK=>(hf k a ha S1 K' Js _ l1 hK hj g3).mono fun x K'' hx=>by
   obtain ⟨S'',J'',q1,q2,q3,q4⟩:=hx
   exact ⟨S'',J'',q1,q2,q3,q4⟩
  refine zr3 (f:=g) (first:=first) (caps:=caps) (by rfl) hcb hcall ?_
  rintro x K2 ⟨S2,J2,l2,h2,hj2,es,rfl,r2⟩
  have ht2:=Xp.Rep.tags r2
  have r2':=r2
  obtain ⟨p1,p2,p3,p4,p5,p6,rfl,_⟩:=Xp.Rep.open r2'
  have hst:mapS f s0 (e.kids.take (k+1))=((mapS f s0 (e.kids.take k)).1++[(f (mapS f s0 (e.kids.take k)).2 a).1],(f (mapS f s0 (e.kids.take k)).2 a).2):=by
   rw [List.take_add_one,ha,zmq];rfl
  have hml:=zu5 f s0 (e.kids.take k)
  rw [List.length_take] at hml
  refine ⟨_,_,rfl,ht2,rfl,z05,?_⟩
  refine z16 (more:=[(f (mapS f s0 (e.kids.take k)).2 a).1]) (b:=128) [.agg (exVs (f (mapS f s0 (e.kids.take k)).2 a).1 p1 p2 p3 p4 p5 p6).toArray] z2i z1j rfl (by decide) (by decide) (h2.perm (List.perm_append_comm (l₂:=[_]))) (by kernel_rfl) (.cons r2 .nil) z05 (fun _=>by kernel_rfl) (fun _=>by kernel_rfl)
   (by simp only [maxLen,zlc,List.length_nil];omega) (by simp only [zlc,List.length_nil];omega) fun u v' S3 K3 l3 h3=>⟨z05,_,z06,n - 1,by omega,k+1,v',S3,J2,?_,by omega,PH.le_trans l1 (PH.le_trans l2 l3),?_,by rw [hst];exact hj2⟩
  ·simp only [ev0,ev,evV,List.cons_append,List.nil_append,List.getD_cons_zero,List.getD_cons_succ,List.map_cons,List.map_nil,iOf,bOf,sOf,pOf,slLen,z04,cmpI,arI,Value.ite_bool,z01,z03,z00,z02]
   rw [w64 (by omega) (by omega)]
   rfl
  ·rw [hst];exact h3
 ·simp only [ev0,ev,evV,List.cons_append,List.nil_append,List.getD_cons_zero,List.getD_cons_succ,List.map_cons,List.map_nil,iOf,bOf,sOf,pOf,slLen,z04,cmpI,arI,Value.ite_bool,z01,z03,z00,z02,zdf] at g1
  have hkk:k=e.kids.length:=by omega
  subst hkk
  rw [List.take_length] at h1 hj
  obtain ⟨S2,s2,l2,h2⟩:=h1.freeze
  refine ⟨S2,Js,PH.le_trans l1 l2,h2,hj,[.int .i64 e.kind,txt e.name,.slice nb e.names.length nc,.int .i64 e.const.kind,.int .i64 e.const.int,txt e.const.text,.slice db e.const.list.length dc,out],rfl,?_⟩
  have l02:=PH.le_trans l1 l2
  exact Xp.Rep_iff.2 ⟨_,_,_,rfl,hx.kind,hx.name,hx.names.le l02,Dat.Rep.le l02 _ hx.const,s2⟩
end Go.Proofs.YtjhlndokjkeilaaGreatDoor.Vc
namespace Go.Proofs.YtjhlndokjkeilaaGreatDoor.Vc
open Go Go.Sort
def CntM (m:List (List UInt8×Value)) (l:List (List UInt8)):Prop:=∀s,(getM m s).getD (.int .i64 0)=.int .i64 ((l.count s:Nat):Int)
theorem CntM.put {m:List (List UInt8×Value)} {l l':List (List UInt8)} (h:CntM m l) {a:List UInt8} (h1:∀s,s≠a→l'.count s=l.count s):CntM (putM m a (.int .i64 ((l'.count a:Nat):Int))) l':=by
 intro s
 rw [znr]
 by_cases e:s=a
 ·subst e;rw [if_pos rfl];rfl
 ·rw [if_neg e,h s,h1 s e]
structure FrH (S:PH) (bb ub:Nat) (mb mo:List (List UInt8×Value)) (H:PH):Prop where
 le:PH.le S H
 b:∃es c,H bb=some (.map es c)∧EntsR es.toList c mb
 u:∃es c,H ub=some (.map es c)∧EntsR es.toList c mo
section
variable {S H H1 H2:PH} {bb ub:Nat} {mb mo mb2 mo2:List (List UInt8×Value)}
theorem FrH.up (h:FrH S bb ub mb mo H) (l:PH.le H H1):FrH S bb ub mb mo H1:=by
 obtain ⟨es,c,h1,h2⟩:=h.b
 obtain ⟨es',c',h3,h4⟩:=h.u
 exact ⟨PH.le_trans h.le l,⟨es,c,l _ _ h1,h2⟩,⟨es',c',l _ _ h3,h4⟩⟩
end
end Go.Proofs.YtjhlndokjkeilaaGreatDoor.Vc
namespace Go.Proofs.YtjhlndokjkeilaaGreatDoor.Vc
open Go Go.Sort
structure NS (S:PH) (wr ib:Nat) (T:TypeId) (uv:Value) (S' H':PH) (nk:Nat) (m:List (List UInt8×Value)):Prop where
 s:PH.le S S'
 i:PH.le S' H'
 w0:S' wr=none
 b0:S' ib=none
 w:H' wr=some (.cells #[uv,.int .i64 (nk:Int)] T (0,0))
 b:∃es clock,H' ib=some (.map es clock)∧EntsR es.toList clock m
end Go.Proofs.YtjhlndokjkeilaaGreatDoor.Vc
namespace Go.Proofs.YtjhlndokjkeilaaGreatDoor.Vc
open Go Go.Sort
theorem Z3n (H:PH):(Xp.mk 0 [] [] dat0 []).Rep H [.int .i64 0,txt [],.slice none 0 0,.int .i64 0,.int .i64 0,txt [],.slice none 0 0,.slice none 0 0]:=by
 have h0:InI 0:=by decide
 refine Xp.Rep_iff.2 ⟨.slice none 0 0,.slice none 0 0,.slice none 0 0,rfl,h0,Nat.zero_le _,?_,?_,?_⟩
 ·exact SlR.mk_iff.2 ⟨Nat.zero_le _,.inl ⟨rfl,rfl⟩⟩
 ·exact Dat.Rep_iff.2 ⟨.slice none 0 0,rfl,h0,h0,Nat.zero_le _,SlR.mk_iff.2 ⟨Nat.zero_le _,.inl ⟨rfl,rfl⟩⟩⟩
 ·exact SlR.mk_iff.2 ⟨Nat.zero_le _,.inl ⟨rfl,rfl⟩⟩
end Go.Proofs.YtjhlndokjkeilaaGreatDoor.Vc
namespace Go.Proofs.YtjhlndokjkeilaaGreatDoor.Vc
open Go Go.Sort
theorem Z27 (m:List (List UInt8×Value)) (a:List UInt8) (v:Value):∀x,x∈(putM m a v).map (·.1)↔x∈m.map (·.1)∨x=a:=by
 intro x
 unfold putM
 have hmem:(getM m a).isSome=true→a∈m.map (·.1):=fun h=>by
  obtain ⟨v,hv⟩:=Option.isSome_iff_exists.1 h
  unfold getM at hv
  obtain ⟨y,hy,_⟩:=Option.map_eq_some_iff.1 hv
  have h1:=List.mem_of_find?_eq_some hy
  have h2:=List.find?_some hy
  exact List.mem_map.2 ⟨y,h1,by simpa using h2⟩
 split
 ·rename_i hs
  have:(m.map fun x=>if x.1=a then (a,v) else x).map (·.1)=m.map (·.1):=by
   rw [List.map_map]
   refine List.map_congr_left fun y _=>?_
   show (if y.1=a then (a,v) else y).1=y.1
   split
   ·rename_i h;exact h.symm
   ·rfl
  rw [this]
  constructor
  ·exact .inl
  ·rintro (h | rfl)
   ·exact h
   ·exact hmem hs
 ·rw [List.map_append,List.mem_append]
  simp
theorem zpl:∀(l:List (List UInt8)) (m:List (List UInt8×Value)) (x:List UInt8),x∈(putsM m l).map (·.1)↔x∈m.map (·.1)∨x∈l
 | [],m,x=>by simp [putsM]
 | a::l,m,x=>by
  show x∈(putsM (putM m a (.int .i64 1)) l).map (·.1)↔_
  rw [zpl l,Z27,List.mem_cons,or_assoc]
def freeS (l:List (List UInt8)):List (List UInt8):=((putsM [] l).map (·.1)).mergeSort leB
theorem mem_freeS {l:List (List UInt8)} {s:List UInt8}:s∈freeS l↔s∈l:=by
 unfold freeS
 rw [(List.mergeSort_perm _ _).mem_iff,zpl]
 simp
mutual
theorem Xp.fr_len:∀(e:Xp) (bl:List (List UInt8)),(e.fr bl).length≤e.size
 | .mk k s ns d l,bl=>by
  have:=Xps.fr_len l bl (bl++ns) k
  simp only [Xp.fr,Xp.size,zla]
  split<;>simp only [List.length_nil,zlc]<;>omega
theorem Xps.fr_len:∀(l:List Xp) (bl inner:List (List UInt8)) (k:Int),(Xps.fr bl inner k l).length≤Xps.size l
 | [],_,_,_=>by simp [Xps.fr]
 | e::l,bl,inner,k=>by
  have h1:=Xp.fr_len e (if inB k l then inner else bl)
  have h2:=Xps.fr_len l bl inner k
  simp only [Xps.fr,Xps.size,zla];omega
end
theorem Xps.okF_iff {t:Bool}:∀l:List Xp,Xps.okF t l↔∀e∈l,e.okF t
 | []=>by simp [Xps.okF]
 | e::l=>by simp only [Xps.okF,Xps.okF_iff l,List.mem_cons,forall_eq_or_imp]
theorem Xp.okF_form {t:Bool} {e:Xp} (h:e.okF t):z0i e=true∧∀k∈e.kids,k.okF t:=by
 cases e with
 | mk k s ns d l=>
  simp only [Xp.okF,Xps.okF_iff] at h
  refine ⟨?_,h.2⟩
  cases t with
  | true=>exact zef h.1
  | false=>exact h.1
theorem ztb {e:Xp} (h:z0i e=true) (hk:e.kind=0):e.kids=[]:=by
 unfold z0i at h
 simp [hk] at h;grind
theorem wrap1 {n m:Nat} (hn:n≤9223372036854775807) (hm:m≤9223372036854775807):((m:Int)=IntKind.i64.wrap ((n:Int)+1))↔m=n+1:=by
 by_cases h:n=9223372036854775807
 ·subst h
  have:IntKind.i64.wrap (((9223372036854775807:Nat):Int)+1)=-9223372036854775808:=by decide +kernel
  rw [this];omega
 ·rw [w64 (by omega) (by omega)];omega
theorem zsd (l:List (List UInt8)) (v:Value) (H:PH) (hl:SlR H l v):Gives Tryz.prog zh5 [v] H (.bool (z1n l)):=by
 obtain ⟨b,c,rfl⟩:=hl.sl
 have hm:=hl.max
 simp only [maxLen] at hm
 have hcap:=hl.capLe
 refine zdh [.slice b l.length c] (by kernel_rfl) (by kernel_rfl) ?_
 refine ⟨fun n vs H'=>∃k:Nat,vs=[.bool false,.int .i64 k]∧k+n=l.length∧z1n l=z2d (l.take k) (l.drop k)∧PH.le H H',⟨l.length,0,rfl,by omega,by simp [z1n],PH.le_refl H⟩,?_⟩
 rintro n vs H1 _ ⟨k,rfl,hkn,hn,hle⟩
 refine ⟨fun h=>?_,fun h=>?_⟩
 ·simp only [ev0,ev,evV,List.cons_append,List.nil_append,List.getD_cons_zero,List.getD_cons_succ,List.map_cons,List.map_nil,iOf,bOf,sOf,pOf,slLen,z04,cmpI,arI,Value.ite_bool,z01,z03,z00,z02,zdt] at h
  obtain ⟨a,ha⟩:∃a,l[k]?=some a:=⟨_,zge (show k < l.length by omega)⟩
  obtain ⟨g1,_,ces,g2,g3⟩:=(hl.le hle).get ha
  obtain ⟨rfl,hla⟩:=z5r g2
  rw [z4v ha] at hn
  refine ⟨fun vs H'=>vs=[.bool (!z0p a || (l.take k).contains a)]∧PH.le H H',?_,?_⟩
  ·rintro vs H' _ ⟨rfl,h1⟩
   refine ⟨fun h2=>?_,fun h2=>?_⟩
   ·simp only [ev0,ev,evV,List.cons_append,List.nil_append,List.getD_cons_zero,List.getD_cons_succ,List.map_cons,List.map_nil,iOf,bOf,sOf,pOf,slLen,z04,cmpI,arI,Value.ite_bool,z01,z03,z00,z02,Bool.or_eq_true,Bool.not_eq_true'] at h2
    rw [hn,zhg h2]
    exact ⟨rfl,h1⟩
   ·simp only [ev0,ev,evV,List.cons_append,List.nil_append,List.getD_cons_zero,List.getD_cons_succ,List.map_cons,List.map_nil,iOf,bOf,sOf,pOf,slLen,z04,cmpI,arI,Value.ite_bool,z01,z03,z00,z02,Bool.or_eq_false_iff,Bool.not_eq_false'] at h2
    refine ⟨_,z06,n - 1,by omega,k+1,?_,by omega,?_,h1⟩
    ·simp only [ev0,ev,evV,List.cons_append,List.nil_append,List.getD_cons_zero,List.getD_cons_succ,List.map_cons,List.map_nil,iOf,bOf,sOf,pOf,slLen,z04,cmpI,arI,Value.ite_bool,z01,z03,z00,z02];rw [w64 (by omega) (by omega)];rfl
    ·rw [hn]
     simp only [z2d,h2.1,h2.2,Bool.not_false,Bool.true_and]
     rw [List.take_add_one,ha];rfl
  ·refine ⟨fun _=>?_,[txt a],rfl,by simp only [ev0,ev,evV,List.cons_append,List.nil_append,List.getD_cons_zero,List.getD_cons_succ,List.map_cons,List.map_nil,iOf,bOf,sOf,pOf,slLen,z04,cmpI,arI,Value.ite_bool,z01,z03,z00,z02];exact g3,?_⟩
   ·simp only [Chk.holds,ev0,ev,evV,List.cons_append,List.nil_append,List.getD_cons_zero,List.getD_cons_succ,List.map_cons,List.map_nil,iOf,bOf,sOf,pOf,slLen,z04,cmpI,arI,Value.ite_bool,z01,z03,z00,z02];exact ⟨g1,by omega,by omega⟩
   refine z07 [.bool (z0p a)] z2k (zat a hla H1) rfl z05 fun H2 h2=>⟨fun _=>?_,fun h3=>?_,fun h3=>?_⟩
   ·simp only [Chk.holds,ev0,ev,evV,List.cons_append,List.nil_append,List.getD_cons_zero,List.getD_cons_succ,List.map_cons,List.map_nil,iOf,bOf,sOf,pOf,slLen,z04,cmpI,arI,Value.ite_bool,z01,z03,z00,z02,slCap];omega
   ·simp only [ev0,ev,evV,List.cons_append,List.nil_append,List.getD_cons_zero,List.getD_cons_succ,List.map_cons,List.map_nil,iOf,bOf,sOf,pOf,slLen,z04,cmpI,arI,Value.ite_bool,z01,z03,z00,z02,Bool.not_eq_true'] at h3
    exact ⟨_,z06,by simp only [ev0,ev,evV,List.cons_append,List.nil_append,List.getD_cons_zero,List.getD_cons_succ,List.map_cons,List.map_nil,iOf,bOf,sOf,pOf,slLen,z04,cmpI,arI,Value.ite_bool,z01,z03,z00,z02,h3];rfl,PH.le_trans hle h2⟩
   ·simp only [ev0,ev,evV,List.cons_append,List.nil_append,List.getD_cons_zero,List.getD_cons_succ,List.map_cons,List.map_nil,iOf,bOf,sOf,pOf,slLen,z04,cmpI,arI,Value.ite_bool,z01,z03,z00,z02,Bool.not_eq_false'] at h3
    have hcut:=(hl.le (PH.le_trans hle h2)).cut (a:=0) (b:=k) (by omega) (by omega)
    rw [List.drop_zero] at hcut
    refine ⟨[txt a],rfl,by simp only [ev0,ev,evV,List.cons_append,List.nil_append,List.getD_cons_zero,List.getD_cons_succ,List.map_cons,List.map_nil,iOf,bOf,sOf,pOf,slLen,z04,cmpI,arI,Value.ite_bool,z01,z03,z00,z02];exact z0b h2 g3,?_⟩
    refine z07 [.bool ((l.take k).contains a)] z4b ?_ rfl z05 fun H4 h4=>⟨_,z06,by simp only [ev0,ev,evV,List.cons_append,List.nil_append,List.getD_cons_zero,List.getD_cons_succ,List.map_cons,List.map_nil,iOf,bOf,sOf,pOf,slLen,z04,cmpI,arI,Value.ite_bool,z01,z03,z00,z02,h3];rfl,PH.le_trans hle (PH.le_trans h2 h4)⟩
    have:=zko (l.take k) a _ H2 hcut
    simp only [ev0,ev,evV,List.cons_append,List.nil_append,List.getD_cons_zero,List.getD_cons_succ,List.map_cons,List.map_nil,iOf,bOf,sOf,pOf,slLen,z04,cmpI,arI,Value.ite_bool,z01,z03,z00,z02]
    exact this
 ·simp only [ev0,ev,evV,List.cons_append,List.nil_append,List.getD_cons_zero,List.getD_cons_succ,List.map_cons,List.map_nil,iOf,bOf,sOf,pOf,slLen,z04,cmpI,arI,Value.ite_bool,z01,z03,z00,z02,zdf] at h
  rw [List.drop_eq_nil_of_le (by omega)] at hn
  rw [hn]
  exact ⟨rfl,hle⟩
theorem zun (d:Dat) (cs:List Value) (H:PH) (hd:d.Rep H cs):Gives Tryz.prog zgi [.agg cs.toArray] H (.bool (z1r d)):=by
 have hc:=zk5 d cs H hd
 obtain ⟨sv,rfl,hk,hn,ht,hs⟩:=Dat.Rep_iff.1 hd
 obtain ⟨b,c,rfl⟩:=hs.sl
 refine zes [.int .i64 d.kind,.int .i64 d.int,txt d.text,.slice b d.list.length c] (by kernel_rfl) (by kernel_rfl) ?_
 refine z07 [.int .i64 (d.chk 0 0).2] z6o hc rfl z05 fun H1 h1=>⟨fun g=>⟨?_,h1⟩,fun g=>⟨?_,h1⟩⟩
 ·simp only [ev0,ev,evV,List.cons_append,List.nil_append,List.getD_cons_zero,List.getD_cons_succ,List.map_cons,List.map_nil,iOf,bOf,sOf,pOf,slLen,z04,cmpI,arI,Value.ite_bool,z01,z03,z00,z02,zdt] at g
  have:z1r d=false:=by unfold z1r;simp [g]
  simp only [ev0,ev,evV,List.cons_append,List.nil_append,List.getD_cons_zero,List.getD_cons_succ,List.map_cons,List.map_nil,iOf,bOf,sOf,pOf,slLen,z04,cmpI,arI,Value.ite_bool,z01,z03,z00,z02,this]
 ·simp only [ev0,ev,evV,List.cons_append,List.nil_append,List.getD_cons_zero,List.getD_cons_succ,List.map_cons,List.map_nil,iOf,bOf,sOf,pOf,slLen,z04,cmpI,arI,Value.ite_bool,z01,z03,z00,z02,zdf,ne_eq,Decidable.not_not] at g
  simp only [ev0,ev,evV,List.cons_append,List.nil_append,List.getD_cons_zero,List.getD_cons_succ,List.map_cons,List.map_nil,iOf,bOf,sOf,pOf,slLen,z04,cmpI,arI,Value.ite_bool,z01,z03,z00,z02]
  congr 2
  unfold z1r
  rw [←z2n]
  simp only [g,decide_true,Bool.true_and]
def ar1a:List (List UInt8):=ar1.take 10
def ar1b:List (List UInt8):=ar1.drop 10
def ar2a:List (List UInt8):=ar2.take 11
def ar2b:List (List UInt8):=ar2.drop 11
theorem zd9 (p:List UInt8):ar1.contains p=(ar1a.contains p || ar1b.contains p):=by
 conv=>lhs;rw [show ar1=ar1a++ar1b from (List.take_append_drop 10 ar1).symm]
 rw [List.contains_append]
theorem zm2 (p:List UInt8):ar2.contains p=(ar2a.contains p || ar2b.contains p):=by
 conv=>lhs;rw [show ar2=ar2a++ar2b from (List.take_append_drop 11 ar2).symm]
 rw [List.contains_append]
theorem zt8 (p:List UInt8) (H:PH):Gives Tryz.prog zh1 [txt p] H (.int .i64 (z0y p)):=by
 refine zdx [txt p] (by kernel_rfl) (by kernel_rfl) ?_
 refine ⟨fun vs H'=>vs=[.bool (ar0.contains p)]∧H'=H,?_,?_⟩
 ·rintro vs H' _ ⟨rfl,rfl⟩
  refine ⟨fun h=>?_,fun h=>?_⟩
  ·simp only [ev0,ev,evV,List.cons_append,List.nil_append,List.getD_cons_zero,List.getD_cons_succ,List.map_cons,List.map_nil,iOf,bOf,sOf,pOf,slLen,z04,cmpI,arI,Value.ite_bool,z01,z03,z00,z02] at h
   exact ⟨by simp only [ev0,ev,evV,List.cons_append,List.nil_append,List.getD_cons_zero,List.getD_cons_succ,List.map_cons,List.map_nil,iOf,bOf,sOf,pOf,slLen,z04,cmpI,arI,Value.ite_bool,z01,z03,z00,z02,z0y,h];rfl,PH.le_refl _⟩
  simp only [ev0,ev,evV,List.cons_append,List.nil_append,List.getD_cons_zero,List.getD_cons_succ,List.map_cons,List.map_nil,iOf,bOf,sOf,pOf,slLen,z04,cmpI,arI,Value.ite_bool,z01,z03,z00,z02] at h
  refine ⟨fun vs H2=>vs=[.bool (ar1a.contains p)]∧H2=H',?_,?_⟩
  ·rintro vs H' _ ⟨rfl,rfl⟩
   refine ⟨fun h2=>?_,fun h2=>?_⟩
   ·simp only [ev0,ev,evV,List.cons_append,List.nil_append,List.getD_cons_zero,List.getD_cons_succ,List.map_cons,List.map_nil,iOf,bOf,sOf,pOf,slLen,z04,cmpI,arI,Value.ite_bool,z01,z03,z00,z02] at h2
    exact ⟨by simp only [ev0,ev,evV,List.cons_append,List.nil_append,List.getD_cons_zero,List.getD_cons_succ,List.map_cons,List.map_nil,iOf,bOf,sOf,pOf,slLen,z04,cmpI,arI,Value.ite_bool,z01,z03,z00,z02,z0y,h,zd9,h2];rfl,PH.le_refl _⟩
   simp only [ev0,ev,evV,List.cons_append,List.nil_append,List.getD_cons_zero,List.getD_cons_succ,List.map_cons,List.map_nil,iOf,bOf,sOf,pOf,slLen,z04,cmpI,arI,Value.ite_bool,z01,z03,z00,z02] at h2
   refine ⟨fun vs H2=>vs=[.bool (ar1b.contains p)]∧H2=H',?_,?_⟩
   ·rintro vs H' _ ⟨rfl,rfl⟩
    refine ⟨fun h3=>?_,fun h3=>?_⟩
    ·simp only [ev0,ev,evV,List.cons_append,List.nil_append,List.getD_cons_zero,List.getD_cons_succ,List.map_cons,List.map_nil,iOf,bOf,sOf,pOf,slLen,z04,cmpI,arI,Value.ite_bool,z01,z03,z00,z02] at h3
     exact ⟨by simp only [ev0,ev,evV,List.cons_append,List.nil_append,List.getD_cons_zero,List.getD_cons_succ,List.map_cons,List.map_nil,iOf,bOf,sOf,pOf,slLen,z04,cmpI,arI,Value.ite_bool,z01,z03,z00,z02,z0y,h,zd9,h2,h3];rfl,PH.le_refl _⟩
    simp only [ev0,ev,evV,List.cons_append,List.nil_append,List.getD_cons_zero,List.getD_cons_succ,List.map_cons,List.map_nil,iOf,bOf,sOf,pOf,slLen,z04,cmpI,arI,Value.ite_bool,z01,z03,z00,z02] at h3
    refine ⟨fun vs H3=>vs=[.bool (ar2a.contains p)]∧H3=H',?_,?_⟩
    ·rintro vs H' _ ⟨rfl,rfl⟩
     refine ⟨fun h4=>?_,fun h4=>?_⟩
     ·simp only [ev0,ev,evV,List.cons_append,List.nil_append,List.getD_cons_zero,List.getD_cons_succ,List.map_cons,List.map_nil,iOf,bOf,sOf,pOf,slLen,z04,cmpI,arI,Value.ite_bool,z01,z03,z00,z02] at h4
      exact ⟨by simp only [ev0,ev,evV,List.cons_append,List.nil_append,List.getD_cons_zero,List.getD_cons_succ,List.map_cons,List.map_nil,iOf,bOf,sOf,pOf,slLen,z04,cmpI,arI,Value.ite_bool,z01,z03,z00,z02,z0y,h,zd9,h2,h3,zm2,h4];rfl,PH.le_refl _⟩
     simp only [ev0,ev,evV,List.cons_append,List.nil_append,List.getD_cons_zero,List.getD_cons_succ,List.map_cons,List.map_nil,iOf,bOf,sOf,pOf,slLen,z04,cmpI,arI,Value.ite_bool,z01,z03,z00,z02] at h4
     refine ⟨fun vs H3=>vs=[.bool (ar2b.contains p)]∧H3=H',?_,?_⟩
     ·rintro vs H' _ ⟨rfl,rfl⟩
      refine ⟨fun h5=>?_,fun h5=>?_⟩
      ·simp only [ev0,ev,evV,List.cons_append,List.nil_append,List.getD_cons_zero,List.getD_cons_succ,List.map_cons,List.map_nil,iOf,bOf,sOf,pOf,slLen,z04,cmpI,arI,Value.ite_bool,z01,z03,z00,z02] at h5
       exact ⟨by simp only [ev0,ev,evV,List.cons_append,List.nil_append,List.getD_cons_zero,List.getD_cons_succ,List.map_cons,List.map_nil,iOf,bOf,sOf,pOf,slLen,z04,cmpI,arI,Value.ite_bool,z01,z03,z00,z02,z0y,h,zd9,h2,h3,zm2,h4,h5];rfl,PH.le_refl _⟩
      simp only [ev0,ev,evV,List.cons_append,List.nil_append,List.getD_cons_zero,List.getD_cons_succ,List.map_cons,List.map_nil,iOf,bOf,sOf,pOf,slLen,z04,cmpI,arI,Value.ite_bool,z01,z03,z00,z02] at h5
      refine ⟨fun h6=>?_,fun h6=>?_⟩
      ·simp only [ev0,ev,evV,List.cons_append,List.nil_append,List.getD_cons_zero,List.getD_cons_succ,List.map_cons,List.map_nil,iOf,bOf,sOf,pOf,slLen,z04,cmpI,arI,Value.ite_bool,z01,z03,z00,z02,z09] at h6
       have:ar3.contains p=true:=by simp [ar3] at h6 ⊢;exact h6
       exact ⟨by simp only [ev0,ev,evV,List.cons_append,List.nil_append,List.getD_cons_zero,List.getD_cons_succ,List.map_cons,List.map_nil,iOf,bOf,sOf,pOf,slLen,z04,cmpI,arI,Value.ite_bool,z01,z03,z00,z02,z0y,h,zd9,h2,h3,zm2,h4,h5,this];rfl,PH.le_refl _⟩
      ·simp only [ev0,ev,evV,List.cons_append,List.nil_append,List.getD_cons_zero,List.getD_cons_succ,List.map_cons,List.map_nil,iOf,bOf,sOf,pOf,slLen,z04,cmpI,arI,Value.ite_bool,z01,z03,z00,z02,z09] at h6
       have:ar3.contains p=false:=by simp [ar3] at h6 ⊢;exact h6
       exact ⟨by simp only [ev0,ev,evV,List.cons_append,List.nil_append,List.getD_cons_zero,List.getD_cons_succ,List.map_cons,List.map_nil,iOf,bOf,sOf,pOf,slLen,z04,cmpI,arI,Value.ite_bool,z01,z03,z00,z02,z0y,h,zd9,h2,h3,zm2,h4,h5,this];rfl,PH.le_refl _⟩
     ·repeat' refine And.intro (fun h=>?_) (fun h=>?_)
      all_goals
       refine ⟨_,z06,?_,rfl⟩
       simp only [ev0,ev,evV,List.cons_append,List.nil_append,List.getD_cons_zero,List.getD_cons_succ,List.map_cons,List.map_nil,iOf,bOf,sOf,pOf,slLen,z04,cmpI,arI,Value.ite_bool,z01,z03,z00,z02,z09,zdt,zdf] at *
       simp_all [ar2b,ar2]
    ·repeat' refine And.intro (fun h=>?_) (fun h=>?_)
     all_goals
      refine ⟨_,z06,?_,rfl⟩
      simp only [ev0,ev,evV,List.cons_append,List.nil_append,List.getD_cons_zero,List.getD_cons_succ,List.map_cons,List.map_nil,iOf,bOf,sOf,pOf,slLen,z04,cmpI,arI,Value.ite_bool,z01,z03,z00,z02,z09,zdt,zdf] at *
      simp_all [ar2a,ar2]
   ·repeat' refine And.intro (fun h=>?_) (fun h=>?_)
    all_goals
     refine ⟨_,z06,?_,rfl⟩
     simp only [ev0,ev,evV,List.cons_append,List.nil_append,List.getD_cons_zero,List.getD_cons_succ,List.map_cons,List.map_nil,iOf,bOf,sOf,pOf,slLen,z04,cmpI,arI,Value.ite_bool,z01,z03,z00,z02,z09,zdt,zdf] at *
     simp_all [ar1b,ar1]
  ·repeat' refine And.intro (fun h=>?_) (fun h=>?_)
   all_goals
    refine ⟨_,z06,?_,rfl⟩
    simp only [ev0,ev,evV,List.cons_append,List.nil_append,List.getD_cons_zero,List.getD_cons_succ,List.map_cons,List.map_nil,iOf,bOf,sOf,pOf,slLen,z04,cmpI,arI,Value.ite_bool,z01,z03,z00,z02,z09,zdt,zdf] at *
    simp_all [ar1a,ar1]
 ·repeat' refine And.intro (fun h=>?_) (fun h=>?_)
  all_goals
   refine ⟨_,z06,?_,rfl⟩
   simp only [ev0,ev,evV,List.cons_append,List.nil_append,List.getD_cons_zero,List.getD_cons_succ,List.map_cons,List.map_nil,iOf,bOf,sOf,pOf,slLen,z04,cmpI,arI,Value.ite_bool,z01,z03,z00,z02,z09,zdt,zdf] at *
   simp_all [ar0]
theorem zur (e:Xp) (cs:List Value) (H:PH) (he:e.Rep H cs):Gives Tryz.prog zhe [.agg cs.toArray] H (.bool (z0i e)):=by
 obtain ⟨nb,db,kb,nc,dc,kc,rfl,hx⟩:=Xp.Rep.open he
 have hn:=hx.names.max
 have hk:=hx.kids.max
 simp only [maxLen] at hn hk
 have hem:∀{α:Type} (l:List α),l.isEmpty=decide ((l.length:Int)=0):=fun l=>(z2n l).symm
 have htx:e.name.isEmpty=decide (e.name=[]):=by cases e.name<;>simp
 refine zf3 (exVs e nb db kb nc dc kc) (by kernel_rfl) (by kernel_rfl) ?_
 refine ⟨fun k0=>?_,fun k0=>?_⟩
 ·simp only [ev0,ev,evV,List.cons_append,List.nil_append,List.getD_cons_zero,List.getD_cons_succ,List.map_cons,List.map_nil,iOf,bOf,sOf,pOf,slLen,z04,cmpI,arI,Value.ite_bool,z01,z03,z00,z02,zdt] at k0
  have hE:z0i e=(e.name.isEmpty && e.names.isEmpty && e.kids.isEmpty && z1r e.const):=by unfold z0i;rw [if_pos k0]
  rw [hE]
  refine ⟨fun vs H'=>vs=[.bool (e.name.isEmpty && e.names.isEmpty && e.kids.isEmpty && z1r e.const)]∧PH.le H H',?_,?_⟩
  ·rintro vs H1 _ ⟨rfl,l1⟩;exact ⟨rfl,l1⟩
  refine ⟨fun g=>?_,fun g=>?_⟩
  ·have g':(e.name.isEmpty && e.names.isEmpty && e.kids.isEmpty)=true:=by
    simp only [ev0,ev,evV,List.cons_append,List.nil_append,List.getD_cons_zero,List.getD_cons_succ,List.map_cons,List.map_nil,iOf,bOf,sOf,pOf,slLen,z04,cmpI,arI,Value.ite_bool,z01,z03,z00,z02,z09] at g
    rw [htx,hem,hem];exact g
   refine z07 [.bool (z1r e.const)] zf5 (zun e.const _ H hx.const) rfl z05 fun H1 l1=>⟨_,z06,?_,l1⟩
   simp only [ev0,ev,evV,List.cons_append,List.nil_append,List.getD_cons_zero,List.getD_cons_succ,List.map_cons,List.map_nil,iOf,bOf,sOf,pOf,slLen,z04,cmpI,arI,Value.ite_bool,z01,z03,z00,z02,g',Bool.true_and]
  ·have g':(e.name.isEmpty && e.names.isEmpty && e.kids.isEmpty)=false:=by
    simp only [ev0,ev,evV,List.cons_append,List.nil_append,List.getD_cons_zero,List.getD_cons_succ,List.map_cons,List.map_nil,iOf,bOf,sOf,pOf,slLen,z04,cmpI,arI,Value.ite_bool,z01,z03,z00,z02,z09] at g
    rw [htx,hem,hem];exact g
   refine ⟨_,z06,?_,PH.le_refl H⟩
   simp only [ev0,ev,evV,List.cons_append,List.nil_append,List.getD_cons_zero,List.getD_cons_succ,List.map_cons,List.map_nil,iOf,bOf,sOf,pOf,slLen,z04,cmpI,arI,Value.ite_bool,z01,z03,z00,z02,g',Bool.false_and]
 simp only [ev0,ev,evV,List.cons_append,List.nil_append,List.getD_cons_zero,List.getD_cons_succ,List.map_cons,List.map_nil,iOf,bOf,sOf,pOf,slLen,z04,cmpI,arI,Value.ite_bool,z01,z03,z00,z02,zdf] at k0
 refine ⟨fun vs H'=>vs=[.bool (!(z36 e.const && z1n e.names))]∧PH.le H H',?_,?_⟩
 rotate_left
 ·refine z07 [.bool (decide (e.const=.mk 0 0 [] []))] z2l (zj2 e.const (.mk 0 0 [] []) _ _ H hx.const (zt4 H)) rfl z05 fun H1 l1=>⟨fun g=>?_,fun g=>?_⟩
  ·simp only [ev0,ev,evV,List.cons_append,List.nil_append,List.getD_cons_zero,List.getD_cons_succ,List.map_cons,List.map_nil,iOf,bOf,sOf,pOf,slLen,z04,cmpI,arI,Value.ite_bool,z01,z03,z00,z02,zj3,Bool.not_eq_true'] at g
   refine ⟨_,z06,?_,l1⟩
   simp only [ev0,ev,evV,List.cons_append,List.nil_append,List.getD_cons_zero,List.getD_cons_succ,List.map_cons,List.map_nil,iOf,bOf,sOf,pOf,slLen,z04,cmpI,arI,Value.ite_bool,z01,z03,z00,z02,g];rfl
  ·simp only [ev0,ev,evV,List.cons_append,List.nil_append,List.getD_cons_zero,List.getD_cons_succ,List.map_cons,List.map_nil,iOf,bOf,sOf,pOf,slLen,z04,cmpI,arI,Value.ite_bool,z01,z03,z00,z02,zj3,Bool.not_eq_false'] at g
   refine z07 [.bool (z1n e.names)] zf0 (zsd e.names _ H1 (hx.names.le l1)) rfl z05 fun H2 l2=>⟨_,z06,?_,PH.le_trans l1 l2⟩
   simp only [ev0,ev,evV,List.cons_append,List.nil_append,List.getD_cons_zero,List.getD_cons_succ,List.map_cons,List.map_nil,iOf,bOf,sOf,pOf,slLen,z04,cmpI,arI,Value.ite_bool,z01,z03,z00,z02,g,Bool.true_and]
 rintro vs H1 _ ⟨rfl,l1⟩
 refine ⟨fun g=>?_,fun g=>?_⟩
 ·simp only [ev0,ev,evV,List.cons_append,List.nil_append,List.getD_cons_zero,List.getD_cons_succ,List.map_cons,List.map_nil,iOf,bOf,sOf,pOf,slLen,z04,cmpI,arI,Value.ite_bool,z01,z03,z00,z02,Bool.not_eq_true'] at g
  refine ⟨?_,l1⟩
  have:z0i e=false:=by unfold z0i;rw [if_neg k0];simp only [g,Bool.false_and]
  simp only [ev0,ev,evV,List.cons_append,List.nil_append,List.getD_cons_zero,List.getD_cons_succ,List.map_cons,List.map_nil,iOf,bOf,sOf,pOf,slLen,z04,cmpI,arI,Value.ite_bool,z01,z03,z00,z02,this]
 simp only [ev0,ev,evV,List.cons_append,List.nil_append,List.getD_cons_zero,List.getD_cons_succ,List.map_cons,List.map_nil,iOf,bOf,sOf,pOf,slLen,z04,cmpI,arI,Value.ite_bool,z01,z03,z00,z02,Bool.not_eq_false'] at g
 refine z07 [.bool (z0p e.name)] z2k (zat e.name hx.name H1) rfl z05 fun H2 l2=>?_
 have l02:=PH.le_trans l1 l2
 have hg:∀r:Bool,z0i e=(z36 e.const && z1n e.names && r)→z0i e=r:=fun r h=>by rw [h,g];rfl
 refine ⟨fun k1=>⟨?_,l02⟩,fun k1=>?_⟩
 ·simp only [ev0,ev,evV,List.cons_append,List.nil_append,List.getD_cons_zero,List.getD_cons_succ,List.map_cons,List.map_nil,iOf,bOf,sOf,pOf,slLen,z04,cmpI,arI,Value.ite_bool,z01,z03,z00,z02,zdt] at k1
  have hE:=hg (z0p e.name && e.names.isEmpty && decide (e.kids.length=0)) (by unfold z0i;simp [k1])
  rw [hE,hem];simp only [ev0,ev,evV,List.cons_append,List.nil_append,List.getD_cons_zero,List.getD_cons_succ,List.map_cons,List.map_nil,iOf,bOf,sOf,pOf,slLen,z04,cmpI,arI,Value.ite_bool,z01,z03,z00,z02];congr 3;exact decide_eq_decide.2 (by omega)
 simp only [ev0,ev,evV,List.cons_append,List.nil_append,List.getD_cons_zero,List.getD_cons_succ,List.map_cons,List.map_nil,iOf,bOf,sOf,pOf,slLen,z04,cmpI,arI,Value.ite_bool,z01,z03,z00,z02,zdf] at k1
 refine ⟨fun k2=>⟨?_,l02⟩,fun k2=>?_⟩
 ·simp only [ev0,ev,evV,List.cons_append,List.nil_append,List.getD_cons_zero,List.getD_cons_succ,List.map_cons,List.map_nil,iOf,bOf,sOf,pOf,slLen,z04,cmpI,arI,Value.ite_bool,z01,z03,z00,z02,zdt] at k2
  have hE:=hg (z0p e.name && e.names.isEmpty && decide (e.kids.length=1)) (by unfold z0i;simp [k2])
  rw [hE,hem];simp only [ev0,ev,evV,List.cons_append,List.nil_append,List.getD_cons_zero,List.getD_cons_succ,List.map_cons,List.map_nil,iOf,bOf,sOf,pOf,slLen,z04,cmpI,arI,Value.ite_bool,z01,z03,z00,z02];congr 3;exact decide_eq_decide.2 (by omega)
 simp only [ev0,ev,evV,List.cons_append,List.nil_append,List.getD_cons_zero,List.getD_cons_succ,List.map_cons,List.map_nil,iOf,bOf,sOf,pOf,slLen,z04,cmpI,arI,Value.ite_bool,z01,z03,z00,z02,zdf] at k2
 refine ⟨fun k3=>⟨?_,l02⟩,fun k3=>?_⟩
 ·simp only [ev0,ev,evV,List.cons_append,List.nil_append,List.getD_cons_zero,List.getD_cons_succ,List.map_cons,List.map_nil,iOf,bOf,sOf,pOf,slLen,z04,cmpI,arI,Value.ite_bool,z01,z03,z00,z02,zdt] at k3
  have hE:=hg (e.name.isEmpty && e.names.isEmpty && decide (e.kids.length=3)) (by unfold z0i;simp [k3])
  rw [hE,htx,hem];simp only [ev0,ev,evV,List.cons_append,List.nil_append,List.getD_cons_zero,List.getD_cons_succ,List.map_cons,List.map_nil,iOf,bOf,sOf,pOf,slLen,z04,cmpI,arI,Value.ite_bool,z01,z03,z00,z02,z09];congr 3;exact decide_eq_decide.2 (by omega)
 simp only [ev0,ev,evV,List.cons_append,List.nil_append,List.getD_cons_zero,List.getD_cons_succ,List.map_cons,List.map_nil,iOf,bOf,sOf,pOf,slLen,z04,cmpI,arI,Value.ite_bool,z01,z03,z00,z02,zdf] at k3
 refine ⟨fun k4=>⟨?_,l02⟩,fun k4=>?_⟩
 ·simp only [ev0,ev,evV,List.cons_append,List.nil_append,List.getD_cons_zero,List.getD_cons_succ,List.map_cons,List.map_nil,iOf,bOf,sOf,pOf,slLen,z04,cmpI,arI,Value.ite_bool,z01,z03,z00,z02,zdt] at k4
  have hE:=hg (e.name.isEmpty && e.names.isEmpty && decide (2≤e.kids.length)) (by unfold z0i;simp [k4])
  rw [hE,htx,hem];simp only [ev0,ev,evV,List.cons_append,List.nil_append,List.getD_cons_zero,List.getD_cons_succ,List.map_cons,List.map_nil,iOf,bOf,sOf,pOf,slLen,z04,cmpI,arI,Value.ite_bool,z01,z03,z00,z02,z09];congr 3;exact decide_eq_decide.2 (by omega)
 simp only [ev0,ev,evV,List.cons_append,List.nil_append,List.getD_cons_zero,List.getD_cons_succ,List.map_cons,List.map_nil,iOf,bOf,sOf,pOf,slLen,z04,cmpI,arI,Value.ite_bool,z01,z03,z00,z02,zdf] at k4
 refine ⟨fun k5=>⟨?_,l02⟩,fun k5=>?_⟩
 ·simp only [ev0,ev,evV,List.cons_append,List.nil_append,List.getD_cons_zero,List.getD_cons_succ,List.map_cons,List.map_nil,iOf,bOf,sOf,pOf,slLen,z04,cmpI,arI,Value.ite_bool,z01,z03,z00,z02,zdt] at k5
  have hE:=hg (e.name.isEmpty && decide (e.names.length≤6) && decide (e.kids.length=1)) (by unfold z0i;simp [k5])
  have e1:decide ((e.names.length:Int)≤6)=decide (e.names.length≤6):=decide_eq_decide.2 (by omega)
  have e2:decide ((e.kids.length:Int)=1)=decide (e.kids.length=1):=decide_eq_decide.2 (by omega)
  rw [hE,htx];simp only [ev0,ev,evV,List.cons_append,List.nil_append,List.getD_cons_zero,List.getD_cons_succ,List.map_cons,List.map_nil,iOf,bOf,sOf,pOf,slLen,z04,cmpI,arI,Value.ite_bool,z01,z03,z00,z02,z09,e1,e2]
 simp only [ev0,ev,evV,List.cons_append,List.nil_append,List.getD_cons_zero,List.getD_cons_succ,List.map_cons,List.map_nil,iOf,bOf,sOf,pOf,slLen,z04,cmpI,arI,Value.ite_bool,z01,z03,z00,z02,zdf] at k5
 refine ⟨fun k6=>⟨?_,l02⟩,fun k6=>?_⟩
 ·simp only [ev0,ev,evV,List.cons_append,List.nil_append,List.getD_cons_zero,List.getD_cons_succ,List.map_cons,List.map_nil,iOf,bOf,sOf,pOf,slLen,z04,cmpI,arI,Value.ite_bool,z01,z03,z00,z02,zdt] at k6
  have hE:=hg (e.name.isEmpty && e.names.isEmpty && decide (1≤e.kids.length) && decide (e.kids.length≤7)) (by unfold z0i;simp [k6])
  have e1:decide ((e.kids.length:Int)≤7)=decide (e.kids.length≤7):=decide_eq_decide.2 (by omega)
  have e2:decide ((e.kids.length:Int) ≥ 1)=decide (1≤e.kids.length):=decide_eq_decide.2 (by omega)
  rw [hE,htx,hem];simp only [ev0,ev,evV,List.cons_append,List.nil_append,List.getD_cons_zero,List.getD_cons_succ,List.map_cons,List.map_nil,iOf,bOf,sOf,pOf,slLen,z04,cmpI,arI,Value.ite_bool,z01,z03,z00,z02,z09,e1,e2]
 simp only [ev0,ev,evV,List.cons_append,List.nil_append,List.getD_cons_zero,List.getD_cons_succ,List.map_cons,List.map_nil,iOf,bOf,sOf,pOf,slLen,z04,cmpI,arI,Value.ite_bool,z01,z03,z00,z02,zdf] at k6
 refine ⟨fun k7=>?_,fun k7=>?_⟩
 ·simp only [ev0,ev,evV,List.cons_append,List.nil_append,List.getD_cons_zero,List.getD_cons_succ,List.map_cons,List.map_nil,iOf,bOf,sOf,pOf,slLen,z04,cmpI,arI,Value.ite_bool,z01,z03,z00,z02,zdt] at k7
  have hE:=hg (e.names.isEmpty && decide (z0y e.name=e.kids.length)) (by unfold z0i;simp [k7])
  rw [hE,hem]
  refine ⟨fun vs H'=>vs=[.bool (decide ((e.names.length:Int)=0) && decide (z0y e.name=e.kids.length))]∧PH.le H H',?_,?_⟩
  ·rintro vs H3 _ ⟨rfl,l3⟩;exact ⟨rfl,l3⟩
  refine ⟨fun gn=>?_,fun gn=>?_⟩
  ·simp only [ev0,ev,evV,List.cons_append,List.nil_append,List.getD_cons_zero,List.getD_cons_succ,List.map_cons,List.map_nil,iOf,bOf,sOf,pOf,slLen,z04,cmpI,arI,Value.ite_bool,z01,z03,z00,z02] at gn
   refine z07 [.int .i64 (z0y e.name)] zfc (zt8 e.name H2) rfl z05 fun H3 l3=>⟨_,z06,?_,PH.le_trans l02 l3⟩
   simp only [ev0,ev,evV,List.cons_append,List.nil_append,List.getD_cons_zero,List.getD_cons_succ,List.map_cons,List.map_nil,iOf,bOf,sOf,pOf,slLen,z04,cmpI,arI,Value.ite_bool,z01,z03,z00,z02,gn,Bool.true_and]
  ·simp only [ev0,ev,evV,List.cons_append,List.nil_append,List.getD_cons_zero,List.getD_cons_succ,List.map_cons,List.map_nil,iOf,bOf,sOf,pOf,slLen,z04,cmpI,arI,Value.ite_bool,z01,z03,z00,z02] at gn
   refine ⟨_,z06,?_,l02⟩
   simp only [ev0,ev,evV,List.cons_append,List.nil_append,List.getD_cons_zero,List.getD_cons_succ,List.map_cons,List.map_nil,iOf,bOf,sOf,pOf,slLen,z04,cmpI,arI,Value.ite_bool,z01,z03,z00,z02,gn,Bool.false_and]
 simp only [ev0,ev,evV,List.cons_append,List.nil_append,List.getD_cons_zero,List.getD_cons_succ,List.map_cons,List.map_nil,iOf,bOf,sOf,pOf,slLen,z04,cmpI,arI,Value.ite_bool,z01,z03,z00,z02,zdf] at k7
 refine ⟨fun k8=>⟨?_,l02⟩,fun k8=>?_⟩
 ·have k8':e.kind=8∨e.kind=9:=by
   simp only [ev0,ev,evV,List.cons_append,List.nil_append,List.getD_cons_zero,List.getD_cons_succ,List.map_cons,List.map_nil,iOf,bOf,sOf,pOf,slLen,z04,cmpI,arI,Value.ite_bool,z01,z03,z00,z02] at k8
   by_cases h:e.kind=8
   ·exact .inl h
   ·right;simpa [h] using k8
  have hE:=hg (e.name.isEmpty && decide (e.kids.length=e.names.length+1)) (by unfold z0i;rcases k8' with h | h<;>simp [h])
  have e1:decide ((e.kids.length:Int)=IntKind.i64.wrap ((e.names.length:Int)+1))=decide (e.kids.length=e.names.length+1):=decide_eq_decide.2 (wrap1 hn hk)
  rw [hE,htx];simp only [ev0,ev,evV,List.cons_append,List.nil_append,List.getD_cons_zero,List.getD_cons_succ,List.map_cons,List.map_nil,iOf,bOf,sOf,pOf,slLen,z04,cmpI,arI,Value.ite_bool,z01,z03,z00,z02,z09,e1]
 have k8':¬(e.kind=8∨e.kind=9):=by
  rintro (h | h)<;>simp [ev0,ev,evV,List.cons_append,List.nil_append,List.getD_cons_zero,List.getD_cons_succ,List.map_cons,List.map_nil,iOf,bOf,sOf,pOf,slLen,z04,cmpI,arI,Value.ite_bool,z01,z03,z00,z02,h] at k8
 refine ⟨fun ka=>?_,fun ka=>⟨?_,l02⟩⟩
 ·simp only [ev0,ev,evV,List.cons_append,List.nil_append,List.getD_cons_zero,List.getD_cons_succ,List.map_cons,List.map_nil,iOf,bOf,sOf,pOf,slLen,z04,cmpI,arI,Value.ite_bool,z01,z03,z00,z02,zdt] at ka
  have hE:=hg (e.name.isEmpty && decide (1≤e.names.length) && decide (e.kids.length=e.names.length+1) && (e.kids.take e.names.length).all fun k=>decide (k.kind=5)) (by unfold z0i;simp [ka])
  rw [hE]
  refine ⟨fun gq=>⟨?_,l02⟩,fun gq=>?_⟩
  ·have:(e.name.isEmpty && decide (1≤e.names.length) && decide (e.kids.length=e.names.length+1))=false:=by
    have e1:=wrap1 (n:=e.names.length) (m:=e.kids.length) hn hk
    simp only [ev0,ev,evV,List.cons_append,List.nil_append,List.getD_cons_zero,List.getD_cons_succ,List.map_cons,List.map_nil,iOf,bOf,sOf,pOf,slLen,z04,cmpI,arI,Value.ite_bool,z01,z03,z00,z02,z1d,ne_eq,e1] at gq
    rw [Bool.eq_false_iff]
    intro hq
    simp only [zba,zdt,List.isEmpty_iff] at hq
    obtain ⟨⟨h1,h2⟩,h3⟩:=hq
    simp only [h1,ne_eq,not_true_eq_false,decide_false,Bool.false_or,Bool.or_eq_true,zdt] at gq
    omega
   simp only [ev0,ev,evV,List.cons_append,List.nil_append,List.getD_cons_zero,List.getD_cons_succ,List.map_cons,List.map_nil,iOf,bOf,sOf,pOf,slLen,z04,cmpI,arI,Value.ite_bool,z01,z03,z00,z02,this,Bool.false_and]
  ·have hq:e.name=[]∧1≤e.names.length∧e.kids.length=e.names.length+1:=by
    have e1:=wrap1 (n:=e.names.length) (m:=e.kids.length) hn hk
    simp only [ev0,ev,evV,List.cons_append,List.nil_append,List.getD_cons_zero,List.getD_cons_succ,List.map_cons,List.map_nil,iOf,bOf,sOf,pOf,slLen,z04,cmpI,arI,Value.ite_bool,z01,z03,z00,z02,z1d,ne_eq,e1] at gq
    simp only [Bool.or_eq_false_iff,zdf,ne_eq,Decidable.not_not] at gq
    obtain ⟨⟨h1,h2⟩,h3⟩:=gq
    exact ⟨h1,by omega,by omega⟩
   obtain ⟨hq1,hq2,hq3⟩:=id hq
   have hq':(e.name.isEmpty && decide (1≤e.names.length) && decide (e.kids.length=e.names.length+1))=true:=by
    rw [hq.1];simp [hq.2.1,hq.2.2]
   rw [hq',Bool.true_and]
   refine ⟨fun n vs H'=>∃k:Nat,vs=[.bool false,.int .i64 k]∧k+n=e.names.length∧((e.kids.take k).all fun k=>decide (k.kind=5))=true∧PH.le H H',⟨e.names.length,0,rfl,by omega,by simp,l02⟩,?_⟩
   rintro n vs H3 _ ⟨k,rfl,hkn,hall,l3⟩
   refine ⟨fun gk=>?_,fun gk=>?_⟩
   ·simp only [ev0,ev,evV,List.cons_append,List.nil_append,List.getD_cons_zero,List.getD_cons_succ,List.map_cons,List.map_nil,iOf,bOf,sOf,pOf,slLen,z04,cmpI,arI,Value.ite_bool,z01,z03,z00,z02,zdt] at gk
    obtain ⟨a,ha⟩:∃a,e.kids[k]?=some a:=⟨_,zge (show k < e.kids.length by omega)⟩
    obtain ⟨q1,_,ces,q2,q3⟩:=(hx.kids.le l3).get ha
    obtain ⟨p1,p2,p3,p4,p5,p6,rfl,_⟩:=Xp.Rep.open q2
    refine ⟨fun _=>?_,[.int .i64 a.kind],rfl,?_,?_⟩
    ·simp only [Chk.holds,ev0,ev,evV,List.cons_append,List.nil_append,List.getD_cons_zero,List.getD_cons_succ,List.map_cons,List.map_nil,iOf,bOf,sOf,pOf,slLen,z04,cmpI,arI,Value.ite_bool,z01,z03,z00,z02];exact ⟨q1,by omega,by omega⟩
    ·simp only [ev0,ev,evV,List.cons_append,List.nil_append,List.getD_cons_zero,List.getD_cons_succ,List.map_cons,List.map_nil,iOf,bOf,sOf,pOf,slLen,z04,cmpI,arI,Value.ite_bool,z01,z03,z00,z02]
     have:=z2o q3 0 1
     exact this
    refine ⟨fun g5=>⟨?_,l3⟩,fun g5=>?_⟩
    ·simp only [ev0,ev,evV,List.cons_append,List.nil_append,List.getD_cons_zero,List.getD_cons_succ,List.map_cons,List.map_nil,iOf,bOf,sOf,pOf,slLen,z04,cmpI,arI,Value.ite_bool,z01,z03,z00,z02,zdt] at g5
     have:((e.kids.take e.names.length).all fun k=>decide (k.kind=5))=false:=by
      rw [Bool.eq_false_iff]
      intro h
      have:=List.all_eq_true.1 h a (List.mem_iff_getElem?.2 ⟨k,by rw [List.getElem?_take,if_pos (by omega)];exact ha⟩)
      exact g5 (of_decide_eq_true this)
     simp only [ev0,ev,evV,List.cons_append,List.nil_append,List.getD_cons_zero,List.getD_cons_succ,List.map_cons,List.map_nil,iOf,bOf,sOf,pOf,slLen,z04,cmpI,arI,Value.ite_bool,z01,z03,z00,z02,this]
    ·simp only [ev0,ev,evV,List.cons_append,List.nil_append,List.getD_cons_zero,List.getD_cons_succ,List.map_cons,List.map_nil,iOf,bOf,sOf,pOf,slLen,z04,cmpI,arI,Value.ite_bool,z01,z03,z00,z02,zdf,ne_eq,Decidable.not_not] at g5
     refine ⟨_,z06,n - 1,by omega,k+1,?_,by omega,?_,l3⟩
     ·simp only [ev0,ev,evV,List.cons_append,List.nil_append,List.getD_cons_zero,List.getD_cons_succ,List.map_cons,List.map_nil,iOf,bOf,sOf,pOf,slLen,z04,cmpI,arI,Value.ite_bool,z01,z03,z00,z02];rw [w64 (by omega) (by omega)];rfl
     ·rw [List.take_add_one,ha,List.all_append,hall];simp [g5]
   ·simp only [ev0,ev,evV,List.cons_append,List.nil_append,List.getD_cons_zero,List.getD_cons_succ,List.map_cons,List.map_nil,iOf,bOf,sOf,pOf,slLen,z04,cmpI,arI,Value.ite_bool,z01,z03,z00,z02,zdf] at gk
    have:k=e.names.length:=by omega
    subst this
    refine ⟨?_,l3⟩
    simp only [ev0,ev,evV,List.cons_append,List.nil_append,List.getD_cons_zero,List.getD_cons_succ,List.map_cons,List.map_nil,iOf,bOf,sOf,pOf,slLen,z04,cmpI,arI,Value.ite_bool,z01,z03,z00,z02,hall]
 ·simp only [ev0,ev,evV,List.cons_append,List.nil_append,List.getD_cons_zero,List.getD_cons_succ,List.map_cons,List.map_nil,iOf,bOf,sOf,pOf,slLen,z04,cmpI,arI,Value.ite_bool,z01,z03,z00,z02,zdf] at ka
  have:z0i e=false:=by unfold z0i;simp [k0,k1,k2,k3,k4,k5,k6,k7,k8',ka]
  simp only [ev0,ev,evV,List.cons_append,List.nil_append,List.getD_cons_zero,List.getD_cons_succ,List.map_cons,List.map_nil,iOf,bOf,sOf,pOf,slLen,z04,cmpI,arI,Value.ite_bool,z01,z03,z00,z02,this]
theorem zsb:∀(d:Xp) (cs:List Value) (H:PH) (deep seen:Nat),d.Rep H cs→deep≤250→seen≤4096 →
  Gives Tryz.prog zgy [.agg cs.toArray,.int .i64 deep,.int .i64 seen] H (.tuple #[.int .i64 (d.chk false deep seen).1,.int .i64 (d.chk false deep seen).2]):=by
 refine Xp.ind fun d ih cs H deep seen hd hdeep hseen=>?_
 have hd':=hd
 obtain ⟨nb,db,kb,nc,dc,kc,rfl,hx⟩:=Xp.Rep.open hd
 have hs:=hx.kids
 have hlen:=hs.max
 simp only [maxLen] at hlen
 have hs1:IntKind.i64.wrap ((seen:Int)+1)=((seen+1:Nat):Int):=by rw [w64 (by omega) (by omega)];omega
 have hd1:IntKind.i64.wrap ((deep:Int)+1)=((deep+1:Nat):Int):=by rw [w64 (by omega) (by omega)];omega
 rw [Xp.chk_eq]
 refine zee (exVs d nb db kb nc dc kc++[.int .i64 deep,.int .i64 seen]) (by kernel_rfl) (by kernel_rfl) ?_
 refine ⟨fun h0=>?_,fun h0=>?_⟩
 ·simp only [ev0,ev,evV,List.cons_append,List.nil_append,List.getD_cons_zero,List.getD_cons_succ,List.map_cons,List.map_nil,iOf,bOf,sOf,pOf,slLen,z04,cmpI,arI,Value.ite_bool,z01,z03,z00,z02,zdt] at h0
  have h0':seen=4096:=by omega
  refine ⟨?_,PH.le_refl _⟩
  rw [if_pos h0'];rfl
 simp only [ev0,ev,evV,List.cons_append,List.nil_append,List.getD_cons_zero,List.getD_cons_succ,List.map_cons,List.map_nil,iOf,bOf,sOf,pOf,slLen,z04,cmpI,arI,Value.ite_bool,z01,z03,z00,z02,zdf] at h0
 rw [if_neg (show ¬seen=4096 by omega)]
 refine ⟨fun h3=>?_,fun h3=>?_⟩
 ·simp only [ev0,ev,evV,List.cons_append,List.nil_append,List.getD_cons_zero,List.getD_cons_succ,List.map_cons,List.map_nil,iOf,bOf,sOf,pOf,slLen,z04,cmpI,arI,Value.ite_bool,z01,z03,z00,z02,zdt] at h3
  have h3':250≤deep:=by omega
  refine ⟨?_,PH.le_refl _⟩
  rw [if_pos h3']
  simp only [zi9]
  simp only [ev0,ev,evV,List.cons_append,List.nil_append,List.getD_cons_zero,List.getD_cons_succ,List.map_cons,List.map_nil,iOf,bOf,sOf,pOf,slLen,z04,cmpI,arI,Value.ite_bool,z01,z03,z00,z02,hs1]
 simp only [ev0,ev,evV,List.cons_append,List.nil_append,List.getD_cons_zero,List.getD_cons_succ,List.map_cons,List.map_nil,iOf,bOf,sOf,pOf,slLen,z04,cmpI,arI,Value.ite_bool,z01,z03,z00,z02,zdf] at h3
 rw [if_neg (show ¬250≤deep by omega)]
 refine z07 [.bool (z0i d)] zgs (zur d _ H hd') rfl z05 fun H3 h4=>?_
 simp only [Bool.false_eq_true,if_false]
 refine ⟨fun h5=>?_,fun h5=>?_⟩
 ·simp only [ev0,ev,evV,List.cons_append,List.nil_append,List.getD_cons_zero,List.getD_cons_succ,List.map_cons,List.map_nil,iOf,bOf,sOf,pOf,slLen,z04,cmpI,arI,Value.ite_bool,z01,z03,z00,z02,Bool.not_eq_true'] at h5
  refine ⟨?_,h4⟩
  rw [if_pos h5]
  simp only [zi9]
  simp only [ev0,ev,evV,List.cons_append,List.nil_append,List.getD_cons_zero,List.getD_cons_succ,List.map_cons,List.map_nil,iOf,bOf,sOf,pOf,slLen,z04,cmpI,arI,Value.ite_bool,z01,z03,z00,z02,hs1]
 simp only [ev0,ev,evV,List.cons_append,List.nil_append,List.getD_cons_zero,List.getD_cons_succ,List.map_cons,List.map_nil,iOf,bOf,sOf,pOf,slLen,z04,cmpI,arI,Value.ite_bool,z01,z03,z00,z02,Bool.not_eq_false'] at h5
 rw [if_neg (show ¬z0i d=false by rw [h5];simp)]
 refine ⟨fun n vs H'=>∃(k s:Nat),vs=[.int .i64 s,.int .i64 0,.int .i64 0,.int .i64 0,.int .i64 k]∧k+n=d.kids.length∧s≤4096∧Xps.chk false d.kids (deep+1) (seen+1)=Xps.chk false (d.kids.drop k) (deep+1) s∧PH.le H H',
  ⟨d.kids.length,0,seen+1,by simp only [ev0,ev,evV,List.cons_append,List.nil_append,List.getD_cons_zero,List.getD_cons_succ,List.map_cons,List.map_nil,iOf,bOf,sOf,pOf,slLen,z04,cmpI,arI,Value.ite_bool,z01,z03,z00,z02,hs1];rfl,by omega,by omega,by simp,h4⟩,?_⟩
 rintro n vs H' _ ⟨k,s,rfl,hkn,hs4,heq,hle⟩
 refine ⟨fun h6=>?_,fun h6=>?_⟩
 ·simp only [ev0,ev,evV,List.cons_append,List.nil_append,List.getD_cons_zero,List.getD_cons_succ,List.map_cons,List.map_nil,iOf,bOf,sOf,pOf,slLen,z04,cmpI,arI,Value.ite_bool,z01,z03,z00,z02,zdt] at h6
  have hkl:k < d.kids.length:=by omega
  obtain ⟨e,he⟩:∃e,d.kids[k]?=some e:=⟨_,zge hkl⟩
  obtain ⟨g1,_,ces,g2,g3⟩:=(hs.le hle).get he
  refine ⟨fun _=>?_,?_⟩
  ·simp only [Chk.holds,ev0,ev,evV,List.cons_append,List.nil_append,List.getD_cons_zero,List.getD_cons_succ,List.map_cons,List.map_nil,iOf,bOf,sOf,pOf,slLen,z04,cmpI,arI,Value.ite_bool,z01,z03,z00,z02];exact ⟨g1,by omega,by omega⟩
  have htags:=Xp.Rep.tags g2
  have hcall:=ih e (List.mem_of_getElem? he) ces H' (deep+1) s g2 (by omega) hs4
  obtain ⟨nb',db',kb',nc',dc',kc',rfl,_⟩:=Xp.Rep.open g2
  refine ⟨_,htags,by simp only [ev0,ev,evV,List.cons_append,List.nil_append,List.getD_cons_zero,List.getD_cons_succ,List.map_cons,List.map_nil,iOf,bOf,sOf,pOf,slLen,z04,cmpI,arI,Value.ite_bool,z01,z03,z00,z02];exact g3,?_⟩
  refine z07 [.int .i64 (e.chk false (deep+1) s).1,.int .i64 (e.chk false (deep+1) s).2] z6e ?_ rfl z05 fun H4 l4=>?_
  ·simp only [ev0,ev,evV,List.cons_append,List.nil_append,List.getD_cons_zero,List.getD_cons_succ,List.map_cons,List.map_nil,iOf,bOf,sOf,pOf,slLen,z04,cmpI,arI,Value.ite_bool,z01,z03,z00,z02,hd1]
   exact hcall
  have hle4:=PH.le_trans hle l4
  rw [z4v he] at heq
  simp only [Xps.chk] at heq
  refine ⟨fun h7=>?_,fun h7=>?_⟩
  ·simp only [ev0,ev,evV,List.cons_append,List.nil_append,List.getD_cons_zero,List.getD_cons_succ,List.map_cons,List.map_nil,iOf,bOf,sOf,pOf,slLen,z04,cmpI,arI,Value.ite_bool,z01,z03,z00,z02,zdt] at h7
   rw [if_pos h7] at heq
   refine ⟨?_,hle4⟩
   rw [heq];rfl
  ·simp only [ev0,ev,evV,List.cons_append,List.nil_append,List.getD_cons_zero,List.getD_cons_succ,List.map_cons,List.map_nil,iOf,bOf,sOf,pOf,slLen,z04,cmpI,arI,Value.ite_bool,z01,z03,z00,z02,zdf,ne_eq,Decidable.not_not] at h7
   rw [if_neg (by simp [h7])] at heq
   refine ⟨_,z06,n - 1,by omega,k+1,(e.chk false (deep+1) s).1,?_,by omega,Xp.chk_le false e _ _ hs4,heq,hle4⟩
   simp only [ev0,ev,evV,List.cons_append,List.nil_append,List.getD_cons_zero,List.getD_cons_succ,List.map_cons,List.map_nil,iOf,bOf,sOf,pOf,slLen,z04,cmpI,arI,Value.ite_bool,z01,z03,z00,z02,h7]
   rw [w64 (by omega) (by omega)]
   rfl
 ·simp only [ev0,ev,evV,List.cons_append,List.nil_append,List.getD_cons_zero,List.getD_cons_succ,List.map_cons,List.map_nil,iOf,bOf,sOf,pOf,slLen,z04,cmpI,arI,Value.ite_bool,z01,z03,z00,z02,zdf] at h6
  have:k=d.kids.length:=by omega
  subst this
  rw [List.drop_length] at heq
  simp only [Xps.chk] at heq
  refine ⟨?_,hle⟩
  rw [heq];rfl
theorem zam (d:Xp) (cs:List Value) (H:PH) (hd:d.Rep H cs):Gives Tryz.prog zha [.agg cs.toArray] H (.int .i64 (d.chk false 0 0).2):=by
 have hd':=hd
 obtain ⟨nb,db,kb,nc,dc,kc,rfl,hx⟩:=Xp.Rep.open hd
 refine zej (exVs d nb db kb nc dc kc) (by kernel_rfl) (by kernel_rfl) ?_
 refine z07 [.int .i64 (d.chk false 0 0).1,.int .i64 (d.chk false 0 0).2] z6e (zsb d _ H 0 0 hd' (by omega) (by omega)) rfl z05 fun H1 l1=>⟨rfl,l1⟩
mutual
theorem Xp.chk_same:∀(e:Xp) (deep seen:Nat),e.size≤4097→e.chk true deep seen=e.chk false deep seen
 | .mk k s ns d l,deep,seen,h=>by
  simp only [Xp.size] at h
  have h1:=Xps.size_len l
  have hf:z18 (.mk k s ns d l)=z0i (.mk k s ns d l):=by
   unfold z18
   have:¬4096 < (Xp.mk k s ns d l).kids.length:=by show ¬4096 < l.length;omega
   simp [this]
  simp only [Xp.chk,hf,if_true,Bool.false_eq_true,if_false]
  rw [Xps.chk_same l _ _ (by omega)]
theorem Xps.chk_same:∀(l:List Xp) (deep seen:Nat),Xps.size l≤4097→Xps.chk true l deep seen=Xps.chk false l deep seen
 | [],_,_,_=>by simp only [Xps.chk]
 | e::l,deep,seen,h=>by
  simp only [Xps.size] at h
  simp only [Xps.chk]
  rw [Xp.chk_same e _ _ (by omega),Xps.chk_same l _ _ (by omega)]
end
theorem zae (e:Xp):(e.chk false 0 0).2=0↔(e.chk true 0 0).2=0:=by
 constructor
 ·intro h
  have:=z4t h
  rw [Xp.chk_same e 0 0 (by omega)];exact h
 ·intro h
  have:=z4t h
  rw [←Xp.chk_same e 0 0 (by omega)];exact h
theorem zu3 (e:Xp) (cs:List Value) (H:PH) (he:e.Rep H cs) (i:Nat) (hi:i < e.kids.length):Gives Tryz.prog zgx [.agg cs.toArray,.int .i64 (i:Int)] H (.bool (inB e.kind (e.kids.drop (i+1)))):=by
 obtain ⟨nb,db,kb,nc,dc,kc,rfl,hx⟩:=Xp.Rep.open he
 have hk:=hx.kids.max
 simp only [maxLen] at hk
 refine zdv (exVs e nb db kb nc dc kc++[.int .i64 (i:Int)]) (by kernel_rfl) (by kernel_rfl) ⟨?_,PH.le_refl _⟩
 simp only [ev0,ev,evV,List.cons_append,List.nil_append,List.getD_cons_zero,List.getD_cons_succ,List.map_cons,List.map_nil,iOf,bOf,sOf,pOf,slLen,z04,cmpI,arI,Value.ite_bool,z01,z03,z00,z02]
 rw [w64 (by omega) (by omega)]
 have:decide ((i:Int)=(e.kids.length:Int) - 1)=(e.kids.drop (i+1)).isEmpty:=by
  rw [←z2n]
  exact decide_eq_decide.2 (by rw [List.length_drop];omega)
 rw [this]
 unfold inB
 by_cases h5:e.kind=5<;>by_cases h9:e.kind=9<;>by_cases h10:e.kind=10<;>simp [h5,h9,h10]
theorem Xps.all_append:∀l m:List Xp,Xps.all (l++m)=Xps.all l++Xps.all m
 | [],m=>by simp [Xps.all]
 | e::l,m=>by simp only [List.cons_append,Xps.all,Xps.all_append l m,List.append_assoc]
end Go.Proofs.YtjhlndokjkeilaaGreatDoor.Vc
namespace Go.Proofs.YtjhlndokjkeilaaGreatDoor.Vc
open Go Go.Sort
def insT (s:List UInt8):List (List UInt8)→List (List UInt8)
 | []=>[s]
 | a::l=>if s < a then s::a::l else a::insT s l
def putT (l:List (List UInt8)) (s:List UInt8):List (List UInt8):=if s∈l then l else insT s l
theorem mem_insT {s x:List UInt8}:∀{l:List (List UInt8)},x∈insT s l↔x=s∨x∈l
 | []=>by simp [insT]
 | a::l=>by
  simp only [insT]
  split
  ·simp
  ·simp only [List.mem_cons,mem_insT (l:=l)]
   constructor
   ·rintro (h | h | h)
    ·exact .inr (.inl h)
    ·exact .inl h
    ·exact .inr (.inr h)
   ·rintro (h | h | h)
    ·exact .inr (.inl h)
    ·exact .inl h
    ·exact .inr (.inr h)
theorem Z2k {l:List (List UInt8)} {s x:List UInt8}:x∈putT l s↔x∈l∨x=s:=by
 unfold putT
 split
 ·rename_i h
  constructor
  ·exact .inl
  ·rintro (h1 | rfl)
   ·exact h1
   ·exact h
 ·rw [mem_insT];exact or_comm
theorem zx9 (a b:List UInt8):a < b∨a=b∨b < a:=by
 by_cases h1:a < b
 ·exact .inl h1
 by_cases h2:b < a
 ·exact .inr (.inr h2)
 exact .inr (.inl (List.le_antisymm (List.not_lt.1 h2) (List.not_lt.1 h1)))
theorem zz0 {a b:List UInt8} (h:¬a < b) (hne:a≠b):b < a:=by
 rcases zx9 a b with h1 | h1 | h1
 ·exact absurd h1 h
 ·exact absurd h1 hne
 ·exact h1
theorem zmh {s:List UInt8}:∀{l:List (List UInt8)},l.Pairwise (· < ·)→s∉l→(insT s l).Pairwise (· < ·)
 | [],_,_=>by simp [insT]
 | a::l,h,hs=>by
  simp only [insT]
  rw [List.pairwise_cons] at h
  simp only [List.mem_cons,not_or] at hs
  split
  ·rename_i hlt
   refine List.pairwise_cons.2 ⟨fun x hx=>?_,List.pairwise_cons.2 h⟩
   rcases List.mem_cons.1 hx with rfl | hx
   ·exact hlt
   ·exact List.lt_trans hlt (h.1 x hx)
  ·rename_i hlt
   refine List.pairwise_cons.2 ⟨fun x hx=>?_,zmh h.2 hs.2⟩
   rcases mem_insT.1 hx with rfl | hx
   ·exact zz0 hlt hs.1
   ·exact h.1 x hx
theorem zvn {l:List (List UInt8)} {s:List UInt8} (h:l.Pairwise (· < ·)):(putT l s).Pairwise (· < ·):=by
 unfold putT
 split
 ·exact h
 ·rename_i hs;exact zmh h hs
def putsT (l:List (List UInt8)) (m:List (List UInt8)):List (List UInt8):=m.foldl putT l
theorem zpi:∀(m l:List (List UInt8)),l.Pairwise (· < ·)→(putsT l m).Pairwise (· < ·)∧∀x,x∈putsT l m↔x∈l∨x∈m
 | [],l,h=>⟨h,fun x=>by simp [putsT]⟩
 | a::m,l,h=>by
  obtain ⟨h1,h2⟩:=zpi m (putT l a) (zvn h)
  refine ⟨h1,fun x=>?_⟩
  show x∈putsT (putT l a) m↔_
  rw [h2,Z2k,List.mem_cons,or_assoc]
theorem zmv:∀{l m:List (List UInt8)},l.Pairwise (· < ·)→m.Pairwise (· < ·)→(∀x,x∈l↔x∈m)→l=m
 | [],[],_,_,_=>rfl
 | [],b::m,_,_,h=>by have:=(h b).2 (zms);cases this
 | a::l,[],_,_,h=>by have:=(h a).1 (zms);cases this
 | a::l,b::m,hl,hm,h=>by
  rw [List.pairwise_cons] at hl hm
  have hab:a=b:=by
   rcases List.mem_cons.1 ((h a).1 (zms)) with h1 | h1
   ·exact h1
   ·rcases List.mem_cons.1 ((h b).2 (zms)) with h2 | h2
    ·exact h2.symm
    ·exact absurd (List.lt_trans (hm.1 a h1) (hl.1 b h2)) (List.lt_irrefl _)
  subst hab
  congr 1
  refine zmv hl.2 hm.2 fun x=>?_
  constructor
  ·intro hx
   rcases List.mem_cons.1 ((h x).1 (zmm _ hx)) with rfl | h1
   ·exact absurd (hl.1 x hx) (List.lt_irrefl _)
   ·exact h1
  ·intro hx
   rcases List.mem_cons.1 ((h x).2 (zmm _ hx)) with rfl | h1
   ·exact absurd (hm.1 x hx) (List.lt_irrefl _)
   ·exact h1
theorem zou:∀(l:List (List UInt8)) (m:List (List UInt8×Value)),(m.map (·.1)).Nodup→((putsM m l).map (·.1)).Nodup
 | [],m,h=>h
 | a::l,m,h=>zou l _ (zlm h a (.int .i64 1))
theorem zev (l:List (List UInt8)):(freeS l).Pairwise (· < ·):=by
 have h1:(freeS l).Pairwise fun a b=>leB a b=true:=List.pairwise_mergeSort (fun a b c h1 h2=>by simp only [leB,zdt] at *;exact List.le_trans h1 h2) (fun a b=>by simp only [leB,Bool.or_eq_true,zdt];exact List.le_total a b) _
 have h2:(freeS l).Nodup:=(List.mergeSort_perm _ _).nodup_iff.2 (zou l [] List.Pairwise.nil)
 refine (h1.and h2).imp fun {a b} h=>?_
 simp only [leB,zdt] at h
 rcases zx9 a b with h3 | h3 | h3
 ·exact h3
 ·exact absurd h3 h.2
 ·exact absurd h3 (List.not_lt.2 h.1)
theorem zxr (l:List (List UInt8)):putsT [] l=freeS l:=by
 obtain ⟨h1,h2⟩:=zpi l [] List.Pairwise.nil
 refine zmv h1 (zev l) fun x=>?_
 rw [h2,mem_freeS];simp
theorem zlr:∀a b:List UInt8,Op.bytesLess a b=decide (a < b)
 | [],[]=>by simp [Op.bytesLess]
 | [],b::m=>by simp [Op.bytesLess]
 | a::l,[]=>by simp [Op.bytesLess]
 | a::l,b::m=>by
  simp only [Op.bytesLess,zlr l m,List.cons_lt_cons_iff]
  by_cases h:a < b
  ·simp [h]
  ·by_cases h2:a=b
   ·simp [h2]
   ·simp [h,h2]
theorem Z35 (a b:List UInt8):cmpS .lss ⟨a.toArray⟩ ⟨b.toArray⟩=decide (a < b):=by
 simp only [cmpS]
 rw [ByteArray.toList_mk,ByteArray.toList_mk]
 exact zlr a b
theorem zrj {s:List UInt8}:∀{m:List (List UInt8)},(∀x∈m,¬s < x)→insT s m=m++[s]
 | [],_=>rfl
 | a::m,h=>by simp only [insT];rw [if_neg (h a (zms)),zrj fun x hx=>h x (zmm _ hx)];rfl
theorem zrk {s a:List UInt8} (hs:s < a):∀{m:List (List UInt8)},(∀x∈m,¬s < x)→insT s (m++[a])=m++[s]++[a]
 | [],_=>by simp [insT,hs]
 | b::m,h=>by
  simp only [List.cons_append,insT]
  rw [if_neg (h b (zms)),zrk hs fun x hx=>h x (zmm _ hx)]
theorem zmx {s a:List UInt8}:∀{m:List (List UInt8)},(∃x∈m,s < x)→insT s (m++[a])=insT s m++[a]
 | [],h=>by obtain ⟨x,hx,_⟩:=h;cases hx
 | b::m,h=>by
  simp only [List.cons_append,insT]
  by_cases hb:s < b
  ·rw [if_pos hb,if_pos hb];rfl
  ·rw [if_neg hb,if_neg hb]
   rw [zmx (m:=m)]
   ·rfl
   ·obtain ⟨x,hx,hsx⟩:=h
    rcases List.mem_cons.1 hx with rfl | hx
    ·exact absurd hsx hb
    ·exact ⟨x,hx,hsx⟩
theorem znu (s:List UInt8):∀l:List (List UInt8),(insT s l).length=l.length+1
 | []=>rfl
 | a::l=>by simp only [insT];split<;>simp [znu s l]
theorem Z2b (l:List (List UInt8)) (s:List UInt8):(putT l s).length≤l.length+1:=by
 unfold putT;split
 ·omega
 ·rw [znu];omega
theorem zrs:∀(m l:List (List UInt8)),(putsT l m).length≤l.length+m.length
 | [],l=>by simp [putsT]
 | a::m,l=>by
  have h1:=zrs m (putT l a)
  have h2:=Z2b l a
  show (putsT (putT l a) m).length≤_
  rw [zlc];omega
theorem zsm (l a b:List (List UInt8)):putsT l (a++b)=putsT (putsT l a) b:=by unfold putsT;rw [List.foldl_append]
theorem Z1n (l:List (List UInt8)) (s:List UInt8) (v:Value) (S:PH) (h:SlR S l v) (hs:s.length≤maxLen) (hl:l.length≤1000000):Tri Tryz.prog zje #[v,txt s] S fun x S'=>PH.le S S'∧∃v',x=.returned v'∧SlR S' (putT l s) v':=by
 obtain ⟨b,c,hv⟩:=h.sl
 subst hv
 refine zg6 [.slice b l.length c,txt s] (by kernel_rfl) (by kernel_rfl) ?_
 refine z07 [.bool (l.contains s)] z4b (zko l s _ S h) rfl z05 fun H1 l1=>?_
 refine ⟨fun g=>?_,fun g=>?_⟩
 ·simp only [ev0,ev,evV,List.cons_append,List.nil_append,List.getD_cons_zero,List.getD_cons_succ,List.map_cons,List.map_nil,iOf,bOf,sOf,pOf,slLen,z04,cmpI,arI,Value.ite_bool,z01,z03,z00,z02] at g
  refine ⟨l1,_,rfl,?_⟩
  unfold putT
  rw [if_pos (List.contains_iff_mem.1 g)]
  exact h.le l1
 simp only [ev0,ev,evV,List.cons_append,List.nil_append,List.getD_cons_zero,List.getD_cons_succ,List.map_cons,List.map_nil,iOf,bOf,sOf,pOf,slLen,z04,cmpI,arI,Value.ite_bool,z01,z03,z00,z02] at g
 have hns:s∉l:=fun hm=>by rw [con_t hm] at g;cases g
 have hput:putT l s=insT s l:=by unfold putT;rw [if_neg hns]
 rw [hput]
 refine z1k (α:=List UInt8) (b:=16) uTxts z5d (Held.nil l1) z05 fun v0 K0 h0 _ _=>?_
 refine ⟨fun n vs K'=>∃(k:Nat) (w:Value) (dn:Bool) (S':PH),vs=[w,.bool dn,.int .i64 k]∧k+n=l.length∧PH.le S S'∧Held S' K' [orow 9 (if dn=true then insT s (l.take k) else l.take k) w]∧(dn=true→∃x∈l.take k,s < x)∧(dn=false→∀x∈l.take k,¬s < x),
  ⟨l.length,0,v0,false,S,rfl,by omega,PH.le_refl _,by simpa using h0,fun h=>(by cases h),fun _ x hx=>(by simp at hx)⟩,?_⟩
 rintro n vs K1 _ ⟨k,w,dn,S1,rfl,hkn,q1,h1,hd1,hd2⟩
 have hrl:(if dn=true then insT s (l.take k) else l.take k).length≤l.length+1:=by
  split
  ·rw [znu,List.length_take];omega
  ·rw [List.length_take];omega
 refine ⟨fun g1=>?_,fun g1=>?_⟩
 ·simp only [ev0,ev,evV,List.cons_append,List.nil_append,List.getD_cons_zero,List.getD_cons_succ,List.map_cons,List.map_nil,iOf,bOf,sOf,pOf,slLen,z04,cmpI,arI,Value.ite_bool,z01,z03,z00,z02,zdt] at g1
  obtain ⟨a,ha⟩:∃a,l[k]?=some a:=⟨_,zge (show k < l.length by omega)⟩
  have htk:l.take (k+1)=l.take k++[a]:=by rw [List.take_add_one,ha];rfl
  obtain ⟨p1,_,ces,p2,p3⟩:=(h.le q1).get ha
  obtain ⟨rfl,hal⟩:=z5r p2
  refine ⟨fun vs K'=>∃(w':Value) (dn':Bool) (S':PH) (row:List (List UInt8)),vs=[w',.bool dn']∧PH.le S1 S'∧Held S' K' [orow 9 row w']∧row.length≤l.length+1∧row++[a]=(if dn'=true then insT s (l.take (k+1)) else l.take (k+1))∧(dn'=true→∃x∈l.take (k+1),s < x)∧(dn'=false→∀x∈l.take (k+1),¬s < x),?_,?_⟩
  ·rintro vs K2 _ ⟨w2,dn2,S2,row,rfl,q2,h2,hr2,hrow,hd3,hd4⟩
   obtain ⟨p4,_,ces,p5,p6⟩:=(h.le (PH.le_trans q1 q2)).get ha
   obtain ⟨rfl,_⟩:=z5r p5
   refine ⟨fun _=>?_,[txt a],rfl,by simp only [ev0,ev,evV,List.cons_append,List.nil_append,List.getD_cons_zero,List.getD_cons_succ,List.map_cons,List.map_nil,iOf,bOf,sOf,pOf,slLen,z04,cmpI,arI,Value.ite_bool,z01,z03,z00,z02];exact z0b h2.sh p6,?_⟩
   ·simp only [Chk.holds,ev0,ev,evV,List.cons_append,List.nil_append,List.getD_cons_zero,List.getD_cons_succ,List.map_cons,List.map_nil,iOf,bOf,sOf,pOf,slLen,z04,cmpI,arI,Value.ite_bool,z01,z03,z00,z02];exact ⟨p4,by omega,by omega⟩
   refine z16 (more:=[a]) (b:=16) [txt a] uTxts z5d rfl (by decide) (by decide) h2 (by kernel_rfl) (.cons ⟨_,_,rfl,⟨rfl,hal⟩,rfl⟩ .nil) z05 (fun _=>by kernel_rfl) (fun _=>by kernel_rfl)
    (by simp only [maxLen,zlc,List.length_nil];omega) (by simp only [zlc,List.length_nil];omega) fun u w3 S3 K3 q3 h3=>⟨z05,_,z06,n - 1,by omega,k+1,w3,dn2,S3,?_,by omega,PH.le_trans q1 (PH.le_trans q2 q3),?_,hd3,hd4⟩
   ·simp only [ev0,ev,evV,List.cons_append,List.nil_append,List.getD_cons_zero,List.getD_cons_succ,List.map_cons,List.map_nil,iOf,bOf,sOf,pOf,slLen,z04,cmpI,arI,Value.ite_bool,z01,z03,z00,z02]
    rw [w64 (by omega) (by omega)]
    rfl
   ·rw [←hrow];exact h3
  refine ⟨fun vs K'=>vs=[.bool (!dn && decide (s < a))]∧K'=K1,?_,?_⟩
  ·rintro vs K2 _ ⟨rfl,rfl⟩
   refine ⟨fun g2=>?_,fun g2=>?_⟩
   ·simp only [ev0,ev,evV,List.cons_append,List.nil_append,List.getD_cons_zero,List.getD_cons_succ,List.map_cons,List.map_nil,iOf,bOf,sOf,pOf,slLen,z04,cmpI,arI,Value.ite_bool,z01,z03,z00,z02,zba,Bool.not_eq_true',zdt] at g2
    obtain ⟨rfl,hlt⟩:=g2
    simp only [Bool.false_eq_true,if_false] at h1 hrl
    refine z16 (more:=[s]) (b:=16) [txt s] uTxts z5d rfl (by decide) (by decide) h1 (by kernel_rfl) (.cons ⟨_,_,rfl,⟨rfl,hs⟩,rfl⟩ .nil) z05 (fun _=>by kernel_rfl) (fun _=>by kernel_rfl)
     (by simp only [maxLen,zlc,List.length_nil];omega) (by simp only [zlc,List.length_nil];omega) fun u w3 S3 K3 q3 h3=>⟨z05,_,z06,w3,true,S3,l.take k++[s],rfl,q3,h3,by rw [zla,List.length_take,List.length_singleton];omega,?_,fun _=>⟨a,by rw [htk];simp,hlt⟩,fun h=>by cases h⟩
    rw [if_pos rfl,htk,zrk hlt (hd2 rfl)]
   ·simp only [ev0,ev,evV,List.cons_append,List.nil_append,List.getD_cons_zero,List.getD_cons_succ,List.map_cons,List.map_nil,iOf,bOf,sOf,pOf,slLen,z04,cmpI,arI,Value.ite_bool,z01,z03,z00,z02,Bool.and_eq_false_iff,Bool.not_eq_false',zdf] at g2
    refine ⟨_,z06,w,dn,S1,_,rfl,PH.le_refl _,h1,hrl,?_,fun hdt=>?_,fun hdf x hx=>?_⟩
    ·rw [htk]
     cases dn with
     | true=>simp only [if_true];rw [zmx (hd1 rfl)]
     | false=>simp only [Bool.false_eq_true,if_false]
    ·obtain ⟨x,hx,hlt⟩:=hd1 hdt
     exact ⟨x,by rw [htk];exact List.mem_append_left _ hx,hlt⟩
    ·rw [htk] at hx
     rcases List.mem_append.1 hx with hx | hx
     ·exact hd2 hdf x hx
     ·rw [List.mem_singleton.1 hx]
      rcases g2 with g2 | g2
      ·rw [hdf] at g2;cases g2
      ·exact g2
  ·refine ⟨fun _=>?_,fun g2=>?_,fun g2=>?_⟩
   ·simp only [Chk.holds,ev0,ev,evV,List.cons_append,List.nil_append,List.getD_cons_zero,List.getD_cons_succ,List.map_cons,List.map_nil,iOf,bOf,sOf,pOf,slLen,z04,cmpI,arI,Value.ite_bool,z01,z03,z00,z02];exact ⟨p1,by omega,by omega⟩
   ·simp only [ev0,ev,evV,List.cons_append,List.nil_append,List.getD_cons_zero,List.getD_cons_succ,List.map_cons,List.map_nil,iOf,bOf,sOf,pOf,slLen,z04,cmpI,arI,Value.ite_bool,z01,z03,z00,z02,Bool.not_eq_true'] at g2
    refine ⟨[txt a],rfl,by simp only [ev0,ev,evV,List.cons_append,List.nil_append,List.getD_cons_zero,List.getD_cons_succ,List.map_cons,List.map_nil,iOf,bOf,sOf,pOf,slLen,z04,cmpI,arI,Value.ite_bool,z01,z03,z00,z02];exact z0b h1.sh p3,_,z06,?_,rfl⟩
    simp only [ev0,ev,evV,List.cons_append,List.nil_append,List.getD_cons_zero,List.getD_cons_succ,List.map_cons,List.map_nil,iOf,bOf,sOf,pOf,slLen,z04,cmpI,arI,Value.ite_bool,z01,z03,z00,z02,Z35,g2];rfl
   ·simp only [ev0,ev,evV,List.cons_append,List.nil_append,List.getD_cons_zero,List.getD_cons_succ,List.map_cons,List.map_nil,iOf,bOf,sOf,pOf,slLen,z04,cmpI,arI,Value.ite_bool,z01,z03,z00,z02,Bool.not_eq_false'] at g2
    refine ⟨_,z06,?_,rfl⟩
    rw [g2];rfl
 ·simp only [ev0,ev,evV,List.cons_append,List.nil_append,List.getD_cons_zero,List.getD_cons_succ,List.map_cons,List.map_nil,iOf,bOf,sOf,pOf,slLen,z04,cmpI,arI,Value.ite_bool,z01,z03,z00,z02,zdf] at g1
  have hkk:k=l.length:=by omega
  subst hkk
  rw [List.take_length] at h1 hd1 hd2 hrl
  refine ⟨fun vs K'=>∃(w':Value) (S':PH),vs=[w']∧PH.le S S'∧Held S' K' [orow 9 (insT s l) w'],?_,?_⟩
  ·rintro vs K2 _ ⟨w2,S2,rfl,q2,h2⟩
   obtain ⟨S3,s3,q3,h3⟩:=h2.freeze
   exact ⟨PH.le_trans q2 (PH.le_trans q3 h3.sh),w2,rfl,s3.le h3.sh⟩
  ·refine ⟨fun g2=>?_,fun g2=>?_⟩
   ·simp only [ev0,ev,evV,List.cons_append,List.nil_append,List.getD_cons_zero,List.getD_cons_succ,List.map_cons,List.map_nil,iOf,bOf,sOf,pOf,slLen,z04,cmpI,arI,Value.ite_bool,z01,z03,z00,z02,Bool.not_eq_true'] at g2
    subst g2
    simp only [Bool.false_eq_true,if_false] at h1
    refine z16 (more:=[s]) (b:=16) [txt s] uTxts z5d rfl (by decide) (by decide) h1 (by kernel_rfl) (.cons ⟨_,_,rfl,⟨rfl,hs⟩,rfl⟩ .nil) z05 (fun _=>by kernel_rfl) (fun _=>by kernel_rfl)
     (by simp only [maxLen,zlc,List.length_nil];omega) (by simp only [zlc,List.length_nil];omega) fun u w3 S3 K3 q3 h3=>⟨z05,_,z06,w3,S3,rfl,PH.le_trans q1 q3,?_⟩
    rw [zrj (hd2 rfl)];exact h3
   ·simp only [ev0,ev,evV,List.cons_append,List.nil_append,List.getD_cons_zero,List.getD_cons_succ,List.map_cons,List.map_nil,iOf,bOf,sOf,pOf,slLen,z04,cmpI,arI,Value.ite_bool,z01,z03,z00,z02,Bool.not_eq_false'] at g2
    subst g2
    simp only [if_true] at h1
    exact ⟨_,z06,w,S1,rfl,q1,h1⟩
theorem Z0z:∀(e:Xp) (cs:List Value) (S:PH) (bl out:List (List UInt8)) (vb vo:Value),e.Rep S cs→SlR S bl vb→SlR S out vo→bl.length+e.bnd.length≤900000→out.length+e.size≤900000 →
  Tri Tryz.prog zhd #[.agg cs.toArray,vb,vo] S fun x S'=>PH.le S S'∧∃v',x=.returned v'∧SlR S' (putsT out (e.fr bl)) v':=by
 refine Xp.ind fun e ih cs S bl out vb vo he hb ho hbb hoo=>?_
 have he':=he
 obtain ⟨nb,db,kb,nc,dc,kc,rfl,hx⟩:=Xp.Rep.open he
 have hk:=hx.kids.max
 simp only [maxLen] at hk
 rw [Xp.bnd_eq,zla] at hbb
 have hsz:e.size=1+Xps.size e.kids:=by cases e;simp only [Xp.size,Xp.kids]
 obtain ⟨b1,c1,rfl⟩:=hb.sl
 obtain ⟨b2,c2,rfl⟩:=ho.sl
 refine zfe (exVs e nb db kb nc dc kc++[.slice b1 bl.length c1,.slice b2 out.length c2]) (by kernel_rfl) (by kernel_rfl) ?_
 obtain ⟨d1,hd1⟩:∃d1,d1=(if (e.kind=1∨e.kind=2)∧e.name∉bl then [e.name] else []):=⟨_,rfl⟩
 have hd1l:d1.length≤1:=by rw [hd1];split<;>simp
 refine ⟨fun vs S'=>∃v1,vs=[v1]∧PH.le S S'∧SlR S' (putsT out d1) v1,?_,?_⟩
 rotate_left
 ·refine ⟨fun vs S'=>vs=[.bool (decide ((e.kind=1∨e.kind=2)∧e.name∉bl))]∧PH.le S S',?_,?_⟩
  ·rintro vs S1 _ ⟨rfl,l1⟩
   refine ⟨fun g=>?_,fun g=>?_⟩
   ·simp only [ev0,ev,evV,List.cons_append,List.nil_append,List.getD_cons_zero,List.getD_cons_succ,List.map_cons,List.map_nil,iOf,bOf,sOf,pOf,slLen,z04,cmpI,arI,Value.ite_bool,z01,z03,z00,z02,zdt] at g
    rw [if_pos g] at hd1
    refine z08 zhn (Z1n out e.name _ S1 (ho.le l1) hx.name (by omega)) ?_
    rintro x S2 ⟨l2,v2,rfl,s2⟩
    obtain ⟨b3,c3,hv3⟩:=s2.sl
    exact ⟨_,[v2],rfl,by rw [hv3];rfl,rfl,z05,_,z06,v2,rfl,PH.le_trans l1 l2,by rw [hd1];exact s2⟩
   ·simp only [ev0,ev,evV,List.cons_append,List.nil_append,List.getD_cons_zero,List.getD_cons_succ,List.map_cons,List.map_nil,iOf,bOf,sOf,pOf,slLen,z04,cmpI,arI,Value.ite_bool,z01,z03,z00,z02,zdf] at g
    rw [if_neg g] at hd1
    exact ⟨_,z06,_,rfl,l1,by rw [hd1];exact ho.le l1⟩
  ·refine ⟨fun g=>?_,fun g=>?_⟩
   ·simp only [ev0,ev,evV,List.cons_append,List.nil_append,List.getD_cons_zero,List.getD_cons_succ,List.map_cons,List.map_nil,iOf,bOf,sOf,pOf,slLen,z04,cmpI,arI,Value.ite_bool,z01,z03,z00,z02] at g
    have g:e.kind=1∨e.kind=2:=by
     by_cases h1:e.kind=1
     ·exact .inl h1
     ·simp [h1] at g;exact .inr g
    refine z07 [.bool (bl.contains e.name)] z4b (zko bl e.name _ S hb) rfl z05 fun S1 l1=>⟨_,z06,?_,l1⟩
    simp only [ev0,ev,evV,List.cons_append,List.nil_append,List.getD_cons_zero,List.getD_cons_succ,List.map_cons,List.map_nil,iOf,bOf,sOf,pOf,slLen,z04,cmpI,arI,Value.ite_bool,z01,z03,z00,z02]
    by_cases hm:e.name∈bl
    ·simp [g,hm]
    ·simp [g,hm]
   ·simp only [ev0,ev,evV,List.cons_append,List.nil_append,List.getD_cons_zero,List.getD_cons_succ,List.map_cons,List.map_nil,iOf,bOf,sOf,pOf,slLen,z04,cmpI,arI,Value.ite_bool,z01,z03,z00,z02] at g
    have g:¬e.kind=1∧¬e.kind=2:=by
     by_cases h1:e.kind=1
     ·simp [h1] at g
     ·simp [h1] at g;exact ⟨h1,g⟩
    refine ⟨_,z06,?_,PH.le_refl _⟩
    rw [decide_eq_false fun h=>by rcases h.1 with h | h;exact g.1 h;exact g.2 h]
    rfl
 rintro vs S1 _ ⟨v1,rfl,l1,s1⟩
 refine ⟨fun n vs S'=>∃(k:Nat) (done:List (List UInt8)) (v:Value),vs=[v,.int .i64 k]∧k+n=e.kids.length∧PH.le S S'∧SlR S' (putsT out done) v∧e.fr bl=done++Xps.fr bl (bl++e.names) e.kind (e.kids.drop k)∧bl.length+e.names.length+(Xps.bnd (e.kids.drop k)).length≤900000∧out.length+done.length+Xps.size (e.kids.drop k)≤900000,
  ⟨e.kids.length,0,d1,v1,rfl,by omega,l1,s1,by rw [Xp.fr_eq,List.drop_zero,hd1],by rw [List.drop_zero];omega,by rw [List.drop_zero];omega⟩,?_⟩
 rintro n vs S2 _ ⟨k,done,v2,rfl,hkn,l2,s2,hfr,hb2,ho2⟩
 obtain ⟨b2,c2,hv2⟩:=s2.sl
 refine ⟨fun g=>?_,fun g=>?_⟩
 ·simp only [ev0,ev,evV,List.cons_append,List.nil_append,List.getD_cons_zero,List.getD_cons_succ,List.map_cons,List.map_nil,iOf,bOf,sOf,pOf,slLen,z04,cmpI,arI,Value.ite_bool,z01,z03,z00,z02,zdt] at g
  obtain ⟨a,ha⟩:∃a,e.kids[k]?=some a:=⟨_,zge (show k < e.kids.length by omega)⟩
  have hmem:=List.mem_of_getElem? ha
  have hbnd:Xps.bnd (e.kids.drop k)=a.bnd++Xps.bnd (e.kids.drop (k+1)):=by rw [z4v ha,Xps.bnd]
  have hsiz:Xps.size (e.kids.drop k)=a.size+Xps.size (e.kids.drop (k+1)):=by rw [z4v ha,Xps.size]
  rw [hbnd,zla] at hb2
  rw [hsiz] at ho2
  obtain ⟨bi,hbi⟩:∃bi,bi=inB e.kind (e.kids.drop (k+1)):=⟨_,rfl⟩
  have hfrs:Xps.fr bl (bl++e.names) e.kind (e.kids.drop k)=a.fr (if bi=true then bl++e.names else bl)++Xps.fr bl (bl++e.names) e.kind (e.kids.drop (k+1)):=by rw [z4v ha,Xps.fr,hbi]
  refine ⟨fun vs S'=>∃v3,vs=[v3]∧PH.le S2 S'∧SlR S' (if bi=true then bl++e.names else bl) v3,?_,?_⟩
  ·rintro vs S3 _ ⟨v3,rfl,l3,s3⟩
   have l03:=PH.le_trans l2 l3
   obtain ⟨g1,_,ces,g2,g3⟩:=(hx.kids.le l03).get ha
   have htags:=Xp.Rep.tags g2
   have g2':=g2
   obtain ⟨nb',db',kb',nc',dc',kc',rfl,_⟩:=Xp.Rep.open g2'
   refine ⟨fun _=>?_,_,htags,by simp only [ev0,ev,evV,List.cons_append,List.nil_append,List.getD_cons_zero,List.getD_cons_succ,List.map_cons,List.map_nil,iOf,bOf,sOf,pOf,slLen,z04,cmpI,arI,Value.ite_bool,z01,z03,z00,z02];exact g3,?_⟩
   ·simp only [Chk.holds,ev0,ev,evV,List.cons_append,List.nil_append,List.getD_cons_zero,List.getD_cons_succ,List.map_cons,List.map_nil,iOf,bOf,sOf,pOf,slLen,z04,cmpI,arI,Value.ite_bool,z01,z03,z00,z02];exact ⟨g1,by omega,by omega⟩
   have hpl:=zrs done out
   have hfl:=Xp.fr_len a (if bi=true then bl++e.names else bl)
   refine z08 z7l (ih a hmem _ S3 _ (putsT out done) v3 v2 g2 s3 (s2.le l3) (by
    split
    ·rw [zla];omega
    ·omega) (by omega)) ?_
   rintro x S4 ⟨l4,v4,rfl,s4⟩
   obtain ⟨b4,c4,hv4⟩:=s4.sl
   refine ⟨_,[v4],rfl,by rw [hv4];rfl,rfl,z05,_,z06,n - 1,by omega,k+1,done++a.fr (if bi=true then bl++e.names else bl),v4,?_,by omega,PH.le_trans l03 l4,?_,?_,by omega,by rw [zla];omega⟩
   ·simp only [ev0,ev,evV,List.cons_append,List.nil_append,List.getD_cons_zero,List.getD_cons_succ,List.map_cons,List.map_nil,iOf,bOf,sOf,pOf,slLen,z04,cmpI,arI,Value.ite_bool,z01,z03,z00,z02]
    rw [w64 (by omega) (by omega)]
    rfl
   ·rw [zsm];exact s4
   ·rw [hfr,hfrs,List.append_assoc]
  ·refine z07 [.bool bi] zfd (by rw [hbi];exact zu3 e _ S2 (Xp.Rep.le l2 e he') k (by omega)) rfl z05 fun S3 l3=>?_
   refine ⟨fun g=>?_,fun g=>?_⟩
   ·simp only [ev0,ev,evV,List.cons_append,List.nil_append,List.getD_cons_zero,List.getD_cons_succ,List.map_cons,List.map_nil,iOf,bOf,sOf,pOf,slLen,z04,cmpI,arI,Value.ite_bool,z01,z03,z00,z02] at g
    subst g
    refine z1k (α:=List UInt8) (b:=16) uTxts z5d (Held.nil l3) z05 fun w1 K1 h1 _ _=>?_
    have hb1:=(hb.le l2)
    refine z1o (b:=16) (more:=bl) uTxts z5d (by kernel_rfl) (by kernel_rfl) h1 (hb1.srcS h1.sh) (by simp only [maxLen,List.length_nil];omega) (by simp only [List.length_nil];omega) fun w2 K2 h2 _=>⟨z05,?_⟩
    have hn1:=(hx.names.le l2)
    refine z1o (b:=16) (more:=e.names) uTxts z5d (by kernel_rfl) (by kernel_rfl) h2 (hn1.srcS h2.sh) (by simp only [maxLen,zla,List.length_nil];omega) (by simp only [zla,List.length_nil];omega) fun w3 K3 h3 _=>⟨z05,?_⟩
    obtain ⟨S5,s5,l5,h5⟩:=h3.freeze
    exact ⟨_,z06,w3,rfl,h3.sh,by rw [if_pos rfl];exact s5.le h5.sh⟩
   ·simp only [ev0,ev,evV,List.cons_append,List.nil_append,List.getD_cons_zero,List.getD_cons_succ,List.map_cons,List.map_nil,iOf,bOf,sOf,pOf,slLen,z04,cmpI,arI,Value.ite_bool,z01,z03,z00,z02] at g
    subst g
    exact ⟨_,z06,_,rfl,l3,hb.le (PH.le_trans l2 l3)⟩
 ·simp only [ev0,ev,evV,List.cons_append,List.nil_append,List.getD_cons_zero,List.getD_cons_succ,List.map_cons,List.map_nil,iOf,bOf,sOf,pOf,slLen,z04,cmpI,arI,Value.ite_bool,z01,z03,z00,z02,zdf] at g
  have hkk:k=e.kids.length:=by omega
  subst hkk
  rw [List.drop_length] at hfr
  simp only [Xps.fr,List.append_nil] at hfr
  refine ⟨l2,v2,?_,by rw [hfr];exact s2⟩
  rw [hv2];rfl
theorem zax (e:Xp) (cs:List Value) (S:PH) (he:e.Rep S cs) (hb:e.bnd.length≤900000) (hz:e.size≤900000):Tri Tryz.prog zi3 #[.agg cs.toArray] S fun x S'=>PH.le S S'∧∃v',x=.returned v'∧SlR S' (freeS (e.fr [])) v':=by
 have he':=he
 obtain ⟨nb,db,kb,nc,dc,kc,rfl,hx⟩:=Xp.Rep.open he
 have hnil:SlR S ([]:List (List UInt8)) (.slice none 0 0):=SlR.mk_iff.2 ⟨Nat.zero_le _,.inl ⟨rfl,rfl⟩⟩
 refine zfj (exVs e nb db kb nc dc kc) (by kernel_rfl) (by kernel_rfl) ?_
 refine z08 z7l (Z0z e _ S [] [] _ _ he' hnil hnil (by simpa using hb) (by simpa using hz)) ?_
 rintro x S2 ⟨l2,v2,rfl,s2⟩
 rw [zxr] at s2
 obtain ⟨b3,c3,hv3⟩:=s2.sl
 exact ⟨_,[v2],rfl,by rw [hv3];rfl,rfl,z05,l2,v2,rfl,s2⟩
theorem zx2:∀l:List Xp,mapS (fun (s:Unit) e=>(e,s)) () l=(l,())
 | []=>rfl
 | e::l=>by simp only [mapS,zx2 l]
theorem zvb:∀(e:Xp) (cs:List Value) (S:PH),e.Rep S cs→e.fit→Tri Tryz.prog zbp #[.agg cs.toArray] S fun x S'=>PH.le S S'∧XRet S' e x:=by
 refine Xp.ind fun e ih cs S he hfit=>?_
 have he':=he
 obtain ⟨nb,db,kb,nc,dc,kc,rfl,hx⟩:=Xp.Rep.open he
 obtain ⟨f1,f2,f3⟩:=(Xp.fit_iff e).1 hfit
 refine zog (exVs e nb db kb nc dc kc) (by kernel_rfl) (by kernel_rfl) ?_
 refine z08 (by kernel_rfl) (zym e.names _ S hx.names f1) ?_
 rintro x S1 ⟨l1,v1,rfl,s1⟩
 obtain ⟨b3,c3,rfl⟩:=s1.sl
 refine ⟨_,[.slice b3 e.names.length c3],rfl,rfl,rfl,z05,?_⟩
 have he1:e.Rep S1 (exVs e b3 db kb c3 dc kc):=Xp.Rep_iff.2 ⟨_,_,_,rfl,hx.kind,hx.name,s1,Dat.Rep.le l1 _ hx.const,hx.kids.le l1⟩
 have hmap:Tri Tryz.prog zji #[.agg (exVs e b3 db kb c3 dc kc).toArray,.func (.func zbp) #[] #[]] S1 fun x S'=>PH.le S S'∧XRet S' e x:=by
  refine (zx4 (fun (s:Unit) e=>(e,s)) (fun _ Js=>Js=[]) () e _ S1 S1 [] (g:=zbp) (first:=#[]) (caps:=#[]) zi1 (Held.nil (PH.le_refl S1)) rfl he1 f2 ?_).mono ?_
  ·intro j k hj S' K' Js cs l' h' hJs hk
   subst hJs
   have hm:=List.mem_of_getElem? hj
   refine (h'.pure (ih k hm cs S' hk (f3 k hm))).mono ?_
   rintro x K2 ⟨S2,l2,h2,r2⟩
   exact ⟨S2,[],l2,h2,rfl,r2⟩
  ·rintro x K2 ⟨S2,J2,l2,h2,hJ,r2⟩
   subst hJ
   rw [zx2] at r2
   obtain ⟨es,rfl,r3⟩:=r2
   refine ⟨PH.le_trans l1 (PH.le_trans l2 h2.sh),es,rfl,?_⟩
   have:(Xp.mk e.kind e.name e.names e.const e.kids)=e:=by cases e;rfl
   rw [this] at r3
   exact Xp.Rep.le h2.sh e r3
 refine z08 zmp hmap ?_
 rintro x S2 ⟨l2,es,rfl,r2⟩
 have ht:=Xp.Rep.tags r2
 have r2':=r2
 obtain ⟨p1,p2,p3,p4,p5,p6,rfl,_⟩:=Xp.Rep.open r2'
 exact ⟨_,_,rfl,ht,rfl,z05,l2,_,rfl,r2⟩
theorem Z2i (e:Xp) (cs:List Value) (S:PH) (he:e.Rep S cs):Tri Tryz.prog zvm #[.agg cs.toArray] S fun x S'=>PH.le S S'∧∃es:List Value,es.length=8∧x=.returned (.tuple #[.agg es.toArray,.int .i64 (if (e.chk true 0 0).2=0 then 0 else 101)])∧(if (e.chk true 0 0).2=0 then e else .mk 0 [] [] dat0 []).Rep S' es:=by
 have he':=he
 obtain ⟨nb,db,kb,nc,dc,kc,rfl,hx⟩:=Xp.Rep.open he
 refine zrv (exVs e nb db kb nc dc kc) (by kernel_rfl) (by kernel_rfl) ?_
 refine z07 [.int .i64 (e.chk true 0 0).2] zk2 (zjz e _ S he') rfl z05 fun H1 l1=>?_
 refine ⟨fun g=>?_,fun g=>?_⟩
 ·simp only [ev0,ev,evV,List.cons_append,List.nil_append,List.getD_cons_zero,List.getD_cons_succ,List.map_cons,List.map_nil,iOf,bOf,sOf,pOf,slLen,z04,cmpI,arI,Value.ite_bool,z01,z03,z00,z02,zdt] at g
  refine ⟨l1,[.int .i64 0,txt [],.slice none 0 0,.int .i64 0,.int .i64 0,txt [],.slice none 0 0,.slice none 0 0],rfl,?_,by rw [if_neg g];exact Z3n H1⟩
  rw [if_neg g];rfl
 ·simp only [ev0,ev,evV,List.cons_append,List.nil_append,List.getD_cons_zero,List.getD_cons_succ,List.map_cons,List.map_nil,iOf,bOf,sOf,pOf,slLen,z04,cmpI,arI,Value.ite_bool,z01,z03,z00,z02,zdf,ne_eq,Decidable.not_not] at g
  refine z08 zi1 (zvb e _ H1 (Xp.Rep.le l1 e he') (z3q g).1) ?_
  rintro x S2 ⟨l2,es,rfl,r2⟩
  have ht:=Xp.Rep.tags r2
  have r2':=r2
  obtain ⟨p1,p2,p3,p4,p5,p6,rfl,_⟩:=Xp.Rep.open r2'
  refine ⟨_,_,rfl,ht,rfl,z05,PH.le_trans l1 l2,_,rfl,?_,by rw [if_pos g];exact r2⟩
  rw [if_pos g];rfl
end Go.Proofs.YtjhlndokjkeilaaGreatDoor.Vc
