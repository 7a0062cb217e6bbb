import Derived.Test.YtfkclejklgoccaaGreatMk
import Derived.Lib.ItoaNum
import Derived.Lib.LaidTab
set_option linter.unusedSimpArgs false
set_option linter.unusedVariables false
set_option maxRecDepth 100000
namespace Go.Proofs.YtfkclejklgoccaaGreat.Vc
open Go
theorem zq7:∀(k u:Nat),u < 10 ^ (k+1)→Lib.nDigits u≤k+1
 | 0,u,h=>by rw [Lib.nDigits_small (by simpa using h)];omega
 | k+1,u,h=>by
  by_cases h1:u < 10
  ·rw [Lib.nDigits_small h1];omega
  ·rw [Lib.nDigits_big h1]
   have:=zq7 k (u / 10) (by rw [Nat.pow_succ] at h;omega)
   omega
theorem zq0 (n:Nat) (h:n≤9223372036854775808):(Lib.decDigits n).length≤20:=by
 rw [Lib.decDigits_length]
 exact zq7 19 n (by omega)
def zx6 (n:Int):UInt8:=UInt8.ofNat (n % 256).toNat
mutual
def Dat.txtL (bare:Bool):Dat→List UInt8
 | .mk k n t l=>if k=0 then (if n=0 then [35,102] else [35,116]) else if k=1 then Lib.itoa n else if k=2 then (if bare then [zx6 n] else charL (zx6 n)) else if k=3 then (if bare then t else zrh t) else if k=4 then t
   else (if k=7 then [35,40] else [40])++Dats.txtL bare (decide (k=6)) true l++[41]
def Dats.txtL (bare dotted:Bool):Bool→List Dat→List UInt8
 | _,[]=>[]
 | first,d::l=>(if first then [] else [32])++(if dotted && l.isEmpty then [46,32] else [])++Dat.txtL bare d++Dats.txtL bare dotted false l
end
theorem Z3s (c:UInt8):(charL c).length≤9:=by
 unfold charL;split
 ·simp
 split
 ·simp
 split
 ·simp
 ·simp [twoL]
theorem Z68 (n:Int) (h:InI n):(Lib.itoa n).length≤21:=by
 obtain ⟨a,b⟩:=h
 unfold Lib.itoa;split
 ·have:=zq0 n.natAbs (by omega);simp only [zlc];omega
 ·have:=zq0 n.toNat (by omega);omega
theorem zxu (l:List UInt8):(zrh l).length≤4 * l.length+2:=by
 have:=Z11 l
 simp only [zrh,zla,zlc,List.length_nil];omega
mutual
theorem Dat.chk_len (bare:Bool):∀(d:Dat) (deep seen:Nat),seen≤4096→(d.chk deep seen).2=0→seen < (d.chk deep seen).1∧(d.txtL bare).length+3≤16500 * ((d.chk deep seen).1 - seen)
 | .mk k n t l,deep,seen,hs,h=>by
  simp only [Dat.chk] at h ⊢
  split at h
  ·simp at h
  rename_i h0
  rw [if_neg h0]
  split at h
  ·simp at h
  rename_i h1
  rw [if_neg h1]
  split at h
  ·simp at h
  rename_i h2
  rw [if_neg h2]
  have hf:z3r (.mk k n t l)=true:=by simpa using h2
  have ih:=Dats.chk_len bare (decide (k=6)) true l (deep+1) (seen+1) (by omega) h
  refine ⟨by omega,?_⟩
  have hch:=Z3s (zx6 n)
  have hqu:=zxu t
  have hit:k=1→(Lib.itoa n).length≤21:=fun hk=>Z68 n (by
   subst hk
   simp only [z3r,Dat.kind,Dat.int,Dat.text,Dat.list] at hf
   simp at hf
   obtain ⟨⟨_,h5⟩,h6⟩:=hf
   have h5:=of_decide_eq_true h5
   have h6:=of_decide_eq_true h6
   exact ⟨by omega,by omega⟩)
  have ht3:k=3→t.length≤4096:=fun hk=>by
   subst hk
   simp only [z3r,Dat.kind,Dat.int,Dat.text,Dat.list] at hf
   simp at hf;exact of_decide_eq_true hf.2
  have ht4:k=4→t.length≤64:=fun hk=>by
   subst hk
   simp only [z3r,Dat.kind,Dat.int,Dat.text,Dat.list,z6w] at hf
   simp at hf;exact of_decide_eq_true hf.2.1.1.2
  simp only [Dat.txtL]
  split
  ·split<;>simp<;>omega
  split
  ·rename_i hk;have:=hit hk;omega
  split
  ·split
   ·simp;omega
   ·omega
  split
  ·rename_i hk;have:=ht3 hk
   split<;>omega
  split
  ·rename_i hk;have:=ht4 hk;omega
  ·simp only [zla,zlc,List.length_nil]
   split<;>simp only [zlc,List.length_nil]<;>omega
theorem Dats.chk_len (bare dotted:Bool):∀(first:Bool) (l:List Dat) (deep seen:Nat),seen≤4096→(Dats.chk l deep seen).2=0→seen≤(Dats.chk l deep seen).1∧(Dats.txtL bare dotted first l).length≤16500 * ((Dats.chk l deep seen).1 - seen)
 | _,[],_,_,_,_=>by simp [Dats.chk,Dats.txtL]
 | first,d::l,deep,seen,hs,h=>by
  simp only [Dats.chk] at h ⊢
  split at h
  ·rename_i hx;exact absurd h hx
  rename_i hx
  rw [if_neg hx]
  have i1:=Dat.chk_len bare d deep seen hs (by simpa using hx)
  have hle:=Dat.chk_le d deep seen hs
  have i2:=Dats.chk_len bare dotted false l deep (d.chk deep seen).1 hle h
  refine ⟨by omega,?_⟩
  simp only [Dats.txtL,zla]
  have e1:(if first=true then [] else [32]:List UInt8).length≤1:=by split<;>simp
  have e2:(if (dotted && l.isEmpty)=true then [46,32] else []:List UInt8).length≤2:=by split<;>simp
  omega
end
def Tab (H : PH) : Prop := ∃ g e f, Tryz.prog.globalNamed "internal/strconv.uint64pow10" = some g ∧ H g = some (.cells (Lib.pow10Tab.map fun z => Value.int .u64 z).toArray e f)
theorem Tab.le {H H':PH} (h:Tab H) (hl:PH.le H H'):Tab H':=by
 obtain ⟨g,e,f,h1,h2⟩:=h;exact ⟨g,e,f,h1,hl _ _ h2⟩
theorem Tab.is {H : PH} {w : World} (h : Tab H) (hv : Vis H w) : Lib.TabIs Tryz.prog w "internal/strconv.uint64pow10" .u64 Lib.pow10Tab := by
 obtain ⟨g,e,f,h1,h2⟩:=h
 unfold Lib.TabIs World.var?
 rw [h1]
 simp only [Option.bind_some,hv _ _ h2]
theorem Z6q:ElemOk Tryz.prog 5 1 1=true:=by kernel_rfl
theorem ztn {H H':PH}:∀{l:List UInt8} {xs:List Value},PV.RepRow H (l.flatMap pv) xs→PV.RepRow H' (l.flatMap pv) xs
 | [],xs,h=>by simp only [List.flatMap_nil,PV.RepRow] at h ⊢;exact h
 | c::l,xs,h=>by
  rw [List.flatMap_cons] at h ⊢
  have h':PV.RepRow H (.int .u8 (c.toNat:Int)::l.flatMap pv) xs:=h
  show PV.RepRow H' (.int .u8 (c.toNat:Int)::l.flatMap pv) xs
  simp only [PV.RepRow,PV.Rep] at h' ⊢
  obtain ⟨v,vs,rfl,h1,h2⟩:=h'
  exact ⟨v,vs,rfl,h1,ztn h2⟩
structure WSv (H0 H:PH) (w:Nat) (T:TypeId) (out:List UInt8) (bare:Bool) (bv:Value):Prop where
 at_:H w=some (.cells #[bv,.bool bare] T (0,0))
 acc:Acc H0 H 5 out bv
 own:ob bv≠some w
 base:H0 w=none
def WS (H0 H:PH) (w:Nat) (T:TypeId) (out:List UInt8) (bare:Bool):Prop:=∃bv,WSv H0 H w T out bare bv
section
variable {H0 H:PH} {w:Nat} {T:TypeId} {out:List UInt8} {bare:Bool} {bv:Value}
theorem WSv.row (h:WSv H0 H w T out bare bv):rowAt H ((some ⟨w,0,none⟩:Option Addr).map (·.add 0)) [bv]:=⟨_,rfl,fun i v hi=>by
 show H.cell? ((Addr.add ⟨w,0,none⟩ 0).add i)=_
 rw [Addr.add_plain,Addr.add_plain,PH.cell_at h.at_]
 cases i with
 | zero=>simpa using hi
 | succ i=>simp at hi⟩
theorem WSv.tag (h:WSv H0 H w T out bare bv):z0h [.sl] [bv]=true:=by
 obtain ⟨b,c,rfl⟩:=h.acc.sl;rfl
theorem WSv.mono {H':PH} (h:WSv H0 H w T out bare bv) (hl:PH.le H H'):WSv H0 H' w T out bare bv:=⟨hl _ _ h.at_,h.acc.mono hl,h.own,h.base⟩
theorem WSv.store {H':PH} {v':Value} {out':List UInt8} (h:WSv H0 H w T out bare bv) (ha:Acc H0 H' 5 out' v') (hw:Went H H' bv v'):WS H0 (H'.upd w (.cells #[v',.bool bare] T (0,0))) w T out' bare:=by
 have hne:ob v'≠some w:=fun e=>(hw.fresh w e).elim h.own fun hn=>by rw [h.at_] at hn;cases hn
 refine ⟨v',PH.upd_same,⟨?_,?_⟩,hne,h.base⟩
 ·intro k o hk
  have hkw:k≠w:=fun e=>by rw [e,h.base] at hk;cases hk
  have:=ha.le k o hk
  unfold delV at this ⊢
  cases hv':ob v' with
  | none=>rw [hv'] at this;show (H'.upd w _) k=_;rw [PH.upd_other hkw];exact this
  | some g=>
   rw [hv'] at this
   show ((H'.upd w _).del g) k=_
   have this':(H'.del g) k=some o:=this
   unfold PH.del at this' ⊢
   split at this'
   ·cases this'
   ·rename_i e;rw [if_neg e,PH.upd_other hkw];exact this'
 ·obtain ⟨xs,h1,h2⟩:=ha.own
  exact ⟨xs,h1.le fun k hk=>PH.upd_other fun e=>hne (by rw [hk,e]),ztn h2⟩
variable {X:List PanicEntry→PH→Prop} {β:Type} {E:List Value} {L:LK} {K:β→List Value→PH→LK→Prop}
end
def Dat.Good (d:Dat):Prop:=∃deep seen,seen≤4096∧(d.chk deep seen).2=0
theorem Dats.good:∀(l:List Dat) (deep seen:Nat),seen≤4096→(Dats.chk l deep seen).2=0→∀e∈l,e.Good
 | [],_,_,_,_,e,he=>by cases he
 | d::l,deep,seen,hs,h,e,he=>by
  simp only [Dats.chk] at h
  split at h
  ·rename_i hx;exact absurd h hx
  rename_i hx
  have hx:(d.chk deep seen).2=0:=by simpa using hx
  rcases List.mem_cons.1 he with rfl | he
  ·exact ⟨deep,seen,hs,hx⟩
  ·exact Dats.good l deep _ (Dat.chk_le d deep seen hs) h e he
theorem Dat.Good.form {d:Dat} (h:d.Good):z3r d=true:=by
 obtain ⟨deep,seen,hs,h⟩:=h
 rw [Dat.chk_eq] at h
 split at h
 ·simp at h
 split at h
 ·simp at h
 split at h
 ·simp at h
 ·rename_i hx;simpa using hx
theorem Dat.Good.len {d:Dat} (h:d.Good) (bare:Bool):(d.txtL bare).length≤67600000:=by
 obtain ⟨deep,seen,hs,h⟩:=h
 have h1:=Dat.chk_len bare d deep seen hs h
 have h2:=Dat.chk_le d deep seen hs
 omega
theorem WS.le {H0 H:PH} {w:Nat} {T:TypeId} {out:List UInt8} {bare:Bool} (h:WS H0 H w T out bare):PH.le H0 H:=by
 obtain ⟨bv,h⟩:=h;exact h.acc.all
def pre:List UInt8→List UInt8→Bool
 | [],_=>true
 | _::_,[]=>false
 | a::l,b::m=>a == b && pre l m
instance decInI (n:Int):Decidable (InI n):=inferInstanceAs (Decidable (_∧_))
end Go.Proofs.YtfkclejklgoccaaGreat.Vc
namespace Go.Proofs.YtfkclejklgoccaaGreat.Vc
open Go Go.ChangeShapes Go.WideShapes Go.ChangeAt Go.RowKit
mutual
def Dat.wt:Dat→Nat
 | .mk _ _ t l=>t.length+5+Dats.wt l
def Dats.wt:List Dat→Nat
 | []=>0
 | d::l=>Dat.wt d+Dats.wt l
end
theorem uInt:Tryz.prog.underlying 3=some (.int .i64):=by kernel_rfl
theorem cInt:Tryz.prog.cellsOf 3=1:=by kernel_rfl
theorem cStr:Tryz.prog.cellsOf 9=1:=by kernel_rfl
theorem csInt {H:PH} {n:Int} {v:Value} (h:CsR H n [v]):v=.int .i64 n∧InI n:=by
 have h':PV.RepRow H [.int .i64 n] [v]:=h
 simp only [PV.RepRow,PV.Rep] at h'
 obtain ⟨v',vs,e,⟨rfl,h1⟩,rfl⟩:=h'
 simp only [List.cons.injEq,and_true] at e
 exact ⟨e,h1⟩
theorem csTxt {H:PH} {l:List UInt8} {v:Value} (h:CsR H l [v]):v=txt l∧l.length≤maxLen:=by
 have h':PV.RepRow H [.str l] [v]:=h
 simp only [PV.RepRow,PV.Rep] at h'
 obtain ⟨v',vs,e,⟨rfl,h1⟩,rfl⟩:=h'
 simp only [List.cons.injEq,and_true] at e
 exact ⟨e,h1⟩
theorem zym:laidOutB Tryz.prog=true:=by kernel_rfl
theorem zua:mapsRowed Tryz.prog=true:=by kernel_rfl
theorem Z67:Kids Tryz.prog (· < Tryz.prog.types.size):=kids_rows zym zua
theorem Z6e:∀t e,t < Tryz.prog.types.size→Tryz.prog.underlying t=some (.slice e)→0 < Tryz.prog.cellsOf e:=slices_full_of Tryz.prog (by kernel_rfl)
def Dat.Mono (d:Dat):Prop:=∀(deep seen deep' seen':Nat),deep≤32→deep'≤deep→seen'≤seen→seen≤4096→(d.chk deep seen).2=0→(d.chk deep' seen').2=0∧(d.chk deep' seen').1+seen=(d.chk deep seen).1+seen'
theorem Dats.mono:∀(l:List Dat),(∀e∈l,e.Mono)→∀(deep seen deep' seen':Nat),deep≤32→deep'≤deep→seen'≤seen→seen≤4096→(Dats.chk l deep seen).2=0→(Dats.chk l deep' seen').2=0∧(Dats.chk l deep' seen').1+seen=(Dats.chk l deep seen).1+seen'
 | [],_,deep,seen,deep',seen',_,_,_,_,_=>by simp only [Dats.chk];exact ⟨trivial,by omega⟩
 | d::l,hl,deep,seen,deep',seen',h1,h2,h3,h4,h=>by
  simp only [Dats.chk] at h ⊢
  split at h
  ·rename_i hx;exact absurd h hx
  rename_i hx
  have hx:(d.chk deep seen).2=0:=by simpa using hx
  obtain ⟨g1,g2⟩:=hl d (zms) deep seen deep' seen' h1 h2 h3 h4 hx
  have g3:=Dats.mono l (fun e he=>hl e (zmm _ he)) deep (d.chk deep seen).1 deep' (d.chk deep' seen').1 h1 h2 (by omega) (Dat.chk_le d deep seen h4) h
  rw [if_neg (by simp [g1]),if_neg (by simp [hx])]
  exact ⟨g3.1,by omega⟩
theorem Dat.mono:∀d:Dat,d.Mono:=by
 refine Dat.ind ?_
 intro d ih deep seen deep' seen' h1 h2 h3 h4 h
 rw [Dat.chk_eq] at h
 rw [Dat.chk_eq d deep' seen',Dat.chk_eq d deep seen]
 split at h
 ·simp at h
 rename_i h0
 split at h
 ·simp at h
 rename_i h5
 split at h
 ·simp at h
 rename_i h6
 have hn:z3b d.kind=true→deep < 32:=fun x=>by
  rcases Nat.lt_or_ge deep 32 with y | y
  ·exact y
  ·exact absurd ⟨x,by omega⟩ h5
 rw [if_neg h0,if_neg h5,if_neg h6,if_neg (show ¬seen'=4096 by omega),if_neg (fun x=>by have:=hn x.1;omega),if_neg h6]
 by_cases hl:d.list=[]
 ·rw [hl];simp only [Dats.chk];exact ⟨trivial,by omega⟩
 ·have hn':=hn (zjm (by simpa using h6) hl)
  have g:=Dats.mono d.list ih (deep+1) (seen+1) (deep'+1) (seen'+1) (by omega) (by omega) (by omega) (by omega) h
  exact ⟨g.1,by omega⟩
noncomputable instance decDat:DecidableEq Dat:=fun a b=>Classical.propDecidable (a=b)
noncomputable instance decDats:DecidableEq (List Dat):=fun a b=>Classical.propDecidable (a=b)
theorem Dat.eq_iff {a b:Dat}:a=b↔a.kind=b.kind∧a.int=b.int∧a.text=b.text∧a.list=b.list:=by
 cases a;cases b;simp [Dat.kind,Dat.int,Dat.text,Dat.list]
theorem Z1y {P:Program} {X:List PanicEntry→PH→Prop} {α:Type} {E:List Value} {H:PH} {L:LK} {K:α→List Value→PH→LK→Prop} {i f:Nat} {args:List VE} {rs:RS} {pend:List (SV×List SV)} {k:Fm α} (vs:List Value) (hi:E.getD i (.bool false)=.func (.func f) #[] #[]) (hok:callB P f=true)
  (hc:Gives P f (args.map (evV E fun _=>0)) H (rs.pack vs)) (ht:z0h rs.tags vs=true) (hp:z0s E H pend) (hk:∀H',PH.le H H'→den P X k (E++vs) H' L K):den P X (.call (.atom i) args rs pend k) E H L K:=by
 refine ⟨f,#[],#[],hi,zew hok,?_⟩
 have e:(#[]:Array Value)++(args.map (evV E fun _=>0)).toArray++#[]=(args.map (evV E fun _=>0)).toArray:=by simp
 rw [e]
 exact Tri.mono hc fun e H' ⟨he,hl⟩=>by subst he;exact ⟨vs,ht,rfl,z2w hp hl,hk H' hl⟩
theorem zxd {l m:List Dat} {k:Nat} {a b:Dat} (h:l.take k=m.take k) (ha:l[k]?=some a) (hb:m[k]?=some b) (hab:a=b):l.take (k+1)=m.take (k+1):=by
 rw [List.take_add_one,List.take_add_one,h,ha,hb,hab]
def Z3g (f:FuncId) (a:Dat):Prop:=∀(b:Dat) (ca cb:List Value) (H:PH),a.Rep H ca→b.Rep H cb→Gives Tryz.prog f [.agg ca.toArray,.agg cb.toArray] H (.bool (decide (a=b)))
theorem zp2 (l m:List Dat) (va vb:Value) (H:PH) (hl:SlR H l va) (hm:SlR H m vb) (ih:∀e∈l,Z3g z8s e) :
  Gives Tryz.prog z26 [va,vb,.func (.func z8s) #[] #[]] H (.bool (decide (l=m))):=by
 obtain ⟨b1,c1,rfl⟩:=hl.sl
 obtain ⟨b2,c2,rfl⟩:=hm.sl
 have m1:=hl.max
 have m2:=hm.max
 simp only [maxLen] at m1 m2
 refine z21 [.slice b1 l.length c1,.slice b2 m.length c2,.func (.func z8s) #[] #[]] (by kernel_rfl) (by kernel_rfl) ?_
 refine ⟨fun h=>?_,fun h=>?_⟩
 ·simp only [evs,evb,zdt] at h
  refine ⟨?_,PH.le_refl H⟩
  have:¬l=m:=fun e=>h (by rw [e])
  simp only [evs,evb,decide_eq_false this]
 simp only [evs,evb,zdf,ne_eq,Decidable.not_not] at h
 have hlen:l.length=m.length:=by omega
 refine ⟨fun n vs H'=>∃k:Nat,vs=[.bool false,.int .i64 k]∧k+n=l.length∧l.take k=m.take k∧PH.le H H',⟨l.length,0,rfl,by omega,by simp,PH.le_refl H⟩,?_⟩
 rintro n vs H' _ ⟨k,rfl,hkn,htk,hle⟩
 refine ⟨fun h5=>?_,fun h5=>?_⟩
 ·simp only [evs,evb,zdt] at h5
  obtain ⟨e,he⟩:∃e,l[k]?=some e:=⟨_,zge (show k < l.length by omega)⟩
  obtain ⟨e',he'⟩:∃e,m[k]?=some e:=⟨_,zge (show k < m.length by omega)⟩
  obtain ⟨g1,ces,g2,g3,_,_⟩:=SlRep.get (hl.le hle) he
  obtain ⟨g1',ces',g2',g3',_,_⟩:=SlRep.get (hm.le hle) he'
  have htags:=g2.tags
  have htags':=g2'.tags
  have hcall:=ih e (List.mem_of_getElem? he) e' ces ces' H' g2 g2'
  obtain ⟨sve,rfl,_⟩:=Dat.Rep_iff.1 g2
  obtain ⟨sve',rfl,_⟩:=Dat.Rep_iff.1 g2'
  refine ⟨fun _=>?_,_,htags,by simp only [evs,evb];exact g3,fun _=>?_,_,htags',by simp only [evs,evb];exact g3',?_⟩
  ·simp only [Chk.holds,evs,evb];exact ⟨g1,by omega,by omega⟩
  ·simp only [Chk.holds,evs,evb];exact ⟨g1',by omega,by omega⟩
  refine Z1y [.bool (decide (e=e'))] rfl zjj hcall rfl z06 fun H2 h2=>⟨fun h6=>?_,fun h6=>?_⟩
  ·simp only [evs,evb,Bool.not_eq_true',zdf] at h6
   refine ⟨?_,PH.le_trans hle h2⟩
   have:¬l=m:=fun x=>h6 (by subst x;rw [he] at he';exact Option.some.inj he')
   simp only [evs,evb,decide_eq_false this]
  ·simp only [evs,evb,Bool.not_eq_false',zdt] at h6
   refine ⟨_,z05,n - 1,by omega,k+1,?_,by omega,zxd htk he he' h6,PH.le_trans hle h2⟩
   simp only [evs,evb]
   rw [w64 (by omega) (by omega)]
   rfl
 ·simp only [evs,evb,zdf] at h5
  refine ⟨?_,hle⟩
  have:l=m:=by rw [List.take_of_length_le (by omega),List.take_of_length_le (by omega)] at htk;exact htk
  simp only [evs,evb,decide_eq_true this]
theorem zz6:∀a,Z3g z8s a:=by
 refine Dat.ind ?_
 intro a ih b ca cb H ha hb
 obtain ⟨s1,rfl,_,_,_,hs1⟩:=Dat.Rep_iff.1 ha
 obtain ⟨s2,rfl,_,_,_,hs2⟩:=Dat.Rep_iff.1 hb
 have hcall:=zp2 a.list b.list s1 s2 H hs1 hs2 ih
 obtain ⟨b1,c1,rfl⟩:=hs1.sl
 obtain ⟨b2,c2,rfl⟩:=hs2.sl
 refine zr8 [.int .i64 a.kind,.int .i64 a.int,txt a.text,.slice b1 a.list.length c1,.int .i64 b.kind,.int .i64 b.int,txt b.text,.slice b2 b.list.length c2] (by kernel_rfl) (by kernel_rfl) ?_
 refine ⟨fun vs H'=>vs=[.bool (decide (a=b))]∧PH.le H H',?_,?_⟩
 ·rintro vs H' _ ⟨rfl,h⟩;exact ⟨rfl,h⟩
 refine ⟨fun h=>?_,fun h=>?_⟩
 ·simp only [evs,evb,z1b] at h
  simp only [zba,zdt] at h
  refine z0b [.bool (decide (a.list=b.list))] z24 hcall rfl z06 fun H2 h2=>⟨_,z05,?_,h2⟩
  have:(a=b)↔a.list=b.list:=by rw [Dat.eq_iff];simp [h.1.1,h.1.2,h.2]
  simp only [evs,evb,decide_eq_decide.2 this]
 ·simp only [evs,evb,z1b] at h
  refine ⟨_,z05,?_,PH.le_refl H⟩
  have:¬a=b:=fun e=>by subst e;simp at h
  simp only [evs,evb,decide_eq_false this]
theorem repI_iff {H:PH} {n:Int} {v:Value}:PV.Rep H (.int .i64 n) v↔v=.int .i64 n∧InI n:=by
 simp only [PV.Rep];exact ⟨fun h=>⟨h.1,inI64.1 h.2⟩,fun h=>⟨h.1,inI64.2 h.2⟩⟩
theorem zni {H:PH} {s:List UInt8} {v:Value}:PV.Rep H (.str s) v↔v=txt s∧s.length≤maxLen:=by
 simp only [PV.Rep]
abbrev nI (j:Nat):Value:=.int .i64 (j:Int)
theorem csIK {H:PH} {a:Int} {cs:List Value} (h:CsR H a cs):cs=[.int .i64 a]∧InI a:=by
 have h':PV.RepRow H [.int .i64 a] cs:=h
 simp only [PV.RepRow,repI_iff] at h'
 obtain ⟨v,vs,rfl,⟨rfl,h1⟩,rfl⟩:=h'
 exact ⟨rfl,h1⟩
theorem Z2y {H:PH} {b:Bool} {v:Value}:PV.Rep H (.bool b) v↔v=.bool b:=by simp only [PV.Rep]
structure InsR where
 op:Int
 a:Int
 b:Int
 c:Int
 n:Int
deriving DecidableEq
structure ItemR where
 kind:Int
 x:InsR
 label:Int
 n:Int
deriving DecidableEq
structure W32 where
 n:Int
deriving DecidableEq
structure FrmR where
 a:Bool
 b:Bool
 c:Bool
 bits:Nat
 least:Int
 most:Int
deriving DecidableEq
def oneF:FrmR:=⟨true,false,false,0,0,0⟩
def z2s:FrmR:=⟨true,true,true,0,0,0⟩
def withF:FrmR:=⟨true,true,false,16,-32768,32767⟩
def zgu:FrmR:=⟨true,true,false,16,0,65535⟩
def farF:FrmR:=⟨true,true,false,16,0,63⟩
def z3m:FrmR:=⟨true,true,false,10,-512,511⟩
def rowsR:List FrmR:=
  [oneF,z2s,z2s,z2s,z2s,z2s,z2s,z2s,z2s,z2s,z2s,z2s,z2s,z2s,z2s,
   withF,zgu,zgu,farF,farF,⟨true,false,false,16,-32768,32767⟩,⟨true,false,false,16,0,65535⟩,withF,withF,
   z3m,z3m,z3m,z3m,⟨true,false,false,21,-1048576,1048575⟩,⟨true,true,false,0,0,0⟩,oneF,oneF]
def frmR (op:Int):FrmR:=rowsR.getD op.toNat oneF
def regR (n:Int) (has:Bool):Bool:=if has=true then decide (0≤n) && decide (n≤31) else decide (n=0)
def wordR (x:InsR) (m:Int):Int:=x.op * 67108864+x.a * 2097152+x.b * 65536+x.c * 2048+m
def fitsR (x:InsR):Bool:=regR x.a (frmR x.op).a && regR x.b (frmR x.op).b && regR x.c (frmR x.op).c && decide ((frmR x.op).least≤x.n) && decide (x.n≤(frmR x.op).most)
def encR (x:InsR):Option Int:=
 if x.op < 0∨32≤x.op then none
 else if fitsR x=true then some (wordR x (if x.n < 0 then x.n+2 ^ (frmR x.op).bits else x.n))
 else none
def numOf (f:FrmR) (w:Int):Int:=
 if f.bits=0 then 0
 else if f.most < w % 2 ^ f.bits∧f.least < 0 then w % 2 ^ f.bits - 2 ^ f.bits
 else w % 2 ^ f.bits
def z95 (w:Int):InsR:=
 ⟨w / 67108864,w / 2097152 % 32,if (frmR (w / 67108864)).b=true then w / 65536 % 32 else 0,if (frmR (w / 67108864)).c=true then w / 2048 % 32 else 0,numOf (frmR (w / 67108864)) w⟩
def decR (w:Int):Option InsR:=
 if 32≤w / 67108864 then none
 else if encR (z95 w)=some w then some (z95 w)
 else none
structure MaR where
 value:Int
 steps:Int
 pc:Int
 regs:List Int
 mem:List Int
 input:List UInt8
 out:List UInt8
def MaR.reg (m:MaR) (r:Int):Int:=m.regs.getD r.toNat 0
def MaR.put (m:MaR) (r v:Int) (to:Int):MaR:={ m with regs:=if r=0 then m.regs else m.regs.set r.toNat v,pc:=to,steps:=m.steps+1 }
def MaR.goes (m:MaR) (to:Int):MaR:={ m with pc:=to,steps:=m.steps+1 }
def u64 (n:Int):Int:=IntKind.u64.wrap n
def mulhR (b c:Int):Int:=(b * c).fdiv (2 ^ 64)
def thrR (op b c:Int):Int:=
 if op=1 then arI .add .i64 b c
 else if op=2 then arI .sub .i64 b c
 else if op=3 then arI .mul .i64 b c
 else if op=4 then mulhR b c
 else if op=5 then arI .quo .i64 b c
 else if op=6 then b.tmod c
 else if op=7 then arI .and .i64 b c
 else if op=8 then arI .or .i64 b c
 else if op=9 then arI .xor .i64 b c
 else if op=10 then arI .shl .i64 b (arI .and .i64 c 63)
 else if op=11 then arI .shr .i64 b (arI .and .i64 c 63)
 else if op=12 then IntKind.i64.wrap (arI .shr .u64 (u64 b) (arI .and .i64 c 63))
 else if op=13 then (if b < c then 1 else 0)
 else if u64 b < u64 c then 1 else 0
def zor (op a b:Int):Bool:=(decide (op=24) && decide (a=b)) || (decide (op=25) && decide (a≠b)) || (decide (op=26) && decide (a < b)) || (decide (op=27) && decide (b≤a))
def stR (m:MaR) (x:InsR):Int×MaR:=
  if x.op=0 then (0,{ m with value:=m.reg x.a,steps:=m.steps+1 })
  else if (x.op=5∨x.op=6)∧m.reg x.c=0 then (4,m)
  else if x.op=15 then (6,m.put x.a (arI .add .i64 (m.reg x.b) x.n) (m.pc+1))
  else if x.op=16 then (6,m.put x.a (arI .and .i64 (m.reg x.b) x.n) (m.pc+1))
  else if x.op=17 then (6,m.put x.a (arI .or .i64 (m.reg x.b) x.n) (m.pc+1))
  else if x.op=18 then (6,m.put x.a (arI .shl .i64 (m.reg x.b) x.n) (m.pc+1))
  else if x.op=19 then (6,m.put x.a (arI .shr .i64 (m.reg x.b) x.n) (m.pc+1))
  else if x.op=20 then (6,m.put x.a x.n (m.pc+1))
  else if x.op=21 then (6,m.put x.a (arI .or .i64 (arI .mul .i64 (m.reg x.a) 65536) x.n) (m.pc+1))
  else if x.op=22∨x.op=23 then
    (if arI .add .i64 (m.reg x.b) x.n < 0∨(m.mem.length:Int)≤arI .add .i64 (m.reg x.b) x.n then (2,m)
     else if x.op=23 then (6,{ m.goes (m.pc+1) with mem:=m.mem.set (arI .add .i64 (m.reg x.b) x.n).toNat (m.reg x.a) })
     else (6,m.put x.a (m.mem.getD (arI .add .i64 (m.reg x.b) x.n).toNat 0) (m.pc+1)))
  else if x.op=24∨x.op=25∨x.op=26∨x.op=27 then (6,m.goes (if zor x.op (m.reg x.a) (m.reg x.b)=true then m.pc+x.n else m.pc+1))
  else if x.op=28 then (6,m.put x.a (m.pc+1) (m.pc+x.n))
  else if x.op=29 then (6,m.put x.a (m.pc+1) (m.reg x.b))
  else if x.op=30 then (6,{ m.put x.a (match m.input with | []=>-1 | c::_=>(c.toNat:Int)) (m.pc+1) with input:=m.input.drop 1 })
  else if x.op=31 then
    (if m.reg x.a < 0∨255 < m.reg x.a then (5,m) else (6,{ m.goes (m.pc+1) with out:=m.out++[UInt8.ofNat (m.reg x.a).toNat] }))
  else (6,m.put x.a (thrR x.op (m.reg x.b) (m.reg x.c)) (m.pc+1))
def goR (code:List W32):Nat→MaR→Int×MaR
 | 0,m=>(6,m)
 | k+1,m=>
  if m.pc < 0∨(code.length:Int)≤m.pc then (3,m)
  else match decR (code.getD m.pc.toNat ⟨0⟩).n with
   | none=>(1,m)
   | some x=>if (stR m x).1=6 then goR code k (stR m x).2 else stR m x
structure ImgR where
 code:List W32
 mem:List Int
 words:Int
structure HaltR where
 state:Int
 value:Int
 out:List UInt8
 steps:Int
 pc:Int
 regs:List Int
 mem:List Int
def zv2:List Int:=List.replicate 32 0
def z52 (i:ImgR) (input:List UInt8):MaR:=⟨0,0,0,zv2,i.mem++List.replicate (i.words.toNat - i.mem.length) 0,input,[]⟩
def z8y (s:Int×MaR):HaltR:=⟨s.1,s.2.value,s.2.out,s.2.steps,s.2.pc,s.2.regs,s.2.mem⟩
def noImg:HaltR:=⟨7,0,[],0,0,zv2,[]⟩
def zoy (i:ImgR) (steps:Int):Bool:=decide (i.words < 0) || decide (1048576 < i.words) || decide (1048576 < (i.code.length:Int)) || decide (i.words < (i.mem.length:Int)) || decide (steps < 0)
def runR (i:ImgR) (input:List UInt8) (steps:Int):HaltR:=
 if zoy i steps=true then noImg else z8y (goR i.code steps.toNat (z52 i input))
def z2f (x:ItemR):Bool:=decide (x.kind=2) || decide (x.kind=3) || decide (x.kind=5)
def ins0:InsR:=⟨0,0,0,0,0⟩
def mayR (x:ItemR):Bool:=
 if x.kind=0 then (encR x.x).isSome && decide (x.label=0) && decide (x.n=0)
 else if x.kind=1 then decide (x.x=ins0) && decide (x.n=0)
 else if x.kind=2 then (encR x.x).isSome && decide (24≤x.x.op) && decide (x.x.op≤27) && decide (x.x.n=0) && decide (x.n=0)
 else if x.kind=3 then (encR x.x).isSome && decide (x.x.op=28) && decide (x.x.n=0) && decide (x.n=0)
 else if x.kind=4 then (encR x.x).isSome && decide (x.x.op=20) && decide (x.x.n=0) && decide (x.label=0)
 else if x.kind=5 then (encR x.x).isSome && decide (x.x.op=20) && decide (x.x.n=0) && decide (x.n=0)
 else false
def isLab (label:Int) (x:ItemR):Bool:=decide (x.kind=1) && decide (x.label=label)
def findR (l:List ItemR) (label:Int):Option Nat:=l.findIdx? (isLab label)
def shrR (n:Int) (k:Nat):Int:=n.fdiv (2 ^ k)
def z2m (n:Int):Nat:=
 if -32768≤n∧n≤32767 then 1
 else if -32768≤shrR n 16∧shrR n 16≤32767 then 2
 else if -32768≤shrR n 32∧shrR n 32≤32767 then 3
 else 4
def restR (r n:Int):Nat→List InsR
 | 0=>[]
 | k+1=>⟨21,r,0,0,shrR n (16 * k) % 65536⟩::restR r n k
def numR (r n:Int) (k:Nat):List InsR:=⟨20,r,0,0,(shrR n (16 * (k - 1))+32768) % 65536 - 32768⟩::restR r n (k - 1)
def sizeR (x:ItemR) (long:Bool):Nat:=
 if x.kind=1 then 0
 else if x.kind=2 then (if long=true then 2 else 1)
 else if x.kind=4 then z2m x.n
 else if x.kind=5 then 2
 else 1
def z19:Nat→List ItemR→List Bool→List Nat
 | at_,x::l,b::long=>at_::z19 (at_+sizeR x b) l long
 | at_,_,_=>[at_]
def zaa (op:Int):Int:=if op=24 then 25 else if op=25 then 24 else if op=26 then 27 else 26
def z45 (x:ItemR) (long:Bool) (at_ to:Int):List InsR:=
 if x.kind=0 then [x.x]
 else if x.kind=2 then (if long=true then [⟨zaa x.x.op,x.x.a,x.x.b,0,2⟩,⟨28,0,0,0,to - at_ - 1⟩] else [⟨x.x.op,x.x.a,x.x.b,0,to - at_⟩])
 else if x.kind=3 then [⟨28,x.x.a,0,0,to - at_⟩]
 else if x.kind=4 then numR x.x.a x.n (z2m x.n)
 else if x.kind=5 then numR x.x.a to 2
 else []
def toR (l:List ItemR) (p:List Nat) (x:ItemR):Int:=if z2f x=true then ((p.getD ((findR l x.label).getD 0) 0:Nat):Int) else 0
def farR (l:List ItemR) (p:List Nat) (i:Nat) (x:ItemR):Bool:=
 decide (x.kind=2) && (decide (toR l p x - ((p.getD i 0:Nat):Int) < -512) || decide (511 < toR l p x - ((p.getD i 0:Nat):Int)))
def growR (l:List ItemR) (p:List Nat) (long:List Bool):List Bool:=(l.zipIdx.zip long).map fun x=>x.2 || farR l p x.1.2 x.1.1
def layR (l:List ItemR):Nat→List Bool→List Bool
 | 0,long=>long
 | k+1,long=>if growR l (z19 0 l long) long=long then long else layR l k (growR l (z19 0 l long) long)
def longR (l:List ItemR):List Bool:=layR l (l.length+1) (l.map fun _=>false)
def z91 (x:InsR):W32:=⟨(encR x).getD 0⟩
def codeR (l:List ItemR) (long:List Bool) (p:List Nat):List W32:=
 (l.zipIdx.zip long).flatMap fun x=>(z45 x.1.1 x.2 ((p.getD x.1.2 0:Nat):Int) (toR l p x.1.1)).map z91
def badR:List ItemR→List ItemR→Nat
 | _,[]=>0
 | seen,x::l=>if mayR x=false then 1 else if x.kind=1∧(findR seen x.label).isSome=true then 2 else badR (seen++[x]) l
inductive AsmE where
 | many | form | twice | none_
deriving DecidableEq
def asmR (l:List ItemR):Except AsmE (List W32×List Nat):=
 if 65536 < l.length then .error .many
 else if badR [] l=1 then .error .form
 else if badR [] l=2 then .error .twice
 else if l.any (fun x=>z2f x && (findR l x.label).isNone)=true then .error .none_
 else .ok (codeR l (longR l) (z19 0 l (longR l)),(z19 0 l (longR l)).take l.length)
instance encInsR:Enc InsR:=⟨fun x=>[.int .i64 x.op,.int .i64 x.a,.int .i64 x.b,.int .i64 x.c,.int .i64 x.n],5,fun _=>rfl⟩
instance encItemR:Enc ItemR:=⟨fun x=>[.int .i64 x.kind,.int .i64 x.x.op,.int .i64 x.x.a,.int .i64 x.x.b,.int .i64 x.x.c,.int .i64 x.x.n,.int .i64 x.label,.int .i64 x.n],8,fun _=>rfl⟩
instance encW32:Enc W32:=⟨fun w=>[.int .u32 w.n],1,fun _=>rfl⟩
instance encFrmR:Enc FrmR:=⟨fun f=>[.bool f.a,.bool f.b,.bool f.c,.int .u64 (f.bits:Int),.int .i64 f.least,.int .i64 f.most],6,fun _=>rfl⟩
abbrev insV (x:InsR):List Value:=[.int .i64 x.op,.int .i64 x.a,.int .i64 x.b,.int .i64 x.c,.int .i64 x.n]
abbrev itemV (x:ItemR):List Value:=[.int .i64 x.kind,.int .i64 x.x.op,.int .i64 x.x.a,.int .i64 x.x.b,.int .i64 x.x.c,.int .i64 x.x.n,.int .i64 x.label,.int .i64 x.n]
abbrev frmV (f:FrmR):List Value:=[.bool f.a,.bool f.b,.bool f.c,.int .u64 (f.bits:Int),.int .i64 f.least,.int .i64 f.most]
structure InI5 (x:InsR):Prop where
 op:InI x.op
 a:InI x.a
 b:InI x.b
 c:InI x.c
 n:InI x.n
structure InI8 (i:ItemR):Prop where
 kind:InI i.kind
 x:InI5 i.x
 label:InI i.label
 n:InI i.n
def InU (n:Int):Prop:=0≤n∧n≤4294967295
theorem inU {n:Int}:IntKind.u32.min≤n∧n≤IntKind.u32.max↔InU n:=Iff.rfl
theorem Z6o {H:PH} {n:Int} {v:Value}:PV.Rep H (.int .u32 n) v↔v=.int .u32 n∧InU n:=by
 simp only [PV.Rep];exact ⟨fun h=>⟨h.1,inU.1 h.2⟩,fun h=>⟨h.1,inU.2 h.2⟩⟩
theorem insR_iff {H:PH} {x:InsR} {cs:List Value}:CsR H x cs↔cs=insV x∧InI5 x:=by
 show PV.RepRow H [.int .i64 x.op,.int .i64 x.a,.int .i64 x.b,.int .i64 x.c,.int .i64 x.n] cs↔_
 simp only [PV.RepRow,repI_iff]
 constructor
 ·rintro ⟨_,_,rfl,⟨rfl,h1⟩,_,_,rfl,⟨rfl,h2⟩,_,_,rfl,⟨rfl,h3⟩,_,_,rfl,⟨rfl,h4⟩,_,_,rfl,⟨rfl,h5⟩,rfl⟩
  exact ⟨rfl,h1,h2,h3,h4,h5⟩
 ·rintro ⟨rfl,h1,h2,h3,h4,h5⟩
  exact ⟨_,_,rfl,⟨rfl,h1⟩,_,_,rfl,⟨rfl,h2⟩,_,_,rfl,⟨rfl,h3⟩,_,_,rfl,⟨rfl,h4⟩,_,_,rfl,⟨rfl,h5⟩,rfl⟩
theorem itemR_iff {H:PH} {x:ItemR} {cs:List Value}:CsR H x cs↔cs=itemV x∧InI8 x:=by
 show PV.RepRow H [.int .i64 x.kind,.int .i64 x.x.op,.int .i64 x.x.a,.int .i64 x.x.b,.int .i64 x.x.c,.int .i64 x.x.n,.int .i64 x.label,.int .i64 x.n] cs↔_
 simp only [PV.RepRow,repI_iff]
 constructor
 ·rintro ⟨_,_,rfl,⟨rfl,h1⟩,_,_,rfl,⟨rfl,h2⟩,_,_,rfl,⟨rfl,h3⟩,_,_,rfl,⟨rfl,h4⟩,_,_,rfl,⟨rfl,h5⟩,_,_,rfl,⟨rfl,h6⟩,_,_,rfl,⟨rfl,h7⟩,_,_,rfl,⟨rfl,h8⟩,rfl⟩
  exact ⟨rfl,h1,⟨h2,h3,h4,h5,h6⟩,h7,h8⟩
 ·rintro ⟨rfl,h1,⟨h2,h3,h4,h5,h6⟩,h7,h8⟩
  exact ⟨_,_,rfl,⟨rfl,h1⟩,_,_,rfl,⟨rfl,h2⟩,_,_,rfl,⟨rfl,h3⟩,_,_,rfl,⟨rfl,h4⟩,_,_,rfl,⟨rfl,h5⟩,_,_,rfl,⟨rfl,h6⟩,_,_,rfl,⟨rfl,h7⟩,_,_,rfl,⟨rfl,h8⟩,rfl⟩
theorem w32_iff {H:PH} {w:W32} {cs:List Value}:CsR H w cs↔cs=[.int .u32 w.n]∧InU w.n:=by
 show PV.RepRow H [.int .u32 w.n] cs↔_
 simp only [PV.RepRow,Z6o]
 constructor
 ·rintro ⟨_,_,rfl,⟨rfl,h1⟩,rfl⟩;exact ⟨rfl,h1⟩
 ·rintro ⟨rfl,h1⟩;exact ⟨_,_,rfl,⟨rfl,h1⟩,rfl⟩
theorem zc0:Tryz.prog.underlying 159=some (.slice 162):=by kernel_rfl
theorem z7e:ElemOk Tryz.prog 162 6 32=true:=by kernel_rfl
theorem Z8s {H:PH} {f:FrmR} (h0:f.bits≤100) (h1:InI f.least) (h2:InI f.most):CsR H f (frmV f):=by
 show PV.RepRow H [.bool f.a,.bool f.b,.bool f.c,.int .u64 (f.bits:Int),.int .i64 f.least,.int .i64 f.most] _
 simp only [PV.RepRow,repI_iff,Z2y,PV.Rep]
 have h3:IntKind.u64.min=0:=rfl
 have h4:IntKind.u64.max=18446744073709551615:=rfl
 exact ⟨_,_,rfl,rfl,_,_,rfl,rfl,_,_,rfl,rfl,_,_,rfl,⟨rfl,by omega,by omega⟩,_,_,rfl,⟨rfl,h1⟩,_,_,rfl,⟨rfl,h2⟩,rfl⟩
theorem z1w {H:PH} (f:FrmR) (h0:f.bits≤100) (h1:InI f.least) (h2:InI f.most) {v:Value} (hv:v.cells.toList=frmV f):CsR H f v.cells.toList:=by rw [hv];exact Z8s h0 h1 h2
theorem zpx (S:PH):Tri Tryz.prog zgr #[] S fun x S'=>PH.le S S'∧∃v,x=.returned v∧SlR S' rowsR v:=by
 refine zdp [] (by kernel_rfl) (by kernel_rfl) ?_
 have h0:Held S S []:=Held.nil (PH.le_refl _)
 have hb:∀{f:FrmR},f.least=0∨f.least=-32768∨f.least=-512∨f.least=-1048576→InI f.least:=fun h=>by unfold InI;omega
 refine z0x (α:=FrmR) (l:=[oneF]) (b:=32) [.agg (frmV oneF).toArray] zc0 z7e rfl (by decide) (by decide) h0 (by kernel_rfl) (.cons (z1w _ (by decide) (by decide) (by decide) rfl) .nil) z06 fun v1 K1 h1 l1 _=>?_
 simp only [List.cons_append,List.nil_append]
 refine ⟨fun n vs K2=>∃(k:Nat) (u:Value) (S2:PH),k+n=14∧vs=[u,nI k]∧PH.le S S2∧Held S2 K2 [orow 162 (oneF::List.replicate k z2s) u],⟨14,0,v1,S,by omega,rfl,PH.le_refl _,h1⟩,?_⟩
 rintro n vs K2 _ ⟨k,u,S2,hkn,rfl,l2,h2⟩
 simp only [List.cons_append,List.nil_append]
 refine ⟨fun g=>?_,fun g=>?_⟩
 ·simp only [ev0,ev,evV,List.cons_append,List.nil_append,List.getD_cons_zero,List.getD_cons_succ,List.map_cons,List.map_nil,iOf,bOf,sOf,pOf,slLen,z04,cmpI,arI,Value.ite_bool,z03,z02,z00,z01,zdt] at g
  refine z1o (b:=32) (more:=[z2s]) [.agg (frmV z2s).toArray] zc0 z7e rfl (by decide) (by decide) h2 (by kernel_rfl) (.cons (z1w _ (by decide) (by decide) (by decide) rfl) .nil) z06 (fun w=>by kernel_rfl) (fun w=>by kernel_rfl)
   (by simp only [maxLen,zlc,List.length_replicate,List.length_nil];omega) (by simp only [zlc,List.length_replicate,List.length_nil];omega) fun w v6 S6 K6 l6 h6=>⟨z06,?_⟩
  refine ⟨_,z05,n - 1,by omega,k+1,v6,S6,by omega,?_,PH.le_trans l2 l6,?_⟩
  ·have hw:IntKind.i64.wrap ((k:Int)+1)=((k+1:Nat):Int):=by rw [w64 (by omega) (by omega)];rfl
   simp only [ev0,ev,evV,List.cons_append,List.nil_append,List.getD_cons_zero,List.getD_cons_succ,List.map_cons,List.map_nil,iOf,bOf,sOf,pOf,slLen,z04,cmpI,arI,Value.ite_bool,z03,z02,z00,z01,hw]
  ·rw [List.cons_append,←List.replicate_succ'] at h6;exact h6
 ·simp only [ev0,ev,evV,List.cons_append,List.nil_append,List.getD_cons_zero,List.getD_cons_succ,List.map_cons,List.map_nil,iOf,bOf,sOf,pOf,slLen,z04,cmpI,arI,Value.ite_bool,z03,z02,z00,z01,zdf] at g
  have hk:k=14:=by omega
  subst hk
  refine z1o (b:=32) (more:=[withF,zgu,zgu,farF,farF]) [.agg (frmV withF).toArray,.agg (frmV zgu).toArray,.agg (frmV zgu).toArray,.agg (frmV farF).toArray,.agg (frmV farF).toArray] zc0 z7e rfl (by decide) (by decide) h2 (by kernel_rfl) (.cons (z1w _ (by decide) (by decide) (by decide) rfl) (.cons (z1w _ (by decide) (by decide) (by decide) rfl) (.cons (z1w _ (by decide) (by decide) (by decide) rfl) (.cons (z1w _ (by decide) (by decide) (by decide) rfl) (.cons (z1w _ (by decide) (by decide) (by decide) rfl) .nil))))) z06 (fun w=>by kernel_rfl) (fun w=>by kernel_rfl)
   (by decide) (by decide) fun w v6 S6 K6 l6 h6=>⟨z06,?_⟩
  refine z1o (b:=32) (more:=[⟨true,false,false,16,-32768,32767⟩,⟨true,false,false,16,0,65535⟩,withF,withF]) [.agg (frmV ⟨true,false,false,16,-32768,32767⟩).toArray,.agg (frmV ⟨true,false,false,16,0,65535⟩).toArray,.agg (frmV withF).toArray,.agg (frmV withF).toArray] zc0 z7e rfl (by decide) (by decide) h6 (by kernel_rfl) (.cons (z1w _ (by decide) (by decide) (by decide) rfl) (.cons (z1w _ (by decide) (by decide) (by decide) rfl) (.cons (z1w _ (by decide) (by decide) (by decide) rfl) (.cons (z1w _ (by decide) (by decide) (by decide) rfl) .nil)))) z06 (fun w=>by kernel_rfl) (fun w=>by kernel_rfl)
   (by decide) (by decide) fun w7 v7 S7 K7 l7 h7=>⟨z06,?_⟩
  refine z1o (b:=32) (more:=[z3m,z3m,z3m,z3m]) [.agg (frmV z3m).toArray,.agg (frmV z3m).toArray,.agg (frmV z3m).toArray,.agg (frmV z3m).toArray] zc0 z7e rfl (by decide) (by decide) h7 (by kernel_rfl) (.cons (z1w _ (by decide) (by decide) (by decide) rfl) (.cons (z1w _ (by decide) (by decide) (by decide) rfl) (.cons (z1w _ (by decide) (by decide) (by decide) rfl) (.cons (z1w _ (by decide) (by decide) (by decide) rfl) .nil)))) z06 (fun w=>by kernel_rfl) (fun w=>by kernel_rfl)
   (by decide) (by decide) fun w8 v8 S8 K8 l8 h8=>⟨z06,?_⟩
  refine z1o (b:=32) (more:=[⟨true,false,false,21,-1048576,1048575⟩,⟨true,true,false,0,0,0⟩,oneF,oneF]) [.agg (frmV ⟨true,false,false,21,-1048576,1048575⟩).toArray,.agg (frmV ⟨true,true,false,0,0,0⟩).toArray,.agg (frmV oneF).toArray,.agg (frmV oneF).toArray] zc0 z7e rfl (by decide) (by decide) h8 (by kernel_rfl) (.cons (z1w _ (by decide) (by decide) (by decide) rfl) (.cons (z1w _ (by decide) (by decide) (by decide) rfl) (.cons (z1w _ (by decide) (by decide) (by decide) rfl) (.cons (z1w _ (by decide) (by decide) (by decide) rfl) .nil)))) z06 (fun w=>by kernel_rfl) (fun w=>by kernel_rfl)
   (by decide) (by decide) fun w9 v9 S9 K9 l9 h9=>⟨z06,?_⟩
  obtain ⟨S',s1,s2,s3⟩:=h9.freeze
  exact ⟨PH.le_trans l2 (PH.le_trans l6 (PH.le_trans l7 (PH.le_trans l8 (PH.le_trans l9 (PH.le_trans s2 s3.sh))))),v9,rfl,s1.le s3.sh⟩
theorem Z5d {H:PH} {f:FrmR} {cs:List Value} (h:CsR H f cs):cs=frmV f:=by
 have h':PV.RepRow H [.bool f.a,.bool f.b,.bool f.c,.int .u64 (f.bits:Int),.int .i64 f.least,.int .i64 f.most] cs:=h
 simp only [PV.RepRow,PV.Rep] at h'
 obtain ⟨_,_,rfl,rfl,_,_,rfl,rfl,_,_,rfl,rfl,_,_,rfl,⟨rfl,_⟩,_,_,rfl,⟨rfl,_⟩,_,_,rfl,⟨rfl,_⟩,rfl⟩:=h'
 rfl
structure FrmOk (f:FrmR):Prop where
 bits:f.bits=0∨f.bits=10∨f.bits=16∨f.bits=21
 least:-1048576≤f.least∧f.least≤0
 most:0≤f.most∧f.most≤1048575
 lo:f.bits=0→f.least=0∧f.most=0
 fit:f.bits≠0→f.most < 2 ^ f.bits∧- 2 ^ f.bits≤f.least
instance (f:FrmR):Decidable (FrmOk f):=
 if h:(f.bits=0∨f.bits=10∨f.bits=16∨f.bits=21)∧(-1048576≤f.least∧f.least≤0)∧(0≤f.most∧f.most≤1048575)∧(f.bits=0→f.least=0∧f.most=0)∧(f.bits≠0→f.most < 2 ^ f.bits∧- 2 ^ f.bits≤f.least) then .isTrue ⟨h.1,h.2.1,h.2.2.1,h.2.2.2.1,h.2.2.2.2⟩
 else .isFalse fun k=>h ⟨k.bits,k.least,k.most,k.lo,k.fit⟩
theorem Z8d:∀f∈rowsR,FrmOk f:=by decide +kernel
theorem zzz {op:Int} (h0:0≤op) (h1:op < 32):rowsR[op.toNat]?=some (frmR op):=by
 have hl:op.toNat < rowsR.length:=by show op.toNat < 32;omega
 rw [zge hl]
 unfold frmR
 rw [zgd,zge hl];rfl
theorem zk8 (op:Int):FrmOk (frmR op):=by
 unfold frmR
 rw [zgd]
 cases h:rowsR[op.toNat]? with
 | none=>exact (by decide +kernel:FrmOk oneF)
 | some f=>exact Z8d f (List.mem_of_getElem? h)
theorem zg3 (n:Int) (has:Bool) (H:PH):Gives Tryz.prog zif [.int .i64 n,.bool has] H (.bool (regR n has)):=by
 refine zg0 [.int .i64 n,.bool has] (by kernel_rfl) (by kernel_rfl) ?_
 unfold regR
 refine ⟨fun g=>?_,fun g=>?_⟩
 ·simp only [ev0,ev,evV,List.cons_append,List.nil_append,List.getD_cons_zero,List.getD_cons_succ,List.map_cons,List.map_nil,iOf,bOf,sOf,pOf,slLen,z04,cmpI,arI,Value.ite_bool,z03,z02,z00,z01,Bool.not_eq_true'] at g
  subst g
  exact ⟨by simp [ev0,ev,evV,List.cons_append,List.nil_append,List.getD_cons_zero,List.getD_cons_succ,List.map_cons,List.map_nil,iOf,bOf,sOf,pOf,slLen,z04,cmpI,arI,Value.ite_bool,z03,z02,z00,z01],PH.le_refl _⟩
 ·simp only [ev0,ev,evV,List.cons_append,List.nil_append,List.getD_cons_zero,List.getD_cons_succ,List.map_cons,List.map_nil,iOf,bOf,sOf,pOf,slLen,z04,cmpI,arI,Value.ite_bool,z03,z02,z00,z01,Bool.not_eq_false'] at g
  subst g
  exact ⟨by simp [ev0,ev,evV,List.cons_append,List.nil_append,List.getD_cons_zero,List.getD_cons_succ,List.map_cons,List.map_nil,iOf,bOf,sOf,pOf,slLen,z04,cmpI,arI,Value.ite_bool,z03,z02,z00,z01],PH.le_refl _⟩
def encE:Option Int→Int
 | some _=>0
 | none=>200
abbrev encV (o:Option Int):Value:=.tuple #[.int .u32 (o.getD 0),.int .i64 (encE o)]
theorem wu32 {n:Int} (h0:0≤n) (h1:n≤4294967295):IntKind.u32.wrap n=n:=by
 simp only [IntKind.wrap,IntKind.bits,IntKind.signed];simp;omega
theorem wu64 {n:Int} (h0:0≤n) (h1:n≤18446744073709551615):IntKind.u64.wrap n=n:=by
 simp only [IntKind.wrap,IntKind.bits,IntKind.signed];simp;omega
theorem zhk {n:Int} {b:Bool} (h:regR n b=true):0≤n∧n≤31:=by
 unfold regR at h
 split at h
 ·simpa using h
 ·have:n=0:=by simpa using h
  omega
theorem shl1 {k:Nat} (h:k=0∨k=10∨k=16∨k=21):arI .shl .i64 1 (k:Int)=2 ^ k:=by
 rcases h with rfl | rfl | rfl | rfl<;>decide
theorem z9f (x:InsR) (H:PH) (hx:InI5 x):Gives Tryz.prog ze9 [.agg (insV x).toArray] H (encV (encR x)):=by
 refine zb7 (insV x) (by kernel_rfl) (by kernel_rfl) ?_
 refine z0a z6b (zpx H) ?_
 rintro e K ⟨l1,v,rfl,hv⟩
 obtain ⟨rb,rc,rfl⟩:=hv.sl
 refine ⟨_,[.slice rb rowsR.length rc],rfl,rfl,rfl,z06,?_⟩
 have hrl:rowsR.length=32:=rfl
 simp only [List.cons_append,List.nil_append]
 refine ⟨fun g=>?_,fun g=>?_⟩
 ·simp only [ev0,ev,evV,List.cons_append,List.nil_append,List.getD_cons_zero,List.getD_cons_succ,List.map_cons,List.map_nil,iOf,bOf,sOf,pOf,slLen,z04,cmpI,arI,Value.ite_bool,z03,z02,z00,z01] at g
  simp only [Bool.or_eq_true,zdt,hrl] at g
  have:encR x=none:=by unfold encR;rw [if_pos (show x.op < 0∨32≤x.op by omega)]
  rw [this];exact ⟨rfl,l1⟩
 ·simp only [ev0,ev,evV,List.cons_append,List.nil_append,List.getD_cons_zero,List.getD_cons_succ,List.map_cons,List.map_nil,iOf,bOf,sOf,pOf,slLen,z04,cmpI,arI,Value.ite_bool,z03,z02,z00,z01,Bool.or_eq_false_iff,zdf,hrl] at g
  have hop:0≤x.op∧x.op < 32:=by omega
  obtain ⟨y1,yn,ycs,y2,y3⟩:=hv.get (zzz hop.1 hop.2)
  have:=Z5d y2
  subst this
  have hj:((x.op.toNat:Nat):Int)=x.op:=Int.toNat_of_nonneg hop.1
  rw [hj] at y3 yn
  have hok:=zk8 x.op
  generalize hf:frmR x.op=f at *
  have he:encR x=if fitsR x=true then some (wordR x (if x.n < 0 then x.n+2 ^ f.bits else x.n)) else none:=by
   unfold encR;rw [if_neg (show ¬(x.op < 0∨32≤x.op) by omega),hf]
  refine ⟨fun _=>?_,frmV f,rfl,?_,?_⟩
  ·simp only [Chk.holds,ev0,ev,evV,List.cons_append,List.nil_append,List.getD_cons_zero,List.getD_cons_succ,List.map_cons,List.map_nil,iOf,bOf,sOf,pOf,slLen,z04,cmpI,arI,Value.ite_bool,z03,z02,z00,z01];exact ⟨y1,by omega,by omega⟩
  ·simp only [ev0,ev,evV,List.cons_append,List.nil_append,List.getD_cons_zero,List.getD_cons_succ,List.map_cons,List.map_nil,iOf,bOf,sOf,pOf,slLen,z04,cmpI,arI,Value.ite_bool,z03,z02,z00,z01];exact y3
  simp only [List.cons_append,List.nil_append]
  refine ⟨fun vs K2=>vs=[.bool (!fitsR x)]∧PH.le K K2,?_,?_⟩
  ·rintro vs K2 _ ⟨rfl,l2⟩
   have l12:=PH.le_trans l1 l2
   simp only [List.cons_append,List.nil_append]
   refine ⟨fun g2=>?_,fun g2=>?_⟩
   ·simp only [ev0,ev,evV,List.cons_append,List.nil_append,List.getD_cons_zero,List.getD_cons_succ,List.map_cons,List.map_nil,iOf,bOf,sOf,pOf,slLen,z04,cmpI,arI,Value.ite_bool,z03,z02,z00,z01,Bool.not_eq_true'] at g2
    rw [he,if_neg (by rw [g2];exact Bool.false_ne_true)]
    exact ⟨rfl,l12⟩
   ·simp only [ev0,ev,evV,List.cons_append,List.nil_append,List.getD_cons_zero,List.getD_cons_succ,List.map_cons,List.map_nil,iOf,bOf,sOf,pOf,slLen,z04,cmpI,arI,Value.ite_bool,z03,z02,z00,z01,Bool.not_eq_false'] at g2
    rw [he,if_pos g2]
    have hfit:=g2
    unfold fitsR at hfit
    rw [hf] at hfit
    simp only [zba,zdt] at hfit
    obtain ⟨⟨⟨⟨ra,rb'⟩,rc'⟩,rl⟩,rm⟩:=hfit
    have ra:=zhk ra
    have rb':=zhk rb'
    have rc':=zhk rc'
    obtain ⟨m,hm⟩:∃m,(if x.n < 0 then x.n+2 ^ f.bits else x.n)=m:=⟨_,rfl⟩
    have hm2:0≤m∧m≤2097152:=by
     have h2:(2:Int) ^ f.bits≤2097152:=by
      rcases hok.bits with h | h | h | h<;>rw [h]<;>decide
     have h3:=hok.least
     have h4:=hok.most
     have h5:=hok.lo
     have h6:=hok.fit
     by_cases hn:x.n < 0
     ·rw [if_pos hn] at hm
      have hb0:f.bits≠0:=fun h=>by have:=h5 h;omega
      have:=h6 hb0
      omega
     ·rw [if_neg hn] at hm;omega
    refine ⟨fun vs K3=>vs=[.int .i64 m]∧PH.le K2 K3,?_,fun g3=>?_,fun g3=>?_⟩
    ·rintro vs K3 _ ⟨rfl,l3⟩
     refine ⟨?_,PH.le_trans l12 l3⟩
     simp only [ev0,ev,evV,List.cons_append,List.nil_append,List.getD_cons_zero,List.getD_cons_succ,List.map_cons,List.map_nil,iOf,bOf,sOf,pOf,slLen,z04,cmpI,arI,Value.ite_bool,z03,z02,z00,z01,partV,Bool.false_eq_true,if_false,if_true,List.headD_cons,hm,Option.getD_some]
     unfold wordR
     simp (disch:=omega) only [w64,wu32]
     rfl
    ·simp only [ev0,ev,evV,List.cons_append,List.nil_append,List.getD_cons_zero,List.getD_cons_succ,List.map_cons,List.map_nil,iOf,bOf,sOf,pOf,slLen,z04,cmpI,arI,Value.ite_bool,z03,z02,z00,z01,zdt] at g3
     refine ⟨fun _=>by simp [Chk.holds,ev0,ev,evV,List.cons_append,List.nil_append,List.getD_cons_zero,List.getD_cons_succ,List.map_cons,List.map_nil,iOf,bOf,sOf,pOf,slLen,z04,cmpI,arI,Value.ite_bool,z03,z02,z00,z01],_,z05,?_,PH.le_refl _⟩
     have e1:=shl1 hok.bits
     simp only [arI] at e1
     rw [if_pos g3] at hm
     simp only [ev0,ev,evV,List.cons_append,List.nil_append,List.getD_cons_zero,List.getD_cons_succ,List.map_cons,List.map_nil,iOf,bOf,sOf,pOf,slLen,z04,cmpI,arI,Value.ite_bool,z03,z02,z00,z01,e1,hm]
     rw [w64 (by omega) (by omega)]
    ·simp only [ev0,ev,evV,List.cons_append,List.nil_append,List.getD_cons_zero,List.getD_cons_succ,List.map_cons,List.map_nil,iOf,bOf,sOf,pOf,slLen,z04,cmpI,arI,Value.ite_bool,z03,z02,z00,z01,zdf] at g3
     rw [if_neg g3] at hm
     exact ⟨_,z05,by simp only [ev0,ev,evV,List.cons_append,List.nil_append,List.getD_cons_zero,List.getD_cons_succ,List.map_cons,List.map_nil,iOf,bOf,sOf,pOf,slLen,z04,cmpI,arI,Value.ite_bool,z03,z02,z00,z01,hm],PH.le_refl _⟩
  ·refine z0b [.bool (regR x.a f.a)] z4c (zg3 x.a f.a K) rfl z06 fun K1 k1=>?_
   simp only [List.cons_append,List.nil_append]
   have hF:fitsR x=(regR x.a f.a && regR x.b f.b && regR x.c f.c && decide (f.least≤x.n) && decide (x.n≤f.most)):=by unfold fitsR;rw [hf]
   refine ⟨fun g2=>?_,fun g2=>?_⟩
   ·simp only [ev0,ev,evV,List.cons_append,List.nil_append,List.getD_cons_zero,List.getD_cons_succ,List.map_cons,List.map_nil,iOf,bOf,sOf,pOf,slLen,z04,cmpI,arI,Value.ite_bool,z03,z02,z00,z01,Bool.not_eq_true'] at g2
    exact ⟨_,z05,by simp [ev0,ev,evV,List.cons_append,List.nil_append,List.getD_cons_zero,List.getD_cons_succ,List.map_cons,List.map_nil,iOf,bOf,sOf,pOf,slLen,z04,cmpI,arI,Value.ite_bool,z03,z02,z00,z01,hF,g2],k1⟩
   ·simp only [ev0,ev,evV,List.cons_append,List.nil_append,List.getD_cons_zero,List.getD_cons_succ,List.map_cons,List.map_nil,iOf,bOf,sOf,pOf,slLen,z04,cmpI,arI,Value.ite_bool,z03,z02,z00,z01,Bool.not_eq_false'] at g2
    refine z0b [.bool (regR x.b f.b)] z4c (zg3 x.b f.b K1) rfl z06 fun K2 k2=>?_
    simp only [List.cons_append,List.nil_append]
    refine ⟨fun g3=>?_,fun g3=>?_⟩
    ·simp only [ev0,ev,evV,List.cons_append,List.nil_append,List.getD_cons_zero,List.getD_cons_succ,List.map_cons,List.map_nil,iOf,bOf,sOf,pOf,slLen,z04,cmpI,arI,Value.ite_bool,z03,z02,z00,z01,Bool.not_eq_true'] at g3
     exact ⟨_,z05,by simp [ev0,ev,evV,List.cons_append,List.nil_append,List.getD_cons_zero,List.getD_cons_succ,List.map_cons,List.map_nil,iOf,bOf,sOf,pOf,slLen,z04,cmpI,arI,Value.ite_bool,z03,z02,z00,z01,hF,g3],PH.le_trans k1 k2⟩
    ·simp only [ev0,ev,evV,List.cons_append,List.nil_append,List.getD_cons_zero,List.getD_cons_succ,List.map_cons,List.map_nil,iOf,bOf,sOf,pOf,slLen,z04,cmpI,arI,Value.ite_bool,z03,z02,z00,z01,Bool.not_eq_false'] at g3
     refine z0b [.bool (regR x.c f.c)] z4c (zg3 x.c f.c K2) rfl z06 fun K3 k3=>?_
     simp only [List.cons_append,List.nil_append]
     refine ⟨_,z05,?_,PH.le_trans k1 (PH.le_trans k2 k3)⟩
     rw [hF,g2,g3]
     simp only [ev0,ev,evV,List.cons_append,List.nil_append,List.getD_cons_zero,List.getD_cons_succ,List.map_cons,List.map_nil,iOf,bOf,sOf,pOf,slLen,z04,cmpI,arI,Value.ite_bool,z03,z02,z00,z01,Bool.true_and]
     have q1:decide (x.n < f.least)=!decide (f.least≤x.n):=by rw [←decide_not,decide_eq_decide];omega
     have q2:decide (x.n > f.most)=!decide (x.n≤f.most):=by rw [←decide_not,decide_eq_decide];omega
     rw [q1,q2,←Bool.not_and,←Bool.not_and]
abbrev decV (o:Option InsR):Value:=.tuple #[.agg (insV (o.getD ins0)).toArray,.bool o.isSome]
theorem tdivp {a b:Int} (h:0≤a):a.tdiv b=a / b:=Int.tdiv_eq_ediv_of_nonneg h
theorem tmodp {a b:Int} (h:0≤a):a.tmod b=a % b:=Int.tmod_eq_emod_of_nonneg h
theorem Z1d {f:FrmR} (h:FrmOk f) {w:Int} (h0:0≤w):-2097152≤numOf f w∧numOf f w≤2097152:=by
 unfold numOf
 rcases h.bits with hb | hb | hb | hb<;>rw [hb]<;>(repeat' split)<;>omega
theorem Z64 {w:Int} (h:InU w):InI5 (z95 w):=by
 obtain ⟨h0,h1⟩:=h
 have hn:=Z1d (zk8 (w / 67108864)) h0
 unfold z95
 refine ⟨?_,?_,?_,?_,?_⟩<;>unfold InI<;>simp only []
 ·omega
 ·omega
 ·split<;>omega
 ·split<;>omega
 ·omega
theorem zxk (w:Int) (o:Option Int):(encE o)≠0∨(o.getD 0)≠w↔¬o=some w:=by
 cases o with
 | none=>simp [encE]
 | some v=>simp [encE]
theorem zr2 (w:Int) (H:PH) (hw:InU w):Gives Tryz.prog ze3 [.int .u32 w] H (decV (decR w)):=by
 obtain ⟨w0,w1⟩:=hw
 refine zbd [.int .u32 w] (by kernel_rfl) (by kernel_rfl) ?_
 refine z0a z6b (zpx H) ?_
 rintro e K ⟨l1,v,rfl,hv⟩
 obtain ⟨rb,rc,rfl⟩:=hv.sl
 refine ⟨_,[.slice rb rowsR.length rc],rfl,rfl,rfl,z06,?_⟩
 have hrl:rowsR.length=32:=rfl
 simp only [List.cons_append,List.nil_append]
 have hcv:IntKind.i64.wrap w=w:=w64 (by omega) (by omega)
 have hop:IntKind.i64.wrap (w.tdiv 67108864)=w / 67108864:=by rw [tdivp w0,w64 (by omega) (by omega)]
 have ha:(IntKind.i64.wrap (w.tdiv 2097152)).tmod 32=w / 2097152 % 32:=by rw [tdivp w0,w64 (by omega) (by omega),tmodp (by omega)]
 have hb:(IntKind.i64.wrap (w.tdiv 65536)).tmod 32=w / 65536 % 32:=by rw [tdivp w0,w64 (by omega) (by omega),tmodp (by omega)]
 have hc:(IntKind.i64.wrap (w.tdiv 2048)).tmod 32=w / 2048 % 32:=by rw [tdivp w0,w64 (by omega) (by omega),tmodp (by omega)]
 refine ⟨fun g=>?_,fun g=>?_⟩
 ·simp only [ev0,ev,evV,List.cons_append,List.nil_append,List.getD_cons_zero,List.getD_cons_succ,List.map_cons,List.map_nil,iOf,bOf,sOf,pOf,slLen,z04,cmpI,arI,Value.ite_bool,z03,z02,z00,z01,zdt,hrl,hcv,hop] at g
  have:decR w=none:=by unfold decR;rw [if_pos (show 32≤w / 67108864 by omega)]
  rw [this];exact ⟨rfl,l1⟩
 ·simp only [ev0,ev,evV,List.cons_append,List.nil_append,List.getD_cons_zero,List.getD_cons_succ,List.map_cons,List.map_nil,iOf,bOf,sOf,pOf,slLen,z04,cmpI,arI,Value.ite_bool,z03,z02,z00,z01,zdf,hrl,hcv,hop] at g
  have hd:decR w=if encR (z95 w)=some w then some (z95 w) else none:=by unfold decR;rw [if_neg (show ¬32≤w / 67108864 by omega)]
  obtain ⟨y1,yn,ycs,y2,y3⟩:=hv.get (zzz (show 0≤w / 67108864 by omega) (by omega))
  have:=Z5d y2
  subst this
  have hj:(((w / 67108864).toNat:Nat):Int)=w / 67108864:=Int.toNat_of_nonneg (by omega)
  rw [hj] at y3 yn
  have hok:=zk8 (w / 67108864)
  have hp:z95 w=⟨w / 67108864,w / 2097152 % 32,if (frmR (w / 67108864)).b=true then w / 65536 % 32 else 0,if (frmR (w / 67108864)).c=true then w / 2048 % 32 else 0,numOf (frmR (w / 67108864)) w⟩:=rfl
  have hpi:=Z64 ⟨w0,w1⟩
  generalize hx:z95 w=x at *
  generalize hf:frmR (w / 67108864)=f at *
  refine ⟨fun _=>?_,frmV f,rfl,?_,?_⟩
  ·simp only [Chk.holds,ev0,ev,evV,List.cons_append,List.nil_append,List.getD_cons_zero,List.getD_cons_succ,List.map_cons,List.map_nil,iOf,bOf,sOf,pOf,slLen,z04,cmpI,arI,Value.ite_bool,z03,z02,z00,z01,hcv,hop];exact ⟨y1,by omega,by omega⟩
  ·simp only [ev0,ev,evV,List.cons_append,List.nil_append,List.getD_cons_zero,List.getD_cons_succ,List.map_cons,List.map_nil,iOf,bOf,sOf,pOf,slLen,z04,cmpI,arI,Value.ite_bool,z03,z02,z00,z01,hcv,hop];exact y3
  simp only [List.cons_append,List.nil_append]
  have e1:=shl1 hok.bits
  simp only [arI] at e1
  have hbe:(if f.b=true then Value.int .i64 (w / 65536 % 32) else Value.int .i64 0)=Value.int .i64 x.b:=by rw [hp];simp only [];split<;>rfl
  have hce:(if f.c=true then Value.int .i64 (w / 2048 % 32) else Value.int .i64 0)=Value.int .i64 x.c:=by rw [hp];simp only [];split<;>rfl
  refine ⟨fun vs K2=>vs=insV x∧PH.le K K2,?_,fun g2=>?_,fun g2=>?_⟩
  ·rintro vs K2 _ ⟨rfl,l2⟩
   simp only [List.cons_append,List.nil_append]
   refine z0b [.int .u32 ((encR x).getD 0),.int .i64 (encE (encR x))] z3e (z9f x K2 hpi) rfl z06 fun K3 l3=>?_
   have l13:=PH.le_trans l1 (PH.le_trans l2 l3)
   simp only [List.cons_append,List.nil_append]
   refine ⟨fun g3=>?_,fun g3=>?_⟩
   ·simp only [ev0,ev,evV,List.cons_append,List.nil_append,List.getD_cons_zero,List.getD_cons_succ,List.map_cons,List.map_nil,iOf,bOf,sOf,pOf,slLen,z04,cmpI,arI,Value.ite_bool,z03,z02,z00,z01] at g3
    simp only [Bool.if_true_left,Bool.or_eq_true,zdt] at g3
    rw [hd,if_neg ((zxk w _).1 g3)]
    exact ⟨rfl,l13⟩
   ·simp only [ev0,ev,evV,List.cons_append,List.nil_append,List.getD_cons_zero,List.getD_cons_succ,List.map_cons,List.map_nil,iOf,bOf,sOf,pOf,slLen,z04,cmpI,arI,Value.ite_bool,z03,z02,z00,z01] at g3
    simp only [Bool.if_true_left,Bool.or_eq_false_iff,zdf] at g3
    rw [hd,if_pos (Decidable.not_not.1 fun h=>absurd ((zxk w _).2 h) (by omega))]
    exact ⟨rfl,l13⟩
  ·simp only [ev0,ev,evV,List.cons_append,List.nil_append,List.getD_cons_zero,List.getD_cons_succ,List.map_cons,List.map_nil,iOf,bOf,sOf,pOf,slLen,z04,cmpI,arI,Value.ite_bool,z03,z02,z00,z01,zdt] at g2
   have hb0:f.bits≠0:=by omega
   have hnum:x.n=if f.most < w % 2 ^ f.bits∧f.least < 0 then w % 2 ^ f.bits - 2 ^ f.bits else w % 2 ^ f.bits:=by
    rw [hp];unfold numOf;rw [if_neg hb0]
   have hpp:(0:Int) < 2 ^ f.bits:=Int.pow_pos (by decide)
   have hp2:(2:Int) ^ f.bits≤2097152:=by rcases hok.bits with h | h | h | h<;>rw [h]<;>decide
   have hm:w.tmod (2 ^ f.bits)=w % 2 ^ f.bits:=tmodp w0
   have hmb:=Int.emod_nonneg w (show (2:Int) ^ f.bits≠0 by omega)
   have hmb2:=Int.emod_lt_of_pos w hpp
   refine ⟨fun _=>by simp [Chk.holds,ev0,ev,evV,List.cons_append,List.nil_append,List.getD_cons_zero,List.getD_cons_succ,List.map_cons,List.map_nil,iOf,bOf,sOf,pOf,slLen,z04,cmpI,arI,Value.ite_bool,z03,z02,z00,z01],fun _=>?_,fun g3=>?_,fun g3=>?_⟩
   ·simp only [Chk.holds,ev0,ev,evV,List.cons_append,List.nil_append,List.getD_cons_zero,List.getD_cons_succ,List.map_cons,List.map_nil,iOf,bOf,sOf,pOf,slLen,z04,cmpI,arI,Value.ite_bool,z03,z02,z00,z01,e1];omega
   ·simp only [ev0,ev,evV,List.cons_append,List.nil_append,List.getD_cons_zero,List.getD_cons_succ,List.map_cons,List.map_nil,iOf,bOf,sOf,pOf,slLen,z04,cmpI,arI,Value.ite_bool,z03,z02,z00,z01,e1,hcv,hm] at g3
    simp only [Bool.if_false_right,zba,zdt] at g3
    rw [if_pos (by omega)] at hnum
    refine ⟨fun _=>by simp [Chk.holds,ev0,ev,evV,List.cons_append,List.nil_append,List.getD_cons_zero,List.getD_cons_succ,List.map_cons,List.map_nil,iOf,bOf,sOf,pOf,slLen,z04,cmpI,arI,Value.ite_bool,z03,z02,z00,z01],_,z05,?_,PH.le_refl _⟩
    simp only [ev0,ev,evV,List.cons_append,List.nil_append,List.getD_cons_zero,List.getD_cons_succ,List.map_cons,List.map_nil,iOf,bOf,sOf,pOf,slLen,z04,cmpI,arI,Value.ite_bool,z03,z02,z00,z01,e1,hm,hcv,hop,ha,hb,hc]
    rw [w64 (n:=w % 2 ^ f.bits - 2 ^ f.bits) (by omega) (by omega),hbe,hce]
    have hxop:x.op=w / 67108864:=by rw [hp]
    have hxa:x.a=w / 2097152 % 32:=by rw [hp]
    simp only [insV,hxop,hxa,hnum]
   ·simp only [ev0,ev,evV,List.cons_append,List.nil_append,List.getD_cons_zero,List.getD_cons_succ,List.map_cons,List.map_nil,iOf,bOf,sOf,pOf,slLen,z04,cmpI,arI,Value.ite_bool,z03,z02,z00,z01,e1,hcv,hm] at g3
    simp only [Bool.if_false_right,Bool.and_eq_false_iff,zdf] at g3
    rw [if_neg (by omega)] at hnum
    refine ⟨_,z05,?_,PH.le_refl _⟩
    simp only [ev0,ev,evV,List.cons_append,List.nil_append,List.getD_cons_zero,List.getD_cons_succ,List.map_cons,List.map_nil,iOf,bOf,sOf,pOf,slLen,z04,cmpI,arI,Value.ite_bool,z03,z02,z00,z01,e1,hm,hcv,hop,ha,hb,hc]
    rw [hbe,hce]
    have hxop:x.op=w / 67108864:=by rw [hp]
    have hxa:x.a=w / 2097152 % 32:=by rw [hp]
    simp only [insV,hxop,hxa,hnum]
  ·simp only [ev0,ev,evV,List.cons_append,List.nil_append,List.getD_cons_zero,List.getD_cons_succ,List.map_cons,List.map_nil,iOf,bOf,sOf,pOf,slLen,z04,cmpI,arI,Value.ite_bool,z03,z02,z00,z01,zdf] at g2
   have hb0:f.bits=0:=by omega
   have hnum:x.n=0:=by rw [hp];unfold numOf;rw [if_pos hb0]
   refine ⟨_,z05,?_,PH.le_refl _⟩
   simp only [ev0,ev,evV,List.cons_append,List.nil_append,List.getD_cons_zero,List.getD_cons_succ,List.map_cons,List.map_nil,iOf,bOf,sOf,pOf,slLen,z04,cmpI,arI,Value.ite_bool,z03,z02,z00,z01,hcv,hop,ha,hb,hc]
   rw [hbe,hce]
   have hxop:x.op=w / 67108864:=by rw [hp]
   have hxa:x.a=w / 2097152 % 32:=by rw [hp]
   simp only [insV,hxop,hxa,hnum]
theorem zrn (n:Int):arI .and .i64 n 4294967295=n % 4294967296:=zcj n 32 (by omega)
theorem Z8v (n:Int):arI .and .i64 n 63=n % 64:=zcj n 6 (by omega)
theorem shr32 (n:Int):arI .shr .i64 n 32=n / 4294967296:=by
 show n.fdiv (2 ^ (min (32:Int).toNat 64))=_
 rw [Int.fdiv_eq_ediv_of_nonneg _ (Int.pow_nonneg (by decide))];rfl
theorem Z8h (n:Int):arI .shr .u64 n 32=n / 4294967296:=by
 show n.fdiv (2 ^ (min (32:Int).toNat 64))=_
 rw [Int.fdiv_eq_ediv_of_nonneg _ (Int.pow_nonneg (by decide))];rfl
theorem za5 {a b A B:Int} (ha:-A≤a∧a≤A) (hb:0≤b∧b≤B):-(A * B)≤a * b∧a * b≤A * B:=by
 have hA:0≤A:=by omega
 have h1:A * b≤A * B:=Int.mul_le_mul_of_nonneg_left hb.2 hA
 have h2:a * b≤A * b:=Int.mul_le_mul_of_nonneg_right ha.2 hb.1
 have h3:-A * b≤a * b:=Int.mul_le_mul_of_nonneg_right ha.1 hb.1
 have h4:-A * b=-(A * b):=Int.neg_mul A b
 omega
theorem Z3z {a b A B:Int} (ha:a≤A) (hA:0≤A) (hb:0≤b∧b≤B):a * b≤A * B:=
 Int.le_trans (Int.mul_le_mul_of_nonneg_right ha hb.1) (Int.mul_le_mul_of_nonneg_left hb.2 hA)
theorem zp9 {a b A B:Int} (ha:-A≤a∧a≤A) (hb:-B≤b∧b≤B):-(A * B)≤a * b∧a * b≤A * B:=by
 by_cases h:0≤b
 ·exact za5 ha ⟨h,hb.2⟩
 ·have:=za5 (b:=-b) ha (B:=B) (by omega)
  rw [Int.mul_neg] at this
  omega
theorem Z2v {b1 b0 c1 c0:Int} (hb:-2147483648≤b1∧b1≤2147483647) (hb0:0≤b0∧b0≤4294967295) (hc:-2147483648≤c1∧c1≤2147483647) (hc0:0≤c0∧c0≤4294967295) :
  (4294967296 * b1+b0) * (4294967296 * c1+c0) / 18446744073709551616=b1 * c1+(b1 * c0+b0 * c0 / 4294967296) / 4294967296+(b0 * c1+(b1 * c0+b0 * c0 / 4294967296) % 4294967296) / 4294967296:=by
 have e:(4294967296 * b1+b0) * (4294967296 * c1+c0)=18446744073709551616 * (b1 * c1)+4294967296 * (b1 * c0+b0 * c1)+b0 * c0:=by grind
 rw [e]
 generalize b1 * c1=p;generalize b1 * c0=q;generalize b0 * c1=r;generalize b0 * c0=s
 omega
theorem Z1e (b c:Int) (H:PH) (hb:InI b) (hc:InI c):Gives Tryz.prog zg7 [.int .i64 b,.int .i64 c] H (.int .i64 (mulhR b c)):=by
 refine zea [.int .i64 b,.int .i64 c] (by kernel_rfl) (by kernel_rfl) ?_
 refine ⟨?_,PH.le_refl _⟩
 obtain ⟨hb1,hb2⟩:=hb
 obtain ⟨hc1,hc2⟩:=hc
 have x1:=shr32 b
 have x2:=shr32 c
 have x3:=zrn b
 have x4:=zrn c
 have kb:-2147483648≤b / 4294967296∧b / 4294967296≤2147483647:=by omega
 have kc:-2147483648≤c / 4294967296∧c / 4294967296≤2147483647:=by omega
 have lb:0≤b % 4294967296∧b % 4294967296≤4294967295:=by omega
 have lc:0≤c % 4294967296∧c % 4294967296≤4294967295:=by omega
 have hm:=Z2v kb lb kc lc
 rw [show 4294967296 * (b / 4294967296)+b % 4294967296=b by omega,show 4294967296 * (c / 4294967296)+c % 4294967296=c by omega] at hm
 have q1:=za5 (A:=2147483648) (B:=4294967295) (a:=b / 4294967296) (b:=c % 4294967296) (by omega) lc
 have q2:=za5 (A:=2147483648) (B:=4294967295) (a:=c / 4294967296) (b:=b % 4294967296) (by omega) lb
 have q3:=za5 (A:=4294967295) (B:=4294967295) (a:=b % 4294967296) (b:=c % 4294967296) (by omega) lc
 have q4:0≤(b % 4294967296) * (c % 4294967296):=Int.mul_nonneg lb.1 lc.1
 rw [Int.mul_comm (c / 4294967296) (b % 4294967296)] at q2
 have q6:=Z3z (A:=2147483647) (B:=4294967295) (a:=b / 4294967296) (b:=c % 4294967296) (by omega) (by omega) lc
 have q7:=Z3z (A:=2147483647) (B:=4294967295) (a:=c / 4294967296) (b:=b % 4294967296) (by omega) (by omega) lb
 rw [Int.mul_comm (c / 4294967296) (b % 4294967296)] at q7
 have q5:=zp9 (A:=2147483648) (B:=2147483648) (a:=b / 4294967296) (b:=c / 4294967296) (by omega) (by omega)
 show Ending.returned _=Ending.returned _
 simp only [ev0,ev,evV,List.cons_append,List.nil_append,List.getD_cons_zero,List.getD_cons_succ,List.map_cons,List.map_nil,iOf,bOf,sOf,pOf,slLen,z04,cmpI,arI,Value.ite_bool,z03,z02,z00,z01]
 simp only [arI] at x1 x2 x3 x4
 simp only [x1,x2,x3,x4]
 have f1:∀n:Int,n.fdiv (2 ^ min (Int.toNat 32) IntKind.u64.bits)=n / 4294967296:=Z8h
 have f2:∀n:Int,n.fdiv (2 ^ min (Int.toNat 32) IntKind.i64.bits)=n / 4294967296:=shr32
 have f3:∀n:Int,IntKind.i64.wrap ↑(BitVec.ofInt IntKind.i64.bits n &&& BitVec.ofInt IntKind.i64.bits 4294967295).toNat=n % 4294967296:=zrn
 have hfd:mulhR b c=b * c / 18446744073709551616:=by unfold mulhR;rw [Int.fdiv_eq_ediv_of_nonneg _ (by decide)];rfl
 rw [hfd,hm]
 clear hm hfd x1 x2 x3 x4
 rw [wu64 (n:=b % 4294967296) (by omega) (by omega),wu64 (n:=c % 4294967296) (by omega) (by omega)]
 generalize b / 4294967296 * (c / 4294967296)=p1 at *
 generalize b / 4294967296 * (c % 4294967296)=p2 at *
 generalize b % 4294967296 * (c / 4294967296)=p3 at *
 generalize b % 4294967296 * (c % 4294967296)=p4 at *
 simp only [f1,f2,f3]
 simp (disch:=omega) only [w64,wu64]
end Go.Proofs.YtfkclejklgoccaaGreat.Vc
namespace Go.Proofs.YtfkclejklgoccaaGreat.Vc
open Go Go.ChangeShapes Go.WideShapes Go.ChangeAt Go.RowKit
structure InsX where
 op:List UInt8
 to:Int
 args:List Int
 const:Dat
 num:Int
structure EndX where
 kind:Int
 reg:Int
 args:List Int
 to:Int
 next:Int
 els:Int
structure BlkX where
 ins:List InsX
 e:EndX
structure PrcX where
 params:Int
 holds:Int
 regs:Int
 blocks:List BlkX
def InsX.pv (x:InsX):List PV:=[.str x.op,.int .i64 x.to,slp x.args,.int .i64 x.const.kind,.int .i64 x.const.int,.str x.const.text,slp x.const.list,.int .i64 x.num]
def EndX.pv (e:EndX):List PV:=[.int .i64 e.kind,.int .i64 e.reg,slp e.args,.int .i64 e.to,.int .i64 e.next,.int .i64 e.els]
instance encIns:Enc InsX:=⟨InsX.pv,8,fun _=>rfl⟩
instance encEnd:Enc EndX:=⟨EndX.pv,6,fun _=>rfl⟩
instance encBlk:Enc BlkX:=⟨fun b=>slp b.ins::b.e.pv,7,fun _=>rfl⟩
instance encPrc:Enc PrcX:=⟨fun p=>[.int .i64 p.params,.int .i64 p.holds,.int .i64 p.regs,slp p.blocks],4,fun _=>rfl⟩
theorem ins_iff {H:PH} {x:InsX} {cs:List Value}:CsR H x cs↔∃av dv,cs=[txt x.op,.int .i64 x.to,av,.int .i64 x.const.kind,.int .i64 x.const.int,txt x.const.text,dv,.int .i64 x.num] ∧
  x.op.length≤maxLen∧InI x.to∧SlR H x.args av∧InI x.const.kind∧InI x.const.int∧x.const.text.length≤maxLen∧SlR H x.const.list dv∧InI x.num:=by
 show PV.RepRow H (InsX.pv x) cs↔_
 simp only [InsX.pv,PV.RepRow,repI_iff,zni]
 constructor
 ·rintro ⟨v1,_,rfl,⟨rfl,h1⟩,v2,_,rfl,⟨rfl,h2⟩,v3,_,rfl,h3,v4,_,rfl,⟨rfl,h4⟩,v5,_,rfl,⟨rfl,h5⟩,v6,_,rfl,⟨rfl,h6⟩,v7,_,rfl,h7,v8,_,rfl,⟨rfl,h8⟩,rfl⟩
  exact ⟨v3,v7,rfl,h1,h2,h3,h4,h5,h6,h7,h8⟩
 ·rintro ⟨v3,v7,rfl,h1,h2,h3,h4,h5,h6,h7,h8⟩
  exact ⟨_,_,rfl,⟨rfl,h1⟩,_,_,rfl,⟨rfl,h2⟩,_,_,rfl,h3,_,_,rfl,⟨rfl,h4⟩,_,_,rfl,⟨rfl,h5⟩,_,_,rfl,⟨rfl,h6⟩,_,_,rfl,h7,_,_,rfl,⟨rfl,h8⟩,rfl⟩
theorem end_iff {H:PH} {e:EndX} {cs:List Value}:CsR H e cs↔∃av,cs=[.int .i64 e.kind,.int .i64 e.reg,av,.int .i64 e.to,.int .i64 e.next,.int .i64 e.els] ∧
  InI e.kind∧InI e.reg∧SlR H e.args av∧InI e.to∧InI e.next∧InI e.els:=by
 show PV.RepRow H (EndX.pv e) cs↔_
 simp only [EndX.pv,PV.RepRow,repI_iff,zni]
 constructor
 ·rintro ⟨v1,_,rfl,⟨rfl,h1⟩,v2,_,rfl,⟨rfl,h2⟩,v3,_,rfl,h3,v4,_,rfl,⟨rfl,h4⟩,v5,_,rfl,⟨rfl,h5⟩,v6,_,rfl,⟨rfl,h6⟩,rfl⟩
  exact ⟨v3,rfl,h1,h2,h3,h4,h5,h6⟩
 ·rintro ⟨v3,rfl,h1,h2,h3,h4,h5,h6⟩
  exact ⟨_,_,rfl,⟨rfl,h1⟩,_,_,rfl,⟨rfl,h2⟩,_,_,rfl,h3,_,_,rfl,⟨rfl,h4⟩,_,_,rfl,⟨rfl,h5⟩,_,_,rfl,⟨rfl,h6⟩,rfl⟩
theorem blk_iff {H:PH} {b:BlkX} {cs:List Value}:CsR H b cs↔∃iv es,cs=iv::es∧SlR H b.ins iv∧CsR H b.e es:=by
 show PV.RepRow H (slp b.ins::b.e.pv) cs↔_
 rw [PV.RepRow]
 constructor
 ·rintro ⟨v,vs,rfl,h1,h2⟩;exact ⟨v,vs,rfl,h1,h2⟩
 ·rintro ⟨v,vs,rfl,h1,h2⟩;exact ⟨v,vs,rfl,h1,h2⟩
theorem prc_iff {H:PH} {p:PrcX} {cs:List Value}:CsR H p cs↔∃bv,cs=[.int .i64 p.params,.int .i64 p.holds,.int .i64 p.regs,bv]∧InI p.params∧InI p.holds∧InI p.regs∧SlR H p.blocks bv:=by
 show PV.RepRow H [_,_,_,_] cs↔_
 simp only [PV.RepRow,repI_iff]
 constructor
 ·rintro ⟨v1,_,rfl,⟨rfl,h1⟩,v2,_,rfl,⟨rfl,h2⟩,v3,_,rfl,⟨rfl,h3⟩,v4,_,rfl,h4,rfl⟩
  exact ⟨v4,rfl,h1,h2,h3,h4⟩
 ·rintro ⟨v4,rfl,h1,h2,h3,h4⟩
  exact ⟨_,_,rfl,⟨rfl,h1⟩,_,_,rfl,⟨rfl,h2⟩,_,_,rfl,⟨rfl,h3⟩,_,_,rfl,h4,rfl⟩
theorem z0o {S:PH} {a:Int} (h:InI a):CsR S a [.int .i64 a]:=by
 show PV.RepRow S [.int .i64 a] [.int .i64 a]
 simp only [PV.RepRow,repI_iff]
 exact ⟨_,_,rfl,⟨rfl,h⟩,rfl⟩
instance encInts:Enc (List Int):=⟨fun l=>[slp l],1,fun _=>rfl⟩
theorem csLK {H:PH} {a:List Int} {cs:List Value} (h:CsR H a cs):∃v,cs=[v]∧SlR H a v:=by
 have h':PV.RepRow H [slp a] cs:=h
 simp only [PV.RepRow] at h'
 obtain ⟨v,vs,rfl,h1,rfl⟩:=h'
 exact ⟨v,rfl,h1⟩
theorem zlr {H:PH} {a:List Int} {v:Value} (h:SlR H a v):CsR H a [v]:=by
 show PV.RepRow H [slp a] [v]
 simp only [PV.RepRow]
 exact ⟨v,[],rfl,h,rfl⟩
theorem z0y:Tryz.prog.underlying 29=some (.slice 3):=by kernel_rfl
theorem z0v:ElemOk Tryz.prog 3 1 8=true:=by kernel_rfl
theorem Z03:Tryz.prog.underlying 185=some (.slice 29):=by kernel_rfl
theorem zsm:ElemOk Tryz.prog 29 1 24=true:=by kernel_rfl
theorem Z8q:Tryz.prog.underlying 36=some (.slice 34):=by kernel_rfl
theorem Z73:ElemOk Tryz.prog 34 8 112=true:=by kernel_rfl
theorem Z95:Tryz.prog.underlying 41=some (.slice 40):=by kernel_rfl
theorem Z6h:ElemOk Tryz.prog 40 7 88=true:=by kernel_rfl
def Z3m (l:List Int):Nat:=sumWt (fun _=>1) l+1
def InsX.wt (x:InsX):Nat:=x.op.length+1+1+Z3m x.args+x.const.wt+1
def EndX.wt (e:EndX):Nat:=1+1+Z3m e.args+1+1+1
def BlkX.wt (b:BlkX):Nat:=sumWt InsX.wt b.ins+1+b.e.wt
def PrcX.wt (p:PrcX):Nat:=1+1+1+(sumWt BlkX.wt p.blocks+1)
theorem zik (n:Int):IntKind.i64.wrap n=if 9223372036854775808≤n % 18446744073709551616 then n % 18446744073709551616 - 18446744073709551616 else n % 18446744073709551616:=by
 simp only [IntKind.wrap,IntKind.bits,IntKind.signed]
 simp
theorem zrf (n:Int):∃k:Int,IntKind.i64.wrap n=n+k * 18446744073709551616:=by
 rw [zik]
 split
 ·exact ⟨-(n / 18446744073709551616) - 1,by omega⟩
 ·exact ⟨-(n / 18446744073709551616),by omega⟩
theorem Z7k {n r k:Int} (h:n=r+k * 18446744073709551616) (hr:InI r):IntKind.i64.wrap n=r:=by
 obtain ⟨h0,h1⟩:=hr
 rw [zik]
 split<;>omega
theorem Z06 {b c:Int} (hb:InI b):InI (b.tmod c):=by
 obtain ⟨h0,h1⟩:=hb
 unfold InI
 have h2:=Int.natAbs_tmod b c
 have h3:=Nat.mod_le b.natAbs c.natAbs
 have h4:0≤b→0≤b.tmod c:=Int.tmod_nonneg c
 have h5:0≤-b→0≤(-b).tmod c:=Int.tmod_nonneg c
 rw [Int.neg_tmod] at h5
 omega
theorem Z7u {b c:Int} (hb:InI b):IntKind.i64.wrap (b - IntKind.i64.wrap (IntKind.i64.wrap (b.tdiv c) * c))=b.tmod c:=by
 obtain ⟨k1,h1⟩:=zrf (b.tdiv c)
 obtain ⟨k2,h2⟩:=zrf (IntKind.i64.wrap (b.tdiv c) * c)
 refine Z7k (k:=-(k1 * c) - k2) ?_ (Z06 hb)
 rw [h2,h1,Int.add_mul]
 have h3:=Int.mul_tdiv_add_tmod b c
 have h4:k1 * 18446744073709551616 * c=k1 * c * 18446744073709551616:=by rw [Int.mul_assoc,Int.mul_comm 18446744073709551616,Int.mul_assoc]
 rw [h4,Int.mul_comm (b.tdiv c) c]
 generalize k1 * c=p at *
 generalize c * b.tdiv c=q at *
 omega
theorem z2c (n:Int):InI (IntKind.i64.wrap n):=by
 unfold InI
 rw [zik]
 split<;>omega
theorem Z3x {b:Int} (hb:InI b) (k:Int):InI (arI .shr .i64 b k):=by
 obtain ⟨h0,h1⟩:=hb
 unfold InI
 show _≤b.fdiv (2 ^ (min k.toNat 64))∧b.fdiv (2 ^ (min k.toNat 64))≤_
 have hp:(1:Int)≤2 ^ (min k.toNat 64):=by
  have:(0:Int) < 2 ^ (min k.toNat 64):=Int.pow_pos (by decide)
  omega
 rw [Int.fdiv_eq_ediv_of_nonneg _ (by omega)]
 generalize (2:Int) ^ (min k.toNat 64)=q at *
 refine ⟨?_,?_⟩
 ·rw [Int.le_ediv_iff_mul_le (by omega)]
  have:-9223372036854775808 * q≤-9223372036854775808 * 1:=Int.mul_le_mul_of_nonpos_left (by omega) (by omega)
  omega
 ·have:b / q < 9223372036854775808:=Int.ediv_lt_of_lt_mul (by omega) (by
   have:9223372036854775808 * 1≤9223372036854775808 * q:=Int.mul_le_mul_of_nonneg_left hp (by omega)
   omega)
  omega
theorem Z7e {b c:Int} (hb:InI b) (hc:InI c):InI (mulhR b c):=by
 obtain ⟨h0,h1⟩:=hb
 obtain ⟨h2,h3⟩:=hc
 have h4:=zp9 (A:=9223372036854775808) (B:=9223372036854775808) (a:=b) (b:=c) (by omega) (by omega)
 unfold InI mulhR
 rw [Int.fdiv_eq_ediv_of_nonneg _ (by decide)]
 generalize b * c=p at *
 omega
theorem z2g {p:Prop} [Decidable p] {a b:Int} (h1:InI a) (h2:InI b):InI (if p then a else b):=by
 by_cases h:p
 ·rw [if_pos h];exact h1
 ·rw [if_neg h];exact h2
theorem zxo (op:Int) {b c:Int} (hb:InI b) (hc:InI c):InI (thrR op b c):=by
 have h0:InI 0:=by unfold InI;omega
 have h1:InI 1:=by unfold InI;omega
 unfold thrR
 exact z2g (z2c _) (z2g (z2c _) (z2g (z2c _) (z2g (Z7e hb hc) (z2g (z2c _) (z2g (Z06 hb) (z2g (z2c _) (z2g (z2c _) (z2g (z2c _) (z2g (z2c _) (z2g (Z3x hb _) (z2g (z2c _) (z2g (z2g h1 h0) (z2g h1 h0)))))))))))))
theorem Z7h (c:Int):IntKind.u64.wrap (arI .and .i64 c 63)=arI .and .i64 c 63:=by
 rw [Z8v];exact wu64 (by omega) (by omega)
theorem zj3 (op b c:Int) (H:PH) (hb:InI b) (hc:InI c) (hz:op=5∨op=6→c≠0):Gives Tryz.prog zfo [.int .i64 op,.int .i64 b,.int .i64 c] H (.int .i64 (thrR op b c)):=by
 refine zct [.int .i64 op,.int .i64 b,.int .i64 c] (by kernel_rfl) (by kernel_rfl) ?_
 have e63:=Z7h c
 simp only [arI] at e63
 generalize ht:thrR op b c=t
 unfold thrR at ht
 refine ⟨fun g=>?_,fun g=>?_⟩
 ·simp only [ev0,ev,evV,List.cons_append,List.nil_append,List.getD_cons_zero,List.getD_cons_succ,List.map_cons,List.map_nil,iOf,bOf,sOf,pOf,slLen,z04,cmpI,arI,Value.ite_bool,z03,z02,z00,z01,zdt] at g
  rw [if_pos g] at ht
  exact ⟨by simp only [ev0,ev,evV,List.cons_append,List.nil_append,List.getD_cons_zero,List.getD_cons_succ,List.map_cons,List.map_nil,iOf,bOf,sOf,pOf,slLen,z04,cmpI,arI,Value.ite_bool,z03,z02,z00,z01,←ht],PH.le_refl _⟩
 simp only [ev0,ev,evV,List.cons_append,List.nil_append,List.getD_cons_zero,List.getD_cons_succ,List.map_cons,List.map_nil,iOf,bOf,sOf,pOf,slLen,z04,cmpI,arI,Value.ite_bool,z03,z02,z00,z01,zdf] at g
 rw [if_neg g] at ht
 refine ⟨fun g=>?_,fun g=>?_⟩
 ·simp only [ev0,ev,evV,List.cons_append,List.nil_append,List.getD_cons_zero,List.getD_cons_succ,List.map_cons,List.map_nil,iOf,bOf,sOf,pOf,slLen,z04,cmpI,arI,Value.ite_bool,z03,z02,z00,z01,zdt] at g
  rw [if_pos g] at ht
  exact ⟨by simp only [ev0,ev,evV,List.cons_append,List.nil_append,List.getD_cons_zero,List.getD_cons_succ,List.map_cons,List.map_nil,iOf,bOf,sOf,pOf,slLen,z04,cmpI,arI,Value.ite_bool,z03,z02,z00,z01,←ht],PH.le_refl _⟩
 simp only [ev0,ev,evV,List.cons_append,List.nil_append,List.getD_cons_zero,List.getD_cons_succ,List.map_cons,List.map_nil,iOf,bOf,sOf,pOf,slLen,z04,cmpI,arI,Value.ite_bool,z03,z02,z00,z01,zdf] at g
 rw [if_neg g] at ht
 refine ⟨fun g=>?_,fun g=>?_⟩
 ·simp only [ev0,ev,evV,List.cons_append,List.nil_append,List.getD_cons_zero,List.getD_cons_succ,List.map_cons,List.map_nil,iOf,bOf,sOf,pOf,slLen,z04,cmpI,arI,Value.ite_bool,z03,z02,z00,z01,zdt] at g
  rw [if_pos g] at ht
  exact ⟨by simp only [ev0,ev,evV,List.cons_append,List.nil_append,List.getD_cons_zero,List.getD_cons_succ,List.map_cons,List.map_nil,iOf,bOf,sOf,pOf,slLen,z04,cmpI,arI,Value.ite_bool,z03,z02,z00,z01,←ht],PH.le_refl _⟩
 simp only [ev0,ev,evV,List.cons_append,List.nil_append,List.getD_cons_zero,List.getD_cons_succ,List.map_cons,List.map_nil,iOf,bOf,sOf,pOf,slLen,z04,cmpI,arI,Value.ite_bool,z03,z02,z00,z01,zdf] at g
 rw [if_neg g] at ht
 refine ⟨fun g=>?_,fun g=>?_⟩
 ·simp only [ev0,ev,evV,List.cons_append,List.nil_append,List.getD_cons_zero,List.getD_cons_succ,List.map_cons,List.map_nil,iOf,bOf,sOf,pOf,slLen,z04,cmpI,arI,Value.ite_bool,z03,z02,z00,z01,zdt] at g
  rw [if_pos g] at ht
  refine z0b [.int .i64 (mulhR b c)] zfq (Z1e b c H hb hc) rfl z06 fun K l=>?_
  exact ⟨by simp only [ev0,ev,evV,List.cons_append,List.nil_append,List.getD_cons_zero,List.getD_cons_succ,List.map_cons,List.map_nil,iOf,bOf,sOf,pOf,slLen,z04,cmpI,arI,Value.ite_bool,z03,z02,z00,z01,←ht],l⟩
 simp only [ev0,ev,evV,List.cons_append,List.nil_append,List.getD_cons_zero,List.getD_cons_succ,List.map_cons,List.map_nil,iOf,bOf,sOf,pOf,slLen,z04,cmpI,arI,Value.ite_bool,z03,z02,z00,z01,zdf] at g
 rw [if_neg g] at ht
 refine ⟨fun g=>?_,fun g=>?_⟩
 ·simp only [ev0,ev,evV,List.cons_append,List.nil_append,List.getD_cons_zero,List.getD_cons_succ,List.map_cons,List.map_nil,iOf,bOf,sOf,pOf,slLen,z04,cmpI,arI,Value.ite_bool,z03,z02,z00,z01,zdt] at g
  rw [if_pos g] at ht
  refine ⟨fun _=>?_,?_,PH.le_refl _⟩
  ·simp only [Chk.holds,ev0,ev,evV,List.cons_append,List.nil_append,List.getD_cons_zero,List.getD_cons_succ,List.map_cons,List.map_nil,iOf,bOf,sOf,pOf,slLen,z04,cmpI,arI,Value.ite_bool,z03,z02,z00,z01];exact hz (.inl g)
  ·simp only [ev0,ev,evV,List.cons_append,List.nil_append,List.getD_cons_zero,List.getD_cons_succ,List.map_cons,List.map_nil,iOf,bOf,sOf,pOf,slLen,z04,cmpI,arI,Value.ite_bool,z03,z02,z00,z01,←ht]
 simp only [ev0,ev,evV,List.cons_append,List.nil_append,List.getD_cons_zero,List.getD_cons_succ,List.map_cons,List.map_nil,iOf,bOf,sOf,pOf,slLen,z04,cmpI,arI,Value.ite_bool,z03,z02,z00,z01,zdf] at g
 rw [if_neg g] at ht
 refine ⟨fun g=>?_,fun g=>?_⟩
 ·simp only [ev0,ev,evV,List.cons_append,List.nil_append,List.getD_cons_zero,List.getD_cons_succ,List.map_cons,List.map_nil,iOf,bOf,sOf,pOf,slLen,z04,cmpI,arI,Value.ite_bool,z03,z02,z00,z01,zdt] at g
  rw [if_pos g] at ht
  refine ⟨fun _=>?_,?_,PH.le_refl _⟩
  ·simp only [Chk.holds,ev0,ev,evV,List.cons_append,List.nil_append,List.getD_cons_zero,List.getD_cons_succ,List.map_cons,List.map_nil,iOf,bOf,sOf,pOf,slLen,z04,cmpI,arI,Value.ite_bool,z03,z02,z00,z01];exact hz (.inr g)
  ·simp only [ev0,ev,evV,List.cons_append,List.nil_append,List.getD_cons_zero,List.getD_cons_succ,List.map_cons,List.map_nil,iOf,bOf,sOf,pOf,slLen,z04,cmpI,arI,Value.ite_bool,z03,z02,z00,z01,Z7u hb,←ht]
 simp only [ev0,ev,evV,List.cons_append,List.nil_append,List.getD_cons_zero,List.getD_cons_succ,List.map_cons,List.map_nil,iOf,bOf,sOf,pOf,slLen,z04,cmpI,arI,Value.ite_bool,z03,z02,z00,z01,zdf] at g
 rw [if_neg g] at ht
 refine ⟨fun g=>?_,fun g=>?_⟩
 ·simp only [ev0,ev,evV,List.cons_append,List.nil_append,List.getD_cons_zero,List.getD_cons_succ,List.map_cons,List.map_nil,iOf,bOf,sOf,pOf,slLen,z04,cmpI,arI,Value.ite_bool,z03,z02,z00,z01,zdt] at g
  rw [if_pos g] at ht
  exact ⟨by simp only [ev0,ev,evV,List.cons_append,List.nil_append,List.getD_cons_zero,List.getD_cons_succ,List.map_cons,List.map_nil,iOf,bOf,sOf,pOf,slLen,z04,cmpI,arI,Value.ite_bool,z03,z02,z00,z01,←ht],PH.le_refl _⟩
 simp only [ev0,ev,evV,List.cons_append,List.nil_append,List.getD_cons_zero,List.getD_cons_succ,List.map_cons,List.map_nil,iOf,bOf,sOf,pOf,slLen,z04,cmpI,arI,Value.ite_bool,z03,z02,z00,z01,zdf] at g
 rw [if_neg g] at ht
 refine ⟨fun g=>?_,fun g=>?_⟩
 ·simp only [ev0,ev,evV,List.cons_append,List.nil_append,List.getD_cons_zero,List.getD_cons_succ,List.map_cons,List.map_nil,iOf,bOf,sOf,pOf,slLen,z04,cmpI,arI,Value.ite_bool,z03,z02,z00,z01,zdt] at g
  rw [if_pos g] at ht
  exact ⟨by simp only [ev0,ev,evV,List.cons_append,List.nil_append,List.getD_cons_zero,List.getD_cons_succ,List.map_cons,List.map_nil,iOf,bOf,sOf,pOf,slLen,z04,cmpI,arI,Value.ite_bool,z03,z02,z00,z01,←ht],PH.le_refl _⟩
 simp only [ev0,ev,evV,List.cons_append,List.nil_append,List.getD_cons_zero,List.getD_cons_succ,List.map_cons,List.map_nil,iOf,bOf,sOf,pOf,slLen,z04,cmpI,arI,Value.ite_bool,z03,z02,z00,z01,zdf] at g
 rw [if_neg g] at ht
 refine ⟨fun g=>?_,fun g=>?_⟩
 ·simp only [ev0,ev,evV,List.cons_append,List.nil_append,List.getD_cons_zero,List.getD_cons_succ,List.map_cons,List.map_nil,iOf,bOf,sOf,pOf,slLen,z04,cmpI,arI,Value.ite_bool,z03,z02,z00,z01,zdt] at g
  rw [if_pos g] at ht
  exact ⟨by simp only [ev0,ev,evV,List.cons_append,List.nil_append,List.getD_cons_zero,List.getD_cons_succ,List.map_cons,List.map_nil,iOf,bOf,sOf,pOf,slLen,z04,cmpI,arI,Value.ite_bool,z03,z02,z00,z01,←ht],PH.le_refl _⟩
 simp only [ev0,ev,evV,List.cons_append,List.nil_append,List.getD_cons_zero,List.getD_cons_succ,List.map_cons,List.map_nil,iOf,bOf,sOf,pOf,slLen,z04,cmpI,arI,Value.ite_bool,z03,z02,z00,z01,zdf] at g
 rw [if_neg g] at ht
 refine ⟨fun g=>?_,fun g=>?_⟩
 ·simp only [ev0,ev,evV,List.cons_append,List.nil_append,List.getD_cons_zero,List.getD_cons_succ,List.map_cons,List.map_nil,iOf,bOf,sOf,pOf,slLen,z04,cmpI,arI,Value.ite_bool,z03,z02,z00,z01,zdt] at g
  rw [if_pos g] at ht
  exact ⟨by simp only [ev0,ev,evV,List.cons_append,List.nil_append,List.getD_cons_zero,List.getD_cons_succ,List.map_cons,List.map_nil,iOf,bOf,sOf,pOf,slLen,z04,cmpI,arI,Value.ite_bool,z03,z02,z00,z01,e63,←ht],PH.le_refl _⟩
 simp only [ev0,ev,evV,List.cons_append,List.nil_append,List.getD_cons_zero,List.getD_cons_succ,List.map_cons,List.map_nil,iOf,bOf,sOf,pOf,slLen,z04,cmpI,arI,Value.ite_bool,z03,z02,z00,z01,zdf] at g
 rw [if_neg g] at ht
 refine ⟨fun g=>?_,fun g=>?_⟩
 ·simp only [ev0,ev,evV,List.cons_append,List.nil_append,List.getD_cons_zero,List.getD_cons_succ,List.map_cons,List.map_nil,iOf,bOf,sOf,pOf,slLen,z04,cmpI,arI,Value.ite_bool,z03,z02,z00,z01,zdt] at g
  rw [if_pos g] at ht
  exact ⟨by simp only [ev0,ev,evV,List.cons_append,List.nil_append,List.getD_cons_zero,List.getD_cons_succ,List.map_cons,List.map_nil,iOf,bOf,sOf,pOf,slLen,z04,cmpI,arI,Value.ite_bool,z03,z02,z00,z01,e63,←ht],PH.le_refl _⟩
 simp only [ev0,ev,evV,List.cons_append,List.nil_append,List.getD_cons_zero,List.getD_cons_succ,List.map_cons,List.map_nil,iOf,bOf,sOf,pOf,slLen,z04,cmpI,arI,Value.ite_bool,z03,z02,z00,z01,zdf] at g
 rw [if_neg g] at ht
 refine ⟨fun g=>?_,fun g=>?_⟩
 ·simp only [ev0,ev,evV,List.cons_append,List.nil_append,List.getD_cons_zero,List.getD_cons_succ,List.map_cons,List.map_nil,iOf,bOf,sOf,pOf,slLen,z04,cmpI,arI,Value.ite_bool,z03,z02,z00,z01,zdt] at g
  rw [if_pos g] at ht
  exact ⟨by simp only [ev0,ev,evV,List.cons_append,List.nil_append,List.getD_cons_zero,List.getD_cons_succ,List.map_cons,List.map_nil,iOf,bOf,sOf,pOf,slLen,z04,cmpI,arI,Value.ite_bool,z03,z02,z00,z01,e63,←ht,u64],PH.le_refl _⟩
 simp only [ev0,ev,evV,List.cons_append,List.nil_append,List.getD_cons_zero,List.getD_cons_succ,List.map_cons,List.map_nil,iOf,bOf,sOf,pOf,slLen,z04,cmpI,arI,Value.ite_bool,z03,z02,z00,z01,zdf] at g
 rw [if_neg g] at ht
 refine ⟨fun g=>?_,fun g=>?_⟩
 ·simp only [ev0,ev,evV,List.cons_append,List.nil_append,List.getD_cons_zero,List.getD_cons_succ,List.map_cons,List.map_nil,iOf,bOf,sOf,pOf,slLen,z04,cmpI,arI,Value.ite_bool,z03,z02,z00,z01,zdt] at g
  rw [if_pos g] at ht
  refine ⟨fun g=>?_,fun g=>?_⟩
  ·simp only [ev0,ev,evV,List.cons_append,List.nil_append,List.getD_cons_zero,List.getD_cons_succ,List.map_cons,List.map_nil,iOf,bOf,sOf,pOf,slLen,z04,cmpI,arI,Value.ite_bool,z03,z02,z00,z01,zdt] at g
   rw [if_pos g] at ht
   exact ⟨by simp only [ev0,ev,evV,List.cons_append,List.nil_append,List.getD_cons_zero,List.getD_cons_succ,List.map_cons,List.map_nil,iOf,bOf,sOf,pOf,slLen,z04,cmpI,arI,Value.ite_bool,z03,z02,z00,z01,←ht],PH.le_refl _⟩
  ·simp only [ev0,ev,evV,List.cons_append,List.nil_append,List.getD_cons_zero,List.getD_cons_succ,List.map_cons,List.map_nil,iOf,bOf,sOf,pOf,slLen,z04,cmpI,arI,Value.ite_bool,z03,z02,z00,z01,zdf] at g
   rw [if_neg g] at ht
   exact ⟨by simp only [ev0,ev,evV,List.cons_append,List.nil_append,List.getD_cons_zero,List.getD_cons_succ,List.map_cons,List.map_nil,iOf,bOf,sOf,pOf,slLen,z04,cmpI,arI,Value.ite_bool,z03,z02,z00,z01,←ht],PH.le_refl _⟩
 simp only [ev0,ev,evV,List.cons_append,List.nil_append,List.getD_cons_zero,List.getD_cons_succ,List.map_cons,List.map_nil,iOf,bOf,sOf,pOf,slLen,z04,cmpI,arI,Value.ite_bool,z03,z02,z00,z01,zdf] at g
 rw [if_neg g] at ht
 refine ⟨fun g=>?_,fun g=>?_⟩
 ·simp only [ev0,ev,evV,List.cons_append,List.nil_append,List.getD_cons_zero,List.getD_cons_succ,List.map_cons,List.map_nil,iOf,bOf,sOf,pOf,slLen,z04,cmpI,arI,Value.ite_bool,z03,z02,z00,z01,zdt] at g
  rw [if_pos (show u64 b < u64 c from g)] at ht
  exact ⟨by simp only [ev0,ev,evV,List.cons_append,List.nil_append,List.getD_cons_zero,List.getD_cons_succ,List.map_cons,List.map_nil,iOf,bOf,sOf,pOf,slLen,z04,cmpI,arI,Value.ite_bool,z03,z02,z00,z01,←ht],PH.le_refl _⟩
 ·simp only [ev0,ev,evV,List.cons_append,List.nil_append,List.getD_cons_zero,List.getD_cons_succ,List.map_cons,List.map_nil,iOf,bOf,sOf,pOf,slLen,z04,cmpI,arI,Value.ite_bool,z03,z02,z00,z01,zdf] at g
  rw [if_neg (show ¬u64 b < u64 c from g)] at ht
  exact ⟨by simp only [ev0,ev,evV,List.cons_append,List.nil_append,List.getD_cons_zero,List.getD_cons_succ,List.map_cons,List.map_nil,iOf,bOf,sOf,pOf,slLen,z04,cmpI,arI,Value.ite_bool,z03,z02,z00,z01,←ht],PH.le_refl _⟩
theorem zpy {P:Program} {Φ:Next→PH→Prop} {Ψ:Value→PH→Prop} {H:PH} {ρ:Operand→Value} {T ty:TypeId} {x y:Operand}:wpS P (execOp ρ (bare (.indexAddr T x y) ty)) Φ Ψ H=wpS P (Instr.indexAt T (ρ x) (ρ y)) (fun v H'=>Φ (.value v) H') Ψ H:=by
 simp only [execOp,bare,z09,z0l]
theorem z5l {P:Program} {X:List PanicEntry→PH→Prop} {β:Type} {E:List Value} {H:PH} {L:LK} {K:β→List Value→PH→LK→Prop} {T ty e:TypeId} {n:Nat} {x y:Operand} {args:List (Nat×VE)} {pend:List (SV×List SV)} {k:Fm β} {kk:IntKind} {i:Int} {r off:Nat}
  (hT:P.underlying T=some (.array n e)) (hiz:(P.info? e).map (·.size)=some 1) (hx:argEv E args x=.pointer (some ⟨r,off,none⟩)) (hy:argEv E args y=.int kk i) (hi:0≤i∧i < n) (hp:z0s E H pend)
  (hk:den P X k (E++[.pointer (some ⟨r,off+i.toNat,none⟩)]) H L K):den P X (.sem (.indexAddr T x y) ty args (.sc .ptr) pend k) E H L K:=by
 obtain ⟨inf,hi2,hz⟩:=Option.map_eq_some_iff.1 hiz
 show wpS P (execOp (argEv E args) (bare _ ty)) _ _ H
 rw [zpy,hx,hy]
 unfold Instr.indexAt asIntOf
 simp only [z09,z0l,z0g hT]
 unfold Instr.sureAddr
 simp only [z09,z0l]
 rw [if_pos hi]
 simp only [z09,z0l,z2a hi2,hz,Addr.add_plain,Nat.mul_one]
 exact ⟨[_],rfl,rfl,hp,hk⟩
theorem zbx:Tryz.prog.underlying 59=some (.array 32 3):=by kernel_rfl
theorem zIntQ:(Tryz.prog.info? 3).map (·.size)=some 1:=by kernel_rfl
def z0m (st:Int) (m:MaR) (mv ov:Value):List Value:=
 .int .i64 st::.int .i64 m.value::txt []::.int .i64 m.steps::.int .i64 m.pc::(m.regs.map (Value.int .i64)++[mv,txt m.input,ov])
structure MaOk (m:MaR):Prop where
 len:m.regs.length=32
 regs:∀v∈m.regs,InI v
theorem MaOk.reg {m:MaR} (h:MaOk m) (r:Int):InI (m.reg r):=by
 unfold MaR.reg
 rw [zgd]
 cases e:m.regs[r.toNat]? with
 | none=>unfold InI;simp
 | some v=>exact h.regs v (List.mem_of_getElem? e)
theorem MaOk.put {m:MaR} (h:MaOk m) {r v to:Int} (hv:InI v):MaOk (m.put r v to):=by
 unfold MaR.put
 refine ⟨?_,fun u hu=>?_⟩
 ·simp only [];split
  ·exact h.len
  ·rw [List.length_set];exact h.len
 ·simp only [] at hu
  split at hu
  ·exact h.regs u hu
  ·rcases List.mem_or_eq_of_mem_set hu with hu | rfl
   ·exact h.regs u hu
   ·exact hv
section
variable {st:Int} {m:MaR} {mv ov:Value}
theorem c_reg (h:MaOk m) {r:Int} (h0:0≤r) (h1:r≤31):((z0m st m mv ov).drop (5+r.toNat)).take 1=[.int .i64 (m.reg r)]:=by
 have hl:r.toNat < m.regs.length:=by rw [h.len];omega
 rw [show 5+r.toNat=r.toNat+5 by omega]
 simp only [z0m,List.drop_succ_cons]
 rw [List.drop_append_of_le_length (by rw [List.length_map];omega),List.take_append_of_le_length (by rw [List.length_drop,List.length_map];omega),←List.map_drop,List.drop_eq_getElem_cons hl]
 simp only [List.map_cons,List.take_succ_cons,List.take_zero,MaR.reg]
 rw [zgd,zge hl];rfl
theorem z73 (h:MaOk m) (k:Nat):(z0m st m mv ov).drop (37+k)=[mv,txt m.input,ov].drop k:=by
 rw [show 37+k=(32+k)+5 by omega]
 simp only [z0m,List.drop_succ_cons]
 rw [←h.len,show m.regs.length=(m.regs.map (Value.int .i64)).length by rw [List.length_map],List.drop_append]
 simp
theorem c_len (h:MaOk m):(z0m st m mv ov).length=40:=by simp [z0m,h.len]
theorem s_reg (h:MaOk m) {r v:Int} (h0:0≤r) (h1:r≤31):(z0m st m mv ov).take (5+r.toNat)++[.int .i64 v]++(z0m st m mv ov).drop (5+r.toNat+1)=z0m st { m with regs:=m.regs.set r.toNat v } mv ov:=by
 have hl:r.toNat < m.regs.length:=by rw [h.len];omega
 rw [show 5+r.toNat=r.toNat+5 by omega,show r.toNat+5+1=(r.toNat+1)+5 by omega]
 simp only [z0m,List.drop_succ_cons,List.take_succ_cons,List.cons_append]
 rw [List.take_append_of_le_length (by rw [List.length_map];omega),List.drop_append_of_le_length (by rw [List.length_map];omega),List.map_set]
 rw [List.set_eq_take_append_cons_drop,if_pos (by rw [List.length_map];omega)]
 simp
theorem s_mem (h:MaOk m) (mv':Value):(z0m st m mv ov).take 37++[mv']++(z0m st m mv ov).drop 38=z0m st m mv' ov:=by
 have:=z73 (st:=st) (mv:=mv) (ov:=ov) h 1
 rw [show 37+1=38 from rfl] at this
 rw [this]
 have e:(z0m st m mv ov).take 37=.int .i64 st::.int .i64 m.value::txt []::.int .i64 m.steps::.int .i64 m.pc::m.regs.map (Value.int .i64):=by
  simp only [z0m,List.take_succ_cons]
  rw [show 32=(m.regs.map (Value.int .i64)).length by rw [List.length_map,h.len],List.take_append,List.take_of_length_le (Nat.le_refl _)];simp
 rw [e];simp [z0m]
theorem s_in (h:MaOk m) (i':List UInt8):(z0m st m mv ov).take 38++[txt i']++(z0m st m mv ov).drop 39=z0m st { m with input:=i' } mv ov:=by
 have:=z73 (st:=st) (mv:=mv) (ov:=ov) h 2
 rw [show 37+2=39 from rfl] at this
 rw [this]
 have e:(z0m st m mv ov).take 38=.int .i64 st::.int .i64 m.value::txt []::.int .i64 m.steps::.int .i64 m.pc::(m.regs.map (Value.int .i64)++[mv]):=by
  simp only [z0m,List.take_succ_cons]
  rw [show 33=(m.regs.map (Value.int .i64)).length+1 by rw [List.length_map,h.len],List.take_append,List.take_of_length_le (Nat.le_add_right _ _)];simp
 rw [e];simp [z0m]
theorem s_out (h:MaOk m) (ov':Value):(z0m st m mv ov).take 39++[ov']++(z0m st m mv ov).drop 40=z0m st m mv ov':=by
 have:=z73 (st:=st) (mv:=mv) (ov:=ov) h 3
 rw [show 37+3=40 from rfl] at this
 rw [this]
 have e:(z0m st m mv ov).take 39=.int .i64 st::.int .i64 m.value::txt []::.int .i64 m.steps::.int .i64 m.pc::(m.regs.map (Value.int .i64)++[mv,txt m.input]):=by
  simp only [z0m,List.take_succ_cons]
  rw [show 34=(m.regs.map (Value.int .i64)).length+2 by rw [List.length_map,h.len],List.take_append,List.take_of_length_le (Nat.le_add_right _ _)];simp
 rw [e];simp [z0m]
end
abbrev z1r (T:TypeId) (r:Nat) (st:Int) (m:MaR) (mv ov:Value):List Itm:=[bx r T (z0m st m mv ov),orow 3 m.mem mv,orow 5 m.out ov]
section
variable {T:TypeId} {r:Nat} {st:Int} {m:MaR} {mv ov:Value} {S K:PH} {J:List Itm}
theorem z4t (h:Held S K (z1r T r st m mv ov++J)) {off:Nat} {vs:List Value} (hv:((z0m st m mv ov).drop off).take vs.length=vs):rowAt K (some ⟨r,off,none⟩) vs:=by
 have:=z1p h (List.mem_append_left _ (zms)) off vs.length
 rwa [hv] at this
theorem zh4 (h:Held S K (z1r T r st m mv ov++J)) (ok:MaOk m) {a:Int} (h0:0≤a) (h1:a≤31):rowAt K (some ⟨r,5+a.toNat,none⟩) [.int .i64 (m.reg a)]:=z4t h (c_reg ok h0 h1)
theorem zrc (h:Held S K (z1r T r st m mv ov++J)) (ok:MaOk m):rowAt K (some ⟨r,37,none⟩) [mv]:=z4t h (by
 have:=z73 (st:=st) (mv:=mv) (ov:=ov) ok 0
 rw [show 37+0=37 from rfl] at this
 rw [this];rfl)
theorem Z3q (h:Held S K (z1r T r st m mv ov++J)) (ok:MaOk m):rowAt K (some ⟨r,38,none⟩) [txt m.input]:=z4t h (by
 have:=z73 (st:=st) (mv:=mv) (ov:=ov) ok 1
 rw [show 37+1=38 from rfl] at this
 rw [this];rfl)
theorem Z0n (h:Held S K (z1r T r st m mv ov++J)) (ok:MaOk m):rowAt K (some ⟨r,39,none⟩) [ov]:=z4t h (by
 have:=z73 (st:=st) (mv:=mv) (ov:=ov) ok 2
 rw [show 37+2=39 from rfl] at this
 rw [this];rfl)
theorem Z8p (h:Held S K (z1r T r st m mv ov++J)):SlR K m.mem mv:=(h.row (e:=3) (by simp)).slR h.sh
theorem Z08 (h:Held S K (z1r T r st m mv ov++J)):∃b c,ov=.slice b m.out.length c:=(h.row (e:=5) (by simp)).sl
end
def EndX.reads (e:EndX) (r:Int):Bool:=
 if e.kind=1∨e.kind=2∨e.kind=5∨e.kind=6 then decide (e.reg=r) else if e.kind=3∨e.kind=4 then decide (e.reg=r) || decide (r∈e.args) else false
def EndX.calls (e:EndX):Bool:=decide (e.kind=4∨e.kind=6)
def EndX.ways (e:EndX):List Int:=(if e.kind=0∨e.kind=1∨e.kind=4∨e.kind=6 then [e.next] else [])++(if e.kind=1 then [e.els] else [])
def EndX.leads (e:EndX) (n:Nat):List Int:=e.ways.filter fun b=>decide (0≤b∧b < n)
def endVs (e:EndX) (av:Value):List Value:=[.int .i64 e.kind,.int .i64 e.reg,av,.int .i64 e.to,.int .i64 e.next,.int .i64 e.els]
def insL (n:Int):List Int→List Int
 | []=>[n]
 | a::l=>if n < a then n::a::l else a::insL n l
def putL (l:List Int) (n:Int):List Int:=if n∈l then l else insL n l
theorem zvw (n:Int):∀l,(insL n l).length=l.length+1
 | []=>rfl
 | a::l=>by unfold insL;split<;>simp [zvw n l]
theorem zny (n x:Int):∀l,x∈insL n l↔x=n∨x∈l
 | []=>by simp [insL]
 | a::l=>by
  unfold insL
  split
  ·simp
  ·simp only [List.mem_cons,zny n x l]
   constructor
   ·rintro (h | h | h)
    ·exact .inr (.inl h)
    ·exact .inl h
    ·exact .inr (.inr h)
   ·rintro (h | h | h)
    ·exact .inr (.inl h)
    ·exact .inl h
    ·exact .inr (.inr h)
theorem zob {n:Int}:∀{l:List Int},l.Pairwise (· < ·)→n∉l→(insL n l).Pairwise (· < ·)
 | [],_,_=>by simp [insL]
 | a::l,h,hn=>by
  obtain ⟨h1,h2⟩:=List.pairwise_cons.1 h
  simp only [List.mem_cons,not_or] at hn
  unfold insL
  split
  ·rename_i hlt
   refine List.pairwise_cons.2 ⟨fun b hb=>?_,h⟩
   rcases List.mem_cons.1 hb with rfl | hb
   ·exact hlt
   ·exact Int.lt_trans hlt (h1 b hb)
  ·rename_i hlt
   refine List.pairwise_cons.2 ⟨fun b hb=>?_,zob h2 hn.2⟩
   rcases (zny n b l).1 hb with rfl | hb
   ·omega
   ·exact h1 b hb
theorem Z6c (n x:Int) (l:List Int):x∈putL l n↔x=n∨x∈l:=by
 unfold putL
 split
 ·rename_i h;exact ⟨.inr,fun hx=>hx.elim (fun e=>e ▸ h) id⟩
 ·exact zny n x l
theorem Z1v {n:Int} {l:List Int} (h:l.Pairwise (· < ·)):(putL l n).Pairwise (· < ·):=by
 unfold putL;split
 ·exact h
 ·rename_i hn;exact zob h hn
theorem Z5q (l:List Int) (n:Int):(putL l n).length≤l.length+1:=by
 unfold putL;split
 ·omega
 ·rw [zvw];omega
def prcVs (p:PrcX) (bv:Value):List Value:=[.int .i64 p.params,.int .i64 p.holds,.int .i64 p.regs,bv]
theorem Z71 (e:EndX):e.ways.length≤2:=by
 unfold EndX.ways
 rw [zla]
 split<;>split<;>simp
def EndX.regs (e:EndX):List Int:=(if e.reads e.reg then [e.reg] else [])++(if e.kind=3∨e.kind=4 then e.args else [])
def BlkX.regs (b:BlkX):List Int:=b.ins.flatMap (·.args)++b.e.regs
def PrcX.regl (p:PrcX):List Int:=p.blocks.flatMap BlkX.regs
def readL (p:PrcX):List Int:=p.regl.foldl putL []
theorem zue (l:List Int):∀acc:List Int,(l.foldl putL acc).length≤acc.length+l.length:=by
 induction l with
 | nil=>intro acc;simp
 | cons a l ih=>
  intro acc
  have h1:=ih (putL acc a)
  have h2:=Z5q acc a
  simp only [List.foldl_cons,zlc];omega
theorem zub (l:List Int) (x:Int):∀acc:List Int,x∈l.foldl putL acc↔x∈acc∨x∈l:=by
 induction l with
 | nil=>intro acc;simp
 | cons a l ih=>
  intro acc
  rw [List.foldl_cons,ih,Z6c,List.mem_cons]
  constructor
  ·rintro ((h | h) | h)
   ·exact .inr (.inl h)
   ·exact .inl h
   ·exact .inr (.inr h)
  ·rintro (h | h | h)
   ·exact .inl (.inr h)
   ·exact .inl (.inl h)
   ·exact .inr h
theorem zot (l:List Int):∀acc:List Int,acc.Pairwise (· < ·)→(l.foldl putL acc).Pairwise (· < ·):=by
 induction l with
 | nil=>intro acc h;exact h
 | cons a l ih=>intro acc h;exact ih _ (Z1v h)
theorem zyr (p:PrcX):(readL p).Pairwise (· < ·):=zot _ _ .nil
theorem Z4u (p:PrcX) (x:Int):x∈readL p↔x∈p.regl:=by
 unfold readL;rw [zub];simp
theorem zqk {α β:Type} (f:α→List β) {l:List α} {k:Nat} {a:α} (h:l[k]?=some a):(l.take (k+1)).flatMap f=(l.take k).flatMap f++f a:=by
 rw [List.take_add_one,h,List.flatMap_append];simp
theorem zeo {α β:Type} (f:α→List β) (l:List α) (k:Nat):((l.take k).flatMap f).length≤(l.flatMap f).length:=by
 have:(l.flatMap f)=(l.take k).flatMap f++(l.drop k).flatMap f:=by rw [←List.flatMap_append,List.take_append_drop]
 rw [this,zla];omega
theorem Z5r {p:PrcX} {i:Nat} {b:BlkX} (hb:p.blocks[i]?=some b):b.regs.length+((p.blocks.take i).flatMap BlkX.regs).length≤p.regl.length:=by
 have h1:=zqk BlkX.regs hb
 have h2:=zeo BlkX.regs p.blocks (i+1)
 have h3:=congrArg List.length h1
 rw [zla] at h3
 show _≤(p.blocks.flatMap BlkX.regs).length
 omega
def tieB:List UInt8:=[116,105,101]
def InsX.fills (x:InsX) (r:Int):Prop:=x.op≠tieB∧x.to=r
def thru (r:Int):List InsX→Prop→Prop
 | [],q=>q
 | x::xs,q=>r∈x.args∨(¬x.fills r∧thru r xs q)
def z9x (e:EndX) (n:Nat) (r:Int) (L:Nat→Prop):Prop:=e.reads r=true∨(¬(e.calls=true∧e.to=r)∧∃b:Nat,(b:Int)∈e.leads n∧L b)
def z2l (p:PrcX) (r:Int) (L:Nat→Prop) (i at_:Nat):Prop:=∃b,p.blocks[i]?=some b∧thru r (b.ins.drop at_) (z9x b.e p.blocks.length r L)
def LiveB (p:PrcX) (r:Int) (i:Nat):Prop:=∀L:Nat→Prop,(∀j,z2l p r L j 0→L j)→L i
def z1z (p:PrcX) (r:Int) (i at_:Nat):Prop:=z2l p r (LiveB p r) i at_
theorem zer {r:Int} {q q':Prop} (h:q→q'):∀{l:List InsX},thru r l q→thru r l q'
 | [],hq=>h hq
 | x::xs,hq=>hq.imp id fun h2=>⟨h2.1,zer h h2.2⟩
theorem zvp {e:EndX} {n:Nat} {r:Int} {L L':Nat→Prop} (h:∀i,L i→L' i) (hl:z9x e n r L):z9x e n r L':=
 hl.imp id fun ⟨h1,b,h2,h3⟩=>⟨h1,b,h2,h b h3⟩
theorem z2v {p:PrcX} {r:Int} {L L':Nat→Prop} (h:∀i,L i→L' i) {i at_:Nat} (hl:z2l p r L i at_):z2l p r L' i at_:=by
 obtain ⟨b,h1,h2⟩:=hl
 exact ⟨b,h1,zer (zvp h) h2⟩
theorem zi2 {p:PrcX} {r:Int} {i:Nat} (h:z1z p r i 0):LiveB p r i:=fun L hL=>hL i (z2v (fun j hj=>hj L hL) h)
theorem zii {p:PrcX} {r:Int} {i:Nat} (h:LiveB p r i):z1z p r i 0:=h (fun j=>z1z p r j 0) fun _ hj=>z2v (fun _ hk=>zi2 hk) hj
theorem zt1 {p:PrcX} {r:Int} {i:Nat}:LiveB p r i↔z1z p r i 0:=⟨zii,zi2⟩
theorem zsr {r:Int} {q:Prop}:∀{l:List InsX},thru r l q→r∈l.flatMap (·.args)∨q
 | [],h=>.inr h
 | x::xs,h=>by
  simp only [List.flatMap_cons,List.mem_append]
  rcases h with h | ⟨_,h⟩
  ·exact .inl (.inl h)
  ·rcases zsr h with h | h
   ·exact .inl (.inr h)
   ·exact .inr h
theorem Z24 {e:EndX} {r:Int} (h:e.reads r=true):r∈e.regs:=by
 unfold EndX.reads at h
 unfold EndX.regs
 split at h
 ·rename_i hk
  simp only [zdt] at h
  have:e.reads e.reg=true:=by unfold EndX.reads;rw [if_pos hk];simp
  rw [if_pos this];simp [h]
 ·split at h
  ·rename_i hk hk2
   have:e.reads e.reg=true:=by unfold EndX.reads;rw [if_neg hk,if_pos hk2];simp
   rw [if_pos this,if_pos hk2]
   simp only [Bool.or_eq_true,zdt] at h
   rcases h with h | h
   ·simp [h]
   ·simp [h]
  ·cases h
theorem z5g {p:PrcX} {r:Int} {i at_:Nat} (h:z1z p r i at_):r∈p.regl:=by
 have key:∀{j a:Nat} {L:Nat→Prop},(∀k,L k→r∈p.regl)→z2l p r L j a→r∈p.regl:=by
  rintro j a L hL ⟨b,hb,ht⟩
  have hmem:∀x∈b.regs,x∈p.regl:=fun x hx=>List.mem_flatMap.2 ⟨b,List.mem_of_getElem? hb,hx⟩
  rcases zsr ht with h | h
  ·refine hmem r (List.mem_append_left _ ?_)
   obtain ⟨y,hy,hr⟩:=List.mem_flatMap.1 h
   exact List.mem_flatMap.2 ⟨y,List.mem_of_mem_drop hy,hr⟩
  ·rcases h with h | ⟨_,k,_,hk⟩
   ·exact hmem r (List.mem_append_right _ (Z24 h))
   ·exact hL k hk
 exact key (fun k hk=>hk (fun _=>r∈p.regl) fun j hj=>key (fun _ h=>h) hj) h
open Classical in
noncomputable def liveD (p:PrcX) (r:Int) (i at_:Nat):Bool:=decide (z1z p r i at_)
theorem Z4v {p:PrcX} {r:Int} {i at_:Nat}:liveD p r i at_=true↔z1z p r i at_:=by
 unfold liveD;simp
noncomputable def liveL (p:PrcX) (i at_:Nat):List Int:=(readL p).filter fun r=>liveD p r i at_
theorem liveL_mem {p:PrcX} {i at_:Nat} {r:Int}:r∈liveL p i at_↔z1z p r i at_:=by
 unfold liveL
 rw [List.mem_filter,Z4v,Z4u]
 exact ⟨fun h=>h.2,fun h=>⟨z5g h,h⟩⟩
theorem zey (p:PrcX) (i at_:Nat):(liveL p i at_).Pairwise (· < ·):=(zyr p).sublist List.filter_sublist
theorem zcm:∀{l m:List Int},l.Pairwise (· < ·)→m.Pairwise (· < ·)→(∀x,x∈l↔x∈m)→l=m
 | [],[],_,_,_=>rfl
 | [],b::m,_,_,h=>absurd ((h b).2 (zms)) (by simp)
 | a::l,[],_,_,h=>absurd ((h a).1 (zms)) (by simp)
 | a::l,b::m,hl,hm,h=>by
  obtain ⟨l1,l2⟩:=List.pairwise_cons.1 hl
  obtain ⟨m1,m2⟩:=List.pairwise_cons.1 hm
  have hab:a=b:=by
   have ha:=(h a).1 (zms)
   have hb:=(h b).2 (zms)
   rcases List.mem_cons.1 ha with e | ha
   ·exact e
   ·rcases List.mem_cons.1 hb with e | hb
    ·exact e.symm
    ·have:=m1 a ha;have:=l1 b hb;omega
  subst hab
  congr 1
  refine zcm l2 m2 fun x=>?_
  constructor
  ·intro hx
   rcases List.mem_cons.1 ((h x).1 (zmm _ hx)) with e | h1
   ·subst e;have:=l1 x hx;omega
   ·exact h1
  ·intro hx
   rcases List.mem_cons.1 ((h x).2 (zmm _ hx)) with e | h1
   ·subst e;have:=m1 x hx;omega
   ·exact h1
structure Seek (p:PrcX) (r:Int) (i0 a0:Nat) (begun:Nat→Bool) (todo:List Nat):Prop where
 fair:∀b∈todo,z1z p r b 0→z1z p r i0 a0
 full:∀b,begun b=true→b∉todo→¬z2l p r (fun j=>begun j=false) b 0
 start:¬z2l p r (fun j=>begun j=false) i0 a0
theorem Seek.none {p:PrcX} {r:Int} {i0 a0:Nat} {begun:Nat→Bool} (h:Seek p r i0 a0 begun []):¬z1z p r i0 a0:=by
 intro hl
 refine h.start (z2v (fun j hj=>hj (fun j=>begun j=false) fun k hk=>?_) hl)
 cases hb:begun k with
 | false=>rfl
 | true=>exact absurd hk (h.full k hb (by simp))
structure Mid (p:PrcX) (r:Int) (i0 a0:Nat) (begun:Nat→Bool) (rest:List Nat) (i a:Nat):Prop where
 cur:z1z p r i a→z1z p r i0 a0
 fair:∀b∈rest,z1z p r b 0→z1z p r i0 a0
 hold:∀b,begun b=true→b∉rest→(b=i∧a=0)∨¬z2l p r (fun j=>begun j=false) b 0
 start:(i=i0∧a=a0)∨¬z2l p r (fun j=>begun j=false) i0 a0
theorem Mid.first (p:PrcX) (r:Int) (i a:Nat):Mid p r i a (fun _=>false) [] i a:=
 ⟨id,fun b hb=>by simp at hb,fun b hb=>by simp at hb,.inl ⟨rfl,rfl⟩⟩
theorem Mid.dead {p:PrcX} {r:Int} {i0 a0 i a:Nat} {begun:Nat→Bool} {rest:List Nat} (h:Mid p r i0 a0 begun rest i a) (hd:∀L,¬z2l p r L i a):Seek p r i0 a0 begun rest:=
 ⟨h.fair,fun b hb hn=>(h.hold b hb hn).elim (fun ⟨e1,e2⟩=>by rw [e1,←e2];exact hd _) id,h.start.elim (fun ⟨e1,e2⟩=>by rw [←e1,←e2];exact hd _) id⟩
theorem Mid.go {p:PrcX} {r:Int} {i0 a0 i a:Nat} {begun begun':Nat→Bool} {rest todo':List Nat} {b:BlkX} (h:Mid p r i0 a0 begun rest i a) (hb:p.blocks[i]?=some b) (ht:∀q,thru r (b.ins.drop a) q↔q) (hr:b.e.reads r=false)
  (hc:¬(b.e.calls=true∧b.e.to=r)) (h1:∀j,begun' j=true↔begun j=true∨(j:Int)∈b.e.leads p.blocks.length) (h2:∀j∈todo',j∈rest∨(j:Int)∈b.e.leads p.blocks.length) (h3:∀j∈rest,j∈todo') (h4:∀j,begun' j=true→begun j=true∨j∈todo') :
  Seek p r i0 a0 begun' todo':=by
 have hmono:∀{j k:Nat},¬z2l p r (fun j=>begun j=false) j k→¬z2l p r (fun j=>begun' j=false) j k:=fun hn hl=>hn (z2v (fun m hm=>by
  cases hbm:begun m with
  | false=>rfl
  | true=>rw [(h1 m).2 (.inl hbm)] at hm;cases hm) hl)
 have hhere:¬z2l p r (fun j=>begun' j=false) i a:=by
  rintro ⟨b',hb',hl⟩
  rw [hb] at hb';cases hb'
  rw [ht] at hl
  rcases hl with hl | ⟨_,k,hk,hf⟩
  ·rw [hr] at hl;cases hl
  ·rw [(h1 k).2 (.inr hk)] at hf;cases hf
 refine ⟨fun j hj hl=>?_,fun j hj hn=>?_,h.start.elim (fun ⟨e1,e2⟩=>by rw [←e1,←e2];exact hhere) hmono⟩
 ·rcases h2 j hj with hj | hj
  ·exact h.fair j hj hl
  ·refine h.cur ⟨b,hb,(ht _).2 (.inr ⟨hc,j,hj,zi2 hl⟩)⟩
 ·rcases h4 j hj with hb0 | hb0
  ·rcases h.hold j hb0 (fun hr=>hn (h3 j hr)) with ⟨e1,e2⟩ | hx
   ·rw [e1,←e2];exact hhere
   ·exact hmono hx
  ·exact absurd hb0 hn
theorem zlm:Tryz.prog.underlying 116=some (.slice 4):=by kernel_rfl
theorem zhm:OneOk Tryz.prog 4 1 (.bool false):=OneOk.of (by kernel_rfl) rfl
theorem csBK {H:PH} {a:Bool} {cs:List Value} (h:CsR H a cs):cs=[.bool a]:=by
 have h':PV.RepRow H [.bool a] cs:=h
 simp only [PV.RepRow,PV.Rep] at h'
 obtain ⟨v,vs,rfl,rfl,rfl⟩:=h'
 rfl
theorem zby {S:PH} {a:Bool}:CsR S a [.bool a]:=by
 show PV.RepRow S [.bool a] [.bool a]
 simp only [PV.RepRow,PV.Rep]
 exact ⟨_,_,rfl,rfl,rfl⟩
theorem zll (l:List UInt8):cmpS .neq ⟨l.toArray⟩ ⟨#[116,105,101]⟩=!decide (l=tieB):=by
 show (!((⟨l.toArray⟩:ByteArray).toList == (⟨tieB.toArray⟩:ByteArray).toList))=_
 rw [zlg]
structure InsOk (x:InsR):Prop where
 op:0≤x.op∧x.op < 32
 a:0≤x.a∧x.a≤31
 b:0≤x.b∧x.b≤31
 c:0≤x.c∧x.c≤31
 n:-1048576≤x.n∧x.n≤1048575
 sh:x.op=18∨x.op=19→0≤x.n∧x.n≤63
theorem Z4k {x:InsR} {w:Int} (h:encR x=some w):InsOk x:=by
 unfold encR at h
 by_cases h1:x.op < 0∨32≤x.op
 ·rw [if_pos h1] at h;cases h
 rw [if_neg h1] at h
 by_cases h2:fitsR x=true
 ·unfold fitsR at h2
  simp only [zba,zdt] at h2
  obtain ⟨⟨⟨⟨ra,rb⟩,rc⟩,rl⟩,rm⟩:=h2
  have hk:=zk8 x.op
  have h3:=hk.least
  have h4:=hk.most
  refine ⟨by omega,zhk ra,zhk rb,zhk rc,by omega,fun hs=>?_⟩
  have hf:frmR x.op=farF:=by rcases hs with hs | hs<;>rw [hs]<;>rfl
  rw [hf] at rl rm
  exact ⟨rl,rm⟩
 ·rw [if_neg h2] at h;cases h
theorem Z5g {w:Int} {x:InsR} (h:decR w=some x):InsOk x:=by
 unfold decR at h
 by_cases h1:32≤w / 67108864
 ·rw [if_pos h1] at h;cases h
 rw [if_neg h1] at h
 by_cases h2:encR (z95 w)=some w
 ·rw [if_pos h2] at h
  simp only [Option.some.injEq] at h
  rw [←h];exact Z4k h2
 ·rw [if_neg h2] at h;cases h
theorem InsOk.in5 {x:InsR} (h:InsOk x):InI5 x:=by
 obtain ⟨h1,h2,h3,h4,h5,_⟩:=h
 refine ⟨?_,?_,?_,?_,?_⟩<;>unfold InI<;>omega
theorem Z92 {S:PH} (c:UInt8):CsR S c [.int .u8 (c.toNat:Int)]:=by
 have:=c.toNat_lt
 exact ⟨_,_,rfl,⟨rfl,by simp [IntKind.min,IntKind.bits,IntKind.signed],by simp [IntKind.max,IntKind.bits,IntKind.signed];omega⟩,rfl⟩
section
variable {r:Nat} {st:Int} {m:MaR} {mv ov:Value} {S K:PH} {J:List Itm}
abbrev T20:TypeId:=114
theorem Z0z (x:InsR) (h:Held S K (z1r T20 r st m mv ov++J)) (ok:MaOk m) (hx:InsOk x) (hpc:0≤m.pc∧m.pc≤1048576) (hst:0≤m.steps∧m.steps≤1099511627776) (hol:(m.out.length:Int)≤m.steps) (hml:m.mem.length≤1048576) :
  Tri Tryz.prog z8n #[pAt r,.agg (insV x).toArray] K fun e K'=>∃S' ov',PH.le S S'∧e=.returned (.int .i64 (stR m x).1)∧Held S' K' (z1r T20 r st (stR m x).2 mv ov'++J)∧MaOk (stR m x).2:=by
 obtain ⟨o1,o2,o3,o4,o5,o6⟩:=hx
 have hpi:InI m.pc:=by unfold InI;omega
 have hw1:IntKind.i64.wrap (m.pc+1)=m.pc+1:=w64 (by omega) (by omega)
 have hwn:IntKind.i64.wrap (m.pc+x.n)=m.pc+x.n:=w64 (by omega) (by omega)
 have hws:IntKind.i64.wrap (m.steps+1)=m.steps+1:=w64 (by omega) (by omega)
 have hp1:InI (m.pc+1):=by unfold InI;omega
 refine z79 ([pAt r]++insV x) (by kernel_rfl) (by kernel_rfl) ?_
 simp only [List.cons_append,List.nil_append]
 refine ⟨fun _=>by simp [Chk.holds,ev0,ev,evV,List.cons_append,List.nil_append,List.getD_cons_zero,List.getD_cons_succ,List.map_cons,List.map_nil,iOf,bOf,sOf,pOf,slLen,z04,cmpI,arI,Value.ite_bool,z03,z02,z00,z01],?_⟩
 refine z5l (r:=r) (off:=5) zbx zIntQ (by kernel_rfl) rfl (by omega) z06 ?_
 refine ⟨[.int .i64 (m.reg x.a)],rfl,by simp only [ev0,ev,evV,List.cons_append,List.nil_append,List.getD_cons_zero,List.getD_cons_succ,List.map_cons,List.map_nil,iOf,bOf,sOf,pOf,slLen,z04,cmpI,arI,Value.ite_bool,z03,z02,z00,z01];exact zh4 h ok o2.1 o2.2,?_⟩
 refine z5l (r:=r) (off:=5) zbx zIntQ (by kernel_rfl) rfl (by omega) z06 ?_
 refine ⟨[.int .i64 (m.reg x.b)],rfl,by simp only [ev0,ev,evV,List.cons_append,List.nil_append,List.getD_cons_zero,List.getD_cons_succ,List.map_cons,List.map_nil,iOf,bOf,sOf,pOf,slLen,z04,cmpI,arI,Value.ite_bool,z03,z02,z00,z01];exact zh4 h ok o3.1 o3.2,?_⟩
 have hpcr:∀{S K mv ov J},Held S K (z1r T20 r st m mv ov++J)→rowAt K (some ⟨r,4,none⟩) [.int .i64 m.pc]:=fun h=>z4t h rfl
 refine ⟨[.int .i64 m.pc],rfl,by simp only [ev0,ev,evV,List.cons_append,List.nil_append,List.getD_cons_zero,List.getD_cons_succ,List.map_cons,List.map_nil,iOf,bOf,sOf,pOf,slLen,z04,cmpI,arI,Value.ite_bool,z03,z02,z00,z01];exact hpcr h,?_⟩
 simp only [List.cons_append,List.nil_append]
 refine ⟨fun vs K2=>∃(S2:PH) (m2:MaR) (ov2:Value) (v:Int) (fills:Bool) (to:Int),PH.le S S2∧vs=[.int .i64 v,.bool fills,.int .i64 to]∧Held S2 K2 (z1r T20 r st m2 mv ov2++J)∧MaOk m2∧m2.steps=m.steps∧InI v∧stR m x=(6,if fills=true then m2.put x.a v to else m2.goes to),?_,?_⟩
 ·
  rintro vs K2 _ ⟨S2,m2,ov2,v,fills,to,l2,rfl,h2,ok2,hs2,hv,heq⟩
  simp only [List.cons_append,List.nil_append]
  obtain ⟨m3,hm3⟩:∃m3:MaR,m3={ m2 with regs:=if fills=true∧x.a≠0 then m2.regs.set x.a.toNat v else m2.regs }:=⟨_,rfl⟩
  refine ⟨fun vs K3=>vs=[]∧Held S2 K3 (z1r T20 r st m3 mv ov2++J),?_,fun g=>?_,fun g=>?_⟩
  ·rintro vs K3 _ ⟨rfl,h3⟩
   simp only [List.cons_append,List.nil_append,List.append_nil]
   refine z0n (off:=4) (vs:=[.int .i64 to]) (by simp only [ev0,ev,evV,List.cons_append,List.nil_append,List.getD_cons_zero,List.getD_cons_succ,List.map_cons,List.map_nil,iOf,bOf,sOf,pOf,slLen,z04,cmpI,arI,Value.ite_bool,z03,z02,z00,z01];rfl) h3 (by simp only [ev0,ev,evV,List.cons_append,List.nil_append,List.getD_cons_zero,List.getD_cons_succ,List.map_cons,List.map_nil,iOf,bOf,sOf,pOf,slLen,z04,cmpI,arI,Value.ite_bool,z03,z02,z00,z01]) (by intro u hu;rw [List.mem_singleton.1 hu];rfl) (by simp [z0m]) fun K4 h4=>?_
   obtain ⟨m4,hm4⟩:∃m4:MaR,m4={ m3 with pc:=to }:=⟨_,rfl⟩
   have h4:Held S2 K4 (z1r T20 r st m4 mv ov2++J):=by rw [hm4];exact h4
   have hst4:m4.steps=m.steps:=by rw [hm4,hm3];exact hs2
   refine ⟨[.int .i64 m4.steps],rfl,by simp only [ev0,ev,evV,List.cons_append,List.nil_append,List.getD_cons_zero,List.getD_cons_succ,List.map_cons,List.map_nil,iOf,bOf,sOf,pOf,slLen,z04,cmpI,arI,Value.ite_bool,z03,z02,z00,z01];exact z4t h4 rfl,?_⟩
   simp only [List.cons_append,List.nil_append]
   refine z0n (off:=3) (vs:=[.int .i64 (m.steps+1)]) (by simp only [ev0,ev,evV,List.cons_append,List.nil_append,List.getD_cons_zero,List.getD_cons_succ,List.map_cons,List.map_nil,iOf,bOf,sOf,pOf,slLen,z04,cmpI,arI,Value.ite_bool,z03,z02,z00,z01];rfl) h4 (by simp only [ev0,ev,evV,List.cons_append,List.nil_append,List.getD_cons_zero,List.getD_cons_succ,List.map_cons,List.map_nil,iOf,bOf,sOf,pOf,slLen,z04,cmpI,arI,Value.ite_bool,z03,z02,z00,z01,hst4,hws]) (by intro u hu;rw [List.mem_singleton.1 hu];rfl) (by simp [z0m]) fun K5 h5=>?_
   refine ⟨S2,ov2,l2,by rw [heq];rfl,?_,?_⟩
   ·have e:(if fills=true then m2.put x.a v to else m2.goes to)={ m4 with steps:=m.steps+1 }:=by
     rw [hm4,hm3,←hs2]
     cases fills<;>unfold MaR.put MaR.goes<;>by_cases e0:x.a=0<;>simp [e0]
    rw [heq];simp only []
    rw [e];exact h5
   ·rw [heq]
    simp only []
    split
    ·exact ok2.put hv
    ·exact ⟨ok2.len,ok2.regs⟩
  ·simp only [ev0,ev,evV,List.cons_append,List.nil_append,List.getD_cons_zero,List.getD_cons_succ,List.map_cons,List.map_nil,iOf,bOf,sOf,pOf,slLen,z04,cmpI,arI,Value.ite_bool,z03,z02,z00,z01] at g
   simp only [zba,zdt,ne_eq] at g
   refine z5l (r:=r) (off:=5) zbx zIntQ (by kernel_rfl) rfl (by omega) z06 ?_
   simp only [List.cons_append,List.nil_append]
   refine z0n (off:=5+x.a.toNat) (vs:=[.int .i64 v]) (by simp only [ev0,ev,evV,List.cons_append,List.nil_append,List.getD_cons_zero,List.getD_cons_succ,List.map_cons,List.map_nil,iOf,bOf,sOf,pOf,slLen,z04,cmpI,arI,Value.ite_bool,z03,z02,z00,z01]) h2 (by simp only [ev0,ev,evV,List.cons_append,List.nil_append,List.getD_cons_zero,List.getD_cons_succ,List.map_cons,List.map_nil,iOf,bOf,sOf,pOf,slLen,z04,cmpI,arI,Value.ite_bool,z03,z02,z00,z01]) (by intro u hu;rw [List.mem_singleton.1 hu];rfl) (by rw [c_len ok2];simp only [List.length_singleton];omega) fun K4 h4=>?_
   refine ⟨_,z05,rfl,?_⟩
   have e:=s_reg (st:=st) (mv:=mv) (ov:=ov2) (v:=v) ok2 o2.1 o2.2
   rw [hm3,if_pos ⟨g.1,g.2⟩,←e];exact h4
  ·simp only [ev0,ev,evV,List.cons_append,List.nil_append,List.getD_cons_zero,List.getD_cons_succ,List.map_cons,List.map_nil,iOf,bOf,sOf,pOf,slLen,z04,cmpI,arI,Value.ite_bool,z03,z02,z00,z01] at g
   refine ⟨_,z05,rfl,?_⟩
   rw [hm3,if_neg (by
    rintro ⟨g1,g2⟩
    rw [g1] at g
    simp [g2] at g)]
   exact h2
 refine ⟨fun g=>?_,fun g=>?_⟩
 ·simp only [ev0,ev,evV,List.cons_append,List.nil_append,List.getD_cons_zero,List.getD_cons_succ,List.map_cons,List.map_nil,iOf,bOf,sOf,pOf,slLen,z04,cmpI,arI,Value.ite_bool,z03,z02,z00,z01,zdt] at g
  refine z0n (off:=1) (vs:=[.int .i64 (m.reg x.a)]) (by simp only [ev0,ev,evV,List.cons_append,List.nil_append,List.getD_cons_zero,List.getD_cons_succ,List.map_cons,List.map_nil,iOf,bOf,sOf,pOf,slLen,z04,cmpI,arI,Value.ite_bool,z03,z02,z00,z01];rfl) h (by simp only [ev0,ev,evV,List.cons_append,List.nil_append,List.getD_cons_zero,List.getD_cons_succ,List.map_cons,List.map_nil,iOf,bOf,sOf,pOf,slLen,z04,cmpI,arI,Value.ite_bool,z03,z02,z00,z01]) (by intro u hu;rw [List.mem_singleton.1 hu];rfl) (by simp [z0m]) fun K4 h4=>?_
  have h4:Held S K4 (z1r T20 r st { m with value:=m.reg x.a } mv ov++J):=h4
  refine ⟨[.int .i64 m.steps],rfl,by simp only [ev0,ev,evV,List.cons_append,List.nil_append,List.getD_cons_zero,List.getD_cons_succ,List.map_cons,List.map_nil,iOf,bOf,sOf,pOf,slLen,z04,cmpI,arI,Value.ite_bool,z03,z02,z00,z01];exact z4t h4 rfl,?_⟩
  simp only [List.cons_append,List.nil_append]
  refine z0n (off:=3) (vs:=[.int .i64 (m.steps+1)]) (by simp only [ev0,ev,evV,List.cons_append,List.nil_append,List.getD_cons_zero,List.getD_cons_succ,List.map_cons,List.map_nil,iOf,bOf,sOf,pOf,slLen,z04,cmpI,arI,Value.ite_bool,z03,z02,z00,z01];rfl) h4 (by simp only [ev0,ev,evV,List.cons_append,List.nil_append,List.getD_cons_zero,List.getD_cons_succ,List.map_cons,List.map_nil,iOf,bOf,sOf,pOf,slLen,z04,cmpI,arI,Value.ite_bool,z03,z02,z00,z01,hws]) (by intro u hu;rw [List.mem_singleton.1 hu];rfl) (by simp [z0m]) fun K5 h5=>?_
  have e:stR m x=(0,{ m with value:=m.reg x.a,steps:=m.steps+1 }):=by unfold stR;rw [if_pos g]
  rw [e]
  exact ⟨S,ov,PH.le_refl _,rfl,h5,ok.len,ok.regs⟩
 simp only [ev0,ev,evV,List.cons_append,List.nil_append,List.getD_cons_zero,List.getD_cons_succ,List.map_cons,List.map_nil,iOf,bOf,sOf,pOf,slLen,z04,cmpI,arI,Value.ite_bool,z03,z02,z00,z01,zdf] at g
 have goes:∀{v to:Int},InI v→stR m x=(6,m.put x.a v to)→∃(S2:PH) (m2:MaR) (ov2:Value) (v':Int) (fills:Bool) (to':Int),PH.le S S2∧[Value.int .i64 v,.bool true,.int .i64 to]=[.int .i64 v',.bool fills,.int .i64 to']∧Held S2 K (z1r T20 r st m2 mv ov2++J)∧MaOk m2∧m2.steps=m.steps∧InI v'∧stR m x=(6,if fills=true then m2.put x.a v' to' else m2.goes to'):=
  fun hv he=>⟨S,m,ov,_,true,_,PH.le_refl _,rfl,h,ok,rfl,hv,by rw [he];rfl⟩
 refine ⟨fun g1=>?_,fun g1=>?_⟩
 ·
  have g1:x.op=5∨x.op=6:=by
   simp only [ev0,ev,evV,List.cons_append,List.nil_append,List.getD_cons_zero,List.getD_cons_succ,List.map_cons,List.map_nil,iOf,bOf,sOf,pOf,slLen,z04,cmpI,arI,Value.ite_bool,z03,z02,z00,z01] at g1
   by_cases h2:x.op=5
   ·exact .inl h2
   ·simp only [h2,decide_false,Bool.false_eq_true,if_false,zdt] at g1;exact .inr g1
  refine z5l (r:=r) (off:=5) zbx zIntQ (by kernel_rfl) rfl (by omega) z06 ?_
  refine ⟨[.int .i64 (m.reg x.c)],rfl,by simp only [ev0,ev,evV,List.cons_append,List.nil_append,List.getD_cons_zero,List.getD_cons_succ,List.map_cons,List.map_nil,iOf,bOf,sOf,pOf,slLen,z04,cmpI,arI,Value.ite_bool,z03,z02,z00,z01];exact zh4 h ok o4.1 o4.2,?_⟩
  simp only [List.cons_append,List.nil_append]
  refine ⟨fun g2=>?_,fun g2=>?_⟩
  ·simp only [ev0,ev,evV,List.cons_append,List.nil_append,List.getD_cons_zero,List.getD_cons_succ,List.map_cons,List.map_nil,iOf,bOf,sOf,pOf,slLen,z04,cmpI,arI,Value.ite_bool,z03,z02,z00,z01,zdt] at g2
   have e:stR m x=(4,m):=by unfold stR;rw [if_neg g,if_pos ⟨g1,g2⟩]
   rw [e]
   exact ⟨S,ov,PH.le_refl _,rfl,h,ok⟩
  ·simp only [ev0,ev,evV,List.cons_append,List.nil_append,List.getD_cons_zero,List.getD_cons_succ,List.map_cons,List.map_nil,iOf,bOf,sOf,pOf,slLen,z04,cmpI,arI,Value.ite_bool,z03,z02,z00,z01,zdf] at g2
   refine z5l (r:=r) (off:=5) zbx zIntQ (by kernel_rfl) rfl (by omega) z06 ?_
   refine ⟨[.int .i64 (m.reg x.c)],rfl,by simp only [ev0,ev,evV,List.cons_append,List.nil_append,List.getD_cons_zero,List.getD_cons_succ,List.map_cons,List.map_nil,iOf,bOf,sOf,pOf,slLen,z04,cmpI,arI,Value.ite_bool,z03,z02,z00,z01];exact zh4 h ok o4.1 o4.2,?_⟩
   simp only [List.cons_append,List.nil_append]
   refine z0a z60 (h.gives (zj3 x.op (m.reg x.b) (m.reg x.c) S (ok.reg _) (ok.reg _) fun _=>g2)) ?_
   rintro e K1 ⟨rfl,h1,_⟩
   refine ⟨_,[.int .i64 (thrR x.op (m.reg x.b) (m.reg x.c))],rfl,rfl,rfl,z06,_,z05,S,m,ov,thrR x.op (m.reg x.b) (m.reg x.c),true,m.pc+1,PH.le_refl _,by simp only [ev0,ev,evV,List.cons_append,List.nil_append,List.getD_cons_zero,List.getD_cons_succ,List.map_cons,List.map_nil,iOf,bOf,sOf,pOf,slLen,z04,cmpI,arI,Value.ite_bool,z03,z02,z00,z01,hw1],h1,ok,rfl,zxo _ (ok.reg _) (ok.reg _),?_⟩
   unfold stR
   rcases g1 with g1 | g1<;>simp [g1,g2]
 have g1:x.op≠5∧x.op≠6:=by
  simp only [ev0,ev,evV,List.cons_append,List.nil_append,List.getD_cons_zero,List.getD_cons_succ,List.map_cons,List.map_nil,iOf,bOf,sOf,pOf,slLen,z04,cmpI,arI,Value.ite_bool,z03,z02,z00,z01] at g1
  by_cases h2:x.op=5
  ·simp [h2] at g1
  ·exact ⟨h2,by simpa [h2] using g1⟩
 refine ⟨fun g2=>?_,fun g2=>?_⟩
 ·simp only [ev0,ev,evV,List.cons_append,List.nil_append,List.getD_cons_zero,List.getD_cons_succ,List.map_cons,List.map_nil,iOf,bOf,sOf,pOf,slLen,z04,cmpI,arI,Value.ite_bool,z03,z02,z00,z01,zdt] at g2
  refine ⟨_,z05,?_⟩
  simp only [ev0,ev,evV,List.cons_append,List.nil_append,List.getD_cons_zero,List.getD_cons_succ,List.map_cons,List.map_nil,iOf,bOf,sOf,pOf,slLen,z04,cmpI,arI,Value.ite_bool,z03,z02,z00,z01,hw1]
  exact goes (z2c _) (by unfold stR;simp [g2];rfl)
 simp only [ev0,ev,evV,List.cons_append,List.nil_append,List.getD_cons_zero,List.getD_cons_succ,List.map_cons,List.map_nil,iOf,bOf,sOf,pOf,slLen,z04,cmpI,arI,Value.ite_bool,z03,z02,z00,z01,zdf] at g2
 refine ⟨fun g3=>?_,fun g3=>?_⟩
 ·simp only [ev0,ev,evV,List.cons_append,List.nil_append,List.getD_cons_zero,List.getD_cons_succ,List.map_cons,List.map_nil,iOf,bOf,sOf,pOf,slLen,z04,cmpI,arI,Value.ite_bool,z03,z02,z00,z01,zdt] at g3
  refine ⟨_,z05,?_⟩
  simp only [ev0,ev,evV,List.cons_append,List.nil_append,List.getD_cons_zero,List.getD_cons_succ,List.map_cons,List.map_nil,iOf,bOf,sOf,pOf,slLen,z04,cmpI,arI,Value.ite_bool,z03,z02,z00,z01,hw1]
  exact goes (z2c _) (by unfold stR;simp [g3];rfl)
 simp only [ev0,ev,evV,List.cons_append,List.nil_append,List.getD_cons_zero,List.getD_cons_succ,List.map_cons,List.map_nil,iOf,bOf,sOf,pOf,slLen,z04,cmpI,arI,Value.ite_bool,z03,z02,z00,z01,zdf] at g3
 refine ⟨fun g4=>?_,fun g4=>?_⟩
 ·simp only [ev0,ev,evV,List.cons_append,List.nil_append,List.getD_cons_zero,List.getD_cons_succ,List.map_cons,List.map_nil,iOf,bOf,sOf,pOf,slLen,z04,cmpI,arI,Value.ite_bool,z03,z02,z00,z01,zdt] at g4
  refine ⟨_,z05,?_⟩
  simp only [ev0,ev,evV,List.cons_append,List.nil_append,List.getD_cons_zero,List.getD_cons_succ,List.map_cons,List.map_nil,iOf,bOf,sOf,pOf,slLen,z04,cmpI,arI,Value.ite_bool,z03,z02,z00,z01,hw1]
  exact goes (z2c _) (by unfold stR;simp [g4];rfl)
 simp only [ev0,ev,evV,List.cons_append,List.nil_append,List.getD_cons_zero,List.getD_cons_succ,List.map_cons,List.map_nil,iOf,bOf,sOf,pOf,slLen,z04,cmpI,arI,Value.ite_bool,z03,z02,z00,z01,zdf] at g4
 refine ⟨fun g5=>?_,fun g5=>?_⟩
 ·simp only [ev0,ev,evV,List.cons_append,List.nil_append,List.getD_cons_zero,List.getD_cons_succ,List.map_cons,List.map_nil,iOf,bOf,sOf,pOf,slLen,z04,cmpI,arI,Value.ite_bool,z03,z02,z00,z01,zdt] at g5
  have hu:IntKind.u64.wrap x.n=x.n:=wu64 (o6 (.inl g5)).1 (by have:=(o6 (.inl g5)).2;omega)
  refine ⟨_,z05,?_⟩
  simp only [ev0,ev,evV,List.cons_append,List.nil_append,List.getD_cons_zero,List.getD_cons_succ,List.map_cons,List.map_nil,iOf,bOf,sOf,pOf,slLen,z04,cmpI,arI,Value.ite_bool,z03,z02,z00,z01,hw1,hu]
  exact goes (z2c _) (by unfold stR;simp [g5];rfl)
 simp only [ev0,ev,evV,List.cons_append,List.nil_append,List.getD_cons_zero,List.getD_cons_succ,List.map_cons,List.map_nil,iOf,bOf,sOf,pOf,slLen,z04,cmpI,arI,Value.ite_bool,z03,z02,z00,z01,zdf] at g5
 refine ⟨fun g6=>?_,fun g6=>?_⟩
 ·simp only [ev0,ev,evV,List.cons_append,List.nil_append,List.getD_cons_zero,List.getD_cons_succ,List.map_cons,List.map_nil,iOf,bOf,sOf,pOf,slLen,z04,cmpI,arI,Value.ite_bool,z03,z02,z00,z01,zdt] at g6
  have hu:IntKind.u64.wrap x.n=x.n:=wu64 (o6 (.inr g6)).1 (by have:=(o6 (.inr g6)).2;omega)
  refine ⟨_,z05,?_⟩
  simp only [ev0,ev,evV,List.cons_append,List.nil_append,List.getD_cons_zero,List.getD_cons_succ,List.map_cons,List.map_nil,iOf,bOf,sOf,pOf,slLen,z04,cmpI,arI,Value.ite_bool,z03,z02,z00,z01,hw1,hu]
  exact goes (Z3x (ok.reg _) x.n) (by unfold stR;simp [g6];rfl)
 simp only [ev0,ev,evV,List.cons_append,List.nil_append,List.getD_cons_zero,List.getD_cons_succ,List.map_cons,List.map_nil,iOf,bOf,sOf,pOf,slLen,z04,cmpI,arI,Value.ite_bool,z03,z02,z00,z01,zdf] at g6
 refine ⟨fun g7=>?_,fun g7=>?_⟩
 ·simp only [ev0,ev,evV,List.cons_append,List.nil_append,List.getD_cons_zero,List.getD_cons_succ,List.map_cons,List.map_nil,iOf,bOf,sOf,pOf,slLen,z04,cmpI,arI,Value.ite_bool,z03,z02,z00,z01,zdt] at g7
  refine ⟨_,z05,?_⟩
  simp only [ev0,ev,evV,List.cons_append,List.nil_append,List.getD_cons_zero,List.getD_cons_succ,List.map_cons,List.map_nil,iOf,bOf,sOf,pOf,slLen,z04,cmpI,arI,Value.ite_bool,z03,z02,z00,z01,hw1]
  exact goes (by unfold InI;omega) (by unfold stR;simp [g7])
 simp only [ev0,ev,evV,List.cons_append,List.nil_append,List.getD_cons_zero,List.getD_cons_succ,List.map_cons,List.map_nil,iOf,bOf,sOf,pOf,slLen,z04,cmpI,arI,Value.ite_bool,z03,z02,z00,z01,zdf] at g7
 refine ⟨fun g8=>?_,fun g8=>?_⟩
 ·simp only [ev0,ev,evV,List.cons_append,List.nil_append,List.getD_cons_zero,List.getD_cons_succ,List.map_cons,List.map_nil,iOf,bOf,sOf,pOf,slLen,z04,cmpI,arI,Value.ite_bool,z03,z02,z00,z01,zdt] at g8
  refine ⟨_,z05,?_⟩
  simp only [ev0,ev,evV,List.cons_append,List.nil_append,List.getD_cons_zero,List.getD_cons_succ,List.map_cons,List.map_nil,iOf,bOf,sOf,pOf,slLen,z04,cmpI,arI,Value.ite_bool,z03,z02,z00,z01,hw1]
  exact goes (z2c _) (by unfold stR;simp [g8];rfl)
 simp only [ev0,ev,evV,List.cons_append,List.nil_append,List.getD_cons_zero,List.getD_cons_succ,List.map_cons,List.map_nil,iOf,bOf,sOf,pOf,slLen,z04,cmpI,arI,Value.ite_bool,z03,z02,z00,z01,zdf] at g8
 have hat:=z2c (m.reg x.b+x.n)
 obtain ⟨at_,hatd⟩:∃at_,IntKind.i64.wrap (m.reg x.b+x.n)=at_:=⟨_,rfl⟩
 rw [hatd] at hat
 have hata:arI .add .i64 (m.reg x.b) x.n=at_:=hatd
 have hmsl:=Z8p h
 obtain ⟨mb,mc,hmv⟩:=hmsl.sl
 refine ⟨fun g9=>?_,fun g9=>?_⟩
 ·
  have g9:x.op=22∨x.op=23:=by
   simp only [ev0,ev,evV,List.cons_append,List.nil_append,List.getD_cons_zero,List.getD_cons_succ,List.map_cons,List.map_nil,iOf,bOf,sOf,pOf,slLen,z04,cmpI,arI,Value.ite_bool,z03,z02,z00,z01] at g9
   by_cases h2:x.op=22
   ·exact .inl h2
   ·simp only [h2,decide_false,Bool.false_eq_true,if_false,zdt] at g9;exact .inr g9
  have hS:stR m x=(if at_ < 0∨(m.mem.length:Int)≤at_ then (2,m) else if x.op=23 then (6,{ m.goes (m.pc+1) with mem:=m.mem.set at_.toNat (m.reg x.a) }) else (6,m.put x.a (m.mem.getD at_.toNat 0) (m.pc+1))):=by
   unfold stR
   rw [hata]
   rcases g9 with g9 | g9<;>simp [g9]
  refine ⟨fun vs K2=>vs=[.bool (decide (at_ < 0∨(m.mem.length:Int)≤at_))]∧K=K2,?_,fun ga=>?_,fun ga=>?_⟩
  ·rintro vs K2 _ ⟨rfl,rfl⟩
   simp only [List.cons_append,List.nil_append]
   refine ⟨fun ga=>?_,fun ga=>?_⟩
   ·simp only [ev0,ev,evV,List.cons_append,List.nil_append,List.getD_cons_zero,List.getD_cons_succ,List.map_cons,List.map_nil,iOf,bOf,sOf,pOf,slLen,z04,cmpI,arI,Value.ite_bool,z03,z02,z00,z01,zdt] at ga
    rw [hS,if_pos ga]
    exact ⟨S,ov,PH.le_refl _,rfl,h,ok⟩
   ·simp only [ev0,ev,evV,List.cons_append,List.nil_append,List.getD_cons_zero,List.getD_cons_succ,List.map_cons,List.map_nil,iOf,bOf,sOf,pOf,slLen,z04,cmpI,arI,Value.ite_bool,z03,z02,z00,z01,zdf] at ga
    have hin:0≤at_∧at_ < m.mem.length:=by omega
    have hlt:at_.toNat < m.mem.length:=by omega
    obtain ⟨cell,hcell⟩:∃cell,m.mem[at_.toNat]?=some cell:=⟨_,zge hlt⟩
    obtain ⟨y1,_,ycs,y2,y3⟩:=hmsl.get hcell
    obtain ⟨rfl,yin⟩:=csIK y2
    have hj:((at_.toNat:Nat):Int)=at_:=Int.toNat_of_nonneg hin.1
    rw [hj] at y3
    refine ⟨fun gb=>?_,fun gb=>?_⟩
    ·simp only [ev0,ev,evV,List.cons_append,List.nil_append,List.getD_cons_zero,List.getD_cons_succ,List.map_cons,List.map_nil,iOf,bOf,sOf,pOf,slLen,z04,cmpI,arI,Value.ite_bool,z03,z02,z00,z01,zdt] at gb
     refine ⟨[mv],by rw [hmv];rfl,by simp only [ev0,ev,evV,List.cons_append,List.nil_append,List.getD_cons_zero,List.getD_cons_succ,List.map_cons,List.map_nil,iOf,bOf,sOf,pOf,slLen,z04,cmpI,arI,Value.ite_bool,z03,z02,z00,z01];exact zrc h ok,fun _=>?_,?_⟩
     ·simp only [Chk.holds,ev0,ev,evV,List.cons_append,List.nil_append,List.getD_cons_zero,List.getD_cons_succ,List.map_cons,List.map_nil,iOf,bOf,sOf,pOf,slLen,z04,cmpI,arI,Value.ite_bool,z03,z02,z00,z01,hatd]
      rw [hmv] at y1 ⊢
      exact ⟨y1,hin.1,hin.2⟩
     simp only [List.cons_append,List.nil_append]
     refine z1d (i:=at_.toNat) (a:=cell) (a':=m.reg x.a) (us:=[.int .i64 (m.reg x.a)]) ?_ (h.perm (List.Perm.swap _ _ _)) hcell rfl (by simp only [ev0,ev,evV,List.cons_append,List.nil_append,List.getD_cons_zero,List.getD_cons_succ,List.map_cons,List.map_nil,iOf,bOf,sOf,pOf,slLen,z04,cmpI,arI,Value.ite_bool,z03,z02,z00,z01]) (by simp [oneC]) (z0o (ok.reg _)) fun K4 h4=>?_
     ·simp only [ev0,ev,evV,List.cons_append,List.nil_append,List.getD_cons_zero,List.getD_cons_succ,List.map_cons,List.map_nil,iOf,bOf,sOf,pOf,slLen,z04,cmpI,arI,Value.ite_bool,z03,z02,z00,z01,hatd,hj];rfl
     refine ⟨_,z05,S,{ m with mem:=m.mem.set at_.toNat (m.reg x.a) },ov,0,false,m.pc+1,PH.le_refl _,by simp only [ev0,ev,evV,List.cons_append,List.nil_append,List.getD_cons_zero,List.getD_cons_succ,List.map_cons,List.map_nil,iOf,bOf,sOf,pOf,slLen,z04,cmpI,arI,Value.ite_bool,z03,z02,z00,z01,hw1],h4.perm (List.Perm.swap _ _ _),⟨ok.len,ok.regs⟩,rfl,(by unfold InI;omega),?_⟩
     rw [hS,if_neg (by omega),if_pos gb];rfl
    ·simp only [ev0,ev,evV,List.cons_append,List.nil_append,List.getD_cons_zero,List.getD_cons_succ,List.map_cons,List.map_nil,iOf,bOf,sOf,pOf,slLen,z04,cmpI,arI,Value.ite_bool,z03,z02,z00,z01,zdf] at gb
     refine ⟨[mv],by rw [hmv];rfl,by simp only [ev0,ev,evV,List.cons_append,List.nil_append,List.getD_cons_zero,List.getD_cons_succ,List.map_cons,List.map_nil,iOf,bOf,sOf,pOf,slLen,z04,cmpI,arI,Value.ite_bool,z03,z02,z00,z01];exact zrc h ok,fun _=>?_,[.int .i64 cell],rfl,?_,?_⟩
     ·simp only [Chk.holds,ev0,ev,evV,List.cons_append,List.nil_append,List.getD_cons_zero,List.getD_cons_succ,List.map_cons,List.map_nil,iOf,bOf,sOf,pOf,slLen,z04,cmpI,arI,Value.ite_bool,z03,z02,z00,z01,hatd]
      rw [hmv] at y1 ⊢
      exact ⟨y1,hin.1,hin.2⟩
     ·simp only [ev0,ev,evV,List.cons_append,List.nil_append,List.getD_cons_zero,List.getD_cons_succ,List.map_cons,List.map_nil,iOf,bOf,sOf,pOf,slLen,z04,cmpI,arI,Value.ite_bool,z03,z02,z00,z01,hatd];exact y3
     simp only [List.cons_append,List.nil_append]
     refine ⟨_,z05,?_⟩
     simp only [ev0,ev,evV,List.cons_append,List.nil_append,List.getD_cons_zero,List.getD_cons_succ,List.map_cons,List.map_nil,iOf,bOf,sOf,pOf,slLen,z04,cmpI,arI,Value.ite_bool,z03,z02,z00,z01,hw1]
     refine goes yin ?_
     rw [hS,if_neg (by omega),if_neg gb,zgd,hcell];rfl
  ·simp only [ev0,ev,evV,List.cons_append,List.nil_append,List.getD_cons_zero,List.getD_cons_succ,List.map_cons,List.map_nil,iOf,bOf,sOf,pOf,slLen,z04,cmpI,arI,Value.ite_bool,z03,z02,z00,z01,hatd,zdt] at ga
   exact ⟨_,z05,by simp [ev0,ev,evV,List.cons_append,List.nil_append,List.getD_cons_zero,List.getD_cons_succ,List.map_cons,List.map_nil,iOf,bOf,sOf,pOf,slLen,z04,cmpI,arI,Value.ite_bool,z03,z02,z00,z01,ga],rfl⟩
  ·simp only [ev0,ev,evV,List.cons_append,List.nil_append,List.getD_cons_zero,List.getD_cons_succ,List.map_cons,List.map_nil,iOf,bOf,sOf,pOf,slLen,z04,cmpI,arI,Value.ite_bool,z03,z02,z00,z01,hatd,zdf] at ga
   refine ⟨[mv],by rw [hmv];rfl,by simp only [ev0,ev,evV,List.cons_append,List.nil_append,List.getD_cons_zero,List.getD_cons_succ,List.map_cons,List.map_nil,iOf,bOf,sOf,pOf,slLen,z04,cmpI,arI,Value.ite_bool,z03,z02,z00,z01];exact zrc h ok,_,z05,?_,rfl⟩
   simp only [ev0,ev,evV,List.cons_append,List.nil_append,List.getD_cons_zero,List.getD_cons_succ,List.map_cons,List.map_nil,iOf,bOf,sOf,pOf,slLen,z04,cmpI,arI,Value.ite_bool,z03,z02,z00,z01,hatd,hmv]
   rw [List.cons.injEq]
   refine ⟨?_,rfl⟩
   rw [Value.bool.injEq,decide_eq_decide];omega
 have g9:x.op≠22∧x.op≠23:=by
  simp only [ev0,ev,evV,List.cons_append,List.nil_append,List.getD_cons_zero,List.getD_cons_succ,List.map_cons,List.map_nil,iOf,bOf,sOf,pOf,slLen,z04,cmpI,arI,Value.ite_bool,z03,z02,z00,z01] at g9
  by_cases h2:x.op=22
  ·simp [h2] at g9
  ·exact ⟨h2,by simpa [h2] using g9⟩
 have hT:zor x.op (m.reg x.a) (m.reg x.b)=((((decide (x.op=24) && decide (m.reg x.a=m.reg x.b)) || (decide (x.op=25) && decide (m.reg x.a≠m.reg x.b))) || (decide (x.op=26) && decide (m.reg x.a < m.reg x.b))) || (decide (x.op=27) && decide (m.reg x.b≤m.reg x.a))):=rfl
 refine ⟨fun vs K2=>vs=[.bool (decide (x.op=24∨x.op=25∨x.op=26∨x.op=27))]∧K=K2,?_,fun ga=>?_,fun ga=>?_⟩
 ·rintro vs K2 _ ⟨rfl,rfl⟩
  simp only [List.cons_append,List.nil_append]
  refine ⟨fun ga=>?_,fun ga=>?_⟩
  ·
   simp only [ev0,ev,evV,List.cons_append,List.nil_append,List.getD_cons_zero,List.getD_cons_succ,List.map_cons,List.map_nil,iOf,bOf,sOf,pOf,slLen,z04,cmpI,arI,Value.ite_bool,z03,z02,z00,z01,zdt] at ga
   have hS:stR m x=(6,m.goes (if zor x.op (m.reg x.a) (m.reg x.b)=true then m.pc+x.n else m.pc+1)):=by
    unfold stR
    rcases ga with ga | ga | ga | ga<;>simp [ga]
   have goes2:∀{to:Int},(if zor x.op (m.reg x.a) (m.reg x.b)=true then m.pc+x.n else m.pc+1)=to→∃(S2:PH) (m2:MaR) (ov2:Value) (v':Int) (fills:Bool) (to':Int),PH.le S S2∧[Value.int .i64 0,.bool false,.int .i64 to]=[.int .i64 v',.bool fills,.int .i64 to']∧Held S2 K (z1r T20 r st m2 mv ov2++J)∧MaOk m2∧m2.steps=m.steps∧InI v'∧stR m x=(6,if fills=true then m2.put x.a v' to' else m2.goes to'):=
    fun he=>⟨S,m,ov,0,false,_,PH.le_refl _,rfl,h,ok,rfl,(by unfold InI;omega),by rw [hS,he];rfl⟩
   refine ⟨fun gb=>?_,fun gb=>?_⟩
   ·simp only [ev0,ev,evV,List.cons_append,List.nil_append,List.getD_cons_zero,List.getD_cons_succ,List.map_cons,List.map_nil,iOf,bOf,sOf,pOf,slLen,z04,cmpI,arI,Value.ite_bool,z03,z02,z00,z01] at gb
    refine ⟨[.int .i64 m.pc],rfl,by simp only [ev0,ev,evV,List.cons_append,List.nil_append,List.getD_cons_zero,List.getD_cons_succ,List.map_cons,List.map_nil,iOf,bOf,sOf,pOf,slLen,z04,cmpI,arI,Value.ite_bool,z03,z02,z00,z01];exact hpcr h,_,z05,?_⟩
    simp only [List.cons_append,List.nil_append]
    simp only [ev0,ev,evV,List.cons_append,List.nil_append,List.getD_cons_zero,List.getD_cons_succ,List.map_cons,List.map_nil,iOf,bOf,sOf,pOf,slLen,z04,cmpI,arI,Value.ite_bool,z03,z02,z00,z01,hwn]
    exact goes2 (by rw [if_pos (by rw [hT];exact gb)])
   ·simp only [ev0,ev,evV,List.cons_append,List.nil_append,List.getD_cons_zero,List.getD_cons_succ,List.map_cons,List.map_nil,iOf,bOf,sOf,pOf,slLen,z04,cmpI,arI,Value.ite_bool,z03,z02,z00,z01] at gb
    refine ⟨_,z05,?_⟩
    simp only [ev0,ev,evV,List.cons_append,List.nil_append,List.getD_cons_zero,List.getD_cons_succ,List.map_cons,List.map_nil,iOf,bOf,sOf,pOf,slLen,z04,cmpI,arI,Value.ite_bool,z03,z02,z00,z01,hw1]
    exact goes2 (by rw [if_neg (by rw [hT];exact fun hh=>by rw [hh] at gb;cases gb)])
  simp only [ev0,ev,evV,List.cons_append,List.nil_append,List.getD_cons_zero,List.getD_cons_succ,List.map_cons,List.map_nil,iOf,bOf,sOf,pOf,slLen,z04,cmpI,arI,Value.ite_bool,z03,z02,z00,z01,zdf] at ga
  refine ⟨fun gb=>?_,fun gb=>?_⟩
  ·simp only [ev0,ev,evV,List.cons_append,List.nil_append,List.getD_cons_zero,List.getD_cons_succ,List.map_cons,List.map_nil,iOf,bOf,sOf,pOf,slLen,z04,cmpI,arI,Value.ite_bool,z03,z02,z00,z01,zdt] at gb
   refine ⟨[.int .i64 m.pc],rfl,by simp only [ev0,ev,evV,List.cons_append,List.nil_append,List.getD_cons_zero,List.getD_cons_succ,List.map_cons,List.map_nil,iOf,bOf,sOf,pOf,slLen,z04,cmpI,arI,Value.ite_bool,z03,z02,z00,z01];exact hpcr h,_,z05,?_⟩
   simp only [List.cons_append,List.nil_append]
   simp only [ev0,ev,evV,List.cons_append,List.nil_append,List.getD_cons_zero,List.getD_cons_succ,List.map_cons,List.map_nil,iOf,bOf,sOf,pOf,slLen,z04,cmpI,arI,Value.ite_bool,z03,z02,z00,z01,hw1,hwn]
   exact goes hp1 (by unfold stR;simp [gb])
  simp only [ev0,ev,evV,List.cons_append,List.nil_append,List.getD_cons_zero,List.getD_cons_succ,List.map_cons,List.map_nil,iOf,bOf,sOf,pOf,slLen,z04,cmpI,arI,Value.ite_bool,z03,z02,z00,z01,zdf] at gb
  refine ⟨fun gc=>?_,fun gc=>?_⟩
  ·simp only [ev0,ev,evV,List.cons_append,List.nil_append,List.getD_cons_zero,List.getD_cons_succ,List.map_cons,List.map_nil,iOf,bOf,sOf,pOf,slLen,z04,cmpI,arI,Value.ite_bool,z03,z02,z00,z01,zdt] at gc
   refine ⟨_,z05,?_⟩
   simp only [ev0,ev,evV,List.cons_append,List.nil_append,List.getD_cons_zero,List.getD_cons_succ,List.map_cons,List.map_nil,iOf,bOf,sOf,pOf,slLen,z04,cmpI,arI,Value.ite_bool,z03,z02,z00,z01,hw1]
   exact goes hp1 (by unfold stR;simp [gc])
  simp only [ev0,ev,evV,List.cons_append,List.nil_append,List.getD_cons_zero,List.getD_cons_succ,List.map_cons,List.map_nil,iOf,bOf,sOf,pOf,slLen,z04,cmpI,arI,Value.ite_bool,z03,z02,z00,z01,zdf] at gc
  refine ⟨fun gd=>?_,fun gd=>?_⟩
  ·
   simp only [ev0,ev,evV,List.cons_append,List.nil_append,List.getD_cons_zero,List.getD_cons_succ,List.map_cons,List.map_nil,iOf,bOf,sOf,pOf,slLen,z04,cmpI,arI,Value.ite_bool,z03,z02,z00,z01,zdt] at gd
   have hS:stR m x=((6:Int),({ m.put x.a (match m.input with | []=>-1 | c::_=>(c.toNat:Int)) (m.pc+1) with input:=m.input.drop 1 }:MaR)):=by
    have n1:¬((x.op=5∨x.op=6)∧m.reg x.c=0):=by omega
    have n2:¬(x.op=22∨x.op=23):=by omega
    unfold stR
    rw [if_neg g,if_neg n1,if_neg g2,if_neg g3,if_neg g4,if_neg g5,if_neg g6,if_neg g7,if_neg g8,if_neg n2,if_neg ga,if_neg gb,if_neg gc,if_pos gd]
   refine ⟨[txt m.input],rfl,by simp only [ev0,ev,evV,List.cons_append,List.nil_append,List.getD_cons_zero,List.getD_cons_succ,List.map_cons,List.map_nil,iOf,bOf,sOf,pOf,slLen,z04,cmpI,arI,Value.ite_bool,z03,z02,z00,z01];exact Z3q h ok,?_⟩
   simp only [List.cons_append,List.nil_append]
   refine ⟨fun ge=>?_,fun ge=>?_⟩
   ·simp only [ev0,ev,evV,List.cons_append,List.nil_append,List.getD_cons_zero,List.getD_cons_succ,List.map_cons,List.map_nil,iOf,bOf,sOf,pOf,slLen,z04,cmpI,arI,Value.ite_bool,z03,z02,z00,z01,z1x,zdt] at ge
    obtain ⟨b,l,hbl⟩:∃b l,m.input=b::l:=by
     cases hi:m.input with
     | nil=>rw [hi] at ge;simp at ge
     | cons b l=>exact ⟨b,l,rfl⟩
    have hi2:=Z3q h ok
    rw [hbl] at hi2
    refine ⟨[txt (b::l)],rfl,by simp only [ev0,ev,evV,List.cons_append,List.nil_append,List.getD_cons_zero,List.getD_cons_succ,List.map_cons,List.map_nil,iOf,bOf,sOf,pOf,slLen,z04,cmpI,arI,Value.ite_bool,z03,z02,z00,z01];exact hi2,fun _=>?_,[txt (b::l)],rfl,by simp only [ev0,ev,evV,List.cons_append,List.nil_append,List.getD_cons_zero,List.getD_cons_succ,List.map_cons,List.map_nil,iOf,bOf,sOf,pOf,slLen,z04,cmpI,arI,Value.ite_bool,z03,z02,z00,z01];exact hi2,fun _=>?_,?_⟩
    ·simp only [Chk.holds,ev0,ev,evV,List.cons_append,List.nil_append,List.getD_cons_zero,List.getD_cons_succ,List.map_cons,List.map_nil,iOf,bOf,sOf,pOf,slLen,z04,cmpI,arI,Value.ite_bool,z03,z02,z00,z01,z1x,zlc];omega
    ·simp only [Chk.holds,ev0,ev,evV,List.cons_append,List.nil_append,List.getD_cons_zero,List.getD_cons_succ,List.map_cons,List.map_nil,iOf,bOf,sOf,pOf,slLen,z04,cmpI,arI,Value.ite_bool,z03,z02,z00,z01,z1x,zlc];omega
    simp only [List.cons_append,List.nil_append]
    refine z0n (off:=38) (vs:=[txt l]) (by simp only [ev0,ev,evV,List.cons_append,List.nil_append,List.getD_cons_zero,List.getD_cons_succ,List.map_cons,List.map_nil,iOf,bOf,sOf,pOf,slLen,z04,cmpI,arI,Value.ite_bool,z03,z02,z00,z01];rfl) h ?_ (by intro u hu;rw [List.mem_singleton.1 hu];rfl) (by rw [c_len ok];simp) fun K1 h1=>?_
    ·simp only [List.map_cons,List.map_nil,ev0,ev,evV,List.cons_append,List.nil_append,List.getD_cons_zero,List.getD_cons_succ,List.map_cons,List.map_nil,iOf,bOf,sOf,pOf,slLen,z04,cmpI,arI,Value.ite_bool,z03,z02,z00,z01,z1x]
     rw [show ((1:Int)).toNat=1 from rfl,Int.toNat_natCast,zfs]
     simp
    have e:=s_in (st:=st) (mv:=mv) (ov:=ov) ok l
    have hb:=b.toNat_lt
    have hw:IntKind.i64.wrap (b.toNat:Int)=(b.toNat:Int):=w64 (by omega) (by omega)
    have hb0:(((⟨(b::l).toArray⟩:ByteArray)[0]?).getD 0)=b:=rfl
    refine ⟨_,z05,S,{ m with input:=l },ov,(b.toNat:Int),true,m.pc+1,PH.le_refl _,?_,?_,⟨ok.len,ok.regs⟩,rfl,(by unfold InI;omega),?_⟩
    ·simp [ev0,ev,evV,List.cons_append,List.nil_append,List.getD_cons_zero,List.getD_cons_succ,List.map_cons,List.map_nil,iOf,bOf,sOf,pOf,slLen,z04,cmpI,arI,Value.ite_bool,z03,z02,z00,z01,hw1]
     rw [hb0];exact hw
    ·rw [←e];exact h1
    ·rw [hS,hbl]
     rfl
   ·simp only [ev0,ev,evV,List.cons_append,List.nil_append,List.getD_cons_zero,List.getD_cons_succ,List.map_cons,List.map_nil,iOf,bOf,sOf,pOf,slLen,z04,cmpI,arI,Value.ite_bool,z03,z02,z00,z01,z1x,zdf] at ge
    have hi:m.input=[]:=by
     cases hi:m.input with
     | nil=>rfl
     | cons b l=>rw [hi] at ge;simp at ge
    refine ⟨_,z05,?_⟩
    simp only [ev0,ev,evV,List.cons_append,List.nil_append,List.getD_cons_zero,List.getD_cons_succ,List.map_cons,List.map_nil,iOf,bOf,sOf,pOf,slLen,z04,cmpI,arI,Value.ite_bool,z03,z02,z00,z01,hw1]
    refine goes (by unfold InI;omega) ?_
    rw [hS,hi]
    unfold MaR.put
    simp [hi]
  simp only [ev0,ev,evV,List.cons_append,List.nil_append,List.getD_cons_zero,List.getD_cons_succ,List.map_cons,List.map_nil,iOf,bOf,sOf,pOf,slLen,z04,cmpI,arI,Value.ite_bool,z03,z02,z00,z01,zdf] at gd
  refine ⟨fun ge=>?_,fun ge=>?_⟩
  ·
   simp only [ev0,ev,evV,List.cons_append,List.nil_append,List.getD_cons_zero,List.getD_cons_succ,List.map_cons,List.map_nil,iOf,bOf,sOf,pOf,slLen,z04,cmpI,arI,Value.ite_bool,z03,z02,z00,z01,zdt] at ge
   have hS:stR m x=(if m.reg x.a < 0∨255 < m.reg x.a then (5,m) else (6,{ m.goes (m.pc+1) with out:=m.out++[UInt8.ofNat (m.reg x.a).toNat] })):=by
    unfold stR;simp [ge]
   refine ⟨fun gf=>?_,fun gf=>?_⟩
   ·simp only [ev0,ev,evV,List.cons_append,List.nil_append,List.getD_cons_zero,List.getD_cons_succ,List.map_cons,List.map_nil,iOf,bOf,sOf,pOf,slLen,z04,cmpI,arI,Value.ite_bool,z03,z02,z00,z01] at gf
    simp only [Bool.or_eq_true,zdt] at gf
    rw [hS,if_pos (by omega)]
    exact ⟨S,ov,PH.le_refl _,rfl,h,ok⟩
   ·simp only [ev0,ev,evV,List.cons_append,List.nil_append,List.getD_cons_zero,List.getD_cons_succ,List.map_cons,List.map_nil,iOf,bOf,sOf,pOf,slLen,z04,cmpI,arI,Value.ite_bool,z03,z02,z00,z01] at gf
    simp only [Bool.or_eq_false_iff,zdf] at gf
    obtain ⟨ob,oc,rfl⟩:=Z08 h
    refine ⟨[.slice ob m.out.length oc],rfl,by simp only [ev0,ev,evV,List.cons_append,List.nil_append,List.getD_cons_zero,List.getD_cons_succ,List.map_cons,List.map_nil,iOf,bOf,sOf,pOf,slLen,z04,cmpI,arI,Value.ite_bool,z03,z02,z00,z01];exact Z0n h ok,?_⟩
    simp only [List.cons_append,List.nil_append]
    have hbyte:IntKind.u8.wrap (m.reg x.a)=((UInt8.ofNat (m.reg x.a).toNat).toNat:Int):=by
     rw [wu8 (by omega) (by omega)]
     have:(UInt8.ofNat (m.reg x.a).toNat).toNat=(m.reg x.a).toNat:=by
      rw [UInt8.toNat_ofNat'];omega
     omega
    have hp:Held S K (orow 5 m.out (.slice ob m.out.length oc)::(bx r T20 (z0m st m mv (.slice ob m.out.length oc))::orow 3 m.mem mv::J)):=h.perm (List.perm_middle (l₁:=[_,_]))
    refine z1o (b:=1) (more:=[UInt8.ofNat (m.reg x.a).toNat]) [.int .u8 ((UInt8.ofNat (m.reg x.a).toNat).toNat:Int)] Z5l Z6q rfl (by decide) (by decide) hp (by simp [idxs,ev0,ev,evV,List.cons_append,List.nil_append,List.getD_cons_zero,List.getD_cons_succ,List.map_cons,List.map_nil,iOf,bOf,sOf,pOf,slLen,z04,cmpI,arI,Value.ite_bool,z03,z02,z00,z01,argEv,hbyte]) (.cons (Z92 _) .nil) z06 (fun w=>by kernel_rfl) (fun w=>by kernel_rfl)
     (by simp only [maxLen,List.length_singleton];omega) (by simp only [List.length_singleton];omega) fun w v6 S6 K6 l6 h6=>⟨z06,?_⟩
    simp only [List.cons_append,List.nil_append]
    obtain ⟨b6,c6,hv6⟩:=(h6.row (e:=5) (zms)).sl
    refine z0n (off:=39) (vs:=[v6]) (by simp only [ev0,ev,evV,List.cons_append,List.nil_append,List.getD_cons_zero,List.getD_cons_succ,List.map_cons,List.map_nil,iOf,bOf,sOf,pOf,slLen,z04,cmpI,arI,Value.ite_bool,z03,z02,z00,z01];rfl) (h6.perm ((List.Perm.swap _ _ _).trans (List.Perm.cons _ (List.Perm.swap _ _ _)))) (by simp only [ev0,ev,evV,List.cons_append,List.nil_append,List.getD_cons_zero,List.getD_cons_succ,List.map_cons,List.map_nil,iOf,bOf,sOf,pOf,slLen,z04,cmpI,arI,Value.ite_bool,z03,z02,z00,z01]) (by intro u hu;rw [List.mem_singleton.1 hu,hv6];rfl) (by rw [c_len ok];simp) fun K7 h7=>?_
    have e:=s_out (st:=st) (mv:=mv) (ov:=.slice ob m.out.length oc) ok v6
    refine ⟨_,z05,S6,{ m with out:=m.out++[UInt8.ofNat (m.reg x.a).toNat] },v6,0,false,m.pc+1,l6,by simp only [ev0,ev,evV,List.cons_append,List.nil_append,List.getD_cons_zero,List.getD_cons_succ,List.map_cons,List.map_nil,iOf,bOf,sOf,pOf,slLen,z04,cmpI,arI,Value.ite_bool,z03,z02,z00,z01,hw1],?_,⟨ok.len,ok.regs⟩,rfl,(by unfold InI;omega),?_⟩
    ·show Held S6 K7 (z1r T20 r st { m with out:=m.out++[UInt8.ofNat (m.reg x.a).toNat] } mv v6++J)
     have h8:Held S6 K7 (bx r T20 (z0m st m mv v6)::orow 3 m.mem mv::orow 5 (m.out++[UInt8.ofNat (m.reg x.a).toNat]) v6::J):=by rw [←e];exact h7
     exact h8
    ·rw [hS,if_neg (by omega)];rfl
  simp only [ev0,ev,evV,List.cons_append,List.nil_append,List.getD_cons_zero,List.getD_cons_succ,List.map_cons,List.map_nil,iOf,bOf,sOf,pOf,slLen,z04,cmpI,arI,Value.ite_bool,z03,z02,z00,z01,zdf] at ge
  refine z5l (r:=r) (off:=5) zbx zIntQ (by kernel_rfl) rfl (by omega) z06 ?_
  refine ⟨[.int .i64 (m.reg x.c)],rfl,by simp only [ev0,ev,evV,List.cons_append,List.nil_append,List.getD_cons_zero,List.getD_cons_succ,List.map_cons,List.map_nil,iOf,bOf,sOf,pOf,slLen,z04,cmpI,arI,Value.ite_bool,z03,z02,z00,z01];exact zh4 h ok o4.1 o4.2,?_⟩
  simp only [List.cons_append,List.nil_append]
  refine z0a z60 (h.gives (zj3 x.op (m.reg x.b) (m.reg x.c) S (ok.reg _) (ok.reg _) fun hh=>by omega)) ?_
  rintro e K1 ⟨rfl,h1,_⟩
  refine ⟨_,[.int .i64 (thrR x.op (m.reg x.b) (m.reg x.c))],rfl,rfl,rfl,z06,_,z05,S,m,ov,thrR x.op (m.reg x.b) (m.reg x.c),true,m.pc+1,PH.le_refl _,by simp only [ev0,ev,evV,List.cons_append,List.nil_append,List.getD_cons_zero,List.getD_cons_succ,List.map_cons,List.map_nil,iOf,bOf,sOf,pOf,slLen,z04,cmpI,arI,Value.ite_bool,z03,z02,z00,z01,hw1],h1,ok,rfl,zxo _ (ok.reg _) (ok.reg _),?_⟩
  unfold stR
  have n1:¬((x.op=5∨x.op=6)∧m.reg x.c=0):=by omega
  have n2:¬(x.op=22∨x.op=23):=by omega
  rw [if_neg g,if_neg n1,if_neg g2,if_neg g3,if_neg g4,if_neg g5,if_neg g6,if_neg g7,if_neg g8,if_neg n2,if_neg ga,if_neg gb,if_neg gc,if_neg gd,if_neg ge]
  rfl
 ·simp only [ev0,ev,evV,List.cons_append,List.nil_append,List.getD_cons_zero,List.getD_cons_succ,List.map_cons,List.map_nil,iOf,bOf,sOf,pOf,slLen,z04,cmpI,arI,Value.ite_bool,z03,z02,z00,z01,zdt] at ga
  exact ⟨_,z05,by simp [ev0,ev,evV,List.cons_append,List.nil_append,List.getD_cons_zero,List.getD_cons_succ,List.map_cons,List.map_nil,iOf,bOf,sOf,pOf,slLen,z04,cmpI,arI,Value.ite_bool,z03,z02,z00,z01,ga],rfl⟩
 ·simp only [ev0,ev,evV,List.cons_append,List.nil_append,List.getD_cons_zero,List.getD_cons_succ,List.map_cons,List.map_nil,iOf,bOf,sOf,pOf,slLen,z04,cmpI,arI,Value.ite_bool,z03,z02,z00,z01,zdf] at ga
  refine ⟨fun gb=>?_,fun gb=>?_⟩
  ·simp only [ev0,ev,evV,List.cons_append,List.nil_append,List.getD_cons_zero,List.getD_cons_succ,List.map_cons,List.map_nil,iOf,bOf,sOf,pOf,slLen,z04,cmpI,arI,Value.ite_bool,z03,z02,z00,z01,zdt] at gb
   exact ⟨_,z05,by simp [ev0,ev,evV,List.cons_append,List.nil_append,List.getD_cons_zero,List.getD_cons_succ,List.map_cons,List.map_nil,iOf,bOf,sOf,pOf,slLen,z04,cmpI,arI,Value.ite_bool,z03,z02,z00,z01,gb],rfl⟩
  ·simp only [ev0,ev,evV,List.cons_append,List.nil_append,List.getD_cons_zero,List.getD_cons_succ,List.map_cons,List.map_nil,iOf,bOf,sOf,pOf,slLen,z04,cmpI,arI,Value.ite_bool,z03,z02,z00,z01,zdf] at gb
   refine ⟨_,z05,?_,rfl⟩
   by_cases gc:x.op=26<;>simp [ev0,ev,evV,List.cons_append,List.nil_append,List.getD_cons_zero,List.getD_cons_succ,List.map_cons,List.map_nil,iOf,bOf,sOf,pOf,slLen,z04,cmpI,arI,Value.ite_bool,z03,z02,z00,z01,ga,gb,gc]
end
theorem zvb (m:MaR) (x:InsR):(stR m x).2.mem.length=m.mem.length∧(((stR m x).1=6∧(stR m x).2.steps=m.steps+1)∨((stR m x).1≠6∧(stR m x).2.steps≤m.steps+1∧m.steps≤(stR m x).2.steps))∧((stR m x).2.out.length:Int) - m.out.length≤(stR m x).2.steps - m.steps∧InI (stR m x).1∧(0≤(stR m x).1∧(stR m x).1≤6):=by
 have put:∀(r v to:Int),(m.put r v to).mem.length=m.mem.length∧(m.put r v to).steps=m.steps+1∧(m.put r v to).out=m.out:=fun _ _ _=>⟨rfl,rfl,rfl⟩
 have goes:∀to,(m.goes to).mem=m.mem∧(m.goes to).steps=m.steps+1∧(m.goes to).out=m.out:=fun _=>⟨rfl,rfl,rfl⟩
 have key:∀y:Int×MaR,stR m x=y→y.2.mem.length=m.mem.length∧((y.1=6∧y.2.steps=m.steps+1)∨(y.1≠6∧y.2.steps≤m.steps+1∧m.steps≤y.2.steps))∧(y.2.out.length:Int) - m.out.length≤y.2.steps - m.steps∧InI y.1∧(0≤y.1∧y.1≤6):=by
  intro y hy
  have c6:InI 6:=by unfold InI;omega
  have P6:∀(r v to:Int),stR m x=(6,m.put r v to)→y.2.mem.length=m.mem.length∧((y.1=6∧y.2.steps=m.steps+1)∨(y.1≠6∧y.2.steps≤m.steps+1∧m.steps≤y.2.steps))∧(y.2.out.length:Int) - m.out.length≤y.2.steps - m.steps∧InI y.1∧(0≤y.1∧y.1≤6):=by
   intro r v to he
   rw [he] at hy;subst hy
   exact ⟨rfl,.inl ⟨rfl,rfl⟩,by show ((m.out.length:Int) - m.out.length)≤(m.steps+1) - m.steps;omega,c6,by simp⟩
  unfold stR at hy
  by_cases h0:x.op=0
  ·rw [if_pos h0] at hy;subst hy
   refine ⟨rfl,.inr ⟨by simp,by simp,?_⟩,?_,by unfold InI;simp,by simp⟩
   ·simp only [];omega
   ·simp only [];omega
  rw [if_neg h0] at hy
  by_cases h1:(x.op=5∨x.op=6)∧m.reg x.c=0
  ·rw [if_pos h1] at hy;subst hy
   refine ⟨rfl,.inr ⟨by simp,by simp only [];omega,by simp only [];omega⟩,by simp only [];omega,by unfold InI;simp,by simp⟩
  rw [if_neg h1] at hy
  have fin:∀(r v to:Int),(6,m.put r v to)=y→y.2.mem.length=m.mem.length∧((y.1=6∧y.2.steps=m.steps+1)∨(y.1≠6∧y.2.steps≤m.steps+1∧m.steps≤y.2.steps))∧(y.2.out.length:Int) - m.out.length≤y.2.steps - m.steps∧InI y.1∧(0≤y.1∧y.1≤6):=by
   intro r v to he
   subst he
   exact ⟨rfl,.inl ⟨rfl,rfl⟩,by show ((m.out.length:Int) - m.out.length)≤(m.steps+1) - m.steps;omega,c6,by simp⟩
  by_cases h2:x.op=15
  ·rw [if_pos h2] at hy;exact fin _ _ _ hy
  rw [if_neg h2] at hy
  by_cases h3:x.op=16
  ·rw [if_pos h3] at hy;exact fin _ _ _ hy
  rw [if_neg h3] at hy
  by_cases h4:x.op=17
  ·rw [if_pos h4] at hy;exact fin _ _ _ hy
  rw [if_neg h4] at hy
  by_cases h5:x.op=18
  ·rw [if_pos h5] at hy;exact fin _ _ _ hy
  rw [if_neg h5] at hy
  by_cases h6:x.op=19
  ·rw [if_pos h6] at hy;exact fin _ _ _ hy
  rw [if_neg h6] at hy
  by_cases h7:x.op=20
  ·rw [if_pos h7] at hy;exact fin _ _ _ hy
  rw [if_neg h7] at hy
  by_cases h8:x.op=21
  ·rw [if_pos h8] at hy;exact fin _ _ _ hy
  rw [if_neg h8] at hy
  by_cases h9:x.op=22∨x.op=23
  ·rw [if_pos h9] at hy
   split at hy
   ·subst hy
    refine ⟨rfl,.inr ⟨by simp,by simp only [];omega,by simp only [];omega⟩,by simp only [];omega,by unfold InI;simp,by simp⟩
   ·split at hy
    ·subst hy
     refine ⟨List.length_set,.inl ⟨rfl,rfl⟩,by show ((m.out.length:Int) - m.out.length)≤(m.steps+1) - m.steps;omega,c6,by simp⟩
    ·exact fin _ _ _ hy
  rw [if_neg h9] at hy
  by_cases h10:x.op=24∨x.op=25∨x.op=26∨x.op=27
  ·rw [if_pos h10] at hy;subst hy
   exact ⟨rfl,.inl ⟨rfl,rfl⟩,by show ((m.out.length:Int) - m.out.length)≤(m.steps+1) - m.steps;omega,c6,by simp⟩
  rw [if_neg h10] at hy
  by_cases h11:x.op=28
  ·rw [if_pos h11] at hy;exact fin _ _ _ hy
  rw [if_neg h11] at hy
  by_cases h12:x.op=29
  ·rw [if_pos h12] at hy;exact fin _ _ _ hy
  rw [if_neg h12] at hy
  by_cases h13:x.op=30
  ·rw [if_pos h13] at hy;subst hy
   exact ⟨rfl,.inl ⟨rfl,rfl⟩,by show ((m.out.length:Int) - m.out.length)≤(m.steps+1) - m.steps;omega,c6,by simp⟩
  rw [if_neg h13] at hy
  by_cases h14:x.op=31
  ·rw [if_pos h14] at hy
   split at hy
   ·subst hy
    refine ⟨rfl,.inr ⟨by simp,by simp only [];omega,by simp only [];omega⟩,by simp only [];omega,by unfold InI;simp,by simp⟩
   ·subst hy
    refine ⟨rfl,.inl ⟨rfl,rfl⟩,?_,c6,by simp⟩
    show (((m.out++[UInt8.ofNat (m.reg x.a).toNat]).length:Int) - m.out.length)≤(m.steps+1) - m.steps
    rw [zla,List.length_singleton];omega
  rw [if_neg h14] at hy
  exact fin _ _ _ hy
 exact key _ rfl
def haltV (h:HaltR) (mv:Value):List Value:=[.int .i64 h.state,.int .i64 h.value,txt h.out,.int .i64 h.steps,.int .i64 h.pc]++h.regs.map (Value.int .i64)++[mv]
structure Known (code:List W32) (known:List InsR) (seen:List Bool):Prop where
 k:known.length=code.length
 s:seen.length=code.length
 ok:∀(i:Nat) (w:W32) (x:InsR),seen[i]?=some true→code[i]?=some w→known[i]?=some x→decR w.n=some x
theorem Known.start (code:List W32):Known code (List.replicate code.length ins0) (List.replicate code.length false):=by
 refine ⟨by simp,by simp,fun i w x h=>?_⟩
 rw [List.getElem?_replicate] at h
 split at h<;>cases h
theorem Known.put {code:List W32} {known:List InsR} {seen:List Bool} (h:Known code known seen) {i:Nat} {w:W32} {x:InsR} (hw:code[i]?=some w) (hx:decR w.n=some x):Known code (known.set i x) (seen.set i true):=by
 refine ⟨by rw [List.length_set,h.k],by rw [List.length_set,h.s],fun j w' x' h1 h2 h3=>?_⟩
 by_cases e:i=j
 ·subst e
  rw [hw] at h2
  simp only [Option.some.injEq] at h2
  subst h2
  have hl:i < known.length:=by rw [h.k];exact (List.getElem?_eq_some_iff.1 hw).1
  rw [List.getElem?_set,if_pos rfl,if_pos hl] at h3
  simp only [Option.some.injEq] at h3
  subst h3;exact hx
 ·rw [List.getElem?_set,if_neg e] at h1 h3
  exact h.ok j w' x' h1 h2 h3
theorem z9j:Tryz.prog.underlying 115=some (.slice 118):=by kernel_rfl
theorem Z3k:ManyOk Tryz.prog 118 40 (insV ins0):=ManyOk.of (z:=.agg (insV ins0).toArray) (by kernel_rfl) rfl
theorem zrb:OneOk Tryz.prog 3 8 (.int .i64 0):=OneOk.of (by kernel_rfl) rfl
theorem zt7 {S:PH}:CsR S false [.bool false]:=zby
theorem zi8 {S:PH}:CsR S (0:Int) [.int .i64 0]:=z0o (by unfold InI;omega)
theorem Z8u {S:PH}:CsR S ins0 (insV ins0):=insR_iff.2 ⟨rfl,by decide,by decide,by decide,by decide,by decide⟩
theorem ztr {P:Program} {X:List PanicEntry→PH→Prop} {β:Type} {E:List Value} {H:PH} {L:LK} {K:β→List Value→PH→LK→Prop} {s t e ty:TypeId} {x:Operand} {args:List (Nat×VE)} {pend:List (SV×List SV)} {k:Fm β} {l:List UInt8} {v:Value}
  (hs:P.underlying s=some (.slice e)) (ht:P.underlying t=some .string) (he:P.underlying e=some (.int .u8)) (hx:argEv E args x=v) (h:SlR H l v) (hp:z0s E H pend) (hk:den P X k (E++[txt l]) H L K) :
  den P X (.sem (.convert s t x) ty args (.sc .str) pend k) E H L K:=by
 show wpS P (execOp (argEv E args) (bare _ ty)) _ _ H
 rw [zvj,hx]
 rcases (SlR.mk_iff.1 h).2 with ⟨rfl,rfl⟩ | ⟨a,c,rfl,h1,h2,h3⟩
 ·exact zs8 hs ht he ⟨[_],rfl,rfl,hp,hk⟩
 ·refine Z1k hs ht he (fun j u hu=>?_) ⟨[_],rfl,rfl,hp,hk⟩
  rw [List.getElem?_map] at hu
  cases hb:l[j]? with
  | none=>rw [hb] at hu;cases hu
  | some b=>
   rw [hb] at hu
   obtain ⟨cs,h4,h5⟩:=RepRows.get h3 hb
   obtain ⟨v1,_,rfl,h6,rfl⟩:=h4
   have:=h5 0 v1 rfl
   have e1:v1=.int .u8 (b.toNat:Int):=h6.1
   rw [e1] at this
   cases hu
   have e2:(a.add (j * sz UInt8)).add 0=a.add j:=by
    show Addr.add (Addr.add a (j * 1)) 0=a.add j
    simp [Addr.add]
   rw [e2] at this
   exact this
theorem Z53:∀{l:List Int},l.length=32→∃a0 a1 a2 a3 a4 a5 a6 a7 a8 a9 b0 b1 b2 b3 b4 b5 b6 b7 b8 b9 c0 c1 c2 c3 c4 c5 c6 c7 c8 c9 d0 d1,l=[a0,a1,a2,a3,a4,a5,a6,a7,a8,a9,b0,b1,b2,b3,b4,b5,b6,b7,b8,b9,c0,c1,c2,c3,c4,c5,c6,c7,c8,c9,d0,d1]:=by
 intro l h
 have step:∀{n:Nat} {l:List Int},l.length=n+1→∃a t,l=a::t∧t.length=n:=by
  intro n l h
  cases l with
  | nil=>cases h
  | cons a t=>exact ⟨a,t,rfl,by simpa using h⟩
 obtain ⟨a0,l1,rfl,h1⟩:=step h
 obtain ⟨a1,l2,rfl,h2⟩:=step h1
 obtain ⟨a2,l3,rfl,h3⟩:=step h2
 obtain ⟨a3,l4,rfl,h4⟩:=step h3
 obtain ⟨a4,l5,rfl,h5⟩:=step h4
 obtain ⟨a5,l6,rfl,h6⟩:=step h5
 obtain ⟨a6,l7,rfl,h7⟩:=step h6
 obtain ⟨a7,l8,rfl,h8⟩:=step h7
 obtain ⟨a8,l9,rfl,h9⟩:=step h8
 obtain ⟨a9,l10,rfl,h10⟩:=step h9
 obtain ⟨b0,l11,rfl,h11⟩:=step h10
 obtain ⟨b1,l12,rfl,h12⟩:=step h11
 obtain ⟨b2,l13,rfl,h13⟩:=step h12
 obtain ⟨b3,l14,rfl,h14⟩:=step h13
 obtain ⟨b4,l15,rfl,h15⟩:=step h14
 obtain ⟨b5,l16,rfl,h16⟩:=step h15
 obtain ⟨b6,l17,rfl,h17⟩:=step h16
 obtain ⟨b7,l18,rfl,h18⟩:=step h17
 obtain ⟨b8,l19,rfl,h19⟩:=step h18
 obtain ⟨b9,l20,rfl,h20⟩:=step h19
 obtain ⟨c0,l21,rfl,h21⟩:=step h20
 obtain ⟨c1,l22,rfl,h22⟩:=step h21
 obtain ⟨c2,l23,rfl,h23⟩:=step h22
 obtain ⟨c3,l24,rfl,h24⟩:=step h23
 obtain ⟨c4,l25,rfl,h25⟩:=step h24
 obtain ⟨c5,l26,rfl,h26⟩:=step h25
 obtain ⟨c6,l27,rfl,h27⟩:=step h26
 obtain ⟨c7,l28,rfl,h28⟩:=step h27
 obtain ⟨c8,l29,rfl,h29⟩:=step h28
 obtain ⟨c9,l30,rfl,h30⟩:=step h29
 obtain ⟨d0,l31,rfl,h31⟩:=step h30
 obtain ⟨d1,l32,rfl,h32⟩:=step h31
 exact ⟨a0,a1,a2,a3,a4,a5,a6,a7,a8,a9,b0,b1,b2,b3,b4,b5,b6,b7,b8,b9,c0,c1,c2,c3,c4,c5,c6,c7,c8,c9,d0,d1,by rw [List.length_eq_zero_iff.1 h32]⟩
def z8x (code:List W32) (limit st:Int) (m:MaR):HaltR:=if st=6 then z8y (goR code (limit - m.steps).toNat m) else z8y (st,m)
theorem Z37 {code:List W32} {limit st:Int} {m:MaR} (h:¬(st=6∧m.steps < limit)):z8x code limit st m=z8y (st,m):=by
 unfold z8x
 by_cases h6:st=6
 ·rw [if_pos h6,show (limit - m.steps).toNat=0 by omega,h6];rfl
 ·rw [if_neg h6]
theorem Z3e {code:List W32} {limit:Int} {m:MaR} (h:m.steps < limit):z8x code limit 6 m =
  if m.pc < 0∨(code.length:Int)≤m.pc then z8y (3,m)
  else match decR (code.getD m.pc.toNat ⟨0⟩).n with
   | none=>z8y (1,m)
   | some x=>z8x code limit (stR m x).1 (stR m x).2:=by
 obtain ⟨k,hk⟩:∃k,(limit - m.steps).toNat=k+1:=⟨(limit - m.steps).toNat - 1,by omega⟩
 unfold z8x
 rw [if_pos rfl,hk]
 simp only [goR]
 split
 ·rfl
 ·cases hd:decR (code.getD m.pc.toNat ⟨0⟩).n with
  | none=>rfl
  | some x=>
   simp only []
   rcases (zvb m x).2.1 with ⟨h1,h2⟩ | ⟨h1,_⟩
   ·rw [if_pos h1,if_pos h1,show (limit - (stR m x).2.steps).toNat=k by omega]
   ·rw [if_neg h1,if_neg h1]
theorem Z5s {i:ImgR} {input:List UInt8} {steps:Int} (h:zoy i steps=false):runR i input steps=z8x i.code steps 6 (z52 i input):=by
 unfold runR z8x
 rw [if_neg (by rw [h];exact Bool.false_ne_true),if_pos rfl]
 show _=z8y (goR i.code (steps - 0).toNat _)
 rw [Int.sub_zero]
theorem Z3l (i:ImgR) (input:List UInt8) (steps:Int) (cv mv:Value) (H:PH) (hc:SlR H i.code cv) (hm:SlR H i.mem mv) (hst:steps≤1099511627776) :
  Tri Tryz.prog zhw #[.agg #[cv,mv,.int .i64 i.words],txt input,.int .i64 steps] H fun e H'=>∃mv',PH.le H H'∧e=.returned (.agg (haltV (runR i input steps) mv').toArray)∧SlR H' (runR i input steps).mem mv'∧(runR i input steps).regs.length=32∧∀v∈(runR i input steps).regs,InI v:=by
 obtain ⟨cb,cc,rfl⟩:=hc.sl
 obtain ⟨mb,mc,rfl⟩:=hm.sl
 have hcm:=hc.max
 have hmm:=hm.max
 have hmx:maxLen=9223372036854775807:=rfl
 refine zf2 [.slice cb i.code.length cc,.slice mb i.mem.length mc,.int .i64 i.words,txt input,.int .i64 steps] (by kernel_rfl) (by kernel_rfl) ?_
 have hbad:zoy i steps=((((decide (i.words < 0) || decide (1048576 < i.words)) || decide (1048576 < (i.code.length:Int))) || decide (i.words < (i.mem.length:Int))) || decide (steps < 0)):=rfl
 refine ⟨fun g=>?_,fun g=>?_⟩
 ·simp only [ev0,ev,evV,List.cons_append,List.nil_append,List.getD_cons_zero,List.getD_cons_succ,List.map_cons,List.map_nil,iOf,bOf,sOf,pOf,slLen,z04,cmpI,arI,Value.ite_bool,z03,z02,z00,z01] at g
  have hr:runR i input steps=noImg:=by unfold runR;rw [if_pos (by rw [hbad];exact g)]
  rw [hr]
  refine ⟨.slice none 0 0,PH.le_refl _,rfl,SlR.mk_iff.2 ⟨by simp [noImg,maxLen],.inl ⟨rfl,rfl⟩⟩,rfl,fun v hv=>?_⟩
  have:v=0:=List.eq_of_mem_replicate hv
  rw [this];unfold InI;omega
 simp only [ev0,ev,evV,List.cons_append,List.nil_append,List.getD_cons_zero,List.getD_cons_succ,List.map_cons,List.map_nil,iOf,bOf,sOf,pOf,slLen,z04,cmpI,arI,Value.ite_bool,z03,z02,z00,z01] at g
 have hgood:zoy i steps=false:=by rw [hbad];exact g
 simp only [Bool.or_eq_false_iff,zdf] at g
 obtain ⟨⟨⟨⟨g1,g2⟩,g3⟩,g4⟩,g5⟩:=g
 rw [Z5s hgood]
 obtain ⟨R,hR⟩:∃R,z8x i.code steps 6 (z52 i input)=R:=⟨_,rfl⟩
 rw [hR]
 obtain ⟨wn,hwn⟩:∃wn:Nat,i.words=(wn:Int):=⟨i.words.toNat,by omega⟩
 have h0:Held H H []:=Held.nil (PH.le_refl _)
 obtain ⟨m0,hm0⟩:∃m0:MaR,m0=⟨0,0,0,zv2,[],input,[]⟩:=⟨_,rfl⟩
 have ok0:MaOk m0:=by
  subst hm0
  refine ⟨rfl,fun v hv=>?_⟩
  have:v=0:=List.eq_of_mem_replicate hv
  rw [this];unfold InI;omega
 refine z28 (vs:=z0m 0 m0 (.slice none 0 0) (.slice none 0 0)) h0 (by subst hm0;kernel_rfl) fun r K1 l1 h1=>?_
 simp only [List.cons_append,List.nil_append]
 refine z3p (α:=Int) (b:=8) (n:=wn) 0 rfl (fun S=>zi8) z0y zrb (by rw [hwn];rfl) (by rw [hwn];rfl) (by omega) (by omega) h1 fun v2 K2 h2 l2=>?_
 simp only [List.cons_append,List.nil_append]
 refine ⟨fun _=>by simp [Chk.holds,ev0,ev,evV,List.cons_append,List.nil_append,List.getD_cons_zero,List.getD_cons_succ,List.map_cons,List.map_nil,iOf,bOf,sOf,pOf,slLen,z04,cmpI,arI,Value.ite_bool,z03,z02,z00,z01],?_⟩
 obtain ⟨b2,c2,rfl⟩:=(h2.row (e:=3) (zms)).sl
 rw [List.length_replicate] at *
 refine z0n (off:=37) (vs:=[.slice b2 wn c2]) (by simp only [ev0,ev,evV,List.cons_append,List.nil_append,List.getD_cons_zero,List.getD_cons_succ,List.map_cons,List.map_nil,iOf,bOf,sOf,pOf,slLen,z04,cmpI,arI,Value.ite_bool,z03,z02,z00,z01];rfl) (h2.perm (List.Perm.swap _ _ _)) (by simp only [ev0,ev,evV,List.cons_append,List.nil_append,List.getD_cons_zero,List.getD_cons_succ,List.map_cons,List.map_nil,iOf,bOf,sOf,pOf,slLen,z04,cmpI,arI,Value.ite_bool,z03,z02,z00,z01]) (by intro u hu;rw [List.mem_singleton.1 hu];rfl) (by rw [c_len ok0];simp) fun K3 h3=>?_
 have h3:Held H K3 (bx r T20 (z0m 0 m0 (.slice b2 wn c2) (.slice none 0 0))::orow 3 (List.replicate wn (0:Int)) (.slice b2 wn c2)::[]):=by
  have e:=s_mem (st:=0) (mv:=.slice none 0 0) (ov:=.slice none 0 0) ok0 (.slice b2 wn c2)
  rw [←e];exact h3
 refine z0t (off:=37) [.slice b2 wn c2] (by simp only [ev0,ev,evV,List.cons_append,List.nil_append,List.getD_cons_zero,List.getD_cons_succ,List.map_cons,List.map_nil,iOf,bOf,sOf,pOf,slLen,z04,cmpI,arI,Value.ite_bool,z03,z02,z00,z01];rfl) h3 (zms) (by
  have:=z73 (st:=0) (mv:=.slice b2 wn c2) (ov:=.slice none 0 0) ok0 0
  rw [show 37+0=37 from rfl] at this
  rw [this];rfl) rfl ?_
 simp only [List.cons_append,List.nil_append]
 refine Z4y (b:=8) z0y z0v (by kernel_rfl) (by kernel_rfl) (h3.perm (List.Perm.swap _ _ _)) hm (by rw [List.length_replicate];omega) fun K4 h4=>?_
 rw [List.drop_replicate] at h4
 simp only [List.cons_append,List.nil_append]
 obtain ⟨mem0,hmem0⟩:∃mem0:List Int,mem0=i.mem++List.replicate (wn - i.mem.length) 0:=⟨_,rfl⟩
 rw [←hmem0] at h4
 have hml0:mem0.length=wn:=by rw [hmem0,zla,List.length_replicate];omega
 refine z0n (off:=0) (vs:=[.int .i64 6]) (by simp only [ev0,ev,evV,List.cons_append,List.nil_append,List.getD_cons_zero,List.getD_cons_succ,List.map_cons,List.map_nil,iOf,bOf,sOf,pOf,slLen,z04,cmpI,arI,Value.ite_bool,z03,z02,z00,z01];rfl) (h4.perm (List.Perm.swap _ _ _)) (by simp only [ev0,ev,evV,List.cons_append,List.nil_append,List.getD_cons_zero,List.getD_cons_succ,List.map_cons,List.map_nil,iOf,bOf,sOf,pOf,slLen,z04,cmpI,arI,Value.ite_bool,z03,z02,z00,z01]) (by intro u hu;rw [List.mem_singleton.1 hu];rfl) (by simp [z0m]) fun K5 h5=>?_
 have h5:Held H K5 (bx r T20 (z0m 6 m0 (.slice b2 wn c2) (.slice none 0 0))::orow 3 mem0 (.slice b2 wn c2)::[]):=h5
 refine Z1a (α:=InsR) (b:=40) (n:=i.code.length) ins0 (fun S=>Z8u) (by simp [insV]) z9j Z3k (by kernel_rfl) (by kernel_rfl) (by omega) (by omega) h5 fun kv K6 h6 l6=>?_
 simp only [List.cons_append,List.nil_append]
 refine z3p (α:=Bool) (b:=1) (n:=i.code.length) false rfl (fun S=>zt7) zlm zhm (by kernel_rfl) (by kernel_rfl) (by omega) (by omega) h6 fun sv K7 h7 l7=>?_
 simp only [List.cons_append,List.nil_append]
 obtain ⟨kb,kc,rfl⟩:=(h7.row (e:=118) (l:=List.replicate i.code.length ins0) (v:=kv) (by simp)).sl
 obtain ⟨sb,sc,rfl⟩:=(h7.row (e:=4) (zms)).sl
 simp only [List.length_replicate] at h7 ⊢
 have hstart:z52 i input={ m0 with mem:=mem0 }:=by
  unfold z52
  rw [hm0,hmem0,hwn];rfl
 have h7:Held H K7 (z1r T20 r 6 (z52 i input) (.slice b2 wn c2) (.slice none 0 0)++[orow 118 (List.replicate i.code.length ins0) (.slice kb i.code.length kc),orow 4 (List.replicate i.code.length false) (.slice sb i.code.length sc)]):=by
  rw [hstart]
  have h8:=(h7.empty (α:=UInt8) 5)
  have he:m0.out=[]:=by rw [hm0]
  show Held H K7 [bx r T20 (z0m 6 m0 (.slice b2 wn c2) (.slice none 0 0)),orow 3 mem0 (.slice b2 wn c2),orow 5 m0.out (.slice none 0 0),_,_]
  rw [he]
  exact h8.perm ((List.perm_append_comm (l₁:=[_,_,_]) (l₂:=[_,_])).trans (List.Perm.append_left [_,_] (List.Perm.cons _ (List.Perm.swap _ _ _))))
 have okS:MaOk (z52 i input):=by rw [hstart];exact ⟨ok0.len,ok0.regs⟩
 refine ⟨fun vs K=>∃(S2:PH) (st:Int) (m:MaR) (ov:Value) (J:List Itm),PH.le H S2∧vs=[]∧Held S2 K (z1r T20 r st m (.slice b2 wn c2) ov++J)∧MaOk m∧InI st∧z8y (st,m)=R,?_,?_⟩
 ·rintro vs K _ ⟨S2,st,m,ov,J,l2,rfl,h2,ok,hsi,hfin⟩
  simp only [List.cons_append,List.nil_append,List.append_nil]
  obtain ⟨ob,oc,rfl⟩:=Z08 h2
  have hout:SlR K m.out (.slice ob m.out.length oc):=(h2.row (e:=5) (l:=m.out) (v:=.slice ob m.out.length oc) (by simp)).slR h2.sh
  refine ⟨[.slice ob m.out.length oc],rfl,by simp only [ev0,ev,evV,List.cons_append,List.nil_append,List.getD_cons_zero,List.getD_cons_succ,List.map_cons,List.map_nil,iOf,bOf,sOf,pOf,slLen,z04,cmpI,arI,Value.ite_bool,z03,z02,z00,z01];exact Z0n h2 ok,?_⟩
  simp only [List.cons_append,List.nil_append]
  refine ztr Z5l zqy uByte (by kernel_rfl) hout z06 ?_
  simp only [List.cons_append,List.nil_append]
  refine z0n (off:=2) (vs:=[txt m.out]) (by simp only [ev0,ev,evV,List.cons_append,List.nil_append,List.getD_cons_zero,List.getD_cons_succ,List.map_cons,List.map_nil,iOf,bOf,sOf,pOf,slLen,z04,cmpI,arI,Value.ite_bool,z03,z02,z00,z01];rfl) h2 (by simp only [ev0,ev,evV,List.cons_append,List.nil_append,List.getD_cons_zero,List.getD_cons_succ,List.map_cons,List.map_nil,iOf,bOf,sOf,pOf,slLen,z04,cmpI,arI,Value.ite_bool,z03,z02,z00,z01]) (by intro u hu;rw [List.mem_singleton.1 hu];rfl) (by simp [z0m]) fun K2 h3=>?_
  have hRf:=hfin
  have hreg:R.regs.length=32∧∀v∈R.regs,InI v:=by rw [←hfin];exact ⟨ok.len,ok.regs⟩
  have hmem:R.mem=m.mem:=by rw [←hfin];rfl
  obtain ⟨a0,a1,a2,a3,a4,a5,a6,a7,a8,a9,b0,b1,b2',b3,b4,b5,b6,b7,b8,b9,c0,c1,c2',c3,c4,c5,c6,c7,c8,c9,d0,d1,hregs⟩:=Z53 ok.len
  have hcells:(z0m st m (.slice b2 wn c2) (.slice ob m.out.length oc)).take 2++[txt m.out]++(z0m st m (.slice b2 wn c2) (.slice ob m.out.length oc)).drop 3=haltV R (.slice b2 wn c2)++[txt m.input,.slice ob m.out.length oc]:=by
   rw [←hfin]
   simp [z0m,haltV,z8y]
  rw [show (2+[txt m.out].length)=3 from rfl,hcells] at h3
  have hmsl:SlR K2 m.mem (.slice b2 wn c2):=(h3.row (e:=3) (l:=m.mem) (v:=.slice b2 wn c2) (by simp)).slR h3.sh
  have hval:haltV R (.slice b2 wn c2)=[.int .i64 R.state,.int .i64 R.value,txt R.out,.int .i64 R.steps,.int .i64 R.pc,.int .i64 a0,.int .i64 a1,.int .i64 a2,.int .i64 a3,.int .i64 a4,.int .i64 a5,.int .i64 a6,.int .i64 a7,.int .i64 a8,.int .i64 a9,.int .i64 b0,.int .i64 b1,.int .i64 b2',.int .i64 b3,.int .i64 b4,.int .i64 b5,.int .i64 b6,.int .i64 b7,.int .i64 b8,.int .i64 b9,.int .i64 c0,.int .i64 c1,.int .i64 c2',.int .i64 c3,.int .i64 c4,.int .i64 c5,.int .i64 c6,.int .i64 c7,.int .i64 c8,.int .i64 c9,.int .i64 d0,.int .i64 d1,.slice b2 wn c2]:=by
   have:R.regs=m.regs:=by rw [←hfin];rfl
   unfold haltV
   rw [this,hregs];rfl
  rw [hval] at h3
  refine z0t (off:=0) [.int .i64 R.state,.int .i64 R.value,txt R.out,.int .i64 R.steps,.int .i64 R.pc,.int .i64 a0,.int .i64 a1,.int .i64 a2,.int .i64 a3,.int .i64 a4,.int .i64 a5,.int .i64 a6,.int .i64 a7,.int .i64 a8,.int .i64 a9,.int .i64 b0,.int .i64 b1,.int .i64 b2',.int .i64 b3,.int .i64 b4,.int .i64 b5,.int .i64 b6,.int .i64 b7,.int .i64 b8,.int .i64 b9,.int .i64 c0,.int .i64 c1,.int .i64 c2',.int .i64 c3,.int .i64 c4,.int .i64 c5,.int .i64 c6,.int .i64 c7,.int .i64 c8,.int .i64 c9,.int .i64 d0,.int .i64 d1,.slice b2 wn c2] (by simp only [ev0,ev,evV,List.cons_append,List.nil_append,List.getD_cons_zero,List.getD_cons_succ,List.map_cons,List.map_nil,iOf,bOf,sOf,pOf,slLen,z04,cmpI,arI,Value.ite_bool,z03,z02,z00,z01];rfl) h3 (zms) (by kernel_rfl) (by kernel_rfl) ?_
  refine ⟨.slice b2 wn c2,PH.le_trans l2 h3.sh,by rw [hval];kernel_rfl,by rw [hmem];exact hmsl,hreg⟩
 refine ⟨fun n vs K=>∃(S2:PH) (st:Int) (m:MaR) (ov:Value) (known:List InsR) (seen:List Bool),n=(if st=6 then (steps - m.steps).toNat+1 else 0)∧PH.le H S2∧vs=[]∧Held S2 K (z1r T20 r st m (.slice b2 wn c2) ov++[orow 118 known (.slice kb i.code.length kc),orow 4 seen (.slice sb i.code.length sc)])∧MaOk m∧InI st∧Known i.code known seen∧m.mem.length=wn∧0≤m.steps∧m.steps≤steps∧(m.out.length:Int)≤m.steps∧z8x i.code steps st m=R,
  ⟨_,H,6,z52 i input,.slice none 0 0,_,_,rfl,PH.le_refl _,rfl,h7,okS,by decide,Known.start _,by rw [hstart];exact hml0,by simp [z52],by simp only [z52];omega,by simp [z52],hR⟩,?_⟩
 rintro n vs K _ ⟨S2,st,m,ov,known,seen,hn,l2,rfl,h2,ok,hsi,hkn,hml,s0,s1,so,hrest⟩
 simp only [List.cons_append,List.nil_append,List.append_nil]
 refine ⟨fun vs K2=>vs=[.bool (decide (st=6∧m.steps < steps))]∧K=K2,?_,?_⟩
 rotate_left
 ·refine ⟨[.int .i64 st],rfl,by simp only [ev0,ev,evV,List.cons_append,List.nil_append,List.getD_cons_zero,List.getD_cons_succ,List.map_cons,List.map_nil,iOf,bOf,sOf,pOf,slLen,z04,cmpI,arI,Value.ite_bool,z03,z02,z00,z01];exact z4t h2 rfl,fun g=>?_,fun g=>?_⟩
  ·simp only [ev0,ev,evV,List.cons_append,List.nil_append,List.getD_cons_zero,List.getD_cons_succ,List.map_cons,List.map_nil,iOf,bOf,sOf,pOf,slLen,z04,cmpI,arI,Value.ite_bool,z03,z02,z00,z01,zdt] at g
   refine ⟨[.int .i64 m.steps],rfl,by simp only [ev0,ev,evV,List.cons_append,List.nil_append,List.getD_cons_zero,List.getD_cons_succ,List.map_cons,List.map_nil,iOf,bOf,sOf,pOf,slLen,z04,cmpI,arI,Value.ite_bool,z03,z02,z00,z01];exact z4t h2 rfl,_,z05,?_,rfl⟩
   simp [ev0,ev,evV,List.cons_append,List.nil_append,List.getD_cons_zero,List.getD_cons_succ,List.map_cons,List.map_nil,iOf,bOf,sOf,pOf,slLen,z04,cmpI,arI,Value.ite_bool,z03,z02,z00,z01,g]
  ·simp only [ev0,ev,evV,List.cons_append,List.nil_append,List.getD_cons_zero,List.getD_cons_succ,List.map_cons,List.map_nil,iOf,bOf,sOf,pOf,slLen,z04,cmpI,arI,Value.ite_bool,z03,z02,z00,z01,zdf] at g
   exact ⟨_,z05,by simp [ev0,ev,evV,List.cons_append,List.nil_append,List.getD_cons_zero,List.getD_cons_succ,List.map_cons,List.map_nil,iOf,bOf,sOf,pOf,slLen,z04,cmpI,arI,Value.ite_bool,z03,z02,z00,z01,g],rfl⟩
 rintro vs K2 _ ⟨rfl,rfl⟩
 simp only [List.cons_append,List.nil_append,List.append_nil]
 refine ⟨fun g=>?_,fun g=>?_⟩
 rotate_left
 ·simp only [ev0,ev,evV,List.cons_append,List.nil_append,List.getD_cons_zero,List.getD_cons_succ,List.map_cons,List.map_nil,iOf,bOf,sOf,pOf,slLen,z04,cmpI,arI,Value.ite_bool,z03,z02,z00,z01,zdf] at g
  refine ⟨_,z1i (by decide) |>.trans z05,S2,st,m,ov,_,l2,rfl,h2,ok,hsi,?_⟩
  rw [←Z37 (code:=i.code) (limit:=steps) g];exact hrest
 simp only [ev0,ev,evV,List.cons_append,List.nil_append,List.getD_cons_zero,List.getD_cons_succ,List.map_cons,List.map_nil,iOf,bOf,sOf,pOf,slLen,z04,cmpI,arI,Value.ite_bool,z03,z02,z00,z01,zdt] at g
 obtain ⟨g6,glt⟩:=g
 subst g6
 rw [Z3e glt] at hrest
 refine ⟨[.int .i64 m.pc],rfl,by simp only [ev0,ev,evV,List.cons_append,List.nil_append,List.getD_cons_zero,List.getD_cons_succ,List.map_cons,List.map_nil,iOf,bOf,sOf,pOf,slLen,z04,cmpI,arI,Value.ite_bool,z03,z02,z00,z01];exact z4t h2 rfl,?_⟩
 simp only [List.cons_append,List.nil_append,List.append_nil]
 refine ⟨fun g=>?_,fun g=>?_⟩
 ·simp only [ev0,ev,evV,List.cons_append,List.nil_append,List.getD_cons_zero,List.getD_cons_succ,List.map_cons,List.map_nil,iOf,bOf,sOf,pOf,slLen,z04,cmpI,arI,Value.ite_bool,z03,z02,z00,z01] at g
  simp only [Bool.or_eq_true,zdt] at g
  rw [if_pos (by omega)] at hrest
  refine z0n (off:=0) (vs:=[.int .i64 3]) (by simp only [ev0,ev,evV,List.cons_append,List.nil_append,List.getD_cons_zero,List.getD_cons_succ,List.map_cons,List.map_nil,iOf,bOf,sOf,pOf,slLen,z04,cmpI,arI,Value.ite_bool,z03,z02,z00,z01];rfl) h2 (by simp only [ev0,ev,evV,List.cons_append,List.nil_append,List.getD_cons_zero,List.getD_cons_succ,List.map_cons,List.map_nil,iOf,bOf,sOf,pOf,slLen,z04,cmpI,arI,Value.ite_bool,z03,z02,z00,z01]) (by intro u hu;rw [List.mem_singleton.1 hu];rfl) (by simp [z0m]) fun K3 h3=>?_
  have h3:Held S2 K3 (z1r T20 r 3 m (.slice b2 wn c2) ov++[orow 118 known (.slice kb i.code.length kc),orow 4 seen (.slice sb i.code.length sc)]):=h3
  exact ⟨_,z1i (by decide) |>.trans z05,S2,3,m,ov,_,l2,rfl,h3,ok,by decide,hrest⟩
 simp only [ev0,ev,evV,List.cons_append,List.nil_append,List.getD_cons_zero,List.getD_cons_succ,List.map_cons,List.map_nil,iOf,bOf,sOf,pOf,slLen,z04,cmpI,arI,Value.ite_bool,z03,z02,z00,z01] at g
 simp only [Bool.or_eq_false_iff,zdf] at g
 obtain ⟨gp0,gp1⟩:=g
 rw [if_neg (by omega)] at hrest
 obtain ⟨w,hw⟩:∃w,i.code[m.pc.toNat]?=some w:=⟨_,zge (by omega)⟩
 rw [zgd,hw,Option.getD_some] at hrest
 have hj:((m.pc.toNat:Nat):Int)=m.pc:=Int.toNat_of_nonneg (by omega)
 have hkl:=hkn.k
 have hsl:=hkn.s
 obtain ⟨x0,hx0⟩:∃x,known[m.pc.toNat]?=some x:=⟨_,zge (by omega)⟩
 obtain ⟨b0,hb0⟩:∃b,seen[m.pc.toNat]?=some b:=⟨_,zge (by omega)⟩
 refine ⟨fun vs K3=>∃(known':List InsR) (seen':List Bool) (x:InsR),vs=[]∧Held S2 K3 (z1r T20 r 6 m (.slice b2 wn c2) ov++[orow 118 known' (.slice kb i.code.length kc),orow 4 seen' (.slice sb i.code.length sc)])∧Known i.code known' seen'∧decR w.n=some x∧known'[m.pc.toNat]?=some x,?_,?_⟩
 ·rintro vs K3 _ ⟨known',seen',x,rfl,h3,hkn',hdx,hkx⟩
  simp only [List.cons_append,List.nil_append,List.append_nil]
  rw [hdx] at hrest
  simp only [] at hrest
  have hks:=(h3.row (e:=118) (l:=known') (v:=.slice kb i.code.length kc) (by simp)).slR h3.sh
  obtain ⟨y1,_,ycs,y2,y3⟩:=hks.get hkx
  obtain ⟨rfl,y4⟩:=insR_iff.1 y2
  rw [hj] at y3
  refine ⟨fun _=>?_,insV x,rfl,by simp only [ev0,ev,evV,List.cons_append,List.nil_append,List.getD_cons_zero,List.getD_cons_succ,List.map_cons,List.map_nil,iOf,bOf,sOf,pOf,slLen,z04,cmpI,arI,Value.ite_bool,z03,z02,z00,z01];exact y3,?_⟩
  ·simp only [Chk.holds,ev0,ev,evV,List.cons_append,List.nil_append,List.getD_cons_zero,List.getD_cons_succ,List.map_cons,List.map_nil,iOf,bOf,sOf,pOf,slLen,z04,cmpI,arI,Value.ite_bool,z03,z02,z00,z01];exact ⟨y1,by omega,by omega⟩
  simp only [List.cons_append,List.nil_append,List.append_nil]
  have hx:=Z5g hdx
  obtain ⟨f1,f2,f3,f4,f5⟩:=zvb m x
  refine z0a z8c (Z0z x h3 ok hx (by omega) (by omega) so (by omega)) ?_
  rintro e K4 ⟨S4,ov4,l4,rfl,h4,ok4⟩
  refine ⟨_,[.int .i64 (stR m x).1],rfl,rfl,rfl,z06,?_⟩
  simp only [List.cons_append,List.nil_append,List.append_nil]
  refine z0n (off:=0) (vs:=[.int .i64 (stR m x).1]) (by simp only [ev0,ev,evV,List.cons_append,List.nil_append,List.getD_cons_zero,List.getD_cons_succ,List.map_cons,List.map_nil,iOf,bOf,sOf,pOf,slLen,z04,cmpI,arI,Value.ite_bool,z03,z02,z00,z01];rfl) h4 (by simp only [ev0,ev,evV,List.cons_append,List.nil_append,List.getD_cons_zero,List.getD_cons_succ,List.map_cons,List.map_nil,iOf,bOf,sOf,pOf,slLen,z04,cmpI,arI,Value.ite_bool,z03,z02,z00,z01]) (by intro u hu;rw [List.mem_singleton.1 hu];rfl) (by simp [z0m]) fun K5 h5=>?_
  have h5:Held S4 K5 (z1r T20 r (stR m x).1 (stR m x).2 (.slice b2 wn c2) ov4++[orow 118 known' (.slice kb i.code.length kc),orow 4 seen' (.slice sb i.code.length sc)]):=h5
  refine ⟨_,z05,(if (stR m x).1=6 then (steps - (stR m x).2.steps).toNat+1 else 0),?_,S4,_,_,ov4,known',seen',rfl,PH.le_trans l2 l4,rfl,h5,ok4,f4,hkn',by rw [f1];exact hml,?_,?_,?_,hrest⟩
  ·rw [hn,if_pos rfl]
   split<;>omega
  ·omega
  ·omega
  ·omega
 have hcs:=(h2.row (e:=4) (l:=seen) (v:=.slice sb i.code.length sc) (by simp)).slR h2.sh
 obtain ⟨y1,_,ycs,y2,y3⟩:=hcs.get hb0
 rw [hj] at y3
 obtain rfl:=csBK y2
 refine ⟨fun _=>?_,[.bool b0],rfl,by simp only [ev0,ev,evV,List.cons_append,List.nil_append,List.getD_cons_zero,List.getD_cons_succ,List.map_cons,List.map_nil,iOf,bOf,sOf,pOf,slLen,z04,cmpI,arI,Value.ite_bool,z03,z02,z00,z01];exact y3,?_⟩
 ·simp only [Chk.holds,ev0,ev,evV,List.cons_append,List.nil_append,List.getD_cons_zero,List.getD_cons_succ,List.map_cons,List.map_nil,iOf,bOf,sOf,pOf,slLen,z04,cmpI,arI,Value.ite_bool,z03,z02,z00,z01];exact ⟨y1,by omega,by omega⟩
 simp only [List.cons_append,List.nil_append,List.append_nil]
 refine ⟨fun g=>?_,fun g=>?_⟩
 rotate_left
 ·simp only [ev0,ev,evV,List.cons_append,List.nil_append,List.getD_cons_zero,List.getD_cons_succ,List.map_cons,List.map_nil,iOf,bOf,sOf,pOf,slLen,z04,cmpI,arI,Value.ite_bool,z03,z02,z00,z01,Bool.not_eq_false'] at g
  subst g
  exact ⟨_,z05,known,seen,x0,rfl,h2,hkn,hkn.ok _ _ _ hb0 hw hx0,hx0⟩
 have hck:=hc.le (PH.le_trans l2 h2.sh)
 obtain ⟨z1,_,zcs,z2,z3⟩:=hck.get hw
 obtain ⟨rfl,zu⟩:=w32_iff.1 z2
 rw [hj] at z3
 refine ⟨fun _=>?_,[.int .u32 w.n],rfl,by simp only [ev0,ev,evV,List.cons_append,List.nil_append,List.getD_cons_zero,List.getD_cons_succ,List.map_cons,List.map_nil,iOf,bOf,sOf,pOf,slLen,z04,cmpI,arI,Value.ite_bool,z03,z02,z00,z01];exact z3,?_⟩
 ·simp only [Chk.holds,ev0,ev,evV,List.cons_append,List.nil_append,List.getD_cons_zero,List.getD_cons_succ,List.map_cons,List.map_nil,iOf,bOf,sOf,pOf,slLen,z04,cmpI,arI,Value.ite_bool,z03,z02,z00,z01];exact ⟨z1,by omega,by omega⟩
 simp only [List.cons_append,List.nil_append,List.append_nil]
 refine z0a zd4 (h2.gives (zr2 w.n S2 zu)) ?_
 rintro e K3 ⟨rfl,h3,_⟩
 refine ⟨_,insV ((decR w.n).getD ins0)++[.bool (decR w.n).isSome],rfl,rfl,rfl,z06,?_⟩
 simp only [List.cons_append,List.nil_append,List.append_nil]
 refine ⟨fun g2=>?_,fun g2=>?_⟩
 ·simp only [ev0,ev,evV,List.cons_append,List.nil_append,List.getD_cons_zero,List.getD_cons_succ,List.map_cons,List.map_nil,iOf,bOf,sOf,pOf,slLen,z04,cmpI,arI,Value.ite_bool,z03,z02,z00,z01,Bool.not_eq_true',Option.isSome_eq_false_iff,Option.isNone_iff_eq_none] at g2
  rw [g2] at hrest
  simp only [] at hrest
  refine z0n (off:=0) (vs:=[.int .i64 1]) (by simp only [ev0,ev,evV,List.cons_append,List.nil_append,List.getD_cons_zero,List.getD_cons_succ,List.map_cons,List.map_nil,iOf,bOf,sOf,pOf,slLen,z04,cmpI,arI,Value.ite_bool,z03,z02,z00,z01];rfl) h3 (by simp only [ev0,ev,evV,List.cons_append,List.nil_append,List.getD_cons_zero,List.getD_cons_succ,List.map_cons,List.map_nil,iOf,bOf,sOf,pOf,slLen,z04,cmpI,arI,Value.ite_bool,z03,z02,z00,z01]) (by intro u hu;rw [List.mem_singleton.1 hu];rfl) (by simp [z0m]) fun K4 h4=>?_
  have h4:Held S2 K4 (z1r T20 r 1 m (.slice b2 wn c2) ov++[orow 118 known (.slice kb i.code.length kc),orow 4 seen (.slice sb i.code.length sc)]):=h4
  exact ⟨_,z1i (by decide) |>.trans (z1i (by decide) |>.trans z05),S2,1,m,ov,_,l2,rfl,h4,ok,by decide,hrest⟩
 ·simp only [ev0,ev,evV,List.cons_append,List.nil_append,List.getD_cons_zero,List.getD_cons_succ,List.map_cons,List.map_nil,iOf,bOf,sOf,pOf,slLen,z04,cmpI,arI,Value.ite_bool,z03,z02,z00,z01,Bool.not_eq_false',Option.isSome_iff_exists] at g2
  obtain ⟨x,hx⟩:=g2
  rw [hx]
  simp only [Option.getD_some]
  have hin:=(Z5g hx).in5
  have hp1:=h3.perm (List.perm_middle (l₁:=[_,_,_]) (l₂:=[orow 4 seen (.slice sb i.code.length sc)]))
  have hks:=(h3.row (e:=118) (l:=known) (v:=.slice kb i.code.length kc) (by simp)).slR h3.sh
  obtain ⟨k1,_⟩:=hks.get hx0
  refine ⟨fun _=>?_,?_⟩
  ·simp only [Chk.holds,ev0,ev,evV,List.cons_append,List.nil_append,List.getD_cons_zero,List.getD_cons_succ,List.map_cons,List.map_nil,iOf,bOf,sOf,pOf,slLen,z04,cmpI,arI,Value.ite_bool,z03,z02,z00,z01];exact ⟨k1,by omega,by omega⟩
  refine z1d (i:=m.pc.toNat) (a:=x0) (a':=x) (us:=insV x) (by simp only [ev0,ev,evV,List.cons_append,List.nil_append,List.getD_cons_zero,List.getD_cons_succ,List.map_cons,List.map_nil,iOf,bOf,sOf,pOf,slLen,z04,cmpI,arI,Value.ite_bool,z03,z02,z00,z01,hj];rfl) hp1 hx0 rfl (by simp only [ev0,ev,evV,List.cons_append,List.nil_append,List.getD_cons_zero,List.getD_cons_succ,List.map_cons,List.map_nil,iOf,bOf,sOf,pOf,slLen,z04,cmpI,arI,Value.ite_bool,z03,z02,z00,z01]) (by
   intro u hu
   simp only [insV,List.mem_cons,List.not_mem_nil,or_false] at hu
   rcases hu with rfl | rfl | rfl | rfl | rfl<;>rfl) (insR_iff.2 ⟨rfl,hin⟩) fun K4 h4=>?_
  have hp2:=h4.perm (List.perm_middle (l₁:=[_,_,_,_]) (l₂:=[]))
  refine z1d (i:=m.pc.toNat) (a:=b0) (a':=true) (us:=[.bool true]) (by simp only [ev0,ev,evV,List.cons_append,List.nil_append,List.getD_cons_zero,List.getD_cons_succ,List.map_cons,List.map_nil,iOf,bOf,sOf,pOf,slLen,z04,cmpI,arI,Value.ite_bool,z03,z02,z00,z01,hj];rfl) hp2 hb0 rfl (by simp only [ev0,ev,evV,List.cons_append,List.nil_append,List.getD_cons_zero,List.getD_cons_succ,List.map_cons,List.map_nil,iOf,bOf,sOf,pOf,slLen,z04,cmpI,arI,Value.ite_bool,z03,z02,z00,z01]) (by simp [oneC]) zby fun K5 h5=>?_
  refine ⟨_,z05,known.set m.pc.toNat x,seen.set m.pc.toNat true,x,rfl,?_,hkn.put hw hx,rfl,?_⟩
  ·exact h5.perm ((List.perm_middle (l₁:=[_,_,_,_]) (l₂:=[])).symm.trans (List.perm_middle (l₁:=[_,_,_]) (l₂:=[_])).symm)
  ·rw [List.getElem?_set,if_pos rfl,if_pos (by omega)]
section
variable {P:Program} {Ψ:Value→PH→Prop} {H:PH}
theorem zyg {op:BinOp} {t:TypeId} {x y:Operand} {u v:Array Value} (hop:op=.eql∨op=.neq) (hg:P.eqGuardType P.depth t=false) {Ξ:Unit→PH→Prop}:wpS P (eqGuard op t x y (.agg u) (.agg v)) Ξ Ψ H=Ξ () H:=by
 rcases hop with rfl | rfl
 ·show wpS P (if (!P.eqGuardType P.depth t)=true then _ else _) Ξ Ψ H=_
  rw [if_pos (by rw [hg];rfl)];rfl
 ·show wpS P (if (!P.eqGuardType P.depth t)=true then _ else _) Ξ Ψ H=_
  rw [if_pos (by rw [hg];rfl)];rfl
theorem zu9 {X:List PanicEntry→PH→Prop} {β:Type} {E:List Value} {L:LK} {K:β→List Value→PH→LK→Prop} {t U ty:TypeId} {fs:List Field} {asu bs:List Value} {x y:Operand} {args:List (Nat×VE)} {k:Fm β} (ht:P.underlying t=some (.struct fs.toArray)) (hheld:P.stoodInHeld t=false) (hg:P.eqGuardType P.depth t=false) (ho:OffB 0 fs=true)
  (hx:argEv E args x=.agg asu.toArray) (hy:argEv E args y=.agg bs.toArray) (hf:FitB P fs asu bs=true) (hk:den P X k (E++[.bool (z4s asu bs)]) H L K):den P X (.sem (.binOp .eql t x y U) ty args (.sc .bool) [] k) E H L K:=by
 show wpS P (execOp (argEv E args) (bare _ ty)) _ _ H
 rw [Z2h,hx,hy,zyg (.inl rfl) hg]
 show wpS P (do pure (Value.bool (←Op.equal t (.agg asu.toArray) (.agg bs.toArray))):Sem Value) _ _ H
 rw [z09]
 show wpS P (Op.equalIn (9998+2) t _ _) _ _ H
 rw [zpj ht hheld ho hf]
 exact ⟨[_],rfl,rfl,z06,hk⟩
end
noncomputable def insFieldsQ:Array Field:=match Tryz.prog.underlying 118 with
 | some (.struct fs)=>fs
 | _=>#[]
theorem Z9a:Tryz.prog.underlying 118=some (.struct insFieldsQ.toList.toArray):=by kernel_rfl
theorem Z6l:Tryz.prog.stoodInHeld 118=false:=by kernel_rfl
theorem Z4p:Tryz.prog.eqGuardType Tryz.prog.depth 118=false:=by kernel_rfl
theorem Z8g:OffB 0 insFieldsQ.toList=true:=by kernel_rfl
theorem Z7x (a b:InsR):FitB Tryz.prog insFieldsQ.toList (insV a) (insV b)=true:=by kernel_rfl
theorem eqIns (a b:InsR):z4s (insV a) (insV b)=decide (a=b):=by
 obtain ⟨a1,a2,a3,a4,a5⟩:=a
 obtain ⟨b1,b2,b3,b4,b5⟩:=b
 have:z4s (insV ⟨a1,a2,a3,a4,a5⟩) (insV ⟨b1,b2,b3,b4,b5⟩)=(decide (a1=b1) && (decide (a2=b2) && (decide (a3=b3) && (decide (a4=b4) && (decide (a5=b5) && true))))):=by
  simp [z4s,zc8]
  rw [show (a1 == b1)=decide (a1=b1) from rfl,show (a2 == b2)=decide (a2=b2) from rfl,show (a3 == b3)=decide (a3=b3) from rfl,show (a4 == b4)=decide (a4=b4) from rfl,show (a5 == b5)=decide (a5=b5) from rfl]
 rw [this]
 by_cases h1:a1=b1<;>by_cases h2:a2=b2<;>by_cases h3:a3=b3<;>by_cases h4:a4=b4<;>by_cases h5:a5=b5<;>simp [h1,h2,h3,h4,h5]
theorem Z1u {X:List PanicEntry→PH→Prop} {β:Type} {E:List Value} {L:LK} {K:β→List Value→PH→LK→Prop} {H:PH} {U ty:TypeId} {a b:InsR} {x y:Operand} {args:List (Nat×VE)} {k:Fm β} (hx:argEv E args x=.agg (insV a).toArray) (hy:argEv E args y=.agg (insV b).toArray) (hk:den Tryz.prog X k (E++[.bool (decide (a=b))]) H L K):den Tryz.prog X (.sem (.binOp .eql 118 x y U) ty args (.sc .bool) [] k) E H L K:=
 zu9 Z9a Z6l Z4p Z8g hx hy (Z7x a b) (by rw [eqIns];exact hk)
theorem Z7m (o:Option Int):decide ((encE o)=0)=o.isSome:=by cases o<;>rfl
theorem zyo (x:ItemR) (H:PH) (hx:InI8 x):Gives Tryz.prog zi0 [.agg (itemV x).toArray] H (.bool (mayR x)):=by
 refine zfh (itemV x) (by kernel_rfl) (by kernel_rfl) ?_
 refine z0b [.int .u32 ((encR x.x).getD 0),.int .i64 (encE (encR x.x))] z3e (z9f x.x H hx.x) rfl z06 fun K l=>?_
 simp only [List.cons_append,List.nil_append]
 have he:=Z7m (encR x.x)
 generalize hm:mayR x=b
 unfold mayR at hm
 refine ⟨fun g=>?_,fun g=>?_⟩
 ·simp only [ev0,ev,evV,List.cons_append,List.nil_append,List.getD_cons_zero,List.getD_cons_succ,List.map_cons,List.map_nil,iOf,bOf,sOf,pOf,slLen,z04,cmpI,arI,Value.ite_bool,z03,z02,z00,z01,zdt] at g
  rw [if_pos g] at hm
  exact ⟨by simp only [ev0,ev,evV,List.cons_append,List.nil_append,List.getD_cons_zero,List.getD_cons_succ,List.map_cons,List.map_nil,iOf,bOf,sOf,pOf,slLen,z04,cmpI,arI,Value.ite_bool,z03,z02,z00,z01,he,←hm],l⟩
 simp only [ev0,ev,evV,List.cons_append,List.nil_append,List.getD_cons_zero,List.getD_cons_succ,List.map_cons,List.map_nil,iOf,bOf,sOf,pOf,slLen,z04,cmpI,arI,Value.ite_bool,z03,z02,z00,z01,zdf] at g
 rw [if_neg g] at hm
 refine ⟨fun g=>?_,fun g=>?_⟩
 ·simp only [ev0,ev,evV,List.cons_append,List.nil_append,List.getD_cons_zero,List.getD_cons_succ,List.map_cons,List.map_nil,iOf,bOf,sOf,pOf,slLen,z04,cmpI,arI,Value.ite_bool,z03,z02,z00,z01,zdt] at g
  rw [if_pos g] at hm
  refine Z1u (a:=x.x) (b:=ins0) (by kernel_rfl) (by kernel_rfl) ?_
  exact ⟨by simp only [ev0,ev,evV,List.cons_append,List.nil_append,List.getD_cons_zero,List.getD_cons_succ,List.map_cons,List.map_nil,iOf,bOf,sOf,pOf,slLen,z04,cmpI,arI,Value.ite_bool,z03,z02,z00,z01,←hm],l⟩
 simp only [ev0,ev,evV,List.cons_append,List.nil_append,List.getD_cons_zero,List.getD_cons_succ,List.map_cons,List.map_nil,iOf,bOf,sOf,pOf,slLen,z04,cmpI,arI,Value.ite_bool,z03,z02,z00,z01,zdf] at g
 rw [if_neg g] at hm
 refine ⟨fun g=>?_,fun g=>?_⟩
 ·simp only [ev0,ev,evV,List.cons_append,List.nil_append,List.getD_cons_zero,List.getD_cons_succ,List.map_cons,List.map_nil,iOf,bOf,sOf,pOf,slLen,z04,cmpI,arI,Value.ite_bool,z03,z02,z00,z01,zdt] at g
  rw [if_pos g] at hm
  exact ⟨by simp only [ev0,ev,evV,List.cons_append,List.nil_append,List.getD_cons_zero,List.getD_cons_succ,List.map_cons,List.map_nil,iOf,bOf,sOf,pOf,slLen,z04,cmpI,arI,Value.ite_bool,z03,z02,z00,z01,he,←hm,ge_iff_le],l⟩
 simp only [ev0,ev,evV,List.cons_append,List.nil_append,List.getD_cons_zero,List.getD_cons_succ,List.map_cons,List.map_nil,iOf,bOf,sOf,pOf,slLen,z04,cmpI,arI,Value.ite_bool,z03,z02,z00,z01,zdf] at g
 rw [if_neg g] at hm
 refine ⟨fun g=>?_,fun g=>?_⟩
 ·simp only [ev0,ev,evV,List.cons_append,List.nil_append,List.getD_cons_zero,List.getD_cons_succ,List.map_cons,List.map_nil,iOf,bOf,sOf,pOf,slLen,z04,cmpI,arI,Value.ite_bool,z03,z02,z00,z01,zdt] at g
  rw [if_pos g] at hm
  exact ⟨by simp only [ev0,ev,evV,List.cons_append,List.nil_append,List.getD_cons_zero,List.getD_cons_succ,List.map_cons,List.map_nil,iOf,bOf,sOf,pOf,slLen,z04,cmpI,arI,Value.ite_bool,z03,z02,z00,z01,he,←hm],l⟩
 simp only [ev0,ev,evV,List.cons_append,List.nil_append,List.getD_cons_zero,List.getD_cons_succ,List.map_cons,List.map_nil,iOf,bOf,sOf,pOf,slLen,z04,cmpI,arI,Value.ite_bool,z03,z02,z00,z01,zdf] at g
 rw [if_neg g] at hm
 refine ⟨fun g=>?_,fun g=>?_⟩
 ·simp only [ev0,ev,evV,List.cons_append,List.nil_append,List.getD_cons_zero,List.getD_cons_succ,List.map_cons,List.map_nil,iOf,bOf,sOf,pOf,slLen,z04,cmpI,arI,Value.ite_bool,z03,z02,z00,z01,zdt] at g
  rw [if_pos g] at hm
  exact ⟨by simp only [ev0,ev,evV,List.cons_append,List.nil_append,List.getD_cons_zero,List.getD_cons_succ,List.map_cons,List.map_nil,iOf,bOf,sOf,pOf,slLen,z04,cmpI,arI,Value.ite_bool,z03,z02,z00,z01,he,←hm],l⟩
 simp only [ev0,ev,evV,List.cons_append,List.nil_append,List.getD_cons_zero,List.getD_cons_succ,List.map_cons,List.map_nil,iOf,bOf,sOf,pOf,slLen,z04,cmpI,arI,Value.ite_bool,z03,z02,z00,z01,zdf] at g
 rw [if_neg g] at hm
 refine ⟨fun g=>?_,fun g=>?_⟩
 ·simp only [ev0,ev,evV,List.cons_append,List.nil_append,List.getD_cons_zero,List.getD_cons_succ,List.map_cons,List.map_nil,iOf,bOf,sOf,pOf,slLen,z04,cmpI,arI,Value.ite_bool,z03,z02,z00,z01,zdt] at g
  rw [if_pos g] at hm
  exact ⟨by simp only [ev0,ev,evV,List.cons_append,List.nil_append,List.getD_cons_zero,List.getD_cons_succ,List.map_cons,List.map_nil,iOf,bOf,sOf,pOf,slLen,z04,cmpI,arI,Value.ite_bool,z03,z02,z00,z01,he,←hm],l⟩
 simp only [ev0,ev,evV,List.cons_append,List.nil_append,List.getD_cons_zero,List.getD_cons_succ,List.map_cons,List.map_nil,iOf,bOf,sOf,pOf,slLen,z04,cmpI,arI,Value.ite_bool,z03,z02,z00,z01,zdf] at g
 rw [if_neg g] at hm
 exact ⟨by rw [←hm];rfl,l⟩
theorem zak (x:ItemR) (H:PH):Gives Tryz.prog zf1 [.agg (itemV x).toArray] H (.bool (z2f x)):=by
 refine zc5 (itemV x) (by kernel_rfl) (by kernel_rfl) ?_
 exact ⟨by simp only [ev0,ev,evV,List.cons_append,List.nil_append,List.getD_cons_zero,List.getD_cons_succ,List.map_cons,List.map_nil,iOf,bOf,sOf,pOf,slLen,z04,cmpI,arI,Value.ite_bool,z03,z02,z00,z01,z2f],PH.le_refl _⟩
def z1f (l:List ItemR) (label:Int):Int:=match findR l label with
 | none=>-1
 | some k=>(k:Int)
theorem z30 {H:PH} {p:Option Addr} {x:ItemR} (h:rowAt H p (itemV x)) (off:Nat) (v:Value) (hv:((itemV x).drop off).take 1=[v]):rowAt H (p.map (·.add off)) [v]:=by
 have:=z3t h off 1
 rwa [hv] at this
theorem z96 (l:List ItemR) (label:Int) (v:Value) (H:PH) (hl:SlR H l v):Gives Tryz.prog zgy [v,.int .i64 label] H (.int .i64 (z1f l label)):=by
 obtain ⟨b,c,rfl⟩:=hl.sl
 have hmx:maxLen=9223372036854775807:=rfl
 have hlm:=hl.max
 refine ze4 [.slice b l.length c,.int .i64 label] (by kernel_rfl) (by kernel_rfl) ?_
 refine ⟨fun n vs K=>∃k:Nat,k+n=l.length∧vs=[.int .i64 0,nI k]∧K=H∧∀(i:Nat) (x:ItemR),i < k→l[i]?=some x→isLab label x=false,⟨l.length,0,by omega,rfl,rfl,fun i x hi=>absurd hi (by omega)⟩,?_⟩
 rintro n vs K _ ⟨k,hkn,rfl,rfl,hno⟩
 simp only [List.cons_append,List.nil_append]
 refine ⟨fun g=>?_,fun g=>?_⟩
 ·simp only [ev0,ev,evV,List.cons_append,List.nil_append,List.getD_cons_zero,List.getD_cons_succ,List.map_cons,List.map_nil,iOf,bOf,sOf,pOf,slLen,z04,cmpI,arI,Value.ite_bool,z03,z02,z00,z01,zdt] at g
  obtain ⟨x,hx⟩:∃x,l[k]?=some x:=⟨_,zge (by omega)⟩
  obtain ⟨y1,_,cs,y2,y3⟩:=hl.get hx
  obtain ⟨rfl,_⟩:=itemR_iff.1 y2
  refine ⟨fun vs K2=>vs=[.bool (isLab label x)]∧K=K2,?_,fun _=>?_,[.int .i64 x.kind],rfl,?_,fun g2=>?_,fun g2=>?_⟩
  ·rintro vs K2 _ ⟨rfl,rfl⟩
   refine ⟨fun g2=>?_,fun g2=>?_⟩
   ·simp only [ev0,ev,evV,List.cons_append,List.nil_append,List.getD_cons_zero,List.getD_cons_succ,List.map_cons,List.map_nil,iOf,bOf,sOf,pOf,slLen,z04,cmpI,arI,Value.ite_bool,z03,z02,z00,z01] at g2
    refine ⟨?_,PH.le_refl _⟩
    have:findR l label=some k:=by
     unfold findR
     rw [List.findIdx?_eq_some_iff_getElem]
     have hkl:k < l.length:=(List.getElem?_eq_some_iff.1 hx).1
     refine ⟨hkl,by rw [(List.getElem?_eq_some_iff.1 hx).2];exact g2,fun j hj=>?_⟩
     have:=hno j l[j] hj (zge (by omega))
     rw [this];simp
    unfold z1f
    rw [this];rfl
   ·simp only [ev0,ev,evV,List.cons_append,List.nil_append,List.getD_cons_zero,List.getD_cons_succ,List.map_cons,List.map_nil,iOf,bOf,sOf,pOf,slLen,z04,cmpI,arI,Value.ite_bool,z03,z02,z00,z01] at g2
    refine ⟨_,z05,n - 1,by omega,k+1,by omega,?_,rfl,fun i y hi hy=>?_⟩
    ·have hw:IntKind.i64.wrap ((k:Int)+1)=((k+1:Nat):Int):=by rw [w64 (by omega) (by omega)];rfl
     simp only [ev0,ev,evV,List.cons_append,List.nil_append,List.getD_cons_zero,List.getD_cons_succ,List.map_cons,List.map_nil,iOf,bOf,sOf,pOf,slLen,z04,cmpI,arI,Value.ite_bool,z03,z02,z00,z01,hw]
    ·rcases Nat.lt_succ_iff_lt_or_eq.1 hi with hi | rfl
     ·exact hno i y hi hy
     ·rw [hx] at hy;cases hy;exact g2
  ·simp only [Chk.holds,ev0,ev,evV,List.cons_append,List.nil_append,List.getD_cons_zero,List.getD_cons_succ,List.map_cons,List.map_nil,iOf,bOf,sOf,pOf,slLen,z04,cmpI,arI,Value.ite_bool,z03,z02,z00,z01];exact ⟨y1,by omega,by omega⟩
  ·simp only [ev0,ev,evV,List.cons_append,List.nil_append,List.getD_cons_zero,List.getD_cons_succ,List.map_cons,List.map_nil,iOf,bOf,sOf,pOf,slLen,z04,cmpI,arI,Value.ite_bool,z03,z02,z00,z01];exact z30 y3 0 _ rfl
  ·simp only [ev0,ev,evV,List.cons_append,List.nil_append,List.getD_cons_zero,List.getD_cons_succ,List.map_cons,List.map_nil,iOf,bOf,sOf,pOf,slLen,z04,cmpI,arI,Value.ite_bool,z03,z02,z00,z01,zdt] at g2
   refine ⟨[.int .i64 x.label],rfl,by simp only [ev0,ev,evV,List.cons_append,List.nil_append,List.getD_cons_zero,List.getD_cons_succ,List.map_cons,List.map_nil,iOf,bOf,sOf,pOf,slLen,z04,cmpI,arI,Value.ite_bool,z03,z02,z00,z01];exact z30 y3 6 _ rfl,_,z05,?_,rfl⟩
   simp [ev0,ev,evV,List.cons_append,List.nil_append,List.getD_cons_zero,List.getD_cons_succ,List.map_cons,List.map_nil,iOf,bOf,sOf,pOf,slLen,z04,cmpI,arI,Value.ite_bool,z03,z02,z00,z01,isLab,g2]
  ·simp only [ev0,ev,evV,List.cons_append,List.nil_append,List.getD_cons_zero,List.getD_cons_succ,List.map_cons,List.map_nil,iOf,bOf,sOf,pOf,slLen,z04,cmpI,arI,Value.ite_bool,z03,z02,z00,z01,zdf] at g2
   exact ⟨_,z05,by simp [ev0,ev,evV,List.cons_append,List.nil_append,List.getD_cons_zero,List.getD_cons_succ,List.map_cons,List.map_nil,iOf,bOf,sOf,pOf,slLen,z04,cmpI,arI,Value.ite_bool,z03,z02,z00,z01,isLab,g2],rfl⟩
 ·simp only [ev0,ev,evV,List.cons_append,List.nil_append,List.getD_cons_zero,List.getD_cons_succ,List.map_cons,List.map_nil,iOf,bOf,sOf,pOf,slLen,z04,cmpI,arI,Value.ite_bool,z03,z02,z00,z01,zdf] at g
  refine ⟨?_,PH.le_refl _⟩
  have:findR l label=none:=by
   unfold findR
   rw [List.findIdx?_eq_none_iff]
   intro y hy
   obtain ⟨i,hi⟩:=List.getElem?_of_mem hy
   exact hno i y (by have:=(List.getElem?_eq_some_iff.1 hi).1;omega) hi
  unfold z1f
  rw [this];rfl
theorem zr5 (n:Int) (k:Nat) (hk:k≤64):arI .shr .i64 n (k:Int)=shrR n k:=by
 show n.fdiv (2 ^ (min (k:Int).toNat 64))=_
 rw [Int.toNat_natCast,Nat.min_eq_left hk];rfl
theorem zkk (n:Int):1≤z2m n∧z2m n≤4:=by
 unfold z2m
 repeat' split
 all_goals omega
theorem zgg (n:Int) (H:PH):Gives Tryz.prog ze1 [.int .i64 n] H (.int .i64 (z2m n:Int)):=by
 refine zbg [.int .i64 n] (by kernel_rfl) (by kernel_rfl) ?_
 refine ⟨fun vs K=>vs=[.int .i64 (z2m n:Int)]∧K=H,?_,?_⟩
 ·rintro vs K _ ⟨rfl,rfl⟩
  exact ⟨rfl,PH.le_refl _⟩
 refine ⟨fun m vs K=>∃k:Nat,k+m=4∧1≤k∧vs=[nI k]∧K=H∧∀j:Nat,1≤j→j < k→¬(-32768≤shrR n (16 * (j - 1))∧shrR n (16 * (j - 1))≤32767),⟨3,1,rfl,by omega,rfl,rfl,fun j h1 h2=>by omega⟩,?_⟩
 rintro m vs K _ ⟨k,hkm,hk1,rfl,rfl,hno⟩
 simp only [List.cons_append,List.nil_append]
 have s0:shrR n 0=n:=by unfold shrR;simp
 have h1:=hno 1 (by omega)
 have h2:=hno 2 (by omega)
 have h3:=hno 3 (by omega)
 simp only [Nat.sub_self,Nat.mul_zero,s0,Nat.reduceSub,Nat.reduceMul] at h1 h2 h3
 refine ⟨fun g=>?_,fun g=>?_⟩
 ·simp only [ev0,ev,evV,List.cons_append,List.nil_append,List.getD_cons_zero,List.getD_cons_succ,List.map_cons,List.map_nil,iOf,bOf,sOf,pOf,slLen,z04,cmpI,arI,Value.ite_bool,z03,z02,z00,z01,zdt] at g
  have e1:IntKind.i64.wrap ((k:Int) - 1)=((k - 1:Nat):Int):=by rw [w64 (by omega) (by omega)];omega
  have e2:IntKind.i64.wrap (16 * ((k - 1:Nat):Int))=((16 * (k - 1):Nat):Int):=by rw [w64 (by omega) (by omega)];omega
  have e3:IntKind.u64.wrap ((16 * (k - 1):Nat):Int)=((16 * (k - 1):Nat):Int):=wu64 (by omega) (by omega)
  have e4:=zr5 n (16 * (k - 1)) (by omega)
  simp only [arI] at e4
  refine ⟨fun g2=>?_,fun g2=>?_⟩
  ·simp only [ev0,ev,evV,List.cons_append,List.nil_append,List.getD_cons_zero,List.getD_cons_succ,List.map_cons,List.map_nil,iOf,bOf,sOf,pOf,slLen,z04,cmpI,arI,Value.ite_bool,z03,z02,z00,z01,e1,e2,e3,e4] at g2
   simp only [zba,zdt] at g2
   refine ⟨_,z1i (by decide) |>.trans z05,?_,rfl⟩
   have:z2m n=k:=by
    unfold z2m
    obtain rfl | rfl | rfl:k=1∨k=2∨k=3:=by omega
    ·simp only [Nat.sub_self,Nat.mul_zero,s0] at g2
     rw [if_pos (by omega)]
    ·simp only [Nat.reduceSub,Nat.reduceMul] at g2
     rw [if_neg (h1 (by omega)),if_pos (by omega)]
    ·simp only [Nat.reduceSub,Nat.reduceMul] at g2
     rw [if_neg (h1 (by omega)),if_neg (h2 (by omega)),if_pos (by omega)]
   rw [this];rfl
  ·simp only [ev0,ev,evV,List.cons_append,List.nil_append,List.getD_cons_zero,List.getD_cons_succ,List.map_cons,List.map_nil,iOf,bOf,sOf,pOf,slLen,z04,cmpI,arI,Value.ite_bool,z03,z02,z00,z01,e1,e2,e3,e4] at g2
   simp only [Bool.and_eq_false_iff,zdf] at g2
   have e5:IntKind.i64.wrap ((k:Int)+1)=((k+1:Nat):Int):=by rw [w64 (by omega) (by omega)];rfl
   refine ⟨_,z05,m - 1,by omega,k+1,by omega,by omega,by simp only [ev0,ev,evV,List.cons_append,List.nil_append,List.getD_cons_zero,List.getD_cons_succ,List.map_cons,List.map_nil,iOf,bOf,sOf,pOf,slLen,z04,cmpI,arI,Value.ite_bool,z03,z02,z00,z01,e5],rfl,fun j h1 h2=>?_⟩
   rcases Nat.lt_succ_iff_lt_or_eq.1 h2 with h2 | rfl
   ·exact hno j h1 h2
   ·omega
 ·simp only [ev0,ev,evV,List.cons_append,List.nil_append,List.getD_cons_zero,List.getD_cons_succ,List.map_cons,List.map_nil,iOf,bOf,sOf,pOf,slLen,z04,cmpI,arI,Value.ite_bool,z03,z02,z00,z01,zdf] at g
  have hk:k=4:=by omega
  subst hk
  refine ⟨_,z1i (by decide) |>.trans z05,?_,rfl⟩
  have:z2m n=4:=by
   unfold z2m
   rw [if_neg (h1 (by omega)),if_neg (h2 (by omega)),if_neg (h3 (by omega))]
  rw [this];rfl
theorem z7j:ElemOk Tryz.prog 118 5 40=true:=by kernel_rfl
theorem Z4d (n:Int):arI .and .i64 n 65535=n % 65536:=zcj n 16 (by omega)
theorem Z6r (n:Int):IntKind.i64.wrap n % 65536=n % 65536:=by
 obtain ⟨k,h⟩:=zrf n
 rw [h];omega
theorem csIns {S:PH} {x:InsR} (h:InI5 x) {v:Value} (hv:v.cells.toList=insV x):CsR S x v.cells.toList:=by rw [hv];exact insR_iff.2 ⟨rfl,h⟩
theorem zn9 (r n:Int):∀k,(restR r n k).length=k
 | 0=>rfl
 | k+1=>by simp only [restR,zlc,zn9 r n k]
def topR (r n:Int) (k:Nat):InsR:=⟨20,r,0,0,(shrR n (16 * (k - 1))+32768) % 65536 - 32768⟩
theorem zkp (r n:Int) (k:Nat) (hk:1≤k∧k≤4) (hr:InI r) (S:PH):Tri Tryz.prog zdr #[.int .i64 r,.int .i64 n,.int .i64 (k:Int)] S fun e K'=>∃v,e=.returned v∧SlR K' (numR r n k) v∧PH.le S K':=by
 refine zb4 [.int .i64 r,.int .i64 n,.int .i64 (k:Int)] (by kernel_rfl) (by kernel_rfl) ?_
 have h0:Held S S []:=Held.nil (PH.le_refl _)
 have z0:InI 0:=by decide
 have hi:∀m:Int,0≤m % 65536∧m % 65536 < 65536:=fun m=>by omega
 have ht:=hi (shrR n (16 * (k - 1))+32768)
 have hin:InI5 (topR r n k):=⟨by unfold topR InI;simp,hr,z0,z0,by unfold topR InI;simp only [];omega⟩
 have e1:IntKind.i64.wrap ((k:Int) - 1)=((k - 1:Nat):Int):=by rw [w64 (by omega) (by omega)];omega
 have e2:IntKind.i64.wrap (16 * ((k - 1:Nat):Int))=((16 * (k - 1):Nat):Int):=by rw [w64 (by omega) (by omega)];omega
 have e3:IntKind.u64.wrap ((16 * (k - 1):Nat):Int)=((16 * (k - 1):Nat):Int):=wu64 (by omega) (by omega)
 have e6:IntKind.i64.wrap ((shrR n (16 * (k - 1))+32768) % 65536 - 32768)=(shrR n (16 * (k - 1))+32768) % 65536 - 32768:=w64 (by omega) (by omega)
 have eraw:arI .sub .i64 (arI .and .i64 (arI .add .i64 (arI .shr .i64 n (IntKind.u64.wrap (arI .mul .i64 16 (arI .sub .i64 (k:Int) 1)))) 32768) 65535) 32768=(shrR n (16 * (k - 1))+32768) % 65536 - 32768:=by
  rw [show arI .sub .i64 (k:Int) 1=((k - 1:Nat):Int) from e1,show arI .mul .i64 16 ((k - 1:Nat):Int)=((16 * (k - 1):Nat):Int) from e2,e3,zr5 n _ (by omega),Z4d,show arI .add .i64 (shrR n (16 * (k - 1))) 32768=IntKind.i64.wrap (shrR n (16 * (k - 1))+32768) from rfl,Z6r]
  exact e6
 refine z0x (α:=InsR) (l:=[topR r n k]) (b:=40) [.agg (insV ⟨20,r,0,0,arI .sub .i64 (arI .and .i64 (arI .add .i64 (arI .shr .i64 n (IntKind.u64.wrap (arI .mul .i64 16 (arI .sub .i64 (k:Int) 1)))) 32768) 65535) 32768⟩).toArray] z9j z7j rfl (by decide) (by decide) h0 (by kernel_rfl) (.cons (csIns hin (by rw [eraw];rfl)) .nil) z06 fun v1 K1 h1 l1 _=>?_
 simp only [List.cons_append,List.nil_append]
 refine ⟨fun m vs K2=>∃(u:Value) (S2:PH) (done:List InsR),vs=[u,.int .i64 ((m:Int) - 1)]∧m≤3∧done.length≤5∧PH.le S S2∧Held S2 K2 [orow 118 done u]∧done++restR r n m=numR r n k,⟨k - 1,v1,S,[topR r n k],by simp only [ev0,ev,evV,List.cons_append,List.nil_append,List.getD_cons_zero,List.getD_cons_succ,List.map_cons,List.map_nil,iOf,bOf,sOf,pOf,slLen,z04,cmpI,arI,Value.ite_bool,z03,z02,z00,z01,e1];congr 3;rw [w64 (by omega) (by omega)];omega,by omega,by simp,PH.le_refl _,h1,rfl⟩,?_⟩
 rintro m vs K2 _ ⟨u,S2,done,rfl,hm,hd,l2,h2,hdone⟩
 simp only [List.cons_append,List.nil_append]
 refine ⟨fun g=>?_,fun g=>?_⟩
 ·simp only [ev0,ev,evV,List.cons_append,List.nil_append,List.getD_cons_zero,List.getD_cons_succ,List.map_cons,List.map_nil,iOf,bOf,sOf,pOf,slLen,z04,cmpI,arI,Value.ite_bool,z03,z02,z00,z01,zdt] at g
  obtain ⟨j,rfl⟩:∃j,m=j+1:=⟨m - 1,by omega⟩
  obtain ⟨x,hx⟩:∃x:InsR,x=⟨21,r,0,0,shrR n (16 * j) % 65536⟩:=⟨_,rfl⟩
  have hxi:InI5 x:=by
   have:=hi (shrR n (16 * j))
   rw [hx]
   exact ⟨(by decide:InI 21),hr,z0,z0,by unfold InI;simp only [];omega⟩
  have f0:((j+1:Nat):Int) - 1=(j:Int):=by omega
  have f1:IntKind.i64.wrap (16 * (j:Int))=((16 * j:Nat):Int):=by rw [w64 (by omega) (by omega)];omega
  have f3:IntKind.u64.wrap ((16 * j:Nat):Int)=((16 * j:Nat):Int):=wu64 (by omega) (by omega)
  have fraw:arI .and .i64 (arI .shr .i64 n (IntKind.u64.wrap (arI .mul .i64 16 (((j+1:Nat):Int) - 1)))) 65535=shrR n (16 * j) % 65536:=by
   rw [f0,show arI .mul .i64 16 (j:Int)=((16 * j:Nat):Int) from f1,f3,zr5 n _ (by omega),Z4d]
  refine z1o (b:=40) (more:=[x]) [.agg (insV ⟨21,r,0,0,arI .and .i64 (arI .shr .i64 n (IntKind.u64.wrap (arI .mul .i64 16 (((j+1:Nat):Int) - 1)))) 65535⟩).toArray] z9j z7j rfl (by decide) (by decide) h2 (by kernel_rfl) (.cons (csIns hxi (by rw [fraw,hx];rfl)) .nil) z06 (fun w=>by kernel_rfl) (fun w=>by kernel_rfl)
   (by simp only [maxLen,List.length_singleton];omega) (by simp only [List.length_singleton];omega) fun w v6 S6 K6 l6 h6=>⟨z06,?_⟩
  have hlen:(done++[x]).length≤5:=by
   have:=congrArg List.length hdone
   simp only [zla,zn9,numR,zlc] at this
   simp only [zla,List.length_singleton];omega
  refine ⟨_,z05,j,by omega,v6,S6,done++[x],?_,by omega,hlen,PH.le_trans l2 l6,h6,?_⟩
  ·have:IntKind.i64.wrap ((j:Int) - 1)=(j:Int) - 1:=w64 (by omega) (by omega)
   simp only [ev0,ev,evV,List.cons_append,List.nil_append,List.getD_cons_zero,List.getD_cons_succ,List.map_cons,List.map_nil,iOf,bOf,sOf,pOf,slLen,z04,cmpI,arI,Value.ite_bool,z03,z02,z00,z01,f0,this]
  ·rw [←hdone,List.append_assoc,hx];rfl
 ·simp only [ev0,ev,evV,List.cons_append,List.nil_append,List.getD_cons_zero,List.getD_cons_succ,List.map_cons,List.map_nil,iOf,bOf,sOf,pOf,slLen,z04,cmpI,arI,Value.ite_bool,z03,z02,z00,z01,zdf] at g
  have hm0:m=0:=by omega
  subst hm0
  obtain ⟨S',s1,s2,s3⟩:=h2.freeze
  simp only [restR,List.append_nil] at hdone
  rw [hdone] at s1
  exact ⟨u,rfl,s1.le s3.sh,PH.le_trans l2 (PH.le_trans s2 s3.sh)⟩
theorem Z82 {op:Int} (h:24≤op∧op≤27):[25,24,27,26][(op - 24).toNat]?=some (zaa op):=by
 obtain rfl | rfl | rfl | rfl:op=24∨op=25∨op=26∨op=27:=by omega
 all_goals rfl
theorem Z66 {op:Int}:InI (zaa op):=by unfold zaa;exact z2g (by decide) (z2g (by decide) (z2g (by decide) (by decide)))
theorem Z8o {x:ItemR} (h:mayR x=true) (hk:x.kind=2):24≤x.x.op∧x.x.op≤27:=by
 unfold mayR at h
 rw [if_neg (by omega),if_neg (by omega),if_pos hk] at h
 simp only [zba,zdt] at h
 omega
theorem zws (x:ItemR) (long:Bool) (at_ to:Int) (S:PH) (hx:InI8 x) (hm:mayR x=true) (ha:0≤at_∧at_≤1099511627776) (ht:0≤to∧to≤1099511627776) :
  Tri Tryz.prog zdw #[.agg (itemV x).toArray,.bool long,.int .i64 at_,.int .i64 to] S fun e K'=>∃v,e=.returned v∧SlR K' (z45 x long at_ to) v∧PH.le S K':=by
 refine zbt (itemV x++[.bool long,.int .i64 at_,.int .i64 to]) (by kernel_rfl) (by kernel_rfl) ?_
 have h0:Held S S []:=Held.nil (PH.le_refl _)
 have z0:InI 0:=by decide
 have w1:IntKind.i64.wrap (to - at_)=to - at_:=w64 (by omega) (by omega)
 have w2:IntKind.i64.wrap (to - at_ - 1)=to - at_ - 1:=w64 (by omega) (by omega)
 refine Z7q (l:=[25,24,27,26]) (b:=8) [.int .i64 25,.int .i64 24,.int .i64 27,.int .i64 26] z0y z0v rfl (by decide) (by decide) (by kernel_rfl) (.cons (z0o (by decide)) (.cons (z0o (by decide)) (.cons (z0o (by decide)) (.cons (z0o (by decide)) .nil)))) z06 fun v H1 a l1 _=>?_
 have hs:=a.slR
 obtain ⟨ob,oc,rfl⟩:=hs.sl
 have hH:Held S H1 []:=Held.nil l1
 simp only [List.cons_append,List.nil_append]
 have fin:∀{l:List InsR} {u:Value} {K:PH},Held S K [orow 118 l u]→∃v,Ending.returned u=.returned v∧SlR K l v∧PH.le S K:=fun h=>by
  obtain ⟨S',s1,s2,s3⟩:=h.freeze
  exact ⟨_,rfl,s1.le s3.sh,PH.le_trans s2 s3.sh⟩
 generalize hR:z45 x long at_ to=R
 unfold z45 at hR
 refine ⟨fun g=>?_,fun g=>?_⟩
 ·simp only [ev0,ev,evV,List.cons_append,List.nil_append,List.getD_cons_zero,List.getD_cons_succ,List.map_cons,List.map_nil,iOf,bOf,sOf,pOf,slLen,z04,cmpI,arI,Value.ite_bool,z03,z02,z00,z01,zdt] at g
  rw [if_pos g] at hR
  subst hR
  refine z0x (α:=InsR) (l:=[x.x]) (b:=40) [.agg (insV x.x).toArray] z9j z7j rfl (by decide) (by decide) hH (by kernel_rfl) (.cons (csIns hx.x rfl) .nil) z06 fun v1 K1 h1 _ _=>?_
  exact fin h1
 simp only [ev0,ev,evV,List.cons_append,List.nil_append,List.getD_cons_zero,List.getD_cons_succ,List.map_cons,List.map_nil,iOf,bOf,sOf,pOf,slLen,z04,cmpI,arI,Value.ite_bool,z03,z02,z00,z01,zdf] at g
 rw [if_neg g] at hR
 refine ⟨fun g=>?_,fun g=>?_⟩
 ·simp only [ev0,ev,evV,List.cons_append,List.nil_append,List.getD_cons_zero,List.getD_cons_succ,List.map_cons,List.map_nil,iOf,bOf,sOf,pOf,slLen,z04,cmpI,arI,Value.ite_bool,z03,z02,z00,z01,zdt] at g
  rw [if_pos g] at hR
  have hop:=Z8o hm g
  have w3:IntKind.i64.wrap (x.x.op - 24)=x.x.op - 24:=w64 (by omega) (by omega)
  refine ⟨fun g2=>?_,fun g2=>?_⟩
  ·simp only [ev0,ev,evV,List.cons_append,List.nil_append,List.getD_cons_zero,List.getD_cons_succ,List.map_cons,List.map_nil,iOf,bOf,sOf,pOf,slLen,z04,cmpI,arI,Value.ite_bool,z03,z02,z00,z01] at g2
   rw [if_pos g2] at hR
   subst hR
   obtain ⟨y1,_,ycs,y2,y3⟩:=hs.get (Z82 hop)
   obtain ⟨rfl,_⟩:=csIK y2
   have hj:(((x.x.op - 24).toNat:Nat):Int)=x.x.op - 24:=Int.toNat_of_nonneg (by omega)
   rw [hj] at y3
   refine ⟨fun _=>?_,[.int .i64 (zaa x.x.op)],rfl,by simp only [ev0,ev,evV,List.cons_append,List.nil_append,List.getD_cons_zero,List.getD_cons_succ,List.map_cons,List.map_nil,iOf,bOf,sOf,pOf,slLen,z04,cmpI,arI,Value.ite_bool,z03,z02,z00,z01,w3];exact y3,?_⟩
   ·simp only [Chk.holds,ev0,ev,evV,List.cons_append,List.nil_append,List.getD_cons_zero,List.getD_cons_succ,List.map_cons,List.map_nil,iOf,bOf,sOf,pOf,slLen,z04,cmpI,arI,Value.ite_bool,z03,z02,z00,z01,w3];exact ⟨y1,by omega,by simp;omega⟩
   simp only [List.cons_append,List.nil_append]
   refine z0x (α:=InsR) (l:=[⟨zaa x.x.op,x.x.a,x.x.b,0,2⟩,⟨28,0,0,0,to - at_ - 1⟩]) (b:=40) [.agg (insV ⟨zaa x.x.op,x.x.a,x.x.b,0,2⟩).toArray,.agg (insV ⟨28,0,0,0,arI .sub .i64 (arI .sub .i64 to at_) 1⟩).toArray] z9j z7j rfl (by decide) (by decide) hH (by kernel_rfl) (.cons (csIns (x:=⟨zaa x.x.op,x.x.a,x.x.b,0,2⟩) ⟨Z66,hx.x.a,hx.x.b,z0,(by decide:InI 2)⟩ rfl) (.cons (csIns (x:=⟨28,0,0,0,to - at_ - 1⟩) ⟨(by decide:InI 28),z0,z0,z0,by unfold InI;simp only [];omega⟩ (by rw [show arI .sub .i64 to at_=to - at_ from w1,show arI .sub .i64 (to - at_) 1=to - at_ - 1 from w2];rfl)) .nil)) z06 fun v1 K1 h1 _ _=>?_
   exact fin h1
  ·simp only [ev0,ev,evV,List.cons_append,List.nil_append,List.getD_cons_zero,List.getD_cons_succ,List.map_cons,List.map_nil,iOf,bOf,sOf,pOf,slLen,z04,cmpI,arI,Value.ite_bool,z03,z02,z00,z01] at g2
   rw [if_neg (by rw [g2];exact Bool.false_ne_true)] at hR
   subst hR
   refine z0x (α:=InsR) (l:=[⟨x.x.op,x.x.a,x.x.b,0,to - at_⟩]) (b:=40) [.agg (insV ⟨x.x.op,x.x.a,x.x.b,0,arI .sub .i64 to at_⟩).toArray] z9j z7j rfl (by decide) (by decide) hH (by kernel_rfl) (.cons (csIns (x:=⟨x.x.op,x.x.a,x.x.b,0,to - at_⟩) ⟨hx.x.op,hx.x.a,hx.x.b,z0,by unfold InI;simp only [];omega⟩ (by rw [show arI .sub .i64 to at_=to - at_ from w1];rfl)) .nil) z06 fun v1 K1 h1 _ _=>?_
   exact fin h1
 simp only [ev0,ev,evV,List.cons_append,List.nil_append,List.getD_cons_zero,List.getD_cons_succ,List.map_cons,List.map_nil,iOf,bOf,sOf,pOf,slLen,z04,cmpI,arI,Value.ite_bool,z03,z02,z00,z01,zdf] at g
 rw [if_neg g] at hR
 refine ⟨fun g=>?_,fun g=>?_⟩
 ·simp only [ev0,ev,evV,List.cons_append,List.nil_append,List.getD_cons_zero,List.getD_cons_succ,List.map_cons,List.map_nil,iOf,bOf,sOf,pOf,slLen,z04,cmpI,arI,Value.ite_bool,z03,z02,z00,z01,zdt] at g
  rw [if_pos g] at hR
  subst hR
  refine z0x (α:=InsR) (l:=[⟨28,x.x.a,0,0,to - at_⟩]) (b:=40) [.agg (insV ⟨28,x.x.a,0,0,arI .sub .i64 to at_⟩).toArray] z9j z7j rfl (by decide) (by decide) hH (by kernel_rfl) (.cons (csIns (x:=⟨28,x.x.a,0,0,to - at_⟩) ⟨(by decide:InI 28),hx.x.a,z0,z0,by unfold InI;simp only [];omega⟩ (by rw [show arI .sub .i64 to at_=to - at_ from w1];rfl)) .nil) z06 fun v1 K1 h1 _ _=>?_
  exact fin h1
 simp only [ev0,ev,evV,List.cons_append,List.nil_append,List.getD_cons_zero,List.getD_cons_succ,List.map_cons,List.map_nil,iOf,bOf,sOf,pOf,slLen,z04,cmpI,arI,Value.ite_bool,z03,z02,z00,z01,zdf] at g
 rw [if_neg g] at hR
 refine ⟨fun g=>?_,fun g=>?_⟩
 ·simp only [ev0,ev,evV,List.cons_append,List.nil_append,List.getD_cons_zero,List.getD_cons_succ,List.map_cons,List.map_nil,iOf,bOf,sOf,pOf,slLen,z04,cmpI,arI,Value.ite_bool,z03,z02,z00,z01,zdt] at g
  rw [if_pos g] at hR
  subst hR
  refine z0b [.int .i64 (z2m x.n:Int)] z5j (zgg x.n H1) rfl z06 fun K2 l2=>?_
  simp only [List.cons_append,List.nil_append]
  refine z0a z5d (zkp x.x.a x.n (z2m x.n) (zkk x.n) hx.x.a K2) ?_
  rintro e K3 ⟨v3,rfl,h3,l3⟩
  obtain ⟨nb,nc,rfl⟩:=h3.sl
  refine ⟨_,[.slice nb (numR x.x.a x.n (z2m x.n)).length nc],rfl,rfl,rfl,z06,?_⟩
  exact ⟨_,rfl,h3,PH.le_trans l1 (PH.le_trans l2 l3)⟩
 simp only [ev0,ev,evV,List.cons_append,List.nil_append,List.getD_cons_zero,List.getD_cons_succ,List.map_cons,List.map_nil,iOf,bOf,sOf,pOf,slLen,z04,cmpI,arI,Value.ite_bool,z03,z02,z00,z01,zdf] at g
 rw [if_neg g] at hR
 refine ⟨fun g=>?_,fun g=>?_⟩
 ·simp only [ev0,ev,evV,List.cons_append,List.nil_append,List.getD_cons_zero,List.getD_cons_succ,List.map_cons,List.map_nil,iOf,bOf,sOf,pOf,slLen,z04,cmpI,arI,Value.ite_bool,z03,z02,z00,z01,zdt] at g
  rw [if_pos g] at hR
  subst hR
  refine z0a z5d (zkp x.x.a to 2 (by omega) hx.x.a H1) ?_
  rintro e K3 ⟨v3,rfl,h3,l3⟩
  obtain ⟨nb,nc,rfl⟩:=h3.sl
  refine ⟨_,[.slice nb (numR x.x.a to 2).length nc],rfl,rfl,rfl,z06,?_⟩
  exact ⟨_,rfl,h3,PH.le_trans l1 l3⟩
 simp only [ev0,ev,evV,List.cons_append,List.nil_append,List.getD_cons_zero,List.getD_cons_succ,List.map_cons,List.map_nil,iOf,bOf,sOf,pOf,slLen,z04,cmpI,arI,Value.ite_bool,z03,z02,z00,z01,zdf] at g
 rw [if_neg g] at hR
 subst hR
 exact ⟨.slice none 0 0,rfl,SlR.mk_iff.2 ⟨by simp [maxLen],.inl ⟨rfl,rfl⟩⟩,l1⟩
end Go.Proofs.YtfkclejklgoccaaGreat.Vc
