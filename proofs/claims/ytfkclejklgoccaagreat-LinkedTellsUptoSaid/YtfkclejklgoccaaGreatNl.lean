import Derived.Test.YtfkclejklgoccaaGreatNk
import Derived.Lib.ItoaNum
import Derived.Lib.LaidTab
set_option linter.unusedSimpArgs false
set_option linter.unusedVariables false
set_option maxRecDepth 100000
namespace Go.Proofs.YtfkclejklgoccaaGreat.Vc
open Go
theorem zth:∀(k u:Nat),u < 10 ^ (k+1)→Lib.nDigits u≤k+1
 | 0,u,h=>by rw [Lib.nDigits_small (by simpa using h)];omega
 | k+1,u,h=>by
  by_cases h1:u < 10
  ·rw [Lib.nDigits_small h1];omega
  ·rw [Lib.nDigits_big h1]
   have:=zth k (u / 10) (by rw [Nat.pow_succ] at h;omega)
   omega
theorem zqz (n:Nat) (h:n≤9223372036854775808):(Lib.decDigits n).length≤20:=by
 rw [Lib.decDigits_length]
 exact zth 19 n (by omega)
def z3j (n:Int):UInt8:=UInt8.ofNat (n % 256).toNat
mutual
def Dat.txtL (bare:Bool):Dat→List UInt8
 | .mk k n t l=>if k=0 then (if n=0 then [35,102] else [35,116]) else if k=1 then Lib.itoa n else if k=2 then (if bare then [z3j n] else charL (z3j n)) else if k=3 then (if bare then t else zup t) else if k=4 then t
   else (if k=7 then [35,40] else [40])++Dats.txtL bare (decide (k=6)) true l++[41]
def Dats.txtL (bare dotted:Bool):Bool→List Dat→List UInt8
 | _,[]=>[]
 | first,d::l=>(if first then [] else [32])++(if dotted && l.isEmpty then [46,32] else [])++Dat.txtL bare d++Dats.txtL bare dotted false l
end
theorem Z9i (n:Int):IntKind.u8.wrap n=((z3j n).toNat:Int):=by
 have h:(n % 256).toNat < 256:=by omega
 rw [z3j,UInt8.toNat_ofNat_of_lt' h]
 simp only [IntKind.wrap,IntKind.bits,IntKind.signed];simp;omega
theorem Zag (c:UInt8):(charL c).length≤9:=by
 unfold charL;split
 ·simp
 split
 ·simp
 split
 ·simp
 ·simp [twoL]
theorem Zba (n:Int) (h:InI n):(Lib.itoa n).length≤21:=by
 obtain ⟨a,b⟩:=h
 unfold Lib.itoa;split
 ·have:=zqz n.natAbs (by omega);simp only [zlc];omega
 ·have:=zqz n.toNat (by omega);omega
theorem Z38 (l:List UInt8):(zup l).length≤4 * l.length+2:=by
 have:=Z6l l
 simp only [zup,zla,zlc,zln];omega
mutual
theorem Dat.chk_len (bare:Bool):∀(d:Dat) (deep seen:Nat),seen≤4096→(d.chk deep seen).2=0→seen < (d.chk deep seen).1∧(d.txtL bare).length+3≤16500 * ((d.chk deep seen).1 - seen)
 | .mk k n t l,deep,seen,hs,h=>by
  simp only [Dat.chk] at h ⊢
  split at h
  ·simp at h
  rename_i h0
  rw [if_neg h0]
  split at h
  ·simp at h
  rename_i h1
  rw [if_neg h1]
  split at h
  ·simp at h
  rename_i h2
  rw [if_neg h2]
  have hf:z3v (.mk k n t l)=true:=by simpa using h2
  have ih:=Dats.chk_len bare (decide (k=6)) true l (deep+1) (seen+1) (by omega) h
  refine ⟨by omega,?_⟩
  have hch:=Zag (z3j n)
  have hqu:=Z38 t
  have hit:k=1→(Lib.itoa n).length≤21:=fun hk=>Zba n (by
   subst hk
   simp only [z3v,Dat.kind,Dat.int,Dat.text,Dat.list] at hf
   simp at hf
   obtain ⟨⟨_,h5⟩,h6⟩:=hf
   have h5:=of_decide_eq_true h5
   have h6:=of_decide_eq_true h6
   exact ⟨by omega,by omega⟩)
  have ht3:k=3→t.length≤4096:=fun hk=>by
   subst hk
   simp only [z3v,Dat.kind,Dat.int,Dat.text,Dat.list] at hf
   simp at hf;exact of_decide_eq_true hf.2
  have ht4:k=4→t.length≤64:=fun hk=>by
   subst hk
   simp only [z3v,Dat.kind,Dat.int,Dat.text,Dat.list,z6r] at hf
   simp at hf;exact of_decide_eq_true hf.2.1.1.2
  simp only [Dat.txtL]
  split
  ·split<;>simp<;>omega
  split
  ·rename_i hk;have:=hit hk;omega
  split
  ·split
   ·simp;omega
   ·omega
  split
  ·rename_i hk;have:=ht3 hk
   split<;>omega
  split
  ·rename_i hk;have:=ht4 hk;omega
  ·simp only [zla,zlc,zln]
   split<;>simp only [zlc,zln]<;>omega
theorem Dats.chk_len (bare dotted:Bool):∀(first:Bool) (l:List Dat) (deep seen:Nat),seen≤4096→(Dats.chk l deep seen).2=0→seen≤(Dats.chk l deep seen).1∧(Dats.txtL bare dotted first l).length≤16500 * ((Dats.chk l deep seen).1 - seen)
 | _,[],_,_,_,_=>by simp [Dats.chk,Dats.txtL]
 | first,d::l,deep,seen,hs,h=>by
  simp only [Dats.chk] at h ⊢
  split at h
  ·rename_i hx;exact absurd h hx
  rename_i hx
  rw [if_neg hx]
  have i1:=Dat.chk_len bare d deep seen hs (by simpa using hx)
  have hle:=Dat.chk_le d deep seen hs
  have i2:=Dats.chk_len bare dotted false l deep (d.chk deep seen).1 hle h
  refine ⟨by omega,?_⟩
  simp only [Dats.txtL,zla]
  have e1:(if first=true then [] else [32]:List UInt8).length≤1:=by split<;>simp
  have e2:(if (dotted && l.isEmpty)=true then [46,32] else []:List UInt8).length≤2:=by split<;>simp
  omega
end
theorem Z85 (n:Int):Value.int .u8 (IntKind.u8.wrap n)=.int .u8 ((z3j n).toNat:Int):=by rw [Z9i]
def Tab (H : PH) : Prop := ∃ g e f, Tryz.prog.globalNamed "internal/strconv.uint64pow10" = some g ∧ H g = some (.cells (Lib.pow10Tab.map fun z => Value.int .u64 z).toArray e f)
theorem Tab.le {H H':PH} (h:Tab H) (hl:PH.le H H'):Tab H':=by
 obtain ⟨g,e,f,h1,h2⟩:=h;exact ⟨g,e,f,h1,hl _ _ h2⟩
theorem Tab.is {H : PH} {w : World} (h : Tab H) (hv : Vis H w) : Lib.TabIs Tryz.prog w "internal/strconv.uint64pow10" .u64 Lib.pow10Tab := by
 obtain ⟨g,e,f,h1,h2⟩:=h
 unfold Lib.TabIs World.var?
 rw [h1]
 simp only [Option.bind_some,hv _ _ h2]
theorem zin:ElemOk Tryz.prog 5 1 1=true:=by kernel_rfl
theorem zx2 {H H':PH}:∀{l:List UInt8} {xs:List Value},PV.RepRow H (l.flatMap pv) xs→PV.RepRow H' (l.flatMap pv) xs
 | [],xs,h=>by simp only [List.flatMap_nil,PV.RepRow] at h ⊢;exact h
 | c::l,xs,h=>by
  rw [List.flatMap_cons] at h ⊢
  have h':PV.RepRow H (.int .u8 (c.toNat:Int)::l.flatMap pv) xs:=h
  show PV.RepRow H' (.int .u8 (c.toNat:Int)::l.flatMap pv) xs
  simp only [PV.RepRow,PV.Rep] at h' ⊢
  obtain ⟨v,vs,rfl,h1,h2⟩:=h'
  exact ⟨v,vs,rfl,h1,zx2 h2⟩
structure WSv (H0 H:PH) (w:Nat) (T:TypeId) (out:List UInt8) (bare:Bool) (bv:Value):Prop where
 at_:H w=some (.cells #[bv,.bool bare] T (0,0))
 acc:Acc H0 H 5 out bv
 own:ob bv≠some w
 base:H0 w=none
def WS (H0 H:PH) (w:Nat) (T:TypeId) (out:List UInt8) (bare:Bool):Prop:=∃bv,WSv H0 H w T out bare bv
section
variable {H0 H:PH} {w:Nat} {T:TypeId} {out:List UInt8} {bare:Bool} {bv:Value}
theorem WSv.row (h:WSv H0 H w T out bare bv):rowAt H ((some ⟨w,0,none⟩:Option Addr).map (·.add 0)) [bv]:=⟨_,rfl,fun i v hi=>by
 show H.cell? ((Addr.add ⟨w,0,none⟩ 0).add i)=_
 rw [Addr.add_plain,Addr.add_plain,PH.cell_at h.at_]
 cases i with
 | zero=>simpa using hi
 | succ i=>simp at hi⟩
theorem WSv.tag (h:WSv H0 H w T out bare bv):z0c [.sl] [bv]=true:=by
 obtain ⟨b,c,rfl⟩:=h.acc.sl;rfl
theorem WSv.mono {H':PH} (h:WSv H0 H w T out bare bv) (hl:PH.le H H'):WSv H0 H' w T out bare bv:=⟨hl _ _ h.at_,h.acc.mono hl,h.own,h.base⟩
theorem WSv.store {H':PH} {v':Value} {out':List UInt8} (h:WSv H0 H w T out bare bv) (ha:Acc H0 H' 5 out' v') (hw:Went H H' bv v'):WS H0 (H'.upd w (.cells #[v',.bool bare] T (0,0))) w T out' bare:=by
 have hne:ob v'≠some w:=fun e=>(hw.fresh w e).elim h.own fun hn=>by rw [h.at_] at hn;cases hn
 refine ⟨v',PH.upd_same,⟨?_,?_⟩,hne,h.base⟩
 ·intro k o hk
  have hkw:k≠w:=fun e=>by rw [e,h.base] at hk;cases hk
  have:=ha.le k o hk
  unfold delV at this ⊢
  cases hv':ob v' with
  | none=>rw [hv'] at this;show (H'.upd w _) k=_;rw [PH.upd_other hkw];exact this
  | some g=>
   rw [hv'] at this
   show ((H'.upd w _).del g) k=_
   have this':(H'.del g) k=some o:=this
   unfold PH.del at this' ⊢
   split at this'
   ·cases this'
   ·rename_i e;rw [if_neg e,PH.upd_other hkw];exact this'
 ·obtain ⟨xs,h1,h2⟩:=ha.own
  exact ⟨xs,h1.le fun k hk=>PH.upd_other fun e=>hne (by rw [hk,e]),zx2 h2⟩
variable {X:List PanicEntry→PH→Prop} {β:Type} {E:List Value} {L:LK} {K:β→List Value→PH→LK→Prop}
end
def Dat.Good (d:Dat):Prop:=∃deep seen,seen≤4096∧(d.chk deep seen).2=0
theorem Dats.good:∀(l:List Dat) (deep seen:Nat),seen≤4096→(Dats.chk l deep seen).2=0→∀e∈l,e.Good
 | [],_,_,_,_,e,he=>by cases he
 | d::l,deep,seen,hs,h,e,he=>by
  simp only [Dats.chk] at h
  split at h
  ·rename_i hx;exact absurd h hx
  rename_i hx
  have hx:(d.chk deep seen).2=0:=by simpa using hx
  rcases zmc.1 he with rfl | he
  ·exact ⟨deep,seen,hs,hx⟩
  ·exact Dats.good l deep _ (Dat.chk_le d deep seen hs) h e he
theorem Dat.Good.form {d:Dat} (h:d.Good):z3v d=true:=by
 obtain ⟨deep,seen,hs,h⟩:=h
 rw [Dat.chk_eq] at h
 split at h
 ·simp at h
 split at h
 ·simp at h
 split at h
 ·simp at h
 ·rename_i hx;simpa using hx
theorem Dat.Good.kids {d:Dat} (h:d.Good):∀e∈d.list,e.Good:=by
 obtain ⟨deep,seen,hs,h⟩:=h
 rw [Dat.chk_eq] at h
 split at h
 ·simp at h
 split at h
 ·simp at h
 split at h
 ·simp at h
 ·exact Dats.good d.list _ _ (by omega) h
theorem Dat.Good.len {d:Dat} (h:d.Good) (bare:Bool):(d.txtL bare).length≤67600000:=by
 obtain ⟨deep,seen,hs,h⟩:=h
 have h1:=Dat.chk_len bare d deep seen hs h
 have h2:=Dat.chk_le d deep seen hs
 omega
theorem WS.le {H0 H:PH} {w:Nat} {T:TypeId} {out:List UInt8} {bare:Bool} (h:WS H0 H w T out bare):PH.le H0 H:=by
 obtain ⟨bv,h⟩:=h;exact h.acc.all
def pre:List UInt8→List UInt8→Bool
 | [],_=>true
 | _::_,[]=>false
 | a::l,b::m=>a == b && pre l m
theorem uDats:Tryz.prog.underlying 30=some (.slice 32):=by kernel_rfl
theorem z4e:ElemOk Tryz.prog 32 4 56=true:=by kernel_rfl
instance decInI (n:Int):Decidable (InI n):=inferInstanceAs (Decidable (_∧_))
theorem z3f {H:PH} {k n:Int} {t:List UInt8} (hk:InI k) (hn:InI n) (ht:t.length≤maxLen):Dat.Rep H (.mk k n t []) [.int .i64 k,.int .i64 n,txt t,.slice none 0 0]:=
 Dat.Rep_iff.2 ⟨_,rfl,hk,hn,ht,SlR.mk_iff.2 ⟨Nat.zero_le _,.inl ⟨rfl,rfl⟩⟩⟩
end Go.Proofs.YtfkclejklgoccaaGreat.Vc
namespace Go.Proofs.YtfkclejklgoccaaGreat.Vc
open Go Go.ChangeShapes Go.WideShapes Go.ChangeAt Go.RowKit
mutual
def Dat.wt:Dat→Nat
 | .mk _ _ t l=>t.length+5+Dats.wt l
def Dats.wt:List Dat→Nat
 | []=>0
 | d::l=>Dat.wt d+Dats.wt l
end
theorem uInt:Tryz.prog.underlying 3=some (.int .i64):=by kernel_rfl
theorem cInt:Tryz.prog.cellsOf 3=1:=by kernel_rfl
theorem cStr:Tryz.prog.cellsOf 9=1:=by kernel_rfl
theorem Z3i:laidOutB Tryz.prog=true:=by kernel_rfl
theorem zyn:mapsRowed Tryz.prog=true:=by kernel_rfl
theorem Zbg:Kids Tryz.prog (· < Tryz.prog.types.size):=kids_rows Z3i zyn
theorem Zbx:∀t e,t < Tryz.prog.types.size→Tryz.prog.underlying t=some (.slice e)→0 < Tryz.prog.cellsOf e:=slices_full_of Tryz.prog (by kernel_rfl)
def Dat.Mono (d:Dat):Prop:=∀(deep seen deep' seen':Nat),deep≤32→deep'≤deep→seen'≤seen→seen≤4096→(d.chk deep seen).2=0→(d.chk deep' seen').2=0∧(d.chk deep' seen').1+seen=(d.chk deep seen).1+seen'
theorem Dats.mono:∀(l:List Dat),(∀e∈l,e.Mono)→∀(deep seen deep' seen':Nat),deep≤32→deep'≤deep→seen'≤seen→seen≤4096→(Dats.chk l deep seen).2=0→(Dats.chk l deep' seen').2=0∧(Dats.chk l deep' seen').1+seen=(Dats.chk l deep seen).1+seen'
 | [],_,deep,seen,deep',seen',_,_,_,_,_=>by simp only [Dats.chk];exact ⟨trivial,by omega⟩
 | d::l,hl,deep,seen,deep',seen',h1,h2,h3,h4,h=>by
  simp only [Dats.chk] at h ⊢
  split at h
  ·rename_i hx;exact absurd h hx
  rename_i hx
  have hx:(d.chk deep seen).2=0:=by simpa using hx
  obtain ⟨g1,g2⟩:=hl d (zms) deep seen deep' seen' h1 h2 h3 h4 hx
  have g3:=Dats.mono l (fun e he=>hl e (zmm _ he)) deep (d.chk deep seen).1 deep' (d.chk deep' seen').1 h1 h2 (by omega) (Dat.chk_le d deep seen h4) h
  rw [if_neg (by simp [g1]),if_neg (by simp [hx])]
  exact ⟨g3.1,by omega⟩
theorem Dat.mono:∀d:Dat,d.Mono:=by
 refine Dat.ind ?_
 intro d ih deep seen deep' seen' h1 h2 h3 h4 h
 rw [Dat.chk_eq] at h
 rw [Dat.chk_eq d deep' seen',Dat.chk_eq d deep seen]
 split at h
 ·simp at h
 rename_i h0
 split at h
 ·simp at h
 rename_i h5
 split at h
 ·simp at h
 rename_i h6
 have hn:z3k d.kind=true→deep < 32:=fun x=>by
  rcases Nat.lt_or_ge deep 32 with y | y
  ·exact y
  ·exact absurd ⟨x,by omega⟩ h5
 rw [if_neg h0,if_neg h5,if_neg h6,if_neg (show ¬seen'=4096 by omega),if_neg (fun x=>by have:=hn x.1;omega),if_neg h6]
 by_cases hl:d.list=[]
 ·rw [hl];simp only [Dats.chk];exact ⟨trivial,by omega⟩
 ·have hn':=hn (zke (by simpa using h6) hl)
  have g:=Dats.mono d.list ih (deep+1) (seen+1) (deep'+1) (seen'+1) (by omega) (by omega) (by omega) (by omega) h
  exact ⟨g.1,by omega⟩
noncomputable instance decDat:DecidableEq Dat:=fun a b=>Classical.propDecidable (a=b)
noncomputable instance decDats:DecidableEq (List Dat):=fun a b=>Classical.propDecidable (a=b)
theorem Dat.eq_iff {a b:Dat}:a=b↔a.kind=b.kind∧a.int=b.int∧a.text=b.text∧a.list=b.list:=by
 cases a;cases b;simp [Dat.kind,Dat.int,Dat.text,Dat.list]
theorem Z6a {P:Program} {X:List PanicEntry→PH→Prop} {α:Type} {E:List Value} {H:PH} {L:LK} {K:α→List Value→PH→LK→Prop} {i f:Nat} {args:List VE} {rs:RS} {pend:List (SV×List SV)} {k:Fm α} (vs:List Value) (hi:E.getD i (.bool false)=.func (.func f) #[] #[]) (hok:callB P f=true)
  (hc:Gives P f (args.map (evV E fun _=>0)) H (rs.pack vs)) (ht:z0c rs.tags vs=true) (hp:z0o E H pend) (hk:∀H',PH.le H H'→den P X k (E++vs) H' L K):den P X (.call (.atom i) args rs pend k) E H L K:=by
 refine ⟨f,#[],#[],hi,zf3 hok,?_⟩
 have e:(#[]:Array Value)++(args.map (evV E fun _=>0)).toArray++#[]=(args.map (evV E fun _=>0)).toArray:=by simp
 rw [e]
 exact Tri.mono hc fun e H' ⟨he,hl⟩=>by subst he;exact ⟨vs,ht,rfl,z2e hp hl,hk H' hl⟩
theorem zn0 {l m:List Dat} {k:Nat} {a b:Dat} (h:l.take k=m.take k) (ha:l[k]?=some a) (hb:m[k]?=some b) (hab:a=b):l.take (k+1)=m.take (k+1):=by
 rw [List.take_add_one,List.take_add_one,h,ha,hb,hab]
def Z1i (f:FuncId) (a:Dat):Prop:=∀(b:Dat) (ca cb:List Value) (H:PH),a.Rep H ca→b.Rep H cb→Gives Tryz.prog f [.agg ca.toArray,.agg cb.toArray] H (.bool (decide (a=b)))
theorem zs1 (l m:List Dat) (va vb:Value) (H:PH) (hl:SlR H l va) (hm:SlR H m vb) (ih:∀e∈l,Z1i z95 e) :
  Gives Tryz.prog z26 [va,vb,.func (.func z95) #[] #[]] H (.bool (decide (l=m))):=by
 obtain ⟨b1,c1,rfl⟩:=hl.sl
 obtain ⟨b2,c2,rfl⟩:=hm.sl
 have m1:=hl.max
 have m2:=hm.max
 simp only [maxLen] at m1 m2
 refine z20 [.slice b1 l.length c1,.slice b2 m.length c2,.func (.func z95) #[] #[]] (by kernel_rfl) (by kernel_rfl) ?_
 refine ⟨fun h=>?_,fun h=>?_⟩
 ·simp only [evs,evb,zdt] at h
  refine ⟨?_,PH.le_refl H⟩
  have:¬l=m:=fun e=>h (by rw [e])
  simp only [evs,evb,decide_eq_false this]
 simp only [evs,evb,zdf,ne_eq,Decidable.not_not] at h
 have hlen:l.length=m.length:=by omega
 refine ⟨fun n vs H'=>∃k:Nat,vs=[.bool false,.int .i64 k]∧k+n=l.length∧l.take k=m.take k∧PH.le H H',⟨l.length,0,rfl,by omega,by simp,PH.le_refl H⟩,?_⟩
 rintro n vs H' _ ⟨k,rfl,hkn,htk,hle⟩
 refine ⟨fun h5=>?_,fun h5=>?_⟩
 ·simp only [evs,evb,zdt] at h5
  obtain ⟨e,he⟩:∃e,l[k]?=some e:=⟨_,zge (show k < l.length by omega)⟩
  obtain ⟨e',he'⟩:∃e,m[k]?=some e:=⟨_,zge (show k < m.length by omega)⟩
  obtain ⟨g1,ces,g2,g3,_,_⟩:=SlRep.get (hl.le hle) he
  obtain ⟨g1',ces',g2',g3',_,_⟩:=SlRep.get (hm.le hle) he'
  have htags:=g2.tags
  have htags':=g2'.tags
  have hcall:=ih e (zmg he) e' ces ces' H' g2 g2'
  obtain ⟨sve,rfl,_⟩:=Dat.Rep_iff.1 g2
  obtain ⟨sve',rfl,_⟩:=Dat.Rep_iff.1 g2'
  refine ⟨fun _=>?_,_,htags,by simp only [evs,evb];exact g3,fun _=>?_,_,htags',by simp only [evs,evb];exact g3',?_⟩
  ·simp only [Chk.holds,evs,evb];exact ⟨g1,by omega,by omega⟩
  ·simp only [Chk.holds,evs,evb];exact ⟨g1',by omega,by omega⟩
  refine Z6a [.bool (decide (e=e'))] rfl zjy hcall rfl z01 fun H2 h2=>⟨fun h6=>?_,fun h6=>?_⟩
  ·simp only [evs,evb,Bool.not_eq_true',zdf] at h6
   refine ⟨?_,PH.le_trans hle h2⟩
   have:¬l=m:=fun x=>h6 (by subst x;rw [he] at he';exact Option.some.inj he')
   simp only [evs,evb,decide_eq_false this]
  ·simp only [evs,evb,Bool.not_eq_false',zdt] at h6
   refine ⟨_,z00,n - 1,by omega,k+1,?_,by omega,zn0 htk he he' h6,PH.le_trans hle h2⟩
   simp only [evs,evb]
   rw [w64 (by omega) (by omega)]
   rfl
 ·simp only [evs,evb,zdf] at h5
  refine ⟨?_,hle⟩
  have:l=m:=by rw [ztl (by omega),ztl (by omega)] at htk;exact htk
  simp only [evs,evb,decide_eq_true this]
theorem Z30:∀a,Z1i z95 a:=by
 refine Dat.ind ?_
 intro a ih b ca cb H ha hb
 obtain ⟨s1,rfl,_,_,_,hs1⟩:=Dat.Rep_iff.1 ha
 obtain ⟨s2,rfl,_,_,_,hs2⟩:=Dat.Rep_iff.1 hb
 have hcall:=zs1 a.list b.list s1 s2 H hs1 hs2 ih
 obtain ⟨b1,c1,rfl⟩:=hs1.sl
 obtain ⟨b2,c2,rfl⟩:=hs2.sl
 refine zvg [.int .i64 a.kind,.int .i64 a.int,txt a.text,.slice b1 a.list.length c1,.int .i64 b.kind,.int .i64 b.int,txt b.text,.slice b2 b.list.length c2] (by kernel_rfl) (by kernel_rfl) ?_
 refine ⟨fun vs H'=>vs=[.bool (decide (a=b))]∧PH.le H H',?_,?_⟩
 ·rintro vs H' _ ⟨rfl,h⟩;exact ⟨rfl,h⟩
 refine ⟨fun h=>?_,fun h=>?_⟩
 ·simp only [evs,evb,z1h] at h
  simp only [zba,zdt] at h
  refine z05 [.bool (decide (a.list=b.list))] z21 hcall rfl z01 fun H2 h2=>⟨_,z00,?_,h2⟩
  have:(a=b)↔a.list=b.list:=by rw [Dat.eq_iff];simp [h.1.1,h.1.2,h.2]
  simp only [evs,evb,decide_eq_decide.2 this]
 ·simp only [evs,evb,z1h] at h
  refine ⟨_,z00,?_,PH.le_refl H⟩
  have:¬a=b:=fun e=>by subst e;simp at h
  simp only [evs,evb,decide_eq_false this]
theorem zrj:∀a,Z1i zhb a:=by
 refine Dat.ind ?_
 intro a ih b ca cb H ha hb
 obtain ⟨s1,rfl,_,_,_,hl⟩:=Dat.Rep_iff.1 ha
 obtain ⟨s2,rfl,_,_,_,hm⟩:=Dat.Rep_iff.1 hb
 obtain ⟨b1,c1,rfl⟩:=hl.sl
 obtain ⟨b2,c2,rfl⟩:=hm.sl
 have m1:=hl.max
 have m2:=hm.max
 simp only [maxLen] at m1 m2
 refine zel [.int .i64 a.kind,.int .i64 a.int,txt a.text,.slice b1 a.list.length c1,.int .i64 b.kind,.int .i64 b.int,txt b.text,.slice b2 b.list.length c2] (by kernel_rfl) (by kernel_rfl) ?_
 refine ⟨fun h=>?_,fun h=>?_⟩
 ·simp only [evs,evb,z2j] at h
  refine ⟨?_,PH.le_refl H⟩
  have:¬a=b:=fun e=>by subst e;simp at h
  simp only [evs,evb,decide_eq_false this]
 simp only [evs,evb,z2j] at h
 simp only [zof,zdf,ne_eq,Decidable.not_not] at h
 obtain ⟨⟨⟨h1,h2⟩,h3⟩,h4⟩:=h
 have heq:(a=b)↔a.list=b.list:=by rw [Dat.eq_iff];simp [h1,h2,h3]
 have hlen:a.list.length=b.list.length:=by omega
 refine ⟨fun n vs H'=>∃k:Nat,vs=[.bool false,.int .i64 k]∧k+n=a.list.length∧a.list.take k=b.list.take k∧PH.le H H',⟨a.list.length,0,rfl,by omega,by simp,PH.le_refl H⟩,?_⟩
 rintro n vs H' _ ⟨k,rfl,hkn,htk,hle⟩
 refine ⟨fun h5=>?_,fun h5=>?_⟩
 ·simp only [evs,evb,zdt] at h5
  obtain ⟨e,he⟩:∃e,a.list[k]?=some e:=⟨_,zge (show k < a.list.length by omega)⟩
  obtain ⟨e',he'⟩:∃e,b.list[k]?=some e:=⟨_,zge (show k < b.list.length by omega)⟩
  obtain ⟨g1,ces,g2,g3,_,_⟩:=SlRep.get (hl.le hle) he
  obtain ⟨g1',ces',g2',g3',_,_⟩:=SlRep.get (hm.le hle) he'
  have htags:=g2.tags
  have htags':=g2'.tags
  have hcall:=ih e (zmg he) e' ces ces' H' g2 g2'
  obtain ⟨sve,rfl,_⟩:=Dat.Rep_iff.1 g2
  obtain ⟨sve',rfl,_⟩:=Dat.Rep_iff.1 g2'
  refine ⟨fun _=>?_,_,htags,by simp only [evs,evb];exact g3,fun _=>?_,_,htags',by simp only [evs,evb];exact g3',?_⟩
  ·simp only [Chk.holds,evs,evb];exact ⟨g1,by omega,by omega⟩
  ·simp only [Chk.holds,evs,evb];exact ⟨g1',by omega,by omega⟩
  refine z05 [.bool (decide (e=e'))] z48 hcall rfl z01 fun H2 h2=>⟨fun h6=>?_,fun h6=>?_⟩
  ·simp only [evs,evb,Bool.not_eq_true',zdf] at h6
   refine ⟨?_,PH.le_trans hle h2⟩
   have:¬a=b:=fun x=>h6 (by subst x;rw [he] at he';exact Option.some.inj he')
   simp only [evs,evb,decide_eq_false this]
  ·simp only [evs,evb,Bool.not_eq_false',zdt] at h6
   refine ⟨_,z00,n - 1,by omega,k+1,?_,by omega,zn0 htk he he' h6,PH.le_trans hle h2⟩
   simp only [evs,evb]
   rw [w64 (by omega) (by omega)]
   rfl
 ·simp only [evs,evb,zdf] at h5
  refine ⟨?_,hle⟩
  have:a=b:=heq.2 (by rw [ztl (by omega),ztl (by omega)] at htk;exact htk)
  simp only [evs,evb,decide_eq_true this]
mutual
def Dat.cnt:Dat→Nat
 | .mk _ _ _ l=>1+Dats.cnt l
def Dats.cnt:List Dat→Nat
 | []=>0
 | d::l=>Dat.cnt d+Dats.cnt l
end
theorem Dat.cnt_eq (d:Dat):d.cnt=1+Dats.cnt d.list:=by cases d;simp only [Dat.cnt,Dat.list]
theorem Dats.cnt_le:∀l:List Dat,l.length≤Dats.cnt l
 | []=>by simp
 | d::l=>by
  have:=Dats.cnt_le l
  have h:=Dat.cnt_eq d
  simp only [Dats.cnt,zlc];omega
theorem Dats.cnt_append:∀l m:List Dat,Dats.cnt (l++m)=Dats.cnt l+Dats.cnt m
 | [],m=>by simp [Dats.cnt]
 | d::l,m=>by simp only [List.cons_append,Dats.cnt,Dats.cnt_append l m];omega
theorem Dats.cnt_mem:∀{l:List Dat} {d:Dat},d∈l→d.cnt≤Dats.cnt l
 | [],d,h=>by cases h
 | e::l,d,h=>by
  simp only [Dats.cnt]
  rcases zmc.1 h with rfl | h
  ·omega
  ·have:=Dats.cnt_mem h;omega
def Z21 (f:FuncId) (args:List Value) (H:PH) (d:Dat):Prop:=Tri Tryz.prog f args.toArray H fun e H'=>∃cs,e=.returned (.agg cs.toArray)∧PH.le H H'∧d.Rep H' cs
def Z7z (d:Dat):Prop:=∀(cs:List Value) (H:PH),d.Rep H cs→d.cnt≤100000→Z21 zxe [.agg cs.toArray] H d
theorem Z56 (l:List Dat) (ih:∀e∈l,Z7z e) (v:Value) (H:PH) (hs:SlR H l v) (hc:Dats.cnt l≤100000):Tri Tryz.prog zt8 #[v] H fun e H'=>∃v',e=.returned v'∧Acc H H' 32 l v':=by
 obtain ⟨b,c,rfl⟩:=hs.sl
 have hll:=Dats.cnt_le l
 refine Z09 [.slice b l.length c] (by kernel_rfl) (by kernel_rfl) ?_
 refine ⟨fun m vs H'=>∃(k:Nat) (out:Value),vs=[out,.int .i64 k]∧k+m=l.length∧Acc H H' 32 (l.take k) out,⟨l.length,0,.slice none 0 0,rfl,by omega,by rw [List.take_zero];exact Acc.nil H 32⟩,?_⟩
 rintro m vs H' _ ⟨k,out,rfl,hkm,hacc⟩
 refine ⟨fun h5=>?_,fun h5=>?_⟩
 ·simp only [evs,evb,zdt] at h5
  obtain ⟨e,he⟩:∃e,l[k]?=some e:=⟨_,zge (show k < l.length by omega)⟩
  obtain ⟨g1,ces,g2,g3,_,_⟩:=SlRep.get (hs.le hacc.le) he
  have htags:=g2.tags
  have hec:=Dats.cnt_mem (zmg he)
  have hcall:=hacc.call (fun e K h=>by obtain ⟨cs,_,h,_⟩:=h;exact h) (ih e (zmg he) ces _ g2 (by omega))
  obtain ⟨sve,rfl,_⟩:=Dat.Rep_iff.1 g2
  refine ⟨fun _=>?_,_,htags,by simp only [evs,evb];exact z0u (zi5 _ _) g3,?_⟩
  ·simp only [Chk.holds,evs,evb];exact ⟨g1,by omega,by omega⟩
  refine z04 za3 hcall ?_
  rintro x H2 ⟨⟨cs,rfl,h1,h2⟩,hacc2,h3⟩
  have ht2:=h2.tags
  have h2':=h2
  obtain ⟨sv2,rfl,_⟩:=Dat.Rep_iff.1 h2
  refine ⟨_,_,rfl,ht2,rfl,z01,?_⟩
  refine zq3 (more:=[e]) (b:=56) [.agg #[.int .i64 e.kind,.int .i64 e.int,txt e.text,sv2]] uDats z4e rfl (by decide) (by decide) rfl (.cons h2' .nil) z01 hacc2 (fun _=>rfl) (fun _=>rfl)
   (by simp only [maxLen,List.length_take,zlc,zln];omega) (by simp only [List.length_take,zlc,zln];omega) fun u v' H3 h4 h5=>⟨z01,_,z00,m - 1,by omega,k+1,v',?_,by omega,?_⟩
  ·simp only [evs,evb]
   rw [w64 (by omega) (by omega)]
   rfl
  ·rw [List.take_add_one,he];exact h4
 ·simp only [evs,evb,zdf] at h5
  have:k=l.length:=by omega
  subst this
  rw [List.take_length] at hacc
  exact ⟨out,rfl,hacc⟩
theorem zjf:∀d,Z7z d:=by
 refine Dat.ind ?_
 intro d ih cs H hd hc
 obtain ⟨sv,rfl,g1,g2,g3,hs⟩:=Dat.Rep_iff.1 hd
 rw [Dat.cnt_eq] at hc
 have hcall:=Z56 d.list ih sv H hs (by omega)
 obtain ⟨b,c,rfl⟩:=hs.sl
 refine zrx [.int .i64 d.kind,.int .i64 d.int,txt d.text,.slice b d.list.length c] (by kernel_rfl) (by kernel_rfl) ?_
 refine z04 zam hcall ?_
 rintro x H2 ⟨v',rfl,hacc⟩
 obtain ⟨b2,c2,hv⟩:=hacc.sl
 refine ⟨_,[v'],rfl,by rw [hv];rfl,rfl,z01,[.int .i64 d.kind,.int .i64 d.int,txt d.text,v'],rfl,hacc.all,Dat.Rep_iff.2 ⟨_,rfl,g1,g2,g3,hacc.slR⟩⟩
theorem zzh (l:List Dat) (v:Value) (H:PH) (hs:SlR H l v) (hc:Dats.cnt l≤100000):Tri Tryz.prog zt8 #[v] H fun e H'=>∃v',e=.returned v'∧Acc H H' 32 l v':=Z56 l (fun e _=>zjf e) v H hs hc
def makeD (l:List Dat) (d:Dat):Dat:=if l.length=0 then d else if d.kind=5∨d.kind=6 then .mk d.kind 0 [] (l++d.list) else .mk 6 0 [] (l++[d])
theorem or_if (p q:Prop) [Decidable p] [Decidable q]:(if decide p=true then true else decide q)=decide (p∨q):=by by_cases hp:p<;>simp [hp]
theorem Z46 (l:List Dat) (d:Dat) (v:Value) (cs:List Value) (H:PH) (hl:SlR H l v) (hd:d.Rep H cs) (hc1:Dats.cnt l≤100000) (hc2:d.cnt≤100000):Z21 Z2s [v,.agg cs.toArray] H (makeD l d):=by
 have hll:=Dats.cnt_le l
 have hdl:=Dats.cnt_le d.list
 have hcd:=Dat.cnt_eq d
 have hd':=hd
 obtain ⟨sv,rfl,g1,g2,g3,hs⟩:=Dat.Rep_iff.1 hd
 have c1:=zjf d _ H hd' hc2
 have c2:=zzh l v H hl hc1
 obtain ⟨b0,c0,rfl⟩:=hl.sl
 obtain ⟨b,c,rfl⟩:=hs.sl
 refine zxi [.slice b0 l.length c0,.int .i64 d.kind,.int .i64 d.int,txt d.text,.slice b d.list.length c] (by kernel_rfl) (by kernel_rfl) ?_
 refine ⟨fun h=>?_,fun h=>?_⟩
 ·simp only [evs,evb,zdt] at h
  rw [makeD,if_pos (by omega)]
  refine z04 za3 c1 ?_
  rintro x H2 ⟨cs,rfl,h1,h2⟩
  have ht2:=h2.tags
  have h2':=h2
  obtain ⟨sv2,rfl,_⟩:=Dat.Rep_iff.1 h2
  exact ⟨_,_,rfl,ht2,rfl,z01,_,rfl,h1,h2'⟩
 simp only [evs,evb,zdf] at h
 refine ⟨fun h2=>?_,fun h2=>?_⟩
 ·simp only [evs,znd,or_if] at h2
  rw [zdt] at h2
  rw [makeD,if_neg (by omega),if_pos h2]
  refine z04 zam c2 ?_
  rintro x H2 ⟨v5,rfl,a5⟩
  obtain ⟨b5,c5,e5⟩:=a5.sl
  have c3:=a5.call (fun e K h=>by obtain ⟨v',_,h⟩:=h;exact h.all) (zzh d.list _ _ (hs.le a5.le) (by omega))
  refine ⟨_,[v5],rfl,by rw [e5];rfl,rfl,z01,?_⟩
  refine z04 zam c3 ?_
  rintro x H3 ⟨⟨v6,rfl,a6⟩,a53,l3⟩
  obtain ⟨b6,c6,e6⟩:=a6.sl
  refine ⟨_,[v6],rfl,by rw [e6];rfl,rfl,z01,?_⟩
  refine zce (b:=56) uDats z4e rfl rfl a53 a6.slR (by simp only [maxLen];omega) (by omega) fun v' H4 a7 w7=>⟨z01,[.int .i64 d.kind,.int .i64 0,txt [],v'],rfl,a7.all,?_⟩
  exact Dat.Rep_iff.2 ⟨_,rfl,g1,(by decide:InI 0),Nat.zero_le _,a7.slR⟩
 ·simp only [evs,znd,or_if] at h2
  rw [zdf] at h2
  rw [makeD,if_neg (by omega),if_neg h2]
  refine z04 zam c2 ?_
  rintro x H2 ⟨v5,rfl,a5⟩
  obtain ⟨b5,c5,e5⟩:=a5.sl
  have c3:=a5.call (fun e K h=>by obtain ⟨cs,_,h,_⟩:=h;exact h) (zjf d _ _ (Dat.Rep.le a5.le d hd') hc2)
  refine ⟨_,[v5],rfl,by rw [e5];rfl,rfl,z01,?_⟩
  refine z04 za3 c3 ?_
  rintro x H3 ⟨⟨cs,rfl,l2,r2⟩,a53,l3⟩
  have ht2:=r2.tags
  have r2':=r2
  obtain ⟨sv2,rfl,_⟩:=Dat.Rep_iff.1 r2
  refine ⟨_,_,rfl,ht2,rfl,z01,?_⟩
  refine zq3 (more:=[d]) (b:=56) [.agg #[.int .i64 d.kind,.int .i64 d.int,txt d.text,sv2]] uDats z4e rfl (by decide) (by decide) rfl (.cons r2' .nil) z01 a53 (fun _=>rfl) (fun _=>rfl)
   (by simp only [maxLen,zlc,zln];omega) (by simp only [zlc,zln];omega) fun u v' H4 a7 w7=>⟨z01,[.int .i64 6,.int .i64 0,txt [],v'],rfl,a7.all,?_⟩
  exact Dat.Rep_iff.2 ⟨_,rfl,(by decide:InI 6),(by decide:InI 0),Nat.zero_le _,a7.slR⟩
theorem Z3k (l:List Dat) (d:Dat) (v:Value) (cs:List Value) (H:PH) (hl:SlR H l v) (hd:d.Rep H cs) (hc1:Dats.cnt l≤100000) (hc2:d.cnt≤100000):Z21 zht [v,.agg cs.toArray] H (makeD l d):=by
 have hll:=Dats.cnt_le l
 have hdl:=Dats.cnt_le d.list
 have hcd:=Dat.cnt_eq d
 have hd':=hd
 obtain ⟨sv,rfl,g1,g2,g3,hs⟩:=Dat.Rep_iff.1 hd
 obtain ⟨b0,c0,rfl⟩:=hl.sl
 obtain ⟨b,c,rfl⟩:=hs.sl
 refine zex [.slice b0 l.length c0,.int .i64 d.kind,.int .i64 d.int,txt d.text,.slice b d.list.length c] (by kernel_rfl) (by kernel_rfl) ?_
 refine ⟨fun h=>?_,fun h=>?_⟩
 ·simp only [evs,evb,zdt] at h
  rw [makeD,if_pos (by omega)]
  exact ⟨_,rfl,PH.le_refl H,hd'⟩
 simp only [evs,evb,zdf] at h
 refine zql (α:=Dat) (b:=56) uDats z4e fun v5 H2 a5 l5=>?_
 refine zce (b:=56) uDats z4e rfl rfl a5 (hl.le a5.le) (by simp only [maxLen,zln];omega) (by simp only [zln];omega) fun v6 H3 a6 w6=>⟨z01,?_⟩
 rw [List.nil_append] at a6
 refine ⟨fun h2=>?_,fun h2=>?_⟩
 ·simp only [evs,znd,or_if] at h2
  rw [zdt] at h2
  rw [makeD,if_neg (by omega),if_pos h2]
  refine zce (b:=56) uDats z4e rfl rfl a6 (hs.le a6.le) (by simp only [maxLen];omega) (by omega) fun v' H4 a7 w7=>⟨z01,[.int .i64 d.kind,.int .i64 0,txt [],v'],rfl,a7.all,?_⟩
  exact Dat.Rep_iff.2 ⟨_,rfl,g1,(by decide:InI 0),Nat.zero_le _,a7.slR⟩
 ·simp only [evs,znd,or_if] at h2
  rw [zdf] at h2
  rw [makeD,if_neg (by omega),if_neg h2]
  refine zq3 (more:=[d]) (b:=56) [.agg #[.int .i64 d.kind,.int .i64 d.int,txt d.text,.slice b d.list.length c]] uDats z4e rfl (by decide) (by decide) rfl (.cons (Dat.Rep.le a6.le d hd') .nil) z01 a6 (fun _=>rfl) (fun _=>rfl)
   (by simp only [maxLen,zlc,zln];omega) (by simp only [zlc,zln];omega) fun u v' H4 a7 w7=>⟨z01,[.int .i64 6,.int .i64 0,txt [],v'],rfl,a7.all,?_⟩
  exact Dat.Rep_iff.2 ⟨_,rfl,(by decide:InI 6),(by decide:InI 0),Nat.zero_le _,a7.slR⟩
theorem repI_iff {H:PH} {n:Int} {v:Value}:PV.Rep H (.int .i64 n) v↔v=.int .i64 n∧InI n:=by
 simp only [PV.Rep];exact ⟨fun h=>⟨h.1,inI64.1 h.2⟩,fun h=>⟨h.1,inI64.2 h.2⟩⟩
theorem za0 {H:PH} {s:List UInt8} {v:Value}:PV.Rep H (.str s) v↔v=txt s∧s.length≤maxLen:=by
 simp only [PV.Rep]
abbrev nI (j:Nat):Value:=.int .i64 (j:Int)
theorem csIK {H:PH} {a:Int} {cs:List Value} (h:CsR H a cs):cs=[.int .i64 a]∧InI a:=by
 have h':PV.RepRow H [.int .i64 a] cs:=h
 simp only [PV.RepRow,repI_iff] at h'
 obtain ⟨v,vs,rfl,⟨rfl,h1⟩,rfl⟩:=h'
 exact ⟨rfl,h1⟩
structure InsR where
 op:Int
 a:Int
 b:Int
 c:Int
 n:Int
deriving DecidableEq
structure ItemR where
 kind:Int
 x:InsR
 label:Int
 n:Int
deriving DecidableEq
structure W32 where
 n:Int
deriving DecidableEq
structure FrmR where
 a:Bool
 b:Bool
 c:Bool
 bits:Nat
 least:Int
 most:Int
deriving DecidableEq
def oneF:FrmR:=⟨true,false,false,0,0,0⟩
def z3u:FrmR:=⟨true,true,true,0,0,0⟩
def withF:FrmR:=⟨true,true,false,16,-32768,32767⟩
def Z8v:FrmR:=⟨true,true,false,16,0,65535⟩
def farF:FrmR:=⟨true,true,false,16,0,63⟩
def znb:FrmR:=⟨true,true,false,10,-512,511⟩
def rowsR:List FrmR:=
  [oneF,z3u,z3u,z3u,z3u,z3u,z3u,z3u,z3u,z3u,z3u,z3u,z3u,z3u,z3u,
   withF,Z8v,Z8v,farF,farF,⟨true,false,false,16,-32768,32767⟩,⟨true,false,false,16,0,65535⟩,withF,withF,
   znb,znb,znb,znb,⟨true,false,false,21,-1048576,1048575⟩,⟨true,true,false,0,0,0⟩,oneF,oneF]
def frmR (op:Int):FrmR:=rowsR.getD op.toNat oneF
def regR (n:Int) (has:Bool):Bool:=if has=true then decide (0≤n) && decide (n≤31) else decide (n=0)
def wordR (x:InsR) (m:Int):Int:=x.op * 67108864+x.a * 2097152+x.b * 65536+x.c * 2048+m
def fitsR (x:InsR):Bool:=regR x.a (frmR x.op).a && regR x.b (frmR x.op).b && regR x.c (frmR x.op).c && decide ((frmR x.op).least≤x.n) && decide (x.n≤(frmR x.op).most)
def encR (x:InsR):Option Int:=
 if x.op < 0∨32≤x.op then none
 else if fitsR x=true then some (wordR x (if x.n < 0 then x.n+2 ^ (frmR x.op).bits else x.n))
 else none
def numOf (f:FrmR) (w:Int):Int:=
 if f.bits=0 then 0
 else if f.most < w % 2 ^ f.bits∧f.least < 0 then w % 2 ^ f.bits - 2 ^ f.bits
 else w % 2 ^ f.bits
def zh8 (w:Int):InsR:=
 ⟨w / 67108864,w / 2097152 % 32,if (frmR (w / 67108864)).b=true then w / 65536 % 32 else 0,if (frmR (w / 67108864)).c=true then w / 2048 % 32 else 0,numOf (frmR (w / 67108864)) w⟩
def decR (w:Int):Option InsR:=
 if 32≤w / 67108864 then none
 else if encR (zh8 w)=some w then some (zh8 w)
 else none
structure MaR where
 value:Int
 steps:Int
 pc:Int
 regs:List Int
 mem:List Int
 input:List UInt8
 out:List UInt8
def MaR.reg (m:MaR) (r:Int):Int:=m.regs.getD r.toNat 0
def MaR.put (m:MaR) (r v:Int) (to:Int):MaR:={ m with regs:=if r=0 then m.regs else m.regs.set r.toNat v,pc:=to,steps:=m.steps+1 }
def MaR.goes (m:MaR) (to:Int):MaR:={ m with pc:=to,steps:=m.steps+1 }
def u64 (n:Int):Int:=IntKind.u64.wrap n
def mulhR (b c:Int):Int:=(b * c).fdiv (2 ^ 64)
def thrR (op b c:Int):Int:=
 if op=1 then arI .add .i64 b c
 else if op=2 then arI .sub .i64 b c
 else if op=3 then arI .mul .i64 b c
 else if op=4 then mulhR b c
 else if op=5 then arI .quo .i64 b c
 else if op=6 then b.tmod c
 else if op=7 then arI .and .i64 b c
 else if op=8 then arI .or .i64 b c
 else if op=9 then arI .xor .i64 b c
 else if op=10 then arI .shl .i64 b (arI .and .i64 c 63)
 else if op=11 then arI .shr .i64 b (arI .and .i64 c 63)
 else if op=12 then IntKind.i64.wrap (arI .shr .u64 (u64 b) (arI .and .i64 c 63))
 else if op=13 then (if b < c then 1 else 0)
 else if u64 b < u64 c then 1 else 0
def zmk (op a b:Int):Bool:=(decide (op=24) && decide (a=b)) || (decide (op=25) && decide (a≠b)) || (decide (op=26) && decide (a < b)) || (decide (op=27) && decide (b≤a))
def stR (m:MaR) (x:InsR):Int×MaR:=
  if x.op=0 then (0,{ m with value:=m.reg x.a,steps:=m.steps+1 })
  else if (x.op=5∨x.op=6)∧m.reg x.c=0 then (4,m)
  else if x.op=15 then (6,m.put x.a (arI .add .i64 (m.reg x.b) x.n) (m.pc+1))
  else if x.op=16 then (6,m.put x.a (arI .and .i64 (m.reg x.b) x.n) (m.pc+1))
  else if x.op=17 then (6,m.put x.a (arI .or .i64 (m.reg x.b) x.n) (m.pc+1))
  else if x.op=18 then (6,m.put x.a (arI .shl .i64 (m.reg x.b) x.n) (m.pc+1))
  else if x.op=19 then (6,m.put x.a (arI .shr .i64 (m.reg x.b) x.n) (m.pc+1))
  else if x.op=20 then (6,m.put x.a x.n (m.pc+1))
  else if x.op=21 then (6,m.put x.a (arI .or .i64 (arI .mul .i64 (m.reg x.a) 65536) x.n) (m.pc+1))
  else if x.op=22∨x.op=23 then
    (if arI .add .i64 (m.reg x.b) x.n < 0∨(m.mem.length:Int)≤arI .add .i64 (m.reg x.b) x.n then (2,m)
     else if x.op=23 then (6,{ m.goes (m.pc+1) with mem:=m.mem.set (arI .add .i64 (m.reg x.b) x.n).toNat (m.reg x.a) })
     else (6,m.put x.a (m.mem.getD (arI .add .i64 (m.reg x.b) x.n).toNat 0) (m.pc+1)))
  else if x.op=24∨x.op=25∨x.op=26∨x.op=27 then (6,m.goes (if zmk x.op (m.reg x.a) (m.reg x.b)=true then m.pc+x.n else m.pc+1))
  else if x.op=28 then (6,m.put x.a (m.pc+1) (m.pc+x.n))
  else if x.op=29 then (6,m.put x.a (m.pc+1) (m.reg x.b))
  else if x.op=30 then (6,{ m.put x.a (match m.input with | []=>-1 | c::_=>(c.toNat:Int)) (m.pc+1) with input:=m.input.drop 1 })
  else if x.op=31 then
    (if m.reg x.a < 0∨255 < m.reg x.a then (5,m) else (6,{ m.goes (m.pc+1) with out:=m.out++[UInt8.ofNat (m.reg x.a).toNat] }))
  else (6,m.put x.a (thrR x.op (m.reg x.b) (m.reg x.c)) (m.pc+1))
def goR (code:List W32):Nat→MaR→Int×MaR
 | 0,m=>(6,m)
 | k+1,m=>
  if m.pc < 0∨(code.length:Int)≤m.pc then (3,m)
  else match decR (code.getD m.pc.toNat ⟨0⟩).n with
   | none=>(1,m)
   | some x=>if (stR m x).1=6 then goR code k (stR m x).2 else stR m x
structure ImgR where
 code:List W32
 mem:List Int
 words:Int
structure HaltR where
 state:Int
 value:Int
 out:List UInt8
 steps:Int
 pc:Int
 regs:List Int
 mem:List Int
def zz7:List Int:=List.replicate 32 0
def z4i (i:ImgR) (input:List UInt8):MaR:=⟨0,0,0,zz7,i.mem++List.replicate (i.words.toNat - i.mem.length) 0,input,[]⟩
def z5l (s:Int×MaR):HaltR:=⟨s.1,s.2.value,s.2.out,s.2.steps,s.2.pc,s.2.regs,s.2.mem⟩
def noImg:HaltR:=⟨7,0,[],0,0,zz7,[]⟩
def zmd (i:ImgR) (steps:Int):Bool:=decide (i.words < 0) || decide (1048576 < i.words) || decide (1048576 < (i.code.length:Int)) || decide (i.words < (i.mem.length:Int)) || decide (steps < 0)
def runR (i:ImgR) (input:List UInt8) (steps:Int):HaltR:=
 if zmd i steps=true then noImg else z5l (goR i.code steps.toNat (z4i i input))
def z1w (x:ItemR):Bool:=decide (x.kind=2) || decide (x.kind=3) || decide (x.kind=5)
def ins0:InsR:=⟨0,0,0,0,0⟩
def mayR (x:ItemR):Bool:=
 if x.kind=0 then (encR x.x).isSome && decide (x.label=0) && decide (x.n=0)
 else if x.kind=1 then decide (x.x=ins0) && decide (x.n=0)
 else if x.kind=2 then (encR x.x).isSome && decide (24≤x.x.op) && decide (x.x.op≤27) && decide (x.x.n=0) && decide (x.n=0)
 else if x.kind=3 then (encR x.x).isSome && decide (x.x.op=28) && decide (x.x.n=0) && decide (x.n=0)
 else if x.kind=4 then (encR x.x).isSome && decide (x.x.op=20) && decide (x.x.n=0) && decide (x.label=0)
 else if x.kind=5 then (encR x.x).isSome && decide (x.x.op=20) && decide (x.x.n=0) && decide (x.n=0)
 else false
def isLab (label:Int) (x:ItemR):Bool:=decide (x.kind=1) && decide (x.label=label)
def findR (l:List ItemR) (label:Int):Option Nat:=l.findIdx? (isLab label)
def shrR (n:Int) (k:Nat):Int:=n.fdiv (2 ^ k)
def z4k (n:Int):Nat:=
 if -32768≤n∧n≤32767 then 1
 else if -32768≤shrR n 16∧shrR n 16≤32767 then 2
 else if -32768≤shrR n 32∧shrR n 32≤32767 then 3
 else 4
def restR (r n:Int):Nat→List InsR
 | 0=>[]
 | k+1=>⟨21,r,0,0,shrR n (16 * k) % 65536⟩::restR r n k
def numR (r n:Int) (k:Nat):List InsR:=⟨20,r,0,0,(shrR n (16 * (k - 1))+32768) % 65536 - 32768⟩::restR r n (k - 1)
def sizeR (x:ItemR) (long:Bool):Nat:=
 if x.kind=1 then 0
 else if x.kind=2 then (if long=true then 2 else 1)
 else if x.kind=4 then z4k x.n
 else if x.kind=5 then 2
 else 1
def z0m:Nat→List ItemR→List Bool→List Nat
 | at_,x::l,b::long=>at_::z0m (at_+sizeR x b) l long
 | at_,_,_=>[at_]
def zb4 (op:Int):Int:=if op=24 then 25 else if op=25 then 24 else if op=26 then 27 else 26
def z7m (x:ItemR) (long:Bool) (at_ to:Int):List InsR:=
 if x.kind=0 then [x.x]
 else if x.kind=2 then (if long=true then [⟨zb4 x.x.op,x.x.a,x.x.b,0,2⟩,⟨28,0,0,0,to - at_ - 1⟩] else [⟨x.x.op,x.x.a,x.x.b,0,to - at_⟩])
 else if x.kind=3 then [⟨28,x.x.a,0,0,to - at_⟩]
 else if x.kind=4 then numR x.x.a x.n (z4k x.n)
 else if x.kind=5 then numR x.x.a to 2
 else []
def toR (l:List ItemR) (p:List Nat) (x:ItemR):Int:=if z1w x=true then ((p.getD ((findR l x.label).getD 0) 0:Nat):Int) else 0
def farR (l:List ItemR) (p:List Nat) (i:Nat) (x:ItemR):Bool:=
 decide (x.kind=2) && (decide (toR l p x - ((p.getD i 0:Nat):Int) < -512) || decide (511 < toR l p x - ((p.getD i 0:Nat):Int)))
def growR (l:List ItemR) (p:List Nat) (long:List Bool):List Bool:=(l.zipIdx.zip long).map fun x=>x.2 || farR l p x.1.2 x.1.1
def layR (l:List ItemR):Nat→List Bool→List Bool
 | 0,long=>long
 | k+1,long=>if growR l (z0m 0 l long) long=long then long else layR l k (growR l (z0m 0 l long) long)
def longR (l:List ItemR):List Bool:=layR l (l.length+1) (l.map fun _=>false)
def z31 (x:InsR):W32:=⟨(encR x).getD 0⟩
def codeR (l:List ItemR) (long:List Bool) (p:List Nat):List W32:=
 (l.zipIdx.zip long).flatMap fun x=>(z7m x.1.1 x.2 ((p.getD x.1.2 0:Nat):Int) (toR l p x.1.1)).map z31
def badR:List ItemR→List ItemR→Nat
 | _,[]=>0
 | seen,x::l=>if mayR x=false then 1 else if x.kind=1∧(findR seen x.label).isSome=true then 2 else badR (seen++[x]) l
inductive AsmE where
 | many | form | twice | none_
deriving DecidableEq
def asmR (l:List ItemR):Except AsmE (List W32×List Nat):=
 if 65536 < l.length then .error .many
 else if badR [] l=1 then .error .form
 else if badR [] l=2 then .error .twice
 else if l.any (fun x=>z1w x && (findR l x.label).isNone)=true then .error .none_
 else .ok (codeR l (longR l) (z0m 0 l (longR l)),(z0m 0 l (longR l)).take l.length)
instance encInsR:Enc InsR:=⟨fun x=>[.int .i64 x.op,.int .i64 x.a,.int .i64 x.b,.int .i64 x.c,.int .i64 x.n],5,fun _=>rfl⟩
instance encItemR:Enc ItemR:=⟨fun x=>[.int .i64 x.kind,.int .i64 x.x.op,.int .i64 x.x.a,.int .i64 x.x.b,.int .i64 x.x.c,.int .i64 x.x.n,.int .i64 x.label,.int .i64 x.n],8,fun _=>rfl⟩
instance encW32:Enc W32:=⟨fun w=>[.int .u32 w.n],1,fun _=>rfl⟩
instance encFrmR:Enc FrmR:=⟨fun f=>[.bool f.a,.bool f.b,.bool f.c,.int .u64 (f.bits:Int),.int .i64 f.least,.int .i64 f.most],6,fun _=>rfl⟩
abbrev insV (x:InsR):List Value:=[.int .i64 x.op,.int .i64 x.a,.int .i64 x.b,.int .i64 x.c,.int .i64 x.n]
abbrev itemV (x:ItemR):List Value:=[.int .i64 x.kind,.int .i64 x.x.op,.int .i64 x.x.a,.int .i64 x.x.b,.int .i64 x.x.c,.int .i64 x.x.n,.int .i64 x.label,.int .i64 x.n]
structure InI5 (x:InsR):Prop where
 op:InI x.op
 a:InI x.a
 b:InI x.b
 c:InI x.c
 n:InI x.n
structure InI8 (i:ItemR):Prop where
 kind:InI i.kind
 x:InI5 i.x
 label:InI i.label
 n:InI i.n
def InU (n:Int):Prop:=0≤n∧n≤4294967295
theorem inU {n:Int}:IntKind.u32.min≤n∧n≤IntKind.u32.max↔InU n:=Iff.rfl
theorem Zc8 {H:PH} {n:Int} {v:Value}:PV.Rep H (.int .u32 n) v↔v=.int .u32 n∧InU n:=by
 simp only [PV.Rep];exact ⟨fun h=>⟨h.1,inU.1 h.2⟩,fun h=>⟨h.1,inU.2 h.2⟩⟩
theorem itemR_iff {H:PH} {x:ItemR} {cs:List Value}:CsR H x cs↔cs=itemV x∧InI8 x:=by
 show PV.RepRow H [.int .i64 x.kind,.int .i64 x.x.op,.int .i64 x.x.a,.int .i64 x.x.b,.int .i64 x.x.c,.int .i64 x.x.n,.int .i64 x.label,.int .i64 x.n] cs↔_
 simp only [PV.RepRow,repI_iff]
 constructor
 ·rintro ⟨_,_,rfl,⟨rfl,h1⟩,_,_,rfl,⟨rfl,h2⟩,_,_,rfl,⟨rfl,h3⟩,_,_,rfl,⟨rfl,h4⟩,_,_,rfl,⟨rfl,h5⟩,_,_,rfl,⟨rfl,h6⟩,_,_,rfl,⟨rfl,h7⟩,_,_,rfl,⟨rfl,h8⟩,rfl⟩
  exact ⟨rfl,h1,⟨h2,h3,h4,h5,h6⟩,h7,h8⟩
 ·rintro ⟨rfl,h1,⟨h2,h3,h4,h5,h6⟩,h7,h8⟩
  exact ⟨_,_,rfl,⟨rfl,h1⟩,_,_,rfl,⟨rfl,h2⟩,_,_,rfl,⟨rfl,h3⟩,_,_,rfl,⟨rfl,h4⟩,_,_,rfl,⟨rfl,h5⟩,_,_,rfl,⟨rfl,h6⟩,_,_,rfl,⟨rfl,h7⟩,_,_,rfl,⟨rfl,h8⟩,rfl⟩
theorem w32_iff {H:PH} {w:W32} {cs:List Value}:CsR H w cs↔cs=[.int .u32 w.n]∧InU w.n:=by
 show PV.RepRow H [.int .u32 w.n] cs↔_
 simp only [PV.RepRow,Zc8]
 constructor
 ·rintro ⟨_,_,rfl,⟨rfl,h1⟩,rfl⟩;exact ⟨rfl,h1⟩
 ·rintro ⟨rfl,h1⟩;exact ⟨_,_,rfl,⟨rfl,h1⟩,rfl⟩
structure FrmOk (f:FrmR):Prop where
 bits:f.bits=0∨f.bits=10∨f.bits=16∨f.bits=21
 least:-1048576≤f.least∧f.least≤0
 most:0≤f.most∧f.most≤1048575
 lo:f.bits=0→f.least=0∧f.most=0
 fit:f.bits≠0→f.most < 2 ^ f.bits∧- 2 ^ f.bits≤f.least
instance (f:FrmR):Decidable (FrmOk f):=
 if h:(f.bits=0∨f.bits=10∨f.bits=16∨f.bits=21)∧(-1048576≤f.least∧f.least≤0)∧(0≤f.most∧f.most≤1048575)∧(f.bits=0→f.least=0∧f.most=0)∧(f.bits≠0→f.most < 2 ^ f.bits∧- 2 ^ f.bits≤f.least) then .isTrue ⟨h.1,h.2.1,h.2.2.1,h.2.2.2.1,h.2.2.2.2⟩
 else .isFalse fun k=>h ⟨k.bits,k.least,k.most,k.lo,k.fit⟩
theorem Zdf:∀f∈rowsR,FrmOk f:=by decide +kernel
theorem Z0m (op:Int):FrmOk (frmR op):=by
 unfold frmR
 rw [zgd]
 cases h:rowsR[op.toNat]? with
 | none=>exact (by decide +kernel:FrmOk oneF)
 | some f=>exact Zdf f (zmg h)
def encE:Option Int→Int
 | some _=>0
 | none=>200
abbrev encV (o:Option Int):Value:=.tuple #[.int .u32 (o.getD 0),.int .i64 (encE o)]
theorem wu32 {n:Int} (h0:0≤n) (h1:n≤4294967295):IntKind.u32.wrap n=n:=by
 simp only [IntKind.wrap,IntKind.bits,IntKind.signed];simp;omega
theorem wu64 {n:Int} (h0:0≤n) (h1:n≤18446744073709551615):IntKind.u64.wrap n=n:=by
 simp only [IntKind.wrap,IntKind.bits,IntKind.signed];simp;omega
theorem zid {n:Int} {b:Bool} (h:regR n b=true):0≤n∧n≤31:=by
 unfold regR at h
 split at h
 ·simpa using h
 ·have:n=0:=by simpa using h
  omega
abbrev decV (o:Option InsR):Value:=.tuple #[.agg (insV (o.getD ins0)).toArray,.bool o.isSome]
theorem Z0a (w:Int) (o:Option Int):(encE o)≠0∨(o.getD 0)≠w↔¬o=some w:=by
 cases o with
 | none=>simp [encE]
 | some v=>simp [encE]
theorem Z9c (n:Int):arI .and .i64 n 63=n % 64:=zdm n 6 (by omega)
theorem zle (n:Int):arI .shr .u64 n 32=n / 4294967296:=by
 show n.fdiv (2 ^ (min (32:Int).toNat 64))=_
 rw [Int.fdiv_eq_ediv_of_nonneg _ (Int.pow_nonneg (by decide))];rfl
theorem zwp {a b A B:Int} (ha:-A≤a∧a≤A) (hb:0≤b∧b≤B):-(A * B)≤a * b∧a * b≤A * B:=by
 have hA:0≤A:=by omega
 have h1:A * b≤A * B:=Int.mul_le_mul_of_nonneg_left hb.2 hA
 have h2:a * b≤A * b:=Int.mul_le_mul_of_nonneg_right ha.2 hb.1
 have h3:-A * b≤a * b:=Int.mul_le_mul_of_nonneg_right ha.1 hb.1
 have h4:-A * b=-(A * b):=Int.neg_mul A b
 omega
theorem zsc {a b A B:Int} (ha:a≤A) (hA:0≤A) (hb:0≤b∧b≤B):a * b≤A * B:=
 Int.le_trans (Int.mul_le_mul_of_nonneg_right ha hb.1) (Int.mul_le_mul_of_nonneg_left hb.2 hA)
theorem Z5t {a b A B:Int} (ha:-A≤a∧a≤A) (hb:-B≤b∧b≤B):-(A * B)≤a * b∧a * b≤A * B:=by
 by_cases h:0≤b
 ·exact zwp ha ⟨h,hb.2⟩
 ·have:=zwp (b:=-b) ha (B:=B) (by omega)
  rw [Int.mul_neg] at this
  omega
end Go.Proofs.YtfkclejklgoccaaGreat.Vc
namespace Go.Proofs.YtfkclejklgoccaaGreat.Vc
open Go Go.ChangeShapes Go.WideShapes Go.ChangeAt Go.RowKit
structure InsX where
 op:List UInt8
 to:Int
 args:List Int
 const:Dat
 num:Int
structure EndX where
 kind:Int
 reg:Int
 args:List Int
 to:Int
 next:Int
 els:Int
structure BlkX where
 ins:List InsX
 e:EndX
structure PrcX where
 params:Int
 holds:Int
 regs:Int
 blocks:List BlkX
def InsX.pv (x:InsX):List PV:=[.str x.op,.int .i64 x.to,slp x.args,.int .i64 x.const.kind,.int .i64 x.const.int,.str x.const.text,slp x.const.list,.int .i64 x.num]
def EndX.pv (e:EndX):List PV:=[.int .i64 e.kind,.int .i64 e.reg,slp e.args,.int .i64 e.to,.int .i64 e.next,.int .i64 e.els]
instance encIns:Enc InsX:=⟨InsX.pv,8,fun _=>rfl⟩
instance encEnd:Enc EndX:=⟨EndX.pv,6,fun _=>rfl⟩
instance encBlk:Enc BlkX:=⟨fun b=>slp b.ins::b.e.pv,7,fun _=>rfl⟩
instance encPrc:Enc PrcX:=⟨fun p=>[.int .i64 p.params,.int .i64 p.holds,.int .i64 p.regs,slp p.blocks],4,fun _=>rfl⟩
theorem ins_iff {H:PH} {x:InsX} {cs:List Value}:CsR H x cs↔∃av dv,cs=[txt x.op,.int .i64 x.to,av,.int .i64 x.const.kind,.int .i64 x.const.int,txt x.const.text,dv,.int .i64 x.num] ∧
  x.op.length≤maxLen∧InI x.to∧SlR H x.args av∧InI x.const.kind∧InI x.const.int∧x.const.text.length≤maxLen∧SlR H x.const.list dv∧InI x.num:=by
 show PV.RepRow H (InsX.pv x) cs↔_
 simp only [InsX.pv,PV.RepRow,repI_iff,za0]
 constructor
 ·rintro ⟨v1,_,rfl,⟨rfl,h1⟩,v2,_,rfl,⟨rfl,h2⟩,v3,_,rfl,h3,v4,_,rfl,⟨rfl,h4⟩,v5,_,rfl,⟨rfl,h5⟩,v6,_,rfl,⟨rfl,h6⟩,v7,_,rfl,h7,v8,_,rfl,⟨rfl,h8⟩,rfl⟩
  exact ⟨v3,v7,rfl,h1,h2,h3,h4,h5,h6,h7,h8⟩
 ·rintro ⟨v3,v7,rfl,h1,h2,h3,h4,h5,h6,h7,h8⟩
  exact ⟨_,_,rfl,⟨rfl,h1⟩,_,_,rfl,⟨rfl,h2⟩,_,_,rfl,h3,_,_,rfl,⟨rfl,h4⟩,_,_,rfl,⟨rfl,h5⟩,_,_,rfl,⟨rfl,h6⟩,_,_,rfl,h7,_,_,rfl,⟨rfl,h8⟩,rfl⟩
theorem end_iff {H:PH} {e:EndX} {cs:List Value}:CsR H e cs↔∃av,cs=[.int .i64 e.kind,.int .i64 e.reg,av,.int .i64 e.to,.int .i64 e.next,.int .i64 e.els] ∧
  InI e.kind∧InI e.reg∧SlR H e.args av∧InI e.to∧InI e.next∧InI e.els:=by
 show PV.RepRow H (EndX.pv e) cs↔_
 simp only [EndX.pv,PV.RepRow,repI_iff,za0]
 constructor
 ·rintro ⟨v1,_,rfl,⟨rfl,h1⟩,v2,_,rfl,⟨rfl,h2⟩,v3,_,rfl,h3,v4,_,rfl,⟨rfl,h4⟩,v5,_,rfl,⟨rfl,h5⟩,v6,_,rfl,⟨rfl,h6⟩,rfl⟩
  exact ⟨v3,rfl,h1,h2,h3,h4,h5,h6⟩
 ·rintro ⟨v3,rfl,h1,h2,h3,h4,h5,h6⟩
  exact ⟨_,_,rfl,⟨rfl,h1⟩,_,_,rfl,⟨rfl,h2⟩,_,_,rfl,h3,_,_,rfl,⟨rfl,h4⟩,_,_,rfl,⟨rfl,h5⟩,_,_,rfl,⟨rfl,h6⟩,rfl⟩
theorem blk_iff {H:PH} {b:BlkX} {cs:List Value}:CsR H b cs↔∃iv es,cs=iv::es∧SlR H b.ins iv∧CsR H b.e es:=by
 show PV.RepRow H (slp b.ins::b.e.pv) cs↔_
 rw [PV.RepRow]
 constructor
 ·rintro ⟨v,vs,rfl,h1,h2⟩;exact ⟨v,vs,rfl,h1,h2⟩
 ·rintro ⟨v,vs,rfl,h1,h2⟩;exact ⟨v,vs,rfl,h1,h2⟩
theorem prc_iff {H:PH} {p:PrcX} {cs:List Value}:CsR H p cs↔∃bv,cs=[.int .i64 p.params,.int .i64 p.holds,.int .i64 p.regs,bv]∧InI p.params∧InI p.holds∧InI p.regs∧SlR H p.blocks bv:=by
 show PV.RepRow H [_,_,_,_] cs↔_
 simp only [PV.RepRow,repI_iff]
 constructor
 ·rintro ⟨v1,_,rfl,⟨rfl,h1⟩,v2,_,rfl,⟨rfl,h2⟩,v3,_,rfl,⟨rfl,h3⟩,v4,_,rfl,h4,rfl⟩
  exact ⟨v4,rfl,h1,h2,h3,h4⟩
 ·rintro ⟨v4,rfl,h1,h2,h3,h4⟩
  exact ⟨_,_,rfl,⟨rfl,h1⟩,_,_,rfl,⟨rfl,h2⟩,_,_,rfl,⟨rfl,h3⟩,_,_,rfl,h4,rfl⟩
theorem z0k {S:PH} {a:Int} (h:InI a):CsR S a [.int .i64 a]:=by
 show PV.RepRow S [.int .i64 a] [.int .i64 a]
 simp only [PV.RepRow,repI_iff]
 exact ⟨_,_,rfl,⟨rfl,h⟩,rfl⟩
instance encInts:Enc (List Int):=⟨fun l=>[slp l],1,fun _=>rfl⟩
theorem csLK {H:PH} {a:List Int} {cs:List Value} (h:CsR H a cs):∃v,cs=[v]∧SlR H a v:=by
 have h':PV.RepRow H [slp a] cs:=h
 simp only [PV.RepRow] at h'
 obtain ⟨v,vs,rfl,h1,rfl⟩:=h'
 exact ⟨v,rfl,h1⟩
theorem zna {H:PH} {a:List Int} {v:Value} (h:SlR H a v):CsR H a [v]:=by
 show PV.RepRow H [slp a] [v]
 simp only [PV.RepRow]
 exact ⟨v,[],rfl,h,rfl⟩
theorem z0s:Tryz.prog.underlying 29=some (.slice 3):=by kernel_rfl
theorem z0v:ElemOk Tryz.prog 3 1 8=true:=by kernel_rfl
theorem Z51:Tryz.prog.underlying 185=some (.slice 29):=by kernel_rfl
theorem zw1:ElemOk Tryz.prog 29 1 24=true:=by kernel_rfl
theorem Zfb:Tryz.prog.underlying 36=some (.slice 34):=by kernel_rfl
theorem Zcv:ElemOk Tryz.prog 34 8 112=true:=by kernel_rfl
theorem Zfa:Tryz.prog.underlying 41=some (.slice 40):=by kernel_rfl
theorem Zd5:ElemOk Tryz.prog 40 7 88=true:=by kernel_rfl
def Z94 (l:List Int):Nat:=sumWt (fun _=>1) l+1
def InsX.wt (x:InsX):Nat:=x.op.length+1+1+Z94 x.args+x.const.wt+1
def EndX.wt (e:EndX):Nat:=1+1+Z94 e.args+1+1+1
def BlkX.wt (b:BlkX):Nat:=sumWt InsX.wt b.ins+1+b.e.wt
def PrcX.wt (p:PrcX):Nat:=1+1+1+(sumWt BlkX.wt p.blocks+1)
theorem zqp (n:Int):IntKind.i64.wrap n=if 9223372036854775808≤n % 18446744073709551616 then n % 18446744073709551616 - 18446744073709551616 else n % 18446744073709551616:=by
 simp only [IntKind.wrap,IntKind.bits,IntKind.signed]
 simp
theorem Zea {n r k:Int} (h:n=r+k * 18446744073709551616) (hr:InI r):IntKind.i64.wrap n=r:=by
 obtain ⟨h0,h1⟩:=hr
 rw [zqp]
 split<;>omega
theorem Zd8 {b c:Int} (hb:InI b):InI (b.tmod c):=by
 obtain ⟨h0,h1⟩:=hb
 unfold InI
 have h2:=Int.natAbs_tmod b c
 have h3:=Nat.mod_le b.natAbs c.natAbs
 have h4:0≤b→0≤b.tmod c:=Int.tmod_nonneg c
 have h5:0≤-b→0≤(-b).tmod c:=Int.tmod_nonneg c
 rw [Int.neg_tmod] at h5
 omega
theorem z2n (n:Int):InI (IntKind.i64.wrap n):=by
 unfold InI
 rw [zqp]
 split<;>omega
theorem Z8q {b:Int} (hb:InI b) (k:Int):InI (arI .shr .i64 b k):=by
 obtain ⟨h0,h1⟩:=hb
 unfold InI
 show _≤b.fdiv (2 ^ (min k.toNat 64))∧b.fdiv (2 ^ (min k.toNat 64))≤_
 have hp:(1:Int)≤2 ^ (min k.toNat 64):=by
  have:(0:Int) < 2 ^ (min k.toNat 64):=Int.pow_pos (by decide)
  omega
 rw [Int.fdiv_eq_ediv_of_nonneg _ (by omega)]
 generalize (2:Int) ^ (min k.toNat 64)=q at *
 refine ⟨?_,?_⟩
 ·rw [Int.le_ediv_iff_mul_le (by omega)]
  have:-9223372036854775808 * q≤-9223372036854775808 * 1:=Int.mul_le_mul_of_nonpos_left (by omega) (by omega)
  omega
 ·have:b / q < 9223372036854775808:=Int.ediv_lt_of_lt_mul (by omega) (by
   have:9223372036854775808 * 1≤9223372036854775808 * q:=Int.mul_le_mul_of_nonneg_left hp (by omega)
   omega)
  omega
theorem Z4q {b c:Int} (hb:InI b) (hc:InI c):InI (mulhR b c):=by
 obtain ⟨h0,h1⟩:=hb
 obtain ⟨h2,h3⟩:=hc
 have h4:=Z5t (A:=9223372036854775808) (B:=9223372036854775808) (a:=b) (b:=c) (by omega) (by omega)
 unfold InI mulhR
 rw [Int.fdiv_eq_ediv_of_nonneg _ (by decide)]
 generalize b * c=p at *
 omega
theorem z1o {p:Prop} [Decidable p] {a b:Int} (h1:InI a) (h2:InI b):InI (if p then a else b):=by
 by_cases h:p
 ·rw [if_pos h];exact h1
 ·rw [if_neg h];exact h2
theorem Zcy (op:Int) {b c:Int} (hb:InI b) (hc:InI c):InI (thrR op b c):=by
 have h0:InI 0:=by unfold InI;omega
 have h1:InI 1:=by unfold InI;omega
 unfold thrR
 exact z1o (z2n _) (z1o (z2n _) (z1o (z2n _) (z1o (Z4q hb hc) (z1o (z2n _) (z1o (Zd8 hb) (z1o (z2n _) (z1o (z2n _) (z1o (z2n _) (z1o (z2n _) (z1o (Z8q hb _) (z1o (z2n _) (z1o (z1o h1 h0) (z1o h1 h0)))))))))))))
theorem zsw {P:Program} {Φ:Next→PH→Prop} {Ψ:Value→PH→Prop} {H:PH} {ρ:Operand→Value} {T ty:TypeId} {x y:Operand}:wpS P (execOp ρ (bare (.indexAddr T x y) ty)) Φ Ψ H=wpS P (Instr.indexAt T (ρ x) (ρ y)) (fun v H'=>Φ (.value v) H') Ψ H:=by
 simp only [execOp,bare,z06,z0j]
theorem z5u {P:Program} {X:List PanicEntry→PH→Prop} {β:Type} {E:List Value} {H:PH} {L:LK} {K:β→List Value→PH→LK→Prop} {T ty e:TypeId} {n:Nat} {x y:Operand} {args:List (Nat×VE)} {pend:List (SV×List SV)} {k:Fm β} {kk:IntKind} {i:Int} {r off:Nat}
  (hT:P.underlying T=some (.array n e)) (hiz:(P.info? e).map (·.size)=some 1) (hx:argEv E args x=.pointer (some ⟨r,off,none⟩)) (hy:argEv E args y=.int kk i) (hi:0≤i∧i < n) (hp:z0o E H pend)
  (hk:den P X k (E++[.pointer (some ⟨r,off+i.toNat,none⟩)]) H L K):den P X (.sem (.indexAddr T x y) ty args (.sc .ptr) pend k) E H L K:=by
 obtain ⟨inf,hi2,hz⟩:=Option.map_eq_some_iff.1 hiz
 show wpS P (execOp (argEv E args) (bare _ ty)) _ _ H
 rw [zsw,hx,hy]
 unfold Instr.indexAt asIntOf
 simp only [z06,z0j,z0b hT]
 unfold Instr.sureAddr
 simp only [z06,z0j]
 rw [if_pos hi]
 simp only [z06,z0j,z2s hi2,hz,Addr.add_plain,Nat.mul_one]
 exact ⟨[_],rfl,rfl,hp,hk⟩
theorem Z14 {E:List Value} {H:PH} {p:SV} {ss:List SV} (h:rowAt H (pOf (ev0 E p)) (ss.map (ev0 E))):z0o E H [(p,ss)]:=fun x hx=>by
 rw [zsi.1 hx];exact h
theorem zcq:Tryz.prog.underlying 59=some (.array 32 3):=by kernel_rfl
theorem zIntQ:(Tryz.prog.info? 3).map (·.size)=some 1:=by kernel_rfl
def z0h (st:Int) (m:MaR) (mv ov:Value):List Value:=
 .int .i64 st::.int .i64 m.value::txt []::.int .i64 m.steps::.int .i64 m.pc::(m.regs.map (Value.int .i64)++[mv,txt m.input,ov])
structure MaOk (m:MaR):Prop where
 len:m.regs.length=32
 regs:∀v∈m.regs,InI v
theorem MaOk.reg {m:MaR} (h:MaOk m) (r:Int):InI (m.reg r):=by
 unfold MaR.reg
 rw [zgd]
 cases e:m.regs[r.toNat]? with
 | none=>unfold InI;simp
 | some v=>exact h.regs v (zmg e)
theorem MaOk.put {m:MaR} (h:MaOk m) {r v to:Int} (hv:InI v):MaOk (m.put r v to):=by
 unfold MaR.put
 refine ⟨?_,fun u hu=>?_⟩
 ·simp only [];split
  ·exact h.len
  ·rw [List.length_set];exact h.len
 ·simp only [] at hu
  split at hu
  ·exact h.regs u hu
  ·rcases List.mem_or_eq_of_mem_set hu with hu | rfl
   ·exact h.regs u hu
   ·exact hv
section
variable {st:Int} {m:MaR} {mv ov:Value}
theorem c_reg (h:MaOk m) {r:Int} (h0:0≤r) (h1:r≤31):((z0h st m mv ov).drop (5+r.toNat)).take 1=[.int .i64 (m.reg r)]:=by
 have hl:r.toNat < m.regs.length:=by rw [h.len];omega
 rw [show 5+r.toNat=r.toNat+5 by omega]
 simp only [z0h,List.drop_succ_cons]
 rw [List.drop_append_of_le_length (by rw [zlm];omega),List.take_append_of_le_length (by rw [List.length_drop,zlm];omega),←List.map_drop,List.drop_eq_getElem_cons hl]
 simp only [List.map_cons,List.take_succ_cons,List.take_zero,MaR.reg]
 rw [zgd,zge hl];rfl
theorem zai (h:MaOk m) (k:Nat):(z0h st m mv ov).drop (37+k)=[mv,txt m.input,ov].drop k:=by
 rw [show 37+k=(32+k)+5 by omega]
 simp only [z0h,List.drop_succ_cons]
 rw [←h.len,show m.regs.length=(m.regs.map (Value.int .i64)).length by rw [zlm],List.drop_append]
 simp
theorem c_len (h:MaOk m):(z0h st m mv ov).length=40:=by simp [z0h,h.len]
theorem s_reg (h:MaOk m) {r v:Int} (h0:0≤r) (h1:r≤31):(z0h st m mv ov).take (5+r.toNat)++[.int .i64 v]++(z0h st m mv ov).drop (5+r.toNat+1)=z0h st { m with regs:=m.regs.set r.toNat v } mv ov:=by
 have hl:r.toNat < m.regs.length:=by rw [h.len];omega
 rw [show 5+r.toNat=r.toNat+5 by omega,show r.toNat+5+1=(r.toNat+1)+5 by omega]
 simp only [z0h,List.drop_succ_cons,List.take_succ_cons,List.cons_append]
 rw [List.take_append_of_le_length (by rw [zlm];omega),List.drop_append_of_le_length (by rw [zlm];omega),List.map_set]
 rw [List.set_eq_take_append_cons_drop,if_pos (by rw [zlm];omega)]
 simp
theorem s_mem (h:MaOk m) (mv':Value):(z0h st m mv ov).take 37++[mv']++(z0h st m mv ov).drop 38=z0h st m mv' ov:=by
 have:=zai (st:=st) (mv:=mv) (ov:=ov) h 1
 rw [show 37+1=38 from rfl] at this
 rw [this]
 have e:(z0h st m mv ov).take 37=.int .i64 st::.int .i64 m.value::txt []::.int .i64 m.steps::.int .i64 m.pc::m.regs.map (Value.int .i64):=by
  simp only [z0h,List.take_succ_cons]
  rw [show 32=(m.regs.map (Value.int .i64)).length by rw [zlm,h.len],List.take_append,ztl (Nat.le_refl _)];simp
 rw [e];simp [z0h]
theorem s_in (h:MaOk m) (i':List UInt8):(z0h st m mv ov).take 38++[txt i']++(z0h st m mv ov).drop 39=z0h st { m with input:=i' } mv ov:=by
 have:=zai (st:=st) (mv:=mv) (ov:=ov) h 2
 rw [show 37+2=39 from rfl] at this
 rw [this]
 have e:(z0h st m mv ov).take 38=.int .i64 st::.int .i64 m.value::txt []::.int .i64 m.steps::.int .i64 m.pc::(m.regs.map (Value.int .i64)++[mv]):=by
  simp only [z0h,List.take_succ_cons]
  rw [show 33=(m.regs.map (Value.int .i64)).length+1 by rw [zlm,h.len],List.take_append,ztl (Nat.le_add_right _ _)];simp
 rw [e];simp [z0h]
theorem s_out (h:MaOk m) (ov':Value):(z0h st m mv ov).take 39++[ov']++(z0h st m mv ov).drop 40=z0h st m mv ov':=by
 have:=zai (st:=st) (mv:=mv) (ov:=ov) h 3
 rw [show 37+3=40 from rfl] at this
 rw [this]
 have e:(z0h st m mv ov).take 39=.int .i64 st::.int .i64 m.value::txt []::.int .i64 m.steps::.int .i64 m.pc::(m.regs.map (Value.int .i64)++[mv,txt m.input]):=by
  simp only [z0h,List.take_succ_cons]
  rw [show 34=(m.regs.map (Value.int .i64)).length+2 by rw [zlm,h.len],List.take_append,ztl (Nat.le_add_right _ _)];simp
 rw [e];simp [z0h]
end
abbrev z1j (T:TypeId) (r:Nat) (st:Int) (m:MaR) (mv ov:Value):List Itm:=[bx r T (z0h st m mv ov),orow 3 m.mem mv,orow 5 m.out ov]
section
variable {T:TypeId} {r:Nat} {st:Int} {m:MaR} {mv ov:Value} {S K:PH} {J:List Itm}
theorem z4c (h:Held S K (z1j T r st m mv ov++J)) {off:Nat} {vs:List Value} (hv:((z0h st m mv ov).drop off).take vs.length=vs):rowAt K (some ⟨r,off,none⟩) vs:=by
 have:=z1a h (List.mem_append_left _ (zms)) off vs.length
 rwa [hv] at this
theorem zvl (h:Held S K (z1j T r st m mv ov++J)) (ok:MaOk m) {a:Int} (h0:0≤a) (h1:a≤31):rowAt K (some ⟨r,5+a.toNat,none⟩) [.int .i64 (m.reg a)]:=z4c h (c_reg ok h0 h1)
theorem zvq (h:Held S K (z1j T r st m mv ov++J)) (ok:MaOk m):rowAt K (some ⟨r,37,none⟩) [mv]:=z4c h (by
 have:=zai (st:=st) (mv:=mv) (ov:=ov) ok 0
 rw [show 37+0=37 from rfl] at this
 rw [this];rfl)
theorem Z9f (h:Held S K (z1j T r st m mv ov++J)) (ok:MaOk m):rowAt K (some ⟨r,38,none⟩) [txt m.input]:=z4c h (by
 have:=zai (st:=st) (mv:=mv) (ov:=ov) ok 1
 rw [show 37+1=38 from rfl] at this
 rw [this];rfl)
theorem zcl (h:Held S K (z1j T r st m mv ov++J)) (ok:MaOk m):rowAt K (some ⟨r,39,none⟩) [ov]:=z4c h (by
 have:=zai (st:=st) (mv:=mv) (ov:=ov) ok 2
 rw [show 37+2=39 from rfl] at this
 rw [this];rfl)
theorem Zfc (h:Held S K (z1j T r st m mv ov++J)):SlR K m.mem mv:=(h.row (e:=3) (by simp)).slR h.sh
theorem zco (h:Held S K (z1j T r st m mv ov++J)):∃b c,ov=.slice b m.out.length c:=(h.row (e:=5) (by simp)).sl
end
def EndX.reads (e:EndX) (r:Int):Bool:=
 if e.kind=1∨e.kind=2∨e.kind=5∨e.kind=6 then decide (e.reg=r) else if e.kind=3∨e.kind=4 then decide (e.reg=r) || decide (r∈e.args) else false
def EndX.calls (e:EndX):Bool:=decide (e.kind=4∨e.kind=6)
def EndX.ways (e:EndX):List Int:=(if e.kind=0∨e.kind=1∨e.kind=4∨e.kind=6 then [e.next] else [])++(if e.kind=1 then [e.els] else [])
def EndX.leads (e:EndX) (n:Nat):List Int:=e.ways.filter fun b=>decide (0≤b∧b < n)
def endVs (e:EndX) (av:Value):List Value:=[.int .i64 e.kind,.int .i64 e.reg,av,.int .i64 e.to,.int .i64 e.next,.int .i64 e.els]
def insL (n:Int):List Int→List Int
 | []=>[n]
 | a::l=>if n < a then n::a::l else a::insL n l
def putL (l:List Int) (n:Int):List Int:=if n∈l then l else insL n l
theorem zza (n:Int):∀l,(insL n l).length=l.length+1
 | []=>rfl
 | a::l=>by unfold insL;split<;>simp [zza n l]
theorem zqe (n x:Int):∀l,x∈insL n l↔x=n∨x∈l
 | []=>by simp [insL]
 | a::l=>by
  unfold insL
  split
  ·simp
  ·simp only [zmc,zqe n x l]
   constructor
   ·rintro (h | h | h)
    ·exact .inr (.inl h)
    ·exact .inl h
    ·exact .inr (.inr h)
   ·rintro (h | h | h)
    ·exact .inr (.inl h)
    ·exact .inl h
    ·exact .inr (.inr h)
theorem zrb {n:Int}:∀{l:List Int},l.Pairwise (· < ·)→n∉l→(insL n l).Pairwise (· < ·)
 | [],_,_=>by simp [insL]
 | a::l,h,hn=>by
  obtain ⟨h1,h2⟩:=List.pairwise_cons.1 h
  simp only [zmc,not_or] at hn
  unfold insL
  split
  ·rename_i hlt
   refine List.pairwise_cons.2 ⟨fun b hb=>?_,h⟩
   rcases zmc.1 hb with rfl | hb
   ·exact hlt
   ·exact Int.lt_trans hlt (h1 b hb)
  ·rename_i hlt
   refine List.pairwise_cons.2 ⟨fun b hb=>?_,zrb h2 hn.2⟩
   rcases (zqe n b l).1 hb with rfl | hb
   ·omega
   ·exact h1 b hb
theorem Zcw (n x:Int) (l:List Int):x∈putL l n↔x=n∨x∈l:=by
 unfold putL
 split
 ·rename_i h;exact ⟨.inr,fun hx=>hx.elim (fun e=>e ▸ h) id⟩
 ·exact zqe n x l
theorem Z6x {n:Int} {l:List Int} (h:l.Pairwise (· < ·)):(putL l n).Pairwise (· < ·):=by
 unfold putL;split
 ·exact h
 ·rename_i hn;exact zrb h hn
theorem Zb6 (l:List Int) (n:Int):(putL l n).length≤l.length+1:=by
 unfold putL;split
 ·omega
 ·rw [zza];omega
def prcVs (p:PrcX) (bv:Value):List Value:=[.int .i64 p.params,.int .i64 p.holds,.int .i64 p.regs,bv]
theorem Zb2 (e:EndX):e.ways.length≤2:=by
 unfold EndX.ways
 rw [zla]
 split<;>split<;>simp
def EndX.regs (e:EndX):List Int:=(if e.reads e.reg then [e.reg] else [])++(if e.kind=3∨e.kind=4 then e.args else [])
def BlkX.regs (b:BlkX):List Int:=b.ins.flatMap (·.args)++b.e.regs
def PrcX.regl (p:PrcX):List Int:=p.blocks.flatMap BlkX.regs
def readL (p:PrcX):List Int:=p.regl.foldl putL []
theorem zyb (l:List Int):∀acc:List Int,(l.foldl putL acc).length≤acc.length+l.length:=by
 induction l with
 | nil=>intro acc;simp
 | cons a l ih=>
  intro acc
  have h1:=ih (putL acc a)
  have h2:=Zb6 acc a
  simp only [List.foldl_cons,zlc];omega
theorem zxz (l:List Int) (x:Int):∀acc:List Int,x∈l.foldl putL acc↔x∈acc∨x∈l:=by
 induction l with
 | nil=>intro acc;simp
 | cons a l ih=>
  intro acc
  rw [List.foldl_cons,ih,Zcw,zmc]
  constructor
  ·rintro ((h | h) | h)
   ·exact .inr (.inl h)
   ·exact .inl h
   ·exact .inr (.inr h)
  ·rintro (h | h | h)
   ·exact .inl (.inr h)
   ·exact .inl (.inl h)
   ·exact .inr h
theorem zqu (l:List Int):∀acc:List Int,acc.Pairwise (· < ·)→(l.foldl putL acc).Pairwise (· < ·):=by
 induction l with
 | nil=>intro acc h;exact h
 | cons a l ih=>intro acc h;exact ih _ (Z6x h)
theorem Z2h (p:PrcX):(readL p).Pairwise (· < ·):=zqu _ _ .nil
theorem Z9z (p:PrcX) (x:Int):x∈readL p↔x∈p.regl:=by
 unfold readL;rw [zxz];simp
theorem zt7 {α β:Type} (f:α→List β) {l:List α} {k:Nat} {a:α} (h:l[k]?=some a):(l.take (k+1)).flatMap f=(l.take k).flatMap f++f a:=by
 rw [List.take_add_one,h,List.flatMap_append];simp
theorem zf0 {α β:Type} (f:α→List β) (l:List α) (k:Nat):((l.take k).flatMap f).length≤(l.flatMap f).length:=by
 have:(l.flatMap f)=(l.take k).flatMap f++(l.drop k).flatMap f:=by rw [←List.flatMap_append,List.take_append_drop]
 rw [this,zla];omega
theorem Zbw {p:PrcX} {i:Nat} {b:BlkX} (hb:p.blocks[i]?=some b):b.regs.length+((p.blocks.take i).flatMap BlkX.regs).length≤p.regl.length:=by
 have h1:=zt7 BlkX.regs hb
 have h2:=zf0 BlkX.regs p.blocks (i+1)
 have h3:=congrArg List.length h1
 rw [zla] at h3
 show _≤(p.blocks.flatMap BlkX.regs).length
 omega
def tieB:List UInt8:=[116,105,101]
def InsX.fills (x:InsX) (r:Int):Prop:=x.op≠tieB∧x.to=r
def thru (r:Int):List InsX→Prop→Prop
 | [],q=>q
 | x::xs,q=>r∈x.args∨(¬x.fills r∧thru r xs q)
def za9 (e:EndX) (n:Nat) (r:Int) (L:Nat→Prop):Prop:=e.reads r=true∨(¬(e.calls=true∧e.to=r)∧∃b:Nat,(b:Int)∈e.leads n∧L b)
def z2i (p:PrcX) (r:Int) (L:Nat→Prop) (i at_:Nat):Prop:=∃b,p.blocks[i]?=some b∧thru r (b.ins.drop at_) (za9 b.e p.blocks.length r L)
def LiveB (p:PrcX) (r:Int) (i:Nat):Prop:=∀L:Nat→Prop,(∀j,z2i p r L j 0→L j)→L i
def z1z (p:PrcX) (r:Int) (i at_:Nat):Prop:=z2i p r (LiveB p r) i at_
theorem zfe {r:Int} {q q':Prop} (h:q→q'):∀{l:List InsX},thru r l q→thru r l q'
 | [],hq=>h hq
 | x::xs,hq=>hq.imp id fun h2=>⟨h2.1,zfe h h2.2⟩
theorem Z0w {e:EndX} {n:Nat} {r:Int} {L L':Nat→Prop} (h:∀i,L i→L' i) (hl:za9 e n r L):za9 e n r L':=
 hl.imp id fun ⟨h1,b,h2,h3⟩=>⟨h1,b,h2,h b h3⟩
theorem z2t {p:PrcX} {r:Int} {L L':Nat→Prop} (h:∀i,L i→L' i) {i at_:Nat} (hl:z2i p r L i at_):z2i p r L' i at_:=by
 obtain ⟨b,h1,h2⟩:=hl
 exact ⟨b,h1,zfe (Z0w h) h2⟩
theorem zj7 {p:PrcX} {r:Int} {i:Nat} (h:z1z p r i 0):LiveB p r i:=fun L hL=>hL i (z2t (fun j hj=>hj L hL) h)
theorem zjj {p:PrcX} {r:Int} {i:Nat} (h:LiveB p r i):z1z p r i 0:=h (fun j=>z1z p r j 0) fun _ hj=>z2t (fun _ hk=>zj7 hk) hj
theorem zwt {p:PrcX} {r:Int} {i:Nat}:LiveB p r i↔z1z p r i 0:=⟨zjj,zj7⟩
theorem zwx {r:Int} {q:Prop}:∀{l:List InsX},thru r l q→r∈l.flatMap (·.args)∨q
 | [],h=>.inr h
 | x::xs,h=>by
  simp only [List.flatMap_cons,zma]
  rcases h with h | ⟨_,h⟩
  ·exact .inl (.inl h)
  ·rcases zwx h with h | h
   ·exact .inl (.inr h)
   ·exact .inr h
theorem Z70 {e:EndX} {r:Int} (h:e.reads r=true):r∈e.regs:=by
 unfold EndX.reads at h
 unfold EndX.regs
 split at h
 ·rename_i hk
  simp only [zdt] at h
  have:e.reads e.reg=true:=by unfold EndX.reads;rw [if_pos hk];simp
  rw [if_pos this];simp [h]
 ·split at h
  ·rename_i hk hk2
   have:e.reads e.reg=true:=by unfold EndX.reads;rw [if_neg hk,if_pos hk2];simp
   rw [if_pos this,if_pos hk2]
   simp only [Bool.or_eq_true,zdt] at h
   rcases h with h | h
   ·simp [h]
   ·simp [h]
  ·cases h
theorem z5d {p:PrcX} {r:Int} {i at_:Nat} (h:z1z p r i at_):r∈p.regl:=by
 have key:∀{j a:Nat} {L:Nat→Prop},(∀k,L k→r∈p.regl)→z2i p r L j a→r∈p.regl:=by
  rintro j a L hL ⟨b,hb,ht⟩
  have hmem:∀x∈b.regs,x∈p.regl:=fun x hx=>List.mem_flatMap.2 ⟨b,zmg hb,hx⟩
  rcases zwx ht with h | h
  ·refine hmem r (List.mem_append_left _ ?_)
   obtain ⟨y,hy,hr⟩:=List.mem_flatMap.1 h
   exact List.mem_flatMap.2 ⟨y,List.mem_of_mem_drop hy,hr⟩
  ·rcases h with h | ⟨_,k,_,hk⟩
   ·exact hmem r (List.mem_append_right _ (Z70 h))
   ·exact hL k hk
 exact key (fun k hk=>hk (fun _=>r∈p.regl) fun j hj=>key (fun _ h=>h) hj) h
open Classical in
noncomputable def liveD (p:PrcX) (r:Int) (i at_:Nat):Bool:=decide (z1z p r i at_)
theorem Z81 {p:PrcX} {r:Int} {i at_:Nat}:liveD p r i at_=true↔z1z p r i at_:=by
 unfold liveD;simp
noncomputable def liveL (p:PrcX) (i at_:Nat):List Int:=(readL p).filter fun r=>liveD p r i at_
theorem liveL_mem {p:PrcX} {i at_:Nat} {r:Int}:r∈liveL p i at_↔z1z p r i at_:=by
 unfold liveL
 rw [zmf,Z81,Z9z]
 exact ⟨fun h=>h.2,fun h=>⟨z5d h,h⟩⟩
theorem zfv (p:PrcX) (i at_:Nat):(liveL p i at_).Pairwise (· < ·):=(Z2h p).sublist List.filter_sublist
theorem zdq:∀{l m:List Int},l.Pairwise (· < ·)→m.Pairwise (· < ·)→(∀x,x∈l↔x∈m)→l=m
 | [],[],_,_,_=>rfl
 | [],b::m,_,_,h=>absurd ((h b).2 (zms)) (by simp)
 | a::l,[],_,_,h=>absurd ((h a).1 (zms)) (by simp)
 | a::l,b::m,hl,hm,h=>by
  obtain ⟨l1,l2⟩:=List.pairwise_cons.1 hl
  obtain ⟨m1,m2⟩:=List.pairwise_cons.1 hm
  have hab:a=b:=by
   have ha:=(h a).1 (zms)
   have hb:=(h b).2 (zms)
   rcases zmc.1 ha with e | ha
   ·exact e
   ·rcases zmc.1 hb with e | hb
    ·exact e.symm
    ·have:=m1 a ha;have:=l1 b hb;omega
  subst hab
  congr 1
  refine zdq l2 m2 fun x=>?_
  constructor
  ·intro hx
   rcases zmc.1 ((h x).1 (zmm _ hx)) with e | h1
   ·subst e;have:=l1 x hx;omega
   ·exact h1
  ·intro hx
   rcases zmc.1 ((h x).2 (zmm _ hx)) with e | h1
   ·subst e;have:=m1 x hx;omega
   ·exact h1
structure Seek (p:PrcX) (r:Int) (i0 a0:Nat) (begun:Nat→Bool) (todo:List Nat):Prop where
 fair:∀b∈todo,z1z p r b 0→z1z p r i0 a0
 full:∀b,begun b=true→b∉todo→¬z2i p r (fun j=>begun j=false) b 0
 start:¬z2i p r (fun j=>begun j=false) i0 a0
theorem Seek.none {p:PrcX} {r:Int} {i0 a0:Nat} {begun:Nat→Bool} (h:Seek p r i0 a0 begun []):¬z1z p r i0 a0:=by
 intro hl
 refine h.start (z2t (fun j hj=>hj (fun j=>begun j=false) fun k hk=>?_) hl)
 cases hb:begun k with
 | false=>rfl
 | true=>exact absurd hk (h.full k hb (by simp))
structure Mid (p:PrcX) (r:Int) (i0 a0:Nat) (begun:Nat→Bool) (rest:List Nat) (i a:Nat):Prop where
 cur:z1z p r i a→z1z p r i0 a0
 fair:∀b∈rest,z1z p r b 0→z1z p r i0 a0
 hold:∀b,begun b=true→b∉rest→(b=i∧a=0)∨¬z2i p r (fun j=>begun j=false) b 0
 start:(i=i0∧a=a0)∨¬z2i p r (fun j=>begun j=false) i0 a0
theorem Mid.first (p:PrcX) (r:Int) (i a:Nat):Mid p r i a (fun _=>false) [] i a:=
 ⟨id,fun b hb=>by simp at hb,fun b hb=>by simp at hb,.inl ⟨rfl,rfl⟩⟩
theorem Mid.dead {p:PrcX} {r:Int} {i0 a0 i a:Nat} {begun:Nat→Bool} {rest:List Nat} (h:Mid p r i0 a0 begun rest i a) (hd:∀L,¬z2i p r L i a):Seek p r i0 a0 begun rest:=
 ⟨h.fair,fun b hb hn=>(h.hold b hb hn).elim (fun ⟨e1,e2⟩=>by rw [e1,←e2];exact hd _) id,h.start.elim (fun ⟨e1,e2⟩=>by rw [←e1,←e2];exact hd _) id⟩
theorem Mid.go {p:PrcX} {r:Int} {i0 a0 i a:Nat} {begun begun':Nat→Bool} {rest todo':List Nat} {b:BlkX} (h:Mid p r i0 a0 begun rest i a) (hb:p.blocks[i]?=some b) (ht:∀q,thru r (b.ins.drop a) q↔q) (hr:b.e.reads r=false)
  (hc:¬(b.e.calls=true∧b.e.to=r)) (h1:∀j,begun' j=true↔begun j=true∨(j:Int)∈b.e.leads p.blocks.length) (h2:∀j∈todo',j∈rest∨(j:Int)∈b.e.leads p.blocks.length) (h3:∀j∈rest,j∈todo') (h4:∀j,begun' j=true→begun j=true∨j∈todo') :
  Seek p r i0 a0 begun' todo':=by
 have hmono:∀{j k:Nat},¬z2i p r (fun j=>begun j=false) j k→¬z2i p r (fun j=>begun' j=false) j k:=fun hn hl=>hn (z2t (fun m hm=>by
  cases hbm:begun m with
  | false=>rfl
  | true=>rw [(h1 m).2 (.inl hbm)] at hm;cases hm) hl)
 have hhere:¬z2i p r (fun j=>begun' j=false) i a:=by
  rintro ⟨b',hb',hl⟩
  rw [hb] at hb';cases hb'
  rw [ht] at hl
  rcases hl with hl | ⟨_,k,hk,hf⟩
  ·rw [hr] at hl;cases hl
  ·rw [(h1 k).2 (.inr hk)] at hf;cases hf
 refine ⟨fun j hj hl=>?_,fun j hj hn=>?_,h.start.elim (fun ⟨e1,e2⟩=>by rw [←e1,←e2];exact hhere) hmono⟩
 ·rcases h2 j hj with hj | hj
  ·exact h.fair j hj hl
  ·refine h.cur ⟨b,hb,(ht _).2 (.inr ⟨hc,j,hj,zj7 hl⟩)⟩
 ·rcases h4 j hj with hb0 | hb0
  ·rcases h.hold j hb0 (fun hr=>hn (h3 j hr)) with ⟨e1,e2⟩ | hx
   ·rw [e1,←e2];exact hhere
   ·exact hmono hx
  ·exact absurd hb0 hn
theorem z9v:Tryz.prog.underlying 116=some (.slice 4):=by kernel_rfl
theorem z7f:OneOk Tryz.prog 4 1 (.bool false):=OneOk.of (by kernel_rfl) rfl
theorem csBK {H:PH} {a:Bool} {cs:List Value} (h:CsR H a cs):cs=[.bool a]:=by
 have h':PV.RepRow H [.bool a] cs:=h
 simp only [PV.RepRow,PV.Rep] at h'
 obtain ⟨v,vs,rfl,rfl,rfl⟩:=h'
 rfl
theorem zhj {S:PH} {a:Bool}:CsR S a [.bool a]:=by
 show PV.RepRow S [.bool a] [.bool a]
 simp only [PV.RepRow,PV.Rep]
 exact ⟨_,_,rfl,rfl,rfl⟩
theorem znm (l:List UInt8):cmpS .neq ⟨l.toArray⟩ ⟨#[116,105,101]⟩=!decide (l=tieB):=by
 show (!((⟨l.toArray⟩:ByteArray).toList == (⟨tieB.toArray⟩:ByteArray).toList))=_
 rw [zlz]
structure InsOk (x:InsR):Prop where
 op:0≤x.op∧x.op < 32
 a:0≤x.a∧x.a≤31
 b:0≤x.b∧x.b≤31
 c:0≤x.c∧x.c≤31
 n:-1048576≤x.n∧x.n≤1048575
 sh:x.op=18∨x.op=19→0≤x.n∧x.n≤63
theorem Zar {x:InsR} {w:Int} (h:encR x=some w):InsOk x:=by
 unfold encR at h
 by_cases h1:x.op < 0∨32≤x.op
 ·rw [if_pos h1] at h;cases h
 rw [if_neg h1] at h
 by_cases h2:fitsR x=true
 ·unfold fitsR at h2
  simp only [zba,zdt] at h2
  obtain ⟨⟨⟨⟨ra,rb⟩,rc⟩,rl⟩,rm⟩:=h2
  have hk:=Z0m x.op
  have h3:=hk.least
  have h4:=hk.most
  refine ⟨by omega,zid ra,zid rb,zid rc,by omega,fun hs=>?_⟩
  have hf:frmR x.op=farF:=by rcases hs with hs | hs<;>rw [hs]<;>rfl
  rw [hf] at rl rm
  exact ⟨rl,rm⟩
 ·rw [if_neg h2] at h;cases h
theorem Zf7 {w:Int} {x:InsR} (h:decR w=some x):InsOk x:=by
 unfold decR at h
 by_cases h1:32≤w / 67108864
 ·rw [if_pos h1] at h;cases h
 rw [if_neg h1] at h
 by_cases h2:encR (zh8 w)=some w
 ·rw [if_pos h2] at h
  simp only [Option.some.injEq] at h
  rw [←h];exact Zar h2
 ·rw [if_neg h2] at h;cases h
theorem Zem {S:PH} (c:UInt8):CsR S c [.int .u8 (c.toNat:Int)]:=by
 have:=c.toNat_lt
 exact ⟨_,_,rfl,⟨rfl,by simp [IntKind.min,IntKind.bits,IntKind.signed],by simp [IntKind.max,IntKind.bits,IntKind.signed];omega⟩,rfl⟩
section
variable {r:Nat} {st:Int} {m:MaR} {mv ov:Value} {S K:PH} {J:List Itm}
end
theorem Z0c (m:MaR) (x:InsR):(stR m x).2.mem.length=m.mem.length∧(((stR m x).1=6∧(stR m x).2.steps=m.steps+1)∨((stR m x).1≠6∧(stR m x).2.steps≤m.steps+1∧m.steps≤(stR m x).2.steps))∧((stR m x).2.out.length:Int) - m.out.length≤(stR m x).2.steps - m.steps∧InI (stR m x).1∧(0≤(stR m x).1∧(stR m x).1≤6):=by
 have put:∀(r v to:Int),(m.put r v to).mem.length=m.mem.length∧(m.put r v to).steps=m.steps+1∧(m.put r v to).out=m.out:=fun _ _ _=>⟨rfl,rfl,rfl⟩
 have goes:∀to,(m.goes to).mem=m.mem∧(m.goes to).steps=m.steps+1∧(m.goes to).out=m.out:=fun _=>⟨rfl,rfl,rfl⟩
 have key:∀y:Int×MaR,stR m x=y→y.2.mem.length=m.mem.length∧((y.1=6∧y.2.steps=m.steps+1)∨(y.1≠6∧y.2.steps≤m.steps+1∧m.steps≤y.2.steps))∧(y.2.out.length:Int) - m.out.length≤y.2.steps - m.steps∧InI y.1∧(0≤y.1∧y.1≤6):=by
  intro y hy
  have c6:InI 6:=by unfold InI;omega
  have P6:∀(r v to:Int),stR m x=(6,m.put r v to)→y.2.mem.length=m.mem.length∧((y.1=6∧y.2.steps=m.steps+1)∨(y.1≠6∧y.2.steps≤m.steps+1∧m.steps≤y.2.steps))∧(y.2.out.length:Int) - m.out.length≤y.2.steps - m.steps∧InI y.1∧(0≤y.1∧y.1≤6):=by
   intro r v to he
   rw [he] at hy;subst hy
   exact ⟨rfl,.inl ⟨rfl,rfl⟩,by show ((m.out.length:Int) - m.out.length)≤(m.steps+1) - m.steps;omega,c6,by simp⟩
  unfold stR at hy
  by_cases h0:x.op=0
  ·rw [if_pos h0] at hy;subst hy
   refine ⟨rfl,.inr ⟨by simp,by simp,?_⟩,?_,by unfold InI;simp,by simp⟩
   ·simp only [];omega
   ·simp only [];omega
  rw [if_neg h0] at hy
  by_cases h1:(x.op=5∨x.op=6)∧m.reg x.c=0
  ·rw [if_pos h1] at hy;subst hy
   refine ⟨rfl,.inr ⟨by simp,by simp only [];omega,by simp only [];omega⟩,by simp only [];omega,by unfold InI;simp,by simp⟩
  rw [if_neg h1] at hy
  have fin:∀(r v to:Int),(6,m.put r v to)=y→y.2.mem.length=m.mem.length∧((y.1=6∧y.2.steps=m.steps+1)∨(y.1≠6∧y.2.steps≤m.steps+1∧m.steps≤y.2.steps))∧(y.2.out.length:Int) - m.out.length≤y.2.steps - m.steps∧InI y.1∧(0≤y.1∧y.1≤6):=by
   intro r v to he
   subst he
   exact ⟨rfl,.inl ⟨rfl,rfl⟩,by show ((m.out.length:Int) - m.out.length)≤(m.steps+1) - m.steps;omega,c6,by simp⟩
  by_cases h2:x.op=15
  ·rw [if_pos h2] at hy;exact fin _ _ _ hy
  rw [if_neg h2] at hy
  by_cases h3:x.op=16
  ·rw [if_pos h3] at hy;exact fin _ _ _ hy
  rw [if_neg h3] at hy
  by_cases h4:x.op=17
  ·rw [if_pos h4] at hy;exact fin _ _ _ hy
  rw [if_neg h4] at hy
  by_cases h5:x.op=18
  ·rw [if_pos h5] at hy;exact fin _ _ _ hy
  rw [if_neg h5] at hy
  by_cases h6:x.op=19
  ·rw [if_pos h6] at hy;exact fin _ _ _ hy
  rw [if_neg h6] at hy
  by_cases h7:x.op=20
  ·rw [if_pos h7] at hy;exact fin _ _ _ hy
  rw [if_neg h7] at hy
  by_cases h8:x.op=21
  ·rw [if_pos h8] at hy;exact fin _ _ _ hy
  rw [if_neg h8] at hy
  by_cases h9:x.op=22∨x.op=23
  ·rw [if_pos h9] at hy
   split at hy
   ·subst hy
    refine ⟨rfl,.inr ⟨by simp,by simp only [];omega,by simp only [];omega⟩,by simp only [];omega,by unfold InI;simp,by simp⟩
   ·split at hy
    ·subst hy
     refine ⟨List.length_set,.inl ⟨rfl,rfl⟩,by show ((m.out.length:Int) - m.out.length)≤(m.steps+1) - m.steps;omega,c6,by simp⟩
    ·exact fin _ _ _ hy
  rw [if_neg h9] at hy
  by_cases h10:x.op=24∨x.op=25∨x.op=26∨x.op=27
  ·rw [if_pos h10] at hy;subst hy
   exact ⟨rfl,.inl ⟨rfl,rfl⟩,by show ((m.out.length:Int) - m.out.length)≤(m.steps+1) - m.steps;omega,c6,by simp⟩
  rw [if_neg h10] at hy
  by_cases h11:x.op=28
  ·rw [if_pos h11] at hy;exact fin _ _ _ hy
  rw [if_neg h11] at hy
  by_cases h12:x.op=29
  ·rw [if_pos h12] at hy;exact fin _ _ _ hy
  rw [if_neg h12] at hy
  by_cases h13:x.op=30
  ·rw [if_pos h13] at hy;subst hy
   exact ⟨rfl,.inl ⟨rfl,rfl⟩,by show ((m.out.length:Int) - m.out.length)≤(m.steps+1) - m.steps;omega,c6,by simp⟩
  rw [if_neg h13] at hy
  by_cases h14:x.op=31
  ·rw [if_pos h14] at hy
   split at hy
   ·subst hy
    refine ⟨rfl,.inr ⟨by simp,by simp only [];omega,by simp only [];omega⟩,by simp only [];omega,by unfold InI;simp,by simp⟩
   ·subst hy
    refine ⟨rfl,.inl ⟨rfl,rfl⟩,?_,c6,by simp⟩
    show (((m.out++[UInt8.ofNat (m.reg x.a).toNat]).length:Int) - m.out.length)≤(m.steps+1) - m.steps
    rw [zla,List.length_singleton];omega
  rw [if_neg h14] at hy
  exact fin _ _ _ hy
 exact key _ rfl
def haltV (h:HaltR) (mv:Value):List Value:=[.int .i64 h.state,.int .i64 h.value,txt h.out,.int .i64 h.steps,.int .i64 h.pc]++h.regs.map (Value.int .i64)++[mv]
structure Known (code:List W32) (known:List InsR) (seen:List Bool):Prop where
 k:known.length=code.length
 s:seen.length=code.length
 ok:∀(i:Nat) (w:W32) (x:InsR),seen[i]?=some true→code[i]?=some w→known[i]?=some x→decR w.n=some x
theorem Known.start (code:List W32):Known code (List.replicate code.length ins0) (List.replicate code.length false):=by
 refine ⟨by simp,by simp,fun i w x h=>?_⟩
 rw [List.getElem?_replicate] at h
 split at h<;>cases h
theorem Known.put {code:List W32} {known:List InsR} {seen:List Bool} (h:Known code known seen) {i:Nat} {w:W32} {x:InsR} (hw:code[i]?=some w) (hx:decR w.n=some x):Known code (known.set i x) (seen.set i true):=by
 refine ⟨by rw [List.length_set,h.k],by rw [List.length_set,h.s],fun j w' x' h1 h2 h3=>?_⟩
 by_cases e:i=j
 ·subst e
  rw [hw] at h2
  simp only [Option.some.injEq] at h2
  subst h2
  have hl:i < known.length:=by rw [h.k];exact (zgi.1 hw).1
  rw [List.getElem?_set,if_pos rfl,if_pos hl] at h3
  simp only [Option.some.injEq] at h3
  subst h3;exact hx
 ·rw [List.getElem?_set,if_neg e] at h1 h3
  exact h.ok j w' x' h1 h2 h3
theorem zah:OneOk Tryz.prog 3 8 (.int .i64 0):=OneOk.of (by kernel_rfl) rfl
theorem zaz {S:PH}:CsR S false [.bool false]:=zhj
theorem z7k {S:PH}:CsR S (0:Int) [.int .i64 0]:=z0k (by unfold InI;omega)
theorem z30 {P:Program} {X:List PanicEntry→PH→Prop} {β:Type} {E:List Value} {H:PH} {L:LK} {K:β→List Value→PH→LK→Prop} {s t e ty:TypeId} {x:Operand} {args:List (Nat×VE)} {pend:List (SV×List SV)} {k:Fm β} {l:List UInt8} {v:Value}
  (hs:P.underlying s=some (.slice e)) (ht:P.underlying t=some .string) (he:P.underlying e=some (.int .u8)) (hx:argEv E args x=v) (h:SlR H l v) (hp:z0o E H pend) (hk:den P X k (E++[txt l]) H L K) :
  den P X (.sem (.convert s t x) ty args (.sc .str) pend k) E H L K:=by
 show wpS P (execOp (argEv E args) (bare _ ty)) _ _ H
 rw [zzj,hx]
 rcases (SlR.mk_iff.1 h).2 with ⟨rfl,rfl⟩ | ⟨a,c,rfl,h1,h2,h3⟩
 ·exact zvc hs ht he ⟨[_],rfl,rfl,hp,hk⟩
 ·refine Z6k hs ht he (fun j u hu=>?_) ⟨[_],rfl,rfl,hp,hk⟩
  rw [zem] at hu
  cases hb:l[j]? with
  | none=>rw [hb] at hu;cases hu
  | some b=>
   rw [hb] at hu
   obtain ⟨cs,h4,h5⟩:=RepRows.get h3 hb
   obtain ⟨v1,_,rfl,h6,rfl⟩:=h4
   have:=h5 0 v1 rfl
   have e1:v1=.int .u8 (b.toNat:Int):=h6.1
   rw [e1] at this
   cases hu
   have e2:(a.add (j * sz UInt8)).add 0=a.add j:=by
    show Addr.add (Addr.add a (j * 1)) 0=a.add j
    simp [Addr.add]
   rw [e2] at this
   exact this
theorem zay:∀{l:List Int},l.length=32→∃a0 a1 a2 a3 a4 a5 a6 a7 a8 a9 b0 b1 b2 b3 b4 b5 b6 b7 b8 b9 c0 c1 c2 c3 c4 c5 c6 c7 c8 c9 d0 d1,l=[a0,a1,a2,a3,a4,a5,a6,a7,a8,a9,b0,b1,b2,b3,b4,b5,b6,b7,b8,b9,c0,c1,c2,c3,c4,c5,c6,c7,c8,c9,d0,d1]:=by
 intro l h
 have step:∀{n:Nat} {l:List Int},l.length=n+1→∃a t,l=a::t∧t.length=n:=by
  intro n l h
  cases l with
  | nil=>cases h
  | cons a t=>exact ⟨a,t,rfl,by simpa using h⟩
 obtain ⟨a0,l1,rfl,h1⟩:=step h
 obtain ⟨a1,l2,rfl,h2⟩:=step h1
 obtain ⟨a2,l3,rfl,h3⟩:=step h2
 obtain ⟨a3,l4,rfl,h4⟩:=step h3
 obtain ⟨a4,l5,rfl,h5⟩:=step h4
 obtain ⟨a5,l6,rfl,h6⟩:=step h5
 obtain ⟨a6,l7,rfl,h7⟩:=step h6
 obtain ⟨a7,l8,rfl,h8⟩:=step h7
 obtain ⟨a8,l9,rfl,h9⟩:=step h8
 obtain ⟨a9,l10,rfl,h10⟩:=step h9
 obtain ⟨b0,l11,rfl,h11⟩:=step h10
 obtain ⟨b1,l12,rfl,h12⟩:=step h11
 obtain ⟨b2,l13,rfl,h13⟩:=step h12
 obtain ⟨b3,l14,rfl,h14⟩:=step h13
 obtain ⟨b4,l15,rfl,h15⟩:=step h14
 obtain ⟨b5,l16,rfl,h16⟩:=step h15
 obtain ⟨b6,l17,rfl,h17⟩:=step h16
 obtain ⟨b7,l18,rfl,h18⟩:=step h17
 obtain ⟨b8,l19,rfl,h19⟩:=step h18
 obtain ⟨b9,l20,rfl,h20⟩:=step h19
 obtain ⟨c0,l21,rfl,h21⟩:=step h20
 obtain ⟨c1,l22,rfl,h22⟩:=step h21
 obtain ⟨c2,l23,rfl,h23⟩:=step h22
 obtain ⟨c3,l24,rfl,h24⟩:=step h23
 obtain ⟨c4,l25,rfl,h25⟩:=step h24
 obtain ⟨c5,l26,rfl,h26⟩:=step h25
 obtain ⟨c6,l27,rfl,h27⟩:=step h26
 obtain ⟨c7,l28,rfl,h28⟩:=step h27
 obtain ⟨c8,l29,rfl,h29⟩:=step h28
 obtain ⟨c9,l30,rfl,h30⟩:=step h29
 obtain ⟨d0,l31,rfl,h31⟩:=step h30
 obtain ⟨d1,l32,rfl,h32⟩:=step h31
 exact ⟨a0,a1,a2,a3,a4,a5,a6,a7,a8,a9,b0,b1,b2,b3,b4,b5,b6,b7,b8,b9,c0,c1,c2,c3,c4,c5,c6,c7,c8,c9,d0,d1,by rw [List.length_eq_zero_iff.1 h32]⟩
def z8x (code:List W32) (limit st:Int) (m:MaR):HaltR:=if st=6 then z5l (goR code (limit - m.steps).toNat m) else z5l (st,m)
theorem zwy {code:List W32} {limit st:Int} {m:MaR} (h:¬(st=6∧m.steps < limit)):z8x code limit st m=z5l (st,m):=by
 unfold z8x
 by_cases h6:st=6
 ·rw [if_pos h6,show (limit - m.steps).toNat=0 by omega,h6];rfl
 ·rw [if_neg h6]
theorem Z8r {code:List W32} {limit:Int} {m:MaR} (h:m.steps < limit):z8x code limit 6 m =
  if m.pc < 0∨(code.length:Int)≤m.pc then z5l (3,m)
  else match decR (code.getD m.pc.toNat ⟨0⟩).n with
   | none=>z5l (1,m)
   | some x=>z8x code limit (stR m x).1 (stR m x).2:=by
 obtain ⟨k,hk⟩:∃k,(limit - m.steps).toNat=k+1:=⟨(limit - m.steps).toNat - 1,by omega⟩
 unfold z8x
 rw [if_pos rfl,hk]
 simp only [goR]
 split
 ·rfl
 ·cases hd:decR (code.getD m.pc.toNat ⟨0⟩).n with
  | none=>rfl
  | some x=>
   simp only []
   rcases (Z0c m x).2.1 with ⟨h1,h2⟩ | ⟨h1,_⟩
   ·rw [if_pos h1,if_pos h1,show (limit - (stR m x).2.steps).toNat=k by omega]
   ·rw [if_neg h1,if_neg h1]
theorem Zcz {i:ImgR} {input:List UInt8} {steps:Int} (h:zmd i steps=false):runR i input steps=z8x i.code steps 6 (z4i i input):=by
 unfold runR z8x
 rw [if_neg (by rw [h];exact Bool.false_ne_true),if_pos rfl]
 show _=z5l (goR i.code (steps - 0).toNat _)
 rw [Int.sub_zero]
section
variable {P:Program} {Ψ:Value→PH→Prop} {H:PH}
theorem Z40 {op:BinOp} {t:TypeId} {x y:Operand} {u v:Array Value} (hop:op=.eql∨op=.neq) (hg:P.eqGuardType P.depth t=false) {Ξ:Unit→PH→Prop}:wpS P (eqGuard op t x y (.agg u) (.agg v)) Ξ Ψ H=Ξ () H:=by
 rcases hop with rfl | rfl
 ·show wpS P (if (!P.eqGuardType P.depth t)=true then _ else _) Ξ Ψ H=_
  rw [if_pos (by rw [hg];rfl)];rfl
 ·show wpS P (if (!P.eqGuardType P.depth t)=true then _ else _) Ξ Ψ H=_
  rw [if_pos (by rw [hg];rfl)];rfl
theorem zyq {X:List PanicEntry→PH→Prop} {β:Type} {E:List Value} {L:LK} {K:β→List Value→PH→LK→Prop} {t U ty:TypeId} {fs:List Field} {asu bs:List Value} {x y:Operand} {args:List (Nat×VE)} {k:Fm β} (ht:P.underlying t=some (.struct fs.toArray)) (hheld:P.stoodInHeld t=false) (hg:P.eqGuardType P.depth t=false) (ho:OffB 0 fs=true)
  (hx:argEv E args x=.agg asu.toArray) (hy:argEv E args y=.agg bs.toArray) (hf:FitB P fs asu bs=true) (hk:den P X k (E++[.bool (z4x asu bs)]) H L K):den P X (.sem (.binOp .eql t x y U) ty args (.sc .bool) [] k) E H L K:=by
 show wpS P (execOp (argEv E args) (bare _ ty)) _ _ H
 rw [Z67,hx,hy,Z40 (.inl rfl) hg]
 show wpS P (do pure (Value.bool (←Op.equal t (.agg asu.toArray) (.agg bs.toArray))):Sem Value) _ _ H
 rw [z06]
 show wpS P (Op.equalIn (9998+2) t _ _) _ _ H
 rw [zru ht hheld ho hf]
 exact ⟨[_],rfl,rfl,z01,hk⟩
end
noncomputable def insFieldsQ:Array Field:=match Tryz.prog.underlying 118 with
 | some (.struct fs)=>fs
 | _=>#[]
theorem Zf4:Tryz.prog.underlying 118=some (.struct insFieldsQ.toList.toArray):=by kernel_rfl
theorem Zbu:Tryz.prog.stoodInHeld 118=false:=by kernel_rfl
theorem Z8f:Tryz.prog.eqGuardType Tryz.prog.depth 118=false:=by kernel_rfl
theorem Zec:OffB 0 insFieldsQ.toList=true:=by kernel_rfl
theorem Zdq (a b:InsR):FitB Tryz.prog insFieldsQ.toList (insV a) (insV b)=true:=by kernel_rfl
theorem eqIns (a b:InsR):z4x (insV a) (insV b)=decide (a=b):=by
 obtain ⟨a1,a2,a3,a4,a5⟩:=a
 obtain ⟨b1,b2,b3,b4,b5⟩:=b
 have:z4x (insV ⟨a1,a2,a3,a4,a5⟩) (insV ⟨b1,b2,b3,b4,b5⟩)=(decide (a1=b1) && (decide (a2=b2) && (decide (a3=b3) && (decide (a4=b4) && (decide (a5=b5) && true))))):=by
  simp [z4x,zdo]
  rw [show (a1 == b1)=decide (a1=b1) from rfl,show (a2 == b2)=decide (a2=b2) from rfl,show (a3 == b3)=decide (a3=b3) from rfl,show (a4 == b4)=decide (a4=b4) from rfl,show (a5 == b5)=decide (a5=b5) from rfl]
 rw [this]
 by_cases h1:a1=b1<;>by_cases h2:a2=b2<;>by_cases h3:a3=b3<;>by_cases h4:a4=b4<;>by_cases h5:a5=b5<;>simp [h1,h2,h3,h4,h5]
theorem Z7e {X:List PanicEntry→PH→Prop} {β:Type} {E:List Value} {L:LK} {K:β→List Value→PH→LK→Prop} {H:PH} {U ty:TypeId} {a b:InsR} {x y:Operand} {args:List (Nat×VE)} {k:Fm β} (hx:argEv E args x=.agg (insV a).toArray) (hy:argEv E args y=.agg (insV b).toArray) (hk:den Tryz.prog X k (E++[.bool (decide (a=b))]) H L K):den Tryz.prog X (.sem (.binOp .eql 118 x y U) ty args (.sc .bool) [] k) E H L K:=
 zyq Zf4 Zbu Z8f Zec hx hy (Zdq a b) (by rw [eqIns];exact hk)
theorem Zdy (o:Option Int):decide ((encE o)=0)=o.isSome:=by cases o<;>rfl
theorem zni (n:Int) (k:Nat) (hk:k≤64):arI .shr .i64 n (k:Int)=shrR n k:=by
 show n.fdiv (2 ^ (min (k:Int).toNat 64))=_
 rw [Int.toNat_natCast,Nat.min_eq_left hk];rfl
theorem zmu (n:Int):1≤z4k n∧z4k n≤4:=by
 unfold z4k
 repeat' split
 all_goals omega
theorem Zf2 (n:Int):arI .and .i64 n 65535=n % 65536:=zdm n 16 (by omega)
theorem Z0b (r n:Int):∀k,(restR r n k).length=k
 | 0=>rfl
 | k+1=>by simp only [restR,zlc,Z0b r n k]
def topR (r n:Int) (k:Nat):InsR:=⟨20,r,0,0,(shrR n (16 * (k - 1))+32768) % 65536 - 32768⟩
theorem Zcs {op:Int}:InI (zb4 op):=by unfold zb4;exact z1o (by decide) (z1o (by decide) (z1o (by decide) (by decide)))
theorem Zeq {x:ItemR} (h:mayR x=true) (hk:x.kind=2):24≤x.x.op∧x.x.op≤27:=by
 unfold mayR at h
 rw [if_neg (by omega),if_neg (by omega),if_pos hk] at h
 simp only [zba,zdt] at h
 omega
abbrev plI (p:List Nat):List Int:=p.map fun k:Nat=>(k:Int)
theorem Z4y (x:ItemR) (b:Bool):sizeR x b≤4:=by
 have:=(zmu x.n).2
 unfold sizeR
 repeat' split
 all_goals omega
theorem z9e:∀(l:List ItemR) (long:List Bool) (a:Nat),long.length=l.length→(z0m a l long).length=l.length+1
 | [],[],_,_=>rfl
 | x::l,b::long,a,h=>by
  simp only [z0m,zlc]
  rw [z9e l long _ (by simpa using h)]
 | [],_::_,_,h=>by simp at h
 | _::_,[],_,h=>by simp at h
theorem zf9:∀(l:List ItemR) (long:List Bool) (a:Nat),∀q∈z0m a l long,q≤a+4 * l.length
 | x::l,b::long,a,q,hq=>by
  simp only [z0m,zmc] at hq
  rcases hq with rfl | hq
  ·omega
  ·have:=zf9 l long _ q hq
   have:=Z4y x b
   simp only [zlc];omega
 | [],long,a,q,hq=>by
  cases long<;>simp only [z0m,zsi] at hq<;>omega
 | _::_,[],a,q,hq=>by
  simp only [z0m,zsi] at hq;omega
theorem Z4m {l:List ItemR} {long:List Bool} {k:Nat} {x:ItemR} {b:Bool} (hx:l[k]?=some x) (hb:long[k]?=some b):(l.zipIdx.zip long)[k]?=some ((x,k),b):=by
 rw [List.getElem?_zip_eq_some]
 exact ⟨by rw [List.getElem?_zipIdx,hx];simp,hb⟩
theorem zpt {l:List ItemR} {p:List Nat} {long:List Bool} (h:long.length=l.length):(growR l p long).length=l.length:=by
 simp [growR,h]
theorem Z12 {l:List ItemR} {p:List Nat} {long:List Bool} {k:Nat} {x:ItemR} {b:Bool} (hx:l[k]?=some x) (hb:long[k]?=some b):(growR l p long)[k]?=some (b || farR l p k x):=by
 rw [growR,zem,Z4m hx hb];rfl
def cntF (l:List Bool):Nat:=(l.filter fun b=>!b).length
theorem Z1e:∀(a b:List Bool),a.length=b.length→(∀k:Nat,a[k]?=some true→b[k]?=some true)→cntF b≤cntF a∧(b≠a→cntF b < cntF a)
 | [],[],_,_=>⟨Nat.le_refl _,fun h=>absurd rfl h⟩
 | x::a,y::b,hl,hk=>by
  have ih:=Z1e a b (by simpa using hl) fun k h=>by simpa using hk (k+1) (by simpa using h)
  have h0:=hk 0
  simp only [List.getElem?_cons_zero,Option.some.injEq] at h0
  unfold cntF at *
  cases x<;>cases y<;>simp at h0 ⊢
  ·exact ⟨ih.1,ih.2⟩
  ·exact ⟨by omega,by omega⟩
  ·exact ⟨ih.1,ih.2⟩
 | [],_::_,h,_=>by simp at h
 | _::_,[],h,_=>by simp at h
theorem Zc9 {l:List ItemR} {p:List Nat} {long:List Bool} (h:long.length=l.length) (hn:growR l p long≠long):cntF (growR l p long) < cntF long:=by
 refine (Z1e long (growR l p long) (by rw [zpt h,h]) fun k hk=>?_).2 hn
 obtain ⟨x,hx⟩:∃x,l[k]?=some x:=⟨_,zge (by have:=(zgi.1 hk).1;omega)⟩
 rw [Z12 hx hk];rfl
theorem Z4x {l:List ItemR} {label:Int} {k:Nat} (h:findR l label=some k):k < l.length:=by
 unfold findR at h
 rw [List.findIdx?_eq_some_iff_getElem] at h
 exact h.1
theorem Z4t {α:Type} (A:List α) (b v:α) (B:List α):(A++b::B).set A.length v=A++v::B:=by
 rw [List.set_append_right _ _ (Nat.le_refl _),Nat.sub_self,List.set_cons_zero]
def errA:Except AsmE (List W32×List Nat)→Int
 | .ok _=>0
 | .error .many=>213
 | .error .form=>210
 | .error .twice=>211
 | .error .none_=>212
def codeA:Except AsmE (List W32×List Nat)→List W32
 | .ok x=>x.1
 | .error _=>[]
def Z5a:Except AsmE (List W32×List Nat)→List Nat
 | .ok x=>x.2
 | .error _=>[]
theorem Zde (x:InsR):InU ((encR x).getD 0):=by
 cases h:encR x with
 | none=>unfold InU;simp
 | some w=>
  have ok:=Zar h
  unfold encR at h
  obtain ⟨o1,o2,o3,o4,o5,_⟩:=ok
  rw [if_neg (by omega)] at h
  split at h
  ·rename_i hf
   simp only [Option.some.injEq] at h
   have hk:=Z0m x.op
   unfold fitsR at hf
   simp only [zba,zdt] at hf
   have h2:(2:Int) ^ (frmR x.op).bits≤2097152:=by
    rcases hk.bits with h | h | h | h<;>rw [h]<;>decide
   have h5:=hk.lo
   have h6:=hk.fit
   have hm:0≤(if x.n < 0 then x.n+2 ^ (frmR x.op).bits else x.n)∧(if x.n < 0 then x.n+2 ^ (frmR x.op).bits else x.n)≤2097152:=by
    by_cases hn:x.n < 0
    ·rw [if_pos hn]
     have hb0:(frmR x.op).bits≠0:=fun h=>by have:=h5 h;omega
     have:=h6 hb0
     omega
    ·rw [if_neg hn];omega
   generalize (if x.n < 0 then x.n+2 ^ (frmR x.op).bits else x.n)=m at *
   unfold wordR at h
   unfold InU
   simp only [Option.getD_some]
   omega
  ·cases h
theorem Zdg (r n:Int) (k:Nat) (h:1≤k):(numR r n k).length=k:=by
 simp only [numR,zlc,Z0b];omega
theorem Z6y (x:ItemR) (b:Bool) (a t:Int):(z7m x b a t).length≤4:=by
 have h1:=zmu x.n
 unfold z7m
 repeat' split
 all_goals first | (simp;done) | (rw [Zdg _ _ _ (by omega)];omega)
abbrev partC (l:List ItemR) (p:List Nat) (x:(ItemR×Nat)×Bool):List W32:=(z7m x.1.1 x.2 ((p.getD x.1.2 0:Nat):Int) (toR l p x.1.1)).map z31
theorem Zca (seen:List ItemR) (x:ItemR) (l:List ItemR):badR seen (x::l)=if mayR x=false then 1 else if x.kind=1∧(findR seen x.label).isSome=true then 2 else badR (seen++[x]) l:=rfl
theorem uU32s:Tryz.prog.underlying 53=some (.slice 121):=by kernel_rfl
theorem Zdc:ElemOk Tryz.prog 121 1 4=true:=by kernel_rfl
theorem csW {S:PH} {w:W32} (h:InU w.n):CsR S w [.int .u32 w.n]:=w32_iff.2 ⟨rfl,h⟩
theorem Z7y {l:List ItemR} {p:List Nat} (hp:∀q∈p,q≤4 * l.length) (hs:l.length≤65536) (x:ItemR):0≤toR l p x∧toR l p x≤1099511627776:=by
 unfold toR
 split
 ·rw [zgd]
  cases h:p[(findR l x.label).getD 0]? with
  | none=>simp
  | some q=>have:=hp q (zmg h);simp only [Option.getD_some];omega
 ·omega
def memR (stack size:Int):List Int:=((((List.replicate 32 0).set 28 (32+stack)).set 29 (32+stack+size)).set 30 (32+stack+size)).set 31 (32+stack+2 * size)
def imgR (l:List ItemR) (stack size:Int):ImgR:=⟨codeA (asmR l),memR stack size,32+stack+2 * size⟩
theorem Z8k:Tryz.prog.underlying 50=some (.slice 131):=by kernel_rfl
theorem Zbm:ElemOk Tryz.prog 131 8 64=true:=by kernel_rfl
structure ValW where
 kind:Int
 int:Int
 text:List UInt8
def isW (n:Int):Bool:=decide (-1152921504606846976≤n) && decide (n≤1152921504606846975)
def wordX (v:ValW) (symbols:List (List UInt8)):Option Int:=
 if v.text≠[]∧v.kind≠3 then none
 else if v.kind=0 then (if v.int=0∨v.int=1 then some (8 * v.int+2) else none)
 else if v.kind=1 then (if isW v.int=true then some (8 * v.int) else none)
 else if v.kind=2 then (if 0≤v.int∧v.int≤255 then some (8 * (256+v.int)+2) else none)
 else if v.kind=3 then (if v.int=0 then (symbols.findIdx? (fun s=>decide (s=v.text))).map (fun (i:Nat)=>IntKind.i64.wrap (8 * (i:Int)+3)) else none)
 else if v.kind=4∨v.kind=5∨v.kind=6∨v.kind=7 then (if v.int=0 then some (8 * (v.kind - 2)+2) else none)
 else none
theorem Zf1 {H:PH} {a:List UInt8} {cs:List Value} (h:CsR H a cs):cs=[txt a]:=by
 have h':PV.RepRow H [.str a] cs:=h
 simp only [PV.RepRow,za0] at h'
 obtain ⟨v,vs,rfl,⟨rfl,_⟩,rfl⟩:=h'
 rfl
theorem or8 {n t:Int} (h0:0≤n) (h1:n≤1152921504606846975) (t0:0≤t) (t1:t < 8):arI .or .i64 (8 * n) t=8 * n+t:=by
 show IntKind.i64.wrap (((BitVec.ofInt 64 (8 * n) ||| BitVec.ofInt 64 t).toNat:Nat):Int)=_
 obtain ⟨k,rfl⟩:∃k:Nat,n=(k:Int):=⟨n.toNat,by omega⟩
 obtain ⟨j,rfl⟩:∃j:Nat,t=(j:Int):=⟨t.toNat,by omega⟩
 have e1:(BitVec.ofInt 64 (8 * (k:Int))).toNat=8 * k:=by
  rw [BitVec.toNat_ofInt];omega
 have e2:(BitVec.ofInt 64 (j:Int)).toNat=j:=by
  rw [BitVec.toNat_ofInt];omega
 rw [BitVec.toNat_or,e1,e2]
 have e3:=Nat.two_pow_add_eq_or_of_lt (i:=3) (b:=j) (by omega) k
 rw [show (2:Nat) ^ 3=8 from rfl] at e3
 rw [←e3,w64 (by omega) (by omega)]
 omega
theorem shl3 {n:Int} (h0:-1152921504606846976≤n) (h1:n≤1152921504606846975):arI .shl .i64 n 3=8 * n:=by
 show IntKind.i64.wrap (n * 2 ^ (min (3:Int).toNat 64))=_
 rw [show (2:Int) ^ (min (3:Int).toNat 64)=8 from rfl,w64 (by omega) (by omega)];omega
theorem zpn (n:Int):IntKind.i64.wrap n=(n+9223372036854775808) % 18446744073709551616 - 9223372036854775808:=by
 have:IntKind.i64.wrap n=if 9223372036854775808≤n % 18446744073709551616 then n % 18446744073709551616 - 18446744073709551616 else n % 18446744073709551616:=by
  simp only [IntKind.wrap,IntKind.bits,IntKind.signed];simp
 rw [this]
 split<;>omega
theorem or3 (k:Nat):arI .or .i64 (arI .shl .i64 (k:Int) 3) 3=IntKind.i64.wrap (8 * (k:Int)+3):=by
 show IntKind.i64.wrap (((BitVec.ofInt 64 (IntKind.i64.wrap ((k:Int) * 2 ^ (min (3:Int).toNat 64))) ||| BitVec.ofInt 64 3).toNat:Nat):Int)=_
 rw [show (2:Int) ^ (min (3:Int).toNat 64)=8 from rfl]
 have e1:(BitVec.ofInt 64 (IntKind.i64.wrap ((k:Int) * 8))).toNat=8 * (k % 2305843009213693952):=by
  rw [BitVec.toNat_ofInt,zpn];omega
 have e2:(BitVec.ofInt 64 3).toNat=3:=by decide
 rw [BitVec.toNat_or,e1,e2]
 have e3:8 * (k % 2305843009213693952) ||| 3=8 * (k % 2305843009213693952)+3:=by
  have:=Nat.two_pow_add_eq_or_of_lt (i:=3) (b:=3) (by decide) (k % 2305843009213693952)
  rw [show (2:Nat) ^ 3=8 from rfl] at this
  exact this.symm
 rw [e3,zpn,zpn];omega
theorem z3d (n:Int) (H:PH) (h:0≤n∧n≤100000):Gives Tryz.prog zie [.int .i64 n] H (.int .i64 (8 * n+2)):=by
 refine zpm [.int .i64 n] (by kernel_rfl) (by kernel_rfl) ?_
 refine ⟨?_,PH.le_refl _⟩
 show Ending.returned (.int .i64 (arI .or .i64 (arI .shl .i64 n 3) 2))=_
 rw [shl3 (by omega) (by omega),or8 (by omega) (by omega) (by omega) (by omega)]
theorem Z1s (n:Int) (H:PH):Gives Tryz.prog zr8 [.int .i64 n] H (.bool (isW n)):=by
 refine zo5 [.int .i64 n] (by kernel_rfl) (by kernel_rfl) ?_
 exact ⟨by simp only [evs,arI,zb5,isW,ge_iff_le],PH.le_refl _⟩
theorem isW_iff {n:Int}:isW n=true↔-1152921504606846976≤n∧n≤1152921504606846975:=by simp [isW]
theorem arOr0 {n:Int} (h:InI n):arI .or .i64 n 0=n:=by
 show IntKind.i64.wrap (((BitVec.ofInt 64 n ||| BitVec.ofInt 64 0).toNat:Nat):Int)=_
 rw [show BitVec.ofInt 64 0=0#64 from rfl,BitVec.or_zero,BitVec.toNat_ofInt]
 obtain ⟨h0,h1⟩:=h
 have hp:(0:Int)≤n % (2 ^ 64:Nat):=Int.emod_nonneg _ (by decide)
 rw [Int.toNat_of_nonneg hp,zqp]
 split<;>omega
theorem zxu (n:Int) (H:PH):Gives Tryz.prog Z7c [.int .i64 n] H (.tuple #[.int .i64 (if isW n=true then 8 * n else 0),.int .i64 (if isW n=true then 0 else 10)]):=by
 refine Z16 [.int .i64 n] (by kernel_rfl) (by kernel_rfl) ?_
 refine z05 [.bool (isW n)] zps (Z1s n H) rfl z01 fun K l=>?_
 simp only [cns]
 refine ⟨fun g=>?_,fun g=>?_⟩
 ·simp only [evs,arI,zb5,Bool.not_eq_true'] at g
  rw [if_neg (by rw [g];exact Bool.false_ne_true),if_neg (by rw [g];exact Bool.false_ne_true)]
  exact ⟨rfl,l⟩
 ·simp only [evs,arI,zb5,Bool.not_eq_false'] at g
  rw [if_pos g,if_pos g]
  have hb:=isW_iff.1 g
  refine z05 [.int .i64 (8 * n)] Z3h ?_ rfl z01 fun K2 l2=>⟨rfl,PH.le_trans l l2⟩
  refine Z05 [.int .i64 0,.int .i64 n] (by kernel_rfl) (by kernel_rfl) ?_
  refine ⟨?_,PH.le_refl _⟩
  show Ending.returned (.int .i64 (arI .or .i64 (arI .shl .i64 n 3) 0))=_
  rw [shl3 (by omega) (by omega),arOr0 (by unfold InI;omega)]
  rfl
def zls (l:List (List UInt8)) (s:List UInt8):Int:=match l.findIdx? (fun x=>decide (x=s)) with
 | none=>-1
 | some k=>(k:Int)
theorem Z01 (l:List (List UInt8)) (s:List UInt8) (v:Value) (H:PH) (hl:SlR H l v):Gives Tryz.prog z8q [v,txt s] H (.int .i64 (zls l s)):=by
 obtain ⟨b,c,rfl⟩:=hl.sl
 have hmx:maxLen=9223372036854775807:=rfl
 have hlm:=hl.max
 refine z6u [.slice b l.length c,txt s] (by kernel_rfl) (by kernel_rfl) ?_
 refine ⟨fun n vs K=>∃k:Nat,k+n=l.length∧vs=[.int .i64 0,nI k]∧K=H∧∀(i:Nat) (x:List UInt8),i < k→l[i]?=some x→x≠s,⟨l.length,0,by omega,rfl,rfl,fun i x hi=>absurd hi (by omega)⟩,?_⟩
 rintro n vs K _ ⟨k,hkn,rfl,rfl,hno⟩
 simp only [cns]
 refine ⟨fun g=>?_,fun g=>?_⟩
 ·simp only [evs,arI,zb5,zdt] at g
  obtain ⟨x,hx⟩:∃x,l[k]?=some x:=⟨_,zge (by omega)⟩
  obtain ⟨y1,_,cs,y2,y3⟩:=hl.get hx
  obtain rfl:=Zf1 y2
  refine ⟨fun _=>?_,[txt x],rfl,by simp only [evs,arI,zb5];exact y3,fun g2=>?_,fun g2=>?_⟩
  ·simp only [Chk.holds,evs,arI,zb5];exact ⟨y1,by omega,by omega⟩
  ·simp only [evs,arI,zb5,z1h,zdt] at g2
   refine ⟨?_,PH.le_refl _⟩
   have:l.findIdx? (fun x=>decide (x=s))=some k:=by
    rw [List.findIdx?_eq_some_iff_getElem]
    have hkl:k < l.length:=(zgi.1 hx).1
    refine ⟨hkl,by rw [(zgi.1 hx).2];simp [g2],fun j hj=>?_⟩
    have:=hno j l[j] hj (zge (by omega))
    simpa using this
   unfold zls
   rw [this];rfl
  ·simp only [evs,arI,zb5,z1h,zdf] at g2
   refine ⟨_,z00,n - 1,by omega,k+1,by omega,?_,rfl,fun i y hi hy=>?_⟩
   ·have hw:IntKind.i64.wrap ((k:Int)+1)=((k+1:Nat):Int):=by rw [w64 (by omega) (by omega)];rfl
    simp only [evs,arI,zb5,hw]
   ·rcases Nat.lt_succ_iff_lt_or_eq.1 hi with hi | rfl
    ·exact hno i y hi hy
    ·rw [hx] at hy;cases hy;exact fun h=>g2 h.symm
 ·simp only [evs,arI,zb5,zdf] at g
  refine ⟨?_,PH.le_refl _⟩
  have:l.findIdx? (fun x=>decide (x=s))=none:=by
   rw [List.findIdx?_eq_none_iff]
   intro y hy
   obtain ⟨i,hi⟩:=List.getElem?_of_mem hy
   have:=hno i y (by have:=(zgi.1 hi).1;omega) hi
   simpa using this
  unfold zls
  rw [this];rfl
abbrev valW (v:ValW):List Value:=[.int .i64 v.kind,.int .i64 v.int,txt v.text]
theorem zy7 (v:ValW) (l:List (List UInt8)) (lv:Value) (H:PH) (hl:SlR H l lv):Gives Tryz.prog Z6g [.agg (valW v).toArray,lv] H (.tuple #[.int .i64 ((wordX v l).getD 0),.bool (wordX v l).isSome]):=by
 obtain ⟨b,c,rfl⟩:=hl.sl
 refine zzl (valW v++[.slice b l.length c]) (by kernel_rfl) (by kernel_rfl) ?_
 simp only [cns]
 generalize hw:wordX v l=w
 unfold wordX at hw
 refine ⟨fun g=>?_,fun g=>?_⟩
 ·simp only [evs,arI,zb5,z2j] at g
  simp only [Bool.or_eq_true,zba,zdt] at g
  have:w=none:=by
   rw [←hw]
   by_cases h0:v.text≠[]∧v.kind≠3
   ·rw [if_pos h0]
   ·rw [if_neg h0]
    have g2:((v.kind≠1∧v.kind≠2)∧v.kind≠0)∧v.int≠0:=by
     rcases g with g | g
     ·exact absurd ⟨g.2,g.1⟩ h0
     ·exact g
    rw [if_neg g2.1.2,if_neg g2.1.1.1,if_neg g2.1.1.2]
    by_cases h3:v.kind=3
    ·rw [if_pos h3,if_neg g2.2]
    ·rw [if_neg h3]
     split
     ·rw [if_neg g2.2]
     ·rfl
  rw [this]
  exact ⟨rfl,PH.le_refl _⟩
 simp only [evs,arI,zb5,z2j] at g
 simp only [zof,Bool.and_eq_false_iff,zdf] at g
 have n0:¬(v.text≠[]∧v.kind≠3):=by
  rintro ⟨h1,h2⟩
  rcases g.1 with g | g
  ·exact g h2
  ·exact g h1
 have ni:v.kind=1∨v.kind=2∨v.kind=0∨v.int=0:=by
  rcases g.2 with (g | g) | g<;>omega
 rw [if_neg n0] at hw
 have ret0:∀{K:PH},w=none→PH.le H K→(Ending.returned (.tuple #[.int .i64 0,.bool false])=.returned (.tuple #[.int .i64 (w.getD 0),.bool w.isSome])∧PH.le H K):=fun h l=>by rw [h];exact ⟨rfl,l⟩
 refine ⟨fun vs K=>vs=[]∧PH.le H K∧w=none,?_,?_⟩
 ·rintro vs K _ ⟨rfl,l,h⟩
  exact ret0 h l
 refine ⟨fun g1=>?_,fun g1=>?_⟩
 ·simp only [evs,arI,zb5,zdt] at g1
  rw [if_neg (by omega),if_pos g1] at hw
  refine z05 [.int .i64 (if isW v.int=true then 8 * v.int else 0),.int .i64 (if isW v.int=true then 0 else 10)] Z2w (zxu v.int H) rfl z01 fun K l=>?_
  rw [←hw]
  by_cases h:isW v.int=true
  ·simp only [if_pos h];exact ⟨rfl,l⟩
  ·simp only [if_neg h];exact ⟨rfl,l⟩
 simp only [evs,arI,zb5,zdf] at g1
 refine ⟨fun g2=>?_,fun g2=>?_⟩
 ·simp only [evs,arI,zb5,zdt] at g2
  rw [if_pos g2] at hw
  have e1:=and_1 v.int
  simp only [arI] at e1
  refine ⟨fun g3=>?_,fun g3=>?_⟩
  ·simp only [evs,arI,zb5,e1,zdt] at g3
   have h3:v.int=0∨v.int=1:=by omega
   rw [if_pos h3] at hw
   refine z05 [.int .i64 (8 * v.int+2)] z2y (z3d v.int H (by omega)) rfl z01 fun K l=>?_
   rw [←hw];exact ⟨rfl,l⟩
  ·simp only [evs,arI,zb5,e1,zdf] at g3
   rw [if_neg (by omega)] at hw
   exact ⟨_,z00,rfl,PH.le_refl _,hw.symm⟩
 simp only [evs,arI,zb5,zdf] at g2
 rw [if_neg g2,if_neg g1] at hw
 refine ⟨fun g3=>?_,fun g3=>?_⟩
 ·simp only [evs,arI,zb5,zdt] at g3
  rw [if_pos g3] at hw
  have e1:=ztz v.int
  simp only [arI] at e1
  refine ⟨fun g4=>?_,fun g4=>?_⟩
  ·simp only [evs,arI,zb5,e1,zdt] at g4
   have h3:0≤v.int∧v.int≤255:=by omega
   rw [if_pos h3] at hw
   refine z05 [.int .i64 (8 * (256+v.int)+2)] z2y ?_ rfl z01 fun K l=>?_
   ·have:=z3d (256+v.int) H (by omega)
    have e2:arI .add .i64 256 v.int=256+v.int:=w64 (by omega) (by omega)
    have e3:Gives Tryz.prog zie [.int .i64 (arI .add .i64 256 v.int)] H (.int .i64 (8 * (256+v.int)+2)):=by rw [e2];exact this
    exact e3
   ·rw [←hw];exact ⟨rfl,l⟩
  ·simp only [evs,arI,zb5,e1,zdf] at g4
   rw [if_neg (by omega)] at hw
   exact ⟨_,z00,rfl,PH.le_refl _,hw.symm⟩
 simp only [evs,arI,zb5,zdf] at g3
 rw [if_neg g3] at hw
 have hi0:v.int=0:=by omega
 refine ⟨fun g4=>?_,fun g4=>?_⟩
 ·simp only [evs,arI,zb5,zdt] at g4
  rw [if_pos g4,if_pos hi0] at hw
  refine z05 [.int .i64 (zls l v.text)] z7i (Z01 l v.text _ H hl) rfl z01 fun K l'=>?_
  unfold zls
  cases hf:l.findIdx? (fun x=>decide (x=v.text)) with
  | none=>
   rw [hf] at hw
   refine ⟨fun g5=>?_,fun g5=>?_⟩
   ·simp [evs,arI,zb5] at g5
   ·exact ⟨_,z00,rfl,l',hw.symm⟩
  | some k=>
   rw [hf] at hw
   have hk:k < l.length:=by
    rw [List.findIdx?_eq_some_iff_getElem] at hf;exact hf.1
   refine ⟨fun g5=>?_,fun g5=>?_⟩
   ·refine ⟨?_,l'⟩
    rw [←hw]
    show Ending.returned (.tuple #[.int .i64 (arI .or .i64 (arI .shl .i64 (k:Int) 3) 3),.bool true])=_
    rw [or3]
    rfl
   ·simp [evs,arI,zb5] at g5
 simp only [evs,arI,zb5,zdf] at g4
 rw [if_neg g4] at hw
 refine ⟨fun g5=>?_,fun g5=>?_⟩
 ·simp only [evs,arI,zb5,zdt] at g5
  rw [if_pos (by omega),if_pos hi0,g5] at hw
  refine z05 [.int .i64 (8 * 2+2)] z2y (z3d 2 H (by omega)) rfl z01 fun K l=>?_
  rw [←hw];exact ⟨rfl,l⟩
 simp only [evs,arI,zb5,zdf] at g5
 refine ⟨fun g6=>?_,fun g6=>?_⟩
 ·simp only [evs,arI,zb5,zdt] at g6
  rw [if_pos (by omega),if_pos hi0,g6] at hw
  refine z05 [.int .i64 (8 * 3+2)] z2y (z3d 3 H (by omega)) rfl z01 fun K l=>?_
  rw [←hw];exact ⟨rfl,l⟩
 simp only [evs,arI,zb5,zdf] at g6
 refine ⟨fun g7=>?_,fun g7=>?_⟩
 ·simp only [evs,arI,zb5,zdt] at g7
  rw [if_pos (by omega),if_pos hi0,g7] at hw
  refine z05 [.int .i64 (8 * 4+2)] z2y (z3d 4 H (by omega)) rfl z01 fun K l=>?_
  rw [←hw];exact ⟨rfl,l⟩
 simp only [evs,arI,zb5,zdf] at g7
 refine ⟨fun g8=>?_,fun g8=>?_⟩
 ·simp only [evs,arI,zb5,zdt] at g8
  rw [if_pos (by omega),if_pos hi0,g8] at hw
  refine z05 [.int .i64 (8 * 5+2)] z2y (z3d 5 H (by omega)) rfl z01 fun K l=>?_
  rw [←hw];exact ⟨rfl,l⟩
 simp only [evs,arI,zb5,zdf] at g8
 rw [if_neg (by omega)] at hw
 exact ⟨_,z00,rfl,PH.le_refl _,hw.symm⟩
def formQ (op:Int):Int:=
 if op=0∨op=30∨op=31 then 0
 else if 1≤op∧op≤14 then 1
 else if (15≤op∧op≤19)∨op=22∨op=23 then 2
 else if op=20∨op=21 then 3
 else if 24≤op∧op≤27 then 4
 else if op=28 then 5
 else if op=29 then 6
 else 7
def endsQ (op:Int):Int×Int:=
 if op=16∨op=17∨op=21 then (0,65535)
 else if op=18∨op=19 then (0,63)
 else if formQ op=2∨formQ op=3 then (-32768,32767)
 else if formQ op=4 then (-512,511)
 else if formQ op=5 then (-1048576,1048575)
 else (0,0)
def bitsQ (f:Int):Nat:=if f=2∨f=3 then 16 else if f=4 then 10 else if f=5 then 21 else 0
def hasB (f:Int):Bool:=decide (f≠0) && decide (f≠3) && decide (f≠5)
theorem Zco:∀k:Nat,k < 32→formQ (k:Int)≠7∧frmR (k:Int)=⟨true,hasB (formQ (k:Int)),decide (formQ (k:Int)=1),bitsQ (formQ (k:Int)),(endsQ (k:Int)).1,(endsQ (k:Int)).2⟩:=by decide +kernel
theorem Z54 {op:Int} (h0:0≤op) (h1:op < 32):formQ op≠7∧frmR op=⟨true,hasB (formQ op),decide (formQ op=1),bitsQ (formQ op),(endsQ op).1,(endsQ op).2⟩:=by
 obtain ⟨k,rfl⟩:∃k:Nat,op=(k:Int):=⟨op.toNat,by omega⟩
 exact Zco k (by omega)
theorem zq5 {op:Int} (h:op < 0∨32≤op):formQ op=7:=by
 unfold formQ
 rw [if_neg (by omega),if_neg (by omega),if_neg (by omega),if_neg (by omega),if_neg (by omega),if_neg (by omega),if_neg (by omega)]
theorem Zb1 (op:Int):0≤formQ op∧formQ op≤7:=by
 unfold formQ
 repeat' split
 all_goals omega
theorem zc4 (op:Int) (H:PH):Gives Tryz.prog zop [.int .i64 op] H (.int .i64 (formQ op)):=by
 refine zxr [.int .i64 op] (by kernel_rfl) (by kernel_rfl) ?_
 generalize hf:formQ op=f
 unfold formQ at hf
 refine ⟨fun vs K=>vs=[.bool (decide (op=0∨op=30∨op=31))]∧K=H,?_,fun g=>?_,fun g=>?_⟩
 rotate_left
 ·simp only [evs,arI,zb5,zdt] at g
  exact ⟨_,z00,by simp [evs,arI,zb5,g],rfl⟩
 ·simp only [evs,arI,zb5,zdf] at g
  refine ⟨_,z00,?_,rfl⟩
  by_cases g7:op=30<;>simp [evs,arI,zb5,g,g7]
 rintro vs K _ ⟨rfl,rfl⟩
 simp only [cns]
 refine ⟨fun g=>?_,fun g=>?_⟩
 ·simp only [evs,arI,zb5,zdt] at g
  rw [if_pos g] at hf
  exact ⟨by rw [←hf];rfl,PH.le_refl _⟩
 simp only [evs,arI,zb5,zdf] at g
 rw [if_neg g] at hf
 refine ⟨fun g=>?_,fun g=>?_⟩
 ·simp only [evs,arI,zb5] at g
  simp only [zba,zdt] at g
  rw [if_pos (by omega)] at hf
  exact ⟨by rw [←hf];rfl,PH.le_refl _⟩
 simp only [evs,arI,zb5] at g
 simp only [Bool.and_eq_false_iff,zdf] at g
 rw [if_neg (by omega)] at hf
 refine ⟨fun vs K2=>vs=[.bool (decide ((15≤op∧op≤19)∨op=22∨op=23))]∧K2=K,?_,fun g=>?_,fun g=>?_⟩
 rotate_left
 ·simp only [evs,arI,zb5] at g
  simp only [zba,zdt] at g
  refine ⟨_,z00,?_,rfl⟩
  have g1:15≤op:=by omega
  simp [evs,arI,zb5,g1,g.2]
 ·simp only [evs,arI,zb5] at g
  simp only [Bool.and_eq_false_iff,zdf] at g
  have g1:¬(15≤op∧op≤19):=by omega
  refine ⟨_,z00,?_,rfl⟩
  by_cases g7:op=22<;>simp [evs,arI,zb5,g1,g7]
 rintro vs K2 _ ⟨rfl,rfl⟩
 simp only [cns]
 refine ⟨fun g=>?_,fun g=>?_⟩
 ·simp only [evs,arI,zb5,zdt] at g
  rw [if_pos g] at hf
  exact ⟨by rw [←hf];rfl,PH.le_refl _⟩
 simp only [evs,arI,zb5,zdf] at g
 rw [if_neg g] at hf
 refine ⟨fun g=>?_,fun g=>?_⟩
 ·have g:op=20∨op=21:=by
   simp only [evs,arI,zb5] at g
   by_cases h2:op=20
   ·exact .inl h2
   ·simp only [h2,decide_false,Bool.false_eq_true,if_false,zdt] at g;exact .inr g
  rw [if_pos g] at hf
  exact ⟨by rw [←hf];rfl,PH.le_refl _⟩
 have g:¬(op=20∨op=21):=by
  simp only [evs,arI,zb5] at g
  by_cases h2:op=20
  ·simp [h2] at g
  ·simpa [h2] using g
 rw [if_neg g] at hf
 refine ⟨fun g=>?_,fun g=>?_⟩
 ·simp only [evs,arI,zb5] at g
  simp only [zba,zdt] at g
  rw [if_pos (by omega)] at hf
  exact ⟨by rw [←hf];rfl,PH.le_refl _⟩
 simp only [evs,arI,zb5] at g
 simp only [Bool.and_eq_false_iff,zdf] at g
 rw [if_neg (by omega)] at hf
 refine ⟨fun g=>?_,fun g=>?_⟩
 ·simp only [evs,arI,zb5,zdt] at g
  rw [if_pos g] at hf
  exact ⟨by rw [←hf];rfl,PH.le_refl _⟩
 simp only [evs,arI,zb5,zdf] at g
 rw [if_neg g] at hf
 refine ⟨fun g=>?_,fun g=>?_⟩
 ·simp only [evs,arI,zb5,zdt] at g
  rw [if_pos g] at hf
  exact ⟨by rw [←hf];rfl,PH.le_refl _⟩
 simp only [evs,arI,zb5,zdf] at g
 rw [if_neg g] at hf
 exact ⟨by rw [←hf];rfl,PH.le_refl _⟩
theorem zqv (op:Int) (H:PH):Gives Tryz.prog zp0 [.int .i64 op] H (.tuple #[.int .i64 (endsQ op).1,.int .i64 (endsQ op).2]):=by
 refine zy0 [.int .i64 op] (by kernel_rfl) (by kernel_rfl) ?_
 generalize he:endsQ op=e
 unfold endsQ at he
 refine ⟨fun vs K=>vs=[.bool (decide (op=16∨op=17∨op=21))]∧K=H,?_,fun g=>?_,fun g=>?_⟩
 rotate_left
 ·simp only [evs,arI,zb5,zdt] at g
  exact ⟨_,z00,by simp [evs,arI,zb5,g],rfl⟩
 ·simp only [evs,arI,zb5,zdf] at g
  refine ⟨_,z00,?_,rfl⟩
  by_cases g7:op=17<;>simp [evs,arI,zb5,g,g7]
 rintro vs K _ ⟨rfl,rfl⟩
 simp only [cns]
 refine ⟨fun g=>?_,fun g=>?_⟩
 ·simp only [evs,arI,zb5,zdt] at g
  rw [if_pos g] at he
  exact ⟨by rw [←he];rfl,PH.le_refl _⟩
 simp only [evs,arI,zb5,zdf] at g
 rw [if_neg g] at he
 refine ⟨fun g=>?_,fun g=>?_⟩
 ·have g:op=18∨op=19:=by
   simp only [evs,arI,zb5] at g
   by_cases h2:op=18
   ·exact .inl h2
   ·simp only [h2,decide_false,Bool.false_eq_true,if_false,zdt] at g;exact .inr g
  rw [if_pos g] at he
  exact ⟨by rw [←he];rfl,PH.le_refl _⟩
 have g:¬(op=18∨op=19):=by
  simp only [evs,arI,zb5] at g
  by_cases h2:op=18
  ·simp [h2] at g
  ·simpa [h2] using g
 rw [if_neg g] at he
 refine z05 [.int .i64 (formQ op)] z8r (zc4 op K) rfl z01 fun K2 l=>?_
 simp only [cns]
 generalize formQ op=f at *
 refine ⟨fun g=>?_,fun g=>?_⟩
 ·have g:f=2∨f=3:=by
   simp only [evs,arI,zb5] at g
   by_cases h2:f=2
   ·exact .inl h2
   ·simp only [h2,decide_false,Bool.false_eq_true,if_false,zdt] at g;exact .inr g
  rw [if_pos g] at he
  exact ⟨by rw [←he];rfl,l⟩
 have g:¬(f=2∨f=3):=by
  simp only [evs,arI,zb5] at g
  by_cases h2:f=2
  ·simp [h2] at g
  ·simpa [h2] using g
 rw [if_neg g] at he
 refine ⟨fun g=>?_,fun g=>?_⟩
 ·simp only [evs,arI,zb5,zdt] at g
  rw [if_pos g] at he
  exact ⟨by rw [←he];rfl,l⟩
 simp only [evs,arI,zb5,zdf] at g
 rw [if_neg g] at he
 refine ⟨fun g=>?_,fun g=>?_⟩
 ·simp only [evs,arI,zb5,zdt] at g
  rw [if_pos g] at he
  exact ⟨by rw [←he];rfl,l⟩
 simp only [evs,arI,zb5,zdf] at g
 rw [if_neg g] at he
 exact ⟨by rw [←he];rfl,l⟩
theorem zg8 (n:Int) (H:PH):Gives Tryz.prog Z1j [.int .i64 n] H (.bool (regR n true)):=by
 refine zut [.int .i64 n] (by kernel_rfl) (by kernel_rfl) ?_
 refine ⟨?_,PH.le_refl _⟩
 simp only [evs,arI,zb5,regR,if_true]
 have:decide (n < 32)=decide (n≤31):=by rw [decide_eq_decide];omega
 rw [this]
theorem zi7 {a b:Int} (k:Nat) (ha:0≤a) (hm:a % 2 ^ k=0) (hb:0≤b) (hb1:b < 2 ^ k) (hs:a+b < 4294967296):arI .or .u32 a b=a+b:=by
 show IntKind.u32.wrap (((BitVec.ofInt 32 a ||| BitVec.ofInt 32 b).toNat:Nat):Int)=_
 obtain ⟨x,rfl⟩:∃x:Nat,a=(x:Int):=⟨a.toNat,by omega⟩
 obtain ⟨y,rfl⟩:∃y:Nat,b=(y:Int):=⟨b.toNat,by omega⟩
 have e1:(BitVec.ofInt 32 (x:Int)).toNat=x:=by rw [BitVec.toNat_ofInt];omega
 have e2:(BitVec.ofInt 32 (y:Int)).toNat=y:=by rw [BitVec.toNat_ofInt];omega
 rw [BitVec.toNat_or,e1,e2]
 have hx:x % 2 ^ k=0:=by
  have:((x % 2 ^ k:Nat):Int)=0:=by rw [Int.natCast_emod,Int.natCast_pow];exact hm
  omega
 have hy:y < 2 ^ k:=by
  have:(y:Int) < ((2 ^ k:Nat):Int):=by rw [Int.natCast_pow];exact hb1
  omega
 have hd:x=2 ^ k * (x / 2 ^ k):=by
  have:=Nat.div_add_mod x (2 ^ k)
  omega
 have e3:=Nat.two_pow_add_eq_or_of_lt (i:=k) (b:=y) hy (x / 2 ^ k)
 rw [←hd] at e3
 rw [←e3,wu32 (by omega) (by omega)]
 omega
theorem znl {a:Int} (k:Nat) (hk:k≤32) (h0:0≤a) (h1:a * 2 ^ k < 4294967296):arI .shl .u32 a (k:Int)=a * 2 ^ k:=by
 show IntKind.u32.wrap (a * 2 ^ (min (k:Int).toNat 32))=_
 rw [Int.toNat_natCast,Nat.min_eq_left hk]
 have:0≤a * 2 ^ k:=Int.mul_nonneg h0 (Int.pow_nonneg (by decide))
 exact wu32 this (by omega)
theorem znh (a:Int) (k:Nat) (hk:k≤32):arI .shr .u32 a (k:Int)=a / 2 ^ k:=by
 show a.fdiv (2 ^ (min (k:Int).toNat 32))=_
 rw [Int.toNat_natCast,Nat.min_eq_left hk,Int.fdiv_eq_ediv_of_nonneg _ (Int.pow_nonneg (by decide))]
theorem zhq {n:Int} (k:Nat) (hk:k≤31) (h0:0≤n) (h1:n≤4294967295):arI .and .u32 n ((2 ^ k - 1:Nat):Int)=n % (2 ^ k:Nat):=by
 show IntKind.u32.wrap (((BitVec.ofInt 32 n &&& BitVec.ofInt 32 ((2 ^ k - 1:Nat):Int)).toNat:Nat):Int)=_
 obtain ⟨x,rfl⟩:∃x:Nat,n=(x:Int):=⟨n.toNat,by omega⟩
 have hp:2 ^ k≤2 ^ 31:=Nat.pow_le_pow_right (by decide) hk
 have hp0:0 < 2 ^ k:=Nat.pow_pos (by decide)
 have e1:(BitVec.ofInt 32 (x:Int)).toNat=x:=by rw [BitVec.toNat_ofInt];omega
 have e2:(BitVec.ofInt 32 ((2 ^ k - 1:Nat):Int)).toNat=2 ^ k - 1:=by
  have hq:2 ^ k - 1≤2147483647:=by omega
  rw [BitVec.toNat_ofInt]
  generalize 2 ^ k - 1=q at *
  omega
 rw [BitVec.toNat_and,e1,e2,Nat.and_two_pow_sub_one_eq_mod]
 have hlt:=Nat.mod_lt x hp0
 rw [wu32 (by omega) (by omega)]
 rfl
theorem znk (n:Int):IntKind.u32.wrap n=n % 4294967296:=by
 simp only [IntKind.wrap,IntKind.bits,IntKind.signed];simp
theorem Z4l (n:Int):IntKind.u16.wrap n=n % 65536:=by
 simp only [IntKind.wrap,IntKind.bits,IntKind.signed];simp
theorem zwk {n:Int} {h:Bool} (hr:regR n true=true):regR n h=(h || decide (n=0)):=by
 cases h with
 | true=>rw [hr];rfl
 | false=>rfl
theorem zwm {n:Int} {h:Bool} (hr:regR n true=false):regR n h=false:=by
 cases h with
 | true=>exact hr
 | false=>
  unfold regR at hr ⊢
  simp only [if_true] at hr
  simp only [Bool.false_eq_true,if_false,zdf]
  intro h0
  rw [h0] at hr
  simp at hr
theorem Zb8 {op a b c:Int} (ho:0≤op∧op < 32) (ha:0≤a∧a≤31) (hb:0≤b∧b≤31) (hc:0≤c∧c≤31) :
  arI .or .u32 (arI .or .u32 (arI .or .u32 (arI .shl .u32 (IntKind.u32.wrap op) 26) (arI .shl .u32 (IntKind.u32.wrap a) 21)) (arI .shl .u32 (IntKind.u32.wrap b) 16)) (arI .shl .u32 (IntKind.u32.wrap c) 11)=op * 67108864+a * 2097152+b * 65536+c * 2048:=by
 rw [wu32 (n:=op) (by omega) (by omega),wu32 (n:=a) (by omega) (by omega),wu32 (n:=b) (by omega) (by omega),wu32 (n:=c) (by omega) (by omega)]
 rw [show (26:Int)=((26:Nat):Int) from rfl,show (21:Int)=((21:Nat):Int) from rfl,show (16:Int)=((16:Nat):Int) from rfl,show (11:Int)=((11:Nat):Int) from rfl]
 rw [znl 26 (by omega) (by omega) (by omega),znl 21 (by omega) (by omega) (by omega),znl 16 (by omega) (by omega) (by omega),znl 11 (by omega) (by omega) (by omega)]
 rw [zi7 (a:=op * 2 ^ 26) (b:=a * 2 ^ 21) 26 (by omega) (by omega) (by omega) (by omega) (by omega)]
 rw [zi7 (a:=op * 2 ^ 26+a * 2 ^ 21) (b:=b * 2 ^ 16) 21 (by omega) (by omega) (by omega) (by omega) (by omega)]
 rw [zi7 (a:=op * 2 ^ 26+a * 2 ^ 21+b * 2 ^ 16) (b:=c * 2 ^ 11) 16 (by omega) (by omega) (by omega) (by omega) (by omega)]
 omega
abbrev baseQ (x:InsR):Int:=arI .or .u32 (arI .or .u32 (arI .or .u32 (arI .shl .u32 (IntKind.u32.wrap x.op) 26) (arI .shl .u32 (IntKind.u32.wrap x.a) 21)) (arI .shl .u32 (IntKind.u32.wrap x.b) 16)) (arI .shl .u32 (IntKind.u32.wrap x.c) 11)
theorem Z7n (op:Int):-1048576≤(endsQ op).1∧(endsQ op).1≤0∧0≤(endsQ op).2∧(endsQ op).2≤1048575:=by
 unfold endsQ
 repeat' split
 all_goals decide
theorem Zb4:∀k:Nat,k < 32→(¬(formQ (k:Int)=2∨formQ (k:Int)=3)∨(-32768≤(endsQ (k:Int)).1∧(endsQ (k:Int)).2≤65535))∧(formQ (k:Int)≠4∨endsQ (k:Int)=(-512,511))∧(formQ (k:Int)≠5∨endsQ (k:Int)=(-1048576,1048575))∧((formQ (k:Int)=2∨formQ (k:Int)=3)∨formQ (k:Int)=4∨formQ (k:Int)=5∨endsQ (k:Int)=(0,0)):=by decide +kernel
theorem zx4 (op:Int):(formQ op=2∨formQ op=3→-32768≤(endsQ op).1∧(endsQ op).2≤65535)∧(formQ op=4→endsQ op=(-512,511))∧(formQ op=5→endsQ op=(-1048576,1048575))∧(¬(formQ op=2∨formQ op=3)→formQ op≠4→formQ op≠5→endsQ op=(0,0)):=by
 by_cases h:op < 0∨32≤op
 ·have:=zq5 h
  refine ⟨fun h1=>by omega,fun h1=>by omega,fun h1=>by omega,fun _ _ _=>?_⟩
  unfold endsQ
  rw [if_neg (by omega),if_neg (by omega),if_neg (by omega),if_neg (by omega),if_neg (by omega)]
 ·obtain ⟨k,hk,rfl⟩:∃k:Nat,k < 32∧op=(k:Int):=⟨op.toNat,by omega,by omega⟩
  obtain ⟨h1,h2,h3,h4⟩:=Zb4 k hk
  refine ⟨fun a=>?_,fun a=>?_,fun a=>?_,fun a b c=>?_⟩
  ·rcases h1 with h1 | h1
   ·exact absurd a h1
   ·exact h1
  ·rcases h2 with h2 | h2
   ·exact absurd a h2
   ·exact h2
  ·rcases h3 with h3 | h3
   ·exact absurd a h3
   ·exact h3
  ·rcases h4 with h4 | h4 | h4 | h4
   ·exact absurd h4 a
   ·exact absurd h4 b
   ·exact absurd h4 c
   ·exact h4
theorem zd8 (x:InsR) (H:PH) (hx:InI5 x):Gives Tryz.prog zyh [.agg (insV x).toArray] H (encV (encR x)):=by
 refine zsg (insV x) (by kernel_rfl) (by kernel_rfl) ?_
 refine z05 [.int .i64 (formQ x.op)] z8r (zc4 x.op H) rfl z01 fun K1 l1=>?_
 refine z05 [.int .i64 (endsQ x.op).1,.int .i64 (endsQ x.op).2] zn1 (zqv x.op K1) rfl z01 fun K2 l2=>?_
 have l12:=PH.le_trans l1 l2
 simp only [cns]
 have hout:=@zq5 x.op
 have hfin:=@Z54 x.op
 have hfi:=Zb1 x.op
 obtain ⟨q1,q2,q3,q4⟩:=zx4 x.op
 have hend:=Z7n x.op
 obtain ⟨f,hf⟩:∃f,formQ x.op=f:=⟨_,rfl⟩
 obtain ⟨lo,hlo⟩:∃lo,(endsQ x.op).1=lo:=⟨_,rfl⟩
 obtain ⟨hi,hhi⟩:∃hi,(endsQ x.op).2=hi:=⟨_,rfl⟩
 rw [hf] at hout hfin hfi q1 q2 q3 q4 ⊢
 rw [hlo,hhi] at hfin hend q1 ⊢
 have hE:f≠7→(0≤x.op∧x.op < 32)∧encR x=if (regR x.a true && regR x.b (hasB f) && regR x.c (decide (f=1)) && decide (lo≤x.n) && decide (x.n≤hi))=true then some (wordR x (if x.n < 0 then x.n+2 ^ bitsQ f else x.n)) else none:=fun h7=>by
  have hop:0≤x.op∧x.op < 32:=by
   by_cases h:x.op < 0∨32≤x.op
   ·exact absurd (hout h) h7
   ·omega
  refine ⟨hop,?_⟩
  unfold encR
  rw [if_neg (by omega)]
  unfold fitsR
  rw [(hfin hop.1 hop.2).2]
 have hN:∀b:Bool,f≠7→(regR x.a true && regR x.b (hasB f) && regR x.c (decide (f=1)) && decide (lo≤x.n) && decide (x.n≤hi))=!b→(encR x).isNone=b:=fun b h7 hb=>by
  rw [(hE h7).2,hb]
  cases b<;>rfl
 refine ⟨fun vs K=>vs=[.bool (encR x).isNone]∧PH.le K2 K,?_,fun g=>?_,fun g=>?_⟩
 rotate_left
 ·simp only [evs,arI,zb5,zdt] at g
  refine ⟨_,z00,?_,PH.le_refl _⟩
  have:encR x=none:=by
   unfold encR
   by_cases h:x.op < 0∨32≤x.op
   ·rw [if_pos h]
   ·exact absurd g ((hfin (by omega) (by omega)).1)
  rw [this];rfl
 ·simp only [evs,arI,zb5,zdf] at g
  refine z05 [.bool (regR x.a true)] zbh (zg8 x.a K2) rfl z01 fun K3 l3=>?_
  simp only [cns]
  refine ⟨fun g2=>?_,fun g2=>?_⟩
  ·simp only [evs,arI,zb5,Bool.not_eq_true'] at g2
   exact ⟨_,z00,by rw [hN true g (by rw [g2];rfl)];rfl,l3⟩
  simp only [evs,arI,zb5,Bool.not_eq_false'] at g2
  refine z05 [.bool (regR x.b true)] zbh (zg8 x.b K3) rfl z01 fun K4 l4=>?_
  simp only [cns]
  refine ⟨fun g3=>?_,fun g3=>?_⟩
  ·simp only [evs,arI,zb5,Bool.not_eq_true'] at g3
   exact ⟨_,z00,by rw [hN true g (by rw [zwm g3];simp)];rfl,PH.le_trans l3 l4⟩
  simp only [evs,arI,zb5,Bool.not_eq_false'] at g3
  refine z05 [.bool (regR x.c true)] zbh (zg8 x.c K4) rfl z01 fun K5 l5=>?_
  simp only [cns]
  refine ⟨_,z00,?_,PH.le_trans l3 (PH.le_trans l4 l5)⟩
  rw [hN ((((!regR x.c true || (!hasB f && decide (x.b≠0))) || (decide (f≠1) && decide (x.c≠0))) || decide (x.n < lo)) || decide (x.n > hi)) g ?_]
  ·simp only [evs,arI,zb5,hasB,ne_eq,decide_not]
  ·rw [g2,zwk g3]
   have e1:decide (x.n < lo)=!decide (lo≤x.n):=by rw [←decide_not,decide_eq_decide];omega
   have e2:decide (x.n > hi)=!decide (x.n≤hi):=by rw [←decide_not,decide_eq_decide];omega
   have e3:regR x.c (decide (f=1))=(regR x.c true && (decide (f=1) || decide (x.c=0))):=by
    cases hc:regR x.c true with
    | true=>rw [zwk hc];rfl
    | false=>rw [zwm hc];rfl
   rw [e1,e2,e3]
   simp only [ne_eq,decide_not]
   generalize regR x.c true=r1
   generalize hasB f=r2
   generalize decide (x.b=0)=r3
   generalize decide (f=1)=r4
   generalize decide (x.c=0)=r5
   generalize decide (lo≤x.n)=r6
   generalize decide (x.n≤hi)=r7
   cases r1<;>cases r2<;>cases r3<;>cases r4<;>cases r5<;>cases r6<;>cases r7<;>rfl
 rintro vs K6 _ ⟨rfl,l6⟩
 have l16:=PH.le_trans l12 l6
 simp only [cns]
 refine ⟨fun g=>?_,fun g=>?_⟩
 ·simp only [evs,arI,zb5,Option.isNone_iff_eq_none] at g
  rw [g];exact ⟨rfl,l16⟩
 simp only [evs,arI,zb5,Option.isNone_eq_false_iff] at g
 obtain ⟨w,hw⟩:=Option.isSome_iff_exists.1 g
 have h7:f≠7:=by
  intro h7
  have hno:encR x=none:=by
   unfold encR
   by_cases h:x.op < 0∨32≤x.op
   ·rw [if_pos h]
   ·exact absurd h7 ((hfin (by omega) (by omega)).1)
  rw [hno] at hw;cases hw
 obtain ⟨hop,hE⟩:=hE h7
 rw [hE] at hw
 split at hw
 rotate_left
 ·cases hw
 rename_i hfit
 simp only [zba,zdt] at hfit
 obtain ⟨⟨⟨⟨ra,rb⟩,rc⟩,rl⟩,rm⟩:=hfit
 have hb:=zid rb
 have hc:=zid rc
 have ha:=zid ra
 have hbz:f=3∨f=5→x.b=0:=fun h=>by
  have:hasB f=false:=by unfold hasB;rcases h with h | h<;>simp [h]
  rw [this] at rb
  simpa [regR] using rb
 have hcz:f≠1→x.c=0:=fun h=>by
  rw [show decide (f=1)=false by simp [h]] at rc
  simpa [regR] using rc
 simp only [Option.some.injEq] at hw
 have hbase:baseQ x=x.op * 67108864+x.a * 2097152+x.b * 65536+x.c * 2048:=Zb8 hop ha hb hc
 obtain ⟨m,hm⟩:∃m,(if x.n < 0 then x.n+2 ^ bitsQ f else x.n)=m:=⟨_,rfl⟩
 rw [hm] at hw hE
 have hE2:encR x=some w:=by
  rw [hE]
  rw [if_pos (by simp only [zba,zdt];exact ⟨⟨⟨⟨ra,rb⟩,rc⟩,rl⟩,rm⟩),hw]
 rw [hE2]
 unfold wordR at hw
 refine ⟨fun vs K=>vs=[.int .u32 w]∧PH.le K6 K,?_,fun g2=>?_,fun g2=>?_⟩
 ·rintro vs K _ ⟨rfl,l7⟩
  exact ⟨rfl,PH.le_trans l16 l7⟩
 ·have g2:f=2∨f=3:=by
   simp only [evs,arI,zb5] at g2
   by_cases h2:f=2
   ·exact .inl h2
   ·simp only [h2,decide_false,Bool.false_eq_true,if_false,zdt] at g2;exact .inr g2
  have hb16:bitsQ f=16:=by unfold bitsQ;rw [if_pos g2]
  rw [hb16] at hm
  have q1:=q1 g2
  have hmv:IntKind.u32.wrap (IntKind.u16.wrap x.n)=m:=by
   rw [znk,Z4l]
   split at hm<;>omega
  have hc0:=hcz (by omega)
  refine ⟨_,z00,?_,PH.le_refl _⟩
  show [Value.int .u32 (arI .or .u32 (baseQ x) (IntKind.u32.wrap (IntKind.u16.wrap x.n)))]=_
  rw [hmv,hbase,hc0,zi7 16 (by omega) (by omega) (by split at hm<;>omega) (by split at hm<;>omega) (by split at hm<;>omega),←hw,hc0]
 ·have g2:¬(f=2∨f=3):=by
   simp only [evs,arI,zb5] at g2
   by_cases h2:f=2
   ·simp [h2] at g2
   ·simpa [h2] using g2
  refine ⟨fun g3=>?_,fun g3=>?_⟩
  ·simp only [evs,arI,zb5,zdt] at g3
   have hb10:bitsQ f=10:=by unfold bitsQ;rw [if_neg g2,if_pos g3]
   rw [hb10] at hm
   have q2:=q2 g3
   have h1:lo=-512:=by rw [←hlo,q2]
   have h2:hi=511:=by rw [←hhi,q2]
   have hmv:arI .and .u32 (IntKind.u32.wrap x.n) 1023=m:=by
    rw [znk,show (1023:Int)=((2 ^ 10 - 1:Nat):Int) from rfl,zhq 10 (by omega) (by omega) (by omega)]
    split at hm<;>omega
   have hc0:=hcz (by omega)
   refine ⟨_,z00,?_,PH.le_refl _⟩
   show [Value.int .u32 (arI .or .u32 (baseQ x) (arI .and .u32 (IntKind.u32.wrap x.n) 1023))]=_
   rw [hmv,hbase,hc0,zi7 10 (by omega) (by omega) (by split at hm<;>omega) (by split at hm<;>omega) (by split at hm<;>omega),←hw,hc0]
  ·simp only [evs,arI,zb5,zdf] at g3
   refine ⟨_,z00,?_,PH.le_refl _⟩
   by_cases h5:f=5
   ·have hb21:bitsQ f=21:=by unfold bitsQ;rw [if_neg g2,if_neg g3,if_pos h5]
    rw [hb21] at hm
    have q3:=q3 h5
    have h1:lo=-1048576:=by rw [←hlo,q3]
    have h2:hi=1048575:=by rw [←hhi,q3]
    have hmv:arI .and .u32 (IntKind.u32.wrap x.n) 2097151=m:=by
     rw [znk,show (2097151:Int)=((2 ^ 21 - 1:Nat):Int) from rfl,zhq 21 (by omega) (by omega) (by omega)]
     split at hm<;>omega
    have hc0:=hcz (by omega)
    have hb0:=hbz (.inr h5)
    show [if (f == 5)=true then Value.int .u32 (arI .or .u32 (baseQ x) (arI .and .u32 (IntKind.u32.wrap x.n) 2097151)) else _]=_
    rw [if_pos (by rw [h5];rfl),hmv,hbase,hc0,hb0,zi7 21 (by omega) (by omega) (by split at hm<;>omega) (by split at hm<;>omega) (by split at hm<;>omega),←hw,hc0,hb0]
   ·have q4:=q4 g2 g3 h5
    have h1:lo=0:=by rw [←hlo,q4]
    have h2:hi=0:=by rw [←hhi,q4]
    have hn0:x.n=0:=by omega
    rw [hn0] at hm
    simp only [Int.lt_irrefl,if_false] at hm
    show [if (f == 5)=true then _ else Value.int .u32 (baseQ x)]=_
    rw [if_neg (by simpa using h5),hbase,←hw,←hm]
    congr 2
    omega
theorem Zcl (n:Int):IntKind.i32.wrap n=if 2147483648≤n % 4294967296 then n % 4294967296 - 4294967296 else n % 4294967296:=by
 simp only [IntKind.wrap,IntKind.bits,IntKind.signed];simp
def signQ (w:Int) (k:Nat):Int:=if 2 ^ (k - 1)≤w % 2 ^ k then w % 2 ^ k - 2 ^ k else w % 2 ^ k
theorem zdc (w:Int) (k:Nat) (H:PH) (hw:InU w) (hk:k=10∨k=16∨k=21):Gives Tryz.prog zx5 [.int .u32 w,.int .i64 (k:Int)] H (.int .i64 (signQ w k)):=by
 obtain ⟨w0,w1⟩:=hw
 refine zr9 [.int .u32 w,.int .i64 (k:Int)] (by kernel_rfl) (by kernel_rfl) ?_
 have e1:IntKind.i64.wrap (32 - (k:Int))=((32 - k:Nat):Int):=by rw [w64 (by omega) (by omega)];omega
 refine ⟨fun _=>?_,fun _=>?_,?_,PH.le_refl _⟩
 ·simp only [Chk.holds,evs,arI,zb5,e1];omega
 ·simp only [Chk.holds,evs,arI,zb5,e1];omega
 show Ending.returned (.int .i64 (IntKind.i64.wrap (arI .shr .i32 (IntKind.i32.wrap (arI .shl .u32 w (IntKind.i64.wrap (32 - (k:Int))))) (IntKind.i64.wrap (32 - (k:Int))))))=_
 rw [e1]
 have e2:∀n:Int,arI .shr .i32 n ((32 - k:Nat):Int)=n / 2 ^ (32 - k):=fun n=>by
  show n.fdiv (2 ^ (min ((32 - k:Nat):Int).toNat 32))=_
  rw [Int.toNat_natCast,Nat.min_eq_left (by omega),Int.fdiv_eq_ediv_of_nonneg _ (Int.pow_nonneg (by decide))]
 have e3:arI .shl .u32 w ((32 - k:Nat):Int)=w * 2 ^ (32 - k) % 4294967296:=by
  show IntKind.u32.wrap (w * 2 ^ (min ((32 - k:Nat):Int).toNat 32))=_
  rw [Int.toNat_natCast,Nat.min_eq_left (by omega),znk]
 rw [e2,e3,Zcl]
 unfold signQ
 rcases hk with rfl | rfl | rfl
 all_goals
  simp only [Nat.reduceSub]
  rw [w64 (by split<;>omega) (by split<;>omega)]
  congr 2
  split<;>split<;>omega
theorem zyx (w:Int) (H:PH) (hw:InU w):Gives Tryz.prog zy1 [.int .u32 w] H (decV (decR w)):=by
 have hw':=hw
 obtain ⟨w0,w1⟩:=hw
 refine zsp [.int .u32 w] (by kernel_rfl) (by kernel_rfl) ?_
 have s26:IntKind.i64.wrap (arI .shr .u32 w 26)=w / 67108864:=by
  rw [show (26:Int)=((26:Nat):Int) from rfl,znh w 26 (by omega)]
  rw [show (2:Int) ^ 26=67108864 from rfl];exact w64 (by omega) (by omega)
 obtain ⟨op,hop⟩:∃op,w / 67108864=op:=⟨_,rfl⟩
 have s21:IntKind.i64.wrap (arI .and .u32 (arI .shr .u32 w 21) 31)=w / 2097152 % 32:=by
  rw [show (21:Int)=((21:Nat):Int) from rfl,znh w 21 (by omega),show (31:Int)=((2 ^ 5 - 1:Nat):Int) from rfl,show (2:Int) ^ 21=2097152 from rfl,zhq 5 (by omega) (by omega) (by omega)]
  exact w64 (by omega) (by omega)
 have s16:IntKind.i64.wrap (arI .and .u32 (arI .shr .u32 w 16) 31)=w / 65536 % 32:=by
  rw [show (16:Int)=((16:Nat):Int) from rfl,znh w 16 (by omega),show (31:Int)=((2 ^ 5 - 1:Nat):Int) from rfl,show (2:Int) ^ 16=65536 from rfl,zhq 5 (by omega) (by omega) (by omega)]
  exact w64 (by omega) (by omega)
 have s11:IntKind.i64.wrap (arI .and .u32 (arI .shr .u32 w 11) 31)=w / 2048 % 32:=by
  rw [show (11:Int)=((11:Nat):Int) from rfl,znh w 11 (by omega),show (31:Int)=((2 ^ 5 - 1:Nat):Int) from rfl,show (2:Int) ^ 11=2048 from rfl,zhq 5 (by omega) (by omega) (by omega)]
  exact w64 (by omega) (by omega)
 have u16:IntKind.i64.wrap (IntKind.u16.wrap w)=w % 65536:=by
  rw [Z4l];exact w64 (by omega) (by omega)
 rw [hop] at s26
 have c1:Gives Tryz.prog zp0 [.int .i64 (IntKind.i64.wrap (arI .shr .u32 w 26))] H (.tuple #[.int .i64 (endsQ op).1,.int .i64 (endsQ op).2]):=by rw [s26];exact zqv op H
 refine z05 [.int .i64 (endsQ op).1,.int .i64 (endsQ op).2] zn1 c1 rfl z01 fun K1 l1=>?_
 have c2:Gives Tryz.prog zop [.int .i64 (IntKind.i64.wrap (arI .shr .u32 w 26))] K1 (.int .i64 (formQ op)):=by rw [s26];exact zc4 op K1
 refine z05 [.int .i64 (formQ op)] z8r c2 rfl z01 fun K2 l2=>?_
 have l12:=PH.le_trans l1 l2
 simp only [cns]
 have hout:=@zq5 op
 have hfin:=@Z54 op
 obtain ⟨q1,q2,q3,q4⟩:=zx4 op
 obtain ⟨f,hf⟩:∃f,formQ op=f:=⟨_,rfl⟩
 obtain ⟨lo,hlo⟩:∃lo,(endsQ op).1=lo:=⟨_,rfl⟩
 obtain ⟨hi,hhi⟩:∃hi,(endsQ op).2=hi:=⟨_,rfl⟩
 rw [hf] at hout hfin q1 q2 q3 q4 ⊢
 rw [hlo,hhi] at hfin q1 ⊢
 obtain ⟨B,hB⟩:∃B,B=(if hasB f=true then w / 65536 % 32 else 0):=⟨_,rfl⟩
 have hBv:∀{v:Value},v=(if (if (if decide (f≠0)=true then decide (f≠3) else false)=true then decide (f≠5) else false)=true then Value.int .i64 (IntKind.i64.wrap (arI .and .u32 (arI .shr .u32 w 16) 31)) else Value.int .i64 0)→v=.int .i64 B:=fun hv=>by
  rw [hv,hB,s16]
  unfold hasB
  by_cases h1:f=0<;>by_cases h2:f=3<;>by_cases h3:f=5<;>simp [h1,h2,h3]
 refine ⟨fun vs K=>∃x:InsR,vs=insV x∧PH.le K2 K∧InI5 x∧(0≤op∧op < 32→x=zh8 w)∧(32≤op→x.op=op),?_,?_⟩
 ·rintro vs K _ ⟨x,rfl,l3,hx,hp1,hp2⟩
  simp only [cns]
  refine z05 [.int .u32 ((encR x).getD 0),.int .i64 (encE (encR x))] z2m (zd8 x K hx) rfl z01 fun K3 l4=>?_
  have l14:=PH.le_trans l12 (PH.le_trans l3 l4)
  simp only [cns]
  have hd:decR w=if encR x=some w then some x else none:=by
   unfold decR
   rw [hop]
   by_cases h:32≤op
   ·rw [if_pos h]
    have:encR x=none:=by unfold encR;rw [if_pos (by right;rw [hp2 h];exact h)]
    rw [this];simp
   ·rw [if_neg h,hp1 (by omega)]
  refine ⟨fun g3=>?_,fun g3=>?_⟩
  ·simp only [evs,arI,zb5] at g3
   simp only [Bool.if_true_left,Bool.or_eq_true,zdt] at g3
   rw [hd,if_neg ((Z0a w _).1 g3)]
   exact ⟨rfl,l14⟩
  ·simp only [evs,arI,zb5] at g3
   simp only [Bool.if_true_left,zof,zdf] at g3
   rw [hd,if_pos (Decidable.not_not.1 fun h=>by
    rcases (Z0a w _).2 h with h | h
    ·exact g3.1 h
    ·exact g3.2 h)]
   exact ⟨rfl,l14⟩
 have hbI:InI B:=by rw [hB];unfold InI;split<;>omega
 have hopI:InI op:=by unfold InI;omega
 have haI:InI (w / 2097152 % 32):=by unfold InI;omega
 have hcI:InI (w / 2048 % 32):=by unfold InI;omega
 have z0:InI 0:=by decide
 have hbq:(if (decide (f≠0) && decide (f≠3) && decide (f≠5))=true then Value.int .i64 (w / 65536 % 32) else Value.int .i64 0)=.int .i64 B:=by
  rw [hB]
  show (if hasB f=true then _ else _)=_
  by_cases h:hasB f=true
  ·rw [if_pos h,if_pos h]
  ·rw [if_neg h,if_neg h]
 have hparts:0≤op∧op < 32→zh8 w=⟨op,w / 2097152 % 32,B,if f=1 then w / 2048 % 32 else 0,numOf ⟨true,hasB f,decide (f=1),bitsQ f,lo,hi⟩ w⟩:=fun h=>by
  unfold zh8
  rw [hop,(hfin h.1 h.2).2,hB]
  by_cases h1:f=1<;>simp [h1]
 simp only [arI] at s26 s21 s16 s11
 refine ⟨fun g=>?_,fun g=>?_⟩
 ·simp only [evs,arI,zb5,zdt] at g
  refine ⟨_,z00,⟨op,w / 2097152 % 32,B,w / 2048 % 32,0⟩,?_,PH.le_refl _,⟨hopI,haI,hbI,hcI,z0⟩,fun h=>?_,fun _=>rfl⟩
  ·simp only [evs,arI,zb5]
   simp only [s26,s21,s16,s11,hbq]
  ·rw [hparts h,if_pos g]
   have:bitsQ f=0:=by rw [g];rfl
   rw [this];rfl
 simp only [evs,arI,zb5,zdf] at g
 refine ⟨fun g2=>?_,fun g2=>?_⟩
 ·have g2:f=2∨f=3:=by
   simp only [evs,arI,zb5] at g2
   by_cases h2:f=2
   ·exact .inl h2
   ·simp only [h2,decide_false,Bool.false_eq_true,if_false,zdt] at g2;exact .inr g2
  have hb16:bitsQ f=16:=by unfold bitsQ;rw [if_pos g2]
  refine z05 [.int .i64 (signQ w 16)] za1 (zdc w 16 K2 hw' (by omega)) rfl z01 fun K3 l3=>?_
  simp only [cns]
  obtain ⟨N,hN⟩:∃N,N=(if lo=0 then w % 65536 else signQ w 16):=⟨_,rfl⟩
  have hNI:InI N:=by
   rw [hN];unfold InI signQ;simp only [Nat.reduceSub]
   split
   ·omega
   ·split<;>omega
  have hNq:(if decide (lo=0)=true then Value.int .i64 (w % 65536) else Value.int .i64 (signQ w 16))=.int .i64 N:=by
   rw [hN]
   by_cases h:lo=0<;>simp [h]
  refine ⟨_,z00,⟨op,w / 2097152 % 32,B,0,N⟩,?_,l3,⟨hopI,haI,hbI,z0,hNI⟩,fun h=>?_,fun _=>rfl⟩
  ·simp only [evs,arI,zb5]
   simp only [s26,s21,s16,s11,hbq,u16,hNq]
  ·rw [hparts h,if_neg g,hb16]
   have hok:=Z0m op
   rw [(hfin h.1 h.2).2] at hok
   have hlz:lo=0∨(lo=-32768∧hi=32767):=by
    rw [←hlo,←hhi]
    unfold endsQ
    rw [hf,if_pos g2]
    split
    ·exact .inl rfl
    ·split
     ·exact .inl rfl
     ·exact .inr ⟨rfl,rfl⟩
   have:numOf ⟨true,hasB f,decide (f=1),16,lo,hi⟩ w=N:=by
    rw [hN]
    unfold numOf signQ
    simp only [Nat.reduceSub]
    rw [if_neg (by omega)]
    rcases hlz with h0 | ⟨h1,h2⟩
    ·rw [if_neg (by omega),if_pos h0];rfl
    ·rw [if_neg (show ¬lo=0 by omega),h1,h2]
     split<;>split<;>omega
   rw [this]
 have g2:¬(f=2∨f=3):=by
  simp only [evs,arI,zb5] at g2
  by_cases h2:f=2
  ·simp [h2] at g2
  ·simpa [h2] using g2
 refine ⟨fun g3=>?_,fun g3=>?_⟩
 ·simp only [evs,arI,zb5,zdt] at g3
  have hb10:bitsQ f=10:=by unfold bitsQ;rw [if_neg g2,if_pos g3]
  refine z05 [.int .i64 (signQ w 10)] za1 (zdc w 10 K2 hw' (by omega)) rfl z01 fun K3 l3=>?_
  simp only [cns]
  have hNI:InI (signQ w 10):=by
   unfold InI signQ;simp only [Nat.reduceSub];split<;>omega
  refine ⟨_,z00,⟨op,w / 2097152 % 32,B,0,signQ w 10⟩,?_,l3,⟨hopI,haI,hbI,z0,hNI⟩,fun h=>?_,fun _=>rfl⟩
  ·simp only [evs,arI,zb5]
   simp only [s26,s21,s16,s11,hbq]
  ·rw [hparts h,if_neg g,hb10]
   have q2:=q2 g3
   have h1:lo=-512:=by rw [←hlo,q2]
   have h2:hi=511:=by rw [←hhi,q2]
   have:numOf ⟨true,hasB f,decide (f=1),10,lo,hi⟩ w=signQ w 10:=by
    unfold numOf signQ
    simp only [Nat.reduceSub]
    rw [if_neg (by omega),h1,h2]
    split<;>split<;>omega
   rw [this]
 simp only [evs,arI,zb5,zdf] at g3
 refine ⟨fun g4=>?_,fun g4=>?_⟩
 ·simp only [evs,arI,zb5,zdt] at g4
  have hb21:bitsQ f=21:=by unfold bitsQ;rw [if_neg g2,if_neg g3,if_pos g4]
  refine z05 [.int .i64 (signQ w 21)] za1 (zdc w 21 K2 hw' (by omega)) rfl z01 fun K3 l3=>?_
  simp only [cns]
  have hNI:InI (signQ w 21):=by
   unfold InI signQ;simp only [Nat.reduceSub];split<;>omega
  refine ⟨_,z00,⟨op,w / 2097152 % 32,B,0,signQ w 21⟩,?_,l3,⟨hopI,haI,hbI,z0,hNI⟩,fun h=>?_,fun _=>rfl⟩
  ·simp only [evs,arI,zb5]
   simp only [s26,s21,s16,s11,hbq]
  ·rw [hparts h,if_neg g,hb21]
   have q3:=q3 g4
   have h1:lo=-1048576:=by rw [←hlo,q3]
   have h2:hi=1048575:=by rw [←hhi,q3]
   have:numOf ⟨true,hasB f,decide (f=1),21,lo,hi⟩ w=signQ w 21:=by
    unfold numOf signQ
    simp only [Nat.reduceSub]
    rw [if_neg (by omega),h1,h2]
    split<;>split<;>omega
   rw [this]
 simp only [evs,arI,zb5,zdf] at g4
 refine ⟨_,z00,⟨op,w / 2097152 % 32,B,0,0⟩,?_,PH.le_refl _,⟨hopI,haI,hbI,z0,z0⟩,fun h=>?_,fun _=>rfl⟩
 ·simp only [evs,arI,zb5]
  simp only [s26,s21,s16,s11,hbq]
 ·rw [hparts h,if_neg g]
  have:bitsQ f=0:=by unfold bitsQ;rw [if_neg g2,if_neg g3,if_neg g4]
  rw [this];rfl
theorem Z5e {n:Int} (k:Nat) (hk:k≤62) (h0:0≤n) (h1:n≤18446744073709551615):arI .and .u64 n ((2 ^ k - 1:Nat):Int)=n % (2 ^ k:Nat):=by
 show IntKind.u64.wrap (((BitVec.ofInt 64 n &&& BitVec.ofInt 64 ((2 ^ k - 1:Nat):Int)).toNat:Nat):Int)=_
 obtain ⟨x,rfl⟩:∃x:Nat,n=(x:Int):=⟨n.toNat,by omega⟩
 have hp:2 ^ k≤2 ^ 62:=Nat.pow_le_pow_right (by decide) hk
 have hp0:0 < 2 ^ k:=Nat.pow_pos (by decide)
 have e1:(BitVec.ofInt 64 (x:Int)).toNat=x:=by rw [BitVec.toNat_ofInt];omega
 have e2:(BitVec.ofInt 64 ((2 ^ k - 1:Nat):Int)).toNat=2 ^ k - 1:=by
  have hq:2 ^ k - 1≤4611686018427387903:=by omega
  rw [BitVec.toNat_ofInt]
  generalize 2 ^ k - 1=q at *
  omega
 rw [BitVec.toNat_and,e1,e2,Nat.and_two_pow_sub_one_eq_mod]
 have hlt:=Nat.mod_lt x hp0
 rw [wu64 (by omega) (by omega)]
 rfl
theorem zno (n:Int):IntKind.u64.wrap n=n % 18446744073709551616:=by
 simp only [IntKind.wrap,IntKind.bits,IntKind.signed];simp
theorem Z15 (x y:Int) (H:PH) (hx:0≤x∧x≤18446744073709551615) (hy:0≤y∧y≤18446744073709551615):Gives Tryz.prog z6c [.int .u64 x,.int .u64 y] H (.tuple #[.int .u64 (x * y / 18446744073709551616),.int .u64 (arI .mul .u64 x y)]):=by
 refine z9p [.int .u64 x,.int .u64 y] (by kernel_rfl) (by kernel_rfl) ?_
 refine ⟨?_,PH.le_refl _⟩
 show Ending.returned (.tuple #[.int .u64 (arI .add .u64 (arI .add .u64 (arI .mul .u64 (arI .shr .u64 x 32) (arI .shr .u64 y 32)) (arI .shr .u64 (arI .add .u64 (arI .mul .u64 (arI .shr .u64 x 32) (arI .and .u64 y 4294967295)) (arI .shr .u64 (arI .mul .u64 (arI .and .u64 x 4294967295) (arI .and .u64 y 4294967295)) 32)) 32)) (arI .shr .u64 (arI .add .u64 (arI .and .u64 (arI .add .u64 (arI .mul .u64 (arI .shr .u64 x 32) (arI .and .u64 y 4294967295)) (arI .shr .u64 (arI .mul .u64 (arI .and .u64 x 4294967295) (arI .and .u64 y 4294967295)) 32)) 4294967295) (arI .mul .u64 (arI .and .u64 x 4294967295) (arI .shr .u64 y 32))) 32)),.int .u64 (arI .mul .u64 x y)])=_
 have am:∀n:Int,0≤n→n≤18446744073709551615→arI .and .u64 n 4294967295=n % 4294967296:=fun n h0 h1=>Z5e 32 (by omega) h0 h1
 rw [zle x,zle y,am x hx.1 hx.2,am y hy.1 hy.2]
 have kx:0≤x / 4294967296∧x / 4294967296≤4294967295:=by omega
 have ky:0≤y / 4294967296∧y / 4294967296≤4294967295:=by omega
 have lx:0≤x % 4294967296∧x % 4294967296≤4294967295:=by omega
 have ly:0≤y % 4294967296∧y % 4294967296≤4294967295:=by omega
 have hm:x * y / 18446744073709551616=x / 4294967296 * (y / 4294967296)+(x / 4294967296 * (y % 4294967296)+x % 4294967296 * (y % 4294967296) / 4294967296) / 4294967296+((x / 4294967296 * (y % 4294967296)+x % 4294967296 * (y % 4294967296) / 4294967296) % 4294967296+x % 4294967296 * (y / 4294967296)) / 4294967296:=by
  have e:(4294967296 * (x / 4294967296)+x % 4294967296) * (4294967296 * (y / 4294967296)+y % 4294967296)=18446744073709551616 * (x / 4294967296 * (y / 4294967296))+4294967296 * (x / 4294967296 * (y % 4294967296)+x % 4294967296 * (y / 4294967296))+x % 4294967296 * (y % 4294967296):=by grind
  rw [show 4294967296 * (x / 4294967296)+x % 4294967296=x by omega,show 4294967296 * (y / 4294967296)+y % 4294967296=y by omega] at e
  rw [e]
  generalize x / 4294967296 * (y / 4294967296)=p;generalize x / 4294967296 * (y % 4294967296)=q;generalize x % 4294967296 * (y / 4294967296)=r;generalize x % 4294967296 * (y % 4294967296)=s
  omega
 rw [hm]
 have b1:=zsc (A:=4294967295) (B:=4294967295) kx.2 (by omega) ky
 have b2:=zsc (A:=4294967295) (B:=4294967295) kx.2 (by omega) ly
 have b3:=zsc (A:=4294967295) (B:=4294967295) lx.2 (by omega) ky
 have b4:=zsc (A:=4294967295) (B:=4294967295) lx.2 (by omega) ly
 have c1:=Int.mul_nonneg kx.1 ky.1
 have c2:=Int.mul_nonneg kx.1 ly.1
 have c3:=Int.mul_nonneg lx.1 ky.1
 have c4:=Int.mul_nonneg lx.1 ly.1
 have mu:∀a b:Int,arI .mul .u64 a b=IntKind.u64.wrap (a * b):=fun _ _=>rfl
 have ad:∀a b:Int,arI .add .u64 a b=IntKind.u64.wrap (a+b):=fun _ _=>rfl
 rw [mu (x / 4294967296),mu (x / 4294967296),mu (x % 4294967296),mu (x % 4294967296)]
 clear hm
 have htop:x / 4294967296 * (y / 4294967296)+(x / 4294967296 * (y % 4294967296)+x % 4294967296 * (y % 4294967296) / 4294967296) / 4294967296+((x / 4294967296 * (y % 4294967296)+x % 4294967296 * (y % 4294967296) / 4294967296) % 4294967296+x % 4294967296 * (y / 4294967296)) / 4294967296≤18446744073709551615:=by omega
 generalize x / 4294967296 * (y / 4294967296)=p at *
 generalize x / 4294967296 * (y % 4294967296)=q at *
 generalize x % 4294967296 * (y / 4294967296)=r at *
 generalize x % 4294967296 * (y % 4294967296)=s at *
 rw [wu64 (n:=p) (by omega) (by omega),wu64 (n:=q) (by omega) (by omega),wu64 (n:=r) (by omega) (by omega),wu64 (n:=s) (by omega) (by omega)]
 rw [zle s,ad q,wu64 (n:=q+s / 4294967296) (by omega) (by omega),am _ (by omega) (by omega),zle,ad p,wu64 (n:=p+(q+s / 4294967296) / 4294967296) (by omega) (by omega),ad (_ % 4294967296),wu64 (n:=(q+s / 4294967296) % 4294967296+r) (by omega) (by omega),zle,ad,wu64 (by omega) (by omega)]
theorem Z72 (b c:Int) (H:PH) (hb:InI b) (hc:InI c):Gives Tryz.prog Z2k [.int .i64 b,.int .i64 c] H (.int .i64 (mulhR b c)):=by
 obtain ⟨b0,b1⟩:=hb
 obtain ⟨c0,c1⟩:=hc
 refine zy5 [.int .i64 b,.int .i64 c] (by kernel_rfl) (by kernel_rfl) ?_
 obtain ⟨ub,hub⟩:∃ub,IntKind.u64.wrap b=ub:=⟨_,rfl⟩
 obtain ⟨uc,huc⟩:∃uc,IntKind.u64.wrap c=uc:=⟨_,rfl⟩
 have hub2:ub=if b < 0 then b+18446744073709551616 else b:=by rw [←hub,zno];split<;>omega
 have huc2:uc=if c < 0 then c+18446744073709551616 else c:=by rw [←huc,zno];split<;>omega
 have rb:0≤ub∧ub≤18446744073709551615:=by rw [hub2];split<;>omega
 have rc:0≤uc∧uc≤18446744073709551615:=by rw [huc2];split<;>omega
 have hc1:Gives Tryz.prog z6c [.int .u64 (IntKind.u64.wrap b),.int .u64 (IntKind.u64.wrap c)] H (.tuple #[.int .u64 (ub * uc / 18446744073709551616),.int .u64 (arI .mul .u64 ub uc)]):=by
  rw [hub,huc];exact Z15 ub uc H rb rc
 refine z05 [.int .u64 (ub * uc / 18446744073709551616),.int .u64 (arI .mul .u64 ub uc)] zas hc1 rfl z01 fun K l=>⟨?_,l⟩
 simp only [cns]
 have sb:∀n m:Int,arI .sub .u64 n m=IntKind.u64.wrap (n - m):=fun _ _=>rfl
 have hin:InI (mulhR b c):=Z4q ⟨b0,b1⟩ ⟨c0,c1⟩
 have hfd:mulhR b c=b * c / 18446744073709551616:=by unfold mulhR;rw [Int.fdiv_eq_ediv_of_nonneg _ (by decide)];rfl
 obtain ⟨h,hh⟩:∃h,ub * uc / 18446744073709551616=h:=⟨_,rfl⟩
 have key:∃k:Int,h=mulhR b c+(if b < 0 then c else 0)+(if c < 0 then b else 0)+k * 18446744073709551616:=by
  rw [←hh,hfd,hub2,huc2]
  by_cases hb:b < 0<;>by_cases hc:c < 0
  ·rw [if_pos hb,if_pos hc,if_pos hb,if_pos hc]
   have e:(b+18446744073709551616) * (c+18446744073709551616)=b * c+18446744073709551616 * (b+c)+18446744073709551616 * 18446744073709551616:=by grind
   rw [e]
   generalize b * c=p
   exact ⟨1,by omega⟩
  ·rw [if_pos hb,if_neg hc,if_pos hb,if_neg hc]
   have e:(b+18446744073709551616) * c=b * c+18446744073709551616 * c:=by grind
   rw [e]
   generalize b * c=p
   exact ⟨0,by omega⟩
  ·rw [if_neg hb,if_pos hc,if_neg hb,if_pos hc]
   have e:b * (c+18446744073709551616)=b * c+18446744073709551616 * b:=by grind
   rw [e]
   generalize b * c=p
   exact ⟨0,by omega⟩
  ·rw [if_neg hb,if_neg hc,if_neg hb,if_neg hc]
   exact ⟨0,by omega⟩
 obtain ⟨k,hk⟩:=key
 rw [hh]
 show Ending.returned (.int .i64 (IntKind.i64.wrap (iOf (if bOf (Value.bool (decide (c < 0)))=true then Value.int .u64 (arI .sub .u64 (iOf (if bOf (Value.bool (decide (b < 0)))=true then Value.int .u64 (arI .sub .u64 h (IntKind.u64.wrap c)) else Value.int .u64 h)) (IntKind.u64.wrap b)) else if bOf (Value.bool (decide (b < 0)))=true then Value.int .u64 (arI .sub .u64 h (IntKind.u64.wrap c)) else Value.int .u64 h))))=_
 simp only [bOf]
 have fin:∀(n:Int) (j:Int),n=mulhR b c+j * 18446744073709551616→Ending.returned (.int .i64 (IntKind.i64.wrap n))=.returned (.int .i64 (mulhR b c)):=fun n j hn=>by rw [Zea hn hin]
 have u2:∀n:Int,∃j:Int,IntKind.u64.wrap n=n+j * 18446744073709551616:=fun n=>⟨-(n / 18446744073709551616),by rw [zno];omega⟩
 obtain ⟨jb,hjb⟩:=u2 b
 obtain ⟨jc,hjc⟩:=u2 c
 by_cases hb:b < 0<;>by_cases hc:c < 0<;>simp only [hb,hc,decide_true,decide_false,if_true,if_false,Bool.false_eq_true,iOf,sb] at hk ⊢
 ·obtain ⟨j1,h1⟩:=u2 (h - IntKind.u64.wrap c)
  obtain ⟨j2,h2⟩:=u2 (IntKind.u64.wrap (h - IntKind.u64.wrap c) - IntKind.u64.wrap b)
  exact fin _ (k - jc+j1 - jb+j2) (by rw [h2,h1,hjb,hjc,hk];omega)
 ·obtain ⟨j1,h1⟩:=u2 (h - IntKind.u64.wrap c)
  exact fin _ (k - jc+j1) (by rw [h1,hjc,hk];omega)
 ·obtain ⟨j1,h1⟩:=u2 (h - IntKind.u64.wrap b)
  exact fin _ (k - jb+j1) (by rw [h1,hjb,hk];omega)
 ·exact fin _ k (by rw [hk];omega)
theorem zwq (b:Bool) (H:PH):Gives Tryz.prog Z7w [.bool b] H (.int .i64 (if b=true then 1 else 0)):=by
 refine Z0q [.bool b] (by kernel_rfl) (by kernel_rfl) ?_
 refine ⟨fun g=>?_,fun g=>?_⟩
 ·simp only [evs,arI,zb5] at g
  rw [if_pos g];exact ⟨rfl,PH.le_refl _⟩
 ·simp only [evs,arI,zb5] at g
  rw [if_neg (by rw [g];exact Bool.false_ne_true)];exact ⟨rfl,PH.le_refl _⟩
theorem Zez (c:Int):arI .and .u64 (IntKind.u64.wrap c) 63=arI .and .i64 c 63:=by
 have h:=zno c
 rw [Z9c,show (63:Int)=((2 ^ 6 - 1:Nat):Int) from rfl,Z5e 6 (by omega) (by omega) (by omega),h]
 omega
theorem Z24 (op b c:Int) (H:PH) (hb:InI b) (hc:InI c) (hz:op=5∨op=6→c≠0):Gives Tryz.prog zy4 [.int .i64 op,.int .i64 b,.int .i64 c] H (.int .i64 (thrR op b c)):=by
 refine zrw [.int .i64 op,.int .i64 b,.int .i64 c] (by kernel_rfl) (by kernel_rfl) ?_
 have e63:=Zez c
 have p63:=Z9c c
 simp only [arI] at e63 p63
 generalize ht:thrR op b c=t
 unfold thrR at ht
 refine ⟨fun g=>?_,fun g=>?_⟩
 ·simp only [evs,arI,zb5,zdt] at g
  rw [if_pos g] at ht
  exact ⟨by simp only [evs,arI,zb5,←ht],PH.le_refl _⟩
 simp only [evs,arI,zb5,zdf] at g
 rw [if_neg g] at ht
 refine ⟨fun g=>?_,fun g=>?_⟩
 ·simp only [evs,arI,zb5,zdt] at g
  rw [if_pos g] at ht
  exact ⟨by simp only [evs,arI,zb5,←ht],PH.le_refl _⟩
 simp only [evs,arI,zb5,zdf] at g
 rw [if_neg g] at ht
 refine ⟨fun g=>?_,fun g=>?_⟩
 ·simp only [evs,arI,zb5,zdt] at g
  rw [if_pos g] at ht
  exact ⟨by simp only [evs,arI,zb5,←ht],PH.le_refl _⟩
 simp only [evs,arI,zb5,zdf] at g
 rw [if_neg g] at ht
 refine ⟨fun g=>?_,fun g=>?_⟩
 ·simp only [evs,arI,zb5,zdt] at g
  rw [if_pos g] at ht
  refine z05 [.int .i64 (mulhR b c)] Z23 (Z72 b c H hb hc) rfl z01 fun K l=>?_
  exact ⟨by simp only [evs,arI,zb5,←ht],l⟩
 simp only [evs,arI,zb5,zdf] at g
 rw [if_neg g] at ht
 refine ⟨fun g=>?_,fun g=>?_⟩
 ·simp only [evs,arI,zb5,zdt] at g
  rw [if_pos g] at ht
  refine ⟨fun _=>?_,?_,PH.le_refl _⟩
  ·simp only [Chk.holds,evs,arI,zb5];exact hz (.inl g)
  ·simp only [evs,arI,zb5,←ht]
 simp only [evs,arI,zb5,zdf] at g
 rw [if_neg g] at ht
 refine ⟨fun g=>?_,fun g=>?_⟩
 ·simp only [evs,arI,zb5,zdt] at g
  rw [if_pos g] at ht
  refine ⟨fun _=>?_,?_,PH.le_refl _⟩
  ·simp only [Chk.holds,evs,arI,zb5];exact hz (.inr g)
  ·simp only [evs,arI,zb5,←ht]
 simp only [evs,arI,zb5,zdf] at g
 rw [if_neg g] at ht
 refine ⟨fun g=>?_,fun g=>?_⟩
 ·simp only [evs,arI,zb5,zdt] at g
  rw [if_pos g] at ht
  exact ⟨by simp only [evs,arI,zb5,←ht],PH.le_refl _⟩
 simp only [evs,arI,zb5,zdf] at g
 rw [if_neg g] at ht
 refine ⟨fun g=>?_,fun g=>?_⟩
 ·simp only [evs,arI,zb5,zdt] at g
  rw [if_pos g] at ht
  exact ⟨by simp only [evs,arI,zb5,←ht],PH.le_refl _⟩
 simp only [evs,arI,zb5,zdf] at g
 rw [if_neg g] at ht
 refine ⟨fun g=>?_,fun g=>?_⟩
 ·simp only [evs,arI,zb5,zdt] at g
  rw [if_pos g] at ht
  exact ⟨by simp only [evs,arI,zb5,←ht],PH.le_refl _⟩
 simp only [evs,arI,zb5,zdf] at g
 rw [if_neg g] at ht
 refine ⟨fun g=>?_,fun g=>?_⟩
 ·simp only [evs,arI,zb5,zdt] at g
  rw [if_pos g] at ht
  refine ⟨fun _=>?_,?_,PH.le_refl _⟩
  ·simp only [Chk.holds,evs,arI,zb5,e63,p63];omega
  ·simp only [evs,arI,zb5,e63,←ht]
 simp only [evs,arI,zb5,zdf] at g
 rw [if_neg g] at ht
 refine ⟨fun g=>?_,fun g=>?_⟩
 ·simp only [evs,arI,zb5,zdt] at g
  rw [if_pos g] at ht
  refine ⟨fun _=>?_,?_,PH.le_refl _⟩
  ·simp only [Chk.holds,evs,arI,zb5,e63,p63];omega
  ·simp only [evs,arI,zb5,e63,←ht]
 simp only [evs,arI,zb5,zdf] at g
 rw [if_neg g] at ht
 refine ⟨fun g=>?_,fun g=>?_⟩
 ·simp only [evs,arI,zb5,zdt] at g
  rw [if_pos g] at ht
  refine ⟨fun _=>?_,?_,PH.le_refl _⟩
  ·simp only [Chk.holds,evs,arI,zb5,e63,p63];omega
  ·simp only [evs,arI,zb5,e63,←ht,u64]
 simp only [evs,arI,zb5,zdf] at g
 rw [if_neg g] at ht
 refine ⟨fun g=>?_,fun g=>?_⟩
 ·simp only [evs,arI,zb5,zdt] at g
  rw [if_pos g] at ht
  refine z05 [.int .i64 (if decide (b < c)=true then 1 else 0)] zom (zwq (decide (b < c)) H) rfl z01 fun K l=>⟨?_,l⟩
  simp only [evs,arI,zb5,←ht,zdt]
 simp only [evs,arI,zb5,zdf] at g
 rw [if_neg g] at ht
 refine z05 [.int .i64 (if decide (u64 b < u64 c)=true then 1 else 0)] zom (zwq (decide (u64 b < u64 c)) H) rfl z01 fun K l=>⟨?_,l⟩
 simp only [evs,arI,zb5,←ht,zdt]
theorem Z3f (op a b:Int) (H:PH) (h:op=24∨op=25∨op=26∨op=27):Gives Tryz.prog Z07 [.int .i64 op,.int .i64 a,.int .i64 b] H (.bool (zmk op a b)):=by
 refine zu9 [.int .i64 op,.int .i64 a,.int .i64 b] (by kernel_rfl) (by kernel_rfl) ?_
 unfold zmk
 refine ⟨fun g=>?_,fun g=>?_⟩
 ·simp only [evs,arI,zb5,zdt] at g
  exact ⟨by simp [evs,arI,zb5,g],PH.le_refl _⟩
 simp only [evs,arI,zb5,zdf] at g
 refine ⟨fun g2=>?_,fun g2=>?_⟩
 ·simp only [evs,arI,zb5,zdt] at g2
  exact ⟨by simp [evs,arI,zb5,g2],PH.le_refl _⟩
 simp only [evs,arI,zb5,zdf] at g2
 refine ⟨fun g3=>?_,fun g3=>?_⟩
 ·simp only [evs,arI,zb5,zdt] at g3
  exact ⟨by simp [evs,arI,zb5,g3],PH.le_refl _⟩
 simp only [evs,arI,zb5,zdf] at g3
 have g4:op=27:=by omega
 exact ⟨by simp [evs,arI,zb5,g4],PH.le_refl _⟩
def simpR (x:InsR) (a b:Int):Int:=
 if x.op=15 then arI .add .i64 b x.n
 else if x.op=16 then arI .and .i64 b x.n
 else if x.op=17 then arI .or .i64 b x.n
 else if x.op=18 then arI .shl .i64 b x.n
 else if x.op=19 then arI .shr .i64 b x.n
 else if x.op=21 then arI .or .i64 (arI .mul .i64 a 65536) x.n
 else x.n
theorem zzx (x:InsR) (a b:Int) (r:Nat) (H:PH) (hx:InsOk x):Gives Tryz.prog zfu [pAt r,.agg (insV x).toArray,.int .i64 a,.int .i64 b] H (.int .i64 (simpR x a b)):=by
 refine zd6 ([pAt r]++insV x++[.int .i64 a,.int .i64 b]) (by kernel_rfl) (by kernel_rfl) ?_
 simp only [cns]
 generalize ht:simpR x a b=t
 unfold simpR at ht
 refine ⟨fun g=>?_,fun g=>?_⟩
 ·simp only [evs,arI,zb5,zdt] at g
  rw [if_pos g] at ht
  exact ⟨by simp only [evs,arI,zb5,←ht],PH.le_refl _⟩
 simp only [evs,arI,zb5,zdf] at g
 rw [if_neg g] at ht
 refine ⟨fun g=>?_,fun g=>?_⟩
 ·simp only [evs,arI,zb5,zdt] at g
  rw [if_pos g] at ht
  exact ⟨by simp only [evs,arI,zb5,←ht],PH.le_refl _⟩
 simp only [evs,arI,zb5,zdf] at g
 rw [if_neg g] at ht
 refine ⟨fun g=>?_,fun g=>?_⟩
 ·simp only [evs,arI,zb5,zdt] at g
  rw [if_pos g] at ht
  exact ⟨by simp only [evs,arI,zb5,←ht],PH.le_refl _⟩
 simp only [evs,arI,zb5,zdf] at g
 rw [if_neg g] at ht
 refine ⟨fun g=>?_,fun g=>?_⟩
 ·simp only [evs,arI,zb5,zdt] at g
  rw [if_pos g] at ht
  have hu:IntKind.u64.wrap x.n=x.n:=wu64 (hx.sh (.inl g)).1 (by have:=(hx.sh (.inl g)).2;omega)
  exact ⟨by simp only [evs,arI,zb5,hu,←ht],PH.le_refl _⟩
 simp only [evs,arI,zb5,zdf] at g
 rw [if_neg g] at ht
 refine ⟨fun g=>?_,fun g=>?_⟩
 ·simp only [evs,arI,zb5,zdt] at g
  rw [if_pos g] at ht
  have hu:IntKind.u64.wrap x.n=x.n:=wu64 (hx.sh (.inr g)).1 (by have:=(hx.sh (.inr g)).2;omega)
  exact ⟨by simp only [evs,arI,zb5,hu,←ht],PH.le_refl _⟩
 simp only [evs,arI,zb5,zdf] at g
 rw [if_neg g] at ht
 refine ⟨fun g=>?_,fun g=>?_⟩
 ·simp only [evs,arI,zb5,zdt] at g
  rw [if_pos g] at ht
  have e:arI .shl .i64 a 16=arI .mul .i64 a 65536:=rfl
  simp only [arI] at e
  exact ⟨by simp only [evs,arI,zb5,e,←ht],PH.le_refl _⟩
 simp only [evs,arI,zb5,zdf] at g
 rw [if_neg g] at ht
 exact ⟨by simp only [evs,arI,zb5,←ht],PH.le_refl _⟩
def MaR.setR (m:MaR) (r v:Int):MaR:={ m with regs:=if r=0 then m.regs else m.regs.set r.toNat v }
theorem MaOk.setR {m:MaR} (h:MaOk m) {r v:Int} (hv:InI v):MaOk (m.setR r v):=by
 have:=h.put (r:=r) (to:=0) hv
 exact ⟨this.len,this.regs⟩
section
variable {r:Nat} {st:Int} {m:MaR} {mv ov:Value} {S K:PH} {J:List Itm}
abbrev TQ:TypeId:=175
theorem Ze2 (a v:Int) (h:Held S K (z1j TQ r st m mv ov++J)) (ok:MaOk m) (ha:0≤a∧a≤31) :
  Tri Tryz.prog z9q #[pAt r,.int .i64 a,.int .i64 v] K fun e K'=>e=.returned (.tuple #[])∧Held S K' (z1j TQ r st (m.setR a v) mv ov++J):=by
 refine zhz [pAt r,.int .i64 a,.int .i64 v] (by kernel_rfl) (by kernel_rfl) ?_
 refine ⟨fun g=>?_,fun g=>?_⟩
 ·simp only [evs,arI,zb5,zdt,ne_eq] at g
  refine ⟨fun _=>by simp [Chk.holds,evs,arI,zb5],?_⟩
  refine z5u (r:=r) (off:=5) zcq zIntQ (by kernel_rfl) rfl (by omega) z01 ?_
  simp only [cns]
  refine z0e (off:=5+a.toNat) (vs:=[.int .i64 v]) (by simp only [evs,arI,zb5]) h (by simp only [evs,arI,zb5]) (by intro u hu;rw [zsi.1 hu];rfl) (by rw [c_len ok];simp only [List.length_singleton];omega) fun K4 h4=>?_
  refine ⟨rfl,?_⟩
  have e:=s_reg (st:=st) (mv:=mv) (ov:=ov) (v:=v) ok ha.1 ha.2
  unfold MaR.setR
  rw [if_neg g,←e];exact h4
 ·simp only [evs,arI,zb5,zdf,ne_eq,Decidable.not_not] at g
  refine ⟨rfl,?_⟩
  unfold MaR.setR
  rw [if_pos g];exact h
end
theorem form_1 {op:Int}:formQ op=1↔1≤op∧op≤14:=by
 unfold formQ
 repeat' split
 all_goals (constructor<;>intro h<;>omega)
theorem form_4 {op:Int}:formQ op=4↔24≤op∧op≤27:=by
 unfold formQ
 repeat' split
 all_goals (constructor<;>intro h<;>omega)
theorem zik (m:MaR) (r v to:Int):m.put r v to={ m.setR r v with pc:=to,steps:=m.steps+1 }:=rfl
section
variable {r:Nat} {st:Int} {m:MaR} {mv ov:Value} {S K:PH} {J:List Itm}
theorem Zbv (x:InsR) (h:Held S K (z1j TQ r st m mv ov++J)) (ok:MaOk m) (hx:InsOk x) (hpc:0≤m.pc∧m.pc≤1048576) (hst:0≤m.steps∧m.steps≤1099511627776) (hol:(m.out.length:Int)≤m.steps) (hml:m.mem.length≤1048576) :
  Tri Tryz.prog ziu #[pAt r,.agg (insV x).toArray] K fun e K'=>∃S' ov',PH.le S S'∧e=.returned (.int .i64 (stR m x).1)∧Held S' K' (z1j TQ r st (stR m x).2 mv ov'++J)∧MaOk (stR m x).2:=by
 have hxo:=hx
 obtain ⟨o1,o2,o3,o4,o5,o6⟩:=hx
 have hw1:IntKind.i64.wrap (m.pc+1)=m.pc+1:=w64 (by omega) (by omega)
 have hwn:IntKind.i64.wrap (m.pc+x.n)=m.pc+x.n:=w64 (by omega) (by omega)
 have hws:IntKind.i64.wrap (m.steps+1)=m.steps+1:=w64 (by omega) (by omega)
 have hp1:InI (m.pc+1):=by unfold InI;omega
 refine zfq ([pAt r]++insV x) (by kernel_rfl) (by kernel_rfl) ?_
 simp only [cns]
 have ra:=zvl h ok o2.1 o2.2
 have rb:=zvl h ok o3.1 o3.2
 refine ⟨fun vs K2=>vs=[.int .i64 (m.reg x.a),.int .i64 (m.reg x.b)]∧K=K2,?_,fun _=>by simp [Chk.holds,evs,arI,zb5],?_,?_⟩
 rotate_left
 ·refine z5u (r:=r) (off:=5) zcq zIntQ (by kernel_rfl) rfl (by omega) z01 ?_
  refine ⟨[.int .i64 (m.reg x.a)],rfl,by simp only [evs,arI,zb5];exact ra,?_⟩
  simp only [cns]
  refine z5u (r:=r) (off:=5) zcq zIntQ (by kernel_rfl) rfl (by omega) (Z14 (by simp only [evs,arI,zb5];exact ra)) ?_
  exact ⟨[.int .i64 (m.reg x.b)],rfl,by simp only [evs,arI,zb5];exact rb,_,z00,rfl,rfl⟩
 ·refine z5u (r:=r) (off:=5) zcq zIntQ (by kernel_rfl) rfl (by omega) z01 ?_
  refine ⟨[.int .i64 (m.reg x.b)],rfl,by simp only [evs,arI,zb5];exact rb,?_⟩
  simp only [cns]
  refine z5u (r:=r) (off:=5) zcq zIntQ (by kernel_rfl) rfl (by omega) (Z14 (by simp only [evs,arI,zb5];exact rb)) ?_
  exact ⟨[.int .i64 (m.reg x.a)],rfl,by simp only [evs,arI,zb5];exact ra,_,z00,rfl,rfl⟩
 rintro vs K2 _ ⟨rfl,rfl⟩
 simp only [cns]
 have hpcr:∀{S K ov J} {m2:MaR},m2.pc=m.pc→Held S K (z1j TQ r st m2 mv ov++J)→rowAt K (some ⟨r,4,none⟩) [.int .i64 m.pc]:=fun e h=>by rw [←e];exact z4c h rfl
 refine ⟨fun _=>by simp [Chk.holds,evs,arI,zb5],[.int .i64 m.pc],rfl,by simp only [evs,arI,zb5];exact hpcr rfl h,?_⟩
 simp only [cns]
 refine ⟨fun vs K2=>∃(S2:PH) (m2:MaR) (ov2:Value) (nx:Int),PH.le S S2∧vs=[.int .i64 nx]∧Held S2 K2 (z1j TQ r st m2 mv ov2++J)∧MaOk m2∧m2.steps=m.steps∧stR m x=(if x.op=0 then 0 else 6,{ m2 with pc:=nx,steps:=m.steps+1 }),?_,?_⟩
 ·rintro vs K2 _ ⟨S2,m2,ov2,nx,l2,rfl,h2,ok2,hs2,heq⟩
  simp only [cns]
  refine z0e (off:=4) (vs:=[.int .i64 nx]) (by simp only [evs,arI,zb5];rfl) h2 (by simp only [evs,arI,zb5]) (by intro u hu;rw [zsi.1 hu];rfl) (by simp [z0h]) fun K4 h4=>?_
  have h4:Held S2 K4 (z1j TQ r st { m2 with pc:=nx } mv ov2++J):=h4
  refine ⟨[.int .i64 m.steps],rfl,by simp only [evs,arI,zb5];rw [←hs2];exact z4c h4 rfl,?_⟩
  simp only [cns]
  refine z0e (off:=3) (vs:=[.int .i64 (m.steps+1)]) (by simp only [evs,arI,zb5];rfl) h4 (by simp only [evs,arI,zb5,hws]) (by intro u hu;rw [zsi.1 hu];rfl) (by simp [z0h]) fun K5 h5=>?_
  have h5:Held S2 K5 (z1j TQ r st { m2 with pc:=nx,steps:=m.steps+1 } mv ov2++J):=h5
  rw [heq]
  refine ⟨fun g=>?_,fun g=>?_⟩
  ·simp only [evs,arI,zb5,zdt] at g
   exact ⟨S2,ov2,l2,by rw [if_pos g];rfl,h5,ok2.len,ok2.regs⟩
  ·simp only [evs,arI,zb5,zdf] at g
   exact ⟨S2,ov2,l2,by rw [if_neg g];rfl,h5,ok2.len,ok2.regs⟩
 have setGo:∀{S2 K2:PH} {m2:MaR} {ov2:Value} {v:Int},Held S2 K2 (z1j TQ r st m2 mv ov2++J)→MaOk m2→InI v→Tri Tryz.prog z9q #[pAt r,.int .i64 x.a,.int .i64 v] K2 fun e K'=>e=.returned (.tuple #[])∧Held S2 K' (z1j TQ r st (m2.setR x.a v) mv ov2++J)∧MaOk (m2.setR x.a v):=fun h2 ok2 hv=>(Ze2 x.a _ h2 ok2 o2).mono fun e K' ⟨h3,h4⟩=>⟨h3,h4,ok2.setR hv⟩
 refine z04 z8r (h.gives (zc4 x.op S)) ?_
 rintro e K1 ⟨rfl,h,_⟩
 refine ⟨_,[.int .i64 (formQ x.op)],rfl,rfl,rfl,z01,?_⟩
 simp only [cns]
 refine ⟨fun g=>?_,fun g=>?_⟩
 ·simp only [evs,arI,zb5,zdt] at g
  refine ⟨[.int .i64 m.pc],rfl,by simp only [evs,arI,zb5];exact hpcr rfl h,?_⟩
  simp only [cns]
  refine z0e (off:=1) (vs:=[.int .i64 (m.reg x.a)]) (by simp only [evs,arI,zb5];rfl) h (by simp only [evs,arI,zb5]) (by intro u hu;rw [zsi.1 hu];rfl) (by simp [z0h]) fun K4 h4=>?_
  refine ⟨_,z00,S,{ m with value:=m.reg x.a },ov,m.pc,PH.le_refl _,by simp only [evs,arI,zb5],h4,⟨ok.len,ok.regs⟩,rfl,?_⟩
  unfold stR
  rw [if_pos g,if_pos g]
 simp only [evs,arI,zb5,zdf] at g
 rw [if_neg g]
 refine ⟨fun g1=>?_,fun g1=>?_⟩
 ·
  simp only [evs,arI,zb5,zdt] at g1
  have g1:=form_1.1 g1
  have hS:stR m x=if (x.op=5∨x.op=6)∧m.reg x.c=0 then (4,m) else (6,m.put x.a (thrR x.op (m.reg x.b) (m.reg x.c)) (m.pc+1)):=by
   unfold stR
   rw [if_neg g,if_neg (show ¬x.op=15 by omega),if_neg (show ¬x.op=16 by omega),if_neg (show ¬x.op=17 by omega),if_neg (show ¬x.op=18 by omega),if_neg (show ¬x.op=19 by omega),if_neg (show ¬x.op=20 by omega),if_neg (show ¬x.op=21 by omega),if_neg (show ¬(x.op=22∨x.op=23) by omega),if_neg (show ¬(x.op=24∨x.op=25∨x.op=26∨x.op=27) by omega),if_neg (show ¬x.op=28 by omega),if_neg (show ¬x.op=29 by omega),if_neg (show ¬x.op=30 by omega),if_neg (show ¬x.op=31 by omega)]
  refine z5u (r:=r) (off:=5) zcq zIntQ (by kernel_rfl) rfl (by omega) z01 ?_
  refine ⟨[.int .i64 (m.reg x.c)],rfl,by simp only [evs,arI,zb5];exact zvl h ok o4.1 o4.2,?_⟩
  simp only [cns]
  refine ⟨fun g2=>?_,fun g2=>?_⟩
  ·simp only [evs,arI,zb5] at g2
   simp only [zba,Bool.or_eq_true,zdt] at g2
   rw [hS,if_pos g2]
   exact ⟨S,ov,PH.le_refl _,rfl,h,ok⟩
  ·simp only [evs,arI,zb5] at g2
   simp only [Bool.and_eq_false_iff,zof,zdf] at g2
   have g2:¬((x.op=5∨x.op=6)∧m.reg x.c=0):=by omega
   rw [if_neg g2] at hS
   have hti:=Zcy x.op (ok.reg x.b) (ok.reg x.c)
   refine z04 zuk (h.gives (Z24 x.op (m.reg x.b) (m.reg x.c) S (ok.reg _) (ok.reg _) fun hh h0=>g2 ⟨hh,h0⟩)) ?_
   rintro e K3 ⟨rfl,h3,_⟩
   refine ⟨_,[.int .i64 (thrR x.op (m.reg x.b) (m.reg x.c))],rfl,rfl,rfl,z01,?_⟩
   simp only [cns]
   refine z04 z1v (setGo h3 ok hti) ?_
   rintro e K4 ⟨rfl,h4,ok4⟩
   refine ⟨_,[],rfl,rfl,rfl,z01,_,z00,S,_,ov,m.pc+1,PH.le_refl _,by simp only [evs,arI,zb5,zan,hw1],h4,ok4,rfl,by rw [hS,zik]⟩
 simp only [evs,arI,zb5,zdf] at g1
 have g1:¬(1≤x.op∧x.op≤14):=fun h=>g1 (form_1.2 h)
 refine ⟨fun g2=>?_,fun g2=>?_⟩
 ·
  simp only [evs,arI,zb5,zdt] at g2
  have g2:=form_4.1 g2
  have hS:stR m x=(6,m.goes (if zmk x.op (m.reg x.a) (m.reg x.b)=true then m.pc+x.n else m.pc+1)):=by
   unfold stR
   rw [if_neg g,if_neg (show ¬((x.op=5∨x.op=6)∧m.reg x.c=0) by omega),if_neg (show ¬x.op=15 by omega),if_neg (show ¬x.op=16 by omega),if_neg (show ¬x.op=17 by omega),if_neg (show ¬x.op=18 by omega),if_neg (show ¬x.op=19 by omega),if_neg (show ¬x.op=20 by omega),if_neg (show ¬x.op=21 by omega),if_neg (show ¬(x.op=22∨x.op=23) by omega),if_pos (show x.op=24∨x.op=25∨x.op=26∨x.op=27 by omega)]
  refine z04 zx6 (h.gives (Z3f x.op (m.reg x.a) (m.reg x.b) S (by omega))) ?_
  rintro e K3 ⟨rfl,h3,_⟩
  refine ⟨_,[.bool (zmk x.op (m.reg x.a) (m.reg x.b))],rfl,rfl,rfl,z01,?_⟩
  simp only [cns]
  refine ⟨fun g3=>?_,fun g3=>?_⟩
  ·simp only [evs,arI,zb5] at g3
   rw [if_pos g3] at hS
   refine ⟨[.int .i64 m.pc],rfl,by simp only [evs,arI,zb5];exact hpcr rfl h3,_,z00,S,m,ov,m.pc+x.n,PH.le_refl _,by simp only [evs,arI,zb5,List.cons_append,List.nil_append,hwn],h3,ok,rfl,by rw [hS];rfl⟩
  ·simp only [evs,arI,zb5] at g3
   rw [if_neg (by rw [g3];exact Bool.false_ne_true)] at hS
   refine ⟨_,z00,S,m,ov,m.pc+1,PH.le_refl _,by simp only [evs,arI,zb5,hw1],h3,ok,rfl,by rw [hS];rfl⟩
 simp only [evs,arI,zb5,zdf] at g2
 have g2:¬(24≤x.op∧x.op≤27):=fun h=>g2 (form_4.2 h)
 have n1:¬((x.op=5∨x.op=6)∧m.reg x.c=0):=by omega
 have n2:¬(x.op=24∨x.op=25∨x.op=26∨x.op=27):=by omega
 refine ⟨fun g3=>?_,fun g3=>?_⟩
 ·
  simp only [evs,arI,zb5] at g3
  simp only [Bool.or_eq_true,zdt] at g3
  obtain ⟨at_,hatd⟩:∃at_,IntKind.i64.wrap (m.reg x.b+x.n)=at_:=⟨_,rfl⟩
  have hata:arI .add .i64 (m.reg x.b) x.n=at_:=hatd
  have hmsl:=Zfc h
  obtain ⟨mb,mc,hmv⟩:=hmsl.sl
  have hS:stR m x=(if at_ < 0∨(m.mem.length:Int)≤at_ then (2,m) else if x.op=23 then (6,{ m.goes (m.pc+1) with mem:=m.mem.set at_.toNat (m.reg x.a) }) else (6,m.put x.a (m.mem.getD at_.toNat 0) (m.pc+1))):=by
   unfold stR
   rw [hata]
   rcases g3 with g9 | g9<;>simp [g9]
  refine ⟨fun vs K2=>vs=[.bool (decide (at_ < 0∨(m.mem.length:Int)≤at_))]∧K1=K2,?_,fun ga=>?_,fun ga=>?_⟩
  ·rintro vs K2 _ ⟨rfl,rfl⟩
   simp only [cns]
   refine ⟨fun ga=>?_,fun ga=>?_⟩
   ·simp only [evs,arI,zb5,zdt] at ga
    rw [hS,if_pos ga]
    exact ⟨S,ov,PH.le_refl _,rfl,h,ok⟩
   ·simp only [evs,arI,zb5,zdf] at ga
    rw [if_neg ga] at hS
    have hin:0≤at_∧at_ < m.mem.length:=by omega
    have hlt:at_.toNat < m.mem.length:=by omega
    obtain ⟨cell,hcell⟩:∃cell,m.mem[at_.toNat]?=some cell:=⟨_,zge hlt⟩
    obtain ⟨y1,_,ycs,y2,y3⟩:=hmsl.get hcell
    obtain ⟨rfl,yin⟩:=csIK y2
    have hj:((at_.toNat:Nat):Int)=at_:=Int.toNat_of_nonneg hin.1
    rw [hj] at y3
    refine ⟨fun gb=>?_,fun gb=>?_⟩
    ·simp only [evs,arI,zb5,zdt] at gb
     rw [if_pos gb] at hS
     refine ⟨[mv],by rw [hmv];rfl,by simp only [evs,arI,zb5];exact zvq h ok,fun _=>?_,?_⟩
     ·simp only [Chk.holds,evs,arI,zb5,hatd]
      rw [hmv] at y1 ⊢
      exact ⟨y1,hin.1,hin.2⟩
     simp only [cns]
     refine z1n (i:=at_.toNat) (a:=cell) (a':=m.reg x.a) (us:=[.int .i64 (m.reg x.a)]) ?_ (h.perm (List.Perm.swap _ _ _)) hcell rfl (by simp only [evs,arI,zb5]) (by simp [oneC]) (z0k (ok.reg _)) fun K4 h4=>?_
     ·simp only [evs,arI,zb5,hatd,hj];rfl
     exact ⟨_,z00,S,{ m with mem:=m.mem.set at_.toNat (m.reg x.a) },ov,m.pc+1,PH.le_refl _,by simp only [evs,arI,zb5,hw1],h4.perm (List.Perm.swap _ _ _),⟨ok.len,ok.regs⟩,rfl,by rw [hS];rfl⟩
    ·simp only [evs,arI,zb5,zdf] at gb
     rw [if_neg gb] at hS
     refine ⟨[mv],by rw [hmv];rfl,by simp only [evs,arI,zb5];exact zvq h ok,fun _=>?_,[.int .i64 cell],rfl,?_,?_⟩
     ·simp only [Chk.holds,evs,arI,zb5,hatd]
      rw [hmv] at y1 ⊢
      exact ⟨y1,hin.1,hin.2⟩
     ·simp only [evs,arI,zb5,hatd];exact y3
     simp only [cns]
     refine z04 z1v (setGo h ok yin) ?_
     rintro e K4 ⟨rfl,h4,ok4⟩
     refine ⟨_,[],rfl,rfl,rfl,z01,_,z00,S,_,ov,m.pc+1,PH.le_refl _,by simp only [evs,arI,zb5,zan,hw1],h4,ok4,rfl,?_⟩
     rw [hS,zik,zgd,hcell];rfl
  ·simp only [evs,arI,zb5,hatd,zdt] at ga
   exact ⟨_,z00,by simp [evs,arI,zb5,ga],rfl⟩
  ·simp only [evs,arI,zb5,hatd,zdf] at ga
   refine ⟨[mv],by rw [hmv];rfl,by simp only [evs,arI,zb5];exact zvq h ok,_,z00,?_,rfl⟩
   simp only [evs,arI,zb5,hatd,hmv]
   rw [List.cons.injEq]
   refine ⟨?_,rfl⟩
   rw [Value.bool.injEq,decide_eq_decide];omega
 simp only [evs,arI,zb5] at g3
 simp only [zof,zdf] at g3
 have n3:¬(x.op=22∨x.op=23):=by omega
 refine ⟨fun g4=>?_,fun g4=>?_⟩
 ·simp only [evs,arI,zb5,zdt] at g4
  have hS:stR m x=(6,m.put x.a (m.pc+1) (m.pc+x.n)):=by unfold stR;simp [g4]
  have hc:=setGo (v:=m.pc+1) h ok hp1
  rw [←hw1] at hc
  refine z04 z1v hc ?_
  rintro e K4 ⟨rfl,h4,ok4⟩
  rw [hw1] at h4 ok4
  refine ⟨_,[],rfl,rfl,rfl,z01,[.int .i64 m.pc],rfl,by simp only [evs,arI,zb5,zan];exact hpcr (m2:=m.setR x.a (m.pc+1)) rfl h4,_,z00,S,_,ov,m.pc+x.n,PH.le_refl _,by simp only [evs,arI,zb5,zan,List.cons_append,List.nil_append,hwn],h4,ok4,rfl,by rw [hS,zik]⟩
 simp only [evs,arI,zb5,zdf] at g4
 refine ⟨fun g5=>?_,fun g5=>?_⟩
 ·simp only [evs,arI,zb5,zdt] at g5
  have hS:stR m x=(6,m.put x.a (m.pc+1) (m.reg x.b)):=by unfold stR;simp [g5]
  have hc:=setGo (v:=m.pc+1) h ok hp1
  rw [←hw1] at hc
  refine z04 z1v hc ?_
  rintro e K4 ⟨rfl,h4,ok4⟩
  rw [hw1] at h4 ok4
  exact ⟨_,[],rfl,rfl,rfl,z01,_,z00,S,_,ov,m.reg x.b,PH.le_refl _,by simp only [evs,arI,zb5,zan,List.cons_append,List.nil_append],h4,ok4,rfl,by rw [hS,zik]⟩
 simp only [evs,arI,zb5,zdf] at g5
 refine ⟨fun g6=>?_,fun g6=>?_⟩
 ·
  simp only [evs,arI,zb5,zdt] at g6
  obtain ⟨v,hv⟩:∃v:Int,v=(match m.input with | []=>-1 | c::_=>(c.toNat:Int)):=⟨_,rfl⟩
  have hvi:InI v:=by
   rw [hv];unfold InI
   cases m.input with
   | nil=>simp
   | cons c l=>have:=c.toNat_lt;simp only [];omega
  have hS:stR m x=((6:Int),({ m.put x.a v (m.pc+1) with input:=m.input.drop 1 }:MaR)):=by
   unfold stR
   rw [if_neg g,if_neg n1,if_neg (show ¬x.op=15 by omega),if_neg (show ¬x.op=16 by omega),if_neg (show ¬x.op=17 by omega),if_neg (show ¬x.op=18 by omega),if_neg (show ¬x.op=19 by omega),if_neg (show ¬x.op=20 by omega),if_neg (show ¬x.op=21 by omega),if_neg n3,if_neg n2,if_neg g4,if_neg g5,if_pos g6]
   rw [hv]<;>rfl
  refine ⟨fun vs K2=>vs=[.int .i64 v]∧Held S K2 (z1j TQ r st { m with input:=m.input.drop 1 } mv ov++J),?_,?_⟩
  ·rintro vs K2 _ ⟨rfl,h2⟩
   simp only [cns]
   refine z04 z1v (setGo h2 ⟨ok.len,ok.regs⟩ hvi) ?_
   rintro e K4 ⟨rfl,h4,ok4⟩
   refine ⟨_,[],rfl,rfl,rfl,z01,_,z00,S,_,ov,m.pc+1,PH.le_refl _,by simp only [evs,arI,zb5,zan,hw1],h4,ok4,rfl,?_⟩
   rw [hS];rfl
  ·refine ⟨[txt m.input],rfl,by simp only [evs,arI,zb5];exact Z9f h ok,?_⟩
   simp only [cns]
   refine ⟨fun ge=>?_,fun ge=>?_⟩
   ·simp only [evs,arI,zb5,z2j,zdt] at ge
    obtain ⟨b,l,hbl⟩:∃b l,m.input=b::l:=by
     cases hi:m.input with
     | nil=>exact absurd hi ge
     | cons b l=>exact ⟨b,l,rfl⟩
    have hi2:=Z9f h ok
    rw [hbl] at hi2
    refine ⟨[txt (b::l)],rfl,by simp only [evs,arI,zb5];exact hi2,fun _=>?_,[txt (b::l)],rfl,by simp only [evs,arI,zb5];exact hi2,fun _=>?_,?_⟩
    ·simp only [Chk.holds,evs,arI,zb5,z29,zlc];omega
    ·simp only [Chk.holds,evs,arI,zb5,z29,zlc];omega
    simp only [cns]
    refine z0e (off:=38) (vs:=[txt l]) (by simp only [evs,arI,zb5];rfl) h ?_ (by intro u hu;rw [zsi.1 hu];rfl) (by rw [c_len ok];simp) fun K1 h1=>?_
    ·simp only [List.map_cons,List.map_nil,evs,arI,zb5,z29]
     rw [show ((1:Int)).toNat=1 from rfl,Int.toNat_natCast,zgs]
     simp
    have e:=s_in (st:=st) (mv:=mv) (ov:=ov) ok l
    have hb:=b.toNat_lt
    have hw:IntKind.i64.wrap (b.toNat:Int)=(b.toNat:Int):=w64 (by omega) (by omega)
    have hb0:(((⟨(b::l).toArray⟩:ByteArray)[0]?).getD 0)=b:=rfl
    refine ⟨_,z00,?_,?_⟩
    ·rw [hv,hbl]
     simp [evs,arI,zb5]
     rw [hb0];exact hw
    ·rw [hbl,List.drop_one,List.tail_cons,←e];exact h1
   ·simp only [evs,arI,zb5,z2j,zdf,ne_eq,Decidable.not_not] at ge
    have ge:m.input=[]:=ge
    refine ⟨_,z00,by rw [hv,ge];rfl,?_⟩
    have:({ m with input:=m.input.drop 1 }:MaR)=m:=by rw [ge];cases m;simp only at ge;subst ge;rfl
    rw [this];exact h
 simp only [evs,arI,zb5,zdf] at g6
 refine ⟨fun g7=>?_,fun g7=>?_⟩
 ·
  simp only [evs,arI,zb5,zdt] at g7
  have hS:stR m x=(if m.reg x.a < 0∨255 < m.reg x.a then (5,m) else (6,{ m.goes (m.pc+1) with out:=m.out++[UInt8.ofNat (m.reg x.a).toNat] })):=by
   unfold stR;simp [g7]
  refine ⟨fun gf=>?_,fun gf=>?_⟩
  ·simp only [evs,arI,zb5] at gf
   simp only [Bool.or_eq_true,zdt] at gf
   rw [hS,if_pos (by omega)]
   exact ⟨S,ov,PH.le_refl _,rfl,h,ok⟩
  ·simp only [evs,arI,zb5] at gf
   simp only [zof,zdf] at gf
   obtain ⟨ob,oc,rfl⟩:=zco h
   refine ⟨[.slice ob m.out.length oc],rfl,by simp only [evs,arI,zb5];exact zcl h ok,?_⟩
   simp only [cns]
   have hbyte:IntKind.u8.wrap (m.reg x.a)=((UInt8.ofNat (m.reg x.a).toNat).toNat:Int):=by
    rw [wu8 (by omega) (by omega)]
    have:(UInt8.ofNat (m.reg x.a).toNat).toNat=(m.reg x.a).toNat:=by
     rw [UInt8.toNat_ofNat'];omega
    omega
   have hp:Held S K1 (orow 5 m.out (.slice ob m.out.length oc)::(bx r TQ (z0h st m mv (.slice ob m.out.length oc))::orow 3 m.mem mv::J)):=h.perm (List.perm_middle (l₁:=[_,_]))
   refine z28 (b:=1) (more:=[UInt8.ofNat (m.reg x.a).toNat]) [.int .u8 ((UInt8.ofNat (m.reg x.a).toNat).toNat:Int)] z5c zin rfl (by decide) (by decide) hp (by simp [idxs,evs,arI,zb5,argEv,hbyte]) (.cons (Zem _) .nil) z01 (fun w=>by kernel_rfl) (fun w=>by kernel_rfl)
    (by simp only [maxLen,List.length_singleton];omega) (by simp only [List.length_singleton];omega) fun w v6 S6 K6 l6 h6=>⟨z01,?_⟩
   simp only [cns]
   obtain ⟨b6,c6,hv6⟩:=(h6.row (e:=5) (zms)).sl
   refine z0e (off:=39) (vs:=[v6]) (by simp only [evs,arI,zb5];rfl) (h6.perm ((List.Perm.swap _ _ _).trans (List.Perm.cons _ (List.Perm.swap _ _ _)))) (by simp only [evs,arI,zb5]) (by intro u hu;rw [zsi.1 hu,hv6];rfl) (by rw [c_len ok];simp) fun K7 h7=>?_
   have e:=s_out (st:=st) (mv:=mv) (ov:=.slice ob m.out.length oc) ok v6
   refine ⟨_,z00,S6,{ m with out:=m.out++[UInt8.ofNat (m.reg x.a).toNat] },v6,m.pc+1,l6,by simp only [evs,arI,zb5,hw1],?_,⟨ok.len,ok.regs⟩,rfl,?_⟩
   ·show Held S6 K7 (z1j TQ r st { m with out:=m.out++[UInt8.ofNat (m.reg x.a).toNat] } mv v6++J)
    have h8:Held S6 K7 (bx r TQ (z0h st m mv v6)::orow 3 m.mem mv::orow 5 (m.out++[UInt8.ofNat (m.reg x.a).toNat]) v6::J):=by rw [←e];exact h7
    exact h8
   ·rw [hS,if_neg (by omega)];rfl
 simp only [evs,arI,zb5,zdf] at g7
 have hr:x.op=15∨x.op=16∨x.op=17∨x.op=18∨x.op=19∨x.op=20∨x.op=21:=by omega
 have hS:stR m x=(6,m.put x.a (simpR x (m.reg x.a) (m.reg x.b)) (m.pc+1)):=by
  unfold stR simpR
  rcases hr with h | h | h | h | h | h | h<;>simp [h]
 have hvi:InI (simpR x (m.reg x.a) (m.reg x.b)):=by
  unfold simpR
  exact z1o (z2n _) (z1o (z2n _) (z1o (z2n _) (z1o (z2n _) (z1o (Z8q (ok.reg _) _) (z1o (z2n _) (by unfold InI;omega))))))
 refine z04 zen (h.gives (zzx x (m.reg x.a) (m.reg x.b) r S hxo)) ?_
 rintro e K3 ⟨rfl,h3,_⟩
 refine ⟨_,[.int .i64 (simpR x (m.reg x.a) (m.reg x.b))],rfl,rfl,rfl,z01,?_⟩
 simp only [cns]
 refine z04 z1v (setGo h3 ok hvi) ?_
 rintro e K4 ⟨rfl,h4,ok4⟩
 exact ⟨_,[],rfl,rfl,rfl,z01,_,z00,S,_,ov,m.pc+1,PH.le_refl _,by simp only [evs,arI,zb5,zan,hw1],h4,ok4,rfl,by rw [hS,zik]⟩
end
theorem zb0 {st:Int} {m:MaR} {R:HaltR} (h:z5l (st,m)=R) {mv ov:Value}:(z0h st m mv ov).take 2++[txt m.out]++(z0h st m mv ov).drop 3=haltV R mv++[txt m.input,ov]:=by
 rw [←h]
 simp [z0h,haltV,z5l]
theorem Z7h (l:List Int) (v:Value) (S:PH) (hl:SlR S l v) (hne:l≠[]) (hlen:l.length≤1000000000):Tri Tryz.prog zc0 #[v] S fun e K=>∃v',e=.returned v'∧Held S K [orow 3 l v']:=by
 obtain ⟨b,c,rfl⟩:=hl.sl
 refine zax [.slice b l.length c] (by kernel_rfl) (by kernel_rfl) ?_
 have hb:∃a,b=some a:=by
  rcases (SlR.mk_iff.1 hl).2 with ⟨_,h⟩ | ⟨a,c',h,_⟩
  ·exact absurd h hne
  ·simp only [Value.slice.injEq] at h
   exact ⟨a,h.1⟩
 obtain ⟨a,rfl⟩:=hb
 have h0:Held S S []:=Held.nil (PH.le_refl _)
 refine ⟨fun g=>?_,fun g=>?_⟩
 ·simp [evs,arI,zb5,z3z] at g
 ·refine zlr (α:=Int) (b:=8) z0s z0v h0 z01 fun v1 K1 k1 _ _=>?_
  simp only [cns]
  refine za4 (b:=8) (more:=l) z0s z0v (by kernel_rfl) (by kernel_rfl) k1 (hl.srcS k1.sh) (by simp only [maxLen,zln];omega) (by simp only [zln];omega) fun v2 K2 k2 _=>⟨z01,?_⟩
  rw [List.nil_append] at k2
  exact ⟨_,rfl,k2⟩
theorem Zel:Tryz.prog.underlying 3=some (.int .i64):=by kernel_rfl
theorem Zd9 (i:ImgR) (input:List UInt8) (steps:Int) (cv mv:Value) (H:PH) (hc:SlR H i.code cv) (hm:SlR H i.mem mv) (hst:steps≤1099511627776) (hne:i.mem≠[]) :
  Tri Tryz.prog Z5n #[.agg #[cv,mv,.int .i64 i.words],txt input,.int .i64 steps] H fun e H'=>∃mv',PH.le H H'∧e=.returned (.agg (haltV (runR i input steps) mv').toArray)∧SlR H' (runR i input steps).mem mv'∧(runR i input steps).regs.length=32∧∀v∈(runR i input steps).regs,InI v:=by
 obtain ⟨cb,cc,rfl⟩:=hc.sl
 obtain ⟨mb,mc,rfl⟩:=hm.sl
 have hcm:=hc.max
 have hmm:=hm.max
 have hmx:maxLen=9223372036854775807:=rfl
 refine Z1p [.slice cb i.code.length cc,.slice mb i.mem.length mc,.int .i64 i.words,txt input,.int .i64 steps] (by kernel_rfl) (by kernel_rfl) ?_
 have hbad:zmd i steps=((((decide (i.words < 0) || decide (1048576 < i.words)) || decide (1048576 < (i.code.length:Int))) || decide (i.words < (i.mem.length:Int))) || decide (steps < 0)):=rfl
 refine ⟨fun g=>?_,fun g=>?_⟩
 ·simp only [evs,arI,zb5] at g
  have hr:runR i input steps=noImg:=by unfold runR;rw [if_pos (by rw [hbad];exact g)]
  rw [hr]
  refine ⟨.slice none 0 0,PH.le_refl _,rfl,SlR.mk_iff.2 ⟨by simp [noImg,maxLen],.inl ⟨rfl,rfl⟩⟩,rfl,fun v hv=>?_⟩
  have:v=0:=List.eq_of_mem_replicate hv
  rw [this];unfold InI;omega
 simp only [evs,arI,zb5] at g
 have hgood:zmd i steps=false:=by rw [hbad];exact g
 simp only [zof,zdf] at g
 obtain ⟨⟨⟨⟨g1,g2⟩,g3⟩,g4⟩,g5⟩:=g
 rw [Zcz hgood]
 obtain ⟨R,hR⟩:∃R,z8x i.code steps 6 (z4i i input)=R:=⟨_,rfl⟩
 rw [hR]
 obtain ⟨wn,hwn⟩:∃wn:Nat,i.words=(wn:Int):=⟨i.words.toNat,by omega⟩
 have h0:Held H H []:=Held.nil (PH.le_refl _)
 obtain ⟨m0,hm0⟩:∃m0:MaR,m0=⟨0,0,0,zz7,[],input,[]⟩:=⟨_,rfl⟩
 have ok0:MaOk m0:=by
  subst hm0
  refine ⟨rfl,fun v hv=>?_⟩
  have:v=0:=List.eq_of_mem_replicate hv
  rw [this];unfold InI;omega
 refine z15 (vs:=z0h 0 m0 (.slice none 0 0) (.slice none 0 0)) h0 (by subst hm0;kernel_rfl) fun r K1 l1 h1=>?_
 simp only [cns]
 refine z04 zb8 (Held.call (J:=[]) (I:=[bx r TQ (z0h 0 m0 (.slice none 0 0) (.slice none 0 0))]) (R:=fun e S' J'=>∃v',e=.returned v'∧J'=[orow 3 i.mem v']) h1 fun K hK=>((Z7h i.mem _ H hm hne (by omega)).within hK.sh).mono fun e K' h=>?_) ?_
 ·obtain ⟨K2,⟨v',rfl,h2⟩,h3,h4⟩:=h
  exact ⟨H,_,PH.le_refl _,h2.le h3,v',rfl,rfl⟩
 rintro e K2 ⟨SB,J2,lB,h2,v2,rfl,rfl⟩
 simp only [cns] at h2
 obtain ⟨b2,c2,rfl⟩:=(h2.row (e:=3) (zms)).sl
 refine ⟨_,[.slice b2 i.mem.length c2],rfl,rfl,rfl,z01,?_⟩
 simp only [cns]
 have hsub:arI .sub .i64 i.words (i.mem.length:Int)=((wn - i.mem.length:Nat):Int):=by
  show IntKind.i64.wrap (i.words - (i.mem.length:Int))=_
  rw [w64 (by omega) (by omega)];omega
 refine Z6c (α:=Int) (b:=8) (m:=wn - i.mem.length) 0 rfl z7k z0s Zel zah (by kernel_rfl) (by rw [←hsub];kernel_rfl) h2 (by omega) (by omega) fun gv K4 h4=>?_
 simp only [cns]
 obtain ⟨mem0,hmem0⟩:∃mem0:List Int,mem0=i.mem++List.replicate (wn - i.mem.length) 0:=⟨_,rfl⟩
 rw [←hmem0] at h4
 have hml0:mem0.length=wn:=by rw [hmem0,zla,List.length_replicate];omega
 have hgsl:=(h4.row (e:=3) (zms)).sl
 obtain ⟨gvb,gvc,hgvE⟩:=hgsl
 have hgsl:=hgvE
 have hone:∀v∈[gv],oneC v=true:=by
  intro v hv
  rw [zsi.1 hv,hgvE];rfl
 refine ⟨fun _=>by simp [Chk.holds,evs,arI,zb5],?_⟩
 refine z0e (off:=37) (vs:=[gv]) (by simp only [evs,arI,zb5];rfl) (h4.perm (List.Perm.swap _ _ _)) (by simp only [evs,arI,zb5]) hone (by rw [c_len ok0];simp) fun K5 h5=>?_
 have h5:Held SB K5 (bx r TQ (z0h 0 m0 gv (.slice none 0 0))::orow 3 mem0 gv::[]):=by
  have e:=s_mem (st:=0) (mv:=.slice none 0 0) (ov:=.slice none 0 0) ok0 gv
  rw [←e];exact h5
 refine z0e (off:=0) (vs:=[.int .i64 6]) (by simp only [evs,arI,zb5];rfl) h5 (by simp only [evs,arI,zb5]) (by intro u hu;rw [zsi.1 hu];rfl) (by simp [z0h]) fun K6 h6=>?_
 have h6:Held SB K6 (bx r TQ (z0h 6 m0 gv (.slice none 0 0))::orow 3 mem0 gv::[]):=h6
 have hstart:z4i i input={ m0 with mem:=mem0 }:=by
  unfold z4i
  rw [hm0,hmem0,hwn];rfl
 have h7:Held SB K6 (z1j TQ r 6 (z4i i input) gv (.slice none 0 0)++[]):=by
  rw [hstart]
  have h8:=(h6.empty (α:=UInt8) 5)
  have he:m0.out=[]:=by rw [hm0]
  show Held SB K6 [bx r TQ (z0h 6 m0 gv (.slice none 0 0)),orow 3 mem0 gv,orow 5 m0.out (.slice none 0 0)]
  rw [he]
  exact h8.perm (List.perm_append_comm (l₁:=[_]) (l₂:=[_,_]))
 have okS:MaOk (z4i i input):=by rw [hstart];exact ⟨ok0.len,ok0.regs⟩
 refine ⟨fun n vs K=>∃(S2:PH) (st:Int) (m:MaR) (ov:Value),n=(if st=6 then (steps - m.steps).toNat+1 else 0)∧PH.le H S2∧vs=[]∧Held S2 K (z1j TQ r st m gv ov++[])∧MaOk m∧InI st∧m.mem.length=wn∧0≤m.steps∧m.steps≤steps∧(m.out.length:Int)≤m.steps∧z8x i.code steps st m=R,
  ⟨_,SB,6,z4i i input,.slice none 0 0,rfl,lB,rfl,h7,okS,by decide,by rw [hstart];exact hml0,by simp [z4i],by simp only [z4i];omega,by simp [z4i],hR⟩,?_⟩
 rintro n vs K _ ⟨S2,st,m,ov,hn,l2,rfl,h2,ok,hsi,hml,s0,s1,so,hrest⟩
 simp only [List.cons_append,List.nil_append,zan]
 refine ⟨[.int .i64 st],rfl,by simp only [evs,arI,zb5];exact z4c h2 rfl,?_⟩
 simp only [List.cons_append,List.nil_append,zan]
 refine ⟨fun g=>?_,fun g=>?_⟩
 rotate_left
 ·simp only [evs,arI,zb5,zdf] at g
  have hfin:z5l (st,m)=R:=by rw [←zwy (code:=i.code) (limit:=steps) (fun h=>g h.1)];exact hrest
  obtain ⟨obE,ocE,hovE⟩:=zco h2
  have houtE:=(h2.row (e:=5) (l:=m.out) (v:=ov) (by simp)).slR h2.sh
  rw [hovE] at houtE
  have hoE:=zcl h2 ok
  rw [hovE] at hoE
  refine ⟨[.slice obE m.out.length ocE],rfl,by simp only [evs,arI,zb5];exact hoE,?_⟩
  simp only [cns]
  refine z30 z5c z8g uByte (by kernel_rfl) houtE z01 ?_
  simp only [cns]
  refine z0e (off:=2) (vs:=[txt m.out]) (by simp only [evs,arI,zb5];rfl) h2 (by simp only [evs,arI,zb5]) (by intro u hu;rw [zsi.1 hu];rfl) (by simp [z0h]) fun KE hE3=>?_
  have hregE:R.regs.length=32∧∀v∈R.regs,InI v:=by rw [←hfin];exact ⟨(ok).len,(ok).regs⟩
  have hmemE:R.mem=m.mem:=by rw [←hfin];rfl
  obtain ⟨a0,a1,a2,a3,a4,a5,a6,a7,a8,a9,b0,b1,b2',b3,b4,b5,b6,b7,b8,b9,c0,c1,c2',c3,c4,c5,c6,c7,c8,c9,d0,d1,hregsE⟩:=zay (ok).len
  have hvalE:haltV R gv=[.int .i64 R.state,.int .i64 R.value,txt R.out,.int .i64 R.steps,.int .i64 R.pc,.int .i64 a0,.int .i64 a1,.int .i64 a2,.int .i64 a3,.int .i64 a4,.int .i64 a5,.int .i64 a6,.int .i64 a7,.int .i64 a8,.int .i64 a9,.int .i64 b0,.int .i64 b1,.int .i64 b2',.int .i64 b3,.int .i64 b4,.int .i64 b5,.int .i64 b6,.int .i64 b7,.int .i64 b8,.int .i64 b9,.int .i64 c0,.int .i64 c1,.int .i64 c2',.int .i64 c3,.int .i64 c4,.int .i64 c5,.int .i64 c6,.int .i64 c7,.int .i64 c8,.int .i64 c9,.int .i64 d0,.int .i64 d1,gv]:=by
   have:R.regs=m.regs:=by rw [←hfin];rfl
   unfold haltV
   rw [this,hregsE];rfl
  have hlE:(2+[txt m.out].length)=3:=rfl
  rw [hlE,zb0 hfin,hvalE] at hE3
  have hmslE:=(hE3.row (e:=3) (l:=m.mem) (v:=gv) (by simp)).slR hE3.sh
  refine z0n (off:=0) [.int .i64 R.state,.int .i64 R.value,txt R.out,.int .i64 R.steps,.int .i64 R.pc,.int .i64 a0,.int .i64 a1,.int .i64 a2,.int .i64 a3,.int .i64 a4,.int .i64 a5,.int .i64 a6,.int .i64 a7,.int .i64 a8,.int .i64 a9,.int .i64 b0,.int .i64 b1,.int .i64 b2',.int .i64 b3,.int .i64 b4,.int .i64 b5,.int .i64 b6,.int .i64 b7,.int .i64 b8,.int .i64 b9,.int .i64 c0,.int .i64 c1,.int .i64 c2',.int .i64 c3,.int .i64 c4,.int .i64 c5,.int .i64 c6,.int .i64 c7,.int .i64 c8,.int .i64 c9,.int .i64 d0,.int .i64 d1,gv] (by simp only [evs,arI,zb5];rfl) hE3 (zms) (by kernel_rfl) (by rw [hgvE];kernel_rfl) ?_
  exact ⟨gv,PH.le_trans l2 hE3.sh,by rw [hvalE];kernel_rfl,by rw [hmemE];exact hmslE,hregE⟩
 simp only [evs,arI,zb5,zdt] at g
 subst g
 refine ⟨[.int .i64 m.steps],rfl,by simp only [evs,arI,zb5];exact z4c h2 rfl,?_⟩
 simp only [List.cons_append,List.nil_append,zan]
 refine ⟨fun glt=>?_,fun g=>?_⟩
 rotate_left
 ·simp only [evs,arI,zb5,zdf] at g
  have hfin:z5l (6,m)=R:=by rw [←zwy (code:=i.code) (limit:=steps) (fun h=>g h.2)];exact hrest
  obtain ⟨obE,ocE,hovE⟩:=zco h2
  have houtE:=(h2.row (e:=5) (l:=m.out) (v:=ov) (by simp)).slR h2.sh
  rw [hovE] at houtE
  have hoE:=zcl h2 ok
  rw [hovE] at hoE
  refine ⟨[.slice obE m.out.length ocE],rfl,by simp only [evs,arI,zb5];exact hoE,?_⟩
  simp only [cns]
  refine z30 z5c z8g uByte (by kernel_rfl) houtE z01 ?_
  simp only [cns]
  refine z0e (off:=2) (vs:=[txt m.out]) (by simp only [evs,arI,zb5];rfl) h2 (by simp only [evs,arI,zb5]) (by intro u hu;rw [zsi.1 hu];rfl) (by simp [z0h]) fun KE hE3=>?_
  have hregE:R.regs.length=32∧∀v∈R.regs,InI v:=by rw [←hfin];exact ⟨(ok).len,(ok).regs⟩
  have hmemE:R.mem=m.mem:=by rw [←hfin];rfl
  obtain ⟨a0,a1,a2,a3,a4,a5,a6,a7,a8,a9,b0,b1,b2',b3,b4,b5,b6,b7,b8,b9,c0,c1,c2',c3,c4,c5,c6,c7,c8,c9,d0,d1,hregsE⟩:=zay (ok).len
  have hvalE:haltV R gv=[.int .i64 R.state,.int .i64 R.value,txt R.out,.int .i64 R.steps,.int .i64 R.pc,.int .i64 a0,.int .i64 a1,.int .i64 a2,.int .i64 a3,.int .i64 a4,.int .i64 a5,.int .i64 a6,.int .i64 a7,.int .i64 a8,.int .i64 a9,.int .i64 b0,.int .i64 b1,.int .i64 b2',.int .i64 b3,.int .i64 b4,.int .i64 b5,.int .i64 b6,.int .i64 b7,.int .i64 b8,.int .i64 b9,.int .i64 c0,.int .i64 c1,.int .i64 c2',.int .i64 c3,.int .i64 c4,.int .i64 c5,.int .i64 c6,.int .i64 c7,.int .i64 c8,.int .i64 c9,.int .i64 d0,.int .i64 d1,gv]:=by
   have:R.regs=m.regs:=by rw [←hfin];rfl
   unfold haltV
   rw [this,hregsE];rfl
  have hlE:(2+[txt m.out].length)=3:=rfl
  rw [hlE,zb0 hfin,hvalE] at hE3
  have hmslE:=(hE3.row (e:=3) (l:=m.mem) (v:=gv) (by simp)).slR hE3.sh
  refine z0n (off:=0) [.int .i64 R.state,.int .i64 R.value,txt R.out,.int .i64 R.steps,.int .i64 R.pc,.int .i64 a0,.int .i64 a1,.int .i64 a2,.int .i64 a3,.int .i64 a4,.int .i64 a5,.int .i64 a6,.int .i64 a7,.int .i64 a8,.int .i64 a9,.int .i64 b0,.int .i64 b1,.int .i64 b2',.int .i64 b3,.int .i64 b4,.int .i64 b5,.int .i64 b6,.int .i64 b7,.int .i64 b8,.int .i64 b9,.int .i64 c0,.int .i64 c1,.int .i64 c2',.int .i64 c3,.int .i64 c4,.int .i64 c5,.int .i64 c6,.int .i64 c7,.int .i64 c8,.int .i64 c9,.int .i64 d0,.int .i64 d1,gv] (by simp only [evs,arI,zb5];rfl) hE3 (zms) (by kernel_rfl) (by rw [hgvE];kernel_rfl) ?_
  exact ⟨gv,PH.le_trans l2 hE3.sh,by rw [hvalE];kernel_rfl,by rw [hmemE];exact hmslE,hregE⟩
 simp only [evs,arI,zb5,zdt] at glt
 rw [Z8r glt] at hrest
 refine ⟨[.int .i64 m.pc],rfl,by simp only [evs,arI,zb5];exact z4c h2 rfl,?_⟩
 simp only [List.cons_append,List.nil_append,zan]
 refine ⟨fun g=>?_,fun g=>?_⟩
 ·simp only [evs,arI,zb5,zdt] at g
  rw [if_pos (.inl g)] at hrest
  refine z0e (off:=0) (vs:=[.int .i64 3]) (by simp only [evs,arI,zb5];rfl) h2 (by simp only [evs,arI,zb5]) (by intro u hu;rw [zsi.1 hu];rfl) (by simp [z0h]) fun K3 h3=>?_
  have h3:Held S2 K3 (z1j TQ r 3 m gv ov++[]):=h3
  obtain ⟨obE,ocE,hovE⟩:=zco h3
  have houtE:=(h3.row (e:=5) (l:=m.out) (v:=ov) (by simp)).slR h3.sh
  rw [hovE] at houtE
  have hoE:=zcl h3 ok
  rw [hovE] at hoE
  refine ⟨[.slice obE m.out.length ocE],rfl,by simp only [evs,arI,zb5];exact hoE,?_⟩
  simp only [cns]
  refine z30 z5c z8g uByte (by kernel_rfl) houtE z01 ?_
  simp only [cns]
  refine z0e (off:=2) (vs:=[txt m.out]) (by simp only [evs,arI,zb5];rfl) h3 (by simp only [evs,arI,zb5]) (by intro u hu;rw [zsi.1 hu];rfl) (by simp [z0h]) fun KE hE3=>?_
  have hregE:R.regs.length=32∧∀v∈R.regs,InI v:=by rw [←hrest];exact ⟨(ok).len,(ok).regs⟩
  have hmemE:R.mem=m.mem:=by rw [←hrest];rfl
  obtain ⟨a0,a1,a2,a3,a4,a5,a6,a7,a8,a9,b0,b1,b2',b3,b4,b5,b6,b7,b8,b9,c0,c1,c2',c3,c4,c5,c6,c7,c8,c9,d0,d1,hregsE⟩:=zay (ok).len
  have hvalE:haltV R gv=[.int .i64 R.state,.int .i64 R.value,txt R.out,.int .i64 R.steps,.int .i64 R.pc,.int .i64 a0,.int .i64 a1,.int .i64 a2,.int .i64 a3,.int .i64 a4,.int .i64 a5,.int .i64 a6,.int .i64 a7,.int .i64 a8,.int .i64 a9,.int .i64 b0,.int .i64 b1,.int .i64 b2',.int .i64 b3,.int .i64 b4,.int .i64 b5,.int .i64 b6,.int .i64 b7,.int .i64 b8,.int .i64 b9,.int .i64 c0,.int .i64 c1,.int .i64 c2',.int .i64 c3,.int .i64 c4,.int .i64 c5,.int .i64 c6,.int .i64 c7,.int .i64 c8,.int .i64 c9,.int .i64 d0,.int .i64 d1,gv]:=by
   have:R.regs=m.regs:=by rw [←hrest];rfl
   unfold haltV
   rw [this,hregsE];rfl
  have hlE:(2+[txt m.out].length)=3:=rfl
  rw [hlE,zb0 hrest,hvalE] at hE3
  have hmslE:=(hE3.row (e:=3) (l:=m.mem) (v:=gv) (by simp)).slR hE3.sh
  refine z0n (off:=0) [.int .i64 R.state,.int .i64 R.value,txt R.out,.int .i64 R.steps,.int .i64 R.pc,.int .i64 a0,.int .i64 a1,.int .i64 a2,.int .i64 a3,.int .i64 a4,.int .i64 a5,.int .i64 a6,.int .i64 a7,.int .i64 a8,.int .i64 a9,.int .i64 b0,.int .i64 b1,.int .i64 b2',.int .i64 b3,.int .i64 b4,.int .i64 b5,.int .i64 b6,.int .i64 b7,.int .i64 b8,.int .i64 b9,.int .i64 c0,.int .i64 c1,.int .i64 c2',.int .i64 c3,.int .i64 c4,.int .i64 c5,.int .i64 c6,.int .i64 c7,.int .i64 c8,.int .i64 c9,.int .i64 d0,.int .i64 d1,gv] (by simp only [evs,arI,zb5];rfl) hE3 (zms) (by kernel_rfl) (by rw [hgvE];kernel_rfl) ?_
  exact ⟨gv,PH.le_trans l2 hE3.sh,by rw [hvalE];kernel_rfl,by rw [hmemE];exact hmslE,hregE⟩
 simp only [evs,arI,zb5,zdf] at g
 refine ⟨[.int .i64 m.pc],rfl,by simp only [evs,arI,zb5];exact z4c h2 rfl,?_⟩
 simp only [List.cons_append,List.nil_append,zan]
 refine ⟨fun g'=>?_,fun g'=>?_⟩
 ·simp only [evs,arI,zb5,zdt] at g'
  rw [if_pos (.inr (by omega))] at hrest
  refine z0e (off:=0) (vs:=[.int .i64 3]) (by simp only [evs,arI,zb5];rfl) h2 (by simp only [evs,arI,zb5]) (by intro u hu;rw [zsi.1 hu];rfl) (by simp [z0h]) fun K3 h3=>?_
  have h3:Held S2 K3 (z1j TQ r 3 m gv ov++[]):=h3
  obtain ⟨obE,ocE,hovE⟩:=zco h3
  have houtE:=(h3.row (e:=5) (l:=m.out) (v:=ov) (by simp)).slR h3.sh
  rw [hovE] at houtE
  have hoE:=zcl h3 ok
  rw [hovE] at hoE
  refine ⟨[.slice obE m.out.length ocE],rfl,by simp only [evs,arI,zb5];exact hoE,?_⟩
  simp only [cns]
  refine z30 z5c z8g uByte (by kernel_rfl) houtE z01 ?_
  simp only [cns]
  refine z0e (off:=2) (vs:=[txt m.out]) (by simp only [evs,arI,zb5];rfl) h3 (by simp only [evs,arI,zb5]) (by intro u hu;rw [zsi.1 hu];rfl) (by simp [z0h]) fun KE hE3=>?_
  have hregE:R.regs.length=32∧∀v∈R.regs,InI v:=by rw [←hrest];exact ⟨(ok).len,(ok).regs⟩
  have hmemE:R.mem=m.mem:=by rw [←hrest];rfl
  obtain ⟨a0,a1,a2,a3,a4,a5,a6,a7,a8,a9,b0,b1,b2',b3,b4,b5,b6,b7,b8,b9,c0,c1,c2',c3,c4,c5,c6,c7,c8,c9,d0,d1,hregsE⟩:=zay (ok).len
  have hvalE:haltV R gv=[.int .i64 R.state,.int .i64 R.value,txt R.out,.int .i64 R.steps,.int .i64 R.pc,.int .i64 a0,.int .i64 a1,.int .i64 a2,.int .i64 a3,.int .i64 a4,.int .i64 a5,.int .i64 a6,.int .i64 a7,.int .i64 a8,.int .i64 a9,.int .i64 b0,.int .i64 b1,.int .i64 b2',.int .i64 b3,.int .i64 b4,.int .i64 b5,.int .i64 b6,.int .i64 b7,.int .i64 b8,.int .i64 b9,.int .i64 c0,.int .i64 c1,.int .i64 c2',.int .i64 c3,.int .i64 c4,.int .i64 c5,.int .i64 c6,.int .i64 c7,.int .i64 c8,.int .i64 c9,.int .i64 d0,.int .i64 d1,gv]:=by
   have:R.regs=m.regs:=by rw [←hrest];rfl
   unfold haltV
   rw [this,hregsE];rfl
  have hlE:(2+[txt m.out].length)=3:=rfl
  rw [hlE,zb0 hrest,hvalE] at hE3
  have hmslE:=(hE3.row (e:=3) (l:=m.mem) (v:=gv) (by simp)).slR hE3.sh
  refine z0n (off:=0) [.int .i64 R.state,.int .i64 R.value,txt R.out,.int .i64 R.steps,.int .i64 R.pc,.int .i64 a0,.int .i64 a1,.int .i64 a2,.int .i64 a3,.int .i64 a4,.int .i64 a5,.int .i64 a6,.int .i64 a7,.int .i64 a8,.int .i64 a9,.int .i64 b0,.int .i64 b1,.int .i64 b2',.int .i64 b3,.int .i64 b4,.int .i64 b5,.int .i64 b6,.int .i64 b7,.int .i64 b8,.int .i64 b9,.int .i64 c0,.int .i64 c1,.int .i64 c2',.int .i64 c3,.int .i64 c4,.int .i64 c5,.int .i64 c6,.int .i64 c7,.int .i64 c8,.int .i64 c9,.int .i64 d0,.int .i64 d1,gv] (by simp only [evs,arI,zb5];rfl) hE3 (zms) (by kernel_rfl) (by rw [hgvE];kernel_rfl) ?_
  exact ⟨gv,PH.le_trans l2 hE3.sh,by rw [hvalE];kernel_rfl,by rw [hmemE];exact hmslE,hregE⟩
 simp only [evs,arI,zb5,zdf] at g'
 rw [if_neg (by omega)] at hrest
 obtain ⟨w,hw⟩:∃w,i.code[m.pc.toNat]?=some w:=⟨_,zge (by omega)⟩
 rw [zgd,hw,Option.getD_some] at hrest
 have hj:((m.pc.toNat:Nat):Int)=m.pc:=Int.toNat_of_nonneg (by omega)
 have hck:=hc.le (PH.le_trans l2 h2.sh)
 obtain ⟨z1,_,zcs,z2,z3⟩:=hck.get hw
 obtain ⟨rfl,zu⟩:=w32_iff.1 z2
 rw [hj] at z3
 refine ⟨[.int .i64 m.pc],rfl,by simp only [evs,arI,zb5];exact z4c h2 rfl,?_⟩
 simp only [List.cons_append,List.nil_append,zan]
 refine ⟨fun _=>?_,[.int .u32 w.n],rfl,by simp only [evs,arI,zb5];exact z3,?_⟩
 ·simp only [Chk.holds,evs,arI,zb5];exact ⟨z1,by omega,by omega⟩
 simp only [List.cons_append,List.nil_append,zan]
 refine (fun {p:Prop} (h:p)=>And.intro h h) ?_
 refine z04 zu7 (h2.gives (zyx w.n S2 zu)) ?_
 rintro e K3 ⟨rfl,h3,_⟩
 refine ⟨_,insV ((decR w.n).getD ins0)++[.bool (decR w.n).isSome],rfl,rfl,rfl,z01,?_⟩
 simp only [List.cons_append,List.nil_append,zan]
 refine ⟨fun g2=>?_,fun g2=>?_⟩
 ·simp only [evs,arI,zb5,Bool.not_eq_true',Option.isSome_eq_false_iff,Option.isNone_iff_eq_none] at g2
  rw [g2] at hrest
  simp only [] at hrest
  refine z0e (off:=0) (vs:=[.int .i64 1]) (by simp only [evs,arI,zb5];rfl) h3 (by simp only [evs,arI,zb5]) (by intro u hu;rw [zsi.1 hu];rfl) (by simp [z0h]) fun K4 h4=>?_
  have h4:Held S2 K4 (z1j TQ r 1 m gv ov++[]):=h4
  obtain ⟨obE,ocE,hovE⟩:=zco h4
  have houtE:=(h4.row (e:=5) (l:=m.out) (v:=ov) (by simp)).slR h4.sh
  rw [hovE] at houtE
  have hoE:=zcl h4 ok
  rw [hovE] at hoE
  refine ⟨[.slice obE m.out.length ocE],rfl,by simp only [evs,arI,zb5];exact hoE,?_⟩
  simp only [cns]
  refine z30 z5c z8g uByte (by kernel_rfl) houtE z01 ?_
  simp only [cns]
  refine z0e (off:=2) (vs:=[txt m.out]) (by simp only [evs,arI,zb5];rfl) h4 (by simp only [evs,arI,zb5]) (by intro u hu;rw [zsi.1 hu];rfl) (by simp [z0h]) fun KE hE3=>?_
  have hregE:R.regs.length=32∧∀v∈R.regs,InI v:=by rw [←hrest];exact ⟨(ok).len,(ok).regs⟩
  have hmemE:R.mem=m.mem:=by rw [←hrest];rfl
  obtain ⟨a0,a1,a2,a3,a4,a5,a6,a7,a8,a9,b0,b1,b2',b3,b4,b5,b6,b7,b8,b9,c0,c1,c2',c3,c4,c5,c6,c7,c8,c9,d0,d1,hregsE⟩:=zay (ok).len
  have hvalE:haltV R gv=[.int .i64 R.state,.int .i64 R.value,txt R.out,.int .i64 R.steps,.int .i64 R.pc,.int .i64 a0,.int .i64 a1,.int .i64 a2,.int .i64 a3,.int .i64 a4,.int .i64 a5,.int .i64 a6,.int .i64 a7,.int .i64 a8,.int .i64 a9,.int .i64 b0,.int .i64 b1,.int .i64 b2',.int .i64 b3,.int .i64 b4,.int .i64 b5,.int .i64 b6,.int .i64 b7,.int .i64 b8,.int .i64 b9,.int .i64 c0,.int .i64 c1,.int .i64 c2',.int .i64 c3,.int .i64 c4,.int .i64 c5,.int .i64 c6,.int .i64 c7,.int .i64 c8,.int .i64 c9,.int .i64 d0,.int .i64 d1,gv]:=by
   have:R.regs=m.regs:=by rw [←hrest];rfl
   unfold haltV
   rw [this,hregsE];rfl
  have hlE:(2+[txt m.out].length)=3:=rfl
  rw [hlE,zb0 hrest,hvalE] at hE3
  have hmslE:=(hE3.row (e:=3) (l:=m.mem) (v:=gv) (by simp)).slR hE3.sh
  refine z0n (off:=0) [.int .i64 R.state,.int .i64 R.value,txt R.out,.int .i64 R.steps,.int .i64 R.pc,.int .i64 a0,.int .i64 a1,.int .i64 a2,.int .i64 a3,.int .i64 a4,.int .i64 a5,.int .i64 a6,.int .i64 a7,.int .i64 a8,.int .i64 a9,.int .i64 b0,.int .i64 b1,.int .i64 b2',.int .i64 b3,.int .i64 b4,.int .i64 b5,.int .i64 b6,.int .i64 b7,.int .i64 b8,.int .i64 b9,.int .i64 c0,.int .i64 c1,.int .i64 c2',.int .i64 c3,.int .i64 c4,.int .i64 c5,.int .i64 c6,.int .i64 c7,.int .i64 c8,.int .i64 c9,.int .i64 d0,.int .i64 d1,gv] (by simp only [evs,arI,zb5];rfl) hE3 (zms) (by kernel_rfl) (by rw [hgvE];kernel_rfl) ?_
  exact ⟨gv,PH.le_trans l2 hE3.sh,by rw [hvalE];kernel_rfl,by rw [hmemE];exact hmslE,hregE⟩
 ·simp only [evs,arI,zb5,Bool.not_eq_false',Option.isSome_iff_exists] at g2
  obtain ⟨x,hdx⟩:=g2
  rw [hdx] at hrest ⊢
  simp only [Option.getD_some] at hrest ⊢
  have hx:=Zf7 hdx
  obtain ⟨f1,f2,f3,f4,f5⟩:=Z0c m x
  refine z04 zhy (Zbv x h3 ok hx (by omega) (by omega) so (by omega)) ?_
  rintro e K4 ⟨S4,ov4,l4,rfl,h4,ok4⟩
  refine ⟨_,[.int .i64 (stR m x).1],rfl,rfl,rfl,z01,?_⟩
  simp only [List.cons_append,List.nil_append,zan]
  refine z0e (off:=0) (vs:=[.int .i64 (stR m x).1]) (by simp only [evs,arI,zb5];rfl) h4 (by simp only [evs,arI,zb5]) (by intro u hu;rw [zsi.1 hu];rfl) (by simp [z0h]) fun K5 h5=>?_
  have h5:Held S4 K5 (z1j TQ r (stR m x).1 (stR m x).2 gv ov4++[]):=h5
  refine ⟨_,z00,(if (stR m x).1=6 then (steps - (stR m x).2.steps).toNat+1 else 0),?_,S4,_,_,ov4,rfl,PH.le_trans l2 l4,rfl,h5,ok4,f4,by rw [f1];exact hml,?_,?_,?_,hrest⟩
  ·rw [hn,if_pos rfl]
   split<;>omega
  ·omega
  ·omega
  ·omega
theorem Zac (x:ItemR) (H:PH) (hx:InI8 x):Gives Tryz.prog Zao [.agg (itemV x).toArray] H (.bool (mayR x)):=by
 refine Z47 (itemV x) (by kernel_rfl) (by kernel_rfl) ?_
 have enc:=zd8 x.x H hx.x
 have he:=Zdy (encR x.x)
 generalize hm:mayR x=b
 unfold mayR at hm
 refine ⟨fun g=>?_,fun g=>?_⟩
 ·simp only [evs,arI,zb5,zdt] at g
  rw [if_pos g] at hm
  refine z05 [.int .u32 ((encR x.x).getD 0),.int .i64 (encE (encR x.x))] z2m enc rfl z01 fun K l=>?_
  exact ⟨by simp only [evs,arI,zb5,he,←hm],l⟩
 simp only [evs,arI,zb5,zdf] at g
 rw [if_neg g] at hm
 refine ⟨fun g=>?_,fun g=>?_⟩
 ·simp only [evs,arI,zb5,zdt] at g
  rw [if_pos g] at hm
  refine Z7e (a:=x.x) (b:=ins0) (by kernel_rfl) (by kernel_rfl) ?_
  exact ⟨by simp only [evs,arI,zb5,←hm],PH.le_refl _⟩
 simp only [evs,arI,zb5,zdf] at g
 rw [if_neg g] at hm
 refine ⟨fun g=>?_,fun g=>?_⟩
 ·simp only [evs,arI,zb5,zdt] at g
  rw [if_pos g] at hm
  refine z05 [.int .u32 ((encR x.x).getD 0),.int .i64 (encE (encR x.x))] z2m enc rfl z01 fun K l=>?_
  exact ⟨by simp only [evs,arI,zb5,he,←hm,ge_iff_le],l⟩
 simp only [evs,arI,zb5,zdf] at g
 rw [if_neg g] at hm
 refine ⟨fun g=>?_,fun g=>?_⟩
 ·simp only [evs,arI,zb5,zdt] at g
  rw [if_pos g] at hm
  refine z05 [.int .u32 ((encR x.x).getD 0),.int .i64 (encE (encR x.x))] z2m enc rfl z01 fun K l=>?_
  exact ⟨by simp only [evs,arI,zb5,he,←hm],l⟩
 simp only [evs,arI,zb5,zdf] at g
 rw [if_neg g] at hm
 refine ⟨fun g=>?_,fun g=>?_⟩
 ·simp only [evs,arI,zb5,zdt] at g
  rw [if_pos g] at hm
  refine z05 [.int .u32 ((encR x.x).getD 0),.int .i64 (encE (encR x.x))] z2m enc rfl z01 fun K l=>?_
  exact ⟨by simp only [evs,arI,zb5,he,←hm],l⟩
 simp only [evs,arI,zb5,zdf] at g
 rw [if_neg g] at hm
 refine ⟨fun g=>?_,fun g=>?_⟩
 ·simp only [evs,arI,zb5,zdt] at g
  rw [if_pos g] at hm
  refine z05 [.int .u32 ((encR x.x).getD 0),.int .i64 (encE (encR x.x))] z2m enc rfl z01 fun K l=>?_
  exact ⟨by simp only [evs,arI,zb5,he,←hm],l⟩
 simp only [evs,arI,zb5,zdf] at g
 rw [if_neg g] at hm
 exact ⟨by rw [←hm];rfl,PH.le_refl _⟩
theorem zmi (n:Int) (H:PH) (hn:InI n):Gives Tryz.prog Z1h [.int .i64 n] H (.int .i64 (z4k n:Int)):=by
 obtain ⟨n0,n1⟩:=hn
 refine zvu [.int .i64 n] (by kernel_rfl) (by kernel_rfl) ?_
 have s0:shrR n 0=n:=by unfold shrR;simp
 have s16:shrR n 16=n / 65536:=by unfold shrR;rw [Int.fdiv_eq_ediv_of_nonneg _ (by decide)];rfl
 have s32:shrR n 32=n / 4294967296:=by unfold shrR;rw [Int.fdiv_eq_ediv_of_nonneg _ (by decide)];rfl
 refine ⟨fun m vs K=>∃k:Nat,k+m=4∧1≤k∧vs=[nI k]∧K=H∧(1 < k→¬(-32768≤n∧n≤32767))∧(2 < k→¬(-32768≤shrR n 16∧shrR n 16≤32767))∧(3 < k→¬(-32768≤shrR n 32∧shrR n 32≤32767)),⟨3,1,rfl,by omega,rfl,rfl,by omega,by omega,by omega⟩,?_⟩
 rintro m vs K _ ⟨k,hkm,hk1,rfl,rfl,h1,h2,h3⟩
 simp only [cns]
 have e1:IntKind.i64.wrap (16 * (k:Int))=((16 * k:Nat):Int):=by rw [w64 (by omega) (by omega)];omega
 have e2:IntKind.i64.wrap (((16 * k:Nat):Int) - 1)=((16 * k - 1:Nat):Int):=by rw [w64 (by omega) (by omega)];omega
 have e3:IntKind.i64.wrap ((k:Int)+1)=((k+1:Nat):Int):=by rw [w64 (by omega) (by omega)];rfl
 have c1:∀{q:Prop},(k < 4→0≤iOf (Value.int .i64 ((16 * k - 1:Nat):Int))):=fun _=>by simp only [iOf];omega
 refine ⟨fun _=>?_,fun _=>?_,fun g=>?_,fun g=>?_⟩
 ·simp only [Chk.holds,evs,arI,zb5,e1,e2];omega
 ·simp only [Chk.holds,evs,arI,zb5,e1,e2];omega
 ·have lim:k < 4∧¬(-32768≤shrR n (16 * (k - 1))∧shrR n (16 * (k - 1))≤32767):=by
   simp only [evs,arI,zb5,e1,e2] at g
   obtain rfl | rfl | rfl | rfl:k=1∨k=2∨k=3∨k=4:=by omega
   ·refine ⟨by omega,?_⟩
    simp only [Nat.sub_self,Nat.mul_zero,s0]
    have a1:IntKind.i64.wrap (-1 * 2 ^ (min (((16 * 1 - 1:Nat):Int)).toNat IntKind.i64.bits))=-32768:=by decide
    have a2:IntKind.i64.wrap (IntKind.i64.wrap (1 * 2 ^ (min (((16 * 1 - 1:Nat):Int)).toNat IntKind.i64.bits)) - 1)=32767:=by decide
    rw [a1,a2] at g
    simp only [zba,Bool.or_eq_true,zdt] at g
    omega
   ·refine ⟨by omega,?_⟩
    simp only [Nat.reduceSub,Nat.reduceMul,s16]
    have a1:IntKind.i64.wrap (-1 * 2 ^ (min (((16 * 2 - 1:Nat):Int)).toNat IntKind.i64.bits))=-2147483648:=by decide
    have a2:IntKind.i64.wrap (IntKind.i64.wrap (1 * 2 ^ (min (((16 * 2 - 1:Nat):Int)).toNat IntKind.i64.bits)) - 1)=2147483647:=by decide
    rw [a1,a2] at g
    simp only [zba,Bool.or_eq_true,zdt] at g
    omega
   ·refine ⟨by omega,?_⟩
    simp only [Nat.reduceSub,Nat.reduceMul,s32]
    have a1:IntKind.i64.wrap (-1 * 2 ^ (min (((16 * 3 - 1:Nat):Int)).toNat IntKind.i64.bits))=-140737488355328:=by decide
    have a2:IntKind.i64.wrap (IntKind.i64.wrap (1 * 2 ^ (min (((16 * 3 - 1:Nat):Int)).toNat IntKind.i64.bits)) - 1)=140737488355327:=by decide
    rw [a1,a2] at g
    simp only [zba,Bool.or_eq_true,zdt] at g
    omega
   ·simp at g
  refine ⟨_,z00,m - 1,by omega,k+1,by omega,by omega,by simp only [evs,arI,zb5,e3],rfl,fun _=>?_,fun _=>?_,fun _=>?_⟩
  ·obtain rfl | hk:k=1∨1 < k:=by omega
   ·have:=lim.2
    simpa only [Nat.sub_self,Nat.mul_zero,s0] using this
   ·exact h1 hk
  ·obtain rfl | hk:k=2∨2 < k:=by omega
   ·exact lim.2
   ·exact h2 hk
  ·obtain rfl | hk:k=3∨3 < k:=by omega
   ·exact lim.2
   ·exact h3 hk
 ·have lim:k=4∨(-32768≤shrR n (16 * (k - 1))∧shrR n (16 * (k - 1))≤32767):=by
   simp only [evs,arI,zb5,e1,e2] at g
   obtain rfl | rfl | rfl | rfl:k=1∨k=2∨k=3∨k=4:=by omega
   ·right
    simp only [Nat.sub_self,Nat.mul_zero,s0]
    have a1:IntKind.i64.wrap (-1 * 2 ^ (min (((16 * 1 - 1:Nat):Int)).toNat IntKind.i64.bits))=-32768:=by decide
    have a2:IntKind.i64.wrap (IntKind.i64.wrap (1 * 2 ^ (min (((16 * 1 - 1:Nat):Int)).toNat IntKind.i64.bits)) - 1)=32767:=by decide
    rw [a1,a2] at g
    simp only [Bool.and_eq_false_iff,zof,zdf] at g
    omega
   ·right
    simp only [Nat.reduceSub,Nat.reduceMul,s16]
    have a1:IntKind.i64.wrap (-1 * 2 ^ (min (((16 * 2 - 1:Nat):Int)).toNat IntKind.i64.bits))=-2147483648:=by decide
    have a2:IntKind.i64.wrap (IntKind.i64.wrap (1 * 2 ^ (min (((16 * 2 - 1:Nat):Int)).toNat IntKind.i64.bits)) - 1)=2147483647:=by decide
    rw [a1,a2] at g
    simp only [Bool.and_eq_false_iff,zof,zdf] at g
    omega
   ·right
    simp only [Nat.reduceSub,Nat.reduceMul,s32]
    have a1:IntKind.i64.wrap (-1 * 2 ^ (min (((16 * 3 - 1:Nat):Int)).toNat IntKind.i64.bits))=-140737488355328:=by decide
    have a2:IntKind.i64.wrap (IntKind.i64.wrap (1 * 2 ^ (min (((16 * 3 - 1:Nat):Int)).toNat IntKind.i64.bits)) - 1)=140737488355327:=by decide
    rw [a1,a2] at g
    simp only [Bool.and_eq_false_iff,zof,zdf] at g
    omega
   ·exact .inl rfl
  refine ⟨?_,PH.le_refl _⟩
  have:z4k n=k:=by
   unfold z4k
   obtain rfl | rfl | rfl | rfl:k=1∨k=2∨k=3∨k=4:=by omega
   ·rcases lim with lim | lim
    ·omega
    ·simp only [Nat.sub_self,Nat.mul_zero,s0] at lim
     rw [if_pos lim]
   ·rcases lim with lim | lim
    ·omega
    ·rw [if_neg (h1 (by omega)),if_pos lim]
   ·rcases lim with lim | lim
    ·omega
    ·rw [if_neg (h1 (by omega)),if_neg (h2 (by omega)),if_pos lim]
   ·rw [if_neg (h1 (by omega)),if_neg (h2 (by omega)),if_neg (h3 (by omega))]
  rw [this];rfl
theorem zud (op:Int) (H:PH):Gives Tryz.prog zvh [.int .i64 op] H (.int .i64 (zb4 op)):=by
 refine zqh [.int .i64 op] (by kernel_rfl) (by kernel_rfl) ?_
 unfold zb4
 refine ⟨fun g=>?_,fun g=>?_⟩
 ·simp only [evs,arI,zb5,zdt] at g
  rw [if_pos g];exact ⟨rfl,PH.le_refl _⟩
 simp only [evs,arI,zb5,zdf] at g
 rw [if_neg g]
 refine ⟨fun g=>?_,fun g=>?_⟩
 ·simp only [evs,arI,zb5,zdt] at g
  rw [if_pos g];exact ⟨rfl,PH.le_refl _⟩
 simp only [evs,arI,zb5,zdf] at g
 rw [if_neg g]
 refine ⟨fun g=>?_,fun g=>?_⟩
 ·simp only [evs,arI,zb5,zdt] at g
  rw [if_pos g];exact ⟨rfl,PH.le_refl _⟩
 simp only [evs,arI,zb5,zdf] at g
 rw [if_neg g];exact ⟨rfl,PH.le_refl _⟩
abbrev TA:TypeId:=137
abbrev z5t (lv:Value) (mr:Nat) (bv pv cv:Value):List Value:=[lv,.map (some mr),bv,pv,cv]
theorem Z7k (l:List ItemR) (long:List Bool) (lv bv:Value) (r:Nat) (K:PH) (i:Nat) (x:ItemR) (b:Bool) (h0:rowAt K (some ⟨r,0,none⟩) [lv]) (h2:rowAt K (some ⟨r,2,none⟩) [bv]) (hl:SlR K l lv) (hb:SlR K long bv) (hx:l[i]?=some x) (hbi:long[i]?=some b) :
  Gives Tryz.prog zh4 [pAt r,nI i] K (nI (sizeR x b)):=by
 obtain ⟨lb,lc,rfl⟩:=hl.sl
 obtain ⟨bb,bc,rfl⟩:=hb.sl
 have hil:=(zgi.1 hx).1
 have hib:=(zgi.1 hbi).1
 obtain ⟨y1,_,cs,y2,y3⟩:=hl.get hx
 obtain ⟨rfl,hx8⟩:=itemR_iff.1 y2
 obtain ⟨z1,_,zcs,z2,z3⟩:=hb.get hbi
 obtain rfl:=csBK z2
 refine zek [pAt r,nI i] (by kernel_rfl) (by kernel_rfl) ?_
 generalize hz:sizeR x b=z
 unfold sizeR at hz
 refine ⟨fun vs K2=>vs=[]∧K=K2∧z=1,?_,fun _=>by simp [Chk.holds,evs,arI,zb5],[.slice lb l.length lc],rfl,by simp only [evs,arI,zb5];exact h0,fun _=>?_,itemV x,rfl,by simp only [evs,arI,zb5];exact y3,?_⟩
 ·rintro vs K2 _ ⟨rfl,rfl,h⟩
  rw [h];exact ⟨rfl,PH.le_refl _⟩
 ·simp only [Chk.holds,evs,arI,zb5];exact ⟨y1,by omega,by omega⟩
 simp only [cns]
 refine ⟨fun g=>?_,fun g=>?_⟩
 ·simp only [evs,arI,zb5,zdt] at g
  rw [if_pos g] at hz
  rw [←hz];exact ⟨rfl,PH.le_refl _⟩
 simp only [evs,arI,zb5,zdf] at g
 rw [if_neg g] at hz
 refine ⟨fun g2=>?_,fun g2=>?_⟩
 ·simp only [evs,arI,zb5,zdt] at g2
  rw [if_pos g2] at hz
  refine ⟨[.slice bb long.length bc],rfl,by simp only [evs,arI,zb5];exact h2,fun _=>?_,[.bool b],rfl,by simp only [evs,arI,zb5];exact z3,fun g3=>?_,fun g3=>?_⟩
  ·simp only [Chk.holds,evs,arI,zb5];exact ⟨z1,by omega,by omega⟩
  ·simp only [evs,arI,zb5] at g3
   rw [if_pos g3] at hz
   rw [←hz];exact ⟨rfl,PH.le_refl _⟩
  ·simp only [evs,arI,zb5] at g3
   rw [if_neg (by rw [g3];exact Bool.false_ne_true)] at hz
   exact ⟨_,z00,rfl,rfl,hz.symm⟩
 simp only [evs,arI,zb5,zdf] at g2
 rw [if_neg g2] at hz
 refine ⟨fun g3=>?_,fun g3=>?_⟩
 ·simp only [evs,arI,zb5,zdt] at g3
  rw [if_pos g3] at hz
  refine z05 [.int .i64 (z4k x.n:Int)] zkl (zmi x.n K hx8.n) rfl z01 fun K2 l2=>?_
  rw [←hz];exact ⟨rfl,l2⟩
 simp only [evs,arI,zb5,zdf] at g3
 rw [if_neg g3] at hz
 refine ⟨fun g4=>?_,fun g4=>?_⟩
 ·simp only [evs,arI,zb5,zdt] at g4
  rw [if_pos g4] at hz
  rw [←hz];exact ⟨rfl,PH.le_refl _⟩
 simp only [evs,arI,zb5,zdf] at g4
 rw [if_neg g4] at hz
 exact ⟨_,z00,rfl,rfl,hz.symm⟩
end Go.Proofs.YtfkclejklgoccaaGreat.Vc
