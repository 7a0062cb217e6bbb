import Derived.Test.YtofbhllknefloaaGreatMm
import Derived.Lib.ItoaNum
import Derived.Lib.LaidTab
set_option linter.unusedSimpArgs false
set_option linter.unusedVariables false
set_option maxRecDepth 100000
namespace Go.Proofs.YtofbhllknefloaaGreat.Vc
open Go
theorem zpa:∀(k u:Nat),u < 10 ^ (k+1)→Lib.nDigits u≤k+1
 | 0,u,h=>by rw [Lib.nDigits_small (by simpa using h)];omega
 | k+1,u,h=>by
  by_cases h1:u < 10
  ·rw [Lib.nDigits_small h1];omega
  ·rw [Lib.nDigits_big h1]
   have:=zpa k (u / 10) (by rw [Nat.pow_succ] at h;omega)
   omega
theorem zqa (n:Nat) (h:n≤9223372036854775808):(Lib.decDigits n).length≤20:=by
 rw [Lib.decDigits_length]
 exact zpa 19 n (by omega)
def z2z (n:Int):UInt8:=UInt8.ofNat (n % 256).toNat
mutual
def Dat.txtL (bare:Bool):Dat→List UInt8
 | .mk k n t l=>if k=0 then (if n=0 then [35,102] else [35,116]) else if k=1 then Lib.itoa n else if k=2 then (if bare then [z2z n] else charL (z2z n)) else if k=3 then (if bare then t else zrd t) else if k=4 then t
   else (if k=7 then [35,40] else [40])++Dats.txtL bare (decide (k=6)) true l++[41]
def Dats.txtL (bare dotted:Bool):Bool→List Dat→List UInt8
 | _,[]=>[]
 | first,d::l=>(if first then [] else [32])++(if dotted && l.isEmpty then [46,32] else [])++Dat.txtL bare d++Dats.txtL bare dotted false l
end
theorem Z1o (n:Int):IntKind.u8.wrap n=((z2z n).toNat:Int):=by
 have h:(n % 256).toNat < 256:=by omega
 rw [z2z,UInt8.toNat_ofNat_of_lt' h]
 simp only [IntKind.wrap,IntKind.bits,IntKind.signed];simp;omega
theorem Z0n (c:UInt8):(charL c).length≤9:=by
 unfold charL;split
 ·simp
 split
 ·simp
 split
 ·simp
 ·simp [twoL]
theorem Z36 (n:Int) (h:InI n):(Lib.itoa n).length≤21:=by
 obtain ⟨a,b⟩:=h
 unfold Lib.itoa;split
 ·have:=zqa n.natAbs (by omega);simp only [zlc];omega
 ·have:=zqa n.toNat (by omega);omega
theorem zw5 (l:List UInt8):(zrd l).length≤4 * l.length+2:=by
 have:=zye l
 simp only [zrd,zla,zlc,List.length_nil];omega
mutual
theorem Dat.chk_len (bare:Bool):∀(d:Dat) (deep seen:Nat),seen≤4096→(d.chk deep seen).2=0→seen < (d.chk deep seen).1∧(d.txtL bare).length+3≤16500 * ((d.chk deep seen).1 - seen)
 | .mk k n t l,deep,seen,hs,h=>by
  simp only [Dat.chk] at h ⊢
  split at h
  ·simp at h
  rename_i h0
  rw [if_neg h0]
  split at h
  ·simp at h
  rename_i h1
  rw [if_neg h1]
  split at h
  ·simp at h
  rename_i h2
  rw [if_neg h2]
  have hf:z1f (.mk k n t l)=true:=by simpa using h2
  have ih:=Dats.chk_len bare (decide (k=6)) true l (deep+1) (seen+1) (by omega) h
  refine ⟨by omega,?_⟩
  have hch:=Z0n (z2z n)
  have hqu:=zw5 t
  have hit:k=1→(Lib.itoa n).length≤21:=fun hk=>Z36 n (by
   subst hk
   simp only [z1f,Dat.kind,Dat.int,Dat.text,Dat.list] at hf
   simp at hf
   obtain ⟨⟨_,h5⟩,h6⟩:=hf
   have h5:=of_decide_eq_true h5
   have h6:=of_decide_eq_true h6
   exact ⟨by omega,by omega⟩)
  have ht3:k=3→t.length≤4096:=fun hk=>by
   subst hk
   simp only [z1f,Dat.kind,Dat.int,Dat.text,Dat.list] at hf
   simp at hf;exact of_decide_eq_true hf.2
  have ht4:k=4→t.length≤64:=fun hk=>by
   subst hk
   simp only [z1f,Dat.kind,Dat.int,Dat.text,Dat.list,z5b] at hf
   simp at hf;exact of_decide_eq_true hf.2.1.1.2
  simp only [Dat.txtL]
  split
  ·split<;>simp<;>omega
  split
  ·rename_i hk;have:=hit hk;omega
  split
  ·split
   ·simp;omega
   ·omega
  split
  ·rename_i hk;have:=ht3 hk
   split<;>omega
  split
  ·rename_i hk;have:=ht4 hk;omega
  ·simp only [zla,zlc,List.length_nil]
   split<;>simp only [zlc,List.length_nil]<;>omega
theorem Dats.chk_len (bare dotted:Bool):∀(first:Bool) (l:List Dat) (deep seen:Nat),seen≤4096→(Dats.chk l deep seen).2=0→seen≤(Dats.chk l deep seen).1∧(Dats.txtL bare dotted first l).length≤16500 * ((Dats.chk l deep seen).1 - seen)
 | _,[],_,_,_,_=>by simp [Dats.chk,Dats.txtL]
 | first,d::l,deep,seen,hs,h=>by
  simp only [Dats.chk] at h ⊢
  split at h
  ·rename_i hx;exact absurd h hx
  rename_i hx
  rw [if_neg hx]
  have i1:=Dat.chk_len bare d deep seen hs (by simpa using hx)
  have hle:=Dat.chk_le d deep seen hs
  have i2:=Dats.chk_len bare dotted false l deep (d.chk deep seen).1 hle h
  refine ⟨by omega,?_⟩
  simp only [Dats.txtL,zla]
  have e1:(if first=true then [] else [32]:List UInt8).length≤1:=by split<;>simp
  have e2:(if (dotted && l.isEmpty)=true then [46,32] else []:List UInt8).length≤2:=by split<;>simp
  omega
end
theorem Z2g (n:Int):Value.int .u8 (IntKind.u8.wrap n)=.int .u8 ((z2z n).toNat:Int):=by rw [Z1o]
def Tab (H : PH) : Prop := ∃ g e f, Tryz.prog.globalNamed "internal/strconv.uint64pow10" = some g ∧ H g = some (.cells (Lib.pow10Tab.map fun z => Value.int .u64 z).toArray e f)
theorem Tab.le {H H':PH} (h:Tab H) (hl:PH.le H H'):Tab H':=by
 obtain ⟨g,e,f,h1,h2⟩:=h;exact ⟨g,e,f,h1,hl _ _ h2⟩
theorem Tab.is {H : PH} {w : World} (h : Tab H) (hv : Vis H w) : Lib.TabIs Tryz.prog w "internal/strconv.uint64pow10" .u64 Lib.pow10Tab := by
 obtain ⟨g,e,f,h1,h2⟩:=h
 unfold Lib.TabIs World.var?
 rw [h1]
 simp only [Option.bind_some,hv _ _ h2]
theorem zrx {H H':PH}:∀{l:List UInt8} {xs:List Value},PV.RepRow H (l.flatMap pv) xs→PV.RepRow H' (l.flatMap pv) xs
 | [],xs,h=>by simp only [List.flatMap_nil,PV.RepRow] at h ⊢;exact h
 | c::l,xs,h=>by
  rw [List.flatMap_cons] at h ⊢
  have h':PV.RepRow H (.int .u8 (c.toNat:Int)::l.flatMap pv) xs:=h
  show PV.RepRow H' (.int .u8 (c.toNat:Int)::l.flatMap pv) xs
  simp only [PV.RepRow,PV.Rep] at h' ⊢
  obtain ⟨v,vs,rfl,h1,h2⟩:=h'
  exact ⟨v,vs,rfl,h1,zrx h2⟩
structure WSv (H0 H:PH) (w:Nat) (T:TypeId) (out:List UInt8) (bare:Bool) (bv:Value):Prop where
 at_:H w=some (.cells #[bv,.bool bare] T (0,0))
 acc:Acc H0 H 5 out bv
 own:ob bv≠some w
 base:H0 w=none
def WS (H0 H:PH) (w:Nat) (T:TypeId) (out:List UInt8) (bare:Bool):Prop:=∃bv,WSv H0 H w T out bare bv
section
variable {H0 H:PH} {w:Nat} {T:TypeId} {out:List UInt8} {bare:Bool} {bv:Value}
theorem WSv.row (h:WSv H0 H w T out bare bv):rowAt H ((some ⟨w,0,none⟩:Option Addr).map (·.add 0)) [bv]:=⟨_,rfl,fun i v hi=>by
 show H.cell? ((Addr.add ⟨w,0,none⟩ 0).add i)=_
 rw [Addr.add_plain,Addr.add_plain,PH.cell_at h.at_]
 cases i with
 | zero=>simpa using hi
 | succ i=>simp at hi⟩
theorem WSv.tag (h:WSv H0 H w T out bare bv):z08 [.sl] [bv]=true:=by
 obtain ⟨b,c,rfl⟩:=h.acc.sl;rfl
theorem WSv.mono {H':PH} (h:WSv H0 H w T out bare bv) (hl:PH.le H H'):WSv H0 H' w T out bare bv:=⟨hl _ _ h.at_,h.acc.mono hl,h.own,h.base⟩
theorem WSv.store {H':PH} {v':Value} {out':List UInt8} (h:WSv H0 H w T out bare bv) (ha:Acc H0 H' 5 out' v') (hw:Went H H' bv v'):WS H0 (H'.upd w (.cells #[v',.bool bare] T (0,0))) w T out' bare:=by
 have hne:ob v'≠some w:=fun e=>(hw.fresh w e).elim h.own fun hn=>by rw [h.at_] at hn;cases hn
 refine ⟨v',PH.upd_same,⟨?_,?_⟩,hne,h.base⟩
 ·intro k o hk
  have hkw:k≠w:=fun e=>by rw [e,h.base] at hk;cases hk
  have:=ha.le k o hk
  unfold delV at this ⊢
  cases hv':ob v' with
  | none=>rw [hv'] at this;show (H'.upd w _) k=_;rw [PH.upd_other hkw];exact this
  | some g=>
   rw [hv'] at this
   show ((H'.upd w _).del g) k=_
   have this':(H'.del g) k=some o:=this
   unfold PH.del at this' ⊢
   split at this'
   ·cases this'
   ·rename_i e;rw [if_neg e,PH.upd_other hkw];exact this'
 ·obtain ⟨xs,h1,h2⟩:=ha.own
  exact ⟨xs,h1.le fun k hk=>PH.upd_other fun e=>hne (by rw [hk,e]),zrx h2⟩
variable {X:List PanicEntry→PH→Prop} {β:Type} {E:List Value} {L:LK} {K:β→List Value→PH→LK→Prop}
end
def Dat.Good (d:Dat):Prop:=∃deep seen,seen≤4096∧(d.chk deep seen).2=0
theorem Dats.good:∀(l:List Dat) (deep seen:Nat),seen≤4096→(Dats.chk l deep seen).2=0→∀e∈l,e.Good
 | [],_,_,_,_,e,he=>by cases he
 | d::l,deep,seen,hs,h,e,he=>by
  simp only [Dats.chk] at h
  split at h
  ·rename_i hx;exact absurd h hx
  rename_i hx
  have hx:(d.chk deep seen).2=0:=by simpa using hx
  rcases List.mem_cons.1 he with rfl | he
  ·exact ⟨deep,seen,hs,hx⟩
  ·exact Dats.good l deep _ (Dat.chk_le d deep seen hs) h e he
theorem Dat.Good.form {d:Dat} (h:d.Good):z1f d=true:=by
 obtain ⟨deep,seen,hs,h⟩:=h
 rw [Dat.chk_eq] at h
 split at h
 ·simp at h
 split at h
 ·simp at h
 split at h
 ·simp at h
 ·rename_i hx;simpa using hx
theorem Dat.Good.len {d:Dat} (h:d.Good) (bare:Bool):(d.txtL bare).length≤67600000:=by
 obtain ⟨deep,seen,hs,h⟩:=h
 have h1:=Dat.chk_len bare d deep seen hs h
 have h2:=Dat.chk_le d deep seen hs
 omega
theorem WS.le {H0 H:PH} {w:Nat} {T:TypeId} {out:List UInt8} {bare:Bool} (h:WS H0 H w T out bare):PH.le H0 H:=by
 obtain ⟨bv,h⟩:=h;exact h.acc.all
def pre:List UInt8→List UInt8→Bool
 | [],_=>true
 | _::_,[]=>false
 | a::l,b::m=>a == b && pre l m
theorem uDats:Tryz.prog.underlying 37=some (.slice 39):=by kernel_rfl
theorem zei:ElemOk Tryz.prog 39 4 56=true:=by kernel_rfl
instance decInI (n:Int):Decidable (InI n):=inferInstanceAs (Decidable (_∧_))
theorem zfa {H:PH} {k n:Int} {t:List UInt8} (hk:InI k) (hn:InI n) (ht:t.length≤maxLen):Dat.Rep H (.mk k n t []) [.int .i64 k,.int .i64 n,txt t,.slice none 0 0]:=
 Dat.Rep_iff.2 ⟨_,rfl,hk,hn,ht,SlR.mk_iff.2 ⟨Nat.zero_le _,.inl ⟨rfl,rfl⟩⟩⟩
end Go.Proofs.YtofbhllknefloaaGreat.Vc
namespace Go.Proofs.YtofbhllknefloaaGreat.Vc
open Go Go.ChangeShapes Go.WideShapes Go.ChangeAt Go.RowKit
mutual
def Dat.wt:Dat→Nat
 | .mk _ _ t l=>t.length+5+Dats.wt l
def Dats.wt:List Dat→Nat
 | []=>0
 | d::l=>Dat.wt d+Dats.wt l
end
theorem Dats.wt_eq:∀l:List Dat,Dats.wt l=sumWt Dat.wt l
 | []=>by simp only [Dats.wt,sumWt]
 | d::l=>by simp only [Dats.wt,sumWt,Dats.wt_eq l]
theorem Dat.wt_eq (d:Dat):d.wt=d.text.length+5+sumWt Dat.wt d.list:=by
 cases d;simp only [Dat.wt,Dat.text,Dat.list,Dats.wt_eq]
noncomputable def datFields:Array Field:=match Tryz.prog.underlying 39 with
 | some (.struct fs)=>fs
 | _=>#[]
theorem uDat:Tryz.prog.underlying 39=some (.struct datFields):=by kernel_rfl
theorem datF:datFields.toList.map (fun f=>(f.type,f.offset))=[(3,0),(3,1),(9,2),(37,3)]:=by kernel_rfl
theorem uInt:Tryz.prog.underlying 3=some (.int .i64):=by kernel_rfl
theorem cInt:Tryz.prog.cellsOf 3=1:=by kernel_rfl
theorem cStr:Tryz.prog.cellsOf 9=1:=by kernel_rfl
theorem cDats:Tryz.prog.cellsOf 37=1:=by kernel_rfl
theorem cDat:Tryz.prog.cellsOf 39=4:=by kernel_rfl
theorem csInt {H:PH} {n:Int} {v:Value} (h:CsR H n [v]):v=.int .i64 n∧InI n:=by
 have h':PV.RepRow H [.int .i64 n] [v]:=h
 simp only [PV.RepRow,PV.Rep] at h'
 obtain ⟨v',vs,e,⟨rfl,h1⟩,rfl⟩:=h'
 simp only [List.cons.injEq,and_true] at e
 exact ⟨e,h1⟩
theorem csTxt {H:PH} {l:List UInt8} {v:Value} (h:CsR H l [v]):v=txt l∧l.length≤maxLen:=by
 have h':PV.RepRow H [.str l] [v]:=h
 simp only [PV.RepRow,PV.Rep] at h'
 obtain ⟨v',vs,e,⟨rfl,h1⟩,rfl⟩:=h'
 simp only [List.cons.injEq,and_true] at e
 exact ⟨e,h1⟩
theorem Z08 {H:Type} {enc:TypeId×Value→H} {w:World}:∀fuel,Opens (α:=Dat) enc Tryz.prog w Dat.wt 39 fuel:=by
 intro fuel
 induction fuel using Nat.strongRecOn with
 | ind fuel ih=>
  intro cs d ps h
  obtain ⟨xs,n,rfl,rfl,hc,hl,hi⟩:=z5p uDat datF h
  rw [cDat] at hc
  match xs,hl with
  | [x0,x1,x2,x3],_=>
  match cs,hc with
  | [c0,c1,c2,c3],_=>
  have t0:=hi 0 3 0 x0 rfl rfl
  have t1:=hi 1 3 1 x1 rfl rfl
  have t2:=hi 2 9 2 x2 rfl rfl
  have t3:=hi 3 37 3 x3 rfl rfl
  rw [cInt] at t0 t1
  rw [cStr] at t2
  rw [cDats] at t3
  obtain ⟨k,hk,hkw⟩:=z1u uInt n _ _ _ t0
  obtain ⟨m,hm,hmw⟩:=z1u uInt n _ _ _ t1
  obtain ⟨s,hs,hsw⟩:=zsw zej n _ _ _ t2
  obtain ⟨l,v,hlv,hls,hlw⟩:=z5r (α:=Dat) uDats cDat (fun j hj=>ih j (by omega)) t3
  have hv:c3=v:=by simpa using hlv
  subst hv
  obtain ⟨rfl,hk1⟩:=csInt hk
  obtain ⟨rfl,hm1⟩:=csInt hm
  obtain ⟨rfl,hs1⟩:=csTxt hs
  refine ⟨.mk k m s l,Dat.Rep_iff.2 ⟨_,rfl,hk1,hm1,hs1,hls⟩,?_⟩
  simp only at hkw hmw hsw
  simp only [Dat.wt,Dats.wt_eq,Rows.uptoBulk,Rows.uptoBulkAll,List.map_cons,List.map_nil]
  omega
theorem Z53 {H:Type} {enc:TypeId×Value→H} {w:World} {v:Value} {d:DataW H} {p:List MemPlace} {r:Reach} {b:Nat} (hval:Value.okWide Tryz.prog w r b 9 v) (h:DataW.Trod enc Tryz.prog w 0 (fun _=>true) true 9 v d p) :
  ∃s:List UInt8,v=txt s∧s.length≤maxLen∧s.length+1≤Rows.uptoBulk d:=by
 obtain ⟨s,rfl,rfl,rfl,hs⟩:=ChangeMaps.open_string zej hval h
 refine ⟨s.data.toList,rfl,by have hs':s.data.size≤maxLen:=hs;rwa [Array.length_toList],by simp [Rows.uptoBulk]⟩
theorem zw4:laidOutB Tryz.prog=true:=by kernel_rfl
theorem zte:mapsRowed Tryz.prog=true:=by kernel_rfl
theorem Z4k:Kids Tryz.prog (· < Tryz.prog.types.size):=kids_rows zw4 zte
theorem Z3i:∀t e,t < Tryz.prog.types.size→Tryz.prog.underlying t=some (.slice e)→0 < Tryz.prog.cellsOf e:=slices_full_of Tryz.prog (by kernel_rfl)
def Dat.Mono (d:Dat):Prop:=∀(deep seen deep' seen':Nat),deep≤32→deep'≤deep→seen'≤seen→seen≤4096→(d.chk deep seen).2=0→(d.chk deep' seen').2=0∧(d.chk deep' seen').1+seen=(d.chk deep seen).1+seen'
theorem Dats.mono:∀(l:List Dat),(∀e∈l,e.Mono)→∀(deep seen deep' seen':Nat),deep≤32→deep'≤deep→seen'≤seen→seen≤4096→(Dats.chk l deep seen).2=0→(Dats.chk l deep' seen').2=0∧(Dats.chk l deep' seen').1+seen=(Dats.chk l deep seen).1+seen'
 | [],_,deep,seen,deep',seen',_,_,_,_,_=>by simp only [Dats.chk];exact ⟨trivial,by omega⟩
 | d::l,hl,deep,seen,deep',seen',h1,h2,h3,h4,h=>by
  simp only [Dats.chk] at h ⊢
  split at h
  ·rename_i hx;exact absurd h hx
  rename_i hx
  have hx:(d.chk deep seen).2=0:=by simpa using hx
  obtain ⟨g1,g2⟩:=hl d (zms) deep seen deep' seen' h1 h2 h3 h4 hx
  have g3:=Dats.mono l (fun e he=>hl e (zmm _ he)) deep (d.chk deep seen).1 deep' (d.chk deep' seen').1 h1 h2 (by omega) (Dat.chk_le d deep seen h4) h
  rw [if_neg (by simp [g1]),if_neg (by simp [hx])]
  exact ⟨g3.1,by omega⟩
theorem Dat.mono:∀d:Dat,d.Mono:=by
 refine Dat.ind ?_
 intro d ih deep seen deep' seen' h1 h2 h3 h4 h
 rw [Dat.chk_eq] at h
 rw [Dat.chk_eq d deep' seen',Dat.chk_eq d deep seen]
 split at h
 ·simp at h
 rename_i h0
 split at h
 ·simp at h
 rename_i h5
 split at h
 ·simp at h
 rename_i h6
 have hn:zaa d.kind=true→deep < 32:=fun x=>by
  rcases Nat.lt_or_ge deep 32 with y | y
  ·exact y
  ·exact absurd ⟨x,by omega⟩ h5
 rw [if_neg h0,if_neg h5,if_neg h6,if_neg (show ¬seen'=4096 by omega),if_neg (fun x=>by have:=hn x.1;omega),if_neg h6]
 by_cases hl:d.list=[]
 ·rw [hl];simp only [Dats.chk];exact ⟨trivial,by omega⟩
 ·have hn':=hn (zl0 (by simpa using h6) hl)
  have g:=Dats.mono d.list ih (deep+1) (seen+1) (deep'+1) (seen'+1) (by omega) (by omega) (by omega) (by omega) h
  exact ⟨g.1,by omega⟩
noncomputable instance decDat:DecidableEq Dat:=fun a b=>Classical.propDecidable (a=b)
noncomputable instance decDats:DecidableEq (List Dat):=fun a b=>Classical.propDecidable (a=b)
theorem Dat.eq_iff {a b:Dat}:a=b↔a.kind=b.kind∧a.int=b.int∧a.text=b.text∧a.list=b.list:=by
 cases a;cases b;simp [Dat.kind,Dat.int,Dat.text,Dat.list]
theorem zvd {l m:List Dat} {k:Nat} {a b:Dat} (h:l.take k=m.take k) (ha:l[k]?=some a) (hb:m[k]?=some b) (hab:a=b):l.take (k+1)=m.take (k+1):=by
 rw [List.take_add_one,List.take_add_one,h,ha,hb,hab]
def Z65 (f:FuncId) (a:Dat):Prop:=∀(b:Dat) (ca cb:List Value) (H:PH),a.Rep H ca→b.Rep H cb→Gives Tryz.prog f [.agg ca.toArray,.agg cb.toArray] H (.bool (decide (a=b)))
theorem zqw:∀a,Z65 zjl a:=by
 refine Dat.ind ?_
 intro a ih b ca cb H ha hb
 obtain ⟨s1,rfl,_,_,_,hl⟩:=Dat.Rep_iff.1 ha
 obtain ⟨s2,rfl,_,_,_,hm⟩:=Dat.Rep_iff.1 hb
 obtain ⟨b1,c1,rfl⟩:=hl.sl
 obtain ⟨b2,c2,rfl⟩:=hm.sl
 have m1:=hl.max
 have m2:=hm.max
 simp only [maxLen] at m1 m2
 refine zg4 [.int .i64 a.kind,.int .i64 a.int,txt a.text,.slice b1 a.list.length c1,.int .i64 b.kind,.int .i64 b.int,txt b.text,.slice b2 b.list.length c2] (by kernel_rfl) (by kernel_rfl) ?_
 refine ⟨fun h=>?_,fun h=>?_⟩
 ·simp only [evs,evb,zj9] at h
  refine ⟨?_,PH.le_refl H⟩
  have:¬a=b:=fun e=>by subst e;simp at h
  simp only [evs,evb,decide_eq_false this]
 simp only [evs,evb,zj9] at h
 simp only [Bool.or_eq_false_iff,zdf,ne_eq,Decidable.not_not] at h
 obtain ⟨⟨⟨h1,h2⟩,h3⟩,h4⟩:=h
 have heq:(a=b)↔a.list=b.list:=by rw [Dat.eq_iff];simp [h1,h2,h3]
 have hlen:a.list.length=b.list.length:=by omega
 refine ⟨fun n vs H'=>∃k:Nat,vs=[.bool false,.int .i64 k]∧k+n=a.list.length∧a.list.take k=b.list.take k∧PH.le H H',⟨a.list.length,0,rfl,by omega,by simp,PH.le_refl H⟩,?_⟩
 rintro n vs H' _ ⟨k,rfl,hkn,htk,hle⟩
 refine ⟨fun h5=>?_,fun h5=>?_⟩
 ·simp only [evs,evb,zdt] at h5
  obtain ⟨e,he⟩:∃e,a.list[k]?=some e:=⟨_,zge (show k < a.list.length by omega)⟩
  obtain ⟨e',he'⟩:∃e,b.list[k]?=some e:=⟨_,zge (show k < b.list.length by omega)⟩
  obtain ⟨g1,ces,g2,g3,_,_⟩:=SlRep.get (hl.le hle) he
  obtain ⟨g1',ces',g2',g3',_,_⟩:=SlRep.get (hm.le hle) he'
  have htags:=g2.tags
  have htags':=g2'.tags
  have hcall:=ih e (List.mem_of_getElem? he) e' ces ces' H' g2 g2'
  obtain ⟨sve,rfl,_⟩:=Dat.Rep_iff.1 g2
  obtain ⟨sve',rfl,_⟩:=Dat.Rep_iff.1 g2'
  refine ⟨fun _=>?_,_,htags,by simp only [evs,evb];exact g3,fun _=>?_,_,htags',by simp only [evs,evb];exact g3',?_⟩
  ·simp only [Chk.holds,evs,evb];exact ⟨g1,by omega,by omega⟩
  ·simp only [Chk.holds,evs,evb];exact ⟨g1',by omega,by omega⟩
  refine z05 [.bool (decide (e=e'))] z49 hcall rfl z01 fun H2 h2=>⟨fun h6=>?_,fun h6=>?_⟩
  ·simp only [evs,evb,Bool.not_eq_true',zdf] at h6
   refine ⟨?_,PH.le_trans hle h2⟩
   have:¬a=b:=fun x=>h6 (by subst x;rw [he] at he';exact Option.some.inj he')
   simp only [evs,evb,decide_eq_false this]
  ·simp only [evs,evb,Bool.not_eq_false',zdt] at h6
   refine ⟨_,z00,n - 1,by omega,k+1,?_,by omega,zvd htk he he' h6,PH.le_trans hle h2⟩
   simp only [evs,evb]
   rw [w64 (by omega) (by omega)]
   rfl
 ·simp only [evs,evb,zdf] at h5
  refine ⟨?_,hle⟩
  have:a=b:=heq.2 (by rw [List.take_of_length_le (by omega),List.take_of_length_le (by omega)] at htk;exact htk)
  simp only [evs,evb,decide_eq_true this]
mutual
def Dat.cnt:Dat→Nat
 | .mk _ _ _ l=>1+Dats.cnt l
def Dats.cnt:List Dat→Nat
 | []=>0
 | d::l=>Dat.cnt d+Dats.cnt l
end
theorem Dat.cnt_eq (d:Dat):d.cnt=1+Dats.cnt d.list:=by cases d;simp only [Dat.cnt,Dat.list]
theorem Dats.cnt_le:∀l:List Dat,l.length≤Dats.cnt l
 | []=>by simp
 | d::l=>by
  have:=Dats.cnt_le l
  have h:=Dat.cnt_eq d
  simp only [Dats.cnt,zlc];omega
theorem Dats.cnt_append:∀l m:List Dat,Dats.cnt (l++m)=Dats.cnt l+Dats.cnt m
 | [],m=>by simp [Dats.cnt]
 | d::l,m=>by simp only [List.cons_append,Dats.cnt,Dats.cnt_append l m];omega
def Z6l (f:FuncId) (args:List Value) (H:PH) (d:Dat):Prop:=Tri Tryz.prog f args.toArray H fun e H'=>∃cs,e=.returned (.agg cs.toArray)∧PH.le H H'∧d.Rep H' cs
def makeD (l:List Dat) (d:Dat):Dat:=if l.length=0 then d else if d.kind=5∨d.kind=6 then .mk d.kind 0 [] (l++d.list) else .mk 6 0 [] (l++[d])
theorem or_if (p q:Prop) [Decidable p] [Decidable q]:(if decide p=true then true else decide q)=decide (p∨q):=by by_cases hp:p<;>simp [hp]
theorem zwm (l:List Dat) (d:Dat) (v:Value) (cs:List Value) (H:PH) (hl:SlR H l v) (hd:d.Rep H cs) (hc1:Dats.cnt l≤100000) (hc2:d.cnt≤100000):Z6l zjc [v,.agg cs.toArray] H (makeD l d):=by
 have hll:=Dats.cnt_le l
 have hdl:=Dats.cnt_le d.list
 have hcd:=Dat.cnt_eq d
 have hd':=hd
 obtain ⟨sv,rfl,g1,g2,g3,hs⟩:=Dat.Rep_iff.1 hd
 obtain ⟨b0,c0,rfl⟩:=hl.sl
 obtain ⟨b,c,rfl⟩:=hs.sl
 refine zgc [.slice b0 l.length c0,.int .i64 d.kind,.int .i64 d.int,txt d.text,.slice b d.list.length c] (by kernel_rfl) (by kernel_rfl) ?_
 refine ⟨fun h=>?_,fun h=>?_⟩
 ·simp only [evs,evb,zdt] at h
  rw [makeD,if_pos (by omega)]
  exact ⟨_,rfl,PH.le_refl H,hd'⟩
 simp only [evs,evb,zdf] at h
 refine zod (α:=Dat) (b:=56) uDats zei fun v5 H2 a5 l5=>?_
 refine zkc (b:=56) uDats zei rfl rfl a5 (hl.le a5.le) (by simp only [maxLen,List.length_nil];omega) (by simp only [List.length_nil];omega) fun v6 H3 a6 w6=>⟨z01,?_⟩
 rw [List.nil_append] at a6
 refine ⟨fun h2=>?_,fun h2=>?_⟩
 ·simp only [evs,zmp,or_if] at h2
  rw [zdt] at h2
  rw [makeD,if_neg (by omega),if_pos h2]
  refine zkc (b:=56) uDats zei rfl rfl a6 (hs.le a6.le) (by simp only [maxLen];omega) (by omega) fun v' H4 a7 w7=>⟨z01,[.int .i64 d.kind,.int .i64 0,txt [],v'],rfl,a7.all,?_⟩
  exact Dat.Rep_iff.2 ⟨_,rfl,g1,(by decide:InI 0),Nat.zero_le _,a7.slR⟩
 ·simp only [evs,zmp,or_if] at h2
  rw [zdf] at h2
  rw [makeD,if_neg (by omega),if_neg h2]
  refine Z3t (more:=[d]) (b:=56) [.agg #[.int .i64 d.kind,.int .i64 d.int,txt d.text,.slice b d.list.length c]] uDats zei rfl (by decide) (by decide) rfl (.cons (Dat.Rep.le a6.le d hd') .nil) z01 a6 (fun _=>rfl) (fun _=>rfl)
   (by simp only [maxLen,zlc,List.length_nil];omega) (by simp only [zlc,List.length_nil];omega) fun u v' H4 a7 w7=>⟨z01,[.int .i64 6,.int .i64 0,txt [],v'],rfl,a7.all,?_⟩
  exact Dat.Rep_iff.2 ⟨_,rfl,(by decide:InI 6),(by decide:InI 0),Nat.zero_le _,a7.slR⟩
end Go.Proofs.YtofbhllknefloaaGreat.Vc
namespace Go.Proofs.YtofbhllknefloaaGreat.Vc
open Go Go.ChangeShapes Go.WideShapes Go.ChangeAt Go.RowKit
structure InsX where
 op:List UInt8
 to:Int
 args:List Int
 const:Dat
 num:Int
structure EndX where
 kind:Int
 reg:Int
 args:List Int
 to:Int
 next:Int
 els:Int
structure BlkX where
 ins:List InsX
 e:EndX
structure PrcX where
 params:Int
 holds:Int
 regs:Int
 blocks:List BlkX
def InsX.pv (x:InsX):List PV:=[.str x.op,.int .i64 x.to,slp x.args,.int .i64 x.const.kind,.int .i64 x.const.int,.str x.const.text,slp x.const.list,.int .i64 x.num]
def EndX.pv (e:EndX):List PV:=[.int .i64 e.kind,.int .i64 e.reg,slp e.args,.int .i64 e.to,.int .i64 e.next,.int .i64 e.els]
instance encIns:Enc InsX:=⟨InsX.pv,8,fun _=>rfl⟩
instance encEnd:Enc EndX:=⟨EndX.pv,6,fun _=>rfl⟩
instance encBlk:Enc BlkX:=⟨fun b=>slp b.ins::b.e.pv,7,fun _=>rfl⟩
instance encPrc:Enc PrcX:=⟨fun p=>[.int .i64 p.params,.int .i64 p.holds,.int .i64 p.regs,slp p.blocks],4,fun _=>rfl⟩
theorem repI_iff {H:PH} {n:Int} {v:Value}:PV.Rep H (.int .i64 n) v↔v=.int .i64 n∧InI n:=by
 simp only [PV.Rep];exact ⟨fun h=>⟨h.1,inI64.1 h.2⟩,fun h=>⟨h.1,inI64.2 h.2⟩⟩
theorem zfq {H:PH} {s:List UInt8} {v:Value}:PV.Rep H (.str s) v↔v=txt s∧s.length≤maxLen:=by
 simp only [PV.Rep]
theorem ins_iff {H:PH} {x:InsX} {cs:List Value}:CsR H x cs↔∃av dv,cs=[txt x.op,.int .i64 x.to,av,.int .i64 x.const.kind,.int .i64 x.const.int,txt x.const.text,dv,.int .i64 x.num] ∧
  x.op.length≤maxLen∧InI x.to∧SlR H x.args av∧InI x.const.kind∧InI x.const.int∧x.const.text.length≤maxLen∧SlR H x.const.list dv∧InI x.num:=by
 show PV.RepRow H (InsX.pv x) cs↔_
 simp only [InsX.pv,PV.RepRow,repI_iff,zfq]
 constructor
 ·rintro ⟨v1,_,rfl,⟨rfl,h1⟩,v2,_,rfl,⟨rfl,h2⟩,v3,_,rfl,h3,v4,_,rfl,⟨rfl,h4⟩,v5,_,rfl,⟨rfl,h5⟩,v6,_,rfl,⟨rfl,h6⟩,v7,_,rfl,h7,v8,_,rfl,⟨rfl,h8⟩,rfl⟩
  exact ⟨v3,v7,rfl,h1,h2,h3,h4,h5,h6,h7,h8⟩
 ·rintro ⟨v3,v7,rfl,h1,h2,h3,h4,h5,h6,h7,h8⟩
  exact ⟨_,_,rfl,⟨rfl,h1⟩,_,_,rfl,⟨rfl,h2⟩,_,_,rfl,h3,_,_,rfl,⟨rfl,h4⟩,_,_,rfl,⟨rfl,h5⟩,_,_,rfl,⟨rfl,h6⟩,_,_,rfl,h7,_,_,rfl,⟨rfl,h8⟩,rfl⟩
theorem end_iff {H:PH} {e:EndX} {cs:List Value}:CsR H e cs↔∃av,cs=[.int .i64 e.kind,.int .i64 e.reg,av,.int .i64 e.to,.int .i64 e.next,.int .i64 e.els] ∧
  InI e.kind∧InI e.reg∧SlR H e.args av∧InI e.to∧InI e.next∧InI e.els:=by
 show PV.RepRow H (EndX.pv e) cs↔_
 simp only [EndX.pv,PV.RepRow,repI_iff,zfq]
 constructor
 ·rintro ⟨v1,_,rfl,⟨rfl,h1⟩,v2,_,rfl,⟨rfl,h2⟩,v3,_,rfl,h3,v4,_,rfl,⟨rfl,h4⟩,v5,_,rfl,⟨rfl,h5⟩,v6,_,rfl,⟨rfl,h6⟩,rfl⟩
  exact ⟨v3,rfl,h1,h2,h3,h4,h5,h6⟩
 ·rintro ⟨v3,rfl,h1,h2,h3,h4,h5,h6⟩
  exact ⟨_,_,rfl,⟨rfl,h1⟩,_,_,rfl,⟨rfl,h2⟩,_,_,rfl,h3,_,_,rfl,⟨rfl,h4⟩,_,_,rfl,⟨rfl,h5⟩,_,_,rfl,⟨rfl,h6⟩,rfl⟩
theorem blk_iff {H:PH} {b:BlkX} {cs:List Value}:CsR H b cs↔∃iv es,cs=iv::es∧SlR H b.ins iv∧CsR H b.e es:=by
 show PV.RepRow H (slp b.ins::b.e.pv) cs↔_
 rw [PV.RepRow]
 constructor
 ·rintro ⟨v,vs,rfl,h1,h2⟩;exact ⟨v,vs,rfl,h1,h2⟩
 ·rintro ⟨v,vs,rfl,h1,h2⟩;exact ⟨v,vs,rfl,h1,h2⟩
theorem prc_iff {H:PH} {p:PrcX} {cs:List Value}:CsR H p cs↔∃bv,cs=[.int .i64 p.params,.int .i64 p.holds,.int .i64 p.regs,bv]∧InI p.params∧InI p.holds∧InI p.regs∧SlR H p.blocks bv:=by
 show PV.RepRow H [_,_,_,_] cs↔_
 simp only [PV.RepRow,repI_iff]
 constructor
 ·rintro ⟨v1,_,rfl,⟨rfl,h1⟩,v2,_,rfl,⟨rfl,h2⟩,v3,_,rfl,⟨rfl,h3⟩,v4,_,rfl,h4,rfl⟩
  exact ⟨v4,rfl,h1,h2,h3,h4⟩
 ·rintro ⟨v4,rfl,h1,h2,h3,h4⟩
  exact ⟨_,_,rfl,⟨rfl,h1⟩,_,_,rfl,⟨rfl,h2⟩,_,_,rfl,⟨rfl,h3⟩,_,_,rfl,h4,rfl⟩
theorem csIK {H:PH} {a:Int} {cs:List Value} (h:CsR H a cs):cs=[.int .i64 a]∧InI a:=by
 have h':PV.RepRow H [.int .i64 a] cs:=h
 simp only [PV.RepRow,repI_iff] at h'
 obtain ⟨v,vs,rfl,⟨rfl,h1⟩,rfl⟩:=h'
 exact ⟨rfl,h1⟩
theorem z0o {S:PH} {a:Int} (h:InI a):CsR S a [.int .i64 a]:=by
 show PV.RepRow S [.int .i64 a] [.int .i64 a]
 simp only [PV.RepRow,repI_iff]
 exact ⟨_,_,rfl,⟨rfl,h⟩,rfl⟩
instance encInts:Enc (List Int):=⟨fun l=>[slp l],1,fun _=>rfl⟩
theorem csLK {H:PH} {a:List Int} {cs:List Value} (h:CsR H a cs):∃v,cs=[v]∧SlR H a v:=by
 have h':PV.RepRow H [slp a] cs:=h
 simp only [PV.RepRow] at h'
 obtain ⟨v,vs,rfl,h1,rfl⟩:=h'
 exact ⟨v,rfl,h1⟩
theorem zn4 {H:PH} {a:List Int} {v:Value} (h:SlR H a v):CsR H a [v]:=by
 show PV.RepRow H [slp a] [v]
 simp only [PV.RepRow]
 exact ⟨v,[],rfl,h,rfl⟩
theorem uIntK:Tryz.prog.underlying 3=some (.int .i64):=by kernel_rfl
theorem z0q:Tryz.prog.underlying 31=some (.slice 3):=by kernel_rfl
theorem z0i:ElemOk Tryz.prog 3 1 8=true:=by kernel_rfl
theorem zxv:Tryz.prog.underlying 105=some (.slice 31):=by kernel_rfl
theorem zsq:ElemOk Tryz.prog 31 1 24=true:=by kernel_rfl
theorem zpw:Tryz.prog.underlying 50=some (.slice 57):=by kernel_rfl
theorem zol:ElemOk Tryz.prog 57 8 112=true:=by kernel_rfl
theorem zq1:Tryz.prog.underlying 28=some (.slice 54):=by kernel_rfl
theorem zp4:ElemOk Tryz.prog 54 7 88=true:=by kernel_rfl
def ziw (l:List Int):Nat:=sumWt (fun _=>1) l+1
def InsX.wt (x:InsX):Nat:=x.op.length+1+1+ziw x.args+x.const.wt+1
def EndX.wt (e:EndX):Nat:=1+1+ziw e.args+1+1+1
def BlkX.wt (b:BlkX):Nat:=sumWt InsX.wt b.ins+1+b.e.wt
def PrcX.wt (p:PrcX):Nat:=1+1+1+(sumWt BlkX.wt p.blocks+1)
theorem zbs (l:List Int) (n:Int) (v:Value) (H:PH) (hl:SlR H l v):Gives Tryz.prog zkm [v,.int .i64 n] H (.bool (decide (n∈l))):=by
 obtain ⟨b,c,rfl⟩:=hl.sl
 have hm:=hl.max
 simp only [maxLen] at hm
 refine zif [.slice b l.length c,.int .i64 n] (by kernel_rfl) (by kernel_rfl) ?_
 refine ⟨fun j vs H'=>∃k:Nat,vs=[.bool false,.int .i64 k]∧k+j=l.length∧n∉l.take k∧PH.le H H',⟨l.length,0,rfl,by omega,by simp,PH.le_refl H⟩,?_⟩
 rintro j vs H' _ ⟨k,rfl,hkn,hno,hle⟩
 refine ⟨fun h=>?_,fun h=>?_⟩
 ·simp only [evs,evb,zdt] at h
  obtain ⟨a,ha⟩:∃a,l[k]?=some a:=⟨_,zge (show k < l.length by omega)⟩
  obtain ⟨g1,_,ces,g2,g3⟩:=(hl.le hle).get ha
  obtain ⟨rfl,_⟩:=csIK g2
  refine ⟨fun _=>?_,[.int .i64 a],rfl,?_,fun h2=>?_,fun h2=>?_⟩
  ·simp only [Chk.holds,evs,evb];exact ⟨g1,by omega,by omega⟩
  ·simp only [evs,evb];exact g3
  ·simp only [evs,evb,zdt] at h2
   subst h2
   rw [decide_eq_true (List.mem_of_getElem? ha)]
   exact ⟨rfl,hle⟩
  ·simp only [evs,evb,zdf] at h2
   refine ⟨_,z00,j - 1,by omega,k+1,?_,by omega,fun hx=>?_,hle⟩
   ·simp only [evs,evb];rw [w64 (by omega) (by omega)];rfl
   ·rw [List.take_add_one,ha] at hx
    rcases List.mem_append.1 hx with hx | hx
    ·exact hno hx
    ·simp at hx;exact h2 hx.symm
 ·simp only [evs,evb,zdf] at h
  rw [List.take_of_length_le (by omega)] at hno
  rw [decide_eq_false hno]
  exact ⟨rfl,hle⟩
def EndX.reads (e:EndX) (r:Int):Bool:=
 if e.kind=1∨e.kind=2∨e.kind=5∨e.kind=6 then decide (e.reg=r) else if e.kind=3∨e.kind=4 then decide (e.reg=r) || decide (r∈e.args) else false
def EndX.calls (e:EndX):Bool:=decide (e.kind=4∨e.kind=6)
def EndX.ways (e:EndX):List Int:=(if e.kind=0∨e.kind=1∨e.kind=4∨e.kind=6 then [e.next] else [])++(if e.kind=1 then [e.els] else [])
def EndX.leads (e:EndX) (n:Nat):List Int:=e.ways.filter fun b=>decide (0≤b∧b < n)
def endVs (e:EndX) (av:Value):List Value:=[.int .i64 e.kind,.int .i64 e.reg,av,.int .i64 e.to,.int .i64 e.next,.int .i64 e.els]
theorem zkv (e:EndX) (av:Value) (H:PH) (r:Int) (ha:SlR H e.args av):Gives Tryz.prog zho [.agg (endVs e av).toArray,.int .i64 r] H (.bool (e.reads r)):=by
 obtain ⟨b,c,rfl⟩:=ha.sl
 refine zf5 (endVs e (.slice b e.args.length c)++[.int .i64 r]) (by kernel_rfl) (by kernel_rfl) ?_
 simp only [endVs,List.cons_append,List.nil_append]
 refine ⟨fun vs H'=>vs=[.bool (decide (e.kind=1∨e.kind=2∨e.kind=5∨e.kind=6))]∧H'=H,?_,fun g=>?_,fun g=>⟨fun g2=>?_,fun g2=>?_⟩⟩
 ·rintro vs H' _ ⟨rfl,rfl⟩
  refine ⟨fun g=>?_,fun g=>?_⟩
  ·simp only [evs,evb,zdt] at g
   refine ⟨?_,PH.le_refl _⟩
   simp only [evs,evb,EndX.reads,if_pos g]
  ·simp only [evs,evb,zdf] at g
   refine ⟨fun g2=>?_,fun g2=>?_⟩
   ·have hk:e.kind=3∨e.kind=4:=by
     by_cases h3:e.kind=3
     ·exact .inl h3
     ·by_cases h4:e.kind=4
      ·exact .inr h4
      ·simp [evs,evb,h3,h4] at g2
    refine ⟨fun vs H2=>vs=[.bool (decide (e.reg=r) || decide (r∈e.args))]∧PH.le H' H2,?_,fun g3=>?_,fun g3=>?_⟩
    ·rintro vs H2 _ ⟨rfl,l2⟩
     refine ⟨?_,l2⟩
     simp only [evs,evb,EndX.reads,if_neg g,if_pos hk]
    ·simp only [evs,evb,zdt] at g3
     refine ⟨_,z00,?_,PH.le_refl _⟩
     simp [evs,evb,g3]
    ·simp only [evs,evb,zdf] at g3
     refine z05 [.bool (decide (r∈e.args))] z2u (zbs e.args r _ H' ha) rfl z01 fun H2 l2=>⟨_,z00,?_,l2⟩
     simp [evs,evb,g3]
   ·have hk:¬(e.kind=3∨e.kind=4):=by
     rintro (h3 | h3)<;>simp [evs,evb,h3] at g2
    refine ⟨?_,PH.le_refl _⟩
    simp only [evs,evb,EndX.reads,if_neg g,if_neg hk]
 ·simp only [evs,evb,zdt] at g
  refine ⟨_,z00,?_,rfl⟩
  simp [evs,evb,g]
 ·simp only [evs,evb,zdt] at g2
  refine ⟨_,z00,?_,rfl⟩
  simp [evs,evb,g2]
 ·simp only [evs,evb,zdf] at g g2
  refine ⟨_,z00,?_,rfl⟩
  by_cases h5:e.kind=5<;>by_cases h6:e.kind=6<;>simp [evs,evb,g,g2,h5,h6]
def insL (n:Int):List Int→List Int
 | []=>[n]
 | a::l=>if n < a then n::a::l else a::insL n l
def putL (l:List Int) (n:Int):List Int:=if n∈l then l else insL n l
theorem zuu (n:Int):∀l,(insL n l).length=l.length+1
 | []=>rfl
 | a::l=>by unfold insL;split<;>simp [zuu n l]
theorem zp0 (n x:Int):∀l,x∈insL n l↔x=n∨x∈l
 | []=>by simp [insL]
 | a::l=>by
  unfold insL
  split
  ·simp
  ·simp only [List.mem_cons,zp0 n x l]
   constructor
   ·rintro (h | h | h)
    ·exact .inr (.inl h)
    ·exact .inl h
    ·exact .inr (.inr h)
   ·rintro (h | h | h)
    ·exact .inr (.inl h)
    ·exact .inl h
    ·exact .inr (.inr h)
theorem Z4s (n:Int) {l:List Int} {a:Int} (h:∃b∈l,n < b):insL n (l++[a])=insL n l++[a]:=by
 induction l with
 | nil=>obtain ⟨b,hb,_⟩:=h;cases hb
 | cons x l ih=>
  by_cases hx:n < x
  ·simp only [List.cons_append,insL,if_pos hx]
  ·simp only [List.cons_append,insL,if_neg hx]
   congr 1
   apply ih
   obtain ⟨b,hb,hn⟩:=h
   rcases List.mem_cons.1 hb with rfl | hb
   ·exact absurd hn hx
   ·exact ⟨b,hb,hn⟩
theorem Z0a (n:Int) {l:List Int} {a:Int} (h:∀b∈l,¬n < b) (ha:n < a):insL n (l++[a])=l++[n,a]:=by
 induction l with
 | nil=>simp [insL,ha]
 | cons x l ih=>
  simp only [List.cons_append,insL,if_neg (h x (zms))]
  congr 1
  exact ih fun b hb=>h b (zmm _ hb)
theorem Z49 (n:Int) {l:List Int} (h:∀b∈l,¬n < b):insL n l=l++[n]:=by
 induction l with
 | nil=>rfl
 | cons x l ih=>
  simp only [insL,if_neg (h x (zms)),List.cons_append]
  congr 1
  exact ih fun b hb=>h b (zmm _ hb)
theorem zqb {n:Int}:∀{l:List Int},l.Pairwise (· < ·)→n∉l→(insL n l).Pairwise (· < ·)
 | [],_,_=>by simp [insL]
 | a::l,h,hn=>by
  obtain ⟨h1,h2⟩:=List.pairwise_cons.1 h
  simp only [List.mem_cons,not_or] at hn
  unfold insL
  split
  ·rename_i hlt
   refine List.pairwise_cons.2 ⟨fun b hb=>?_,h⟩
   rcases List.mem_cons.1 hb with rfl | hb
   ·exact hlt
   ·exact Int.lt_trans hlt (h1 b hb)
  ·rename_i hlt
   refine List.pairwise_cons.2 ⟨fun b hb=>?_,zqb h2 hn.2⟩
   rcases (zp0 n b l).1 hb with rfl | hb
   ·omega
   ·exact h1 b hb
theorem Z3v (n x:Int) (l:List Int):x∈putL l n↔x=n∨x∈l:=by
 unfold putL
 split
 ·rename_i h;exact ⟨.inr,fun hx=>hx.elim (fun e=>e ▸ h) id⟩
 ·exact zp0 n x l
theorem zzu {n:Int} {l:List Int} (h:l.Pairwise (· < ·)):(putL l n).Pairwise (· < ·):=by
 unfold putL;split
 ·exact h
 ·rename_i hn;exact zqb h hn
theorem Z3u (l:List Int) (n:Int):(putL l n).length≤l.length+1:=by
 unfold putL;split
 ·omega
 ·rw [zuu];omega
theorem Z1a (l:List Int) (n:Int) (v:Value) (S:PH) (hl:SlR S l v) (hn:InI n) (hb:l.length≤40000000):Tri Tryz.prog za5 #[v,.int .i64 n] S fun x S'=>PH.le S S'∧∃v',x=.returned v'∧SlR S' (putL l n) v':=by
 obtain ⟨b,c,rfl⟩:=hl.sl
 refine zhi [.slice b l.length c,.int .i64 n] (by kernel_rfl) (by kernel_rfl) ?_
 refine z05 [.bool (decide (n∈l))] z2u (zbs l n _ S hl) rfl z01 fun S1 l1=>⟨fun g=>?_,fun g=>?_⟩
 ·simp only [evs,evb,zdt] at g
  refine ⟨l1,_,rfl,?_⟩
  rw [putL,if_pos g]
  exact hl.le l1
 ·simp only [evs,evb,zdf] at g
  rw [putL,if_neg g]
  have hl1:=hl.le l1
  refine z1p (α:=Int) (b:=8) z0q z0i (Held.nil (PH.le_refl S1)) z01 fun v1 K1 h1 _ _=>?_
  refine ⟨fun j vs K=>∃(k:Nat) (v:Value) (d:Bool) (out:List Int) (S':PH),vs=[v,.bool d,.int .i64 k]∧k+j=l.length∧PH.le S1 S'∧Held S' K [orow 3 out v]∧out.length≤k+1 ∧
   ((d=true∧out=insL n (l.take k)∧∃b∈l.take k,n < b)∨(d=false∧out=l.take k∧∀b∈l.take k,¬n < b)),⟨l.length,0,v1,false,[],S1,rfl,by omega,PH.le_refl S1,h1,by simp,.inr ⟨rfl,rfl,by simp⟩⟩,?_⟩
  rintro j vs K _ ⟨k,vo,d,out,S2,rfl,hkj,l2,h2,hol,hcase⟩
  refine ⟨fun g1=>?_,fun g1=>?_⟩
  ·simp only [evs,evb,zdt] at g1
   obtain ⟨a,ha⟩:∃a,l[k]?=some a:=⟨_,zge (show k < l.length by omega)⟩
   have hst:l.take (k+1)=l.take k++[a]:=by rw [List.take_add_one,ha];rfl
   obtain ⟨q1,_,ces,q2,q3⟩:=hl1.get ha
   obtain ⟨rfl,hai⟩:=csIK q2
   have rd:∀{K':PH},PH.le S1 K'→rowAt K' (pOf (eltV (.slice b l.length c) (k:Int) 1)) [.int .i64 a]:=fun h=>z06 h q3
   refine ⟨fun vs K'=>∃(v:Value) (d':Bool) (out':List Int) (S':PH),vs=[v,.bool d']∧PH.le S2 S'∧Held S' K' [orow 3 out' v]∧out'.length≤k+1 ∧
    ((d'=true∧out'++[a]=insL n (l.take (k+1))∧∃b∈l.take (k+1),n < b)∨(d'=false∧out'++[a]=l.take (k+1)∧∀b∈l.take (k+1),¬n < b)),?_,?_⟩
   ·rintro vs K3 _ ⟨v3,d3,out3,S3,rfl,l3,h3,hl3,hc3⟩
    refine ⟨fun _=>?_,[.int .i64 a],rfl,?_,?_⟩
    ·simp only [Chk.holds,evs,evb];exact ⟨q1,by omega,by omega⟩
    ·simp only [evs,evb];exact rd (PH.le_trans l2 (PH.le_trans l3 h3.sh))
    refine z0m (more:=[a]) (b:=8) [.int .i64 a] z0q z0i rfl (by decide) (by decide) h3 (by kernel_rfl) (.cons (z0o hai) .nil) z01 (fun _=>by kernel_rfl) (fun _=>by kernel_rfl)
     (by simp only [maxLen,zlc,List.length_nil];omega) (by simp only [zlc,List.length_nil];omega) fun u v' S4 K4 l4 h4=>⟨z01,_,z00,j - 1,by omega,k+1,v',d3,out3++[a],S4,?_,by omega,PH.le_trans l2 (PH.le_trans l3 l4),h4,by simp;omega,hc3⟩
    simp only [evs,evb]
    rw [w64 (by omega) (by omega)]
    rfl
   ·refine ⟨fun vs K'=>vs=[.bool (!d && decide (n < a))]∧K'=K,?_,?_⟩
    ·rintro vs K3 _ ⟨rfl,rfl⟩
     refine ⟨fun g2=>?_,fun g2=>?_⟩
     ·simp only [evs,evb,zba,Bool.not_eq_true',zdt] at g2
      rcases hcase with ⟨hd,_⟩ | ⟨hd,ho,hno⟩
      ·rw [hd] at g2;exact absurd g2.1 (by decide)
      refine z0m (more:=[n]) (b:=8) [.int .i64 n] z0q z0i rfl (by decide) (by decide) h2 (by kernel_rfl) (.cons (z0o hn) .nil) z01 (fun _=>by kernel_rfl) (fun _=>by kernel_rfl)
       (by simp only [maxLen,zlc,List.length_nil];omega) (by simp only [zlc,List.length_nil];omega) fun u v' S4 K4 l4 h4=>⟨z01,_,z00,v',true,out++[n],S4,rfl,l4,h4,?_,.inl ⟨rfl,?_,?_⟩⟩
      ·rw [ho,zla,List.length_take];simp;omega
      ·rw [hst,Z0a n hno g2.2,ho];simp
      ·exact ⟨a,by rw [hst];simp,g2.2⟩
     ·simp only [evs,evb,Bool.and_eq_false_iff,Bool.not_eq_false',zdf] at g2
      refine ⟨_,z00,vo,d,out,S2,rfl,PH.le_refl _,h2,hol,?_⟩
      rcases hcase with ⟨hd,ho,hex⟩ | ⟨hd,ho,hno⟩
      ·refine .inl ⟨hd,?_,?_⟩
       ·rw [hst,Z4s n hex,ho]
       ·obtain ⟨b,hb,hlt⟩:=hex
        exact ⟨b,by rw [hst];exact List.mem_append_left _ hb,hlt⟩
      ·refine .inr ⟨hd,by rw [hst,ho],fun b hb=>?_⟩
       rw [hst] at hb
       rcases List.mem_append.1 hb with hb | hb
       ·exact hno b hb
       ·simp at hb;subst hb
        rcases g2 with g2 | g2
        ·rw [hd] at g2;cases g2
        ·exact g2
    ·refine ⟨fun _=>?_,fun g2=>?_,fun g2=>?_⟩
     ·simp only [Chk.holds,evs,evb];exact ⟨q1,by omega,by omega⟩
     ·simp only [evs,evb] at g2
      refine ⟨[.int .i64 a],rfl,?_,_,z00,?_,rfl⟩
      ·simp only [evs,evb];exact rd (PH.le_trans l2 h2.sh)
      ·simp only [evs,evb];simp at g2;rw [g2];rfl
     ·simp only [evs,evb] at g2
      refine ⟨_,z00,?_,rfl⟩
      simp only [evs,evb];simp at g2;rw [g2];rfl
  ·simp only [evs,evb,zdf] at g1
   have htk:l.take k=l:=List.take_of_length_le (by omega)
   rw [htk] at hcase
   refine ⟨fun vs K'=>∃v S',vs=[v]∧PH.le S1 S'∧Held S' K' [orow 3 (insL n l) v],?_,fun g2=>?_,fun g2=>?_⟩
   ·rintro vs K3 _ ⟨v3,S3,rfl,l3,h3⟩
    obtain ⟨S4,s4,l4,h4⟩:=h3.freeze
    exact ⟨PH.le_trans l1 (PH.le_trans l3 (PH.le_trans l4 h4.sh)),v3,rfl,s4.le h4.sh⟩
   ·simp only [evs,evb] at g2
    rcases hcase with ⟨hd,ho,hex⟩ | ⟨hd,ho,hno⟩
    ·rw [hd] at g2;simp at g2
    refine z0m (more:=[n]) (b:=8) [.int .i64 n] z0q z0i rfl (by decide) (by decide) h2 (by kernel_rfl) (.cons (z0o hn) .nil) z01 (fun _=>by kernel_rfl) (fun _=>by kernel_rfl)
     (by simp only [maxLen,zlc,List.length_nil];omega) (by simp only [zlc,List.length_nil];omega) fun u v' S4 K4 l4 h4=>⟨z01,_,z00,v',S4,rfl,PH.le_trans l2 l4,?_⟩
    rw [Z49 n hno,←ho];exact h4
   ·simp only [evs,evb] at g2
    rcases hcase with ⟨hd,ho,hex⟩ | ⟨hd,ho,hno⟩
    ·exact ⟨_,z00,vo,S2,rfl,l2,ho ▸ h2⟩
    ·rw [hd] at g2;simp at g2
def prcVs (p:PrcX) (bv:Value):List Value:=[.int .i64 p.params,.int .i64 p.holds,.int .i64 p.regs,bv]
theorem zk2 (e:EndX):e.ways.length≤2:=by
 unfold EndX.ways
 rw [zla]
 split<;>split<;>simp
theorem zo9 (p:PrcX) (e:EndX) (bv av:Value) (S:PH) (hb:SlR S p.blocks bv) (ha:SlR S e.args av) (hn:InI e.next) (he:InI e.els) :
  Tri Tryz.prog zhu #[.agg (prcVs p bv).toArray,.agg (endVs e av).toArray] S fun x S'=>PH.le S S'∧∃v,x=.returned v∧SlR S' (e.leads p.blocks.length) v:=by
 obtain ⟨b,c,rfl⟩:=hb.sl
 obtain ⟨b2,c2,rfl⟩:=ha.sl
 refine zel (prcVs p (.slice b p.blocks.length c)++endVs e (.slice b2 e.args.length c2)) (by kernel_rfl) (by kernel_rfl) ?_
 simp only [prcVs,endVs,List.cons_append,List.nil_append]
 refine z1p (α:=Int) (b:=8) z0q z0i (Held.nil (PH.le_refl S)) z01 fun v1 K1 h1 _ _=>?_
 obtain ⟨w1,hw1⟩:∃w1,w1=(if e.kind=0∨e.kind=1∨e.kind=4∨e.kind=6 then [e.next] else []):=⟨_,rfl⟩
 obtain ⟨w2,hw2⟩:∃w2,w2=(if e.kind=1 then [e.els] else []):=⟨_,rfl⟩
 have hway:e.ways=w1++w2:=by rw [hw1,hw2];rfl
 have hwl:=zk2 e
 rw [hway,zla] at hwl
 have hwi:∀x∈e.ways,InI x:=by
  intro x hx
  rw [hway,hw1,hw2] at hx
  rcases List.mem_append.1 hx with hx | hx<;>split at hx<;>simp at hx<;>subst hx<;>assumption
 refine ⟨fun vs K=>∃v S',vs=[v]∧PH.le S S'∧Held S' K [orow 3 w1 v],?_,fun g=>?_,fun g=>?_⟩
 rotate_left
 ·simp only [evs,evb,zdt] at g
  have hg:e.kind=0∨e.kind=1∨e.kind=4∨e.kind=6:=by
   by_cases k0:e.kind=0<;>by_cases k1:e.kind=1<;>by_cases k4:e.kind=4<;>by_cases k6:e.kind=6<;>simp_all [bOf]
  rw [if_pos hg] at hw1
  refine z0m (more:=[e.next]) (b:=8) [.int .i64 e.next] z0q z0i rfl (by decide) (by decide) h1 (by kernel_rfl) (.cons (z0o hn) .nil) z01 (fun _=>by kernel_rfl) (fun _=>by kernel_rfl)
   (by simp only [maxLen,zlc,List.length_nil];omega) (by simp only [zlc,List.length_nil];omega) fun u v' S4 K4 l4 h4=>⟨z01,_,z00,v',S4,rfl,l4,by rw [hw1];exact h4⟩
 ·simp only [evs,evb,zdf] at g
  have hg:¬(e.kind=0∨e.kind=1∨e.kind=4∨e.kind=6):=by
   by_cases k0:e.kind=0<;>by_cases k1:e.kind=1<;>by_cases k4:e.kind=4<;>by_cases k6:e.kind=6<;>simp_all
  rw [if_neg hg] at hw1
  exact ⟨_,z00,v1,S,rfl,PH.le_refl S,by rw [hw1];exact h1⟩
 rintro vs K2 _ ⟨v2,S2,rfl,l2,h2⟩
 refine ⟨fun vs K=>∃v S',vs=[v]∧PH.le S S'∧Held S' K [orow 3 e.ways v],?_,fun g=>?_,fun g=>?_⟩
 rotate_left
 ·simp only [evs,evb,zdt] at g
  rw [if_pos g] at hw2
  refine z0m (more:=[e.els]) (b:=8) [.int .i64 e.els] z0q z0i rfl (by decide) (by decide) h2 (by kernel_rfl) (.cons (z0o he) .nil) z01 (fun _=>by kernel_rfl) (fun _=>by kernel_rfl)
   (by simp only [maxLen,zlc,List.length_nil];omega) (by simp only [zlc,List.length_nil];omega) fun u v' S4 K4 l4 h4=>⟨z01,_,z00,v',S4,rfl,PH.le_trans l2 l4,by rw [hway,hw2];exact h4⟩
 ·simp only [evs,evb,zdf] at g
  rw [if_neg g] at hw2
  exact ⟨_,z00,v2,S2,rfl,l2,by rw [hway,hw2,List.append_nil];exact h2⟩
 rintro vs K3 _ ⟨v3,S3,rfl,l3,h3⟩
 obtain ⟨S4,s4,l4,h4⟩:=h3.freeze
 obtain ⟨b3,c3,rfl⟩:=s4.sl
 have hwl':e.ways.length≤2:=zk2 e
 refine z1p (α:=Int) (b:=8) z0q z0i h4 z01 fun v5 K5 h5 _ _=>?_
 refine ⟨fun j vs K=>∃(k:Nat) (v:Value) (S':PH),vs=[v,.int .i64 k]∧k+j=e.ways.length∧PH.le S4 S'∧Held S' K [orow 3 ((e.ways.take k).filter fun b=>decide (0≤b∧b < (p.blocks.length:Int))) v],
  ⟨e.ways.length,0,v5,S4,rfl,by omega,PH.le_refl _,by simpa using h5⟩,?_⟩
 rintro j vs K _ ⟨k,v,S6,rfl,hkj,l6,h6⟩
 refine ⟨fun g1=>?_,fun g1=>?_⟩
 ·simp only [evs,evb,zdt] at g1
  obtain ⟨a,hak⟩:∃a,e.ways[k]?=some a:=⟨_,zge (show k < e.ways.length by omega)⟩
  have hst:(e.ways.take (k+1)).filter (fun b=>decide (0≤b∧b < (p.blocks.length:Int)))=(e.ways.take k).filter (fun b=>decide (0≤b∧b < (p.blocks.length:Int)))++if 0≤a∧a < p.blocks.length then [a] else []:=by
   rw [List.take_add_one,hak,List.filter_append]
   congr 1
   by_cases hc:0≤a∧a < p.blocks.length<;>simp [List.filter_cons,hc]
  have hfl:=List.length_filter_le (fun b=>decide (0≤b∧b < (p.blocks.length:Int))) (e.ways.take k)
  rw [List.length_take] at hfl
  obtain ⟨q1,_,ces,q2,q3⟩:=s4.get hak
  obtain ⟨rfl,hai⟩:=csIK q2
  have rd:∀{K':PH},PH.le S6 K'→rowAt K' (pOf (eltV (.slice b3 e.ways.length c3) (k:Int) 1)) [.int .i64 a]:=fun h=>z06 (PH.le_trans l6 h) q3
  refine ⟨fun vs K'=>∃v S',vs=[v]∧PH.le S6 S'∧Held S' K' [orow 3 ((e.ways.take (k+1)).filter fun b=>decide (0≤b∧b < (p.blocks.length:Int))) v],?_,?_⟩
  ·rintro vs K7 _ ⟨v7,S7,rfl,l7,h7⟩
   refine ⟨_,z00,j - 1,by omega,k+1,v7,S7,?_,by omega,PH.le_trans l6 l7,h7⟩
   simp only [evs,evb]
   rw [w64 (by omega) (by omega)]
   rfl
  refine ⟨fun vs K'=>vs=[.bool (decide (0≤a∧a < p.blocks.length))]∧K'=K,?_,fun _=>?_,[.int .i64 a],rfl,?_,fun g2=>?_,fun g2=>?_⟩
  ·rintro vs K7 _ ⟨rfl,rfl⟩
   refine ⟨fun g2=>?_,fun g2=>?_⟩
   ·simp only [evs,evb,zdt] at g2
    refine ⟨fun _=>?_,[.int .i64 a],rfl,?_,?_⟩
    ·simp only [Chk.holds,evs,evb];exact ⟨q1,by omega,by omega⟩
    ·simp only [evs,evb];exact rd h6.sh
    refine z0m (more:=[a]) (b:=8) [.int .i64 a] z0q z0i rfl (by decide) (by decide) h6 (by kernel_rfl) (.cons (z0o hai) .nil) z01 (fun _=>by kernel_rfl) (fun _=>by kernel_rfl)
     (by simp only [maxLen,zlc,List.length_nil];omega) (by simp only [zlc,List.length_nil];omega) fun u v' S8 K8 l8 h8=>⟨z01,_,z00,v',S8,rfl,l8,by rw [hst,if_pos g2];exact h8⟩
   ·simp only [evs,evb,zdf] at g2
    exact ⟨_,z00,v,S6,rfl,PH.le_refl _,by rw [hst,if_neg g2,List.append_nil];exact h6⟩
  ·simp only [Chk.holds,evs,evb];exact ⟨q1,by omega,by omega⟩
  ·simp only [evs,evb];exact rd h6.sh
  ·simp only [evs,evb,zdt] at g2
   refine ⟨[.int .i64 a],rfl,?_,_,z00,?_,rfl⟩
   ·simp only [evs,evb];exact rd h6.sh
   ·simp only [evs,evb]
    by_cases hc:a < (p.blocks.length:Int)<;>simp [hc]<;>omega
  ·simp only [evs,evb,zdf] at g2
   refine ⟨_,z00,?_,rfl⟩
   simp only [evs,evb]
   rw [decide_eq_false (fun h=>g2 (by omega))]
 ·simp only [evs,evb,zdf] at g1
  rw [List.take_of_length_le (by omega)] at h6
  obtain ⟨S7,s7,l7,h7⟩:=h6.freeze
  exact ⟨PH.le_trans l3 (PH.le_trans l4 (PH.le_trans l6 (PH.le_trans l7 h7.sh))),v,rfl,s7.le h7.sh⟩
def EndX.regs (e:EndX):List Int:=(if e.reads e.reg then [e.reg] else [])++(if e.kind=3∨e.kind=4 then e.args else [])
def BlkX.regs (b:BlkX):List Int:=b.ins.flatMap (·.args)++b.e.regs
def PrcX.regl (p:PrcX):List Int:=p.blocks.flatMap BlkX.regs
def readL (p:PrcX):List Int:=p.regl.foldl putL []
theorem z2x (l:List Int):∀acc:List Int,(l.foldl putL acc).length≤acc.length+l.length:=by
 induction l with
 | nil=>intro acc;simp
 | cons a l ih=>
  intro acc
  have h1:=ih (putL acc a)
  have h2:=Z3u acc a
  simp only [List.foldl_cons,zlc];omega
theorem ztb (l:List Int) (x:Int):∀acc:List Int,x∈l.foldl putL acc↔x∈acc∨x∈l:=by
 induction l with
 | nil=>intro acc;simp
 | cons a l ih=>
  intro acc
  rw [List.foldl_cons,ih,Z3v,List.mem_cons]
  constructor
  ·rintro ((h | h) | h)
   ·exact .inr (.inl h)
   ·exact .inl h
   ·exact .inr (.inr h)
  ·rintro (h | h | h)
   ·exact .inl (.inr h)
   ·exact .inl (.inl h)
   ·exact .inr h
theorem zpu (l:List Int):∀acc:List Int,acc.Pairwise (· < ·)→(l.foldl putL acc).Pairwise (· < ·):=by
 induction l with
 | nil=>intro acc h;exact h
 | cons a l ih=>intro acc h;exact ih _ (zzu h)
theorem zxa (p:PrcX):(readL p).Pairwise (· < ·):=zpu _ _ .nil
theorem Z1e (p:PrcX) (x:Int):x∈readL p↔x∈p.regl:=by
 unfold readL;rw [ztb];simp
theorem z9t {α β:Type} (f:α→List β) {l:List α} {k:Nat} {a:α} (h:l[k]?=some a):(l.take (k+1)).flatMap f=(l.take k).flatMap f++f a:=by
 rw [List.take_add_one,h,List.flatMap_append];simp
theorem zag {α β:Type} (f:α→List β) (l:List α) (k:Nat):((l.take k).flatMap f).length≤(l.flatMap f).length:=by
 have:(l.flatMap f)=(l.take k).flatMap f++(l.drop k).flatMap f:=by rw [←List.flatMap_append,List.take_append_drop]
 rw [this,zla];omega
theorem zkj {K:PH} {X:List PanicEntry→PH→Prop} {β:Type} {E:List Value} {L:LK} {Kk:β→List Value→PH→LK→Prop} {k:Fm β} {a1 a2:SV} (l:List Int) (n:Int) (v:Value) (hl:SlR K l v) (hn:InI n) (hb:l.length≤40000000)
  (h1:ev E (fun _=>0) a1=v) (h2:ev E (fun _=>0) a2=.int .i64 n) (hk:∀v' K',PH.le K K'→SlR K' (putL l n) v'→den Tryz.prog X k (E++[v']) K' L Kk) :
  den Tryz.prog X (.call (.fn za5) [.sc a1,.sc a2] (.sc .sl) [] k) E K L Kk:=by
 refine z02 zin (R:=fun x S'=>PH.le K S'∧∃v',x=.returned v'∧SlR S' (putL l n) v') ?_ ?_
 ·have:=Z1a l n v K hl hn hb
  simpa [evV,h1,h2] using this
 ·rintro x K' ⟨hle,v',rfl,hs⟩
  obtain ⟨b,c,hv⟩:=hs.sl
  subst hv
  exact ⟨_,[_],rfl,rfl,rfl,z01,hk _ K' hle hs⟩
theorem zvj {p:PrcX} {i:Nat} {b:BlkX} (hb:p.blocks[i]?=some b):b.regs.length+((p.blocks.take i).flatMap BlkX.regs).length≤p.regl.length:=by
 have h1:=z9t BlkX.regs hb
 have h2:=zag BlkX.regs p.blocks (i+1)
 have h3:=congrArg List.length h1
 rw [zla] at h3
 show _≤(p.blocks.flatMap BlkX.regs).length
 omega
set_option maxHeartbeats 2000000 in
theorem zpz (p:PrcX) (bv:Value) (S:PH) (hbv:SlR S p.blocks bv) (hmax:p.regl.length≤20000000) :
  Tri Tryz.prog zjn #[.agg (prcVs p bv).toArray] S fun x S'=>PH.le S S'∧∃v,x=.returned v∧SlR S' (readL p) v:=by
 obtain ⟨b0,c0,rfl⟩:=hbv.sl
 have hm0:=hbv.max
 simp only [maxLen] at hm0
 refine zg5 (prcVs p (.slice b0 p.blocks.length c0)) (by kernel_rfl) (by kernel_rfl) ?_
 simp only [prcVs]
 refine z1p (α:=Int) (b:=8) z0q z0i (Held.nil (PH.le_refl S)) z01 fun v1 K1 h1 _ _=>?_
 obtain ⟨S1,s1,l1,h1'⟩:=h1.freeze
 refine ⟨fun j vs K=>∃(i:Nat) (v:Value),vs=[v,.int .i64 i]∧i+j=p.blocks.length∧PH.le S K∧SlR K (((p.blocks.take i).flatMap BlkX.regs).foldl putL []) v,
  ⟨p.blocks.length,0,v1,rfl,by omega,PH.le_trans l1 h1'.sh,by simpa using s1.le h1'.sh⟩,?_⟩
 rintro j vs K _ ⟨i,v,rfl,hij,lK,sv⟩
 refine ⟨fun g=>?_,fun g=>?_⟩
 rotate_left
 ·simp only [evs,evb,zdf] at g
  rw [List.take_of_length_le (by omega)] at sv
  exact ⟨lK,_,rfl,sv⟩
 simp only [evs,evb,zdt] at g
 obtain ⟨b,hb⟩:∃b,p.blocks[i]?=some b:=⟨_,zge (show i < p.blocks.length by omega)⟩
 have hreg:=zvj hb
 obtain ⟨acc,hacc⟩:∃acc,acc=((p.blocks.take i).flatMap BlkX.regs).foldl putL []:=⟨_,rfl⟩
 have haccl:acc.length≤((p.blocks.take i).flatMap BlkX.regs).length:=by
  have:=z2x ((p.blocks.take i).flatMap BlkX.regs) []
  rw [←hacc] at this;simpa using this
 rw [←hacc] at sv
 have hnext:((p.blocks.take (i+1)).flatMap BlkX.regs).foldl putL []=b.regs.foldl putL acc:=by
  rw [z9t BlkX.regs hb,List.foldl_append,hacc]
 obtain ⟨q1,_,ces,q2,q3⟩:=(hbv.le lK).get hb
 obtain ⟨iv,es,rfl,hi,he⟩:=blk_iff.1 q2
 obtain ⟨av,rfl,e1,e2,ha,e3,e4,e5⟩:=end_iff.1 he
 obtain ⟨b2,c2,rfl⟩:=hi.sl
 obtain ⟨b3,c3,rfl⟩:=ha.sl
 have hbr:b.regs=b.ins.flatMap (·.args)++((if b.e.reads b.e.reg then [b.e.reg] else [])++(if b.e.kind=3∨b.e.kind=4 then b.e.args else [])):=rfl
 have hbl:b.regs.length=(b.ins.flatMap (·.args)).length+((if b.e.reads b.e.reg then [b.e.reg] else []).length+(if b.e.kind=3∨b.e.kind=4 then b.e.args else []).length):=by
  rw [hbr,zla,zla]
 refine ⟨fun vs K'=>∃v,vs=[v]∧PH.le K K'∧SlR K' (b.regs.foldl putL acc) v,?_,fun _=>?_,[.slice b2 b.ins.length c2,.int .i64 b.e.kind,.int .i64 b.e.reg,.slice b3 b.e.args.length c3,.int .i64 b.e.to,.int .i64 b.e.next,.int .i64 b.e.els],rfl,?_,?_⟩
 ·rintro vs K' _ ⟨v',rfl,lK',sv'⟩
  refine ⟨_,z00,j - 1,by omega,i+1,v',?_,by omega,PH.le_trans lK lK',by rw [hnext];exact sv'⟩
  simp only [evs,evb]
  rw [w64 (by omega) (by omega)];rfl
 ·simp only [Chk.holds,evs,evb];exact ⟨q1,by omega,by omega⟩
 ·simp only [evs,evb];exact q3
 have hmi:=hi.max
 have hma:=ha.max
 simp only [maxLen] at hmi hma
 refine ⟨fun j vs K'=>∃(k:Nat) (v:Value),vs=[v,.int .i64 k]∧k+j=b.ins.length∧PH.le K K'∧SlR K' (((b.ins.take k).flatMap (·.args)).foldl putL acc) v,
  ⟨b.ins.length,0,v,rfl,by omega,PH.le_refl K,by simpa using sv⟩,?_⟩
 rintro j2 vs K2 _ ⟨k,v,rfl,hkj,lK2,sv2⟩
 refine ⟨fun g2=>?_,fun g2=>?_⟩
 ·simp only [evs,evb,zdt] at g2
  obtain ⟨x,hx⟩:∃x,b.ins[k]?=some x:=⟨_,zge (show k < b.ins.length by omega)⟩
  obtain ⟨acc2,hacc2⟩:∃a,a=((b.ins.take k).flatMap (·.args)).foldl putL acc:=⟨_,rfl⟩
  have h2l:acc2.length+x.args.length≤acc.length+(b.ins.flatMap (·.args)).length:=by
   have h1:=z2x ((b.ins.take k).flatMap (·.args)) acc
   rw [←hacc2] at h1
   have h2:=z9t (fun x:InsX=>x.args) hx
   have h3:=zag (fun x:InsX=>x.args) b.ins (k+1)
   have h4:=congrArg List.length h2
   rw [zla] at h4
   omega
  rw [←hacc2] at sv2
  have hnx:((b.ins.take (k+1)).flatMap (·.args)).foldl putL acc=x.args.foldl putL acc2:=by rw [z9t (fun x:InsX=>x.args) hx,List.foldl_append,hacc2]
  obtain ⟨z1,_,zes,z2,z3⟩:=(hi.le lK2).get hx
  obtain ⟨xv,dv,rfl,_,_,hxa,_⟩:=ins_iff.1 z2
  obtain ⟨b4,c4,rfl⟩:=hxa.sl
  have hmx:=hxa.max
  simp only [maxLen] at hmx
  have hld:∀{K':PH},PH.le K2 K'→rowAt K' ((pOf (eltV (.slice b2 b.ins.length c2) (k:Int) 8)).map (·.add 2)) [.slice b4 x.args.length c4]:=fun h=>z0a (z06 h z3) 2 1
  refine ⟨fun j vs K'=>∃(m:Nat) (v:Value),vs=[v,.int .i64 m]∧m+j=x.args.length∧PH.le K2 K'∧SlR K' ((x.args.take m).foldl putL acc2) v,
   ⟨x.args.length,0,v,rfl,by omega,PH.le_refl _,by simpa using sv2⟩,?_⟩
  rintro j3 vs K3 _ ⟨m,v3,rfl,hmj,lK3,sv3⟩
  refine ⟨fun _=>?_,[.slice b4 x.args.length c4],rfl,?_,fun g3=>?_,fun g3=>?_⟩
  ·simp only [Chk.holds,evs,evb];exact ⟨z1,by omega,by omega⟩
  ·simp only [evs,evb];exact hld lK3
  ·simp only [evs,evb,zdt] at g3
   obtain ⟨a,ham⟩:∃a,x.args[m]?=some a:=⟨_,zge (show m < x.args.length by omega)⟩
   obtain ⟨y1,_,yes,y2,y3⟩:=(hxa.le lK3).get ham
   obtain ⟨rfl,hai⟩:=csIK y2
   refine ⟨[.slice b4 x.args.length c4],rfl,?_,fun _=>?_,[.int .i64 a],rfl,?_,?_⟩
   ·simp only [evs,evb];exact hld lK3
   ·simp only [Chk.holds,evs,evb];exact ⟨y1,by omega,by omega⟩
   ·simp only [evs,evb];exact y3
   have hl3:=z2x (x.args.take m) acc2
   rw [List.length_take] at hl3
   refine zkj _ a v3 sv3 hai (by omega) (by simp only [evs,evb]) (by simp only [evs,evb]) fun v4 K4 lK4 sv4=>?_
   refine ⟨_,z00,j3 - 1,by omega,m+1,v4,?_,by omega,PH.le_trans lK3 lK4,?_⟩
   ·simp only [evs,evb];rw [w64 (by omega) (by omega)];rfl
   ·rw [List.take_add_one,ham,List.foldl_append];exact sv4
  ·simp only [evs,evb,zdf] at g3
   rw [List.take_of_length_le (by omega)] at sv3
   refine ⟨_,rfl,j2 - 1,by omega,k+1,v3,?_,by omega,PH.le_trans lK2 lK3,by rw [hnx];exact sv3⟩
   simp only [evs,evb];rw [w64 (by omega) (by omega)];rfl
 ·simp only [evs,evb,zdf] at g2
  rw [List.take_of_length_le (by omega)] at sv2
  obtain ⟨acc2,hacc2⟩:∃a,a=(b.ins.flatMap (·.args)).foldl putL acc:=⟨_,rfl⟩
  have h2l:=z2x (b.ins.flatMap (·.args)) acc
  rw [←hacc2] at sv2 h2l
  have hb2:b.regs.foldl putL acc=(if b.e.kind=3∨b.e.kind=4 then b.e.args else []).foldl putL ((if b.e.reads b.e.reg then [b.e.reg] else []).foldl putL acc2):=by
   rw [hbr,List.foldl_append,List.foldl_append,hacc2]
  refine ⟨fun vs K'=>∃v,vs=[v]∧PH.le K2 K'∧SlR K' ((if b.e.reads b.e.reg then [b.e.reg] else []).foldl putL acc2) v,?_,?_⟩
  ·rintro vs K3 _ ⟨v3,rfl,lK3,sv3⟩
   obtain ⟨acc3,hacc3⟩:∃a,a=(if b.e.reads b.e.reg then [b.e.reg] else []).foldl putL acc2:=⟨_,rfl⟩
   have h3l:=z2x (if b.e.reads b.e.reg then [b.e.reg] else []) acc2
   rw [←hacc3] at sv3 h3l hb2
   refine ⟨fun g4=>?_,fun g4=>?_⟩
   ·simp only [evs,evb,zdt] at g4
    have hk:b.e.kind=3∨b.e.kind=4:=by
     by_cases k3:b.e.kind=3<;>by_cases k4:b.e.kind=4<;>simp_all [bOf]
    rw [if_pos hk] at hb2 hbl
    have ha3:=(ha.le lK2).le lK3
    refine ⟨fun j vs K'=>∃(m:Nat) (v:Value),vs=[v,.int .i64 m]∧m+j=b.e.args.length∧PH.le K3 K'∧SlR K' ((b.e.args.take m).foldl putL acc3) v,
     ⟨b.e.args.length,0,v3,rfl,by omega,PH.le_refl _,by simpa using sv3⟩,?_⟩
    rintro j3 vs K4 _ ⟨m,v4,rfl,hmj,lK4,sv4⟩
    refine ⟨fun g5=>?_,fun g5=>?_⟩
    ·simp only [evs,evb,zdt] at g5
     obtain ⟨a,ham⟩:∃a,b.e.args[m]?=some a:=⟨_,zge (show m < b.e.args.length by omega)⟩
     obtain ⟨y1,_,yes,y2,y3⟩:=(ha3.le lK4).get ham
     obtain ⟨rfl,hai⟩:=csIK y2
     refine ⟨fun _=>?_,[.int .i64 a],rfl,?_,?_⟩
     ·simp only [Chk.holds,evs,evb];exact ⟨y1,by omega,by omega⟩
     ·simp only [evs,evb];exact y3
     have hl4:=z2x (b.e.args.take m) acc3
     rw [List.length_take] at hl4
     refine zkj _ a v4 sv4 hai (by omega) (by simp only [evs,evb]) (by simp only [evs,evb]) fun v5 K5 lK5 sv5=>?_
     refine ⟨_,z00,j3 - 1,by omega,m+1,v5,?_,by omega,PH.le_trans lK4 lK5,?_⟩
     ·simp only [evs,evb];rw [w64 (by omega) (by omega)];rfl
     ·rw [List.take_add_one,ham,List.foldl_append];exact sv5
    ·simp only [evs,evb,zdf] at g5
     rw [List.take_of_length_le (by omega)] at sv4
     exact ⟨_,rfl,v4,rfl,PH.le_trans lK2 (PH.le_trans lK3 lK4),by rw [hb2];exact sv4⟩
   ·simp only [evs,evb,zdf] at g4
    have hk:¬(b.e.kind=3∨b.e.kind=4):=by
     by_cases k3:b.e.kind=3<;>by_cases k4:b.e.kind=4<;>simp_all
    rw [if_neg hk] at hb2
    exact ⟨_,rfl,v3,rfl,PH.le_trans lK2 lK3,by rw [hb2];exact sv3⟩
  ·refine z05 [.bool (b.e.reads b.e.reg)] z7f (zkv b.e _ K2 b.e.reg (ha.le lK2)) rfl z01 fun K3 lK3=>⟨fun g4=>?_,fun g4=>?_⟩
   ·simp only [evs,evb] at g4
    rw [if_pos g4]
    refine zkj _ b.e.reg v (sv2.le lK3) e2 (by omega) (by simp only [evs,evb]) (by simp only [evs,evb]) fun v5 K5 lK5 sv5=>?_
    exact ⟨_,z00,v5,rfl,PH.le_trans lK3 lK5,sv5⟩
   ·simp only [evs,evb] at g4
    rw [if_neg (by rw [g4];exact Bool.false_ne_true)]
    exact ⟨_,z00,v,rfl,lK3,sv2.le lK3⟩
def tieB:List UInt8:=[116,105,101]
def InsX.fills (x:InsX) (r:Int):Prop:=x.op≠tieB∧x.to=r
def thru (r:Int):List InsX→Prop→Prop
 | [],q=>q
 | x::xs,q=>r∈x.args∨(¬x.fills r∧thru r xs q)
def z6o (e:EndX) (n:Nat) (r:Int) (L:Nat→Prop):Prop:=e.reads r=true∨(¬(e.calls=true∧e.to=r)∧∃b:Nat,(b:Int)∈e.leads n∧L b)
def z2g (p:PrcX) (r:Int) (L:Nat→Prop) (i at_:Nat):Prop:=∃b,p.blocks[i]?=some b∧thru r (b.ins.drop at_) (z6o b.e p.blocks.length r L)
def LiveB (p:PrcX) (r:Int) (i:Nat):Prop:=∀L:Nat→Prop,(∀j,z2g p r L j 0→L j)→L i
def z0p (p:PrcX) (r:Int) (i at_:Nat):Prop:=z2g p r (LiveB p r) i at_
theorem z54 {r:Int} {q q':Prop} (h:q→q'):∀{l:List InsX},thru r l q→thru r l q'
 | [],hq=>h hq
 | x::xs,hq=>hq.imp id fun h2=>⟨h2.1,z54 h h2.2⟩
theorem zvc {e:EndX} {n:Nat} {r:Int} {L L':Nat→Prop} (h:∀i,L i→L' i) (hl:z6o e n r L):z6o e n r L':=
 hl.imp id fun ⟨h1,b,h2,h3⟩=>⟨h1,b,h2,h b h3⟩
theorem z2s {p:PrcX} {r:Int} {L L':Nat→Prop} (h:∀i,L i→L' i) {i at_:Nat} (hl:z2g p r L i at_):z2g p r L' i at_:=by
 obtain ⟨b,h1,h2⟩:=hl
 exact ⟨b,h1,z54 (zvc h) h2⟩
theorem zkb {p:PrcX} {r:Int} {i:Nat} (h:z0p p r i 0):LiveB p r i:=fun L hL=>hL i (z2s (fun j hj=>hj L hL) h)
theorem zjy {p:PrcX} {r:Int} {i:Nat} (h:LiveB p r i):z0p p r i 0:=h (fun j=>z0p p r j 0) fun _ hj=>z2s (fun _ hk=>zkb hk) hj
theorem liveB_iff {p:PrcX} {r:Int} {i:Nat}:LiveB p r i↔z0p p r i 0:=⟨zjy,zkb⟩
theorem zsl {r:Int} {q:Prop}:∀{l:List InsX},thru r l q→r∈l.flatMap (·.args)∨q
 | [],h=>.inr h
 | x::xs,h=>by
  simp only [List.flatMap_cons,List.mem_append]
  rcases h with h | ⟨_,h⟩
  ·exact .inl (.inl h)
  ·rcases zsl h with h | h
   ·exact .inl (.inr h)
   ·exact .inr h
theorem zyw {e:EndX} {r:Int} (h:e.reads r=true):r∈e.regs:=by
 unfold EndX.reads at h
 unfold EndX.regs
 split at h
 ·rename_i hk
  simp only [zdt] at h
  have:e.reads e.reg=true:=by unfold EndX.reads;rw [if_pos hk];simp
  rw [if_pos this];simp [h]
 ·split at h
  ·rename_i hk hk2
   have:e.reads e.reg=true:=by unfold EndX.reads;rw [if_neg hk,if_pos hk2];simp
   rw [if_pos this,if_pos hk2]
   simp only [Bool.or_eq_true,zdt] at h
   rcases h with h | h
   ·simp [h]
   ·simp [h]
  ·cases h
theorem z4z {p:PrcX} {r:Int} {i at_:Nat} (h:z0p p r i at_):r∈p.regl:=by
 have key:∀{j a:Nat} {L:Nat→Prop},(∀k,L k→r∈p.regl)→z2g p r L j a→r∈p.regl:=by
  rintro j a L hL ⟨b,hb,ht⟩
  have hmem:∀x∈b.regs,x∈p.regl:=fun x hx=>List.mem_flatMap.2 ⟨b,List.mem_of_getElem? hb,hx⟩
  rcases zsl ht with h | h
  ·refine hmem r (List.mem_append_left _ ?_)
   obtain ⟨y,hy,hr⟩:=List.mem_flatMap.1 h
   exact List.mem_flatMap.2 ⟨y,List.mem_of_mem_drop hy,hr⟩
  ·rcases h with h | ⟨_,k,_,hk⟩
   ·exact hmem r (List.mem_append_right _ (zyw h))
   ·exact hL k hk
 exact key (fun k hk=>hk (fun _=>r∈p.regl) fun j hj=>key (fun _ h=>h) hj) h
open Classical in
noncomputable def liveD (p:PrcX) (r:Int) (i at_:Nat):Bool:=decide (z0p p r i at_)
theorem liveD_iff {p:PrcX} {r:Int} {i at_:Nat}:liveD p r i at_=true↔z0p p r i at_:=by
 unfold liveD;simp
noncomputable def liveL (p:PrcX) (i at_:Nat):List Int:=(readL p).filter fun r=>liveD p r i at_
theorem liveL_mem {p:PrcX} {i at_:Nat} {r:Int}:r∈liveL p i at_↔z0p p r i at_:=by
 unfold liveL
 rw [List.mem_filter,liveD_iff,Z1e]
 exact ⟨fun h=>h.2,fun h=>⟨z4z h,h⟩⟩
theorem zbt (p:PrcX) (i at_:Nat):(liveL p i at_).Pairwise (· < ·):=(zxa p).sublist List.filter_sublist
theorem zbn:∀{l m:List Int},l.Pairwise (· < ·)→m.Pairwise (· < ·)→(∀x,x∈l↔x∈m)→l=m
 | [],[],_,_,_=>rfl
 | [],b::m,_,_,h=>absurd ((h b).2 (zms)) (by simp)
 | a::l,[],_,_,h=>absurd ((h a).1 (zms)) (by simp)
 | a::l,b::m,hl,hm,h=>by
  obtain ⟨l1,l2⟩:=List.pairwise_cons.1 hl
  obtain ⟨m1,m2⟩:=List.pairwise_cons.1 hm
  have hab:a=b:=by
   have ha:=(h a).1 (zms)
   have hb:=(h b).2 (zms)
   rcases List.mem_cons.1 ha with e | ha
   ·exact e
   ·rcases List.mem_cons.1 hb with e | hb
    ·exact e.symm
    ·have:=m1 a ha;have:=l1 b hb;omega
  subst hab
  congr 1
  refine zbn l2 m2 fun x=>?_
  constructor
  ·intro hx
   rcases List.mem_cons.1 ((h x).1 (zmm _ hx)) with e | h1
   ·subst e;have:=l1 x hx;omega
   ·exact h1
  ·intro hx
   rcases List.mem_cons.1 ((h x).2 (zmm _ hx)) with e | h1
   ·subst e;have:=m1 x hx;omega
   ·exact h1
structure Seek (p:PrcX) (r:Int) (i0 a0:Nat) (begun:Nat→Bool) (todo:List Nat):Prop where
 fair:∀b∈todo,z0p p r b 0→z0p p r i0 a0
 full:∀b,begun b=true→b∉todo→¬z2g p r (fun j=>begun j=false) b 0
 start:¬z2g p r (fun j=>begun j=false) i0 a0
theorem Seek.none {p:PrcX} {r:Int} {i0 a0:Nat} {begun:Nat→Bool} (h:Seek p r i0 a0 begun []):¬z0p p r i0 a0:=by
 intro hl
 refine h.start (z2s (fun j hj=>hj (fun j=>begun j=false) fun k hk=>?_) hl)
 cases hb:begun k with
 | false=>rfl
 | true=>exact absurd hk (h.full k hb (by simp))
structure Mid (p:PrcX) (r:Int) (i0 a0:Nat) (begun:Nat→Bool) (rest:List Nat) (i a:Nat):Prop where
 cur:z0p p r i a→z0p p r i0 a0
 fair:∀b∈rest,z0p p r b 0→z0p p r i0 a0
 hold:∀b,begun b=true→b∉rest→(b=i∧a=0)∨¬z2g p r (fun j=>begun j=false) b 0
 start:(i=i0∧a=a0)∨¬z2g p r (fun j=>begun j=false) i0 a0
theorem Mid.first (p:PrcX) (r:Int) (i a:Nat):Mid p r i a (fun _=>false) [] i a:=
 ⟨id,fun b hb=>by simp at hb,fun b hb=>by simp at hb,.inl ⟨rfl,rfl⟩⟩
theorem Seek.mid {p:PrcX} {r:Int} {i0 a0 i:Nat} {begun:Nat→Bool} {rest:List Nat} (h:Seek p r i0 a0 begun (i::rest)):Mid p r i0 a0 begun rest i 0:=
 ⟨h.fair i (zms),fun b hb=>h.fair b (zmm _ hb),fun b hb hn=>by
  by_cases e:b=i
  ·exact .inl ⟨e,rfl⟩
  ·exact .inr (h.full b hb (by simp [e,hn])),.inr h.start⟩
theorem Mid.dead {p:PrcX} {r:Int} {i0 a0 i a:Nat} {begun:Nat→Bool} {rest:List Nat} (h:Mid p r i0 a0 begun rest i a) (hd:∀L,¬z2g p r L i a):Seek p r i0 a0 begun rest:=
 ⟨h.fair,fun b hb hn=>(h.hold b hb hn).elim (fun ⟨e1,e2⟩=>by rw [e1,←e2];exact hd _) id,h.start.elim (fun ⟨e1,e2⟩=>by rw [←e1,←e2];exact hd _) id⟩
theorem Mid.go {p:PrcX} {r:Int} {i0 a0 i a:Nat} {begun begun':Nat→Bool} {rest todo':List Nat} {b:BlkX} (h:Mid p r i0 a0 begun rest i a) (hb:p.blocks[i]?=some b) (ht:∀q,thru r (b.ins.drop a) q↔q) (hr:b.e.reads r=false)
  (hc:¬(b.e.calls=true∧b.e.to=r)) (h1:∀j,begun' j=true↔begun j=true∨(j:Int)∈b.e.leads p.blocks.length) (h2:∀j∈todo',j∈rest∨(j:Int)∈b.e.leads p.blocks.length) (h3:∀j∈rest,j∈todo') (h4:∀j,begun' j=true→begun j=true∨j∈todo') :
  Seek p r i0 a0 begun' todo':=by
 have hmono:∀{j k:Nat},¬z2g p r (fun j=>begun j=false) j k→¬z2g p r (fun j=>begun' j=false) j k:=fun hn hl=>hn (z2s (fun m hm=>by
  cases hbm:begun m with
  | false=>rfl
  | true=>rw [(h1 m).2 (.inl hbm)] at hm;cases hm) hl)
 have hhere:¬z2g p r (fun j=>begun' j=false) i a:=by
  rintro ⟨b',hb',hl⟩
  rw [hb] at hb';cases hb'
  rw [ht] at hl
  rcases hl with hl | ⟨_,k,hk,hf⟩
  ·rw [hr] at hl;cases hl
  ·rw [(h1 k).2 (.inr hk)] at hf;cases hf
 refine ⟨fun j hj hl=>?_,fun j hj hn=>?_,h.start.elim (fun ⟨e1,e2⟩=>by rw [←e1,←e2];exact hhere) hmono⟩
 ·rcases h2 j hj with hj | hj
  ·exact h.fair j hj hl
  ·refine h.cur ⟨b,hb,(ht _).2 (.inr ⟨hc,j,hj,zkb hl⟩)⟩
 ·rcases h4 j hj with hb0 | hb0
  ·rcases h.hold j hb0 (fun hr=>hn (h3 j hr)) with ⟨e1,e2⟩ | hx
   ·rw [e1,←e2];exact hhere
   ·exact hmono hx
  ·exact absurd hb0 hn
theorem zr5:Tryz.prog.underlying 103=some (.slice 4):=by kernel_rfl
theorem zp3:OneOk Tryz.prog 4 1 (.bool false):=OneOk.of (by kernel_rfl) rfl
theorem csBK {H:PH} {a:Bool} {cs:List Value} (h:CsR H a cs):cs=[.bool a]:=by
 have h':PV.RepRow H [.bool a] cs:=h
 simp only [PV.RepRow,PV.Rep] at h'
 obtain ⟨v,vs,rfl,rfl,rfl⟩:=h'
 rfl
theorem zji {S:PH} {a:Bool}:CsR S a [.bool a]:=by
 show PV.RepRow S [.bool a] [.bool a]
 simp only [PV.RepRow,PV.Rep]
 exact ⟨_,_,rfl,rfl,rfl⟩
theorem z9e (l:List UInt8):cmpS .neq ⟨l.toArray⟩ ⟨#[116,105,101]⟩=!decide (l=tieB):=by
 show (!((⟨l.toArray⟩:ByteArray).toList == (⟨tieB.toArray⟩:ByteArray).toList))=_
 rw [zl8]
abbrev nI (j:Nat):Value:=.int .i64 (j:Int)
def seekN (bg:List Bool) (todo:List Nat):Nat:=todo.length+bg.count false
theorem count_set {bg:List Bool} {c:Nat} (h:bg[c]?=some false):(bg.set c true).count false+1=bg.count false:=by
 obtain ⟨hc,he⟩:=List.getElem?_eq_some_iff.1 h
 rw [List.count_set hc]
 have hpos:0 < bg.count false:=List.count_pos_iff.2 (he ▸ List.getElem_mem hc)
 simp [he];omega
def SeekI (p:PrcX) (r:Int) (i a:Nat) (gb:Option Addr) (gc:Nat) (S:PH) (n:Nat) (vs:List Value) (K:PH):Prop:=
 ∃(fr g off cap:Nat) (cur:Array Value) (bg:List Bool) (todo:List Nat) (S':PH),vs=[.bool false,.slice (some ⟨g,off,none⟩) todo.length cap,nI fr]∧PH.le S S'∧Held S' K [.blk g (.cells cur 3 (0,0)),orow 4 bg (.slice gb p.blocks.length gc)] ∧
  QAt cur off cap (todo.map nI)∧bg.length=p.blocks.length∧n=seekN bg todo∧seekN bg todo≤p.blocks.length+1∧(∀b∈todo,b < p.blocks.length)∧fr≤40000000 ∧
  ((fr=a∧todo=[i]∧bg=List.replicate p.blocks.length false)∨(fr=0∧Seek p r i a (fun j=>bg.getD j false) todo))
set_option maxHeartbeats 4000000 in
theorem zzj (p:PrcX) (bv:Value) (S:PH) (hbv:SlR S p.blocks bv) (i a:Nat) (r:Int) (hi:i < p.blocks.length) (ha:a≤40000000) (hN:p.blocks.length≤20000000) (hL:∀b∈p.blocks,b.ins.length≤40000000) :
  Tri Tryz.prog ziy #[.agg (prcVs p bv).toArray,nI i,nI a,.int .i64 r] S fun x S'=>PH.le S S'∧x=.returned (.bool (liveD p r i a)):=by
 obtain ⟨b0,c0,rfl⟩:=hbv.sl
 refine zga (prcVs p (.slice b0 p.blocks.length c0)++[nI i,nI a,.int .i64 r]) (by kernel_rfl) (by kernel_rfl) ?_
 simp only [prcVs,List.cons_append,List.nil_append]
 refine zc6 (n:=p.blocks.length) false rfl (fun S=>zji) zr5 zp3 (by kernel_rfl) (by kernel_rfl) (by simp only [maxLen];omega) (by omega) (Held.nil (PH.le_refl S)) fun gv K1 h1 _=>?_
 obtain ⟨gb,gc,hgv⟩:=(h1.row (zms)).sl
 rw [List.length_replicate] at hgv
 subst hgv
 refine z1o (α:=Int) (l:=[(i:Int)]) (b:=8) [nI i] z0q z0i rfl (by decide) (by decide) h1 (by kernel_rfl) (.cons (z0o (by unfold InI;omega)) .nil) z01 fun qv K2 h2 _ _=>?_
 obtain ⟨g,cap,cur,xs,rfl,hq,hrow,hxl,h3⟩:=h2.asQ rfl (by simp)
 have hxs:xs=[nI i]:=by
  have:=hrow
  simp only [List.flatMap_cons,List.flatMap_nil,List.append_nil] at this
  exact (csIK this).1
 subst hxs
 refine ⟨SeekI p r i a gb gc S,
  ⟨_,a,g,0,cap,cur,List.replicate p.blocks.length false,[i],S,rfl,PH.le_refl S,by simpa using h3,hq,by simp,rfl,by simp [seekN];omega,by simpa using hi,ha,.inl ⟨rfl,rfl,rfl⟩⟩,?_⟩
 rintro n vs K _ ⟨fr,g,off,cap,cur,bg,todo,S1,rfl,l1,hh,hq,hbg,rfl,hsk,htd,hfr,hph⟩
 have htl:todo.length≤20000001:=by unfold seekN at hsk;omega
 refine ⟨fun g0=>?_,fun g0=>?_⟩
 rotate_left
 ·simp only [evs,evb,zdf] at g0
  have ht:todo=[]:=List.length_eq_zero_iff.1 (by omega)
  subst ht
  rcases hph with ⟨_,h,_⟩ | ⟨_,hs⟩
  ·cases h
  ·refine ⟨PH.le_trans l1 hh.sh,?_⟩
   have:liveD p r i a=false:=by
    cases hd:liveD p r i a with
    | false=>rfl
    | true=>exact absurd (liveD_iff.1 hd) hs.none
   rw [this];rfl
 simp only [evs,evb,zdt] at g0
 obtain ⟨h,rest,rfl⟩:∃h rest,todo=h::rest:=by
  cases todo with
  | nil=>simp at g0
  | cons h rest=>exact ⟨h,rest,rfl⟩
 have hh0:=htd h (zms)
 obtain ⟨b,hb⟩:∃b,p.blocks[h]?=some b:=⟨_,zge hh0⟩
 have hmid:Mid p r i a (fun j=>bg.getD j false) rest h fr:=by
  rcases hph with ⟨rfl,h2,rfl⟩ | ⟨rfl,hs⟩
  ·cases h2
   have:(fun j=>(List.replicate p.blocks.length false).getD j false)=fun _=>false:=by
    funext j
    rw [zgd,List.getElem?_replicate];split<;>rfl
   rw [this];exact Mid.first _ _ _ _
  ·exact hs.mid
 have hrestN:seekN bg rest < seekN bg (h::rest):=by simp [seekN]
 obtain ⟨off',cap',hsl,hqt⟩:=QAt.tail (g:=g) (x:=nI h) (xs:=rest.map nI) hq
 rw [List.length_map] at hsl
 obtain ⟨q1,_,ces,q2,q3⟩:=(hbv.le l1).get hb
 obtain ⟨iv,es,rfl,his,hes⟩:=blk_iff.1 q2
 obtain ⟨av,rfl,e1,e2,hea,e3,e4,e5⟩:=end_iff.1 hes
 obtain ⟨b2,c2,rfl⟩:=his.sl
 obtain ⟨b3,c3,rfl⟩:=hea.sl
 have hbl:=hL b (List.mem_of_getElem? hb)
 have hgK:K g=some (.cells cur 3 (0,0)):=hh.at_ _ (zms)
 have hon:∀(K':PH),Held S1 K' [.blk g (.cells cur 3 (0,0)),orow 4 bg (.slice gb p.blocks.length gc)]→Seek p r i a (fun j=>bg.getD j false) rest →
   SeekI p r i a gb gc S (seekN bg rest) [.bool false,slsV (.slice (some ⟨g,off,none⟩) (rest.length+1) cap) 1 (rest.length+1:Nat) 1,nI 0] K':=fun K' h' hs=>
  ⟨0,g,off',cap',cur,bg,rest,S1,by rw [hsl],l1,h',hqt,hbg,rfl,by omega,fun b hb=>htd b (zmm _ hb),by omega,.inr ⟨rfl,hs⟩⟩
 have hyes:∀(K':PH),PH.le K K'→z0p p r h fr→PH.le S K'∧(Ending.returned (.bool true))=.returned (.bool (liveD p r i a)):=fun K' hK hl=>⟨PH.le_trans l1 (PH.le_trans hh.sh hK),by rw [liveD_iff.2 (hmid.cur hl)]⟩
 refine ⟨fun _=>?_,[nI h],rfl,?_,fun _=>?_,[.slice b2 b.ins.length c2,.int .i64 b.e.kind,.int .i64 b.e.reg,.slice b3 b.e.args.length c3,.int .i64 b.e.to,.int .i64 b.e.next,.int .i64 b.e.els],rfl,?_,fun _=>?_,?_⟩
 ·simp only [Chk.holds,evs,evb];exact ⟨rfl,by omega,by simp⟩
 ·simp only [evs,evb];exact hq.row (n:=(h::rest).length) hgK (j:=0) (u:=nI h) rfl
 ·simp only [Chk.holds,evs,evb];exact ⟨q1,by omega,by omega⟩
 ·simp only [evs,evb];exact z06 hh.sh q3
 ·simp only [Chk.holds,evs,evb,slCap];have:=hq.le;simp at this;simp;omega
 refine ⟨fun m vs K'=>∃(k:Nat) (fl:Bool),vs=[.bool false,.bool fl,nI k]∧m=b.ins.length - k∧PH.le K K'∧k≤50000000∧∀q,thru r (b.ins.drop fr) q↔(fl=false∧thru r (b.ins.drop k) q),
  ⟨_,fr,false,rfl,rfl,PH.le_refl K,by omega,fun q=>by simp⟩,?_⟩
 rintro m vs K' _ ⟨k,fl,rfl,rfl,lK,hk5,hT⟩
 refine ⟨fun g1=>?_,fun g1=>?_⟩
 ·simp only [evs,evb] at g1
  simp only [zba,Bool.not_eq_true',zdt] at g1
  obtain ⟨g1,rfl⟩:=g1
  obtain ⟨x,hx⟩:∃x,b.ins[k]?=some x:=⟨_,zge (show k < b.ins.length by omega)⟩
  have hdr:b.ins.drop k=x::b.ins.drop (k+1):=by
   obtain ⟨hlt,he⟩:=List.getElem?_eq_some_iff.1 hx
   rw [List.drop_eq_getElem_cons hlt,he]
  obtain ⟨z1,_,zes,z2,z3⟩:=((his.le hh.sh).le lK).get hx
  obtain ⟨xv,dv,rfl,_,y2,hxa,_⟩:=ins_iff.1 z2
  obtain ⟨b4,c4,rfl⟩:=hxa.sl
  have hld:∀{K'':PH} (o n:Nat),PH.le K' K''→rowAt K'' ((pOf (eltV (.slice b2 b.ins.length c2) (k:Int) 8)).map (·.add o)) ((([txt x.op,.int .i64 x.to,.slice b4 x.args.length c4,.int .i64 x.const.kind,.int .i64 x.const.int,txt x.const.text,dv,.int .i64 x.num]:List Value).drop o).take n):=fun o n h=>z0a (z06 h z3) o n
  refine ⟨fun vs K''=>∃fl',vs=[.bool fl']∧PH.le K' K''∧∀q,thru r (b.ins.drop fr) q↔(fl'=false∧thru r (b.ins.drop (k+1)) q),?_,fun _=>?_,[.slice b4 x.args.length c4],rfl,?_,?_⟩
  ·rintro vs K2 _ ⟨fl',rfl,lK2,hT2⟩
   refine ⟨_,z00,b.ins.length - (k+1),by omega,k+1,fl',?_,rfl,PH.le_trans lK lK2,by omega,hT2⟩
   simp only [evs,evb]
   rw [w64 (by omega) (by omega)];rfl
  ·simp only [Chk.holds,evs,evb];exact ⟨z1,by omega,by omega⟩
  ·simp only [evs,evb];exact hld 2 1 (PH.le_refl _)
  refine z05 [.bool (decide (r∈x.args))] z2u (zbs x.args r _ K' hxa) rfl z01 fun K2 lK2=>⟨fun g2=>?_,fun g2=>?_⟩
  ·simp only [evs,evb,zdt] at g2
   exact hyes K2 (PH.le_trans lK lK2) ⟨b,hb,(hT _).2 ⟨rfl,by rw [hdr];exact .inl g2⟩⟩
  ·simp only [evs,evb,zdf] at g2
   have hst:∀q,thru r (b.ins.drop fr) q↔(¬x.fills r∧thru r (b.ins.drop (k+1)) q):=by
    intro q
    rw [hT,hdr]
    constructor
    ·rintro ⟨_,h | h⟩
     ·exact absurd h g2
     ·exact h
    ·intro h;exact ⟨rfl,.inr h⟩
   refine ⟨[txt x.op],rfl,?_,fun g3=>?_,fun g3=>?_⟩
   ·simp only [evs,evb];exact hld 0 1 lK2
   ·have hop:x.op≠tieB:=by
     intro e
     simp only [evs,evb,z9e,e] at g3
     simp at g3
    refine ⟨[.int .i64 x.to],rfl,?_,_,z00,decide (x.to=r),?_,lK2,fun q=>?_⟩
    ·simp only [evs,evb];exact hld 1 1 lK2
    ·simp only [evs,evb]
    ·rw [hst]
     constructor
     ·rintro ⟨h1,h2⟩;exact ⟨decide_eq_false fun e=>h1 ⟨hop,e⟩,h2⟩
     ·rintro ⟨h1,h2⟩;exact ⟨fun hf=>of_decide_eq_false h1 hf.2,h2⟩
   ·have hop:x.op=tieB:=by
     simp only [evs,evb,z9e] at g3
     simpa using g3
    refine ⟨_,z00,false,rfl,lK2,fun q=>?_⟩
    rw [hst]
    exact ⟨fun h=>⟨rfl,h.2⟩,fun h=>⟨fun hf=>hf.1 hop,h.2⟩⟩
 ·have hh':Held S1 K' [.blk g (.cells cur 3 (0,0)),orow 4 bg (.slice gb p.blocks.length gc)]:=hh.le lK
  refine ⟨fun g2=>?_,fun g2=>?_⟩
  ·simp only [evs,evb] at g2
   subst g2
   refine ⟨_,rfl,seekN bg rest,hrestN,?_⟩
   refine hon K' hh' (hmid.dead ?_)
   rintro L ⟨b',hb',hl⟩
   rw [hb] at hb';cases hb'
   have:=(hT _).1 hl
   exact absurd this.1 (by decide)
  ·simp only [evs,evb] at g2
   subst g2
   simp only [evs,evb] at g1
   simp only [Bool.and_eq_false_iff,Bool.not_eq_false',zdf] at g1
   have hkl:b.ins.length≤k:=by
    rcases g1 with g1 | g1
    ·omega
    ·cases g1
   have hT1:∀q,thru r (b.ins.drop fr) q↔q:=fun q=>by
    rw [hT,List.drop_of_length_le hkl]
    exact ⟨fun h=>h.2,fun h=>⟨rfl,h⟩⟩
   have hea':=(hea.le hh.sh).le lK
   refine z05 [.bool (b.e.reads r)] z7f (zkv b.e _ K' r hea') rfl z01 fun K2 lK2=>⟨fun g3=>?_,fun g3=>?_⟩
   ·simp only [evs,evb] at g3
    exact hyes K2 (PH.le_trans lK lK2) ⟨b,hb,(hT1 _).2 (.inl g3)⟩
   ·simp only [evs,evb] at g3
    have hh2:=hh'.le lK2
    refine ⟨fun g4=>?_,fun g4=>?_⟩
    ·refine ⟨_,rfl,seekN bg rest,hrestN,hon K2 hh2 (hmid.dead ?_)⟩
     rintro L ⟨b',hb',hl⟩
     rw [hb] at hb';cases hb'
     rw [hT1] at hl
     rcases hl with hl | ⟨hc,_⟩
     ·rw [g3] at hl;cases hl
     ·refine hc ?_
      simp only [evs,evb] at g4
      simp only [zba,Bool.or_eq_true,zdt] at g4
      exact ⟨decide_eq_true g4.1,g4.2⟩
    ·have hnc:¬(b.e.calls=true∧b.e.to=r):=by
      rintro ⟨hc,ht⟩
      simp only [evs,evb] at g4
      unfold EndX.calls at hc
      simp only [zdt] at hc
      rcases hc with hc | hc<;>rw [hc,ht] at g4<;>exact absurd g4 (by simp)
     have l2S:PH.le S S1:=l1
     refine z02 z73 (hh2.pure (R:=fun x S'=>∃v,x=.returned v∧SlR S' (b.e.leads p.blocks.length) v) (zo9 p b.e _ _ S1 (hbv.le l1) hea e4 e5)) ?_
     rintro x K3 ⟨S3,l3,h3,lv,rfl,hlv⟩
     obtain ⟨b5,c5,rfl⟩:=hlv.sl
     refine ⟨_,[.slice b5 (b.e.leads p.blocks.length).length c5],rfl,rfl,rfl,z01,?_⟩
     obtain ⟨ld,hld⟩:∃ld,ld=b.e.leads p.blocks.length:=⟨_,rfl⟩
     rw [←hld] at hlv ⊢
     have hldr:∀y∈ld,0≤y∧y < (p.blocks.length:Int):=fun y hy=>by
      rw [hld] at hy
      have:=(List.mem_filter.1 hy).2
      simpa using this
     have hldl:ld.length≤2:=by rw [hld];exact Nat.le_trans (List.length_filter_le _ _) (zk2 _)
     refine ⟨fun n vs K'=>∃(k g off cap:Nat) (cur:Array Value) (bg':List Bool) (todo':List Nat) (S':PH),vs=[.slice (some ⟨g,off,none⟩) todo'.length cap,nI k]∧k+n=ld.length∧PH.le S3 S'∧Held S' K' [.blk g (.cells cur 3 (0,0)),orow 4 bg' (.slice gb p.blocks.length gc)]∧QAt cur off cap (todo'.map nI)∧bg'.length=p.blocks.length∧seekN bg' todo'=seekN bg rest ∧
      (∀j:Nat,bg'.getD j false=true↔bg.getD j false=true∨(j:Int)∈ld.take k)∧(∀j∈todo',j∈rest∨(j:Int)∈ld.take k)∧(∀j∈rest,j∈todo')∧(∀j:Nat,bg'.getD j false=true→bg.getD j false=true∨j∈todo'),
      ⟨ld.length,0,g,off',cap',cur,bg,rest,S3,by simp only [evs,evb];rw [←hsl];rfl,by omega,PH.le_refl _,h3,hqt,hbg,rfl,fun j=>by simp,fun j hj=>.inl hj,fun j hj=>hj,fun j hj=>.inl hj⟩,?_⟩
     rintro n vs K4 _ ⟨k,g1,off1,cap1,cur1,bg1,td1,S4,rfl,hkn,l4,h4,hq4,hb4,hs4,i1,i2,i3,i4⟩
     refine ⟨fun g5=>?_,fun g5=>?_⟩
     ·simp only [evs,evb,zdt] at g5
      obtain ⟨x,hx⟩:∃x,ld[k]?=some x:=⟨_,zge (show k < ld.length by omega)⟩
      have hxr:=hldr x (List.mem_of_getElem? hx)
      obtain ⟨c,rfl⟩:∃c:Nat,x=(c:Int):=⟨x.toNat,by omega⟩
      have hst:ld.take (k+1)=ld.take k++[(c:Int)]:=by rw [List.take_add_one,hx];rfl
      have hcN:c < bg1.length:=by omega
      obtain ⟨v,hv⟩:∃v,bg1[c]?=some v:=⟨_,zge hcN⟩
      obtain ⟨w1,_,wes,w2,w3⟩:=(hlv.le (PH.le_trans l4 h4.sh)).get hx
      obtain ⟨rfl,_⟩:=csIK w2
      have hrow4:=h4.row (zmm _ (zms))
      obtain ⟨u1,_,ues,u2,u3⟩:=(hrow4.slR h4.sh).get hv
      have hue:=csBK u2
      subst hue
      have hgd:∀j,bg1.getD j false=true↔bg1[j]?=some true:=fun j=>by
       rw [zgd]
       cases bg1[j]? with
       | none=>simp
       | some y=>simp
      refine ⟨fun vs K'=>∃(g off cap:Nat) (cur:Array Value) (bg':List Bool) (todo':List Nat) (S':PH),vs=[.slice (some ⟨g,off,none⟩) todo'.length cap]∧PH.le S4 S'∧Held S' K' [.blk g (.cells cur 3 (0,0)),orow 4 bg' (.slice gb p.blocks.length gc)]∧QAt cur off cap (todo'.map nI)∧bg'.length=p.blocks.length∧seekN bg' todo'=seekN bg rest ∧
       (∀j:Nat,bg'.getD j false=true↔bg.getD j false=true∨(j:Int)∈ld.take (k+1))∧(∀j∈todo',j∈rest∨(j:Int)∈ld.take (k+1))∧(∀j∈rest,j∈todo')∧(∀j:Nat,bg'.getD j false=true→bg.getD j false=true∨j∈todo'),?_,fun _=>?_,[.int .i64 (c:Int)],rfl,?_,fun _=>?_,[.bool v],rfl,?_,fun g6=>?_,fun g6=>?_⟩
      ·rintro vs K5 _ ⟨g2,off2,cap2,cur2,bg2,td2,S5,rfl,l5,h5,hq5,hb5,hs5,n1,n2,n3,n4⟩
       refine ⟨_,z00,n - 1,by omega,k+1,g2,off2,cap2,cur2,bg2,td2,S5,?_,by omega,PH.le_trans l4 l5,h5,hq5,hb5,hs5,n1,n2,n3,n4⟩
       simp only [evs,evb]
       rw [w64 (by omega) (by omega)];rfl
      ·simp only [Chk.holds,evs,evb];exact ⟨w1,by omega,by omega⟩
      ·simp only [evs,evb];exact w3
      ·simp only [Chk.holds,evs,evb];exact ⟨u1,by omega,by omega⟩
      ·simp only [evs,evb];exact u3
      ·simp only [evs,evb,Bool.not_eq_true'] at g6
       subst g6
       refine ⟨[.int .i64 (c:Int)],rfl,?_,fun _=>?_,?_⟩
       ·simp only [evs,evb];exact w3
       ·simp only [Chk.holds,evs,evb];exact ⟨u1,by omega,by omega⟩
       have w5:∀{K5:PH},PH.le S4 K5→rowAt K5 (pOf (eltV (.slice b5 ld.length c5) (k:Int) 1)) [.int .i64 (c:Int)]:=fun h=>by
        obtain ⟨_,_,zs,y1,y2⟩:=(hlv.le (PH.le_trans l4 h)).get hx
        obtain ⟨rfl,_⟩:=csIK y1
        exact y2
       refine z1t (i:=c) (a:=false) (a':=true) (us:=[.bool true]) ?_ (h4.perm (List.Perm.swap _ _ _)) hv rfl ?_ (by simp [oneC]) zji fun K5 h5=>?_
       ·simp only [evs,evb];rfl
       ·simp only [evs,evb]
       refine ⟨[.int .i64 (c:Int)],rfl,?_,?_⟩
       ·simp only [evs,evb];exact w5 h5.sh
       have h5':=h5.perm (List.Perm.swap _ _ _)
       have htdl:td1.length≤20000001:=by unfold seekN at hs4 hsk;simp only [zlc] at hsk;omega
       refine Z04 (more:=(c:Int)) (b:=8) (u0:=nI c) rfl z0q z0i h5' hq4 (by kernel_rfl) (z0o (by unfold InI;omega)) rfl (fun u=>by rw [List.length_map];kernel_rfl) (fun u=>by kernel_rfl) (by simp only [List.length_map,maxLen];omega) (by simp only [List.length_map];omega) fun u u1' S6 K6 g6 off6 cap6 cur6 l6 h6 hc6 hq6=>?_
       have hu1:u1'=nI c:=by have:=(csIK hc6).1;simpa using this
       subst hu1
       have hcs:=count_set hv
       refine ⟨_,z00,g6,off6,cap6,cur6,bg1.set c true,td1++[c],S6,?_,l6,h6,by simpa using hq6,by simpa using hb4,?_,fun j=>?_,fun j hj=>?_,fun j hj=>List.mem_append_left _ (i3 j hj),fun j hj=>?_⟩
       ·simp only [zla,List.length_map,zlc,List.length_nil];rfl
       ·unfold seekN at hs4 ⊢
        simp only [zla,zlc,List.length_nil];omega
       ·have hsg:(bg1.set c true).getD j false=true↔j=c∨bg1.getD j false=true:=by
         rw [zgd,List.getElem?_set]
         by_cases e:c=j
         ·subst e;simp [hcN]
         ·rw [if_neg e,←zgd]
          exact ⟨.inr,fun h=>h.resolve_left fun e'=>e e'.symm⟩
        rw [hsg,i1,hst,List.mem_append]
        constructor
        ·rintro (h | h | h)
         ·exact .inr (.inr (by simp;omega))
         ·exact .inl h
         ·exact .inr (.inl h)
        ·rintro (h | h | h)
         ·exact .inr (.inl h)
         ·exact .inr (.inr h)
         ·exact .inl (by simp at h;omega)
       ·rcases List.mem_append.1 hj with hj | hj
        ·exact (i2 j hj).imp id fun h=>by rw [hst];exact List.mem_append_left _ h
        ·simp at hj;subst hj;exact .inr (by rw [hst];simp)
       ·have hsg:j=c∨bg1.getD j false=true:=by
         rw [zgd,List.getElem?_set] at hj
         by_cases e:c=j
         ·exact .inl e.symm
         ·rw [if_neg e,←zgd] at hj;exact .inr hj
        rcases hsg with h | h
        ·exact .inr (by rw [h];simp)
        ·exact (i4 j h).imp id fun h=>List.mem_append_left _ h
      ·simp only [evs,evb,Bool.not_eq_false'] at g6
       subst g6
       refine ⟨_,z00,g1,off1,cap1,cur1,bg1,td1,S4,rfl,PH.le_refl _,h4,hq4,hb4,hs4,fun j=>?_,fun j hj=>(i2 j hj).imp id fun h=>by rw [hst];exact List.mem_append_left _ h,i3,i4⟩
       rw [i1,hst,List.mem_append]
       constructor
       ·rintro (h | h)
        ·exact .inl h
        ·exact .inr (.inl h)
       ·rintro (h | h | h)
        ·exact .inl h
        ·exact .inr h
        ·have hjc:j=c:=by simp at h;omega
         subst hjc
         exact (i1 j).1 ((hgd j).2 hv)
     ·simp only [evs,evb,zdf] at g5
      have htk:ld.take k=ld:=List.take_of_length_le (by omega)
      rw [htk] at i1 i2
      rw [hld] at i1 i2
      refine ⟨_,rfl,seekN bg1 td1,by omega,0,g1,off1,cap1,cur1,bg1,td1,S4,rfl,PH.le_trans l1 (PH.le_trans l3 l4),h4,hq4,hb4,rfl,by omega,fun j hj=>?_,by omega,.inr ⟨rfl,hmid.go hb hT1 g3 hnc i1 i2 i3 i4⟩⟩
      rcases i2 j hj with h | h
      ·exact htd j (zmm _ h)
      ·have:=hldr (j:Int) (by rw [hld];exact h);omega
structure PrcX.Fit (p:PrcX):Prop where
 n:p.blocks.length≤20000000
 ins:∀b∈p.blocks,b.ins.length≤20000000
 regs:p.regl.length≤20000000
theorem zmj {p:PrcX} (h:p.Fit):(readL p).length≤20000000:=by
 have:=z2x p.regl []
 have:=h.regs
 unfold readL
 simp only [List.length_nil] at *
 omega
set_option maxHeartbeats 1000000 in
theorem zph (p:PrcX) (l:List Int) (bv lv:Value) (S:PH) (hbv:SlR S p.blocks bv) (hl:SlR S l lv) (i a:Nat) (hi:i < p.blocks.length) (ha:a≤40000000) (hp:p.Fit) (hll:l.length≤40000000) :
  Tri Tryz.prog zj2 #[.agg (prcVs p bv).toArray,lv,nI i,nI a] S fun x S'=>PH.le S S'∧∃v,x=.returned v∧SlR S' (l.filter fun r=>liveD p r i a) v:=by
 obtain ⟨b0,c0,rfl⟩:=hbv.sl
 obtain ⟨b1,c1,rfl⟩:=hl.sl
 refine zgn (prcVs p (.slice b0 p.blocks.length c0)++[.slice b1 l.length c1,nI i,nI a]) (by kernel_rfl) (by kernel_rfl) ?_
 simp only [prcVs,List.cons_append,List.nil_append]
 refine z1p (α:=Int) (b:=8) z0q z0i (Held.nil (PH.le_refl S)) z01 fun v1 K1 h1 _ _=>?_
 refine ⟨fun n vs K=>∃(k:Nat) (v:Value) (S':PH),vs=[v,nI k]∧k+n=l.length∧PH.le S S'∧Held S' K [orow 3 ((l.take k).filter fun r=>liveD p r i a) v],⟨l.length,0,v1,S,rfl,by omega,PH.le_refl S,by simpa using h1⟩,?_⟩
 rintro n vs K _ ⟨k,v,S1,rfl,hkn,l1,h2⟩
 refine ⟨fun g=>?_,fun g=>?_⟩
 ·simp only [evs,evb,zdt] at g
  obtain ⟨r,hr⟩:∃r,l[k]?=some r:=⟨_,zge (show k < l.length by omega)⟩
  have hst:(l.take (k+1)).filter (fun r=>liveD p r i a)=(l.take k).filter (fun r=>liveD p r i a)++if liveD p r i a then [r] else []:=by
   rw [List.take_add_one,hr,List.filter_append]
   congr 1
   cases hd:liveD p r i a<;>simp [List.filter_cons,hd]
  have hfl:=List.length_filter_le (fun r=>liveD p r i a) (l.take k)
  rw [List.length_take] at hfl
  obtain ⟨q1,_,ces,q2,q3⟩:=(hl.le l1).get hr
  obtain ⟨rfl,hri⟩:=csIK q2
  have rd:∀{K':PH},PH.le S1 K'→rowAt K' (pOf (eltV (.slice b1 l.length c1) (k:Int) 1)) [.int .i64 r]:=fun h=>z06 h q3
  refine ⟨fun vs K'=>∃v S',vs=[v]∧PH.le S1 S'∧Held S' K' [orow 3 ((l.take (k+1)).filter fun r=>liveD p r i a) v],?_,fun _=>?_,[.int .i64 r],rfl,?_,?_⟩
  ·rintro vs K3 _ ⟨v3,S3,rfl,l3,h3⟩
   refine ⟨_,z00,n - 1,by omega,k+1,v3,S3,?_,by omega,PH.le_trans l1 l3,h3⟩
   simp only [evs,evb]
   rw [w64 (by omega) (by omega)];rfl
  ·simp only [Chk.holds,evs,evb];exact ⟨q1,by omega,by omega⟩
  ·simp only [evs,evb];exact rd h2.sh
  refine z02 zhk (h2.pure (R:=fun x _=>x=.returned (.bool (liveD p r i a))) (zzj p _ S1 (hbv.le l1) i a r hi ha hp.n fun b hb=>Nat.le_trans (hp.ins b hb) (by omega))) ?_
  rintro x K3 ⟨S3,l3,h3,rfl⟩
  refine ⟨_,[.bool (liveD p r i a)],rfl,rfl,rfl,z01,fun g2=>?_,fun g2=>?_⟩
  ·simp only [evs,evb] at g2
   refine ⟨[.int .i64 r],rfl,?_,?_⟩
   ·simp only [evs,evb];exact rd (PH.le_trans l3 h3.sh)
   refine z0m (more:=[r]) (b:=8) [.int .i64 r] z0q z0i rfl (by decide) (by decide) h3 (by kernel_rfl) (.cons (z0o hri) .nil) z01 (fun _=>by kernel_rfl) (fun _=>by kernel_rfl)
    (by simp only [maxLen,zlc,List.length_nil];omega) (by simp only [zlc,List.length_nil];omega) fun u v' S4 K4 l4 h4=>⟨z01,_,z00,v',S4,rfl,PH.le_trans l3 l4,by rw [hst,if_pos g2];exact h4⟩
  ·simp only [evs,evb] at g2
   exact ⟨_,z00,v,S3,rfl,l3,by rw [hst,if_neg (by rw [g2];exact Bool.false_ne_true),List.append_nil];exact h3⟩
 ·simp only [evs,evb,zdf] at g
  rw [List.take_of_length_le (by omega)] at h2
  obtain ⟨S3,s3,l3,h3⟩:=h2.freeze
  exact ⟨PH.le_trans l1 (PH.le_trans l3 h3.sh),v,rfl,s3.le h3.sh⟩
noncomputable def inL (p:PrcX):List (List Int):=(List.range p.blocks.length).map fun i=>liveL p i 0
theorem Z55 (p:PrcX):(inL p).length=p.blocks.length:=by simp [inL]
noncomputable def behL (p:PrcX) (i:Nat) (b:BlkX):List (List Int):=(List.range b.ins.length).map fun k=>liveL p i (k+1)
noncomputable def z8x (p:PrcX) (block:Int):List (List Int):=match (if block < 0 then none else p.blocks[block.toNat]?) with
 | some b=>behL p block.toNat b
 | none=>[]
def BlkX.crosses (b:BlkX) (n:Nat):Prop:=b.e.calls=true∧0≤b.e.next∧b.e.next < (n:Int)
instance (b:BlkX) (n:Nat):Decidable (b.crosses n):=by unfold BlkX.crosses;exact inferInstance
noncomputable def z1w (p:PrcX) (block:Int):List Int:=match (if block < 0 then none else p.blocks[block.toNat]?) with
 | some b=>if b.crosses p.blocks.length then (liveL p b.e.next.toNat 0).filter (fun x=>decide (x≠b.e.to)) else []
 | none=>[]
theorem zv4 {p:PrcX} {block:Int} (h:block < 0∨(p.blocks.length:Int)≤block):z1w p block=[]:=by
 unfold z1w
 by_cases h0:block < 0
 ·rw [if_pos h0]
 ·rw [if_neg h0,List.getElem?_eq_none (by omega)]
theorem zq4 {p:PrcX} {i:Nat} {b:BlkX} (hb:p.blocks[i]?=some b):z1w p (i:Int)=if b.crosses p.blocks.length then (liveL p b.e.next.toNat 0).filter (fun x=>decide (x≠b.e.to)) else []:=by
 unfold z1w
 rw [if_neg (by omega),Int.toNat_natCast,hb]
theorem z4i {α:Type} [Enc α] (S:PH):SlR S ([]:List α) (.slice none 0 0):=SlR.mk_iff.2 ⟨Nat.zero_le _,.inl ⟨rfl,rfl⟩⟩
theorem zh0 {p:PrcX} (h:p.Fit) (i a:Nat):(liveL p i a).length≤20000000:=Nat.le_trans (List.length_filter_le _ _) (zmj h)
section
variable {P:Program} {D:Prot} {H0:PH} {w0:World} {X:List PanicEntry→PH→Prop}
theorem Z33 {m:Nat} {o:Oper} {a:Act} {w:World} {K K':Act→World→Prop} {Q Q':Exit→Act→World→Prop} (hK:∀a w,K a w→K' a w) (hP:∀ch a w,Q (.panic ch) a w→Q' (.panic ch) a w) (hO:¬LetsOut Q) (h:o.wp P a w K Q):o.wpIn Fence.wide m P a w K' Q':=by
 refine ⟨fun _ _=>trivial,?_⟩
 show o.uponIn _ _ _ _ _ _ ((o.semAt none a.eval).run P w)
 rw [Oper.semAt_none]
 unfold Oper.wp at h
 generalize (execOp a.eval o).run P w=res at h ⊢
 cases res with
 | ok x w'=>
  cases x
  case enter f args=>
   refine ⟨fun h=>absurd h (by simp [Fence.wide]),callsIn_wide.2 (Calls.mono h fun e w'' he=>?_)⟩
   cases e with
   | returned v=>exact hK _ _ he
   | panicked ch=>exact hP _ _ _ he
   | outgrown=>exact absurd he hO
  case row rw args=>
   refine ⟨fun h=>absurd h (by simp [Fence.wide]),?_⟩
   intro c cs _
   obtain ⟨v,w1,r,s⟩:=h c cs
   exact ⟨v,w1,hK _ _ r,stepsIn_wide.2 s⟩
  all_goals first | exact hK _ _ h | exact h.elim
 | halt x w'=>cases x<;>first | exact hP _ _ _ h | exact h
theorem zop {m:Nat} {ops:Array Oper} {Q Q':Exit→Act→World→Prop} {post:List Oper} (hO:¬LetsOut Q) (hN:∀a w,Q .normal a w→wpListIn Fence.wide m P ops Q' post a w) (hP:∀ch a w,Q (.panic ch) a w→Q' (.panic ch) a w) :
  ∀(os:List Oper) (a:Act) (w:World),wpList P ops Q os a w→wpListIn Fence.wide m P ops Q' (os++post) a w
 | [],a,w,h=>hN a w h
 | o::os,a,w,h=>by
  rw [List.cons_append]
  unfold wpList at h
  unfold wpListIn
  split at h
  ·rename_i hw
   rw [if_pos hw]
   rcases h with h | h
   ·exact Z33 (fun a w h=>zop hO hN hP os a w h) hP hO h
   ·exact absurd h.2 hO
  ·rename_i hw
   rw [if_neg hw]
   exact ⟨fun _ _=>trivial,zop hO hN hP os _ w h⟩
theorem zz0 {m:Nat} {id:Nat} {ops:Array Oper} {pre post:List Oper} {st:St} {E:List Value} {r:Nat→Nat} {H:PH} {a:Act} {w:World} {L:LK} {K:St→List Value→PH→LK→Prop} {Q:Exit→Act→World→Prop} (hs:ops.toList=pre++post) (hm:∀o∈pre,D.may o)
  (hR:Rel D H0 w0 st E r H a w) (hden:den P X (z4g P [] ops 400 pre st) E H L K) (hK:∀st' F r' H' a' w',Rel D H0 w0 st' (E++F) r' H' a' w'→K st' (E++F) H' L→wpListIn Fence.wide m P ops Q post a' w')
  (hX:∀ch a' w',PanOf H0 w0 X ch w'→D.ok a'→Q (.panic ch) a' w'):(Code.region id ops false).wpIn Fence.wide m P Q a w:=by
 refine wpIn_region_list ?_
 rw [hs]
 refine zop (Q:=QX D H0 w0 X fun a w=>wpListIn Fence.wide m P ops Q post a w) zoz (fun a w h=>h) (fun ch a w h=>hX ch a w h.1 h.2) pre a w ?_
 exact zkz 400 pre hm st E r H a w _ hR hden (fun st' F r' H' a' w' _ h2 h3=>hK st' F r' H' a' w' h2 h3) fun ch a' w' h1 h2=>⟨h1,h2⟩
theorem zoo {m:Nat} {c:Code} {st:St} {E:List Value} {r:Nat→Nat} {H:PH} {a:Act} {w:World} {L:LK} {K:Ex×St→List Value→PH→LK→Prop} {Q:Exit→Act→World→Prop} (hm:∀o∈z4h c,D.may o)
  (hR:Rel D H0 w0 st E r H a w) (hden:den P X (execC P {} c st) E H L K)
  (hK:∀e st' F r' H' L' a' w',Rel D H0 w0 st' (E++F) r' H' a' w'→K (e,st') (E++F) H' L'→Q (exOf e) a' w') (hX:∀ch a' w',PanOf H0 w0 X ch w'→D.ok a'→Q (.panic ch) a' w'):c.wpIn Fence.wide m P Q a w:=
 z6r (ro:=none) (op:={}) rfl (fun _ g ps asg b=>zub rfl g ps asg b) (zhb P _) c hm m st E r H a w L K Q hR hden (fun e st' F r' H' L' a' w' h1 _ _ h4=>hK e st' F r' H' L' a' w' h1 h4) hX
end
def bkFr (e3:VE):List Ent:=[⟨[],.sc (.atom 0)⟩,⟨[],.sc (.atom 1)⟩,⟨[],.junk⟩,⟨[],e3⟩]++List.replicate 15 ⟨[],.junk⟩
def bkS0:St:={ fr:=bkFr .junk,bx:=[],nb:=0,nl:=0,tags:=[.any,.ptr],asu:=[],kn:=[],its:=[] }
def bkS1:St:={ fr:=bkFr (.sc (.atom 2)),bx:=[],nb:=0,nl:=0,tags:=[.any,.ptr,.int .i64],asu:=[],kn:=[],its:=[] }
def lastE:Fm (Ex×St)→St
 | .leaf x=>x.2
 | .load _ _ k=>lastE k
 | .chk _ _ k=>lastE k
 | _=>bkS0
def lastS:Fm St→St
 | .leaf x=>x
 | .load _ _ k=>lastS k
 | .chk _ _ k=>lastS k
 | _=>bkS0
noncomputable def bkB:Code×Code×Code×Nat×Array Oper:=match Tryz.f91.body with
 | some (.seq r0 (.block _ (.loop (.seq (.seq r1 _) (.seq (.block _ (.seq (.region i ops _) _)) r2)))))=>(r0,r1,r2,i,ops)
 | _=>(.skip,.skip,.skip,0,#[])
theorem Z6m:Tryz.f91.body=some (.seq bkB.1 (.block 0 (.loop (.seq (.seq bkB.2.1 (.cond (.tmp 8) .skip (.exit 0))) (.seq (.block 1 (.seq (.region bkB.2.2.2.1 bkB.2.2.2.2 false) (.cond (.tmp 18) .ret .skip))) bkB.2.2.1))))):=by kernel_rfl
abbrev Z52:List Tag:=[.str,.int .i64,.sl,.int .i64,.int .i64,.str,.sl,.int .i64]
noncomputable def bkSA:St:=lastE (execC Tryz.prog {} bkB.1 bkS0)
noncomputable def bkSB:St:=lastE (execC Tryz.prog {} bkB.2.1 bkS1)
noncomputable def bkSC:St:=lastS (z4g Tryz.prog [] bkB.2.2.2.2 400 (bkB.2.2.2.2.toList.take 6) bkS1)
noncomputable def bkSD:St:=lastE (execC Tryz.prog {} bkB.2.2.1 bkS1)
theorem Z6d:execC Tryz.prog {} bkB.1 bkS0=.load (.atom 1) [.sl] (.leaf (.normal,bkSA)):=by kernel_rfl
theorem Z4p:execC Tryz.prog {} bkB.2.1 bkS1=.leaf (.normal,bkSB):=by kernel_rfl
theorem Z6n:z4g Tryz.prog [] bkB.2.2.2.2 400 (bkB.2.2.2.2.toList.take 6) bkS1=.load (.atom 1) [.sl] (.chk [] (.inSl (.atom 3) (.atom 2)) (.load (.elt (.atom 3) (.atom 2) 8) Z52 (.leaf bkSC))):=by kernel_rfl
theorem Z6f:execC Tryz.prog {} bkB.2.2.1 bkS1=.leaf (.normal,bkSD):=by kernel_rfl
theorem Z6c:bkSA.fr[0]?=some ⟨[],.sc (.atom 0)⟩∧bkSA.fr[1]?=some ⟨[],.sc (.atom 1)⟩∧bkSA.fr[3]?=some ⟨[],.sc (.ar .sub .i64 (.len (.atom 2)) (.int .i64 1))⟩∧bkSA.fr.length=19:=⟨by kernel_rfl,by kernel_rfl,by kernel_rfl,by kernel_rfl⟩
theorem Z6e:bkSB.fr[0]?=some ⟨[],.sc (.atom 0)⟩∧bkSB.fr[1]?=some ⟨[],.sc (.atom 1)⟩∧bkSB.fr[3]?=some ⟨[],.sc (.atom 2)⟩∧bkSB.fr[8]?=some ⟨[],.sc (.cmp .geq (.atom 2) (.int .i64 0))⟩∧bkSB.fr.length=19:=⟨by kernel_rfl,by kernel_rfl,by kernel_rfl,by kernel_rfl,by kernel_rfl⟩
theorem Z68:bkSC.fr[0]?=some ⟨[],.sc (.atom 0)⟩∧bkSC.fr[1]?=some ⟨[],.sc (.atom 1)⟩∧bkSC.fr[3]?=some ⟨[],.sc (.atom 2)⟩∧bkSC.fr[11]?=some ⟨[],.sc (.atom 0)⟩∧bkSC.fr[12]?=some ⟨[],.sc (.atom 2)⟩∧bkSC.fr[16]?=some ⟨[],.ag [.atom 4,.atom 5,.atom 6,.atom 7,.atom 8,.atom 9,.atom 10,.atom 11]⟩∧bkSC.fr.length=19:=⟨by kernel_rfl,by kernel_rfl,by kernel_rfl,by kernel_rfl,by kernel_rfl,by kernel_rfl,by kernel_rfl⟩
theorem Z6i:bkSD.fr[0]?=some ⟨[],.sc (.atom 0)⟩∧bkSD.fr[1]?=some ⟨[],.sc (.atom 1)⟩∧bkSD.fr[3]?=some ⟨[],.sc (.ar .sub .i64 (.atom 2) (.int .i64 1))⟩∧bkSD.fr.length=19:=⟨by kernel_rfl,by kernel_rfl,by kernel_rfl,by kernel_rfl⟩
noncomputable def bkO7 : Oper := (bkB.2.2.2.2.toList.drop 6).headD { dst := none, op := .nilCheck (.tmp 0), type := 0, pos := "", after := #[], guard := none }
noncomputable def bkO8 : Oper := (bkB.2.2.2.2.toList.drop 7).headD { dst := none, op := .nilCheck (.tmp 0), type := 0, pos := "", after := #[], guard := none }
noncomputable def bkTs:Array TypeId:=match bkO7.op with
 | .call c=>c.argTypes
 | _=>#[]
theorem Z1u:bkB.2.2.2.2.toList=bkB.2.2.2.2.toList.take 6++[bkO7,bkO8]:=by kernel_rfl
theorem bkO7_op:bkO7.op=.call { callee:=.value (.tmp 11),args:=#[.tmp 12,.tmp 16],argTypes:=bkTs }∧bkO7.dst=some 17∧bkO7.guard=none:=⟨by kernel_rfl,by kernel_rfl,by kernel_rfl⟩
theorem bkO8_op:bkO8.dst=some 18∧bkO8.guard=none:=⟨by kernel_rfl,by kernel_rfl⟩
theorem zvv {a:Act} {d t:Nat} {v:Value} (h:t≠d):(a.put (some d) v).tmps.getD t undef=a.tmps.getD t undef:=by
 simp only [Act.put,Array.getD_eq_getD_getElem?,Array.getElem?_setIfInBounds,if_neg (Ne.symm h)]
theorem zv7 {a:Act} {d:Nat} {v:Value} (h:d < a.tmps.size):(a.put (some d) v).tmps.getD d undef=v:=by
 simp [Act.put,Array.getD_eq_getD_getElem?,h]
theorem z97 {a:Act} {t:Nat}:a.eval (.tmp t)=a.tmps.getD t undef:=rfl
theorem zmo {e3:VE} {t:Nat} {e:Ent} (he:(bkFr e3)[t]?=some e) (hj:e.v=.junk→False):(t=0∧e=⟨[],.sc (.atom 0)⟩)∨(t=1∧e=⟨[],.sc (.atom 1)⟩)∨(t=3∧e=⟨[],e3⟩):=by
 unfold bkFr at he
 rcases t with _ | _ | _ | _ | t
 ·simp at he;exact .inl ⟨rfl,he.symm⟩
 ·simp at he;exact .inr (.inl ⟨rfl,he.symm⟩)
 ·simp at he;rw [←he] at hj;exact absurd rfl (fun h=>hj h)
 ·simp at he;exact .inr (.inr ⟨rfl,he.symm⟩)
 ·simp only [List.cons_append,List.nil_append,List.getElem?_cons_succ,List.getElem?_replicate] at he
  split at he
  ·cases he;exact absurd rfl (fun h=>hj h)
  ·cases he
theorem Z4n {H:PH} {w:World} {a:Act} {y pv:Value} (hv:Vis H w) (hs:a.tmps.size=19) (hd:a.defers=[]) (h0:a.tmps.getD 0 undef=y) (h1:a.tmps.getD 1 undef=pv) (hy:Tag.any.ok y=true) (hp:Tag.ptr.ok pv=true):Rel (.plain []) H w bkS0 [y,pv] (fun _=>0) H a w:=by
 refine { adv:=.refl hv,tags:=by simp [bkS0,z08,hy,hp],size:=hs,df:=hd,wk:=trivial,fr:=?_,bx:=fun _ h=>(by cases h),inj:=fun _ h=>(by cases h),nd:=List.nodup_nil,asu:=fun _ h=>(by cases h),kn:=fun _ h=>(by cases h) }
 intro t e he hj
 have hg:e.g=[]:=by rcases zmo he hj with ⟨_,rfl⟩ | ⟨_,rfl⟩ | ⟨_,rfl⟩<;>rfl
 rw [hg]
 refine ⟨fun _=>?_,fun h=>absurd (fun x hx=>by cases hx) h⟩
 rcases zmo he hj with ⟨rfl,rfl⟩ | ⟨rfl,rfl⟩ | ⟨rfl,rfl⟩
 ·rw [h0];rfl
 ·rw [h1];rfl
 ·exact absurd rfl (fun h=>hj h)
theorem zrs {H:PH} {w:World} {a:Act} {y pv:Value} {i:Int} (hv:Vis H w) (hs:a.tmps.size=19) (hd:a.defers=[]) (h0:a.tmps.getD 0 undef=y) (h1:a.tmps.getD 1 undef=pv) (h3:a.tmps.getD 3 undef=.int .i64 i) (hy:Tag.any.ok y=true) (hp:Tag.ptr.ok pv=true):Rel (.plain []) H w bkS1 [y,pv,.int .i64 i] (fun _=>0) H a w:=by
 refine { adv:=.refl hv,tags:=?_,size:=hs,df:=hd,wk:=trivial,fr:=?_,bx:=fun _ h=>(by cases h),inj:=fun _ h=>(by cases h),nd:=List.nodup_nil,asu:=fun _ h=>(by cases h),kn:=fun _ h=>(by cases h) }
 ·show (Tag.any.ok y && (Tag.ptr.ok pv && ((Tag.int .i64).ok (.int .i64 i) && true)))=true
  rw [hy,hp];rfl
 intro t e he hj
 have hg:e.g=[]:=by rcases zmo he hj with ⟨_,rfl⟩ | ⟨_,rfl⟩ | ⟨_,rfl⟩<;>rfl
 rw [hg]
 refine ⟨fun _=>?_,fun h=>absurd (fun x hx=>by cases hx) h⟩
 rcases zmo he hj with ⟨rfl,rfl⟩ | ⟨rfl,rfl⟩ | ⟨rfl,rfl⟩
 ·rw [h0];rfl
 ·rw [h1];rfl
 ·rw [h3];rfl
theorem z2y {D:Prot} {H0:PH} {w0:World} {st:St} {E:List Value} {r:Nat→Nat} {H:PH} {a:Act} {w:World} (hR:Rel D H0 w0 st E r H a w) {t:Nat} {ve:VE} (he:st.fr[t]?=some ⟨[],ve⟩) (hj:ve=.junk→False):a.tmps.getD t undef=evV E r ve:=
 (hR.fr t _ he hj).1 fun x hx=>by cases hx
noncomputable def bkT8:TypeId:=match bkO8.op with
 | .unOp _ t _=>t
 | _=>0
theorem Z4a:bkO8.op=.unOp .not bkT8 (.tmp 17):=by kernel_rfl
theorem Z3l {ρ:Operand→Value} {w:World} (h:ρ (.tmp 17)=.bool true):(execOp ρ bkO8).run Tryz.prog w=.ok (.value (.bool false)) w:=by
 rw [zlt,Z4a]
 simp [execOp,bare,h,Op.unary,Sem.run_bind,Result.andThen]
theorem Z40 {ρ:Operand→Value} {w:World} {l:Nat} {x y:Value} {fn:FuncId} {tmps:Array Value} {asg body:Code} (h11:ρ (.tmp 11)=.func (.yield l) #[] #[]) (h12:ρ (.tmp 12)=x) (h16:ρ (.tmp 16)=y) (hy:(Instr.yield l #[x,y]).run Tryz.prog w=.ok (.round l fn tmps asg body) w) :
  (execOp ρ bkO7).run Tryz.prog w=.ok (.round l fn tmps asg body) w:=by
 rw [zlt,bkO7_op.1]
 simp [execOp,bare,resolve,h11,h12,h16,invoke,go_sem,hy]
theorem SlR.fn {α:Type} [Enc α] {H:PH} {l:List α} {v:Value} (h:SlR H l v):∃f:Nat→List Value,∀i a,l[i]?=some a→CsR H a (f i)∧rowAt H (pOf (eltV v (i:Int) (sz α))) (f i):=by
 have:∀i:Nat,∃cs:List Value,∀a,l[i]?=some a→CsR H a cs∧rowAt H (pOf (eltV v (i:Int) (sz α))) cs:=by
  intro i
  cases hi:l[i]? with
  | none=>exact ⟨[],fun a h=>by cases h⟩
  | some a=>
   obtain ⟨_,_,cs,h1,h2⟩:=h.get hi
   exact ⟨cs,fun a' h'=>by cases h';exact ⟨h1,h2⟩⟩
 exact ⟨fun i=>(this i).choose,fun i=>(this i).choose_spec⟩
set_option maxHeartbeats 2000000 in
theorem zky (l:List InsX) (S:PH) (ad:Option Addr) (sv:Value) (hp:rowAt S ad [sv]) (hs:SlR S l sv) (hl:l.length≤40000000) (cells:Nat→List Value) (hc:∀i a,l[i]?=some a→CsR S a (cells i)∧rowAt S (pOf (eltV sv (i:Int) 8)) (cells i)) :
  Iter Tryz.prog (.func (.func 91) #[] #[.pointer ad]) S l.length (fun j=>[.int .i64 ((l.length - 1 - j:Nat):Int),.agg (cells (l.length - 1 - j)).toArray]):=by
 have hcb:callB Tryz.prog 91=true:=by kernel_rfl
 obtain ⟨sb,sc,rfl⟩:=hs.sl
 refine ⟨_,_,rfl,zlk hcb,fun lr I H W hSH hmono hv hround h0=>(callsIn_wide (n:=0)).1 ?_⟩
 refine callsIn_of_wp Tryz.func91 Z6m trivial ?_
 have hnt:Tryz.f91.ntmps=19:=by kernel_rfl
 rw [hnt]
 obtain ⟨y,hy⟩:∃y,y=Value.func (.yield lr) #[] #[]:=⟨_,rfl⟩
 rw [←hy]
 have hyt:Tag.any.ok y=true:=by rw [hy];rfl
 refine wpIn_seq ?_
 refine zoo (D:=.plain []) (X:=fun _ _=>False) (L:=[]) (K:=fun x E' H' _=>x=(.normal,bkSA)∧H'=H∧E'=[y,.pointer ad,.slice sb l.length sc]) (fun o _=>Prot.plain_may [] o) (Z4n (pv:=.pointer ad) hv (by simp) rfl (by simp) (by simp) hyt rfl) ?_ ?_ (fun ch a' w' h=>by obtain ⟨_,_,h⟩:=h;exact h.elim)
 ·rw [Z6d]
  exact ⟨[_],rfl,z06 hSH hp,rfl,rfl,rfl⟩
 rintro e st' F r' H' L' a1 W1 hR1 ⟨h1,rfl,hE⟩
 cases h1
 obtain ⟨f0,f1,f3,f4⟩:=Z6c
 have t0:=z2y hR1 f0 (fun h=>by cases h)
 have t1:=z2y hR1 f1 (fun h=>by cases h)
 have t3:=z2y hR1 f3 (fun h=>by cases h)
 have hsz:=hR1.size
 rw [hE] at t0 t1 t3
 rw [f4] at hsz
 have hadv1:Adv H' W H' W1:=hR1.adv
 have hdf1:a1.defers=[]:=hR1.df
 show (Code.block 0 _).wpIn _ _ _ _ _ _
 refine wpIn_block ?_
 refine wpIn_loop (fun a w=>∃(j:Nat) (Hj:PH),j≤l.length∧a.tmps.size=19∧a.defers=[]∧a.tmps.getD 0 undef=y∧a.tmps.getD 1 undef=.pointer ad∧a.tmps.getD 3 undef=.int .i64 ((l.length:Int) - 1 - j)∧Adv H' W Hj w∧I j Hj) (fun a _=>match a.tmps.getD 3 undef with | .int _ n=>(n+1).toNat | _=>0) ?_ ?_
 ·refine ⟨0,H',Nat.zero_le _,hsz,hdf1,t0,t1,?_,hadv1,h0⟩
  rw [t3]
  simp only [evs,evb]
  rw [w64 (by omega) (by omega)]
  simp
 rintro a w ⟨j,Hj,hj,q1,q2,q3,q4,q5,q6,q7⟩
 have hSj:=hmono j Hj q7
 have hRa:=zrs q6.vis q1 q2 q3 q4 q5 hyt rfl
 refine wpIn_seq (wpIn_seq ?_)
 refine zoo (D:=.plain []) (X:=fun _ _=>False) (L:=[]) (K:=fun x E' H' _=>x=(.normal,bkSB)∧H'=Hj∧E'=[y,.pointer ad,.int .i64 ((l.length:Int) - 1 - j)]) (fun o _=>Prot.plain_may [] o) hRa ?_ ?_ (fun ch a' w' h=>by obtain ⟨_,_,h⟩:=h;exact h.elim)
 ·rw [Z4p];exact ⟨rfl,rfl,rfl⟩
 rintro e st' F r2 H2 L2 a2 w2 hR2 ⟨h1,rfl,hE2⟩
 cases h1
 obtain ⟨f0,f1,f3,f8,f4⟩:=Z6e
 have u0:=z2y hR2 f0 (fun h=>by cases h)
 have u1:=z2y hR2 f1 (fun h=>by cases h)
 have u3:=z2y hR2 f3 (fun h=>by cases h)
 have u8:=z2y hR2 f8 (fun h=>by cases h)
 have hsz2:=hR2.size
 rw [hE2] at u0 u1 u3 u8
 rw [f4] at hsz2
 have hadv2:Adv H' W H2 w2:=q6.trans hR2.adv
 have hdf2:a2.defers=[]:=hR2.df
 have hc8:a2.eval (.tmp 8)=.bool (decide ((l.length:Int) - 1 - j ≥ 0)):=by
  rw [z97,u8]
  simp only [evs,evb]
 show (Code.cond _ _ _).wpIn _ _ _ _ _ _
 by_cases hjl:j < l.length
 ·have hc8':a2.eval (.tmp 8)=.bool true:=by rw [hc8,decide_eq_true (by omega)]
  refine wpIn_cond_true hc8' (wpIn_skip ?_)
  show (Code.seq _ _).wpIn _ _ _ _ _ _
  obtain ⟨idx,hidx⟩:∃idx:Nat,idx=l.length - 1 - j:=⟨_,rfl⟩
  have hi3:((l.length:Int) - 1 - j)=(idx:Int):=by omega
  have hil:idx < l.length:=by omega
  obtain ⟨x,hx⟩:∃x,l[idx]?=some x:=⟨_,zge hil⟩
  obtain ⟨hcr,hcrow⟩:=hc idx x hx
  obtain ⟨z1,_⟩:=hs.get hx
  obtain ⟨av,dv,hcell,y1,y2,ya,y4,y5,y6,yd,y8⟩:=ins_iff.1 hcr
  obtain ⟨ab,ac,rfl⟩:=ya.sl
  obtain ⟨db,dc,rfl⟩:=yd.sl
  have hR2':=zrs (i:=(idx:Int)) hadv2.vis hsz2 hdf2 u0 u1 (by rw [u3];simp only [evs,evb];rw [hi3]) hyt (rfl:Tag.ptr.ok (.pointer ad)=true)
  refine wpIn_seq (wpIn_block (wpIn_seq ?_))
  refine zz0 (D:=.plain []) (X:=fun _ _=>False) (L:=[]) (K:=fun st E' H' _=>st=bkSC∧H'=H2∧E'=[y,.pointer ad,.int .i64 (idx:Int),.slice sb l.length sc]++cells idx) Z1u (fun o _=>Prot.plain_may [] o) hR2' ?_ ?_ (fun ch a' w' h=>by obtain ⟨_,_,h⟩:=h;exact h.elim)
  ·rw [Z6n]
   refine ⟨[_],rfl,z06 hSj hp,fun _=>?_,cells idx,by rw [hcell];rfl,?_,rfl,rfl,rfl⟩
   ·simp only [Chk.holds,evs,evb];exact ⟨z1,by omega,by omega⟩
   ·simp only [evs,evb];exact z06 hSj hcrow
  rintro st' F3 r3 H3 a3 w3 hR3 ⟨rfl,rfl,hE3⟩
  obtain ⟨g0,g1,g3,g11,g12,g16,g4⟩:=Z68
  have s0:=z2y hR3 g0 (fun h=>by cases h)
  have s1:=z2y hR3 g1 (fun h=>by cases h)
  have s3:=z2y hR3 g3 (fun h=>by cases h)
  have s11:=z2y hR3 g11 (fun h=>by cases h)
  have s12:=z2y hR3 g12 (fun h=>by cases h)
  have s16:=z2y hR3 g16 (fun h=>by cases h)
  have hsz3:=hR3.size
  rw [hE3] at s0 s1 s3 s11 s12 s16
  rw [g4] at hsz3
  have hadv3:Adv H' W H3 w3:=hadv2.trans hR3.adv
  have hdf3:a3.defers=[]:=hR3.df
  have e16:a3.eval (.tmp 16)=.agg (cells idx).toArray:=by
   rw [z97,s16,hcell];rfl
  refine wpListIn_plain bkO7_op.2.2 fun K hK=>?_
  refine ⟨fun _ _=>trivial,?_⟩
  show Oper.uponIn _ _ _ _ _ _ _ ((bkO7.semAt none a3.eval).run _ w3)
  obtain ⟨fn,tmps,asg,body,hyl,hrd⟩:=hround j H3 w3 hjl q7 hadv3 0
  have hyl:(Instr.yield lr #[.int .i64 (idx:Int),.agg (cells idx).toArray]).run Tryz.prog w3=.ok (.round lr fn tmps asg body) w3:=by rw [hidx];exact hyl
  rw [Oper.semAt_none,Z40 (l:=lr) (x:=.int .i64 (idx:Int)) (y:=.agg (cells idx).toArray) (by rw [z97,s11,←hy];rfl) (by rw [z97,s12];rfl) e16 hyl]
  refine ⟨fun h=>absurd h (by simp [Fence.wide]),?_⟩
  refine RoundIn.mono (show RoundIn Fence.wide _ _ _ _ _ _ _ _ _ from hrd) ?_
  rintro e W4 ⟨rfl,H4,hadv4,hI4⟩
  refine hK _ _ ?_
  rw [bkO7_op.2.1]
  have hsz17:17 < a3.tmps.size:=by rw [hsz3];decide
  refine wpListIn_plain bkO8_op.2 fun K2 hK2=>?_
  refine ⟨fun _ _=>trivial,?_⟩
  show Oper.uponIn _ _ _ _ _ _ _ ((bkO8.semAt none _).run _ W4)
  rw [Oper.semAt_none,Z3l (by rw [z97];exact zv7 hsz17)]
  show K2 _ W4
  refine hK2 _ _ ?_
  rw [bkO8_op.1]
  obtain ⟨a5,ha5⟩:∃a5,a5=(a3.put (some 17) (.bool true)).put (some 18) (.bool false):=⟨_,rfl⟩
  have hsz4:(a3.put (some 17) (.bool true)).tmps.size=19:=by simp [Act.put,hsz3]
  have hsz5:a5.tmps.size=19:=by rw [ha5];simp [Act.put,hsz3]
  have hg5:∀t,t≠17→t≠18→a5.tmps.getD t undef=a3.tmps.getD t undef:=fun t h1 h2=>by rw [ha5,zvv h2,zvv h1]
  have h18:a5.eval (.tmp 18)=.bool false:=by rw [z97,ha5];exact zv7 (by rw [hsz4];decide)
  rw [←ha5]
  show (Code.cond _ _ _).wpIn _ _ _ _ _ _
  refine wpIn_cond_false h18 (wpIn_skip ?_)
  show Code.wpIn _ _ _ bkB.2.2.1 _ _ _
  have hdf5:a5.defers=[]:=by rw [ha5];exact hdf3
  have hR5:=zrs (i:=(idx:Int)) hadv4.vis hsz5 hdf5 ((hg5 0 (by decide) (by decide)).trans s0) ((hg5 1 (by decide) (by decide)).trans s1) ((hg5 3 (by decide) (by decide)).trans s3) hyt (rfl:Tag.ptr.ok (.pointer ad)=true)
  refine zoo (D:=.plain []) (X:=fun _ _=>False) (L:=[]) (K:=fun x E' H' _=>x=(.normal,bkSD)∧H'=H4∧E'=[y,.pointer ad,.int .i64 (idx:Int)]) (fun o _=>Prot.plain_may [] o) hR5 ?_ ?_ (fun ch a' w' h=>by obtain ⟨_,_,h⟩:=h;exact h.elim)
  ·rw [Z6f];exact ⟨rfl,rfl,rfl⟩
  rintro e st' F6 r6 H6 L6 a6 w6 hR6 ⟨h1,rfl,hE6⟩
  cases h1
  obtain ⟨m0,m1,m3,m4⟩:=Z6i
  have v0:=z2y hR6 m0 (fun h=>by cases h)
  have v1:=z2y hR6 m1 (fun h=>by cases h)
  have v3:=z2y hR6 m3 (fun h=>by cases h)
  have hsz6:=hR6.size
  rw [hE6] at v0 v1 v3
  rw [m4] at hsz6
  have hv3:a6.tmps.getD 3 undef=.int .i64 ((l.length:Int) - 1 - (j+1:Nat)):=by
   rw [v3]
   simp only [evs,evb]
   rw [w64 (by omega) (by omega)]
   congr 1;omega
  refine ⟨⟨j+1,H6,by omega,hsz6,hR6.df,v0,v1,hv3,(hadv3.trans hadv4).trans hR6.adv,hI4⟩,?_⟩
  rw [hv3,q5]
  simp only []
  omega
 ·have hc8':a2.eval (.tmp 8)=.bool false:=by rw [hc8,decide_eq_false (by omega)]
  refine wpIn_cond_false hc8' (wpIn_exit ?_)
  have hjn:j=l.length:=by omega
  simp only [Exit.then,Exit.inBlock,↓reduceIte]
  refine ⟨hdf2,.tuple #[],?_,⟨_,rfl⟩,H2,hadv2,hjn ▸ q7⟩
  have hres:Tryz.f91.results=#[]:=by kernel_rfl
  simp [results,hres]
abbrev encS (s:List Int):List (Int×Value):=s.map fun k=>(k,.int .i64 1)
abbrev SetAt (es:Array MapEntry) (clock:Nat) (s:List Int):Prop:=EntsR (α:=Int) es.toList clock (encS s)
theorem SetAt.nodup {es:Array MapEntry} {clock:Nat} {s:List Int} (h:SetAt es clock s):s.Nodup:=by
 have:=h.keys
 rw [List.map_map] at this
 have e:((fun x:Int×Value=>x.1) ∘ fun k:Int=>(k,(Value.int .i64 1)))=id:=rfl
 rw [e,List.map_id] at this
 exact this
theorem Z3e (s:List Int) (k:Int):(getM (encS s) k).isSome=decide (k∈s):=by
 unfold getM encS
 rw [Option.isSome_map]
 by_cases h:k∈s
 ·rw [decide_eq_true h]
  refine List.find?_isSome.2 ⟨(k,.int .i64 1),List.mem_map.2 ⟨k,h,rfl⟩,by simp⟩
 ·rw [decide_eq_false h,Option.isSome_eq_false_iff,Option.isNone_iff_eq_none,List.find?_eq_none]
  intro x hx
  obtain ⟨y,hy,rfl⟩:=List.mem_map.1 hx
  simp only [zdt]
  exact fun e=>h (e ▸ hy)
def addS (s:List Int) (k:Int):List Int:=if k∈s then s else s++[k]
theorem zkk (s:List Int) (k:Int):putM (encS s) k (.int .i64 1)=encS (addS s k):=by
 unfold putM addS
 rw [Z3e]
 by_cases h:k∈s
 ·rw [if_pos (by rw [decide_eq_true h]),if_pos h]
  unfold encS
  rw [List.map_map]
  refine List.map_congr_left fun x _=>?_
  by_cases e:x=k<;>simp [e]
 ·rw [if_neg (by rw [decide_eq_false h];exact Bool.false_ne_true),if_neg h]
  simp [encS]
theorem zk6 (s:List Int) (k y:Int):y∈addS s k↔y∈s∨y=k:=by
 unfold addS
 split
 ·rename_i h;exact ⟨.inl,fun hy=>hy.elim id fun e=>e ▸ h⟩
 ·simp
theorem Z44 (s:List Int) (k:Int):delM (encS s) k=encS (s.filter fun y=>decide (y≠k)):=by
 unfold delM encS
 rw [List.filter_map];rfl
theorem zh2:SetAt (#[]:Array MapEntry) 0 []:=EntsR.empty
theorem uSetK:Tryz.prog.underlying 134=some (.map 3 3):=by kernel_rfl
theorem kIntK:Tryz.prog.underlying 3=some (Key.kd Int):=by kernel_rfl
theorem SetAt.entry {es:Array MapEntry} {clock:Nat} {s:List Int} (h:SetAt es clock s) {e:MapEntry} (he:e∈es.toList):∃k∈s,e.key=.int .i64 k∧e.val=.int .i64 1:=by
 have h1:(e.key,e.val)∈es.toList.map (fun e=>(e.key,e.val)):=List.mem_map.2 ⟨e,he,rfl⟩
 rw [h.ents] at h1
 obtain ⟨x,hx,hxe⟩:=List.mem_map.1 h1
 obtain ⟨k,hk,rfl⟩:=List.mem_map.1 hx
 simp only [Prod.mk.injEq] at hxe
 exact ⟨k,hk,hxe.1.symm,hxe.2.symm⟩
theorem SetAt.has {es:Array MapEntry} {clock:Nat} {s:List Int} (h:SetAt es clock s) {k:Int} (hk:k∈s):∃e∈es.toList,e.key=.int .i64 k:=by
 have h1:((.int .i64 k:Value),(.int .i64 1:Value))∈(encS s).map fun x=>(Key.kv x.1,x.2):=List.mem_map.2 ⟨(k,.int .i64 1),List.mem_map.2 ⟨k,hk,rfl⟩,rfl⟩
 rw [←h.ents] at h1
 obtain ⟨e,he,hee⟩:=List.mem_map.1 h1
 simp only [Prod.mk.injEq] at hee
 exact ⟨e,he,hee.1⟩
theorem zp6 (r:Nat) (es:Array MapEntry) (clock:Nat) (s l:List Int) (lv:Value) (S K:PH) (hl:SlR S l lv) (h:Held S K [.blk r (.map es clock)]) (hs:SetAt es clock s) :
  Tri Tryz.prog z9u #[.map (some r),lv] K fun x K'=>∃es' clock' s',x=.returned (.tuple #[])∧Held S K' [.blk r (.map es' clock')]∧SetAt es' clock' s'∧∀y,y∈s'↔y∈s∨y∈l:=by
 obtain ⟨b,c,rfl⟩:=hl.sl
 have hm:=hl.max
 simp only [maxLen] at hm
 refine zi1 [.map (some r),.slice b l.length c] (by kernel_rfl) (by kernel_rfl) ?_
 refine ⟨fun n vs K'=>∃(k:Nat) (es':Array MapEntry) (clock':Nat) (s':List Int),vs=[nI k]∧k+n=l.length∧Held S K' [.blk r (.map es' clock')]∧SetAt es' clock' s'∧∀y,y∈s'↔y∈s∨y∈l.take k,⟨l.length,0,es,clock,s,rfl,by omega,h,hs,fun y=>by simp⟩,?_⟩
 rintro n vs K1 _ ⟨k,es1,clock1,s1,rfl,hkn,h1,hs1,hm1⟩
 refine ⟨fun g=>?_,fun g=>?_⟩
 ·simp only [evs,evb,zdt] at g
  obtain ⟨a,ha⟩:∃a,l[k]?=some a:=⟨_,zge (show k < l.length by omega)⟩
  obtain ⟨q1,_,ces,q2,q3⟩:=(hl.le h1.sh).get ha
  obtain ⟨rfl,hai⟩:=csIK q2
  refine ⟨fun _=>?_,[.int .i64 a],rfl,?_,?_⟩
  ·simp only [Chk.holds,evs,evb];exact ⟨q1,by omega,by omega⟩
  ·simp only [evs,evb];exact q3
  refine z5k (α:=Int) (m:=encS s1) (r:=r) (es:=es1) (clock:=clock1) a (.int .i64 1) uSetK kIntK (by kernel_rfl) (by kernel_rfl) (by kernel_rfl) (h1.blk (zms)) hs1 fun es2 clock2 he2=>?_
  rw [zkk] at he2
  refine ⟨_,z00,n - 1,by omega,k+1,es2,clock2,addS s1 a,?_,by omega,h1.put _,he2,fun y=>?_⟩
  ·simp only [evs,evb];rw [w64 (by omega) (by omega)];rfl
  ·rw [zk6,hm1,List.take_add_one,ha]
   simp only [Option.toList_some,List.mem_append,List.mem_singleton,or_assoc]
 ·simp only [evs,evb,zdf] at g
  rw [List.take_of_length_le (by omega)] at hm1
  exact ⟨es1,clock1,s1,rfl,h1,hs1,hm1⟩
theorem zhn (r:Nat) (es:Array MapEntry) (clock:Nat) (s:List Int) (a:Int) (S K:PH) (h:Held S K [.blk r (.map es clock)]) (hs:SetAt es clock s) :
  Tri Tryz.prog z9f #[.map (some r),.int .i64 a] K fun x K'=>∃es' clock',x=.returned (.tuple #[])∧Held S K' [.blk r (.map es' clock')]∧SetAt es' clock' (s.filter fun y=>decide (y≠a)):=by
 refine zgr [.map (some r),.int .i64 a] (by kernel_rfl) (by kernel_rfl) ?_
 refine zz9 (α:=Int) (m:=encS s) (r:=r) (es:=es) (clock:=clock) a rfl uSetK kIntK (by kernel_rfl) (by kernel_rfl) (h.blk (zms)) hs fun es2 clock2 he2=>?_
 rw [Z44] at he2
 exact ⟨es2,clock2,rfl,h.put _,he2⟩
def SetR (H:PH) (v:Value) (s:List Int):Prop:=∃r es clock,v=.map (some r)∧H r=some (.map es clock)∧SetAt es clock s
theorem SetR.le {H H':PH} {v:Value} {s:List Int} (h:SetR H v s) (hl:PH.le H H'):SetR H' v s:=by
 obtain ⟨r,es,clock,h1,h2,h3⟩:=h
 exact ⟨r,es,clock,h1,hl _ _ h2,h3⟩
set_option maxHeartbeats 1000000 in
theorem zww (r:Nat) (es:Array MapEntry) (clock:Nat) (s t:List Int) (tv:Value) (S K:PH) (ht:SetR S tv t) (h:Held S K [.blk r (.map es clock)]) (hs:SetAt es clock s) :
  Tri Tryz.prog z94 #[.map (some r),tv] K fun x K'=>∃es' clock' s',x=.returned (.tuple #[])∧Held S K' [.blk r (.map es' clock')]∧SetAt es' clock' s'∧∀y,y∈s'↔y∈s∨y∈t:=by
 obtain ⟨rt,est,clt,rfl,hrt,hst⟩:=ht
 refine zgi [.map (some r),.map (some rt)] (by kernel_rfl) (by kernel_rfl) ?_
 refine zma (r:=rt) (es:=est) (clock:=clt) uSetK (by kernel_rfl) (h.sh _ _ hrt) (fun _ _=>z01) fun i hi=>?_
 have h0:=h.new hi (.mapIter (some rt) clt #[] clt)
 have hl0:leftM est #[]=est.toList:=by unfold leftM;simp
 refine ⟨fun n vs K'=>∃(seen:Array Nat) (es':Array MapEntry) (clock':Nat) (s':List Int),vs=[]∧n=(leftM est seen).length∧Held S K' [.blk i (.mapIter (some rt) clt seen clt),.blk r (.map es' clock')]∧SetAt es' clock' s'∧∀y,y∈s'↔y∈s∨(y∈t∧∀e∈leftM est seen,e.key≠.int .i64 y),
  ⟨_,#[],es,clock,s,rfl,rfl,h0,hs,fun y=>?_⟩,?_⟩
 ·constructor
  ·exact .inl
  ·rintro (h | ⟨h1,h2⟩)
   ·exact h
   ·obtain ⟨e,he,hk⟩:=hst.has h1
    exact absurd hk (h2 e (by rw [hl0];exact he))
 rintro n vs K1 _ ⟨seen,es1,clock1,s1,rfl,rfl,h1,hs1,hm1⟩
 refine ⟨fun vs K'=>∃b:Bool,vs=[.bool b]∧((b=false∧leftM est seen=[]∧Held S K' [.blk i (.mapIter (some rt) clt seen clt),.blk r (.map es1 clock1)])∨(b=true∧∃e∈leftM est seen,Held S K' [.blk i (.mapIter (some rt) clt (seen.push e.born) clt),.blk r (.map es1 clock1)])),?_,?_⟩
 ·rintro vs K2 _ ⟨b,rfl,hcase⟩
  refine ⟨fun g=>?_,fun g=>?_⟩
  ·simp only [evs,evb] at g
   subst g
   rcases hcase with ⟨h,_⟩ | ⟨_,e,he,h2⟩
   ·cases h
   have hee:e∈est.toList:=(List.mem_filter.1 he).1
   obtain ⟨k,hk,hek,hev⟩:=hst.entry hee
   refine zlm (i:=i) (r:=rt) (es:=est) (clock:=clt) (seen:=seen) (m:=encS t) (e:=e) (by kernel_rfl) (h2.blk (zms)) (h2.sh _ _ hrt) hst hee (by rw [hek,hev];exact ⟨rfl,rfl⟩) ?_
   rw [hek,hev]
   refine z5k (α:=Int) (m:=encS s1) (r:=r) (es:=es1) (clock:=clock1) k (.int .i64 1) uSetK kIntK (by kernel_rfl) (by kernel_rfl) (by kernel_rfl) (h2.blk (zmm _ (zms))) hs1 fun es2 clock2 he2=>?_
   rw [zkk] at he2
   obtain ⟨p1,p2⟩:=zgy hst he
   refine ⟨_,z00,_,p1,seen.push e.born,es2,clock2,addS s1 k,rfl,rfl,((h2.perm (List.Perm.swap _ _ _)).put _).perm (List.Perm.swap _ _ _),he2,fun y=>?_⟩
   rw [zk6,hm1]
   constructor
   ·rintro ((h | ⟨h3,h4⟩) | h)
    ·exact .inl h
    ·exact .inr ⟨h3,fun e' he'=>h4 e' ((p2 e').2 (.inr he'))⟩
    ·subst h
     refine .inr ⟨hk,fun e' he' hke=>?_⟩
     have he'l:e'∈leftM est seen:=(p2 e').2 (.inr he')
     have he'e:e'∈est.toList:=(List.mem_filter.1 he'l).1
     obtain ⟨a,ha⟩:=List.getElem?_of_mem he'e
     obtain ⟨b,hb⟩:=List.getElem?_of_mem hee
     have hkeys:(est.toList.map (·.key))=t.map fun k=>Value.int .i64 k:=by
      have:=congrArg (List.map Prod.fst) hst.ents
      simp only [List.map_map,Function.comp_def,encS] at this
      exact this
     have hta:t[a]?=some y:=by
      have:=congrArg (fun l=>l[a]?) hkeys
      simp only [List.getElem?_map,ha,Option.map_some,hke] at this
      cases hx:t[a]? with
      | none=>rw [hx] at this;cases this
      | some z=>rw [hx] at this;simp at this;rw [this]
     have htb:t[b]?=some y:=by
      have:=congrArg (fun l=>l[b]?) hkeys
      simp only [List.getElem?_map,hb,Option.map_some,hek] at this
      cases hx:t[b]? with
      | none=>rw [hx] at this;cases this
      | some z=>rw [hx] at this;simp at this;rw [this]
     have hab:=(List.getElem?_inj (List.getElem?_eq_some_iff.1 hta).1 hst.nodup).1 (hta.trans htb.symm)
     subst hab
     rw [ha] at hb;cases hb
     have hno:=(List.mem_filter.1 he').2
     simp at hno
   ·rintro (h | ⟨h3,h4⟩)
    ·exact .inl (.inl h)
    ·by_cases hyk:y=k
     ·exact .inr hyk
     ·refine .inl (.inr ⟨h3,fun e' he' hke=>?_⟩)
      rcases (p2 e').1 he' with rfl | h5
      ·rw [hek] at hke;cases hke;exact hyk rfl
      ·exact h4 e' h5 hke
  ·simp only [evs,evb] at g
   subst g
   rcases hcase with ⟨_,hnil,h2⟩ | ⟨h,_⟩
   ·refine ⟨es1,clock1,s1,rfl,h2.tail,hs1,fun y=>?_⟩
    rw [hm1,hnil]
    simp
   ·cases h
 ·refine zon (i:=i) (r:=rt) (es:=est) (clock:=clt) (seen:=seen) (m:=encS t) (by kernel_rfl) (h1.blk (zms)) (h1.sh _ _ hrt) hst (fun e he=>?_) (fun hnil=>?_) fun e he=>?_
  ·obtain ⟨k,hk,hek,hev⟩:=hst.entry he
   rw [hek,hev];exact ⟨rfl,rfl⟩
  ·exact ⟨_,z00,false,rfl,.inl ⟨rfl,hnil,h1⟩⟩
  ·exact ⟨_,z00,true,rfl,.inr ⟨rfl,e,he,h1.put _⟩⟩
theorem zvr {S:PH}:∀{l:List Int} {xs:List Value},PV.RepRow S (l.flatMap pv) xs→xs=l.map (Value.int .i64)∧∀x∈l,InI x
 | [],xs,h=>by simp only [List.flatMap_nil,PV.RepRow] at h;subst h;exact ⟨rfl,fun x hx=>by cases hx⟩
 | a::l,xs,h=>by
  have h':PV.RepRow S (.int .i64 a::l.flatMap pv) xs:=h
  rw [PV.RepRow] at h'
  obtain ⟨v,vs,rfl,h1,h2⟩:=h'
  obtain ⟨rfl,hi⟩:=repI_iff.1 h1
  obtain ⟨rfl,h3⟩:=zvr h2
  exact ⟨rfl,fun x hx=>(List.mem_cons.1 hx).elim (fun e=>e ▸ hi) (h3 x)⟩
theorem zhz {S:PH}:∀{l:List Int},(∀x∈l,InI x)→PV.RepRow S (l.flatMap pv) (l.map (Value.int .i64))
 | [],_=>by simp [PV.RepRow]
 | a::l,h=>by
  show PV.RepRow S (.int .i64 a::l.flatMap pv) _
  rw [PV.RepRow]
  exact ⟨_,_,rfl,repI_iff.2 ⟨rfl,h a (zms)⟩,zhz fun x hx=>h x (zmm _ hx)⟩
abbrev sortI (l:List Int):List Int:=l.mergeSort fun x y=>decide (x≤y)
theorem z90 (l:List Int) (x:Int):x∈sortI l↔x∈l:=List.mem_mergeSort
theorem z7r {l:List Int} (h:l.Nodup):(sortI l).Pairwise (· < ·):=by
 have h1:(sortI l).Pairwise fun x y=>decide (x≤y)=true:=List.pairwise_mergeSort (fun a b c h1 h2=>by simp at *;omega) (fun a b=>by simp;omega) l
 have h2:(sortI l).Nodup:=(List.mergeSort_perm l _).nodup_iff.2 h
 exact (h1.and h2).imp fun {a b} ⟨h3,h4⟩=>by simp at h3;omega
theorem zua {K:PH} {w:World} (hv:Vis K w) (os:Array Obj):Adv K w K (Sort.grow w os):=by
 refine ⟨by simp [Sort.grow],fun k o hk=>?_,fun k hk hn=>⟨?_,hn⟩,rfl,rfl,rfl⟩
 ·show (w.heap++os)[k]?=some o
  rw [Array.getElem?_append_left (hv.lt hk)];exact hv k o hk
 ·show (w.heap++os)[k]?=w.heap[k]?
  rw [Array.getElem?_append_left hk]
theorem ztg {l:List Int} {cur:Array Value} (h:l.length≤cur.size):(Sort.putCells (Value.int .i64) 0 l.toArray cur).toList.take l.length=l.map (Value.int .i64):=by
 refine List.ext_getElem? fun i=>?_
 rw [List.getElem?_take,List.getElem?_map]
 by_cases hi:i < l.length
 ·rw [if_pos hi,Array.getElem?_toList]
  unfold Sort.putCells
  rw [Array.getElem?_mapIdx]
  have hc:i < cur.size:=by omega
  simp [hc,hi]
 ·rw [if_neg hi,List.getElem?_eq_none (by omega)];rfl
theorem zyu (l:List Int) (v:Value) (S K:PH) (I:List Itm) (h:Held S K (orow 3 l v::I)) (hl:l.length≤40000000) :
  Tri Tryz.prog 86 #[v] K fun x K'=>x=.returned (.tuple #[])∧Held S K' (orow 3 (sortI l) v::I):=by
 intro w hv
 have hr:=h.row (zms)
 obtain ⟨xs,ho,hrow⟩:=hr.own
 obtain ⟨rfl,hin⟩:=zvr hrow
 rcases ho.2 with ⟨rfl,hn⟩ | ⟨g,cap,cur,rfl,hg,h2,h3,h4,h5⟩
 ·have:l=[]:=List.length_eq_zero_iff.1 hn
  subst this
  refine (Tryz.slices_Sort_int_none none 0 w).mono ?_
  rintro e w' ⟨rfl,rfl⟩
  exact ⟨K,.refl hv,rfl,by simpa [sortI] using h⟩
 ·have hsz:sz Int=1:=rfl
  rw [hsz,Nat.mul_one] at h4 h5
  have hw:=hv _ _ hg
  have hcur:∀j,j < l.length→cur[j]?=some (.int .i64 (l[j]!)):=fun j hj=>by
   have:=congrArg (fun x=>x[j]?) h5
   simp only [List.getElem?_take,if_pos hj,List.getElem?_map,Array.getElem?_toList] at this
   rw [this,zge hj]
   simp [hj]
  have hH:Sort.Holds (Value.int .i64) w g 0 l.toArray:=by
   intro j hj
   simp only [List.size_toArray] at hj
   refine ⟨?_,?_⟩
   ·unfold World.cell?
    simp only [hw,Nat.zero_add]
    simpa using hcur j hj
   ·unfold World.frozen?
    simp [hw]
  refine (Tryz.slices_Sort_int g 0 cap l w hH (hv.lt hg) (by omega)).mono ?_
  rintro e w' ⟨rfl,n,os,rfl⟩
  obtain ⟨cur',hcur'⟩:∃c,c=Sort.putCells (Value.int .i64) 0 (sortI l).toArray cur:=⟨_,rfl⟩
  have hadv:Adv K w (K.upd g (.cells cur' 3 (0,0))) (Sort.putRow (Value.int .i64) (Sort.ahead w n) g 0 (sortI l).toArray):=by
   refine Adv.put (w':=Sort.putRow (Value.int .i64) (Sort.ahead w n) g 0 (sortI l).toArray) hv hg ?_ ?_ rfl rfl rfl
   ·simp [Sort.putRow,Sort.mapBlock,Sort.ahead]
   ·intro k
    show (w.heap.modify g _)[k]?=_
    rw [Array.getElem?_modify]
    by_cases e:k=g
    ·subst e;rw [if_pos rfl,if_pos rfl,hw,hcur'];rfl
    ·rw [if_neg e,if_neg (Ne.symm e)]
  refine ⟨_,hadv.trans (zua hadv.vis os),rfl,?_⟩
  have hSg:S g=none:=hr.off g rfl
  have hlen:(sortI l).length=l.length:=List.length_mergeSort l
  have hle:PH.le S (K.upd g (.cells cur' 3 (0,0))):=fun k o hk=>by
   rw [PH.upd_other (fun e=>by rw [e,hSg] at hk;cases hk)];exact h.sh k o hk
  refine h.went ⟨hr.off,(sortI l).map (Value.int .i64),⟨by rw [List.length_map,hsz,Nat.mul_one],.inr ⟨g,cap,cur',by rw [hlen],PH.upd_same,by rw [hlen];exact h2,h3,?_,?_⟩⟩,zhz fun x hx=>hin x ((z90 l x).1 hx)⟩ hle ⟨fun k o hk hn=>?_,fun k hk=>.inl hk⟩
  ·rw [hcur',hsz,Nat.mul_one,←h4];simp [Sort.putCells]
  ·rw [hcur',hsz,Nat.mul_one]
   exact ztg (by rw [hlen];omega)
  ·rw [PH.upd_other (fun e=>hn (by rw [e];rfl))];exact hk
theorem Z0b {est:Array MapEntry} {clt:Nat} {t:List Int} (hst:SetAt est clt t) {seen:Array Nat} {e:MapEntry} (he:e∈leftM est seen) {k:Int} (hk:k∈t) (hek:e.key=.int .i64 k) (y:Int) :
  (y∈t∧∀e'∈leftM est (seen.push e.born),e'.key≠.int .i64 y)↔((y∈t∧∀e'∈leftM est seen,e'.key≠.int .i64 y)∨y=k):=by
 have hee:e∈est.toList:=(List.mem_filter.1 he).1
 obtain ⟨p1,p2⟩:=zgy hst he
 constructor
 ·rintro ⟨h3,h4⟩
  by_cases hyk:y=k
  ·exact .inr hyk
  ·refine .inl ⟨h3,fun e' he' hke=>?_⟩
   rcases (p2 e').1 he' with rfl | h5
   ·rw [hek] at hke;cases hke;exact hyk rfl
   ·exact h4 e' h5 hke
 ·rintro (⟨h3,h4⟩ | rfl)
  ·exact ⟨h3,fun e' he'=>h4 e' ((p2 e').2 (.inr he'))⟩
  ·refine ⟨hk,fun e' he' hke=>?_⟩
   have he'l:e'∈leftM est seen:=(p2 e').2 (.inr he')
   have he'e:e'∈est.toList:=(List.mem_filter.1 he'l).1
   obtain ⟨a,ha⟩:=List.getElem?_of_mem he'e
   obtain ⟨b,hb⟩:=List.getElem?_of_mem hee
   have hkeys:(est.toList.map (·.key))=t.map fun k=>Value.int .i64 k:=by
    have:=congrArg (List.map Prod.fst) hst.ents
    simp only [List.map_map,Function.comp_def,encS] at this
    exact this
   have hta:t[a]?=some y:=by
    have:=congrArg (fun l=>l[a]?) hkeys
    simp only [List.getElem?_map,ha,Option.map_some,hke] at this
    cases hx:t[a]? with
    | none=>rw [hx] at this;cases this
    | some z=>rw [hx] at this;simp at this;rw [this]
   have htb:t[b]?=some y:=by
    have:=congrArg (fun l=>l[b]?) hkeys
    simp only [List.getElem?_map,hb,Option.map_some,hek] at this
    cases hx:t[b]? with
    | none=>rw [hx] at this;cases this
    | some z=>rw [hx] at this;simp at this;rw [this]
   have hab:=(List.getElem?_inj (List.getElem?_eq_some_iff.1 hta).1 hst.nodup).1 (hta.trans htb.symm)
   subst hab
   rw [ha] at hb;cases hb
   have hno:=(List.mem_filter.1 he').2
   simp at hno
set_option maxHeartbeats 1000000 in
theorem zk3 (r:Nat) (es:Array MapEntry) (clock:Nat) (s:List Int) (S K:PH) (I:List Itm) (h:Held S K I) (hr:S r=some (.map es clock)∨Itm.blk r (.map es clock)∈I) (hs:SetAt es clock s) (hi:∀x∈s,InI x) (hl:s.length≤40000000) :
  Tri Tryz.prog zgj #[.map (some r)] K fun x K'=>∃S' v,PH.le S S'∧x=.returned v∧SlR S' (sortI s) v∧Held S' K' I:=by
 have hrd:∀{S' K':PH} {J:List Itm},PH.le S S'→Held S' K' (J++I)→K' r=some (.map es clock):=fun hS h'=>hr.elim (fun h1=>h'.sh _ _ (hS _ _ h1)) fun h1=>h'.blk (List.mem_append_right _ h1)
 refine zdk [.map (some r)] (by kernel_rfl) (by kernel_rfl) ?_
 refine zma (r:=r) (es:=es) (clock:=clock) uSetK (by kernel_rfl) (hrd (J:=[]) (PH.le_refl S) h) (fun _ _=>z01) fun i hin=>?_
 have h0:=(Held.empty (α:=Int) (h.new hin (.mapIter (some r) clock #[] clock)) 3).perm (List.Perm.swap _ _ _)
 have hl0:leftM es #[]=es.toList:=by unfold leftM;simp
 have hlen:es.toList.length=s.length:=by have:=hs.len;simpa [encS] using this
 refine ⟨fun n vs K'=>∃(seen:Array Nat) (out:List Int) (v:Value) (S':PH),vs=[v]∧n=(leftM es seen).length∧PH.le S S'∧Held S' K' (.blk i (.mapIter (some r) clock seen clock)::orow 3 out v::I)∧out.Nodup∧(∀y,y∈out↔(y∈s∧∀e∈leftM es seen,e.key≠.int .i64 y))∧out.length+(leftM es seen).length≤s.length,
  ⟨_,#[],[],.slice none 0 0,S,rfl,rfl,PH.le_refl S,h0,List.nodup_nil,fun y=>?_,by rw [hl0,hlen];simp⟩,?_⟩
 ·simp only [List.not_mem_nil,false_iff,not_and]
  intro hy hno
  obtain ⟨e,he,hk⟩:=hs.has hy
  exact hno e (by rw [hl0];exact he) hk
 rintro n vs K1 _ ⟨seen,out,v,S1,rfl,rfl,l1,h1,hnd,hm1,hln⟩
 refine ⟨fun vs K'=>∃b:Bool,vs=[.bool b]∧((b=false∧leftM es seen=[]∧Held S1 K' (.blk i (.mapIter (some r) clock seen clock)::orow 3 out v::I))∨(b=true∧∃e∈leftM es seen,Held S1 K' (.blk i (.mapIter (some r) clock (seen.push e.born) clock)::orow 3 out v::I))),?_,?_⟩
 ·rintro vs K2 _ ⟨b,rfl,hcase⟩
  refine ⟨fun g=>?_,fun g=>?_⟩
  ·simp only [evs,evb] at g
   subst g
   rcases hcase with ⟨h,_⟩ | ⟨_,e,he,h2⟩
   ·cases h
   have hee:e∈es.toList:=(List.mem_filter.1 he).1
   obtain ⟨k,hk,hek,hev⟩:=hs.entry hee
   refine zlm (i:=i) (r:=r) (es:=es) (clock:=clock) (seen:=seen) (m:=encS s) (e:=e) (by kernel_rfl) (h2.blk (zms)) (hrd (J:=[_,_]) l1 h2) hs hee (by rw [hek,hev];exact ⟨rfl,rfl⟩) ?_
   rw [hek,hev]
   obtain ⟨p1,p2⟩:=zgy hs he
   have hkn:k∉out:=fun hko=>((hm1 k).1 hko).2 e he hek
   refine z0m (more:=[k]) (b:=8) [.int .i64 k] z0q z0i rfl (by decide) (by decide) (h2.perm (List.Perm.swap _ _ _)) (by kernel_rfl) (.cons (z0o (hi k hk)) .nil) z01 (fun _=>by kernel_rfl) (fun _=>by kernel_rfl)
    (by simp only [maxLen,zlc,List.length_nil];omega) (by simp only [zlc,List.length_nil];omega) fun u v' S4 K4 l4 h4=>⟨z01,_,z00,_,p1,seen.push e.born,out++[k],v',S4,rfl,rfl,PH.le_trans l1 l4,h4.perm (List.Perm.swap _ _ _),?_,fun y=>?_,?_⟩
   ·rw [List.nodup_append]
    exact ⟨hnd,by simp,fun a ha b hb=>by simp at hb;subst hb;exact fun e=>hkn (e ▸ ha)⟩
   ·rw [List.mem_append,hm1,Z0b hs he hk hek y]
    simp
   ·simp only [zla,zlc,List.length_nil];omega
  ·simp only [evs,evb] at g
   subst g
   rcases hcase with ⟨_,hnil,h2⟩ | ⟨h,_⟩
   ·refine z02 (by kernel_rfl) (zyu out v S1 K2 I h2.tail (by omega)) ?_
    rintro x K3 ⟨rfl,h3⟩
    refine ⟨_,[],rfl,rfl,rfl,z01,?_⟩
    have heq:sortI out=sortI s:=by
     refine zbn (z7r hnd) (z7r hs.nodup) fun x=>?_
     rw [z90,z90,hm1,hnil]
     simp
    rw [heq] at h3
    obtain ⟨S5,s5,l5,h5⟩:=h3.freeze
    exact ⟨S5,v,PH.le_trans l1 l5,rfl,s5,h5⟩
   ·cases h
 ·refine zon (i:=i) (r:=r) (es:=es) (clock:=clock) (seen:=seen) (m:=encS s) (by kernel_rfl) (h1.blk (zms)) (hrd (J:=[_,_]) l1 h1) hs (fun e he=>?_) (fun hnil=>?_) fun e he=>?_
  ·obtain ⟨k,hk,hek,hev⟩:=hs.entry he
   rw [hek,hev];exact ⟨rfl,rfl⟩
  ·exact ⟨_,z00,false,rfl,.inl ⟨rfl,hnil,h1⟩⟩
  ·exact ⟨_,z00,true,rfl,.inr ⟨rfl,e,he,h1.put _⟩⟩
theorem znt (e:EndX) (av:Value) (H:PH) (ha:SlR H e.args av):Gives Tryz.prog ztr [.agg (endVs e av).toArray] H (.bool e.calls):=by
 obtain ⟨b,c,rfl⟩:=ha.sl
 refine zro (endVs e (.slice b e.args.length c)) (by kernel_rfl) (by kernel_rfl) ?_
 refine ⟨?_,PH.le_refl _⟩
 simp only [endVs,evs,evb,EndX.calls]
 congr 2
 by_cases h4:e.kind=4<;>by_cases h6:e.kind=6<;>simp [h4,h6]
theorem Z1s (e:EndX) (av:Value) (S:PH) (ha:SlR S e.args av) (hn:InI e.next) (he:InI e.els) :
  Tri Tryz.prog zvu #[.agg (endVs e av).toArray] S fun x S'=>PH.le S S'∧∃v,x=.returned v∧SlR S' e.ways v:=by
 obtain ⟨b,c,rfl⟩:=ha.sl
 refine zrk (endVs e (.slice b e.args.length c)) (by kernel_rfl) (by kernel_rfl) ?_
 simp only [endVs]
 refine ⟨fun vs H'=>vs=[.bool (decide (e.kind=0∨e.kind=4∨e.kind=6))]∧H'=S,?_,fun g=>?_,fun g=>?_⟩
 ·rintro vs H' _ ⟨rfl,rfl⟩
  refine ⟨fun g=>?_,fun g=>⟨fun g2=>?_,fun g2=>?_⟩⟩
  ·simp only [evs,evb,zdt] at g
   have hw:e.ways=[e.next]:=by
    unfold EndX.ways
    rw [if_pos (by omega),if_neg (by omega)];rfl
   rw [hw]
   refine z1o (α:=Int) (l:=[e.next]) (b:=8) [.int .i64 e.next] z0q z0i rfl (by decide) (by decide) (Held.nil (PH.le_refl H')) (by kernel_rfl) (.cons (z0o hn) .nil) z01 fun v K2 h2 _ _=>?_
   obtain ⟨S3,s3,l3,h3⟩:=h2.freeze
   exact ⟨PH.le_trans l3 h3.sh,v,rfl,s3.le h3.sh⟩
  ·simp only [evs,evb,zdt] at g2
   have hw:e.ways=[e.next,e.els]:=by
    unfold EndX.ways
    rw [if_pos (by omega),if_pos (by omega)];rfl
   rw [hw]
   refine z1o (α:=Int) (l:=[e.next,e.els]) (b:=8) [.int .i64 e.next,.int .i64 e.els] z0q z0i rfl (by decide) (by decide) (Held.nil (PH.le_refl H')) (by kernel_rfl) (.cons (z0o hn) (.cons (z0o he) .nil)) z01 fun v K2 h2 _ _=>?_
   obtain ⟨S3,s3,l3,h3⟩:=h2.freeze
   exact ⟨PH.le_trans l3 h3.sh,v,rfl,s3.le h3.sh⟩
  ·simp only [evs,evb,zdf] at g g2
   have hw:e.ways=[]:=by
    unfold EndX.ways
    rw [if_neg (by omega),if_neg (by omega)];rfl
   rw [hw]
   exact ⟨PH.le_refl _,_,rfl,z4i _⟩
 ·simp only [evs,evb,zdt] at g
  refine ⟨_,z00,?_,rfl⟩
  simp [evs,evb,g]
 ·simp only [evs,evb,zdf] at g
  refine ⟨_,z00,?_,rfl⟩
  by_cases h4:e.kind=4<;>by_cases h6:e.kind=6<;>simp [evs,evb,g,h4,h6]
def EndX.rds (e:EndX):List Int:=if e.kind=1∨e.kind=2∨e.kind=5∨e.kind=6 then [e.reg] else if e.kind=3∨e.kind=4 then e.reg::e.args else []
theorem Z4w (e:EndX) (r:Int):r∈e.rds↔e.reads r=true:=by
 unfold EndX.rds EndX.reads
 split
 ·simp;exact ⟨fun h=>h.symm,fun h=>h.symm⟩
 ·split
  ·simp only [List.mem_cons,Bool.or_eq_true,zdt]
   exact ⟨fun h=>h.imp (fun h=>h.symm) id,fun h=>h.imp (fun h=>h.symm) id⟩
  ·simp
theorem Z0z (e:EndX) (av:Value) (S:PH) (ha:SlR S e.args av) (hr:InI e.reg) (hl:e.args.length≤40000000) :
  Tri Tryz.prog zv5 #[.agg (endVs e av).toArray] S fun x S'=>PH.le S S'∧∃v,x=.returned v∧SlR S' e.rds v:=by
 obtain ⟨b,c,rfl⟩:=ha.sl
 refine zr4 (endVs e (.slice b e.args.length c)) (by kernel_rfl) (by kernel_rfl) ?_
 simp only [endVs]
 refine ⟨fun vs H'=>vs=[.bool (decide (e.kind=1∨e.kind=2∨e.kind=5∨e.kind=6))]∧H'=S,?_,fun g=>?_,fun g=>⟨fun g2=>?_,fun g2=>?_⟩⟩
 ·rintro vs H' _ ⟨rfl,rfl⟩
  refine ⟨fun g=>?_,fun g=>⟨fun g2=>?_,fun g2=>?_⟩⟩
  ·simp only [evs,evb,zdt] at g
   have hw:e.rds=[e.reg]:=by unfold EndX.rds;rw [if_pos g]
   rw [hw]
   refine z1o (α:=Int) (l:=[e.reg]) (b:=8) [.int .i64 e.reg] z0q z0i rfl (by decide) (by decide) (Held.nil (PH.le_refl H')) (by kernel_rfl) (.cons (z0o hr) .nil) z01 fun v K2 h2 _ _=>?_
   obtain ⟨S3,s3,l3,h3⟩:=h2.freeze
   exact ⟨PH.le_trans l3 h3.sh,v,rfl,s3.le h3.sh⟩
  ·simp only [evs,evb,zdf] at g
   have hk:e.kind=3∨e.kind=4:=by
    by_cases h3:e.kind=3
    ·exact .inl h3
    ·by_cases h4:e.kind=4
     ·exact .inr h4
     ·simp [evs,evb,h3,h4] at g2
   have hw:e.rds=[e.reg]++e.args:=by unfold EndX.rds;rw [if_neg g,if_pos hk];rfl
   rw [hw]
   refine z1o (α:=Int) (l:=[e.reg]) (b:=8) [.int .i64 e.reg] z0q z0i rfl (by decide) (by decide) (Held.nil (PH.le_refl H')) (by kernel_rfl) (.cons (z0o hr) .nil) z01 fun v K2 h2 _ _=>?_
   refine z8s (b:=8) (more:=e.args) z0q z0i (by kernel_rfl) (by kernel_rfl) h2 (ha.srcS h2.sh) (by simp only [maxLen,zlc,List.length_nil];omega) (by simp only [zlc,List.length_nil];omega) fun v3 K3 h3 _=>⟨z01,?_⟩
   obtain ⟨S4,s4,l4,h4⟩:=h3.freeze
   exact ⟨PH.le_trans l4 h4.sh,v3,rfl,s4.le h4.sh⟩
  ·simp only [evs,evb,zdf] at g
   have hk:¬(e.kind=3∨e.kind=4):=by
    rintro (h3 | h3)<;>simp [evs,evb,h3] at g2
   have hw:e.rds=[]:=by unfold EndX.rds;rw [if_neg g,if_neg hk]
   rw [hw]
   exact ⟨PH.le_refl _,_,rfl,z4i _⟩
 ·simp only [evs,evb,zdt] at g
  refine ⟨_,z00,?_,rfl⟩
  simp [evs,evb,g]
 ·simp only [evs,evb,zdt] at g2
  refine ⟨_,z00,?_,rfl⟩
  simp [evs,evb,g2]
 ·simp only [evs,evb,zdf] at g g2
  refine ⟨_,z00,?_,rfl⟩
  by_cases h5:e.kind=5<;>by_cases h6:e.kind=6<;>simp [evs,evb,g,g2,h5,h6]
theorem znn (r:Nat) (es:Array MapEntry) (clock:Nat) (s:List Int) (x:InsX) (cs:List Value) (S K:PH) (hx:CsR S x cs) (h:Held S K [.blk r (.map es clock)]) (hs:SetAt es clock s) :
  Tri Tryz.prog zb3 #[.map (some r),.agg cs.toArray] K fun e K'=>∃es' clock' s',e=.returned (.tuple #[])∧Held S K' [.blk r (.map es' clock')]∧SetAt es' clock' s'∧∀y,y∈s'↔(y∈x.args∨(¬x.fills y∧y∈s)):=by
 obtain ⟨av,dv,rfl,y1,y2,ya,y4,y5,y6,yd,y8⟩:=ins_iff.1 hx
 obtain ⟨ab,ac,rfl⟩:=ya.sl
 obtain ⟨db,dc,rfl⟩:=yd.sl
 refine zp1 [.map (some r),txt x.op,.int .i64 x.to,.slice ab x.args.length ac,.int .i64 x.const.kind,.int .i64 x.const.int,txt x.const.text,.slice db x.const.list.length dc,.int .i64 x.num] (by kernel_rfl) (by kernel_rfl) ?_
 refine ⟨fun vs K'=>vs=[]∧∃es' clock' s',Held S K' [.blk r (.map es' clock')]∧SetAt es' clock' s'∧∀y,y∈s'↔(¬x.fills y∧y∈s),?_,fun g=>?_,fun g=>?_⟩
 ·rintro vs K2 _ ⟨rfl,es2,clock2,s2,h2,hs2,hm2⟩
  refine z02 z9c (zp6 r es2 clock2 s2 x.args _ S K2 ya h2 hs2) ?_
  rintro e K3 ⟨es3,clock3,s3,rfl,h3,hs3,hm3⟩
  refine ⟨_,[],rfl,rfl,rfl,z01,es3,clock3,s3,rfl,h3,hs3,fun y=>?_⟩
  rw [hm3,hm2]
  exact Or.comm
 ·simp only [evs,evb,z9e] at g
  have hop:x.op≠tieB:=by simpa using g
  refine z02 z4b (zhn r es clock s x.to S K h hs) ?_
  rintro e K3 ⟨es3,clock3,rfl,h3,hs3⟩
  refine ⟨_,[],rfl,rfl,rfl,z01,_,z00,rfl,es3,clock3,_,h3,hs3,fun y=>?_⟩
  rw [List.mem_filter]
  simp only [zdt,InsX.fills]
  constructor
  ·rintro ⟨h1,h2⟩;exact ⟨fun hf=>h2 hf.2.symm,h1⟩
  ·rintro ⟨h1,h2⟩;exact ⟨h2,fun e=>h1 ⟨hop,e.symm⟩⟩
 ·simp only [evs,evb,z9e] at g
  have hop:x.op=tieB:=by simpa using g
  refine ⟨_,z00,rfl,es,clock,s,h,hs,fun y=>?_⟩
  exact ⟨fun hy=>⟨fun hf=>hf.1 hop,hy⟩,fun hy=>hy.2⟩
abbrev flowB (fb:Nat) (p:PrcX) (bv:Value) (inv:Value):Itm:=.blk fb (.cells [.int .i64 p.params,.int .i64 p.holds,.int .i64 p.regs,bv,inv].toArray 131 (0,0))
abbrev inB (ib:Nat) (ims:List Value):Itm:=.blk ib (.cells ims.toArray 134 (0,0))
theorem zn6 {K:PH} {b off:Nat} {cs:List Value} {e:TypeId} {f:Nat×Nat} (h:K b=some (.cells cs.toArray e f)) (n:Nat):rowAt K (some ⟨b,off,none⟩) ((cs.drop off).take n):=by
 refine ⟨_,rfl,fun i v hi=>?_⟩
 rw [Addr.add_plain,PH.cell_at h]
 rw [List.getElem?_take] at hi
 split at hi
 ·rw [List.getElem?_drop] at hi;simpa using hi
 ·cases hi
theorem zjp {K:PH} {ib n c:Nat} {ims:List Value} {e:TypeId} {f:Nat×Nat} {v:Value} (h:K ib=some (.cells ims.toArray e f)) (hv:ims[c]?=some v):rowAt K (pOf (eltV (.slice (some ⟨ib,0,none⟩) n n) (c:Int) 1)) [v]:=by
 have h1:=zn6 (off:=c) h 1
 have h2:(ims.drop c).take 1=[v]:=by
  obtain ⟨hc,he⟩:=List.getElem?_eq_some_iff.1 hv
  rw [List.drop_eq_getElem_cons hc,he];rfl
 rw [h2] at h1
 have:pOf (eltV (.slice (some ⟨ib,0,none⟩) n n) (c:Int) 1)=some ⟨ib,c,none⟩:=by simp [eltV,pOf,z0v,Addr.add_plain]
 rw [this];exact h1
def outS (p:PrcX) (sets:Nat→List Int) (b:BlkX) (y:Int):Prop:=b.e.reads y=true∨(¬(b.e.calls=true∧b.e.to=y)∧∃c:Nat,(c:Int)∈b.e.leads p.blocks.length∧y∈sets c)
set_option maxHeartbeats 2000000 in
theorem zxh (p:PrcX) (bv:Value) (fb ib:Nat) (ims:List Value) (sets:Nat→List Int) (i:Nat) (b:BlkX) (S K:PH) (hbv:SlR S p.blocks bv) (hb:p.blocks[i]?=some b) (hN:p.blocks.length≤20000000) (hrl:b.e.args.length≤40000000) (hil:ims.length=p.blocks.length) (him:∀c v,ims[c]?=some v→SetR S v (sets c))
  (h:Held S K [flowB fb p bv (.slice (some ⟨ib,0,none⟩) p.blocks.length p.blocks.length),inB ib ims]) :
  Tri Tryz.prog zoq #[.pointer (some ⟨fb,0,none⟩),nI i] K fun x K'=>∃S' ro es clock s,PH.le S S'∧x=.returned (.map (some ro))∧Held S' K' [.blk ro (.map es clock),flowB fb p bv (.slice (some ⟨ib,0,none⟩) p.blocks.length p.blocks.length),inB ib ims]∧SetAt es clock s∧∀y,y∈s↔outS p sets b y:=by
 obtain ⟨b0,c0,rfl⟩:=hbv.sl
 have hi:i < p.blocks.length:=(List.getElem?_eq_some_iff.1 hb).1
 refine zls [.pointer (some ⟨fb,0,none⟩),nI i] (by kernel_rfl) (by kernel_rfl) ?_
 have hfl:∀{S' K':PH} {J:List Itm},Held S' K' (J++[flowB fb p (.slice b0 p.blocks.length c0) (.slice (some ⟨ib,0,none⟩) p.blocks.length p.blocks.length),inB ib ims])→rowAt K' (some ⟨fb,3,none⟩) [.slice b0 p.blocks.length c0]∧rowAt K' (some ⟨fb,4,none⟩) [.slice (some ⟨ib,0,none⟩) p.blocks.length p.blocks.length]∧K' ib=some (.cells ims.toArray 134 (0,0)):=fun h'=>
  ⟨zn6 (h'.blk (List.mem_append_right _ (zms))) 1,zn6 (h'.blk (List.mem_append_right _ (zms))) 1,h'.blk (List.mem_append_right _ (zmm _ (zms)))⟩
 obtain ⟨q1,_,ces,q2,q3⟩:=hbv.get hb
 obtain ⟨iv,es0,rfl,his,hes⟩:=blk_iff.1 q2
 obtain ⟨av,rfl,e1,e2,hea,e3,e4,e5⟩:=end_iff.1 hes
 obtain ⟨b3,c3,rfl⟩:=hea.sl
 refine ⟨fun _=>rfl,[.slice b0 p.blocks.length c0],rfl,?_,fun _=>?_,[.int .i64 b.e.kind,.int .i64 b.e.reg,.slice b3 b.e.args.length c3,.int .i64 b.e.to,.int .i64 b.e.next,.int .i64 b.e.els],rfl,?_,?_⟩
 ·exact (hfl (J:=[]) h).1
 ·simp only [Chk.holds,evs,evb];exact ⟨q1,by omega,by omega⟩
 ·simp only [evs,evb];exact z0a (z06 h.sh q3) 1 6
 refine z8g fun ro hro=>?_
 have h1:=h.new hro (.map #[] 0)
 refine z02 zt7 (h1.pure (R:=fun x S'=>∃v,x=.returned v∧SlR S' b.e.ways v) (Z1s b.e _ S hea e4 e5)) ?_
 rintro x K2 ⟨S2,l2,h2,lv,rfl,hlv⟩
 obtain ⟨b5,c5,rfl⟩:=hlv.sl
 refine ⟨_,[.slice b5 b.e.ways.length c5],rfl,rfl,rfl,z01,?_⟩
 have hwl:=zk2 b.e
 refine ⟨fun n vs K'=>∃(k:Nat) (es:Array MapEntry) (clock:Nat) (s:List Int),vs=[nI k]∧k+n=b.e.ways.length∧Held S2 K' [.blk ro (.map es clock),flowB fb p (.slice b0 p.blocks.length c0) (.slice (some ⟨ib,0,none⟩) p.blocks.length p.blocks.length),inB ib ims]∧SetAt es clock s∧∀y,y∈s↔∃c:Nat,(c:Int)∈b.e.ways.take k∧c < p.blocks.length∧y∈sets c,
  ⟨b.e.ways.length,0,#[],0,[],rfl,by omega,h2,zh2,fun y=>by simp⟩,?_⟩
 rintro n vs K3 _ ⟨k,es,clock,s,rfl,hkn,h3,hs3,hm3⟩
 refine ⟨fun g=>?_,fun g=>?_⟩
 ·simp only [evs,evb,zdt] at g
  obtain ⟨a,ha⟩:∃a,b.e.ways[k]?=some a:=⟨_,zge (show k < b.e.ways.length by omega)⟩
  have hst:b.e.ways.take (k+1)=b.e.ways.take k++[a]:=by rw [List.take_add_one,ha];rfl
  obtain ⟨w1,_,wes,w2,w3⟩:=(hlv.le h3.sh).get ha
  obtain ⟨rfl,hai⟩:=csIK w2
  obtain ⟨r1,r2,r3⟩:=hfl (J:=[_]) h3
  refine ⟨fun vs K'=>vs=[]∧∃(es':Array MapEntry) (clock':Nat) (s':List Int),Held S2 K' [.blk ro (.map es' clock'),flowB fb p (.slice b0 p.blocks.length c0) (.slice (some ⟨ib,0,none⟩) p.blocks.length p.blocks.length),inB ib ims]∧SetAt es' clock' s'∧∀y,y∈s'↔∃c:Nat,(c:Int)∈b.e.ways.take (k+1)∧c < p.blocks.length∧y∈sets c,?_,fun _=>?_,[.int .i64 a],rfl,?_,?_⟩
  ·rintro vs K4 _ ⟨rfl,es4,clock4,s4,h4,hs4,hm4⟩
   refine ⟨_,z00,n - 1,by omega,k+1,es4,clock4,s4,?_,by omega,h4,hs4,hm4⟩
   simp only [evs,evb];rw [w64 (by omega) (by omega)];rfl
  ·simp only [Chk.holds,evs,evb];exact ⟨w1,by omega,by omega⟩
  ·simp only [evs,evb];exact w3
  refine ⟨fun vs K'=>vs=[.bool (decide (0≤a∧a < (p.blocks.length:Int)))]∧K'=K3,?_,fun g2=>?_,fun g2=>?_⟩
  ·rintro vs K4 _ ⟨rfl,rfl⟩
   refine ⟨fun g2=>?_,fun g2=>?_⟩
   ·simp only [evs,evb,zdt] at g2
    obtain ⟨c,rfl⟩:∃c:Nat,a=(c:Int):=⟨a.toNat,by omega⟩
    have hcN:c < ims.length:=by omega
    obtain ⟨mv,hmv⟩:∃mv,ims[c]?=some mv:=⟨_,zge hcN⟩
    have hset:=(him c mv hmv).le l2
    have hset':=hset
    obtain ⟨rt,est,clt,rfl,_,_⟩:=hset'
    refine ⟨[.slice (some ⟨ib,0,none⟩) p.blocks.length p.blocks.length],rfl,r2,fun _=>?_,[.map (some rt)],rfl,?_,?_⟩
    ·simp only [Chk.holds,evs,evb];exact ⟨rfl,by omega,by omega⟩
    ·simp only [evs,evb];exact zjp (n:=p.blocks.length) r3 hmv
    refine z02 zhg (Held.call (P:=Tryz.prog) (f:=z94) (args:=#[.map (some ro),.map (some rt)]) (J:=[.blk ro (.map es clock)]) (I:=[flowB fb p (.slice b0 p.blocks.length c0) (.slice (some ⟨ib,0,none⟩) p.blocks.length p.blocks.length),inB ib ims])
     (R:=fun x S' J'=>S'=S2∧∃es' clock' s',x=.returned (.tuple #[])∧J'=[.blk ro (.map es' clock')]∧SetAt es' clock' s'∧∀y,y∈s'↔y∈s∨y∈sets c) h3
     (fun K' hK=>(zww ro es clock s (sets c) _ S2 K' hset hK hs3).mono fun x K'' ⟨es',clock',s',q1,q2,q3,q4⟩=>⟨S2,_,PH.le_refl _,q2,rfl,es',clock',s',q1,rfl,q3,q4⟩)) ?_
    rintro x K5 ⟨S5,J5,_,h5,rfl,es5,clock5,s5,rfl,rfl,hs5,hm5⟩
    refine ⟨_,[],rfl,rfl,rfl,z01,_,z00,rfl,es5,clock5,s5,h5,hs5,fun y=>?_⟩
    rw [hm5,hm3,hst]
    constructor
    ·rintro (⟨d,h1,h2,h3⟩ | h)
     ·exact ⟨d,List.mem_append_left _ h1,h2,h3⟩
     ·exact ⟨c,by simp,by omega,h⟩
    ·rintro ⟨d,h1,h2,h3⟩
     rcases List.mem_append.1 h1 with h1 | h1
     ·exact .inl ⟨d,h1,h2,h3⟩
     ·have:d=c:=by simp at h1;omega
      subst this;exact .inr h3
   ·simp only [evs,evb,zdf] at g2
    refine ⟨_,z00,rfl,es,clock,s,h3,hs3,fun y=>?_⟩
    rw [hm3,hst]
    constructor
    ·rintro ⟨d,h1,h2,h3⟩;exact ⟨d,List.mem_append_left _ h1,h2,h3⟩
    ·rintro ⟨d,h1,h2,h3⟩
     rcases List.mem_append.1 h1 with h1 | h1
     ·exact ⟨d,h1,h2,h3⟩
     ·exact absurd (by simp at h1;omega) g2
  ·simp only [evs,evb,zdt] at g2
   refine ⟨[.slice (some ⟨ib,0,none⟩) p.blocks.length p.blocks.length],rfl,r2,_,z00,?_,rfl⟩
   simp only [evs,evb]
   by_cases hc:a < (p.blocks.length:Int)<;>simp [hc]<;>omega
  ·simp only [evs,evb,zdf] at g2
   refine ⟨_,z00,?_,rfl⟩
   simp only [evs,evb]
   rw [decide_eq_false (fun h=>g2 (by omega))]
 ·simp only [evs,evb,zdf] at g
  rw [List.take_of_length_le (by omega)] at hm3
  have hea3:=hea.le l2
  refine ⟨fun vs K'=>vs=[]∧∃(es':Array MapEntry) (clock':Nat) (s':List Int),Held S2 K' [.blk ro (.map es' clock'),flowB fb p (.slice b0 p.blocks.length c0) (.slice (some ⟨ib,0,none⟩) p.blocks.length p.blocks.length),inB ib ims]∧SetAt es' clock' s'∧∀y,y∈s'↔(¬(b.e.calls=true∧b.e.to=y)∧y∈s),?_,?_⟩
  ·rintro vs K4 _ ⟨rfl,es4,clock4,s4,h4,hs4,hm4⟩
   refine z02 ztf (h4.pure (R:=fun x S'=>∃v,x=.returned v∧SlR S' b.e.rds v) (Z0z b.e _ S2 hea3 e2 hrl)) ?_
   rintro x K5 ⟨S5,l5,h5,rv,rfl,hrv⟩
   obtain ⟨b6,c6,rfl⟩:=hrv.sl
   refine ⟨_,[.slice b6 b.e.rds.length c6],rfl,rfl,rfl,z01,?_⟩
   refine z02 z9c (Held.call (P:=Tryz.prog) (f:=z9u) (args:=#[.map (some ro),.slice b6 b.e.rds.length c6]) (J:=[.blk ro (.map es4 clock4)]) (I:=[flowB fb p (.slice b0 p.blocks.length c0) (.slice (some ⟨ib,0,none⟩) p.blocks.length p.blocks.length),inB ib ims])
    (R:=fun x S' J'=>S'=S5∧∃es' clock' s',x=.returned (.tuple #[])∧J'=[.blk ro (.map es' clock')]∧SetAt es' clock' s'∧∀y,y∈s'↔y∈s4∨y∈b.e.rds) h5
    (fun K' hK=>(zp6 ro es4 clock4 s4 b.e.rds _ S5 K' hrv hK hs4).mono fun x K'' ⟨es',clock',s',q1,q2,q3,q4⟩=>⟨S5,_,PH.le_refl _,q2,rfl,es',clock',s',q1,rfl,q3,q4⟩)) ?_
   rintro x K6 ⟨S6,J6,_,h6,rfl,es6,clock6,s6,rfl,rfl,hs6,hm6⟩
   refine ⟨_,[],rfl,rfl,rfl,z01,S6,ro,es6,clock6,s6,PH.le_trans l2 l5,rfl,h6,hs6,fun y=>?_⟩
   rw [hm6,hm4,hm3,Z4w]
   unfold outS
   constructor
   ·rintro (⟨h1,c,h2,h3,h4⟩ | h)
    ·exact .inr ⟨h1,c,List.mem_filter.2 ⟨h2,by simp;omega⟩,h4⟩
    ·exact .inl h
   ·rintro (h | ⟨h1,c,h2,h3⟩)
    ·exact .inr h
    ·obtain ⟨h4,h5⟩:=List.mem_filter.1 h2
     exact .inl ⟨h1,c,h4,by simp at h5;omega,h3⟩
  ·refine z05 [.bool b.e.calls] zks (znt b.e _ K3 (hea3.le h3.sh)) rfl z01 fun K4 l4=>⟨fun g2=>?_,fun g2=>?_⟩
   ·simp only [evs,evb] at g2
    refine z02 z4b (Held.call (P:=Tryz.prog) (f:=z9f) (args:=#[.map (some ro),.int .i64 b.e.to]) (J:=[.blk ro (.map es clock)]) (I:=[flowB fb p (.slice b0 p.blocks.length c0) (.slice (some ⟨ib,0,none⟩) p.blocks.length p.blocks.length),inB ib ims])
     (R:=fun x S' J'=>S'=S2∧∃es' clock',x=.returned (.tuple #[])∧J'=[.blk ro (.map es' clock')]∧SetAt es' clock' (s.filter fun y=>decide (y≠b.e.to))) (h3.le l4)
     (fun K' hK=>(zhn ro es clock s b.e.to S2 K' hK hs3).mono fun x K'' ⟨es',clock',q1,q2,q3⟩=>⟨S2,_,PH.le_refl _,q2,rfl,es',clock',q1,rfl,q3⟩)) ?_
    rintro x K6 ⟨S6,J6,_,h6,rfl,es6,clock6,rfl,rfl,hs6⟩
    refine ⟨_,[],rfl,rfl,rfl,z01,_,z00,rfl,es6,clock6,_,h6,hs6,fun y=>?_⟩
    rw [List.mem_filter]
    simp only [zdt]
    exact ⟨fun ⟨h1,h2⟩=>⟨fun ⟨_,e⟩=>h2 e.symm,h1⟩,fun ⟨h1,h2⟩=>⟨h2,fun e=>h1 ⟨g2,e.symm⟩⟩⟩
   ·simp only [evs,evb] at g2
    refine ⟨_,z00,rfl,es,clock,s,h3.le l4,hs3,fun y=>?_⟩
    exact ⟨fun h=>⟨fun ⟨h1,_⟩=>by (rw [g2] at h1;cases h1),h⟩,fun h=>h.2⟩
structure Grows (p:PrcX) (sets:Nat→List Int):Prop where
 nodup:∀i,(sets i).Nodup
 live:∀i y,y∈sets i→LiveB p y i
 kept:∀i y,y∈sets i→z2g p y (fun c=>y∈sets c) i 0
def Step (p:PrcX) (sets:Nat→List Int) (i:Nat) (s:List Int):Prop:=s.Nodup∧∀y,y∈s↔z2g p y (fun c=>y∈sets c) i 0
theorem zzf (p:PrcX):Grows p fun _=>[]:=⟨fun _=>List.nodup_nil,fun _ _ h=>(by cases h),fun _ _ h=>(by cases h)⟩
theorem z0k {l m:List Int} (h:l.Nodup) (hs:∀y∈l,y∈m):l.length≤m.length:=by
 induction l generalizing m with
 | nil=>simp
 | cons a l ih=>
  obtain ⟨h1,h2⟩:=List.nodup_cons.1 h
  have ha:=hs a (zms)
  have hlen:(m.erase a).length+1=m.length:=by
   rw [List.length_erase_of_mem ha]
   have:=List.length_pos_of_mem ha
   omega
  have:=ih (m:=m.erase a) h2 fun y hy=>(List.mem_erase_of_ne (fun e:y=a=>h1 (e ▸ hy))).2 (hs y (zmm _ hy))
  simp only [zlc];omega
theorem zr2 {l m:List Int} (hl:l.Nodup) (hs:∀y∈l,y∈m) (he:m.length=l.length):∀y∈m,y∈l:=by
 intro y hy
 by_cases h:y∈l
 ·exact h
 ·have:=z0k (l:=y::l) (m:=m) (List.nodup_cons.2 ⟨h,hl⟩) fun z hz=>(List.mem_cons.1 hz).elim (fun e=>e ▸ hy) (hs z)
  simp only [zlc] at this;omega
theorem Step.grown {p:PrcX} {sets:Nat→List Int} (hg:Grows p sets) {i:Nat} {s:List Int} (h:Step p sets i s):∀y∈sets i,y∈s:=fun y hy=>(h.2 y).2 (hg.kept i y hy)
def putF (sets:Nat→List Int) (i:Nat) (s:List Int):Nat→List Int:=fun j=>if j=i then s else sets j
theorem Grows.put {p:PrcX} {sets:Nat→List Int} (hg:Grows p sets) {i:Nat} {s:List Int} (h:Step p sets i s):Grows p (putF sets i s):=by
 have hup:∀c y,y∈sets c→y∈putF sets i s c:=fun c y hy=>by
  unfold putF
  split
  ·rename_i e;subst e;exact h.grown hg y hy
  ·exact hy
 refine ⟨fun j=>?_,fun j y hy=>?_,fun j y hy=>?_⟩
 ·unfold putF;split
  ·exact h.1
  ·exact hg.nodup j
 ·unfold putF at hy
  split at hy
  ·rename_i e;subst e
   exact zkb (z2s (fun c hc=>hg.live c y hc) ((h.2 y).1 hy))
  ·exact hg.live j y hy
 ·unfold putF at hy
  split at hy
  ·rename_i e;subst e
   exact z2s (fun c hc=>hup c y hc) ((h.2 y).1 hy)
  ·exact z2s (fun c hc=>hup c y hc) (hg.kept j y hy)
theorem Grows.all {p:PrcX} {sets:Nat→List Int} (hg:Grows p sets) (h:∀i,i < p.blocks.length→∃s,Step p sets i s∧s.length=(sets i).length) {i:Nat} {y:Int}:y∈sets i↔LiveB p y i:=by
 refine ⟨hg.live i y,fun hl=>hl (fun c=>y∈sets c) fun j hj=>?_⟩
 have hjN:j < p.blocks.length:=by
  obtain ⟨b,hb,_⟩:=hj
  exact (List.getElem?_eq_some_iff.1 hb).1
 obtain ⟨s,hs,he⟩:=h j hjN
 exact zr2 (hg.nodup j) (hs.grown hg) he y ((hs.2 y).2 hj)
theorem Grows.le {p:PrcX} {sets:Nat→List Int} (hg:Grows p sets) (i:Nat):(sets i).length≤p.regl.length:=
 z0k (hg.nodup i) fun y hy=>z4z (zjy (hg.live i y hy))
def sumS (sets:Nat→List Int):Nat→Nat
 | 0=>0
 | n+1=>sumS sets n+(sets n).length
theorem zqx {p:PrcX} {sets:Nat→List Int} (hg:Grows p sets):∀n,sumS sets n≤n * p.regl.length
 | 0=>by simp [sumS]
 | n+1=>by
  have:=zqx hg n
  have:=hg.le n
  simp only [sumS,Nat.succ_mul];omega
theorem ztx {sets:Nat→List Int} {i:Nat} {s:List Int}:∀n,i < n→sumS (putF sets i s) n+(sets i).length=sumS sets n+s.length
 | 0,h=>by omega
 | n+1,h=>by
  have key:∀m,m≤i→sumS (putF sets i s) m=sumS sets m:=by
   intro m
   induction m with
   | zero=>intro _;rfl
   | succ m ih=>
    intro hm
    have e:m≠i:=by omega
    simp only [sumS,ih (by omega),putF,if_neg e]
  by_cases e:n=i
  ·subst e
   simp only [sumS,key n (Nat.le_refl _),putF,if_pos]
   omega
  ·have:=ztx (sets:=sets) (s:=s) n (show i < n by omega)
   have hn:putF sets i s n=sets n:=by unfold putF;rw [if_neg e]
   simp only [sumS,hn];omega
theorem zlp (l:List InsX) (sv:Value) (S:PH) (hs:SlR S l sv):Tri Tryz.prog z69 #[sv] S fun x S'=>∃q:Nat,PH.le S S'∧x=.returned (.func (.func 91) #[] #[.pointer (some ⟨q,0,none⟩)])∧rowAt S' (some ⟨q,0,none⟩) [sv]:=by
 obtain ⟨b,c,rfl⟩:=hs.sl
 refine z5t [.slice b l.length c] (by kernel_rfl) (by kernel_rfl) ?_
 intro q hq
 refine zlo rfl ?_
 refine ⟨q,PH.le_upd hq,by simp [evV,ev,argEv,List.lookup],⟨_,rfl,fun i v hi=>by
  cases i with
  | zero=>
   simp only [List.getElem?_cons_zero,Option.some.injEq] at hi
   subst hi
   rw [Addr.add_plain,PH.cell_at PH.upd_same]
   rfl
  | succ i=>simp at hi⟩⟩
theorem zse {b:List InsX} {j:Nat} {x:InsX} {y:Int} {q:Prop} (hj:j < b.length) (hx:b[b.length - 1 - j]?=some x):thru y (b.drop (b.length - (j+1))) q↔(y∈x.args∨(¬x.fills y∧thru y (b.drop (b.length - j)) q)):=by
 have hi:b.length - 1 - j=b.length - (j+1):=by omega
 rw [hi] at hx
 obtain ⟨hlt,he⟩:=List.getElem?_eq_some_iff.1 hx
 rw [List.drop_eq_getElem_cons hlt,he,show b.length - (j+1)+1=b.length - j by omega]
 rfl
theorem Held.rawBlk {S H:PH} {I:List Itm} {e:TypeId} {xs:List Value} {n r:Nat} (h:Held S H (.raw e 1 xs n (.slice (some ⟨r,0,none⟩) n n)::I)):Held S H (.blk r (.cells xs.toArray e (0,0))::I):=by
 have ho:Own H e 1 (.slice (some ⟨r,0,none⟩) n n) n xs:=h.at_ _ (zms)
 have hr:H r=some (.cells xs.toArray e (0,0)):=by
  rcases ho.2 with ⟨h1,_⟩ | ⟨g,cap,cur,h1,h2,h3,h4,h5,h6⟩
  ·cases h1
  ·cases h1
   rw [Nat.mul_one] at h5 h6
   have:cur=xs.toArray:=by
    rw [←h6,List.take_of_length_le (by rw [Array.length_toList,h5];exact Nat.le_refl _)]
   rw [h2,this]
 have hJ:Held S H [.blk r (.cells xs.toArray e (0,0))]:=⟨h.sh,fun i hi=>by rw [List.mem_singleton.1 hi];exact hr,fun i hi k hk=>by
  rw [List.mem_singleton.1 hi] at hk
  simp only [Itm.ob,Option.some.injEq] at hk
  subst hk
  exact h.off _ (zms) r rfl,List.pairwise_singleton _ _⟩
 exact Held.step (J:=[.raw e 1 xs n (.slice (some ⟨r,0,none⟩) n n)]) (J':=[.blk r (.cells xs.toArray e (0,0))]) h (PH.le_refl _) (fun k o hk _=>hk) (fun k a b=>absurd a b) hJ fun j hj k hk=>by
  rw [List.mem_singleton.1 hj] at hk
  simp only [Itm.ob,Option.some.injEq] at hk
  subst hk
  exact .inr ⟨_,List.mem_singleton.2 rfl,rfl⟩
theorem Z5d:OneOk Tryz.prog 134 8 (.map none):=OneOk.of (by kernel_rfl) rfl
theorem Z6h:Tryz.prog.underlying 129=some (.slice 134):=by kernel_rfl
theorem zov {S:PH} {p:PrcX} {bv:Value} (h:SlR S p.blocks bv):∀x∈p.regl,InI x:=by
 intro x hx
 obtain ⟨b,hb,hxb⟩:=List.mem_flatMap.1 hx
 obtain ⟨i,hi⟩:=List.getElem?_of_mem hb
 obtain ⟨_,_,cs,hc,_⟩:=h.get hi
 obtain ⟨iv,es,rfl,his,hes⟩:=blk_iff.1 hc
 obtain ⟨av,rfl,e1,e2,hea,e3,e4,e5⟩:=end_iff.1 hes
 have hargs:∀{l:List Int} {v:Value},SlR S l v→∀y∈l,InI y:=fun hl y hy=>by
  obtain ⟨k,hk⟩:=List.getElem?_of_mem hy
  obtain ⟨_,_,ds,hd,_⟩:=hl.get hk
  exact (csIK hd).2
 unfold BlkX.regs at hxb
 rcases List.mem_append.1 hxb with h1 | h1
 ·obtain ⟨y,hy,hxy⟩:=List.mem_flatMap.1 h1
  obtain ⟨k,hk⟩:=List.getElem?_of_mem hy
  obtain ⟨_,_,ds,hd,_⟩:=his.get hk
  obtain ⟨av2,dv,rfl,_,_,ha,_⟩:=ins_iff.1 hd
  exact hargs ha x hxy
 ·unfold EndX.regs at h1
  rcases List.mem_append.1 h1 with h1 | h1
  ·split at h1
   ·simp at h1;rw [h1];exact e2
   ·cases h1
  ·split at h1
   ·exact hargs hea x h1
   ·cases h1
def InsAt (S0 S:PH) (ims:List Value) (sets:Nat→List Int):Prop:=∀c v,ims[c]?=some v→SetR S v (sets c)∧∀r,v=.map (some r)→S0 r=none
theorem InsAt.le {S0 S S':PH} {ims:List Value} {sets:Nat→List Int} (h:InsAt S0 S ims sets) (hl:PH.le S S'):InsAt S0 S' ims sets:=fun c v hv=>⟨(h c v hv).1.le hl,(h c v hv).2⟩
theorem InsAt.set {S0 S:PH} {ims:List Value} {sets:Nat→List Int} (h:InsAt S0 S ims sets) {i r:Nat} {s:List Int} (hs:SetR S (.map (some r)) s) (h0:S0 r=none):InsAt S0 S (ims.set i (.map (some r))) (putF sets i s):=by
 intro c v hv
 rw [List.getElem?_set] at hv
 unfold putF
 by_cases e:i=c
 ·subst e
  rw [if_pos rfl] at hv
  split at hv
  ·cases hv
   rw [if_pos rfl]
   exact ⟨hs,fun r' h'=>by cases h';exact h0⟩
  ·cases hv
 ·rw [if_neg e] at hv
  rw [if_neg (fun h=>e h.symm)]
  exact h c v hv
theorem zql {α:Type} (l:List α) (i:Nat) (a:α) (h:i < l.length):l.take i++[a]++l.drop (i+1)=l.set i a:=by
 rw [List.set_eq_take_append_cons_drop,if_pos h];simp
theorem Held.freezeSet {S0 S H:PH} {I:List Itm} {r:Nat} {es:Array MapEntry} {clock:Nat} {s:List Int} (h0:PH.le S0 S) (h:Held S H (.blk r (.map es clock)::I)) (hs:SetAt es clock s) :
  ∃S',PH.le S S'∧SetR S' (.map (some r)) s∧S0 r=none∧Held S' H I:=by
 have hr:S r=none:=h.off _ (zms) r rfl
 obtain ⟨h1,h2⟩:=h.freezeB
 exact ⟨_,h1,⟨r,es,clock,rfl,PH.upd_same,hs⟩,PH.none_of_le h0 hr,h2⟩
theorem Iter.congr {P:Program} {gv:Value} {S:PH} {n:Nat} {xs ys:Nat→List Value} (h:∀j,j < n→xs j=ys j) (hi:Iter P gv S n xs):Iter P gv S n ys:=by
 obtain ⟨gf,lb,h1,h2,h3⟩:=hi
 exact ⟨gf,lb,h1,h2,fun l I H W g1 g2 g3 g4 g5=>h3 l I H W g1 g2 g3 (fun j H' W' hj a b m=>by rw [h j hj];exact g4 j H' W' hj a b m) g5⟩
set_option maxHeartbeats 4000000 in
theorem zkp (p:PrcX) (bv:Value) (S:PH) (hbv:SlR S p.blocks bv) (hp:p.Fit) (hE:∀b∈p.blocks,b.e.args.length≤20000000) :
  Tri Tryz.prog zt6 #[.agg (prcVs p bv).toArray] S fun x S'=>∃(fb ib:Nat) (ims:List Value) (sets:Nat→List Int) (Sf:PH),PH.le S Sf∧x=.returned (pAt fb)∧Held Sf S' [flowB fb p bv (.slice (some ⟨ib,0,none⟩) p.blocks.length p.blocks.length),inB ib ims]∧ims.length=p.blocks.length∧InsAt S Sf ims sets ∧
   (∀c,(sets c).Nodup)∧∀c y,c < p.blocks.length→(y∈sets c↔LiveB p y c):=by
 have hN:=hp.n
 obtain ⟨b0,c0,rfl⟩:=hbv.sl
 refine zqr (prcVs p (.slice b0 p.blocks.length c0)) (by kernel_rfl) (by kernel_rfl) ?_
 simp only [prcVs]
 refine zfb (n:=p.blocks.length) Z6h Z5d (by kernel_rfl) (by kernel_rfl) (by simp only [maxLen];omega) (by omega) (Held.nil (PH.le_refl S)) fun ib K1 h1 _=>?_
 have h1:=h1.rawBlk
 refine z34 (vs:=[.int .i64 p.params,.int .i64 p.holds,.int .i64 p.regs,.slice b0 p.blocks.length c0,.slice (some ⟨ib,0,none⟩) p.blocks.length p.blocks.length]) h1 (by kernel_rfl) fun fb K2 _ h2=>?_
 refine ⟨fun _=>rfl,?_⟩
 refine z0n [.slice (some ⟨ib,0,none⟩) p.blocks.length p.blocks.length] (off:=4) (by kernel_rfl) h2 (zms) rfl rfl ?_
 refine ⟨fun n vs K=>∃(k:Nat) (ims:List Value) (S':PH),vs=[nI k]∧k+n=p.blocks.length∧PH.le S S'∧ims.length=p.blocks.length∧Held S' K [flowB fb p (.slice b0 p.blocks.length c0) (.slice (some ⟨ib,0,none⟩) p.blocks.length p.blocks.length),inB ib ims] ∧
  ∀c v,c < k→ims[c]?=some v→SetR S' v []∧∀r,v=.map (some r)→S r=none,
  ⟨p.blocks.length,0,List.replicate p.blocks.length (.map none),S,rfl,by omega,PH.le_refl S,by simp,h2,fun c v h=>by omega⟩,?_⟩
 rintro n vs K _ ⟨k,ims,S1,rfl,hkn,l1,hil,h3,him⟩
 refine ⟨fun g=>?_,fun g=>?_⟩
 ·simp only [evs,evb,zdt] at g
  refine z0n [.slice (some ⟨ib,0,none⟩) p.blocks.length p.blocks.length] (off:=4) (by kernel_rfl) h3 (zms) rfl rfl ?_
  refine z8g fun ro hro=>?_
  have h4:=h3.new hro (.map #[] 0)
  obtain ⟨S5,l5,hset,hS0,h5⟩:=h4.freezeSet l1 zh2
  refine ⟨fun _=>?_,?_⟩
  ·simp only [Chk.holds,evs,evb];exact ⟨rfl,by omega,by omega⟩
  refine z0j (off:=k) (vs:=[.map (some ro)]) ?_ (h5.perm (List.Perm.swap _ _ _)) ?_ (by simp [oneC]) (by simp only [zlc,List.length_nil];omega) fun K6 h6=>?_
  ·simp only [evs,evb]
   simp [eltV,pOf,z0v,Addr.add_plain]
  ·simp only [evs,evb]
  rw [show ([Value.map (some ro)]).length=1 from rfl,zql ims k _ (by omega)] at h6
  refine ⟨_,z00,n - 1,by omega,k+1,ims.set k (.map (some ro)),S5,?_,by omega,PH.le_trans l1 l5,by simpa using hil,h6.perm (List.Perm.swap _ _ _),fun c v hc hv=>?_⟩
  ·simp only [evs,evb];rw [w64 (by omega) (by omega)];rfl
  ·rw [List.getElem?_set] at hv
   by_cases e:k=c
   ·subst e
    rw [if_pos rfl] at hv
    split at hv
    ·cases hv;exact ⟨hset,fun r h=>by cases h;exact hS0⟩
    ·cases hv
   ·rw [if_neg e] at hv
    obtain ⟨q1,q2⟩:=him c v (by omega) hv
    exact ⟨q1.le l5,q2⟩
 ·simp only [evs,evb,zdf] at g
  have him':InsAt S S1 ims fun _=>[]:=fun c v hv=>him c v (by have:=(List.getElem?_eq_some_iff.1 hv).1;omega) hv
  have hk0:sumS (fun _=>([]:List Int)) p.blocks.length=0:=by
   have:∀n,sumS (fun _=>([]:List Int)) n=0:=fun n=>by induction n with
    | zero=>rfl
    | succ n ih=>simp [sumS,ih]
   exact this _
  refine ⟨fun n vs K'=>∃(again:Bool) (ims:List Value) (sets:Nat→List Int) (S':PH),vs=[.bool again]∧n=p.blocks.length * p.regl.length - sumS sets p.blocks.length+(if again then 1 else 0)∧PH.le S S'∧ims.length=p.blocks.length∧Held S' K' [flowB fb p (.slice b0 p.blocks.length c0) (.slice (some ⟨ib,0,none⟩) p.blocks.length p.blocks.length),inB ib ims]∧InsAt S S' ims sets∧Grows p sets ∧
   (again=false→∀i,i < p.blocks.length→∃s,Step p sets i s∧s.length=(sets i).length),
   ⟨_,true,ims,fun _=>[],S1,rfl,rfl,l1,hil,h3,him',zzf p,fun h=>by cases h⟩,?_⟩
  rintro n vs K4 _ ⟨again,ims4,sets4,S4,rfl,rfl,l4,hil4,h4,him4,hg4,hst4⟩
  refine ⟨fun ga=>?_,fun ga=>?_⟩
  ·simp only [evs,evb] at ga
   subst ga
   have hsum4:=zqx hg4 p.blocks.length
   refine ⟨fun m vs K'=>∃(ch:Bool) (j:Nat) (ims':List Value) (sets':Nat→List Int) (S':PH),vs=[.bool ch,.int .i64 ((p.blocks.length:Int) - 1 - j)]∧j+m=p.blocks.length∧PH.le S S'∧ims'.length=p.blocks.length∧Held S' K' [flowB fb p (.slice b0 p.blocks.length c0) (.slice (some ⟨ib,0,none⟩) p.blocks.length p.blocks.length),inB ib ims']∧InsAt S S' ims' sets'∧Grows p sets' ∧
    sumS sets4 p.blocks.length≤sumS sets' p.blocks.length∧(ch=true→sumS sets4 p.blocks.length < sumS sets' p.blocks.length)∧(ch=false→∀i,p.blocks.length≤i+j→i < p.blocks.length→∃s,Step p sets' i s∧s.length=(sets' i).length),
    ⟨p.blocks.length,false,0,ims4,sets4,S4,?_,by omega,l4,hil4,h4,him4,hg4,Nat.le_refl _,fun h=>(by cases h),fun _ i h1 h2=>(by omega)⟩,?_⟩
   ·simp only [evs,evb]
    rw [w64 (by omega) (by omega)]
    simp
   rintro m vs K5 _ ⟨ch,j,ims5,sets5,S5,rfl,hjm,l5,hil5,h5,him5,hg5,hs1,hs2,hs3⟩
   refine ⟨fun gj=>?_,fun gj=>?_⟩
   ·simp only [evs,evb,zdt] at gj
    obtain ⟨i,hij⟩:∃i:Nat,(p.blocks.length:Int) - 1 - j=(i:Int):=⟨p.blocks.length - 1 - j,by omega⟩
    have hi:i < p.blocks.length:=by omega
    obtain ⟨b,hb⟩:∃b,p.blocks[i]?=some b:=⟨_,zge hi⟩
    rw [hij]
    refine ⟨fun vs K'=>∃(ch':Bool) (ims':List Value) (sets':Nat→List Int) (S':PH),vs=[.bool ch']∧PH.le S S'∧ims'.length=p.blocks.length∧Held S' K' [flowB fb p (.slice b0 p.blocks.length c0) (.slice (some ⟨ib,0,none⟩) p.blocks.length p.blocks.length),inB ib ims']∧InsAt S S' ims' sets'∧Grows p sets' ∧
     sumS sets4 p.blocks.length≤sumS sets' p.blocks.length∧(ch'=true→sumS sets4 p.blocks.length < sumS sets' p.blocks.length)∧(ch'=false→∀i,p.blocks.length≤i+(j+1)→i < p.blocks.length→∃s,Step p sets' i s∧s.length=(sets' i).length),?_,?_⟩
    ·rintro vs K6 _ ⟨ch',ims',sets',S',rfl,t1,t2,t3,t4,t5,t6,t7,t8⟩
     refine ⟨_,z00,m - 1,by omega,ch',j+1,ims',sets',S',?_,by omega,t1,t2,t3,t4,t5,t6,t7,t8⟩
     simp only [evs,evb]
     rw [w64 (by omega) (by omega)]
     congr 3;omega
    refine z02 zdc (zxh p _ fb ib ims5 sets5 i b S5 K5 (hbv.le l5) hb hN (Nat.le_trans (hE b (List.mem_of_getElem? hb)) (by omega)) hil5 (fun c v h=>(him5 c v h).1) h5) ?_
    rintro x K6 ⟨S6,ro,es6,cl6,s6,l6,rfl,h6,hs6,hm6⟩
    refine ⟨_,[.map (some ro)],rfl,rfl,rfl,z01,?_⟩
    refine z34 (vs:=[.map none]) h6 (by kernel_rfl) fun sb K7 _ h7=>?_
    refine z0j (off:=0) (vs:=[.map (some ro)]) (by kernel_rfl) h7 (by kernel_rfl) (by simp [oneC]) (by simp) fun K8 h8=>?_
    have h8:Held S6 K8 [bx sb 134 [.map (some ro)],.blk ro (.map es6 cl6),flowB fb p (.slice b0 p.blocks.length c0) (.slice (some ⟨ib,0,none⟩) p.blocks.length p.blocks.length),inB ib ims5]:=h8
    have l56:=PH.le_trans l5 l6
    obtain ⟨q1,_,ces,q2,q3⟩:=(hbv.le l56).get hb
    obtain ⟨iv,esv,rfl,his,hes⟩:=blk_iff.1 q2
    obtain ⟨b2,c2,rfl⟩:=his.sl
    refine ⟨fun _=>?_,[.slice b2 b.ins.length c2],rfl,?_,?_⟩
    ·simp only [Chk.holds,evs,evb];exact ⟨q1,by omega,by omega⟩
    ·simp only [evs,evb];exact z0a (z06 h8.sh q3) 0 1
    refine z02 z2l (h8.pure (R:=fun x S'=>∃q:Nat,x=.returned (.func (.func 91) #[] #[.pointer (some ⟨q,0,none⟩)])∧rowAt S' (some ⟨q,0,none⟩) [.slice b2 b.ins.length c2]) ((zlp b.ins _ S6 his).mono fun x S' ⟨q,t1,t2,t3⟩=>⟨t1,q,t2,t3⟩)) ?_
    rintro x K9 ⟨S9,l9,h9,q,rfl,hq⟩
    refine ⟨_,[.func (.func 91) #[] #[.pointer (some ⟨q,0,none⟩)]],rfl,rfl,rfl,z01,?_⟩
    obtain ⟨cells,hcells⟩:=(his.le l9).fn
    have hc8:∀j',j' < b.ins.length→(cells (b.ins.length - 1 - j')).length=8:=fun j' hj'=>by
     obtain ⟨y,hy⟩:∃y,b.ins[b.ins.length - 1 - j']?=some y:=⟨_,zge (by omega)⟩
     have:=(hcells _ y hy).1
     exact PV.RepRow.length this
    have hbl:=hp.ins b (List.mem_of_getElem? hb)
    refine ⟨S9,b.ins.length,fun j'=>nI (b.ins.length - 1 - j')::cells (b.ins.length - 1 - j'),fun j' H'=>∃(es:Array MapEntry) (cl:Nat) (s:List Int),Held S9 H' [bx sb 134 [.map (some ro)],.blk ro (.map es cl),flowB fb p (.slice b0 p.blocks.length c0) (.slice (some ⟨ib,0,none⟩) p.blocks.length p.blocks.length),inB ib ims5]∧SetAt es cl s∧∀y,y∈s↔thru y (b.ins.drop (b.ins.length - j')) (outS p sets5 b y),h9.sh,?_,?_,?_,?_,?_⟩
    ·refine Iter.congr (fun j' hj'=>?_) (zky b.ins S9 _ _ hq (his.le l9) (by omega) cells hcells)
     have:=hc8 j' hj'
     simp [z18,RS.pack,RS.tags,List.take_of_length_le,this]
    ·rintro j' H' ⟨es,cl,s,hh,_⟩;exact hh.sh
    ·exact ⟨es6,cl6,s6,h9,hs6,fun y=>by rw [Nat.sub_zero,List.drop_length];exact hm6 y⟩
    ·rintro j' H' hj' ⟨es,cl,s,hh,hs,hm⟩
     obtain ⟨y,hy⟩:∃y,b.ins[b.ins.length - 1 - j']?=some y:=⟨_,zge (by omega)⟩
     obtain ⟨hyc,_⟩:=hcells _ y hy
     have hyc':=hyc
     obtain ⟨av,dv,hcell,_,_,hya,_,_,_,hyd,_⟩:=ins_iff.1 hyc
     obtain ⟨ab,ac,rfl⟩:=hya.sl
     obtain ⟨db,dc,rfl⟩:=hyd.sl
     simp only [hcell]
     refine ⟨rfl,?_⟩
     refine z0n [.map (some ro)] (off:=0) (by kernel_rfl) hh (zms) rfl rfl ?_
     rw [hcell] at hyc'
     refine z02 zh6 (Held.call (P:=Tryz.prog) (f:=zb3) (args:=#[.map (some ro),.agg (List.toArray _)]) (J:=[.blk ro (.map es cl)]) (I:=[bx sb 134 [.map (some ro)],flowB fb p (.slice b0 p.blocks.length c0) (.slice (some ⟨ib,0,none⟩) p.blocks.length p.blocks.length),inB ib ims5])
      (R:=fun e S' J'=>S'=S9∧∃es' cl' s',e=.returned (.tuple #[])∧J'=[.blk ro (.map es' cl')]∧SetAt es' cl' s'∧∀z,z∈s'↔(z∈y.args∨(¬y.fills z∧z∈s))) (hh.perm (List.Perm.swap _ _ _))
      (fun K' hK=>(znn ro es cl s y _ S9 K' hyc' hK hs).mono fun e K'' ⟨es',cl',s',t1,t2,t3,t4⟩=>⟨S9,_,PH.le_refl _,t2,rfl,es',cl',s',t1,rfl,t3,t4⟩)) ?_
     rintro e K'' ⟨S',J',_,hh',rfl,es',cl',s',rfl,rfl,hs',hm'⟩
     refine ⟨_,[],rfl,rfl,rfl,z01,_,z00,es',cl',s',hh'.perm (List.Perm.swap _ _ _),hs',fun z=>?_⟩
     rw [hm',hm,zse hj' hy]
    ·rintro H' ⟨es,cl,s,hh,hs,hm⟩
     have hst:Step p sets5 i s:=⟨hs.nodup,fun y=>by
      rw [hm,Nat.sub_self,List.drop_zero]
      exact ⟨fun h=>⟨b,hb,h⟩,fun ⟨b',hb',h⟩=>by rw [hb] at hb';cases hb';exact h⟩⟩
     obtain ⟨mv,hmv⟩:∃mv,ims5[i]?=some mv:=⟨_,zge (by omega)⟩
     have hset:=(him5 i mv hmv).1.le (PH.le_trans l6 l9)
     obtain ⟨rt,est,clt,rfl,hrt,hst'⟩:=hset
     have hsl:=z0k hst.1 fun y hy=>z4z (p:=p) (i:=i) (at_:=0) (z2s (fun c hc=>hg5.live c y hc) ((hst.2 y).1 hy))
     have hsl2:=hg5.le i
     have hreg:=hp.regs
     refine z0n [.map (some ro)] (off:=0) (by kernel_rfl) hh (zms) rfl rfl ?_
     refine z0n [.slice (some ⟨ib,0,none⟩) p.blocks.length p.blocks.length] (off:=4) (by kernel_rfl) hh (zmm _ (zmm _ (zms))) rfl rfl ?_
     have hib:H' ib=some (.cells ims5.toArray 134 (0,0)):=hh.blk (zmm _ (zmm _ (zmm _ (zms))))
     refine ⟨fun _=>?_,[.map (some rt)],rfl,?_,?_⟩
     ·simp only [Chk.holds,evs,evb];exact ⟨rfl,by omega,by omega⟩
     ·simp only [evs,evb];exact zjp (n:=p.blocks.length) hib hmv
     refine zjv (α:=Int) (m:=encS s) (v:=.map (some ro)) rfl uSetK (by kernel_rfl) ⟨ro,es,cl,rfl,hh.blk (zmm _ (zms)),hs⟩ (by simp [encS];omega) ?_ ?_
     ·intro x hx
      simp only [List.mem_cons,List.not_mem_nil,or_false] at hx
      rcases hx with rfl | rfl
      ·simp only [evs,evb];exact zjp (n:=p.blocks.length) hib hmv
      ·simp only [evs,evb]
       exact zn6 (off:=4) (hh.blk (zmm _ (zmm _ (zms)))) 1
     refine zjv (α:=Int) (m:=encS (sets5 i)) (v:=.map (some rt)) rfl uSetK (by kernel_rfl) ⟨rt,est,clt,rfl,hh.sh _ _ hrt,hst'⟩ (by simp [encS];omega) z01 ?_
     have hSle:PH.le S S9:=PH.le_trans l56 l9
     refine ⟨fun gl=>?_,fun gl=>?_⟩
     ·simp only [evs,evb,zdt] at gl
      have hgt:(sets5 i).length < s.length:=by
       have h1:=z0k (hg5.nodup i) (hst.grown hg5)
       have h2:s.length≠(sets5 i).length:=fun e=>by simp [encS,e] at gl
       omega
      refine z0n [.slice (some ⟨ib,0,none⟩) p.blocks.length p.blocks.length] (off:=4) (by kernel_rfl) hh (zmm _ (zmm _ (zms))) rfl rfl ?_
      refine z0n [.map (some ro)] (off:=0) (by kernel_rfl) hh (zms) rfl rfl ?_
      obtain ⟨S10,l10,hset10,hS0,h10⟩:=Held.freezeSet hSle (hh.perm (List.Perm.swap _ _ _)) hs
      refine ⟨fun _=>?_,?_⟩
      ·simp only [Chk.holds,evs,evb];exact ⟨rfl,by omega,by omega⟩
      refine z0j (off:=i) (vs:=[.map (some ro)]) ?_ (h10.tail.perm (List.Perm.swap _ _ _)) ?_ (by simp [oneC]) (by simp only [zlc,List.length_nil];omega) fun K12 h12=>?_
      ·simp only [evs,evb]
       simp [eltV,pOf,z0v,Addr.add_plain]
      ·simp only [evs,evb]
      rw [show ([Value.map (some ro)]).length=1 from rfl,zql ims5 i _ (by omega)] at h12
      have hsum:=ztx (sets:=sets5) (s:=s) p.blocks.length hi
      exact ⟨_,z00,true,ims5.set i (.map (some ro)),putF sets5 i s,S10,rfl,PH.le_trans hSle l10,by simpa using hil5,h12.perm (List.Perm.swap _ _ _),(him5.le (PH.le_trans (PH.le_trans l6 l9) l10)).set hset10 hS0,hg5.put hst,by omega,fun _=>by omega,fun h=>by cases h⟩
     ·simp only [evs,evb,zdf] at gl
      have heq:s.length=(sets5 i).length:=by
       have:¬((s.length:Int)≠((sets5 i).length:Int)):=by simpa [encS] using gl
       omega
      refine ⟨_,z00,ch,ims5,sets5,S9,rfl,hSle,hil5,hh.tail.tail,him5.le (PH.le_trans l6 l9),hg5,hs1,hs2,fun hc k hk1 hk2=>?_⟩
      by_cases e:k=i
      ·subst e;exact ⟨s,hst,heq⟩
      ·exact hs3 hc k (by omega) hk2
   ·simp only [evs,evb,zdf] at gj
    have hjN:j=p.blocks.length:=by omega
    have hsum5:=zqx hg5 p.blocks.length
    refine ⟨_,rfl,_,?_,ch,ims5,sets5,S5,rfl,rfl,l5,hil5,h5,him5,hg5,fun hc i hi=>hs3 hc i (by omega) hi⟩
    cases ch with
    | true=>have:=hs2 rfl;simp only [if_true];omega
    | false=>simp only [if_true,Bool.false_eq_true,if_false];omega
  ·simp only [evs,evb] at ga
   subst ga
   refine ⟨fb,ib,ims4,sets4,S4,l4,rfl,h4,hil4,him4,hg4.nodup,fun c y _=>hg4.all (hst4 rfl)⟩
theorem Z1i {p:PrcX} {l:List Int} {c:Nat} (hn:l.Nodup) (hm:∀y,y∈l↔LiveB p y c):sortI l=liveL p c 0:=by
 refine zbn (z7r hn) (zbt p c 0) fun x=>?_
 rw [z90,hm,liveL_mem,liveB_iff]
theorem zwa {p:PrcX} {l:List Int} {c a:Nat} (hn:l.Nodup) (hm:∀y,y∈l↔z0p p y c a):sortI l=liveL p c a:=by
 refine zbn (z7r hn) (zbt p c a) fun x=>?_
 rw [z90,hm,liveL_mem]
theorem zrh {p:PrcX} {l:List Int} (hp:p.Fit) (hn:l.Nodup) (hm:∀y∈l,y∈p.regl):l.length≤20000000:=
 Nat.le_trans (z0k hn hm) hp.regs
set_option maxHeartbeats 1000000 in
theorem Z4x (p:PrcX) (bv:Value) (S:PH) (hbv:SlR S p.blocks bv) (hp:p.Fit) (hE:∀b∈p.blocks,b.e.args.length≤20000000) :
  Tri Tryz.prog Z1y #[.agg (prcVs p bv).toArray] S fun x S'=>PH.le S S'∧∃v,x=.returned v∧SlR S' (inL p) v:=by
 have hN:=hp.n
 have hbv0:=hbv
 obtain ⟨b0,c0,rfl⟩:=hbv.sl
 refine zwz (prcVs p (.slice b0 p.blocks.length c0)) (by kernel_rfl) (by kernel_rfl) ?_
 simp only [prcVs]
 refine z02 zbb (zkp p (.slice b0 p.blocks.length c0) S hbv hp hE) ?_
 rintro x K1 ⟨fb,ib,ims,sets,Sf,lf,rfl,h1,hil,him,hnd,hmem⟩
 refine ⟨_,[pAt fb],rfl,rfl,rfl,z01,?_⟩
 refine ⟨fun _=>rfl,?_⟩
 refine z0n [.slice (some ⟨ib,0,none⟩) p.blocks.length p.blocks.length] (off:=4) (by kernel_rfl) h1 (zms) rfl rfl ?_
 have h2:=h1.empty (α:=List Int) 31
 refine ⟨fun n vs K=>∃(k:Nat) (v:Value) (S':PH),vs=[v,nI k]∧k+n=p.blocks.length∧PH.le Sf S'∧Held S' K [orow 31 ((List.range k).map fun i=>liveL p i 0) v,flowB fb p (.slice b0 p.blocks.length c0) (.slice (some ⟨ib,0,none⟩) p.blocks.length p.blocks.length),inB ib ims],
  ⟨p.blocks.length,0,.slice none 0 0,Sf,rfl,by omega,PH.le_refl _,by simpa using h2⟩,?_⟩
 rintro n vs K _ ⟨k,v,S1,rfl,hkn,l1,h3⟩
 refine ⟨fun g=>?_,fun g=>?_⟩
 ·simp only [evs,evb,zdt] at g
  have hk:k < p.blocks.length:=by omega
  obtain ⟨mv,hmv⟩:∃mv,ims[k]?=some mv:=⟨_,zge (by omega)⟩
  obtain ⟨rt,est,clt,rfl,hrt,hst⟩:=(him k mv hmv).1
  have hib:K ib=some (.cells ims.toArray 134 (0,0)):=h3.blk (zmm _ (zmm _ (zms)))
  have hreg:∀y∈sets k,y∈p.regl:=fun y hy=>z4z (zjy ((hmem k y hk).1 hy))
  refine ⟨fun _=>?_,[.map (some rt)],rfl,?_,?_⟩
  ·simp only [Chk.holds,evs,evb];exact ⟨rfl,by omega,by omega⟩
  ·simp only [evs,evb];exact zjp (n:=p.blocks.length) hib hmv
  refine z02 z3g (zk3 rt est clt (sets k) S1 K _ h3 (.inl (l1 _ _ hrt)) hst (fun y hy=>zov hbv0 y (hreg y hy)) (Nat.le_trans (zrh hp (hnd k) hreg) (by omega))) ?_
  rintro x K2 ⟨S2,wv,l2,rfl,hwv,h4⟩
  rw [Z1i (hnd k) fun y=>hmem k y hk] at hwv
  obtain ⟨b3,c3,rfl⟩:=hwv.sl
  refine ⟨_,[.slice b3 (liveL p k 0).length c3],rfl,rfl,rfl,z01,?_⟩
  refine z0m (more:=[liveL p k 0]) (b:=24) [.slice b3 (liveL p k 0).length c3] zxv zsq rfl (by decide) (by decide) h4 (by kernel_rfl) (.cons (zn4 hwv) .nil) z01 (fun _=>by kernel_rfl) (fun _=>by kernel_rfl)
   (by simp only [maxLen,zlc,List.length_nil,List.length_map,List.length_range];omega) (by simp only [zlc,List.length_nil,List.length_map,List.length_range];omega) fun u v' S4 K4 l4 h5=>⟨z01,_,z00,n - 1,by omega,k+1,v',S4,?_,by omega,PH.le_trans l1 (PH.le_trans l2 l4),by rw [List.range_succ,List.map_append];exact h5⟩
  simp only [evs,evb]
  rw [w64 (by omega) (by omega)];rfl
 ·simp only [evs,evb,zdf] at g
  have:k=p.blocks.length:=by omega
  subst this
  obtain ⟨S3,s3,l3,h5⟩:=h3.freeze
  exact ⟨PH.le_trans lf (PH.le_trans l1 (PH.le_trans l3 h5.sh)),v,rfl,s3.le h5.sh⟩
set_option maxHeartbeats 1000000 in
theorem zxc (p:PrcX) (bv:Value) (block:Int) (S:PH) (hbv:SlR S p.blocks bv) (hp:p.Fit) (hE:∀b∈p.blocks,b.e.args.length≤20000000) :
  Tri Tryz.prog zth #[.agg (prcVs p bv).toArray,.int .i64 block] S fun x S'=>PH.le S S'∧∃v,x=.returned v∧SlR S' (z1w p block) v:=by
 have hN:=hp.n
 have hbv0:=hbv
 obtain ⟨b0,c0,rfl⟩:=hbv.sl
 refine zpo (prcVs p (.slice b0 p.blocks.length c0)++[.int .i64 block]) (by kernel_rfl) (by kernel_rfl) ?_
 simp only [prcVs,List.cons_append,List.nil_append]
 refine ⟨fun g=>?_,fun g=>?_⟩
 ·simp only [evs,evb] at g
  simp only [Bool.or_eq_true,zdt] at g
  exact ⟨PH.le_refl S,_,rfl,by rw [zv4 (by omega)];exact z4i S⟩
 simp only [evs,evb] at g
 simp only [Bool.or_eq_false_iff,zdf] at g
 obtain ⟨i,rfl⟩:∃i:Nat,block=(i:Int):=⟨block.toNat,by omega⟩
 have hi:i < p.blocks.length:=by omega
 obtain ⟨b,hb⟩:∃b,p.blocks[i]?=some b:=⟨_,zge hi⟩
 rw [zq4 hb]
 obtain ⟨q1,_,ces,q2,q3⟩:=hbv.get hb
 obtain ⟨iv,es,rfl,his,hes⟩:=blk_iff.1 q2
 obtain ⟨av,rfl,e1,e2,hea,e3,e4,e5⟩:=end_iff.1 hes
 obtain ⟨b3,c3,rfl⟩:=hea.sl
 refine ⟨fun _=>?_,[.int .i64 b.e.kind,.int .i64 b.e.reg,.slice b3 b.e.args.length c3,.int .i64 b.e.to,.int .i64 b.e.next,.int .i64 b.e.els],rfl,?_,?_⟩
 ·simp only [Chk.holds,evs,evb];exact ⟨q1,by omega,by omega⟩
 ·simp only [evs,evb];exact z0a q3 1 6
 refine z05 [.bool b.e.calls] zks (znt b.e _ S hea) rfl z01 fun K1 l1=>⟨fun g1=>?_,fun g1=>?_⟩
 ·simp only [evs,evb] at g1
  simp only [Bool.or_eq_true,Bool.not_eq_true',zdt] at g1
  refine ⟨l1,_,rfl,?_⟩
  have:¬b.crosses p.blocks.length:=by
   rintro ⟨h1,h2,h3⟩
   rw [h1] at g1
   rcases g1 with (g1 | g1) | g1
   ·cases g1
   ·omega
   ·omega
  rw [if_neg this]
  exact z4i K1
 ·simp only [evs,evb] at g1
  simp only [Bool.or_eq_false_iff,Bool.not_eq_false',zdf] at g1
  obtain ⟨⟨g2,g3⟩,g4⟩:=g1
  have hc:b.crosses p.blocks.length:=⟨g2,by omega,by omega⟩
  rw [if_pos hc]
  obtain ⟨m,hm⟩:∃m:Nat,b.e.next=(m:Int):=⟨b.e.next.toNat,by omega⟩
  have hmN:m < p.blocks.length:=by omega
  rw [hm,Int.toNat_natCast]
  refine z02 zbb (zkp p (.slice b0 p.blocks.length c0) K1 (hbv.le l1) hp hE) ?_
  rintro x K2 ⟨fb,ib,ims,sets,Sf,lf,rfl,h1,hil,him,hnd,hmem⟩
  obtain ⟨mv,hmv⟩:∃mv,ims[m]?=some mv:=⟨_,zge (by omega)⟩
  have hno:=(him m mv hmv).2
  obtain ⟨rt,est,clt,rfl,hrt,hst⟩:=(him m mv hmv).1
  have hK1:K1 rt=none:=hno rt rfl
  have hib:K2 ib=some (.cells ims.toArray 134 (0,0)):=h1.blk (zmm _ (zms))
  have hreg:∀y∈sets m,y∈p.regl:=fun y hy=>z4z (zjy ((hmem m y hmN).1 hy))
  refine ⟨_,[pAt fb],rfl,rfl,rfl,z01,?_⟩
  refine ⟨fun _=>rfl,?_⟩
  refine z0n [.slice (some ⟨ib,0,none⟩) p.blocks.length p.blocks.length] (off:=4) (by kernel_rfl) h1 (zms) rfl rfl ?_
  refine ⟨fun _=>?_,[.map (some rt)],rfl,?_,?_⟩
  ·simp only [Chk.holds,evs,evb];exact ⟨rfl,by omega,by omega⟩
  ·simp only [evs,evb];exact zjp (n:=p.blocks.length) hib hmv
  have hown:Held K1 K2 [.blk rt (.map est clt)]:=⟨PH.le_trans lf h1.sh,fun i hi=>by rw [List.mem_singleton.1 hi];exact h1.sh _ _ hrt,fun i hi g hg=>by
   rw [List.mem_singleton.1 hi] at hg
   simp only [Itm.ob,Option.some.injEq] at hg
   subst hg;exact hK1,List.pairwise_singleton _ _⟩
  refine z02 z4b (zhn rt est clt (sets m) b.e.to K1 K2 hown hst) ?_
  rintro x K3 ⟨es3,cl3,rfl,h3,hs3⟩
  refine ⟨_,[],rfl,rfl,rfl,z01,?_⟩
  have hreg3:∀y∈(sets m).filter (fun y=>decide (y≠b.e.to)),y∈p.regl:=fun y hy=>hreg y (List.mem_filter.1 hy).1
  refine z02 z3g (zk3 rt es3 cl3 _ K1 K3 _ h3 (.inr (zms)) hs3 (fun y hy=>zov (hbv0.le l1) y (hreg3 y hy)) (Nat.le_trans (zrh hp hs3.nodup hreg3) (by omega))) ?_
  rintro x K4 ⟨S4,wv,l4,rfl,hwv,h4⟩
  have heq:sortI ((sets m).filter fun y=>decide (y≠b.e.to))=(liveL p m 0).filter fun x=>decide (x≠b.e.to):=by
   refine zbn (z7r hs3.nodup) ((zbt p m 0).sublist List.filter_sublist) fun x=>?_
   rw [z90,List.mem_filter,List.mem_filter,hmem m x hmN,liveL_mem,liveB_iff]
  rw [heq] at hwv
  obtain ⟨b6,c6,rfl⟩:=hwv.sl
  exact ⟨_,[_],rfl,rfl,rfl,z01,PH.le_trans l1 (PH.le_trans l4 h4.sh),_,rfl,hwv.le h4.sh⟩
structure RevAt {α:Type} (l m:List α) (i:Nat):Prop where
 len:m.length=l.length
 at_:∀t,t < l.length→m[t]?=if t < i∨l.length≤t+i then l[l.length - 1 - t]? else l[t]?
theorem RevAt.first {α:Type} (l:List α):RevAt l l 0:=⟨rfl,fun t h=>by rw [if_neg (by omega)]⟩
theorem RevAt.step {α:Type} {l m:List α} {i:Nat} {a b:α} (h:RevAt l m i) (hi:2 * i+1 < l.length) (ha:m[i]?=some a) (hb:m[l.length - 1 - i]?=some b):RevAt l ((m.set i b).set (l.length - 1 - i) a) (i+1):=by
 have ha':=h.at_ i (by omega)
 have hb':=h.at_ (l.length - 1 - i) (by omega)
 rw [if_neg (by omega)] at ha' hb'
 refine ⟨by simpa using h.len,fun t ht=>?_⟩
 rw [List.getElem?_set,List.length_set,h.len,List.getElem?_set,h.len]
 by_cases e1:l.length - 1 - i=t
 ·rw [if_pos e1,if_pos (by omega),if_pos (by omega),←ha,ha']
  congr 1;omega
 ·rw [if_neg e1]
  by_cases e2:i=t
  ·rw [if_pos e2,if_pos (by omega),if_pos (by omega),←hb,hb']
   congr 1;omega
  ·rw [if_neg e2,h.at_ t ht]
   by_cases e3:t < i∨l.length≤t+i
   ·rw [if_pos e3,if_pos (by omega)]
   ·rw [if_neg e3,if_neg (by omega)]
theorem RevAt.done {α:Type} {l m:List α} {i:Nat} (h:RevAt l m i) (hi:l.length≤2 * i+1):m=l.reverse:=by
 refine List.ext_getElem? fun t=>?_
 by_cases ht:t < l.length
 ·rw [List.getElem?_reverse ht,h.at_ t ht]
  by_cases e:t < i∨l.length≤t+i
  ·rw [if_pos e]
  ·rw [if_neg e];congr 1;omega
 ·rw [List.getElem?_eq_none (by rw [h.len];omega),List.getElem?_eq_none (by rw [List.length_reverse];omega)]
set_option maxHeartbeats 1000000 in
theorem zwu (l:List (List Int)) (v:Value) (S K:PH) (I:List Itm) (h:Held S K (orow 31 l v::I)) (hl:l.length≤40000000) :
  Tri Tryz.prog z9s #[v] K fun x K'=>x=.returned (.tuple #[])∧Held S K' (orow 31 l.reverse v::I):=by
 obtain ⟨b,c,rfl⟩:=(h.row (zms)).sl
 refine z8d [.slice b l.length c] (by kernel_rfl) (by kernel_rfl) ?_
 refine ⟨fun n vs K'=>∃(i:Nat) (m:List (List Int)),vs=[nI i,.int .i64 ((l.length:Int) - 1 - i)]∧n=l.length - i∧i≤l.length∧RevAt l m i∧Held S K' (orow 31 m (.slice b l.length c)::I),⟨_,0,l,?_,rfl,by omega,RevAt.first l,h⟩,?_⟩
 ·simp only [evs,evb]
  rw [w64 (by omega) (by omega)]
  simp
 rintro n vs K1 _ ⟨i,m,rfl,rfl,hil,hr,h1⟩
 refine ⟨fun g=>?_,fun g=>?_⟩
 ·simp only [evs,evb,zdt] at g
  have hi2:2 * i+1 < l.length:=by omega
  obtain ⟨k,hk⟩:∃k:Nat,(l.length:Int) - 1 - i=(k:Int):=⟨l.length - 1 - i,by omega⟩
  have hk':k=l.length - 1 - i:=by omega
  rw [hk]
  obtain ⟨a,ha⟩:∃a,m[i]?=some a:=⟨_,zge (by rw [hr.len];omega)⟩
  obtain ⟨z,hz⟩:∃z,m[k]?=some z:=⟨_,zge (by rw [hr.len];omega)⟩
  obtain ⟨a1,_,acs,a2,a3⟩:=(h1.row (zms)).get ha
  obtain ⟨z1,_,zcs,z2,z3⟩:=(h1.row (zms)).get hz
  obtain ⟨av,rfl,a4⟩:=csLK a2
  obtain ⟨zv,rfl,z4⟩:=csLK z2
  have a4':=a4
  have z4':=z4
  obtain ⟨ab,ac,rfl⟩:=a4'.sl
  obtain ⟨zb,zc,rfl⟩:=z4'.sl
  refine ⟨fun _=>?_,[.slice zb z.length zc],rfl,?_,fun _=>?_,[.slice ab a.length ac],rfl,?_,?_⟩
  ·simp only [Chk.holds,evs,evb];exact ⟨z1,by omega,by omega⟩
  ·simp only [evs,evb];exact z3
  ·simp only [Chk.holds,evs,evb];exact ⟨a1,by omega,by omega⟩
  ·simp only [evs,evb];exact a3
  refine z1t (i:=i) (a:=a) (a':=z) (us:=[.slice zb z.length zc]) ?_ h1 ha rfl ?_ (by simp [oneC]) (zn4 z4) fun K2 h2=>?_
  ·simp only [evs,evb];rfl
  ·simp only [evs,evb]
  have hz':(m.set i z)[k]?=some z:=by
   rw [List.getElem?_set,if_neg (by omega)];exact hz
  refine z1t (i:=k) (a:=z) (a':=a) (us:=[.slice ab a.length ac]) ?_ h2 hz' rfl ?_ (by simp [oneC]) (zn4 a4) fun K3 h3=>?_
  ·simp only [evs,evb];rfl
  ·simp only [evs,evb]
  refine ⟨_,z00,l.length - (i+1),by omega,i+1,(m.set i z).set k a,?_,rfl,by omega,?_,h3⟩
  ·simp only [evs,evb]
   rw [w64 (by omega) (by omega),w64 (by omega) (by omega)]
   congr 2
   congr 1
   omega
  ·subst hk';exact hr.step hi2 ha hz
 ·simp only [evs,evb,zdf] at g
  have:=hr.done (by omega)
  subst this
  exact ⟨rfl,h1⟩
noncomputable def backL (p:PrcX) (i n j:Nat):List (List Int):=(List.range j).map fun t=>liveL p i (n - t)
theorem Z10 (p:PrcX) (i:Nat) (b:BlkX):(backL p i b.ins.length b.ins.length).reverse=behL p i b:=by
 unfold backL behL
 refine List.ext_getElem? fun t=>?_
 by_cases ht:t < b.ins.length
 ·rw [List.getElem?_reverse (by simpa using ht),List.length_map,List.length_range,List.getElem?_map,List.getElem?_map,List.getElem?_range (by omega),List.getElem?_range ht]
  simp only [Option.map_some]
  congr 2;omega
 ·rw [List.getElem?_eq_none (by simp;omega),List.getElem?_eq_none (by simp;omega)]
theorem zru {p:PrcX} {sets:Nat→List Int} (hmem:∀c y,c < p.blocks.length→(y∈sets c↔LiveB p y c)) (b:BlkX) (y:Int):outS p sets b y↔z6o b.e p.blocks.length y (LiveB p y):=by
 unfold outS z6o
 constructor
 ·rintro (h | ⟨h1,c,h2,h3⟩)
  ·exact .inl h
  ·have hc:c < p.blocks.length:=by have:=(List.mem_filter.1 h2).2;simp at this;omega
   exact .inr ⟨h1,c,h2,(hmem c y hc).1 h3⟩
 ·rintro (h | ⟨h1,c,h2,h3⟩)
  ·exact .inl h
  ·have hc:c < p.blocks.length:=by have:=(List.mem_filter.1 h2).2;simp at this;omega
   exact .inr ⟨h1,c,h2,(hmem c y hc).2 h3⟩
theorem Z1d {p:PrcX} {sets:Nat→List Int} (hmem:∀c y,c < p.blocks.length→(y∈sets c↔LiveB p y c)) {i:Nat} {b:BlkX} (hb:p.blocks[i]?=some b) (k:Nat) (y:Int):thru y (b.ins.drop k) (outS p sets b y)↔z0p p y i k:=by
 constructor
 ·exact fun h=>⟨b,hb,z54 (zru hmem b y).1 h⟩
 ·rintro ⟨b',hb',h⟩
  rw [hb] at hb';cases hb'
  exact z54 (zru hmem b y).2 h
set_option maxHeartbeats 4000000 in
theorem zx1 (p:PrcX) (bv:Value) (block:Int) (S:PH) (hbv:SlR S p.blocks bv) (hp:p.Fit) (hE:∀b∈p.blocks,b.e.args.length≤20000000) :
  Tri Tryz.prog zt9 #[.agg (prcVs p bv).toArray,.int .i64 block] S fun x S'=>PH.le S S'∧∃v,x=.returned v∧SlR S' (z8x p block) v:=by
 have hN:=hp.n
 have hbv0:=hbv
 obtain ⟨b0,c0,rfl⟩:=hbv.sl
 refine zpn (prcVs p (.slice b0 p.blocks.length c0)++[.int .i64 block]) (by kernel_rfl) (by kernel_rfl) ?_
 simp only [prcVs,List.cons_append,List.nil_append]
 refine ⟨fun g=>?_,fun g=>?_⟩
 ·simp only [evs,evb] at g
  simp only [Bool.or_eq_true,zdt] at g
  refine ⟨PH.le_refl S,_,rfl,?_⟩
  have:z8x p block=[]:=by
   unfold z8x
   by_cases h0:block < 0
   ·rw [if_pos h0]
   ·rw [if_neg h0,List.getElem?_eq_none (by omega)]
  rw [this]
  exact z4i S
 simp only [evs,evb] at g
 simp only [Bool.or_eq_false_iff,zdf] at g
 obtain ⟨i,rfl⟩:∃i:Nat,block=(i:Int):=⟨block.toNat,by omega⟩
 have hi:i < p.blocks.length:=by omega
 obtain ⟨b,hb⟩:∃b,p.blocks[i]?=some b:=⟨_,zge hi⟩
 have hbe:z8x p (i:Int)=behL p i b:=by
  unfold z8x
  rw [if_neg (by omega),Int.toNat_natCast,hb]
 rw [hbe]
 have hbl:=hp.ins b (List.mem_of_getElem? hb)
 refine z02 zbb (zkp p (.slice b0 p.blocks.length c0) S hbv hp hE) ?_
 rintro x K1 ⟨fb,ib,ims,sets,Sf,lf,rfl,h1,hil,him,hnd,hmem⟩
 refine ⟨_,[pAt fb],rfl,rfl,rfl,z01,?_⟩
 refine z02 zdc (zxh p _ fb ib ims sets i b Sf K1 (hbv.le lf) hb hN (Nat.le_trans (hE b (List.mem_of_getElem? hb)) (by omega)) hil (fun c v h=>(him c v h).1) h1) ?_
 rintro x K2 ⟨S2,ro,es2,cl2,s2,l2,rfl,h2,hs2,hm2⟩
 refine ⟨_,[.map (some ro)],rfl,rfl,rfl,z01,?_⟩
 refine z34 (vs:=[.map none]) h2 (by kernel_rfl) fun sb K3 _ h3=>?_
 refine z0j (off:=0) (vs:=[.map (some ro)]) (by kernel_rfl) h3 (by kernel_rfl) (by simp [oneC]) (by simp) fun K4 h4=>?_
 have h4:Held S2 K4 [bx sb 134 [.map (some ro)],.blk ro (.map es2 cl2),flowB fb p (.slice b0 p.blocks.length c0) (.slice (some ⟨ib,0,none⟩) p.blocks.length p.blocks.length),inB ib ims]:=h4
 refine z34 (vs:=[.slice none 0 0]) (h4.sub (J:=[bx sb 134 [.map (some ro)],.blk ro (.map es2 cl2)]) ((List.sublist_append_left [bx sb 134 [.map (some ro)],.blk ro (.map es2 cl2)] _))) (by kernel_rfl) fun ob K5 _ h5=>?_
 have h5:=h5.empty (α:=List Int) 31
 obtain ⟨q1,_,ces,q2,q3⟩:=(hbv.le (PH.le_trans lf l2)).get hb
 obtain ⟨iv,esv,rfl,his,hes⟩:=blk_iff.1 q2
 obtain ⟨b2,c2,rfl⟩:=his.sl
 refine ⟨fun _=>?_,[.slice b2 b.ins.length c2],rfl,?_,?_⟩
 ·simp only [Chk.holds,evs,evb];exact ⟨q1,by omega,by omega⟩
 ·simp only [evs,evb];exact z0a (z06 h5.sh q3) 0 1
 refine z02 z2l (h5.pure (R:=fun x S'=>∃q:Nat,x=.returned (.func (.func 91) #[] #[.pointer (some ⟨q,0,none⟩)])∧rowAt S' (some ⟨q,0,none⟩) [.slice b2 b.ins.length c2]) ((zlp b.ins _ S2 his).mono fun x S' ⟨q,t1,t2,t3⟩=>⟨t1,q,t2,t3⟩)) ?_
 rintro x K9 ⟨S9,l9,h9,q,rfl,hq⟩
 refine ⟨_,[.func (.func 91) #[] #[.pointer (some ⟨q,0,none⟩)]],rfl,rfl,rfl,z01,?_⟩
 obtain ⟨cells,hcells⟩:=(his.le l9).fn
 have hc8:∀j',j' < b.ins.length→(cells (b.ins.length - 1 - j')).length=8:=fun j' hj'=>by
  obtain ⟨y,hy⟩:∃y,b.ins[b.ins.length - 1 - j']?=some y:=⟨_,zge (by omega)⟩
  have:=(hcells _ y hy).1
  exact PV.RepRow.length this
 refine ⟨S9,b.ins.length,fun j'=>nI (b.ins.length - 1 - j')::cells (b.ins.length - 1 - j'),fun j' H'=>∃(es:Array MapEntry) (cl:Nat) (s:List Int) (v:Value) (S':PH),PH.le S9 S'∧Held S' H' [orow 31 (backL p i b.ins.length j') v,bx ob 105 [v],bx sb 134 [.map (some ro)],.blk ro (.map es cl)]∧SetAt es cl s∧∀y,y∈s↔thru y (b.ins.drop (b.ins.length - j')) (outS p sets b y),h9.sh,?_,?_,?_,?_,?_⟩
 ·refine Iter.congr (fun j' hj'=>?_) (zky b.ins S9 _ _ hq (his.le l9) (by omega) cells hcells)
  have:=hc8 j' hj'
  simp [z18,RS.pack,RS.tags,List.take_of_length_le,this]
 ·rintro j' H' ⟨es,cl,s,v,S',l',hh,_⟩;exact PH.le_trans l' hh.sh
 ·exact ⟨es2,cl2,s2,.slice none 0 0,S9,PH.le_refl _,by simpa [backL] using h9,hs2,fun y=>by rw [Nat.sub_zero,List.drop_length];exact hm2 y⟩
 ·rintro j' H' hj' ⟨es,cl,s,v,S',l',hh,hs,hm⟩
  obtain ⟨y,hy⟩:∃y,b.ins[b.ins.length - 1 - j']?=some y:=⟨_,zge (by omega)⟩
  obtain ⟨hyc,_⟩:=hcells _ y hy
  have hyc':=hyc
  obtain ⟨av,dv,hcell,_,_,hya,_,_,_,hyd,_⟩:=ins_iff.1 hyc
  obtain ⟨ab,ac,rfl⟩:=hya.sl
  obtain ⟨db,dc,rfl⟩:=hyd.sl
  simp only [hcell]
  rw [hcell] at hyc'
  obtain ⟨vb,vc,rfl⟩:=(hh.row (zms)).sl
  have hml:∀z,z∈s↔z0p p z i (b.ins.length - j'):=fun z=>by rw [hm,Z1d hmem hb]
  have hreg:∀z∈s,z∈p.regl:=fun z hz=>z4z ((hml z).1 hz)
  have hbk:(backL p i b.ins.length j').length=j':=by simp [backL]
  refine ⟨rfl,?_⟩
  refine z0n [.slice vb (backL p i b.ins.length j').length vc] (off:=0) (by kernel_rfl) hh (zmm _ (zms)) rfl rfl ?_
  refine z0n [.map (some ro)] (off:=0) (by kernel_rfl) hh (zmm _ (zmm _ (zms))) rfl rfl ?_
  refine z02 z3g (zk3 ro es cl s S' H' _ hh (.inr (by simp)) hs (fun z hz=>zov hbv0 z (hreg z hz)) (Nat.le_trans (zrh hp hs.nodup hreg) (by omega))) ?_
  rintro x K10 ⟨S10,wv,l10,rfl,hwv,h10⟩
  rw [zwa hs.nodup hml] at hwv
  obtain ⟨b3,c3,rfl⟩:=hwv.sl
  refine ⟨_,[.slice b3 (liveL p i (b.ins.length - j')).length c3],rfl,rfl,rfl,?_,?_⟩
  ·intro x hx
   rw [List.mem_singleton.1 hx]
   exact zm1 h10 (zmm _ (zms)) 0 1
  have hst:backL p i b.ins.length (j'+1)=backL p i b.ins.length j'++[liveL p i (b.ins.length - j')]:=by unfold backL;rw [List.range_succ,List.map_append];rfl
  refine z0m (more:=[liveL p i (b.ins.length - j')]) (b:=24) [.slice b3 (liveL p i (b.ins.length - j')).length c3] zxv zsq rfl (by decide) (by decide) h10 (by kernel_rfl) (.cons (zn4 hwv) .nil) ?_ (fun _=>by kernel_rfl) (fun _=>by kernel_rfl)
   (by rw [hbk];simp only [maxLen,zlc,List.length_nil];omega) (by rw [hbk];simp only [zlc,List.length_nil];omega) fun u v' S11 K11 l11 h11=>⟨z01,?_⟩
  ·intro x hx
   rw [List.mem_singleton.1 hx]
   exact zm1 h10 (zmm _ (zms)) 0 1
  rw [←hst] at h11
  obtain ⟨vb',vc',rfl⟩:=(h11.row (zms)).sl
  refine z0j (off:=0) (vs:=[.slice vb' (backL p i b.ins.length (j'+1)).length vc']) (by kernel_rfl) (h11.perm (List.Perm.swap _ _ _)) (by kernel_rfl) (by simp [oneC]) (by simp) fun K12 h12=>?_
  have h12:Held S11 K12 [bx ob 105 [.slice vb' (backL p i b.ins.length (j'+1)).length vc'],orow 31 (backL p i b.ins.length (j'+1)) (.slice vb' (backL p i b.ins.length (j'+1)).length vc'),bx sb 134 [.map (some ro)],.blk ro (.map es cl)]:=h12
  refine z0n [.map (some ro)] (off:=0) (by kernel_rfl) h12 (zmm _ (zmm _ (zms))) rfl rfl ?_
  have hperm:[bx ob 105 [.slice vb' (backL p i b.ins.length (j'+1)).length vc'],orow 31 (backL p i b.ins.length (j'+1)) (.slice vb' (backL p i b.ins.length (j'+1)).length vc'),bx sb 134 [.map (some ro)],.blk ro (.map es cl)].Perm ([.blk ro (.map es cl)]++[orow 31 (backL p i b.ins.length (j'+1)) (.slice vb' (backL p i b.ins.length (j'+1)).length vc'),bx ob 105 [.slice vb' (backL p i b.ins.length (j'+1)).length vc'],bx sb 134 [.map (some ro)]]):=by
   refine (List.Perm.swap _ _ _).trans ?_
   exact (List.perm_append_comm (l₁:=[orow 31 (backL p i b.ins.length (j'+1)) (.slice vb' (backL p i b.ins.length (j'+1)).length vc'),bx ob 105 [.slice vb' (backL p i b.ins.length (j'+1)).length vc'],bx sb 134 [.map (some ro)]]) (l₂:=[.blk ro (.map es cl)]))
  have lS:PH.le S' S11:=PH.le_trans l10 l11
  refine z02 zh6 (Held.call (P:=Tryz.prog) (f:=zb3) (args:=#[.map (some ro),.agg (List.toArray _)]) (J:=[.blk ro (.map es cl)]) (I:=[orow 31 (backL p i b.ins.length (j'+1)) (.slice vb' (backL p i b.ins.length (j'+1)).length vc'),bx ob 105 [.slice vb' (backL p i b.ins.length (j'+1)).length vc'],bx sb 134 [.map (some ro)]])
   (R:=fun e S'' J'=>S''=S11∧∃es' cl' s',e=.returned (.tuple #[])∧J'=[.blk ro (.map es' cl')]∧SetAt es' cl' s'∧∀z,z∈s'↔(z∈y.args∨(¬y.fills z∧z∈s))) (h12.perm hperm)
   (fun K' hK=>(znn ro es cl s y _ S11 K' (PV.RepRow.le (PH.le_trans l' lS) hyc') hK hs).mono fun e K'' ⟨es',cl',s',t1,t2,t3,t4⟩=>⟨S11,_,PH.le_refl _,t2,rfl,es',cl',s',t1,rfl,t3,t4⟩)) ?_
  rintro e K'' ⟨S'',J',_,hh',rfl,es',cl',s',rfl,rfl,hs',hm'⟩
  refine ⟨_,[],rfl,rfl,rfl,z01,_,z00,es',cl',s',.slice vb' (backL p i b.ins.length (j'+1)).length vc',S'',PH.le_trans l' lS,hh'.perm ?_,hs',fun z=>?_⟩
  ·exact List.perm_append_comm (l₁:=[.blk ro (.map es' cl')]) (l₂:=[orow 31 (backL p i b.ins.length (j'+1)) (.slice vb' (backL p i b.ins.length (j'+1)).length vc'),bx ob 105 [.slice vb' (backL p i b.ins.length (j'+1)).length vc'],bx sb 134 [.map (some ro)]])
  ·rw [hm',hm,zse hj' hy]
 ·rintro H' ⟨es,cl,s,v,S',l',hh,hs,hm⟩
  obtain ⟨vb,vc,rfl⟩:=(hh.row (zms)).sl
  have hbk:(backL p i b.ins.length b.ins.length).length=b.ins.length:=by simp [backL]
  refine z0n [.slice vb (backL p i b.ins.length b.ins.length).length vc] (off:=0) (by kernel_rfl) hh (zmm _ (zms)) rfl rfl ?_
  refine z02 z8j (zwu _ _ S' H' _ hh (by rw [hbk];omega)) ?_
  rintro x K13 ⟨rfl,h13⟩
  refine ⟨_,[],rfl,rfl,rfl,z01,?_⟩
  refine z0n [.slice vb (backL p i b.ins.length b.ins.length).length vc] (off:=0) (by kernel_rfl) h13 (zmm _ (zms)) rfl rfl ?_
  rw [Z10] at h13
  obtain ⟨S14,s14,l14,h14⟩:=h13.freeze
  exact ⟨PH.le_trans lf (PH.le_trans l2 (PH.le_trans l9 (PH.le_trans l' (PH.le_trans l14 h14.sh)))),_,rfl,s14.le h14.sh⟩
end Go.Proofs.YtofbhllknefloaaGreat.Vc
namespace Go.Proofs.YtofbhllknefloaaGreat.Vc
open Go Go.ChangeShapes Go.WideShapes Go.ChangeAt Go.RowKit
noncomputable def insFields:Array Field:=match Tryz.prog.underlying 57 with
 | some (.struct fs)=>fs
 | _=>#[]
theorem uInsS:Tryz.prog.underlying 57=some (.struct insFields):=by kernel_rfl
theorem insF:insFields.toList.map (fun f=>(f.type,f.offset))=[(9,0),(3,1),(31,2),(39,3),(3,7)]:=by kernel_rfl
theorem cInsC:Tryz.prog.cellsOf 57=8:=by kernel_rfl
noncomputable def endFields:Array Field:=match Tryz.prog.underlying 52 with
 | some (.struct fs)=>fs
 | _=>#[]
theorem uEndS:Tryz.prog.underlying 52=some (.struct endFields):=by kernel_rfl
theorem endF:endFields.toList.map (fun f=>(f.type,f.offset))=[(3,0),(3,1),(31,2),(3,3),(3,4),(3,5)]:=by kernel_rfl
theorem cEndC:Tryz.prog.cellsOf 52=6:=by kernel_rfl
noncomputable def blkFields:Array Field:=match Tryz.prog.underlying 54 with
 | some (.struct fs)=>fs
 | _=>#[]
theorem uBlkS:Tryz.prog.underlying 54=some (.struct blkFields):=by kernel_rfl
theorem blkF:blkFields.toList.map (fun f=>(f.type,f.offset))=[(50,0),(52,1)]:=by kernel_rfl
theorem cBlkC:Tryz.prog.cellsOf 54=7:=by kernel_rfl
noncomputable def prcFields:Array Field:=match Tryz.prog.underlying 30 with
 | some (.struct fs)=>fs
 | _=>#[]
theorem uPrcS:Tryz.prog.underlying 30=some (.struct prcFields):=by kernel_rfl
theorem prcF:prcFields.toList.map (fun f=>(f.type,f.offset))=[(3,0),(3,1),(3,2),(28,3)]:=by kernel_rfl
theorem cPrcC:Tryz.prog.cellsOf 30=4:=by kernel_rfl
theorem Z0u:Tryz.prog.cellsOf 31=1:=by kernel_rfl
theorem Z69:Tryz.prog.cellsOf 50=1:=by kernel_rfl
theorem Z6j:Tryz.prog.cellsOf 28=1:=by kernel_rfl
theorem Z05 {H:Type} {enc:TypeId×Value→H} {w:World} (fuel:Nat):Opens (α:=InsX) enc Tryz.prog w InsX.wt 57 fuel:=by
 intro cs d ps h
 obtain ⟨xs,n,rfl,rfl,hc,hl,hi⟩:=z5p uInsS insF h
 rw [cInsC] at hc
 match xs,hl with
 | [x0,x1,x2,x3,x4],_=>
 match cs,hc with
 | [c0,c1,c2,c3,c4,c5,c6,c7],_=>
 have t0:=hi 0 9 0 x0 rfl rfl
 have t1:=hi 1 3 1 x1 rfl rfl
 have t2:=hi 2 31 2 x2 rfl rfl
 have t3:=hi 3 39 3 x3 rfl rfl
 have t4:=hi 4 3 7 x4 rfl rfl
 rw [cStr] at t0
 rw [cInt] at t1 t4
 rw [Z0u] at t2
 rw [cDat] at t3
 obtain ⟨s,hs,hsw⟩:=zsw zej n _ _ _ t0
 obtain ⟨k,hk,hkw⟩:=z1u uInt n _ _ _ t1
 obtain ⟨l,v,hlv,hls,hlw⟩:=z5r (α:=Int) (wt:=fun _=>1) z0q cInt (fun j hj=>z1u uInt j) t2
 obtain ⟨dd,hd,hdw⟩:=Z08 n _ _ _ t3
 obtain ⟨m,hm,hmw⟩:=z1u uInt n _ _ _ t4
 have hv:c2=v:=by simpa using hlv
 subst hv
 obtain ⟨rfl,hs1⟩:=csTxt hs
 obtain ⟨rfl,hk1⟩:=csInt hk
 obtain ⟨rfl,hm1⟩:=csInt hm
 obtain ⟨dv,hdv,hd1,hd2,hd3,hd4⟩:=Dat.Rep_iff.1 hd
 simp only [List.take_succ_cons,List.take_zero,List.drop_succ_cons,List.drop_zero,List.cons.injEq,and_true] at hdv
 obtain ⟨rfl,rfl,rfl,rfl⟩:=hdv
 refine ⟨⟨s,k,l,dd,m⟩,ins_iff.2 ⟨_,_,rfl,hs1,hk1,hls,hd1,hd2,hd3,hd4,hm1⟩,?_⟩
 simp only at hkw hmw hsw hdw
 simp only [InsX.wt,ziw,Rows.uptoBulk,Rows.uptoBulkAll,List.map_cons,List.map_nil]
 omega
theorem Z22 {H:Type} {enc:TypeId×Value→H} {w:World} (fuel:Nat):Opens (α:=EndX) enc Tryz.prog w EndX.wt 52 fuel:=by
 intro cs d ps h
 obtain ⟨xs,n,rfl,rfl,hc,hl,hi⟩:=z5p uEndS endF h
 rw [cEndC] at hc
 match xs,hl with
 | [x0,x1,x2,x3,x4,x5],_=>
 match cs,hc with
 | [c0,c1,c2,c3,c4,c5],_=>
 have t0:=hi 0 3 0 x0 rfl rfl
 have t1:=hi 1 3 1 x1 rfl rfl
 have t2:=hi 2 31 2 x2 rfl rfl
 have t3:=hi 3 3 3 x3 rfl rfl
 have t4:=hi 4 3 4 x4 rfl rfl
 have t5:=hi 5 3 5 x5 rfl rfl
 rw [cInt] at t0 t1 t3 t4 t5
 rw [Z0u] at t2
 obtain ⟨k0,hk0,w0⟩:=z1u uInt n _ _ _ t0
 obtain ⟨k1,hk1,w1⟩:=z1u uInt n _ _ _ t1
 obtain ⟨l,v,hlv,hls,hlw⟩:=z5r (α:=Int) (wt:=fun _=>1) z0q cInt (fun j hj=>z1u uInt j) t2
 obtain ⟨k3,hk3,w3⟩:=z1u uInt n _ _ _ t3
 obtain ⟨k4,hk4,w4⟩:=z1u uInt n _ _ _ t4
 obtain ⟨k5,hk5,w5⟩:=z1u uInt n _ _ _ t5
 have hv:c2=v:=by simpa using hlv
 subst hv
 obtain ⟨rfl,h0⟩:=csInt hk0
 obtain ⟨rfl,h1⟩:=csInt hk1
 obtain ⟨rfl,h3⟩:=csInt hk3
 obtain ⟨rfl,h4⟩:=csInt hk4
 obtain ⟨rfl,h5⟩:=csInt hk5
 refine ⟨⟨k0,k1,l,k3,k4,k5⟩,end_iff.2 ⟨_,rfl,h0,h1,hls,h3,h4,h5⟩,?_⟩
 simp only at w0 w1 w3 w4 w5
 simp only [EndX.wt,ziw,Rows.uptoBulk,Rows.uptoBulkAll,List.map_cons,List.map_nil]
 omega
theorem Z0x {H:Type} {enc:TypeId×Value→H} {w:World} (fuel:Nat):Opens (α:=BlkX) enc Tryz.prog w BlkX.wt 54 fuel:=by
 intro cs d ps h
 obtain ⟨xs,n,rfl,rfl,hc,hl,hi⟩:=z5p uBlkS blkF h
 rw [cBlkC] at hc
 match xs,hl with
 | [x0,x1],_=>
 match cs,hc with
 | [c0,c1,c2,c3,c4,c5,c6],_=>
 have t0:=hi 0 50 0 x0 rfl rfl
 have t1:=hi 1 52 1 x1 rfl rfl
 rw [Z69] at t0
 rw [cEndC] at t1
 obtain ⟨l,v,hlv,hls,hlw⟩:=z5r (α:=InsX) (wt:=InsX.wt) zpw cInsC (fun j hj=>Z05 j) t0
 obtain ⟨e,he,hew⟩:=Z22 n _ _ _ t1
 have hv:c0=v:=by simpa using hlv
 subst hv
 refine ⟨⟨l,e⟩,blk_iff.2 ⟨_,_,rfl,hls,he⟩,?_⟩
 simp only [BlkX.wt,Rows.uptoBulk,Rows.uptoBulkAll,List.map_cons,List.map_nil]
 omega
theorem Z0g {H:Type} {enc:TypeId×Value→H} {w:World} (fuel:Nat):Opens (α:=PrcX) enc Tryz.prog w PrcX.wt 30 fuel:=by
 intro cs d ps h
 obtain ⟨xs,n,rfl,rfl,hc,hl,hi⟩:=z5p uPrcS prcF h
 rw [cPrcC] at hc
 match xs,hl with
 | [x0,x1,x2,x3],_=>
 match cs,hc with
 | [c0,c1,c2,c3],_=>
 have t0:=hi 0 3 0 x0 rfl rfl
 have t1:=hi 1 3 1 x1 rfl rfl
 have t2:=hi 2 3 2 x2 rfl rfl
 have t3:=hi 3 28 3 x3 rfl rfl
 rw [cInt] at t0 t1 t2
 rw [Z6j] at t3
 obtain ⟨k0,hk0,w0⟩:=z1u uInt n _ _ _ t0
 obtain ⟨k1,hk1,w1⟩:=z1u uInt n _ _ _ t1
 obtain ⟨k2,hk2,w2⟩:=z1u uInt n _ _ _ t2
 obtain ⟨l,v,hlv,hls,hlw⟩:=z5r (α:=BlkX) (wt:=BlkX.wt) zq1 cBlkC (fun j hj=>Z0x j) t3
 have hv:c3=v:=by simpa using hlv
 subst hv
 obtain ⟨rfl,h0⟩:=csInt hk0
 obtain ⟨rfl,h1⟩:=csInt hk1
 obtain ⟨rfl,h2⟩:=csInt hk2
 refine ⟨⟨k0,k1,k2,l⟩,prc_iff.2 ⟨_,rfl,h0,h1,h2,hls⟩,?_⟩
 simp only at w0 w1 w2
 simp only [PrcX.wt,Rows.uptoBulk,Rows.uptoBulkAll,List.map_cons,List.map_nil]
 omega
theorem Z3f {H:Type} {enc:TypeId×Value→H} {w:World} {v:Value} {d:DataW H} {p:List MemPlace} {r:Reach} {b:Nat} (hval:Value.okWide Tryz.prog w r b 3 v) (h:DataW.Trod enc Tryz.prog w 0 (fun _=>true) true 3 v d p) :
  ∃n:Int,v=.int .i64 n∧InI n:=by
 obtain ⟨n,rfl,rfl,rfl,hw⟩:=open_int (k:=.i64) (by kernel_rfl) hval h
 refine ⟨n,rfl,?_⟩
 simpa [Lit.wf,IntKind.min,IntKind.max,IntKind.bits,IntKind.signed,InI] using hw
theorem zmx:∀l:List Int,sumWt (fun _=>1) l=l.length
 | []=>rfl
 | a::l=>by simp only [sumWt,zlc,zmx l];omega
theorem zm8 {α:Type} (f:α→Nat):∀{l:List α} {a:α},a∈l→f a≤sumWt f l
 | b::l,a,h=>by
  simp only [sumWt]
  rcases List.mem_cons.1 h with rfl | h
  ·omega
  ·have:=zm8 f h;omega
theorem zk8 {α:Type} (f:α→Nat) (hf:∀a,1≤f a):∀l:List α,l.length≤sumWt f l
 | []=>Nat.le_refl _
 | a::l=>by
  have:=zk8 f hf l
  have:=hf a
  simp only [sumWt,zlc];omega
theorem zk4 {α:Type} (f:α→Nat) (g:α→List Int) (h:∀a,(g a).length≤f a):∀l:List α,(l.flatMap g).length≤sumWt f l
 | []=>Nat.le_refl _
 | a::l=>by
  have:=zk4 f g h l
  have:=h a
  simp only [sumWt,List.flatMap_cons,zla];omega
theorem InsX.args_wt (x:InsX):x.args.length+1≤x.wt:=by
 unfold InsX.wt ziw;rw [zmx];omega
theorem EndX.regs_wt (e:EndX):e.regs.length≤e.wt:=by
 unfold EndX.wt ziw EndX.regs;rw [zmx,zla]
 have h1:(if e.reads e.reg=true then [e.reg] else []).length≤1:=by split<;>simp
 have h2:(if e.kind=3∨e.kind=4 then e.args else []).length≤e.args.length:=by split<;>simp
 omega
theorem BlkX.regs_wt (b:BlkX):b.regs.length≤b.wt:=by
 have h1:=zk4 InsX.wt (·.args) (fun x=>by have:=x.args_wt;omega) b.ins
 have h2:=b.e.regs_wt
 unfold BlkX.regs BlkX.wt
 rw [zla];omega
theorem PrcX.fit_wt {p:PrcX} (h:p.wt≤1048576):p.Fit∧∀b∈p.blocks,b.e.args.length≤20000000:=by
 unfold PrcX.wt at h
 have h1:∀b:BlkX,1≤b.wt:=fun b=>by unfold BlkX.wt;omega
 refine ⟨⟨?_,fun b hb=>?_,?_⟩,fun b hb=>?_⟩
 ·have:=zk8 BlkX.wt h1 p.blocks;omega
 ·have h2:=zm8 BlkX.wt hb
  have h3:=zk8 InsX.wt (fun x=>by have:=x.args_wt;omega) b.ins
  have h4:b.wt=sumWt InsX.wt b.ins+1+b.e.wt:=rfl
  omega
 ·have:=zk4 BlkX.wt BlkX.regs BlkX.regs_wt p.blocks
  unfold PrcX.regl;omega
 ·have h2:=zm8 BlkX.wt hb
  have h4:b.wt=sumWt InsX.wt b.ins+1+b.e.wt:=rfl
  have h5:b.e.wt=1+1+(sumWt (fun _=>1) b.e.args+1)+1+1+1:=rfl
  rw [zmx] at h5;omega
theorem zmv {p:PrcX} {i a:Nat} {l:List Int} (hl:l.Pairwise (· < ·)) (h:∀x,z0p p x i a↔x∈l):liveL p i a=l:=
 zbn (zbt p i a) hl fun x=>by rw [liveL_mem,h]
instance decFills (x:InsX) (r:Int):Decidable (x.fills r):=by unfold InsX.fills;exact inferInstance
theorem z0s {n m:Nat} {J J':List Value→PH→Prop} {L:LK} (h:(n == m)=false) (hl:L.lookup n=some J):((m,J')::L).lookup n=some J:=by simp [List.lookup,h,hl]
theorem Z4y {p:PrcX} {i:Nat} (hi:i < p.blocks.length):(inL p)[i]?=some (liveL p i 0):=by
 unfold inL
 rw [List.getElem?_map,List.getElem?_range hi];rfl
theorem zuc {p:PrcX} {i k:Nat} {b:BlkX} (hk:k < b.ins.length):(behL p i b)[k]?=some (liveL p i (k+1)):=by
 unfold behL
 rw [List.getElem?_map,List.getElem?_range hk];rfl
theorem Z2v (p:PrcX) (i:Nat) (b:BlkX):(behL p i b).length=b.ins.length:=by simp [behL]
theorem zxq (l:List UInt8):cmpS .eql ⟨l.toArray⟩ ⟨#[116,105,101]⟩=decide (l=tieB):=by
 show ((⟨l.toArray⟩:ByteArray).toList == (⟨tieB.toArray⟩:ByteArray).toList)=_
 rw [zl8]
theorem InI0:InI 0:=by decide
def inR (p:PrcX) (r:Int):Bool:=decide (0≤r∧r < p.regs)
def EndX.uses (e:EndX):List Int:=if e.kind=1∨e.kind=2∨e.kind=5 then [e.reg] else if e.kind=3 then e.reg::e.args else if e.kind=4 then e.reg::e.to::e.args else if e.kind=6 then [e.reg,e.to] else []
def InsX.may (p:PrcX) (x:InsX):Bool:=x.args.all (inR p) && (decide (x.op=tieB) || inR p x.to)
def BlkX.may (p:PrcX) (b:BlkX):Bool:=b.ins.all (InsX.may p) && b.e.uses.all (inR p)
def z4p (p:PrcX):Bool:=!(decide (p.regs < 0) || decide (p.regs > 2000) || decide (p.params < 0) || decide (p.params > p.regs) || decide ((p.blocks.length:Int)=0))
def mayP (p:PrcX):Bool:=z4p p && p.blocks.all (BlkX.may p)
theorem z8i {α:Type} (f:α→Bool) {l:List α} {k:Nat} {a:α} (h:l[k]?=some a):(l.take (k+1)).all f=((l.take k).all f && f a):=by
 rw [List.take_add_one,h,List.all_append];simp
end Go.Proofs.YtofbhllknefloaaGreat.Vc
