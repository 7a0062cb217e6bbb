import Derived.Test.YtfkclejklgoccaaGreatPk
import Derived.Lib.ItoaNum
import Derived.Lib.LaidTab
set_option linter.unusedSimpArgs false
set_option linter.unusedVariables false
set_option maxRecDepth 100000
set_option maxHeartbeats 1000000
namespace Go.Proofs.YtfkclejklgoccaaGreat.Vc
open Go
theorem Zk5:ElemOk zP 5 1 1=true:=kr
instance decInI(n:Int):Decidable (InI n):=inferInstanceAs (Decidable (_∧_))
open Go Go.ChangeShapes Go.WideShapes Go.ChangeAt Go.RowKit
theorem uInt:Tryz.prog.underlying 3=some (.int .i64):=kr
theorem cInt:Tryz.prog.cellsOf 3=1:=kr
theorem Zae:laidOutB zP=true:=kr
theorem Z3y:mapsRowed zP=true:=kr
theorem Zih:Kids zP (· < Tryz.prog.types.size):=kids_rows Zae Z3y
theorem Zjp:∀t e,t<Tryz.prog.types.size→Tryz.prog.underlying t=some (.slice e)→0<Tryz.prog.cellsOf e:=slices_full_of zP kr
noncomputable instance decDat:DecidableEq Dat:=fun a b=>Classical.propDecidable (a=b)
noncomputable instance decDats:DecidableEq (List Dat):=fun a b=>Classical.propDecidable (a=b)
theorem Dat.eq_iff{a b:Dat}:a=b↔a.kind=b.kind∧a.int=b.int∧a.text=b.text∧a.list=b.list:=by
 cases a;cases b;simp[Dat.kind,Dat.int,Dat.text,Dat.list]
theorem Zdf{P:Program}{X:List PanicEntry→PH→Prop}{α:Type}{E:List Value}{H:PH}{L:LK}{K:α→List Value→PH→LK→Prop}{i f:Nat}{args:List VE}{rs:RS}{pend:List (SV×List SV)}{k:Fm α}(vs:List Value)(hi:E.getD i (.bool false)=.func (.func f) #[] #[])(hok:callB P f=true)
  (hc:Gives P f (args.map (evV E fun _=>0)) H (rs.pack vs)) (ht:z07 rs.tags vs=true) (hp:z0s E H pend) (hk:∀H',PH.le H H'→den P X k (E++vs) H' L K):den P X (.call (.atom i) args rs pend k) E H L K:=by
 refine⟨f,#[],#[],hi,zkd hok,?_⟩;have e:(#[]:Array Value)++(args.map (evV E fun _=>0)).toArray++#[]=(args.map (evV E fun _=>0)).toArray:=sM;rw[e];exact Tri.mono hc fun e H'⟨he,hl⟩=>by subst he;exact⟨vs,ht,rfl,z3h hp hl,hk H' hl⟩
theorem Z6m{l m:List Dat}{k:Nat}{a b:Dat}(h:l.take k=m.take k)(ha:l[k]?=some a)(hb:m[k]?=some b)(hab:a=b):l.take (k+1)=m.take (k+1):=by
 rw[q9,q9,h,ha,hb,hab]
def Zft(f:FuncId)(a:Dat):Prop:=∀(b:Dat)(ca cb:List Value)(H:PH),a.Rep H ca→b.Rep H cb→Gives zP f [.agg ca.toArray,.agg cb.toArray] H (.bool (decide (a=b)))
theorem zyo(l m:List Dat)(va vb:Value)(H:PH)(hl:SlR H l va)(hm:SlR H m vb)(ih:∀e∈l,Zft 167 e):
  Gives zP 199 [va,vb,.func (.func 167) #[] #[]] H (.bool (decide (l=m))):=by
 obtain⟨b1,c1,rfl⟩:=hl.sl;obtain⟨b2,c2,rfl⟩:=hm.sl;have m1:=hl.max;have m2:=hm.max;simp only[maxLen]at m1 m2;refine qr z2i [.slice b1 l.length c1,.slice b2 m.length c2,.func (.func 167) #[] #[]] ?_;refine⟨fun h=>?_,fun h=>?_⟩
 .simp only[wy,zdt]at h;refine⟨?_,wx H⟩;have:¬l=m:=fun e=>h (by rw[e]);simp only[wy,qY this]
 simp only[wy,zdf,ne_eq,Decidable.not_not]at h;have hlen:l.length=m.length:=om;refine⟨fun n vs H'=>∃k:Nat,vs=[.bool false,vi k]∧k+n=l.length∧l.take k=m.take k∧PH.le H H',⟨l.length,0,rfl,om,sM,wx H⟩,?_⟩;rintro n vs H' _ ⟨k,rfl,hkn,htk,hle⟩;refine⟨fun h5=>?_,fun h5=>?_⟩
 .simp only[wy,zdt]at h5;obtain⟨e,he⟩:∃e,l[k]?=some e:=⟨_,zge (show k<l.length by omega)⟩;obtain⟨e',he'⟩:∃e,m[k]?=some e:=⟨_,zge (show k<m.length by omega)⟩;obtain⟨g1,ces,g2,g3,_,_⟩:=SlRep.get (hl.le hle) he;obtain⟨g1',ces',g2',g3',_,_⟩:=SlRep.get (hm.le hle) he';have htags:=g2.tags;have htags':=g2'.tags;have hcall:=ih e (zmg he) e' ces ces' H' g2 g2';obtain⟨sve,rfl,_⟩:=Dat.Rep_iff.1 g2;obtain⟨sve',rfl,_⟩:=Dat.Rep_iff.1 g2';refine⟨fun _=>?_,_,htags,by simp only[wy];exact g3,fun _=>?_,_,htags',by simp only[wy];exact g3',?_⟩
  .simp only[Chk.holds,wy];exact⟨g1,om,om⟩
  .simp only[Chk.holds,wy];exact⟨g1',om,om⟩
  refine Zdf [.bool (decide (e=e'))] rfl (qb 167) hcall rfl z01 fun H2 h2=>⟨fun h6=>?_,fun h6=>?_⟩
  .simp only[wy,qy,zdf]at h6;refine⟨?_,ww hle h2⟩;have:¬l=m:=fun x=>h6 (by subst x;rw[he]at he';exact qW he');simp only[wy,qY this]
  .simp only[wy,qU,zdt]at h6;refine⟨_,z00,n-1,om,k+1,?_,om,Z6m htk he he' h6,ww hle h2⟩;simp only[wy];rw[w64 om om];rfl
 .simp only[wy,zdf]at h5;refine⟨?_,hle⟩;have:l=m:=by rw[ztl om,ztl om]at htk;exact htk
  simp only[wy,qX this]
theorem Z93:∀a,Zft 167 a:=by
 refine Dat.ind ?_;intro a ih b ca cb H ha hb;obtain⟨s1,rfl,_,_,_,hs1⟩:=Dat.Rep_iff.1 ha;obtain⟨s2,rfl,_,_,_,hs2⟩:=Dat.Rep_iff.1 hb;have hcall:=zyo a.list b.list s1 s2 H hs1 hs2 ih;obtain⟨b1,c1,rfl⟩:=hs1.sl;obtain⟨b2,c2,rfl⟩:=hs2.sl;refine qr Z0v [vi a.kind,vi a.int,txt a.text,.slice b1 a.list.length c1,vi b.kind,vi b.int,txt b.text,.slice b2 b.list.length c2] ?_;refine⟨fun vs H'=>vs=[.bool (decide (a=b))]∧PH.le H H',?_,?_⟩
 .rintro vs H' _ ⟨rfl,h⟩;exact⟨rfl,h⟩
 refine⟨fun h=>?_,fun h=>?_⟩
 .simp only[wy,z0m]at h;simp only[zba,zdt]at h;refine z03 [.bool (decide (a.list=b.list))] (qb 199) hcall rfl z01 fun H2 h2=>⟨_,z00,?_,h2⟩;have:(a=b)↔a.list=b.list:=by rw[Dat.eq_iff];simp[h.1.1,h.1.2,h.2]
  simp only[wy,decide_eq_decide.2 this]
 .simp only[wy,z0m]at h;refine⟨_,z00,?_,wx H⟩;have:¬a=b:=fun e=>by subst e;simp at h
  simp only[wy,qY this]
theorem repI_iff{H:PH}{n:Int}{v:Value}:PV.Rep H (.int .i64 n) v↔v=.int .i64 n∧InI n:=by
 simp only[PV.Rep];exact⟨fun h=>⟨h.1,inI64.1 h.2⟩,fun h=>⟨h.1,inI64.2 h.2⟩⟩
theorem zvh{H:PH}{s:List UInt8}{v:Value}:PV.Rep H (.str s) v↔v=txt s∧s.length≤maxLen:=by
 simp only[PV.Rep]
abbrev nI(j:Nat):Value:=.int .i64 (j:Int)
theorem csIK{H:PH}{a:Int}{cs:List Value}(h:CsR H a cs):cs=[vi a]∧InI a:=by
 have h':PV.RepRow H [.int .i64 a] cs:=h;simp only[PV.RepRow,repI_iff]at h';obtain⟨v,vs,rfl,⟨rfl,h1⟩,rfl⟩:=h';exact⟨rfl,h1⟩
theorem Zet{H:PH}{b:Bool}{v:Value}:PV.Rep H (.bool b) v↔v=.bool b:=by simp only[PV.Rep]
structure InsR where
 op:Int
 a:Int
 b:Int
 c:Int
 n:Int
deriving DecidableEq
structure ItemR where
 kind:Int
 x:InsR
 label:Int
 n:Int
deriving DecidableEq
structure W32 where
 n:Int
deriving DecidableEq
structure FrmR where
 a:Bool
 b:Bool
 c:Bool
 bits:Nat
 least:Int
 most:Int
deriving DecidableEq
def oneF:FrmR:=⟨true,false,false,0,0,0⟩
def z2w:FrmR:=⟨true,true,true,0,0,0⟩
def withF:FrmR:=⟨true,true,false,16,-32768,32767⟩
def zcl:FrmR:=⟨true,true,false,16,0,65535⟩
def farF:FrmR:=⟨true,true,false,16,0,63⟩
def z20:FrmR:=⟨true,true,false,10,-512,511⟩
def rowsR:List FrmR:=
  [oneF,z2w,z2w,z2w,z2w,z2w,z2w,z2w,z2w,z2w,z2w,z2w,z2w,z2w,z2w,
   withF,zcl,zcl,farF,farF,⟨true,false,false,16,-32768,32767⟩,⟨true,false,false,16,0,65535⟩,withF,withF,
   z20,z20,z20,z20,⟨true,false,false,21,-1048576,1048575⟩,⟨true,true,false,0,0,0⟩,oneF,oneF]
def frmR(op:Int):FrmR:=rowsR.getD op.toNat oneF
def regR(n:Int)(has:Bool):Bool:=if has=true then decide (0≤n)&&decide (n≤31)else decide (n=0)
def wordR(x:InsR)(m:Int):Int:=x.op*67108864+x.a*2097152+x.b*65536+x.c*2048+m
def fitsR(x:InsR):Bool:=regR x.a (frmR x.op).a&&regR x.b (frmR x.op).b&&regR x.c (frmR x.op).c&&decide ((frmR x.op).least≤x.n)&&decide (x.n≤(frmR x.op).most)
def encR(x:InsR):Option Int:=
 if x.op<0∨32≤x.op then none
 else if fitsR x=true then some (wordR x (if x.n<0 then x.n+2^(frmR x.op).bits else x.n))
 else none
def numOf(f:FrmR)(w:Int):Int:=
 if f.bits=0 then 0
 else if f.most<w%2^f.bits∧f.least<0 then w%2^f.bits-2^f.bits
 else w%2^f.bits
def z7s(w:Int):InsR:=
 ⟨w/67108864,w/2097152%32,if(frmR (w/67108864)).b=true then w/65536%32 else 0,if(frmR (w/67108864)).c=true then w/2048%32 else 0,numOf (frmR (w/67108864)) w⟩
def decR(w:Int):Option InsR:=
 if 32≤w/67108864 then none
 else if encR (z7s w)=some w then some (z7s w)
 else none
structure MaR where
 value:Int
 steps:Int
 pc:Int
 regs:List Int
 mem:List Int
 input:List UInt8
 out:List UInt8
def MaR.reg(m:MaR)(r:Int):Int:=m.regs.getD r.toNat 0
def MaR.put(m:MaR)(r v:Int)(to:Int):MaR:={ m with regs:=if r=0 then m.regs else m.regs.set r.toNat v,pc:=to,steps:=m.steps+1 }
def MaR.goes(m:MaR)(to:Int):MaR:={ m with pc:=to,steps:=m.steps+1 }
def u64(n:Int):Int:=IntKind.u64.wrap n
def mulhR(b c:Int):Int:=(b*c).fdiv (2^64)
def thrR(op b c:Int):Int:=
 if op=1 then arI .add .i64 b c
 else if op=2 then arI .sub .i64 b c
 else if op=3 then arI .mul .i64 b c
 else if op=4 then mulhR b c
 else if op=5 then arI .quo .i64 b c
 else if op=6 then b.tmod c
 else if op=7 then arI .and .i64 b c
 else if op=8 then arI .or .i64 b c
 else if op=9 then arI .xor .i64 b c
 else if op=10 then arI .shl .i64 b (arI .and .i64 c 63)
 else if op=11 then arI .shr .i64 b (arI .and .i64 c 63)
 else if op=12 then IntKind.i64.wrap (arI .shr .u64 (u64 b) (arI .and .i64 c 63))
 else if op=13 then(if b<c then 1 else 0)
 else if u64 b<u64 c then 1 else 0
def z3j(op a b:Int):Bool:=(decide (op=24)&&decide (a=b))||(decide (op=25)&&decide (a≠b))||(decide (op=26)&&decide (a<b))||(decide (op=27)&&decide (b≤a))
def stR(m:MaR)(x:InsR):Int×MaR:=
  if x.op=0 then(0,{ m with value:=m.reg x.a,steps:=m.steps+1 })
  else if(x.op=5∨x.op=6)∧m.reg x.c=0 then(4,m)
  else if x.op=15 then(6,m.put x.a (arI .add .i64 (m.reg x.b) x.n) (m.pc+1))
  else if x.op=16 then(6,m.put x.a (arI .and .i64 (m.reg x.b) x.n) (m.pc+1))
  else if x.op=17 then(6,m.put x.a (arI .or .i64 (m.reg x.b) x.n) (m.pc+1))
  else if x.op=18 then(6,m.put x.a (arI .shl .i64 (m.reg x.b) x.n) (m.pc+1))
  else if x.op=19 then(6,m.put x.a (arI .shr .i64 (m.reg x.b) x.n) (m.pc+1))
  else if x.op=20 then(6,m.put x.a x.n (m.pc+1))
  else if x.op=21 then(6,m.put x.a (arI .or .i64 (arI .mul .i64 (m.reg x.a) 65536) x.n) (m.pc+1))
  else if x.op=22∨x.op=23 then
    (if arI .add .i64 (m.reg x.b) x.n < 0∨(m.mem.length:Int)≤arI .add .i64 (m.reg x.b) x.n then (2,m)
     else if x.op=23 then(6,{ m.goes (m.pc+1)with mem:=m.mem.set (arI .add .i64 (m.reg x.b) x.n).toNat (m.reg x.a) })
     else(6,m.put x.a (m.mem.getD (arI .add .i64 (m.reg x.b) x.n).toNat 0) (m.pc+1)))
  else if x.op=24∨x.op=25∨x.op=26∨x.op=27 then(6,m.goes (if z3j x.op (m.reg x.a) (m.reg x.b)=true then m.pc+x.n else m.pc+1))
  else if x.op=28 then(6,m.put x.a (m.pc+1) (m.pc+x.n))
  else if x.op=29 then(6,m.put x.a (m.pc+1) (m.reg x.b))
  else if x.op=30 then(6,{ m.put x.a (match m.input with | []=>-1|c::_=>(c.toNat:Int)) (m.pc+1)with input:=m.input.drop 1 })
  else if x.op=31 then
    (if m.reg x.a<0∨255<m.reg x.a then(5,m)else(6,{ m.goes (m.pc+1)with out:=m.out++[UInt8.ofNat (m.reg x.a).toNat] }))
  else(6,m.put x.a (thrR x.op (m.reg x.b) (m.reg x.c)) (m.pc+1))
def goR(code:List W32):Nat→MaR→Int×MaR
 |0,m=>(6,m)
 |k+1,m=>
  if m.pc<0∨(code.length:Int)≤m.pc then(3,m)
  else match decR (code.getD m.pc.toNat ⟨0⟩).n with
   |none=>(1,m)
   |some x=>if(stR m x).1=6 then goR code k (stR m x).2 else stR m x
structure ImgR where
 code:List W32
 mem:List Int
 words:Int
structure HaltR where
 state:Int
 value:Int
 out:List UInt8
 steps:Int
 pc:Int
 regs:List Int
 mem:List Int
def zy5:List Int:=List.replicate 32 0
def z4j(i:ImgR)(input:List UInt8):MaR:=⟨0,0,0,zy5,i.mem++List.replicate (i.words.toNat-i.mem.length) 0,input,[]⟩
def zby(s:Int×MaR):HaltR:=⟨s.1,s.2.value,s.2.out,s.2.steps,s.2.pc,s.2.regs,s.2.mem⟩
def noImg:HaltR:=⟨7,0,[],0,0,zy5,[]⟩
def znj(i:ImgR)(steps:Int):Bool:=decide (i.words<0)||decide (1048576<i.words)||decide (1048576<(i.code.length:Int))||decide (i.words<(i.mem.length:Int))||decide (steps<0)
def runR(i:ImgR)(input:List UInt8)(steps:Int):HaltR:=
 if znj i steps=true then noImg else zby (goR i.code steps.toNat (z4j i input))
def z0z(x:ItemR):Bool:=decide (x.kind=2)||decide (x.kind=3)||decide (x.kind=5)
def ins0:InsR:=⟨0,0,0,0,0⟩
def mayR(x:ItemR):Bool:=
 if x.kind=0 then(encR x.x).isSome&&decide (x.label=0)&&decide (x.n=0)
 else if x.kind=1 then decide (x.x=ins0)&&decide (x.n=0)
 else if x.kind=2 then(encR x.x).isSome&&decide (24≤x.x.op)&&decide (x.x.op≤27)&&decide (x.x.n=0)&&decide (x.n=0)
 else if x.kind=3 then(encR x.x).isSome&&decide (x.x.op=28)&&decide (x.x.n=0)&&decide (x.n=0)
 else if x.kind=4 then(encR x.x).isSome&&decide (x.x.op=20)&&decide (x.x.n=0)&&decide (x.label=0)
 else if x.kind=5 then(encR x.x).isSome&&decide (x.x.op=20)&&decide (x.x.n=0)&&decide (x.n=0)
 else false
def isLab(label:Int)(x:ItemR):Bool:=decide (x.kind=1)&&decide (x.label=label)
def findR(l:List ItemR)(label:Int):Option Nat:=l.findIdx? (isLab label)
def shrR(n:Int)(k:Nat):Int:=n.fdiv (2^k)
def z1u(n:Int):Nat:=
 if -32768≤n∧n≤32767 then 1
 else if -32768≤shrR n 16∧shrR n 16≤32767 then 2
 else if -32768≤shrR n 32∧shrR n 32≤32767 then 3
 else 4
def restR(r n:Int):Nat→List InsR
 |0=>[]
 |k+1=>⟨21,r,0,0,shrR n (16*k)%65536⟩::restR r n k
def numR(r n:Int)(k:Nat):List InsR:=⟨20,r,0,0,(shrR n (16*(k-1))+32768)%65536-32768⟩::restR r n (k-1)
def sizeR(x:ItemR)(long:Bool):Nat:=
 if x.kind=1 then 0
 else if x.kind=2 then(if long=true then 2 else 1)
 else if x.kind=4 then z1u x.n
 else if x.kind=5 then 2
 else 1
def z0f:Nat→List ItemR→List Bool→List Nat
 |at_,x::l,b::long=>at_::z0f (at_+sizeR x b) l long
 |at_,_,_=>[at_]
def z3r(op:Int):Int:=if op=24 then 25 else if op=25 then 24 else if op=26 then 27 else 26
def z12(x:ItemR)(long:Bool)(at_ to:Int):List InsR:=
 if x.kind=0 then[x.x]
 else if x.kind=2 then(if long=true then[⟨z3r x.x.op,x.x.a,x.x.b,0,2⟩,⟨28,0,0,0,to-at_-1⟩]else[⟨x.x.op,x.x.a,x.x.b,0,to-at_⟩])
 else if x.kind=3 then[⟨28,x.x.a,0,0,to-at_⟩]
 else if x.kind=4 then numR x.x.a x.n (z1u x.n)
 else if x.kind=5 then numR x.x.a to 2
 else[]
def toR(l:List ItemR)(p:List Nat)(x:ItemR):Int:=if z0z x=true then((p.getD ((findR l x.label).getD 0) 0:Nat):Int)else 0
def farR(l:List ItemR)(p:List Nat)(i:Nat)(x:ItemR):Bool:=
 decide (x.kind=2)&&(decide (toR l p x-((p.getD i 0:Nat):Int) < -512)||decide (511<toR l p x-((p.getD i 0:Nat):Int)))
def growR(l:List ItemR)(p:List Nat)(long:List Bool):List Bool:=(l.zipIdx.zip long).map fun x=>x.2||farR l p x.1.2 x.1.1
def layR(l:List ItemR):Nat→List Bool→List Bool
 |0,long=>long
 |k+1,long=>if growR l (z0f 0 l long) long=long then long else layR l k (growR l (z0f 0 l long) long)
def longR(l:List ItemR):List Bool:=layR l (l.length+1) (l.map fun _=>false)
def z3g(x:InsR):W32:=⟨(encR x).getD 0⟩
def codeR(l:List ItemR)(long:List Bool)(p:List Nat):List W32:=
 (l.zipIdx.zip long).flatMap fun x=>(z12 x.1.1 x.2 ((p.getD x.1.2 0:Nat):Int) (toR l p x.1.1)).map z3g
def badR:List ItemR→List ItemR→Nat
 |_,[]=>0
 |seen,x::l=>if mayR x=false then 1 else if x.kind=1∧(findR seen x.label).isSome=true then 2 else badR (seen++[x]) l
inductive AsmE where
 |many|form|twice|none_
deriving DecidableEq
def asmR(l:List ItemR):Except AsmE (List W32×List Nat):=
 if 65536<l.length then .error .many
 else if badR [] l=1 then .error .form
 else if badR [] l=2 then .error .twice
 else if l.any (fun x=>z0z x&&(findR l x.label).isNone)=true then .error .none_
 else .ok (codeR l (longR l) (z0f 0 l (longR l)),(z0f 0 l (longR l)).take l.length)
instance encInsR:Enc InsR:=⟨fun x=>[.int .i64 x.op,.int .i64 x.a,.int .i64 x.b,.int .i64 x.c,.int .i64 x.n],5,fun _=>rfl⟩
instance encItemR:Enc ItemR:=⟨fun x=>[.int .i64 x.kind,.int .i64 x.x.op,.int .i64 x.x.a,.int .i64 x.x.b,.int .i64 x.x.c,.int .i64 x.x.n,.int .i64 x.label,.int .i64 x.n],8,fun _=>rfl⟩
instance encW32:Enc W32:=⟨fun w=>[.int .u32 w.n],1,fun _=>rfl⟩
instance encFrmR:Enc FrmR:=⟨fun f=>[.bool f.a,.bool f.b,.bool f.c,.int .u64 (f.bits:Int),.int .i64 f.least,.int .i64 f.most],6,fun _=>rfl⟩
abbrev insV(x:InsR):List Value:=[vi x.op,vi x.a,vi x.b,vi x.c,vi x.n]
abbrev itemV(x:ItemR):List Value:=[vi x.kind,vi x.x.op,vi x.x.a,vi x.x.b,vi x.x.c,vi x.x.n,vi x.label,vi x.n]
abbrev frmV(f:FrmR):List Value:=[.bool f.a,.bool f.b,.bool f.c,.int .u64 (f.bits:Int),vi f.least,vi f.most]
structure InI5(x:InsR):Prop where
 op:InI x.op
 a:InI x.a
 b:InI x.b
 c:InI x.c
 n:InI x.n
structure InI8(i:ItemR):Prop where
 kind:InI i.kind
 x:InI5 i.x
 label:InI i.label
 n:InI i.n
def InU(n:Int):Prop:=0≤n∧n≤4294967295
theorem inU{n:Int}:IntKind.u32.min≤n∧n≤IntKind.u32.max↔InU n:=Iff.rfl
theorem Zk8{H:PH}{n:Int}{v:Value}:PV.Rep H (.int .u32 n) v↔v=.int .u32 n∧InU n:=by
 simp only[PV.Rep];exact⟨fun h=>⟨h.1,inU.1 h.2⟩,fun h=>⟨h.1,inU.2 h.2⟩⟩
theorem insR_iff{H:PH}{x:InsR}{cs:List Value}:CsR H x cs↔cs=insV x∧InI5 x:=by
 show PV.RepRow H [.int .i64 x.op,.int .i64 x.a,.int .i64 x.b,.int .i64 x.c,.int .i64 x.n] cs↔_;simp only[PV.RepRow,repI_iff];constructor
 .rintro⟨_,_,rfl,⟨rfl,h1⟩,_,_,rfl,⟨rfl,h2⟩,_,_,rfl,⟨rfl,h3⟩,_,_,rfl,⟨rfl,h4⟩,_,_,rfl,⟨rfl,h5⟩,rfl⟩;exact⟨rfl,h1,h2,h3,h4,h5⟩
 .rintro⟨rfl,h1,h2,h3,h4,h5⟩;exact⟨_,_,rfl,⟨rfl,h1⟩,_,_,rfl,⟨rfl,h2⟩,_,_,rfl,⟨rfl,h3⟩,_,_,rfl,⟨rfl,h4⟩,_,_,rfl,⟨rfl,h5⟩,rfl⟩
theorem itemR_iff{H:PH}{x:ItemR}{cs:List Value}:CsR H x cs↔cs=itemV x∧InI8 x:=by
 show PV.RepRow H [.int .i64 x.kind,.int .i64 x.x.op,.int .i64 x.x.a,.int .i64 x.x.b,.int .i64 x.x.c,.int .i64 x.x.n,.int .i64 x.label,.int .i64 x.n] cs↔_;simp only[PV.RepRow,repI_iff];constructor
 .rintro⟨_,_,rfl,⟨rfl,h1⟩,_,_,rfl,⟨rfl,h2⟩,_,_,rfl,⟨rfl,h3⟩,_,_,rfl,⟨rfl,h4⟩,_,_,rfl,⟨rfl,h5⟩,_,_,rfl,⟨rfl,h6⟩,_,_,rfl,⟨rfl,h7⟩,_,_,rfl,⟨rfl,h8⟩,rfl⟩;exact⟨rfl,h1,⟨h2,h3,h4,h5,h6⟩,h7,h8⟩
 .rintro⟨rfl,h1,⟨h2,h3,h4,h5,h6⟩,h7,h8⟩;exact⟨_,_,rfl,⟨rfl,h1⟩,_,_,rfl,⟨rfl,h2⟩,_,_,rfl,⟨rfl,h3⟩,_,_,rfl,⟨rfl,h4⟩,_,_,rfl,⟨rfl,h5⟩,_,_,rfl,⟨rfl,h6⟩,_,_,rfl,⟨rfl,h7⟩,_,_,rfl,⟨rfl,h8⟩,rfl⟩
theorem w32_iff{H:PH}{w:W32}{cs:List Value}:CsR H w cs↔cs=[.int .u32 w.n]∧InU w.n:=by
 show PV.RepRow H [.int .u32 w.n] cs↔_;simp only[PV.RepRow,Zk8];constructor
 .rintro⟨_,_,rfl,⟨rfl,h1⟩,rfl⟩;exact⟨rfl,h1⟩
 .rintro⟨rfl,h1⟩;exact⟨_,_,rfl,⟨rfl,h1⟩,rfl⟩
def zyl:List FrmR:=[oneF,z2w,withF,zcl,farF,⟨true,false,false,16,-32768,32767⟩,⟨true,false,false,16,0,65535⟩,z20,⟨true,false,false,21,-1048576,1048575⟩,⟨true,true,false,0,0,0⟩]
theorem Zkq{op:Int}(h:0≤op∧op<32):frmR op∈zyl:=by
 obtain⟨k,rfl⟩:∃k:Nat,op=k:=⟨op.toNat,om⟩;have:∀j:Fin 32,frmR (j.val:Int)∈zyl:=dC;exact this ⟨k,om⟩
theorem Zck{x:InsR}{m:Int}(h0:0≤x.op∧x.op<32)(hf:fitsR x=true)(hm:m=if x.n<0 then x.n+2^(frmR x.op).bits else x.n):z7s (wordR x m)=x∧wordR x m/67108864=x.op:=by
 obtain⟨op,a,b,c,n⟩:=x;have hfm:=Zkq h0;unfold fitsR at hf;simp only[zba,zdt]at hf;obtain⟨⟨⟨⟨ha,hb⟩,hc⟩,hl⟩,hu⟩:=hf;simp only at *;have key:∀f∈zyl,regR a f.a=true→regR b f.b=true→regR c f.c=true→f.least≤n→n≤f.most→m=(if n<0 then n+2^f.bits else n) →
   ∀w,w=op*67108864+a*2097152+b*65536+c*2048+m→w/67108864=op∧w/2097152%32=a∧(if f.b=true then w/65536%32 else 0)=b∧(if f.c=true then w/2048%32 else 0)=c∧numOf f w=n:=by
  intro f hfm ha hb hc hl hu hm w hw;simp only[zyl,zmc,List.not_mem_nil,or_false]at hfm;rcases hfm with rfl|rfl|rfl|rfl|rfl|rfl|rfl|rfl|rfl|rfl <;>
   simp only[oneF,z2w,withF,zcl,farF,z20,regR,if_true,qp,if_false,zba,zdt,numOf]at * <;>
   (refine⟨?_,?_,?_,?_,?_⟩<;>first|omega|(simp at hm⊢;omega)|(simp at hm⊢;split at hm<;>(try split)<;>omega))
 obtain⟨k1,k2,k3,k4,k5⟩:=key _ hfm ha hb hc hl hu hm _ rfl;refine⟨?_,k1⟩;unfold z7s wordR;simp only;rw[k1,k2,k3,k4,k5]
theorem Zls{x:InsR}(h:(encR x).isSome=true):decR (z3g x).n=some x:=by
 unfold z3g;obtain⟨w,hw⟩:=qH.1 h;rw[hw];unfold encR at hw;split at hw
 .cases hw
 rename_i h0;split at hw
 .rename_i hf;have hw:=qW hw;obtain⟨h1,h2⟩:=Zck (m:=if x.n<0 then x.n+2^(frmR x.op).bits else x.n) om hf rfl;show decR w=some x;unfold decR;rw[←hw,h2,qc om,h1];have:encR x=some (wordR x (if x.n<0 then x.n+2^(frmR x.op).bits else x.n)):=by
   unfold encR;rw[qc h0,qj hf]
  rw[qj this]
 .cases hw
theorem zhi:∀(l:List ItemR)(long:List Bool)(a:Nat),(z0f a l long).getD 0 0=a
 | [],[],_=>rfl
 | [],_::_,_=>rfl
 |_::_,[],_=>rfl
 |_::_,_::_,_=>rfl
theorem zs8:∀(l:List ItemR) (long:List Bool) (a i:Nat) {x:ItemR} {b:Bool},l[i]?=some x→long[i]?=some b→(z0f a l long).getD (i+1) 0=(z0f a l long).getD i 0+sizeR x b
 | [],_,_,_,_,_,h,_=>by simp at h
 |_::_,[],_,_,_,_,_,h=>by simp at h
 |y::l,c::long,a,0,x,b,h1,h2=>by
  obtain rfl:y=x:=by simpa using h1
  obtain rfl:c=b:=by simpa using h2
  show(z0f (a+sizeR y c) l long).getD 0 0=_;rw[zhi];rfl
 |y::l,c::long,a,i+1,x,b,h1,h2=>by
  show(z0f (a+sizeR y c) l long).getD (i+1) 0=(z0f (a+sizeR y c) l long).getD i 0+sizeR x b;exact zs8 l long _ i (by simpa using h1) (by simpa using h2)
theorem Z54(l:List ItemR):∀(k:Nat)(long:List Bool),long.length=l.length→(layR l k long).length=l.length
 |0,_,h=>h
 |k+1,long,h=>by
  rw[layR];split
  .exact h
  .exact Z54 l k _ (by simp[growR,h])
theorem Z1p(l:List ItemR):(longR l).length=l.length:=Z54 l _ _ sM
theorem Z6b{l:List ItemR}{p:List Nat}{long:List Bool}{i:Nat}{x:ItemR}{b:Bool}(h1:l[i]?=some x)(h2:long[i]?=some b):(growR l p long)[i]?=some (b||farR l p i x):=by
 unfold growR;have:(l.zipIdx.zip long)[i]?=some ((x,i),b):=List.getElem?_zip_eq_some.2 ⟨by rw[List.getElem?_zipIdx,h1];simp,h2⟩;rw[zem,this];rfl
theorem Z2z{l:List ItemR}{p:List Nat}{long:List Bool}(h:long.length=l.length):(growR l p long).length=l.length:=by simp[growR,h]
theorem zgm:∀(a b:List Bool),a.length=b.length→(∀i:Nat,a[i]?=some true→b[i]?=some true)→a≠b→a.count true<b.count true
 | [],[],_,_,hn=>absurd rfl hn
 | [],_::_,h,_,_=>by cases h
 |_::_,[],h,_,_=>by cases h
 |x::a,y::b,h,hi,hn=>by
  have hle:a.count true≤b.count true:=by
   by_cases e:a=b
   .rw[e];exact we _
   .exact Nat.le_of_lt (zgm a b (by simpa using h) (fun i=>by simpa using hi (i+1)) e)
  have h0:=hi 0;cases x<;>cases y
  .have:a≠b:=fun e=>hn (by rw[e]);simpa using zgm a b (by simpa using h) (fun i=>by simpa using hi (i+1)) this
  .simp;omega
  .simp at h0
  .have:a≠b:=fun e=>hn (by rw[e]);simpa using zgm a b (by simpa using h) (fun i=>by simpa using hi (i+1)) this
theorem Z7o(l:List ItemR):∀(k:Nat)(long:List Bool),long.length=l.length→l.length<long.count true+k→growR l (z0f 0 l (layR l k long)) (layR l k long)=layR l k long
 |0,long,h,hk=>by
  have:=List.count_le_length (a:=true) (l:=long);omega
 |k+1,long,h,hk=>by
  rw[layR];by_cases e:growR l (z0f 0 l long) long=long
  .rw[qj e];exact e
  .rw[qc e];refine Z7o l k _ (Z2z h) ?_;have:=zgm long (growR l (z0f 0 l long) long) (by rw [Z2z h,h]) (fun i hi=>by
    have hl:i<l.length:=by rw[←h];exact(zgi.1 hi).1
    rw[Z6b (zge hl) hi];simp) (fun e'=>e e'.symm)
   omega
theorem Zhz(l:List ItemR):growR l (z0f 0 l (longR l)) (longR l)=longR l:=Z7o l _ _ sM om
theorem Zi0{l:List ItemR}{i:Nat}{x:ItemR}{b:Bool}(h1:l[i]?=some x)(h2:(longR l)[i]?=some b)(hf:farR l (z0f 0 l (longR l)) i x=true):b=true:=by
 have:=Z6b (p:=z0f 0 l (longR l)) h1 h2;rw[Zhz,h2,hf,Bool.or_true]at this;exact qW this
theorem zvx(r n:Int):∀k,(restR r n k).length=k
 |0=>rfl
 |k+1=>by rw[restR,zlc,zvx r n k]
theorem Ze8(n:Int):1≤z1u n∧z1u n≤4:=by
 unfold z1u
 repeat' split
 all_goals omega
theorem Z9z{x:ItemR}(h:mayR x=true)(b:Bool)(a t:Int):(z12 x b a t).length=sizeR x b:=by
 unfold mayR at h;unfold z12 sizeR;by_cases h0:x.kind=0
 .simp[h0]
 by_cases h1:x.kind=1
 .simp[h1]
 by_cases h2:x.kind=2
 .cases b<;>simp[h2]
 by_cases h3:x.kind=3
 .simp[h3]
 by_cases h4:x.kind=4
 .have:=Ze8 x.n;simp only[h4];simp[numR,zvx];omega
 by_cases h5:x.kind=5
 .simp only[h5];simp[numR,zvx]
 .simp[h0,h1,h2,h3,h4,h5]at h
theorem Z8b{T:ItemR→Int}:∀(l:List ItemR)(long:List Bool)(a k:Nat)(p:List Nat),l.all mayR=true→long.length=l.length→(∀j,p.getD (k+j) 0=(z0f a l long).getD j 0) →
  ∀(i:Nat) {x:ItemR} {b:Bool},l[i]?=some x→long[i]?=some b →
  ∃pre post,(((l.zipIdx k).zip long).flatMap fun z=>(z12 z.1.1 z.2 ((p.getD z.1.2 0:Nat):Int) (T z.1.1)).map z3g)=pre++(z12 x b ((p.getD (k+i) 0:Nat):Int) (T x)).map z3g++post∧pre.length+a=p.getD (k+i) 0
 | [],_,_,_,_,_,_,_,_,_,_,h,_=>by simp at h
 |_::_,[],_,_,_,_,_,_,_,_,_,_,h=>by simp at h
 |y::l,c::long,a,k,p,hm,hl,hp,0,x,b,h1,h2=>by
  obtain rfl:y=x:=by simpa using h1
  obtain rfl:c=b:=by simpa using h2
  refine⟨[],_,by rw[List.zipIdx_cons,List.zip_cons_cons,qQ];rfl,?_⟩;have:=hp 0;rw[zhi]at this;rw[this];simp
 |y::l,c::long,a,k,p,hm,hl,hp,i+1,x,b,h1,h2=>by
  simp only[List.all_cons,zba]at hm;obtain ⟨pre,post,e,ha⟩:=Z8b (T:=T) l long (a+sizeR y c) (k+1) p hm.2 (by simpa using hl) (fun j=>by
   have:=hp (j+1);rw[show k+1+j=k+(j+1) by omega,this];rfl) i (by simpa using h1) (by simpa using h2)
  refine⟨(z12 y c ((p.getD k 0:Nat):Int) (T y)).map z3g++pre,post,?_,?_⟩
  .rw[List.zipIdx_cons,List.zip_cons_cons,qQ,e,show k+1+i=k+(i+1) by omega];simp only[zaa]
  .rw[zla,zlm,Z9z hm.1,←show k+1+i=k+(i+1) by omega,←ha];omega
theorem encD{op a b c n:Int}(f:FrmR)(hf:frmR op=f)(ho:0≤op∧op<32)(ha:regR a f.a=true)(hb:regR b f.b=true)(hc:regR c f.c=true)(hl:f.least≤n)(hu:n≤f.most):(encR ⟨op,a,b,c,n⟩).isSome=true:=by
 have:fitsR ⟨op,a,b,c,n⟩=true:=by
  unfold fitsR;simp only[hf,ha,hb,hc,qX hl,qX hu,Bool.and_self]
 unfold encR;rw[qc (by show ¬(op<0∨32≤op);omega),qj this];rfl
theorem zkc{x:InsR}(h:(encR x).isSome=true):(0≤x.op∧x.op<32)∧regR x.a (frmR x.op).a=true∧regR x.b (frmR x.op).b=true∧regR x.c (frmR x.op).c=true:=by
 unfold encR at h;split at h
 .cases h
 split at h
 .rename_i h0 hf;unfold fitsR at hf;simp only[zba]at hf;exact⟨om,hf.1.1.1.1,hf.1.1.1.2,hf.1.1.2⟩
 .cases h
theorem Zbb{r:Int}(hr:regR r true=true)(n:Int)(k:Nat):∀y∈numR r n k,(encR y).isSome=true:=by
 have rest:∀j,∀y∈restR r n j,(encR y).isSome=true:=by
  intro j
  induction j with
  |zero=>intro y hy;cases hy
  |succ j ih=>
   intro y hy;rw[restR]at hy;rcases zmc.1 hy with rfl|hy
   .exact encD ⟨true,false,false,16,0,65535⟩ rfl dC hr rfl rfl (by show(0:Int)≤_;omega) (by show _≤(65535:Int);omega)
   .exact ih y hy
 intro y hy;unfold numR at hy;rcases zmc.1 hy with rfl|hy
 .exact encD ⟨true,false,false,16,-32768,32767⟩ rfl dC hr rfl rfl (by show(-32768:Int)≤_;omega) (by show _≤(32767:Int);omega)
 .exact rest _ y hy
theorem Z8q{x:ItemR}(h:mayR x=true){b:Bool}{a t:Int}(ha:0≤a∧a≤500000)(ht:0≤t∧t≤500000)(hb:b=false→x.kind=2→-512≤t-a∧t-a≤511):∀y∈z12 x b a t,(encR y).isSome=true:=by
 unfold mayR at h;by_cases h0:x.kind=0
 .rw[qj h0]at h;simp only[zba]at h;intro y hy;unfold z12 at hy;rw[qj h0]at hy;rw[zsi.1 hy];exact h.1.1
 rw[qc h0]at h;by_cases h1:x.kind=1
 .intro y hy;unfold z12 at hy;simp[h1]at hy
 rw[qc h1]at h;by_cases h2:x.kind=2
 .rw[qj h2]at h;simp only[zba,zdt]at h;obtain⟨⟨⟨⟨he,o1⟩,o2⟩,hn⟩,_⟩:=h;obtain⟨_,ra,rb,_⟩:=zkc he;have hfr:frmR x.x.op=z20:=by
   rcases(by omega:x.x.op=24∨x.x.op=25∨x.x.op=26∨x.x.op=27)with e|e|e|e<;>rw[e]<;>rfl
  rw[hfr]at ra rb;intro y hy;unfold z12 at hy;rw[qc h0,qj h2]at hy;cases b with
  |true=>
   rw[qj rfl]at hy;simp only[zmc,List.not_mem_nil,or_false]at hy;rcases hy with rfl|rfl
   .have hot:frmR (z3r x.x.op)=z20∧0≤z3r x.x.op∧z3r x.x.op<32:=by
     rcases(by omega:x.x.op=24∨x.x.op=25∨x.x.op=26∨x.x.op=27)with e|e|e|e<;>rw[e]<;>exact⟨rfl,dC,dC⟩
    exact encD z20 hot.1 hot.2 ra rb rfl dC dC
   .exact encD ⟨true,false,false,21,-1048576,1048575⟩ rfl dC rfl rfl rfl (by show(-1048576:Int)≤_;omega) (by show _≤(1048575:Int);omega)
  |false=>
   rw[qc dC]at hy;rw[zsi.1 hy];have:=hb rfl h2;exact encD z20 hfr om ra rb rfl (by show(-512:Int)≤_;omega) (by show _≤(511:Int);omega)
 rw[qc h2]at h;by_cases h3:x.kind=3
 .rw[qj h3]at h;simp only[zba,zdt]at h;obtain⟨⟨⟨he,o1⟩,_⟩,_⟩:=h;obtain⟨_,ra,_,_⟩:=zkc he;rw[o1]at ra;intro y hy;unfold z12 at hy;rw[qc h0,qc h2,qj h3]at hy;rw[zsi.1 hy];exact encD ⟨true,false,false,21,-1048576,1048575⟩ rfl dC ra rfl rfl (by show(-1048576:Int)≤_;omega) (by show _≤(1048575:Int);omega)
 rw[qc h3]at h;by_cases h4:x.kind=4
 .rw[qj h4]at h;simp only[zba,zdt]at h;obtain⟨⟨⟨he,o1⟩,_⟩,_⟩:=h;obtain⟨_,ra,_,_⟩:=zkc he;rw[o1]at ra;intro y hy;unfold z12 at hy;rw[qc h0,qc h2,qc h3,qj h4]at hy;exact Zbb ra _ _ y hy
 rw[qc h4]at h;by_cases h5:x.kind=5
 .rw[qj h5]at h;simp only[zba,zdt]at h;obtain⟨⟨⟨he,o1⟩,_⟩,_⟩:=h;obtain⟨_,ra,_,_⟩:=zkc he;rw[o1]at ra;intro y hy;unfold z12 at hy;rw[qc h0,qc h2,qc h3,qc h4,qj h5]at hy;exact Zbb ra _ _ y hy
 .rw[qc h5]at h;cases h
inductive Bt(α:Type) where
 |leaf (v:α)
 |node (l r:Bt α)
noncomputable def Bt.get{α:Type}(t:Bt α):Nat→α:=Bt.rec (motive:=fun _=>Nat→α) (fun v _=>v) (fun _ _ f g i=>cond (Nat.beq (Nat.mod i 2) 0) (f (Nat.div i 2)) (g (Nat.div i 2))) t
noncomputable def Bt.put{α:Type}(t:Bt α)(v:α):Nat→Bt α:=Bt.rec (motive:=fun _=>Nat→Bt α) (fun _ _=>.leaf v) (fun l r f g i=>cond (Nat.beq (Nat.mod i 2) 0) (.node (f (Nat.div i 2)) r) (.node l (g (Nat.div i 2)))) t
noncomputable def Bt.putK{α:Type}(t:Bt α)(v:α):Nat→(Bt α→Bool)→Bool:=Bt.rec (motive:=fun _=>Nat→(Bt α→Bool)→Bool) (fun _ _ k=>k (.leaf v)) (fun l r f g i k=>cond (Nat.beq (Nat.mod i 2) 0) (f (Nat.div i 2) fun l'=>k (.node l' r)) (g (Nat.div i 2) fun r'=>k (.node l r'))) t
noncomputable def Bt.forceK{α:Type}(t:Bt α):(Bt α→Bool)→Bool:=Bt.rec (motive:=fun _=>(Bt α→Bool)→Bool) (fun v k=>k (.leaf v)) (fun _ _ f g k=>f fun l'=>g fun r'=>k (.node l' r')) t
def Bt.Full{α:Type}:Nat→Bt α→Prop
 |0,.leaf _=>True
 |d+1,.node l r=>Bt.Full d l∧Bt.Full d r
 |_,_=>False
theorem znz{a b:Nat}(h:a≠b):Nat.beq a b=false:=by
 cases e:Nat.beq a b with
 |false=>rfl
 |true=>exact absurd (Nat.eq_of_beq_eq_true e) h
theorem Bt.get_node{α:Type}(l r:Bt α)(i:Nat):(Bt.node l r).get i=if i%2=0 then l.get (i/2)else r.get (i/2):=by
 show cond (Nat.beq (i%2) 0) (l.get (i/2)) (r.get (i/2))=_;by_cases h:i%2=0
 .rw[qj h,h];rfl
 .rw[qc h,znz h];rfl
theorem Bt.put_node{α:Type}(l r:Bt α)(v:α)(i:Nat):(Bt.node l r).put v i=if i%2=0 then .node (l.put v (i/2)) r else .node l (r.put v (i/2)):=by
 show cond (Nat.beq (i%2) 0) (Bt.node (l.put v (i/2)) r) (Bt.node l (r.put v (i/2)))=_;by_cases h:i%2=0
 .rw[qj h,h];rfl
 .rw[qc h,znz h];rfl
theorem Bt.putK_eq{α:Type}(v:α):∀(t:Bt α)(i:Nat)(k:Bt α→Bool),t.putK v i k=k (t.put v i)
 | .leaf _,_,_=>rfl
 | .node l r,i,k=>by
  show cond (Nat.beq (i%2) 0) (l.putK v (i/2) fun l'=>k (.node l' r)) (r.putK v (i/2) fun r'=>k (.node l r'))=_;rw[Bt.putK_eq v l,Bt.putK_eq v r,Bt.put_node];by_cases h:i%2=0
  .rw[qj h,h];rfl
  .rw[qc h,znz h];rfl
theorem Bt.forceK_eq{α:Type}:∀(t:Bt α)(k:Bt α→Bool),t.forceK k=k t
 | .leaf _,_=>rfl
 | .node l r,k=>by
  show(l.forceK fun l'=>r.forceK fun r'=>k (.node l' r'))=_;rw[Bt.forceK_eq l,Bt.forceK_eq r]
theorem Bt.full_put{α:Type}(v:α):∀(d:Nat)(t:Bt α)(i:Nat),t.Full d→(t.put v i).Full d
 |0,.leaf _,_,_=>trivial
 |0,.node _ _,_,h=>h.elim
 |d+1,.leaf _,_,h=>h.elim
 |d+1,.node l r,i,h=>by
  rw[Bt.put_node];by_cases e:i%2=0
  .rw[qj e];exact⟨Bt.full_put v d l _ h.1,h.2⟩
  .rw[qc e];exact⟨h.1,Bt.full_put v d r _ h.2⟩
theorem Bt.get_put{α:Type}(v:α):∀(d:Nat)(t:Bt α)(i j:Nat),t.Full d→i<2^d→j<2^d→(t.put v i).get j=if j=i then v else t.get j
 |0,.leaf _,i,j,_,hi,hj=>by rw[qj om];rfl
 |0,.node _ _,_,_,h,_,_=>h.elim
 |d+1,.leaf _,_,_,h,_,_=>h.elim
 |d+1,.node l r,i,j,h,hi,hj=>by
  have hp:2^(d+1)=2*2^d:=by rw[Nat.pow_succ,Nat.mul_comm]
  rw[Bt.put_node];by_cases e:i%2=0
  .rw[qj e,Bt.get_node,Bt.get_node];by_cases f:j%2=0
   .rw[qj f,qj f,Bt.get_put v d l _ _ h.1 om om];by_cases g:j=i
    .rw[qj g,qj (by rw[g])]
    .rw[qc g,qc om]
   .rw[qc f,qc f,qc om]
  .rw[qc e,Bt.get_node,Bt.get_node];by_cases f:j%2=0
   .rw[qj f,qj f,qc om]
   .rw[qc f,qc f,Bt.get_put v d r _ _ h.2 om om];by_cases g:j=i
    .rw[qj g,qj (by rw[g])]
    .rw[qc g,qc om]
def Bt.rep{α:Type}(v:α):Nat→Bt α
 |0=>.leaf v
 |d+1=>.node (Bt.rep v d) (Bt.rep v d)
theorem Bt.full_rep{α:Type}(v:α):∀d,(Bt.rep v d).Full d
 |0=>trivial
 |d+1=>⟨Bt.full_rep v d,Bt.full_rep v d⟩
theorem Bt.get_rep{α:Type}(v:α):∀(d i:Nat),(Bt.rep v d).get i=v
 |0,_=>rfl
 |d+1,i=>by
  rw[Bt.rep,Bt.get_node,Bt.get_rep v d,ite_self]
def Bt.ofL{α:Type}(x:α):Nat→List α→Bt α
 |0,l=>.leaf (l.headD x)
 |d+1,l=>.node (Bt.ofL x d (evens l)) (Bt.ofL x d (odds l))
where
 evens:List α→List α
  | []=>[]
  | [a]=>[a]
  |a::_::l=>a::evens l
 odds:List α→List α
  | []=>[]
  | [_]=>[]
  |_::b::l=>b::odds l
theorem Z2h{α:Type}(x:α):∀(l:List α)(i:Nat),(Bt.ofL.evens l).getD i x=l.getD (2*i) x
 | [],i=>by simp[Bt.ofL.evens]
 | [a],0=>rfl
 | [a],i+1=>by simp[Bt.ofL.evens]
 |a::b::l,0=>rfl
 |a::b::l,i+1=>by
  show(Bt.ofL.evens l).getD i x=_;rw[Z2h x l i,show 2*(i+1)=2*i+1+1 by omega];rfl
theorem Z51{α:Type}(x:α):∀(l:List α)(i:Nat),(Bt.ofL.odds l).getD i x=l.getD (2*i+1) x
 | [],i=>by simp[Bt.ofL.odds]
 | [a],i=>by simp[Bt.ofL.odds]
 |a::b::l,0=>rfl
 |a::b::l,i+1=>by
  show(Bt.ofL.odds l).getD i x=_;rw[Z51 x l i,show 2*(i+1)+1=2*i+1+1+1 by omega];rfl
theorem Bt.get_ofL{α:Type}(x:α):∀(d:Nat)(l:List α)(i:Nat),i<2^d→(Bt.ofL x d l).get i=l.getD i x
 |0,l,i,h=>by
  have:i=0:=by simpa using h
  subst this;cases l<;>rfl
 |d+1,l,i,h=>by
  have hp:2^(d+1)=2*2^d:=by rw[Nat.pow_succ,Nat.mul_comm]
  rw[Bt.ofL,Bt.get_node];by_cases e:i%2=0
  .rw[qj e,Bt.get_ofL x d _ _ om,Z2h,show 2*(i/2)=i by omega]
  .rw[qc e,Bt.get_ofL x d _ _ om,Z51,show 2*(i/2)+1=i by omega]
def eqI:Int→Int→Bool
 | .ofNat m,.ofNat n=>Nat.beq m n
 | .negSucc m,.negSucc n=>Nat.beq m n
 |_,_=>false
theorem Zh4:∀(a b:Int),eqI a b=decide (a=b)
 | .ofNat m,.ofNat n=>by
  show Nat.beq m n=_;by_cases h:m=n
  .rw[h,qX rfl];exact Nat.beq_refl n
  .rw[qY (fun e=>h (Int.ofNat.inj e))];exact znz h
 | .negSucc m,.negSucc n=>by
  show Nat.beq m n=_;by_cases h:m=n
  .rw[h,qX rfl];exact Nat.beq_refl n
  .rw[qY (fun e=>h (Int.negSucc.inj e))];exact znz h
 | .ofNat m,.negSucc n=>by rw[qY (fun e=>by cases e)];rfl
 | .negSucc m,.ofNat n=>by rw[qY (fun e=>by cases e)];rfl
def ltI:Int→Int→Bool
 | .ofNat m,.ofNat n=>Nat.ble (Nat.succ m) n
 | .negSucc m,.negSucc n=>Nat.ble (Nat.succ n) m
 | .negSucc _,.ofNat _=>true
 | .ofNat _,.negSucc _=>false
theorem zsn:∀(a b:Int),ltI a b=decide (a<b)
 | .ofNat m,.ofNat n=>by
  show Nat.ble (m+1) n=_;by_cases h:m<n
  .rw[qX (by show(m:Int)<n;omega)];exact Nat.ble_eq_true_of_le h
  .rw[qY (by show ¬(m:Int)<n;omega)];cases e:Nat.ble (m+1) n with
   |false=>rfl
   |true=>exact absurd (Nat.le_of_ble_eq_true e) om
 | .negSucc m,.negSucc n=>by
  show Nat.ble (n+1) m=_;by_cases h:n<m
  .rw[qX om];exact Nat.ble_eq_true_of_le h
  .rw[qY om];cases e:Nat.ble (n+1) m with
   |false=>rfl
   |true=>exact absurd (Nat.le_of_ble_eq_true e) om
 | .ofNat m,.negSucc n=>by rw[qY (by show ¬(m:Int)<Int.negSucc n;omega)];rfl
 | .negSucc m,.ofNat n=>by rw[qX (by show Int.negSucc m<(n:Int);omega)];rfl
noncomputable def seqN(n:Nat)(k:Nat→Bool):Bool:=Nat.rec (motive:=fun _=>Bool) (k 0) (fun m _=>k (Nat.succ m)) n
theorem z2x(n:Nat)(k:Nat→Bool):seqN n k=k n:=by cases n<;>rfl
noncomputable def seqI(v:Int)(k:Int→Bool):Bool:=Int.rec (motive:=fun _=>Bool) (fun n=>seqN n fun m=>k (.ofNat m)) (fun n=>seqN n fun m=>k (.negSucc m)) v
theorem Z1a(v:Int)(k:Int→Bool):seqI v k=k v:=by
 cases v with
 |ofNat n=>exact z2x n fun m=>k (.ofNat m)
 |negSucc n=>exact z2x n fun m=>k (.negSucc m)
def aluA(op b n:Int):Int:=if op=15 then arI .add .i64 b n else if op=16 then arI .and .i64 b n else if op=17 then arI .or .i64 b n else if op=18 then arI .shl .i64 b n else if op=19 then arI .shr .i64 b n else arI .or .i64 (arI .mul .i64 b 65536) n
def takA(op a b:Int):Bool:=if op=24 then eqI a b else if op=25 then not (eqI a b)else if op=26 then ltI a b else not (ltI a b)
theorem z2n{b:Bool}{p q:Bool}(h:cond b p q=true):(b=true∧p=true)∨(b=false∧q=true):=by
 cases b
 .exact .inr ⟨rfl,h⟩
 .exact .inl ⟨rfl,h⟩
theorem eqI_t{a b:Int}(h:eqI a b=true):a=b:=by rw[Zh4]at h;exact qZ h
theorem z5t{a b:Bool}(h:and a b=true):a=true∧b=true:=by cases a<;>cases b<;>first|exact⟨rfl,rfl⟩|cases h
theorem or_tt{a b:Bool}(h:or a b=true):a=true∨b=true:=by cases a<;>cases b<;>first|exact .inl rfl|exact .inr rfl|cases h
theorem zyc{a:Bool}(h:not a=true):a=false:=by cases a<;>first|rfl|cases h
section
variable {d L:Nat}{m:MaR}{pc:Nat}{rg me:Bt Int}
end
theorem Z4k{code:List W32}{s:Int}{m':MaR}(hs:s≠6):∀(k j:Nat)(m:MaR),goR code k m=(s,m')→goR code (k+j) m=(s,m')
 |0,j,m,h=>absurd (congrArg Prod.fst h).symm hs
 |k+1,j,m,h=>by
  rw[show k+1+j=(k+j)+1 by omega];unfold goR at h⊢;by_cases hp:m.pc<0∨(code.length:Int)≤m.pc
  .rw[qj hp]at h⊢;exact h
  rw[qc hp]at h⊢;cases hd:decR (code.getD m.pc.toNat ⟨0⟩).n with
  |none=>rw[hd]at h;exact h
  |some x=>
   rw[hd]at h;simp only at h⊢;by_cases h6:(stR m x).1=6
   .rw[qj h6]at h⊢;exact Z4k hs k j _ h
   .rw[qc h6]at h⊢;exact h
def AtI(code:List W32):Nat→List InsR→Prop
 |_,[]=>True
 |pc,x::l=>pc<code.length∧decR (code.getD pc ⟨0⟩).n=some x∧AtI code (pc+1) l
section
variable {d L:Nat}{code:List W32}{pc:Nat}{rg me:Bt Int}{m:MaR}
end
theorem zgu:Tryz.prog.underlying 159=some (.slice 162):=kr
theorem zar:ElemOk zP 162 6 32=true:=kr
theorem Znv{H:PH}{f:FrmR}(h0:f.bits≤100)(h1:InI f.least)(h2:InI f.most):CsR H f (frmV f):=by
 show PV.RepRow H [.bool f.a,.bool f.b,.bool f.c,.int .u64 (f.bits:Int),.int .i64 f.least,.int .i64 f.most] _;simp only[PV.RepRow,repI_iff,Zet,PV.Rep];have h3:IntKind.u64.min=0:=rfl;have h4:IntKind.u64.max=18446744073709551615:=rfl;exact⟨_,_,rfl,rfl,_,_,rfl,rfl,_,_,rfl,rfl,_,_,rfl,⟨rfl,om,om⟩,_,_,rfl,⟨rfl,h1⟩,_,_,rfl,⟨rfl,h2⟩,rfl⟩
theorem z26{H:PH}(f:FrmR)(h0:f.bits≤100)(h1:InI f.least)(h2:InI f.most){v:Value}(hv:v.cells.toList=frmV f):CsR H f v.cells.toList:=by rw[hv];exact Znv h0 h1 h2
theorem zy2(S:PH):Tri zP 100 #[] S fun x S'=>PH.le S S'∧∃v,x=.returned v∧SlR S' rowsR v:=by
 refine qr zjc [] ?_;have h0:Held S S []:=Held.nil (wx _);have hb:∀{f:FrmR},f.least=0∨f.least=-32768∨f.least=-512∨f.least=-1048576→InI f.least:=fun h=>by unfold InI;omega
 refine z0k (α:=FrmR) (l:=[oneF]) (b:=32) [.agg (frmV oneF).toArray] zgu zar rfl dC dC h0 kr (.cons (z26 _ dC dC dC rfl) .nil) z01 fun v1 K1 h1 l1 _=>?_;simp only[cns];refine⟨fun n vs K2=>∃(k:Nat)(u:Value)(S2:PH),k+n=14∧vs=[u,nI k]∧PH.le S S2∧Held S2 K2 [orow 162 (oneF::List.replicate k z2w) u],⟨14,0,v1,S,om,rfl,wx _,h1⟩,?_⟩;rintro n vs K2 _ ⟨k,u,S2,hkn,rfl,l2,h2⟩;simp only[cns];refine⟨fun g=>?_,fun g=>?_⟩
 .simp only[wy,arI,zdt]at g;refine z0t (b:=32) (more:=[z2w]) [.agg (frmV z2w).toArray] zgu zar rfl dC dC h2 kr (.cons (z26 _ dC dC dC rfl) .nil) z01 (fun w=>kr) (fun w=>kr)
   (by simp only[maxLen,zlc,wi,zln];omega) (by simp only[zlc,wi,zln];omega) fun w v6 S6 K6 l6 h6=>⟨z01,?_⟩
  refine⟨_,z00,n-1,om,k+1,v6,S6,om,?_,ww l2 l6,?_⟩
  .have hw:IntKind.i64.wrap ((k:Int)+1)=((k+1:Nat):Int):=by rw[w64 om om];rfl
   simp only[wy,arI,hw]
  .rw[List.cons_append,←List.replicate_succ']at h6;exact h6
 .simp only[wy,arI,zdf]at g;have hk:k=14:=om;subst hk;refine z0t (b:=32) (more:=[withF,zcl,zcl,farF,farF]) [.agg (frmV withF).toArray,.agg (frmV zcl).toArray,.agg (frmV zcl).toArray,.agg (frmV farF).toArray,.agg (frmV farF).toArray] zgu zar rfl dC dC h2 kr (.cons (z26 _ dC dC dC rfl) (.cons (z26 _ dC dC dC rfl) (.cons (z26 _ dC dC dC rfl) (.cons (z26 _ dC dC dC rfl) (.cons (z26 _ dC dC dC rfl) .nil))))) z01 (fun w=>kr) (fun w=>kr)
   dC dC fun w v6 S6 K6 l6 h6=>⟨z01,?_⟩
  refine z0t (b:=32) (more:=[⟨true,false,false,16,-32768,32767⟩,⟨true,false,false,16,0,65535⟩,withF,withF]) [.agg (frmV ⟨true,false,false,16,-32768,32767⟩).toArray,.agg (frmV ⟨true,false,false,16,0,65535⟩).toArray,.agg (frmV withF).toArray,.agg (frmV withF).toArray] zgu zar rfl dC dC h6 kr (.cons (z26 _ dC dC dC rfl) (.cons (z26 _ dC dC dC rfl) (.cons (z26 _ dC dC dC rfl) (.cons (z26 _ dC dC dC rfl) .nil)))) z01 (fun w=>kr) (fun w=>kr)
   dC dC fun w7 v7 S7 K7 l7 h7=>⟨z01,?_⟩
  refine z0t (b:=32) (more:=[z20,z20,z20,z20]) [.agg (frmV z20).toArray,.agg (frmV z20).toArray,.agg (frmV z20).toArray,.agg (frmV z20).toArray] zgu zar rfl dC dC h7 kr (.cons (z26 _ dC dC dC rfl) (.cons (z26 _ dC dC dC rfl) (.cons (z26 _ dC dC dC rfl) (.cons (z26 _ dC dC dC rfl) .nil)))) z01 (fun w=>kr) (fun w=>kr)
   dC dC fun w8 v8 S8 K8 l8 h8=>⟨z01,?_⟩
  refine z0t (b:=32) (more:=[⟨true,false,false,21,-1048576,1048575⟩,⟨true,true,false,0,0,0⟩,oneF,oneF]) [.agg (frmV ⟨true,false,false,21,-1048576,1048575⟩).toArray,.agg (frmV ⟨true,true,false,0,0,0⟩).toArray,.agg (frmV oneF).toArray,.agg (frmV oneF).toArray] zgu zar rfl dC dC h8 kr (.cons (z26 _ dC dC dC rfl) (.cons (z26 _ dC dC dC rfl) (.cons (z26 _ dC dC dC rfl) (.cons (z26 _ dC dC dC rfl) .nil)))) z01 (fun w=>kr) (fun w=>kr)
   dC dC fun w9 v9 S9 K9 l9 h9=>⟨z01,?_⟩
  obtain⟨S',s1,s2,s3⟩:=h9.freeze;exact⟨ww l2 (ww l6 (ww l7 (ww l8 (ww l9 (ww s2 s3.sh))))),v9,rfl,s1.le s3.sh⟩
theorem Zh2{H:PH}{f:FrmR}{cs:List Value}(h:CsR H f cs):cs=frmV f:=by
 have h':PV.RepRow H [.bool f.a,.bool f.b,.bool f.c,.int .u64 (f.bits:Int),.int .i64 f.least,.int .i64 f.most] cs:=h;simp only[PV.RepRow,PV.Rep]at h';obtain⟨_,_,rfl,rfl,_,_,rfl,rfl,_,_,rfl,rfl,_,_,rfl,⟨rfl,_⟩,_,_,rfl,⟨rfl,_⟩,_,_,rfl,⟨rfl,_⟩,rfl⟩:=h';rfl
structure FrmOk(f:FrmR):Prop where
 bits:f.bits=0∨f.bits=10∨f.bits=16∨f.bits=21
 least:-1048576≤f.least∧f.least≤0
 most:0≤f.most∧f.most≤1048575
 lo:f.bits=0→f.least=0∧f.most=0
 fit:f.bits≠0→f.most<2^f.bits∧- 2^f.bits≤f.least
instance (f:FrmR):Decidable (FrmOk f):=
 if h:(f.bits=0∨f.bits=10∨f.bits=16∨f.bits=21)∧(-1048576≤f.least∧f.least≤0)∧(0≤f.most∧f.most≤1048575)∧(f.bits=0→f.least=0∧f.most=0)∧(f.bits≠0→f.most<2^f.bits∧- 2^f.bits≤f.least)then .isTrue ⟨h.1,h.2.1,h.2.2.1,h.2.2.2.1,h.2.2.2.2⟩
 else .isFalse fun k=>h ⟨k.bits,k.least,k.most,k.lo,k.fit⟩
theorem Zml:∀f∈rowsR,FrmOk f:=by decide +kernel
theorem Zbf{op:Int}(h0:0≤op)(h1:op<32):rowsR[op.toNat]?=some (frmR op):=by
 have hl:op.toNat<rowsR.length:=by show op.toNat<32;omega
 rw[zge hl];unfold frmR;rw[zgd,zge hl];rfl
theorem zrq(op:Int):FrmOk (frmR op):=by
 unfold frmR;rw[zgd];cases h:rowsR[op.toNat]? with
 |none=>exact(by decide +kernel:FrmOk oneF)
 |some f=>exact Zml f (zmg h)
theorem zkz(n:Int)(has:Bool)(H:PH):Gives zP 150 [vi n,.bool has] H (.bool (regR n has)):=by
 refine qr zm1 [vi n,.bool has] ?_;unfold regR;refine⟨fun g=>?_,fun g=>?_⟩
 .simp only[wy,arI,qy]at g;subst g;exact⟨by simp[wy,arI],wx _⟩
 .simp only[wy,arI,qU]at g;subst g;exact⟨by simp[wy,arI],wx _⟩
def encE:Option Int→Int
 |some _=>0
 |none=>200
abbrev encV(o:Option Int):Value:=.tuple #[.int .u32 (o.getD 0),vi (encE o)]
theorem wu32{n:Int}(h0:0≤n)(h1:n≤4294967295):IntKind.u32.wrap n=n:=by
 simp only[IntKind.wrap,IntKind.bits,IntKind.signed];simp;omega
theorem wu64{n:Int}(h0:0≤n)(h1:n≤18446744073709551615):IntKind.u64.wrap n=n:=by
 simp only[IntKind.wrap,IntKind.bits,IntKind.signed];simp;omega
theorem zmy{n:Int}{b:Bool}(h:regR n b=true):0≤n∧n≤31:=by
 unfold regR at h;split at h
 .simpa using h
 .have:n=0:=by simpa using h
  omega
theorem shl1{k:Nat}(h:k=0∨k=10∨k=16∨k=21):arI .shl .i64 1 (k:Int)=2^k:=by
 rcases h with rfl|rfl|rfl|rfl<;>decide
theorem zde(x:InsR)(H:PH)(hx:InI5 x):Gives zP 92 [.agg (insV x).toArray] H (encV (encR x)):=by
 refine qr zfr (insV x) ?_;refine z02 (qb 100) (zy2 H) ?_;rintro e K ⟨l1,v,rfl,hv⟩;obtain⟨rb,rc,rfl⟩:=hv.sl;refine⟨_,[.slice rb rowsR.length rc],rfl,rfl,rfl,z01,?_⟩;have hrl:rowsR.length=32:=rfl;simp only[cns];refine⟨fun g=>?_,fun g=>?_⟩
 .simp only[wy,arI]at g;simp only[qu,zdt,hrl]at g;have:encR x=none:=by unfold encR;rw[qj (show x.op<0∨32≤x.op by omega)]
  rw[this];exact⟨rfl,l1⟩
 .simp only[wy,arI,zof,zdf,hrl]at g;have hop:0≤x.op∧x.op<32:=om;obtain⟨y1,yn,ycs,y2,y3⟩:=hv.get (Zbf hop.1 hop.2);have:=Zh2 y2;subst this;have hj:((x.op.toNat:Nat):Int)=x.op:=Int.toNat_of_nonneg hop.1;rw[hj]at y3 yn;have hok:=zrq x.op;generalize hf:frmR x.op=f at *;have he:encR x=if fitsR x=true then some (wordR x (if x.n<0 then x.n+2^f.bits else x.n))else none:=by
   unfold encR;rw[qc (show ¬(x.op<0∨32≤x.op) by omega),hf]
  refine⟨fun _=>?_,frmV f,rfl,?_,?_⟩
  .simp only[Chk.holds,wy,arI];exact⟨y1,om,om⟩
  .simp only[wy,arI];exact y3
  simp only[cns];refine⟨fun vs K2=>vs=[.bool (!fitsR x)]∧PH.le K K2,?_,?_⟩
  .rintro vs K2 _ ⟨rfl,l2⟩;have l12:=ww l1 l2;simp only[cns];refine⟨fun g2=>?_,fun g2=>?_⟩
   .simp only[wy,arI,qy]at g2;rw[he,qc (by rw[g2];exact qk)];exact⟨rfl,l12⟩
   .simp only[wy,arI,qU]at g2;rw[he,qj g2];have hfit:=g2;unfold fitsR at hfit;rw[hf]at hfit;simp only[zba,zdt]at hfit;obtain⟨⟨⟨⟨ra,rb'⟩,rc'⟩,rl⟩,rm⟩:=hfit;have ra:=zmy ra;have rb':=zmy rb';have rc':=zmy rc';obtain⟨m,hm⟩:∃m,(if x.n<0 then x.n+2^f.bits else x.n)=m:=⟨_,rfl⟩;have hm2:0≤m∧m≤2097152:=by
     have h2:(2:Int)^f.bits≤2097152:=by
      rcases hok.bits with h|h|h|h<;>rw[h]<;>decide
     have h3:=hok.least;have h4:=hok.most;have h5:=hok.lo;have h6:=hok.fit;by_cases hn:x.n<0
     .rw[qj hn]at hm;have hb0:f.bits≠0:=fun h=>by have:=h5 h;omega
      have:=h6 hb0;omega
     .rw[qc hn]at hm;omega
    refine⟨fun vs K3=>vs=[vi m]∧PH.le K2 K3,?_,fun g3=>?_,fun g3=>?_⟩
    .rintro vs K3 _ ⟨rfl,l3⟩;refine⟨?_,ww l12 l3⟩;simp only[wy,arI,partV,qp,if_false,if_true,List.headD_cons,hm,Option.getD_some];unfold wordR;simp(disch:=omega) only[w64,wu32];rfl
    .simp only[wy,arI,zdt]at g3;refine⟨fun _=>by simp[Chk.holds,wy,arI],_,z00,?_,wx _⟩;have e1:=shl1 hok.bits;simp only[arI]at e1;rw[qj g3]at hm;simp only[wy,arI,e1,hm];rw[w64 om om]
    .simp only[wy,arI,zdf]at g3;rw[qc g3]at hm;exact⟨_,z00,by simp only[wy,arI,hm],wx _⟩
  .refine z03 [.bool (regR x.a f.a)] (qb 150) (zkz x.a f.a K) rfl z01 fun K1 k1=>?_;simp only[cns];have hF:fitsR x=(regR x.a f.a&&regR x.b f.b&&regR x.c f.c&&decide (f.least≤x.n)&&decide (x.n≤f.most)):=by unfold fitsR;rw[hf]
   refine⟨fun g2=>?_,fun g2=>?_⟩
   .simp only[wy,arI,qy]at g2;exact⟨_,z00,by simp[wy,arI,hF,g2],k1⟩
   .simp only[wy,arI,qU]at g2;refine z03 [.bool (regR x.b f.b)] (qb 150) (zkz x.b f.b K1) rfl z01 fun K2 k2=>?_;simp only[cns];refine⟨fun g3=>?_,fun g3=>?_⟩
    .simp only[wy,arI,qy]at g3;exact⟨_,z00,by simp[wy,arI,hF,g3],ww k1 k2⟩
    .simp only[wy,arI,qU]at g3;refine z03 [.bool (regR x.c f.c)] (qb 150) (zkz x.c f.c K2) rfl z01 fun K3 k3=>?_;simp only[cns];refine⟨_,z00,?_,ww k1 (ww k2 k3)⟩;rw[hF,g2,g3];simp only[wy,arI,Bool.true_and];have q1:decide (x.n<f.least)=!decide (f.least≤x.n):=by rw[←decide_not,decide_eq_decide];omega
     have q2:decide (x.n>f.most)=!decide (x.n≤f.most):=by rw[←decide_not,decide_eq_decide];omega
     rw[q1,q2,←Bool.not_and,←Bool.not_and]
abbrev decV(o:Option InsR):Value:=.tuple #[.agg (insV (o.getD ins0)).toArray,.bool o.isSome]
theorem tdivp{a b:Int}(h:0≤a):a.tdiv b=a/b:=Int.tdiv_eq_ediv_of_nonneg h
theorem tmodp{a b:Int}(h:0≤a):a.tmod b=a%b:=Int.tmod_eq_emod_of_nonneg h
theorem Ze5{f:FrmR}(h:FrmOk f){w:Int}(h0:0≤w):-2097152≤numOf f w∧numOf f w≤2097152:=by
 unfold numOf;rcases h.bits with hb|hb|hb|hb<;>rw[hb]<;>(repeat' split)<;>omega
theorem Zkk{w:Int}(h:InU w):InI5 (z7s w):=by
 obtain⟨h0,h1⟩:=h;have hn:=Ze5 (zrq (w/67108864)) h0;unfold z7s;refine⟨?_,?_,?_,?_,?_⟩<;>unfold InI<;>simp only[]
 .omega
 .omega
 .split<;>omega
 .split<;>omega
 .omega
theorem Z8d(w:Int)(o:Option Int):(encE o)≠0∨(o.getD 0)≠w↔¬o=some w:=by
 cases o with
 |none=>simp[encE]
 |some v=>simp[encE]
theorem Z02(w:Int)(H:PH)(hw:InU w):Gives zP 65 [.int .u32 w] H (decV (decR w)):=by
 obtain⟨w0,w1⟩:=hw;refine qr zgj [.int .u32 w] ?_;refine z02 (qb 100) (zy2 H) ?_;rintro e K ⟨l1,v,rfl,hv⟩;obtain⟨rb,rc,rfl⟩:=hv.sl;refine⟨_,[.slice rb rowsR.length rc],rfl,rfl,rfl,z01,?_⟩;have hrl:rowsR.length=32:=rfl;simp only[cns];have hcv:IntKind.i64.wrap w=w:=w64 om om;have hop:IntKind.i64.wrap (w.tdiv 67108864)=w/67108864:=by rw[tdivp w0,w64 om om]
 have ha:(IntKind.i64.wrap (w.tdiv 2097152)).tmod 32=w/2097152%32:=by rw[tdivp w0,w64 om om,tmodp om]
 have hb:(IntKind.i64.wrap (w.tdiv 65536)).tmod 32=w/65536%32:=by rw[tdivp w0,w64 om om,tmodp om]
 have hc:(IntKind.i64.wrap (w.tdiv 2048)).tmod 32=w/2048%32:=by rw[tdivp w0,w64 om om,tmodp om]
 refine⟨fun g=>?_,fun g=>?_⟩
 .simp only[wy,arI,zdt,hrl,hcv,hop]at g;have:decR w=none:=by unfold decR;rw[qj (show 32≤w/67108864 by omega)]
  rw[this];exact⟨rfl,l1⟩
 .simp only[wy,arI,zdf,hrl,hcv,hop]at g;have hd:decR w=if encR (z7s w)=some w then some (z7s w)else none:=by unfold decR;rw[qc (show ¬32≤w/67108864 by omega)]
  obtain⟨y1,yn,ycs,y2,y3⟩:=hv.get (Zbf (show 0≤w/67108864 by omega) om);have:=Zh2 y2;subst this;have hj:(((w/67108864).toNat:Nat):Int)=w/67108864:=Int.toNat_of_nonneg om;rw[hj]at y3 yn;have hok:=zrq (w/67108864);have hp:z7s w=⟨w/67108864,w/2097152%32,if(frmR (w/67108864)).b=true then w/65536%32 else 0,if(frmR (w/67108864)).c=true then w/2048%32 else 0,numOf (frmR (w/67108864)) w⟩:=rfl;have hpi:=Zkk ⟨w0,w1⟩;generalize hx:z7s w=x at *;generalize hf:frmR (w/67108864)=f at *;refine⟨fun _=>?_,frmV f,rfl,?_,?_⟩
  .simp only[Chk.holds,wy,arI,hcv,hop];exact⟨y1,om,om⟩
  .simp only[wy,arI,hcv,hop];exact y3
  simp only[cns];have e1:=shl1 hok.bits;simp only[arI]at e1;have hbe:(if f.b=true then Value.int .i64 (w/65536%32)else Value.int .i64 0)=Value.int .i64 x.b:=by rw[hp];simp only[];split<;>rfl
  have hce:(if f.c=true then Value.int .i64 (w/2048%32)else Value.int .i64 0)=Value.int .i64 x.c:=by rw[hp];simp only[];split<;>rfl
  refine⟨fun vs K2=>vs=insV x∧PH.le K K2,?_,fun g2=>?_,fun g2=>?_⟩
  .rintro vs K2 _ ⟨rfl,l2⟩;simp only[cns];refine z03 [.int .u32 ((encR x).getD 0),vi (encE (encR x))] (qb 92) (zde x K2 hpi) rfl z01 fun K3 l3=>?_;have l13:=ww l1 (ww l2 l3);simp only[cns];refine⟨fun g3=>?_,fun g3=>?_⟩
   .simp only[wy,arI]at g3;simp only[Bool.if_true_left,qu,zdt]at g3;rw[hd,qc ((Z8d w _).1 g3)];exact⟨rfl,l13⟩
   .simp only[wy,arI]at g3;simp only[Bool.if_true_left,zof,zdf]at g3;rw[hd,qj (Decidable.not_not.1 fun h=>absurd ((Z8d w _).2 h) om)];exact⟨rfl,l13⟩
  .simp only[wy,arI,zdt]at g2;have hb0:f.bits≠0:=om;have hnum:x.n=if f.most<w%2^f.bits∧f.least<0 then w%2^f.bits-2^f.bits else w%2^f.bits:=by
    rw[hp];unfold numOf;rw[qc hb0]
   have hpp:(0:Int)<2^f.bits:=Int.pow_pos dC;have hp2:(2:Int)^f.bits≤2097152:=by rcases hok.bits with h|h|h|h<;>rw[h]<;>decide
   have hm:w.tmod (2^f.bits)=w%2^f.bits:=tmodp w0;have hmb:=Int.emod_nonneg w (show(2:Int)^f.bits≠0 by omega);have hmb2:=Int.emod_lt_of_pos w hpp;refine⟨fun _=>by simp[Chk.holds,wy,arI],fun _=>?_,fun g3=>?_,fun g3=>?_⟩
   .simp only[Chk.holds,wy,arI,e1];omega
   .simp only[wy,arI,e1,hcv,hm]at g3;simp only[Bool.if_false_right,zba,zdt]at g3;rw[qj om]at hnum;refine⟨fun _=>by simp[Chk.holds,wy,arI],_,z00,?_,wx _⟩;simp only[wy,arI,e1,hm,hcv,hop,ha,hb,hc];rw[w64 (n:=w%2^f.bits-2^f.bits) om om,hbe,hce];have hxop:x.op=w/67108864:=by rw[hp]
    have hxa:x.a=w/2097152%32:=by rw[hp]
    simp only[insV,hxop,hxa,hnum]
   .simp only[wy,arI,e1,hcv,hm]at g3;simp only[Bool.if_false_right,wj,zdf]at g3;rw[qc om]at hnum;refine⟨_,z00,?_,wx _⟩;simp only[wy,arI,e1,hm,hcv,hop,ha,hb,hc];rw[hbe,hce];have hxop:x.op=w/67108864:=by rw[hp]
    have hxa:x.a=w/2097152%32:=by rw[hp]
    simp only[insV,hxop,hxa,hnum]
  .simp only[wy,arI,zdf]at g2;have hb0:f.bits=0:=om;have hnum:x.n=0:=by rw[hp];unfold numOf;rw[qj hb0]
   refine⟨_,z00,?_,wx _⟩;simp only[wy,arI,hcv,hop,ha,hb,hc];rw[hbe,hce];have hxop:x.op=w/67108864:=by rw[hp]
   have hxa:x.a=w/2097152%32:=by rw[hp]
   simp only[insV,hxop,hxa,hnum]
theorem zzl(n:Int):arI .and .i64 n 4294967295=n%4294967296:=zhr n 32 om
theorem Znu(n:Int):arI .and .i64 n 63=n%64:=zhr n 6 om
theorem shr32(n:Int):arI .shr .i64 n 32=n/4294967296:=by
 show n.fdiv (2^(min (32:Int).toNat 64))=_;rw[Int.fdiv_eq_ediv_of_nonneg _ (Int.pow_nonneg dC)];rfl
theorem Znr(n:Int):arI .shr .u64 n 32=n/4294967296:=by
 show n.fdiv (2^(min (32:Int).toNat 64))=_;rw[Int.fdiv_eq_ediv_of_nonneg _ (Int.pow_nonneg dC)];rfl
theorem zen{a b A B:Int}(ha:-A≤a∧a≤A)(hb:0≤b∧b≤B):-(A*B)≤a*b∧a*b≤A*B:=by
 have hA:0≤A:=om;have h1:A*b≤A*B:=Int.mul_le_mul_of_nonneg_left hb.2 hA;have h2:a*b≤A*b:=Int.mul_le_mul_of_nonneg_right ha.2 hb.1;have h3:-A*b≤a*b:=Int.mul_le_mul_of_nonneg_right ha.1 hb.1;have h4:-A*b=-(A*b):=Int.neg_mul A b;omega
theorem Zfo{a b A B:Int}(ha:a≤A)(hA:0≤A)(hb:0≤b∧b≤B):a*b≤A*B:=
 Int.le_trans (Int.mul_le_mul_of_nonneg_right ha hb.1) (Int.mul_le_mul_of_nonneg_left hb.2 hA)
theorem zwg{a b A B:Int}(ha:-A≤a∧a≤A)(hb:-B≤b∧b≤B):-(A*B)≤a*b∧a*b≤A*B:=by
 by_cases h:0≤b
 .exact zen ha ⟨h,hb.2⟩
 .have:=zen (b:=-b) ha (B:=B) om;rw[Int.mul_neg]at this;omega
theorem Zdq{b1 b0 c1 c0:Int}(hb:-2147483648≤b1∧b1≤2147483647)(hb0:0≤b0∧b0≤4294967295)(hc:-2147483648≤c1∧c1≤2147483647)(hc0:0≤c0∧c0≤4294967295):
  (4294967296*b1+b0)*(4294967296*c1+c0)/18446744073709551616=b1*c1+(b1*c0+b0*c0/4294967296)/4294967296+(b0*c1+(b1*c0+b0*c0/4294967296)%4294967296)/4294967296:=by
 have e:(4294967296*b1+b0)*(4294967296*c1+c0)=18446744073709551616*(b1*c1)+4294967296*(b1*c0+b0*c1)+b0*c0:=by grind
 rw[e];generalize b1*c1=p;generalize b1*c0=q;generalize b0*c1=r;generalize b0*c0=s;omega
theorem Zd8(b c:Int)(H:PH)(hb:InI b)(hc:InI c):Gives zP 152 [vi b,vi c] H (vi (mulhR b c)):=by
 refine qr zja [vi b,vi c] ?_;refine⟨?_,wx _⟩;obtain⟨hb1,hb2⟩:=hb;obtain⟨hc1,hc2⟩:=hc;have x1:=shr32 b;have x2:=shr32 c;have x3:=zzl b;have x4:=zzl c;have kb:-2147483648≤b/4294967296∧b/4294967296≤2147483647:=om;have kc:-2147483648≤c/4294967296∧c/4294967296≤2147483647:=om;have lb:0≤b%4294967296∧b%4294967296≤4294967295:=om;have lc:0≤c%4294967296∧c%4294967296≤4294967295:=om;have hm:=Zdq kb lb kc lc;rw[show 4294967296*(b/4294967296)+b%4294967296=b by omega,show 4294967296*(c/4294967296)+c%4294967296=c by omega]at hm;have q1:=zen (A:=2147483648) (B:=4294967295) (a:=b/4294967296) (b:=c%4294967296) om lc;have q2:=zen (A:=2147483648) (B:=4294967295) (a:=c/4294967296) (b:=b%4294967296) om lb;have q3:=zen (A:=4294967295) (B:=4294967295) (a:=b%4294967296) (b:=c%4294967296) om lc;have q4:0≤(b%4294967296)*(c%4294967296):=Int.mul_nonneg lb.1 lc.1;rw[Int.mul_comm (c/4294967296) (b%4294967296)]at q2;have q6:=Zfo (A:=2147483647) (B:=4294967295) (a:=b/4294967296) (b:=c%4294967296) om om lc;have q7:=Zfo (A:=2147483647) (B:=4294967295) (a:=c/4294967296) (b:=b%4294967296) om om lb;rw[Int.mul_comm (c/4294967296) (b%4294967296)]at q7;have q5:=zwg (A:=2147483648) (B:=2147483648) (a:=b/4294967296) (b:=c/4294967296) om om;show Ending.returned _=Ending.returned _;simp only[wy,arI];simp only[arI]at x1 x2 x3 x4;simp only[x1,x2,x3,x4];have f1:∀n:Int,n.fdiv (2^min (Int.toNat 32) IntKind.u64.bits)=n/4294967296:=Znr;have f2:∀n:Int,n.fdiv (2^min (Int.toNat 32) IntKind.i64.bits)=n/4294967296:=shr32;have f3:∀n:Int,IntKind.i64.wrap ↑(BitVec.ofInt IntKind.i64.bits n &&& BitVec.ofInt IntKind.i64.bits 4294967295).toNat=n%4294967296:=zzl;have hfd:mulhR b c=b*c/18446744073709551616:=by unfold mulhR;rw[Int.fdiv_eq_ediv_of_nonneg _ dC];rfl
 rw[hfd,hm];clear hm hfd x1 x2 x3 x4;rw[wu64 (n:=b%4294967296) om om,wu64 (n:=c%4294967296) om om];generalize b/4294967296*(c/4294967296)=p1 at *;generalize b/4294967296*(c%4294967296)=p2 at *;generalize b%4294967296*(c/4294967296)=p3 at *;generalize b%4294967296*(c%4294967296)=p4 at *;simp only[f1,f2,f3];simp(disch:=omega) only[w64,wu64]
open Go Go.ChangeShapes Go.WideShapes Go.ChangeAt Go.RowKit
structure InsX where
 op:List UInt8
 to:Int
 args:List Int
 const:Dat
 num:Int
structure EndX where
 kind:Int
 reg:Int
 args:List Int
 to:Int
 next:Int
 els:Int
structure BlkX where
 ins:List InsX
 e:EndX
structure PrcX where
 params:Int
 holds:Int
 regs:Int
 blocks:List BlkX
def InsX.pv(x:InsX):List PV:=[.str x.op,.int .i64 x.to,slp x.args,.int .i64 x.const.kind,.int .i64 x.const.int,.str x.const.text,slp x.const.list,.int .i64 x.num]
def EndX.pv(e:EndX):List PV:=[.int .i64 e.kind,.int .i64 e.reg,slp e.args,.int .i64 e.to,.int .i64 e.next,.int .i64 e.els]
instance encIns:Enc InsX:=⟨InsX.pv,8,fun _=>rfl⟩
instance encEnd:Enc EndX:=⟨EndX.pv,6,fun _=>rfl⟩
instance encBlk:Enc BlkX:=⟨fun b=>slp b.ins::b.e.pv,7,fun _=>rfl⟩
instance encPrc:Enc PrcX:=⟨fun p=>[.int .i64 p.params,.int .i64 p.holds,.int .i64 p.regs,slp p.blocks],4,fun _=>rfl⟩
theorem ins_iff{H:PH}{x:InsX}{cs:List Value}:CsR H x cs↔∃av dv,cs=[txt x.op,vi x.to,av,vi x.const.kind,vi x.const.int,txt x.const.text,dv,vi x.num] ∧
  x.op.length≤maxLen∧InI x.to∧SlR H x.args av∧InI x.const.kind∧InI x.const.int∧x.const.text.length≤maxLen∧SlR H x.const.list dv∧InI x.num:=by
 show PV.RepRow H (InsX.pv x) cs↔_;simp only[InsX.pv,PV.RepRow,repI_iff,zvh];constructor
 .rintro⟨v1,_,rfl,⟨rfl,h1⟩,v2,_,rfl,⟨rfl,h2⟩,v3,_,rfl,h3,v4,_,rfl,⟨rfl,h4⟩,v5,_,rfl,⟨rfl,h5⟩,v6,_,rfl,⟨rfl,h6⟩,v7,_,rfl,h7,v8,_,rfl,⟨rfl,h8⟩,rfl⟩;exact⟨v3,v7,rfl,h1,h2,h3,h4,h5,h6,h7,h8⟩
 .rintro⟨v3,v7,rfl,h1,h2,h3,h4,h5,h6,h7,h8⟩;exact⟨_,_,rfl,⟨rfl,h1⟩,_,_,rfl,⟨rfl,h2⟩,_,_,rfl,h3,_,_,rfl,⟨rfl,h4⟩,_,_,rfl,⟨rfl,h5⟩,_,_,rfl,⟨rfl,h6⟩,_,_,rfl,h7,_,_,rfl,⟨rfl,h8⟩,rfl⟩
theorem end_iff{H:PH}{e:EndX}{cs:List Value}:CsR H e cs↔∃av,cs=[vi e.kind,vi e.reg,av,vi e.to,vi e.next,vi e.els] ∧
  InI e.kind∧InI e.reg∧SlR H e.args av∧InI e.to∧InI e.next∧InI e.els:=by
 show PV.RepRow H (EndX.pv e) cs↔_;simp only[EndX.pv,PV.RepRow,repI_iff,zvh];constructor
 .rintro⟨v1,_,rfl,⟨rfl,h1⟩,v2,_,rfl,⟨rfl,h2⟩,v3,_,rfl,h3,v4,_,rfl,⟨rfl,h4⟩,v5,_,rfl,⟨rfl,h5⟩,v6,_,rfl,⟨rfl,h6⟩,rfl⟩;exact⟨v3,rfl,h1,h2,h3,h4,h5,h6⟩
 .rintro⟨v3,rfl,h1,h2,h3,h4,h5,h6⟩;exact⟨_,_,rfl,⟨rfl,h1⟩,_,_,rfl,⟨rfl,h2⟩,_,_,rfl,h3,_,_,rfl,⟨rfl,h4⟩,_,_,rfl,⟨rfl,h5⟩,_,_,rfl,⟨rfl,h6⟩,rfl⟩
theorem blk_iff{H:PH}{b:BlkX}{cs:List Value}:CsR H b cs↔∃iv es,cs=iv::es∧SlR H b.ins iv∧CsR H b.e es:=by
 show PV.RepRow H (slp b.ins::b.e.pv) cs↔_;rw[PV.RepRow];constructor
 .rintro⟨v,vs,rfl,h1,h2⟩;exact⟨v,vs,rfl,h1,h2⟩
 .rintro⟨v,vs,rfl,h1,h2⟩;exact⟨v,vs,rfl,h1,h2⟩
theorem prc_iff{H:PH}{p:PrcX}{cs:List Value}:CsR H p cs↔∃bv,cs=[vi p.params,vi p.holds,vi p.regs,bv]∧InI p.params∧InI p.holds∧InI p.regs∧SlR H p.blocks bv:=by
 show PV.RepRow H [_,_,_,_] cs↔_;simp only[PV.RepRow,repI_iff];constructor
 .rintro⟨v1,_,rfl,⟨rfl,h1⟩,v2,_,rfl,⟨rfl,h2⟩,v3,_,rfl,⟨rfl,h3⟩,v4,_,rfl,h4,rfl⟩;exact⟨v4,rfl,h1,h2,h3,h4⟩
 .rintro⟨v4,rfl,h1,h2,h3,h4⟩;exact⟨_,_,rfl,⟨rfl,h1⟩,_,_,rfl,⟨rfl,h2⟩,_,_,rfl,⟨rfl,h3⟩,_,_,rfl,h4,rfl⟩
theorem z09{S:PH}{a:Int}(h:InI a):CsR S a [vi a]:=by
 show PV.RepRow S [.int .i64 a] [.int .i64 a];simp only[PV.RepRow,repI_iff];exact⟨_,_,rfl,⟨rfl,h⟩,rfl⟩
instance encInts:Enc (List Int):=⟨fun l=>[slp l],1,fun _=>rfl⟩
theorem csLK{H:PH}{a:List Int}{cs:List Value}(h:CsR H a cs):∃v,cs=[v]∧SlR H a v:=by
 have h':PV.RepRow H [slp a] cs:=h;simp only[PV.RepRow]at h';obtain⟨v,vs,rfl,h1,rfl⟩:=h';exact⟨v,rfl,h1⟩
theorem zth{H:PH}{a:List Int}{v:Value}(h:SlR H a v):CsR H a [v]:=by
 show PV.RepRow H [slp a] [v];simp only[PV.RepRow];exact⟨v,[],rfl,h,rfl⟩
theorem z0g:Tryz.prog.underlying 29=some (.slice 3):=kr
theorem z0e:ElemOk zP 3 1 8=true:=kr
theorem Zc4:Tryz.prog.underlying 185=some (.slice 29):=kr
theorem Z2d:ElemOk zP 29 1 24=true:=kr
theorem z79:Tryz.prog.underlying 36=some (.slice 34):=kr
theorem z4e:ElemOk zP 34 8 112=true:=kr
theorem Z8h:Tryz.prog.underlying 41=some (.slice 40):=kr
theorem zw3:ElemOk zP 40 7 88=true:=kr
theorem zpb(n:Int):IntKind.i64.wrap n=if 9223372036854775808≤n%18446744073709551616 then n%18446744073709551616-18446744073709551616 else n%18446744073709551616:=by
 simp only[IntKind.wrap,IntKind.bits,IntKind.signed];simp
theorem Z11(n:Int):∃k:Int,IntKind.i64.wrap n=n+k*18446744073709551616:=by
 rw[zpb];split
 .exact⟨-(n/18446744073709551616)-1,om⟩
 .exact⟨-(n/18446744073709551616),om⟩
theorem Zmq{n r k:Int}(h:n=r+k*18446744073709551616)(hr:InI r):IntKind.i64.wrap n=r:=by
 obtain⟨h0,h1⟩:=hr;rw[zpb];split<;>omega
theorem Zbp{b c:Int}(hb:InI b):InI (b.tmod c):=by
 obtain⟨h0,h1⟩:=hb;unfold InI;have h2:=Int.natAbs_tmod b c;have h3:=Nat.mod_le b.natAbs c.natAbs;have h4:0≤b→0≤b.tmod c:=Int.tmod_nonneg c;have h5:0≤-b→0≤(-b).tmod c:=Int.tmod_nonneg c;rw[Int.neg_tmod]at h5;omega
theorem Zlg{b c:Int}(hb:InI b):IntKind.i64.wrap (b-IntKind.i64.wrap (IntKind.i64.wrap (b.tdiv c)*c))=b.tmod c:=by
 obtain⟨k1,h1⟩:=Z11 (b.tdiv c);obtain⟨k2,h2⟩:=Z11 (IntKind.i64.wrap (b.tdiv c)*c);refine Zmq (k:=-(k1*c)-k2) ?_ (Zbp hb);rw[h2,h1,Int.add_mul];have h3:=Int.mul_tdiv_add_tmod b c;have h4:k1*18446744073709551616*c=k1*c*18446744073709551616:=by rw[Int.mul_assoc,Int.mul_comm 18446744073709551616,Int.mul_assoc]
 rw[h4,Int.mul_comm (b.tdiv c) c];generalize k1*c=p at *;generalize c*b.tdiv c=q at *;omega
theorem z2g(n:Int):InI (IntKind.i64.wrap n):=by
 unfold InI;rw[zpb];split<;>omega
theorem Zhf{b:Int}(hb:InI b)(k:Int):InI (arI .shr .i64 b k):=by
 obtain⟨h0,h1⟩:=hb;unfold InI;show _≤b.fdiv (2^(min k.toNat 64))∧b.fdiv (2^(min k.toNat 64))≤_;have hp:(1:Int)≤2^(min k.toNat 64):=by
  have:(0:Int)<2^(min k.toNat 64):=Int.pow_pos dC;omega
 rw[Int.fdiv_eq_ediv_of_nonneg _ om];generalize(2:Int)^(min k.toNat 64)=q at *;refine⟨?_,?_⟩
 .rw[Int.le_ediv_iff_mul_le om];have:-9223372036854775808*q≤-9223372036854775808*1:=Int.mul_le_mul_of_nonpos_left om om;omega
 .have:b / q < 9223372036854775808:=Int.ediv_lt_of_lt_mul om (by
   have:9223372036854775808*1≤9223372036854775808*q:=Int.mul_le_mul_of_nonneg_left hp om;omega)
  omega
theorem Zma{b c:Int}(hb:InI b)(hc:InI c):InI (mulhR b c):=by
 obtain⟨h0,h1⟩:=hb;obtain⟨h2,h3⟩:=hc;have h4:=zwg (A:=9223372036854775808) (B:=9223372036854775808) (a:=b) (b:=c) om om;unfold InI mulhR;rw[Int.fdiv_eq_ediv_of_nonneg _ dC];generalize b*c=p at *;omega
theorem z34{p:Prop}[Decidable p]{a b:Int}(h1:InI a)(h2:InI b):InI (if p then a else b):=by
 by_cases h:p
 .rw[qj h];exact h1
 .rw[qc h];exact h2
theorem Z5w(op:Int){b c:Int}(hb:InI b)(hc:InI c):InI (thrR op b c):=by
 have h0:InI 0:=by unfold InI;omega
 have h1:InI 1:=by unfold InI;omega
 unfold thrR;exact z34 (z2g _) (z34 (z2g _) (z34 (z2g _) (z34 (Zma hb hc) (z34 (z2g _) (z34 (Zbp hb) (z34 (z2g _) (z34 (z2g _) (z34 (z2g _) (z34 (z2g _) (z34 (Zhf hb _) (z34 (z2g _) (z34 (z34 h1 h0) (z34 h1 h0)))))))))))))
theorem Zlb(c:Int):IntKind.u64.wrap (arI .and .i64 c 63)=arI .and .i64 c 63:=by
 rw[Znu];exact wu64 om om
theorem zqk(op b c:Int)(H:PH)(hb:InI b)(hc:InI c)(hz:op=5∨op=6→c≠0):Gives zP 101 [vi op,vi b,vi c] H (vi (thrR op b c)):=by
 refine qr zhe [vi op,vi b,vi c] ?_;have e63:=Zlb c;simp only[arI]at e63;generalize ht:thrR op b c=t;unfold thrR at ht;refine⟨fun g=>?_,fun g=>?_⟩
 .simp only[wy,arI,zdt]at g;rw[qj g]at ht;exact⟨by simp only[wy,arI,←ht],wx _⟩
 simp only[wy,arI,zdf]at g;rw[qc g]at ht;refine⟨fun g=>?_,fun g=>?_⟩
 .simp only[wy,arI,zdt]at g;rw[qj g]at ht;exact⟨by simp only[wy,arI,←ht],wx _⟩
 simp only[wy,arI,zdf]at g;rw[qc g]at ht;refine⟨fun g=>?_,fun g=>?_⟩
 .simp only[wy,arI,zdt]at g;rw[qj g]at ht;exact⟨by simp only[wy,arI,←ht],wx _⟩
 simp only[wy,arI,zdf]at g;rw[qc g]at ht;refine⟨fun g=>?_,fun g=>?_⟩
 .simp only[wy,arI,zdt]at g;rw[qj g]at ht;refine z03 [vi (mulhR b c)] (qb 152) (Zd8 b c H hb hc) rfl z01 fun K l=>?_;exact⟨by simp only[wy,arI,←ht],l⟩
 simp only[wy,arI,zdf]at g;rw[qc g]at ht;refine⟨fun g=>?_,fun g=>?_⟩
 .simp only[wy,arI,zdt]at g;rw[qj g]at ht;refine⟨fun _=>?_,?_,wx _⟩
  .simp only[Chk.holds,wy,arI];exact hz (.inl g)
  .simp only[wy,arI,←ht]
 simp only[wy,arI,zdf]at g;rw[qc g]at ht;refine⟨fun g=>?_,fun g=>?_⟩
 .simp only[wy,arI,zdt]at g;rw[qj g]at ht;refine⟨fun _=>?_,?_,wx _⟩
  .simp only[Chk.holds,wy,arI];exact hz (.inr g)
  .simp only[wy,arI,Zlg hb,←ht]
 simp only[wy,arI,zdf]at g;rw[qc g]at ht;refine⟨fun g=>?_,fun g=>?_⟩
 .simp only[wy,arI,zdt]at g;rw[qj g]at ht;exact⟨by simp only[wy,arI,←ht],wx _⟩
 simp only[wy,arI,zdf]at g;rw[qc g]at ht;refine⟨fun g=>?_,fun g=>?_⟩
 .simp only[wy,arI,zdt]at g;rw[qj g]at ht;exact⟨by simp only[wy,arI,←ht],wx _⟩
 simp only[wy,arI,zdf]at g;rw[qc g]at ht;refine⟨fun g=>?_,fun g=>?_⟩
 .simp only[wy,arI,zdt]at g;rw[qj g]at ht;exact⟨by simp only[wy,arI,←ht],wx _⟩
 simp only[wy,arI,zdf]at g;rw[qc g]at ht;refine⟨fun g=>?_,fun g=>?_⟩
 .simp only[wy,arI,zdt]at g;rw[qj g]at ht;exact⟨by simp only[wy,arI,e63,←ht],wx _⟩
 simp only[wy,arI,zdf]at g;rw[qc g]at ht;refine⟨fun g=>?_,fun g=>?_⟩
 .simp only[wy,arI,zdt]at g;rw[qj g]at ht;exact⟨by simp only[wy,arI,e63,←ht],wx _⟩
 simp only[wy,arI,zdf]at g;rw[qc g]at ht;refine⟨fun g=>?_,fun g=>?_⟩
 .simp only[wy,arI,zdt]at g;rw[qj g]at ht;exact⟨by simp only[wy,arI,e63,←ht,u64],wx _⟩
 simp only[wy,arI,zdf]at g;rw[qc g]at ht;refine⟨fun g=>?_,fun g=>?_⟩
 .simp only[wy,arI,zdt]at g;rw[qj g]at ht;refine⟨fun g=>?_,fun g=>?_⟩
  .simp only[wy,arI,zdt]at g;rw[qj g]at ht;exact⟨by simp only[wy,arI,←ht],wx _⟩
  .simp only[wy,arI,zdf]at g;rw[qc g]at ht;exact⟨by simp only[wy,arI,←ht],wx _⟩
 simp only[wy,arI,zdf]at g;rw[qc g]at ht;refine⟨fun g=>?_,fun g=>?_⟩
 .simp only[wy,arI,zdt]at g;rw[qj (show u64 b<u64 c from g)]at ht;exact⟨by simp only[wy,arI,←ht],wx _⟩
 .simp only[wy,arI,zdf]at g;rw[qc (show ¬u64 b<u64 c from g)]at ht;exact⟨by simp only[wy,arI,←ht],wx _⟩
theorem zxh{P:Program}{Φ:Next→PH→Prop}{Ψ:Value→PH→Prop}{H:PH}{ρ:Operand→Value}{T ty:TypeId}{x y:Operand}:wpS P (execOp ρ (bare (.indexAddr T x y) ty)) Φ Ψ H=wpS P (Instr.indexAt T (ρ x) (ρ y)) (fun v H'=>Φ (.value v) H') Ψ H:=by
 simp only[execOp,bare,z04,z0i]
theorem z84{P:Program}{X:List PanicEntry→PH→Prop}{β:Type}{E:List Value}{H:PH}{L:LK}{K:β→List Value→PH→LK→Prop}{T ty e:TypeId}{n:Nat}{x y:Operand}{args:List (Nat×VE)}{pend:List (SV×List SV)}{k:Fm β}{kk:IntKind}{i:Int}{r off:Nat}
  (hT:P.underlying T=some (.array n e)) (hiz:(P.info? e).map (·.size)=some 1) (hx:argEv E args x=.pointer (some ⟨r,off,none⟩)) (hy:argEv E args y=.int kk i) (hi:0≤i∧i<n) (hp:z0s E H pend)
  (hk:den P X k (E++[.pointer (some ⟨r,off+i.toNat,none⟩)]) H L K):den P X (.sem (.indexAddr T x y) ty args (.sc .ptr) pend k) E H L K:=by
 obtain⟨inf,hi2,hz⟩:=qR.1 hiz;show wpS P (execOp (argEv E args) (bare _ ty)) _ _ H;rw[zxh,hx,hy];unfold Instr.indexAt asIntOf;simp only[z04,z0i,z08 hT];unfold Instr.sureAddr;simp only[z04,z0i];rw[qj hi];simp only[z04,z0i,z2v hi2,hz,Addr.add_plain,Nat.mul_one];exact⟨[_],rfl,rfl,hp,hk⟩
theorem zgy:Tryz.prog.underlying 59=some (.array 32 3):=kr
theorem zIntQ:(Tryz.prog.info? 3).map (·.size)=some 1:=kr
def z0l(st:Int)(m:MaR)(mv ov:Value):List Value:=
 .int .i64 st::.int .i64 m.value::txt []::.int .i64 m.steps::.int .i64 m.pc::(m.regs.map (Value.int .i64)++[mv,txt m.input,ov])
structure MaOk(m:MaR):Prop where
 len:m.regs.length=32
 regs:∀v∈m.regs,InI v
theorem MaOk.reg{m:MaR}(h:MaOk m)(r:Int):InI (m.reg r):=by
 unfold MaR.reg;rw[zgd];cases e:m.regs[r.toNat]? with
 |none=>unfold InI;simp
 |some v=>exact h.regs v (zmg e)
theorem MaOk.put{m:MaR}(h:MaOk m){r v to:Int}(hv:InI v):MaOk (m.put r v to):=by
 unfold MaR.put;refine⟨?_,fun u hu=>?_⟩
 .simp only[];split
  .exact h.len
  .rw[List.length_set];exact h.len
 .simp only[]at hu;split at hu
  .exact h.regs u hu
  .rcases List.mem_or_eq_of_mem_set hu with hu|rfl
   .exact h.regs u hu
   .exact hv
section
variable {st:Int}{m:MaR}{mv ov:Value}
theorem c_reg(h:MaOk m){r:Int}(h0:0≤r)(h1:r≤31):((z0l st m mv ov).drop (5+r.toNat)).take 1=[vi (m.reg r)]:=by
 have hl:r.toNat<m.regs.length:=by rw[h.len];omega
 rw[show 5+r.toNat=r.toNat+5 by omega];simp only[z0l,List.drop_succ_cons];rw[List.drop_append_of_le_length (by rw[zlm];omega),List.take_append_of_le_length (by rw[List.length_drop,zlm];omega),←List.map_drop,List.drop_eq_getElem_cons hl];simp only[wa,List.take_succ_cons,List.take_zero,MaR.reg];rw[zgd,zge hl];rfl
theorem za3(h:MaOk m)(k:Nat):(z0l st m mv ov).drop (37+k)=[mv,txt m.input,ov].drop k:=by
 rw[show 37+k=(32+k)+5 by omega];simp only[z0l,List.drop_succ_cons];rw[←h.len,show m.regs.length=(m.regs.map (Value.int .i64)).length by rw[zlm],List.drop_append];simp
theorem c_len(h:MaOk m):(z0l st m mv ov).length=40:=by simp[z0l,h.len]
theorem s_reg(h:MaOk m){r v:Int}(h0:0≤r)(h1:r≤31):(z0l st m mv ov).take (5+r.toNat)++[vi v]++(z0l st m mv ov).drop (5+r.toNat+1)=z0l st { m with regs:=m.regs.set r.toNat v } mv ov:=by
 have hl:r.toNat<m.regs.length:=by rw[h.len];omega
 rw[show 5+r.toNat=r.toNat+5 by omega,show r.toNat+5+1=(r.toNat+1)+5 by omega];simp only[z0l,List.drop_succ_cons,List.take_succ_cons,List.cons_append];rw[List.take_append_of_le_length (by rw[zlm];omega),List.drop_append_of_le_length (by rw[zlm];omega),List.map_set];rw[List.set_eq_take_append_cons_drop,qj (by rw[zlm];omega)];simp
theorem s_mem(h:MaOk m)(mv':Value):(z0l st m mv ov).take 37++[mv']++(z0l st m mv ov).drop 38=z0l st m mv' ov:=by
 have:=za3 (st:=st) (mv:=mv) (ov:=ov) h 1;rw[show 37+1=38 from rfl]at this;rw[this];have e:(z0l st m mv ov).take 37=.int .i64 st::.int .i64 m.value::txt []::.int .i64 m.steps::.int .i64 m.pc::m.regs.map (Value.int .i64):=by
  simp only[z0l,List.take_succ_cons];rw[show 32=(m.regs.map (Value.int .i64)).length by rw[zlm,h.len],List.take_append,ztl (we _)];simp
 rw[e];simp[z0l]
theorem s_in(h:MaOk m)(i':List UInt8):(z0l st m mv ov).take 38++[txt i']++(z0l st m mv ov).drop 39=z0l st { m with input:=i' } mv ov:=by
 have:=za3 (st:=st) (mv:=mv) (ov:=ov) h 2;rw[show 37+2=39 from rfl]at this;rw[this];have e:(z0l st m mv ov).take 38=.int .i64 st::.int .i64 m.value::txt []::.int .i64 m.steps::.int .i64 m.pc::(m.regs.map (Value.int .i64)++[mv]):=by
  simp only[z0l,List.take_succ_cons];rw[show 33=(m.regs.map (Value.int .i64)).length+1 by rw[zlm,h.len],List.take_append,ztl (Nat.le_add_right _ _)];simp
 rw[e];simp[z0l]
theorem s_out(h:MaOk m)(ov':Value):(z0l st m mv ov).take 39++[ov']++(z0l st m mv ov).drop 40=z0l st m mv ov':=by
 have:=za3 (st:=st) (mv:=mv) (ov:=ov) h 3;rw[show 37+3=40 from rfl]at this;rw[this];have e:(z0l st m mv ov).take 39=.int .i64 st::.int .i64 m.value::txt []::.int .i64 m.steps::.int .i64 m.pc::(m.regs.map (Value.int .i64)++[mv,txt m.input]):=by
  simp only[z0l,List.take_succ_cons];rw[show 34=(m.regs.map (Value.int .i64)).length+2 by rw[zlm,h.len],List.take_append,ztl (Nat.le_add_right _ _)];simp
 rw[e];simp[z0l]
end
abbrev z1t(T:TypeId)(r:Nat)(st:Int)(m:MaR)(mv ov:Value):List Itm:=[bx r T (z0l st m mv ov),orow 3 m.mem mv,orow 5 m.out ov]
section
variable {T:TypeId}{r:Nat}{st:Int}{m:MaR}{mv ov:Value}{S K:PH}{J:List Itm}
theorem z6x(h:Held S K (z1t T r st m mv ov++J)){off:Nat}{vs:List Value}(hv:((z0l st m mv ov).drop off).take vs.length=vs):rowAt K (some ⟨r,off,none⟩) vs:=by
 have:=z0r h (List.mem_append_left _ (zms)) off vs.length;rwa[hv]at this
theorem zoe(h:Held S K (z1t T r st m mv ov++J))(ok:MaOk m){a:Int}(h0:0≤a)(h1:a≤31):rowAt K (some ⟨r,5+a.toNat,none⟩) [vi (m.reg a)]:=z6x h (c_reg ok h0 h1)
theorem zzt (h:Held S K (z1t T r st m mv ov++J)) (ok:MaOk m):rowAt K (some ⟨r,37,none⟩) [mv]:=z6x h (by
 have:=za3 (st:=st) (mv:=mv) (ov:=ov) ok 0;rw[show 37+0=37 from rfl]at this;rw[this];rfl)
theorem Zhc (h:Held S K (z1t T r st m mv ov++J)) (ok:MaOk m):rowAt K (some ⟨r,38,none⟩) [txt m.input]:=z6x h (by
 have:=za3 (st:=st) (mv:=mv) (ov:=ov) ok 1;rw[show 37+1=38 from rfl]at this;rw[this];rfl)
theorem Zbo (h:Held S K (z1t T r st m mv ov++J)) (ok:MaOk m):rowAt K (some ⟨r,39,none⟩) [ov]:=z6x h (by
 have:=za3 (st:=st) (mv:=mv) (ov:=ov) ok 2;rw[show 37+2=39 from rfl]at this;rw[this];rfl)
theorem Zn4(h:Held S K (z1t T r st m mv ov++J)):SlR K m.mem mv:=(h.row (e:=3) sM).slR h.sh
theorem Zc6(h:Held S K (z1t T r st m mv ov++J)):∃b c,ov=.slice b m.out.length c:=(h.row (e:=5) sM).sl
end
def EndX.reads(e:EndX)(r:Int):Bool:=
 if e.kind=1∨e.kind=2∨e.kind=5∨e.kind=6 then decide (e.reg=r)else if e.kind=3∨e.kind=4 then decide (e.reg=r)||decide (r∈e.args)else false
def EndX.calls(e:EndX):Bool:=decide (e.kind=4∨e.kind=6)
def EndX.ways(e:EndX):List Int:=(if e.kind=0∨e.kind=1∨e.kind=4∨e.kind=6 then[e.next]else[])++(if e.kind=1 then[e.els]else[])
def EndX.leads(e:EndX)(n:Nat):List Int:=e.ways.filter fun b=>decide (0≤b∧b<n)
def endVs(e:EndX)(av:Value):List Value:=[vi e.kind,vi e.reg,av,vi e.to,vi e.next,vi e.els]
def insL(n:Int):List Int→List Int
 | []=>[n]
 |a::l=>if n<a then n::a::l else a::insL n l
def putL(l:List Int)(n:Int):List Int:=if n∈l then l else insL n l
theorem Z7p(n:Int):∀l,(insL n l).length=l.length+1
 | []=>rfl
 |a::l=>by unfold insL;split<;>simp[Z7p n l]
theorem zv1(n x:Int):∀l,x∈insL n l↔x=n∨x∈l
 | []=>by simp[insL]
 |a::l=>by
  unfold insL;split
  .simp
  .simp only[zmc,zv1 n x l];constructor
   .rintro(h|h|h)
    .exact .inr (.inl h)
    .exact .inl h
    .exact .inr (.inr h)
   .rintro(h|h|h)
    .exact .inr (.inl h)
    .exact .inl h
    .exact .inr (.inr h)
theorem zwt{n:Int}:∀{l:List Int},l.Pairwise (· < ·)→n∉l→(insL n l).Pairwise (· < ·)
 | [],_,_=>by simp[insL]
 |a::l,h,hn=>by
  obtain⟨h1,h2⟩:=List.pairwise_cons.1 h;simp only[zmc,not_or]at hn;unfold insL;split
  .rename_i hlt;refine List.pairwise_cons.2 ⟨fun b hb=>?_,h⟩;rcases zmc.1 hb with rfl|hb
   .exact hlt
   .exact Int.lt_trans hlt (h1 b hb)
  .rename_i hlt;refine List.pairwise_cons.2 ⟨fun b hb=>?_,zwt h2 hn.2⟩;rcases(zv1 n b l).1 hb with rfl|hb
   .omega
   .exact h1 b hb
theorem Zir(n x:Int)(l:List Int):x∈putL l n↔x=n∨x∈l:=by
 unfold putL;split
 .rename_i h;exact⟨.inr,fun hx=>hx.elim (fun e=>e▸h) id⟩
 .exact zv1 n x l
theorem Zcv{n:Int}{l:List Int}(h:l.Pairwise (· < ·)):(putL l n).Pairwise (· < ·):=by
 unfold putL;split
 .exact h
 .rename_i hn;exact zwt h hn
theorem Zjn(l:List Int)(n:Int):(putL l n).length≤l.length+1:=by
 unfold putL;split
 .omega
 .rw[Z7p];omega
def prcVs(p:PrcX)(bv:Value):List Value:=[vi p.params,vi p.holds,vi p.regs,bv]
theorem Zjf(e:EndX):e.ways.length≤2:=by
 unfold EndX.ways;rw[zla];split<;>split<;>simp
def EndX.regs(e:EndX):List Int:=(if e.reads e.reg then[e.reg]else[])++(if e.kind=3∨e.kind=4 then e.args else[])
def BlkX.regs(b:BlkX):List Int:=b.ins.flatMap (·.args)++b.e.regs
def PrcX.regl(p:PrcX):List Int:=p.blocks.flatMap BlkX.regs
def readL(p:PrcX):List Int:=p.regl.foldl putL []
theorem Z4c(l:List Int):∀acc:List Int,(l.foldl putL acc).length≤acc.length+l.length:=by
 induction l with
 |nil=>intro acc;simp
 |cons a l ih=>
  intro acc;have h1:=ih (putL acc a);have h2:=Zjn acc a;simp only[List.foldl_cons,zlc];omega
theorem Z3u(l:List Int)(x:Int):∀acc:List Int,x∈l.foldl putL acc↔x∈acc∨x∈l:=by
 induction l with
 |nil=>intro acc;simp
 |cons a l ih=>
  intro acc;rw[List.foldl_cons,ih,Zir,zmc];constructor
  .rintro((h|h)|h)
   .exact .inr (.inl h)
   .exact .inl h
   .exact .inr (.inr h)
  .rintro(h|h|h)
   .exact .inl (.inr h)
   .exact .inl (.inl h)
   .exact .inr h
theorem zx4(l:List Int):∀acc:List Int,acc.Pairwise (· < ·)→(l.foldl putL acc).Pairwise (· < ·):=by
 induction l with
 |nil=>intro acc h;exact h
 |cons a l ih=>intro acc h;exact ih _ (Zcv h)
theorem Z9l(p:PrcX):(readL p).Pairwise (· < ·):=zx4 _ _ .nil
theorem Zhq(p:PrcX)(x:Int):x∈readL p↔x∈p.regl:=by
 unfold readL;rw[Z3u];simp
theorem zww{α β:Type}(f:α→List β){l:List α}{k:Nat}{a:α}(h:l[k]?=some a):(l.take (k+1)).flatMap f=(l.take k).flatMap f++f a:=by
 rw[q9,h,List.flatMap_append];simp
theorem zkl{α β:Type}(f:α→List β)(l:List α)(k:Nat):((l.take k).flatMap f).length≤(l.flatMap f).length:=by
 have:(l.flatMap f)=(l.take k).flatMap f++(l.drop k).flatMap f:=by rw[←List.flatMap_append,List.take_append_drop]
 rw[this,zla];omega
theorem Zjw{p:PrcX}{i:Nat}{b:BlkX}(hb:p.blocks[i]?=some b):b.regs.length+((p.blocks.take i).flatMap BlkX.regs).length≤p.regl.length:=by
 have h1:=zww BlkX.regs hb;have h2:=zkl BlkX.regs p.blocks (i+1);have h3:=congrArg List.length h1;rw[zla]at h3;show _≤(p.blocks.flatMap BlkX.regs).length;omega
def tieB:List UInt8:=[116,105,101]
def InsX.fills(x:InsX)(r:Int):Prop:=x.op≠tieB∧x.to=r
def thru(r:Int):List InsX→Prop→Prop
 | [],q=>q
 |x::xs,q=>r∈x.args∨(¬x.fills r∧thru r xs q)
def zb2(e:EndX)(n:Nat)(r:Int)(L:Nat→Prop):Prop:=e.reads r=true∨(¬(e.calls=true∧e.to=r)∧∃b:Nat,(b:Int)∈e.leads n∧L b)
def z86(p:PrcX)(r:Int)(L:Nat→Prop)(i at_:Nat):Prop:=∃b,p.blocks[i]?=some b∧thru r (b.ins.drop at_) (zb2 b.e p.blocks.length r L)
def LiveB(p:PrcX)(r:Int)(i:Nat):Prop:=∀L:Nat→Prop,(∀j,z86 p r L j 0→L j)→L i
def z3u(p:PrcX)(r:Int)(i at_:Nat):Prop:=z86 p r (LiveB p r) i at_
theorem zbg{r:Int}{q q':Prop}(h:q→q'):∀{l:List InsX},thru r l q→thru r l q'
 | [],hq=>h hq
 |x::xs,hq=>hq.imp id fun h2=>⟨h2.1,zbg h h2.2⟩
theorem Z5z{e:EndX}{n:Nat}{r:Int}{L L':Nat→Prop}(h:∀i,L i→L' i)(hl:zb2 e n r L):zb2 e n r L':=
 hl.imp id fun⟨h1,b,h2,h3⟩=>⟨h1,b,h2,h b h3⟩
theorem z2u{p:PrcX}{r:Int}{L L':Nat→Prop}(h:∀i,L i→L' i){i at_:Nat}(hl:z86 p r L i at_):z86 p r L' i at_:=by
 obtain⟨b,h1,h2⟩:=hl;exact⟨b,h1,zbg (Z5z h) h2⟩
theorem zhz{p:PrcX}{r:Int}{i:Nat}(h:z3u p r i 0):LiveB p r i:=fun L hL=>hL i (z2u (fun j hj=>hj L hL) h)
theorem zh8{p:PrcX}{r:Int}{i:Nat}(h:LiveB p r i):z3u p r i 0:=h (fun j=>z3u p r j 0) fun _ hj=>z2u (fun _ hk=>zhz hk) hj
theorem Z2v{p:PrcX}{r:Int}{i:Nat}:LiveB p r i↔z3u p r i 0:=⟨zh8,zhz⟩
theorem ze6{r:Int}{q:Prop}:∀{l:List InsX},thru r l q→r∈l.flatMap (·.args)∨q
 | [],h=>.inr h
 |x::xs,h=>by
  simp only[qQ,zma];rcases h with h|⟨_,h⟩
  .exact .inl (.inl h)
  .rcases ze6 h with h|h
   .exact .inl (.inr h)
   .exact .inr h
theorem Zcs{e:EndX}{r:Int}(h:e.reads r=true):r∈e.regs:=by
 unfold EndX.reads at h;unfold EndX.regs;split at h
 .rename_i hk;simp only[zdt]at h;have:e.reads e.reg=true:=by unfold EndX.reads;rw[qj hk];simp
  rw[qj this];simp[h]
 .split at h
  .rename_i hk hk2;have:e.reads e.reg=true:=by unfold EndX.reads;rw[qc hk,qj hk2];simp
   rw[qj this,qj hk2];simp only[qu,zdt]at h;rcases h with h|h
   .simp[h]
   .simp[h]
  .cases h
theorem z51{p:PrcX}{r:Int}{i at_:Nat}(h:z3u p r i at_):r∈p.regl:=by
 have key:∀{j a:Nat} {L:Nat→Prop},(∀k,L k→r∈p.regl)→z86 p r L j a→r∈p.regl:=by
  rintro j a L hL ⟨b,hb,ht⟩;have hmem:∀x∈b.regs,x∈p.regl:=fun x hx=>List.mem_flatMap.2 ⟨b,zmg hb,hx⟩;rcases ze6 ht with h|h
  .refine hmem r (List.mem_append_left _ ?_);obtain⟨y,hy,hr⟩:=List.mem_flatMap.1 h;exact List.mem_flatMap.2 ⟨y,List.mem_of_mem_drop hy,hr⟩
  .rcases h with h|⟨_,k,_,hk⟩
   .exact hmem r (wq _ (Zcs h))
   .exact hL k hk
 exact key (fun k hk=>hk (fun _=>r∈p.regl) fun j hj=>key (fun _ h=>h) hj) h
open Classical in
noncomputable def liveD(p:PrcX)(r:Int)(i at_:Nat):Bool:=decide (z3u p r i at_)
theorem Z2i{p:PrcX}{r:Int}{i at_:Nat}:liveD p r i at_=true↔z3u p r i at_:=by
 unfold liveD;simp
noncomputable def liveL(p:PrcX)(i at_:Nat):List Int:=(readL p).filter fun r=>liveD p r i at_
theorem liveL_mem{p:PrcX}{i at_:Nat}{r:Int}:r∈liveL p i at_↔z3u p r i at_:=by
 unfold liveL;rw[zmf,Z2i,Zhq];exact⟨fun h=>h.2,fun h=>⟨z51 h,h⟩⟩
theorem z93(p:PrcX)(i at_:Nat):(liveL p i at_).Pairwise (· < ·):=(Z9l p).sublist List.filter_sublist
theorem zd6:∀{l m:List Int},l.Pairwise (· < ·)→m.Pairwise (· < ·)→(∀x,x∈l↔x∈m)→l=m
 | [],[],_,_,_=>rfl
 | [],b::m,_,_,h=>absurd ((h b).2 (zms)) sM
 |a::l,[],_,_,h=>absurd ((h a).1 (zms)) sM
 |a::l,b::m,hl,hm,h=>by
  obtain⟨l1,l2⟩:=List.pairwise_cons.1 hl;obtain⟨m1,m2⟩:=List.pairwise_cons.1 hm;have hab:a=b:=by
   have ha:=(h a).1 (zms);have hb:=(h b).2 (zms);rcases zmc.1 ha with e|ha
   .exact e
   .rcases zmc.1 hb with e|hb
    .exact e.symm
    .have:=m1 a ha;have:=l1 b hb;omega
  subst hab;congr 1;refine zd6 l2 m2 fun x=>?_;constructor
  .intro hx;rcases zmc.1 ((h x).1 (zmm _ hx))with e|h1
   .subst e;have:=l1 x hx;omega
   .exact h1
  .intro hx;rcases zmc.1 ((h x).2 (zmm _ hx))with e|h1
   .subst e;have:=m1 x hx;omega
   .exact h1
theorem zta:Tryz.prog.underlying 116=some (.slice 4):=kr
theorem zos:OneOk zP 4 1 (.bool false):=OneOk.of kr rfl
theorem csBK{H:PH}{a:Bool}{cs:List Value}(h:CsR H a cs):cs=[.bool a]:=by
 have h':PV.RepRow H [.bool a] cs:=h;simp only[PV.RepRow,PV.Rep]at h';obtain⟨v,vs,rfl,rfl,rfl⟩:=h';rfl
theorem zgr{S:PH}{a:Bool}:CsR S a [.bool a]:=by
 show PV.RepRow S [.bool a] [.bool a];simp only[PV.RepRow,PV.Rep];exact⟨_,_,rfl,rfl,rfl⟩
theorem ztf(l:List UInt8):cmpS .neq ⟨l.toArray⟩ ⟨#[116,105,101]⟩=!decide (l=tieB):=by
 show(!((⟨l.toArray⟩:ByteArray).toList==(⟨tieB.toArray⟩:ByteArray).toList))=_;rw[zs4]
structure InsOk(x:InsR):Prop where
 op:0≤x.op∧x.op<32
 a:0≤x.a∧x.a≤31
 b:0≤x.b∧x.b≤31
 c:0≤x.c∧x.c≤31
 n:-1048576≤x.n∧x.n≤1048575
 sh:x.op=18∨x.op=19→0≤x.n∧x.n≤63
theorem Zg1{x:InsR}{w:Int}(h:encR x=some w):InsOk x:=by
 unfold encR at h;by_cases h1:x.op<0∨32≤x.op
 .rw[qj h1]at h;cases h
 rw[qc h1]at h;by_cases h2:fitsR x=true
 .unfold fitsR at h2;simp only[zba,zdt]at h2;obtain⟨⟨⟨⟨ra,rb⟩,rc⟩,rl⟩,rm⟩:=h2;have hk:=zrq x.op;have h3:=hk.least;have h4:=hk.most;refine⟨om,zmy ra,zmy rb,zmy rc,om,fun hs=>?_⟩;have hf:frmR x.op=farF:=by rcases hs with hs|hs<;>rw[hs]<;>rfl
  rw[hf]at rl rm;exact⟨rl,rm⟩
 .rw[qc h2]at h;cases h
theorem Zi3{w:Int}{x:InsR}(h:decR w=some x):InsOk x:=by
 unfold decR at h;by_cases h1:32≤w/67108864
 .rw[qj h1]at h;cases h
 rw[qc h1]at h;by_cases h2:encR (z7s w)=some w
 .rw[qj h2]at h;simp only[qG]at h;rw[←h];exact Zg1 h2
 .rw[qc h2]at h;cases h
theorem InsOk.in5{x:InsR}(h:InsOk x):InI5 x:=by
 obtain⟨h1,h2,h3,h4,h5,_⟩:=h;refine⟨?_,?_,?_,?_,?_⟩<;>unfold InI<;>omega
theorem Zn6{S:PH}(c:UInt8):CsR S c [.int .u8 (c.toNat:Int)]:=by
 have:=c.toNat_lt;exact⟨_,_,rfl,⟨rfl,by simp[IntKind.min,IntKind.bits,IntKind.signed],by simp[IntKind.max,IntKind.bits,IntKind.signed];omega⟩,rfl⟩
section
variable {r:Nat}{st:Int}{m:MaR}{mv ov:Value}{S K:PH}{J:List Itm}
abbrev T20:TypeId:=114
theorem Zd9(x:InsR)(h:Held S K (z1t T20 r st m mv ov++J))(ok:MaOk m)(hx:InsOk x)(hpc:0≤m.pc∧m.pc≤1048576)(hst:0≤m.steps∧m.steps≤1099511627776)(hol:(m.out.length:Int)≤m.steps)(hml:m.mem.length≤1048576):
  Tri zP 66 #[pAt r,.agg (insV x).toArray] K fun e K'=>∃S' ov',PH.le S S'∧e=.returned (vi (stR m x).1)∧Held S' K' (z1t T20 r st (stR m x).2 mv ov'++J)∧MaOk (stR m x).2:=by
 obtain⟨o1,o2,o3,o4,o5,o6⟩:=hx;have hpi:InI m.pc:=by unfold InI;omega
 have hw1:IntKind.i64.wrap (m.pc+1)=m.pc+1:=w64 om om;have hwn:IntKind.i64.wrap (m.pc+x.n)=m.pc+x.n:=w64 om om;have hws:IntKind.i64.wrap (m.steps+1)=m.steps+1:=w64 om om;have hp1:InI (m.pc+1):=by unfold InI;omega
 refine qr z9z ([pAt r]++insV x) ?_;simp only[cns];refine⟨fun _=>by simp[Chk.holds,wy,arI],?_⟩;refine z84 (r:=r) (off:=5) zgy zIntQ kr rfl om z01 ?_;refine⟨[vi (m.reg x.a)],rfl,by simp only[wy,arI];exact zoe h ok o2.1 o2.2,?_⟩;refine z84 (r:=r) (off:=5) zgy zIntQ kr rfl om z01 ?_;refine⟨[vi (m.reg x.b)],rfl,by simp only[wy,arI];exact zoe h ok o3.1 o3.2,?_⟩;have hpcr:∀{S K mv ov J},Held S K (z1t T20 r st m mv ov++J)→rowAt K (some ⟨r,4,none⟩) [vi m.pc]:=fun h=>z6x h rfl;refine⟨[vi m.pc],rfl,by simp only[wy,arI];exact hpcr h,?_⟩;simp only[cns];refine⟨fun vs K2=>∃(S2:PH)(m2:MaR)(ov2:Value)(v:Int)(fills:Bool)(to:Int),PH.le S S2∧vs=[vi v,.bool fills,vi to]∧Held S2 K2 (z1t T20 r st m2 mv ov2++J)∧MaOk m2∧m2.steps=m.steps∧InI v∧stR m x=(6,if fills=true then m2.put x.a v to else m2.goes to),?_,?_⟩
 ·
  rintro vs K2 _ ⟨S2,m2,ov2,v,fills,to,l2,rfl,h2,ok2,hs2,hv,heq⟩;simp only[cns];obtain⟨m3,hm3⟩:∃m3:MaR,m3={ m2 with regs:=if fills=true∧x.a≠0 then m2.regs.set x.a.toNat v else m2.regs }:=⟨_,rfl⟩;refine⟨fun vs K3=>vs=[]∧Held S2 K3 (z1t T20 r st m3 mv ov2++J),?_,fun g=>?_,fun g=>?_⟩
  .rintro vs K3 _ ⟨rfl,h3⟩;simp only[cns,zan];refine z06 (off:=4) (vs:=[vi to]) (by simp only[wy,arI];rfl) h3 (by simp only[wy,arI]) (by intro u hu;rw[zsi.1 hu];rfl) (by simp[z0l]) fun K4 h4=>?_;obtain⟨m4,hm4⟩:∃m4:MaR,m4={ m3 with pc:=to }:=⟨_,rfl⟩;have h4:Held S2 K4 (z1t T20 r st m4 mv ov2++J):=by rw[hm4];exact h4
   have hst4:m4.steps=m.steps:=by rw[hm4,hm3];exact hs2
   refine⟨[vi m4.steps],rfl,by simp only[wy,arI];exact z6x h4 rfl,?_⟩;simp only[cns];refine z06 (off:=3) (vs:=[vi (m.steps+1)]) (by simp only[wy,arI];rfl) h4 (by simp only[wy,arI,hst4,hws]) (by intro u hu;rw[zsi.1 hu];rfl) (by simp[z0l]) fun K5 h5=>?_;refine⟨S2,ov2,l2,by rw[heq];rfl,?_,?_⟩
   .have e:(if fills=true then m2.put x.a v to else m2.goes to)={ m4 with steps:=m.steps+1 }:=by
     rw[hm4,hm3,←hs2];cases fills<;>unfold MaR.put MaR.goes<;>by_cases e0:x.a=0<;>simp[e0]
    rw[heq];simp only[];rw[e];exact h5
   .rw[heq];simp only[];split
    .exact ok2.put hv
    .exact⟨ok2.len,ok2.regs⟩
  .simp only[wy,arI]at g;simp only[zba,zdt,ne_eq]at g;refine z84 (r:=r) (off:=5) zgy zIntQ kr rfl om z01 ?_;simp only[cns];refine z06 (off:=5+x.a.toNat) (vs:=[vi v]) (by simp only[wy,arI]) h2 (by simp only[wy,arI]) (by intro u hu;rw[zsi.1 hu];rfl) (by rw[c_len ok2];simp only[List.length_singleton];omega) fun K4 h4=>?_;refine⟨_,z00,rfl,?_⟩;have e:=s_reg (st:=st) (mv:=mv) (ov:=ov2) (v:=v) ok2 o2.1 o2.2;rw[hm3,qj ⟨g.1,g.2⟩,←e];exact h4
  .simp only[wy,arI]at g;refine⟨_,z00,rfl,?_⟩;rw [hm3,qc (by
    rintro⟨g1,g2⟩;rw[g1]at g;simp[g2]at g)]
   exact h2
 refine⟨fun g=>?_,fun g=>?_⟩
 .simp only[wy,arI,zdt]at g;refine z06 (off:=1) (vs:=[vi (m.reg x.a)]) (by simp only[wy,arI];rfl) h (by simp only[wy,arI]) (by intro u hu;rw[zsi.1 hu];rfl) (by simp[z0l]) fun K4 h4=>?_;have h4:Held S K4 (z1t T20 r st { m with value:=m.reg x.a } mv ov++J):=h4;refine⟨[vi m.steps],rfl,by simp only[wy,arI];exact z6x h4 rfl,?_⟩;simp only[cns];refine z06 (off:=3) (vs:=[vi (m.steps+1)]) (by simp only[wy,arI];rfl) h4 (by simp only[wy,arI,hws]) (by intro u hu;rw[zsi.1 hu];rfl) (by simp[z0l]) fun K5 h5=>?_;have e:stR m x=(0,{ m with value:=m.reg x.a,steps:=m.steps+1 }):=by unfold stR;rw[qj g]
  rw[e];exact⟨S,ov,wx _,rfl,h5,ok.len,ok.regs⟩
 simp only[wy,arI,zdf]at g;have goes:∀{v to:Int},InI v→stR m x=(6,m.put x.a v to)→∃(S2:PH)(m2:MaR)(ov2:Value)(v':Int)(fills:Bool)(to':Int),PH.le S S2∧[Value.int .i64 v,.bool true,vi to]=[vi v',.bool fills,vi to']∧Held S2 K (z1t T20 r st m2 mv ov2++J)∧MaOk m2∧m2.steps=m.steps∧InI v'∧stR m x=(6,if fills=true then m2.put x.a v' to' else m2.goes to'):=
  fun hv he=>⟨S,m,ov,_,true,_,wx _,rfl,h,ok,rfl,hv,by rw[he];rfl⟩
 refine⟨fun g1=>?_,fun g1=>?_⟩
 ·
  have g1:x.op=5∨x.op=6:=by
   simp only[wy,arI]at g1;by_cases h2:x.op=5
   .exact .inl h2
   .simp only[h2,decide_false,qp,if_false,zdt]at g1;exact .inr g1
  refine z84 (r:=r) (off:=5) zgy zIntQ kr rfl om z01 ?_;refine⟨[vi (m.reg x.c)],rfl,by simp only[wy,arI];exact zoe h ok o4.1 o4.2,?_⟩;simp only[cns];refine⟨fun g2=>?_,fun g2=>?_⟩
  .simp only[wy,arI,zdt]at g2;have e:stR m x=(4,m):=by unfold stR;rw[qc g,qj ⟨g1,g2⟩]
   rw[e];exact⟨S,ov,wx _,rfl,h,ok⟩
  .simp only[wy,arI,zdf]at g2;refine z84 (r:=r) (off:=5) zgy zIntQ kr rfl om z01 ?_;refine⟨[vi (m.reg x.c)],rfl,by simp only[wy,arI];exact zoe h ok o4.1 o4.2,?_⟩;simp only[cns];refine z02 (qb 101) (h.gives (zqk x.op (m.reg x.b) (m.reg x.c) S (ok.reg _) (ok.reg _) fun _=>g2)) ?_;rintro e K1 ⟨rfl,h1,_⟩;refine⟨_,[vi (thrR x.op (m.reg x.b) (m.reg x.c))],rfl,rfl,rfl,z01,_,z00,S,m,ov,thrR x.op (m.reg x.b) (m.reg x.c),true,m.pc+1,wx _,by simp only[wy,arI,hw1],h1,ok,rfl,Z5w _ (ok.reg _) (ok.reg _),?_⟩;unfold stR;rcases g1 with g1|g1<;>simp[g1,g2]
 have g1:x.op≠5∧x.op≠6:=by
  simp only[wy,arI]at g1;by_cases h2:x.op=5
  .simp[h2]at g1
  .exact⟨h2,by simpa[h2]using g1⟩
 refine⟨fun g2=>?_,fun g2=>?_⟩
 .simp only[wy,arI,zdt]at g2;refine⟨_,z00,?_⟩;simp only[wy,arI,hw1];exact goes (z2g _) (by unfold stR;simp[g2];rfl)
 simp only[wy,arI,zdf]at g2;refine⟨fun g3=>?_,fun g3=>?_⟩
 .simp only[wy,arI,zdt]at g3;refine⟨_,z00,?_⟩;simp only[wy,arI,hw1];exact goes (z2g _) (by unfold stR;simp[g3];rfl)
 simp only[wy,arI,zdf]at g3;refine⟨fun g4=>?_,fun g4=>?_⟩
 .simp only[wy,arI,zdt]at g4;refine⟨_,z00,?_⟩;simp only[wy,arI,hw1];exact goes (z2g _) (by unfold stR;simp[g4];rfl)
 simp only[wy,arI,zdf]at g4;refine⟨fun g5=>?_,fun g5=>?_⟩
 .simp only[wy,arI,zdt]at g5;have hu:IntKind.u64.wrap x.n=x.n:=wu64 (o6 (.inl g5)).1 (by have:=(o6 (.inl g5)).2;omega);refine⟨_,z00,?_⟩;simp only[wy,arI,hw1,hu];exact goes (z2g _) (by unfold stR;simp[g5];rfl)
 simp only[wy,arI,zdf]at g5;refine⟨fun g6=>?_,fun g6=>?_⟩
 .simp only[wy,arI,zdt]at g6;have hu:IntKind.u64.wrap x.n=x.n:=wu64 (o6 (.inr g6)).1 (by have:=(o6 (.inr g6)).2;omega);refine⟨_,z00,?_⟩;simp only[wy,arI,hw1,hu];exact goes (Zhf (ok.reg _) x.n) (by unfold stR;simp[g6];rfl)
 simp only[wy,arI,zdf]at g6;refine⟨fun g7=>?_,fun g7=>?_⟩
 .simp only[wy,arI,zdt]at g7;refine⟨_,z00,?_⟩;simp only[wy,arI,hw1];exact goes (by unfold InI;omega) (by unfold stR;simp[g7])
 simp only[wy,arI,zdf]at g7;refine⟨fun g8=>?_,fun g8=>?_⟩
 .simp only[wy,arI,zdt]at g8;refine⟨_,z00,?_⟩;simp only[wy,arI,hw1];exact goes (z2g _) (by unfold stR;simp[g8];rfl)
 simp only[wy,arI,zdf]at g8;have hat:=z2g (m.reg x.b+x.n);obtain⟨at_,hatd⟩:∃at_,IntKind.i64.wrap (m.reg x.b+x.n)=at_:=⟨_,rfl⟩;rw[hatd]at hat;have hata:arI .add .i64 (m.reg x.b) x.n=at_:=hatd;have hmsl:=Zn4 h;obtain⟨mb,mc,hmv⟩:=hmsl.sl;refine⟨fun g9=>?_,fun g9=>?_⟩
 ·
  have g9:x.op=22∨x.op=23:=by
   simp only[wy,arI]at g9;by_cases h2:x.op=22
   .exact .inl h2
   .simp only[h2,decide_false,qp,if_false,zdt]at g9;exact .inr g9
  have hS:stR m x=(if at_<0∨(m.mem.length:Int)≤at_ then(2,m)else if x.op=23 then(6,{ m.goes (m.pc+1)with mem:=m.mem.set at_.toNat (m.reg x.a) })else(6,m.put x.a (m.mem.getD at_.toNat 0) (m.pc+1))):=by
   unfold stR;rw[hata];rcases g9 with g9|g9<;>simp[g9]
  refine⟨fun vs K2=>vs=[.bool (decide (at_<0∨(m.mem.length:Int)≤at_))]∧K=K2,?_,fun ga=>?_,fun ga=>?_⟩
  .rintro vs K2 _ ⟨rfl,rfl⟩;simp only[cns];refine⟨fun ga=>?_,fun ga=>?_⟩
   .simp only[wy,arI,zdt]at ga;rw[hS,qj ga];exact⟨S,ov,wx _,rfl,h,ok⟩
   .simp only[wy,arI,zdf]at ga;have hin:0≤at_∧at_<m.mem.length:=om;have hlt:at_.toNat<m.mem.length:=om;obtain⟨cell,hcell⟩:∃cell,m.mem[at_.toNat]?=some cell:=⟨_,zge hlt⟩;obtain⟨y1,_,ycs,y2,y3⟩:=hmsl.get hcell;obtain⟨rfl,yin⟩:=csIK y2;have hj:((at_.toNat:Nat):Int)=at_:=Int.toNat_of_nonneg hin.1;rw[hj]at y3;refine⟨fun gb=>?_,fun gb=>?_⟩
    .simp only[wy,arI,zdt]at gb;refine⟨[mv],by rw[hmv];rfl,by simp only[wy,arI];exact zzt h ok,fun _=>?_,?_⟩
     .simp only[Chk.holds,wy,arI,hatd];rw[hmv]at y1⊢;exact⟨y1,hin.1,hin.2⟩
     simp only[cns];refine z1i (i:=at_.toNat) (a:=cell) (a':=m.reg x.a) (us:=[vi (m.reg x.a)]) ?_ (h.perm (qq _ _ _)) hcell rfl (by simp only[wy,arI]) (by simp[oneC]) (z09 (ok.reg _)) fun K4 h4=>?_
     .simp only[wy,arI,hatd,hj];rfl
     refine⟨_,z00,S,{ m with mem:=m.mem.set at_.toNat (m.reg x.a) },ov,0,false,m.pc+1,wx _,by simp only[wy,arI,hw1],h4.perm (qq _ _ _),⟨ok.len,ok.regs⟩,rfl,(by unfold InI;omega),?_⟩;rw[hS,qc om,qj gb];rfl
    .simp only[wy,arI,zdf]at gb;refine⟨[mv],by rw[hmv];rfl,by simp only[wy,arI];exact zzt h ok,fun _=>?_,[vi cell],rfl,?_,?_⟩
     .simp only[Chk.holds,wy,arI,hatd];rw[hmv]at y1⊢;exact⟨y1,hin.1,hin.2⟩
     .simp only[wy,arI,hatd];exact y3
     simp only[cns];refine⟨_,z00,?_⟩;simp only[wy,arI,hw1];refine goes yin ?_;rw[hS,qc om,qc gb,zgd,hcell];rfl
  .simp only[wy,arI,hatd,zdt]at ga;exact⟨_,z00,by simp[wy,arI,ga],rfl⟩
  .simp only[wy,arI,hatd,zdf]at ga;refine⟨[mv],by rw[hmv];rfl,by simp only[wy,arI];exact zzt h ok,_,z00,?_,rfl⟩;simp only[wy,arI,hatd,hmv];rw[List.cons.injEq];refine⟨?_,rfl⟩;rw[Value.bool.injEq,decide_eq_decide];omega
 have g9:x.op≠22∧x.op≠23:=by
  simp only[wy,arI]at g9;by_cases h2:x.op=22
  .simp[h2]at g9
  .exact⟨h2,by simpa[h2]using g9⟩
 have hT:z3j x.op (m.reg x.a) (m.reg x.b)=((((decide (x.op=24)&&decide (m.reg x.a=m.reg x.b))||(decide (x.op=25)&&decide (m.reg x.a≠m.reg x.b)))||(decide (x.op=26)&&decide (m.reg x.a<m.reg x.b)))||(decide (x.op=27)&&decide (m.reg x.b≤m.reg x.a))):=rfl;refine⟨fun vs K2=>vs=[.bool (decide (x.op=24∨x.op=25∨x.op=26∨x.op=27))]∧K=K2,?_,fun ga=>?_,fun ga=>?_⟩
 .rintro vs K2 _ ⟨rfl,rfl⟩;simp only[cns];refine⟨fun ga=>?_,fun ga=>?_⟩
  ·
   simp only[wy,arI,zdt]at ga;have hS:stR m x=(6,m.goes (if z3j x.op (m.reg x.a) (m.reg x.b)=true then m.pc+x.n else m.pc+1)):=by
    unfold stR;rcases ga with ga|ga|ga|ga<;>simp[ga]
   have goes2:∀{to:Int},(if z3j x.op (m.reg x.a) (m.reg x.b)=true then m.pc+x.n else m.pc+1)=to→∃(S2:PH)(m2:MaR)(ov2:Value)(v':Int)(fills:Bool)(to':Int),PH.le S S2∧[Value.int .i64 0,.bool false,vi to]=[vi v',.bool fills,vi to']∧Held S2 K (z1t T20 r st m2 mv ov2++J)∧MaOk m2∧m2.steps=m.steps∧InI v'∧stR m x=(6,if fills=true then m2.put x.a v' to' else m2.goes to'):=
    fun he=>⟨S,m,ov,0,false,_,wx _,rfl,h,ok,rfl,(by unfold InI;omega),by rw[hS,he];rfl⟩
   refine⟨fun gb=>?_,fun gb=>?_⟩
   .simp only[wy,arI]at gb;refine⟨[vi m.pc],rfl,by simp only[wy,arI];exact hpcr h,_,z00,?_⟩;simp only[cns];simp only[wy,arI,hwn];exact goes2 (by rw[qj (by rw[hT];exact gb)])
   .simp only[wy,arI]at gb;refine⟨_,z00,?_⟩;simp only[wy,arI,hw1];exact goes2 (by rw[qc (by rw[hT];exact fun hh=>by rw[hh]at gb;cases gb)])
  simp only[wy,arI,zdf]at ga;refine⟨fun gb=>?_,fun gb=>?_⟩
  .simp only[wy,arI,zdt]at gb;refine⟨[vi m.pc],rfl,by simp only[wy,arI];exact hpcr h,_,z00,?_⟩;simp only[cns];simp only[wy,arI,hw1,hwn];exact goes hp1 (by unfold stR;simp[gb])
  simp only[wy,arI,zdf]at gb;refine⟨fun gc=>?_,fun gc=>?_⟩
  .simp only[wy,arI,zdt]at gc;refine⟨_,z00,?_⟩;simp only[wy,arI,hw1];exact goes hp1 (by unfold stR;simp[gc])
  simp only[wy,arI,zdf]at gc;refine⟨fun gd=>?_,fun gd=>?_⟩
  ·
   simp only[wy,arI,zdt]at gd;have hS:stR m x=((6:Int),({ m.put x.a (match m.input with | []=>-1|c::_=>(c.toNat:Int)) (m.pc+1)with input:=m.input.drop 1 }:MaR)):=by
    have n1:¬((x.op=5∨x.op=6)∧m.reg x.c=0):=om;have n2:¬(x.op=22∨x.op=23):=om;unfold stR;rw[qc g,qc n1,qc g2,qc g3,qc g4,qc g5,qc g6,qc g7,qc g8,qc n2,qc ga,qc gb,qc gc,qj gd]
    try rfl
   refine⟨[txt m.input],rfl,by simp only[wy,arI];exact Zhc h ok,?_⟩;simp only[cns];refine⟨fun ge=>?_,fun ge=>?_⟩
   .simp only[wy,arI,z2e,zdt]at ge;obtain⟨b,l,hbl⟩:∃b l,m.input=b::l:=by
     cases hi:m.input with
     |nil=>rw[hi]at ge;simp at ge
     |cons b l=>exact⟨b,l,rfl⟩
    have hi2:=Zhc h ok;rw[hbl]at hi2;refine⟨[txt (b::l)],rfl,by simp only[wy,arI];exact hi2,fun _=>?_,[txt (b::l)],rfl,by simp only[wy,arI];exact hi2,fun _=>?_,?_⟩
    .simp only[Chk.holds,wy,arI,z2e,zlc];omega
    .simp only[Chk.holds,wy,arI,z2e,zlc];omega
    simp only[cns];refine z06 (off:=38) (vs:=[txt l]) (by simp only[wy,arI];rfl) h ?_ (by intro u hu;rw[zsi.1 hu];rfl) (by rw[c_len ok];simp) fun K1 h1=>?_
    .simp only[wa,List.map_nil,wy,arI,z2e];rw[show((1:Int)).toNat=1 from rfl,qN,zlt];simp
    have e:=s_in (st:=st) (mv:=mv) (ov:=ov) ok l;have hb:=b.toNat_lt;have hw:IntKind.i64.wrap (b.toNat:Int)=(b.toNat:Int):=w64 om om;have hb0:(((⟨(b::l).toArray⟩:ByteArray)[0]?).getD 0)=b:=rfl;refine⟨_,z00,S,{ m with input:=l },ov,(b.toNat:Int),true,m.pc+1,wx _,?_,?_,⟨ok.len,ok.regs⟩,rfl,(by unfold InI;omega),?_⟩
    .simp[wy,arI,hw1];rw[hb0];exact hw
    .rw[←e];exact h1
    .rw[hS,hbl];rfl
   .simp only[wy,arI,z2e,zdf]at ge;have hi:m.input=[]:=by
     cases hi:m.input with
     |nil=>rfl
     |cons b l=>rw[hi]at ge;simp at ge
    refine⟨_,z00,?_⟩;simp only[wy,arI,hw1];refine goes (by unfold InI;omega) ?_;rw[hS,hi];unfold MaR.put;simp[hi]
  simp only[wy,arI,zdf]at gd;refine⟨fun ge=>?_,fun ge=>?_⟩
  ·
   simp only[wy,arI,zdt]at ge;have hS:stR m x=(if m.reg x.a<0∨255<m.reg x.a then(5,m)else(6,{ m.goes (m.pc+1)with out:=m.out++[UInt8.ofNat (m.reg x.a).toNat] })):=by
    unfold stR;simp[ge]
   refine⟨fun gf=>?_,fun gf=>?_⟩
   .simp only[wy,arI]at gf;simp only[qu,zdt]at gf;rw[hS,qj om];exact⟨S,ov,wx _,rfl,h,ok⟩
   .simp only[wy,arI]at gf;simp only[zof,zdf]at gf;obtain⟨ob,oc,rfl⟩:=Zc6 h;refine⟨[.slice ob m.out.length oc],rfl,by simp only[wy,arI];exact Zbo h ok,?_⟩;simp only[cns];have hbyte:IntKind.u8.wrap (m.reg x.a)=((UInt8.ofNat (m.reg x.a).toNat).toNat:Int):=by
     rw[wu8 om om];have:(UInt8.ofNat (m.reg x.a).toNat).toNat=(m.reg x.a).toNat:=by
      rw[UInt8.toNat_ofNat'];omega
     omega
    have hp:Held S K (orow 5 m.out (.slice ob m.out.length oc)::(bx r T20 (z0l st m mv (.slice ob m.out.length oc))::orow 3 m.mem mv::J)):=h.perm (qA (l₁:=[_,_]));refine z0t (b:=1) (more:=[UInt8.ofNat (m.reg x.a).toNat]) [.int .u8 ((UInt8.ofNat (m.reg x.a).toNat).toNat:Int)] Zey Zk5 rfl dC dC hp (by simp[idxs,wy,arI,argEv,hbyte]) (.cons (Zn6 _) .nil) z01 (fun w=>kr) (fun w=>kr)
     (by simp only[maxLen,List.length_singleton];omega) (by simp only[List.length_singleton];omega) fun w v6 S6 K6 l6 h6=>⟨z01,?_⟩
    simp only[cns];obtain⟨b6,c6,hv6⟩:=(h6.row (e:=5) (zms)).sl;refine z06 (off:=39) (vs:=[v6]) (by simp only[wy,arI];rfl) (h6.perm ((qq _ _ _).trans (List.Perm.cons _ (qq _ _ _)))) (by simp only[wy,arI]) (by intro u hu;rw[zsi.1 hu,hv6];rfl) (by rw[c_len ok];simp) fun K7 h7=>?_;have e:=s_out (st:=st) (mv:=mv) (ov:=.slice ob m.out.length oc) ok v6;refine⟨_,z00,S6,{ m with out:=m.out++[UInt8.ofNat (m.reg x.a).toNat] },v6,0,false,m.pc+1,l6,by simp only[wy,arI,hw1],?_,⟨ok.len,ok.regs⟩,rfl,(by unfold InI;omega),?_⟩
    .show Held S6 K7 (z1t T20 r st { m with out:=m.out++[UInt8.ofNat (m.reg x.a).toNat] } mv v6++J);have h8:Held S6 K7 (bx r T20 (z0l st m mv v6)::orow 3 m.mem mv::orow 5 (m.out++[UInt8.ofNat (m.reg x.a).toNat]) v6::J):=by rw[←e];exact h7
     exact h8
    .rw[hS,qc om];rfl
  simp only[wy,arI,zdf]at ge;refine z84 (r:=r) (off:=5) zgy zIntQ kr rfl om z01 ?_;refine⟨[vi (m.reg x.c)],rfl,by simp only[wy,arI];exact zoe h ok o4.1 o4.2,?_⟩;simp only[cns];refine z02 (qb 101) (h.gives (zqk x.op (m.reg x.b) (m.reg x.c) S (ok.reg _) (ok.reg _) fun hh=>om)) ?_;rintro e K1 ⟨rfl,h1,_⟩;refine⟨_,[vi (thrR x.op (m.reg x.b) (m.reg x.c))],rfl,rfl,rfl,z01,_,z00,S,m,ov,thrR x.op (m.reg x.b) (m.reg x.c),true,m.pc+1,wx _,by simp only[wy,arI,hw1],h1,ok,rfl,Z5w _ (ok.reg _) (ok.reg _),?_⟩;unfold stR;have n1:¬((x.op=5∨x.op=6)∧m.reg x.c=0):=om;have n2:¬(x.op=22∨x.op=23):=om;rw[qc g,qc n1,qc g2,qc g3,qc g4,qc g5,qc g6,qc g7,qc g8,qc n2,qc ga,qc gb,qc gc,qc gd,qc ge];rfl
 .simp only[wy,arI,zdt]at ga;exact⟨_,z00,by simp[wy,arI,ga],rfl⟩
 .simp only[wy,arI,zdf]at ga;refine⟨fun gb=>?_,fun gb=>?_⟩
  .simp only[wy,arI,zdt]at gb;exact⟨_,z00,by simp[wy,arI,gb],rfl⟩
  .simp only[wy,arI,zdf]at gb;refine⟨_,z00,?_,rfl⟩;by_cases gc:x.op=26<;>simp[wy,arI,ga,gb,gc]
end
theorem Z5n(m:MaR)(x:InsR):(stR m x).2.mem.length=m.mem.length∧(((stR m x).1=6∧(stR m x).2.steps=m.steps+1)∨((stR m x).1≠6∧(stR m x).2.steps≤m.steps+1∧m.steps≤(stR m x).2.steps))∧((stR m x).2.out.length:Int)-m.out.length≤(stR m x).2.steps-m.steps∧InI (stR m x).1∧(0≤(stR m x).1∧(stR m x).1≤6):=by
 have put:∀(r v to:Int),(m.put r v to).mem.length=m.mem.length∧(m.put r v to).steps=m.steps+1∧(m.put r v to).out=m.out:=fun _ _ _=>⟨rfl,rfl,rfl⟩;have goes:∀to,(m.goes to).mem=m.mem∧(m.goes to).steps=m.steps+1∧(m.goes to).out=m.out:=fun _=>⟨rfl,rfl,rfl⟩;have key:∀y:Int×MaR,stR m x=y→y.2.mem.length=m.mem.length∧((y.1=6∧y.2.steps=m.steps+1)∨(y.1≠6∧y.2.steps≤m.steps+1∧m.steps≤y.2.steps))∧(y.2.out.length:Int)-m.out.length≤y.2.steps-m.steps∧InI y.1∧(0≤y.1∧y.1≤6):=by
  intro y hy;have c6:InI 6:=by unfold InI;omega
  have P6:∀(r v to:Int),stR m x=(6,m.put r v to)→y.2.mem.length=m.mem.length∧((y.1=6∧y.2.steps=m.steps+1)∨(y.1≠6∧y.2.steps≤m.steps+1∧m.steps≤y.2.steps))∧(y.2.out.length:Int)-m.out.length≤y.2.steps-m.steps∧InI y.1∧(0≤y.1∧y.1≤6):=by
   intro r v to he;rw[he]at hy;subst hy;exact⟨rfl,.inl ⟨rfl,rfl⟩,by show((m.out.length:Int)-m.out.length)≤(m.steps+1)-m.steps;omega,c6,sM⟩
  unfold stR at hy;by_cases h0:x.op=0
  .rw[qj h0]at hy;subst hy;refine⟨rfl,.inr ⟨sM,sM,?_⟩,?_,by unfold InI;simp,sM⟩
   .simp only[];omega
   .simp only[];omega
  rw[qc h0]at hy;by_cases h1:(x.op=5∨x.op=6)∧m.reg x.c=0
  .rw[qj h1]at hy;subst hy;refine⟨rfl,.inr ⟨sM,by simp only[];omega,by simp only[];omega⟩,by simp only[];omega,by unfold InI;simp,sM⟩
  rw[qc h1]at hy;have fin:∀(r v to:Int),(6,m.put r v to)=y→y.2.mem.length=m.mem.length∧((y.1=6∧y.2.steps=m.steps+1)∨(y.1≠6∧y.2.steps≤m.steps+1∧m.steps≤y.2.steps))∧(y.2.out.length:Int)-m.out.length≤y.2.steps-m.steps∧InI y.1∧(0≤y.1∧y.1≤6):=by
   intro r v to he;subst he;exact⟨rfl,.inl ⟨rfl,rfl⟩,by show((m.out.length:Int)-m.out.length)≤(m.steps+1)-m.steps;omega,c6,sM⟩
  by_cases h2:x.op=15
  .rw[qj h2]at hy;exact fin _ _ _ hy
  rw[qc h2]at hy;by_cases h3:x.op=16
  .rw[qj h3]at hy;exact fin _ _ _ hy
  rw[qc h3]at hy;by_cases h4:x.op=17
  .rw[qj h4]at hy;exact fin _ _ _ hy
  rw[qc h4]at hy;by_cases h5:x.op=18
  .rw[qj h5]at hy;exact fin _ _ _ hy
  rw[qc h5]at hy;by_cases h6:x.op=19
  .rw[qj h6]at hy;exact fin _ _ _ hy
  rw[qc h6]at hy;by_cases h7:x.op=20
  .rw[qj h7]at hy;exact fin _ _ _ hy
  rw[qc h7]at hy;by_cases h8:x.op=21
  .rw[qj h8]at hy;exact fin _ _ _ hy
  rw[qc h8]at hy;by_cases h9:x.op=22∨x.op=23
  .rw[qj h9]at hy;split at hy
   .subst hy;refine⟨rfl,.inr ⟨sM,by simp only[];omega,by simp only[];omega⟩,by simp only[];omega,by unfold InI;simp,sM⟩
   .split at hy
    .subst hy;refine⟨List.length_set,.inl ⟨rfl,rfl⟩,by show((m.out.length:Int)-m.out.length)≤(m.steps+1)-m.steps;omega,c6,sM⟩
    .exact fin _ _ _ hy
  rw[qc h9]at hy;by_cases h10:x.op=24∨x.op=25∨x.op=26∨x.op=27
  .rw[qj h10]at hy;subst hy;exact⟨rfl,.inl ⟨rfl,rfl⟩,by show((m.out.length:Int)-m.out.length)≤(m.steps+1)-m.steps;omega,c6,sM⟩
  rw[qc h10]at hy;by_cases h11:x.op=28
  .rw[qj h11]at hy;exact fin _ _ _ hy
  rw[qc h11]at hy;by_cases h12:x.op=29
  .rw[qj h12]at hy;exact fin _ _ _ hy
  rw[qc h12]at hy;by_cases h13:x.op=30
  .rw[qj h13]at hy;subst hy;exact⟨rfl,.inl ⟨rfl,rfl⟩,by show((m.out.length:Int)-m.out.length)≤(m.steps+1)-m.steps;omega,c6,sM⟩
  rw[qc h13]at hy;by_cases h14:x.op=31
  .rw[qj h14]at hy;split at hy
   .subst hy;refine⟨rfl,.inr ⟨sM,by simp only[];omega,by simp only[];omega⟩,by simp only[];omega,by unfold InI;simp,sM⟩
   .subst hy;refine⟨rfl,.inl ⟨rfl,rfl⟩,?_,c6,sM⟩;show(((m.out++[UInt8.ofNat (m.reg x.a).toNat]).length:Int)-m.out.length)≤(m.steps+1)-m.steps;rw[zla,List.length_singleton];omega
  rw[qc h14]at hy;exact fin _ _ _ hy
 exact key _ rfl
def haltV(h:HaltR)(mv:Value):List Value:=[vi h.state,vi h.value,txt h.out,vi h.steps,vi h.pc]++h.regs.map (Value.int .i64)++[mv]
structure Known(code:List W32)(known:List InsR)(seen:List Bool):Prop where
 k:known.length=code.length
 s:seen.length=code.length
 ok:∀(i:Nat)(w:W32)(x:InsR),seen[i]?=some true→code[i]?=some w→known[i]?=some x→decR w.n=some x
theorem Known.start(code:List W32):Known code (List.replicate code.length ins0) (List.replicate code.length false):=by
 refine⟨sM,sM,fun i w x h=>?_⟩;rw[List.getElem?_replicate]at h;split at h<;>cases h
theorem Known.put{code:List W32}{known:List InsR}{seen:List Bool}(h:Known code known seen){i:Nat}{w:W32}{x:InsR}(hw:code[i]?=some w)(hx:decR w.n=some x):Known code (known.set i x) (seen.set i true):=by
 refine⟨by rw[List.length_set,h.k],by rw[List.length_set,h.s],fun j w' x' h1 h2 h3=>?_⟩;by_cases e:i=j
 .subst e;rw[hw]at h2;simp only[qG]at h2;subst h2;have hl:i<known.length:=by rw[h.k];exact(zgi.1 hw).1
  rw[List.getElem?_set,qj rfl,qj hl]at h3;simp only[qG]at h3;subst h3;exact hx
 .rw[List.getElem?_set,qc e]at h1 h3;exact h.ok j w' x' h1 h2 h3
theorem zd7:Tryz.prog.underlying 115=some (.slice 118):=kr
theorem Zhh:ManyOk zP 118 40 (insV ins0):=ManyOk.of (z:=.agg (insV ins0).toArray) kr rfl
theorem zzg:OneOk zP 3 8 (vi 0):=OneOk.of kr rfl
theorem Z1t{S:PH}:CsR S false [.bool false]:=zgr
theorem zpn{S:PH}:CsR S (0:Int) [vi 0]:=z09 (by unfold InI;omega)
theorem Znc{S:PH}:CsR S ins0 (insV ins0):=insR_iff.2 ⟨rfl,dC,dC,dC,dC,dC⟩
theorem Z3w{P:Program}{X:List PanicEntry→PH→Prop}{β:Type}{E:List Value}{H:PH}{L:LK}{K:β→List Value→PH→LK→Prop}{s t e ty:TypeId}{x:Operand}{args:List (Nat×VE)}{pend:List (SV×List SV)}{k:Fm β}{l:List UInt8}{v:Value}
  (hs:P.underlying s=some (.slice e)) (ht:P.underlying t=some .string) (he:P.underlying e=some (.int .u8)) (hx:argEv E args x=v) (h:SlR H l v) (hp:z0s E H pend) (hk:den P X k (E++[txt l]) H L K) :
  den P X (.sem (.convert s t x) ty args (.sc .str) pend k) E H L K:=by
 show wpS P (execOp (argEv E args) (bare _ ty)) _ _ H;rw[Z89,hx];rcases(SlR.mk_iff.1 h).2 with⟨rfl,rfl⟩|⟨a,c,rfl,h1,h2,h3⟩
 .exact Z14 hs ht he ⟨[_],rfl,rfl,hp,hk⟩
 .refine Zdv hs ht he (fun j u hu=>?_) ⟨[_],rfl,rfl,hp,hk⟩;rw[zem]at hu;cases hb:l[j]? with
  |none=>rw[hb]at hu;cases hu
  |some b=>
   rw[hb]at hu;obtain⟨cs,h4,h5⟩:=RepRows.get h3 hb;obtain⟨v1,_,rfl,h6,rfl⟩:=h4;have:=h5 0 v1 rfl;have e1:v1=.int .u8 (b.toNat:Int):=h6.1;rw[e1]at this;cases hu;have e2:(a.add (j*sz UInt8)).add 0=a.add j:=by
    show Addr.add (Addr.add a (j*1)) 0=a.add j;simp[Addr.add]
   rw[e2]at this;exact this
theorem Zfv:∀{l:List Int},l.length=32→∃a0 a1 a2 a3 a4 a5 a6 a7 a8 a9 b0 b1 b2 b3 b4 b5 b6 b7 b8 b9 c0 c1 c2 c3 c4 c5 c6 c7 c8 c9 d0 d1,l=[a0,a1,a2,a3,a4,a5,a6,a7,a8,a9,b0,b1,b2,b3,b4,b5,b6,b7,b8,b9,c0,c1,c2,c3,c4,c5,c6,c7,c8,c9,d0,d1]:=by
 intro l h;have step:∀{n:Nat} {l:List Int},l.length=n+1→∃a t,l=a::t∧t.length=n:=by
  intro n l h;cases l with
  |nil=>cases h
  |cons a t=>exact⟨a,t,rfl,by simpa using h⟩
 obtain⟨a0,l1,rfl,h1⟩:=step h;obtain⟨a1,l2,rfl,h2⟩:=step h1;obtain⟨a2,l3,rfl,h3⟩:=step h2;obtain⟨a3,l4,rfl,h4⟩:=step h3;obtain⟨a4,l5,rfl,h5⟩:=step h4;obtain⟨a5,l6,rfl,h6⟩:=step h5;obtain⟨a6,l7,rfl,h7⟩:=step h6;obtain⟨a7,l8,rfl,h8⟩:=step h7;obtain⟨a8,l9,rfl,h9⟩:=step h8;obtain⟨a9,l10,rfl,h10⟩:=step h9;obtain⟨b0,l11,rfl,h11⟩:=step h10;obtain⟨b1,l12,rfl,h12⟩:=step h11;obtain⟨b2,l13,rfl,h13⟩:=step h12;obtain⟨b3,l14,rfl,h14⟩:=step h13;obtain⟨b4,l15,rfl,h15⟩:=step h14;obtain⟨b5,l16,rfl,h16⟩:=step h15;obtain⟨b6,l17,rfl,h17⟩:=step h16;obtain⟨b7,l18,rfl,h18⟩:=step h17;obtain⟨b8,l19,rfl,h19⟩:=step h18;obtain⟨b9,l20,rfl,h20⟩:=step h19;obtain⟨c0,l21,rfl,h21⟩:=step h20;obtain⟨c1,l22,rfl,h22⟩:=step h21;obtain⟨c2,l23,rfl,h23⟩:=step h22;obtain⟨c3,l24,rfl,h24⟩:=step h23;obtain⟨c4,l25,rfl,h25⟩:=step h24;obtain⟨c5,l26,rfl,h26⟩:=step h25;obtain⟨c6,l27,rfl,h27⟩:=step h26;obtain⟨c7,l28,rfl,h28⟩:=step h27;obtain⟨c8,l29,rfl,h29⟩:=step h28;obtain⟨c9,l30,rfl,h30⟩:=step h29;obtain⟨d0,l31,rfl,h31⟩:=step h30;obtain⟨d1,l32,rfl,h32⟩:=step h31;exact⟨a0,a1,a2,a3,a4,a5,a6,a7,a8,a9,b0,b1,b2,b3,b4,b5,b6,b7,b8,b9,c0,c1,c2,c3,c4,c5,c6,c7,c8,c9,d0,d1,by rw[qV.1 h32]⟩
def zce(code:List W32)(limit st:Int)(m:MaR):HaltR:=if st=6 then zby (goR code (limit-m.steps).toNat m)else zby (st,m)
theorem Zgf{code:List W32}{limit st:Int}{m:MaR}(h:¬(st=6∧m.steps<limit)):zce code limit st m=zby (st,m):=by
 unfold zce;by_cases h6:st=6
 .rw[qj h6,show(limit-m.steps).toNat=0 by omega,h6];rfl
 .rw[qc h6]
theorem Zf6{code:List W32}{limit:Int}{m:MaR}(h:m.steps<limit):zce code limit 6 m =
  if m.pc<0∨(code.length:Int)≤m.pc then zby (3,m)
  else match decR (code.getD m.pc.toNat ⟨0⟩).n with
   |none=>zby (1,m)
   |some x=>zce code limit (stR m x).1 (stR m x).2:=by
 obtain⟨k,hk⟩:∃k,(limit-m.steps).toNat=k+1:=⟨(limit-m.steps).toNat-1,om⟩;unfold zce;rw[qj rfl,hk];simp only[goR];split
 .rfl
 .cases hd:decR (code.getD m.pc.toNat ⟨0⟩).n with
  |none=>rfl
  |some x=>
   simp only[];rcases(Z5n m x).2.1 with⟨h1,h2⟩|⟨h1,_⟩
   .rw[qj h1,qj h1,show(limit-(stR m x).2.steps).toNat=k by omega]
   .rw[qc h1,qc h1]
theorem Zip{i:ImgR}{input:List UInt8}{steps:Int}(h:znj i steps=false):runR i input steps=zce i.code steps 6 (z4j i input):=by
 unfold runR zce;rw[qc (by rw[h];exact qk),qj rfl];show _=zby (goR i.code (steps-0).toNat _);rw[Int.sub_zero]
theorem Z2r(i:ImgR)(input:List UInt8)(steps:Int)(cv mv:Value)(H:PH)(hc:SlR H i.code cv)(hm:SlR H i.mem mv)(hst:steps≤1099511627776):
  Tri zP 19 #[.agg #[cv,mv,vi i.words],txt input,vi steps] H fun e H'=>∃mv',PH.le H H'∧e=.returned (.agg (haltV (runR i input steps) mv').toArray)∧SlR H' (runR i input steps).mem mv'∧(runR i input steps).regs.length=32∧∀v∈(runR i input steps).regs,InI v:=by
 obtain⟨cb,cc,rfl⟩:=hc.sl;obtain⟨mb,mc,rfl⟩:=hm.sl;have hcm:=hc.max;have hmm:=hm.max;have hmx:maxLen=9223372036854775807:=rfl;refine qr zlx [.slice cb i.code.length cc,.slice mb i.mem.length mc,vi i.words,txt input,vi steps] ?_;have hbad:znj i steps=((((decide (i.words<0)||decide (1048576<i.words))||decide (1048576<(i.code.length:Int)))||decide (i.words<(i.mem.length:Int)))||decide (steps<0)):=rfl;refine⟨fun g=>?_,fun g=>?_⟩
 .simp only[wy,arI]at g;have hr:runR i input steps=noImg:=by unfold runR;rw[qj (by rw[hbad];exact g)]
  rw[hr];refine⟨.slice none 0 0,wx _,rfl,SlR.mk_iff.2 ⟨by simp[noImg,maxLen],.inl ⟨rfl,rfl⟩⟩,rfl,fun v hv=>?_⟩;have:v=0:=List.eq_of_mem_replicate hv;rw[this];unfold InI;omega
 simp only[wy,arI]at g;have hgood:znj i steps=false:=by rw[hbad];exact g
 simp only[zof,zdf]at g;obtain⟨⟨⟨⟨g1,g2⟩,g3⟩,g4⟩,g5⟩:=g;rw[Zip hgood];obtain⟨R,hR⟩:∃R,zce i.code steps 6 (z4j i input)=R:=⟨_,rfl⟩;rw[hR];obtain⟨wn,hwn⟩:∃wn:Nat,i.words=(wn:Int):=⟨i.words.toNat,om⟩;have h0:Held H H []:=Held.nil (wx _);obtain⟨m0,hm0⟩:∃m0:MaR,m0=⟨0,0,0,zy5,[],input,[]⟩:=⟨_,rfl⟩;have ok0:MaOk m0:=by
  subst hm0;refine⟨rfl,fun v hv=>?_⟩;have:v=0:=List.eq_of_mem_replicate hv;rw[this];unfold InI;omega
 refine z31 (vs:=z0l 0 m0 (.slice none 0 0) (.slice none 0 0)) h0 (by subst hm0;kernel_rfl) fun r K1 l1 h1=>?_;simp only[cns];refine z55 (α:=Int) (b:=8) (n:=wn) 0 rfl (fun S=>zpn) z0g zzg (by rw[hwn];rfl) (by rw[hwn];rfl) om om h1 fun v2 K2 h2 l2=>?_;simp only[cns];refine⟨fun _=>by simp[Chk.holds,wy,arI],?_⟩;obtain⟨b2,c2,rfl⟩:=(h2.row (e:=3) (zms)).sl;rw[wi]at *;refine z06 (off:=37) (vs:=[.slice b2 wn c2]) (by simp only[wy,arI];rfl) (h2.perm (qq _ _ _)) (by simp only[wy,arI]) (by intro u hu;rw[zsi.1 hu];rfl) (by rw[c_len ok0];simp) fun K3 h3=>?_;have h3:Held H K3 (bx r T20 (z0l 0 m0 (.slice b2 wn c2) (.slice none 0 0))::orow 3 (List.replicate wn (0:Int)) (.slice b2 wn c2)::[]):=by
  have e:=s_mem (st:=0) (mv:=.slice none 0 0) (ov:=.slice none 0 0) ok0 (.slice b2 wn c2);rw[←e];exact h3
 refine z0p (off:=37) [.slice b2 wn c2] (by simp only [wy,arI];rfl) h3 (zms) (by
  have:=za3 (st:=0) (mv:=.slice b2 wn c2) (ov:=.slice none 0 0) ok0 0;rw[show 37+0=37 from rfl]at this;rw[this];rfl) rfl ?_
 simp only[cns];refine Zgz (b:=8) z0g z0e kr kr (h3.perm (qq _ _ _)) hm (by rw[wi];omega) fun K4 h4=>?_;rw[List.drop_replicate]at h4;simp only[cns];obtain⟨mem0,hmem0⟩:∃mem0:List Int,mem0=i.mem++List.replicate (wn-i.mem.length) 0:=⟨_,rfl⟩;rw[←hmem0]at h4;have hml0:mem0.length=wn:=by rw[hmem0,zla,wi];omega
 refine z06 (off:=0) (vs:=[vi 6]) (by simp only[wy,arI];rfl) (h4.perm (qq _ _ _)) (by simp only[wy,arI]) (by intro u hu;rw[zsi.1 hu];rfl) (by simp[z0l]) fun K5 h5=>?_;have h5:Held H K5 (bx r T20 (z0l 6 m0 (.slice b2 wn c2) (.slice none 0 0))::orow 3 mem0 (.slice b2 wn c2)::[]):=h5;refine Zdr (α:=InsR) (b:=40) (n:=i.code.length) ins0 (fun S=>Znc) (by simp[insV]) zd7 Zhh kr kr om om h5 fun kv K6 h6 l6=>?_;simp only[cns];refine z55 (α:=Bool) (b:=1) (n:=i.code.length) false rfl (fun S=>Z1t) zta zos kr kr om om h6 fun sv K7 h7 l7=>?_;simp only[cns];obtain⟨kb,kc,rfl⟩:=(h7.row (e:=118) (l:=List.replicate i.code.length ins0) (v:=kv) sM).sl;obtain⟨sb,sc,rfl⟩:=(h7.row (e:=4) (zms)).sl;simp only[wi]at h7⊢;have hstart:z4j i input={ m0 with mem:=mem0 }:=by
  unfold z4j;rw[hm0,hmem0,hwn];rfl
 have h7:Held H K7 (z1t T20 r 6 (z4j i input) (.slice b2 wn c2) (.slice none 0 0)++[orow 118 (List.replicate i.code.length ins0) (.slice kb i.code.length kc),orow 4 (List.replicate i.code.length false) (.slice sb i.code.length sc)]):=by
  rw[hstart];have h8:=(h7.empty (α:=UInt8) 5);have he:m0.out=[]:=by rw[hm0]
  show Held H K7 [bx r T20 (z0l 6 m0 (.slice b2 wn c2) (.slice none 0 0)),orow 3 mem0 (.slice b2 wn c2),orow 5 m0.out (.slice none 0 0),_,_];rw[he];exact h8.perm ((List.perm_append_comm (l₁:=[_,_,_]) (l₂:=[_,_])).trans (List.Perm.append_left [_,_] (List.Perm.cons _ (qq _ _ _))))
 have okS:MaOk (z4j i input):=by rw[hstart];exact⟨ok0.len,ok0.regs⟩
 refine⟨fun vs K=>∃(S2:PH)(st:Int)(m:MaR)(ov:Value)(J:List Itm),PH.le H S2∧vs=[]∧Held S2 K (z1t T20 r st m (.slice b2 wn c2) ov++J)∧MaOk m∧InI st∧zby (st,m)=R,?_,?_⟩
 .rintro vs K _ ⟨S2,st,m,ov,J,l2,rfl,h2,ok,hsi,hfin⟩;simp only[cns,zan];obtain⟨ob,oc,rfl⟩:=Zc6 h2;have hout:SlR K m.out (.slice ob m.out.length oc):=(h2.row (e:=5) (l:=m.out) (v:=.slice ob m.out.length oc) sM).slR h2.sh;refine⟨[.slice ob m.out.length oc],rfl,by simp only[wy,arI];exact Zbo h2 ok,?_⟩;simp only[cns];refine Z3w Zey Zlo uByte kr hout z01 ?_;simp only[cns];refine z06 (off:=2) (vs:=[txt m.out]) (by simp only[wy,arI];rfl) h2 (by simp only[wy,arI]) (by intro u hu;rw[zsi.1 hu];rfl) (by simp[z0l]) fun K2 h3=>?_;have hRf:=hfin;have hreg:R.regs.length=32∧∀v∈R.regs,InI v:=by rw[←hfin];exact⟨ok.len,ok.regs⟩
  have hmem:R.mem=m.mem:=by rw[←hfin];rfl
  obtain⟨a0,a1,a2,a3,a4,a5,a6,a7,a8,a9,b0,b1,b2',b3,b4,b5,b6,b7,b8,b9,c0,c1,c2',c3,c4,c5,c6,c7,c8,c9,d0,d1,hregs⟩:=Zfv ok.len;have hcells:(z0l st m (.slice b2 wn c2) (.slice ob m.out.length oc)).take 2++[txt m.out]++(z0l st m (.slice b2 wn c2) (.slice ob m.out.length oc)).drop 3=haltV R (.slice b2 wn c2)++[txt m.input,.slice ob m.out.length oc]:=by
   rw[←hfin];simp[z0l,haltV,zby]
  rw[show(2+[txt m.out].length)=3 from rfl,hcells]at h3;have hmsl:SlR K2 m.mem (.slice b2 wn c2):=(h3.row (e:=3) (l:=m.mem) (v:=.slice b2 wn c2) sM).slR h3.sh;have hval:haltV R (.slice b2 wn c2)=[vi R.state,vi R.value,txt R.out,vi R.steps,vi R.pc,vi a0,vi a1,vi a2,vi a3,vi a4,vi a5,vi a6,vi a7,vi a8,vi a9,vi b0,vi b1,vi b2',vi b3,vi b4,vi b5,vi b6,vi b7,vi b8,vi b9,vi c0,vi c1,vi c2',vi c3,vi c4,vi c5,vi c6,vi c7,vi c8,vi c9,vi d0,vi d1,.slice b2 wn c2]:=by
   have:R.regs=m.regs:=by rw[←hfin];rfl
   unfold haltV;rw[this,hregs];rfl
  rw[hval]at h3;refine z0p (off:=0) [vi R.state,vi R.value,txt R.out,vi R.steps,vi R.pc,vi a0,vi a1,vi a2,vi a3,vi a4,vi a5,vi a6,vi a7,vi a8,vi a9,vi b0,vi b1,vi b2',vi b3,vi b4,vi b5,vi b6,vi b7,vi b8,vi b9,vi c0,vi c1,vi c2',vi c3,vi c4,vi c5,vi c6,vi c7,vi c8,vi c9,vi d0,vi d1,.slice b2 wn c2] (by simp only[wy,arI];rfl) h3 (zms) kr kr ?_;refine⟨.slice b2 wn c2,ww l2 h3.sh,by rw[hval];kernel_rfl,by rw[hmem];exact hmsl,hreg⟩
 refine ⟨fun n vs K=>∃(S2:PH) (st:Int) (m:MaR) (ov:Value) (known:List InsR) (seen:List Bool),n=(if st=6 then (steps - m.steps).toNat+1 else 0)∧PH.le H S2∧vs=[]∧Held S2 K (z1t T20 r st m (.slice b2 wn c2) ov++[orow 118 known (.slice kb i.code.length kc),orow 4 seen (.slice sb i.code.length sc)])∧MaOk m∧InI st∧Known i.code known seen∧m.mem.length=wn∧0≤m.steps∧m.steps≤steps∧(m.out.length:Int)≤m.steps∧zce i.code steps st m=R,
  ⟨_,H,6,z4j i input,.slice none 0 0,_,_,rfl,wx _,rfl,h7,okS,dC,Known.start _,by rw[hstart];exact hml0,by simp[z4j],by simp only[z4j];omega,by simp[z4j],hR⟩,?_⟩
 rintro n vs K _ ⟨S2,st,m,ov,known,seen,hn,l2,rfl,h2,ok,hsi,hkn,hml,s0,s1,so,hrest⟩;simp only[cns,zan];refine⟨fun vs K2=>vs=[.bool (decide (st=6∧m.steps<steps))]∧K=K2,?_,?_⟩;rotate_left
 .refine⟨[vi st],rfl,by simp only[wy,arI];exact z6x h2 rfl,fun g=>?_,fun g=>?_⟩
  .simp only[wy,arI,zdt]at g;refine⟨[vi m.steps],rfl,by simp only[wy,arI];exact z6x h2 rfl,_,z00,?_,rfl⟩;simp[wy,arI,g]
  .simp only[wy,arI,zdf]at g;exact⟨_,z00,by simp[wy,arI,g],rfl⟩
 rintro vs K2 _ ⟨rfl,rfl⟩;simp only[cns,zan];refine⟨fun g=>?_,fun g=>?_⟩;rotate_left
 .simp only[wy,arI,zdf]at g;refine⟨_,z1f dC |>.trans z00,S2,st,m,ov,_,l2,rfl,h2,ok,hsi,?_⟩;rw[←Zgf (code:=i.code) (limit:=steps) g];exact hrest
 simp only[wy,arI,zdt]at g;obtain⟨g6,glt⟩:=g;subst g6;rw[Zf6 glt]at hrest;refine⟨[vi m.pc],rfl,by simp only[wy,arI];exact z6x h2 rfl,?_⟩;simp only[cns,zan];refine⟨fun g=>?_,fun g=>?_⟩
 .simp only[wy,arI]at g;simp only[qu,zdt]at g;rw[qj om]at hrest;refine z06 (off:=0) (vs:=[vi 3]) (by simp only[wy,arI];rfl) h2 (by simp only[wy,arI]) (by intro u hu;rw[zsi.1 hu];rfl) (by simp[z0l]) fun K3 h3=>?_;have h3:Held S2 K3 (z1t T20 r 3 m (.slice b2 wn c2) ov++[orow 118 known (.slice kb i.code.length kc),orow 4 seen (.slice sb i.code.length sc)]):=h3;exact⟨_,z1f dC |>.trans z00,S2,3,m,ov,_,l2,rfl,h3,ok,dC,hrest⟩
 simp only[wy,arI]at g;simp only[zof,zdf]at g;obtain⟨gp0,gp1⟩:=g;rw[qc om]at hrest;obtain⟨w,hw⟩:∃w,i.code[m.pc.toNat]?=some w:=⟨_,zge om⟩;rw[zgd,hw,Option.getD_some]at hrest;have hj:((m.pc.toNat:Nat):Int)=m.pc:=Int.toNat_of_nonneg om;have hkl:=hkn.k;have hsl:=hkn.s;obtain⟨x0,hx0⟩:∃x,known[m.pc.toNat]?=some x:=⟨_,zge om⟩;obtain⟨b0,hb0⟩:∃b,seen[m.pc.toNat]?=some b:=⟨_,zge om⟩;refine⟨fun vs K3=>∃(known':List InsR)(seen':List Bool)(x:InsR),vs=[]∧Held S2 K3 (z1t T20 r 6 m (.slice b2 wn c2) ov++[orow 118 known' (.slice kb i.code.length kc),orow 4 seen' (.slice sb i.code.length sc)])∧Known i.code known' seen'∧decR w.n=some x∧known'[m.pc.toNat]?=some x,?_,?_⟩
 .rintro vs K3 _ ⟨known',seen',x,rfl,h3,hkn',hdx,hkx⟩;simp only[cns,zan];rw[hdx]at hrest;simp only[]at hrest;have hks:=(h3.row (e:=118) (l:=known') (v:=.slice kb i.code.length kc) sM).slR h3.sh;obtain⟨y1,_,ycs,y2,y3⟩:=hks.get hkx;obtain⟨rfl,y4⟩:=insR_iff.1 y2;rw[hj]at y3;refine⟨fun _=>?_,insV x,rfl,by simp only[wy,arI];exact y3,?_⟩
  .simp only[Chk.holds,wy,arI];exact⟨y1,om,om⟩
  simp only[cns,zan];have hx:=Zi3 hdx;obtain⟨f1,f2,f3,f4,f5⟩:=Z5n m x;refine z02 (qb 66) (Zd9 x h3 ok hx om om so om) ?_;rintro e K4 ⟨S4,ov4,l4,rfl,h4,ok4⟩;refine⟨_,[vi (stR m x).1],rfl,rfl,rfl,z01,?_⟩;simp only[cns,zan];refine z06 (off:=0) (vs:=[vi (stR m x).1]) (by simp only[wy,arI];rfl) h4 (by simp only[wy,arI]) (by intro u hu;rw[zsi.1 hu];rfl) (by simp[z0l]) fun K5 h5=>?_;have h5:Held S4 K5 (z1t T20 r (stR m x).1 (stR m x).2 (.slice b2 wn c2) ov4++[orow 118 known' (.slice kb i.code.length kc),orow 4 seen' (.slice sb i.code.length sc)]):=h5;refine⟨_,z00,(if(stR m x).1=6 then(steps-(stR m x).2.steps).toNat+1 else 0),?_,S4,_,_,ov4,known',seen',rfl,ww l2 l4,rfl,h5,ok4,f4,hkn',by rw[f1];exact hml,?_,?_,?_,hrest⟩
  .rw[hn,qj rfl];split<;>omega
  .omega
  .omega
  .omega
 have hcs:=(h2.row (e:=4) (l:=seen) (v:=.slice sb i.code.length sc) sM).slR h2.sh;obtain⟨y1,_,ycs,y2,y3⟩:=hcs.get hb0;rw[hj]at y3;obtain rfl:=csBK y2;refine⟨fun _=>?_,[.bool b0],rfl,by simp only[wy,arI];exact y3,?_⟩
 .simp only[Chk.holds,wy,arI];exact⟨y1,om,om⟩
 simp only[cns,zan];refine⟨fun g=>?_,fun g=>?_⟩;rotate_left
 .simp only[wy,arI,qU]at g;subst g;exact⟨_,z00,known,seen,x0,rfl,h2,hkn,hkn.ok _ _ _ hb0 hw hx0,hx0⟩
 have hck:=hc.le (ww l2 h2.sh);obtain⟨z1,_,zcs,z2,z3⟩:=hck.get hw;obtain⟨rfl,zu⟩:=w32_iff.1 z2;rw[hj]at z3;refine⟨fun _=>?_,[.int .u32 w.n],rfl,by simp only[wy,arI];exact z3,?_⟩
 .simp only[Chk.holds,wy,arI];exact⟨z1,om,om⟩
 simp only[cns,zan];refine z02 (qb 65) (h2.gives (Z02 w.n S2 zu)) ?_;rintro e K3 ⟨rfl,h3,_⟩;refine⟨_,insV ((decR w.n).getD ins0)++[.bool (decR w.n).isSome],rfl,rfl,rfl,z01,?_⟩;simp only[cns,zan];refine⟨fun g2=>?_,fun g2=>?_⟩
 .simp only[wy,arI,qy,Option.isSome_eq_false_iff,Option.isNone_iff_eq_none]at g2;rw[g2]at hrest;simp only[]at hrest;refine z06 (off:=0) (vs:=[vi 1]) (by simp only[wy,arI];rfl) h3 (by simp only[wy,arI]) (by intro u hu;rw[zsi.1 hu];rfl) (by simp[z0l]) fun K4 h4=>?_;have h4:Held S2 K4 (z1t T20 r 1 m (.slice b2 wn c2) ov++[orow 118 known (.slice kb i.code.length kc),orow 4 seen (.slice sb i.code.length sc)]):=h4;exact⟨_,z1f dC |>.trans (z1f dC |>.trans z00),S2,1,m,ov,_,l2,rfl,h4,ok,dC,hrest⟩
 .simp only[wy,arI,qU,qH]at g2;obtain⟨x,hx⟩:=g2;rw[hx];simp only[Option.getD_some];have hin:=(Zi3 hx).in5;have hp1:=h3.perm (qA (l₁:=[_,_,_]) (l₂:=[orow 4 seen (.slice sb i.code.length sc)]));have hks:=(h3.row (e:=118) (l:=known) (v:=.slice kb i.code.length kc) sM).slR h3.sh;obtain⟨k1,_⟩:=hks.get hx0;refine⟨fun _=>?_,?_⟩
  .simp only[Chk.holds,wy,arI];exact⟨k1,om,om⟩
  refine z1i (i:=m.pc.toNat) (a:=x0) (a':=x) (us:=insV x) (by simp only [wy,arI,hj];rfl) hp1 hx0 rfl (by simp only [wy,arI]) (by
   intro u hu;simp only[insV,zmc,List.not_mem_nil,or_false]at hu;rcases hu with rfl|rfl|rfl|rfl|rfl<;>rfl) (insR_iff.2 ⟨rfl,hin⟩) fun K4 h4=>?_
  have hp2:=h4.perm (qA (l₁:=[_,_,_,_]) (l₂:=[]));refine z1i (i:=m.pc.toNat) (a:=b0) (a':=true) (us:=[.bool true]) (by simp only[wy,arI,hj];rfl) hp2 hb0 rfl (by simp only[wy,arI]) (by simp[oneC]) zgr fun K5 h5=>?_;refine⟨_,z00,known.set m.pc.toNat x,seen.set m.pc.toNat true,x,rfl,?_,hkn.put hw hx,rfl,?_⟩
  .exact h5.perm ((qA (l₁:=[_,_,_,_]) (l₂:=[])).symm.trans (qA (l₁:=[_,_,_]) (l₂:=[_])).symm)
  .rw[List.getElem?_set,qj rfl,qj om]
section
variable {P:Program}{Ψ:Value→PH→Prop}{H:PH}
theorem Z8s{op:BinOp}{t:TypeId}{x y:Operand}{u v:Array Value}(hop:op=.eql∨op=.neq)(hg:P.eqGuardType P.depth t=false){Ξ:Unit→PH→Prop}:wpS P (eqGuard op t x y (.agg u) (.agg v)) Ξ Ψ H=Ξ () H:=by
 rcases hop with rfl|rfl
 .show wpS P (if(!P.eqGuardType P.depth t)=true then _ else _) Ξ Ψ H=_;rw[qj (by rw[hg];rfl)];rfl
 .show wpS P (if(!P.eqGuardType P.depth t)=true then _ else _) Ξ Ψ H=_;rw[qj (by rw[hg];rfl)];rfl
theorem Z49{X:List PanicEntry→PH→Prop}{β:Type}{E:List Value}{L:LK}{K:β→List Value→PH→LK→Prop}{t U ty:TypeId}{fs:List Field}{asu bs:List Value}{x y:Operand}{args:List (Nat×VE)}{k:Fm β}(ht:P.underlying t=some (.struct fs.toArray))(hheld:P.stoodInHeld t=false)(hg:P.eqGuardType P.depth t=false)(ho:OffB 0 fs=true)
  (hx:argEv E args x=.agg asu.toArray) (hy:argEv E args y=.agg bs.toArray) (hf:FitB P fs asu bs=true) (hk:den P X k (E++[.bool (z6w asu bs)]) H L K):den P X (.sem (.binOp .eql t x y U) ty args (.sc .bool) [] k) E H L K:=by
 show wpS P (execOp (argEv E args) (bare _ ty)) _ _ H;rw[Zdn,hx,hy,Z8s (.inl rfl) hg];show wpS P (do pure (Value.bool (←Op.equal t (.agg asu.toArray) (.agg bs.toArray))):Sem Value) _ _ H;rw[z04];show wpS P (Op.equalIn (9998+2) t _ _) _ _ H;rw[zxe ht hheld ho hf];exact⟨[_],rfl,rfl,z01,hk⟩
end
noncomputable def insFieldsQ:Array Field:=match Tryz.prog.underlying 118 with
 |some (.struct fs)=>fs
 |_=>#[]
theorem Zmz:Tryz.prog.underlying 118=some (.struct insFieldsQ.toList.toArray):=kr
theorem Zj5:Tryz.prog.stoodInHeld 118=false:=kr
theorem Zgw:Tryz.prog.eqGuardType Tryz.prog.depth 118=false:=kr
theorem Zmg:OffB 0 insFieldsQ.toList=true:=kr
theorem Zl8(a b:InsR):FitB zP insFieldsQ.toList (insV a) (insV b)=true:=kr
theorem eqIns(a b:InsR):z6w (insV a) (insV b)=decide (a=b):=by
 obtain⟨a1,a2,a3,a4,a5⟩:=a;obtain⟨b1,b2,b3,b4,b5⟩:=b;have:z6w (insV ⟨a1,a2,a3,a4,a5⟩) (insV ⟨b1,b2,b3,b4,b5⟩)=(decide (a1=b1)&&(decide (a2=b2)&&(decide (a3=b3)&&(decide (a4=b4)&&(decide (a5=b5)&&true))))):=by
  simp[z6w,zht];rw[show(a1==b1)=decide (a1=b1)from rfl,show(a2==b2)=decide (a2=b2)from rfl,show(a3==b3)=decide (a3=b3)from rfl,show(a4==b4)=decide (a4=b4)from rfl,show(a5==b5)=decide (a5=b5)from rfl]
 rw[this];by_cases h1:a1=b1<;>by_cases h2:a2=b2<;>by_cases h3:a3=b3<;>by_cases h4:a4=b4<;>by_cases h5:a5=b5<;>simp[h1,h2,h3,h4,h5]
theorem Zdz{X:List PanicEntry→PH→Prop}{β:Type}{E:List Value}{L:LK}{K:β→List Value→PH→LK→Prop}{H:PH}{U ty:TypeId}{a b:InsR}{x y:Operand}{args:List (Nat×VE)}{k:Fm β}(hx:argEv E args x=.agg (insV a).toArray)(hy:argEv E args y=.agg (insV b).toArray)(hk:den zP X k (E++[.bool (decide (a=b))]) H L K):den zP X (.sem (.binOp .eql 118 x y U) ty args (.sc .bool) [] k) E H L K:=
 Z49 Zmz Zj5 Zgw Zmg hx hy (Zl8 a b) (by rw[eqIns];exact hk)
theorem Zms(o:Option Int):decide ((encE o)=0)=o.isSome:=by cases o<;>rfl
theorem Zai(x:ItemR)(H:PH)(hx:InI8 x):Gives zP 87 [.agg (itemV x).toArray] H (.bool (mayR x)):=by
 refine qr zm4 (itemV x) ?_;refine z03 [.int .u32 ((encR x.x).getD 0),vi (encE (encR x.x))] (qb 92) (zde x.x H hx.x) rfl z01 fun K l=>?_;simp only[cns];have he:=Zms (encR x.x);generalize hm:mayR x=b;unfold mayR at hm;refine⟨fun g=>?_,fun g=>?_⟩
 .simp only[wy,arI,zdt]at g;rw[qj g]at hm;exact⟨by simp only[wy,arI,he,←hm],l⟩
 simp only[wy,arI,zdf]at g;rw[qc g]at hm;refine⟨fun g=>?_,fun g=>?_⟩
 .simp only[wy,arI,zdt]at g;rw[qj g]at hm;refine Zdz (a:=x.x) (b:=ins0) kr kr ?_;exact⟨by simp only[wy,arI,←hm],l⟩
 simp only[wy,arI,zdf]at g;rw[qc g]at hm;refine⟨fun g=>?_,fun g=>?_⟩
 .simp only[wy,arI,zdt]at g;rw[qj g]at hm;exact⟨by simp only[wy,arI,he,←hm,ge_iff_le],l⟩
 simp only[wy,arI,zdf]at g;rw[qc g]at hm;refine⟨fun g=>?_,fun g=>?_⟩
 .simp only[wy,arI,zdt]at g;rw[qj g]at hm;exact⟨by simp only[wy,arI,he,←hm],l⟩
 simp only[wy,arI,zdf]at g;rw[qc g]at hm;refine⟨fun g=>?_,fun g=>?_⟩
 .simp only[wy,arI,zdt]at g;rw[qj g]at hm;exact⟨by simp only[wy,arI,he,←hm],l⟩
 simp only[wy,arI,zdf]at g;rw[qc g]at hm;refine⟨fun g=>?_,fun g=>?_⟩
 .simp only[wy,arI,zdt]at g;rw[qj g]at hm;exact⟨by simp only[wy,arI,he,←hm],l⟩
 simp only[wy,arI,zdf]at g;rw[qc g]at hm;exact⟨by rw[←hm];rfl,l⟩
theorem zf2(x:ItemR)(H:PH):Gives zP 89 [.agg (itemV x).toArray] H (.bool (z0z x)):=by
 refine qr zhv (itemV x) ?_;exact⟨by simp only[wy,arI,z0z],wx _⟩
def z1j(l:List ItemR)(label:Int):Int:=match findR l label with
 |none=>-1
 |some k=>(k:Int)
theorem z40{H:PH}{p:Option Addr}{x:ItemR}(h:rowAt H p (itemV x))(off:Nat)(v:Value)(hv:((itemV x).drop off).take 1=[v]):rowAt H (p.map (·.add off)) [v]:=by
 have:=z54 h off 1;rwa[hv]at this
theorem zcp(l:List ItemR)(label:Int)(v:Value)(H:PH)(hl:SlR H l v):Gives zP 88 [v,vi label] H (vi (z1j l label)):=by
 obtain⟨b,c,rfl⟩:=hl.sl;have hmx:maxLen=9223372036854775807:=rfl;have hlm:=hl.max;refine qr zju [.slice b l.length c,vi label] ?_;refine⟨fun n vs K=>∃k:Nat,k+n=l.length∧vs=[vi 0,nI k]∧K=H∧∀(i:Nat)(x:ItemR),i<k→l[i]?=some x→isLab label x=false,⟨l.length,0,om,rfl,rfl,fun i x hi=>absurd hi om⟩,?_⟩;rintro n vs K _ ⟨k,hkn,rfl,rfl,hno⟩;simp only[cns];refine⟨fun g=>?_,fun g=>?_⟩
 .simp only[wy,arI,zdt]at g;obtain⟨x,hx⟩:∃x,l[k]?=some x:=⟨_,zge om⟩;obtain⟨y1,_,cs,y2,y3⟩:=hl.get hx;obtain⟨rfl,_⟩:=itemR_iff.1 y2;refine⟨fun vs K2=>vs=[.bool (isLab label x)]∧K=K2,?_,fun _=>?_,[vi x.kind],rfl,?_,fun g2=>?_,fun g2=>?_⟩
  .rintro vs K2 _ ⟨rfl,rfl⟩;refine⟨fun g2=>?_,fun g2=>?_⟩
   .simp only[wy,arI]at g2;refine⟨?_,wx _⟩;have:findR l label=some k:=by
     unfold findR;rw[List.findIdx?_eq_some_iff_getElem];have hkl:k<l.length:=(zgi.1 hx).1;refine⟨hkl,by rw[(zgi.1 hx).2];exact g2,fun j hj=>?_⟩;have:=hno j l[j] hj (zge om);rw[this];simp
    unfold z1j;rw[this];rfl
   .simp only[wy,arI]at g2;refine⟨_,z00,n-1,om,k+1,om,?_,rfl,fun i y hi hy=>?_⟩
    .have hw:IntKind.i64.wrap ((k:Int)+1)=((k+1:Nat):Int):=by rw[w64 om om];rfl
     simp only[wy,arI,hw]
    .rcases Nat.lt_succ_iff_lt_or_eq.1 hi with hi|rfl
     .exact hno i y hi hy
     .rw[hx]at hy;cases hy;exact g2
  .simp only[Chk.holds,wy,arI];exact⟨y1,om,om⟩
  .simp only[wy,arI];exact z40 y3 0 _ rfl
  .simp only[wy,arI,zdt]at g2;refine⟨[vi x.label],rfl,by simp only[wy,arI];exact z40 y3 6 _ rfl,_,z00,?_,rfl⟩;simp[wy,arI,isLab,g2]
  .simp only[wy,arI,zdf]at g2;exact⟨_,z00,by simp[wy,arI,isLab,g2],rfl⟩
 .simp only[wy,arI,zdf]at g;refine⟨?_,wx _⟩;have:findR l label=none:=by
   unfold findR;rw[List.findIdx?_eq_none_iff];intro y hy;obtain⟨i,hi⟩:=qJ hy;exact hno i y (by have:=(zgi.1 hi).1;omega) hi
  unfold z1j;rw[this];rfl
theorem Z05(n:Int)(k:Nat)(hk:k≤64):arI .shr .i64 n (k:Int)=shrR n k:=by
 show n.fdiv (2^(min (k:Int).toNat 64))=_;rw[qN,Nat.min_eq_left hk];rfl
theorem zrh(n:Int):1≤z1u n∧z1u n≤4:=by
 unfold z1u
 repeat' split
 all_goals omega
theorem znd(n:Int)(H:PH):Gives zP 149 [vi n] H (vi (z1u n:Int)):=by
 refine qr zg1 [vi n] ?_;refine⟨fun vs K=>vs=[vi (z1u n:Int)]∧K=H,?_,?_⟩
 .rintro vs K _ ⟨rfl,rfl⟩;exact⟨rfl,wx _⟩
 refine⟨fun m vs K=>∃k:Nat,k+m=4∧1≤k∧vs=[nI k]∧K=H∧∀j:Nat,1≤j→j<k→¬(-32768≤shrR n (16*(j-1))∧shrR n (16*(j-1))≤32767),⟨3,1,rfl,om,rfl,rfl,fun j h1 h2=>om⟩,?_⟩;rintro m vs K _ ⟨k,hkm,hk1,rfl,rfl,hno⟩;simp only[cns];have s0:shrR n 0=n:=by unfold shrR;simp
 have h1:=hno 1 om;have h2:=hno 2 om;have h3:=hno 3 om;simp only[Nat.sub_self,Nat.mul_zero,s0,Nat.reduceSub,Nat.reduceMul]at h1 h2 h3;refine⟨fun g=>?_,fun g=>?_⟩
 .simp only[wy,arI,zdt]at g;have e1:IntKind.i64.wrap ((k:Int)-1)=((k-1:Nat):Int):=by rw[w64 om om];omega
  have e2:IntKind.i64.wrap (16*((k-1:Nat):Int))=((16*(k-1):Nat):Int):=by rw[w64 om om];omega
  have e3:IntKind.u64.wrap ((16*(k-1):Nat):Int)=((16*(k-1):Nat):Int):=wu64 om om;have e4:=Z05 n (16*(k-1)) om;simp only[arI]at e4;refine⟨fun g2=>?_,fun g2=>?_⟩
  .simp only[wy,arI,e1,e2,e3,e4]at g2;simp only[zba,zdt]at g2;refine⟨_,z1f dC |>.trans z00,?_,rfl⟩;have:z1u n=k:=by
    unfold z1u;obtain rfl|rfl|rfl:k=1∨k=2∨k=3:=om
    .simp only[Nat.sub_self,Nat.mul_zero,s0]at g2;rw[qj om]
    .simp only[Nat.reduceSub,Nat.reduceMul]at g2;rw[qc (h1 om),qj om]
    .simp only[Nat.reduceSub,Nat.reduceMul]at g2;rw[qc (h1 om),qc (h2 om),qj om]
   rw[this];rfl
  .simp only[wy,arI,e1,e2,e3,e4]at g2;simp only[wj,zdf]at g2;have e5:IntKind.i64.wrap ((k:Int)+1)=((k+1:Nat):Int):=by rw[w64 om om];rfl
   refine⟨_,z00,m-1,om,k+1,om,om,by simp only[wy,arI,e5],rfl,fun j h1 h2=>?_⟩;rcases Nat.lt_succ_iff_lt_or_eq.1 h2 with h2|rfl
   .exact hno j h1 h2
   .omega
 .simp only[wy,arI,zdf]at g;have hk:k=4:=om;subst hk;refine⟨_,z1f dC |>.trans z00,?_,rfl⟩;have:z1u n=4:=by
   unfold z1u;rw[qc (h1 om),qc (h2 om),qc (h3 om)]
  rw[this];rfl
theorem zbb:ElemOk zP 118 5 40=true:=kr
theorem Zh6(n:Int):arI .and .i64 n 65535=n%65536:=zhr n 16 om
theorem Zjx(n:Int):IntKind.i64.wrap n%65536=n%65536:=by
 obtain⟨k,h⟩:=Z11 n;rw[h];omega
theorem csIns{S:PH}{x:InsR}(h:InI5 x){v:Value}(hv:v.cells.toList=insV x):CsR S x v.cells.toList:=by rw[hv];exact insR_iff.2 ⟨rfl,h⟩
theorem zvr(r n:Int):∀k,(restR r n k).length=k
 |0=>rfl
 |k+1=>by simp only[restR,zlc,zvr r n k]
def topR(r n:Int)(k:Nat):InsR:=⟨20,r,0,0,(shrR n (16*(k-1))+32768)%65536-32768⟩
theorem zt0(r n:Int)(k:Nat)(hk:1≤k∧k≤4)(hr:InI r)(S:PH):Tri zP 148 #[vi r,vi n,vi (k:Int)] S fun e K'=>∃v,e=.returned v∧SlR K' (numR r n k) v∧PH.le S K':=by
 refine qr zgb [vi r,vi n,vi (k:Int)] ?_;have h0:Held S S []:=Held.nil (wx _);have z0:InI 0:=dC;have hi:∀m:Int,0≤m%65536∧m%65536<65536:=fun m=>om;have ht:=hi (shrR n (16*(k-1))+32768);have hin:InI5 (topR r n k):=⟨by unfold topR InI;simp,hr,z0,z0,by unfold topR InI;simp only[];omega⟩;have e1:IntKind.i64.wrap ((k:Int)-1)=((k-1:Nat):Int):=by rw[w64 om om];omega
 have e2:IntKind.i64.wrap (16*((k-1:Nat):Int))=((16*(k-1):Nat):Int):=by rw[w64 om om];omega
 have e3:IntKind.u64.wrap ((16*(k-1):Nat):Int)=((16*(k-1):Nat):Int):=wu64 om om;have e6:IntKind.i64.wrap ((shrR n (16*(k-1))+32768)%65536-32768)=(shrR n (16*(k-1))+32768)%65536-32768:=w64 om om;have eraw:arI .sub .i64 (arI .and .i64 (arI .add .i64 (arI .shr .i64 n (IntKind.u64.wrap (arI .mul .i64 16 (arI .sub .i64 (k:Int) 1)))) 32768) 65535) 32768=(shrR n (16*(k-1))+32768)%65536-32768:=by
  rw[show arI .sub .i64 (k:Int) 1=((k-1:Nat):Int)from e1,show arI .mul .i64 16 ((k-1:Nat):Int)=((16*(k-1):Nat):Int)from e2,e3,Z05 n _ om,Zh6,show arI .add .i64 (shrR n (16*(k-1))) 32768=IntKind.i64.wrap (shrR n (16*(k-1))+32768)from rfl,Zjx];exact e6
 refine z0k (α:=InsR) (l:=[topR r n k]) (b:=40) [.agg (insV ⟨20,r,0,0,arI .sub .i64 (arI .and .i64 (arI .add .i64 (arI .shr .i64 n (IntKind.u64.wrap (arI .mul .i64 16 (arI .sub .i64 (k:Int) 1)))) 32768) 65535) 32768⟩).toArray] zd7 zbb rfl dC dC h0 kr (.cons (csIns hin (by rw[eraw];rfl)) .nil) z01 fun v1 K1 h1 l1 _=>?_;simp only[cns];refine⟨fun m vs K2=>∃(u:Value)(S2:PH)(done:List InsR),vs=[u,vi ((m:Int)-1)]∧m≤3∧done.length≤5∧PH.le S S2∧Held S2 K2 [orow 118 done u]∧done++restR r n m=numR r n k,⟨k-1,v1,S,[topR r n k],by simp only[wy,arI,e1];congr 3;rw[w64 om om];omega,om,sM,wx _,h1,rfl⟩,?_⟩;rintro m vs K2 _ ⟨u,S2,done,rfl,hm,hd,l2,h2,hdone⟩;simp only[cns];refine⟨fun g=>?_,fun g=>?_⟩
 .simp only[wy,arI,zdt]at g;obtain⟨j,rfl⟩:∃j,m=j+1:=⟨m-1,om⟩;obtain⟨x,hx⟩:∃x:InsR,x=⟨21,r,0,0,shrR n (16*j)%65536⟩:=⟨_,rfl⟩;have hxi:InI5 x:=by
   have:=hi (shrR n (16*j));rw[hx];exact⟨(by decide:InI 21),hr,z0,z0,by unfold InI;simp only[];omega⟩
  have f0:((j+1:Nat):Int)-1=(j:Int):=om;have f1:IntKind.i64.wrap (16*(j:Int))=((16*j:Nat):Int):=by rw[w64 om om];omega
  have f3:IntKind.u64.wrap ((16*j:Nat):Int)=((16*j:Nat):Int):=wu64 om om;have fraw:arI .and .i64 (arI .shr .i64 n (IntKind.u64.wrap (arI .mul .i64 16 (((j+1:Nat):Int)-1)))) 65535=shrR n (16*j)%65536:=by
   rw[f0,show arI .mul .i64 16 (j:Int)=((16*j:Nat):Int)from f1,f3,Z05 n _ om,Zh6]
  refine z0t (b:=40) (more:=[x]) [.agg (insV ⟨21,r,0,0,arI .and .i64 (arI .shr .i64 n (IntKind.u64.wrap (arI .mul .i64 16 (((j+1:Nat):Int)-1)))) 65535⟩).toArray] zd7 zbb rfl dC dC h2 kr (.cons (csIns hxi (by rw[fraw,hx];rfl)) .nil) z01 (fun w=>kr) (fun w=>kr)
   (by simp only[maxLen,List.length_singleton];omega) (by simp only[List.length_singleton];omega) fun w v6 S6 K6 l6 h6=>⟨z01,?_⟩
  have hlen:(done++[x]).length≤5:=by
   have:=congrArg List.length hdone;simp only[zla,zvr,numR,zlc]at this;simp only[zla,List.length_singleton];omega
  refine⟨_,z00,j,om,v6,S6,done++[x],?_,om,hlen,ww l2 l6,h6,?_⟩
  .have:IntKind.i64.wrap ((j:Int)-1)=(j:Int)-1:=w64 om om;simp only[wy,arI,f0,this]
  .rw[←hdone,zaa,hx];rfl
 .simp only[wy,arI,zdf]at g;have hm0:m=0:=om;subst hm0;obtain⟨S',s1,s2,s3⟩:=h2.freeze;simp only[restR,zan]at hdone;rw[hdone]at s1;exact⟨u,rfl,s1.le s3.sh,ww l2 (ww s2 s3.sh)⟩
theorem Zmu{op:Int}(h:24≤op∧op≤27):[25,24,27,26][(op-24).toNat]?=some (z3r op):=by
 obtain rfl|rfl|rfl|rfl:op=24∨op=25∨op=26∨op=27:=om
 all_goals rfl
theorem Zio{op:Int}:InI (z3r op):=by unfold z3r;exact z34 dC (z34 dC (z34 dC dC))
theorem Zn8{x:ItemR}(h:mayR x=true)(hk:x.kind=2):24≤x.x.op∧x.x.op≤27:=by
 unfold mayR at h;rw[qc om,qc om,qj hk]at h;simp only[zba,zdt]at h;omega
theorem Z7t(x:ItemR)(long:Bool)(at_ to:Int)(S:PH)(hx:InI8 x)(hm:mayR x=true)(ha:0≤at_∧at_≤1099511627776)(ht:0≤to∧to≤1099511627776):
  Tri zP 91 #[.agg (itemV x).toArray,.bool long,vi at_,vi to] S fun e K'=>∃v,e=.returned v∧SlR K' (z12 x long at_ to) v∧PH.le S K':=by
 refine qr zfl (itemV x++[.bool long,vi at_,vi to]) ?_;have h0:Held S S []:=Held.nil (wx _);have z0:InI 0:=dC;have w1:IntKind.i64.wrap (to-at_)=to-at_:=w64 om om;have w2:IntKind.i64.wrap (to-at_-1)=to-at_-1:=w64 om om;refine Zmr (l:=[25,24,27,26]) (b:=8) [vi 25,vi 24,vi 27,vi 26] z0g z0e rfl dC dC kr (.cons (z09 dC) (.cons (z09 dC) (.cons (z09 dC) (.cons (z09 dC) .nil)))) z01 fun v H1 a l1 _=>?_;have hs:=a.slR;obtain⟨ob,oc,rfl⟩:=hs.sl;have hH:Held S H1 []:=Held.nil l1;simp only[cns];have fin:∀{l:List InsR} {u:Value} {K:PH},Held S K [orow 118 l u]→∃v,Ending.returned u=.returned v∧SlR K l v∧PH.le S K:=fun h=>by
  obtain⟨S',s1,s2,s3⟩:=h.freeze;exact⟨_,rfl,s1.le s3.sh,ww s2 s3.sh⟩
 generalize hR:z12 x long at_ to=R;unfold z12 at hR;refine⟨fun g=>?_,fun g=>?_⟩
 .simp only[wy,arI,zdt]at g;rw[qj g]at hR;subst hR;refine z0k (α:=InsR) (l:=[x.x]) (b:=40) [.agg (insV x.x).toArray] zd7 zbb rfl dC dC hH kr (.cons (csIns hx.x rfl) .nil) z01 fun v1 K1 h1 _ _=>?_;exact fin h1
 simp only[wy,arI,zdf]at g;rw[qc g]at hR;refine⟨fun g=>?_,fun g=>?_⟩
 .simp only[wy,arI,zdt]at g;rw[qj g]at hR;have hop:=Zn8 hm g;have w3:IntKind.i64.wrap (x.x.op-24)=x.x.op-24:=w64 om om;refine⟨fun g2=>?_,fun g2=>?_⟩
  .simp only[wy,arI]at g2;rw[qj g2]at hR;subst hR;obtain⟨y1,_,ycs,y2,y3⟩:=hs.get (Zmu hop);obtain⟨rfl,_⟩:=csIK y2;have hj:(((x.x.op-24).toNat:Nat):Int)=x.x.op-24:=Int.toNat_of_nonneg om;rw[hj]at y3;refine⟨fun _=>?_,[vi (z3r x.x.op)],rfl,by simp only[wy,arI,w3];exact y3,?_⟩
   .simp only[Chk.holds,wy,arI,w3];exact⟨y1,om,by simp;omega⟩
   simp only[cns];refine z0k (α:=InsR) (l:=[⟨z3r x.x.op,x.x.a,x.x.b,0,2⟩,⟨28,0,0,0,to-at_-1⟩]) (b:=40) [.agg (insV ⟨z3r x.x.op,x.x.a,x.x.b,0,2⟩).toArray,.agg (insV ⟨28,0,0,0,arI .sub .i64 (arI .sub .i64 to at_) 1⟩).toArray] zd7 zbb rfl dC dC hH kr (.cons (csIns (x:=⟨z3r x.x.op,x.x.a,x.x.b,0,2⟩) ⟨Zio,hx.x.a,hx.x.b,z0,(by decide:InI 2)⟩ rfl) (.cons (csIns (x:=⟨28,0,0,0,to-at_-1⟩) ⟨(by decide:InI 28),z0,z0,z0,by unfold InI;simp only[];omega⟩ (by rw[show arI .sub .i64 to at_=to-at_ from w1,show arI .sub .i64 (to-at_) 1=to-at_-1 from w2];rfl)) .nil)) z01 fun v1 K1 h1 _ _=>?_;exact fin h1
  .simp only[wy,arI]at g2;rw[qc (by rw[g2];exact qk)]at hR;subst hR;refine z0k (α:=InsR) (l:=[⟨x.x.op,x.x.a,x.x.b,0,to-at_⟩]) (b:=40) [.agg (insV ⟨x.x.op,x.x.a,x.x.b,0,arI .sub .i64 to at_⟩).toArray] zd7 zbb rfl dC dC hH kr (.cons (csIns (x:=⟨x.x.op,x.x.a,x.x.b,0,to-at_⟩) ⟨hx.x.op,hx.x.a,hx.x.b,z0,by unfold InI;simp only[];omega⟩ (by rw[show arI .sub .i64 to at_=to-at_ from w1];rfl)) .nil) z01 fun v1 K1 h1 _ _=>?_;exact fin h1
 simp only[wy,arI,zdf]at g;rw[qc g]at hR;refine⟨fun g=>?_,fun g=>?_⟩
 .simp only[wy,arI,zdt]at g;rw[qj g]at hR;subst hR;refine z0k (α:=InsR) (l:=[⟨28,x.x.a,0,0,to-at_⟩]) (b:=40) [.agg (insV ⟨28,x.x.a,0,0,arI .sub .i64 to at_⟩).toArray] zd7 zbb rfl dC dC hH kr (.cons (csIns (x:=⟨28,x.x.a,0,0,to-at_⟩) ⟨(by decide:InI 28),hx.x.a,z0,z0,by unfold InI;simp only[];omega⟩ (by rw[show arI .sub .i64 to at_=to-at_ from w1];rfl)) .nil) z01 fun v1 K1 h1 _ _=>?_;exact fin h1
 simp only[wy,arI,zdf]at g;rw[qc g]at hR;refine⟨fun g=>?_,fun g=>?_⟩
 .simp only[wy,arI,zdt]at g;rw[qj g]at hR;subst hR;refine z03 [vi (z1u x.n:Int)] (qb 149) (znd x.n H1) rfl z01 fun K2 l2=>?_;simp only[cns];refine z02 (qb 148) (zt0 x.x.a x.n (z1u x.n) (zrh x.n) hx.x.a K2) ?_;rintro e K3 ⟨v3,rfl,h3,l3⟩;obtain⟨nb,nc,rfl⟩:=h3.sl;refine⟨_,[.slice nb (numR x.x.a x.n (z1u x.n)).length nc],rfl,rfl,rfl,z01,?_⟩;exact⟨_,rfl,h3,ww l1 (ww l2 l3)⟩
 simp only[wy,arI,zdf]at g;rw[qc g]at hR;refine⟨fun g=>?_,fun g=>?_⟩
 .simp only[wy,arI,zdt]at g;rw[qj g]at hR;subst hR;refine z02 (qb 148) (zt0 x.x.a to 2 om hx.x.a H1) ?_;rintro e K3 ⟨v3,rfl,h3,l3⟩;obtain⟨nb,nc,rfl⟩:=h3.sl;refine⟨_,[.slice nb (numR x.x.a to 2).length nc],rfl,rfl,rfl,z01,?_⟩;exact⟨_,rfl,h3,ww l1 l3⟩
 simp only[wy,arI,zdf]at g;rw[qc g]at hR;subst hR;exact⟨.slice none 0 0,rfl,SlR.mk_iff.2 ⟨by simp[maxLen],.inl ⟨rfl,rfl⟩⟩,l1⟩
abbrev plI(p:List Nat):List Int:=p.map fun k:Nat=>(k:Int)
theorem Zcg(x:ItemR)(b:Bool):sizeR x b≤4:=by
 have:=(zrh x.n).2;unfold sizeR
 repeat' split
 all_goals omega
theorem zot:∀(l:List ItemR)(long:List Bool)(a:Nat),long.length=l.length→(z0f a l long).length=l.length+1
 | [],[],_,_=>rfl
 |x::l,b::long,a,h=>by
  simp only[z0f,zlc];rw[zot l long _ (by simpa using h)]
 | [],_::_,_,h=>by simp at h
 |_::_,[],_,h=>by simp at h
theorem zkn:∀(l:List ItemR)(long:List Bool)(a:Nat),∀q∈z0f a l long,q≤a+4*l.length
 |x::l,b::long,a,q,hq=>by
  simp only[z0f,zmc]at hq;rcases hq with rfl|hq
  .omega
  .have:=zkn l long _ q hq;have:=Zcg x b;simp only[zlc];omega
 | [],long,a,q,hq=>by
  cases long<;>simp only[z0f,zsi]at hq<;>omega
 |_::_,[],a,q,hq=>by
  simp only[z0f,zsi]at hq;omega
theorem Z69(l:List ItemR)(long:List Bool)(lv bv:Value)(S K:PH)(h:Held S K [orow 4 long bv])(hl:SlR S l lv)(hlen:long.length=l.length)(hs:l.length≤65536):
  Tri zP 147 #[lv,bv] K fun e K'=>∃S' J',PH.le S S'∧Held S' K' J'∧(J'=[orow 4 long bv]∧∃v,e=.returned v∧SlR S' (plI (z0f 0 l long)) v):=by
 obtain⟨b,c,rfl⟩:=hl.sl;obtain⟨bb,bc,rfl⟩:=(h.row (e:=4) (zms)).sl;refine qr zgh [.slice b l.length c,.slice bb long.length bc] ?_;refine z0k (α:=Int) (l:=[0]) (b:=8) [vi 0] z0g z0e rfl dC dC h kr (.cons zpn .nil) z01 fun v1 K1 h1 l1 _=>?_;simp only[cns];refine ⟨fun n vs K2=>∃(k at_:Nat) (u:Value) (S2:PH) (pre:List Nat),k+n=l.length∧vs=[u,nI at_,nI k]∧PH.le S S2∧at_≤4 * k∧pre.length=k∧Held S2 K2 (orow 3 (plI (pre++[at_])) u::[orow 4 long (.slice bb long.length bc)])∧pre++z0f at_ (l.drop k) (long.drop k)=z0f 0 l long,
  ⟨l.length,0,0,v1,S,[],om,rfl,wx _,om,rfl,h1,rfl⟩,?_⟩
 rintro n vs K2 _ ⟨k,at_,u,S2,pre,hkn,rfl,l2,hat,hpl,h2,hpre⟩;simp only[cns];refine⟨fun g=>?_,fun g=>?_⟩
 .simp only[wy,arI,zdt]at g;have hk:k<l.length:=om;obtain⟨x,hx⟩:∃x,l[k]?=some x:=⟨_,zge hk⟩;obtain⟨bk,hbk⟩:∃b,long[k]?=some b:=⟨_,zge om⟩;have hdl:l.drop k=x::l.drop (k+1):=by rw[List.drop_eq_getElem_cons hk,(zgi.1 hx).2]
  have hdb:long.drop k=bk::long.drop (k+1):=by rw[List.drop_eq_getElem_cons om,(zgi.1 hbk).2]
  have hlK:=hl.le (ww l2 h2.sh);obtain⟨y1,_,cs,y2,y3⟩:=hlK.get hx;obtain⟨rfl,hx8⟩:=itemR_iff.1 y2;have hbs:=(h2.row (e:=4) (l:=long) (v:=.slice bb long.length bc) sM).slR h2.sh;obtain⟨z1,_,cs,z2,z3⟩:=hbs.get hbk;obtain rfl:=csBK z2;refine⟨fun vs K3=>vs=[nI (sizeR x bk)]∧Held S2 K3 (orow 3 (plI (pre++[at_])) u::[orow 4 long (.slice bb long.length bc)]),?_,fun _=>?_,[vi x.kind],rfl,?_,?_⟩
  .rintro vs K3 _ ⟨rfl,h2⟩;simp only[cns];have hsz:=Zcg x bk;have w1:IntKind.i64.wrap ((at_:Int)+(sizeR x bk:Int))=((at_+sizeR x bk:Nat):Int):=by rw[w64 om om];omega
   have w2:IntKind.i64.wrap ((k:Int)+1)=((k+1:Nat):Int):=by rw[w64 om om];rfl
   refine z0t (b:=8) (more:=[((at_+sizeR x bk:Nat):Int)]) [vi (arI .add .i64 (at_:Int) (sizeR x bk:Int))] z0g z0e rfl dC dC h2 kr (.cons (by
     rw[show arI .add .i64 (at_:Int) (sizeR x bk:Int)=((at_+sizeR x bk:Nat):Int)from w1];exact z09 (by unfold InI;omega)) .nil) z01 (fun w=>kr) (fun w=>kr)
    (by simp only[maxLen,plI,zlm,zla,List.length_singleton];omega) (by simp only[plI,zlm,zla,List.length_singleton];omega) fun w v6 S6 K6 l6 h6=>⟨z01,?_⟩
   refine⟨_,z00,n-1,om,k+1,at_+sizeR x bk,v6,S6,pre++[at_],om,by simp only[wy,arI,w1,w2],ww l2 l6,om,by simp[hpl],?_,?_⟩
   .have:plI (pre++[at_]++[at_+sizeR x bk])=plI (pre++[at_])++[((at_+sizeR x bk:Nat):Int)]:=by simp[plI]
    rw[this];exact h6
   .rw[←hpre,hdl,hdb];simp[z0f]
  .simp only[Chk.holds,wy,arI];exact⟨y1,om,om⟩
  .simp only[wy,arI];exact z40 y3 0 _ rfl
  .simp only[cns];generalize hz:sizeR x bk=z;unfold sizeR at hz;refine⟨fun g2=>?_,fun g2=>?_⟩
   .simp only[wy,arI,zdt]at g2;rw[qj g2]at hz;exact⟨_,z00,by rw[←hz];rfl,h2⟩
   simp only[wy,arI,zdf]at g2;rw[qc g2]at hz;refine⟨fun g3=>?_,fun g3=>?_⟩
   .simp only[wy,arI,zdt]at g3;rw[qj g3]at hz;refine⟨fun _=>?_,[.bool bk],rfl,by simp only[wy,arI];exact z3,_,z00,?_,h2⟩
    .simp only[Chk.holds,wy,arI];exact⟨z1,om,om⟩
    .cases bk<;>simp[wy,arI,←hz]
   simp only[wy,arI,zdf]at g3;rw[qc g3]at hz;refine⟨fun g4=>?_,fun g4=>?_⟩
   .simp only[wy,arI,zdt]at g4;rw[qj g4]at hz;refine⟨[vi x.n],rfl,by simp only[wy,arI];exact z40 y3 7 _ rfl,?_⟩;simp only[cns];refine z02 (qb 149) (h2.gives (znd x.n S2)) ?_;rintro e K4 ⟨rfl,h4,l4⟩;exact⟨_,[nI (z1u x.n)],rfl,rfl,rfl,z01,_,z00,by rw[←hz];rfl,h4⟩
   simp only[wy,arI,zdf]at g4;rw[qc g4]at hz;refine⟨_,z00,?_,h2⟩;by_cases g5:x.kind=5
   .rw[qj g5]at hz;simp[wy,arI,g5,←hz]
   .rw[qc g5]at hz;simp[wy,arI,g5,←hz]
 .simp only[wy,arI,zdf]at g;have hk:k=l.length:=om;rw[hk,List.drop_of_length_le (we _),List.drop_of_length_le om]at hpre;simp only[z0f]at hpre;rw[hpre]at h2;obtain⟨S',s1,s2,s3⟩:=h2.freeze;exact⟨S',_,ww l2 s2,s3,rfl,_,rfl,s1⟩
theorem Zb5{l:List ItemR}{long:List Bool}{k:Nat}{x:ItemR}{b:Bool}(hx:l[k]?=some x)(hb:long[k]?=some b):(l.zipIdx.zip long)[k]?=some ((x,k),b):=by
 rw[List.getElem?_zip_eq_some];exact⟨by rw[List.getElem?_zipIdx,hx];simp,hb⟩
theorem zvg{l:List ItemR}{p:List Nat}{long:List Bool}(h:long.length=l.length):(growR l p long).length=l.length:=by
 simp[growR,h]
theorem Z5v{l:List ItemR}{p:List Nat}{long:List Bool}{k:Nat}{x:ItemR}{b:Bool}(hx:l[k]?=some x)(hb:long[k]?=some b):(growR l p long)[k]?=some (b||farR l p k x):=by
 rw[growR,zem,Zb5 hx hb];rfl
def cntF(l:List Bool):Nat:=(l.filter fun b=>!b).length
theorem Z6q:∀(a b:List Bool),a.length=b.length→(∀k:Nat,a[k]?=some true→b[k]?=some true)→cntF b≤cntF a∧(b≠a→cntF b<cntF a)
 | [],[],_,_=>⟨we _,fun h=>absurd rfl h⟩
 |x::a,y::b,hl,hk=>by
  have ih:=Z6q a b (by simpa using hl) fun k h=>by simpa using hk (k+1) (by simpa using h)
  have h0:=hk 0;simp only[List.getElem?_cons_zero,qG]at h0;unfold cntF at *;cases x<;>cases y<;>simp at h0⊢
  .exact⟨ih.1,ih.2⟩
  .exact⟨om,om⟩
  .exact⟨ih.1,ih.2⟩
 | [],_::_,h,_=>by simp at h
 |_::_,[],h,_=>by simp at h
theorem Zkg{l:List ItemR}{p:List Nat}{long:List Bool}(h:long.length=l.length)(hn:growR l p long≠long):cntF (growR l p long)<cntF long:=by
 refine(Z6q long (growR l p long) (by rw[zvg h,h]) fun k hk=>?_).2 hn;obtain⟨x,hx⟩:∃x,l[k]?=some x:=⟨_,zge (by have:=(zgi.1 hk).1;omega)⟩;rw[Z5v hx hk];rfl
theorem Zb4(l:List ItemR):∀(f:Nat)(long:List Bool),long.length=l.length→(layR l f long).length=l.length
 |0,long,h=>h
 |f+1,long,h=>by
  simp only[layR];split
  .exact h
  .exact Zb4 l f _ (zvg h)
theorem Z4q(l:List ItemR):(longR l).length=l.length:=Zb4 l _ _ sM
def z1s(l:List ItemR):List Int:=l.map fun x=>if z0z x=true then z1j l x.label else 0
theorem Z0b{l:List ItemR}{label:Int}{k:Nat}(h:findR l label=some k):k<l.length:=by
 unfold findR at h;rw[List.findIdx?_eq_some_iff_getElem]at h;exact h.1
theorem Zau{α:Type}(A:List α)(b v:α)(B:List α):(A++b::B).set A.length v=A++v::B:=by
 rw[List.set_append_right _ _ (we _),Nat.sub_self,List.set_cons_zero]
theorem Zm3(l:List ItemR)(label:Int)(h:l.length≤65536):-1≤z1j l label∧z1j l label≤65536:=by
 unfold z1j;cases hf:findR l label with
 |none=>simp
 |some k=>have:=Z0b hf;simp only[];omega
theorem Z6p(l:List ItemR)(lv:Value)(S:PH)(hl:SlR S l lv)(hs:l.length≤65536)(hn:∀x∈l,z0z x=true→(findR l x.label).isSome=true):
  Tri zP 90 #[lv] S fun e K'=>∃v1 v2,e=.returned (.tuple #[v1,v2])∧SlR K' (longR l) v1∧SlR K' (plI (z0f 0 l (longR l))) v2∧PH.le S K':=by
 obtain⟨b,c,rfl⟩:=hl.sl;have hlm:=hl.max;have hmx:maxLen=9223372036854775807:=rfl;have h0:Held S S []:=Held.nil (wx _);refine qr zgp [.slice b l.length c] ?_;refine z55 (α:=Bool) (b:=1) (n:=l.length) false rfl (fun S=>Z1t) zta zos kr kr om om h0 fun bv K1 h1 l1=>?_;simp only[cns];refine z55 (α:=Int) (b:=8) (n:=l.length) 0 rfl (fun S=>zpn) z0g zzg kr kr om om h1 fun fv K2 h2 l2=>?_;simp only[cns];obtain⟨bb,bc,rfl⟩:=(h2.row (e:=4) (l:=List.replicate l.length false) (v:=bv) sM).sl;obtain⟨fb,fc,rfl⟩:=(h2.row (e:=3) (zms)).sl;simp only[wi]at h2⊢;refine⟨fun n vs K=>∃k:Nat,k+n=l.length∧vs=[nI k]∧Held S K [orow 3 ((z1s l).take k++List.replicate (l.length-k) 0) (.slice fb l.length fc),orow 4 (List.replicate l.length false) (.slice bb l.length bc)],⟨l.length,0,om,rfl,by simpa using h2⟩,?_⟩;rintro n vs K _ ⟨k,hkn,rfl,h3⟩;simp only[cns];have hfl:(z1s l).length=l.length:=by simp[z1s]
 refine⟨fun g=>?_,fun g=>?_⟩
 .simp only[wy,arI,zdt]at g;have hk:k<l.length:=om;obtain⟨x,hx⟩:∃x,l[k]?=some x:=⟨_,zge hk⟩;obtain⟨y1,_,cs,y2,y3⟩:=(hl.le h3.sh).get hx;obtain⟨rfl,hx8⟩:=itemR_iff.1 y2;have w2:IntKind.i64.wrap ((k:Int)+1)=((k+1:Nat):Int):=by rw[w64 om om];rfl
  have hfk:(z1s l)[k]?=some (if z0z x=true then z1j l x.label else 0):=by unfold z1s;rw[zem,hx];rfl
  have hrep:List.replicate (l.length-k) (0:Int)=0::List.replicate (l.length-(k+1)) 0:=by
   rw[←List.replicate_succ];congr 1;omega
  have hAl:((z1s l).take k).length=k:=by rw[List.length_take];omega
  have htk:(z1s l).take (k+1)=(z1s l).take k++[if z0z x=true then z1j l x.label else 0]:=by rw[q9,hfk];rfl
  refine⟨fun vs K3=>vs=[]∧Held S K3 [orow 3 ((z1s l).take (k+1)++List.replicate (l.length-(k+1)) 0) (.slice fb l.length fc),orow 4 (List.replicate l.length false) (.slice bb l.length bc)],?_,fun _=>?_,itemV x,rfl,by simp only[wy,arI];exact y3,?_⟩
  .rintro vs K3 _ ⟨rfl,h4⟩;simp only[cns,zan];exact⟨_,z00,n-1,om,k+1,om,by simp only[wy,arI,w2],h4⟩
  .simp only[Chk.holds,wy,arI];exact⟨y1,om,om⟩
  .simp only[cns];refine z02 (qb 89) (h3.gives (zf2 x S)) ?_;rintro e K4 ⟨rfl,h4,l4⟩;refine⟨_,[.bool (z0z x)],rfl,rfl,rfl,z01,?_⟩;simp only[cns];refine⟨fun g2=>?_,fun g2=>?_⟩
   .simp only[wy,arI]at g2;rw[qj g2]at htk;refine⟨[vi x.label],rfl,by simp only[wy,arI];exact z40 (z0v l4 y3) 6 _ rfl,?_⟩;simp only[cns];refine z02 (qb 88) (h4.gives (zcp l x.label _ S hl)) ?_;rintro e K5 ⟨rfl,h5,l5⟩;refine⟨_,[vi (z1j l x.label)],rfl,rfl,rfl,z01,?_⟩;simp only[cns];have hbnd:=Zm3 l x.label hs;have hget:((z1s l).take k++List.replicate (l.length-k) 0)[k]?=some 0:=by
     rw[List.getElem?_append_right om,hAl,Nat.sub_self,hrep];rfl
    obtain⟨z1,_⟩:=((h5.row (e:=3) (l:=(z1s l).take k++List.replicate (l.length-k) 0) (v:=.slice fb l.length fc) sM).slR h5.sh).get hget;refine⟨fun _=>?_,?_⟩
    .simp only[Chk.holds,wy,arI];exact⟨z1,om,om⟩
    refine z1i (i:=k) (a:=0) (a':=z1j l x.label) (us:=[vi (z1j l x.label)]) (by simp only[wy,arI];rfl) h5 hget rfl (by simp only[wy,arI]) (by simp[oneC]) (z09 (by unfold InI;omega)) fun K6 h6=>?_;refine⟨_,z00,rfl,?_⟩;have e:((z1s l).take k++List.replicate (l.length-k) 0).set k (z1j l x.label)=(z1s l).take (k+1)++List.replicate (l.length-(k+1)) 0:=by
     rw[htk,hrep,zaa];have:=Zau ((z1s l).take k) 0 (z1j l x.label) (List.replicate (l.length-(k+1)) 0);rw[hAl]at this;exact this
    rw[e]at h6;exact h6
   .simp only[wy,arI]at g2;rw[qc (by rw[g2];exact qk)]at htk;refine⟨_,z00,rfl,?_⟩;have e:(z1s l).take k++List.replicate (l.length-k) 0=(z1s l).take (k+1)++List.replicate (l.length-(k+1)) 0:=by
     rw[htk,hrep,zaa];rfl
    rw[e]at h4;exact h4
 simp only[wy,arI,zdf]at g;have hk:k=l.length:=om;subst hk;rw[ztl om,Nat.sub_self,List.replicate_zero,zan]at h3;refine ⟨fun n vs K=>∃(u1 u2:Value) (S2:PH) (long:List Bool),vs=[u1,u2]∧PH.le S S2∧long.length=l.length∧layR l n long=longR l∧cntF long < n∧Held S2 K [orow 3 (z1s l) (.slice fb l.length fc),orow 4 long (.slice bb l.length bc)],
  ⟨l.length+1,.slice none 0 0,.slice none 0 0,S,List.replicate l.length false,rfl,wx _,sM,by unfold longR;rw[List.map_const'],by unfold cntF;simp,h3⟩,?_⟩
 rintro n vs K4 _ ⟨u1,u2,S2,long,rfl,l2,hll,hlay,hcnt,h4⟩;simp only[cns];obtain⟨f,rfl⟩:∃f,n=f+1:=⟨n-1,om⟩;simp only[layR]at hlay;obtain⟨p,hp⟩:∃p,p=z0f 0 l long:=⟨_,rfl⟩;rw[←hp]at hlay;have hpl:p.length=l.length+1:=by rw[hp];exact zot l long 0 hll
 have hple:∀q∈p,q≤4*l.length:=by
  intro q hq;rw[hp]at hq;have:=zkn l long 0 q hq;omega
 obtain⟨gr,hgr⟩:∃gr,gr=growR l p long:=⟨_,rfl⟩;have hgl:gr.length=l.length:=by rw[hgr];exact zvg hll
 refine z02 (qb 147) (Held.call (J:=[orow 4 long (.slice bb l.length bc)]) (I:=[orow 3 (z1s l) (.slice fb l.length fc)]) (h4.perm (qq _ _ _)) fun K hK=>Z69 l long _ _ S2 K hK (hl.le l2) hll hs) ?_;rintro e K5 ⟨S5,J5,l5,h5,rfl,pv,rfl,hpv⟩;rw[←hp]at hpv;obtain⟨pb,pc,rfl⟩:=hpv.sl;refine⟨_,[.slice pb (plI p).length pc],rfl,rfl,rfl,z01,?_⟩;simp only[cns]at h5⊢;have h5:Held S5 K5 [orow 4 long (.slice bb l.length bc),orow 3 (z1s l) (.slice fb l.length fc)]:=h5;refine⟨fun n vs K=>∃k:Nat,k+n=l.length∧vs=[.bool (decide (gr.take k≠long.take k)),nI k]∧Held S5 K [orow 4 (gr.take k++long.drop k) (.slice bb l.length bc),orow 3 (z1s l) (.slice fb l.length fc)],⟨l.length,0,om,by simp[wy,arI],by simpa using h5⟩,?_⟩;rintro n vs K6 _ ⟨k,hkn,rfl,h6⟩;simp only[cns];refine⟨fun g2=>?_,fun g2=>?_⟩
 .simp only[wy,arI,zdt]at g2;have hk:k<l.length:=om;obtain⟨x,hx⟩:∃x,l[k]?=some x:=⟨_,zge hk⟩;obtain⟨bk,hbk⟩:∃b,long[k]?=some b:=⟨_,zge om⟩;have hgk:gr[k]?=some (bk||farR l p k x):=by rw[hgr];exact Z5v hx hbk
  obtain⟨y1,_,cs,y2,y3⟩:=(hl.le (ww l2 (ww l5 h6.sh))).get hx;obtain⟨rfl,hx8⟩:=itemR_iff.1 y2;have w2:IntKind.i64.wrap ((k:Int)+1)=((k+1:Nat):Int):=by rw[w64 om om];rfl
  have hAl:(gr.take k).length=k:=by rw[List.length_take];omega
  have hdl:long.drop k=bk::long.drop (k+1):=by rw[List.drop_eq_getElem_cons om,(zgi.1 hbk).2]
  have htg:gr.take (k+1)=gr.take k++[bk||farR l p k x]:=by rw[q9,hgk];rfl
  have htl:long.take (k+1)=long.take k++[bk]:=by rw[q9,hbk];rfl
  have hmid:(gr.take k++long.drop k)[k]?=some bk:=by
   rw[List.getElem?_append_right om,hAl,Nat.sub_self,hdl];rfl
  have same:(bk||farR l p k x)=bk→gr.take (k+1)++long.drop (k+1)=gr.take k++long.drop k∧decide (gr.take (k+1)≠long.take (k+1))=decide (gr.take k≠long.take k):=fun e=>by
   rw[htg,htl,e,hdl];exact⟨sM,sM⟩
  refine⟨fun vs K7=>vs=[.bool (decide (gr.take (k+1)≠long.take (k+1)))]∧Held S5 K7 [orow 4 (gr.take (k+1)++long.drop (k+1)) (.slice bb l.length bc),orow 3 (z1s l) (.slice fb l.length fc)],?_,?_⟩
  .rintro vs K7 _ ⟨rfl,h7⟩;exact⟨_,z00,n-1,om,k+1,om,by simp only[wy,arI,w2],h7⟩
  have hls:=(h6.row (e:=4) (l:=gr.take k++long.drop k) (v:=.slice bb l.length bc) sM).slR h6.sh;obtain⟨z1,_,zcs,z2,z3⟩:=hls.get hmid;obtain rfl:=csBK z2;refine⟨fun vs K7=>vs=[.bool (decide (x.kind≠2)||bk)]∧K6=K7,?_,fun _=>?_,[vi x.kind],rfl,by simp only[wy,arI];exact z40 y3 0 _ rfl,fun _=>?_,fun g3=>?_,fun g3=>?_⟩;rotate_left
  .simp only[Chk.holds,wy,arI];exact⟨y1,om,om⟩
  .simp only[Chk.holds,wy,arI];exact⟨z1,om,om⟩
  .simp only[wy,arI,ne_eq,zdt]at g3;exact⟨_,z00,by simp[wy,arI,g3],rfl⟩
  .simp only[wy,arI,ne_eq,zdf,Decidable.not_not]at g3;refine⟨[.bool bk],rfl,by simp only[wy,arI];exact z3,_,z00,?_,rfl⟩;simp[wy,arI,g3]
  rintro vs K7 _ ⟨rfl,rfl⟩;simp only[cns];refine⟨fun g3=>?_,fun g3=>?_⟩
  .simp only[wy,arI]at g3;have:(bk||farR l p k x)=bk:=by
    cases bk with
    |true=>rfl
    |false=>
     simp only[Bool.or_false,zdt]at g3;unfold farR;simp[g3]
   obtain⟨s1,s2⟩:=same this;exact⟨_,z00,by rw[s2];rfl,by rw[s1];exact h6⟩
  simp only[wy,arI,zof,zdf,ne_eq,Decidable.not_not]at g3;obtain⟨g3,rfl⟩:=g3;have hnm:z0z x=true:=by unfold z0z;simp[g3]
  obtain⟨j,hj⟩:=qH.1 (hn x (zmg hx) hnm);have hjl:=Z0b hj;have hfj:z1j l x.label=(j:Int):=by unfold z1j;rw[hj]
  have hfk:(z1s l)[k]?=some (j:Int):=by unfold z1s;rw[zem,hx];simp[hnm,hfj]
  have hfs:=(h6.row (e:=3) (l:=z1s l) (v:=.slice fb l.length fc) sM).slR h6.sh;obtain⟨f1,_,fcs,f2,f3⟩:=hfs.get hfk;obtain⟨rfl,_⟩:=csIK f2;have hpK:=hpv.le h6.sh;obtain⟨q,hq⟩:∃q,p[j]?=some q:=⟨_,zge om⟩;obtain⟨r,hr⟩:∃r,p[k]?=some r:=⟨_,zge om⟩;have hpq:(plI p)[j]?=some (q:Int):=by simp[plI,hq]
  have hpr:(plI p)[k]?=some (r:Int):=by simp[plI,hr]
  obtain⟨q1,_,qcs,q2,q3⟩:=hpK.get hpq;obtain⟨rfl,_⟩:=csIK q2;obtain⟨r1,_,rcs,r2,r3⟩:=hpK.get hpr;obtain⟨rfl,_⟩:=csIK r2;have hq4:=hple q (zmg hq);have hr4:=hple r (zmg hr);have hplI:(plI p).length=l.length+1:=by simp[plI,hpl]
  have hfar:farR l p k x=(decide ((q:Int)-r < -512)||decide (511<(q:Int)-r)):=by
   unfold farR toR;rw[qj hnm,hj];simp[g3,zgd,hq,hr]
  have wd:IntKind.i64.wrap ((q:Int)-(r:Int))=(q:Int)-r:=w64 om om;refine⟨fun _=>?_,[vi (j:Int)],rfl,by simp only[wy,arI];exact f3,fun _=>?_,[vi (q:Int)],rfl,by simp only[wy,arI];exact q3,fun _=>?_,[vi (r:Int)],rfl,by simp only[wy,arI];exact r3,fun g4=>?_,fun g4=>?_⟩
  .simp only[Chk.holds,wy,arI];exact⟨f1,om,om⟩
  .simp only[Chk.holds,wy,arI];exact⟨q1,om,om⟩
  .simp only[Chk.holds,wy,arI];exact⟨r1,om,om⟩
  .simp only[wy,arI,wd]at g4;have hf:farR l p k x=true:=by rw[hfar];exact g4
   refine⟨fun _=>?_,?_⟩
   .simp only[Chk.holds,wy,arI];exact⟨z1,om,om⟩
   refine z1i (i:=k) (a:=false) (a':=true) (us:=[.bool true]) (by simp only[wy,arI];rfl) h6 hmid rfl (by simp only[wy,arI]) (by simp[oneC]) zgr fun K8 h8=>?_;have e:(gr.take k++long.drop k).set k true=gr.take (k+1)++long.drop (k+1):=by
    rw[htg,hdl,zaa,hf];have:=Zau (gr.take k) false true (long.drop (k+1));rw[hAl]at this;exact this
   rw[e]at h8;refine⟨_,z00,?_,h8⟩;have:decide (gr.take (k+1)≠long.take (k+1))=true:=by
    rw[zdt,htg,htl,hf];intro hh;have:=(List.append_inj' hh rfl).2;simp at this
   rw[this];rfl
  .simp only[wy,arI,wd]at g4;have hf:farR l p k x=false:=by rw[hfar];exact g4
   obtain⟨s1,s2⟩:=same (by rw[hf];rfl);exact⟨_,z00,by rw[s2];rfl,by rw[s1];exact h6⟩
 .simp only[wy,arI,zdf]at g2;have hk:k=l.length:=om;subst hk;rw[ztl om,List.drop_of_length_le om,zan]at h6;rw[ztl (show gr.length≤l.length by omega),ztl (show long.length≤l.length by omega)];refine⟨fun g3=>?_,fun g3=>?_⟩
  .simp only[wy,arI,qy,zdf,ne_eq,Decidable.not_not]at g3;rw[←hgr,qj g3]at hlay;rw[g3,hlay]at h6;obtain⟨S',s1,s2,s3⟩:=h6.freeze;refine⟨_,_,rfl,?_,?_,ww l2 (ww l5 (ww s2 s3.sh))⟩
   .have:=s1.le s3.sh;simpa[wy,arI,partV,qp,if_false,if_true,List.headD_cons]using this
   .have:=hpv.le (ww s2 s3.sh);rw[hp,hlay]at this;rw[hp,hlay];simpa[wy,arI,partV,qp,if_false,if_true,List.headD_cons]using this
  .simp only[wy,arI,qU,zdt]at g3;rw[←hgr,qc g3]at hlay;have hc:cntF gr<cntF long:=by rw[hgr];rw[hgr]at g3;exact Zkg hll g3
   exact⟨_,z1f dC |>.trans z00,f,om,_,_,S5,gr,rfl,ww l2 l5,hgl,hlay,om,h6.perm (qq _ _ _)⟩
def errA:Except AsmE (List W32×List Nat)→Int
 | .ok _=>0
 | .error .many=>213
 | .error .form=>210
 | .error .twice=>211
 | .error .none_=>212
def codeA:Except AsmE (List W32×List Nat)→List W32
 | .ok x=>x.1
 | .error _=>[]
def zzy:Except AsmE (List W32×List Nat)→List Nat
 | .ok x=>x.2
 | .error _=>[]
theorem Zm8(x:InsR):InU ((encR x).getD 0):=by
 cases h:encR x with
 |none=>unfold InU;simp
 |some w=>
  have ok:=Zg1 h;unfold encR at h;obtain⟨o1,o2,o3,o4,o5,_⟩:=ok;rw[qc om]at h;split at h
  .rename_i hf;simp only[qG]at h;have hk:=zrq x.op;unfold fitsR at hf;simp only[zba,zdt]at hf;have h2:(2:Int)^(frmR x.op).bits≤2097152:=by
    rcases hk.bits with h|h|h|h<;>rw[h]<;>decide
   have h5:=hk.lo;have h6:=hk.fit;have hm:0≤(if x.n<0 then x.n+2^(frmR x.op).bits else x.n)∧(if x.n<0 then x.n+2^(frmR x.op).bits else x.n)≤2097152:=by
    by_cases hn:x.n<0
    .rw[qj hn];have hb0:(frmR x.op).bits≠0:=fun h=>by have:=h5 h;omega
     have:=h6 hb0;omega
    .rw[qc hn];omega
   generalize(if x.n<0 then x.n+2^(frmR x.op).bits else x.n)=m at *;unfold wordR at h;unfold InU;simp only[Option.getD_some];omega
  .cases h
theorem Zl4(r n:Int)(k:Nat)(h:1≤k):(numR r n k).length=k:=by
 simp only[numR,zlc,zvr];omega
theorem zwr(x:ItemR)(b:Bool)(a t:Int):(z12 x b a t).length≤4:=by
 have h1:=zrh x.n;unfold z12
 repeat' split
 all_goals first|(simp;done)|(rw[Zl4 _ _ _ om];omega)
abbrev partC(l:List ItemR)(p:List Nat)(x:(ItemR×Nat)×Bool):List W32:=(z12 x.1.1 x.2 ((p.getD x.1.2 0:Nat):Int) (toR l p x.1.1)).map z3g
theorem Zib(seen:List ItemR)(x:ItemR)(l:List ItemR):badR seen (x::l)=if mayR x=false then 1 else if x.kind=1∧(findR seen x.label).isSome=true then 2 else badR (seen++[x]) l:=rfl
theorem uU32s:Tryz.prog.underlying 53=some (.slice 121):=kr
theorem Zca:ElemOk zP 121 1 4=true:=kr
theorem csW{S:PH}{w:W32}(h:InU w.n):CsR S w [.int .u32 w.n]:=w32_iff.2 ⟨rfl,h⟩
theorem Zff{l:List ItemR}{p:List Nat}(hp:∀q∈p,q≤4*l.length)(hs:l.length≤65536)(x:ItemR):0≤toR l p x∧toR l p x≤1099511627776:=by
 unfold toR;split
 .rw[zgd];cases h:p[(findR l x.label).getD 0]? with
  |none=>simp
  |some q=>have:=hp q (zmg h);simp only[Option.getD_some];omega
 .omega
theorem Zgn{p:List Nat}{n:Nat}(hp:∀q∈p,q≤4*n)(hs:n≤65536)(k:Nat):(0:Int)≤((p.getD k 0:Nat):Int)∧((p.getD k 0:Nat):Int)≤1099511627776:=by
 rw[zgd];cases h:p[k]? with
 |none=>simp
 |some q=>have:=hp q (zmg h);simp only[Option.getD_some];omega
theorem capQ{α:Type}[Enc α]{H:PH}{l:List α}{b:Option Addr}{n c:Nat}(h:SlR H l (.slice b n c)):n≤c:=by
 rcases(SlR.mk_iff.1 h).2 with⟨h1,_⟩|⟨a,c',h1,h2,_⟩
 .cases h1;exact we _
 .simp only[Value.slice.injEq]at h1;omega
theorem Z08(l:List ItemR)(lv:Value)(S:PH)(hl:SlR S l lv):
  Tri zP 45 #[lv] S fun e K'=>∃v1 v2,e=.returned (.tuple #[v1,v2,vi (errA (asmR l))])∧SlR K' (codeA (asmR l)) v1∧SlR K' (plI (zzy (asmR l))) v2∧PH.le S K':=by
 obtain⟨b,c,rfl⟩:=hl.sl;have hlm:=hl.max;have hcap:=capQ hl;have hmx:maxLen=9223372036854775807:=rfl;have hnil:∀{α:Type} [Enc α] (K:PH),SlR (α:=α) K [] (.slice none 0 0):=fun K=>SlR.mk_iff.2 ⟨by simp[maxLen],.inl ⟨rfl,rfl⟩⟩;have err:∀{K:PH} {e:AsmE} {q:Int},asmR l=.error e→q=errA (.error e)→PH.le S K→∃v1 v2,Ending.returned (.tuple #[.slice none 0 0,.slice none 0 0,vi q])=.returned (.tuple #[v1,v2,vi (errA (asmR l))])∧SlR K (codeA (asmR l)) v1∧SlR K (plI (zzy (asmR l))) v2∧PH.le S K:=fun h hq hK=>by
  rw[h,hq];exact⟨_,_,rfl,hnil _,hnil _,hK⟩
 refine qr zeb [.slice b l.length c] ?_;refine⟨fun g=>?_,fun g=>?_⟩
 .simp only[wy,arI,zdt]at g;obtain⟨v1,v2,he,e1,e2,e3⟩:=err (K:=S) (e:=.many) (q:=213) (by unfold asmR;rw[qj om]) rfl (wx _);exact⟨v1,v2,he,e1,e2,e3⟩
 simp only[wy,arI,zdf]at g;have hs:l.length≤65536:=om;have hA1:asmR l=if badR [] l=1 then .error .form
   else if badR [] l=2 then .error .twice
   else if l.any (fun x=>z0z x&&(findR l x.label).isNone)=true then .error .none_
   else .ok (codeR l (longR l) (z0f 0 l (longR l)),(z0f 0 l (longR l)).take l.length):=by
  unfold asmR;rw[qc om]
 refine⟨fun n vs K=>∃k:Nat,k+n=l.length∧vs=[.slice none 0 0,.slice none 0 0,vi 0,nI k]∧PH.le S K∧badR (l.take k) (l.drop k)=badR [] l∧∀x∈l.take k,mayR x=true,⟨l.length,0,om,rfl,wx _,sM,sM⟩,?_⟩;rintro n vs K _ ⟨k,hkn,rfl,l2,hbad,hmay⟩;simp only[cns];refine⟨fun g2=>?_,fun g2=>?_⟩
 .simp only[wy,arI,zdt]at g2;have hk:k<l.length:=om;obtain⟨x,hx⟩:∃x,l[k]?=some x:=⟨_,zge hk⟩;have hdl:l.drop k=x::l.drop (k+1):=by rw[List.drop_eq_getElem_cons hk,(zgi.1 hx).2]
  have htl:l.take (k+1)=l.take k++[x]:=by rw[q9,hx];rfl
  rw[hdl,Zib]at hbad;have hlK:=hl.le l2;obtain⟨y1,_,cs,y2,y3⟩:=hlK.get hx;obtain⟨rfl,hx8⟩:=itemR_iff.1 y2;have w2:IntKind.i64.wrap ((k:Int)+1)=((k+1:Nat):Int):=by rw[w64 om om];rfl
  refine⟨fun _=>?_,itemV x,rfl,by simp only[wy,arI];exact y3,?_⟩
  .simp only[Chk.holds,wy,arI];exact⟨y1,om,om⟩
  simp only[cns];refine z03 [.bool (mayR x)] (qb 87) (Zai x K hx8) rfl z01 fun K2 l3=>?_;simp only[cns];refine⟨fun g3=>?_,fun g3=>?_⟩
  .simp only[wy,arI,qy]at g3;rw[qj g3]at hbad;obtain⟨v1,v2,he,e1,e2,e3⟩:=err (K:=K2) (e:=.form) (q:=210) (by rw[hA1,qj hbad.symm]) rfl (ww l2 l3);exact⟨v1,v2,he,e1,e2,e3⟩
  simp only[wy,arI,qU]at g3;rw[qc (by rw[g3];simp)]at hbad;refine⟨fun vs K3=>vs=[.bool (decide (x.kind=1∧(findR (l.take k) x.label).isSome=true))]∧PH.le K2 K3,?_,?_⟩
  .rintro vs K3 _ ⟨rfl,l4⟩;simp only[cns];have l24:=ww l2 (ww l3 l4);refine⟨fun g4=>?_,fun g4=>?_⟩
   .simp only[wy,arI,zdt]at g4;rw[qj g4]at hbad;obtain⟨v1,v2,he,e1,e2,e3⟩:=err (K:=K3) (e:=.twice) (q:=211) (by rw[hA1,qc om,qj hbad.symm]) rfl l24;exact⟨v1,v2,he,e1,e2,e3⟩
   .simp only[wy,arI,zdf]at g4;rw[qc g4]at hbad;refine⟨_,z00,n-1,om,k+1,om,by simp only[wy,arI,w2],l24,by rw[htl];exact hbad,fun y hy=>?_⟩;rw[htl]at hy;rcases zma.1 hy with hy|hy
    .exact hmay y hy
    .rw[zsi.1 hy];exact g3
  .refine⟨[vi x.kind],rfl,by simp only[wy,arI];exact z40 (z0v l3 y3) 0 _ rfl,fun _=>?_,fun g4=>?_,fun g4=>?_⟩
   .simp only[Chk.holds,wy,arI,slCap];omega
   .simp only[wy,arI,zdt]at g4;refine⟨[vi x.label],rfl,by simp only[wy,arI];exact z40 (z0v l3 y3) 6 _ rfl,?_⟩;simp only[cns];have hcut:=(hlK.le l3).cut (a:=0) (b:=k) om om;rw[List.drop_zero]at hcut;refine z03 [vi (z1j (l.take k) x.label)] (qb 88) (zcp (l.take k) x.label _ K2 hcut) rfl z01 fun K3 l4=>⟨_,z00,?_,l4⟩;simp only[wy,arI];rw[List.cons.injEq];refine⟨?_,rfl⟩;rw[Value.bool.injEq,decide_eq_decide];unfold z1j;cases findR (l.take k) x.label with
    |none=>simp
    |some j=>simp[g4]
   .simp only[wy,arI,zdf]at g4;exact⟨_,z00,by simp[wy,arI,g4],wx _⟩
 simp only[wy,arI,zdf]at g2;have hk:k=l.length:=om;subst hk;rw[ztl (we _)]at hbad hmay;rw[List.drop_of_length_le (we _)]at hbad;have hb0:badR [] l=0:=by rw[←hbad];rfl
 have hA2:asmR l=if l.any (fun x=>z0z x&&(findR l x.label).isNone)=true then .error .none_
   else .ok (codeR l (longR l) (z0f 0 l (longR l)),(z0f 0 l (longR l)).take l.length):=by
  rw[hA1,hb0,qc om,qc om]
 refine⟨fun n vs K=>∃k:Nat,k+n=l.length∧vs=[.slice none 0 0,.slice none 0 0,vi 0,nI k]∧PH.le S K∧∀x∈l.take k,(z0z x&&(findR l x.label).isNone)=false,⟨l.length,0,om,rfl,l2,sM⟩,?_⟩;rintro n vs K5 _ ⟨k,hkn,rfl,l5,hno⟩;simp only[cns];refine⟨fun g3=>?_,fun g3=>?_⟩
 .simp only[wy,arI,zdt]at g3;have hk:k<l.length:=om;obtain⟨x,hx⟩:∃x,l[k]?=some x:=⟨_,zge hk⟩;have htl:l.take (k+1)=l.take k++[x]:=by rw[q9,hx];rfl
  have hlK:=hl.le l5;obtain⟨y1,_,cs,y2,y3⟩:=hlK.get hx;obtain⟨rfl,hx8⟩:=itemR_iff.1 y2;have w2:IntKind.i64.wrap ((k:Int)+1)=((k+1:Nat):Int):=by rw[w64 om om];rfl
  refine⟨fun vs K6=>vs=[.bool (z0z x&&(findR l x.label).isNone)]∧PH.le K5 K6,?_,fun _=>?_,itemV x,rfl,by simp only[wy,arI];exact y3,?_⟩
  .rintro vs K6 _ ⟨rfl,l6⟩;simp only[cns];refine⟨fun g4=>?_,fun g4=>?_⟩
   .simp only[wy,arI]at g4;obtain⟨v1,v2,he,e1,e2,e3⟩:=err (K:=K6) (e:=.none_) (q:=212) (by rw[hA2,qj (wl.2 ⟨x,zmg hx,g4⟩)]) rfl (ww l5 l6);exact⟨v1,v2,he,e1,e2,e3⟩
   .simp only[wy,arI]at g4;refine⟨_,z00,n-1,om,k+1,om,by simp only[wy,arI,w2],ww l5 l6,fun y hy=>?_⟩;rw[htl]at hy;rcases zma.1 hy with hy|hy
    .exact hno y hy
    .rw[zsi.1 hy];exact g4
  .simp only[Chk.holds,wy,arI];exact⟨y1,om,om⟩
  .simp only[cns];refine z03 [.bool (z0z x)] (qb 89) (zf2 x K5) rfl z01 fun K6 l6=>?_;simp only[cns];refine⟨fun g4=>?_,fun g4=>?_⟩
   .simp only[wy,arI]at g4;refine⟨[vi x.label],rfl,by simp only[wy,arI];exact z40 (z0v l6 y3) 6 _ rfl,?_⟩;simp only[cns];refine z03 [vi (z1j l x.label)] (qb 88) (zcp l x.label _ K6 (hlK.le l6)) rfl z01 fun K7 l7=>⟨_,z00,?_,ww l6 l7⟩;simp only[wy,arI];rw[List.cons.injEq];refine⟨?_,rfl⟩;rw[Value.bool.injEq,g4,Bool.true_and];unfold z1j;cases findR l x.label with
    |none=>simp
    |some j=>simp
   .simp only[wy,arI]at g4;exact⟨_,z00,by simp[wy,arI,g4],l6⟩
 simp only[wy,arI,zdf]at g3;have hk:k=l.length:=om;subst hk;rw[ztl (we _)]at hno;have hA3:asmR l=.ok (codeR l (longR l) (z0f 0 l (longR l)),(z0f 0 l (longR l)).take l.length):=by
  rw [hA2,qc (by
   rw[wl];rintro⟨x,hx,h⟩;rw[hno x hx]at h;cases h)]
 have hnm:∀x∈l,z0z x=true→(findR l x.label).isSome=true:=fun x hx h=>by
  have:=hno x hx;rw[h,Bool.true_and]at this;cases hf:findR l x.label with
  |none=>rw[hf]at this;cases this
  |some j=>rfl
 rw[hA3];refine z02 (qb 90) (Z6p l _ K5 (hl.le l5) hs hnm) ?_;rintro e K6 ⟨bv,pv,rfl,hbv,hpv,l6⟩;obtain⟨p,hp⟩:∃p,p=z0f 0 l (longR l):=⟨_,rfl⟩;obtain⟨long,hlong⟩:∃long,long=longR l:=⟨_,rfl⟩;rw[←hp]at hpv⊢;rw[←hlong]at hbv⊢;have hll:long.length=l.length:=by rw[hlong];exact Z4q l
 have hpl:p.length=l.length+1:=by rw[hp];exact zot l _ 0 (Z4q l)
 have hple:∀q∈p,q≤4*l.length:=by
  intro q hq;rw[hp]at hq;have:=zkn l _ 0 q hq;omega
 have hplI:(plI p).length=l.length+1:=by simp[plI,hpl]
 obtain⟨bb,bc,rfl⟩:=hbv.sl;obtain⟨pb,pc,rfl⟩:=hpv.sl;have hpcap:=capQ hpv;simp only[hll]at hbv⊢;simp only[hplI]at hpv hpcap⊢;refine⟨_,[.slice bb l.length bc,.slice pb (l.length+1) pc],rfl,rfl,rfl,z01,?_⟩;simp only[cns];have hl6:=hl.le (ww l5 l6);have h6:Held K6 K6 []:=Held.nil (wx _);refine zk8 (α:=W32) (b:=4) uU32s Zca h6 z01 fun v1 K7 h7 _ _=>?_;simp only[cns];obtain⟨Z,hZ⟩:∃Z,Z=l.zipIdx.zip long:=⟨_,rfl⟩;have hZl:Z.length=l.length:=by rw[hZ];simp[hll]
 refine⟨fun n vs K=>∃(k:Nat)(u:Value)(S2:PH),k+n=l.length∧vs=[u,nI k]∧PH.le K6 S2∧((Z.take k).flatMap (partC l p)).length≤4*k∧Held S2 K [orow 121 ((Z.take k).flatMap (partC l p)) u],⟨l.length,0,v1,K6,om,rfl,wx _,sM,by simpa using h7⟩,?_⟩;rintro n vs K8 _ ⟨k,u,S2,hkn,rfl,l8,hcl,h8⟩;simp only[cns];refine⟨fun g4=>?_,fun g4=>?_⟩
 .simp only[wy,arI,zdt]at g4;have hk:k<l.length:=om;obtain⟨x,hx⟩:∃x,l[k]?=some x:=⟨_,zge hk⟩;obtain⟨bk,hbk⟩:∃b,long[k]?=some b:=⟨_,zge om⟩;obtain⟨r,hr⟩:∃r,p[k]?=some r:=⟨_,zge om⟩;have hpr:(plI p)[k]?=some (r:Int):=by simp[plI,hr]
  have hrk:((p.getD k 0:Nat):Int)=(r:Int):=by rw[zgd,hr];rfl
  have hzk:Z[k]?=some ((x,k),bk):=by rw[hZ];exact Zb5 hx hbk
  have htz:(Z.take (k+1)).flatMap (partC l p)=(Z.take k).flatMap (partC l p)++(z12 x bk (r:Int) (toR l p x)).map z3g:=by
   rw[q9,hzk];simp only[Option.toList_some,List.flatMap_append,qQ,List.flatMap_nil,zan,partC];rw[hrk]
  have hin:=zwr x bk (r:Int) (toR l p x);have hto:=Zff hple hs x;have hat:=Zgn hple hs k;rw[hrk]at hat;have w2:IntKind.i64.wrap ((k:Int)+1)=((k+1:Nat):Int):=by rw[w64 om om];rfl
  refine⟨fun vs K9=>vs=[vi (toR l p x)]∧Held S2 K9 [orow 121 ((Z.take k).flatMap (partC l p)) u],?_,?_⟩;rotate_left
  .obtain⟨y1,_,cs,y2,y3⟩:=(hl6.le (ww l8 h8.sh)).get hx;obtain⟨rfl,hx8⟩:=itemR_iff.1 y2;refine⟨fun _=>?_,itemV x,rfl,by simp only[wy,arI];exact y3,?_⟩
   .simp only[Chk.holds,wy,arI];exact⟨y1,om,om⟩
   simp only[cns];refine z02 (qb 89) (h8.gives (zf2 x S2)) ?_;rintro e K9 ⟨rfl,h9,l9⟩;refine⟨_,[.bool (z0z x)],rfl,rfl,rfl,z01,?_⟩;simp only[cns];refine⟨fun g5=>?_,fun g5=>?_⟩
   .simp only[wy,arI]at g5;refine⟨[vi x.label],rfl,by simp only[wy,arI];exact z40 (z0v l9 y3) 6 _ rfl,?_⟩;simp only[cns];refine z02 (qb 88) (h9.gives (zcp l x.label _ S2 (hl6.le l8))) ?_;rintro e Ka ⟨rfl,ha,la⟩;refine⟨_,[vi (z1j l x.label)],rfl,rfl,rfl,z01,?_⟩;simp only[cns];obtain⟨j,hj⟩:=qH.1 (hnm x (zmg hx) g5);have hjl:=Z0b hj;have hfj:z1j l x.label=(j:Int):=by unfold z1j;rw[hj]
    obtain⟨q,hq⟩:∃q,p[j]?=some q:=⟨_,zge om⟩;have hpq:(plI p)[j]?=some (q:Int):=by simp[plI,hq]
    obtain⟨q1,_,qcs,q2,q3⟩:=(hpv.le (ww l8 ha.sh)).get hpq;obtain⟨rfl,_⟩:=csIK q2;have htoq:toR l p x=(q:Int):=by
     unfold toR;rw[qj g5,hj];simp[zgd,hq]
    rw[hfj];refine⟨fun _=>?_,[vi (q:Int)],rfl,by simp only[wy,arI];exact q3,_,z00,?_,ha⟩
    .simp only[Chk.holds,wy,arI];exact⟨q1,om,om⟩
    .rw[htoq];rfl
   .simp only[wy,arI]at g5;refine⟨_,z00,?_,h9⟩;unfold toR;rw[qc (by rw[g5];exact qk)];rfl
  rintro vs K9 _ ⟨rfl,h9⟩;simp only[cns];obtain⟨y1,_,cs,y2,y3⟩:=(hl6.le (ww l8 h9.sh)).get hx;obtain⟨rfl,hx8⟩:=itemR_iff.1 y2;obtain⟨z1,_,zcs,z2,z3⟩:=(hbv.le (ww l8 h9.sh)).get hbk;obtain rfl:=csBK z2;obtain⟨q1,_,qcs,q2,q3⟩:=(hpv.le (ww l8 h9.sh)).get hpr;obtain⟨rfl,_⟩:=csIK q2;refine⟨fun _=>?_,itemV x,rfl,by simp only[wy,arI];exact y3,fun _=>?_,[.bool bk],rfl,by simp only[wy,arI];exact z3,fun _=>?_,[vi (r:Int)],rfl,by simp only[wy,arI];exact q3,?_⟩
  .simp only[Chk.holds,wy,arI];exact⟨y1,om,om⟩
  .simp only[Chk.holds,wy,arI];exact⟨z1,om,om⟩
  .simp only[Chk.holds,wy,arI];exact⟨q1,om,om⟩
  simp only[cns];refine z02 (qb 91) (h9.pure (R:=fun e S'=>∃v,e=.returned v∧SlR S' (z12 x bk (r:Int) (toR l p x)) v) ((Z7t x bk (r:Int) (toR l p x) S2 hx8 (hmay x (zmg hx)) hat hto).mono fun e K'⟨v,a1,a2,a3⟩=>⟨a3,v,a1,a2⟩)) ?_;rintro e Kb ⟨Sb,lb,hb,iv,rfl,hiv⟩;obtain⟨ib,ic,rfl⟩:=hiv.sl;refine⟨_,[.slice ib (z12 x bk (r:Int) (toR l p x)).length ic],rfl,rfl,rfl,z01,?_⟩;simp only[cns];generalize hI:z12 x bk (r:Int) (toR l p x)=I at *;refine⟨fun n vs K=>∃(j:Nat)(w:Value)(S3:PH),j+n=I.length∧vs=[w,nI j]∧PH.le Sb S3∧Held S3 K [orow 121 ((Z.take k).flatMap (partC l p)++(I.take j).map z3g) w],⟨I.length,0,u,Sb,om,rfl,wx _,by simpa using hb⟩,?_⟩;rintro n2 vs Kc _ ⟨j,w,S3,hjn,rfl,lc,hc⟩;simp only[cns];refine⟨fun g5=>?_,fun g5=>?_⟩
  .simp only[wy,arI,zdt]at g5;obtain⟨y,hy⟩:∃y,I[j]?=some y:=⟨_,zge om⟩;obtain⟨m1,_,mcs,m2,m3⟩:=(hiv.le (ww lc hc.sh)).get hy;obtain⟨rfl,my⟩:=insR_iff.1 m2;have hty:(I.take (j+1)).map z3g=(I.take j).map z3g++[z3g y]:=by rw[q9,hy];simp
   have w3:IntKind.i64.wrap ((j:Int)+1)=((j+1:Nat):Int):=by rw[w64 om om];rfl
   refine⟨fun _=>?_,insV y,rfl,by simp only[wy,arI];exact m3,?_⟩
   .simp only[Chk.holds,wy,arI];exact⟨m1,om,om⟩
   simp only[cns];refine z02 (qb 92) (hc.gives (zde y S3 my)) ?_;rintro e Kd ⟨rfl,hd,ld⟩;refine⟨_,[.int .u32 ((encR y).getD 0),vi (encE (encR y))],rfl,rfl,rfl,z01,?_⟩;simp only[cns];have hlen:((Z.take k).flatMap (partC l p)++(I.take j).map z3g).length≤4*l.length:=by
    rw[zla,zlm,List.length_take];omega
   refine z0t (b:=4) (more:=[z3g y]) [.int .u32 ((encR y).getD 0)] uU32s Zca rfl dC dC hd kr (.cons (csW (Zm8 y)) .nil) z01 (fun w=>kr) (fun w=>kr)
    (by simp only[maxLen,List.length_singleton];omega) (by simp only[List.length_singleton];omega) fun w6 v6 S6 K6 l6 h6=>⟨z01,?_⟩
   refine⟨_,z00,n2-1,om,j+1,v6,S6,om,by simp only[wy,arI,w3],ww lc l6,?_⟩;rw[hty,←zaa];exact h6
  .simp only[wy,arI,zdf]at g5;rw[ztl (l:=I) om,←htz]at hc;refine⟨_,z1f dC |>.trans z00,n-1,om,k+1,w,S3,om,by simp only[wy,arI,w2],ww l8 (ww lb lc),?_,hc⟩;rw[htz,zla,zlm];omega
 .simp only[wy,arI,zdf]at g4;have hk:k=l.length:=om;subst hk;have hcode:(Z.take l.length).flatMap (partC l p)=codeR l long p:=by
   rw[ztl om,hZ];rfl
  rw[hcode]at h8;obtain⟨S',s1,s2,s3⟩:=h8.freeze;have hcut:=(hpv.le (ww l8 (ww s2 s3.sh))).cut (a:=0) (b:=l.length) om om;rw[List.drop_zero]at hcut;have hle:PH.le S K8:=ww l5 (ww l6 (ww l8 (ww s2 s3.sh)));refine⟨fun _=>?_,u,slsV (.slice pb (l.length+1) pc) 0 (l.length:Int) 1,?_,s1.le s3.sh,?_,hle⟩
  .simp only[Chk.holds,wy,arI,slCap];omega
  .simp[wy,arI,partV,qp,if_false,if_true,List.headD_cons,errA]
  .show SlR K8 (plI (p.take l.length)) _;rw[show plI (p.take l.length)=(plI p).take l.length by simp[plI,List.map_take]];exact hcut
structure AsmOk(l:List ItemR)(code:List W32):Prop where
 may:l.all mayR=true
 few:l.length≤65536
 code:code=codeR l (longR l) (z0f 0 l (longR l))
 there:∀x∈l,z0z x=true→(findR l x.label).isSome=true
def plD(l:List ItemR)(i:Nat):Nat:=(z0f 0 l (longR l)).getD i 0
theorem Zcj:∀(l seen:List ItemR),badR seen l≠1→badR seen l≠2→l.all mayR=true
 | [],_,_,_=>rfl
 |x::l,seen,h1,h2=>by
  rw[badR]at h1 h2;by_cases hm:mayR x=false
  .rw[qj hm]at h1;exact absurd rfl h1
  rw[qc hm]at h1 h2;by_cases hk:x.kind=1∧(findR seen x.label).isSome=true
  .rw[qj hk]at h2;exact absurd rfl h2
  rw[qc hk]at h1 h2;rw[List.all_cons,Zcj l _ h1 h2,Bool.and_true];cases e:mayR x with
  |true=>rfl
  |false=>exact absurd e hm
theorem Z66{l:List ItemR}(h:errA (asmR l)=0):AsmOk l (codeA (asmR l)):=by
 unfold asmR at h⊢;by_cases g1:65536<l.length
 .rw[qj g1]at h;cases h
 rw[qc g1]at h⊢;by_cases g2:badR [] l=1
 .rw[qj g2]at h;cases h
 rw[qc g2]at h⊢;by_cases g3:badR [] l=2
 .rw[qj g3]at h;cases h
 rw[qc g3]at h⊢;by_cases g4:l.any (fun x=>z0z x&&(findR l x.label).isNone)=true
 .rw[qj g4]at h;cases h
 rw[qc g4];refine⟨Zcj l [] g2 g3,om,rfl,fun x hx hn=>?_⟩;cases e:findR l x.label with
 |some j=>rfl
 |none=>exact absurd (wl.2 ⟨x,hx,by rw[hn,e];rfl⟩) g4
theorem Zb3{code:List W32}:∀(b:List InsR)(pre post:List W32)(pc:Nat),code=pre++b.map z3g++post→pre.length=pc→(∀y∈b,(encR y).isSome=true)→AtI code pc b
 | [],_,_,_,_,_,_=>trivial
 |x::b,pre,post,pc,e,hp,h=>by
  have hl:pc<code.length:=by rw[e];simp;omega
  refine⟨hl,?_,?_⟩
  .have:code.getD pc ⟨0⟩=z3g x:=by
    rw[e,←hp];simp
   rw[this];exact Zls (h x (zms))
  .exact Zb3 b (pre++[z3g x]) post (pc+1) (by rw[e];simp) (by simp[hp]) fun y hy=>h y (zmm _ hy)
section
variable {l:List ItemR}{code:List W32}
theorem AsmOk.le(h:AsmOk l code)(i:Nat):plD l i≤262144:=by
 unfold plD;have hl:=Z1p l;rcases Nat.lt_or_ge i (z0f 0 l (longR l)).length with g|g
 .have:=zkn l (longR l) 0 ((z0f 0 l (longR l)).getD i 0) (by rw[zgd,zge g];exact List.getElem_mem g);have:=h.few;omega
 .rw[zgd,wu g];exact Nat.zero_le _
theorem AsmOk.to(h:AsmOk l code){x:ItemR}(hx:x∈l)(hn:z0z x=true):∃j,findR l x.label=some j∧toR l (z0f 0 l (longR l)) x=(plD l j:Int):=by
 obtain⟨j,hj⟩:=qH.1 (h.there x hx hn);refine⟨j,hj,?_⟩;unfold toR plD;rw[qj hn,hj];rfl
theorem AsmOk.at(h:AsmOk l code){i:Nat}{x:ItemR}(hx:l[i]?=some x):∃b,(b=false→x.kind=2→-512≤toR l (z0f 0 l (longR l)) x-(plD l i:Int)∧toR l (z0f 0 l (longR l)) x-(plD l i:Int)≤511)∧plD l (i+1)=plD l i+sizeR x b∧AtI code (plD l i) (z12 x b (plD l i:Int) (toR l (z0f 0 l (longR l)) x)):=by
 have hl:=Z1p l;have hi:i<l.length:=(zgi.1 hx).1;obtain⟨b,hb⟩:∃b,(longR l)[i]?=some b:=⟨_,zge om⟩;have hxm:x∈l:=zmg hx;have hmx:mayR x=true:=zat.1 h.may x hxm;obtain⟨pre,post,e,hp⟩:=Z8b (T:=toR l (z0f 0 l (longR l))) l (longR l) 0 0 (z0f 0 l (longR l)) h.may hl (fun j=>by rw[wo]) i hx hb;rw[wo]at e hp;have hfar:b=false→x.kind=2→-512≤toR l (z0f 0 l (longR l)) x-(plD l i:Int)∧toR l (z0f 0 l (longR l)) x-(plD l i:Int)≤511:=by
  rintro rfl hk;cases hf:farR l (z0f 0 l (longR l)) i x with
  |true=>cases Zi0 hx hb hf
  |false=>
   unfold farR at hf;rw[hk,qX rfl,Bool.true_and,zof]at hf;have f1:=of_decide_eq_false hf.1;have f2:=of_decide_eq_false hf.2;unfold plD;omega
 have ht:0≤toR l (z0f 0 l (longR l)) x∧toR l (z0f 0 l (longR l)) x≤500000:=by
  cases hn:z0z x with
  |true=>
   obtain⟨j,_,hj⟩:=h.to hxm hn;have:=h.le j;rw[hj];omega
  |false=>
   unfold toR;rw[qc (by rw[hn];decide)];decide
 have hle:=h.le i;refine⟨b,hfar,zs8 l (longR l) 0 i hx hb,?_⟩;exact Zb3 _ pre post _ (by rw[h.code];exact e) hp (Z8q hmx om ht hfar)
end
def ToK(code:List W32)(k:Nat)(m m':MaR):Prop:=∀j,goR code (j+k) m=goR code j m'
def ToM(code:List W32)(n:Nat)(m m':MaR):Prop:=∃k,k≤4*n∧ToK code k m m'
theorem ToK.refl(code:List W32)(m:MaR):ToK code 0 m m:=fun _=>rfl
theorem ToK.trans{code:List W32}{a b c:MaR}{i j:Nat}(h:ToK code i a b)(g:ToK code j b c):ToK code (j+i) a c:=fun n=>by rw[←Nat.add_assoc,h,g]
theorem ToK.one{code:List W32}{m m':MaR}{pc:Nat}{x:InsR}{is:List InsR}(hp:m.pc=(pc:Int))(h:AtI code pc (x::is))(hs:stR m x=(6,m')):ToK code 1 m m':=fun j=>by
 rw[goR,qc (by have:=h.1;omega),show m.pc.toNat=pc by omega,h.2.1];simp only[hs,if_true]
theorem ToK.m{code:List W32}{m m':MaR}{k:Nat}(h:ToK code k m m')(hk:k≤4):ToM code 1 m m':=⟨k,om,h⟩
theorem ToM.refl(code:List W32)(m:MaR):ToM code 0 m m:=⟨0,om,.refl code m⟩
theorem ToM.trans{code:List W32}{a b c:MaR}{i j:Nat}(h:ToM code i a b)(g:ToM code j b c):ToM code (i+j) a c:=by
 obtain⟨k,k1,hk⟩:=h;obtain⟨n,n1,hn⟩:=g;exact⟨n+k,om,hk.trans hn⟩
section
variable {l:List ItemR}{code:List W32}{m:MaR}{i:Nat}{x:ItemR}
theorem zq2(h:AsmOk l code)(hx:l[i]?=some x)(hk:x.kind=0)(hp:m.pc=(plD l i:Int)){m':MaR}(hs:stR m x.x=(6,m')):ToM code 1 m m'∧plD l (i+1)=plD l i+1:=by
 obtain⟨b,_,hn,ha⟩:=h.at hx;unfold z12 at ha;rw[qj hk]at ha;refine⟨(ToK.one hp ha hs).m dC,?_⟩;rw[hn];unfold sizeR;simp[hk]
theorem Zk6(h:AsmOk l code)(hx:l[i]?=some x)(hk:x.kind=1):plD l (i+1)=plD l i:=by
 obtain⟨b,_,hn,_⟩:=h.at hx;rw[hn];unfold sizeR;simp[hk]
theorem Zic(h:AsmOk l code)(hx:l[i]?=some x)(hk:x.kind=3)(hp:m.pc=(plD l i:Int)){j:Nat}(hj:findR l x.label=some j):ToM code 1 m (m.put x.x.a (plD l (i+1):Int) (plD l j:Int)):=by
 obtain⟨b,_,hn,ha⟩:=h.at hx;have hn1:plD l (i+1)=plD l i+1:=by rw[hn];unfold sizeR;simp[hk]
 obtain⟨j',hj',ht⟩:=h.to (zmg hx) (by unfold z0z;simp[hk]);obtain rfl:j=j':=qW (hj.symm.trans hj');unfold z12 at ha;rw[qc om,qc om,qj hk,ht]at ha;refine(ToK.one hp ha ?_).m dC;have e1:m.pc+1=(plD l (i+1):Int):=by rw[hp,hn1];rfl
 have e2:m.pc+((plD l j:Int)-(plD l i:Int))=(plD l j:Int):=om;simp[stR,e1,e2]
theorem AtI.tail{pc:Nat}{x:InsR}{is:List InsR}(h:AtI code pc (x::is)):AtI code (pc+1) is:=h.2.2
theorem Zbg(h:AsmOk l code)(hx:l[i]?=some x)(hk:x.kind=2)(hp:m.pc=(plD l i:Int)){j:Nat}(hj:findR l x.label=some j):∃s,ToM code 1 m { m with pc:=if z3j x.x.op (m.reg x.x.a) (m.reg x.x.b)=true then(plD l j:Int)else(plD l (i+1):Int),steps:=s }:=by
 obtain⟨b,_,hn,ha⟩:=h.at hx;have hm:mayR x=true:=zat.1 h.may x (zmg hx);obtain⟨j',hj',ht⟩:=h.to (zmg hx) (by unfold z0z;simp[hk]);obtain rfl:j=j':=qW (hj.symm.trans hj');have hop:24≤x.x.op∧x.x.op≤27:=by
  unfold mayR at hm;simp only[hk]at hm;simp at hm;omega
 unfold z12 at ha;rw[qc om,qj hk,ht]at ha;cases b with
 |false=>
  have hn1:plD l (i+1)=plD l i+1:=by rw[hn];unfold sizeR;simp[hk]
  rw[qc dC]at ha;refine⟨m.steps+1,(ToK.one hp ha ?_).m dC⟩;have e1:m.pc+1=(plD l (i+1):Int):=by rw[hp,hn1];rfl
  have e2:m.pc+((plD l j:Int)-(plD l i:Int))=(plD l j:Int):=om;rcases(by omega:x.x.op=24∨x.x.op=25∨x.x.op=26∨x.x.op=27)with e|e|e|e<;>simp[stR,e,e1,e2,MaR.goes]
 |true=>
  have hn1:plD l (i+1)=plD l i+2:=by rw[hn];unfold sizeR;simp[hk]
  rw[qj rfl]at ha;have e1:m.pc+2=(plD l (i+1):Int):=by rw[hp,hn1];rfl
  have htk:z3j (z3r x.x.op) (m.reg x.x.a) (m.reg x.x.b)=!z3j x.x.op (m.reg x.x.a) (m.reg x.x.b):=by
   rcases(by omega:x.x.op=24∨x.x.op=25∨x.x.op=26∨x.x.op=27)with e|e|e|e<;>simp[z3j,z3r,e,←Int.not_lt]
  have hst:stR m ⟨z3r x.x.op,x.x.a,x.x.b,0,2⟩=(6,m.goes (if z3j (z3r x.x.op) (m.reg x.x.a) (m.reg x.x.b)=true then m.pc+2 else m.pc+1)):=by
   rcases(by omega:x.x.op=24∨x.x.op=25∨x.x.op=26∨x.x.op=27)with e|e|e|e<;>simp[stR,z3r,e]
  cases hc:z3j x.x.op (m.reg x.x.a) (m.reg x.x.b)with
  |false=>
   rw[htk,hc,qj dC,e1]at hst;exact⟨m.steps+1,(ToK.one hp ha hst).m dC⟩
  |true=>
   rw[htk,hc,qc dC]at hst;refine⟨m.steps+1+1,((ToK.one hp ha hst).trans (.one (pc:=plD l i+1) (by show m.pc+1=_;rw[hp];rfl) ha.tail ?_)).m dC⟩;have e2:m.pc+1+((plD l j:Int)-(plD l i:Int)-1)=(plD l j:Int):=om;simp[stR,MaR.goes,MaR.put,e2]
theorem Znt{a b:Int}(ha:-140737488355328≤a∧a≤140737488355327)(hb:0≤b∧b≤65535):arI .or .i64 (arI .mul .i64 a 65536) b=a*65536+b:=by
 have h1:arI .mul .i64 a 65536=a*65536:=w64 om om;rw[h1];obtain⟨v,hv⟩:∃v:Nat,((a*65536)%18446744073709551616).toNat=65536*v:=⟨((a*65536)%18446744073709551616).toNat/65536,om⟩;have h2:(BitVec.ofInt 64 (a*65536)).toNat=65536*v:=by rw[BitVec.toNat_ofInt,←hv];rfl
 obtain⟨c,rfl⟩:∃c:Nat,b=c:=⟨b.toNat,om⟩;have h3:(BitVec.ofInt 64 (c:Int)).toNat=c:=by
  rw[BitVec.ofInt_natCast,BitVec.toNat_ofNat,Nat.mod_eq_of_lt om]
 show IntKind.i64.wrap ((BitVec.ofInt 64 (a*65536) ||| BitVec.ofInt 64 (c:Int)).toNat:Int)=_;rw[BitVec.toNat_or,h2,h3,show 65536*v=2^16*v from rfl,←Nat.two_pow_add_eq_or_of_lt om v];simp only[IntKind.wrap,IntKind.bits,IntKind.signed];simp;omega
theorem ztd(n:Int):shrR n 0=n∧shrR n 16=n/65536∧shrR n 32=n/4294967296∧shrR n 48=n/281474976710656:=by
 unfold shrR;exact⟨by rw[show(2:Int)^0=1 from rfl];exact Int.fdiv_one n,Int.fdiv_eq_ediv_of_nonneg _ dC,Int.fdiv_eq_ediv_of_nonneg _ dC,Int.fdiv_eq_ediv_of_nonneg _ dC⟩
theorem Zia{n:Int}(hn:InI n){k:Nat}(hk:k≤2):shrR n (16*k)=shrR n (16*(k+1))*65536+shrR n (16*k)%65536∧(-140737488355328≤shrR n (16*(k+1))∧shrR n (16*(k+1))≤140737488355327):=by
 obtain⟨h0,h1,h2,h3⟩:=ztd n;unfold InI at hn;rcases(by omega:k=0∨k=1∨k=2)with rfl|rfl|rfl
 .rw[show 16*0=0 from rfl,show 16*(0+1)=16 from rfl,h0,h1];omega
 .rw[show 16*1=16 from rfl,show 16*(1+1)=32 from rfl,h1,h2];omega
 .rw[show 16*2=32 from rfl,show 16*(2+1)=48 from rfl,h2,h3];omega
theorem zt9{m:MaR}{r v to:Int}(hl:m.regs.length=32)(h0:0<r)(h1:r≤31):(m.put r v to).reg r=v:=by
 unfold MaR.put MaR.reg;rw[qc om];simp[zgd,hl,show r.toNat<32 by omega]
theorem Zaz{m:MaR}{r v w to to':Int}(h0:0<r):∃s,(m.put r v to).put r w to'={ m.put r w to' with steps:=s }:=by
 refine⟨m.steps+1+1,?_⟩;unfold MaR.put;rw[qc om,qc om];simp;intro e;omega
theorem Z5r{n r:Int}(hn:InI n)(h0:0<r)(h1:r≤31):∀(j:Nat),j≤3→∀(m:MaR)(pc:Nat),m.regs.length=32→m.pc=(pc:Int)→m.reg r=shrR n (16*j)→AtI code pc (restR r n j)→m.regs=m.regs.set r.toNat (m.reg r)→∃s,ToK code j m { m.put r n ((pc+j:Nat):Int)with steps:=s }
 |0,_,m,pc,hl,hp,hr,_,hs=>by
  refine⟨m.steps,?_⟩;have:({ m.put r n ((pc+0:Nat):Int)with steps:=m.steps }:MaR)=m:=by
   have e:m.reg r=n:=by rw[hr];exact(ztd n).1
   unfold MaR.put;rw[qc om];rw[e]at hs;simp only[Nat.add_zero,←hs,←hp]
  rw[this];exact .refl _ _
 |j+1,hj,m,pc,hl,hp,hr,ha,hs=>by
  obtain⟨k1,k2⟩:=Zia hn (k:=j) om;rw[restR]at ha;have hst:stR m ⟨21,r,0,0,shrR n (16*j)%65536⟩=(6,m.put r (shrR n (16*j)) (m.pc+1)):=by
   have:arI .or .i64 (arI .mul .i64 (m.reg r) 65536) (shrR n (16*j)%65536)=shrR n (16*j):=by
    rw[hr,Znt k2 om];exact k1.symm
   simp[stR,this]
  have hl':(m.put r (shrR n (16*j)) (m.pc+1)).regs.length=32:=by
   unfold MaR.put;rw[qc om];simp[hl]
  have hr':=zt9 (m:=m) (v:=shrR n (16*j)) (to:=m.pc+1) hl h0 h1;obtain ⟨s,hs⟩:=Z5r hn h0 h1 j om (m.put r (shrR n (16 * j)) (m.pc+1)) (pc+1) hl' (by show m.pc+1=_;rw [hp];rfl) hr' ha.tail (by
   rw[hr'];unfold MaR.put;rw[qc om];simp)
  obtain⟨s2,hs2⟩:=Zaz (m:=m) (r:=r) (v:=shrR n (16*j)) (w:=n) (to:=m.pc+1) (to':=((pc+1+j:Nat):Int)) h0;rw[hs2]at hs;exact⟨s,(ToK.one hp ha hst).trans (by rw[show pc+(j+1)=pc+1+j by omega];exact hs)⟩
theorem Zbq{n r:Int}(hn:InI n)(h0:0<r)(h1:r≤31)(k:Nat)(hk:k≤3)(hf:-32768≤shrR n (16*k)∧shrR n (16*k)≤32767){pc:Nat}(hl:m.regs.length=32)(hp:m.pc=(pc:Int))(ha:AtI code pc (numR r n (k+1))):∃s,ToK code (k+1) m { m.put r n ((pc+(k+1):Nat):Int)with steps:=s }:=by
 unfold numR at ha;rw[Nat.add_sub_cancel,show(shrR n (16*k)+32768)%65536-32768=shrR n (16*k) by omega]at ha;have hst:stR m ⟨20,r,0,0,shrR n (16*k)⟩=(6,m.put r (shrR n (16*k)) (m.pc+1)):=by simp[stR]
 have hl':(m.put r (shrR n (16*k)) (m.pc+1)).regs.length=32:=by
  unfold MaR.put;rw[qc om];simp[hl]
 have hr':=zt9 (m:=m) (v:=shrR n (16*k)) (to:=m.pc+1) hl h0 h1;obtain ⟨s,hs⟩:=Z5r hn h0 h1 k hk (m.put r (shrR n (16 * k)) (m.pc+1)) (pc+1) hl' (by show m.pc+1=_;rw [hp];rfl) hr' ha.tail (by
  rw[hr'];unfold MaR.put;rw[qc om];simp)
 obtain⟨s2,hs2⟩:=Zaz (m:=m) (r:=r) (v:=shrR n (16*k)) (w:=n) (to:=m.pc+1) (to':=((pc+1+k:Nat):Int)) h0;rw[hs2]at hs;exact⟨s,(ToK.one hp ha hst).trans (by rw[show pc+(k+1)=pc+1+k by omega];exact hs)⟩
theorem Zdd{n:Int}(hn:InI n):∃k,z1u n=k+1∧k≤3∧-32768≤shrR n (16*k)∧shrR n (16*k)≤32767:=by
 obtain⟨h0,h1,h2,h3⟩:=ztd n;unfold InI at hn;unfold z1u;split
 .rename_i g;exact⟨0,rfl,om,by rw[show 16*0=0 from rfl,h0];exact g⟩
 split
 .rename_i g;exact⟨1,rfl,om,g⟩
 split
 .rename_i g;exact⟨2,rfl,om,g⟩
 .exact⟨3,rfl,om,by rw[show 16*3=48 from rfl,h3];omega⟩
theorem Z8m(h:AsmOk l code)(hx:l[i]?=some x)(hk:x.kind=4)(hp:m.pc=(plD l i:Int))(hl:m.regs.length=32)(hn:InI x.n)(h0:0<x.x.a)(h1:x.x.a≤31):∃s,ToM code 1 m { m.put x.x.a x.n (plD l (i+1):Int)with steps:=s }:=by
 obtain⟨b,_,hnx,ha⟩:=h.at hx;obtain⟨k,hk1,hk2,hk3⟩:=Zdd hn;unfold z12 at ha;rw[qc om,qc om,qc om,qj hk,hk1]at ha;have hn1:plD l (i+1)=plD l i+(k+1):=by rw[hnx];unfold sizeR;simp[hk,hk1]
 rw[hn1];obtain⟨s,hs⟩:=Zbq hn h0 h1 k hk2 hk3 hl hp ha;exact⟨s,hs.m om⟩
theorem Zje(h:AsmOk l code)(hx:l[i]?=some x)(hk:x.kind=5)(hp:m.pc=(plD l i:Int))(hl:m.regs.length=32)(h0:0<x.x.a)(h1:x.x.a≤31){j:Nat}(hj:findR l x.label=some j):∃s,ToM code 1 m { m.put x.x.a (plD l j:Int) (plD l (i+1):Int)with steps:=s }:=by
 obtain⟨b,_,hnx,ha⟩:=h.at hx;obtain⟨j',hj',ht⟩:=h.to (zmg hx) (by unfold z0z;simp[hk]);obtain rfl:j=j':=qW (hj.symm.trans hj');have hle:=h.le j;unfold z12 at ha;rw[qc om,qc om,qc om,qc om,qj hk,ht]at ha;have hn1:plD l (i+1)=plD l i+(1+1):=by rw[hnx];unfold sizeR;simp[hk]
 rw[hn1];obtain⟨s,hs⟩:=Zbq (n:=(plD l j:Int)) (by unfold InI;omega) h0 h1 1 dC (by rw[show 16*1=16 from rfl,(ztd _).2.1];omega) hl hp ha;exact⟨s,hs.m dC⟩
end
theorem Z0t(b:BitVec 64):BitVec.ofInt 64 (IntKind.i64.wrap (b.toNat:Int))=b:=by
 have hb:=b.isLt;apply BitVec.eq_of_toNat_eq;rw[BitVec.toNat_ofInt];simp only[IntKind.wrap,IntKind.bits,IntKind.signed];simp;omega
theorem bv8(z:Int):(BitVec.ofInt 64 (8*z)).toNat%8=0:=by
 rw[BitVec.toNat_ofInt];omega
theorem Z7u(a b:Int):arI .and .i64 (arI .or .i64 (8*a) (8*b)) 7=0:=by
 show IntKind.i64.wrap (BitVec.ofInt 64 (IntKind.i64.wrap ((BitVec.ofInt 64 (8*a) ||| BitVec.ofInt 64 (8*b)).toNat:Int)) &&& BitVec.ofInt 64 7).toNat=0;rw[Z0t,BitVec.toNat_and,BitVec.toNat_or,show(BitVec.ofInt 64 7).toNat=2^3-1 from rfl,Nat.and_two_pow_sub_one_eq_mod,Nat.or_mod_two_pow];have h1:=bv8 a;have h2:=bv8 b;rw[show(2:Nat)^3=8 from rfl,h1,h2];rfl
theorem Zmk{c v:Int}(h:-1152921504606846976≤c*v∧c*v≤1152921504606846975):mulhR c v=arI .shr .i64 (c*v) 63:=by
 show(c*v).fdiv (2^64)=(c*v).fdiv (2^(min (63:Int).toNat 64));rw[show min (63:Int).toNat 64=63 from rfl,Int.fdiv_eq_ediv_of_nonneg _ dC,Int.fdiv_eq_ediv_of_nonneg _ dC];omega
theorem Z4l{x:Int}(h:InI x):(BitVec.ofInt 64 x).msb=decide (x<0):=by
 unfold InI at h;rw[BitVec.msb_eq_toInt,BitVec.toInt_ofInt];congr 1;rw[Int.bmod_eq_of_le om om]
theorem Zli{a b:Int}(ha:InI a)(hb:InI b)(hs:InI (a+b)):¬arI .and .i64 (arI .xor .i64 (a+b) a) (arI .xor .i64 (a+b) b)<0:=by
 show ¬IntKind.i64.wrap (BitVec.ofInt 64 (IntKind.i64.wrap ((BitVec.ofInt 64 (a+b) ^^^ BitVec.ofInt 64 a).toNat:Int)) &&& BitVec.ofInt 64 (IntKind.i64.wrap ((BitVec.ofInt 64 (a+b) ^^^ BitVec.ofInt 64 b).toNat:Int))).toNat<0;rw[Z0t,Z0t];generalize hz:(BitVec.ofInt 64 (a+b) ^^^ BitVec.ofInt 64 a) &&& (BitVec.ofInt 64 (a+b) ^^^ BitVec.ofInt 64 b)=z;have hm:z.msb=false:=by
  rw[←hz,BitVec.msb_and,BitVec.msb_xor,BitVec.msb_xor,Z4l ha,Z4l hb,Z4l hs];by_cases h1:a<0<;>by_cases h2:b<0<;>by_cases h3:a+b<0<;>simp[h1,h2,h3]<;>omega
 have hl:z.toNat<2^63:=by
  rw[BitVec.msb_eq_decide]at hm;simpa using hm
 simp only[IntKind.wrap,IntKind.bits,IntKind.signed];simp;omega
structure AtS(l:List ItemR)(m:MaR)(i:Nat):Prop where
 pc:m.pc=(plD l i:Int)
 rl:m.regs.length=32
theorem Zhx{m:MaR}{a v to r:Int}(h0:0≤r)(ha:0≤a)(h:r≠a):(m.put a v to).reg r=m.reg r:=by
 unfold MaR.put MaR.reg;by_cases e:a=0
 .rw[qj e]
 .rw[qc e];simp[zgd,List.getElem?_set_ne (show a.toNat≠r.toNat by omega)]
theorem Zaw{m:MaR}{a v to:Int}(h:m.regs.length=32):(m.put a v to).regs.length=32:=by
 unfold MaR.put;split<;>simp[h]
section
variable {l:List ItemR}{code:List W32}{m:MaR}{i:Nat}
structure Fills(code:List W32)(l:List ItemR)(m m':MaR)(i:Nat)(a v:Int):Prop where
 to:ToM code 1 m m'
 at_:AtS l m' (i+1)
 mem:m'.mem=m.mem
 new:m'.reg a=v
 old:∀r,0≤r→r≠a→m'.reg r=m.reg r
theorem i_put(h:AsmOk l code)(hm:AtS l m i){y:InsR}(hx:l[i]?=some ⟨0,y,0,0⟩){a:Int}(ha:y.a=a)(a0:0<a)(a1:a≤31){v:Int}(hs:stR m y=(6,m.put y.a v (m.pc+1))):∃m',Fills code l m m' i a v:=by
 subst ha;obtain⟨h1,h2⟩:=zq2 h hx rfl hm.pc hs;refine⟨_,h1,⟨?_,Zaw hm.rl⟩,rfl,zt9 hm.rl a0 a1,fun r h0 hr=>Zhx h0 om hr⟩;show m.pc+1=_;rw[hm.pc,h2];rfl
theorem zwl(h:AsmOk l code)(hm:AtS l m i){x:ItemR}(hx:l[i]?=some x)(hk:x.kind=2)(ht:z3j x.x.op (m.reg x.x.a) (m.reg x.x.b)=false):∃m',ToM code 1 m m'∧AtS l m' (i+1)∧m'.mem=m.mem∧∀r,m'.reg r=m.reg r:=by
 obtain⟨j,hj,_⟩:=h.to (zmg hx) (by unfold z0z;simp[hk]);obtain⟨s,hs⟩:=Zbg h hx hk hm.pc hj;rw[ht,qc dC]at hs;exact⟨_,hs,⟨rfl,hm.rl⟩,rfl,fun _=>rfl⟩
end
def rndL (B:Int):List ItemR:=[⟨0,⟨8,28,1,B,0⟩,0,0⟩,⟨0,⟨16,28,28,0,7⟩,0,0⟩,⟨2,⟨25,28,0,0,0⟩,11,0⟩,⟨0,⟨19,28,1,0,3⟩,0,0⟩,⟨0,⟨4,31,28,B,0⟩,0,0⟩,⟨0,⟨3,26,28,B,0⟩,0,0⟩,⟨0,⟨19,28,26,0,63⟩,0,0⟩,⟨2,⟨25,31,28,0,0⟩,12,0⟩,⟨0,⟨15,1,26,0,0⟩,0,0⟩,
 ⟨0,⟨8,28,2,1,0⟩,0,0⟩,⟨0,⟨16,28,28,0,7⟩,0,0⟩,⟨2,⟨25,28,0,0,0⟩,11,0⟩,⟨0,⟨1,28,2,1,0⟩,0,0⟩,⟨0,⟨9,31,28,2,0⟩,0,0⟩,⟨0,⟨9,26,28,1,0⟩,0,0⟩,⟨0,⟨7,31,31,26,0⟩,0,0⟩,⟨2,⟨26,31,0,0,0⟩,12,0⟩,⟨0,⟨15,2,28,0,0⟩,0,0⟩]
theorem Zk4{l:List ItemR}{code:List W32}{m:MaR}{i:Nat}(h:AsmOk l code)(hm:AtS l m i){B c v a:Int}(hl:∀j,j<18→l[i+j]?=(rndL B)[j]?)(hB:3≤B∧B≤27∧B≠26)(r0:m.reg 0=0)(r1:m.reg 1=8*c)(rB:m.reg B=8*v)(r2:m.reg 2=8*a)
  (hc:0≤c∧c≤1000) (hv:-1000000≤v∧v≤1000000) (ha:-1000000000000≤a∧a≤1000000000000) :
  ∃m',ToM code 18 m m'∧AtS l m' (i+18)∧m'.mem=m.mem∧m'.reg 2=8*(a+c*v)∧∀r,0≤r→r≠1→r≠2→r≠26→r≠28→r≠31→m'.reg r=m.reg r:=by
 have hp:-1000000000≤c*v∧c*v≤1000000000:=by
  obtain⟨n,rfl⟩:∃n:Nat,c=n:=⟨c.toNat,om⟩;constructor
  .have:=Int.mul_le_mul_of_nonneg_left hv.1 (show(0:Int)≤n by omega);have:(n:Int) * -1000000 ≥ -1000000000:=om;omega
  .have:=Int.mul_le_mul_of_nonneg_left hv.2 (show(0:Int)≤n by omega);omega
 have e8:c*(8*v)=8*(c*v):=by rw[←Int.mul_assoc,Int.mul_comm c 8,Int.mul_assoc]
 generalize hpp:c*v=p at hp e8;obtain⟨m0,f0⟩:=i_put h hm (hl 0 dC) (a:=28) rfl dC dC (v:=arI .or .i64 (8*c) (8*v)) (by simp[stR,thrR,r1,rB]);obtain⟨m1,f1⟩:=i_put h f0.at_ (hl 1 dC) (a:=28) rfl dC dC (v:=0) (by simp[stR,f0.new,Z7u]);obtain ⟨m2,t2,a2,k2,g2⟩:=zwl h f1.at_ (hl 2 dC) rfl (by
  have e1:=f1.new;have e2:=(f1.old 0 dC dC).trans ((f0.old 0 dC dC).trans r0);simp[z3j,e1,e2])
 have b1:m2.reg 1=8*c:=(g2 1).trans ((f1.old 1 dC dC).trans ((f0.old 1 dC dC).trans r1));have bB:m2.reg B=8*v:=(g2 B).trans ((f1.old B om (by show B≠28;omega)).trans ((f0.old B om (by show B≠28;omega)).trans rB));have b2:m2.reg 2=8*a:=(g2 2).trans ((f1.old 2 dC dC).trans ((f0.old 2 dC dC).trans r2));have b0:m2.reg 0=0:=(g2 0).trans ((f1.old 0 dC dC).trans ((f0.old 0 dC dC).trans r0));have hs3:arI .shr .i64 (8*c) 3=c:=by
  show(8*c).fdiv (2^3)=c;rw[Int.fdiv_eq_ediv_of_nonneg _ dC];omega
 obtain⟨m3,f3⟩:=i_put h a2 (hl 3 dC) (a:=28) rfl dC dC (v:=c) (by simp[stR,b1,hs3]);have d28:m3.reg 28=c:=f3.new;have dB:m3.reg B=8*v:=(f3.old B om (by show B≠28;omega)).trans bB;obtain ⟨m4,f4⟩:=i_put h f3.at_ (hl 4 dC) (a:=31) rfl dC dC (v:=arI .shr .i64 (8 * p) 63) (by
  have:=Zmk (c:=c) (v:=8*v) om;rw[e8]at this;simp[stR,thrR,d28,dB,this])
 have q28:m4.reg 28=c:=(f4.old 28 dC dC).trans d28;have qB:m4.reg B=8*v:=(f4.old B om (by show B≠31;omega)).trans dB;obtain ⟨m5,f5⟩:=i_put h f4.at_ (hl 5 dC) (a:=26) rfl dC dC (v:=8 * p) (by
  have:arI .mul .i64 c (8*v)=8*p:=by
   show IntKind.i64.wrap (c*(8*v))=_;rw[e8];exact w64 om om
  simp[stR,thrR,q28,qB,this])
 have u26:m5.reg 26=8*p:=f5.new;have u31:m5.reg 31=arI .shr .i64 (8*p) 63:=(f5.old 31 dC dC).trans f4.new;obtain⟨m6,f6⟩:=i_put h f5.at_ (hl 6 dC) (a:=28) rfl dC dC (v:=arI .shr .i64 (8*p) 63) (by simp[stR,u26]);obtain ⟨m7,t7,a7,k7,g7⟩:=zwl h f6.at_ (hl 7 dC) rfl (by
  have e1:m6.reg 28=arI .shr .i64 (8*p) 63:=f6.new;have e2:m6.reg 31=arI .shr .i64 (8*p) 63:=(f6.old 31 dC dC).trans u31;simp[z3j,e1,e2])
 have c26:m7.reg 26=8*p:=(g7 26).trans ((f6.old 26 dC dC).trans u26);obtain ⟨m8,f8⟩:=i_put h a7 (hl 8 dC) (a:=1) rfl dC dC (v:=8 * p) (by
  have:arI .add .i64 (8*p) 0=8*p:=by
   show IntKind.i64.wrap (8*p+0)=_;rw[Int.add_zero];exact w64 om om
  simp[stR,c26,this])
 have w1:m8.reg 1=8*p:=f8.new;have old8:∀r,0≤r→r≠1→r≠26→r≠28→r≠31→m8.reg r=m.reg r:=fun r h0 n1 n26 n28 n31=>
  (f8.old r h0 n1).trans ((g7 r).trans ((f6.old r h0 n28).trans ((f5.old r h0 n26).trans ((f4.old r h0 n31).trans ((f3.old r h0 n28).trans ((g2 r).trans ((f1.old r h0 n28).trans (f0.old r h0 n28))))))))
 have w2:m8.reg 2=8*a:=(old8 2 dC dC dC dC dC).trans r2;have w0:m8.reg 0=0:=(old8 0 dC dC dC dC dC).trans r0;obtain⟨m9,f9⟩:=i_put h f8.at_ (hl 9 dC) (a:=28) rfl dC dC (v:=arI .or .i64 (8*a) (8*p)) (by simp[stR,thrR,w1,w2]);obtain⟨mA,fA⟩:=i_put h f9.at_ (hl 10 dC) (a:=28) rfl dC dC (v:=0) (by simp[stR,f9.new,Z7u]);obtain ⟨mB,tB,aB,kB,gB⟩:=zwl h fA.at_ (hl 11 dC) rfl (by
  have e1:=fA.new;have e2:=(fA.old 0 dC dC).trans ((f9.old 0 dC dC).trans w0);simp[z3j,e1,e2])
 have x1:mB.reg 1=8*p:=(gB 1).trans ((fA.old 1 dC dC).trans ((f9.old 1 dC dC).trans w1));have x2:mB.reg 2=8*a:=(gB 2).trans ((fA.old 2 dC dC).trans ((f9.old 2 dC dC).trans w2));have x0:mB.reg 0=0:=(gB 0).trans ((fA.old 0 dC dC).trans ((f9.old 0 dC dC).trans w0));have hsum:8*a+8*p=8*(a+p):=om;obtain ⟨mC,fC⟩:=i_put h aB (hl 12 dC) (a:=28) rfl dC dC (v:=8 * (a+p)) (by
  have:arI .add .i64 (8*a) (8*p)=8*(a+p):=by
   show IntKind.i64.wrap (8*a+8*p)=_;rw[hsum];exact w64 om om
  simp[stR,thrR,x1,x2,this])
 have y28:mC.reg 28=8*(a+p):=fC.new;have y2:mC.reg 2=8*a:=(fC.old 2 dC dC).trans x2;have y1:mC.reg 1=8*p:=(fC.old 1 dC dC).trans x1;obtain⟨mD,fD⟩:=i_put h fC.at_ (hl 13 dC) (a:=31) rfl dC dC (v:=arI .xor .i64 (8*(a+p)) (8*a)) (by simp[stR,thrR,y28,y2]);have z28:mD.reg 28=8*(a+p):=(fD.old 28 dC dC).trans y28;have z1:mD.reg 1=8*p:=(fD.old 1 dC dC).trans y1;obtain⟨mE,fE⟩:=i_put h fD.at_ (hl 14 dC) (a:=26) rfl dC dC (v:=arI .xor .i64 (8*(a+p)) (8*p)) (by simp[stR,thrR,z28,z1]);have v31:mE.reg 31=arI .xor .i64 (8*(a+p)) (8*a):=(fE.old 31 dC dC).trans fD.new;have v26:mE.reg 26=arI .xor .i64 (8*(a+p)) (8*p):=fE.new;obtain⟨mF,fF⟩:=i_put h fE.at_ (hl 15 dC) (a:=31) rfl dC dC (v:=arI .and .i64 (arI .xor .i64 (8*(a+p)) (8*a)) (arI .xor .i64 (8*(a+p)) (8*p))) (by simp[stR,thrR,v31,v26]);have old:∀r,0≤r→r≠1→r≠26→r≠28→r≠31→mF.reg r=m.reg r:=fun r h0 n1 n26 n28 n31=>
  (fF.old r h0 n31).trans ((fE.old r h0 n26).trans ((fD.old r h0 n31).trans ((fC.old r h0 n28).trans ((gB r).trans ((fA.old r h0 n28).trans ((f9.old r h0 n28).trans (old8 r h0 n1 n26 n28 n31)))))))
 obtain ⟨mG,tG,aG,kG,gG⟩:=zwl h fF.at_ (hl 16 dC) rfl (by
  have e1:mF.reg 31=arI .and .i64 (arI .xor .i64 (8*(a+p)) (8*a)) (arI .xor .i64 (8*(a+p)) (8*p)):=fF.new;have e2:mF.reg 0=0:=(old 0 dC dC dC dC dC).trans r0;have e3:=Zli (a:=8*a) (b:=8*p) (by unfold InI;omega) (by unfold InI;omega) (by unfold InI;omega);rw[hsum]at e3;simp only[z3j,e1,e2];simp;omega)
 have y28':mG.reg 28=8*(a+p):=(gG 28).trans ((fF.old 28 dC dC).trans ((fE.old 28 dC dC).trans z28));obtain ⟨mH,fH⟩:=i_put h aG (hl 17 dC) (a:=2) rfl dC dC (v:=8 * (a+p)) (by
  have:arI .add .i64 (8*(a+p)) 0=8*(a+p):=by
   show IntKind.i64.wrap (8*(a+p)+0)=_;rw[Int.add_zero];exact w64 om om
  simp[stR,y28',this])
 refine⟨mH,f0.to.trans (f1.to.trans (t2.trans (f3.to.trans (f4.to.trans (f5.to.trans (f6.to.trans (t7.trans (f8.to.trans (f9.to.trans (fA.to.trans (tB.trans (fC.to.trans (fD.to.trans (fE.to.trans (fF.to.trans (tG.trans fH.to)))))))))))))))),fH.at_,?_,fH.new,fun r h0 n1 n2 n26 n28 n31=>(fH.old r h0 n2).trans ((gG r).trans (old r h0 n1 n26 n28 n31))⟩;rw[fH.mem,kG,fF.mem,fE.mem,fD.mem,fC.mem,kB,fA.mem,f9.mem,f8.mem,k7,f6.mem,f5.mem,f4.mem,f3.mem,k2,f1.mem,f0.mem]
inductive DW where
 |lit (n:Int)
 |s (i:Nat)
 |t (i:Nat)
 |adr (j sh:Nat) (c:Int)
 |junk
def sumW(vs:List Int):Nat→Int
 |0=>0
 |i+1=>sumW vs i+((i:Int)+1)*vs.getD i 0
def DenW(l:List ItemR)(vs:List Int):DW→Int→Prop
 | .lit n,v=>v=n
 | .s i,v=>v=8*vs.getD i 0
 | .t i,v=>i≤50∧v=8*sumW vs i
 | .adr j sh c,v=>sh≤20∧0≤c∧c<2^sh∧v=(plD l j:Int)*2^sh+c
 | .junk,_=>True
inductive AIt where
 |it (x:ItemR)
 |num (a i:Nat)
 |rnd (B i:Nat)
 |skip
noncomputable def seqD(v:DW)(k:DW→Bool):Bool:=DW.rec (motive:=fun _=>Bool) (fun n=>seqI n fun n=>k (.lit n)) (fun i=>k (.s i)) (fun i=>k (.t i)) (fun j sh c=>k (.adr j sh c)) (k .junk) v
theorem Zld(v:DW)(k:DW→Bool):seqD v k=k v:=by
 cases v with
 |lit n=>exact Z1a n fun n=>k (.lit n)
 |s i=>rfl
 |t i=>rfl
 |adr j sh c=>rfl
 |junk=>rfl
noncomputable def wrD(rg:Bt DW)(a:Nat)(v:DW)(k:Bt DW→Bool):Bool:=seqD v fun v=>cond (Nat.beq a 0) (k rg) (rg.putK v a k)
noncomputable def wrU(rg:Bt DW)(a:Nat)(v:DW):Bt DW:=if a=0 then rg else rg.put v a
theorem z4z(rg:Bt DW)(a:Nat)(v:DW)(k:Bt DW→Bool):wrD rg a v k=k (wrU rg a v):=by
 unfold wrD wrU;rw[Zld];cases a with
 |zero=>rfl
 |succ n=>rw[qc om];exact Bt.putK_eq v rg (n+1) k
def addD(b:DW)(n:Int):DW:=match b with
 | .lit m=>.lit (arI .add .i64 m n)
 | .adr j sh c=>if 0≤c+n∧c+n<2^sh then .adr j sh (c+n)else .junk
 |b=>if n=0 then b else .junk
def oneD(op:Int)(b:DW)(n:Int):DW:=match b with
 | .lit m=>.lit (aluA op m n)
 | .adr j sh c=>if op=18∧sh=0∧0≤n∧n≤20 then .adr j n.toNat 0 else if op=19∧n=(sh:Int)then .adr j 0 0 else .junk
 |_=>.junk
def twoD(op:Int)(b c:DW):DW:=match b,c with
 | .lit m,.lit n=>.lit (thrR op m n)
 |_,_=>.junk
def litD(w:DW)(k:Int→Bool):Bool:=match w with
 | .lit n=>k n
 |_=>false
def adrD(w:DW)(k:Nat→Bool):Bool:=match w with
 | .adr j sh c=>cond (Nat.beq sh 0) (cond (eqI c 0) (k j) false) false
 |_=>false
def isS(w:DW)(i:Nat):Bool:=match w with
 | .s j=>Nat.beq i j
 |_=>false
def isT(w:DW)(i:Nat):Bool:=match w with
 | .t j=>Nat.beq i j
 | .lit n=>Nat.beq i 0&&eqI n 0
 |_=>false
noncomputable def insD(L:Nat)(y:InsR)(i:Nat)(rg me:Bt DW)(go:Nat→Bt DW→Bt DW→Bool)(halt:Int→Bool):Bool:=
 cond (eqI y.op 0) (litD (rg.get y.a.toNat) halt) <|
 cond (eqI y.op 15) (wrD rg y.a.toNat (addD (rg.get y.b.toNat) y.n) fun rg'=>seqN (Nat.succ i) fun i=>go i rg' me) <|
 cond (or (or (eqI y.op 16) (eqI y.op 17)) (or (eqI y.op 18) (eqI y.op 19))) (wrD rg y.a.toNat (oneD y.op (rg.get y.b.toNat) y.n) fun rg'=>seqN (Nat.succ i) fun i=>go i rg' me) <|
 cond (eqI y.op 22) (litD (rg.get y.b.toNat) fun b=>seqI (arI .add .i64 b y.n) fun q=>and (and (not (ltI q 0)) (ltI q (Int.ofNat L))) (wrD rg y.a.toNat (me.get q.toNat) fun rg'=>seqN (Nat.succ i) fun i=>go i rg' me)) <|
 cond (eqI y.op 23) (litD (rg.get y.b.toNat) fun b=>seqI (arI .add .i64 b y.n) fun q=>and (and (not (ltI q 0)) (ltI q (Int.ofNat L))) (me.putK (rg.get y.a.toNat) q.toNat fun me'=>seqN (Nat.succ i) fun i=>go i rg me')) <|
 cond (eqI y.op 29) (adrD (rg.get y.b.toNat) fun j=>wrD rg y.a.toNat (.adr (Nat.succ i) 0 0) fun rg'=>go j rg' me) <|
 cond (or (or (eqI y.op 1) (eqI y.op 2)) (or (eqI y.op 13) (eqI y.op 14))) (wrD rg y.a.toNat (twoD y.op (rg.get y.b.toNat) (rg.get y.c.toNat)) fun rg'=>seqN (Nat.succ i) fun i=>go i rg' me) false
def regY(y:InsR):Bool:=decide (0≤y.a∧y.a≤31)&&decide (0≤y.b∧y.b≤31)&&decide (0≤y.c∧y.c≤31)
noncomputable def stepD(L:Nat)(fnd:Int→Nat)(A:AIt)(i:Nat)(rg me:Bt DW)(go:Nat→Bt DW→Bt DW→Bool)(halt:Int→Bool):Bool:=
 AIt.rec (motive:=fun _=>Bool)
  (fun x=>and (regY x.x) <|
   cond (eqI x.kind 0) (insD L x.x i rg me go halt) <|
   cond (eqI x.kind 1) (seqN (Nat.succ i) fun i=>go i rg me) <|
   cond (eqI x.kind 2) (litD (rg.get x.x.a.toNat) fun a=>litD (rg.get x.x.b.toNat) fun b=>cond (takA x.x.op a b) (seqN (fnd x.label) fun j=>go j rg me) (seqN (Nat.succ i) fun i=>go i rg me)) <|
   cond (eqI x.kind 3) (wrD rg x.x.a.toNat (.adr (Nat.succ i) 0 0) fun rg'=>seqN (fnd x.label) fun j=>go j rg' me) <|
   cond (eqI x.kind 4) (and (ltI 0 x.x.a) (and (and (not (ltI x.n (-9223372036854775808))) (not (ltI 9223372036854775807 x.n))) (wrD rg x.x.a.toNat (.lit x.n) fun rg'=>seqN (Nat.succ i) fun i=>go i rg' me))) <|
   cond (eqI x.kind 5) (and (ltI 0 x.x.a) (seqN (fnd x.label) fun j=>wrD rg x.x.a.toNat (.adr j 0 0) fun rg'=>seqN (Nat.succ i) fun i=>go i rg' me)) false)
  (fun a j=>wrD rg a (.s j) fun rg'=>seqN (Nat.succ i) fun i=>go i rg' me)
  (fun B j=>and (isS (rg.get B) j) <| and (isT (rg.get 2) j) <| litD (rg.get 1) fun n=>and (eqI n (Int.ofNat (Nat.mul 8 (Nat.succ j)))) <|
   wrD rg 1 .junk fun r1=>wrD r1 2 (.t (Nat.succ j)) fun r2=>wrD r2 26 .junk fun r3=>wrD r3 28 .junk fun r4=>wrD r4 31 .junk fun r5=>seqN (i+18) fun i=>go i r5 me)
  false A
noncomputable def runD(tab:Bt AIt)(N L:Nat)(fnd:Int→Nat)(k:Nat)(fuel:Nat):Nat→Bt DW→Bt DW→Bool:=
 Nat.rec (motive:=fun _=>Nat→Bt DW→Bt DW→Bool) (fun _ _ _=>false) (fun _ ih i rg me=>cond (Nat.ble N i) false<|stepD L fnd (tab.get i) i rg me ih fun v=>and (eqI v 0) (isT (rg.get 1) k)) fuel
structure RD(l:List ItemR)(vs:List Int)(d L:Nat)(m:MaR)(i:Nat)(rg me:Bt DW):Prop where
 at_:AtS l m i
 rf:rg.Full 5
 r0:rg.get 0=.lit 0
 rr:∀r:Nat,r<32→DenW l vs (rg.get r) (m.regs.getD r 0)
 ml:m.mem.length=L
 mf:me.Full d
 mm:∀q:Nat,q<L→DenW l vs (me.get q) (m.mem.getD q 0)
theorem zdb{rg:Bt DW}(h:rg.Full 5){a i:Nat}(ha:a<32)(hi:i<32)(v:DW):(wrU rg a v).get i=if i=a∧a≠0 then v else rg.get i:=by
 unfold wrU;by_cases e:a=0
 .rw[qj e,qc om]
 .rw[qc e,Bt.get_put _ 5 _ _ _ h ha hi];by_cases g:i=a
  .rw[qj g,qj ⟨g,e⟩]
  .rw[qc g,qc om]
theorem z5m{rg:Bt DW}(h:rg.Full 5)(a:Nat)(v:DW):(wrU rg a v).Full 5:=by
 unfold wrU;split
 .exact h
 .exact Bt.full_put _ _ _ _ h
theorem znf{w:DW}{k:Int→Bool}(h:litD w k=true):∃n,w=.lit n∧k n=true:=by
 cases w with
 |lit n=>exact⟨n,rfl,h⟩
 |_=>cases h
theorem Znj{w:DW}{k:Nat→Bool}(h:adrD w k=true):∃j,w=.adr j 0 0∧k j=true:=by
 cases w with
 |adr j sh c=>
  rcases z2n h with⟨h1,h⟩|⟨_,h⟩
  .rcases z2n h with⟨h2,h⟩|⟨_,h⟩
   .obtain rfl:sh=0:=Nat.eq_of_beq_eq_true h1;obtain rfl:=eqI_t h2;exact⟨j,rfl,h⟩
   .cases h
  .cases h
 |_=>cases h
section
variable {l:List ItemR}{vs:List Int}{d L:Nat}{m:MaR}{i:Nat}{rg me:Bt DW}
theorem RD.reg(h:RD l vs d L m i rg me){a:Int}(h0:0≤a)(h1:a≤31):DenW l vs (rg.get a.toNat) (m.reg a):=h.rr _ om
theorem RD.put(h:RD l vs d L m i rg me){a:Int}{v:Int}{w:DW}(hv:DenW l vs w v)(h0:0≤a)(h1:a≤31){j s:Nat}{st:Int}(hs:s=plD l j):RD l vs d L { m.put a v (s:Int)with steps:=st } j (wrU rg a.toNat w) me:=by
 subst hs;refine⟨⟨rfl,Zaw (to:=(plD l j:Int)) h.at_.rl⟩,z5m h.rf _ _,?_,?_,h.ml,h.mf,h.mm⟩
 .rw[zdb h.rf om om,qc om];exact h.r0
 .intro r hr;rw[zdb h.rf om hr];show DenW l vs _ ((m.put a v (plD l j:Int)).regs.getD r 0);by_cases e:r=a.toNat∧a.toNat≠0
  .rw[qj e,e.1];have:(m.put a v (plD l j:Int)).regs.getD a.toNat 0=v:=zt9 h.at_.rl om h1;rw[this];exact hv
  .rw[qc e];have:(m.put a v (plD l j:Int)).regs.getD r 0=m.regs.getD r 0:=by
    unfold MaR.put;by_cases e0:a=0
    .rw[qj e0]
    .rw[qc e0];simp[zgd,List.getElem?_set_ne (show a.toNat≠r by omega)]
   rw[this];exact h.rr r hr
theorem RD.goes(h:RD l vs d L m i rg me){j:Nat}{st:Int}:RD l vs d L { m with pc:=(plD l j:Int),steps:=st } j rg me:=⟨⟨rfl,h.at_.rl⟩,h.rf,h.r0,h.rr,h.ml,h.mf,h.mm⟩
theorem RD.store(h:RD l vs d L m i rg me)(hL:L≤2^d){q v:Int}{w:DW}(hv:DenW l vs w v)(h0:0≤q)(h1:q<L){j:Nat}{p st:Int}(hp:p=(plD l j:Int)):RD l vs d L { m with pc:=p,steps:=st,mem:=m.mem.set q.toNat v } j rg (me.put w q.toNat):=by
 refine⟨⟨hp,h.at_.rl⟩,h.rf,h.r0,h.rr,?_,Bt.full_put _ _ _ _ h.mf,?_⟩
 .show(m.mem.set q.toNat v).length=L;rw[List.length_set];exact h.ml
 .intro r hr;show DenW l vs _ ((m.mem.set q.toNat v).getD r 0);rw[Bt.get_put _ d _ _ _ h.mf om om];by_cases g:r=q.toNat
  .rw[qj g,g];have:(m.mem.set q.toNat v).getD q.toNat 0=v:=by simp[zgd,h.ml,show q.toNat<L by omega]
   rw[this];exact hv
  .rw[qc g];have:(m.mem.set q.toNat v).getD r 0=m.mem.getD r 0:=by simp[zgd,List.getElem?_set_ne (Ne.symm g)]
   rw[this];exact h.mm r hr
end
structure Few(vs:List Int):Prop where
 len:vs.length≤50
 val:∀i,-100000≤vs.getD i 0∧vs.getD i 0≤100000
theorem zgz{vs:List Int}(h:Few vs):∀i:Nat,i≤50→-(5100000*(i:Int))≤sumW vs i∧sumW vs i≤5100000*(i:Int)
 |0,_=>by simp[sumW]
 |i+1,hi=>by
  have ih:=zgz h i om;have hv:=h.val i;have h1:-(5100000:Int)≤((i:Int)+1)*vs.getD i 0∧((i:Int)+1)*vs.getD i 0≤5100000:=by
   have a1:=Int.mul_le_mul_of_nonneg_left hv.1 (show(0:Int)≤(i:Int)+1 by omega);have a2:=Int.mul_le_mul_of_nonneg_left hv.2 (show(0:Int)≤(i:Int)+1 by omega);constructor<;>omega
  rw[sumW];omega
section
variable {l:List ItemR}{code:List W32}{vs:List Int}
theorem Z5f{n:Nat}(h:n≤20):(1:Int)≤2^n∧(2:Int)^n≤1048576:=by
 have:∀j:Fin 21,(1:Int)≤2^j.val∧(2:Int)^j.val≤1048576:=dC;exact this ⟨n,om⟩
theorem Z55(h:AsmOk l code){j sh:Nat}{c:Int}(hs:sh≤20)(h0:0≤c)(h1:c<2^sh):0≤(plD l j:Int)*2^sh+c∧(plD l j:Int)*2^sh+c≤1099511627776:=by
 have hp:=Z5f hs;have hl:=h.le j;have a1:=Int.mul_le_mul_of_nonneg_left hp.2 (show(0:Int)≤(plD l j:Int) by omega);have a2:=Int.mul_nonneg (show(0:Int)≤(plD l j:Int) by omega) (show(0:Int)≤2^sh by omega);constructor<;>omega
theorem Zg2(h:AsmOk l code)(hf:Few vs){w:DW}{v:Int}(hd:DenW l vs w v)(hw:∀n,w≠.lit n)(hj:w≠.junk):-1099511627776≤v∧v≤1099511627776:=by
 cases w with
 |lit n=>exact absurd rfl (hw n)
 |s i=>
  have hd:v=8*vs.getD i 0:=hd;have:=hf.val i;omega
 |t i=>
  obtain⟨h1,hd⟩:i≤50∧v=8*sumW vs i:=hd;have:=zgz hf i h1;omega
 |adr j sh c=>
  obtain⟨h1,h2,h3,rfl⟩:sh≤20∧0≤c∧c<2^sh∧v=(plD l j:Int)*2^sh+c:=hd;have:=Z55 (j:=j) h h1 h2 h3;omega
 |junk=>exact absurd rfl hj
theorem Zm0(h:AsmOk l code)(hf:Few vs){w:DW}{v n:Int}(hd:DenW l vs w v):DenW l vs (addD w n) (arI .add .i64 v n):=by
 cases w with
 |lit m=>obtain rfl:v=m:=hd;exact rfl
 |junk=>
  show DenW l vs (if n=0 then .junk else .junk) _;split<;>trivial
 |s i=>
  show DenW l vs (if n=0 then .s i else .junk) _;split
  .rename_i e;have:=Zg2 h hf hd (by intro n h;cases h) (by intro h;cases h);subst e;have e2:arI .add .i64 v 0=v:=by
    show IntKind.i64.wrap (v+0)=v;rw[Int.add_zero];exact w64 om om
   rw[e2];exact hd
  .trivial
 |t i=>
  show DenW l vs (if n=0 then .t i else .junk) _;split
  .rename_i e;have:=Zg2 h hf hd (by intro n h;cases h) (by intro h;cases h);subst e;have e2:arI .add .i64 v 0=v:=by
    show IntKind.i64.wrap (v+0)=v;rw[Int.add_zero];exact w64 om om
   rw[e2];exact hd
  .trivial
 |adr j sh c=>
  obtain⟨h1,h2,h3,rfl⟩:sh≤20∧0≤c∧c<2^sh∧v=(plD l j:Int)*2^sh+c:=hd;show DenW l vs (if 0≤c+n∧c+n<2^sh then .adr j sh (c+n)else .junk) _;split
  .rename_i e;have:=Z55 (j:=j) h h1 e.1 e.2;refine⟨h1,e.1,e.2,?_⟩;show IntKind.i64.wrap ((plD l j:Int)*2^sh+c+n)=_;rw[Int.add_assoc];exact w64 om om
  .trivial
theorem Zlt(h:AsmOk l code){op:Int}{w:DW}{v n:Int}(hd:DenW l vs w v):DenW l vs (oneD op w n) (aluA op v n):=by
 cases w with
 |lit m=>obtain rfl:v=m:=hd;exact rfl
 |junk=>trivial
 |s i=>trivial
 |t i=>trivial
 |adr j sh c=>
  obtain⟨h1,h2,h3,rfl⟩:sh≤20∧0≤c∧c<2^sh∧v=(plD l j:Int)*2^sh+c:=hd;show DenW l vs (if op=18∧sh=0∧0≤n∧n≤20 then .adr j n.toNat 0 else if op=19∧n=(sh:Int)then .adr j 0 0 else .junk) _;split
  .rename_i e;obtain⟨rfl,rfl,n0,n1⟩:=e;have hp:=Z5f (n:=n.toNat) om;have hc:c=0:=by have:(2:Int)^0=1:=rfl;omega
   subst hc;have:=Z55 (j:=j) (sh:=n.toNat) (c:=0) h om om om;refine⟨om,om,om,?_⟩;show arI .shl .i64 _ n=_;show IntKind.i64.wrap (((plD l j:Int)*2^0+0)*2^(min n.toNat 64))=_;rw[show min n.toNat 64=n.toNat by omega,show(2:Int)^0=1 from rfl,Int.mul_one,Int.add_zero,Int.add_zero];exact w64 om om
  split
  .rename_i e;obtain⟨rfl,rfl⟩:=e;have hp:=Z5f h1;refine⟨om,om,dC,?_⟩;show arI .shr .i64 _ (sh:Int)=_;show((plD l j:Int)*2^sh+c).fdiv (2^(min (sh:Int).toNat 64))=_;rw[show min (sh:Int).toNat 64=sh by omega,Int.fdiv_eq_ediv_of_nonneg _ om,Int.add_comm,Int.add_mul_ediv_right _ _ om,Int.ediv_eq_zero_of_lt h2 h3];rw[show(2:Int)^0=1 from rfl];omega
  .trivial
theorem Zlh{op:Int}{w x:DW}{v y:Int}(hd:DenW l vs w v)(he:DenW l vs x y):DenW l vs (twoD op w x) (thrR op v y):=by
 cases w with
 |lit m=>
  cases x with
  |lit n=>obtain rfl:v=m:=hd;obtain rfl:y=n:=he;exact rfl
  |_=>trivial
 |_=>trivial
end
theorem ToM.mono{code:List W32}{a b:Nat}{m m':MaR}(h:ToM code a m m')(hab:a≤b):ToM code b m m':=by
 obtain⟨k,k1,hk⟩:=h;exact⟨k,om,hk⟩
def RowD(l:List ItemR)(vs:List Int)(A:AIt)(i:Nat)(x:ItemR):Prop:=match A with
 | .it y=>y=x
 | .num a j=>0<a∧a<32∧x=⟨4,⟨20,(a:Int),0,0,0⟩,0,8*vs.getD j 0⟩
 | .rnd B j=>3≤B∧B≤27∧B≠26∧j<50∧∀q,q<18→l[i+q]?=(rndL (B:Int))[q]?
 | .skip=>True
section
variable {l:List ItemR}{code:List W32}{vs:List Int}{d L:Nat}{m:MaR}{i:Nat}{rg me:Bt DW}{fnd:Int→Nat}{go:Nat→Bt DW→Bt DW→Bool}{halt:Int→Bool}{x:ItemR}
abbrev GoesD(l:List ItemR)(code:List W32)(vs:List Int)(d L:Nat)(m:MaR)(go:Nat→Bt DW→Bt DW→Bool):Prop:=∃m' i' rg' me',ToM code 18 m m'∧RD l vs d L m' i' rg' me'∧go i' rg' me'=true
theorem zk5(h:AsmOk l code)(hR:RD l vs d L m i rg me)(hx:l[i]?=some x)(hk:x.kind=0)(a0:0≤x.x.a)(a1:x.x.a≤31){v:Int}{w:DW}(hv:DenW l vs w v)(hs:stR m x.x=(6,m.put x.x.a v (m.pc+1)))(hgo:go (i+1) (wrU rg x.x.a.toNat w) me=true):GoesD l code vs d L m go:=by
 obtain⟨t,n1⟩:=zq2 h hx hk hR.at_.pc hs;have:=hR.put (j:=i+1) (s:=plD l i+1) (st:=m.steps+1) hv a0 a1 n1.symm;have e:m.pc+1=((plD l i+1:Nat):Int):=by rw[hR.at_.pc];rfl
 rw[e]at t;exact⟨_,_,_,_,t.mono dC,this,hgo⟩
theorem Zla(h:AsmOk l code)(hf:Few vs)(hL:L≤2^d)(hR:RD l vs d L m i rg me)(hx:l[i]?=some x)(hk:x.kind=0)(hr:regY x.x=true)(hs:insD L x.x i rg me go halt=true):
  GoesD l code vs d L m go∨∃m' n,goR code 1 m=(0,m')∧m'.regs=m.regs∧m'.value=n∧halt n=true:=by
 unfold regY at hr;simp only[zba,zdt]at hr;obtain⟨⟨⟨a0,a1⟩,b0,b1⟩,c0,c1⟩:=hr;have ra:=hR.reg a0 a1;have rb:=hR.reg b0 b1;have rc:=hR.reg c0 c1;have hpc:=hR.at_.pc;unfold insD at hs;rcases z2n hs with⟨e,hs⟩|⟨_,hs⟩
 .have e:=eqI_t e;obtain⟨n,hn,hh⟩:=znf hs;rw[hn]at ra;have ra:m.reg x.x.a=n:=ra;obtain⟨b,_,_,ha⟩:=h.at hx;unfold z12 at ha;rw[qj hk]at ha;refine .inr ⟨{ m with value:=m.reg x.x.a,steps:=m.steps+1 },n,?_,rfl,ra,hh⟩;rw[goR,qc (by have:=ha.1;omega),show m.pc.toNat=plD l i by omega,ha.2.1];simp[stR,e]
 rcases z2n hs with⟨e,hs⟩|⟨_,hs⟩
 .have e:=eqI_t e;rw[z4z,z2x]at hs;exact .inl (zk5 h hR hx hk a0 a1 (Zm0 h hf rb) (by simp[stR,e]) hs)
 rcases z2n hs with⟨e,hs⟩|⟨_,hs⟩
 .have e:x.x.op=16∨x.x.op=17∨x.x.op=18∨x.x.op=19:=by
   rcases or_tt e with e|e<;>rcases or_tt e with e|e<;>have:=eqI_t e<;>omega
  rw[z4z,z2x]at hs;exact .inl (zk5 h hR hx hk a0 a1 (Zlt h rb) (by rcases e with e|e|e|e<;>simp[stR,e,aluA]) hs)
 rcases z2n hs with⟨e,hs⟩|⟨_,hs⟩
 .have e:=eqI_t e;obtain⟨b,hb,hs⟩:=znf hs;rw[hb]at rb;have rb:m.reg x.x.b=b:=rb;rw[Z1a]at hs;obtain⟨hq,hs⟩:=z5t hs;obtain⟨q0,q1⟩:=z5t hq;have q0:=zyc q0;rw[zsn]at q0 q1;have q0:=of_decide_eq_false q0;have q1:arI .add .i64 b x.x.n<(L:Int):=qZ q1;rw[z4z,z2x]at hs;have hml:=hR.ml;refine .inl (zk5 h hR hx hk a0 a1 (hR.mm (arI .add .i64 b x.x.n).toNat om) ?_ hs);simp only[stR,e,rb];rw[qc dC,qc om,qc dC,qc dC,qc dC,qc dC,qc dC,qc dC,qc dC,qj dC,qc om,qc dC]
 rcases z2n hs with⟨e,hs⟩|⟨_,hs⟩
 .have e:=eqI_t e;obtain⟨b,hb,hs⟩:=znf hs;rw[hb]at rb;have rb:m.reg x.x.b=b:=rb;rw[Z1a]at hs;obtain⟨hq,hs⟩:=z5t hs;obtain⟨q0,q1⟩:=z5t hq;have q0:=zyc q0;rw[zsn]at q0 q1;have q0:=of_decide_eq_false q0;have q1:arI .add .i64 b x.x.n<(L:Int):=qZ q1;rw[Bt.putK_eq,z2x]at hs;have hml:=hR.ml;have hst:stR m x.x=(6,{ m.goes (m.pc+1)with mem:=m.mem.set (arI .add .i64 b x.x.n).toNat (m.reg x.x.a) }):=by
   simp only[stR,e,rb];rw[qc dC,qc om,qc dC,qc dC,qc dC,qc dC,qc dC,qc dC,qc dC,qj dC,qc om,qj trivial]
  obtain⟨t,n1⟩:=zq2 h hx hk hpc hst;have:=hR.store hL (q:=arI .add .i64 b x.x.n) ra om q1 (j:=i+1) (p:=m.pc+1) (st:=m.steps+1) (by rw[hpc,n1];rfl);exact .inl ⟨_,_,_,_,t.mono dC,this,hs⟩
 rcases z2n hs with⟨e,hs⟩|⟨_,hs⟩
 .have e:=eqI_t e;obtain⟨j,hj,hs⟩:=Znj hs;rw[hj]at rb;obtain⟨_,_,_,rb⟩:=rb;have rb:m.reg x.x.b=(plD l j:Int):=by rw[rb,show(2:Int)^0=1 from rfl];omega
  rw[z4z]at hs;have hst:stR m x.x=(6,m.put x.x.a (m.pc+1) (plD l j:Int)):=by simp[stR,e,rb]
  obtain⟨t,n1⟩:=zq2 h hx hk hpc hst;have:=hR.put (j:=j) (s:=plD l j) (st:=m.steps+1) (v:=m.pc+1) (w:=.adr (i+1) 0 0) ⟨dC,dC,dC,by rw[hpc,n1,show(2:Int)^0=1 from rfl];omega⟩ a0 a1 rfl;exact .inl ⟨_,_,_,_,t.mono dC,this,hs⟩
 rcases z2n hs with⟨e,hs⟩|⟨_,hs⟩
 .have e:x.x.op=1∨x.x.op=2∨x.x.op=13∨x.x.op=14:=by
   rcases or_tt e with e|e<;>rcases or_tt e with e|e<;>have:=eqI_t e<;>omega
  rw[z4z,z2x]at hs;exact .inl (zk5 h hR hx hk a0 a1 (Zlh rb rc) (by rcases e with e|e|e|e<;>simp[stR,e]) hs)
 cases hs
theorem wrU5{rg:Bt DW}(hf:rg.Full 5)(j:Nat){r:Nat}(hr:r<32):(wrU (wrU (wrU (wrU (wrU rg 1 .junk) 2 (.t (j+1))) 26 .junk) 28 .junk) 31 .junk).get r=if r=2 then .t (j+1)else if r=1∨r=26∨r=28∨r=31 then .junk else rg.get r:=by
 have f1:=z5m hf 1 .junk;have f2:=z5m f1 2 (.t (j+1));have f3:=z5m f2 26 .junk;have f4:=z5m f3 28 .junk;rw[zdb f4 dC hr,zdb f3 dC hr,zdb f2 dC hr,zdb f1 dC hr,zdb hf dC hr];by_cases e1:r=1
 .subst e1;simp
 by_cases e2:r=2
 .subst e2;simp
 by_cases e3:r=26
 .subst e3;simp
 by_cases e4:r=28
 .subst e4;simp
 by_cases e5:r=31
 .subst e5;simp
 simp[e1,e2,e3,e4,e5]
theorem Zik(h:AsmOk l code)(hf:Few vs)(hL:L≤2^d)(hR:RD l vs d L m i rg me)(hx:l[i]?=some x)(hfn:∀y∈l,z0z y=true→findR l y.label=some (fnd y.label)){A:AIt}(hA:RowD l vs A i x)(hs:stepD L fnd A i rg me go halt=true):
  GoesD l code vs d L m go∨∃m' n,goR code 1 m=(0,m')∧m'.regs=m.regs∧m'.value=n∧halt n=true:=by
 have hpc:=hR.at_.pc;cases A with
 |skip=>cases hs
 |num a j=>
  obtain⟨a0,a1,rfl⟩:=hA;have hs:wrD rg a (.s j) (fun rg'=>seqN (i+1) fun i=>go i rg' me)=true:=hs;rw[z4z,z2x]at hs;have hv:=hf.val j;obtain⟨s,t⟩:=Z8m h hx rfl hpc hR.at_.rl (by show InI (8*vs.getD j 0);unfold InI;omega) (by show(0:Int)<(a:Int);omega) (by show(a:Int)≤31;omega);have:=hR.put (a:=(a:Int)) (j:=i+1) (s:=plD l (i+1)) (st:=s) (v:=8*vs.getD j 0) (w:=.s j) rfl om om rfl;rw[qN]at this;exact .inl ⟨_,_,_,_,t.mono dC,this,hs⟩
 |rnd B j=>
  obtain⟨B0,B1,B2,j0,hl⟩:=hA;have hs:and (isS (rg.get B) j) (and (isT (rg.get 2) j) (litD (rg.get 1) fun n=>and (eqI n (Int.ofNat (8*(j+1)))) (wrD rg 1 .junk fun r1=>wrD r1 2 (.t (j+1)) fun r2=>wrD r2 26 .junk fun r3=>wrD r3 28 .junk fun r4=>wrD r4 31 .junk fun r5=>seqN (i+18) fun i=>go i r5 me)))=true:=hs;obtain⟨hB,hs⟩:=z5t hs;obtain⟨h2,hs⟩:=z5t hs;obtain⟨n,h1,hs⟩:=znf hs;obtain⟨hn,hs⟩:=z5t hs;rw[z4z,z4z,z4z,z4z,z4z,z2x]at hs;have r1:m.reg 1=8*((j:Int)+1):=by
   have:=hR.rr 1 dC;rw[h1]at this;have this:m.reg 1=n:=this;rw[this,eqI_t hn];show((8*(j+1):Nat):Int)=_;omega
  have rB:m.reg (B:Int)=8*vs.getD j 0:=by
   have:=hR.rr B om;cases hw:rg.get B with
   |s q=>
    rw[hw]at hB this;obtain rfl:j=q:=Nat.eq_of_beq_eq_true hB;show m.regs.getD (B:Int).toNat 0=_;rw[qN];exact this
   |lit n=>rw[hw]at hB;cases hB
   |t q=>rw[hw]at hB;cases hB
   |adr a b c=>rw[hw]at hB;cases hB
   |junk=>rw[hw]at hB;cases hB
  have r2:m.reg 2=8*sumW vs j:=by
   have:=hR.rr 2 dC;cases hw:rg.get 2 with
   |t q=>
    rw[hw]at h2 this;obtain rfl:j=q:=Nat.eq_of_beq_eq_true h2;exact this.2
   |lit n=>
    rw[hw]at h2 this;have h2:(Nat.beq j 0&&eqI n 0)=true:=h2;rw[zba]at h2;obtain rfl:j=0:=Nat.eq_of_beq_eq_true h2.1;have this:m.reg 2=n:=this;rw[this,eqI_t h2.2];rfl
   |s q=>rw[hw]at h2;cases h2
   |adr a b c=>rw[hw]at h2;cases h2
   |junk=>rw[hw]at h2;cases h2
  have r0:m.reg 0=0:=by
   have:=hR.rr 0 dC;rw[hR.r0]at this;exact this
  have hv:=hf.val j;have hsum:=zgz hf j om;obtain⟨m',t,hat,hme,h2',hold⟩:=Zk4 h hR.at_ (B:=(B:Int)) (c:=(j:Int)+1) (v:=vs.getD j 0) (a:=sumW vs j) hl om r0 r1 rB r2 om om om;refine .inl ⟨m',i+18,_,me,t,⟨hat,z5m (z5m (z5m (z5m (z5m hR.rf _ _) _ _) _ _) _ _) _ _,?_,?_,by rw[hme];exact hR.ml,hR.mf,by rw[hme];exact hR.mm⟩,hs⟩
  .rw[wrU5 hR.rf j dC];exact hR.r0
  .intro r hr;rw[wrU5 hR.rf j hr];by_cases e2:r=2
   .subst e2;rw[qj rfl];exact⟨om,h2'⟩
   rw[qc e2];by_cases e:r=1∨r=26∨r=28∨r=31
   .rw[qj e];trivial
   .rw[qc e];have:=hold (r:Int) om om om om om om;have this:m'.regs.getD (r:Int).toNat 0=m.regs.getD (r:Int).toNat 0:=this;rw[qN]at this;rw[this];exact hR.rr r hr
 |it y=>
  obtain rfl:y=x:=hA;have hxm:y∈l:=zmg hx;have hmay:mayR y=true:=zat.1 h.may y hxm;obtain⟨hreg,hs⟩:=z5t (show and (regY y.x) _=true from hs);have hr:=hreg;unfold regY at hr;simp only[zba,zdt]at hr;obtain⟨⟨⟨a0,a1⟩,b0,b1⟩,c0,c1⟩:=hr;have ra:=hR.reg a0 a1;have rb:=hR.reg b0 b1;rcases z2n hs with⟨e,hs⟩|⟨_,hs⟩
  .exact Zla h hf hL hR hx (eqI_t e) hreg hs
  rcases z2n hs with⟨e,hs⟩|⟨_,hs⟩
  .rw[z2x]at hs;have n1:=Zk6 h hx (eqI_t e);exact .inl ⟨m,i+1,rg,me,(ToM.refl code m).mono dC,⟨⟨by rw[hpc];exact congrArg _ n1.symm,hR.at_.rl⟩,hR.rf,hR.r0,hR.rr,hR.ml,hR.mf,hR.mm⟩,hs⟩
  rcases z2n hs with⟨e,hs⟩|⟨_,hs⟩
  .have hk:=eqI_t e;obtain⟨a,ha,hs⟩:=znf hs;obtain⟨b,hb,hs⟩:=znf hs;rw[ha]at ra;rw[hb]at rb;have ra:m.reg y.x.a=a:=ra;have rb:m.reg y.x.b=b:=rb;have hj:=hfn y hxm (by unfold z0z;simp[hk]);obtain⟨s,t⟩:=Zbg h hx hk hpc hj;have hop:24≤y.x.op∧y.x.op≤27:=by
    unfold mayR at hmay;simp only[hk]at hmay;simp at hmay;omega
   have htk:z3j y.x.op a b=takA y.x.op a b:=by
    rcases(by omega:y.x.op=24∨y.x.op=25∨y.x.op=26∨y.x.op=27)with e|e|e|e<;>simp[z3j,takA,e,Zh4,zsn,←Int.not_lt]
   rw[ra,rb,htk]at t;rcases z2n hs with⟨ht,hs⟩|⟨ht,hs⟩
   .rw[ht,qj rfl]at t;rw[z2x]at hs;exact .inl ⟨_,_,rg,me,t.mono dC,hR.goes,hs⟩
   .rw[ht,qc dC]at t;rw[z2x]at hs;exact .inl ⟨_,_,rg,me,t.mono dC,hR.goes,hs⟩
  rcases z2n hs with⟨e,hs⟩|⟨_,hs⟩
  .have hk:=eqI_t e;rw[z4z,z2x]at hs;have hj:=hfn y hxm (by unfold z0z;simp[hk]);have t:=Zic h hx hk hpc hj;have:=hR.put (j:=fnd y.label) (s:=plD l (fnd y.label)) (st:=m.steps+1) (v:=(plD l (i+1):Int)) (w:=.adr (i+1) 0 0) ⟨dC,dC,dC,by rw[show(2:Int)^0=1 from rfl];omega⟩ a0 a1 rfl;exact .inl ⟨_,_,_,_,t.mono dC,this,hs⟩
  rcases z2n hs with⟨e,hs⟩|⟨_,hs⟩
  .have hk:=eqI_t e;obtain⟨hp,hs⟩:=z5t hs;obtain⟨hq,hs⟩:=z5t hs;obtain⟨q0,q1⟩:=z5t hq;have q0:=zyc q0;have q1:=zyc q1;rw[zsn]at hp q0 q1;have hp:=qZ hp;have q0:=of_decide_eq_false q0;have q1:=of_decide_eq_false q1;rw[z4z,z2x]at hs;obtain⟨s,t⟩:=Z8m h hx hk hpc hR.at_.rl (by unfold InI;omega) hp a1;have:=hR.put (j:=i+1) (s:=plD l (i+1)) (st:=s) (v:=y.n) (w:=.lit y.n) rfl a0 a1 rfl;exact .inl ⟨_,_,_,_,t.mono dC,this,hs⟩
  rcases z2n hs with⟨e,hs⟩|⟨_,hs⟩
  .have hk:=eqI_t e;obtain⟨hp,hs⟩:=z5t hs;rw[zsn]at hp;have hp:=qZ hp;rw[z2x,z4z,z2x]at hs;have hj:=hfn y hxm (by unfold z0z;simp[hk]);obtain⟨s,t⟩:=Zje h hx hk hpc hR.at_.rl hp a1 hj;have:=hR.put (j:=i+1) (s:=plD l (i+1)) (st:=s) (v:=(plD l (fnd y.label):Int)) (w:=.adr (fnd y.label) 0 0) ⟨dC,dC,dC,by rw[show(2:Int)^0=1 from rfl];omega⟩ a0 a1 rfl;exact .inl ⟨_,_,_,_,t.mono dC,this,hs⟩
  cases hs
theorem Zc5(h:AsmOk l code)(hf:Few vs)(hL:L≤2^d)(hfn:∀y∈l,z0z y=true→findR l y.label=some (fnd y.label)){tab:Bt AIt}(hT:∀i x,l[i]?=some x→RowD l vs (tab.get i) i x)(k:Nat):∀(fuel:Nat)(m:MaR)(i:Nat)(rg me:Bt DW),RD l vs d L m i rg me→runD tab l.length L fnd k fuel i rg me=true→∃n m',n≤72*fuel∧goR code n m=(0,m')∧m'.value=0∧m'.reg 1=8*sumW vs k
 |0,m,i,rg,me,_,hs=>by cases hs
 |fuel+1,m,i,rg,me,hR,hs=>by
  have hs:cond (Nat.ble l.length i) false (stepD L fnd (tab.get i) i rg me (runD tab l.length L fnd k fuel) fun v=>and (eqI v 0) (isT (rg.get 1) k))=true:=hs;rcases z2n hs with⟨_,hs⟩|⟨hp,hs⟩
  .cases hs
  have hp:i<l.length:=by
   rcases Nat.lt_or_ge i l.length with g|g
   .exact g
   .rw[Nat.ble_eq_true_of_le g]at hp;cases hp
  have hx:=zge hp;rcases Zik h hf hL hR hx hfn (hT i _ hx) hs with⟨m',i',rg',me',⟨q,hq,ht⟩,hR',hgo⟩|⟨m',v,hg,hrs,hv,hh⟩
  .obtain⟨n,mf,hn,h1,h2⟩:=Zc5 h hf hL hfn hT k fuel m' i' rg' me' hR' hgo;exact⟨n+q,mf,om,by rw[ht];exact h1,h2⟩
  .obtain⟨h0,h1⟩:=z5t hh;refine⟨1,m',om,hg,by rw[hv,eqI_t h0],?_⟩;show m'.regs.getD 1 0=_;rw[hrs];have:=hR.rr 1 dC;cases hw:rg.get 1 with
   |t q=>
    rw[hw]at h1 this;obtain rfl:k=q:=Nat.eq_of_beq_eq_true h1;exact this.2
   |lit n=>
    rw[hw]at h1 this;have h1:(Nat.beq k 0&&eqI n 0)=true:=h1;rw[zba]at h1;obtain rfl:k=0:=Nat.eq_of_beq_eq_true h1.1;have this:m.regs.getD 1 0=n:=this;rw[this,eqI_t h1.2];rfl
   |s q=>rw[hw]at h1;cases h1
   |adr a b c=>rw[hw]at h1;cases h1
   |junk=>rw[hw]at h1;cases h1
end
def memR(stack size:Int):List Int:=((((List.replicate 32 0).set 28 (32+stack)).set 29 (32+stack+size)).set 30 (32+stack+size)).set 31 (32+stack+2*size)
def imgR(l:List ItemR)(stack size:Int):ImgR:=⟨codeA (asmR l),memR stack size,32+stack+2*size⟩
theorem zwp:Tryz.prog.underlying 50=some (.slice 131):=kr
theorem zol:ElemOk zP 131 8 64=true:=kr
theorem zus(l1 l2 l3:List ItemR)(stack size:Int)(w1 w2 w3:Value)(S:PH)(h1:SlR S l1 w1)(h2:SlR S l2 w2)(h3:SlR S l3 w3)(hst:0≤stack∧stack≤1048576)(hsz:0≤size∧size≤1048576)(hlen:l1.length+l2.length+l3.length≤1000000000):
  Tri zP 16 #[w1,w2,w3,vi stack,vi size] S fun e K'=>∃cv mv,e=.returned (.tuple #[.agg #[cv,mv,vi (imgR (l1++l2++l3) stack size).words],.bool (decide (errA (asmR (l1++l2++l3))=0))])∧SlR K' (imgR (l1++l2++l3) stack size).code cv∧SlR K' (memR stack size) mv∧PH.le S K':=by
 obtain⟨b1,c1,rfl⟩:=h1.sl;obtain⟨b2,c2,rfl⟩:=h2.sl;obtain⟨b3,c3,rfl⟩:=h3.sl;refine qr zh9 [.slice b1 l1.length c1,.slice b2 l2.length c2,.slice b3 l3.length c3,vi stack,vi size] ?_;have h0:Held S S []:=Held.nil (wx _);refine zk8 (α:=ItemR) (b:=64) zwp zol h0 z01 fun v1 K1 k1 _ _=>?_;simp only[cns];refine z6k (b:=64) (more:=l1) zwp zol kr kr k1 (h1.srcS k1.sh) (by simp only[maxLen,zln];omega) (by simp only[zln];omega) fun v2 K2 k2 _=>⟨z01,?_⟩;rw[List.nil_append]at k2;simp only[cns];refine z6k (b:=64) (more:=l2) zwp zol kr kr k2 (h2.srcS k2.sh) (by simp only[maxLen];omega) om fun v3 K3 k3 _=>⟨z01,?_⟩;simp only[cns];refine z6k (b:=64) (more:=l3) zwp zol kr kr k3 (h3.srcS k3.sh) (by simp only[maxLen,zla];omega) (by simp only[zla];omega) fun v4 K4 k4 _=>⟨z01,?_⟩;simp only[cns];obtain⟨S',s1,s2,s3⟩:=k4.freeze;generalize l1++l2++l3=l at *;obtain⟨lb,lc,rfl⟩:=s1.sl;refine z02 (qb 45) (Z08 l _ K4 (s1.le s3.sh)) ?_;rintro e K5 ⟨cv,pv,rfl,hcv,hpv,l5⟩;obtain⟨cb,cc,rfl⟩:=hcv.sl;obtain⟨pb,pc,rfl⟩:=hpv.sl;refine⟨_,[.slice cb (codeA (asmR l)).length cc,.slice pb (plI (zzy (asmR l))).length pc,vi (errA (asmR l))],rfl,rfl,rfl,z01,?_⟩;simp only[cns];have h5:Held K5 K5 []:=Held.nil (wx _);have a1:arI .add .i64 32 stack=32+stack:=w64 om om;have a2:arI .add .i64 (32+stack) size=32+stack+size:=w64 om om;have a3:arI .mul .i64 2 size=2*size:=w64 om om;have a4:arI .add .i64 (32+stack) (2*size)=32+stack+2*size:=w64 om om;refine z55 (α:=Int) (b:=8) (n:=32) 0 rfl (fun S=>zpn) z0g zzg kr kr dC dC h5 fun mv K6 h6 l6=>?_;simp only[cns];obtain⟨mb,mc,rfl⟩:=(h6.row (e:=3) (zms)).sl;have hb:=((h6.row (e:=3) (zms)).slR h6.sh).get (i:=0) (a:=0) rfl;obtain⟨z1,_⟩:=hb;have chk:∀{E:List Value} {s i:SV} {k:Int},ev0 E s=.slice mb (List.replicate 32 (0:Int)).length mc→ev0 E i=.int .i64 k→0≤k→k<32→Chk.holds E (.inSl s i):=fun h1 h2 h3 h4=>by
  simp only[Chk.holds,h1,h2];exact⟨z1,h3,by simp[slLen,iOf];omega⟩
 refine⟨fun _=>chk rfl rfl dC dC,?_⟩;refine z1i (i:=28) (a:=0) (a':=32+stack) (us:=[vi (arI .add .i64 32 stack)]) kr h6 rfl rfl kr (by simp[oneC]) (by rw[a1];exact z09 (by unfold InI;omega)) fun K7 h7=>?_;refine⟨fun _=>chk rfl rfl dC dC,?_⟩;refine z1i (i:=29) (a:=0) (a':=32+stack+size) (us:=[vi (arI .add .i64 (arI .add .i64 32 stack) size)]) kr h7 rfl rfl kr (by simp[oneC]) (by rw[a1,a2];exact z09 (by unfold InI;omega)) fun K8 h8=>?_;refine⟨fun _=>chk rfl rfl dC dC,?_⟩;refine z1i (i:=30) (a:=0) (a':=32+stack+size) (us:=[vi (arI .add .i64 (arI .add .i64 32 stack) size)]) kr h8 rfl rfl kr (by simp[oneC]) (by rw[a1,a2];exact z09 (by unfold InI;omega)) fun K9 h9=>?_;refine⟨fun _=>chk rfl rfl dC dC,?_⟩;refine z1i (i:=31) (a:=0) (a':=32+stack+2*size) (us:=[vi (arI .add .i64 (arI .add .i64 32 stack) (arI .mul .i64 2 size))]) kr h9 rfl rfl kr (by simp[oneC]) (by rw[a1,a3,a4];exact z09 (by unfold InI;omega)) fun Ka ha=>?_;obtain⟨S2,t1,t2,t3⟩:=ha.freeze;refine⟨.slice cb (codeA (asmR l)).length cc,.slice mb (List.replicate 32 (0:Int)).length mc,?_,hcv.le (ww t2 t3.sh),t1.le t3.sh,ww s2 (ww s3.sh (ww l5 (ww t2 t3.sh)))⟩;have e1:(imgR l stack size).words=arI .add .i64 (arI .add .i64 32 stack) (arI .mul .i64 2 size):=by rw[a1,a3,a4];rfl
 rw[e1];show Ending.returned _=Ending.returned _
 kernel_rfl
structure ValW where
 kind:Int
 int:Int
 text:List UInt8
def isW(n:Int):Bool:=decide (-1152921504606846976≤n)&&decide (n≤1152921504606846975)
def wordX(v:ValW)(symbols:List (List UInt8)):Option Int:=
 if v.text≠[]∧v.kind≠3 then none
 else if v.kind=0 then(if v.int=0∨v.int=1 then some (8*v.int+2)else none)
 else if v.kind=1 then(if isW v.int=true then some (8*v.int)else none)
 else if v.kind=2 then(if 0≤v.int∧v.int≤255 then some (8*(256+v.int)+2)else none)
 else if v.kind=3 then(if v.int=0 then(symbols.findIdx? (fun s=>decide (s=v.text))).map (fun(i:Nat)=>IntKind.i64.wrap (8*(i:Int)+3))else none)
 else if v.kind=4∨v.kind=5∨v.kind=6∨v.kind=7 then(if v.int=0 then some (8*(v.kind-2)+2)else none)
 else none
theorem Znm{H:PH}{a:List UInt8}{cs:List Value}(h:CsR H a cs):cs=[txt a]:=by
 have h':PV.RepRow H [.str a] cs:=h;simp only[PV.RepRow,zvh]at h';obtain⟨v,vs,rfl,⟨rfl,_⟩,rfl⟩:=h';rfl
theorem or8{n t:Int}(h0:0≤n)(h1:n≤1152921504606846975)(t0:0≤t)(t1:t<8):arI .or .i64 (8*n) t=8*n+t:=by
 show IntKind.i64.wrap (((BitVec.ofInt 64 (8*n) ||| BitVec.ofInt 64 t).toNat:Nat):Int)=_;obtain⟨k,rfl⟩:∃k:Nat,n=(k:Int):=⟨n.toNat,om⟩;obtain⟨j,rfl⟩:∃j:Nat,t=(j:Int):=⟨t.toNat,om⟩;have e1:(BitVec.ofInt 64 (8*(k:Int))).toNat=8*k:=by
  rw[BitVec.toNat_ofInt];omega
 have e2:(BitVec.ofInt 64 (j:Int)).toNat=j:=by
  rw[BitVec.toNat_ofInt];omega
 rw[BitVec.toNat_or,e1,e2];have e3:=Nat.two_pow_add_eq_or_of_lt (i:=3) (b:=j) om k;rw[show(2:Nat)^3=8 from rfl]at e3;rw[←e3,w64 om om];omega
theorem shl3{n:Int}(h0:-1152921504606846976≤n)(h1:n≤1152921504606846975):arI .shl .i64 n 3=8*n:=by
 show IntKind.i64.wrap (n*2^(min (3:Int).toNat 64))=_;rw[show(2:Int)^(min (3:Int).toNat 64)=8 from rfl,w64 om om];omega
theorem zuw(n:Int):IntKind.i64.wrap n=(n+9223372036854775808)%18446744073709551616-9223372036854775808:=by
 have:IntKind.i64.wrap n=if 9223372036854775808≤n%18446744073709551616 then n%18446744073709551616-18446744073709551616 else n%18446744073709551616:=by
  simp only[IntKind.wrap,IntKind.bits,IntKind.signed];simp
 rw[this];split<;>omega
theorem or3(k:Nat):arI .or .i64 (arI .shl .i64 (k:Int) 3) 3=IntKind.i64.wrap (8*(k:Int)+3):=by
 show IntKind.i64.wrap (((BitVec.ofInt 64 (IntKind.i64.wrap ((k:Int)*2^(min (3:Int).toNat 64))) ||| BitVec.ofInt 64 3).toNat:Nat):Int)=_;rw[show(2:Int)^(min (3:Int).toNat 64)=8 from rfl];have e1:(BitVec.ofInt 64 (IntKind.i64.wrap ((k:Int)*8))).toNat=8*(k%2305843009213693952):=by
  rw[BitVec.toNat_ofInt,zuw];omega
 have e2:(BitVec.ofInt 64 3).toNat=3:=dC;rw[BitVec.toNat_or,e1,e2];have e3:8*(k%2305843009213693952) ||| 3=8*(k%2305843009213693952)+3:=by
  have:=Nat.two_pow_add_eq_or_of_lt (i:=3) (b:=3) dC (k%2305843009213693952);rw[show(2:Nat)^3=8 from rfl]at this;exact this.symm
 rw[e3,zuw,zuw];omega
theorem z38(n:Int)(H:PH)(h:0≤n∧n≤100000):Gives zP 34 [vi n] H (vi (8*n+2)):=by
 refine qr zis [vi n] ?_;refine⟨?_,wx _⟩;show Ending.returned (vi (arI .or .i64 (arI .shl .i64 n 3) 2))=_;rw[shl3 om om,or8 om om om om]
theorem Z71(n:Int)(H:PH):Gives zP 78 [vi n] H (.bool (isW n)):=by
 refine qr zto [vi n] ?_;exact⟨by simp only[wy,arI,isW,ge_iff_le],wx _⟩
theorem isW_iff{n:Int}:isW n=true↔-1152921504606846976≤n∧n≤1152921504606846975:=by simp[isW]
theorem arOr0{n:Int}(h:InI n):arI .or .i64 n 0=n:=by
 show IntKind.i64.wrap (((BitVec.ofInt 64 n ||| BitVec.ofInt 64 0).toNat:Nat):Int)=_;rw[show BitVec.ofInt 64 0=0#64 from rfl,BitVec.or_zero,BitVec.toNat_ofInt];obtain⟨h0,h1⟩:=h;have hp:(0:Int)≤n%(2^64:Nat):=Int.emod_nonneg _ dC;rw[Int.toNat_of_nonneg hp,zpb];split<;>omega
theorem Z3b(n:Int)(H:PH):Gives zP 33 [vi n] H (.tuple #[vi (if isW n=true then 8*n else 0),vi (if isW n=true then 0 else 10)]):=by
 refine qr Z8j [vi n] ?_;refine z03 [.bool (isW n)] (qb 78) (Z71 n H) rfl z01 fun K l=>?_;simp only[cns];refine⟨fun g=>?_,fun g=>?_⟩
 .simp only[wy,arI,qy]at g;rw[qc (by rw[g];exact qk),qc (by rw[g];exact qk)];exact⟨rfl,l⟩
 .simp only[wy,arI,qU]at g;rw[qj g,qj g];have hb:=isW_iff.1 g;refine z03 [vi (8*n)] (qb 79) ?_ rfl z01 fun K2 l2=>⟨rfl,ww l l2⟩;refine qr Z4z [vi 0,vi n] ?_;refine⟨?_,wx _⟩;show Ending.returned (vi (arI .or .i64 (arI .shl .i64 n 3) 0))=_;rw[shl3 om om,arOr0 (by unfold InI;omega)];rfl
def zs1(l:List (List UInt8))(s:List UInt8):Int:=match l.findIdx? (fun x=>decide (x=s))with
 |none=>-1
 |some k=>(k:Int)
theorem Z88(l:List (List UInt8))(s:List UInt8)(v:Value)(H:PH)(hl:SlR H l v):Gives zP 35 [v,txt s] H (vi (zs1 l s)):=by
 obtain⟨b,c,rfl⟩:=hl.sl;have hmx:maxLen=9223372036854775807:=rfl;have hlm:=hl.max;refine qr z42 [.slice b l.length c,txt s] ?_;refine⟨fun n vs K=>∃k:Nat,k+n=l.length∧vs=[vi 0,nI k]∧K=H∧∀(i:Nat)(x:List UInt8),i<k→l[i]?=some x→x≠s,⟨l.length,0,om,rfl,rfl,fun i x hi=>absurd hi om⟩,?_⟩;rintro n vs K _ ⟨k,hkn,rfl,rfl,hno⟩;simp only[cns];refine⟨fun g=>?_,fun g=>?_⟩
 .simp only[wy,arI,zdt]at g;obtain⟨x,hx⟩:∃x,l[k]?=some x:=⟨_,zge om⟩;obtain⟨y1,_,cs,y2,y3⟩:=hl.get hx;obtain rfl:=Znm y2;refine⟨fun _=>?_,[txt x],rfl,by simp only[wy,arI];exact y3,fun g2=>?_,fun g2=>?_⟩
  .simp only[Chk.holds,wy,arI];exact⟨y1,om,om⟩
  .simp only[wy,arI,z0m,zdt]at g2;refine⟨?_,wx _⟩;have:l.findIdx? (fun x=>decide (x=s))=some k:=by
    rw[List.findIdx?_eq_some_iff_getElem];have hkl:k<l.length:=(zgi.1 hx).1;refine⟨hkl,by rw[(zgi.1 hx).2];simp[g2],fun j hj=>?_⟩;have:=hno j l[j] hj (zge om);simpa using this
   unfold zs1;rw[this];rfl
  .simp only[wy,arI,z0m,zdf]at g2;refine⟨_,z00,n-1,om,k+1,om,?_,rfl,fun i y hi hy=>?_⟩
   .have hw:IntKind.i64.wrap ((k:Int)+1)=((k+1:Nat):Int):=by rw[w64 om om];rfl
    simp only[wy,arI,hw]
   .rcases Nat.lt_succ_iff_lt_or_eq.1 hi with hi|rfl
    .exact hno i y hi hy
    .rw[hx]at hy;cases hy;exact fun h=>g2 h.symm
 .simp only[wy,arI,zdf]at g;refine⟨?_,wx _⟩;have:l.findIdx? (fun x=>decide (x=s))=none:=by
   rw[List.findIdx?_eq_none_iff];intro y hy;obtain⟨i,hi⟩:=qJ hy;have:=hno i y (by have:=(zgi.1 hi).1;omega) hi;simpa using this
  unfold zs1;rw[this];rfl
abbrev valW(v:ValW):List Value:=[vi v.kind,vi v.int,txt v.text]
theorem zqn(v:ValW)(l:List (List UInt8))(lv:Value)(H:PH)(hl:SlR H l lv):Gives zP 10 [.agg (valW v).toArray,lv] H (.tuple #[vi ((wordX v l).getD 0),.bool (wordX v l).isSome]):=by
 obtain⟨b,c,rfl⟩:=hl.sl;refine qr Z7d (valW v++[.slice b l.length c]) ?_;simp only[cns];generalize hw:wordX v l=w;unfold wordX at hw;refine⟨fun g=>?_,fun g=>?_⟩
 .simp only[wy,arI,z68]at g;simp only[qu,zba,zdt]at g;have:w=none:=by
   rw[←hw];by_cases h0:v.text≠[]∧v.kind≠3
   .rw[qj h0]
   .rw[qc h0];have g2:((v.kind≠1∧v.kind≠2)∧v.kind≠0)∧v.int≠0:=by
     rcases g with g|g
     .exact absurd ⟨g.2,g.1⟩ h0
     .exact g
    rw[qc g2.1.2,qc g2.1.1.1,qc g2.1.1.2];by_cases h3:v.kind=3
    .rw[qj h3,qc g2.2]
    .rw[qc h3];split
     .rw[qc g2.2]
     .rfl
  rw[this];exact⟨rfl,wx _⟩
 simp only[wy,arI,z68]at g;simp only[zof,wj,zdf]at g;have n0:¬(v.text≠[]∧v.kind≠3):=by
  rintro⟨h1,h2⟩;rcases g.1 with g|g
  .exact g h2
  .exact g h1
 have ni:v.kind=1∨v.kind=2∨v.kind=0∨v.int=0:=by
  rcases g.2 with(g|g)|g<;>omega
 rw[qc n0]at hw;have ret0:∀{K:PH},w=none→PH.le H K→(Ending.returned (.tuple #[vi 0,.bool false])=.returned (.tuple #[vi (w.getD 0),.bool w.isSome])∧PH.le H K):=fun h l=>by rw[h];exact⟨rfl,l⟩
 refine⟨fun vs K=>vs=[]∧PH.le H K∧w=none,?_,?_⟩
 .rintro vs K _ ⟨rfl,l,h⟩;exact ret0 h l
 refine⟨fun g1=>?_,fun g1=>?_⟩
 .simp only[wy,arI,zdt]at g1;rw[qc om,qj g1]at hw;refine z03 [vi (if isW v.int=true then 8*v.int else 0),vi (if isW v.int=true then 0 else 10)] (qb 33) (Z3b v.int H) rfl z01 fun K l=>?_;rw[←hw];by_cases h:isW v.int=true
  .simp only[qj h];exact⟨rfl,l⟩
  .simp only[qc h];exact⟨rfl,l⟩
 simp only[wy,arI,zdf]at g1;refine⟨fun g2=>?_,fun g2=>?_⟩
 .simp only[wy,arI,zdt]at g2;rw[qj g2]at hw;have e1:=and_1 v.int;simp only[arI]at e1;refine⟨fun g3=>?_,fun g3=>?_⟩
  .simp only[wy,arI,e1,zdt]at g3;have h3:v.int=0∨v.int=1:=om;rw[qj h3]at hw;refine z03 [vi (8*v.int+2)] (qb 34) (z38 v.int H om) rfl z01 fun K l=>?_;rw[←hw];exact⟨rfl,l⟩
  .simp only[wy,arI,e1,zdf]at g3;rw[qc om]at hw;exact⟨_,z00,rfl,wx _,hw.symm⟩
 simp only[wy,arI,zdf]at g2;rw[qc g2,qc g1]at hw;refine⟨fun g3=>?_,fun g3=>?_⟩
 .simp only[wy,arI,zdt]at g3;rw[qj g3]at hw;have e1:=Zbx v.int;simp only[arI]at e1;refine⟨fun g4=>?_,fun g4=>?_⟩
  .simp only[wy,arI,e1,zdt]at g4;have h3:0≤v.int∧v.int≤255:=om;rw[qj h3]at hw;refine z03 [vi (8*(256+v.int)+2)] (qb 34) ?_ rfl z01 fun K l=>?_
   .have:=z38 (256+v.int) H om;have e2:arI .add .i64 256 v.int=256+v.int:=w64 om om;have e3:Gives zP 34 [vi (arI .add .i64 256 v.int)] H (vi (8*(256+v.int)+2)):=by rw[e2];exact this
    exact e3
   .rw[←hw];exact⟨rfl,l⟩
  .simp only[wy,arI,e1,zdf]at g4;rw[qc om]at hw;exact⟨_,z00,rfl,wx _,hw.symm⟩
 simp only[wy,arI,zdf]at g3;rw[qc g3]at hw;have hi0:v.int=0:=om;refine⟨fun g4=>?_,fun g4=>?_⟩
 .simp only[wy,arI,zdt]at g4;rw[qj g4,qj hi0]at hw;refine z03 [vi (zs1 l v.text)] (qb 35) (Z88 l v.text _ H hl) rfl z01 fun K l'=>?_;unfold zs1;cases hf:l.findIdx? (fun x=>decide (x=v.text))with
  |none=>
   rw[hf]at hw;refine⟨fun g5=>?_,fun g5=>?_⟩
   .simp[wy,arI]at g5
   .exact⟨_,z00,rfl,l',hw.symm⟩
  |some k=>
   rw[hf]at hw;have hk:k<l.length:=by
    rw[List.findIdx?_eq_some_iff_getElem]at hf;exact hf.1
   refine⟨fun g5=>?_,fun g5=>?_⟩
   .refine⟨?_,l'⟩;rw[←hw];show Ending.returned (.tuple #[vi (arI .or .i64 (arI .shl .i64 (k:Int) 3) 3),.bool true])=_;rw[or3];rfl
   .simp[wy,arI]at g5
 simp only[wy,arI,zdf]at g4;rw[qc g4]at hw;refine⟨fun g5=>?_,fun g5=>?_⟩
 .simp only[wy,arI,zdt]at g5;rw[qj om,qj hi0,g5]at hw;refine z03 [vi (8*2+2)] (qb 34) (z38 2 H om) rfl z01 fun K l=>?_;rw[←hw];exact⟨rfl,l⟩
 simp only[wy,arI,zdf]at g5;refine⟨fun g6=>?_,fun g6=>?_⟩
 .simp only[wy,arI,zdt]at g6;rw[qj om,qj hi0,g6]at hw;refine z03 [vi (8*3+2)] (qb 34) (z38 3 H om) rfl z01 fun K l=>?_;rw[←hw];exact⟨rfl,l⟩
 simp only[wy,arI,zdf]at g6;refine⟨fun g7=>?_,fun g7=>?_⟩
 .simp only[wy,arI,zdt]at g7;rw[qj om,qj hi0,g7]at hw;refine z03 [vi (8*4+2)] (qb 34) (z38 4 H om) rfl z01 fun K l=>?_;rw[←hw];exact⟨rfl,l⟩
 simp only[wy,arI,zdf]at g7;refine⟨fun g8=>?_,fun g8=>?_⟩
 .simp only[wy,arI,zdt]at g8;rw[qj om,qj hi0,g8]at hw;refine z03 [vi (8*5+2)] (qb 34) (z38 5 H om) rfl z01 fun K l=>?_;rw[←hw];exact⟨rfl,l⟩
 simp only[wy,arI,zdf]at g8;rw[qc om]at hw;exact⟨_,z00,rfl,wx _,hw.symm⟩
theorem z0w{E:List Value}{H:PH}{p:SV}{ss:List SV}{pend:List (SV×List SV)}(h:rowAt H (pOf (ev0 E p)) (ss.map (ev0 E)))(t:z0s E H pend):z0s E H ((p,ss)::pend):=fun x hx=>by
 rcases zmc.1 hx with rfl|hx
 .exact h
 .exact t x hx
section
variable {r mr:Nat}{lv bv pv cv:Value}{es:Array MapEntry}{cl:Nat}{long:List Bool}{places:List Int}{code:List W32}{S K:PH}{J:List Itm}
end
theorem Zkt:Tryz.prog.underlying 50=some (.slice 131):=kr
theorem Zfm:ElemOk zP 131 (sz ItemR) 64=true:=kr
def EmH(S0 K:PH)(r:Nat)(T:TypeId)(rest:List Value)(l:List ItemR)(k:Nat)(J:List Itm):Prop:=
 l.length+k≤1099511627776∧∃S iv,PH.le S0 S∧Held S K (bx r T (iv::rest)::orow 131 l iv::J)
abbrev EmQ(S0:PH)(r:Nat)(T:TypeId)(rest:List Value)(l:List ItemR)(k:Nat)(J:List Itm):Ending→PH→Prop:=fun e K'=>e=.returned (.tuple #[])∧EmH S0 K' r T rest l k J
theorem EmH.sh{S0 K:PH}{r:Nat}{T:TypeId}{rest:List Value}{l:List ItemR}{k:Nat}{J:List Itm}(h:EmH S0 K r T rest l k J):PH.le S0 K:=by
 obtain⟨_,S,iv,h1,h2⟩:=h;exact ww h1 h2.sh
theorem i0J:InI 0:=dC
section
variable {S0 K:PH}{r:Nat}{T:TypeId}{rest:List Value}{l:List ItemR}{k:Nat}{J:List Itm}
theorem zi2(x:ItemR)(hx:InI8 x)(h:EmH S0 K r T rest l (k+1) J):Tri zP 99 #[pAt r,.agg (itemV x).toArray] K (EmQ S0 r T rest (l++[x]) k J):=by
 obtain⟨hl,S,iv,hS,h⟩:=h;refine qr zmq ([pAt r]++itemV x) ?_;simp only[cns];obtain⟨ib,ic,hiv⟩:=(h.row (e:=131) (l:=l) (v:=iv) sM).sl;have hr0:rowAt K (pOf (pAt r)) [iv]:=z0r h (zms) 0 1;refine⟨fun _=>by simp[Chk.holds,wy,arI],[iv],by rw[hiv];rfl,by simp only[wy,arI];exact hr0,?_⟩;simp only[cns];refine z0t (b:=64) (more:=[x]) [.agg (itemV x).toArray] Zkt Zfm rfl dC dC (h.perm (qq _ _ _)) kr (.cons (itemR_iff.2 ⟨rfl,hx⟩) .nil) (z0w (by simp only[wy,arI];exact hr0) z01) (fun w=>kr) (fun w=>kr)
  (by simp only[maxLen,List.length_singleton];omega) (by simp only[List.length_singleton];omega) fun w1 v1 S1 K1 l1 h1=>⟨z01,?_⟩
 simp only[cns];obtain⟨b1,c1,hv1⟩:=(h1.row (e:=131) (zms)).sl;refine z06 (off:=0) (vs:=[v1]) (by simp only[wy,arI];rfl) (h1.perm (qq _ _ _)) (by simp only[wy,arI]) (by intro u hu;rw[zsi.1 hu,hv1];rfl) sM fun K2 h2=>?_;exact⟨rfl,by rw[zla,List.length_singleton];omega,S1,v1,ww hS l1,h2⟩
theorem z5j(n:Int)(hn:InI n)(h:EmH S0 K r T rest l (k+1) J):Tri zP 51 #[pAt r,vi n] K (EmQ S0 r T rest (l++[⟨1,⟨0,0,0,0,0⟩,n,0⟩]) k J):=by
 refine qr zjz [pAt r,vi n] ?_;refine z02 (qb 99) (zi2 ⟨1,⟨0,0,0,0,0⟩,n,0⟩ ⟨(by decide:InI 1),⟨i0J,i0J,i0J,i0J,i0J⟩,hn,i0J⟩ h) ?_;rintro e K1 ⟨rfl,h1⟩;exact⟨_,[],rfl,rfl,rfl,z01,rfl,h1⟩
theorem z24(op a x n:Int)(ho:InI op)(ha:InI a)(hx:InI x)(hn:InI n)(h:EmH S0 K r T rest l (k+1) J):Tri zP 97 #[pAt r,vi op,vi a,vi x,vi n] K (EmQ S0 r T rest (l++[⟨0,⟨op,a,x,0,n⟩,0,0⟩]) k J):=by
 refine qr zlb [pAt r,vi op,vi a,vi x,vi n] ?_;refine z02 (qb 99) (zi2 ⟨0,⟨op,a,x,0,n⟩,0,0⟩ ⟨i0J,⟨ho,ha,hx,i0J,hn⟩,i0J,i0J⟩ h) ?_;rintro e K1 ⟨rfl,h1⟩;exact⟨_,[],rfl,rfl,rfl,z01,rfl,h1⟩
theorem Zit(op a x y:Int)(ho:InI op)(ha:InI a)(hx:InI x)(hy:InI y)(h:EmH S0 K r T rest l (k+1) J):Tri zP 62 #[pAt r,vi op,vi a,vi x,vi y] K (EmQ S0 r T rest (l++[⟨0,⟨op,a,x,y,0⟩,0,0⟩]) k J):=by
 refine qr zjb [pAt r,vi op,vi a,vi x,vi y] ?_;refine z02 (qb 99) (zi2 ⟨0,⟨op,a,x,y,0⟩,0,0⟩ ⟨i0J,⟨ho,ha,hx,hy,i0J⟩,i0J,i0J⟩ h) ?_;rintro e K1 ⟨rfl,h1⟩;exact⟨_,[],rfl,rfl,rfl,z01,rfl,h1⟩
theorem z1r(a n:Int)(ha:InI a)(hn:InI n)(h:EmH S0 K r T rest l (k+1) J):Tri zP 57 #[pAt r,vi a,vi n] K (EmQ S0 r T rest (l++[⟨4,⟨20,a,0,0,0⟩,0,n⟩]) k J):=by
 refine qr zim [pAt r,vi a,vi n] ?_;refine z02 (qb 99) (zi2 ⟨4,⟨20,a,0,0,0⟩,0,n⟩ ⟨(by decide:InI 4),⟨(by decide:InI 20),ha,i0J,i0J,i0J⟩,i0J,hn⟩ h) ?_;rintro e K1 ⟨rfl,h1⟩;exact⟨_,[],rfl,rfl,rfl,z01,rfl,h1⟩
theorem zvl(a n:Int)(ha:InI a)(hn:InI n)(h:EmH S0 K r T rest l (k+1) J):Tri zP 151 #[pAt r,vi a,vi n] K (EmQ S0 r T rest (l++[⟨5,⟨20,a,0,0,0⟩,n,0⟩]) k J):=by
 refine qr zjj [pAt r,vi a,vi n] ?_;refine z02 (qb 99) (zi2 ⟨5,⟨20,a,0,0,0⟩,n,0⟩ ⟨(by decide:InI 5),⟨(by decide:InI 20),ha,i0J,i0J,i0J⟩,hn,i0J⟩ h) ?_;rintro e K1 ⟨rfl,h1⟩;exact⟨_,[],rfl,rfl,rfl,z01,rfl,h1⟩
theorem ztc(a n:Int)(ha:InI a)(hn:InI n)(h:EmH S0 K r T rest l (k+1) J):Tri zP 58 #[pAt r,vi a,vi n] K (EmQ S0 r T rest (l++[⟨3,⟨28,a,0,0,0⟩,n,0⟩]) k J):=by
 refine qr zmk [pAt r,vi a,vi n] ?_;refine z02 (qb 99) (zi2 ⟨3,⟨28,a,0,0,0⟩,n,0⟩ ⟨(by decide:InI 3),⟨(by decide:InI 28),ha,i0J,i0J,i0J⟩,hn,i0J⟩ h) ?_;rintro e K1 ⟨rfl,h1⟩;exact⟨_,[],rfl,rfl,rfl,z01,rfl,h1⟩
theorem If_em(op x y n:Int)(ho:InI op)(hx:InI x)(hy:InI y)(hn:InI n)(h:EmH S0 K r T rest l (k+1) J):Tri zP 59 #[pAt r,vi op,vi x,vi y,vi n] K (EmQ S0 r T rest (l++[⟨2,⟨op,x,y,0,0⟩,n,0⟩]) k J):=by
 refine qr zph [pAt r,vi op,vi x,vi y,vi n] ?_;refine z02 (qb 99) (zi2 ⟨2,⟨op,x,y,0,0⟩,n,0⟩ ⟨(by decide:InI 2),⟨ho,hx,hy,i0J,i0J⟩,hn,i0J⟩ h) ?_;rintro e K1 ⟨rfl,h1⟩;exact⟨_,[],rfl,rfl,rfl,z01,rfl,h1⟩
theorem zn4(a x:Int)(ha:InI a)(hx:InI x)(h:EmH S0 K r T rest l (k+1) J):Tri zP 56 #[pAt r,vi a,vi x] K (EmQ S0 r T rest (l++[⟨0,⟨15,a,x,0,0⟩,0,0⟩]) k J):=by
 refine qr zmb [pAt r,vi a,vi x] ?_;refine z02 (qb 97) (z24 15 a x 0 dC ha hx i0J h) ?_;rintro e K1 ⟨rfl,h1⟩;exact⟨_,[],rfl,rfl,rfl,z01,rfl,h1⟩
theorem znu(a x n:Int)(ha:InI a)(hx:InI x)(hn:InI n)(h:EmH S0 K r T rest l (k+1) J):Tri zP 55 #[pAt r,vi a,vi x,vi n] K (EmQ S0 r T rest (l++[⟨0,⟨22,a,x,0,n⟩,0,0⟩]) k J):=by
 refine qr zl9 [pAt r,vi a,vi x,vi n] ?_;refine z02 (qb 97) (z24 22 a x n dC ha hx hn h) ?_;rintro e K1 ⟨rfl,h1⟩;exact⟨_,[],rfl,rfl,rfl,z01,rfl,h1⟩
theorem z5h(a x n:Int)(ha:InI a)(hx:InI x)(hn:InI n)(h:EmH S0 K r T rest l (k+1) J):Tri zP 54 #[pAt r,vi a,vi x,vi n] K (EmQ S0 r T rest (l++[⟨0,⟨23,a,x,0,n⟩,0,0⟩]) k J):=by
 refine qr zjx [pAt r,vi a,vi x,vi n] ?_;refine z02 (qb 97) (z24 23 a x n dC ha hx hn h) ?_;rintro e K1 ⟨rfl,h1⟩;exact⟨_,[],rfl,rfl,rfl,z01,rfl,h1⟩
theorem z6v(n:Int)(hn:InI n)(h:EmH S0 K r T rest l (k+1) J):Tri zP 60 #[pAt r,vi n] K (EmQ S0 r T rest (l++[⟨3,⟨28,0,0,0,0⟩,n,0⟩]) k J):=by
 refine qr zkv [pAt r,vi n] ?_;refine z02 (qb 58) (ztc 0 n i0J hn h) ?_;rintro e K1 ⟨rfl,h1⟩;exact⟨_,[],rfl,rfl,rfl,z01,rfl,h1⟩
theorem Zle(x:Int)(hx:InI x)(h:EmH S0 K r T rest l (k+1) J):Tri zP 63 #[pAt r,vi x] K (EmQ S0 r T rest (l++[⟨0,⟨29,0,x,0,0⟩,0,0⟩]) k J):=by
 refine qr zko [pAt r,vi x] ?_;refine z02 (qb 97) (z24 29 0 x 0 dC i0J hx i0J h) ?_;rintro e K1 ⟨rfl,h1⟩;exact⟨_,[],rfl,rfl,rfl,z01,rfl,h1⟩
theorem Zm4(a n:Int)(ha:InI a)(hn:InI n)(h:EmH S0 K r T rest l (k+2) J):Tri zP 53 #[pAt r,vi a,vi n] K (EmQ S0 r T rest (l++[⟨4,⟨20,a,0,0,0⟩,0,n⟩]++[⟨0,⟨0,a,0,0,0⟩,0,0⟩]) k J):=by
 refine qr zl5 [pAt r,vi a,vi n] ?_;refine z02 (qb 57) (z1r a n ha hn h) ?_;rintro e K1 ⟨rfl,h1⟩;refine⟨_,[],rfl,rfl,rfl,z01,?_⟩;simp only[zan];refine z02 (qb 97) (z24 0 a 0 0 dC ha i0J i0J h1) ?_;rintro e K2 ⟨rfl,h2⟩;exact⟨_,[],rfl,rfl,rfl,z01,rfl,h2⟩
end
inductive GI where
 |lit (n:Int)|to|num|arg (j:Nat)|get (j:Nat) (s:Int)|nw (j:Nat)|add (a b:GI)
inductive GV where
 |i (g:GI)|b (v:Bool)|s (l:List UInt8)|pf|pg|sl|o (k:Nat) (t:Tag)
inductive GS where
 |it (k:Int) (op a b c n lab w:GI)|get (j:Nat) (s:Int)|set (g:GI)|nmb (g:GI)|ask|clo
structure GSt where
 segs:List GS
 nl:Nat
 left:Nat
inductive GOut where
 |ret (v:Option GV) (G:List GV)|nxt (id:Nat) (vs:List GV)
structure GE where
 f:FuncId
 rs:List RS
 fm:Fm VE
def GE.Ok(P:Program)(e:GE):Prop:=callB P e.f=true∧∀(E:List Value) {args:Array Value} {H:PH} {R:Ending→PH→Prop},z07 (e.rs.flatMap RS.tags) E=true→args.toList=z19 e.rs E →
 den P (fun c H'=>R (.panicked c) H') e.fm E H [] (fun ve E' H' _=>R (.returned (evV E' (fun _=>0) ve)) H')→Tri P e.f args H R
def GV.tag:GV→Tag
 | .i _=>.int .i64 | .b _=>.bool | .s _=>.str | .pf=>.ptr | .pg=>.ptr | .sl=>.sl | .o _ t=>t
def garI(op:BinOp):GI→GI→Option GI
 | .lit a,.lit b=>some (.lit (arI op .i64 a b))
 |a,b=>if op=.add then some (.add a b)else none
def gcmp(op:BinOp):GV→GV→Option GV
 | .i (.lit a),.i (.lit b)=>some (.b (cmpI op a b))
 |_,_=>none
def gscmp(op:BinOp):GV→GV→Option GV
 | .s a,.s b=>if op=.eql then some (.b (decide (a=b)))else if op=.neq then some (.b (!decide (a=b)))else none
 |_,_=>none
def gnum:SV→Option GV→Option GV
 | .int _ k,_=>some (.i (.lit k))
 |_,o=>o
def gs(n:Nat)(G:List GV):SV→Option GV
 | .atom k=>G[k]?
 | .int .i64 k=>some (.i (.lit k))
 | .bool q=>some (.b q)
 | .str l=>some (.s l)
 | .ar op .i64 a b=>match gs n G a,gnum b (gs n G b)with
  |some (.i p),some (.i q)=>(garI op p q).map .i
  |_,_=>none
 | .cmp op a b=>match gs n G a,gs n G b with
  |some p,some q=>gcmp op p q
  |_,_=>none
 | .scmp op a b=>match gs n G a,gs n G b with
  |some p,some q=>gscmp op p q
  |_,_=>none
 | .len a=>match gs n G a with
  |some .sl=>some (.i (.lit n))
  |_=>none
 | .not a=>match gs n G a with
  |some (.b q)=>some (.b (!q))
  |_=>none
 | .pick c a b=>match gs n G c with
  |some (.b true)=>gs n G a
  |some (.b false)=>gs n G b
  |_=>none
 | .padd p 0=>match gs n G p with
  |some .pg=>some .pg
  |_=>none
 |_=>none
def ga(n:Nat)(G:List GV):SV→Option GV
 | .padd p 0=>match gs n G p with
  |some .pf=>if n<1000 then some .pg else none
  |_=>none
 | .elt s i 1=>match gs n G s,gs n G i with
  |some .sl,some (.i (.lit k))=>if n<1000∧0≤k∧k<n then some (.i (.arg k.toNat))else none
  |_,_=>none
 |_=>none
def gchk(n:Nat)(G:List GV):Chk→Bool
 | .some p=>match gs n G p with
  |some .pf=>true
  |some .pg=>true
  |_=>false
 | .inSl s i=>(ga n G (.elt s i 1)).isSome
 |_=>false
def gsame:GV→GV→Bool
 | .pg,.pg=>true
 | .i (.arg a),.i (.arg b)=>decide (a=b)
 |_,_=>false
def gpend(n:Nat)(G:List GV):List (SV×List SV)→Bool
 | []=>true
 | (p,[c])::l=>(match ga n G p,gs n G c with
  |some a,some b=>gsame a b
  |_,_=>false)&&gpend n G l
 |_=>false
def gall(n:Nat)(G:List GV):List SV→Option (List GV)
 | []=>some []
 |s::l=>match gs n G s,gall n G l with
  |some a,some m=>some (a::m)
  |_,_=>none
def gargs(n:Nat)(G:List GV):List VE→Option (List (Bool×List GV))
 | []=>some []
 | .sc s::l=>match gs n G s,gargs n G l with
  |some a,some m=>some ((false,[a])::m)
  |_,_=>none
 | .ag cs::l=>match gall n G cs,gargs n G l with
  |some a,some m=>some ((true,a)::m)
  |_,_=>none
 |_=>none
def gfit:List RS→List (Bool×List GV)→Bool
 | [],[]=>true
 | .sc t::rs,(false,[g])::az=>decide (g.tag=t)&&gfit rs az
 | .ag ts::rs,(true,gs)::az=>decide (gs.map GV.tag=ts)&&gfit rs az
 |_,_=>false
abbrev GPr:=FuncId→List (Bool×List GV)→GSt→Option (Option GV×GSt)
def gback(n:Nat)(G:List GV)(rs:RS)(pend:List (SV×List SV)):Option GV→Option (List GV)
 |none=>match rs with
  | .tu []=>if gpend n G pend then some G else none
  |_=>none
 |some g=>match rs with
  | .sc t=>if decide (g.tag=t)&&gpend n G pend then some (G++[g])else none
  |_=>none
abbrev GRun:=Fm VE→Option (List GV)→List GV→GSt→Option (GOut×GSt)
def gstep(n:Nat)(T:FuncId→Option GE)(pr:GPr)(ih:GRun):GRun
 | .leaf (.tu []),_,G,st=>some (.ret none G,st)
 | .leaf (.sc s),_,G,st=>(gs n G s).map fun g=>(.ret (some g) G,st)
 | .ite c a b,_,G,st=>match gs n G c with
  |some (.b true)=>ih a none G st
  |some (.b false)=>ih b none G st
  |_=>none
 | .chk _ c k,_,G,st=>if gchk n G c then ih k none G st else none
 | .hold p k,_,G,st=>if gpend n G p then ih k none G st else none
 | .load p ts k,_,G,st=>match ga n G p with
  |some g=>if ts=[g.tag]then ih k none (G++[g]) st else none
  |none=>none
 | .call (.fn f) args rs pend k,_,G,st=>match gargs n G args with
  |none=>none
  |some az=>match pr f az st with
   | some (v,st1)=>(match gback n G rs pend v with
    |some G'=>ih k none G' st1
    |none=>none)
   |none=>match T f with
    |none=>none
    | some e=>if gfit e.rs az then (match ih e.fm none (az.flatMap (·.2)) st with
     | some (.ret v _,st1)=>(match gback n G rs pend v with
      |some G'=>ih k none G' st1
      |none=>none)
     |_=>none)else none
 | .join id ts r m,_,G,st=>match ih m none G st with
  |some (.nxt i vs,st1)=>if i=id then ih r none (G++vs) st1 else some (.nxt i vs,st1)
  |o=>o
 | .next id vs,_,G,st=>(gall n G vs).map fun ws=>(.nxt id ws,st)
 | .loop id ts init body,lv,G,st=>match lv with
  |none=>match gall n G init with
   |some ws=>ih (.loop id ts init body) (some ws) G st
   |none=>none
  |some ws=>match ih body none (G++ws) st with
   |some (.nxt i vs,st1)=>if i=id then ih (.loop id ts init body) (some vs) G st1 else some (.nxt i vs,st1)
   |o=>o
 |_,_,_,_=>none
noncomputable def gI(n:Nat)(T:FuncId→Option GE)(pr:GPr)(d:Nat):GRun:=Nat.rec (motive:=fun _=>GRun) (fun _ _ _ _=>none) (fun _ ih=>gstep n T pr ih) d
theorem Zb9(n:Nat)(T:FuncId→Option GE)(pr:GPr)(d:Nat):gI n T pr (d+1)=gstep n T pr (gI n T pr d):=rfl
structure GNm where
 to:Int
 num:Int
 args:List Int
 get:Int→Int→Int
 getL:Int→Int→List ItemR
 setL:Int→Int→List ItemR
 numL:Int→Int→List ItemR
 askL:List ItemR
 cloL:List ItemR
 nx:Int
structure GC where
 n:GNm
 rf:Value
 rg:Value
 av:Value
 ov:Nat→Value
def GI.v(c:GNm):GI→Int
 | .lit n=>n
 | .to=>c.to
 | .num=>c.num
 | .arg j=>c.args.getD j 0
 | .get j s=>c.get (c.args.getD j 0) s
 | .nw j=>c.nx+(j:Int)
 | .add a b=>arI .add .i64 (a.v c) (b.v c)
def GV.rel(c:GC):GV→Value→Prop
 | .i g,v=>v=.int .i64 (g.v c.n)
 | .b q,v=>v=.bool q
 | .s l,v=>v=.string ⟨l.toArray⟩
 | .pf,v=>v=c.rf
 | .pg,v=>v=c.rg
 | .sl,v=>v=c.av
 | .o k t,v=>v=c.ov k∧t.ok v=true
def GV.argRel(c:GC)(a:Bool×List GV)(v:Value):Prop:=∃cs,All2 (GV.rel c) a.2 cs∧if a.1 then v=.agg cs.toArray else cs=[v]
def GV.retRel(c:GC):Option GV→Value→Prop
 |none,v=>v=.tuple #[]
 |some g,v=>g.rel c v
structure GOk(P:Program)(c:GC)(n:Nat)(T:FuncId→Option GE)(pr:GPr)(Inv:GSt→PH→Prop):Prop where
 tab:∀f e,T f=some e→e.f=f∧e.Ok P
 rg:∃r,c.rg=pAt r
 rf:∃r,c.rf=pAt r
 av:Tag.sl.ok c.av=true
 len:n=slLen c.av
 fbox:∀st H,n<1000→Inv st H→rowAt H (pOf c.rf) [c.rg]
 arg:∀st H k,n<1000→Inv st H→k<n→(z0b c.av).isSome=true∧rowAt H (pOf (eltV c.av (k:Int) 1)) [vi (c.n.args.getD k 0)]
 prim:∀f az st v st1,pr f az st=some (v,st1)→callB P f=true∧∀vs H,All2 (GV.argRel c) az vs→Inv st H→Tri P f vs.toArray H (fun e H'=>∃r,e=.returned r∧GV.retRel c v r∧Inv st1 H')
section
variable {P:Program}{c:GC}{n:Nat}{T:FuncId→Option GE}{pr:GPr}{Inv:GSt→PH→Prop}{G:List GV}{E:List Value}{H:PH}{st st1:GSt}
theorem All2.app2{α β:Type}{R:α→β→Prop}:∀{a c:List α} {b d:List β},All2 R a b→All2 R c d→All2 R (a++c) (b++d)
 | [],_,[],_,_,h=>h
 |_::_,_,_::_,_,.cons h1 h2,h=>.cons h1 (h2.app2 h)
theorem All2.get2{α β:Type}{R:α→β→Prop}:∀{a:List α} {b:List β},All2 R a b→∀{k:Nat} {x:α},a[k]?=some x→∃y,b[k]?=some y∧R x y
 |_::_,_::_,.cons h1 _,0,_,hk=>by simp only[List.getElem?_cons_zero,qG]at hk;subst hk;exact⟨_,rfl,h1⟩
 |_::_,_::_,.cons _ h2,k+1,_,hk=>h2.get2 (k:=k) hk
theorem All2.len2{α β:Type}{R:α→β→Prop}:∀{a:List α} {b:List β},All2 R a b→b.length=a.length
 |_,_,.nil=>rfl
 |_::_,_::_,.cons _ h2=>congrArg (·+1) h2.len2
theorem GV.tag_ok(h:GOk P c n T pr Inv){g:GV}{v:Value}(hr:g.rel c v):g.tag.ok v=true:=by
 obtain⟨r,hg⟩:=h.rg;obtain⟨q,hf⟩:=h.rf;have ha:=h.av;cases g<;>simp only[GV.rel]at hr<;>first
  |(subst hr;rfl)
  |(subst hr;simp only[GV.tag,hg];rfl)
  |(subst hr;simp only[GV.tag,hf];rfl)
  |(subst hr;exact ha)
  |exact hr.2
theorem Zm2{c:GNm}{op:BinOp}{p q r:GI}(h:garI op p q=some r):r.v c=arI op .i64 (p.v c) (q.v c):=by
 unfold garI at h;split at h
 .cases h;rfl
 .split at h
  .rename_i ho;cases h;subst ho;rfl
  .cases h
theorem gs_ok(h:GOk P c n T pr Inv)(hE:All2 (GV.rel c) G E):∀(s:SV)(g:GV),gs n G s=some g→g.rel c (ev0 E s)
 | .atom k,g,hs=>by
  obtain⟨v,h1,h2⟩:=hE.get2 (by simpa only[gs]using hs);have:ev0 E (.atom k)=v:=by simp[ev0,ev,zgd,h1]
  rw[this];exact h2
 | .int k m,g,hs=>by
  cases k<;>simp only[gs,qG,reduceCtorEq]at hs;subst hs;rfl
 | .bool q,g,hs=>by simp only[gs,qG]at hs;subst hs;rfl
 | .str l,g,hs=>by simp only[gs,qG]at hs;subst hs;rfl
 | .ar op k a b,g,hs=>by
  cases k<;>simp only[gs,reduceCtorEq]at hs;split at hs
  .rename_i p q e1 e2;have i1:=gs_ok h hE a _ e1;have ib:=gs_ok h hE b;have i2:iOf (ev0 E b)=q.v c.n:=by
    cases b with
    |int k m=>cases e2;rfl
    |_=>
     have:=ib _ e2;simp only[GV.rel]at this;rw[this];rfl
   simp only[GV.rel]at i1;cases hr:garI op p q with
   |none=>rw[hr]at hs;cases hs
   |some r=>
    rw[hr]at hs;cases hs;show Value.int .i64 (arI op .i64 (iOf (ev0 E a)) (iOf (ev0 E b)))=.int .i64 (r.v c.n);rw[Zm2 hr,i1,i2];rfl
  .cases hs
 | .cmp op a b,g,hs=>by
  simp only[gs]at hs;split at hs
  .rename_i p q e1 e2;have i1:=gs_ok h hE a _ e1;have i2:=gs_ok h hE b _ e2;unfold gcmp at hs;split at hs
   .cases hs;simp only[GV.rel]at i1 i2;show Value.bool (cmpI op (iOf (ev0 E a)) (iOf (ev0 E b)))=_;rw[i1,i2];rfl
   .cases hs
  .cases hs
 | .scmp op a b,g,hs=>by
  simp only[gs]at hs;split at hs
  .rename_i p q e1 e2;have i1:=gs_ok h hE a _ e1;have i2:=gs_ok h hE b _ e2;unfold gscmp at hs;split at hs
   .split at hs
    .rename_i ho;subst ho;cases hs;simp only[GV.rel]at i1 i2;show Value.bool (cmpS .eql (sOf (ev0 E a)) (sOf (ev0 E b)))=_;rw[i1,i2];simp only[sOf,z0m]
    .split at hs
     .rename_i ho;subst ho;cases hs;simp only[GV.rel]at i1 i2;show Value.bool (!cmpS .eql (sOf (ev0 E a)) (sOf (ev0 E b)))=_;rw[i1,i2];simp only[sOf,z0m]
     .cases hs
   .cases hs
  .cases hs
 | .len a,g,hs=>by
  simp only[gs]at hs;split at hs
  .rename_i e1;have i1:=gs_ok h hE a _ e1;cases hs;simp only[GV.rel]at i1;show Value.int .i64 (slLen (ev0 E a))=.int .i64 (n:Int);rw[i1,h.len]
  .cases hs
 | .not a,g,hs=>by
  simp only[gs]at hs;split at hs
  .rename_i e1;have i1:=gs_ok h hE a _ e1;cases hs;simp only[GV.rel]at i1;show Value.bool (!bOf (ev0 E a))=_;rw[i1];rfl
  .cases hs
 | .pick d a b,g,hs=>by
  simp only[gs]at hs;have hv:ev0 E (.pick d a b)=if bOf (ev0 E d)then ev0 E a else ev0 E b:=rfl
  split at hs
  .rename_i e1;have i1:=gs_ok h hE d _ e1;simp only[GV.rel]at i1;rw[hv,i1];exact gs_ok h hE a _ hs
  .rename_i e1;have i1:=gs_ok h hE d _ e1;simp only[GV.rel]at i1;rw[hv,i1];exact gs_ok h hE b _ hs
  .cases hs
 | .padd p k,g,hs=>by
  cases k with
  |succ k=>simp only[gs,reduceCtorEq]at hs
  |zero=>
   simp only[gs]at hs;split at hs
   .rename_i e1;have i1:=gs_ok h hE p _ e1;cases hs;simp only[GV.rel]at i1;obtain⟨r,hg⟩:=h.rg;show Value.pointer ((pOf (ev0 E p)).map (·.add 0))=c.rg;rw[i1,hg];rfl
   .cases hs
 | .nil _,g,hs | .fn _,g,hs | .glob _,g,hs | .box _ _,g,hs | .beq _ _,g,hs | .isnil _,g,hs | .com _ _,g,hs | .conv _ _,g,hs | .cap _,g,hs | .slen _,g,hs | .elt _ _ _,g,hs | .sidx _ _,g,hs | .ssub _ _ _,g,hs | .cat _ _,g,hs | .sls _ _ _ _,g,hs=>by simp only[gs,reduceCtorEq]at hs
theorem ga_ok(h:GOk P c n T pr Inv)(hE:All2 (GV.rel c) G E)(hI:Inv st H){p:SV}{g:GV}(hg:ga n G p=some g):∃v,g.rel c v∧rowAt H (pOf (ev0 E p)) [v]∧∀w,gsame g w=true→∀u,w.rel c u→u=v:=by
 unfold ga at hg;split at hg
 .rename_i q;split at hg
  .rename_i e1;have i1:=gs_ok h hE q _ e1;split at hg
   case isFalse=>cases hg
   rename_i hn;cases hg;simp only[GV.rel]at i1;refine⟨c.rg,rfl,?_,fun w hw u hu=>?_⟩
   .have:=h.fbox st H hn hI;obtain⟨r,hr⟩:=h.rf;show rowAt H ((pOf (ev0 E q)).map (·.add 0)) [c.rg];rw[i1];rw[hr]at this⊢;exact this
   .cases w<;>simp only[gsame,qp]at hw;exact hu
  .cases hg
 .rename_i s i;split at hg
  .rename_i k e1 e2;split at hg
   .rename_i hk;have i1:=gs_ok h hE s _ e1;have i2:=gs_ok h hE i _ e2;cases hg;simp only[GV.rel]at i1 i2;refine⟨_,rfl,?_,fun w hw u hu=>?_⟩
    .have:=(h.arg st H k.toNat hk.1 hI om).2;show rowAt H (pOf (eltV (ev0 E s) (iOf (ev0 E i)) 1)) _;rw[i1,i2];have e:((k.toNat:Nat):Int)=k:=om;rw[e]at this;exact this
    .cases w with
     |i q=>
      cases q<;>simp only[gsame,qp,zdt]at hw;subst hw;exact hu
     |_=>simp only[gsame,qp]at hw
   .cases hg
  .cases hg
 .cases hg
theorem Zkz(h:GOk P c n T pr Inv)(hE:All2 (GV.rel c) G E)(hI:Inv st H){k:Chk}(hk:gchk n G k=true):k.holds E:=by
 cases k with
 |some p=>
  simp only[gchk]at hk;obtain⟨r,hr⟩:=h.rg;obtain⟨q,hq⟩:=h.rf;split at hk
  .rename_i e1;have i1:=gs_ok h hE p _ e1;simp only[GV.rel]at i1;show(pOf (ev0 E p)).isSome=true;rw[i1,hq];rfl
  .rename_i e1;have i1:=gs_ok h hE p _ e1;simp only[GV.rel]at i1;show(pOf (ev0 E p)).isSome=true;rw[i1,hr];rfl
  .cases hk
 |inSl s i=>
  simp only[gchk,ga]at hk;split at hk
  .rename_i k e1 e2;split at hk
   .rename_i hb;have i1:=gs_ok h hE s _ e1;have i2:=gs_ok h hE i _ e2;simp only[GV.rel]at i1 i2;have h1:=(h.arg st H k.toNat hb.1 hI om).1;have h2:=h.len;simp only[Chk.holds,i1,i2];exact⟨h1,hb.2.1,by show k<_;omega⟩
   .cases hk
  .cases hk
 |_=>simp only[gchk,qp]at hk
theorem zq8(h:GOk P c n T pr Inv)(hE:All2 (GV.rel c) G E)(hI:Inv st H):∀{l:List (SV×List SV)},gpend n G l=true→z0s E H l
 | [],_=>fun x hx=>by cases hx
 |(p,cs)::l,hp=>by
  unfold gpend at hp;split at hp
  .rename_i heq;cases heq
  .rename_i heq;cases heq;simp only[zba]at hp;obtain⟨h1,h2⟩:=hp;split at h1
   .rename_i a b e1 e2;obtain⟨v,g1,g2,g3⟩:=ga_ok h hE hI e1;have:=g3 b h1 _ (gs_ok h hE _ _ e2);intro x hx;rcases zmc.1 hx with rfl|hx
    .simp only[wa,List.map_nil,this];exact g2
    .exact zq8 h hE hI h2 x hx
   .cases h1
  .cases hp
theorem znm(h:GOk P c n T pr Inv)(hE:All2 (GV.rel c) G E):∀{l:List SV} {m:List GV},gall n G l=some m→All2 (GV.rel c) m (l.map (ev0 E))
 | [],m,hm=>by simp only[gall,qG]at hm;subst hm;exact .nil
 |s::l,m,hm=>by
  simp only[gall]at hm;split at hm
  .rename_i a m1 e1 e2;cases hm;exact .cons (gs_ok h hE s _ e1) (znm h hE e2)
  .cases hm
theorem Z34(h:GOk P c n T pr Inv):∀{m:List GV} {vs:List Value},All2 (GV.rel c) m vs→z07 (m.map GV.tag) vs=true
 |_,_,.nil=>rfl
 |_::_,_::_,.cons h1 h2=>by
  simp only[wa,z07,zba];exact⟨GV.tag_ok h h1,Z34 h h2⟩
theorem zt7(h:GOk P c n T pr Inv)(hE:All2 (GV.rel c) G E):∀{l:List VE} {az:List (Bool×List GV)},gargs n G l=some az→All2 (GV.argRel c) az (l.map (evV E fun _=>0))
 | [],az,hm=>by simp only[gargs,qG]at hm;subst hm;exact .nil
 | .sc s::l,az,hm=>by
  simp only[gargs]at hm;split at hm
  .rename_i a m1 e1 e2;cases hm;exact .cons ⟨[_],.cons (gs_ok h hE s _ e1) .nil,rfl⟩ (zt7 h hE e2)
  .cases hm
 | .ag cs::l,az,hm=>by
  simp only[gargs]at hm;split at hm
  .rename_i a m1 e1 e2;cases hm;exact .cons ⟨_,znm h hE e1,rfl⟩ (zt7 h hE e2)
  .cases hm
 | .junk::l,az,hm | .tu _::l,az,hm=>by simp only[gargs,reduceCtorEq]at hm
theorem Z15(h:GOk P c n T pr Inv)(hE:All2 (GV.rel c) G E):∀{l:List VE} {az:List (Bool×List GV)} {rs:List RS},gargs n G l=some az→gfit rs az=true →
  ∃E',All2 (GV.rel c) (az.flatMap (·.2)) E'∧z07 (rs.flatMap RS.tags) E'=true∧l.map (evV E fun _=>0)=z19 rs E'
 | [],az,rs,hm,hf=>by
  simp only[gargs,qG]at hm;subst hm;cases rs with
  |nil=>exact⟨[],.nil,rfl,rfl⟩
  |cons r rs=>cases r<;>simp[gfit]at hf
 | .sc s::l,az,rs,hm,hf=>by
  simp only[gargs]at hm;split at hm
  .rename_i a m1 e1 e2;cases hm;cases rs with
   |nil=>simp[gfit]at hf
   |cons r rs=>
    cases r<;>simp only[gfit,zba,zdt,qp]at hf;obtain⟨rfl,h2⟩:=hf;obtain⟨E',g1,g2,g3⟩:=Z15 h hE e2 h2;have i1:=gs_ok h hE s _ e1;refine⟨ev0 E s::E',.cons i1 g1,?_,?_⟩
    .simp only[qQ,RS.tags,cns,z07,zba];exact⟨GV.tag_ok h i1,g2⟩
    .simp only[wa,z19,RS.tags,RS.pack,List.length_singleton,List.take_succ_cons,List.take_zero,List.drop_succ_cons,List.drop_zero,List.headD_cons,g3];rfl
  .cases hm
 | .ag cs::l,az,rs,hm,hf=>by
  simp only[gargs]at hm;split at hm
  .rename_i a m1 e1 e2;cases hm;cases rs with
   |nil=>simp[gfit]at hf
   |cons r rs=>
    cases r<;>simp only[gfit,zba,zdt,qp]at hf;obtain⟨rfl,h2⟩:=hf;obtain⟨E',g1,g2,g3⟩:=Z15 h hE e2 h2;have i1:=znm h hE e1;have il:=i1.len2;refine⟨cs.map (ev0 E)++E',i1.app2 g1,?_,?_⟩
    .simp only[qQ,RS.tags];exact zf4 (Z34 h i1) g2
    .have hl:(a.map GV.tag).length=(cs.map (ev0 E)).length:=by rw[zlm,il]
     simp only[wa,z19,RS.tags,RS.pack,hl,List.take_left,List.drop_left,g3];rfl
  .cases hm
 | .junk::l,az,rs,hm,_ | .tu _::l,az,rs,hm,_=>by simp only[gargs,reduceCtorEq]at hm
def GPost(c:GC)(Inv:GSt→PH→Prop)(out:GOut)(st:GSt)(L:LK)(K:VE→List Value→PH→LK→Prop):Prop:=
 match out with
 | .ret v G=>∀x E H L,All2 (GV.rel c) G E→GV.retRel c v (evV E (fun _=>0) x)→Inv st H→K x E H L
 | .nxt id ws=>∃J,L.lookup id=some J∧∀vs H,All2 (GV.rel c) ws vs→Inv st H→J vs H
theorem GPost.under{out:GOut}{L:LK}{K:VE→List Value→PH→LK→Prop}{id:Nat}{J:List Value→PH→Prop}(h:GPost c Inv out st L K)(hn:∀ws,out≠.nxt id ws):GPost c Inv out st ((id,J)::L) K:=by
 cases out with
 |ret v _=>exact h
 |nxt i ws=>
  obtain⟨J',h1,h2⟩:=h;exact⟨J',(z1f (fun e=>hn ws (by rw[e]))).trans h1,h2⟩
theorem Z4y(h:GOk P c n T pr Inv)(hE:All2 (GV.rel c) G E){rs:RS}{pend:List (SV×List SV)}{v:Option GV}{G':List GV}{r:Value}(hb:gback n G rs pend v=some G')(hv:GV.retRel c v r)(hI:Inv st H):
  ∃vs,z07 rs.tags vs=true∧r=rs.pack vs∧z0s E H pend∧All2 (GV.rel c) G' (E++vs):=by
 cases v with
 |none=>
  simp only[gback]at hb;split at hb
  .split at hb
   .rename_i hp;cases hb;exact⟨[],rfl,hv,zq8 h hE hI hp,by rw[zan];exact hE⟩
   .cases hb
  .cases hb
 |some g=>
  simp only[gback]at hb;split at hb
  .split at hb
   .rename_i hp;cases hb;simp only[zba,zdt]at hp;obtain⟨rfl,hp⟩:=hp;refine⟨[r],?_,rfl,zq8 h hE hI hp,hE.app2 (.cons hv .nil)⟩;simp only[RS.tags,z07,Bool.and_true];exact GV.tag_ok h hv
   .cases hb
  .cases hb
theorem gI_ok(h:GOk P c n T pr Inv):∀(d:Nat)(fm:Fm VE)(G:List GV)(st:GSt)(out:GOut)(st1:GSt),gI n T pr d fm none G st=some (out,st1) →
  ∀(E:List Value)(H:PH)(L:LK)(X:List PanicEntry→PH→Prop)(K:VE→List Value→PH→LK→Prop),All2 (GV.rel c) G E→Inv st H→GPost c Inv out st1 L K→den P X fm E H L K:=by
 intro d
 induction d using Nat.strongRecOn with
 |_ d IH=>
 intro fm G st out st1 hr E H L X K hE hI hK;cases d with
 |zero=>cases hr
 |succ d=>
 have ih:=IH d (Nat.lt_succ_self d);rw[Zb9]at hr;cases fm with
 |leaf x=>
  cases x with
  |tu vs=>
   cases vs with
   |nil=>cases hr;exact hK _ E H L hE rfl hI
   |cons _ _=>cases hr
  |sc s=>
   simp only[gstep]at hr;cases hg:gs n G s with
   |none=>rw[hg]at hr;cases hr
   |some g=>rw[hg]at hr;cases hr;exact hK _ E H L hE (gs_ok h hE s g hg) hI
  |junk=>cases hr
  |ag _=>cases hr
 |fail w=>cases hr
 |ite q a b=>
  simp only[gstep]at hr;split at hr
  .rename_i e1;have i1:ev0 E q=.bool true:=gs_ok h hE q _ e1;refine⟨fun _=>ih _ _ _ _ _ hr E H L X K hE hI hK,fun hn=>?_⟩;rw[i1]at hn;cases hn
  .rename_i e1;have i1:ev0 E q=.bool false:=gs_ok h hE q _ e1;refine⟨fun hn=>?_,fun _=>ih _ _ _ _ _ hr E H L X K hE hI hK⟩;rw[i1]at hn;cases hn
  .cases hr
 |chk g q k=>
  simp only[gstep]at hr;split at hr
  .rename_i hq;exact⟨fun _=>Zkz h hE hI hq,ih _ _ _ _ _ hr E H L X K hE hI hK⟩
  .cases hr
 |hold p k=>
  simp only[gstep]at hr;split at hr
  .rename_i hq;exact⟨zq8 h hE hI hq,ih _ _ _ _ _ hr E H L X K hE hI hK⟩
  .cases hr
 |load p ts k=>
  simp only[gstep]at hr;split at hr
  .rename_i g hg;split at hr
   .rename_i ht;subst ht;obtain⟨v,g1,g2,_⟩:=ga_ok h hE hI hg;refine⟨[v],?_,g2,ih _ _ _ _ _ hr _ H L X K (hE.app2 (.cons g1 .nil)) hI hK⟩;simp only[z07,Bool.and_true];exact GV.tag_ok h g1
   .cases hr
  .cases hr
 |call q args rs pend k=>
  cases q with
  |fn f=>
   simp only[gstep]at hr;split at hr
   .cases hr
   rename_i az haz;split at hr
   .rename_i v st2 hp;split at hr
    .rename_i G' hb;obtain⟨hc,ht⟩:=h.prim _ _ _ _ _ hp;refine z02 hc (ht _ H (zt7 h hE haz) hI) ?_;rintro e H' ⟨r,rfl,h1,h2⟩;obtain⟨vs,b1,b2,b3,b4⟩:=Z4y h hE hb h1 h2;exact⟨r,vs,rfl,b1,b2,b3,ih _ _ _ _ _ hr _ H' L X K b4 h2 hK⟩
    .cases hr
   .split at hr
    .cases hr
    rename_i e he;split at hr
    .rename_i hf;split at hr
     .rename_i v _ st2 hsub;split at hr
      .rename_i G' hb;obtain⟨rfl,hc,ho⟩:=h.tab _ _ he;obtain⟨E',a1,a2,a3⟩:=Z15 h hE haz hf;refine z02 hc (R:=fun e H'=>∃r,e=.returned r∧GV.retRel c v r∧Inv st2 H') (ho E' a2 (by rw[List.toList_toArray];exact a3) ?_) ?_
       .exact ih _ _ _ _ _ hsub E' H [] _ _ a1 hI fun x E2 H2 L2 _ h1 h2=>⟨_,rfl,h1,h2⟩
       .rintro e' H' ⟨r,rfl,h1,h2⟩;obtain⟨vs,b1,b2,b3,b4⟩:=Z4y h hE hb h1 h2;exact⟨r,vs,rfl,b1,b2,b3,ih _ _ _ _ _ hr _ H' L X K b4 h2 hK⟩
      .cases hr
     .cases hr
    .cases hr
  |_=>cases hr
 |join id ts r m=>
  simp only[gstep]at hr;split at hr
  .rename_i i vs st2 hm;split at hr
   .rename_i hi;subst hi;exact ⟨fun us H'=>All2 (GV.rel c) vs us∧Inv st2 H',fun us H' _ hj=>ih _ _ _ _ _ hr _ H' L X K (hE.app2 hj.1) hj.2 hK,
     ih _ _ _ _ _ hm E H _ X K hE hI ⟨_,z00,fun us H' h1 h2=>⟨h1,h2⟩⟩⟩
   .rename_i hi;cases hr;exact⟨fun _ _=>False,fun _ _ _ hj=>hj.elim,ih _ _ _ _ _ hm E H _ X K hE hI (hK.under fun ws e=>hi (by cases e;rfl))⟩
  .rename_i hno;rw[hr]at hno;exact⟨fun _ _=>False,fun _ _ _ hj=>hj.elim,ih _ _ _ _ _ hr E H _ X K hE hI (hK.under fun ws e=>hno _ _ _ (by rw[e]))⟩
 |next id vs=>
  simp only[gstep]at hr;cases hg:gall n G vs with
  |none=>rw[hg]at hr;cases hr
  |some ws=>
   rw[hg]at hr;cases hr;obtain⟨J,h1,h2⟩:=hK;exact⟨J,h1,h2 _ H (znm h hE hg) hI⟩
 |loop id ts init body=>
  simp only[gstep]at hr;split at hr
  .rename_i ws0 hg;refine⟨fun m us H'=>m≤d∧∃ws st',gI n T pr m (.loop id ts init body) (some ws) G st'=some (out,st1)∧All2 (GV.rel c) ws us∧Inv st' H',⟨d,we d,ws0,st,hr,znm h hE hg,hI⟩,?_⟩;rintro m us H' _ ⟨hm,ws,st',hr',hws,hI'⟩;cases m with
   |zero=>cases hr'
   |succ m=>
   rw[Zb9]at hr';simp only[gstep]at hr';split at hr'
   .rename_i i vs st2 hb;split at hr'
    .rename_i hi;subst hi;exact IH m om _ _ _ _ _ hb _ H' _ X K (hE.app2 hws) hI' ⟨_,z00,fun us' H'' h1 h2=>⟨m,Nat.lt_succ_self m,om,vs,st2,hr',h1,h2⟩⟩
    .rename_i hi;cases hr';exact IH m om _ _ _ _ _ hb _ H' _ X K (hE.app2 hws) hI' (hK.under fun ws e=>hi (by cases e;rfl))
   .rename_i hno;rw[hr']at hno;exact IH m om _ _ _ _ _ hr' _ H' _ X K (hE.app2 hws) hI' (hK.under fun ws e=>hno _ _ _ (by rw[e]))
  .cases hr
 |store _ _ _=>cases hr
 |new _ _ _=>cases hr
 |sem _ _ _ _ _ _=>cases hr
 |alt _ _ _ _ _ _ _=>cases hr
 |both _ _=>cases hr
 |far _ _ _ _ _=>cases hr
end
def GS.l(c:GNm):GS→List ItemR
 | .it k op a b d n lab w=>[⟨k,⟨op.v c,a.v c,b.v c,d.v c,n.v c⟩,lab.v c,w.v c⟩]
 | .get j s=>c.getL (c.args.getD j 0) s
 | .set g=>c.setL c.to (g.v c)
 | .nmb g=>c.numL c.to (g.v c)
 | .ask=>c.askL
 | .clo=>c.cloL
def emS(f:FuncId):List GI→Option (List GS)
 | [op,a,b,n]=>
  if f=97 then some [.it 0 op a b (.lit 0) n (.lit 0) (.lit 0)]
  else if f=62 then some [.it 0 op a b n (.lit 0) (.lit 0) (.lit 0)]
  else if f=59 then some [.it 2 op a b (.lit 0) (.lit 0) n (.lit 0)]else none
 | [a,b,n]=>
  if f=55 then some [.it 0 (.lit 22) a b (.lit 0) n (.lit 0) (.lit 0)]
  else if f=54 then some [.it 0 (.lit 23) a b (.lit 0) n (.lit 0) (.lit 0)]else none
 | [a,n]=>
  if f=57 then some [.it 4 (.lit 20) a (.lit 0) (.lit 0) (.lit 0) (.lit 0) n]
  else if f=151 then some [.it 5 (.lit 20) a (.lit 0) (.lit 0) (.lit 0) n (.lit 0)]
  else if f=58 then some [.it 3 (.lit 28) a (.lit 0) (.lit 0) (.lit 0) n (.lit 0)]
  else if f=56 then some [.it 0 (.lit 15) a n (.lit 0) (.lit 0) (.lit 0) (.lit 0)]
  else if f=53 then some [.it 4 (.lit 20) a (.lit 0) (.lit 0) (.lit 0) (.lit 0) n,.it 0 (.lit 0) a (.lit 0) (.lit 0) (.lit 0) (.lit 0) (.lit 0)]else none
 | [n]=>
  if f=51 then some [.it 1 (.lit 0) (.lit 0) (.lit 0) (.lit 0) (.lit 0) n (.lit 0)]
  else if f=60 then some [.it 3 (.lit 28) (.lit 0) (.lit 0) (.lit 0) (.lit 0) n (.lit 0)]
  else if f=63 then some [.it 0 (.lit 29) (.lit 0) n (.lit 0) (.lit 0) (.lit 0) (.lit 0)]else none
 |_=>none
def GI.ok(n nl:Nat):GI→Bool
 | .lit k=>decide (InI k)
 | .num=>true
 | .get j s=>decide (j<n)&&decide (InI s)
 | .nw j=>decide (j<nl)
 | .add _ _=>true
 |_=>false
def gis:List (Bool×List GV)→Option (List GI)
 | []=>some []
 |(false,[.i g])::l=>(gis l).map (g::·)
 |_=>none
def prE(n:Nat)(f:FuncId)(az:List (Bool×List GV))(st:GSt):Option (Option GV×GSt):=
 match az with
 |(false,[.pg])::ws=>match gis ws with
  |some l=>match emS f l with
   |some ss=>if l.all (GI.ok n st.nl)&&decide (ss.length≤st.left)then some (none,⟨st.segs++ss,st.nl,st.left-ss.length⟩)else none
   |none=>none
  |none=>none
 |_=>none
section
variable {S0 K:PH}{r:Nat}{T:TypeId}{rest:List Value}{l:List ItemR}{k:Nat}{J:List Itm}{c:GNm}
theorem EmH.le{K':PH}(h:EmH S0 K r T rest l k J)(hl:PH.le K K'):EmH S0 K' r T rest l k J:=by
 obtain⟨h1,S,iv,h2,h3⟩:=h;exact⟨h1,S,iv,h2,h3.le hl⟩
theorem EmH.re{k':Nat}(h:EmH S0 K r T rest l k J)(hl:l.length+k'≤1099511627776):EmH S0 K r T rest l k' J:=⟨hl,h.2⟩
theorem inJ{n:Int}(h0:-9223372036854775808≤n)(h1:n≤9223372036854775807):InI n:=⟨h0,h1⟩
theorem Zf5{f:FuncId}{l0:List GI}{ss:List GS}(h:emS f l0=some ss)(hb:∀g∈l0,InI (g.v c)):
  ∀k K,EmH S0 K r T rest l (k+ss.length) J→Tri zP f (pAt r::l0.map fun g=>.int .i64 (g.v c)).toArray K (EmQ S0 r T rest (l++ss.flatMap (GS.l c)) k J):=by
 unfold emS at h;split at h
 .rename_i op a b n;have h1:=hb op sM;have h2:=hb a sM;have h3:=hb b sM;have h4:=hb n sM;split at h
  .rename_i hf;cases h;subst hf;exact fun k K h0=>z24 _ _ _ _ h1 h2 h3 h4 h0
  split at h
  .rename_i hf;cases h;subst hf;exact fun k K h0=>Zit _ _ _ _ h1 h2 h3 h4 h0
  split at h
  .rename_i hf;cases h;subst hf;exact fun k K h0=>If_em _ _ _ _ h1 h2 h3 h4 h0
  .cases h
 .rename_i a b n;have h1:=hb a sM;have h2:=hb b sM;have h3:=hb n sM;split at h
  .rename_i hf;cases h;subst hf;exact fun k K h0=>znu _ _ _ h1 h2 h3 h0
  split at h
  .rename_i hf;cases h;subst hf;exact fun k K h0=>z5h _ _ _ h1 h2 h3 h0
  .cases h
 .rename_i a n;have h1:=hb a sM;have h2:=hb n sM;split at h
  .rename_i hf;cases h;subst hf;exact fun k K h0=>z1r _ _ h1 h2 h0
  split at h
  .rename_i hf;cases h;subst hf;exact fun k K h0=>zvl _ _ h1 h2 h0
  split at h
  .rename_i hf;cases h;subst hf;exact fun k K h0=>ztc _ _ h1 h2 h0
  split at h
  .rename_i hf;cases h;subst hf;exact fun k K h0=>zn4 _ _ h1 h2 h0
  split at h
  .rename_i hf;cases h;subst hf;intro k K h0;have:=Zm4 _ _ h1 h2 h0;rw[zaa]at this;exact this
  .cases h
 .rename_i n;have h1:=hb n sM;split at h
  .rename_i hf;cases h;subst hf;exact fun k K h0=>z5j _ h1 h0
  split at h
  .rename_i hf;cases h;subst hf;exact fun k K h0=>z6v _ h1 h0
  split at h
  .rename_i hf;cases h;subst hf;exact fun k K h0=>Zle _ h1 h0
  .cases h
 .cases h
theorem Zfk{f:FuncId}{l0:List GI}{ss:List GS}(h:emS f l0=some ss):callB zP f=true:=by
 unfold emS at h;split at h
 all_goals repeat' split at h
 all_goals first|cases h|(rename_i hf;subst hf;kernel_rfl)
 all_goals (rename_i hf;subst hf;kernel_rfl)
theorem z3o{c:GC}{g:GV}{v:Value}(h:GV.argRel c (false,[g]) v):g.rel c v:=by
 obtain⟨cs,h1,h2⟩:=h;have e:cs=[v]:=h2;subst e;cases h1 with
 |cons h _=>exact h
theorem Z4t{c:GC}:∀{ws:List (Bool×List GV)} {l0:List GI} {vs:List Value},gis ws=some l0→All2 (GV.argRel c) ws vs→vs=l0.map fun g=>.int .i64 (g.v c.n)
 | [],l0,[],h,.nil=>by simp only[gis,qG]at h;subst h;rfl
 |a::ws,l0,v::vs,h,.cons h1 h2=>by
  unfold gis at h;split at h
  .rename_i heq;cases heq
  .rename_i heq;cases heq;simp only[qR]at h;obtain⟨m,hm,rfl⟩:=h;rw[Z4t hm h2,show v=_ from z3o h1];rfl
  .cases h
theorem Zmd(a b:Int):InI (arI .add .i64 a b):=by
 have h:∀n:Int,-9223372036854775808≤IntKind.i64.wrap n∧IntKind.i64.wrap n≤9223372036854775807:=fun n=>by
  simp only[IntKind.wrap,IntKind.bits,IntKind.signed];simp;split<;>omega
 exact h _
theorem GI.ok_v{n nl:Nat}{g:GI}(h:g.ok n nl=true)(hnum:InI c.num)(hget:∀j s,j<n→InI s→InI (c.get (c.args.getD j 0) s))(hnw:∀j,j<nl→InI (c.nx+(j:Int))):InI (g.v c):=by
 cases g with
 |lit k=>exact qZ h
 |num=>exact hnum
 |get j s=>
  simp only[GI.ok,zba,zdt]at h;exact hget j s h.1 h.2
 |nw j=>exact hnw j (qZ h)
 |add a b=>exact Zmd _ _
 |to=>cases h
 |arg _=>cases h
end
def cN:GNm:=⟨0,0,[],fun _ _=>0,fun _ _=>[],fun _ _=>[],fun _ _=>[],[],[],0⟩
def cR(r:Nat):GC:=⟨cN,pAt r,pAt r,.slice none 1000 1000,fun _=>.bool false⟩
noncomputable def tabRt:List GE:=
  [⟨46,z0c zP Tryz.f46,zlh⟩,⟨47,z0c zP Tryz.f47,zor⟩,⟨48,z0c zP Tryz.f48,zkw⟩,
   ⟨49,z0c zP Tryz.f49,zcc⟩,⟨50,z0c zP Tryz.f50,zl8⟩,⟨52,z0c zP Tryz.f52,zet⟩,
   ⟨93,z0c zP Tryz.f93,zhw⟩,⟨94,z0c zP Tryz.f94,zp9⟩,⟨95,z0c zP Tryz.f95,zq9⟩,
   ⟨96,z0c zP Tryz.f96,zq7⟩,⟨98,z0c zP Tryz.f98,zme⟩,⟨61,z0c zP Tryz.f61,zq5⟩,⟨64,z0c zP Tryz.f64,zey⟩]
theorem GE.c{P:Program}{e:GE}{l:List GE}(h1:e.Ok P)(h2:∀e∈l,e.Ok P):∀d∈e::l,d.Ok P:=fun d hd=>by
 rcases zmc.1 hd with rfl|h
 .exact h1
 .exact h2 d h
theorem Zjt:∀e∈tabRt,e.Ok zP:=
 GE.c ⟨(qb 46),@Z4s⟩<|GE.c ⟨(qb 47),@Z9a⟩<|GE.c ⟨(qb 48),@Z53⟩<|GE.c ⟨(qb 49),@zvv⟩<|GE.c ⟨(qb 50),@Z4p⟩<|GE.c ⟨(qb 52),@Z13⟩<|GE.c ⟨(qb 93),@Z3n⟩<|GE.c ⟨(qb 94),@Zag⟩<|GE.c ⟨(qb 95),@Z9c⟩<|GE.c ⟨(qb 96),@Z9u⟩<|GE.c ⟨(qb 98),@Z6w⟩<|GE.c ⟨(qb 61),@Zaq⟩<|GE.c ⟨(qb 64),@zz9⟩<|fun _ h=>nomatch h
noncomputable def tabF(t:List GE)(f:FuncId):Option GE:=t.find? fun e=>decide (e.f=f)
theorem Zbr{P:Program}{t:List GE}(h:∀e∈t,e.Ok P)(f:FuncId)(e:GE)(he:tabF t f=some e):e.f=f∧e.Ok P:=
 ⟨qZ (List.find?_some (p:=fun e:GE=>decide (e.f=f)) he),h e (List.mem_of_find?_eq_some he)⟩
def cutF:Fm VE→Fm VE
 | .call f a r p k=>.call f a r p (cutF k)
 | .loop i t v b=>.loop i t v (cutF b)
 | .ite c a b=>.ite c (cutF a) (cutF b)
 | .chk _ (.some _) _=>.leaf (.tu [])
 |o=>o
def bodyN:Fm VE→Fm VE
 | .new _ _ k=>k
 |o=>o
def tailF(k:Nat):Fm VE:=.chk [] (.some (.atom 0)) (.load (.padd (.atom 0) 0) [.sl] (.leaf (.sc (.atom k))))
noncomputable def codeO(fm:Fm VE):Option (GOut×GSt):=gI 1000 (tabF tabRt) (prE 1000) 400 (cutF (bodyN fm)) none [.pg] ⟨[],0,100000⟩
def okO(k:Nat):Option (GOut×GSt)→Bool
 |some (.ret none (.pg::G),_)=>decide (G.length+1=k)
 |_=>false
def zz5:Option (GOut×GSt)→List ItemR
 |some (_,st)=>st.segs.flatMap (GS.l cN)
 |none=>[]
theorem Z76{f:FuncId}{fn:Func}{fm:Fm VE}(ht:TriOf zP f fn fm)(hn:z0c zP fn=[])(k:Nat)(hfm:fm=.new 98 [.nil 1] ((cutF (bodyN fm)).bind fun _=>tailF k))(hok:okO k (codeO fm)=true)(S:PH):
  Tri zP f #[] S fun e K'=>∃v,e=.returned v∧SlR K' (zz5 (codeO fm)) v∧PH.le S K':=by
 refine ht [] (by rw[hn];rfl) (by rw[hn];rfl) ?_;cases hO:codeO fm with
 |none=>rw[hO]at hok;cases hok
 |some o=>
 obtain⟨out,st1⟩:=o;rw[hO]at hok;unfold okO at hok;split at hok
 case h_2=>cases hok
 rename_i G st2 heq;cases heq;have hk:=qZ hok;rw[hfm];refine z31 (vs:=[.slice none 0 0]) (Held.nil (wx S)) kr fun r K1 l1 h1=>?_;have e0:EmH S K1 r 98 [] [] (0+100000) []:=⟨dC,S,_,wx S,(h1.empty (α:=ItemR) 131).perm (qq _ _ _)⟩;rw[Z21];have hG:GOk zP (cR r) 1000 (tabF tabRt) (prE 1000) fun st H=>st.nl=0∧EmH S H r 98 [] (st.segs.flatMap (GS.l cN)) (0+st.left) []:=by
  refine⟨Zbr Zjt,⟨r,rfl⟩,⟨r,rfl⟩,rfl,rfl,fun _ _ h=>absurd h dC,fun _ _ _ h=>absurd h dC,?_⟩;intro f az st v st2 hp;unfold prE at hp;split at hp
  case h_2=>cases hp
  rename_i ws;split at hp
  case h_2=>cases hp
  rename_i l0 hl;split at hp
  case h_2=>cases hp
  rename_i ss hs;split at hp
  case isFalse=>cases hp
  rename_i hq;cases hp;simp only[zba,zdt,zat]at hq;have key:st.nl=0→∀k K,EmH S K r 98 [] (st.segs.flatMap (GS.l cN)) (k+ss.length) []→Tri zP f (pAt r::l0.map fun g=>.int .i64 (g.v cN)).toArray K (EmQ S r 98 [] (st.segs.flatMap (GS.l cN)++ss.flatMap (GS.l cN)) k []):=
   fun hn=>Zf5 hs fun g hg=>GI.ok_v (hq.1 g hg) (by decide:InI 0) (fun _ _ _ _=>(by decide:InI 0)) fun j hj=>absurd hj om
  refine⟨(Zfk hs),fun vs H hv hI=>?_⟩;cases hv with
  |cons hv1 hv2=>
  rw[Z4t hl hv2,show _=_ from z3o hv1];refine(key hI.1 (0+(st.left-ss.length)) H (by rw[show 0+(st.left-ss.length)+ss.length=0+st.left by omega];exact hI.2)).mono fun e H'⟨h1,h2⟩=>⟨_,h1,rfl,hI.1,?_⟩;rw[List.flatMap_append];exact h2
 refine gI_ok hG 400 _ [.pg] ⟨[],0,100000⟩ _ _ hO _ _ _ _ _ (.cons rfl .nil) ⟨rfl,by simpa using e0⟩ ?_;intro x E H L hE _ hI;obtain⟨_,_,S',iv,hS,h7⟩:=hI;have hr:=h7.row (e:=131) (l:=st1.segs.flatMap (GS.l cN)) (v:=iv) sM;obtain⟨b,c,hiv⟩:=hr.sl;obtain⟨v0,E0,rfl,hv0,hE2⟩:∃v0 E0,E=v0::E0∧v0=pAt r∧All2 (GV.rel (cR r)) G E0:=by
  cases hE with
  |cons h1 h2=>exact⟨_,_,rfl,h1,h2⟩
 have hlen:=hE2.len2;subst hv0;refine⟨fun _=>rfl,[iv],by rw[hiv];rfl,z0r h7 (zms) 0 1,iv,?_,?_,ww hS h7.sh⟩
 .show Ending.returned (ev0 (pAt r::(E0++[iv])) (.atom k))=_;have:(pAt r::(E0++[iv]))[k]?=some iv:=by rw[←hk,List.getElem?_cons_succ,←hlen];simp
  simp[ev0,ev,zgd,this]
 .rw[show zz5 (some (.ret none (.pg::G),st1))=st1.segs.flatMap (GS.l cN)from rfl];exact hr.slR h7.sh
noncomputable def rt_codeR:List ItemR:=zz5 (codeO zp7)
noncomputable def gc_codeR:List ItemR:=zz5 (codeO zq3)
theorem zy7(S:PH):Tri zP 17 #[] S fun e K'=>∃v,e=.returned v∧SlR K' rt_codeR v∧PH.le S K':=
 Z76 @Z9q kr 2 kr kr S
theorem zyp(S:PH):Tri zP 18 #[] S fun e K'=>∃v,e=.returned v∧SlR K' gc_codeR v∧PH.le S K':=
 Z76 @Z8x kr 3 kr kr S
structure PrcX.Fit(p:PrcX):Prop where
 n:p.blocks.length≤20000000
 ins:∀b∈p.blocks,b.ins.length≤20000000
 regs:p.regl.length≤20000000
theorem Z2t{p:PrcX}(h:p.Fit):(readL p).length≤20000000:=by
 have:=Z4c p.regl [];have:=h.regs;unfold readL;simp only[zln]at *;omega
noncomputable def inL(p:PrcX):List (List Int):=(List.range p.blocks.length).map fun i=>liveL p i 0
theorem Zmi(p:PrcX):(inL p).length=p.blocks.length:=by simp[inL]
noncomputable def behL(p:PrcX)(i:Nat)(b:BlkX):List (List Int):=(List.range b.ins.length).map fun k=>liveL p i (k+1)
noncomputable def zb0(p:PrcX)(block:Int):List (List Int):=match(if block<0 then none else p.blocks[block.toNat]?)with
 |some b=>behL p block.toNat b
 |none=>[]
def BlkX.crosses(b:BlkX)(n:Nat):Prop:=b.e.calls=true∧0≤b.e.next∧b.e.next<(n:Int)
instance (b:BlkX)(n:Nat):Decidable (b.crosses n):=by unfold BlkX.crosses;exact inferInstance
noncomputable def z0y(p:PrcX)(block:Int):List Int:=match(if block<0 then none else p.blocks[block.toNat]?)with
 |some b=>if b.crosses p.blocks.length then(liveL p b.e.next.toNat 0).filter (fun x=>decide (x≠b.e.to))else[]
 |none=>[]
theorem Z86{p:PrcX}{block:Int}(h:block<0∨(p.blocks.length:Int)≤block):z0y p block=[]:=by
 unfold z0y;by_cases h0:block<0
 .rw[qj h0]
 .rw[qc h0,wu om]
theorem Zdh{p:PrcX}{i:Nat}{b:BlkX}(hb:p.blocks[i]?=some b):z0y p (i:Int)=if b.crosses p.blocks.length then(liveL p b.e.next.toNat 0).filter (fun x=>decide (x≠b.e.to))else[]:=by
 unfold z0y;rw[qc om,qN,hb]
theorem z15{α:Type}[Enc α](S:PH):SlR S ([]:List α) (.slice none 0 0):=SlR.mk_iff.2 ⟨Nat.zero_le _,.inl ⟨rfl,rfl⟩⟩
theorem zrt{p:PrcX}(h:p.Fit)(i a:Nat):(liveL p i a).length≤20000000:=Nat.le_trans (List.length_filter_le _ _) (Z2t h)
