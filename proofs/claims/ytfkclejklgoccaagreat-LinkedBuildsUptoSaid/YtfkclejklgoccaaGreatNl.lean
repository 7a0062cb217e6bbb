import Derived.Test.YtfkclejklgoccaaGreatNk
import Derived.Lib.ItoaNum
import Derived.Lib.LaidTab
set_option linter.unusedSimpArgs false
set_option linter.unusedVariables false
set_option maxRecDepth 100000
set_option maxHeartbeats 2000000
namespace Go.Proofs.YtfkclejklgoccaaGreat.Vc
open Go
def zeu(n:Int):UInt8:=UInt8.ofNat (n%256).toNat
theorem Zke(n:Int):IntKind.u8.wrap n=((zeu n).toNat:Int):=by
 have h:(n%256).toNat<256:=om;rw[zeu,UInt8.toNat_ofNat_of_lt' h];simp only[IntKind.wrap,IntKind.bits,IntKind.signed];simp;omega
theorem Zr6(n:Int):Value.int .u8 (IntKind.u8.wrap n)=.int .u8 ((zeu n).toNat:Int):=by rw[Zke]
theorem Zc1:ElemOk zP 5 1 1=true:=kr
theorem uDats:Tryz.prog.underlying 30=some (.slice 32):=kr
theorem zp9:ElemOk zP 32 4 56=true:=kr
instance decInI(n:Int):Decidable (InI n):=inferInstanceAs (Decidable (_∧_))
theorem z6d{H:PH}{k n:Int}{t:List UInt8}(hk:InI k)(hn:InI n)(ht:t.length≤maxLen):Dat.Rep H (.mk k n t []) [vi k,vi n,txt t,.slice none 0 0]:=
 Dat.Rep_iff.2 ⟨_,rfl,hk,hn,ht,SlR.mk_iff.2 ⟨Nat.zero_le _,.inl ⟨rfl,rfl⟩⟩⟩
open Go Go.ChangeShapes Go.WideShapes Go.ChangeAt Go.RowKit
mutual
def Dat.wt:Dat→Nat
 | .mk _ _ t l=>t.length+5+Dats.wt l
def Dats.wt:List Dat→Nat
 | []=>0
 |d::l=>Dat.wt d+Dats.wt l
end
theorem Dats.wt_eq:∀l:List Dat,Dats.wt l=sumWt Dat.wt l
 | []=>by simp only[Dats.wt,sumWt]
 |d::l=>by simp only[Dats.wt,sumWt,Dats.wt_eq l]
noncomputable def datFields:Array Field:=match Tryz.prog.underlying 32 with
 |some (.struct fs)=>fs
 |_=>#[]
theorem uDat:Tryz.prog.underlying 32=some (.struct datFields):=kr
theorem datF:datFields.toList.map (fun f=>(f.type,f.offset))=[(3,0),(3,1),(9,2),(30,3)]:=kr
theorem uInt:Tryz.prog.underlying 3=some (.int .i64):=kr
theorem cInt:Tryz.prog.cellsOf 3=1:=kr
theorem cStr:Tryz.prog.cellsOf 9=1:=kr
theorem cDats:Tryz.prog.cellsOf 30=1:=kr
theorem cDat:Tryz.prog.cellsOf 32=4:=kr
theorem csInt{H:PH}{n:Int}{v:Value}(h:CsR H n [v]):v=.int .i64 n∧InI n:=by
 have h':PV.RepRow H [.int .i64 n] [v]:=h;simp only[PV.RepRow,PV.Rep]at h';obtain⟨v',vs,e,⟨rfl,h1⟩,rfl⟩:=h';simp only[List.cons.injEq,and_true]at e;exact⟨e,h1⟩
theorem csTxt{H:PH}{l:List UInt8}{v:Value}(h:CsR H l [v]):v=txt l∧l.length≤maxLen:=by
 have h':PV.RepRow H [.str l] [v]:=h;simp only[PV.RepRow,PV.Rep]at h';obtain⟨v',vs,e,⟨rfl,h1⟩,rfl⟩:=h';simp only[List.cons.injEq,and_true]at e;exact⟨e,h1⟩
theorem Zk8{H:Type}{enc:TypeId×Value→H}{w:World}:∀fuel,Opens (α:=Dat) enc zP w Dat.wt 32 fuel:=by
 intro fuel
 induction fuel using Nat.strongRecOn with
 |ind fuel ih=>
  intro cs d ps h;obtain⟨xs,n,rfl,rfl,hc,hl,hi⟩:=z6u uDat datF h;rw[cDat]at hc
  match xs,hl with
  | [x0,x1,x2,x3],_=>
  match cs,hc with
  | [c0,c1,c2,c3],_=>
  have t0:=hi 0 3 0 x0 rfl rfl;have t1:=hi 1 3 1 x1 rfl rfl;have t2:=hi 2 9 2 x2 rfl rfl;have t3:=hi 3 30 3 x3 rfl rfl;rw[cInt]at t0 t1;rw[cStr]at t2;rw[cDats]at t3;obtain⟨k,hk,hkw⟩:=z2c uInt n _ _ _ t0;obtain⟨m,hm,hmw⟩:=z2c uInt n _ _ _ t1;obtain⟨s,hs,hsw⟩:=Z5m zay n _ _ _ t2;obtain⟨l,v,hlv,hls,hlw⟩:=z6w (α:=Dat) uDats cDat (fun j hj=>ih j om) t3;have hv:c3=v:=by simpa using hlv
  subst hv;obtain⟨rfl,hk1⟩:=csInt hk;obtain⟨rfl,hm1⟩:=csInt hm;obtain⟨rfl,hs1⟩:=csTxt hs;refine⟨.mk k m s l,Dat.Rep_iff.2 ⟨_,rfl,hk1,hm1,hs1,hls⟩,?_⟩;simp only at hkw hmw hsw;simp only[Dat.wt,Dats.wt_eq,Rows.uptoBulk,Rows.uptoBulkAll,q9,List.map_nil];omega
theorem Zcw:laidOutB zP=true:=kr
theorem Z7h:mapsRowed zP=true:=kr
theorem Zn9:Kids zP (· < Tryz.prog.types.size):=kids_rows Zcw Z7h
theorem Zmk:∀t e,t<Tryz.prog.types.size→Tryz.prog.underlying t=some (.slice e)→0<Tryz.prog.cellsOf e:=slices_full_of zP kr
noncomputable instance decDat:DecidableEq Dat:=fun a b=>Classical.propDecidable (a=b)
noncomputable instance decDats:DecidableEq (List Dat):=fun a b=>Classical.propDecidable (a=b)
theorem Dat.eq_iff{a b:Dat}:a=b↔a.kind=b.kind∧a.int=b.int∧a.text=b.text∧a.list=b.list:=by
 cases a;cases b;simp[Dat.kind,Dat.int,Dat.text,Dat.list]
theorem Zif{P:Program}{X:List PanicEntry→PH→Prop}{α:Type}{E:List Value}{H:PH}{L:LK}{K:α→List Value→PH→LK→Prop}{i f:Nat}{args:List VE}{rs:RS}{pend:List (SV×List SV)}{k:Fm α}(vs:List Value)(hi:E.getD i (.bool false)=.func (.func f) #[] #[])(hok:callB P f=true)
  (hc:Gives P f (args.map (evV E fun _=>0)) H (rs.pack vs)) (ht:z07 rs.tags vs=true) (hp:z0l E H pend) (hk:∀H',PH.le H H'→den P X k (E++vs) H' L K):den P X (.call (.atom i) args rs pend k) E H L K:=by
 refine⟨f,#[],#[],hi,zlw hok,?_⟩;have e:(#[]:Array Value)++(args.map (evV E fun _=>0)).toArray++#[]=(args.map (evV E fun _=>0)).toArray:=sM;rw[e];exact Tri.mono hc fun e H'⟨he,hl⟩=>by subst he;exact⟨vs,ht,rfl,z2z hp hl,hk H' hl⟩
theorem zvt{l m:List Dat}{k:Nat}{a b:Dat}(h:l.take k=m.take k)(ha:l[k]?=some a)(hb:m[k]?=some b)(hab:a=b):l.take (k+1)=m.take (k+1):=by
 rw[qZ,qZ,h,ha,hb,hab]
def Z9r(f:FuncId)(a:Dat):Prop:=∀(b:Dat)(ca cb:List Value)(H:PH),a.Rep H ca→b.Rep H cb→Gives zP f [.agg ca.toArray,.agg cb.toArray] H (.bool (decide (a=b)))
theorem Z34(l m:List Dat)(va vb:Value)(H:PH)(hl:SlR H l va)(hm:SlR H m vb)(ih:∀e∈l,Z9r 167 e):
  Gives zP 199 [va,vb,.func (.func 167) #[] #[]] H (.bool (decide (l=m))):=by
 obtain⟨b1,c1,rfl⟩:=hl.sl;obtain⟨b2,c2,rfl⟩:=hm.sl;have m1:=hl.max;have m2:=hm.max;simp only[maxLen]at m1 m2;refine qr z2h [.slice b1 l.length c1,.slice b2 m.length c2,.func (.func 167) #[] #[]] ?_;refine⟨fun h=>?_,fun h=>?_⟩
 .simp only[wz,zdt]at h;refine⟨?_,wy H⟩;have:¬l=m:=fun e=>h (by rw[e]);simp only[wz,qX this]
 simp only[wz,zdf,ne_eq,Decidable.not_not]at h;have hlen:l.length=m.length:=om;refine⟨fun n vs H'=>∃k:Nat,vs=[.bool false,vi k]∧k+n=l.length∧l.take k=m.take k∧PH.le H H',⟨l.length,0,rfl,om,sM,wy H⟩,?_⟩;rintro n vs H' _ ⟨k,rfl,hkn,htk,hle⟩;refine⟨fun h5=>?_,fun h5=>?_⟩
 .simp only[wz,zdt]at h5;obtain⟨e,he⟩:∃e,l[k]?=some e:=⟨_,zge (show k<l.length by omega)⟩;obtain⟨e',he'⟩:∃e,m[k]?=some e:=⟨_,zge (show k<m.length by omega)⟩;obtain⟨g1,ces,g2,g3,_,_⟩:=SlRep.get (hl.le hle) he;obtain⟨g1',ces',g2',g3',_,_⟩:=SlRep.get (hm.le hle) he';have htags:=g2.tags;have htags':=g2'.tags;have hcall:=ih e (zmg he) e' ces ces' H' g2 g2';obtain⟨sve,rfl,_⟩:=Dat.Rep_iff.1 g2;obtain⟨sve',rfl,_⟩:=Dat.Rep_iff.1 g2';refine⟨fun _=>?_,_,htags,by simp only[wz];exact g3,fun _=>?_,_,htags',by simp only[wz];exact g3',?_⟩
  .simp only[Chk.holds,wz];exact⟨g1,om,om⟩
  .simp only[Chk.holds,wz];exact⟨g1',om,om⟩
  refine Zif [.bool (decide (e=e'))] rfl (qb 167) hcall rfl z01 fun H2 h2=>⟨fun h6=>?_,fun h6=>?_⟩
  .simp only[wz,qy,zdf]at h6;refine⟨?_,wx hle h2⟩;have:¬l=m:=fun x=>h6 (by subst x;rw[he]at he';exact qV he');simp only[wz,qX this]
  .simp only[wz,qR,zdt]at h6;refine⟨_,z00,n-1,om,k+1,?_,om,zvt htk he he' h6,wx hle h2⟩;simp only[wz];rw[w64 om om];rfl
 .simp only[wz,zdf]at h5;refine⟨?_,hle⟩;have:l=m:=by rw[ztl om,ztl om]at htk;exact htk
  simp only[wz,qW this]
theorem Zdz:∀a,Z9r 167 a:=by
 refine Dat.ind ?_;intro a ih b ca cb H ha hb;obtain⟨s1,rfl,_,_,_,hs1⟩:=Dat.Rep_iff.1 ha;obtain⟨s2,rfl,_,_,_,hs2⟩:=Dat.Rep_iff.1 hb;have hcall:=Z34 a.list b.list s1 s2 H hs1 hs2 ih;obtain⟨b1,c1,rfl⟩:=hs1.sl;obtain⟨b2,c2,rfl⟩:=hs2.sl;refine qr Z3r [vi a.kind,vi a.int,txt a.text,.slice b1 a.list.length c1,vi b.kind,vi b.int,txt b.text,.slice b2 b.list.length c2] ?_;refine⟨fun vs H'=>vs=[.bool (decide (a=b))]∧PH.le H H',?_,?_⟩
 .rintro vs H' _ ⟨rfl,h⟩;exact⟨rfl,h⟩
 refine⟨fun h=>?_,fun h=>?_⟩
 .simp only[wz,z06]at h;simp only[zba,zdt]at h;refine z02 [.bool (decide (a.list=b.list))] (qb 199) hcall rfl z01 fun H2 h2=>⟨_,z00,?_,h2⟩;have:(a=b)↔a.list=b.list:=by rw[Dat.eq_iff];simp[h.1.1,h.1.2,h.2]
  simp only[wz,decide_eq_decide.2 this]
 .simp only[wz,z06]at h;refine⟨_,z00,?_,wy H⟩;have:¬a=b:=fun e=>by subst e;simp at h
  simp only[wz,qX this]
theorem Z33:∀a,Z9r 23 a:=by
 refine Dat.ind ?_;intro a ih b ca cb H ha hb;obtain⟨s1,rfl,_,_,_,hl⟩:=Dat.Rep_iff.1 ha;obtain⟨s2,rfl,_,_,_,hm⟩:=Dat.Rep_iff.1 hb;obtain⟨b1,c1,rfl⟩:=hl.sl;obtain⟨b2,c2,rfl⟩:=hm.sl;have m1:=hl.max;have m2:=hm.max;simp only[maxLen]at m1 m2;refine qr zlo [vi a.kind,vi a.int,txt a.text,.slice b1 a.list.length c1,vi b.kind,vi b.int,txt b.text,.slice b2 b.list.length c2] ?_;refine⟨fun h=>?_,fun h=>?_⟩
 .simp only[wz,z2r]at h;refine⟨?_,wy H⟩;have:¬a=b:=fun e=>by subst e;simp at h
  simp only[wz,qX this]
 simp only[wz,z2r]at h;simp only[zof,zdf,ne_eq,Decidable.not_not]at h;obtain⟨⟨⟨h1,h2⟩,h3⟩,h4⟩:=h;have heq:(a=b)↔a.list=b.list:=by rw[Dat.eq_iff];simp[h1,h2,h3]
 have hlen:a.list.length=b.list.length:=om;refine⟨fun n vs H'=>∃k:Nat,vs=[.bool false,vi k]∧k+n=a.list.length∧a.list.take k=b.list.take k∧PH.le H H',⟨a.list.length,0,rfl,om,sM,wy H⟩,?_⟩;rintro n vs H' _ ⟨k,rfl,hkn,htk,hle⟩;refine⟨fun h5=>?_,fun h5=>?_⟩
 .simp only[wz,zdt]at h5;obtain⟨e,he⟩:∃e,a.list[k]?=some e:=⟨_,zge (show k<a.list.length by omega)⟩;obtain⟨e',he'⟩:∃e,b.list[k]?=some e:=⟨_,zge (show k<b.list.length by omega)⟩;obtain⟨g1,ces,g2,g3,_,_⟩:=SlRep.get (hl.le hle) he;obtain⟨g1',ces',g2',g3',_,_⟩:=SlRep.get (hm.le hle) he';have htags:=g2.tags;have htags':=g2'.tags;have hcall:=ih e (zmg he) e' ces ces' H' g2 g2';obtain⟨sve,rfl,_⟩:=Dat.Rep_iff.1 g2;obtain⟨sve',rfl,_⟩:=Dat.Rep_iff.1 g2';refine⟨fun _=>?_,_,htags,by simp only[wz];exact g3,fun _=>?_,_,htags',by simp only[wz];exact g3',?_⟩
  .simp only[Chk.holds,wz];exact⟨g1,om,om⟩
  .simp only[Chk.holds,wz];exact⟨g1',om,om⟩
  refine z02 [.bool (decide (e=e'))] (qb 23) hcall rfl z01 fun H2 h2=>⟨fun h6=>?_,fun h6=>?_⟩
  .simp only[wz,qy,zdf]at h6;refine⟨?_,wx hle h2⟩;have:¬a=b:=fun x=>h6 (by subst x;rw[he]at he';exact qV he');simp only[wz,qX this]
  .simp only[wz,qR,zdt]at h6;refine⟨_,z00,n-1,om,k+1,?_,om,zvt htk he he' h6,wx hle h2⟩;simp only[wz];rw[w64 om om];rfl
 .simp only[wz,zdf]at h5;refine⟨?_,hle⟩;have:a=b:=heq.2 (by rw[ztl om,ztl om]at htk;exact htk);simp only[wz,qW this]
mutual
def Dat.cnt:Dat→Nat
 | .mk _ _ _ l=>1+Dats.cnt l
def Dats.cnt:List Dat→Nat
 | []=>0
 |d::l=>Dat.cnt d+Dats.cnt l
end
theorem Dat.cnt_eq(d:Dat):d.cnt=1+Dats.cnt d.list:=by cases d;simp only[Dat.cnt,Dat.list]
theorem Dats.cnt_le:∀l:List Dat,l.length≤Dats.cnt l
 | []=>sM
 |d::l=>by
  have:=Dats.cnt_le l;have h:=Dat.cnt_eq d;simp only[Dats.cnt,zlc];omega
theorem Dats.cnt_append:∀l m:List Dat,Dats.cnt (l++m)=Dats.cnt l+Dats.cnt m
 | [],m=>by simp[Dats.cnt]
 |d::l,m=>by simp only[List.cons_append,Dats.cnt,Dats.cnt_append l m];omega
theorem Dats.cnt_mem:∀{l:List Dat} {d:Dat},d∈l→d.cnt≤Dats.cnt l
 | [],d,h=>by cases h
 |e::l,d,h=>by
  simp only[Dats.cnt];rcases zmc.1 h with rfl|h
  .omega
  .have:=Dats.cnt_mem h;omega
def Zlg(f:FuncId)(args:List Value)(H:PH)(d:Dat):Prop:=Tri zP f args.toArray H fun e H'=>∃cs,e=.returned (.agg cs.toArray)∧PH.le H H'∧d.Rep H' cs
def Zj0(d:Dat):Prop:=∀(cs:List Value)(H:PH),d.Rep H cs→d.cnt≤100000→Zlg 194 [.agg cs.toArray] H d
theorem Zff(l:List Dat)(ih:∀e∈l,Zj0 e)(v:Value)(H:PH)(hs:SlR H l v)(hc:Dats.cnt l≤100000):Tri zP 195 #[v] H fun e H'=>∃v',e=.returned v'∧Acc H H' 32 l v':=by
 obtain⟨b,c,rfl⟩:=hs.sl;have hll:=Dats.cnt_le l;refine qr Z8y [.slice b l.length c] ?_;refine⟨fun m vs H'=>∃(k:Nat)(out:Value),vs=[out,vi k]∧k+m=l.length∧Acc H H' 32 (l.take k) out,⟨l.length,0,.slice none 0 0,rfl,om,by rw[List.take_zero];exact Acc.nil H 32⟩,?_⟩;rintro m vs H' _ ⟨k,out,rfl,hkm,hacc⟩;refine⟨fun h5=>?_,fun h5=>?_⟩
 .simp only[wz,zdt]at h5;obtain⟨e,he⟩:∃e,l[k]?=some e:=⟨_,zge (show k<l.length by omega)⟩;obtain⟨g1,ces,g2,g3,_,_⟩:=SlRep.get (hs.le hacc.le) he;have htags:=g2.tags;have hec:=Dats.cnt_mem (zmg he);have hcall:=hacc.call (fun e K h=>by obtain⟨cs,_,h,_⟩:=h;exact h) (ih e (zmg he) ces _ g2 om);obtain⟨sve,rfl,_⟩:=Dat.Rep_iff.1 g2;refine⟨fun _=>?_,_,htags,by simp only[wz];exact z0p (zou _ _) g3,?_⟩
  .simp only[Chk.holds,wz];exact⟨g1,om,om⟩
  refine z03 (qb 194) hcall ?_;rintro x H2 ⟨⟨cs,rfl,h1,h2⟩,hacc2,h3⟩;have ht2:=h2.tags;have h2':=h2;obtain⟨sv2,rfl,_⟩:=Dat.Rep_iff.1 h2;refine⟨_,_,rfl,ht2,rfl,z01,?_⟩;refine Zai (more:=[e]) (b:=56) [.agg #[vi e.kind,vi e.int,txt e.text,sv2]] uDats zp9 rfl dC dC rfl (.cons h2' .nil) z01 hacc2 (fun _=>rfl) (fun _=>rfl)
   (by simp only[maxLen,List.length_take,zlc,zln];omega) (by simp only[List.length_take,zlc,zln];omega) fun u v' H3 h4 h5=>⟨z01,_,z00,m-1,om,k+1,v',?_,om,?_⟩
  .simp only[wz];rw[w64 om om];rfl
  .rw[qZ,he];exact h4
 .simp only[wz,zdf]at h5;have:k=l.length:=om;subst this;rw[List.take_length]at hacc;exact⟨out,rfl,hacc⟩
theorem zsf:∀d,Zj0 d:=by
 refine Dat.ind ?_;intro d ih cs H hd hc;obtain⟨sv,rfl,g1,g2,g3,hs⟩:=Dat.Rep_iff.1 hd;rw[Dat.cnt_eq]at hc;have hcall:=Zff d.list ih sv H hs om;obtain⟨b,c,rfl⟩:=hs.sl;refine qr Z15 [vi d.kind,vi d.int,txt d.text,.slice b d.list.length c] ?_;refine z03 (qb 195) hcall ?_;rintro x H2 ⟨v',rfl,hacc⟩;obtain⟨b2,c2,hv⟩:=hacc.sl;refine⟨_,[v'],rfl,by rw[hv];rfl,rfl,z01,[vi d.kind,vi d.int,txt d.text,v'],rfl,hacc.all,Dat.Rep_iff.2 ⟨_,rfl,g1,g2,g3,hacc.slR⟩⟩
theorem Za7(l:List Dat)(v:Value)(H:PH)(hs:SlR H l v)(hc:Dats.cnt l≤100000):Tri zP 195 #[v] H fun e H'=>∃v',e=.returned v'∧Acc H H' 32 l v':=Zff l (fun e _=>zsf e) v H hs hc
def makeD(l:List Dat)(d:Dat):Dat:=if l.length=0 then d else if d.kind=5∨d.kind=6 then .mk d.kind 0 [] (l++d.list)else .mk 6 0 [] (l++[d])
theorem or_if(p q:Prop)[Decidable p][Decidable q]:(if decide p=true then true else decide q)=decide (p∨q):=by by_cases hp:p<;>simp[hp]
theorem Zcs(l:List Dat)(d:Dat)(v:Value)(cs:List Value)(H:PH)(hl:SlR H l v)(hd:d.Rep H cs)(hc1:Dats.cnt l≤100000)(hc2:d.cnt≤100000):Zlg 154 [v,.agg cs.toArray] H (makeD l d):=by
 have hll:=Dats.cnt_le l;have hdl:=Dats.cnt_le d.list;have hcd:=Dat.cnt_eq d;have hd':=hd;obtain⟨sv,rfl,g1,g2,g3,hs⟩:=Dat.Rep_iff.1 hd;have c1:=zsf d _ H hd' hc2;have c2:=Za7 l v H hl hc1;obtain⟨b0,c0,rfl⟩:=hl.sl;obtain⟨b,c,rfl⟩:=hs.sl;refine qr Z6y [.slice b0 l.length c0,vi d.kind,vi d.int,txt d.text,.slice b d.list.length c] ?_;refine⟨fun h=>?_,fun h=>?_⟩
 .simp only[wz,zdt]at h;rw[makeD,qj om];refine z03 (qb 194) c1 ?_;rintro x H2 ⟨cs,rfl,h1,h2⟩;have ht2:=h2.tags;have h2':=h2;obtain⟨sv2,rfl,_⟩:=Dat.Rep_iff.1 h2;exact⟨_,_,rfl,ht2,rfl,z01,_,rfl,h1,h2'⟩
 simp only[wz,zdf]at h;refine⟨fun h2=>?_,fun h2=>?_⟩
 .simp only[evs,zqd,or_if]at h2;rw[zdt]at h2;rw[makeD,qc om,qj h2];refine z03 (qb 195) c2 ?_;rintro x H2 ⟨v5,rfl,a5⟩;obtain⟨b5,c5,e5⟩:=a5.sl;have c3:=a5.call (fun e K h=>by obtain⟨v',_,h⟩:=h;exact h.all) (Za7 d.list _ _ (hs.le a5.le) om);refine⟨_,[v5],rfl,by rw[e5];rfl,rfl,z01,?_⟩;refine z03 (qb 195) c3 ?_;rintro x H3 ⟨⟨v6,rfl,a6⟩,a53,l3⟩;obtain⟨b6,c6,e6⟩:=a6.sl;refine⟨_,[v6],rfl,by rw[e6];rfl,rfl,z01,?_⟩;refine Z0x (b:=56) uDats zp9 rfl rfl a53 a6.slR (by simp only[maxLen];omega) om fun v' H4 a7 w7=>⟨z01,[vi d.kind,vi 0,txt [],v'],rfl,a7.all,?_⟩;exact Dat.Rep_iff.2 ⟨_,rfl,g1,(by decide:InI 0),Nat.zero_le _,a7.slR⟩
 .simp only[evs,zqd,or_if]at h2;rw[zdf]at h2;rw[makeD,qc om,qc h2];refine z03 (qb 195) c2 ?_;rintro x H2 ⟨v5,rfl,a5⟩;obtain⟨b5,c5,e5⟩:=a5.sl;have c3:=a5.call (fun e K h=>by obtain⟨cs,_,h,_⟩:=h;exact h) (zsf d _ _ (Dat.Rep.le a5.le d hd') hc2);refine⟨_,[v5],rfl,by rw[e5];rfl,rfl,z01,?_⟩;refine z03 (qb 194) c3 ?_;rintro x H3 ⟨⟨cs,rfl,l2,r2⟩,a53,l3⟩;have ht2:=r2.tags;have r2':=r2;obtain⟨sv2,rfl,_⟩:=Dat.Rep_iff.1 r2;refine⟨_,_,rfl,ht2,rfl,z01,?_⟩;refine Zai (more:=[d]) (b:=56) [.agg #[vi d.kind,vi d.int,txt d.text,sv2]] uDats zp9 rfl dC dC rfl (.cons r2' .nil) z01 a53 (fun _=>rfl) (fun _=>rfl)
   (by simp only[maxLen,zlc,zln];omega) (by simp only[zlc,zln];omega) fun u v' H4 a7 w7=>⟨z01,[vi 6,vi 0,txt [],v'],rfl,a7.all,?_⟩
  exact Dat.Rep_iff.2 ⟨_,rfl,(by decide:InI 6),(by decide:InI 0),Nat.zero_le _,a7.slR⟩
theorem repI_iff{H:PH}{n:Int}{v:Value}:PV.Rep H (.int .i64 n) v↔v=.int .i64 n∧InI n:=by
 simp only[PV.Rep];exact⟨fun h=>⟨h.1,inI64.1 h.2⟩,fun h=>⟨h.1,inI64.2 h.2⟩⟩
theorem zsj{H:PH}{s:List UInt8}{v:Value}:PV.Rep H (.str s) v↔v=txt s∧s.length≤maxLen:=by
 simp only[PV.Rep]
abbrev nI(j:Nat):Value:=.int .i64 (j:Int)
theorem csIK{H:PH}{a:Int}{cs:List Value}(h:CsR H a cs):cs=[vi a]∧InI a:=by
 have h':PV.RepRow H [.int .i64 a] cs:=h;simp only[PV.RepRow,repI_iff]at h';obtain⟨v,vs,rfl,⟨rfl,h1⟩,rfl⟩:=h';exact⟨rfl,h1⟩
structure InsR where
 op:Int
 a:Int
 b:Int
 c:Int
 n:Int
deriving DecidableEq
structure ItemR where
 kind:Int
 x:InsR
 label:Int
 n:Int
deriving DecidableEq
structure W32 where
 n:Int
deriving DecidableEq
structure FrmR where
 a:Bool
 b:Bool
 c:Bool
 bits:Nat
 least:Int
 most:Int
deriving DecidableEq
def oneF:FrmR:=⟨true,false,false,0,0,0⟩
def z54:FrmR:=⟨true,true,true,0,0,0⟩
def withF:FrmR:=⟨true,true,false,16,-32768,32767⟩
def Zbj:FrmR:=⟨true,true,false,16,0,65535⟩
def farF:FrmR:=⟨true,true,false,16,0,63⟩
def zpz:FrmR:=⟨true,true,false,10,-512,511⟩
def rowsR:List FrmR:=
  [oneF,z54,z54,z54,z54,z54,z54,z54,z54,z54,z54,z54,z54,z54,z54,
   withF,Zbj,Zbj,farF,farF,⟨true,false,false,16,-32768,32767⟩,⟨true,false,false,16,0,65535⟩,withF,withF,
   zpz,zpz,zpz,zpz,⟨true,false,false,21,-1048576,1048575⟩,⟨true,true,false,0,0,0⟩,oneF,oneF]
def frmR(op:Int):FrmR:=rowsR.getD op.toNat oneF
def regR(n:Int)(has:Bool):Bool:=if has=true then decide (0≤n)&&decide (n≤31)else decide (n=0)
def wordR(x:InsR)(m:Int):Int:=x.op*67108864+x.a*2097152+x.b*65536+x.c*2048+m
def fitsR(x:InsR):Bool:=regR x.a (frmR x.op).a&&regR x.b (frmR x.op).b&&regR x.c (frmR x.op).c&&decide ((frmR x.op).least≤x.n)&&decide (x.n≤(frmR x.op).most)
def encR(x:InsR):Option Int:=
 if x.op<0∨32≤x.op then none
 else if fitsR x=true then some (wordR x (if x.n<0 then x.n+2^(frmR x.op).bits else x.n))
 else none
def numOf(f:FrmR)(w:Int):Int:=
 if f.bits=0 then 0
 else if f.most<w%2^f.bits∧f.least<0 then w%2^f.bits-2^f.bits
 else w%2^f.bits
def zp7(w:Int):InsR:=
 ⟨w/67108864,w/2097152%32,if(frmR (w/67108864)).b=true then w/65536%32 else 0,if(frmR (w/67108864)).c=true then w/2048%32 else 0,numOf (frmR (w/67108864)) w⟩
def decR(w:Int):Option InsR:=
 if 32≤w/67108864 then none
 else if encR (zp7 w)=some w then some (zp7 w)
 else none
structure MaR where
 value:Int
 steps:Int
 pc:Int
 regs:List Int
 mem:List Int
 input:List UInt8
 out:List UInt8
def MaR.reg(m:MaR)(r:Int):Int:=m.regs.getD r.toNat 0
def MaR.put(m:MaR)(r v:Int)(to:Int):MaR:={ m with regs:=if r=0 then m.regs else m.regs.set r.toNat v,pc:=to,steps:=m.steps+1 }
def MaR.goes(m:MaR)(to:Int):MaR:={ m with pc:=to,steps:=m.steps+1 }
def u64(n:Int):Int:=IntKind.u64.wrap n
def mulhR(b c:Int):Int:=(b*c).fdiv (2^64)
def thrR(op b c:Int):Int:=
 if op=1 then arI .add .i64 b c
 else if op=2 then arI .sub .i64 b c
 else if op=3 then arI .mul .i64 b c
 else if op=4 then mulhR b c
 else if op=5 then arI .quo .i64 b c
 else if op=6 then b.tmod c
 else if op=7 then arI .and .i64 b c
 else if op=8 then arI .or .i64 b c
 else if op=9 then arI .xor .i64 b c
 else if op=10 then arI .shl .i64 b (arI .and .i64 c 63)
 else if op=11 then arI .shr .i64 b (arI .and .i64 c 63)
 else if op=12 then IntKind.i64.wrap (arI .shr .u64 (u64 b) (arI .and .i64 c 63))
 else if op=13 then(if b<c then 1 else 0)
 else if u64 b<u64 c then 1 else 0
def zua(op a b:Int):Bool:=(decide (op=24)&&decide (a=b))||(decide (op=25)&&decide (a≠b))||(decide (op=26)&&decide (a<b))||(decide (op=27)&&decide (b≤a))
def stR(m:MaR)(x:InsR):Int×MaR:=
  if x.op=0 then(0,{ m with value:=m.reg x.a,steps:=m.steps+1 })
  else if(x.op=5∨x.op=6)∧m.reg x.c=0 then(4,m)
  else if x.op=15 then(6,m.put x.a (arI .add .i64 (m.reg x.b) x.n) (m.pc+1))
  else if x.op=16 then(6,m.put x.a (arI .and .i64 (m.reg x.b) x.n) (m.pc+1))
  else if x.op=17 then(6,m.put x.a (arI .or .i64 (m.reg x.b) x.n) (m.pc+1))
  else if x.op=18 then(6,m.put x.a (arI .shl .i64 (m.reg x.b) x.n) (m.pc+1))
  else if x.op=19 then(6,m.put x.a (arI .shr .i64 (m.reg x.b) x.n) (m.pc+1))
  else if x.op=20 then(6,m.put x.a x.n (m.pc+1))
  else if x.op=21 then(6,m.put x.a (arI .or .i64 (arI .mul .i64 (m.reg x.a) 65536) x.n) (m.pc+1))
  else if x.op=22∨x.op=23 then
    (if arI .add .i64 (m.reg x.b) x.n < 0∨(m.mem.length:Int)≤arI .add .i64 (m.reg x.b) x.n then (2,m)
     else if x.op=23 then(6,{ m.goes (m.pc+1)with mem:=m.mem.set (arI .add .i64 (m.reg x.b) x.n).toNat (m.reg x.a) })
     else(6,m.put x.a (m.mem.getD (arI .add .i64 (m.reg x.b) x.n).toNat 0) (m.pc+1)))
  else if x.op=24∨x.op=25∨x.op=26∨x.op=27 then(6,m.goes (if zua x.op (m.reg x.a) (m.reg x.b)=true then m.pc+x.n else m.pc+1))
  else if x.op=28 then(6,m.put x.a (m.pc+1) (m.pc+x.n))
  else if x.op=29 then(6,m.put x.a (m.pc+1) (m.reg x.b))
  else if x.op=30 then(6,{ m.put x.a (match m.input with | []=>-1|c::_=>(c.toNat:Int)) (m.pc+1)with input:=m.input.drop 1 })
  else if x.op=31 then
    (if m.reg x.a<0∨255<m.reg x.a then(5,m)else(6,{ m.goes (m.pc+1)with out:=m.out++[UInt8.ofNat (m.reg x.a).toNat] }))
  else(6,m.put x.a (thrR x.op (m.reg x.b) (m.reg x.c)) (m.pc+1))
def goR(code:List W32):Nat→MaR→Int×MaR
 |0,m=>(6,m)
 |k+1,m=>
  if m.pc<0∨(code.length:Int)≤m.pc then(3,m)
  else match decR (code.getD m.pc.toNat ⟨0⟩).n with
   |none=>(1,m)
   |some x=>if(stR m x).1=6 then goR code k (stR m x).2 else stR m x
structure ImgR where
 code:List W32
 mem:List Int
 words:Int
structure HaltR where
 state:Int
 value:Int
 out:List UInt8
 steps:Int
 pc:Int
 regs:List Int
 mem:List Int
def Z9i:List Int:=List.replicate 32 0
def z66(i:ImgR)(input:List UInt8):MaR:=⟨0,0,0,Z9i,i.mem++List.replicate (i.words.toNat-i.mem.length) 0,input,[]⟩
def z7v(s:Int×MaR):HaltR:=⟨s.1,s.2.value,s.2.out,s.2.steps,s.2.pc,s.2.regs,s.2.mem⟩
def noImg:HaltR:=⟨7,0,[],0,0,Z9i,[]⟩
def zvu(i:ImgR)(steps:Int):Bool:=decide (i.words<0)||decide (1048576<i.words)||decide (1048576<(i.code.length:Int))||decide (i.words<(i.mem.length:Int))||decide (steps<0)
def runR(i:ImgR)(input:List UInt8)(steps:Int):HaltR:=
 if zvu i steps=true then noImg else z7v (goR i.code steps.toNat (z66 i input))
def z1j(x:ItemR):Bool:=decide (x.kind=2)||decide (x.kind=3)||decide (x.kind=5)
def ins0:InsR:=⟨0,0,0,0,0⟩
def mayR(x:ItemR):Bool:=
 if x.kind=0 then(encR x.x).isSome&&decide (x.label=0)&&decide (x.n=0)
 else if x.kind=1 then decide (x.x=ins0)&&decide (x.n=0)
 else if x.kind=2 then(encR x.x).isSome&&decide (24≤x.x.op)&&decide (x.x.op≤27)&&decide (x.x.n=0)&&decide (x.n=0)
 else if x.kind=3 then(encR x.x).isSome&&decide (x.x.op=28)&&decide (x.x.n=0)&&decide (x.n=0)
 else if x.kind=4 then(encR x.x).isSome&&decide (x.x.op=20)&&decide (x.x.n=0)&&decide (x.label=0)
 else if x.kind=5 then(encR x.x).isSome&&decide (x.x.op=20)&&decide (x.x.n=0)&&decide (x.n=0)
 else false
def isLab(label:Int)(x:ItemR):Bool:=decide (x.kind=1)&&decide (x.label=label)
def findR(l:List ItemR)(label:Int):Option Nat:=l.findIdx? (isLab label)
def shrR(n:Int)(k:Nat):Int:=n.fdiv (2^k)
def z5n(n:Int):Nat:=
 if -32768≤n∧n≤32767 then 1
 else if -32768≤shrR n 16∧shrR n 16≤32767 then 2
 else if -32768≤shrR n 32∧shrR n 32≤32767 then 3
 else 4
def restR(r n:Int):Nat→List InsR
 |0=>[]
 |k+1=>⟨21,r,0,0,shrR n (16*k)%65536⟩::restR r n k
def numR(r n:Int)(k:Nat):List InsR:=⟨20,r,0,0,(shrR n (16*(k-1))+32768)%65536-32768⟩::restR r n (k-1)
def sizeR(x:ItemR)(long:Bool):Nat:=
 if x.kind=1 then 0
 else if x.kind=2 then(if long=true then 2 else 1)
 else if x.kind=4 then z5n x.n
 else if x.kind=5 then 2
 else 1
def z0q:Nat→List ItemR→List Bool→List Nat
 |at_,x::l,b::long=>at_::z0q (at_+sizeR x b) l long
 |at_,_,_=>[at_]
def zf5(op:Int):Int:=if op=24 then 25 else if op=25 then 24 else if op=26 then 27 else 26
def zb1(x:ItemR)(long:Bool)(at_ to:Int):List InsR:=
 if x.kind=0 then[x.x]
 else if x.kind=2 then(if long=true then[⟨zf5 x.x.op,x.x.a,x.x.b,0,2⟩,⟨28,0,0,0,to-at_-1⟩]else[⟨x.x.op,x.x.a,x.x.b,0,to-at_⟩])
 else if x.kind=3 then[⟨28,x.x.a,0,0,to-at_⟩]
 else if x.kind=4 then numR x.x.a x.n (z5n x.n)
 else if x.kind=5 then numR x.x.a to 2
 else[]
def toR(l:List ItemR)(p:List Nat)(x:ItemR):Int:=if z1j x=true then((p.getD ((findR l x.label).getD 0) 0:Nat):Int)else 0
def farR(l:List ItemR)(p:List Nat)(i:Nat)(x:ItemR):Bool:=
 decide (x.kind=2)&&(decide (toR l p x-((p.getD i 0:Nat):Int) < -512)||decide (511<toR l p x-((p.getD i 0:Nat):Int)))
def growR(l:List ItemR)(p:List Nat)(long:List Bool):List Bool:=(l.zipIdx.zip long).map fun x=>x.2||farR l p x.1.2 x.1.1
def layR(l:List ItemR):Nat→List Bool→List Bool
 |0,long=>long
 |k+1,long=>if growR l (z0q 0 l long) long=long then long else layR l k (growR l (z0q 0 l long) long)
def longR(l:List ItemR):List Bool:=layR l (l.length+1) (l.map fun _=>false)
def z3r(x:InsR):W32:=⟨(encR x).getD 0⟩
def codeR(l:List ItemR)(long:List Bool)(p:List Nat):List W32:=
 (l.zipIdx.zip long).flatMap fun x=>(zb1 x.1.1 x.2 ((p.getD x.1.2 0:Nat):Int) (toR l p x.1.1)).map z3r
def badR:List ItemR→List ItemR→Nat
 |_,[]=>0
 |seen,x::l=>if mayR x=false then 1 else if x.kind=1∧(findR seen x.label).isSome=true then 2 else badR (seen++[x]) l
inductive AsmE where
 |many|form|twice|none_
deriving DecidableEq
def asmR(l:List ItemR):Except AsmE (List W32×List Nat):=
 if 65536<l.length then .error .many
 else if badR [] l=1 then .error .form
 else if badR [] l=2 then .error .twice
 else if l.any (fun x=>z1j x&&(findR l x.label).isNone)=true then .error .none_
 else .ok (codeR l (longR l) (z0q 0 l (longR l)),(z0q 0 l (longR l)).take l.length)
instance encItemR:Enc ItemR:=⟨fun x=>[.int .i64 x.kind,.int .i64 x.x.op,.int .i64 x.x.a,.int .i64 x.x.b,.int .i64 x.x.c,.int .i64 x.x.n,.int .i64 x.label,.int .i64 x.n],8,fun _=>rfl⟩
instance encW32:Enc W32:=⟨fun w=>[.int .u32 w.n],1,fun _=>rfl⟩
abbrev insV(x:InsR):List Value:=[vi x.op,vi x.a,vi x.b,vi x.c,vi x.n]
abbrev itemV(x:ItemR):List Value:=[vi x.kind,vi x.x.op,vi x.x.a,vi x.x.b,vi x.x.c,vi x.x.n,vi x.label,vi x.n]
structure InI5(x:InsR):Prop where
 op:InI x.op
 a:InI x.a
 b:InI x.b
 c:InI x.c
 n:InI x.n
structure InI8(i:ItemR):Prop where
 kind:InI i.kind
 x:InI5 i.x
 label:InI i.label
 n:InI i.n
def InU(n:Int):Prop:=0≤n∧n≤4294967295
theorem inU{n:Int}:IntKind.u32.min≤n∧n≤IntKind.u32.max↔InU n:=Iff.rfl
theorem Zmf{H:PH}{n:Int}{v:Value}:PV.Rep H (.int .u32 n) v↔v=.int .u32 n∧InU n:=by
 simp only[PV.Rep];exact⟨fun h=>⟨h.1,inU.1 h.2⟩,fun h=>⟨h.1,inU.2 h.2⟩⟩
theorem itemR_iff{H:PH}{x:ItemR}{cs:List Value}:CsR H x cs↔cs=itemV x∧InI8 x:=by
 show PV.RepRow H [.int .i64 x.kind,.int .i64 x.x.op,.int .i64 x.x.a,.int .i64 x.x.b,.int .i64 x.x.c,.int .i64 x.x.n,.int .i64 x.label,.int .i64 x.n] cs↔_;simp only[PV.RepRow,repI_iff];constructor
 .rintro⟨_,_,rfl,⟨rfl,h1⟩,_,_,rfl,⟨rfl,h2⟩,_,_,rfl,⟨rfl,h3⟩,_,_,rfl,⟨rfl,h4⟩,_,_,rfl,⟨rfl,h5⟩,_,_,rfl,⟨rfl,h6⟩,_,_,rfl,⟨rfl,h7⟩,_,_,rfl,⟨rfl,h8⟩,rfl⟩;exact⟨rfl,h1,⟨h2,h3,h4,h5,h6⟩,h7,h8⟩
 .rintro⟨rfl,h1,⟨h2,h3,h4,h5,h6⟩,h7,h8⟩;exact⟨_,_,rfl,⟨rfl,h1⟩,_,_,rfl,⟨rfl,h2⟩,_,_,rfl,⟨rfl,h3⟩,_,_,rfl,⟨rfl,h4⟩,_,_,rfl,⟨rfl,h5⟩,_,_,rfl,⟨rfl,h6⟩,_,_,rfl,⟨rfl,h7⟩,_,_,rfl,⟨rfl,h8⟩,rfl⟩
theorem w32_iff{H:PH}{w:W32}{cs:List Value}:CsR H w cs↔cs=[.int .u32 w.n]∧InU w.n:=by
 show PV.RepRow H [.int .u32 w.n] cs↔_;simp only[PV.RepRow,Zmf];constructor
 .rintro⟨_,_,rfl,⟨rfl,h1⟩,rfl⟩;exact⟨rfl,h1⟩
 .rintro⟨rfl,h1⟩;exact⟨_,_,rfl,⟨rfl,h1⟩,rfl⟩
structure FrmOk(f:FrmR):Prop where
 bits:f.bits=0∨f.bits=10∨f.bits=16∨f.bits=21
 least:-1048576≤f.least∧f.least≤0
 most:0≤f.most∧f.most≤1048575
 lo:f.bits=0→f.least=0∧f.most=0
 fit:f.bits≠0→f.most<2^f.bits∧- 2^f.bits≤f.least
instance (f:FrmR):Decidable (FrmOk f):=
 if h:(f.bits=0∨f.bits=10∨f.bits=16∨f.bits=21)∧(-1048576≤f.least∧f.least≤0)∧(0≤f.most∧f.most≤1048575)∧(f.bits=0→f.least=0∧f.most=0)∧(f.bits≠0→f.most<2^f.bits∧- 2^f.bits≤f.least)then .isTrue ⟨h.1,h.2.1,h.2.2.1,h.2.2.2.1,h.2.2.2.2⟩
 else .isFalse fun k=>h ⟨k.bits,k.least,k.most,k.lo,k.fit⟩
theorem Zpk:∀f∈rowsR,FrmOk f:=by decide +kernel
theorem Z9j(op:Int):FrmOk (frmR op):=by
 unfold frmR;rw[zgd];cases h:rowsR[op.toNat]? with
 |none=>exact(by decide +kernel:FrmOk oneF)
 |some f=>exact Zpk f (zmg h)
def encE:Option Int→Int
 |some _=>0
 |none=>200
abbrev encV(o:Option Int):Value:=.tuple #[.int .u32 (o.getD 0),vi (encE o)]
theorem wu32{n:Int}(h0:0≤n)(h1:n≤4294967295):IntKind.u32.wrap n=n:=by
 simp only[IntKind.wrap,IntKind.bits,IntKind.signed];simp;omega
theorem wu64{n:Int}(h0:0≤n)(h1:n≤18446744073709551615):IntKind.u64.wrap n=n:=by
 simp only[IntKind.wrap,IntKind.bits,IntKind.signed];simp;omega
theorem zpp{n:Int}{b:Bool}(h:regR n b=true):0≤n∧n≤31:=by
 unfold regR at h;split at h
 .simpa using h
 .have:n=0:=by simpa using h
  omega
abbrev decV(o:Option InsR):Value:=.tuple #[.agg (insV (o.getD ins0)).toArray,.bool o.isSome]
theorem Z8z(w:Int)(o:Option Int):(encE o)≠0∨(o.getD 0)≠w↔¬o=some w:=by
 cases o with
 |none=>simp[encE]
 |some v=>simp[encE]
theorem Zkr(n:Int):arI .and .i64 n 63=n%64:=zig n 6 om
theorem zv7(n:Int):arI .shr .u64 n 32=n/4294967296:=by
 show n.fdiv (2^(min (32:Int).toNat 64))=_;rw[Int.fdiv_eq_ediv_of_nonneg _ (Int.pow_nonneg dC)];rfl
theorem Z6q{a b A B:Int}(ha:-A≤a∧a≤A)(hb:0≤b∧b≤B):-(A*B)≤a*b∧a*b≤A*B:=by
 have hA:0≤A:=om;have h1:A*b≤A*B:=Int.mul_le_mul_of_nonneg_left hb.2 hA;have h2:a*b≤A*b:=Int.mul_le_mul_of_nonneg_right ha.2 hb.1;have h3:-A*b≤a*b:=Int.mul_le_mul_of_nonneg_right ha.1 hb.1;have h4:-A*b=-(A*b):=Int.neg_mul A b;omega
theorem Z2f{a b A B:Int}(ha:a≤A)(hA:0≤A)(hb:0≤b∧b≤B):a*b≤A*B:=
 Int.le_trans (Int.mul_le_mul_of_nonneg_right ha hb.1) (Int.mul_le_mul_of_nonneg_left hb.2 hA)
theorem Zh1{a b A B:Int}(ha:-A≤a∧a≤A)(hb:-B≤b∧b≤B):-(A*B)≤a*b∧a*b≤A*B:=by
 by_cases h:0≤b
 .exact Z6q ha ⟨h,hb.2⟩
 .have:=Z6q (b:=-b) ha (B:=B) om;rw[Int.mul_neg]at this;omega
open Go Go.ChangeShapes Go.WideShapes Go.ChangeAt Go.RowKit
structure InsX where
 op:List UInt8
 to:Int
 args:List Int
 const:Dat
 num:Int
structure EndX where
 kind:Int
 reg:Int
 args:List Int
 to:Int
 next:Int
 els:Int
structure BlkX where
 ins:List InsX
 e:EndX
structure PrcX where
 params:Int
 holds:Int
 regs:Int
 blocks:List BlkX
def InsX.pv(x:InsX):List PV:=[.str x.op,.int .i64 x.to,slp x.args,.int .i64 x.const.kind,.int .i64 x.const.int,.str x.const.text,slp x.const.list,.int .i64 x.num]
def EndX.pv(e:EndX):List PV:=[.int .i64 e.kind,.int .i64 e.reg,slp e.args,.int .i64 e.to,.int .i64 e.next,.int .i64 e.els]
instance encIns:Enc InsX:=⟨InsX.pv,8,fun _=>rfl⟩
instance encEnd:Enc EndX:=⟨EndX.pv,6,fun _=>rfl⟩
instance encBlk:Enc BlkX:=⟨fun b=>slp b.ins::b.e.pv,7,fun _=>rfl⟩
instance encPrc:Enc PrcX:=⟨fun p=>[.int .i64 p.params,.int .i64 p.holds,.int .i64 p.regs,slp p.blocks],4,fun _=>rfl⟩
theorem ins_iff{H:PH}{x:InsX}{cs:List Value}:CsR H x cs↔∃av dv,cs=[txt x.op,vi x.to,av,vi x.const.kind,vi x.const.int,txt x.const.text,dv,vi x.num] ∧
  x.op.length≤maxLen∧InI x.to∧SlR H x.args av∧InI x.const.kind∧InI x.const.int∧x.const.text.length≤maxLen∧SlR H x.const.list dv∧InI x.num:=by
 show PV.RepRow H (InsX.pv x) cs↔_;simp only[InsX.pv,PV.RepRow,repI_iff,zsj];constructor
 .rintro⟨v1,_,rfl,⟨rfl,h1⟩,v2,_,rfl,⟨rfl,h2⟩,v3,_,rfl,h3,v4,_,rfl,⟨rfl,h4⟩,v5,_,rfl,⟨rfl,h5⟩,v6,_,rfl,⟨rfl,h6⟩,v7,_,rfl,h7,v8,_,rfl,⟨rfl,h8⟩,rfl⟩;exact⟨v3,v7,rfl,h1,h2,h3,h4,h5,h6,h7,h8⟩
 .rintro⟨v3,v7,rfl,h1,h2,h3,h4,h5,h6,h7,h8⟩;exact⟨_,_,rfl,⟨rfl,h1⟩,_,_,rfl,⟨rfl,h2⟩,_,_,rfl,h3,_,_,rfl,⟨rfl,h4⟩,_,_,rfl,⟨rfl,h5⟩,_,_,rfl,⟨rfl,h6⟩,_,_,rfl,h7,_,_,rfl,⟨rfl,h8⟩,rfl⟩
theorem end_iff{H:PH}{e:EndX}{cs:List Value}:CsR H e cs↔∃av,cs=[vi e.kind,vi e.reg,av,vi e.to,vi e.next,vi e.els] ∧
  InI e.kind∧InI e.reg∧SlR H e.args av∧InI e.to∧InI e.next∧InI e.els:=by
 show PV.RepRow H (EndX.pv e) cs↔_;simp only[EndX.pv,PV.RepRow,repI_iff,zsj];constructor
 .rintro⟨v1,_,rfl,⟨rfl,h1⟩,v2,_,rfl,⟨rfl,h2⟩,v3,_,rfl,h3,v4,_,rfl,⟨rfl,h4⟩,v5,_,rfl,⟨rfl,h5⟩,v6,_,rfl,⟨rfl,h6⟩,rfl⟩;exact⟨v3,rfl,h1,h2,h3,h4,h5,h6⟩
 .rintro⟨v3,rfl,h1,h2,h3,h4,h5,h6⟩;exact⟨_,_,rfl,⟨rfl,h1⟩,_,_,rfl,⟨rfl,h2⟩,_,_,rfl,h3,_,_,rfl,⟨rfl,h4⟩,_,_,rfl,⟨rfl,h5⟩,_,_,rfl,⟨rfl,h6⟩,rfl⟩
theorem blk_iff{H:PH}{b:BlkX}{cs:List Value}:CsR H b cs↔∃iv es,cs=iv::es∧SlR H b.ins iv∧CsR H b.e es:=by
 show PV.RepRow H (slp b.ins::b.e.pv) cs↔_;rw[PV.RepRow];constructor
 .rintro⟨v,vs,rfl,h1,h2⟩;exact⟨v,vs,rfl,h1,h2⟩
 .rintro⟨v,vs,rfl,h1,h2⟩;exact⟨v,vs,rfl,h1,h2⟩
theorem prc_iff{H:PH}{p:PrcX}{cs:List Value}:CsR H p cs↔∃bv,cs=[vi p.params,vi p.holds,vi p.regs,bv]∧InI p.params∧InI p.holds∧InI p.regs∧SlR H p.blocks bv:=by
 show PV.RepRow H [_,_,_,_] cs↔_;simp only[PV.RepRow,repI_iff];constructor
 .rintro⟨v1,_,rfl,⟨rfl,h1⟩,v2,_,rfl,⟨rfl,h2⟩,v3,_,rfl,⟨rfl,h3⟩,v4,_,rfl,h4,rfl⟩;exact⟨v4,rfl,h1,h2,h3,h4⟩
 .rintro⟨v4,rfl,h1,h2,h3,h4⟩;exact⟨_,_,rfl,⟨rfl,h1⟩,_,_,rfl,⟨rfl,h2⟩,_,_,rfl,⟨rfl,h3⟩,_,_,rfl,h4,rfl⟩
theorem z0e{S:PH}{a:Int}(h:InI a):CsR S a [vi a]:=by
 show PV.RepRow S [.int .i64 a] [.int .i64 a];simp only[PV.RepRow,repI_iff];exact⟨_,_,rfl,⟨rfl,h⟩,rfl⟩
instance encInts:Enc (List Int):=⟨fun l=>[slp l],1,fun _=>rfl⟩
theorem csLK{H:PH}{a:List Int}{cs:List Value}(h:CsR H a cs):∃v,cs=[v]∧SlR H a v:=by
 have h':PV.RepRow H [slp a] cs:=h;simp only[PV.RepRow]at h';obtain⟨v,vs,rfl,h1,rfl⟩:=h';exact⟨v,rfl,h1⟩
theorem zw2{H:PH}{a:List Int}{v:Value}(h:SlR H a v):CsR H a [v]:=by
 show PV.RepRow H [slp a] [v];simp only[PV.RepRow];exact⟨v,[],rfl,h,rfl⟩
theorem z0j:Tryz.prog.underlying 29=some (.slice 3):=kr
theorem z0s:ElemOk zP 3 1 8=true:=kr
theorem Zfx:Tryz.prog.underlying 185=some (.slice 29):=kr
theorem Z69:ElemOk zP 29 1 24=true:=kr
theorem Zis:Tryz.prog.underlying 36=some (.slice 34):=kr
theorem Zmj:ElemOk zP 34 8 112=true:=kr
theorem Zlj:Tryz.prog.underlying 41=some (.slice 40):=kr
theorem Zma:ElemOk zP 40 7 88=true:=kr
def Z1u(l:List Int):Nat:=sumWt (fun _=>1) l+1
def InsX.wt(x:InsX):Nat:=x.op.length+1+1+Z1u x.args+x.const.wt+1
def EndX.wt(e:EndX):Nat:=1+1+Z1u e.args+1+1+1
def BlkX.wt(b:BlkX):Nat:=sumWt InsX.wt b.ins+1+b.e.wt
def PrcX.wt(p:PrcX):Nat:=1+1+1+(sumWt BlkX.wt p.blocks+1)
theorem zzr(n:Int):IntKind.i64.wrap n=if 9223372036854775808≤n%18446744073709551616 then n%18446744073709551616-18446744073709551616 else n%18446744073709551616:=by
 simp only[IntKind.wrap,IntKind.bits,IntKind.signed];simp
theorem Zoq{n r k:Int}(h:n=r+k*18446744073709551616)(hr:InI r):IntKind.i64.wrap n=r:=by
 obtain⟨h0,h1⟩:=hr;rw[zzr];split<;>omega
theorem Zow{b c:Int}(hb:InI b):InI (b.tmod c):=by
 obtain⟨h0,h1⟩:=hb;unfold InI;have h2:=Int.natAbs_tmod b c;have h3:=Nat.mod_le b.natAbs c.natAbs;have h4:0≤b→0≤b.tmod c:=Int.tmod_nonneg c;have h5:0≤-b→0≤(-b).tmod c:=Int.tmod_nonneg c;rw[Int.neg_tmod]at h5;omega
theorem z2p(n:Int):InI (IntKind.i64.wrap n):=by
 unfold InI;rw[zzr];split<;>omega
theorem Zj4{b:Int}(hb:InI b)(k:Int):InI (arI .shr .i64 b k):=by
 obtain⟨h0,h1⟩:=hb;unfold InI;show _≤b.fdiv (2^(min k.toNat 64))∧b.fdiv (2^(min k.toNat 64))≤_;have hp:(1:Int)≤2^(min k.toNat 64):=by
  have:(0:Int)<2^(min k.toNat 64):=Int.pow_pos dC;omega
 rw[Int.fdiv_eq_ediv_of_nonneg _ om];generalize(2:Int)^(min k.toNat 64)=q at *;refine⟨?_,?_⟩
 .rw[Int.le_ediv_iff_mul_le om];have:-9223372036854775808*q≤-9223372036854775808*1:=Int.mul_le_mul_of_nonpos_left om om;omega
 .have:b / q < 9223372036854775808:=Int.ediv_lt_of_lt_mul om (by
   have:9223372036854775808*1≤9223372036854775808*q:=Int.mul_le_mul_of_nonneg_left hp om;omega)
  omega
theorem Zfs{b c:Int}(hb:InI b)(hc:InI c):InI (mulhR b c):=by
 obtain⟨h0,h1⟩:=hb;obtain⟨h2,h3⟩:=hc;have h4:=Zh1 (A:=9223372036854775808) (B:=9223372036854775808) (a:=b) (b:=c) om om;unfold InI mulhR;rw[Int.fdiv_eq_ediv_of_nonneg _ dC];generalize b*c=p at *;omega
theorem z1y{p:Prop}[Decidable p]{a b:Int}(h1:InI a)(h2:InI b):InI (if p then a else b):=by
 by_cases h:p
 .rw[qj h];exact h1
 .rw[qc h];exact h2
theorem Znr(op:Int){b c:Int}(hb:InI b)(hc:InI c):InI (thrR op b c):=by
 have h0:InI 0:=by unfold InI;omega
 have h1:InI 1:=by unfold InI;omega
 unfold thrR;exact z1y (z2p _) (z1y (z2p _) (z1y (z2p _) (z1y (Zfs hb hc) (z1y (z2p _) (z1y (Zow hb) (z1y (z2p _) (z1y (z2p _) (z1y (z2p _) (z1y (z2p _) (z1y (Zj4 hb _) (z1y (z2p _) (z1y (z1y h1 h0) (z1y h1 h0)))))))))))))
theorem Z2h{P:Program}{Φ:Next→PH→Prop}{Ψ:Value→PH→Prop}{H:PH}{ρ:Operand→Value}{T ty:TypeId}{x y:Operand}:wpS P (execOp ρ (bare (.indexAddr T x y) ty)) Φ Ψ H=wpS P (Instr.indexAt T (ρ x) (ρ y)) (fun v H'=>Φ (.value v) H') Ψ H:=by
 simp only[execOp,bare,z04,z0h]
theorem z83{P:Program}{X:List PanicEntry→PH→Prop}{β:Type}{E:List Value}{H:PH}{L:LK}{K:β→List Value→PH→LK→Prop}{T ty e:TypeId}{n:Nat}{x y:Operand}{args:List (Nat×VE)}{pend:List (SV×List SV)}{k:Fm β}{kk:IntKind}{i:Int}{r off:Nat}
  (hT:P.underlying T=some (.array n e)) (hiz:(P.info? e).map (·.size)=some 1) (hx:argEv E args x=.pointer (some ⟨r,off,none⟩)) (hy:argEv E args y=.int kk i) (hi:0≤i∧i<n) (hp:z0l E H pend)
  (hk:den P X k (E++[.pointer (some ⟨r,off+i.toNat,none⟩)]) H L K):den P X (.sem (.indexAddr T x y) ty args (.sc .ptr) pend k) E H L K:=by
 obtain⟨inf,hi2,hz⟩:=qQ.1 hiz;show wpS P (execOp (argEv E args) (bare _ ty)) _ _ H;rw[Z2h,hx,hy];unfold Instr.indexAt asIntOf;simp only[z04,z0h,z08 hT];unfold Instr.sureAddr;simp only[z04,z0h];rw[qj hi];simp only[z04,z0h,z3f hi2,hz,Addr.add_plain,Nat.mul_one];exact⟨[_],rfl,rfl,hp,hk⟩
theorem Z8o{E:List Value}{H:PH}{p:SV}{ss:List SV}(h:rowAt H (pOf (ev0 E p)) (ss.map (ev0 E))):z0l E H [(p,ss)]:=fun x hx=>by
 rw[zsi.1 hx];exact h
theorem zht:Tryz.prog.underlying 59=some (.array 32 3):=kr
theorem zIntQ:(Tryz.prog.info? 3).map (·.size)=some 1:=kr
def z0f(st:Int)(m:MaR)(mv ov:Value):List Value:=
 .int .i64 st::.int .i64 m.value::txt []::.int .i64 m.steps::.int .i64 m.pc::(m.regs.map (Value.int .i64)++[mv,txt m.input,ov])
structure MaOk(m:MaR):Prop where
 len:m.regs.length=32
 regs:∀v∈m.regs,InI v
theorem MaOk.reg{m:MaR}(h:MaOk m)(r:Int):InI (m.reg r):=by
 unfold MaR.reg;rw[zgd];cases e:m.regs[r.toNat]? with
 |none=>unfold InI;simp
 |some v=>exact h.regs v (zmg e)
theorem MaOk.put{m:MaR}(h:MaOk m){r v to:Int}(hv:InI v):MaOk (m.put r v to):=by
 unfold MaR.put;refine⟨?_,fun u hu=>?_⟩
 .simp only[];split
  .exact h.len
  .rw[List.length_set];exact h.len
 .simp only[]at hu;split at hu
  .exact h.regs u hu
  .rcases List.mem_or_eq_of_mem_set hu with hu|rfl
   .exact h.regs u hu
   .exact hv
section
variable {st:Int}{m:MaR}{mv ov:Value}
theorem c_reg(h:MaOk m){r:Int}(h0:0≤r)(h1:r≤31):((z0f st m mv ov).drop (5+r.toNat)).take 1=[vi (m.reg r)]:=by
 have hl:r.toNat<m.regs.length:=by rw[h.len];omega
 rw[show 5+r.toNat=r.toNat+5 by omega];simp only[z0f,List.drop_succ_cons];rw[List.drop_append_of_le_length (by rw[zlm];omega),List.take_append_of_le_length (by rw[List.length_drop,zlm];omega),←List.map_drop,List.drop_eq_getElem_cons hl];simp only[q9,List.take_succ_cons,List.take_zero,MaR.reg];rw[zgd,zge hl];rfl
theorem zec(h:MaOk m)(k:Nat):(z0f st m mv ov).drop (37+k)=[mv,txt m.input,ov].drop k:=by
 rw[show 37+k=(32+k)+5 by omega];simp only[z0f,List.drop_succ_cons];rw[←h.len,show m.regs.length=(m.regs.map (Value.int .i64)).length by rw[zlm],List.drop_append];simp
theorem c_len(h:MaOk m):(z0f st m mv ov).length=40:=by simp[z0f,h.len]
theorem s_reg(h:MaOk m){r v:Int}(h0:0≤r)(h1:r≤31):(z0f st m mv ov).take (5+r.toNat)++[vi v]++(z0f st m mv ov).drop (5+r.toNat+1)=z0f st { m with regs:=m.regs.set r.toNat v } mv ov:=by
 have hl:r.toNat<m.regs.length:=by rw[h.len];omega
 rw[show 5+r.toNat=r.toNat+5 by omega,show r.toNat+5+1=(r.toNat+1)+5 by omega];simp only[z0f,List.drop_succ_cons,List.take_succ_cons,List.cons_append];rw[List.take_append_of_le_length (by rw[zlm];omega),List.drop_append_of_le_length (by rw[zlm];omega),List.map_set];rw[List.set_eq_take_append_cons_drop,qj (by rw[zlm];omega)];simp
theorem s_mem(h:MaOk m)(mv':Value):(z0f st m mv ov).take 37++[mv']++(z0f st m mv ov).drop 38=z0f st m mv' ov:=by
 have:=zec (st:=st) (mv:=mv) (ov:=ov) h 1;rw[show 37+1=38 from rfl]at this;rw[this];have e:(z0f st m mv ov).take 37=.int .i64 st::.int .i64 m.value::txt []::.int .i64 m.steps::.int .i64 m.pc::m.regs.map (Value.int .i64):=by
  simp only[z0f,List.take_succ_cons];rw[show 32=(m.regs.map (Value.int .i64)).length by rw[zlm,h.len],List.take_append,ztl (we _)];simp
 rw[e];simp[z0f]
theorem s_in(h:MaOk m)(i':List UInt8):(z0f st m mv ov).take 38++[txt i']++(z0f st m mv ov).drop 39=z0f st { m with input:=i' } mv ov:=by
 have:=zec (st:=st) (mv:=mv) (ov:=ov) h 2;rw[show 37+2=39 from rfl]at this;rw[this];have e:(z0f st m mv ov).take 38=.int .i64 st::.int .i64 m.value::txt []::.int .i64 m.steps::.int .i64 m.pc::(m.regs.map (Value.int .i64)++[mv]):=by
  simp only[z0f,List.take_succ_cons];rw[show 33=(m.regs.map (Value.int .i64)).length+1 by rw[zlm,h.len],List.take_append,ztl (Nat.le_add_right _ _)];simp
 rw[e];simp[z0f]
theorem s_out(h:MaOk m)(ov':Value):(z0f st m mv ov).take 39++[ov']++(z0f st m mv ov).drop 40=z0f st m mv ov':=by
 have:=zec (st:=st) (mv:=mv) (ov:=ov) h 3;rw[show 37+3=40 from rfl]at this;rw[this];have e:(z0f st m mv ov).take 39=.int .i64 st::.int .i64 m.value::txt []::.int .i64 m.steps::.int .i64 m.pc::(m.regs.map (Value.int .i64)++[mv,txt m.input]):=by
  simp only[z0f,List.take_succ_cons];rw[show 34=(m.regs.map (Value.int .i64)).length+2 by rw[zlm,h.len],List.take_append,ztl (Nat.le_add_right _ _)];simp
 rw[e];simp[z0f]
end
abbrev z1r(T:TypeId)(r:Nat)(st:Int)(m:MaR)(mv ov:Value):List Itm:=[bx r T (z0f st m mv ov),orow 3 m.mem mv,orow 5 m.out ov]
section
variable {T:TypeId}{r:Nat}{st:Int}{m:MaR}{mv ov:Value}{S K:PH}{J:List Itm}
theorem z5u(h:Held S K (z1r T r st m mv ov++J)){off:Nat}{vs:List Value}(hv:((z0f st m mv ov).drop off).take vs.length=vs):rowAt K (some ⟨r,off,none⟩) vs:=by
 have:=z1k h (List.mem_append_left _ (zms)) off vs.length;rwa[hv]at this
theorem Z4u(h:Held S K (z1r T r st m mv ov++J))(ok:MaOk m){a:Int}(h0:0≤a)(h1:a≤31):rowAt K (some ⟨r,5+a.toNat,none⟩) [vi (m.reg a)]:=z5u h (c_reg ok h0 h1)
theorem Z3l (h:Held S K (z1r T r st m mv ov++J)) (ok:MaOk m):rowAt K (some ⟨r,37,none⟩) [mv]:=z5u h (by
 have:=zec (st:=st) (mv:=mv) (ov:=ov) ok 0;rw[show 37+0=37 from rfl]at this;rw[this];rfl)
theorem Zjl (h:Held S K (z1r T r st m mv ov++J)) (ok:MaOk m):rowAt K (some ⟨r,38,none⟩) [txt m.input]:=z5u h (by
 have:=zec (st:=st) (mv:=mv) (ov:=ov) ok 1;rw[show 37+1=38 from rfl]at this;rw[this];rfl)
theorem zhv (h:Held S K (z1r T r st m mv ov++J)) (ok:MaOk m):rowAt K (some ⟨r,39,none⟩) [ov]:=z5u h (by
 have:=zec (st:=st) (mv:=mv) (ov:=ov) ok 2;rw[show 37+2=39 from rfl]at this;rw[this];rfl)
theorem Zqk(h:Held S K (z1r T r st m mv ov++J)):SlR K m.mem mv:=(h.row (e:=3) sM).slR h.sh
theorem zhx(h:Held S K (z1r T r st m mv ov++J)):∃b c,ov=.slice b m.out.length c:=(h.row (e:=5) sM).sl
end
theorem Z9q(l m:List Int)(va vb:Value)(H:PH)(hl:SlR H l va)(hm:SlR H m vb):Gives zP 29 [va,vb] H (.bool (decide (l=m))):=by
 obtain⟨b1,c1,rfl⟩:=hl.sl;obtain⟨b2,c2,rfl⟩:=hm.sl;have m1:=hl.max;have m2:=hm.max;simp only[maxLen]at m1 m2;refine qr zkb [.slice b1 l.length c1,.slice b2 m.length c2] ?_;refine⟨fun h=>?_,fun h=>?_⟩
 .simp only[wz,zdt]at h;rw[qX (fun e=>h (by rw[e]))];exact⟨rfl,wy H⟩
 .simp only[wz,zdf,Decidable.not_not]at h;have hlen:l.length=m.length:=om;refine⟨fun j vs H'=>∃k:Nat,vs=[.bool false,vi k]∧k+j=l.length∧l.take k=m.take k∧PH.le H H',⟨l.length,0,rfl,om,rfl,wy H⟩,?_⟩;rintro j vs H' _ ⟨k,rfl,hkn,hno,hle⟩;refine⟨fun h=>?_,fun h=>?_⟩
  .simp only[wz,zdt]at h;obtain⟨a,ha⟩:∃a,l[k]?=some a:=⟨_,zge (show k<l.length by omega)⟩;obtain⟨a',ha'⟩:∃a,m[k]?=some a:=⟨_,zge (show k<m.length by omega)⟩;obtain⟨g1,_,ces,g2,g3⟩:=(hl.le hle).get ha;obtain⟨q1,_,des,q2,q3⟩:=(hm.le hle).get ha';obtain⟨rfl,_⟩:=csIK g2;obtain⟨rfl,_⟩:=csIK q2;refine⟨fun _=>?_,[vi a],rfl,?_,fun _=>?_,[vi a'],rfl,?_,fun h2=>?_,fun h2=>?_⟩
   .simp only[Chk.holds,wz];exact⟨g1,om,om⟩
   .simp only[wz];exact g3
   .simp only[Chk.holds,wz];exact⟨q1,om,om⟩
   .simp only[wz];exact q3
   .simp only[wz,zdt]at h2;have:l≠m:=fun e=>by
     subst e;rw[ha]at ha';cases ha';exact h2 rfl
    rw[qX this];exact⟨rfl,hle⟩
   .simp only[wz,zdf,Decidable.not_not]at h2;subst h2;refine⟨_,z00,j-1,om,k+1,?_,om,?_,hle⟩
    .simp only[wz];rw[w64 om om];rfl
    .rw[qZ,qZ,ha,ha',hno]
  .simp only[wz,zdf]at h;rw[ztl om,ztl om]at hno;rw[qW hno];exact⟨rfl,hle⟩
def EndX.reads(e:EndX)(r:Int):Bool:=
 if e.kind=1∨e.kind=2∨e.kind=5∨e.kind=6 then decide (e.reg=r)else if e.kind=3∨e.kind=4 then decide (e.reg=r)||decide (r∈e.args)else false
def EndX.calls(e:EndX):Bool:=decide (e.kind=4∨e.kind=6)
def EndX.ways(e:EndX):List Int:=(if e.kind=0∨e.kind=1∨e.kind=4∨e.kind=6 then[e.next]else[])++(if e.kind=1 then[e.els]else[])
def EndX.leads(e:EndX)(n:Nat):List Int:=e.ways.filter fun b=>decide (0≤b∧b<n)
def endVs(e:EndX)(av:Value):List Value:=[vi e.kind,vi e.reg,av,vi e.to,vi e.next,vi e.els]
def insL(n:Int):List Int→List Int
 | []=>[n]
 |a::l=>if n<a then n::a::l else a::insL n l
def putL(l:List Int)(n:Int):List Int:=if n∈l then l else insL n l
theorem Z9h(n:Int):∀l,(insL n l).length=l.length+1
 | []=>rfl
 |a::l=>by unfold insL;split<;>simp[Z9h n l]
theorem zyf(n x:Int):∀l,x∈insL n l↔x=n∨x∈l
 | []=>by simp[insL]
 |a::l=>by
  unfold insL;split
  .simp
  .simp only[zmc,zyf n x l];constructor
   .rintro(h|h|h)
    .exact .inr (.inl h)
    .exact .inl h
    .exact .inr (.inr h)
   .rintro(h|h|h)
    .exact .inr (.inl h)
    .exact .inl h
    .exact .inr (.inr h)
theorem zzy{n:Int}:∀{l:List Int},l.Pairwise (· < ·)→n∉l→(insL n l).Pairwise (· < ·)
 | [],_,_=>by simp[insL]
 |a::l,h,hn=>by
  obtain⟨h1,h2⟩:=List.pairwise_cons.1 h;simp only[zmc,not_or]at hn;unfold insL;split
  .rename_i hlt;refine List.pairwise_cons.2 ⟨fun b hb=>?_,h⟩;rcases zmc.1 hb with rfl|hb
   .exact hlt
   .exact Int.lt_trans hlt (h1 b hb)
  .rename_i hlt;refine List.pairwise_cons.2 ⟨fun b hb=>?_,zzy h2 hn.2⟩;rcases(zyf n b l).1 hb with rfl|hb
   .omega
   .exact h1 b hb
theorem Znq(n x:Int)(l:List Int):x∈putL l n↔x=n∨x∈l:=by
 unfold putL;split
 .rename_i h;exact⟨.inr,fun hx=>hx.elim (fun e=>e▸h) id⟩
 .exact zyf n x l
theorem Zgi{n:Int}{l:List Int}(h:l.Pairwise (· < ·)):(putL l n).Pairwise (· < ·):=by
 unfold putL;split
 .exact h
 .rename_i hn;exact zzy h hn
theorem Zni(l:List Int)(n:Int):(putL l n).length≤l.length+1:=by
 unfold putL;split
 .omega
 .rw[Z9h];omega
def prcVs(p:PrcX)(bv:Value):List Value:=[vi p.params,vi p.holds,vi p.regs,bv]
theorem Zn7(e:EndX):e.ways.length≤2:=by
 unfold EndX.ways;rw[zla];split<;>split<;>simp
def EndX.regs(e:EndX):List Int:=(if e.reads e.reg then[e.reg]else[])++(if e.kind=3∨e.kind=4 then e.args else[])
def BlkX.regs(b:BlkX):List Int:=b.ins.flatMap (·.args)++b.e.regs
def PrcX.regl(p:PrcX):List Int:=p.blocks.flatMap BlkX.regs
def readL(p:PrcX):List Int:=p.regl.foldl putL []
theorem Z8l(l:List Int):∀acc:List Int,(l.foldl putL acc).length≤acc.length+l.length:=by
 induction l with
 |nil=>intro acc;simp
 |cons a l ih=>
  intro acc;have h1:=ih (putL acc a);have h2:=Zni acc a;simp only[List.foldl_cons,zlc];omega
theorem Z78(l:List Int)(x:Int):∀acc:List Int,x∈l.foldl putL acc↔x∈acc∨x∈l:=by
 induction l with
 |nil=>intro acc;simp
 |cons a l ih=>
  intro acc;rw[List.foldl_cons,ih,Znq,zmc];constructor
  .rintro((h|h)|h)
   .exact .inr (.inl h)
   .exact .inl h
   .exact .inr (.inr h)
  .rintro(h|h|h)
   .exact .inl (.inr h)
   .exact .inl (.inl h)
   .exact .inr h
theorem Z1i(l:List Int):∀acc:List Int,acc.Pairwise (· < ·)→(l.foldl putL acc).Pairwise (· < ·):=by
 induction l with
 |nil=>intro acc h;exact h
 |cons a l ih=>intro acc h;exact ih _ (Zgi h)
theorem Ze1(p:PrcX):(readL p).Pairwise (· < ·):=Z1i _ _ .nil
theorem Zlq(p:PrcX)(x:Int):x∈readL p↔x∈p.regl:=by
 unfold readL;rw[Z78];simp
theorem Z03{α β:Type}(f:α→List β){l:List α}{k:Nat}{a:α}(h:l[k]?=some a):(l.take (k+1)).flatMap f=(l.take k).flatMap f++f a:=by
 rw[qZ,h,List.flatMap_append];simp
theorem zm2{α β:Type}(f:α→List β)(l:List α)(k:Nat):((l.take k).flatMap f).length≤(l.flatMap f).length:=by
 have:(l.flatMap f)=(l.take k).flatMap f++(l.drop k).flatMap f:=by rw[←List.flatMap_append,List.take_append_drop]
 rw[this,zla];omega
theorem Zo1{p:PrcX}{i:Nat}{b:BlkX}(hb:p.blocks[i]?=some b):b.regs.length+((p.blocks.take i).flatMap BlkX.regs).length≤p.regl.length:=by
 have h1:=Z03 BlkX.regs hb;have h2:=zm2 BlkX.regs p.blocks (i+1);have h3:=congrArg List.length h1;rw[zla]at h3;show _≤(p.blocks.flatMap BlkX.regs).length;omega
def tieB:List UInt8:=[116,105,101]
def InsX.fills(x:InsX)(r:Int):Prop:=x.op≠tieB∧x.to=r
def thru(r:Int):List InsX→Prop→Prop
 | [],q=>q
 |x::xs,q=>r∈x.args∨(¬x.fills r∧thru r xs q)
def ze8(e:EndX)(n:Nat)(r:Int)(L:Nat→Prop):Prop:=e.reads r=true∨(¬(e.calls=true∧e.to=r)∧∃b:Nat,(b:Int)∈e.leads n∧L b)
def zdm(p:PrcX)(r:Int)(L:Nat→Prop)(i at_:Nat):Prop:=∃b,p.blocks[i]?=some b∧thru r (b.ins.drop at_) (ze8 b.e p.blocks.length r L)
def LiveB(p:PrcX)(r:Int)(i:Nat):Prop:=∀L:Nat→Prop,(∀j,zdm p r L j 0→L j)→L i
def z6p(p:PrcX)(r:Int)(i at_:Nat):Prop:=zdm p r (LiveB p r) i at_
theorem zly{r:Int}{q q':Prop}(h:q→q'):∀{l:List InsX},thru r l q→thru r l q'
 | [],hq=>h hq
 |x::xs,hq=>hq.imp id fun h2=>⟨h2.1,zly h h2.2⟩
theorem Zcf{e:EndX}{n:Nat}{r:Int}{L L':Nat→Prop}(h:∀i,L i→L' i)(hl:ze8 e n r L):ze8 e n r L':=
 hl.imp id fun⟨h1,b,h2,h3⟩=>⟨h1,b,h2,h b h3⟩
theorem z62{p:PrcX}{r:Int}{L L':Nat→Prop}(h:∀i,L i→L' i){i at_:Nat}(hl:zdm p r L i at_):zdm p r L' i at_:=by
 obtain⟨b,h1,h2⟩:=hl;exact⟨b,h1,zly (Zcf h) h2⟩
theorem zzf{p:PrcX}{r:Int}{i:Nat}(h:z6p p r i 0):LiveB p r i:=fun L hL=>hL i (z62 (fun j hj=>hj L hL) h)
theorem zs8{p:PrcX}{r:Int}{i:Nat}(h:LiveB p r i):z6p p r i 0:=h (fun j=>z6p p r j 0) fun _ hj=>z62 (fun _ hk=>zzf hk) hj
theorem Z68{p:PrcX}{r:Int}{i:Nat}:LiveB p r i↔z6p p r i 0:=⟨zs8,zzf⟩
theorem Z5l{r:Int}{q:Prop}:∀{l:List InsX},thru r l q→r∈l.flatMap (·.args)∨q
 | [],h=>.inr h
 |x::xs,h=>by
  simp only[qO,zma];rcases h with h|⟨_,h⟩
  .exact .inl (.inl h)
  .rcases Z5l h with h|h
   .exact .inl (.inr h)
   .exact .inr h
theorem Zgf{e:EndX}{r:Int}(h:e.reads r=true):r∈e.regs:=by
 unfold EndX.reads at h;unfold EndX.regs;split at h
 .rename_i hk;simp only[zdt]at h;have:e.reads e.reg=true:=by unfold EndX.reads;rw[qj hk];simp
  rw[qj this];simp[h]
 .split at h
  .rename_i hk hk2;have:e.reads e.reg=true:=by unfold EndX.reads;rw[qc hk,qj hk2];simp
   rw[qj this,qj hk2];simp only[qu,zdt]at h;rcases h with h|h
   .simp[h]
   .simp[h]
  .cases h
theorem z50{p:PrcX}{r:Int}{i at_:Nat}(h:z6p p r i at_):r∈p.regl:=by
 have key:∀{j a:Nat} {L:Nat→Prop},(∀k,L k→r∈p.regl)→zdm p r L j a→r∈p.regl:=by
  rintro j a L hL ⟨b,hb,ht⟩;have hmem:∀x∈b.regs,x∈p.regl:=fun x hx=>List.mem_flatMap.2 ⟨b,zmg hb,hx⟩;rcases Z5l ht with h|h
  .refine hmem r (List.mem_append_left _ ?_);obtain⟨y,hy,hr⟩:=List.mem_flatMap.1 h;exact List.mem_flatMap.2 ⟨y,List.mem_of_mem_drop hy,hr⟩
  .rcases h with h|⟨_,k,_,hk⟩
   .exact hmem r (wu _ (Zgf h))
   .exact hL k hk
 exact key (fun k hk=>hk (fun _=>r∈p.regl) fun j hj=>key (fun _ h=>h) hj) h
open Classical in
noncomputable def liveD(p:PrcX)(r:Int)(i at_:Nat):Bool:=decide (z6p p r i at_)
theorem Zk4{p:PrcX}{r:Int}{i at_:Nat}:liveD p r i at_=true↔z6p p r i at_:=by
 unfold liveD;simp
noncomputable def liveL(p:PrcX)(i at_:Nat):List Int:=(readL p).filter fun r=>liveD p r i at_
theorem liveL_mem{p:PrcX}{i at_:Nat}{r:Int}:r∈liveL p i at_↔z6p p r i at_:=by
 unfold liveL;rw[zmf,Zk4,Zlq];exact⟨fun h=>h.2,fun h=>⟨z50 h,h⟩⟩
theorem zei(p:PrcX)(i at_:Nat):(liveL p i at_).Pairwise (· < ·):=(Ze1 p).sublist List.filter_sublist
theorem zk2:∀{l m:List Int},l.Pairwise (· < ·)→m.Pairwise (· < ·)→(∀x,x∈l↔x∈m)→l=m
 | [],[],_,_,_=>rfl
 | [],b::m,_,_,h=>absurd ((h b).2 (zms)) sM
 |a::l,[],_,_,h=>absurd ((h a).1 (zms)) sM
 |a::l,b::m,hl,hm,h=>by
  obtain⟨l1,l2⟩:=List.pairwise_cons.1 hl;obtain⟨m1,m2⟩:=List.pairwise_cons.1 hm;have hab:a=b:=by
   have ha:=(h a).1 (zms);have hb:=(h b).2 (zms);rcases zmc.1 ha with e|ha
   .exact e
   .rcases zmc.1 hb with e|hb
    .exact e.symm
    .have:=m1 a ha;have:=l1 b hb;omega
  subst hab;congr 1;refine zk2 l2 m2 fun x=>?_;constructor
  .intro hx;rcases zmc.1 ((h x).1 (zmm _ hx))with e|h1
   .subst e;have:=l1 x hx;omega
   .exact h1
  .intro hx;rcases zmc.1 ((h x).2 (zmm _ hx))with e|h1
   .subst e;have:=m1 x hx;omega
   .exact h1
theorem zds:Tryz.prog.underlying 116=some (.slice 4):=kr
theorem zab:OneOk zP 4 1 (.bool false):=OneOk.of kr rfl
theorem csBK{H:PH}{a:Bool}{cs:List Value}(h:CsR H a cs):cs=[.bool a]:=by
 have h':PV.RepRow H [.bool a] cs:=h;simp only[PV.RepRow,PV.Rep]at h';obtain⟨v,vs,rfl,rfl,rfl⟩:=h';rfl
theorem zpw{S:PH}{a:Bool}:CsR S a [.bool a]:=by
 show PV.RepRow S [.bool a] [.bool a];simp only[PV.RepRow,PV.Rep];exact⟨_,_,rfl,rfl,rfl⟩
theorem zw8(l:List UInt8):cmpS .neq ⟨l.toArray⟩ ⟨#[116,105,101]⟩=!decide (l=tieB):=by
 show(!((⟨l.toArray⟩:ByteArray).toList==(⟨tieB.toArray⟩:ByteArray).toList))=_;rw[zus]
structure InsOk(x:InsR):Prop where
 op:0≤x.op∧x.op<32
 a:0≤x.a∧x.a≤31
 b:0≤x.b∧x.b≤31
 c:0≤x.c∧x.c≤31
 n:-1048576≤x.n∧x.n≤1048575
 sh:x.op=18∨x.op=19→0≤x.n∧x.n≤63
theorem Zjb{x:InsR}{w:Int}(h:encR x=some w):InsOk x:=by
 unfold encR at h;by_cases h1:x.op<0∨32≤x.op
 .rw[qj h1]at h;cases h
 rw[qc h1]at h;by_cases h2:fitsR x=true
 .unfold fitsR at h2;simp only[zba,zdt]at h2;obtain⟨⟨⟨⟨ra,rb⟩,rc⟩,rl⟩,rm⟩:=h2;have hk:=Z9j x.op;have h3:=hk.least;have h4:=hk.most;refine⟨om,zpp ra,zpp rb,zpp rc,om,fun hs=>?_⟩;have hf:frmR x.op=farF:=by rcases hs with hs|hs<;>rw[hs]<;>rfl
  rw[hf]at rl rm;exact⟨rl,rm⟩
 .rw[qc h2]at h;cases h
theorem Zqp{w:Int}{x:InsR}(h:decR w=some x):InsOk x:=by
 unfold decR at h;by_cases h1:32≤w/67108864
 .rw[qj h1]at h;cases h
 rw[qc h1]at h;by_cases h2:encR (zp7 w)=some w
 .rw[qj h2]at h;simp only[qB]at h;rw[←h];exact Zjb h2
 .rw[qc h2]at h;cases h
theorem Zr5{S:PH}(c:UInt8):CsR S c [.int .u8 (c.toNat:Int)]:=by
 have:=c.toNat_lt;exact⟨_,_,rfl,⟨rfl,by simp[IntKind.min,IntKind.bits,IntKind.signed],by simp[IntKind.max,IntKind.bits,IntKind.signed];omega⟩,rfl⟩
section
variable {r:Nat}{st:Int}{m:MaR}{mv ov:Value}{S K:PH}{J:List Itm}
end
theorem Zcg(m:MaR)(x:InsR):(stR m x).2.mem.length=m.mem.length∧(((stR m x).1=6∧(stR m x).2.steps=m.steps+1)∨((stR m x).1≠6∧(stR m x).2.steps≤m.steps+1∧m.steps≤(stR m x).2.steps))∧((stR m x).2.out.length:Int)-m.out.length≤(stR m x).2.steps-m.steps∧InI (stR m x).1∧(0≤(stR m x).1∧(stR m x).1≤6):=by
 have put:∀(r v to:Int),(m.put r v to).mem.length=m.mem.length∧(m.put r v to).steps=m.steps+1∧(m.put r v to).out=m.out:=fun _ _ _=>⟨rfl,rfl,rfl⟩;have goes:∀to,(m.goes to).mem=m.mem∧(m.goes to).steps=m.steps+1∧(m.goes to).out=m.out:=fun _=>⟨rfl,rfl,rfl⟩;have key:∀y:Int×MaR,stR m x=y→y.2.mem.length=m.mem.length∧((y.1=6∧y.2.steps=m.steps+1)∨(y.1≠6∧y.2.steps≤m.steps+1∧m.steps≤y.2.steps))∧(y.2.out.length:Int)-m.out.length≤y.2.steps-m.steps∧InI y.1∧(0≤y.1∧y.1≤6):=by
  intro y hy;have c6:InI 6:=by unfold InI;omega
  have P6:∀(r v to:Int),stR m x=(6,m.put r v to)→y.2.mem.length=m.mem.length∧((y.1=6∧y.2.steps=m.steps+1)∨(y.1≠6∧y.2.steps≤m.steps+1∧m.steps≤y.2.steps))∧(y.2.out.length:Int)-m.out.length≤y.2.steps-m.steps∧InI y.1∧(0≤y.1∧y.1≤6):=by
   intro r v to he;rw[he]at hy;subst hy;exact⟨rfl,.inl ⟨rfl,rfl⟩,by show((m.out.length:Int)-m.out.length)≤(m.steps+1)-m.steps;omega,c6,sM⟩
  unfold stR at hy;by_cases h0:x.op=0
  .rw[qj h0]at hy;subst hy;refine⟨rfl,.inr ⟨sM,sM,?_⟩,?_,by unfold InI;simp,sM⟩
   .simp only[];omega
   .simp only[];omega
  rw[qc h0]at hy;by_cases h1:(x.op=5∨x.op=6)∧m.reg x.c=0
  .rw[qj h1]at hy;subst hy;refine⟨rfl,.inr ⟨sM,by simp only[];omega,by simp only[];omega⟩,by simp only[];omega,by unfold InI;simp,sM⟩
  rw[qc h1]at hy;have fin:∀(r v to:Int),(6,m.put r v to)=y→y.2.mem.length=m.mem.length∧((y.1=6∧y.2.steps=m.steps+1)∨(y.1≠6∧y.2.steps≤m.steps+1∧m.steps≤y.2.steps))∧(y.2.out.length:Int)-m.out.length≤y.2.steps-m.steps∧InI y.1∧(0≤y.1∧y.1≤6):=by
   intro r v to he;subst he;exact⟨rfl,.inl ⟨rfl,rfl⟩,by show((m.out.length:Int)-m.out.length)≤(m.steps+1)-m.steps;omega,c6,sM⟩
  by_cases h2:x.op=15
  .rw[qj h2]at hy;exact fin _ _ _ hy
  rw[qc h2]at hy;by_cases h3:x.op=16
  .rw[qj h3]at hy;exact fin _ _ _ hy
  rw[qc h3]at hy;by_cases h4:x.op=17
  .rw[qj h4]at hy;exact fin _ _ _ hy
  rw[qc h4]at hy;by_cases h5:x.op=18
  .rw[qj h5]at hy;exact fin _ _ _ hy
  rw[qc h5]at hy;by_cases h6:x.op=19
  .rw[qj h6]at hy;exact fin _ _ _ hy
  rw[qc h6]at hy;by_cases h7:x.op=20
  .rw[qj h7]at hy;exact fin _ _ _ hy
  rw[qc h7]at hy;by_cases h8:x.op=21
  .rw[qj h8]at hy;exact fin _ _ _ hy
  rw[qc h8]at hy;by_cases h9:x.op=22∨x.op=23
  .rw[qj h9]at hy;split at hy
   .subst hy;refine⟨rfl,.inr ⟨sM,by simp only[];omega,by simp only[];omega⟩,by simp only[];omega,by unfold InI;simp,sM⟩
   .split at hy
    .subst hy;refine⟨List.length_set,.inl ⟨rfl,rfl⟩,by show((m.out.length:Int)-m.out.length)≤(m.steps+1)-m.steps;omega,c6,sM⟩
    .exact fin _ _ _ hy
  rw[qc h9]at hy;by_cases h10:x.op=24∨x.op=25∨x.op=26∨x.op=27
  .rw[qj h10]at hy;subst hy;exact⟨rfl,.inl ⟨rfl,rfl⟩,by show((m.out.length:Int)-m.out.length)≤(m.steps+1)-m.steps;omega,c6,sM⟩
  rw[qc h10]at hy;by_cases h11:x.op=28
  .rw[qj h11]at hy;exact fin _ _ _ hy
  rw[qc h11]at hy;by_cases h12:x.op=29
  .rw[qj h12]at hy;exact fin _ _ _ hy
  rw[qc h12]at hy;by_cases h13:x.op=30
  .rw[qj h13]at hy;subst hy;exact⟨rfl,.inl ⟨rfl,rfl⟩,by show((m.out.length:Int)-m.out.length)≤(m.steps+1)-m.steps;omega,c6,sM⟩
  rw[qc h13]at hy;by_cases h14:x.op=31
  .rw[qj h14]at hy;split at hy
   .subst hy;refine⟨rfl,.inr ⟨sM,by simp only[];omega,by simp only[];omega⟩,by simp only[];omega,by unfold InI;simp,sM⟩
   .subst hy;refine⟨rfl,.inl ⟨rfl,rfl⟩,?_,c6,sM⟩;show(((m.out++[UInt8.ofNat (m.reg x.a).toNat]).length:Int)-m.out.length)≤(m.steps+1)-m.steps;rw[zla,List.length_singleton];omega
  rw[qc h14]at hy;exact fin _ _ _ hy
 exact key _ rfl
def haltV(h:HaltR)(mv:Value):List Value:=[vi h.state,vi h.value,txt h.out,vi h.steps,vi h.pc]++h.regs.map (Value.int .i64)++[mv]
theorem zb4:OneOk zP 3 8 (vi 0):=OneOk.of kr rfl
theorem zf8{S:PH}:CsR S false [.bool false]:=zpw
theorem z7n{S:PH}:CsR S (0:Int) [vi 0]:=z0e (by unfold InI;omega)
theorem z4p{P:Program}{X:List PanicEntry→PH→Prop}{β:Type}{E:List Value}{H:PH}{L:LK}{K:β→List Value→PH→LK→Prop}{s t e ty:TypeId}{x:Operand}{args:List (Nat×VE)}{pend:List (SV×List SV)}{k:Fm β}{l:List UInt8}{v:Value}
  (hs:P.underlying s=some (.slice e)) (ht:P.underlying t=some .string) (he:P.underlying e=some (.int .u8)) (hx:argEv E args x=v) (h:SlR H l v) (hp:z0l E H pend) (hk:den P X k (E++[txt l]) H L K) :
  den P X (.sem (.convert s t x) ty args (.sc .str) pend k) E H L K:=by
 show wpS P (execOp (argEv E args) (bare _ ty)) _ _ H;rw[Zbc,hx];rcases(SlR.mk_iff.1 h).2 with⟨rfl,rfl⟩|⟨a,c,rfl,h1,h2,h3⟩
 .exact Z4j hs ht he ⟨[_],rfl,rfl,hp,hk⟩
 .refine Zh4 hs ht he (fun j u hu=>?_) ⟨[_],rfl,rfl,hp,hk⟩;rw[zem]at hu;cases hb:l[j]? with
  |none=>rw[hb]at hu;cases hu
  |some b=>
   rw[hb]at hu;obtain⟨cs,h4,h5⟩:=RepRows.get h3 hb;obtain⟨v1,_,rfl,h6,rfl⟩:=h4;have:=h5 0 v1 rfl;have e1:v1=.int .u8 (b.toNat:Int):=h6.1;rw[e1]at this;cases hu;have e2:(a.add (j*sz UInt8)).add 0=a.add j:=by
    show Addr.add (Addr.add a (j*1)) 0=a.add j;simp[Addr.add]
   rw[e2]at this;exact this
theorem zet:∀{l:List Int},l.length=32→∃a0 a1 a2 a3 a4 a5 a6 a7 a8 a9 b0 b1 b2 b3 b4 b5 b6 b7 b8 b9 c0 c1 c2 c3 c4 c5 c6 c7 c8 c9 d0 d1,l=[a0,a1,a2,a3,a4,a5,a6,a7,a8,a9,b0,b1,b2,b3,b4,b5,b6,b7,b8,b9,c0,c1,c2,c3,c4,c5,c6,c7,c8,c9,d0,d1]:=by
 intro l h;have step:∀{n:Nat} {l:List Int},l.length=n+1→∃a t,l=a::t∧t.length=n:=by
  intro n l h;cases l with
  |nil=>cases h
  |cons a t=>exact⟨a,t,rfl,by simpa using h⟩
 obtain⟨a0,l1,rfl,h1⟩:=step h;obtain⟨a1,l2,rfl,h2⟩:=step h1;obtain⟨a2,l3,rfl,h3⟩:=step h2;obtain⟨a3,l4,rfl,h4⟩:=step h3;obtain⟨a4,l5,rfl,h5⟩:=step h4;obtain⟨a5,l6,rfl,h6⟩:=step h5;obtain⟨a6,l7,rfl,h7⟩:=step h6;obtain⟨a7,l8,rfl,h8⟩:=step h7;obtain⟨a8,l9,rfl,h9⟩:=step h8;obtain⟨a9,l10,rfl,h10⟩:=step h9;obtain⟨b0,l11,rfl,h11⟩:=step h10;obtain⟨b1,l12,rfl,h12⟩:=step h11;obtain⟨b2,l13,rfl,h13⟩:=step h12;obtain⟨b3,l14,rfl,h14⟩:=step h13;obtain⟨b4,l15,rfl,h15⟩:=step h14;obtain⟨b5,l16,rfl,h16⟩:=step h15;obtain⟨b6,l17,rfl,h17⟩:=step h16;obtain⟨b7,l18,rfl,h18⟩:=step h17;obtain⟨b8,l19,rfl,h19⟩:=step h18;obtain⟨b9,l20,rfl,h20⟩:=step h19;obtain⟨c0,l21,rfl,h21⟩:=step h20;obtain⟨c1,l22,rfl,h22⟩:=step h21;obtain⟨c2,l23,rfl,h23⟩:=step h22;obtain⟨c3,l24,rfl,h24⟩:=step h23;obtain⟨c4,l25,rfl,h25⟩:=step h24;obtain⟨c5,l26,rfl,h26⟩:=step h25;obtain⟨c6,l27,rfl,h27⟩:=step h26;obtain⟨c7,l28,rfl,h28⟩:=step h27;obtain⟨c8,l29,rfl,h29⟩:=step h28;obtain⟨c9,l30,rfl,h30⟩:=step h29;obtain⟨d0,l31,rfl,h31⟩:=step h30;obtain⟨d1,l32,rfl,h32⟩:=step h31;exact⟨a0,a1,a2,a3,a4,a5,a6,a7,a8,a9,b0,b1,b2,b3,b4,b5,b6,b7,b8,b9,c0,c1,c2,c3,c4,c5,c6,c7,c8,c9,d0,d1,by rw[qU.1 h32]⟩
def zcz(code:List W32)(limit st:Int)(m:MaR):HaltR:=if st=6 then z7v (goR code (limit-m.steps).toNat m)else z7v (st,m)
theorem Z6d{code:List W32}{limit st:Int}{m:MaR}(h:¬(st=6∧m.steps<limit)):zcz code limit st m=z7v (st,m):=by
 unfold zcz;by_cases h6:st=6
 .rw[qj h6,show(limit-m.steps).toNat=0 by omega,h6];rfl
 .rw[qc h6]
theorem Zlk{code:List W32}{limit:Int}{m:MaR}(h:m.steps<limit):zcz code limit 6 m =
  if m.pc<0∨(code.length:Int)≤m.pc then z7v (3,m)
  else match decR (code.getD m.pc.toNat ⟨0⟩).n with
   |none=>z7v (1,m)
   |some x=>zcz code limit (stR m x).1 (stR m x).2:=by
 obtain⟨k,hk⟩:∃k,(limit-m.steps).toNat=k+1:=⟨(limit-m.steps).toNat-1,om⟩;unfold zcz;rw[qj rfl,hk];simp only[goR];split
 .rfl
 .cases hd:decR (code.getD m.pc.toNat ⟨0⟩).n with
  |none=>rfl
  |some x=>
   simp only[];rcases(Zcg m x).2.1 with⟨h1,h2⟩|⟨h1,_⟩
   .rw[qj h1,qj h1,show(limit-(stR m x).2.steps).toNat=k by omega]
   .rw[qc h1,qc h1]
theorem Zoa{i:ImgR}{input:List UInt8}{steps:Int}(h:zvu i steps=false):runR i input steps=zcz i.code steps 6 (z66 i input):=by
 unfold runR zcz;rw[qc (by rw[h];exact qk),qj rfl];show _=z7v (goR i.code (steps-0).toNat _);rw[Int.sub_zero]
section
variable {P:Program}{Ψ:Value→PH→Prop}{H:PH}
theorem Zct{op:BinOp}{t:TypeId}{x y:Operand}{u v:Array Value}(hop:op=.eql∨op=.neq)(hg:P.eqGuardType P.depth t=false){Ξ:Unit→PH→Prop}:wpS P (eqGuard op t x y (.agg u) (.agg v)) Ξ Ψ H=Ξ () H:=by
 rcases hop with rfl|rfl
 .show wpS P (if(!P.eqGuardType P.depth t)=true then _ else _) Ξ Ψ H=_;rw[qj (by rw[hg];rfl)];rfl
 .show wpS P (if(!P.eqGuardType P.depth t)=true then _ else _) Ξ Ψ H=_;rw[qj (by rw[hg];rfl)];rfl
theorem Z81{X:List PanicEntry→PH→Prop}{β:Type}{E:List Value}{L:LK}{K:β→List Value→PH→LK→Prop}{t U ty:TypeId}{fs:List Field}{asu bs:List Value}{x y:Operand}{args:List (Nat×VE)}{k:Fm β}(ht:P.underlying t=some (.struct fs.toArray))(hheld:P.stoodInHeld t=false)(hg:P.eqGuardType P.depth t=false)(ho:OffB 0 fs=true)
  (hx:argEv E args x=.agg asu.toArray) (hy:argEv E args y=.agg bs.toArray) (hf:FitB P fs asu bs=true) (hk:den P X k (E++[.bool (z6t asu bs)]) H L K):den P X (.sem (.binOp .eql t x y U) ty args (.sc .bool) [] k) E H L K:=by
 show wpS P (execOp (argEv E args) (bare _ ty)) _ _ H;rw[Zhs,hx,hy,Zct (.inl rfl) hg];show wpS P (do pure (Value.bool (←Op.equal t (.agg asu.toArray) (.agg bs.toArray))):Sem Value) _ _ H;rw[z04];show wpS P (Op.equalIn (9998+2) t _ _) _ _ H;rw[Z2k ht hheld ho hf];exact⟨[_],rfl,rfl,z01,hk⟩
end
noncomputable def insFieldsQ:Array Field:=match Tryz.prog.underlying 118 with
 |some (.struct fs)=>fs
 |_=>#[]
theorem Zr1:Tryz.prog.underlying 118=some (.struct insFieldsQ.toList.toArray):=kr
theorem Zmi:Tryz.prog.stoodInHeld 118=false:=kr
theorem Zl3:Tryz.prog.eqGuardType Tryz.prog.depth 118=false:=kr
theorem Zq2:OffB 0 insFieldsQ.toList=true:=kr
theorem Zpp(a b:InsR):FitB zP insFieldsQ.toList (insV a) (insV b)=true:=kr
theorem eqIns(a b:InsR):z6t (insV a) (insV b)=decide (a=b):=by
 obtain⟨a1,a2,a3,a4,a5⟩:=a;obtain⟨b1,b2,b3,b4,b5⟩:=b;have:z6t (insV ⟨a1,a2,a3,a4,a5⟩) (insV ⟨b1,b2,b3,b4,b5⟩)=(decide (a1=b1)&&(decide (a2=b2)&&(decide (a3=b3)&&(decide (a4=b4)&&(decide (a5=b5)&&true))))):=by
  simp[z6t,zjp];rw[show(a1==b1)=decide (a1=b1)from rfl,show(a2==b2)=decide (a2=b2)from rfl,show(a3==b3)=decide (a3=b3)from rfl,show(a4==b4)=decide (a4=b4)from rfl,show(a5==b5)=decide (a5=b5)from rfl]
 rw[this];by_cases h1:a1=b1<;>by_cases h2:a2=b2<;>by_cases h3:a3=b3<;>by_cases h4:a4=b4<;>by_cases h5:a5=b5<;>simp[h1,h2,h3,h4,h5]
theorem Zic{X:List PanicEntry→PH→Prop}{β:Type}{E:List Value}{L:LK}{K:β→List Value→PH→LK→Prop}{H:PH}{U ty:TypeId}{a b:InsR}{x y:Operand}{args:List (Nat×VE)}{k:Fm β}(hx:argEv E args x=.agg (insV a).toArray)(hy:argEv E args y=.agg (insV b).toArray)(hk:den zP X k (E++[.bool (decide (a=b))]) H L K):den zP X (.sem (.binOp .eql 118 x y U) ty args (.sc .bool) [] k) E H L K:=
 Z81 Zr1 Zmi Zl3 Zq2 hx hy (Zpp a b) (by rw[eqIns];exact hk)
theorem Zq0(o:Option Int):decide ((encE o)=0)=o.isSome:=by cases o<;>rfl
theorem zw7(n:Int)(k:Nat)(hk:k≤64):arI .shr .i64 n (k:Int)=shrR n k:=by
 show n.fdiv (2^(min (k:Int).toNat 64))=_;rw[qM,Nat.min_eq_left hk];rfl
theorem zv8(n:Int):1≤z5n n∧z5n n≤4:=by
 unfold z5n
 repeat' split
 all_goals omega
theorem Zqc(n:Int):arI .and .i64 n 65535=n%65536:=zig n 16 om
theorem Zb6(r n:Int):∀k,(restR r n k).length=k
 |0=>rfl
 |k+1=>by simp only[restR,zlc,Zb6 r n k]
def topR(r n:Int)(k:Nat):InsR:=⟨20,r,0,0,(shrR n (16*(k-1))+32768)%65536-32768⟩
theorem Znv{op:Int}:InI (zf5 op):=by unfold zf5;exact z1y dC (z1y dC (z1y dC dC))
theorem Zqz{x:ItemR}(h:mayR x=true)(hk:x.kind=2):24≤x.x.op∧x.x.op≤27:=by
 unfold mayR at h;rw[qc om,qc om,qj hk]at h;simp only[zba,zdt]at h;omega
abbrev plI(p:List Nat):List Int:=p.map fun k:Nat=>(k:Int)
theorem Zf5(x:ItemR)(b:Bool):sizeR x b≤4:=by
 have:=(zv8 x.n).2;unfold sizeR
 repeat' split
 all_goals omega
theorem zch:∀(l:List ItemR)(long:List Bool)(a:Nat),long.length=l.length→(z0q a l long).length=l.length+1
 | [],[],_,_=>rfl
 |x::l,b::long,a,h=>by
  simp only[z0q,zlc];rw[zch l long _ (by simpa using h)]
 | [],_::_,_,h=>by simp at h
 |_::_,[],_,h=>by simp at h
theorem zlz:∀(l:List ItemR)(long:List Bool)(a:Nat),∀q∈z0q a l long,q≤a+4*l.length
 |x::l,b::long,a,q,hq=>by
  simp only[z0q,zmc]at hq;rcases hq with rfl|hq
  .omega
  .have:=zlz l long _ q hq;have:=Zf5 x b;simp only[zlc];omega
 | [],long,a,q,hq=>by
  cases long<;>simp only[z0q,zsi]at hq<;>omega
 |_::_,[],a,q,hq=>by
  simp only[z0q,zsi]at hq;omega
theorem Zfq{l:List ItemR}{long:List Bool}{k:Nat}{x:ItemR}{b:Bool}(hx:l[k]?=some x)(hb:long[k]?=some b):(l.zipIdx.zip long)[k]?=some ((x,k),b):=by
 rw[List.getElem?_zip_eq_some];exact⟨by rw[List.getElem?_zipIdx,hx];simp,hb⟩
theorem zyr{l:List ItemR}{p:List Nat}{long:List Bool}(h:long.length=l.length):(growR l p long).length=l.length:=by
 simp[growR,h]
theorem Zbw{l:List ItemR}{p:List Nat}{long:List Bool}{k:Nat}{x:ItemR}{b:Bool}(hx:l[k]?=some x)(hb:long[k]?=some b):(growR l p long)[k]?=some (b||farR l p k x):=by
 rw[growR,zem,Zfq hx hb];rfl
def cntF(l:List Bool):Nat:=(l.filter fun b=>!b).length
theorem Z9c:∀(a b:List Bool),a.length=b.length→(∀k:Nat,a[k]?=some true→b[k]?=some true)→cntF b≤cntF a∧(b≠a→cntF b<cntF a)
 | [],[],_,_=>⟨we _,fun h=>absurd rfl h⟩
 |x::a,y::b,hl,hk=>by
  have ih:=Z9c a b (by simpa using hl) fun k h=>by simpa using hk (k+1) (by simpa using h)
  have h0:=hk 0;simp only[List.getElem?_cons_zero,qB]at h0;unfold cntF at *;cases x<;>cases y<;>simp at h0⊢
  .exact⟨ih.1,ih.2⟩
  .exact⟨om,om⟩
  .exact⟨ih.1,ih.2⟩
 | [],_::_,h,_=>by simp at h
 |_::_,[],h,_=>by simp at h
theorem Zn2{l:List ItemR}{p:List Nat}{long:List Bool}(h:long.length=l.length)(hn:growR l p long≠long):cntF (growR l p long)<cntF long:=by
 refine(Z9c long (growR l p long) (by rw[zyr h,h]) fun k hk=>?_).2 hn;obtain⟨x,hx⟩:∃x,l[k]?=some x:=⟨_,zge (by have:=(zgi.1 hk).1;omega)⟩;rw[Zbw hx hk];rfl
theorem Zfz{l:List ItemR}{label:Int}{k:Nat}(h:findR l label=some k):k<l.length:=by
 unfold findR at h;rw[List.findIdx?_eq_some_iff_getElem]at h;exact h.1
theorem Zfo{α:Type}(A:List α)(b v:α)(B:List α):(A++b::B).set A.length v=A++v::B:=by
 rw[List.set_append_right _ _ (we _),Nat.sub_self,List.set_cons_zero]
def errA:Except AsmE (List W32×List Nat)→Int
 | .ok _=>0
 | .error .many=>213
 | .error .form=>210
 | .error .twice=>211
 | .error .none_=>212
def codeA:Except AsmE (List W32×List Nat)→List W32
 | .ok x=>x.1
 | .error _=>[]
def Zg2:Except AsmE (List W32×List Nat)→List Nat
 | .ok x=>x.2
 | .error _=>[]
theorem Zp6(x:InsR):InU ((encR x).getD 0):=by
 cases h:encR x with
 |none=>unfold InU;simp
 |some w=>
  have ok:=Zjb h;unfold encR at h;obtain⟨o1,o2,o3,o4,o5,_⟩:=ok;rw[qc om]at h;split at h
  .rename_i hf;simp only[qB]at h;have hk:=Z9j x.op;unfold fitsR at hf;simp only[zba,zdt]at hf;have h2:(2:Int)^(frmR x.op).bits≤2097152:=by
    rcases hk.bits with h|h|h|h<;>rw[h]<;>decide
   have h5:=hk.lo;have h6:=hk.fit;have hm:0≤(if x.n<0 then x.n+2^(frmR x.op).bits else x.n)∧(if x.n<0 then x.n+2^(frmR x.op).bits else x.n)≤2097152:=by
    by_cases hn:x.n<0
    .rw[qj hn];have hb0:(frmR x.op).bits≠0:=fun h=>by have:=h5 h;omega
     have:=h6 hb0;omega
    .rw[qc hn];omega
   generalize(if x.n<0 then x.n+2^(frmR x.op).bits else x.n)=m at *;unfold wordR at h;unfold InU;simp only[Option.getD_some];omega
  .cases h
theorem Zpb(r n:Int)(k:Nat)(h:1≤k):(numR r n k).length=k:=by
 simp only[numR,zlc,Zb6];omega
theorem Zh8(x:ItemR)(b:Bool)(a t:Int):(zb1 x b a t).length≤4:=by
 have h1:=zv8 x.n;unfold zb1
 repeat' split
 all_goals first|(simp;done)|(rw[Zpb _ _ _ om];omega)
abbrev partC(l:List ItemR)(p:List Nat)(x:(ItemR×Nat)×Bool):List W32:=(zb1 x.1.1 x.2 ((p.getD x.1.2 0:Nat):Int) (toR l p x.1.1)).map z3r
theorem Znk(seen:List ItemR)(x:ItemR)(l:List ItemR):badR seen (x::l)=if mayR x=false then 1 else if x.kind=1∧(findR seen x.label).isSome=true then 2 else badR (seen++[x]) l:=rfl
theorem uU32s:Tryz.prog.underlying 53=some (.slice 121):=kr
theorem Zp2:ElemOk zP 121 1 4=true:=kr
theorem csW{S:PH}{w:W32}(h:InU w.n):CsR S w [.int .u32 w.n]:=w32_iff.2 ⟨rfl,h⟩
theorem Zk6{l:List ItemR}{p:List Nat}(hp:∀q∈p,q≤4*l.length)(hs:l.length≤65536)(x:ItemR):0≤toR l p x∧toR l p x≤1099511627776:=by
 unfold toR;split
 .rw[zgd];cases h:p[(findR l x.label).getD 0]? with
  |none=>simp
  |some q=>have:=hp q (zmg h);simp only[Option.getD_some];omega
 .omega
def memR(stack size:Int):List Int:=((((List.replicate 32 0).set 28 (32+stack)).set 29 (32+stack+size)).set 30 (32+stack+size)).set 31 (32+stack+2*size)
def imgR(l:List ItemR)(stack size:Int):ImgR:=⟨codeA (asmR l),memR stack size,32+stack+2*size⟩
theorem zqf:Tryz.prog.underlying 50=some (.slice 131):=kr
theorem zjm:ElemOk zP 131 8 64=true:=kr
structure ValW where
 kind:Int
 int:Int
 text:List UInt8
def isW(n:Int):Bool:=decide (-1152921504606846976≤n)&&decide (n≤1152921504606846975)
def wordX(v:ValW)(symbols:List (List UInt8)):Option Int:=
 if v.text≠[]∧v.kind≠3 then none
 else if v.kind=0 then(if v.int=0∨v.int=1 then some (8*v.int+2)else none)
 else if v.kind=1 then(if isW v.int=true then some (8*v.int)else none)
 else if v.kind=2 then(if 0≤v.int∧v.int≤255 then some (8*(256+v.int)+2)else none)
 else if v.kind=3 then(if v.int=0 then(symbols.findIdx? (fun s=>decide (s=v.text))).map (fun(i:Nat)=>IntKind.i64.wrap (8*(i:Int)+3))else none)
 else if v.kind=4∨v.kind=5∨v.kind=6∨v.kind=7 then(if v.int=0 then some (8*(v.kind-2)+2)else none)
 else none
theorem Zq9{H:PH}{a:List UInt8}{cs:List Value}(h:CsR H a cs):cs=[txt a]:=by
 have h':PV.RepRow H [.str a] cs:=h;simp only[PV.RepRow,zsj]at h';obtain⟨v,vs,rfl,⟨rfl,_⟩,rfl⟩:=h';rfl
theorem or8{n t:Int}(h0:0≤n)(h1:n≤1152921504606846975)(t0:0≤t)(t1:t<8):arI .or .i64 (8*n) t=8*n+t:=by
 show IntKind.i64.wrap (((BitVec.ofInt 64 (8*n) ||| BitVec.ofInt 64 t).toNat:Nat):Int)=_;obtain⟨k,rfl⟩:∃k:Nat,n=(k:Int):=⟨n.toNat,om⟩;obtain⟨j,rfl⟩:∃j:Nat,t=(j:Int):=⟨t.toNat,om⟩;have e1:(BitVec.ofInt 64 (8*(k:Int))).toNat=8*k:=by
  rw[BitVec.toNat_ofInt];omega
 have e2:(BitVec.ofInt 64 (j:Int)).toNat=j:=by
  rw[BitVec.toNat_ofInt];omega
 rw[BitVec.toNat_or,e1,e2];have e3:=Nat.two_pow_add_eq_or_of_lt (i:=3) (b:=j) om k;rw[show(2:Nat)^3=8 from rfl]at e3;rw[←e3,w64 om om];omega
theorem shl3{n:Int}(h0:-1152921504606846976≤n)(h1:n≤1152921504606846975):arI .shl .i64 n 3=8*n:=by
 show IntKind.i64.wrap (n*2^(min (3:Int).toNat 64))=_;rw[show(2:Int)^(min (3:Int).toNat 64)=8 from rfl,w64 om om];omega
theorem zz0(n:Int):IntKind.i64.wrap n=(n+9223372036854775808)%18446744073709551616-9223372036854775808:=by
 have:IntKind.i64.wrap n=if 9223372036854775808≤n%18446744073709551616 then n%18446744073709551616-18446744073709551616 else n%18446744073709551616:=by
  simp only[IntKind.wrap,IntKind.bits,IntKind.signed];simp
 rw[this];split<;>omega
theorem or3(k:Nat):arI .or .i64 (arI .shl .i64 (k:Int) 3) 3=IntKind.i64.wrap (8*(k:Int)+3):=by
 show IntKind.i64.wrap (((BitVec.ofInt 64 (IntKind.i64.wrap ((k:Int)*2^(min (3:Int).toNat 64))) ||| BitVec.ofInt 64 3).toNat:Nat):Int)=_;rw[show(2:Int)^(min (3:Int).toNat 64)=8 from rfl];have e1:(BitVec.ofInt 64 (IntKind.i64.wrap ((k:Int)*8))).toNat=8*(k%2305843009213693952):=by
  rw[BitVec.toNat_ofInt,zz0];omega
 have e2:(BitVec.ofInt 64 3).toNat=3:=dC;rw[BitVec.toNat_or,e1,e2];have e3:8*(k%2305843009213693952) ||| 3=8*(k%2305843009213693952)+3:=by
  have:=Nat.two_pow_add_eq_or_of_lt (i:=3) (b:=3) dC (k%2305843009213693952);rw[show(2:Nat)^3=8 from rfl]at this;exact this.symm
 rw[e3,zz0,zz0];omega
theorem z38(n:Int)(H:PH)(h:0≤n∧n≤100000):Gives zP 34 [vi n] H (vi (8*n+2)):=by
 refine qr zie [vi n] ?_;refine⟨?_,wy _⟩;show Ending.returned (vi (arI .or .i64 (arI .shl .i64 n 3) 2))=_;rw[shl3 om om,or8 om om om om]
theorem Zao(n:Int)(H:PH):Gives zP 78 [vi n] H (.bool (isW n)):=by
 refine qr zwk [vi n] ?_;exact⟨by simp only[wz,arI,isW,ge_iff_le],wy _⟩
theorem isW_iff{n:Int}:isW n=true↔-1152921504606846976≤n∧n≤1152921504606846975:=by simp[isW]
theorem arOr0{n:Int}(h:InI n):arI .or .i64 n 0=n:=by
 show IntKind.i64.wrap (((BitVec.ofInt 64 n ||| BitVec.ofInt 64 0).toNat:Nat):Int)=_;rw[show BitVec.ofInt 64 0=0#64 from rfl,BitVec.or_zero,BitVec.toNat_ofInt];obtain⟨h0,h1⟩:=h;have hp:(0:Int)≤n%(2^64:Nat):=Int.emod_nonneg _ dC;rw[Int.toNat_of_nonneg hp,zzr];split<;>omega
theorem Z75(n:Int)(H:PH):Gives zP 33 [vi n] H (.tuple #[vi (if isW n=true then 8*n else 0),vi (if isW n=true then 0 else 10)]):=by
 refine qr Z9x [vi n] ?_;refine z02 [.bool (isW n)] (qb 78) (Zao n H) rfl z01 fun K l=>?_;simp only[cns];refine⟨fun g=>?_,fun g=>?_⟩
 .simp only[wz,arI,qy]at g;rw[qc (by rw[g];exact qk),qc (by rw[g];exact qk)];exact⟨rfl,l⟩
 .simp only[wz,arI,qR]at g;rw[qj g,qj g];have hb:=isW_iff.1 g;refine z02 [vi (8*n)] (qb 79) ?_ rfl z01 fun K2 l2=>⟨rfl,wx l l2⟩;refine qr Z8q [vi 0,vi n] ?_;refine⟨?_,wy _⟩;show Ending.returned (vi (arI .or .i64 (arI .shl .i64 n 3) 0))=_;rw[shl3 om om,arOr0 (by unfold InI;omega)];rfl
def zv4(l:List (List UInt8))(s:List UInt8):Int:=match l.findIdx? (fun x=>decide (x=s))with
 |none=>-1
 |some k=>(k:Int)
theorem Zb5(l:List (List UInt8))(s:List UInt8)(v:Value)(H:PH)(hl:SlR H l v):Gives zP 35 [v,txt s] H (vi (zv4 l s)):=by
 obtain⟨b,c,rfl⟩:=hl.sl;have hmx:maxLen=9223372036854775807:=rfl;have hlm:=hl.max;refine qr z3y [.slice b l.length c,txt s] ?_;refine⟨fun n vs K=>∃k:Nat,k+n=l.length∧vs=[vi 0,nI k]∧K=H∧∀(i:Nat)(x:List UInt8),i<k→l[i]?=some x→x≠s,⟨l.length,0,om,rfl,rfl,fun i x hi=>absurd hi om⟩,?_⟩;rintro n vs K _ ⟨k,hkn,rfl,rfl,hno⟩;simp only[cns];refine⟨fun g=>?_,fun g=>?_⟩
 .simp only[wz,arI,zdt]at g;obtain⟨x,hx⟩:∃x,l[k]?=some x:=⟨_,zge om⟩;obtain⟨y1,_,cs,y2,y3⟩:=hl.get hx;obtain rfl:=Zq9 y2;refine⟨fun _=>?_,[txt x],rfl,by simp only[wz,arI];exact y3,fun g2=>?_,fun g2=>?_⟩
  .simp only[Chk.holds,wz,arI];exact⟨y1,om,om⟩
  .simp only[wz,arI,z06,zdt]at g2;refine⟨?_,wy _⟩;have:l.findIdx? (fun x=>decide (x=s))=some k:=by
    rw[List.findIdx?_eq_some_iff_getElem];have hkl:k<l.length:=(zgi.1 hx).1;refine⟨hkl,by rw[(zgi.1 hx).2];simp[g2],fun j hj=>?_⟩;have:=hno j l[j] hj (zge om);simpa using this
   unfold zv4;rw[this];rfl
  .simp only[wz,arI,z06,zdf]at g2;refine⟨_,z00,n-1,om,k+1,om,?_,rfl,fun i y hi hy=>?_⟩
   .have hw:IntKind.i64.wrap ((k:Int)+1)=((k+1:Nat):Int):=by rw[w64 om om];rfl
    simp only[wz,arI,hw]
   .rcases Nat.lt_succ_iff_lt_or_eq.1 hi with hi|rfl
    .exact hno i y hi hy
    .rw[hx]at hy;cases hy;exact fun h=>g2 h.symm
 .simp only[wz,arI,zdf]at g;refine⟨?_,wy _⟩;have:l.findIdx? (fun x=>decide (x=s))=none:=by
   rw[List.findIdx?_eq_none_iff];intro y hy;obtain⟨i,hi⟩:=qH hy;have:=hno i y (by have:=(zgi.1 hi).1;omega) hi;simpa using this
  unfold zv4;rw[this];rfl
abbrev valW(v:ValW):List Value:=[vi v.kind,vi v.int,txt v.text]
theorem Z7o(v:ValW)(l:List (List UInt8))(lv:Value)(H:PH)(hl:SlR H l lv):Gives zP 10 [.agg (valW v).toArray,lv] H (.tuple #[vi ((wordX v l).getD 0),.bool (wordX v l).isSome]):=by
 obtain⟨b,c,rfl⟩:=hl.sl;refine qr Zc8 (valW v++[.slice b l.length c]) ?_;simp only[cns];generalize hw:wordX v l=w;unfold wordX at hw;refine⟨fun g=>?_,fun g=>?_⟩
 .simp only[wz,arI,z2r]at g;simp only[qu,zba,zdt]at g;have:w=none:=by
   rw[←hw];by_cases h0:v.text≠[]∧v.kind≠3
   .rw[qj h0]
   .rw[qc h0];have g2:((v.kind≠1∧v.kind≠2)∧v.kind≠0)∧v.int≠0:=by
     rcases g with g|g
     .exact absurd ⟨g.2,g.1⟩ h0
     .exact g
    rw[qc g2.1.2,qc g2.1.1.1,qc g2.1.1.2];by_cases h3:v.kind=3
    .rw[qj h3,qc g2.2]
    .rw[qc h3];split
     .rw[qc g2.2]
     .rfl
  rw[this];exact⟨rfl,wy _⟩
 simp only[wz,arI,z2r]at g;simp only[zof,wl,zdf]at g;have n0:¬(v.text≠[]∧v.kind≠3):=by
  rintro⟨h1,h2⟩;rcases g.1 with g|g
  .exact g h2
  .exact g h1
 have ni:v.kind=1∨v.kind=2∨v.kind=0∨v.int=0:=by
  rcases g.2 with(g|g)|g<;>omega
 rw[qc n0]at hw;have ret0:∀{K:PH},w=none→PH.le H K→(Ending.returned (.tuple #[vi 0,.bool false])=.returned (.tuple #[vi (w.getD 0),.bool w.isSome])∧PH.le H K):=fun h l=>by rw[h];exact⟨rfl,l⟩
 refine⟨fun vs K=>vs=[]∧PH.le H K∧w=none,?_,?_⟩
 .rintro vs K _ ⟨rfl,l,h⟩;exact ret0 h l
 refine⟨fun g1=>?_,fun g1=>?_⟩
 .simp only[wz,arI,zdt]at g1;rw[qc om,qj g1]at hw;refine z02 [vi (if isW v.int=true then 8*v.int else 0),vi (if isW v.int=true then 0 else 10)] (qb 33) (Z75 v.int H) rfl z01 fun K l=>?_;rw[←hw];by_cases h:isW v.int=true
  .simp only[qj h];exact⟨rfl,l⟩
  .simp only[qc h];exact⟨rfl,l⟩
 simp only[wz,arI,zdf]at g1;refine⟨fun g2=>?_,fun g2=>?_⟩
 .simp only[wz,arI,zdt]at g2;rw[qj g2]at hw;have e1:=and_1 v.int;simp only[arI]at e1;refine⟨fun g3=>?_,fun g3=>?_⟩
  .simp only[wz,arI,e1,zdt]at g3;have h3:v.int=0∨v.int=1:=om;rw[qj h3]at hw;refine z02 [vi (8*v.int+2)] (qb 34) (z38 v.int H om) rfl z01 fun K l=>?_;rw[←hw];exact⟨rfl,l⟩
  .simp only[wz,arI,e1,zdf]at g3;rw[qc om]at hw;exact⟨_,z00,rfl,wy _,hw.symm⟩
 simp only[wz,arI,zdf]at g2;rw[qc g2,qc g1]at hw;refine⟨fun g3=>?_,fun g3=>?_⟩
 .simp only[wz,arI,zdt]at g3;rw[qj g3]at hw;have e1:=Z4l v.int;simp only[arI]at e1;refine⟨fun g4=>?_,fun g4=>?_⟩
  .simp only[wz,arI,e1,zdt]at g4;have h3:0≤v.int∧v.int≤255:=om;rw[qj h3]at hw;refine z02 [vi (8*(256+v.int)+2)] (qb 34) ?_ rfl z01 fun K l=>?_
   .have:=z38 (256+v.int) H om;have e2:arI .add .i64 256 v.int=256+v.int:=w64 om om;have e3:Gives zP 34 [vi (arI .add .i64 256 v.int)] H (vi (8*(256+v.int)+2)):=by rw[e2];exact this
    exact e3
   .rw[←hw];exact⟨rfl,l⟩
  .simp only[wz,arI,e1,zdf]at g4;rw[qc om]at hw;exact⟨_,z00,rfl,wy _,hw.symm⟩
 simp only[wz,arI,zdf]at g3;rw[qc g3]at hw;have hi0:v.int=0:=om;refine⟨fun g4=>?_,fun g4=>?_⟩
 .simp only[wz,arI,zdt]at g4;rw[qj g4,qj hi0]at hw;refine z02 [vi (zv4 l v.text)] (qb 35) (Zb5 l v.text _ H hl) rfl z01 fun K l'=>?_;unfold zv4;cases hf:l.findIdx? (fun x=>decide (x=v.text))with
  |none=>
   rw[hf]at hw;refine⟨fun g5=>?_,fun g5=>?_⟩
   .simp[wz,arI]at g5
   .exact⟨_,z00,rfl,l',hw.symm⟩
  |some k=>
   rw[hf]at hw;have hk:k<l.length:=by
    rw[List.findIdx?_eq_some_iff_getElem]at hf;exact hf.1
   refine⟨fun g5=>?_,fun g5=>?_⟩
   .refine⟨?_,l'⟩;rw[←hw];show Ending.returned (.tuple #[vi (arI .or .i64 (arI .shl .i64 (k:Int) 3) 3),.bool true])=_;rw[or3];rfl
   .simp[wz,arI]at g5
 simp only[wz,arI,zdf]at g4;rw[qc g4]at hw;refine⟨fun g5=>?_,fun g5=>?_⟩
 .simp only[wz,arI,zdt]at g5;rw[qj om,qj hi0,g5]at hw;refine z02 [vi (8*2+2)] (qb 34) (z38 2 H om) rfl z01 fun K l=>?_;rw[←hw];exact⟨rfl,l⟩
 simp only[wz,arI,zdf]at g5;refine⟨fun g6=>?_,fun g6=>?_⟩
 .simp only[wz,arI,zdt]at g6;rw[qj om,qj hi0,g6]at hw;refine z02 [vi (8*3+2)] (qb 34) (z38 3 H om) rfl z01 fun K l=>?_;rw[←hw];exact⟨rfl,l⟩
 simp only[wz,arI,zdf]at g6;refine⟨fun g7=>?_,fun g7=>?_⟩
 .simp only[wz,arI,zdt]at g7;rw[qj om,qj hi0,g7]at hw;refine z02 [vi (8*4+2)] (qb 34) (z38 4 H om) rfl z01 fun K l=>?_;rw[←hw];exact⟨rfl,l⟩
 simp only[wz,arI,zdf]at g7;refine⟨fun g8=>?_,fun g8=>?_⟩
 .simp only[wz,arI,zdt]at g8;rw[qj om,qj hi0,g8]at hw;refine z02 [vi (8*5+2)] (qb 34) (z38 5 H om) rfl z01 fun K l=>?_;rw[←hw];exact⟨rfl,l⟩
 simp only[wz,arI,zdf]at g8;rw[qc om]at hw;exact⟨_,z00,rfl,wy _,hw.symm⟩
def formQ(op:Int):Int:=
 if op=0∨op=30∨op=31 then 0
 else if 1≤op∧op≤14 then 1
 else if(15≤op∧op≤19)∨op=22∨op=23 then 2
 else if op=20∨op=21 then 3
 else if 24≤op∧op≤27 then 4
 else if op=28 then 5
 else if op=29 then 6
 else 7
def endsQ(op:Int):Int×Int:=
 if op=16∨op=17∨op=21 then(0,65535)
 else if op=18∨op=19 then(0,63)
 else if formQ op=2∨formQ op=3 then(-32768,32767)
 else if formQ op=4 then(-512,511)
 else if formQ op=5 then(-1048576,1048575)
 else(0,0)
def bitsQ(f:Int):Nat:=if f=2∨f=3 then 16 else if f=4 then 10 else if f=5 then 21 else 0
def hasB(f:Int):Bool:=decide (f≠0)&&decide (f≠3)&&decide (f≠5)
theorem Zmg:∀k:Nat,k<32→formQ (k:Int)≠7∧frmR (k:Int)=⟨true,hasB (formQ (k:Int)),decide (formQ (k:Int)=1),bitsQ (formQ (k:Int)),(endsQ (k:Int)).1,(endsQ (k:Int)).2⟩:=by decide +kernel
theorem Zf9{op:Int}(h0:0≤op)(h1:op<32):formQ op≠7∧frmR op=⟨true,hasB (formQ op),decide (formQ op=1),bitsQ (formQ op),(endsQ op).1,(endsQ op).2⟩:=by
 obtain⟨k,rfl⟩:∃k:Nat,op=(k:Int):=⟨op.toNat,om⟩;exact Zmg k om
theorem zyx{op:Int}(h:op<0∨32≤op):formQ op=7:=by
 unfold formQ;rw[qc om,qc om,qc om,qc om,qc om,qc om,qc om]
theorem Zo8(op:Int):0≤formQ op∧formQ op≤7:=by
 unfold formQ
 repeat' split
 all_goals omega
theorem zhk(op:Int)(H:PH):Gives zP 156 [vi op] H (vi (formQ op)):=by
 refine qr Z7n [vi op] ?_;generalize hf:formQ op=f;unfold formQ at hf;refine⟨fun vs K=>vs=[.bool (decide (op=0∨op=30∨op=31))]∧K=H,?_,fun g=>?_,fun g=>?_⟩;rotate_left
 .simp only[wz,arI,zdt]at g;exact⟨_,z00,by simp[wz,arI,g],rfl⟩
 .simp only[wz,arI,zdf]at g;refine⟨_,z00,?_,rfl⟩;by_cases g7:op=30<;>simp[wz,arI,g,g7]
 rintro vs K _ ⟨rfl,rfl⟩;simp only[cns];refine⟨fun g=>?_,fun g=>?_⟩
 .simp only[wz,arI,zdt]at g;rw[qj g]at hf;exact⟨by rw[←hf];rfl,wy _⟩
 simp only[wz,arI,zdf]at g;rw[qc g]at hf;refine⟨fun g=>?_,fun g=>?_⟩
 .simp only[wz,arI]at g;simp only[zba,zdt]at g;rw[qj om]at hf;exact⟨by rw[←hf];rfl,wy _⟩
 simp only[wz,arI]at g;simp only[wl,zdf]at g;rw[qc om]at hf;refine⟨fun vs K2=>vs=[.bool (decide ((15≤op∧op≤19)∨op=22∨op=23))]∧K2=K,?_,fun g=>?_,fun g=>?_⟩;rotate_left
 .simp only[wz,arI]at g;simp only[zba,zdt]at g;refine⟨_,z00,?_,rfl⟩;have g1:15≤op:=om;simp[wz,arI,g1,g.2]
 .simp only[wz,arI]at g;simp only[wl,zdf]at g;have g1:¬(15≤op∧op≤19):=om;refine⟨_,z00,?_,rfl⟩;by_cases g7:op=22<;>simp[wz,arI,g1,g7]
 rintro vs K2 _ ⟨rfl,rfl⟩;simp only[cns];refine⟨fun g=>?_,fun g=>?_⟩
 .simp only[wz,arI,zdt]at g;rw[qj g]at hf;exact⟨by rw[←hf];rfl,wy _⟩
 simp only[wz,arI,zdf]at g;rw[qc g]at hf;refine⟨fun g=>?_,fun g=>?_⟩
 .have g:op=20∨op=21:=by
   simp only[wz,arI]at g;by_cases h2:op=20
   .exact .inl h2
   .simp only[h2,decide_false,qp,if_false,zdt]at g;exact .inr g
  rw[qj g]at hf;exact⟨by rw[←hf];rfl,wy _⟩
 have g:¬(op=20∨op=21):=by
  simp only[wz,arI]at g;by_cases h2:op=20
  .simp[h2]at g
  .simpa[h2]using g
 rw[qc g]at hf;refine⟨fun g=>?_,fun g=>?_⟩
 .simp only[wz,arI]at g;simp only[zba,zdt]at g;rw[qj om]at hf;exact⟨by rw[←hf];rfl,wy _⟩
 simp only[wz,arI]at g;simp only[wl,zdf]at g;rw[qc om]at hf;refine⟨fun g=>?_,fun g=>?_⟩
 .simp only[wz,arI,zdt]at g;rw[qj g]at hf;exact⟨by rw[←hf];rfl,wy _⟩
 simp only[wz,arI,zdf]at g;rw[qc g]at hf;refine⟨fun g=>?_,fun g=>?_⟩
 .simp only[wz,arI,zdt]at g;rw[qj g]at hf;exact⟨by rw[←hf];rfl,wy _⟩
 simp only[wz,arI,zdf]at g;rw[qc g]at hf;exact⟨by rw[←hf];rfl,wy _⟩
theorem Z27(op:Int)(H:PH):Gives zP 157 [vi op] H (.tuple #[vi (endsQ op).1,vi (endsQ op).2]):=by
 refine qr Z73 [vi op] ?_;generalize he:endsQ op=e;unfold endsQ at he;refine⟨fun vs K=>vs=[.bool (decide (op=16∨op=17∨op=21))]∧K=H,?_,fun g=>?_,fun g=>?_⟩;rotate_left
 .simp only[wz,arI,zdt]at g;exact⟨_,z00,by simp[wz,arI,g],rfl⟩
 .simp only[wz,arI,zdf]at g;refine⟨_,z00,?_,rfl⟩;by_cases g7:op=17<;>simp[wz,arI,g,g7]
 rintro vs K _ ⟨rfl,rfl⟩;simp only[cns];refine⟨fun g=>?_,fun g=>?_⟩
 .simp only[wz,arI,zdt]at g;rw[qj g]at he;exact⟨by rw[←he];rfl,wy _⟩
 simp only[wz,arI,zdf]at g;rw[qc g]at he;refine⟨fun g=>?_,fun g=>?_⟩
 .have g:op=18∨op=19:=by
   simp only[wz,arI]at g;by_cases h2:op=18
   .exact .inl h2
   .simp only[h2,decide_false,qp,if_false,zdt]at g;exact .inr g
  rw[qj g]at he;exact⟨by rw[←he];rfl,wy _⟩
 have g:¬(op=18∨op=19):=by
  simp only[wz,arI]at g;by_cases h2:op=18
  .simp[h2]at g
  .simpa[h2]using g
 rw[qc g]at he;refine z02 [vi (formQ op)] (qb 156) (zhk op K) rfl z01 fun K2 l=>?_;simp only[cns];generalize formQ op=f at *;refine⟨fun g=>?_,fun g=>?_⟩
 .have g:f=2∨f=3:=by
   simp only[wz,arI]at g;by_cases h2:f=2
   .exact .inl h2
   .simp only[h2,decide_false,qp,if_false,zdt]at g;exact .inr g
  rw[qj g]at he;exact⟨by rw[←he];rfl,l⟩
 have g:¬(f=2∨f=3):=by
  simp only[wz,arI]at g;by_cases h2:f=2
  .simp[h2]at g
  .simpa[h2]using g
 rw[qc g]at he;refine⟨fun g=>?_,fun g=>?_⟩
 .simp only[wz,arI,zdt]at g;rw[qj g]at he;exact⟨by rw[←he];rfl,l⟩
 simp only[wz,arI,zdf]at g;rw[qc g]at he;refine⟨fun g=>?_,fun g=>?_⟩
 .simp only[wz,arI,zdt]at g;rw[qj g]at he;exact⟨by rw[←he];rfl,l⟩
 simp only[wz,arI,zdf]at g;rw[qc g]at he;exact⟨by rw[←he];rfl,l⟩
theorem zn1(n:Int)(H:PH):Gives zP 158 [vi n] H (.bool (regR n true)):=by
 refine qr Z4s [vi n] ?_;refine⟨?_,wy _⟩;simp only[wz,arI,regR,if_true];have:decide (n<32)=decide (n≤31):=by rw[decide_eq_decide];omega
 rw[this]
theorem zpn{a b:Int}(k:Nat)(ha:0≤a)(hm:a%2^k=0)(hb:0≤b)(hb1:b<2^k)(hs:a+b<4294967296):arI .or .u32 a b=a+b:=by
 show IntKind.u32.wrap (((BitVec.ofInt 32 a ||| BitVec.ofInt 32 b).toNat:Nat):Int)=_;obtain⟨x,rfl⟩:∃x:Nat,a=(x:Int):=⟨a.toNat,om⟩;obtain⟨y,rfl⟩:∃y:Nat,b=(y:Int):=⟨b.toNat,om⟩;have e1:(BitVec.ofInt 32 (x:Int)).toNat=x:=by rw[BitVec.toNat_ofInt];omega
 have e2:(BitVec.ofInt 32 (y:Int)).toNat=y:=by rw[BitVec.toNat_ofInt];omega
 rw[BitVec.toNat_or,e1,e2];have hx:x%2^k=0:=by
  have:((x%2^k:Nat):Int)=0:=by rw[Int.natCast_emod,Int.natCast_pow];exact hm
  omega
 have hy:y<2^k:=by
  have:(y:Int)<((2^k:Nat):Int):=by rw[Int.natCast_pow];exact hb1
  omega
 have hd:x=2^k*(x/2^k):=by
  have:=Nat.div_add_mod x (2^k);omega
 have e3:=Nat.two_pow_add_eq_or_of_lt (i:=k) (b:=y) hy (x/2^k);rw[←hd]at e3;rw[←e3,wu32 om om];omega
theorem zw4{a:Int}(k:Nat)(hk:k≤32)(h0:0≤a)(h1:a*2^k<4294967296):arI .shl .u32 a (k:Int)=a*2^k:=by
 show IntKind.u32.wrap (a*2^(min (k:Int).toNat 32))=_;rw[qM,Nat.min_eq_left hk];have:0≤a*2^k:=Int.mul_nonneg h0 (Int.pow_nonneg dC);exact wu32 this om
theorem zwa(a:Int)(k:Nat)(hk:k≤32):arI .shr .u32 a (k:Int)=a/2^k:=by
 show a.fdiv (2^(min (k:Int).toNat 32))=_;rw[qM,Nat.min_eq_left hk,Int.fdiv_eq_ediv_of_nonneg _ (Int.pow_nonneg dC)]
theorem zp2{n:Int}(k:Nat)(hk:k≤31)(h0:0≤n)(h1:n≤4294967295):arI .and .u32 n ((2^k-1:Nat):Int)=n%(2^k:Nat):=by
 show IntKind.u32.wrap (((BitVec.ofInt 32 n &&& BitVec.ofInt 32 ((2^k-1:Nat):Int)).toNat:Nat):Int)=_;obtain⟨x,rfl⟩:∃x:Nat,n=(x:Int):=⟨n.toNat,om⟩;have hp:2^k≤2^31:=Nat.pow_le_pow_right dC hk;have hp0:0<2^k:=Nat.pow_pos dC;have e1:(BitVec.ofInt 32 (x:Int)).toNat=x:=by rw[BitVec.toNat_ofInt];omega
 have e2:(BitVec.ofInt 32 ((2^k-1:Nat):Int)).toNat=2^k-1:=by
  have hq:2^k-1≤2147483647:=om;rw[BitVec.toNat_ofInt];generalize 2^k-1=q at *;omega
 rw[BitVec.toNat_and,e1,e2,Nat.and_two_pow_sub_one_eq_mod];have hlt:=Nat.mod_lt x hp0;rw[wu32 om om];rfl
theorem zvz(n:Int):IntKind.u32.wrap n=n%4294967296:=by
 simp only[IntKind.wrap,IntKind.bits,IntKind.signed];simp
theorem Zfm(n:Int):IntKind.u16.wrap n=n%65536:=by
 simp only[IntKind.wrap,IntKind.bits,IntKind.signed];simp
theorem Z5s{n:Int}{h:Bool}(hr:regR n true=true):regR n h=(h||decide (n=0)):=by
 cases h with
 |true=>rw[hr];rfl
 |false=>rfl
theorem Z5n{n:Int}{h:Bool}(hr:regR n true=false):regR n h=false:=by
 cases h with
 |true=>exact hr
 |false=>
  unfold regR at hr⊢;simp only[if_true]at hr;simp only[qp,if_false,zdf];intro h0;rw[h0]at hr;simp at hr
theorem Zmo{op a b c:Int}(ho:0≤op∧op<32)(ha:0≤a∧a≤31)(hb:0≤b∧b≤31)(hc:0≤c∧c≤31):
  arI .or .u32 (arI .or .u32 (arI .or .u32 (arI .shl .u32 (IntKind.u32.wrap op) 26) (arI .shl .u32 (IntKind.u32.wrap a) 21)) (arI .shl .u32 (IntKind.u32.wrap b) 16)) (arI .shl .u32 (IntKind.u32.wrap c) 11)=op*67108864+a*2097152+b*65536+c*2048:=by
 rw[wu32 (n:=op) om om,wu32 (n:=a) om om,wu32 (n:=b) om om,wu32 (n:=c) om om];rw[show(26:Int)=((26:Nat):Int)from rfl,show(21:Int)=((21:Nat):Int)from rfl,show(16:Int)=((16:Nat):Int)from rfl,show(11:Int)=((11:Nat):Int)from rfl];rw[zw4 26 om om om,zw4 21 om om om,zw4 16 om om om,zw4 11 om om om];rw[zpn (a:=op*2^26) (b:=a*2^21) 26 om om om om om];rw[zpn (a:=op*2^26+a*2^21) (b:=b*2^16) 21 om om om om om];rw[zpn (a:=op*2^26+a*2^21+b*2^16) (b:=c*2^11) 16 om om om om om];omega
abbrev baseQ(x:InsR):Int:=arI .or .u32 (arI .or .u32 (arI .or .u32 (arI .shl .u32 (IntKind.u32.wrap x.op) 26) (arI .shl .u32 (IntKind.u32.wrap x.a) 21)) (arI .shl .u32 (IntKind.u32.wrap x.b) 16)) (arI .shl .u32 (IntKind.u32.wrap x.c) 11)
theorem Zhe(op:Int):-1048576≤(endsQ op).1∧(endsQ op).1≤0∧0≤(endsQ op).2∧(endsQ op).2≤1048575:=by
 unfold endsQ
 repeat' split
 all_goals decide
theorem Zmc:∀k:Nat,k<32→(¬(formQ (k:Int)=2∨formQ (k:Int)=3)∨(-32768≤(endsQ (k:Int)).1∧(endsQ (k:Int)).2≤65535))∧(formQ (k:Int)≠4∨endsQ (k:Int)=(-512,511))∧(formQ (k:Int)≠5∨endsQ (k:Int)=(-1048576,1048575))∧((formQ (k:Int)=2∨formQ (k:Int)=3)∨formQ (k:Int)=4∨formQ (k:Int)=5∨endsQ (k:Int)=(0,0)):=by decide +kernel
theorem Z6k(op:Int):(formQ op=2∨formQ op=3→-32768≤(endsQ op).1∧(endsQ op).2≤65535)∧(formQ op=4→endsQ op=(-512,511))∧(formQ op=5→endsQ op=(-1048576,1048575))∧(¬(formQ op=2∨formQ op=3)→formQ op≠4→formQ op≠5→endsQ op=(0,0)):=by
 by_cases h:op<0∨32≤op
 .have:=zyx h;refine⟨fun h1=>om,fun h1=>om,fun h1=>om,fun _ _ _=>?_⟩;unfold endsQ;rw[qc om,qc om,qc om,qc om,qc om]
 .obtain⟨k,hk,rfl⟩:∃k:Nat,k<32∧op=(k:Int):=⟨op.toNat,om,om⟩;obtain⟨h1,h2,h3,h4⟩:=Zmc k hk;refine⟨fun a=>?_,fun a=>?_,fun a=>?_,fun a b c=>?_⟩
  .rcases h1 with h1|h1
   .exact absurd a h1
   .exact h1
  .rcases h2 with h2|h2
   .exact absurd a h2
   .exact h2
  .rcases h3 with h3|h3
   .exact absurd a h3
   .exact h3
  .rcases h4 with h4|h4|h4|h4
   .exact absurd h4 a
   .exact absurd h4 b
   .exact absurd h4 c
   .exact h4
theorem zk9(x:InsR)(H:PH)(hx:InI5 x):Gives zP 110 [.agg (insV x).toArray] H (encV (encR x)):=by
 refine qr Z0p (insV x) ?_;refine z02 [vi (formQ x.op)] (qb 156) (zhk x.op H) rfl z01 fun K1 l1=>?_;refine z02 [vi (endsQ x.op).1,vi (endsQ x.op).2] (qb 157) (Z27 x.op K1) rfl z01 fun K2 l2=>?_;have l12:=wx l1 l2;simp only[cns];have hout:=@zyx x.op;have hfin:=@Zf9 x.op;have hfi:=Zo8 x.op;obtain⟨q1,q2,q3,q4⟩:=Z6k x.op;have hend:=Zhe x.op;obtain⟨f,hf⟩:∃f,formQ x.op=f:=⟨_,rfl⟩;obtain⟨lo,hlo⟩:∃lo,(endsQ x.op).1=lo:=⟨_,rfl⟩;obtain⟨hi,hhi⟩:∃hi,(endsQ x.op).2=hi:=⟨_,rfl⟩;rw[hf]at hout hfin hfi q1 q2 q3 q4⊢;rw[hlo,hhi]at hfin hend q1⊢;have hE:f≠7→(0≤x.op∧x.op<32)∧encR x=if(regR x.a true&&regR x.b (hasB f)&&regR x.c (decide (f=1))&&decide (lo≤x.n)&&decide (x.n≤hi))=true then some (wordR x (if x.n<0 then x.n+2^bitsQ f else x.n))else none:=fun h7=>by
  have hop:0≤x.op∧x.op<32:=by
   by_cases h:x.op<0∨32≤x.op
   .exact absurd (hout h) h7
   .omega
  refine⟨hop,?_⟩;unfold encR;rw[qc om];unfold fitsR;rw[(hfin hop.1 hop.2).2]
 have hN:∀b:Bool,f≠7→(regR x.a true&&regR x.b (hasB f)&&regR x.c (decide (f=1))&&decide (lo≤x.n)&&decide (x.n≤hi))=!b→(encR x).isNone=b:=fun b h7 hb=>by
  rw[(hE h7).2,hb];cases b<;>rfl
 refine⟨fun vs K=>vs=[.bool (encR x).isNone]∧PH.le K2 K,?_,fun g=>?_,fun g=>?_⟩;rotate_left
 .simp only[wz,arI,zdt]at g;refine⟨_,z00,?_,wy _⟩;have:encR x=none:=by
   unfold encR;by_cases h:x.op<0∨32≤x.op
   .rw[qj h]
   .exact absurd g ((hfin om om).1)
  rw[this];rfl
 .simp only[wz,arI,zdf]at g;refine z02 [.bool (regR x.a true)] (qb 158) (zn1 x.a K2) rfl z01 fun K3 l3=>?_;simp only[cns];refine⟨fun g2=>?_,fun g2=>?_⟩
  .simp only[wz,arI,qy]at g2;exact⟨_,z00,by rw[hN true g (by rw[g2];rfl)];rfl,l3⟩
  simp only[wz,arI,qR]at g2;refine z02 [.bool (regR x.b true)] (qb 158) (zn1 x.b K3) rfl z01 fun K4 l4=>?_;simp only[cns];refine⟨fun g3=>?_,fun g3=>?_⟩
  .simp only[wz,arI,qy]at g3;exact⟨_,z00,by rw[hN true g (by rw[Z5n g3];simp)];rfl,wx l3 l4⟩
  simp only[wz,arI,qR]at g3;refine z02 [.bool (regR x.c true)] (qb 158) (zn1 x.c K4) rfl z01 fun K5 l5=>?_;simp only[cns];refine⟨_,z00,?_,wx l3 (wx l4 l5)⟩;rw[hN ((((!regR x.c true||(!hasB f&&decide (x.b≠0)))||(decide (f≠1)&&decide (x.c≠0)))||decide (x.n<lo))||decide (x.n>hi)) g ?_]
  .simp only[wz,arI,hasB,ne_eq,decide_not]
  .rw[g2,Z5s g3];have e1:decide (x.n<lo)=!decide (lo≤x.n):=by rw[←decide_not,decide_eq_decide];omega
   have e2:decide (x.n>hi)=!decide (x.n≤hi):=by rw[←decide_not,decide_eq_decide];omega
   have e3:regR x.c (decide (f=1))=(regR x.c true&&(decide (f=1)||decide (x.c=0))):=by
    cases hc:regR x.c true with
    |true=>rw[Z5s hc];rfl
    |false=>rw[Z5n hc];rfl
   rw[e1,e2,e3];simp only[ne_eq,decide_not];generalize regR x.c true=r1;generalize hasB f=r2;generalize decide (x.b=0)=r3;generalize decide (f=1)=r4;generalize decide (x.c=0)=r5;generalize decide (lo≤x.n)=r6;generalize decide (x.n≤hi)=r7;cases r1<;>cases r2<;>cases r3<;>cases r4<;>cases r5<;>cases r6<;>cases r7<;>rfl
 rintro vs K6 _ ⟨rfl,l6⟩;have l16:=wx l12 l6;simp only[cns];refine⟨fun g=>?_,fun g=>?_⟩
 .simp only[wz,arI,Option.isNone_iff_eq_none]at g;rw[g];exact⟨rfl,l16⟩
 simp only[wz,arI,Option.isNone_eq_false_iff]at g;obtain⟨w,hw⟩:=qG.1 g;have h7:f≠7:=by
  intro h7;have hno:encR x=none:=by
   unfold encR;by_cases h:x.op<0∨32≤x.op
   .rw[qj h]
   .exact absurd h7 ((hfin om om).1)
  rw[hno]at hw;cases hw
 obtain⟨hop,hE⟩:=hE h7;rw[hE]at hw;split at hw;rotate_left
 .cases hw
 rename_i hfit;simp only[zba,zdt]at hfit;obtain⟨⟨⟨⟨ra,rb⟩,rc⟩,rl⟩,rm⟩:=hfit;have hb:=zpp rb;have hc:=zpp rc;have ha:=zpp ra;have hbz:f=3∨f=5→x.b=0:=fun h=>by
  have:hasB f=false:=by unfold hasB;rcases h with h|h<;>simp[h]
  rw[this]at rb;simpa[regR]using rb
 have hcz:f≠1→x.c=0:=fun h=>by
  rw[show decide (f=1)=false by simp[h]]at rc;simpa[regR]using rc
 simp only[qB]at hw;have hbase:baseQ x=x.op*67108864+x.a*2097152+x.b*65536+x.c*2048:=Zmo hop ha hb hc;obtain⟨m,hm⟩:∃m,(if x.n<0 then x.n+2^bitsQ f else x.n)=m:=⟨_,rfl⟩;rw[hm]at hw hE;have hE2:encR x=some w:=by
  rw[hE];rw[qj (by simp only[zba,zdt];exact⟨⟨⟨⟨ra,rb⟩,rc⟩,rl⟩,rm⟩),hw]
 rw[hE2];unfold wordR at hw;refine⟨fun vs K=>vs=[.int .u32 w]∧PH.le K6 K,?_,fun g2=>?_,fun g2=>?_⟩
 .rintro vs K _ ⟨rfl,l7⟩;exact⟨rfl,wx l16 l7⟩
 .have g2:f=2∨f=3:=by
   simp only[wz,arI]at g2;by_cases h2:f=2
   .exact .inl h2
   .simp only[h2,decide_false,qp,if_false,zdt]at g2;exact .inr g2
  have hb16:bitsQ f=16:=by unfold bitsQ;rw[qj g2]
  rw[hb16]at hm;have q1:=q1 g2;have hmv:IntKind.u32.wrap (IntKind.u16.wrap x.n)=m:=by
   rw[zvz,Zfm];split at hm<;>omega
  have hc0:=hcz om;refine⟨_,z00,?_,wy _⟩;show[Value.int .u32 (arI .or .u32 (baseQ x) (IntKind.u32.wrap (IntKind.u16.wrap x.n)))]=_;rw[hmv,hbase,hc0,zpn 16 om om (by split at hm<;>omega) (by split at hm<;>omega) (by split at hm<;>omega),←hw,hc0]
 .have g2:¬(f=2∨f=3):=by
   simp only[wz,arI]at g2;by_cases h2:f=2
   .simp[h2]at g2
   .simpa[h2]using g2
  refine⟨fun g3=>?_,fun g3=>?_⟩
  .simp only[wz,arI,zdt]at g3;have hb10:bitsQ f=10:=by unfold bitsQ;rw[qc g2,qj g3]
   rw[hb10]at hm;have q2:=q2 g3;have h1:lo=-512:=by rw[←hlo,q2]
   have h2:hi=511:=by rw[←hhi,q2]
   have hmv:arI .and .u32 (IntKind.u32.wrap x.n) 1023=m:=by
    rw[zvz,show(1023:Int)=((2^10-1:Nat):Int)from rfl,zp2 10 om om om];split at hm<;>omega
   have hc0:=hcz om;refine⟨_,z00,?_,wy _⟩;show[Value.int .u32 (arI .or .u32 (baseQ x) (arI .and .u32 (IntKind.u32.wrap x.n) 1023))]=_;rw[hmv,hbase,hc0,zpn 10 om om (by split at hm<;>omega) (by split at hm<;>omega) (by split at hm<;>omega),←hw,hc0]
  .simp only[wz,arI,zdf]at g3;refine⟨_,z00,?_,wy _⟩;by_cases h5:f=5
   .have hb21:bitsQ f=21:=by unfold bitsQ;rw[qc g2,qc g3,qj h5]
    rw[hb21]at hm;have q3:=q3 h5;have h1:lo=-1048576:=by rw[←hlo,q3]
    have h2:hi=1048575:=by rw[←hhi,q3]
    have hmv:arI .and .u32 (IntKind.u32.wrap x.n) 2097151=m:=by
     rw[zvz,show(2097151:Int)=((2^21-1:Nat):Int)from rfl,zp2 21 om om om];split at hm<;>omega
    have hc0:=hcz om;have hb0:=hbz (.inr h5);show[if(f==5)=true then Value.int .u32 (arI .or .u32 (baseQ x) (arI .and .u32 (IntKind.u32.wrap x.n) 2097151))else _]=_;rw[qj (by rw[h5];rfl),hmv,hbase,hc0,hb0,zpn 21 om om (by split at hm<;>omega) (by split at hm<;>omega) (by split at hm<;>omega),←hw,hc0,hb0]
   .have q4:=q4 g2 g3 h5;have h1:lo=0:=by rw[←hlo,q4]
    have h2:hi=0:=by rw[←hhi,q4]
    have hn0:x.n=0:=om;rw[hn0]at hm;simp only[Int.lt_irrefl,if_false]at hm;show[if(f==5)=true then _ else Value.int .u32 (baseQ x)]=_;rw[qc (by simpa using h5),hbase,←hw,←hm];congr 2;omega
theorem Zo6(n:Int):IntKind.i32.wrap n=if 2147483648≤n%4294967296 then n%4294967296-4294967296 else n%4294967296:=by
 simp only[IntKind.wrap,IntKind.bits,IntKind.signed];simp
def signQ(w:Int)(k:Nat):Int:=if 2^(k-1)≤w%2^k then w%2^k-2^k else w%2^k
theorem zjj(w:Int)(k:Nat)(H:PH)(hw:InU w)(hk:k=10∨k=16∨k=21):Gives zP 159 [.int .u32 w,vi (k:Int)] H (vi (signQ w k)):=by
 obtain⟨w0,w1⟩:=hw;refine qr Z1e [.int .u32 w,vi (k:Int)] ?_;have e1:IntKind.i64.wrap (32-(k:Int))=((32-k:Nat):Int):=by rw[w64 om om];omega
 refine⟨fun _=>?_,fun _=>?_,?_,wy _⟩
 .simp only[Chk.holds,wz,arI,e1];omega
 .simp only[Chk.holds,wz,arI,e1];omega
 show Ending.returned (vi (IntKind.i64.wrap (arI .shr .i32 (IntKind.i32.wrap (arI .shl .u32 w (IntKind.i64.wrap (32-(k:Int))))) (IntKind.i64.wrap (32-(k:Int))))))=_;rw[e1];have e2:∀n:Int,arI .shr .i32 n ((32-k:Nat):Int)=n/2^(32-k):=fun n=>by
  show n.fdiv (2^(min ((32-k:Nat):Int).toNat 32))=_;rw[qM,Nat.min_eq_left om,Int.fdiv_eq_ediv_of_nonneg _ (Int.pow_nonneg dC)]
 have e3:arI .shl .u32 w ((32-k:Nat):Int)=w*2^(32-k)%4294967296:=by
  show IntKind.u32.wrap (w*2^(min ((32-k:Nat):Int).toNat 32))=_;rw[qM,Nat.min_eq_left om,zvz]
 rw[e2,e3,Zo6];unfold signQ;rcases hk with rfl|rfl|rfl
 all_goals
  simp only[Nat.reduceSub];rw[w64 (by split<;>omega) (by split<;>omega)];congr 2;split<;>split<;>omega
theorem Zb8(w:Int)(H:PH)(hw:InU w):Gives zP 117 [.int .u32 w] H (decV (decR w)):=by
 have hw':=hw;obtain⟨w0,w1⟩:=hw;refine qr Z2g [.int .u32 w] ?_;have s26:IntKind.i64.wrap (arI .shr .u32 w 26)=w/67108864:=by
  rw[show(26:Int)=((26:Nat):Int)from rfl,zwa w 26 om];rw[show(2:Int)^26=67108864 from rfl];exact w64 om om
 obtain⟨op,hop⟩:∃op,w/67108864=op:=⟨_,rfl⟩;have s21:IntKind.i64.wrap (arI .and .u32 (arI .shr .u32 w 21) 31)=w/2097152%32:=by
  rw[show(21:Int)=((21:Nat):Int)from rfl,zwa w 21 om,show(31:Int)=((2^5-1:Nat):Int)from rfl,show(2:Int)^21=2097152 from rfl,zp2 5 om om om];exact w64 om om
 have s16:IntKind.i64.wrap (arI .and .u32 (arI .shr .u32 w 16) 31)=w/65536%32:=by
  rw[show(16:Int)=((16:Nat):Int)from rfl,zwa w 16 om,show(31:Int)=((2^5-1:Nat):Int)from rfl,show(2:Int)^16=65536 from rfl,zp2 5 om om om];exact w64 om om
 have s11:IntKind.i64.wrap (arI .and .u32 (arI .shr .u32 w 11) 31)=w/2048%32:=by
  rw[show(11:Int)=((11:Nat):Int)from rfl,zwa w 11 om,show(31:Int)=((2^5-1:Nat):Int)from rfl,show(2:Int)^11=2048 from rfl,zp2 5 om om om];exact w64 om om
 have u16:IntKind.i64.wrap (IntKind.u16.wrap w)=w%65536:=by
  rw[Zfm];exact w64 om om
 rw[hop]at s26;have c1:Gives zP 157 [vi (IntKind.i64.wrap (arI .shr .u32 w 26))] H (.tuple #[vi (endsQ op).1,vi (endsQ op).2]):=by rw[s26];exact Z27 op H
 refine z02 [vi (endsQ op).1,vi (endsQ op).2] (qb 157) c1 rfl z01 fun K1 l1=>?_;have c2:Gives zP 156 [vi (IntKind.i64.wrap (arI .shr .u32 w 26))] K1 (vi (formQ op)):=by rw[s26];exact zhk op K1
 refine z02 [vi (formQ op)] (qb 156) c2 rfl z01 fun K2 l2=>?_;have l12:=wx l1 l2;simp only[cns];have hout:=@zyx op;have hfin:=@Zf9 op;obtain⟨q1,q2,q3,q4⟩:=Z6k op;obtain⟨f,hf⟩:∃f,formQ op=f:=⟨_,rfl⟩;obtain⟨lo,hlo⟩:∃lo,(endsQ op).1=lo:=⟨_,rfl⟩;obtain⟨hi,hhi⟩:∃hi,(endsQ op).2=hi:=⟨_,rfl⟩;rw[hf]at hout hfin q1 q2 q3 q4⊢;rw[hlo,hhi]at hfin q1⊢;obtain⟨B,hB⟩:∃B,B=(if hasB f=true then w/65536%32 else 0):=⟨_,rfl⟩;have hBv:∀{v:Value},v=(if(if(if decide (f≠0)=true then decide (f≠3)else false)=true then decide (f≠5)else false)=true then Value.int .i64 (IntKind.i64.wrap (arI .and .u32 (arI .shr .u32 w 16) 31))else Value.int .i64 0)→v=.int .i64 B:=fun hv=>by
  rw[hv,hB,s16];unfold hasB;by_cases h1:f=0<;>by_cases h2:f=3<;>by_cases h3:f=5<;>simp[h1,h2,h3]
 refine⟨fun vs K=>∃x:InsR,vs=insV x∧PH.le K2 K∧InI5 x∧(0≤op∧op<32→x=zp7 w)∧(32≤op→x.op=op),?_,?_⟩
 .rintro vs K _ ⟨x,rfl,l3,hx,hp1,hp2⟩;simp only[cns];refine z02 [.int .u32 ((encR x).getD 0),vi (encE (encR x))] (qb 110) (zk9 x K hx) rfl z01 fun K3 l4=>?_;have l14:=wx l12 (wx l3 l4);simp only[cns];have hd:decR w=if encR x=some w then some x else none:=by
   unfold decR;rw[hop];by_cases h:32≤op
   .rw[qj h];have:encR x=none:=by unfold encR;rw[qj (by right;rw[hp2 h];exact h)]
    rw[this];simp
   .rw[qc h,hp1 om]
  refine⟨fun g3=>?_,fun g3=>?_⟩
  .simp only[wz,arI]at g3;simp only[Bool.if_true_left,qu,zdt]at g3;rw[hd,qc ((Z8z w _).1 g3)];exact⟨rfl,l14⟩
  .simp only[wz,arI]at g3;simp only[Bool.if_true_left,zof,zdf]at g3;rw [hd,qj (Decidable.not_not.1 fun h=>by
    rcases(Z8z w _).2 h with h|h
    .exact g3.1 h
    .exact g3.2 h)]
   exact⟨rfl,l14⟩
 have hbI:InI B:=by rw[hB];unfold InI;split<;>omega
 have hopI:InI op:=by unfold InI;omega
 have haI:InI (w/2097152%32):=by unfold InI;omega
 have hcI:InI (w/2048%32):=by unfold InI;omega
 have z0:InI 0:=dC;have hbq:(if(decide (f≠0)&&decide (f≠3)&&decide (f≠5))=true then Value.int .i64 (w/65536%32)else Value.int .i64 0)=.int .i64 B:=by
  rw[hB];show(if hasB f=true then _ else _)=_;by_cases h:hasB f=true
  .rw[qj h,qj h]
  .rw[qc h,qc h]
 have hparts:0≤op∧op<32→zp7 w=⟨op,w/2097152%32,B,if f=1 then w/2048%32 else 0,numOf ⟨true,hasB f,decide (f=1),bitsQ f,lo,hi⟩ w⟩:=fun h=>by
  unfold zp7;rw[hop,(hfin h.1 h.2).2,hB];by_cases h1:f=1<;>simp[h1]
 simp only[arI]at s26 s21 s16 s11;refine⟨fun g=>?_,fun g=>?_⟩
 .simp only[wz,arI,zdt]at g;refine⟨_,z00,⟨op,w/2097152%32,B,w/2048%32,0⟩,?_,wy _,⟨hopI,haI,hbI,hcI,z0⟩,fun h=>?_,fun _=>rfl⟩
  .simp only[wz,arI];simp only[s26,s21,s16,s11,hbq]
  .rw[hparts h,qj g];have:bitsQ f=0:=by rw[g];rfl
   rw[this];rfl
 simp only[wz,arI,zdf]at g;refine⟨fun g2=>?_,fun g2=>?_⟩
 .have g2:f=2∨f=3:=by
   simp only[wz,arI]at g2;by_cases h2:f=2
   .exact .inl h2
   .simp only[h2,decide_false,qp,if_false,zdt]at g2;exact .inr g2
  have hb16:bitsQ f=16:=by unfold bitsQ;rw[qj g2]
  refine z02 [vi (signQ w 16)] (qb 159) (zjj w 16 K2 hw' om) rfl z01 fun K3 l3=>?_;simp only[cns];obtain⟨N,hN⟩:∃N,N=(if lo=0 then w%65536 else signQ w 16):=⟨_,rfl⟩;have hNI:InI N:=by
   rw[hN];unfold InI signQ;simp only[Nat.reduceSub];split
   .omega
   .split<;>omega
  have hNq:(if decide (lo=0)=true then Value.int .i64 (w%65536)else Value.int .i64 (signQ w 16))=.int .i64 N:=by
   rw[hN];by_cases h:lo=0<;>simp[h]
  refine⟨_,z00,⟨op,w/2097152%32,B,0,N⟩,?_,l3,⟨hopI,haI,hbI,z0,hNI⟩,fun h=>?_,fun _=>rfl⟩
  .simp only[wz,arI];simp only[s26,s21,s16,s11,hbq,u16,hNq]
  .rw[hparts h,qc g,hb16];have hok:=Z9j op;rw[(hfin h.1 h.2).2]at hok;have hlz:lo=0∨(lo=-32768∧hi=32767):=by
    rw[←hlo,←hhi];unfold endsQ;rw[hf,qj g2];split
    .exact .inl rfl
    .split
     .exact .inl rfl
     .exact .inr ⟨rfl,rfl⟩
   have:numOf ⟨true,hasB f,decide (f=1),16,lo,hi⟩ w=N:=by
    rw[hN];unfold numOf signQ;simp only[Nat.reduceSub];rw[qc om];rcases hlz with h0|⟨h1,h2⟩
    .rw[qc om,qj h0];rfl
    .rw[qc (show ¬lo=0 by omega),h1,h2];split<;>split<;>omega
   rw[this]
 have g2:¬(f=2∨f=3):=by
  simp only[wz,arI]at g2;by_cases h2:f=2
  .simp[h2]at g2
  .simpa[h2]using g2
 refine⟨fun g3=>?_,fun g3=>?_⟩
 .simp only[wz,arI,zdt]at g3;have hb10:bitsQ f=10:=by unfold bitsQ;rw[qc g2,qj g3]
  refine z02 [vi (signQ w 10)] (qb 159) (zjj w 10 K2 hw' om) rfl z01 fun K3 l3=>?_;simp only[cns];have hNI:InI (signQ w 10):=by
   unfold InI signQ;simp only[Nat.reduceSub];split<;>omega
  refine⟨_,z00,⟨op,w/2097152%32,B,0,signQ w 10⟩,?_,l3,⟨hopI,haI,hbI,z0,hNI⟩,fun h=>?_,fun _=>rfl⟩
  .simp only[wz,arI];simp only[s26,s21,s16,s11,hbq]
  .rw[hparts h,qc g,hb10];have q2:=q2 g3;have h1:lo=-512:=by rw[←hlo,q2]
   have h2:hi=511:=by rw[←hhi,q2]
   have:numOf ⟨true,hasB f,decide (f=1),10,lo,hi⟩ w=signQ w 10:=by
    unfold numOf signQ;simp only[Nat.reduceSub];rw[qc om,h1,h2];split<;>split<;>omega
   rw[this]
 simp only[wz,arI,zdf]at g3;refine⟨fun g4=>?_,fun g4=>?_⟩
 .simp only[wz,arI,zdt]at g4;have hb21:bitsQ f=21:=by unfold bitsQ;rw[qc g2,qc g3,qj g4]
  refine z02 [vi (signQ w 21)] (qb 159) (zjj w 21 K2 hw' om) rfl z01 fun K3 l3=>?_;simp only[cns];have hNI:InI (signQ w 21):=by
   unfold InI signQ;simp only[Nat.reduceSub];split<;>omega
  refine⟨_,z00,⟨op,w/2097152%32,B,0,signQ w 21⟩,?_,l3,⟨hopI,haI,hbI,z0,hNI⟩,fun h=>?_,fun _=>rfl⟩
  .simp only[wz,arI];simp only[s26,s21,s16,s11,hbq]
  .rw[hparts h,qc g,hb21];have q3:=q3 g4;have h1:lo=-1048576:=by rw[←hlo,q3]
   have h2:hi=1048575:=by rw[←hhi,q3]
   have:numOf ⟨true,hasB f,decide (f=1),21,lo,hi⟩ w=signQ w 21:=by
    unfold numOf signQ;simp only[Nat.reduceSub];rw[qc om,h1,h2];split<;>split<;>omega
   rw[this]
 simp only[wz,arI,zdf]at g4;refine⟨_,z00,⟨op,w/2097152%32,B,0,0⟩,?_,wy _,⟨hopI,haI,hbI,z0,z0⟩,fun h=>?_,fun _=>rfl⟩
 .simp only[wz,arI];simp only[s26,s21,s16,s11,hbq]
 .rw[hparts h,qc g];have:bitsQ f=0:=by unfold bitsQ;rw[qc g2,qc g3,qc g4]
  rw[this];rfl
theorem Zg7{n:Int}(k:Nat)(hk:k≤62)(h0:0≤n)(h1:n≤18446744073709551615):arI .and .u64 n ((2^k-1:Nat):Int)=n%(2^k:Nat):=by
 show IntKind.u64.wrap (((BitVec.ofInt 64 n &&& BitVec.ofInt 64 ((2^k-1:Nat):Int)).toNat:Nat):Int)=_;obtain⟨x,rfl⟩:∃x:Nat,n=(x:Int):=⟨n.toNat,om⟩;have hp:2^k≤2^62:=Nat.pow_le_pow_right dC hk;have hp0:0<2^k:=Nat.pow_pos dC;have e1:(BitVec.ofInt 64 (x:Int)).toNat=x:=by rw[BitVec.toNat_ofInt];omega
 have e2:(BitVec.ofInt 64 ((2^k-1:Nat):Int)).toNat=2^k-1:=by
  have hq:2^k-1≤4611686018427387903:=om;rw[BitVec.toNat_ofInt];generalize 2^k-1=q at *;omega
 rw[BitVec.toNat_and,e1,e2,Nat.and_two_pow_sub_one_eq_mod];have hlt:=Nat.mod_lt x hp0;rw[wu64 om om];rfl
theorem zwc(n:Int):IntKind.u64.wrap n=n%18446744073709551616:=by
 simp only[IntKind.wrap,IntKind.bits,IntKind.signed];simp
theorem Zci(x y:Int)(H:PH)(hx:0≤x∧x≤18446744073709551615)(hy:0≤y∧y≤18446744073709551615):Gives zP 206 [.int .u64 x,.int .u64 y] H (.tuple #[.int .u64 (x*y/18446744073709551616),.int .u64 (arI .mul .u64 x y)]):=by
 refine qr zdc [.int .u64 x,.int .u64 y] ?_;refine⟨?_,wy _⟩;show Ending.returned (.tuple #[.int .u64 (arI .add .u64 (arI .add .u64 (arI .mul .u64 (arI .shr .u64 x 32) (arI .shr .u64 y 32)) (arI .shr .u64 (arI .add .u64 (arI .mul .u64 (arI .shr .u64 x 32) (arI .and .u64 y 4294967295)) (arI .shr .u64 (arI .mul .u64 (arI .and .u64 x 4294967295) (arI .and .u64 y 4294967295)) 32)) 32)) (arI .shr .u64 (arI .add .u64 (arI .and .u64 (arI .add .u64 (arI .mul .u64 (arI .shr .u64 x 32) (arI .and .u64 y 4294967295)) (arI .shr .u64 (arI .mul .u64 (arI .and .u64 x 4294967295) (arI .and .u64 y 4294967295)) 32)) 4294967295) (arI .mul .u64 (arI .and .u64 x 4294967295) (arI .shr .u64 y 32))) 32)),.int .u64 (arI .mul .u64 x y)])=_;have am:∀n:Int,0≤n→n≤18446744073709551615→arI .and .u64 n 4294967295=n%4294967296:=fun n h0 h1=>Zg7 32 om h0 h1;rw[zv7 x,zv7 y,am x hx.1 hx.2,am y hy.1 hy.2];have kx:0≤x/4294967296∧x/4294967296≤4294967295:=om;have ky:0≤y/4294967296∧y/4294967296≤4294967295:=om;have lx:0≤x%4294967296∧x%4294967296≤4294967295:=om;have ly:0≤y%4294967296∧y%4294967296≤4294967295:=om;have hm:x*y/18446744073709551616=x/4294967296*(y/4294967296)+(x/4294967296*(y%4294967296)+x%4294967296*(y%4294967296)/4294967296)/4294967296+((x/4294967296*(y%4294967296)+x%4294967296*(y%4294967296)/4294967296)%4294967296+x%4294967296*(y/4294967296))/4294967296:=by
  have e:(4294967296*(x/4294967296)+x%4294967296)*(4294967296*(y/4294967296)+y%4294967296)=18446744073709551616*(x/4294967296*(y/4294967296))+4294967296*(x/4294967296*(y%4294967296)+x%4294967296*(y/4294967296))+x%4294967296*(y%4294967296):=by grind
  rw[show 4294967296*(x/4294967296)+x%4294967296=x by omega,show 4294967296*(y/4294967296)+y%4294967296=y by omega]at e;rw[e];generalize x/4294967296*(y/4294967296)=p;generalize x/4294967296*(y%4294967296)=q;generalize x%4294967296*(y/4294967296)=r;generalize x%4294967296*(y%4294967296)=s;omega
 rw[hm];have b1:=Z2f (A:=4294967295) (B:=4294967295) kx.2 om ky;have b2:=Z2f (A:=4294967295) (B:=4294967295) kx.2 om ly;have b3:=Z2f (A:=4294967295) (B:=4294967295) lx.2 om ky;have b4:=Z2f (A:=4294967295) (B:=4294967295) lx.2 om ly;have c1:=Int.mul_nonneg kx.1 ky.1;have c2:=Int.mul_nonneg kx.1 ly.1;have c3:=Int.mul_nonneg lx.1 ky.1;have c4:=Int.mul_nonneg lx.1 ly.1;have mu:∀a b:Int,arI .mul .u64 a b=IntKind.u64.wrap (a*b):=fun _ _=>rfl;have ad:∀a b:Int,arI .add .u64 a b=IntKind.u64.wrap (a+b):=fun _ _=>rfl;rw[mu (x/4294967296),mu (x/4294967296),mu (x%4294967296),mu (x%4294967296)];clear hm;have htop:x/4294967296*(y/4294967296)+(x/4294967296*(y%4294967296)+x%4294967296*(y%4294967296)/4294967296)/4294967296+((x/4294967296*(y%4294967296)+x%4294967296*(y%4294967296)/4294967296)%4294967296+x%4294967296*(y/4294967296))/4294967296≤18446744073709551615:=om;generalize x/4294967296*(y/4294967296)=p at *;generalize x/4294967296*(y%4294967296)=q at *;generalize x%4294967296*(y/4294967296)=r at *;generalize x%4294967296*(y%4294967296)=s at *;rw[wu64 (n:=p) om om,wu64 (n:=q) om om,wu64 (n:=r) om om,wu64 (n:=s) om om];rw[zv7 s,ad q,wu64 (n:=q+s/4294967296) om om,am _ om om,zv7,ad p,wu64 (n:=p+(q+s/4294967296)/4294967296) om om,ad (_%4294967296),wu64 (n:=(q+s/4294967296)%4294967296+r) om om,zv7,ad,wu64 om om]
theorem Zgb(b c:Int)(H:PH)(hb:InI b)(hc:InI c):Gives zP 197 [vi b,vi c] H (vi (mulhR b c)):=by
 obtain⟨b0,b1⟩:=hb;obtain⟨c0,c1⟩:=hc;refine qr Z82 [vi b,vi c] ?_;obtain⟨ub,hub⟩:∃ub,IntKind.u64.wrap b=ub:=⟨_,rfl⟩;obtain⟨uc,huc⟩:∃uc,IntKind.u64.wrap c=uc:=⟨_,rfl⟩;have hub2:ub=if b<0 then b+18446744073709551616 else b:=by rw[←hub,zwc];split<;>omega
 have huc2:uc=if c<0 then c+18446744073709551616 else c:=by rw[←huc,zwc];split<;>omega
 have rb:0≤ub∧ub≤18446744073709551615:=by rw[hub2];split<;>omega
 have rc:0≤uc∧uc≤18446744073709551615:=by rw[huc2];split<;>omega
 have hc1:Gives zP 206 [.int .u64 (IntKind.u64.wrap b),.int .u64 (IntKind.u64.wrap c)] H (.tuple #[.int .u64 (ub*uc/18446744073709551616),.int .u64 (arI .mul .u64 ub uc)]):=by
  rw[hub,huc];exact Zci ub uc H rb rc
 refine z02 [.int .u64 (ub*uc/18446744073709551616),.int .u64 (arI .mul .u64 ub uc)] (qb 206) hc1 rfl z01 fun K l=>⟨?_,l⟩;simp only[cns];have sb:∀n m:Int,arI .sub .u64 n m=IntKind.u64.wrap (n-m):=fun _ _=>rfl;have hin:InI (mulhR b c):=Zfs ⟨b0,b1⟩ ⟨c0,c1⟩;have hfd:mulhR b c=b*c/18446744073709551616:=by unfold mulhR;rw[Int.fdiv_eq_ediv_of_nonneg _ dC];rfl
 obtain⟨h,hh⟩:∃h,ub*uc/18446744073709551616=h:=⟨_,rfl⟩;have key:∃k:Int,h=mulhR b c+(if b<0 then c else 0)+(if c<0 then b else 0)+k*18446744073709551616:=by
  rw[←hh,hfd,hub2,huc2];by_cases hb:b<0<;>by_cases hc:c<0
  .rw[qj hb,qj hc,qj hb,qj hc];have e:(b+18446744073709551616)*(c+18446744073709551616)=b*c+18446744073709551616*(b+c)+18446744073709551616*18446744073709551616:=by grind
   rw[e];generalize b*c=p;exact⟨1,om⟩
  .rw[qj hb,qc hc,qj hb,qc hc];have e:(b+18446744073709551616)*c=b*c+18446744073709551616*c:=by grind
   rw[e];generalize b*c=p;exact⟨0,om⟩
  .rw[qc hb,qj hc,qc hb,qj hc];have e:b*(c+18446744073709551616)=b*c+18446744073709551616*b:=by grind
   rw[e];generalize b*c=p;exact⟨0,om⟩
  .rw[qc hb,qc hc,qc hb,qc hc];exact⟨0,om⟩
 obtain⟨k,hk⟩:=key;rw[hh];show Ending.returned (vi (IntKind.i64.wrap (iOf (if bOf (Value.bool (decide (c<0)))=true then Value.int .u64 (arI .sub .u64 (iOf (if bOf (Value.bool (decide (b<0)))=true then Value.int .u64 (arI .sub .u64 h (IntKind.u64.wrap c))else Value.int .u64 h)) (IntKind.u64.wrap b))else if bOf (Value.bool (decide (b<0)))=true then Value.int .u64 (arI .sub .u64 h (IntKind.u64.wrap c))else Value.int .u64 h))))=_;simp only[bOf];have fin:∀(n:Int)(j:Int),n=mulhR b c+j*18446744073709551616→Ending.returned (vi (IntKind.i64.wrap n))=.returned (vi (mulhR b c)):=fun n j hn=>by rw[Zoq hn hin]
 have u2:∀n:Int,∃j:Int,IntKind.u64.wrap n=n+j*18446744073709551616:=fun n=>⟨-(n/18446744073709551616),by rw[zwc];omega⟩;obtain⟨jb,hjb⟩:=u2 b;obtain⟨jc,hjc⟩:=u2 c;by_cases hb:b<0<;>by_cases hc:c<0<;>simp only[hb,hc,decide_true,decide_false,if_true,if_false,qp,iOf,sb]at hk⊢
 .obtain⟨j1,h1⟩:=u2 (h-IntKind.u64.wrap c);obtain⟨j2,h2⟩:=u2 (IntKind.u64.wrap (h-IntKind.u64.wrap c)-IntKind.u64.wrap b);exact fin _ (k-jc+j1-jb+j2) (by rw[h2,h1,hjb,hjc,hk];omega)
 .obtain⟨j1,h1⟩:=u2 (h-IntKind.u64.wrap c);exact fin _ (k-jc+j1) (by rw[h1,hjc,hk];omega)
 .obtain⟨j1,h1⟩:=u2 (h-IntKind.u64.wrap b);exact fin _ (k-jb+j1) (by rw[h1,hjb,hk];omega)
 .exact fin _ k (by rw[hk];omega)
theorem Z5r(b:Bool)(H:PH):Gives zP 198 [.bool b] H (vi (if b=true then 1 else 0)):=by
 refine qr Za6 [.bool b] ?_;refine⟨fun g=>?_,fun g=>?_⟩
 .simp only[wz,arI]at g;rw[qj g];exact⟨rfl,wy _⟩
 .simp only[wz,arI]at g;rw[qc (by rw[g];exact qk)];exact⟨rfl,wy _⟩
theorem Zqq(c:Int):arI .and .u64 (IntKind.u64.wrap c) 63=arI .and .i64 c 63:=by
 have h:=zwc c;rw[Zkr,show(63:Int)=((2^6-1:Nat):Int)from rfl,Zg7 6 om om om,h];omega
theorem Zb3(op b c:Int)(H:PH)(hb:InI b)(hc:InI c)(hz:op=5∨op=6→c≠0):Gives zP 161 [vi op,vi b,vi c] H (vi (thrR op b c)):=by
 refine qr Z06 [vi op,vi b,vi c] ?_;have e63:=Zqq c;have p63:=Zkr c;simp only[arI]at e63 p63;generalize ht:thrR op b c=t;unfold thrR at ht;refine⟨fun g=>?_,fun g=>?_⟩
 .simp only[wz,arI,zdt]at g;rw[qj g]at ht;exact⟨by simp only[wz,arI,←ht],wy _⟩
 simp only[wz,arI,zdf]at g;rw[qc g]at ht;refine⟨fun g=>?_,fun g=>?_⟩
 .simp only[wz,arI,zdt]at g;rw[qj g]at ht;exact⟨by simp only[wz,arI,←ht],wy _⟩
 simp only[wz,arI,zdf]at g;rw[qc g]at ht;refine⟨fun g=>?_,fun g=>?_⟩
 .simp only[wz,arI,zdt]at g;rw[qj g]at ht;exact⟨by simp only[wz,arI,←ht],wy _⟩
 simp only[wz,arI,zdf]at g;rw[qc g]at ht;refine⟨fun g=>?_,fun g=>?_⟩
 .simp only[wz,arI,zdt]at g;rw[qj g]at ht;refine z02 [vi (mulhR b c)] (qb 197) (Zgb b c H hb hc) rfl z01 fun K l=>?_;exact⟨by simp only[wz,arI,←ht],l⟩
 simp only[wz,arI,zdf]at g;rw[qc g]at ht;refine⟨fun g=>?_,fun g=>?_⟩
 .simp only[wz,arI,zdt]at g;rw[qj g]at ht;refine⟨fun _=>?_,?_,wy _⟩
  .simp only[Chk.holds,wz,arI];exact hz (.inl g)
  .simp only[wz,arI,←ht]
 simp only[wz,arI,zdf]at g;rw[qc g]at ht;refine⟨fun g=>?_,fun g=>?_⟩
 .simp only[wz,arI,zdt]at g;rw[qj g]at ht;refine⟨fun _=>?_,?_,wy _⟩
  .simp only[Chk.holds,wz,arI];exact hz (.inr g)
  .simp only[wz,arI,←ht]
 simp only[wz,arI,zdf]at g;rw[qc g]at ht;refine⟨fun g=>?_,fun g=>?_⟩
 .simp only[wz,arI,zdt]at g;rw[qj g]at ht;exact⟨by simp only[wz,arI,←ht],wy _⟩
 simp only[wz,arI,zdf]at g;rw[qc g]at ht;refine⟨fun g=>?_,fun g=>?_⟩
 .simp only[wz,arI,zdt]at g;rw[qj g]at ht;exact⟨by simp only[wz,arI,←ht],wy _⟩
 simp only[wz,arI,zdf]at g;rw[qc g]at ht;refine⟨fun g=>?_,fun g=>?_⟩
 .simp only[wz,arI,zdt]at g;rw[qj g]at ht;exact⟨by simp only[wz,arI,←ht],wy _⟩
 simp only[wz,arI,zdf]at g;rw[qc g]at ht;refine⟨fun g=>?_,fun g=>?_⟩
 .simp only[wz,arI,zdt]at g;rw[qj g]at ht;refine⟨fun _=>?_,?_,wy _⟩
  .simp only[Chk.holds,wz,arI,e63,p63];omega
  .simp only[wz,arI,e63,←ht]
 simp only[wz,arI,zdf]at g;rw[qc g]at ht;refine⟨fun g=>?_,fun g=>?_⟩
 .simp only[wz,arI,zdt]at g;rw[qj g]at ht;refine⟨fun _=>?_,?_,wy _⟩
  .simp only[Chk.holds,wz,arI,e63,p63];omega
  .simp only[wz,arI,e63,←ht]
 simp only[wz,arI,zdf]at g;rw[qc g]at ht;refine⟨fun g=>?_,fun g=>?_⟩
 .simp only[wz,arI,zdt]at g;rw[qj g]at ht;refine⟨fun _=>?_,?_,wy _⟩
  .simp only[Chk.holds,wz,arI,e63,p63];omega
  .simp only[wz,arI,e63,←ht,u64]
 simp only[wz,arI,zdf]at g;rw[qc g]at ht;refine⟨fun g=>?_,fun g=>?_⟩
 .simp only[wz,arI,zdt]at g;rw[qj g]at ht;refine z02 [vi (if decide (b<c)=true then 1 else 0)] (qb 198) (Z5r (decide (b<c)) H) rfl z01 fun K l=>⟨?_,l⟩;simp only[wz,arI,←ht,zdt]
 simp only[wz,arI,zdf]at g;rw[qc g]at ht;refine z02 [vi (if decide (u64 b<u64 c)=true then 1 else 0)] (qb 198) (Z5r (decide (u64 b<u64 c)) H) rfl z01 fun K l=>⟨?_,l⟩;simp only[wz,arI,←ht,zdt]
theorem Zee(op a b:Int)(H:PH)(h:op=24∨op=25∨op=26∨op=27):Gives zP 162 [vi op,vi a,vi b] H (.bool (zua op a b)):=by
 refine qr Z51 [vi op,vi a,vi b] ?_;unfold zua;refine⟨fun g=>?_,fun g=>?_⟩
 .simp only[wz,arI,zdt]at g;exact⟨by simp[wz,arI,g],wy _⟩
 simp only[wz,arI,zdf]at g;refine⟨fun g2=>?_,fun g2=>?_⟩
 .simp only[wz,arI,zdt]at g2;exact⟨by simp[wz,arI,g2],wy _⟩
 simp only[wz,arI,zdf]at g2;refine⟨fun g3=>?_,fun g3=>?_⟩
 .simp only[wz,arI,zdt]at g3;exact⟨by simp[wz,arI,g3],wy _⟩
 simp only[wz,arI,zdf]at g3;have g4:op=27:=om;exact⟨by simp[wz,arI,g4],wy _⟩
def simpR(x:InsR)(a b:Int):Int:=
 if x.op=15 then arI .add .i64 b x.n
 else if x.op=16 then arI .and .i64 b x.n
 else if x.op=17 then arI .or .i64 b x.n
 else if x.op=18 then arI .shl .i64 b x.n
 else if x.op=19 then arI .shr .i64 b x.n
 else if x.op=21 then arI .or .i64 (arI .mul .i64 a 65536) x.n
 else x.n
theorem Zap(x:InsR)(a b:Int)(r:Nat)(H:PH)(hx:InsOk x):Gives zP 163 [pAt r,.agg (insV x).toArray,vi a,vi b] H (vi (simpR x a b)):=by
 refine qr zin ([pAt r]++insV x++[vi a,vi b]) ?_;simp only[cns];generalize ht:simpR x a b=t;unfold simpR at ht;refine⟨fun g=>?_,fun g=>?_⟩
 .simp only[wz,arI,zdt]at g;rw[qj g]at ht;exact⟨by simp only[wz,arI,←ht],wy _⟩
 simp only[wz,arI,zdf]at g;rw[qc g]at ht;refine⟨fun g=>?_,fun g=>?_⟩
 .simp only[wz,arI,zdt]at g;rw[qj g]at ht;exact⟨by simp only[wz,arI,←ht],wy _⟩
 simp only[wz,arI,zdf]at g;rw[qc g]at ht;refine⟨fun g=>?_,fun g=>?_⟩
 .simp only[wz,arI,zdt]at g;rw[qj g]at ht;exact⟨by simp only[wz,arI,←ht],wy _⟩
 simp only[wz,arI,zdf]at g;rw[qc g]at ht;refine⟨fun g=>?_,fun g=>?_⟩
 .simp only[wz,arI,zdt]at g;rw[qj g]at ht;have hu:IntKind.u64.wrap x.n=x.n:=wu64 (hx.sh (.inl g)).1 (by have:=(hx.sh (.inl g)).2;omega);exact⟨by simp only[wz,arI,hu,←ht],wy _⟩
 simp only[wz,arI,zdf]at g;rw[qc g]at ht;refine⟨fun g=>?_,fun g=>?_⟩
 .simp only[wz,arI,zdt]at g;rw[qj g]at ht;have hu:IntKind.u64.wrap x.n=x.n:=wu64 (hx.sh (.inr g)).1 (by have:=(hx.sh (.inr g)).2;omega);exact⟨by simp only[wz,arI,hu,←ht],wy _⟩
 simp only[wz,arI,zdf]at g;rw[qc g]at ht;refine⟨fun g=>?_,fun g=>?_⟩
 .simp only[wz,arI,zdt]at g;rw[qj g]at ht;have e:arI .shl .i64 a 16=arI .mul .i64 a 65536:=rfl;simp only[arI]at e;exact⟨by simp only[wz,arI,e,←ht],wy _⟩
 simp only[wz,arI,zdf]at g;rw[qc g]at ht;exact⟨by simp only[wz,arI,←ht],wy _⟩
def MaR.setR(m:MaR)(r v:Int):MaR:={ m with regs:=if r=0 then m.regs else m.regs.set r.toNat v }
theorem MaOk.setR{m:MaR}(h:MaOk m){r v:Int}(hv:InI v):MaOk (m.setR r v):=by
 have:=h.put (r:=r) (to:=0) hv;exact⟨this.len,this.regs⟩
section
variable {r:Nat}{st:Int}{m:MaR}{mv ov:Value}{S K:PH}{J:List Itm}
abbrev TQ:TypeId:=175
theorem Zpy(a v:Int)(h:Held S K (z1r TQ r st m mv ov++J))(ok:MaOk m)(ha:0≤a∧a≤31):
  Tri zP 160 #[pAt r,vi a,vi v] K fun e K'=>e=.returned (.tuple #[])∧Held S K' (z1r TQ r st (m.setR a v) mv ov++J):=by
 refine qr zpt [pAt r,vi a,vi v] ?_;refine⟨fun g=>?_,fun g=>?_⟩
 .simp only[wz,arI,zdt,ne_eq]at g;refine⟨fun _=>by simp[Chk.holds,wz,arI],?_⟩;refine z83 (r:=r) (off:=5) zht zIntQ kr rfl om z01 ?_;simp only[cns];refine z0b (off:=5+a.toNat) (vs:=[vi v]) (by simp only[wz,arI]) h (by simp only[wz,arI]) (by intro u hu;rw[zsi.1 hu];rfl) (by rw[c_len ok];simp only[List.length_singleton];omega) fun K4 h4=>?_;refine⟨rfl,?_⟩;have e:=s_reg (st:=st) (mv:=mv) (ov:=ov) (v:=v) ok ha.1 ha.2;unfold MaR.setR;rw[qc g,←e];exact h4
 .simp only[wz,arI,zdf,ne_eq,Decidable.not_not]at g;refine⟨rfl,?_⟩;unfold MaR.setR;rw[qj g];exact h
end
theorem form_1{op:Int}:formQ op=1↔1≤op∧op≤14:=by
 unfold formQ
 repeat' split
 all_goals (constructor<;>intro h<;>omega)
theorem form_4{op:Int}:formQ op=4↔24≤op∧op≤27:=by
 unfold formQ
 repeat' split
 all_goals (constructor<;>intro h<;>omega)
theorem zoy(m:MaR)(r v to:Int):m.put r v to={ m.setR r v with pc:=to,steps:=m.steps+1 }:=rfl
section
variable {r:Nat}{st:Int}{m:MaR}{mv ov:Value}{S K:PH}{J:List Itm}
theorem Zo7(x:InsR)(h:Held S K (z1r TQ r st m mv ov++J))(ok:MaOk m)(hx:InsOk x)(hpc:0≤m.pc∧m.pc≤1048576)(hst:0≤m.steps∧m.steps≤1099511627776)(hol:(m.out.length:Int)≤m.steps)(hml:m.mem.length≤1048576):
  Tri zP 118 #[pAt r,.agg (insV x).toArray] K fun e K'=>∃S' ov',PH.le S S'∧e=.returned (vi (stR m x).1)∧Held S' K' (z1r TQ r st (stR m x).2 mv ov'++J)∧MaOk (stR m x).2:=by
 have hxo:=hx;obtain⟨o1,o2,o3,o4,o5,o6⟩:=hx;have hw1:IntKind.i64.wrap (m.pc+1)=m.pc+1:=w64 om om;have hwn:IntKind.i64.wrap (m.pc+x.n)=m.pc+x.n:=w64 om om;have hws:IntKind.i64.wrap (m.steps+1)=m.steps+1:=w64 om om;have hp1:InI (m.pc+1):=by unfold InI;omega
 refine qr zo0 ([pAt r]++insV x) ?_;simp only[cns];have ra:=Z4u h ok o2.1 o2.2;have rb:=Z4u h ok o3.1 o3.2;refine⟨fun vs K2=>vs=[vi (m.reg x.a),vi (m.reg x.b)]∧K=K2,?_,fun _=>by simp[Chk.holds,wz,arI],?_,?_⟩;rotate_left
 .refine z83 (r:=r) (off:=5) zht zIntQ kr rfl om z01 ?_;refine⟨[vi (m.reg x.a)],rfl,by simp only[wz,arI];exact ra,?_⟩;simp only[cns];refine z83 (r:=r) (off:=5) zht zIntQ kr rfl om (Z8o (by simp only[wz,arI];exact ra)) ?_;exact⟨[vi (m.reg x.b)],rfl,by simp only[wz,arI];exact rb,_,z00,rfl,rfl⟩
 .refine z83 (r:=r) (off:=5) zht zIntQ kr rfl om z01 ?_;refine⟨[vi (m.reg x.b)],rfl,by simp only[wz,arI];exact rb,?_⟩;simp only[cns];refine z83 (r:=r) (off:=5) zht zIntQ kr rfl om (Z8o (by simp only[wz,arI];exact rb)) ?_;exact⟨[vi (m.reg x.a)],rfl,by simp only[wz,arI];exact ra,_,z00,rfl,rfl⟩
 rintro vs K2 _ ⟨rfl,rfl⟩;simp only[cns];have hpcr:∀{S K ov J} {m2:MaR},m2.pc=m.pc→Held S K (z1r TQ r st m2 mv ov++J)→rowAt K (some ⟨r,4,none⟩) [vi m.pc]:=fun e h=>by rw[←e];exact z5u h rfl
 refine⟨fun _=>by simp[Chk.holds,wz,arI],[vi m.pc],rfl,by simp only[wz,arI];exact hpcr rfl h,?_⟩;simp only[cns];refine⟨fun vs K2=>∃(S2:PH)(m2:MaR)(ov2:Value)(nx:Int),PH.le S S2∧vs=[vi nx]∧Held S2 K2 (z1r TQ r st m2 mv ov2++J)∧MaOk m2∧m2.steps=m.steps∧stR m x=(if x.op=0 then 0 else 6,{ m2 with pc:=nx,steps:=m.steps+1 }),?_,?_⟩
 .rintro vs K2 _ ⟨S2,m2,ov2,nx,l2,rfl,h2,ok2,hs2,heq⟩;simp only[cns];refine z0b (off:=4) (vs:=[vi nx]) (by simp only[wz,arI];rfl) h2 (by simp only[wz,arI]) (by intro u hu;rw[zsi.1 hu];rfl) (by simp[z0f]) fun K4 h4=>?_;have h4:Held S2 K4 (z1r TQ r st { m2 with pc:=nx } mv ov2++J):=h4;refine⟨[vi m.steps],rfl,by simp only[wz,arI];rw[←hs2];exact z5u h4 rfl,?_⟩;simp only[cns];refine z0b (off:=3) (vs:=[vi (m.steps+1)]) (by simp only[wz,arI];rfl) h4 (by simp only[wz,arI,hws]) (by intro u hu;rw[zsi.1 hu];rfl) (by simp[z0f]) fun K5 h5=>?_;have h5:Held S2 K5 (z1r TQ r st { m2 with pc:=nx,steps:=m.steps+1 } mv ov2++J):=h5;rw[heq];refine⟨fun g=>?_,fun g=>?_⟩
  .simp only[wz,arI,zdt]at g;exact⟨S2,ov2,l2,by rw[qj g];rfl,h5,ok2.len,ok2.regs⟩
  .simp only[wz,arI,zdf]at g;exact⟨S2,ov2,l2,by rw[qc g];rfl,h5,ok2.len,ok2.regs⟩
 have setGo:∀{S2 K2:PH} {m2:MaR} {ov2:Value} {v:Int},Held S2 K2 (z1r TQ r st m2 mv ov2++J)→MaOk m2→InI v→Tri zP 160 #[pAt r,vi x.a,vi v] K2 fun e K'=>e=.returned (.tuple #[])∧Held S2 K' (z1r TQ r st (m2.setR x.a v) mv ov2++J)∧MaOk (m2.setR x.a v):=fun h2 ok2 hv=>(Zpy x.a _ h2 ok2 o2).mono fun e K'⟨h3,h4⟩=>⟨h3,h4,ok2.setR hv⟩;refine z03 (qb 156) (h.gives (zhk x.op S)) ?_;rintro e K1 ⟨rfl,h,_⟩;refine⟨_,[vi (formQ x.op)],rfl,rfl,rfl,z01,?_⟩;simp only[cns];refine⟨fun g=>?_,fun g=>?_⟩
 .simp only[wz,arI,zdt]at g;refine⟨[vi m.pc],rfl,by simp only[wz,arI];exact hpcr rfl h,?_⟩;simp only[cns];refine z0b (off:=1) (vs:=[vi (m.reg x.a)]) (by simp only[wz,arI];rfl) h (by simp only[wz,arI]) (by intro u hu;rw[zsi.1 hu];rfl) (by simp[z0f]) fun K4 h4=>?_;refine⟨_,z00,S,{ m with value:=m.reg x.a },ov,m.pc,wy _,by simp only[wz,arI],h4,⟨ok.len,ok.regs⟩,rfl,?_⟩;unfold stR;rw[qj g,qj g]
 simp only[wz,arI,zdf]at g;rw[qc g];refine⟨fun g1=>?_,fun g1=>?_⟩
 ·
  simp only[wz,arI,zdt]at g1;have g1:=form_1.1 g1;have hS:stR m x=if(x.op=5∨x.op=6)∧m.reg x.c=0 then(4,m)else(6,m.put x.a (thrR x.op (m.reg x.b) (m.reg x.c)) (m.pc+1)):=by
   unfold stR;rw[qc g,qc (show ¬x.op=15 by omega),qc (show ¬x.op=16 by omega),qc (show ¬x.op=17 by omega),qc (show ¬x.op=18 by omega),qc (show ¬x.op=19 by omega),qc (show ¬x.op=20 by omega),qc (show ¬x.op=21 by omega),qc (show ¬(x.op=22∨x.op=23) by omega),qc (show ¬(x.op=24∨x.op=25∨x.op=26∨x.op=27) by omega),qc (show ¬x.op=28 by omega),qc (show ¬x.op=29 by omega),qc (show ¬x.op=30 by omega),qc (show ¬x.op=31 by omega)]
  refine z83 (r:=r) (off:=5) zht zIntQ kr rfl om z01 ?_;refine⟨[vi (m.reg x.c)],rfl,by simp only[wz,arI];exact Z4u h ok o4.1 o4.2,?_⟩;simp only[cns];refine⟨fun g2=>?_,fun g2=>?_⟩
  .simp only[wz,arI]at g2;simp only[zba,qu,zdt]at g2;rw[hS,qj g2];exact⟨S,ov,wy _,rfl,h,ok⟩
  .simp only[wz,arI]at g2;simp only[wl,zof,zdf]at g2;have g2:¬((x.op=5∨x.op=6)∧m.reg x.c=0):=om;rw[qc g2]at hS;have hti:=Znr x.op (ok.reg x.b) (ok.reg x.c);refine z03 (qb 161) (h.gives (Zb3 x.op (m.reg x.b) (m.reg x.c) S (ok.reg _) (ok.reg _) fun hh h0=>g2 ⟨hh,h0⟩)) ?_;rintro e K3 ⟨rfl,h3,_⟩;refine⟨_,[vi (thrR x.op (m.reg x.b) (m.reg x.c))],rfl,rfl,rfl,z01,?_⟩;simp only[cns];refine z03 (qb 160) (setGo h3 ok hti) ?_;rintro e K4 ⟨rfl,h4,ok4⟩;refine⟨_,[],rfl,rfl,rfl,z01,_,z00,S,_,ov,m.pc+1,wy _,by simp only[wz,arI,zan,hw1],h4,ok4,rfl,by rw[hS,zoy]⟩
 simp only[wz,arI,zdf]at g1;have g1:¬(1≤x.op∧x.op≤14):=fun h=>g1 (form_1.2 h);refine⟨fun g2=>?_,fun g2=>?_⟩
 ·
  simp only[wz,arI,zdt]at g2;have g2:=form_4.1 g2;have hS:stR m x=(6,m.goes (if zua x.op (m.reg x.a) (m.reg x.b)=true then m.pc+x.n else m.pc+1)):=by
   unfold stR;rw[qc g,qc (show ¬((x.op=5∨x.op=6)∧m.reg x.c=0) by omega),qc (show ¬x.op=15 by omega),qc (show ¬x.op=16 by omega),qc (show ¬x.op=17 by omega),qc (show ¬x.op=18 by omega),qc (show ¬x.op=19 by omega),qc (show ¬x.op=20 by omega),qc (show ¬x.op=21 by omega),qc (show ¬(x.op=22∨x.op=23) by omega),qj (show x.op=24∨x.op=25∨x.op=26∨x.op=27 by omega)]
  refine z03 (qb 162) (h.gives (Zee x.op (m.reg x.a) (m.reg x.b) S om)) ?_;rintro e K3 ⟨rfl,h3,_⟩;refine⟨_,[.bool (zua x.op (m.reg x.a) (m.reg x.b))],rfl,rfl,rfl,z01,?_⟩;simp only[cns];refine⟨fun g3=>?_,fun g3=>?_⟩
  .simp only[wz,arI]at g3;rw[qj g3]at hS;refine⟨[vi m.pc],rfl,by simp only[wz,arI];exact hpcr rfl h3,_,z00,S,m,ov,m.pc+x.n,wy _,by simp only[wz,arI,cns,hwn],h3,ok,rfl,by rw[hS];rfl⟩
  .simp only[wz,arI]at g3;rw[qc (by rw[g3];exact qk)]at hS;refine⟨_,z00,S,m,ov,m.pc+1,wy _,by simp only[wz,arI,hw1],h3,ok,rfl,by rw[hS];rfl⟩
 simp only[wz,arI,zdf]at g2;have g2:¬(24≤x.op∧x.op≤27):=fun h=>g2 (form_4.2 h);have n1:¬((x.op=5∨x.op=6)∧m.reg x.c=0):=om;have n2:¬(x.op=24∨x.op=25∨x.op=26∨x.op=27):=om;refine⟨fun g3=>?_,fun g3=>?_⟩
 ·
  simp only[wz,arI]at g3;simp only[qu,zdt]at g3;obtain⟨at_,hatd⟩:∃at_,IntKind.i64.wrap (m.reg x.b+x.n)=at_:=⟨_,rfl⟩;have hata:arI .add .i64 (m.reg x.b) x.n=at_:=hatd;have hmsl:=Zqk h;obtain⟨mb,mc,hmv⟩:=hmsl.sl;have hS:stR m x=(if at_<0∨(m.mem.length:Int)≤at_ then(2,m)else if x.op=23 then(6,{ m.goes (m.pc+1)with mem:=m.mem.set at_.toNat (m.reg x.a) })else(6,m.put x.a (m.mem.getD at_.toNat 0) (m.pc+1))):=by
   unfold stR;rw[hata];rcases g3 with g9|g9<;>simp[g9]
  refine⟨fun vs K2=>vs=[.bool (decide (at_<0∨(m.mem.length:Int)≤at_))]∧K1=K2,?_,fun ga=>?_,fun ga=>?_⟩
  .rintro vs K2 _ ⟨rfl,rfl⟩;simp only[cns];refine⟨fun ga=>?_,fun ga=>?_⟩
   .simp only[wz,arI,zdt]at ga;rw[hS,qj ga];exact⟨S,ov,wy _,rfl,h,ok⟩
   .simp only[wz,arI,zdf]at ga;rw[qc ga]at hS;have hin:0≤at_∧at_<m.mem.length:=om;have hlt:at_.toNat<m.mem.length:=om;obtain⟨cell,hcell⟩:∃cell,m.mem[at_.toNat]?=some cell:=⟨_,zge hlt⟩;obtain⟨y1,_,ycs,y2,y3⟩:=hmsl.get hcell;obtain⟨rfl,yin⟩:=csIK y2;have hj:((at_.toNat:Nat):Int)=at_:=Int.toNat_of_nonneg hin.1;rw[hj]at y3;refine⟨fun gb=>?_,fun gb=>?_⟩
    .simp only[wz,arI,zdt]at gb;rw[qj gb]at hS;refine⟨[mv],by rw[hmv];rfl,by simp only[wz,arI];exact Z3l h ok,fun _=>?_,?_⟩
     .simp only[Chk.holds,wz,arI,hatd];rw[hmv]at y1⊢;exact⟨y1,hin.1,hin.2⟩
     simp only[cns];refine z1a (i:=at_.toNat) (a:=cell) (a':=m.reg x.a) (us:=[vi (m.reg x.a)]) ?_ (h.perm (qq _ _ _)) hcell rfl (by simp only[wz,arI]) (by simp[oneC]) (z0e (ok.reg _)) fun K4 h4=>?_
     .simp only[wz,arI,hatd,hj];rfl
     exact⟨_,z00,S,{ m with mem:=m.mem.set at_.toNat (m.reg x.a) },ov,m.pc+1,wy _,by simp only[wz,arI,hw1],h4.perm (qq _ _ _),⟨ok.len,ok.regs⟩,rfl,by rw[hS];rfl⟩
    .simp only[wz,arI,zdf]at gb;rw[qc gb]at hS;refine⟨[mv],by rw[hmv];rfl,by simp only[wz,arI];exact Z3l h ok,fun _=>?_,[vi cell],rfl,?_,?_⟩
     .simp only[Chk.holds,wz,arI,hatd];rw[hmv]at y1⊢;exact⟨y1,hin.1,hin.2⟩
     .simp only[wz,arI,hatd];exact y3
     simp only[cns];refine z03 (qb 160) (setGo h ok yin) ?_;rintro e K4 ⟨rfl,h4,ok4⟩;refine⟨_,[],rfl,rfl,rfl,z01,_,z00,S,_,ov,m.pc+1,wy _,by simp only[wz,arI,zan,hw1],h4,ok4,rfl,?_⟩;rw[hS,zoy,zgd,hcell];rfl
  .simp only[wz,arI,hatd,zdt]at ga;exact⟨_,z00,by simp[wz,arI,ga],rfl⟩
  .simp only[wz,arI,hatd,zdf]at ga;refine⟨[mv],by rw[hmv];rfl,by simp only[wz,arI];exact Z3l h ok,_,z00,?_,rfl⟩;simp only[wz,arI,hatd,hmv];rw[List.cons.injEq];refine⟨?_,rfl⟩;rw[Value.bool.injEq,decide_eq_decide];omega
 simp only[wz,arI]at g3;simp only[zof,zdf]at g3;have n3:¬(x.op=22∨x.op=23):=om;refine⟨fun g4=>?_,fun g4=>?_⟩
 .simp only[wz,arI,zdt]at g4;have hS:stR m x=(6,m.put x.a (m.pc+1) (m.pc+x.n)):=by unfold stR;simp[g4]
  have hc:=setGo (v:=m.pc+1) h ok hp1;rw[←hw1]at hc;refine z03 (qb 160) hc ?_;rintro e K4 ⟨rfl,h4,ok4⟩;rw[hw1]at h4 ok4;refine⟨_,[],rfl,rfl,rfl,z01,[vi m.pc],rfl,by simp only[wz,arI,zan];exact hpcr (m2:=m.setR x.a (m.pc+1)) rfl h4,_,z00,S,_,ov,m.pc+x.n,wy _,by simp only[wz,arI,zan,cns,hwn],h4,ok4,rfl,by rw[hS,zoy]⟩
 simp only[wz,arI,zdf]at g4;refine⟨fun g5=>?_,fun g5=>?_⟩
 .simp only[wz,arI,zdt]at g5;have hS:stR m x=(6,m.put x.a (m.pc+1) (m.reg x.b)):=by unfold stR;simp[g5]
  have hc:=setGo (v:=m.pc+1) h ok hp1;rw[←hw1]at hc;refine z03 (qb 160) hc ?_;rintro e K4 ⟨rfl,h4,ok4⟩;rw[hw1]at h4 ok4;exact⟨_,[],rfl,rfl,rfl,z01,_,z00,S,_,ov,m.reg x.b,wy _,by simp only[wz,arI,zan,cns],h4,ok4,rfl,by rw[hS,zoy]⟩
 simp only[wz,arI,zdf]at g5;refine⟨fun g6=>?_,fun g6=>?_⟩
 ·
  simp only[wz,arI,zdt]at g6;obtain⟨v,hv⟩:∃v:Int,v=(match m.input with | []=>-1|c::_=>(c.toNat:Int)):=⟨_,rfl⟩;have hvi:InI v:=by
   rw[hv];unfold InI;cases m.input with
   |nil=>simp
   |cons c l=>have:=c.toNat_lt;simp only[];omega
  have hS:stR m x=((6:Int),({ m.put x.a v (m.pc+1)with input:=m.input.drop 1 }:MaR)):=by
   unfold stR;rw[qc g,qc n1,qc (show ¬x.op=15 by omega),qc (show ¬x.op=16 by omega),qc (show ¬x.op=17 by omega),qc (show ¬x.op=18 by omega),qc (show ¬x.op=19 by omega),qc (show ¬x.op=20 by omega),qc (show ¬x.op=21 by omega),qc n3,qc n2,qc g4,qc g5,qj g6];rw[hv]<;>rfl
  refine⟨fun vs K2=>vs=[vi v]∧Held S K2 (z1r TQ r st { m with input:=m.input.drop 1 } mv ov++J),?_,?_⟩
  .rintro vs K2 _ ⟨rfl,h2⟩;simp only[cns];refine z03 (qb 160) (setGo h2 ⟨ok.len,ok.regs⟩ hvi) ?_;rintro e K4 ⟨rfl,h4,ok4⟩;refine⟨_,[],rfl,rfl,rfl,z01,_,z00,S,_,ov,m.pc+1,wy _,by simp only[wz,arI,zan,hw1],h4,ok4,rfl,?_⟩;rw[hS];rfl
  .refine⟨[txt m.input],rfl,by simp only[wz,arI];exact Zjl h ok,?_⟩;simp only[cns];refine⟨fun ge=>?_,fun ge=>?_⟩
   .simp only[wz,arI,z2r,zdt]at ge;obtain⟨b,l,hbl⟩:∃b l,m.input=b::l:=by
     cases hi:m.input with
     |nil=>exact absurd hi ge
     |cons b l=>exact⟨b,l,rfl⟩
    have hi2:=Zjl h ok;rw[hbl]at hi2;refine⟨[txt (b::l)],rfl,by simp only[wz,arI];exact hi2,fun _=>?_,[txt (b::l)],rfl,by simp only[wz,arI];exact hi2,fun _=>?_,?_⟩
    .simp only[Chk.holds,wz,arI,z15,zlc];omega
    .simp only[Chk.holds,wz,arI,z15,zlc];omega
    simp only[cns];refine z0b (off:=38) (vs:=[txt l]) (by simp only[wz,arI];rfl) h ?_ (by intro u hu;rw[zsi.1 hu];rfl) (by rw[c_len ok];simp) fun K1 h1=>?_
    .simp only[q9,List.map_nil,wz,arI,z15];rw[show((1:Int)).toNat=1 from rfl,qM,znq];simp
    have e:=s_in (st:=st) (mv:=mv) (ov:=ov) ok l;have hb:=b.toNat_lt;have hw:IntKind.i64.wrap (b.toNat:Int)=(b.toNat:Int):=w64 om om;have hb0:(((⟨(b::l).toArray⟩:ByteArray)[0]?).getD 0)=b:=rfl;refine⟨_,z00,?_,?_⟩
    .rw[hv,hbl];simp[wz,arI];rw[hb0];exact hw
    .rw[hbl,List.drop_one,List.tail_cons,←e];exact h1
   .simp only[wz,arI,z2r,zdf,ne_eq,Decidable.not_not]at ge;have ge:m.input=[]:=ge;refine⟨_,z00,by rw[hv,ge];rfl,?_⟩;have:({ m with input:=m.input.drop 1 }:MaR)=m:=by rw[ge];cases m;simp only at ge;subst ge;rfl
    rw[this];exact h
 simp only[wz,arI,zdf]at g6;refine⟨fun g7=>?_,fun g7=>?_⟩
 ·
  simp only[wz,arI,zdt]at g7;have hS:stR m x=(if m.reg x.a<0∨255<m.reg x.a then(5,m)else(6,{ m.goes (m.pc+1)with out:=m.out++[UInt8.ofNat (m.reg x.a).toNat] })):=by
   unfold stR;simp[g7]
  refine⟨fun gf=>?_,fun gf=>?_⟩
  .simp only[wz,arI]at gf;simp only[qu,zdt]at gf;rw[hS,qj om];exact⟨S,ov,wy _,rfl,h,ok⟩
  .simp only[wz,arI]at gf;simp only[zof,zdf]at gf;obtain⟨ob,oc,rfl⟩:=zhx h;refine⟨[.slice ob m.out.length oc],rfl,by simp only[wz,arI];exact zhv h ok,?_⟩;simp only[cns];have hbyte:IntKind.u8.wrap (m.reg x.a)=((UInt8.ofNat (m.reg x.a).toNat).toNat:Int):=by
    rw[wu8 om om];have:(UInt8.ofNat (m.reg x.a).toNat).toNat=(m.reg x.a).toNat:=by
     rw[UInt8.toNat_ofNat'];omega
    omega
   have hp:Held S K1 (orow 5 m.out (.slice ob m.out.length oc)::(bx r TQ (z0f st m mv (.slice ob m.out.length oc))::orow 3 m.mem mv::J)):=h.perm (qA (l₁:=[_,_]));refine z1w (b:=1) (more:=[UInt8.ofNat (m.reg x.a).toNat]) [.int .u8 ((UInt8.ofNat (m.reg x.a).toNat).toNat:Int)] zes Zc1 rfl dC dC hp (by simp[idxs,wz,arI,argEv,hbyte]) (.cons (Zr5 _) .nil) z01 (fun w=>kr) (fun w=>kr)
    (by simp only[maxLen,List.length_singleton];omega) (by simp only[List.length_singleton];omega) fun w v6 S6 K6 l6 h6=>⟨z01,?_⟩
   simp only[cns];obtain⟨b6,c6,hv6⟩:=(h6.row (e:=5) (zms)).sl;refine z0b (off:=39) (vs:=[v6]) (by simp only[wz,arI];rfl) (h6.perm ((qq _ _ _).trans (List.Perm.cons _ (qq _ _ _)))) (by simp only[wz,arI]) (by intro u hu;rw[zsi.1 hu,hv6];rfl) (by rw[c_len ok];simp) fun K7 h7=>?_;have e:=s_out (st:=st) (mv:=mv) (ov:=.slice ob m.out.length oc) ok v6;refine⟨_,z00,S6,{ m with out:=m.out++[UInt8.ofNat (m.reg x.a).toNat] },v6,m.pc+1,l6,by simp only[wz,arI,hw1],?_,⟨ok.len,ok.regs⟩,rfl,?_⟩
   .show Held S6 K7 (z1r TQ r st { m with out:=m.out++[UInt8.ofNat (m.reg x.a).toNat] } mv v6++J);have h8:Held S6 K7 (bx r TQ (z0f st m mv v6)::orow 3 m.mem mv::orow 5 (m.out++[UInt8.ofNat (m.reg x.a).toNat]) v6::J):=by rw[←e];exact h7
    exact h8
   .rw[hS,qc om];rfl
 simp only[wz,arI,zdf]at g7;have hr:x.op=15∨x.op=16∨x.op=17∨x.op=18∨x.op=19∨x.op=20∨x.op=21:=om;have hS:stR m x=(6,m.put x.a (simpR x (m.reg x.a) (m.reg x.b)) (m.pc+1)):=by
  unfold stR simpR;rcases hr with h|h|h|h|h|h|h<;>simp[h]
 have hvi:InI (simpR x (m.reg x.a) (m.reg x.b)):=by
  unfold simpR;exact z1y (z2p _) (z1y (z2p _) (z1y (z2p _) (z1y (z2p _) (z1y (Zj4 (ok.reg _) _) (z1y (z2p _) (by unfold InI;omega))))))
 refine z03 (qb 163) (h.gives (Zap x (m.reg x.a) (m.reg x.b) r S hxo)) ?_;rintro e K3 ⟨rfl,h3,_⟩;refine⟨_,[vi (simpR x (m.reg x.a) (m.reg x.b))],rfl,rfl,rfl,z01,?_⟩;simp only[cns];refine z03 (qb 160) (setGo h3 ok hvi) ?_;rintro e K4 ⟨rfl,h4,ok4⟩;exact⟨_,[],rfl,rfl,rfl,z01,_,z00,S,_,ov,m.pc+1,wy _,by simp only[wz,arI,zan,hw1],h4,ok4,rfl,by rw[hS,zoy]⟩
end
theorem zew{st:Int}{m:MaR}{R:HaltR}(h:z7v (st,m)=R){mv ov:Value}:(z0f st m mv ov).take 2++[txt m.out]++(z0f st m mv ov).drop 3=haltV R mv++[txt m.input,ov]:=by
 rw[←h];simp[z0f,haltV,z7v]
theorem Zh5(l:List Int)(v:Value)(S:PH)(hl:SlR S l v)(hne:l≠[])(hlen:l.length≤1000000000):Tri zP 116 #[v] S fun e K=>∃v',e=.returned v'∧Held S K [orow 3 l v']:=by
 obtain⟨b,c,rfl⟩:=hl.sl;refine qr zf9 [.slice b l.length c] ?_;have hb:∃a,b=some a:=by
  rcases(SlR.mk_iff.1 hl).2 with⟨_,h⟩|⟨a,c',h,_⟩
  .exact absurd h hne
  .simp only[Value.slice.injEq]at h;exact⟨a,h.1⟩
 obtain⟨a,rfl⟩:=hb;have h0:Held S S []:=Held.nil (wy _);refine⟨fun g=>?_,fun g=>?_⟩
 .simp[wz,arI,z4x]at g
 .refine zm5 (α:=Int) (b:=8) z0j z0s h0 z01 fun v1 K1 k1 _ _=>?_;simp only[cns];refine z47 (b:=8) (more:=l) z0j z0s kr kr k1 (hl.srcS k1.sh) (by simp only[maxLen,zln];omega) (by simp only[zln];omega) fun v2 K2 k2 _=>⟨z01,?_⟩;rw[List.nil_append]at k2;exact⟨_,rfl,k2⟩
theorem Zqy:Tryz.prog.underlying 3=some (.int .i64):=kr
theorem Zok(i:ImgR)(input:List UInt8)(steps:Int)(cv mv:Value)(H:PH)(hc:SlR H i.code cv)(hm:SlR H i.mem mv)(hst:steps≤1099511627776)(hne:i.mem≠[]):
  Tri zP 77 #[.agg #[cv,mv,vi i.words],txt input,vi steps] H fun e H'=>∃mv',PH.le H H'∧e=.returned (.agg (haltV (runR i input steps) mv').toArray)∧SlR H' (runR i input steps).mem mv'∧(runR i input steps).regs.length=32∧∀v∈(runR i input steps).regs,InI v:=by
 obtain⟨cb,cc,rfl⟩:=hc.sl;obtain⟨mb,mc,rfl⟩:=hm.sl;have hcm:=hc.max;have hmm:=hm.max;have hmx:maxLen=9223372036854775807:=rfl;refine qr Zc3 [.slice cb i.code.length cc,.slice mb i.mem.length mc,vi i.words,txt input,vi steps] ?_;have hbad:zvu i steps=((((decide (i.words<0)||decide (1048576<i.words))||decide (1048576<(i.code.length:Int)))||decide (i.words<(i.mem.length:Int)))||decide (steps<0)):=rfl;refine⟨fun g=>?_,fun g=>?_⟩
 .simp only[wz,arI]at g;have hr:runR i input steps=noImg:=by unfold runR;rw[qj (by rw[hbad];exact g)]
  rw[hr];refine⟨.slice none 0 0,wy _,rfl,SlR.mk_iff.2 ⟨by simp[noImg,maxLen],.inl ⟨rfl,rfl⟩⟩,rfl,fun v hv=>?_⟩;have:v=0:=List.eq_of_mem_replicate hv;rw[this];unfold InI;omega
 simp only[wz,arI]at g;have hgood:zvu i steps=false:=by rw[hbad];exact g
 simp only[zof,zdf]at g;obtain⟨⟨⟨⟨g1,g2⟩,g3⟩,g4⟩,g5⟩:=g;rw[Zoa hgood];obtain⟨R,hR⟩:∃R,zcz i.code steps 6 (z66 i input)=R:=⟨_,rfl⟩;rw[hR];obtain⟨wn,hwn⟩:∃wn:Nat,i.words=(wn:Int):=⟨i.words.toNat,om⟩;have h0:Held H H []:=Held.nil (wy _);obtain⟨m0,hm0⟩:∃m0:MaR,m0=⟨0,0,0,Z9i,[],input,[]⟩:=⟨_,rfl⟩;have ok0:MaOk m0:=by
  subst hm0;refine⟨rfl,fun v hv=>?_⟩;have:v=0:=List.eq_of_mem_replicate hv;rw[this];unfold InI;omega
 refine z1d (vs:=z0f 0 m0 (.slice none 0 0) (.slice none 0 0)) h0 (by subst hm0;kernel_rfl) fun r K1 l1 h1=>?_;simp only[cns];refine z03 (qb 116) (Held.call (J:=[]) (I:=[bx r TQ (z0f 0 m0 (.slice none 0 0) (.slice none 0 0))]) (R:=fun e S' J'=>∃v',e=.returned v'∧J'=[orow 3 i.mem v']) h1 fun K hK=>((Zh5 i.mem _ H hm hne om).within hK.sh).mono fun e K' h=>?_) ?_
 .obtain⟨K2,⟨v',rfl,h2⟩,h3,h4⟩:=h;exact⟨H,_,wy _,h2.le h3,v',rfl,rfl⟩
 rintro e K2 ⟨SB,J2,lB,h2,v2,rfl,rfl⟩;simp only[cns]at h2;obtain⟨b2,c2,rfl⟩:=(h2.row (e:=3) (zms)).sl;refine⟨_,[.slice b2 i.mem.length c2],rfl,rfl,rfl,z01,?_⟩;simp only[cns];have hsub:arI .sub .i64 i.words (i.mem.length:Int)=((wn-i.mem.length:Nat):Int):=by
  show IntKind.i64.wrap (i.words-(i.mem.length:Int))=_;rw[w64 om om];omega
 refine Zg8 (α:=Int) (b:=8) (m:=wn-i.mem.length) 0 rfl z7n z0j Zqy zb4 kr (by rw[←hsub];kernel_rfl) h2 om om fun gv K4 h4=>?_;simp only[cns];obtain⟨mem0,hmem0⟩:∃mem0:List Int,mem0=i.mem++List.replicate (wn-i.mem.length) 0:=⟨_,rfl⟩;rw[←hmem0]at h4;have hml0:mem0.length=wn:=by rw[hmem0,zla,wj];omega
 have hgsl:=(h4.row (e:=3) (zms)).sl;obtain⟨gvb,gvc,hgvE⟩:=hgsl;have hgsl:=hgvE;have hone:∀v∈[gv],oneC v=true:=by
  intro v hv;rw[zsi.1 hv,hgvE];rfl
 refine⟨fun _=>by simp[Chk.holds,wz,arI],?_⟩;refine z0b (off:=37) (vs:=[gv]) (by simp only[wz,arI];rfl) (h4.perm (qq _ _ _)) (by simp only[wz,arI]) hone (by rw[c_len ok0];simp) fun K5 h5=>?_;have h5:Held SB K5 (bx r TQ (z0f 0 m0 gv (.slice none 0 0))::orow 3 mem0 gv::[]):=by
  have e:=s_mem (st:=0) (mv:=.slice none 0 0) (ov:=.slice none 0 0) ok0 gv;rw[←e];exact h5
 refine z0b (off:=0) (vs:=[vi 6]) (by simp only[wz,arI];rfl) h5 (by simp only[wz,arI]) (by intro u hu;rw[zsi.1 hu];rfl) (by simp[z0f]) fun K6 h6=>?_;have h6:Held SB K6 (bx r TQ (z0f 6 m0 gv (.slice none 0 0))::orow 3 mem0 gv::[]):=h6;have hstart:z66 i input={ m0 with mem:=mem0 }:=by
  unfold z66;rw[hm0,hmem0,hwn];rfl
 have h7:Held SB K6 (z1r TQ r 6 (z66 i input) gv (.slice none 0 0)++[]):=by
  rw[hstart];have h8:=(h6.empty (α:=UInt8) 5);have he:m0.out=[]:=by rw[hm0]
  show Held SB K6 [bx r TQ (z0f 6 m0 gv (.slice none 0 0)),orow 3 mem0 gv,orow 5 m0.out (.slice none 0 0)];rw[he];exact h8.perm (List.perm_append_comm (l₁:=[_]) (l₂:=[_,_]))
 have okS:MaOk (z66 i input):=by rw[hstart];exact⟨ok0.len,ok0.regs⟩
 refine ⟨fun n vs K=>∃(S2:PH) (st:Int) (m:MaR) (ov:Value),n=(if st=6 then (steps - m.steps).toNat+1 else 0)∧PH.le H S2∧vs=[]∧Held S2 K (z1r TQ r st m gv ov++[])∧MaOk m∧InI st∧m.mem.length=wn∧0≤m.steps∧m.steps≤steps∧(m.out.length:Int)≤m.steps∧zcz i.code steps st m=R,
  ⟨_,SB,6,z66 i input,.slice none 0 0,rfl,lB,rfl,h7,okS,dC,by rw[hstart];exact hml0,by simp[z66],by simp only[z66];omega,by simp[z66],hR⟩,?_⟩
 rintro n vs K _ ⟨S2,st,m,ov,hn,l2,rfl,h2,ok,hsi,hml,s0,s1,so,hrest⟩;simp only[cns,zan];refine⟨[vi st],rfl,by simp only[wz,arI];exact z5u h2 rfl,?_⟩;simp only[cns,zan];refine⟨fun g=>?_,fun g=>?_⟩;rotate_left
 .simp only[wz,arI,zdf]at g;have hfin:z7v (st,m)=R:=by rw[←Z6d (code:=i.code) (limit:=steps) (fun h=>g h.1)];exact hrest
  obtain⟨obE,ocE,hovE⟩:=zhx h2;have houtE:=(h2.row (e:=5) (l:=m.out) (v:=ov) sM).slR h2.sh;rw[hovE]at houtE;have hoE:=zhv h2 ok;rw[hovE]at hoE;refine⟨[.slice obE m.out.length ocE],rfl,by simp only[wz,arI];exact hoE,?_⟩;simp only[cns];refine z4p zes zay uByte kr houtE z01 ?_;simp only[cns];refine z0b (off:=2) (vs:=[txt m.out]) (by simp only[wz,arI];rfl) h2 (by simp only[wz,arI]) (by intro u hu;rw[zsi.1 hu];rfl) (by simp[z0f]) fun KE hE3=>?_;have hregE:R.regs.length=32∧∀v∈R.regs,InI v:=by rw[←hfin];exact⟨(ok).len,(ok).regs⟩
  have hmemE:R.mem=m.mem:=by rw[←hfin];rfl
  obtain⟨a0,a1,a2,a3,a4,a5,a6,a7,a8,a9,b0,b1,b2',b3,b4,b5,b6,b7,b8,b9,c0,c1,c2',c3,c4,c5,c6,c7,c8,c9,d0,d1,hregsE⟩:=zet (ok).len;have hvalE:haltV R gv=[vi R.state,vi R.value,txt R.out,vi R.steps,vi R.pc,vi a0,vi a1,vi a2,vi a3,vi a4,vi a5,vi a6,vi a7,vi a8,vi a9,vi b0,vi b1,vi b2',vi b3,vi b4,vi b5,vi b6,vi b7,vi b8,vi b9,vi c0,vi c1,vi c2',vi c3,vi c4,vi c5,vi c6,vi c7,vi c8,vi c9,vi d0,vi d1,gv]:=by
   have:R.regs=m.regs:=by rw[←hfin];rfl
   unfold haltV;rw[this,hregsE];rfl
  have hlE:(2+[txt m.out].length)=3:=rfl;rw[hlE,zew hfin,hvalE]at hE3;have hmslE:=(hE3.row (e:=3) (l:=m.mem) (v:=gv) sM).slR hE3.sh;refine z0r (off:=0) [vi R.state,vi R.value,txt R.out,vi R.steps,vi R.pc,vi a0,vi a1,vi a2,vi a3,vi a4,vi a5,vi a6,vi a7,vi a8,vi a9,vi b0,vi b1,vi b2',vi b3,vi b4,vi b5,vi b6,vi b7,vi b8,vi b9,vi c0,vi c1,vi c2',vi c3,vi c4,vi c5,vi c6,vi c7,vi c8,vi c9,vi d0,vi d1,gv] (by simp only[wz,arI];rfl) hE3 (zms) kr (by rw[hgvE];kernel_rfl) ?_;exact⟨gv,wx l2 hE3.sh,by rw[hvalE];kernel_rfl,by rw[hmemE];exact hmslE,hregE⟩
 simp only[wz,arI,zdt]at g;subst g;refine⟨[vi m.steps],rfl,by simp only[wz,arI];exact z5u h2 rfl,?_⟩;simp only[cns,zan];refine⟨fun glt=>?_,fun g=>?_⟩;rotate_left
 .simp only[wz,arI,zdf]at g;have hfin:z7v (6,m)=R:=by rw[←Z6d (code:=i.code) (limit:=steps) (fun h=>g h.2)];exact hrest
  obtain⟨obE,ocE,hovE⟩:=zhx h2;have houtE:=(h2.row (e:=5) (l:=m.out) (v:=ov) sM).slR h2.sh;rw[hovE]at houtE;have hoE:=zhv h2 ok;rw[hovE]at hoE;refine⟨[.slice obE m.out.length ocE],rfl,by simp only[wz,arI];exact hoE,?_⟩;simp only[cns];refine z4p zes zay uByte kr houtE z01 ?_;simp only[cns];refine z0b (off:=2) (vs:=[txt m.out]) (by simp only[wz,arI];rfl) h2 (by simp only[wz,arI]) (by intro u hu;rw[zsi.1 hu];rfl) (by simp[z0f]) fun KE hE3=>?_;have hregE:R.regs.length=32∧∀v∈R.regs,InI v:=by rw[←hfin];exact⟨(ok).len,(ok).regs⟩
  have hmemE:R.mem=m.mem:=by rw[←hfin];rfl
  obtain⟨a0,a1,a2,a3,a4,a5,a6,a7,a8,a9,b0,b1,b2',b3,b4,b5,b6,b7,b8,b9,c0,c1,c2',c3,c4,c5,c6,c7,c8,c9,d0,d1,hregsE⟩:=zet (ok).len;have hvalE:haltV R gv=[vi R.state,vi R.value,txt R.out,vi R.steps,vi R.pc,vi a0,vi a1,vi a2,vi a3,vi a4,vi a5,vi a6,vi a7,vi a8,vi a9,vi b0,vi b1,vi b2',vi b3,vi b4,vi b5,vi b6,vi b7,vi b8,vi b9,vi c0,vi c1,vi c2',vi c3,vi c4,vi c5,vi c6,vi c7,vi c8,vi c9,vi d0,vi d1,gv]:=by
   have:R.regs=m.regs:=by rw[←hfin];rfl
   unfold haltV;rw[this,hregsE];rfl
  have hlE:(2+[txt m.out].length)=3:=rfl;rw[hlE,zew hfin,hvalE]at hE3;have hmslE:=(hE3.row (e:=3) (l:=m.mem) (v:=gv) sM).slR hE3.sh;refine z0r (off:=0) [vi R.state,vi R.value,txt R.out,vi R.steps,vi R.pc,vi a0,vi a1,vi a2,vi a3,vi a4,vi a5,vi a6,vi a7,vi a8,vi a9,vi b0,vi b1,vi b2',vi b3,vi b4,vi b5,vi b6,vi b7,vi b8,vi b9,vi c0,vi c1,vi c2',vi c3,vi c4,vi c5,vi c6,vi c7,vi c8,vi c9,vi d0,vi d1,gv] (by simp only[wz,arI];rfl) hE3 (zms) kr (by rw[hgvE];kernel_rfl) ?_;exact⟨gv,wx l2 hE3.sh,by rw[hvalE];kernel_rfl,by rw[hmemE];exact hmslE,hregE⟩
 simp only[wz,arI,zdt]at glt;rw[Zlk glt]at hrest;refine⟨[vi m.pc],rfl,by simp only[wz,arI];exact z5u h2 rfl,?_⟩;simp only[cns,zan];refine⟨fun g=>?_,fun g=>?_⟩
 .simp only[wz,arI,zdt]at g;rw[qj (.inl g)]at hrest;refine z0b (off:=0) (vs:=[vi 3]) (by simp only[wz,arI];rfl) h2 (by simp only[wz,arI]) (by intro u hu;rw[zsi.1 hu];rfl) (by simp[z0f]) fun K3 h3=>?_;have h3:Held S2 K3 (z1r TQ r 3 m gv ov++[]):=h3;obtain⟨obE,ocE,hovE⟩:=zhx h3;have houtE:=(h3.row (e:=5) (l:=m.out) (v:=ov) sM).slR h3.sh;rw[hovE]at houtE;have hoE:=zhv h3 ok;rw[hovE]at hoE;refine⟨[.slice obE m.out.length ocE],rfl,by simp only[wz,arI];exact hoE,?_⟩;simp only[cns];refine z4p zes zay uByte kr houtE z01 ?_;simp only[cns];refine z0b (off:=2) (vs:=[txt m.out]) (by simp only[wz,arI];rfl) h3 (by simp only[wz,arI]) (by intro u hu;rw[zsi.1 hu];rfl) (by simp[z0f]) fun KE hE3=>?_;have hregE:R.regs.length=32∧∀v∈R.regs,InI v:=by rw[←hrest];exact⟨(ok).len,(ok).regs⟩
  have hmemE:R.mem=m.mem:=by rw[←hrest];rfl
  obtain⟨a0,a1,a2,a3,a4,a5,a6,a7,a8,a9,b0,b1,b2',b3,b4,b5,b6,b7,b8,b9,c0,c1,c2',c3,c4,c5,c6,c7,c8,c9,d0,d1,hregsE⟩:=zet (ok).len;have hvalE:haltV R gv=[vi R.state,vi R.value,txt R.out,vi R.steps,vi R.pc,vi a0,vi a1,vi a2,vi a3,vi a4,vi a5,vi a6,vi a7,vi a8,vi a9,vi b0,vi b1,vi b2',vi b3,vi b4,vi b5,vi b6,vi b7,vi b8,vi b9,vi c0,vi c1,vi c2',vi c3,vi c4,vi c5,vi c6,vi c7,vi c8,vi c9,vi d0,vi d1,gv]:=by
   have:R.regs=m.regs:=by rw[←hrest];rfl
   unfold haltV;rw[this,hregsE];rfl
  have hlE:(2+[txt m.out].length)=3:=rfl;rw[hlE,zew hrest,hvalE]at hE3;have hmslE:=(hE3.row (e:=3) (l:=m.mem) (v:=gv) sM).slR hE3.sh;refine z0r (off:=0) [vi R.state,vi R.value,txt R.out,vi R.steps,vi R.pc,vi a0,vi a1,vi a2,vi a3,vi a4,vi a5,vi a6,vi a7,vi a8,vi a9,vi b0,vi b1,vi b2',vi b3,vi b4,vi b5,vi b6,vi b7,vi b8,vi b9,vi c0,vi c1,vi c2',vi c3,vi c4,vi c5,vi c6,vi c7,vi c8,vi c9,vi d0,vi d1,gv] (by simp only[wz,arI];rfl) hE3 (zms) kr (by rw[hgvE];kernel_rfl) ?_;exact⟨gv,wx l2 hE3.sh,by rw[hvalE];kernel_rfl,by rw[hmemE];exact hmslE,hregE⟩
 simp only[wz,arI,zdf]at g;refine⟨[vi m.pc],rfl,by simp only[wz,arI];exact z5u h2 rfl,?_⟩;simp only[cns,zan];refine⟨fun g'=>?_,fun g'=>?_⟩
 .simp only[wz,arI,zdt]at g';rw[qj (.inr om)]at hrest;refine z0b (off:=0) (vs:=[vi 3]) (by simp only[wz,arI];rfl) h2 (by simp only[wz,arI]) (by intro u hu;rw[zsi.1 hu];rfl) (by simp[z0f]) fun K3 h3=>?_;have h3:Held S2 K3 (z1r TQ r 3 m gv ov++[]):=h3;obtain⟨obE,ocE,hovE⟩:=zhx h3;have houtE:=(h3.row (e:=5) (l:=m.out) (v:=ov) sM).slR h3.sh;rw[hovE]at houtE;have hoE:=zhv h3 ok;rw[hovE]at hoE;refine⟨[.slice obE m.out.length ocE],rfl,by simp only[wz,arI];exact hoE,?_⟩;simp only[cns];refine z4p zes zay uByte kr houtE z01 ?_;simp only[cns];refine z0b (off:=2) (vs:=[txt m.out]) (by simp only[wz,arI];rfl) h3 (by simp only[wz,arI]) (by intro u hu;rw[zsi.1 hu];rfl) (by simp[z0f]) fun KE hE3=>?_;have hregE:R.regs.length=32∧∀v∈R.regs,InI v:=by rw[←hrest];exact⟨(ok).len,(ok).regs⟩
  have hmemE:R.mem=m.mem:=by rw[←hrest];rfl
  obtain⟨a0,a1,a2,a3,a4,a5,a6,a7,a8,a9,b0,b1,b2',b3,b4,b5,b6,b7,b8,b9,c0,c1,c2',c3,c4,c5,c6,c7,c8,c9,d0,d1,hregsE⟩:=zet (ok).len;have hvalE:haltV R gv=[vi R.state,vi R.value,txt R.out,vi R.steps,vi R.pc,vi a0,vi a1,vi a2,vi a3,vi a4,vi a5,vi a6,vi a7,vi a8,vi a9,vi b0,vi b1,vi b2',vi b3,vi b4,vi b5,vi b6,vi b7,vi b8,vi b9,vi c0,vi c1,vi c2',vi c3,vi c4,vi c5,vi c6,vi c7,vi c8,vi c9,vi d0,vi d1,gv]:=by
   have:R.regs=m.regs:=by rw[←hrest];rfl
   unfold haltV;rw[this,hregsE];rfl
  have hlE:(2+[txt m.out].length)=3:=rfl;rw[hlE,zew hrest,hvalE]at hE3;have hmslE:=(hE3.row (e:=3) (l:=m.mem) (v:=gv) sM).slR hE3.sh;refine z0r (off:=0) [vi R.state,vi R.value,txt R.out,vi R.steps,vi R.pc,vi a0,vi a1,vi a2,vi a3,vi a4,vi a5,vi a6,vi a7,vi a8,vi a9,vi b0,vi b1,vi b2',vi b3,vi b4,vi b5,vi b6,vi b7,vi b8,vi b9,vi c0,vi c1,vi c2',vi c3,vi c4,vi c5,vi c6,vi c7,vi c8,vi c9,vi d0,vi d1,gv] (by simp only[wz,arI];rfl) hE3 (zms) kr (by rw[hgvE];kernel_rfl) ?_;exact⟨gv,wx l2 hE3.sh,by rw[hvalE];kernel_rfl,by rw[hmemE];exact hmslE,hregE⟩
 simp only[wz,arI,zdf]at g';rw[qc om]at hrest;obtain⟨w,hw⟩:∃w,i.code[m.pc.toNat]?=some w:=⟨_,zge om⟩;rw[zgd,hw,Option.getD_some]at hrest;have hj:((m.pc.toNat:Nat):Int)=m.pc:=Int.toNat_of_nonneg om;have hck:=hc.le (wx l2 h2.sh);obtain⟨z1,_,zcs,z2,z3⟩:=hck.get hw;obtain⟨rfl,zu⟩:=w32_iff.1 z2;rw[hj]at z3;refine⟨[vi m.pc],rfl,by simp only[wz,arI];exact z5u h2 rfl,?_⟩;simp only[cns,zan];refine⟨fun _=>?_,[.int .u32 w.n],rfl,by simp only[wz,arI];exact z3,?_⟩
 .simp only[Chk.holds,wz,arI];exact⟨z1,om,om⟩
 simp only[cns,zan];refine(fun {p:Prop} (h:p)=>And.intro h h) ?_;refine z03 (qb 117) (h2.gives (Zb8 w.n S2 zu)) ?_;rintro e K3 ⟨rfl,h3,_⟩;refine⟨_,insV ((decR w.n).getD ins0)++[.bool (decR w.n).isSome],rfl,rfl,rfl,z01,?_⟩;simp only[cns,zan];refine⟨fun g2=>?_,fun g2=>?_⟩
 .simp only[wz,arI,qy,Option.isSome_eq_false_iff,Option.isNone_iff_eq_none]at g2;rw[g2]at hrest;simp only[]at hrest;refine z0b (off:=0) (vs:=[vi 1]) (by simp only[wz,arI];rfl) h3 (by simp only[wz,arI]) (by intro u hu;rw[zsi.1 hu];rfl) (by simp[z0f]) fun K4 h4=>?_;have h4:Held S2 K4 (z1r TQ r 1 m gv ov++[]):=h4;obtain⟨obE,ocE,hovE⟩:=zhx h4;have houtE:=(h4.row (e:=5) (l:=m.out) (v:=ov) sM).slR h4.sh;rw[hovE]at houtE;have hoE:=zhv h4 ok;rw[hovE]at hoE;refine⟨[.slice obE m.out.length ocE],rfl,by simp only[wz,arI];exact hoE,?_⟩;simp only[cns];refine z4p zes zay uByte kr houtE z01 ?_;simp only[cns];refine z0b (off:=2) (vs:=[txt m.out]) (by simp only[wz,arI];rfl) h4 (by simp only[wz,arI]) (by intro u hu;rw[zsi.1 hu];rfl) (by simp[z0f]) fun KE hE3=>?_;have hregE:R.regs.length=32∧∀v∈R.regs,InI v:=by rw[←hrest];exact⟨(ok).len,(ok).regs⟩
  have hmemE:R.mem=m.mem:=by rw[←hrest];rfl
  obtain⟨a0,a1,a2,a3,a4,a5,a6,a7,a8,a9,b0,b1,b2',b3,b4,b5,b6,b7,b8,b9,c0,c1,c2',c3,c4,c5,c6,c7,c8,c9,d0,d1,hregsE⟩:=zet (ok).len;have hvalE:haltV R gv=[vi R.state,vi R.value,txt R.out,vi R.steps,vi R.pc,vi a0,vi a1,vi a2,vi a3,vi a4,vi a5,vi a6,vi a7,vi a8,vi a9,vi b0,vi b1,vi b2',vi b3,vi b4,vi b5,vi b6,vi b7,vi b8,vi b9,vi c0,vi c1,vi c2',vi c3,vi c4,vi c5,vi c6,vi c7,vi c8,vi c9,vi d0,vi d1,gv]:=by
   have:R.regs=m.regs:=by rw[←hrest];rfl
   unfold haltV;rw[this,hregsE];rfl
  have hlE:(2+[txt m.out].length)=3:=rfl;rw[hlE,zew hrest,hvalE]at hE3;have hmslE:=(hE3.row (e:=3) (l:=m.mem) (v:=gv) sM).slR hE3.sh;refine z0r (off:=0) [vi R.state,vi R.value,txt R.out,vi R.steps,vi R.pc,vi a0,vi a1,vi a2,vi a3,vi a4,vi a5,vi a6,vi a7,vi a8,vi a9,vi b0,vi b1,vi b2',vi b3,vi b4,vi b5,vi b6,vi b7,vi b8,vi b9,vi c0,vi c1,vi c2',vi c3,vi c4,vi c5,vi c6,vi c7,vi c8,vi c9,vi d0,vi d1,gv] (by simp only[wz,arI];rfl) hE3 (zms) kr (by rw[hgvE];kernel_rfl) ?_;exact⟨gv,wx l2 hE3.sh,by rw[hvalE];kernel_rfl,by rw[hmemE];exact hmslE,hregE⟩
 .simp only[wz,arI,qR,qG]at g2;obtain⟨x,hdx⟩:=g2;rw[hdx]at hrest⊢;simp only[Option.getD_some]at hrest⊢;have hx:=Zqp hdx;obtain⟨f1,f2,f3,f4,f5⟩:=Zcg m x;refine z03 (qb 118) (Zo7 x h3 ok hx om om so om) ?_;rintro e K4 ⟨S4,ov4,l4,rfl,h4,ok4⟩;refine⟨_,[vi (stR m x).1],rfl,rfl,rfl,z01,?_⟩;simp only[cns,zan];refine z0b (off:=0) (vs:=[vi (stR m x).1]) (by simp only[wz,arI];rfl) h4 (by simp only[wz,arI]) (by intro u hu;rw[zsi.1 hu];rfl) (by simp[z0f]) fun K5 h5=>?_;have h5:Held S4 K5 (z1r TQ r (stR m x).1 (stR m x).2 gv ov4++[]):=h5;refine⟨_,z00,(if(stR m x).1=6 then(steps-(stR m x).2.steps).toNat+1 else 0),?_,S4,_,_,ov4,rfl,wx l2 l4,rfl,h5,ok4,f4,by rw[f1];exact hml,?_,?_,?_,hrest⟩
  .rw[hn,qj rfl];split<;>omega
  .omega
  .omega
  .omega
theorem Zlo(x:ItemR)(H:PH)(hx:InI8 x):Gives zP 73 [.agg (itemV x).toArray] H (.bool (mayR x)):=by
 refine qr Ze3 (itemV x) ?_;have enc:=zk9 x.x H hx.x;have he:=Zq0 (encR x.x);generalize hm:mayR x=b;unfold mayR at hm;refine⟨fun g=>?_,fun g=>?_⟩
 .simp only[wz,arI,zdt]at g;rw[qj g]at hm;refine z02 [.int .u32 ((encR x.x).getD 0),vi (encE (encR x.x))] (qb 110) enc rfl z01 fun K l=>?_;exact⟨by simp only[wz,arI,he,←hm],l⟩
 simp only[wz,arI,zdf]at g;rw[qc g]at hm;refine⟨fun g=>?_,fun g=>?_⟩
 .simp only[wz,arI,zdt]at g;rw[qj g]at hm;refine Zic (a:=x.x) (b:=ins0) kr kr ?_;exact⟨by simp only[wz,arI,←hm],wy _⟩
 simp only[wz,arI,zdf]at g;rw[qc g]at hm;refine⟨fun g=>?_,fun g=>?_⟩
 .simp only[wz,arI,zdt]at g;rw[qj g]at hm;refine z02 [.int .u32 ((encR x.x).getD 0),vi (encE (encR x.x))] (qb 110) enc rfl z01 fun K l=>?_;exact⟨by simp only[wz,arI,he,←hm,ge_iff_le],l⟩
 simp only[wz,arI,zdf]at g;rw[qc g]at hm;refine⟨fun g=>?_,fun g=>?_⟩
 .simp only[wz,arI,zdt]at g;rw[qj g]at hm;refine z02 [.int .u32 ((encR x.x).getD 0),vi (encE (encR x.x))] (qb 110) enc rfl z01 fun K l=>?_;exact⟨by simp only[wz,arI,he,←hm],l⟩
 simp only[wz,arI,zdf]at g;rw[qc g]at hm;refine⟨fun g=>?_,fun g=>?_⟩
 .simp only[wz,arI,zdt]at g;rw[qj g]at hm;refine z02 [.int .u32 ((encR x.x).getD 0),vi (encE (encR x.x))] (qb 110) enc rfl z01 fun K l=>?_;exact⟨by simp only[wz,arI,he,←hm],l⟩
 simp only[wz,arI,zdf]at g;rw[qc g]at hm;refine⟨fun g=>?_,fun g=>?_⟩
 .simp only[wz,arI,zdt]at g;rw[qj g]at hm;refine z02 [.int .u32 ((encR x.x).getD 0),vi (encE (encR x.x))] (qb 110) enc rfl z01 fun K l=>?_;exact⟨by simp only[wz,arI,he,←hm],l⟩
 simp only[wz,arI,zdf]at g;rw[qc g]at hm;exact⟨by rw[←hm];rfl,wy _⟩
theorem zvp(n:Int)(H:PH)(hn:InI n):Gives zP 115 [vi n] H (vi (z5n n:Int)):=by
 obtain⟨n0,n1⟩:=hn;refine qr Z3s [vi n] ?_;have s0:shrR n 0=n:=by unfold shrR;simp
 have s16:shrR n 16=n/65536:=by unfold shrR;rw[Int.fdiv_eq_ediv_of_nonneg _ dC];rfl
 have s32:shrR n 32=n/4294967296:=by unfold shrR;rw[Int.fdiv_eq_ediv_of_nonneg _ dC];rfl
 refine⟨fun m vs K=>∃k:Nat,k+m=4∧1≤k∧vs=[nI k]∧K=H∧(1<k→¬(-32768≤n∧n≤32767))∧(2<k→¬(-32768≤shrR n 16∧shrR n 16≤32767))∧(3<k→¬(-32768≤shrR n 32∧shrR n 32≤32767)),⟨3,1,rfl,om,rfl,rfl,om,om,om⟩,?_⟩;rintro m vs K _ ⟨k,hkm,hk1,rfl,rfl,h1,h2,h3⟩;simp only[cns];have e1:IntKind.i64.wrap (16*(k:Int))=((16*k:Nat):Int):=by rw[w64 om om];omega
 have e2:IntKind.i64.wrap (((16*k:Nat):Int)-1)=((16*k-1:Nat):Int):=by rw[w64 om om];omega
 have e3:IntKind.i64.wrap ((k:Int)+1)=((k+1:Nat):Int):=by rw[w64 om om];rfl
 have c1:∀{q:Prop},(k<4→0≤iOf (Value.int .i64 ((16*k-1:Nat):Int))):=fun _=>by simp only[iOf];omega
 refine⟨fun _=>?_,fun _=>?_,fun g=>?_,fun g=>?_⟩
 .simp only[Chk.holds,wz,arI,e1,e2];omega
 .simp only[Chk.holds,wz,arI,e1,e2];omega
 .have lim:k<4∧¬(-32768≤shrR n (16*(k-1))∧shrR n (16*(k-1))≤32767):=by
   simp only[wz,arI,e1,e2]at g;obtain rfl|rfl|rfl|rfl:k=1∨k=2∨k=3∨k=4:=om
   .refine⟨om,?_⟩;simp only[Nat.sub_self,Nat.mul_zero,s0];have a1:IntKind.i64.wrap (-1*2^(min (((16*1-1:Nat):Int)).toNat IntKind.i64.bits))=-32768:=dC;have a2:IntKind.i64.wrap (IntKind.i64.wrap (1*2^(min (((16*1-1:Nat):Int)).toNat IntKind.i64.bits))-1)=32767:=dC;rw[a1,a2]at g;simp only[zba,qu,zdt]at g;omega
   .refine⟨om,?_⟩;simp only[Nat.reduceSub,Nat.reduceMul,s16];have a1:IntKind.i64.wrap (-1*2^(min (((16*2-1:Nat):Int)).toNat IntKind.i64.bits))=-2147483648:=dC;have a2:IntKind.i64.wrap (IntKind.i64.wrap (1*2^(min (((16*2-1:Nat):Int)).toNat IntKind.i64.bits))-1)=2147483647:=dC;rw[a1,a2]at g;simp only[zba,qu,zdt]at g;omega
   .refine⟨om,?_⟩;simp only[Nat.reduceSub,Nat.reduceMul,s32];have a1:IntKind.i64.wrap (-1*2^(min (((16*3-1:Nat):Int)).toNat IntKind.i64.bits))=-140737488355328:=dC;have a2:IntKind.i64.wrap (IntKind.i64.wrap (1*2^(min (((16*3-1:Nat):Int)).toNat IntKind.i64.bits))-1)=140737488355327:=dC;rw[a1,a2]at g;simp only[zba,qu,zdt]at g;omega
   .simp at g
  refine⟨_,z00,m-1,om,k+1,om,om,by simp only[wz,arI,e3],rfl,fun _=>?_,fun _=>?_,fun _=>?_⟩
  .obtain rfl|hk:k=1∨1<k:=om
   .have:=lim.2;simpa only[Nat.sub_self,Nat.mul_zero,s0]using this
   .exact h1 hk
  .obtain rfl|hk:k=2∨2<k:=om
   .exact lim.2
   .exact h2 hk
  .obtain rfl|hk:k=3∨3<k:=om
   .exact lim.2
   .exact h3 hk
 .have lim:k=4∨(-32768≤shrR n (16*(k-1))∧shrR n (16*(k-1))≤32767):=by
   simp only[wz,arI,e1,e2]at g;obtain rfl|rfl|rfl|rfl:k=1∨k=2∨k=3∨k=4:=om
   .right;simp only[Nat.sub_self,Nat.mul_zero,s0];have a1:IntKind.i64.wrap (-1*2^(min (((16*1-1:Nat):Int)).toNat IntKind.i64.bits))=-32768:=dC;have a2:IntKind.i64.wrap (IntKind.i64.wrap (1*2^(min (((16*1-1:Nat):Int)).toNat IntKind.i64.bits))-1)=32767:=dC;rw[a1,a2]at g;simp only[wl,zof,zdf]at g;omega
   .right;simp only[Nat.reduceSub,Nat.reduceMul,s16];have a1:IntKind.i64.wrap (-1*2^(min (((16*2-1:Nat):Int)).toNat IntKind.i64.bits))=-2147483648:=dC;have a2:IntKind.i64.wrap (IntKind.i64.wrap (1*2^(min (((16*2-1:Nat):Int)).toNat IntKind.i64.bits))-1)=2147483647:=dC;rw[a1,a2]at g;simp only[wl,zof,zdf]at g;omega
   .right;simp only[Nat.reduceSub,Nat.reduceMul,s32];have a1:IntKind.i64.wrap (-1*2^(min (((16*3-1:Nat):Int)).toNat IntKind.i64.bits))=-140737488355328:=dC;have a2:IntKind.i64.wrap (IntKind.i64.wrap (1*2^(min (((16*3-1:Nat):Int)).toNat IntKind.i64.bits))-1)=140737488355327:=dC;rw[a1,a2]at g;simp only[wl,zof,zdf]at g;omega
   .exact .inl rfl
  refine⟨?_,wy _⟩;have:z5n n=k:=by
   unfold z5n;obtain rfl|rfl|rfl|rfl:k=1∨k=2∨k=3∨k=4:=om
   .rcases lim with lim|lim
    .omega
    .simp only[Nat.sub_self,Nat.mul_zero,s0]at lim;rw[qj lim]
   .rcases lim with lim|lim
    .omega
    .rw[qc (h1 om),qj lim]
   .rcases lim with lim|lim
    .omega
    .rw[qc (h1 om),qc (h2 om),qj lim]
   .rw[qc (h1 om),qc (h2 om),qc (h3 om)]
  rw[this];rfl
theorem Z3t(op:Int)(H:PH):Gives zP 113 [vi op] H (vi (zf5 op)):=by
 refine qr zy5 [vi op] ?_;unfold zf5;refine⟨fun g=>?_,fun g=>?_⟩
 .simp only[wz,arI,zdt]at g;rw[qj g];exact⟨rfl,wy _⟩
 simp only[wz,arI,zdf]at g;rw[qc g];refine⟨fun g=>?_,fun g=>?_⟩
 .simp only[wz,arI,zdt]at g;rw[qj g];exact⟨rfl,wy _⟩
 simp only[wz,arI,zdf]at g;rw[qc g];refine⟨fun g=>?_,fun g=>?_⟩
 .simp only[wz,arI,zdt]at g;rw[qj g];exact⟨rfl,wy _⟩
 simp only[wz,arI,zdf]at g;rw[qc g];exact⟨rfl,wy _⟩
abbrev TA:TypeId:=137
abbrev z87(lv:Value)(mr:Nat)(bv pv cv:Value):List Value:=[lv,.map (some mr),bv,pv,cv]
theorem Zh2(l:List ItemR)(long:List Bool)(lv bv:Value)(r:Nat)(K:PH)(i:Nat)(x:ItemR)(b:Bool)(h0:rowAt K (some ⟨r,0,none⟩) [lv])(h2:rowAt K (some ⟨r,2,none⟩) [bv])(hl:SlR K l lv)(hb:SlR K long bv)(hx:l[i]?=some x)(hbi:long[i]?=some b):
  Gives zP 111 [pAt r,nI i] K (nI (sizeR x b)):=by
 obtain⟨lb,lc,rfl⟩:=hl.sl;obtain⟨bb,bc,rfl⟩:=hb.sl;have hil:=(zgi.1 hx).1;have hib:=(zgi.1 hbi).1;obtain⟨y1,_,cs,y2,y3⟩:=hl.get hx;obtain⟨rfl,hx8⟩:=itemR_iff.1 y2;obtain⟨z1,_,zcs,z2,z3⟩:=hb.get hbi;obtain rfl:=csBK z2;refine qr zlj [pAt r,nI i] ?_;generalize hz:sizeR x b=z;unfold sizeR at hz;refine⟨fun vs K2=>vs=[]∧K=K2∧z=1,?_,fun _=>by simp[Chk.holds,wz,arI],[.slice lb l.length lc],rfl,by simp only[wz,arI];exact h0,fun _=>?_,itemV x,rfl,by simp only[wz,arI];exact y3,?_⟩
 .rintro vs K2 _ ⟨rfl,rfl,h⟩;rw[h];exact⟨rfl,wy _⟩
 .simp only[Chk.holds,wz,arI];exact⟨y1,om,om⟩
 simp only[cns];refine⟨fun g=>?_,fun g=>?_⟩
 .simp only[wz,arI,zdt]at g;rw[qj g]at hz;rw[←hz];exact⟨rfl,wy _⟩
 simp only[wz,arI,zdf]at g;rw[qc g]at hz;refine⟨fun g2=>?_,fun g2=>?_⟩
 .simp only[wz,arI,zdt]at g2;rw[qj g2]at hz;refine⟨[.slice bb long.length bc],rfl,by simp only[wz,arI];exact h2,fun _=>?_,[.bool b],rfl,by simp only[wz,arI];exact z3,fun g3=>?_,fun g3=>?_⟩
  .simp only[Chk.holds,wz,arI];exact⟨z1,om,om⟩
  .simp only[wz,arI]at g3;rw[qj g3]at hz;rw[←hz];exact⟨rfl,wy _⟩
  .simp only[wz,arI]at g3;rw[qc (by rw[g3];exact qk)]at hz;exact⟨_,z00,rfl,rfl,hz.symm⟩
 simp only[wz,arI,zdf]at g2;rw[qc g2]at hz;refine⟨fun g3=>?_,fun g3=>?_⟩
 .simp only[wz,arI,zdt]at g3;rw[qj g3]at hz;refine z02 [vi (z5n x.n:Int)] (qb 115) (zvp x.n K hx8.n) rfl z01 fun K2 l2=>?_;rw[←hz];exact⟨rfl,l2⟩
 simp only[wz,arI,zdf]at g3;rw[qc g3]at hz;refine⟨fun g4=>?_,fun g4=>?_⟩
 .simp only[wz,arI,zdt]at g4;rw[qj g4]at hz;rw[←hz];exact⟨rfl,wy _⟩
 simp only[wz,arI,zdf]at g4;rw[qc g4]at hz;exact⟨_,z00,rfl,rfl,hz.symm⟩
theorem zxj:∀(l:List ItemR)(long:List Bool)(a k q:Nat)(x:ItemR)(b:Bool),(z0q a l long)[k]?=some q→l[k]?=some x→long[k]?=some b→(z0q a l long)[k+1]?=some (q+sizeR x b)
 |y::l,c::long,a,0,q,x,b,h,hx,hb=>by
  simp only[z0q,List.getElem?_cons_zero,qB]at h hx hb;subst h hx hb;simp only[z0q,List.getElem?_cons_succ];cases l<;>cases long<;>simp[z0q]
 |y::l,c::long,a,k+1,q,x,b,h,hx,hb=>by
  simp only[z0q,List.getElem?_cons_succ]at h hx hb⊢;exact zxj l long _ k q x b h hx hb
 | [],_,_,_,_,_,_,_,hx,_=>by simp at hx
 |_::_,[],_,_,_,_,_,_,_,hb=>by simp at hb
theorem z0o{E:List Value}{H:PH}{p:SV}{ss:List SV}{pend:List (SV×List SV)}(h:rowAt H (pOf (ev0 E p)) (ss.map (ev0 E)))(t:z0l E H pend):z0l E H ((p,ss)::pend):=fun x hx=>by
 rcases zmc.1 hx with rfl|hx
 .exact h
 .exact t x hx
abbrev asmI(r:Nat)(lv:Value)(mr:Nat)(es:Array MapEntry)(cl:Nat)(long:List Bool)(bv:Value)(places:List Int)(pv:Value)(code:List W32)(cv:Value):List Itm:=
 [bx r TA (z87 lv mr bv pv cv),.blk mr (.map es cl),orow 4 long bv,orow 3 places pv,orow 121 code cv]
section
variable {r mr:Nat}{lv bv pv cv:Value}{es:Array MapEntry}{cl:Nat}{long:List Bool}{places:List Int}{code:List W32}{S K:PH}{J:List Itm}
theorem z1b(h:Held S K (asmI r lv mr es cl long bv places pv code cv++J)){off:Nat}{vs:List Value}(hv:((z87 lv mr bv pv cv).drop off).take vs.length=vs):rowAt K (some ⟨r,off,none⟩) vs:=by
 have:=z1k h (List.mem_append_left _ (zms)) off vs.length;rwa[hv]at this
theorem zzp(h:Held S K (asmI r lv mr es cl long bv places pv code cv++J)):SlR K long bv:=(h.row (e:=4) (l:=long) (v:=bv) sM).slR h.sh
theorem zhp(h:Held S K (asmI r lv mr es cl long bv places pv code cv++J)):SlR K places pv:=(h.row (e:=3) (l:=places) (v:=pv) sM).slR h.sh
theorem Zfv(l:List ItemR)(h:Held S K (asmI r lv mr es cl long bv places pv code cv++J))(hl:SlR S l lv)(hll:long.length=l.length)(hpl:places.length=l.length)(hs:l.length≤65536):
  Tri zP 74 #[pAt r] K fun e K'=>e=.returned (.tuple #[])∧Held S K' (asmI r lv mr es cl long bv (plI ((z0q 0 l long).take l.length)) pv code cv++J):=by
 obtain⟨lb,lc,rfl⟩:=hl.sl;refine qr zmi [pAt r] ?_;refine⟨fun _=>by simp[Chk.holds,wz,arI],[.slice lb l.length lc],rfl,by simp only[wz,arI];exact z1b h rfl,?_⟩;simp only[cns];obtain⟨P,hP⟩:∃P,P=z0q 0 l long:=⟨_,rfl⟩;have hPl:P.length=l.length+1:=by rw[hP];exact zch l long 0 hll
 have hPle:∀q∈P,q≤4*l.length:=by
  intro q hq;rw[hP]at hq;have:=zlz l long 0 q hq;omega
 rw[←hP];have hP0:P[0]?=some 0:=by
  rw[hP];cases l with
  |nil=>cases long<;>rfl
  |cons y l=>cases long with
   |nil=>rfl
   |cons c long=>rfl
 refine⟨fun n vs K2=>∃k q:Nat,k+n=l.length∧vs=[nI q,nI k]∧P[k]?=some q∧Held S K2 (asmI r (.slice lb l.length lc) mr es cl long bv ((plI P).take k++places.drop k) pv code cv++J),⟨l.length,0,0,om,rfl,hP0,by simpa using h⟩,?_⟩;rintro n vs K2 _ ⟨k,q,hkn,rfl,hq,h2⟩;simp only[cns];refine⟨fun g=>?_,fun g=>?_⟩
 .simp only[wz,arI,zdt]at g;have hk:k<l.length:=om;obtain⟨x,hx⟩:∃x,l[k]?=some x:=⟨_,zge hk⟩;obtain⟨b,hb⟩:∃b,long[k]?=some b:=⟨_,zge om⟩;obtain⟨z,hz⟩:∃z,places[k]?=some z:=⟨_,zge om⟩;have hplI:(plI P).length=l.length+1:=by simp[plI,hPl]
  have hAl:((plI P).take k).length=k:=by rw[List.length_take];omega
  have hmid:((plI P).take k++places.drop k)[k]?=some z:=by
   rw[List.getElem?_append_right om,hAl,Nat.sub_self,List.getElem?_drop];exact hz
  have hdp:places.drop k=z::places.drop (k+1):=by rw[List.drop_eq_getElem_cons om,(zgi.1 hz).2]
  have htP:(plI P).take (k+1)=(plI P).take k++[(q:Int)]:=by
   rw[qZ];have:(plI P)[k]?=some (q:Int):=by simp[plI,hq]
   rw[this];rfl
  have hq4:=hPle q (zmg hq);have hsz:=Zf5 x b;have hps:=zhp h2;obtain⟨z1,_⟩:=hps.get hmid;obtain⟨pb,pc,hpv⟩:=hps.sl;have hlen:((plI P).take k++places.drop k).length=l.length:=by rw[zla,hAl,List.length_drop];omega
  refine⟨[pv],by rw[hpv];rfl,by simp only[wz,arI];exact z1b h2 rfl,fun _=>?_,?_⟩
  .simp only[Chk.holds,wz,arI,slLen];rw[hpv]at z1⊢;exact⟨z1,om,by simp only[hlen];omega⟩
  simp only[cns];have hp:=h2.perm (qA (l₁:=[_,_,_]) (l₂:=orow 121 code cv::J));refine z1a (i:=k) (a:=z) (a':=(q:Int)) (us:=[nI q]) (by simp only[wz,arI];rfl) hp hmid rfl (by simp only[wz,arI]) (by simp[oneC]) (z0e (by unfold InI;omega)) fun K3 h3=>?_;have e:((plI P).take k++places.drop k).set k (q:Int)=(plI P).take (k+1)++places.drop (k+1):=by
   rw[htP,hdp,zaa];have:=Zfo ((plI P).take k) z (q:Int) (places.drop (k+1));rw[hAl]at this;exact this
  rw[e]at h3;have h4:Held S K3 (asmI r (.slice lb l.length lc) mr es cl long bv ((plI P).take (k+1)++places.drop (k+1)) pv code cv++J):=h3.perm (qA (l₁:=[_,_,_]) (l₂:=orow 121 code cv::J)).symm;refine z02 [nI (sizeR x b)] (qb 111) (Zh2 l long _ bv r K3 k x b (z1b h4 rfl) (z1b h4 rfl) (hl.le h4.sh) (zzp h4) hx hb) rfl z01 fun K4 l4=>?_;simp only[cns];have w1:IntKind.i64.wrap ((q:Int)+(sizeR x b:Int))=((q+sizeR x b:Nat):Int):=by rw[w64 om om];omega
  have w2:IntKind.i64.wrap ((k:Int)+1)=((k+1:Nat):Int):=by rw[w64 om om];rfl
  refine⟨_,z00,n-1,om,k+1,q+sizeR x b,om,by simp only[wz,arI,w1,w2],?_,h4.le l4⟩;rw[hP]at hq⊢;exact zxj l long 0 k q x b hq hx hb
 .simp only[wz,arI,zdf]at g;have hk:k=l.length:=om;subst hk;rw[List.drop_of_length_le om,zan]at h2;refine⟨rfl,?_⟩;rw[show plI (P.take l.length)=(plI P).take l.length by simp[plI,List.map_take]];exact h2
def LabOk(l:List ItemR)(m:List (Int×Value)):Prop:=∀label:Int,getM m label=(findR l label).map fun k=>nI k
theorem uLabs:Tryz.prog.underlying 135=some (.map 3 3):=kr
theorem kIntQ:Tryz.prog.underlying 3=some (Key.kd Int):=kr
theorem zIntM:(Tryz.prog.info? 3).map (·.zero)=some (some (vi 0)):=kr
theorem zw9{l:List ItemR}{m:List (Int×Value)}(h:LabOk l m){label:Int}{k:Nat}(hf:findR l label=some k):(getM m label).getD (vi 0)=nI k:=by rw[h,hf];rfl
theorem zwe(h:Held S K (asmI r lv mr es cl long bv places pv code cv++J)){m:List (Int×Value)}(hm:EntsR es.toList cl m):MapR K (.map (some mr)) m:=⟨mr,es,cl,rfl,h.blk sM,hm⟩
theorem Zne(l:List ItemR)(m:List (Int×Value))(h:Held S K (asmI r lv mr es cl long bv (plI ((z0q 0 l long).take l.length)) pv code cv++J))(hl:SlR S l lv)(hm:EntsR es.toList cl m)(hlab:LabOk l m)(hll:long.length=l.length)(hs:l.length≤65536)(hn:∀x∈l,z1j x=true→(findR l x.label).isSome=true):
  Tri zP 75 #[pAt r] K fun e K'=>e=.returned (.bool (decide (growR l (z0q 0 l long) long≠long)))∧Held S K' (asmI r lv mr es cl (growR l (z0q 0 l long) long) bv (plI ((z0q 0 l long).take l.length)) pv code cv++J):=by
 obtain⟨lb,lc,rfl⟩:=hl.sl;obtain⟨P,hP⟩:∃P,P=z0q 0 l long:=⟨_,rfl⟩;have hPl:P.length=l.length+1:=by rw[hP];exact zch l long 0 hll
 have hPle:∀q∈P,q≤4*l.length:=by
  intro q hq;rw[hP]at hq;have:=zlz l long 0 q hq;omega
 rw[←hP]at h⊢;obtain⟨gr,hgr⟩:∃gr,gr=growR l P long:=⟨_,rfl⟩;have hgl:gr.length=l.length:=by rw[hgr];exact zyr hll
 rw[←hgr];obtain⟨Q,hQ⟩:∃Q,Q=plI (P.take l.length):=⟨_,rfl⟩;have hQl:Q.length=l.length:=by rw[hQ];simp[plI,hPl]
 have hQg:∀(j q:Nat),j<l.length→P[j]?=some q→Q[j]?=some (q:Int):=fun j q hj hq=>by
  rw[hQ,zem,List.getElem?_take,qj hj,hq];rfl
 rw[←hQ]at h⊢;refine qr zkp [pAt r] ?_;refine⟨fun _=>by simp[Chk.holds,wz,arI],[.slice lb l.length lc],rfl,by simp only[wz,arI];exact z1b h rfl,?_⟩;simp only[cns];refine⟨fun n vs K=>∃k:Nat,k+n=l.length∧vs=[.bool (decide (gr.take k≠long.take k)),nI k]∧Held S K (asmI r (.slice lb l.length lc) mr es cl (gr.take k++long.drop k) bv Q pv code cv++J),⟨l.length,0,om,by simp[wz,arI],by simpa using h⟩,?_⟩;rintro n vs K6 _ ⟨k,hkn,rfl,h6⟩;simp only[cns];refine⟨fun g2=>?_,fun g2=>?_⟩
 .simp only[wz,arI,zdt]at g2;have hk:k<l.length:=om;obtain⟨x,hx⟩:∃x,l[k]?=some x:=⟨_,zge hk⟩;obtain⟨bk,hbk⟩:∃b,long[k]?=some b:=⟨_,zge om⟩;have hgk:gr[k]?=some (bk||farR l P k x):=by rw[hgr];exact Zbw hx hbk
  obtain⟨y1,_,cs,y2,y3⟩:=(hl.le h6.sh).get hx;obtain⟨rfl,hx8⟩:=itemR_iff.1 y2;have w2:IntKind.i64.wrap ((k:Int)+1)=((k+1:Nat):Int):=by rw[w64 om om];rfl
  have hAl:(gr.take k).length=k:=by rw[List.length_take];omega
  have hdl:long.drop k=bk::long.drop (k+1):=by rw[List.drop_eq_getElem_cons om,(zgi.1 hbk).2]
  have htg:gr.take (k+1)=gr.take k++[bk||farR l P k x]:=by rw[qZ,hgk];rfl
  have htl:long.take (k+1)=long.take k++[bk]:=by rw[qZ,hbk];rfl
  have hmid:(gr.take k++long.drop k)[k]?=some bk:=by
   rw[List.getElem?_append_right om,hAl,Nat.sub_self,hdl];rfl
  have hmlen:(gr.take k++long.drop k).length=l.length:=by rw[zla,hAl,List.length_drop];omega
  have same:(bk||farR l P k x)=bk→gr.take (k+1)++long.drop (k+1)=gr.take k++long.drop k∧decide (gr.take (k+1)≠long.take (k+1))=decide (gr.take k≠long.take k):=fun e=>by
   rw[htg,htl,e,hdl];exact⟨sM,sM⟩
  have hls:=zzp h6;obtain⟨z1,_,zcs,z2,z3⟩:=hls.get hmid;obtain rfl:=csBK z2;obtain⟨bb,bc,hbv⟩:=hls.sl;have hps:=zhp h6;obtain⟨pb,pc,hpv⟩:=hps.sl;refine⟨fun vs K7=>vs=[.bool (decide (gr.take (k+1)≠long.take (k+1)))]∧Held S K7 (asmI r (.slice lb l.length lc) mr es cl (gr.take (k+1)++long.drop (k+1)) bv Q pv code cv++J),?_,fun _=>?_,itemV x,rfl,by simp only[wz,arI];exact y3,?_⟩
  .rintro vs K7 _ ⟨rfl,h7⟩;exact⟨_,z00,n-1,om,k+1,om,by simp only[wz,arI,w2],h7⟩
  .simp only[Chk.holds,wz,arI];exact⟨y1,om,om⟩
  simp only[cns];refine⟨fun vs K7=>vs=[.bool (decide (x.kind≠2)||bk)]∧K6=K7,?_,fun g3=>?_,fun g3=>?_⟩;rotate_left
  .simp only[wz,arI,ne_eq,zdt]at g3;exact⟨_,z00,by simp[wz,arI,g3],rfl⟩
  .simp only[wz,arI,ne_eq,zdf,Decidable.not_not]at g3;refine⟨[bv],by rw[hbv];rfl,by simp only[wz,arI];exact z1b h6 rfl,fun _=>?_,[.bool bk],rfl,by simp only[wz,arI];exact z3,_,z00,?_,rfl⟩
   .simp only[Chk.holds,wz,arI,slLen];rw[hbv]at z1⊢;exact⟨z1,om,by simp only[hmlen];omega⟩
   .simp[wz,arI,g3]
  rintro vs K7 _ ⟨rfl,rfl⟩;simp only[cns];refine⟨fun g3=>?_,fun g3=>?_⟩
  .simp only[wz,arI]at g3;have:(bk||farR l P k x)=bk:=by
    cases bk with
    |true=>rfl
    |false=>
     simp only[Bool.or_false,zdt]at g3;unfold farR;simp[g3]
   obtain⟨s1,s2⟩:=same this;exact⟨_,z00,by rw[s2];rfl,by rw[s1];exact h6⟩
  simp only[wz,arI,zof,zdf,ne_eq,Decidable.not_not]at g3;obtain⟨g3,rfl⟩:=g3;have hnm:z1j x=true:=by unfold z1j;simp[g3]
  obtain⟨j,hj⟩:=qG.1 (hn x (zmg hx) hnm);have hjl:=Zfz hj;obtain⟨q,hq⟩:∃q,P[j]?=some q:=⟨_,zge om⟩;obtain⟨p,hp⟩:∃p,P[k]?=some p:=⟨_,zge om⟩;obtain⟨q1,_,qcs,q2,q3⟩:=hps.get (hQg j q hjl hq);obtain⟨rfl,_⟩:=csIK q2;obtain⟨r1,_,rcs,r2,r3⟩:=hps.get (hQg k p hk hp);obtain⟨rfl,_⟩:=csIK r2;have hq4:=hPle q (zmg hq);have hp4:=hPle p (zmg hp);have hfar:farR l P k x=(decide ((q:Int)-p < -512)||decide (511<(q:Int)-p)):=by
   unfold farR toR;rw[qj hnm,hj];simp[g3,zgd,hq,hp]
  have wd:IntKind.i64.wrap ((q:Int)-(p:Int))=(q:Int)-p:=w64 om om;rw[hpv]at q1 q3 r1 r3;refine⟨[.slice pb Q.length pc],rfl,by simp only[wz,arI];rw[←hpv];exact z1b h6 rfl,[.map (some mr)],rfl,by simp only[wz,arI];exact z1b h6 rfl,[.slice pb Q.length pc],rfl,by simp only[wz,arI];rw[←hpv];exact z1b h6 rfl,fun _=>?_,[vi (p:Int)],rfl,by simp only[wz,arI,cns];exact r3,?_⟩
  .simp only[Chk.holds,wz,arI,cns];exact⟨r1,om,om⟩
  simp only[cns];refine z1o (α:=Int) (m:=m) (v:=.map (some mr)) x.label (vi 0) uLabs kIntQ zIntM kr kr (zwe h6 hm) (by rw[zw9 hlab hj];rfl) (z0o (by simp only[wz,arI];exact r3) (z0o (by simp only[wz,arI];rw[←hpv];exact z1b h6 rfl) (z0o (by simp only[wz,arI];rw[←hpv];exact z1b h6 rfl) z01))) ?_;rw[zw9 hlab hj];simp only[cns];refine⟨fun _=>?_,[vi (q:Int)],rfl,by simp only[wz,arI];exact q3,fun g4=>?_,fun g4=>?_⟩
  .simp only[Chk.holds,wz,arI];exact⟨q1,om,om⟩
  .simp only[wz,arI,wd]at g4;have hf:farR l P k x=true:=by rw[hfar];exact g4
   refine⟨[bv],by rw[hbv];rfl,by simp only[wz,arI];exact z1b h6 rfl,fun _=>?_,?_⟩
   .simp only[Chk.holds,wz,arI,slLen];rw[hbv]at z1⊢;exact⟨z1,om,by simp only[hmlen];omega⟩
   simp only[cns];have hpp:=h6.perm (qA (l₁:=[_,_]) (l₂:=orow 3 Q pv::orow 121 code cv::J));refine z1a (i:=k) (a:=false) (a':=true) (us:=[.bool true]) (by simp only[wz,arI];rfl) hpp hmid rfl (by simp only[wz,arI]) (by simp[oneC]) zpw fun K8 h8=>?_;have e:(gr.take k++long.drop k).set k true=gr.take (k+1)++long.drop (k+1):=by
    rw[htg,hdl,zaa,hf];have:=Zfo (gr.take k) false true (long.drop (k+1));rw[hAl]at this;exact this
   rw[e]at h8;refine⟨_,z00,?_,h8.perm (qA (l₁:=[_,_]) (l₂:=orow 3 Q pv::orow 121 code cv::J)).symm⟩;have:decide (gr.take (k+1)≠long.take (k+1))=true:=by
    rw[zdt,htg,htl,hf];intro hh;have:=(List.append_inj' hh rfl).2;simp at this
   rw[this];rfl
  .simp only[wz,arI,wd]at g4;have hf:farR l P k x=false:=by rw[hfar];exact g4
   obtain⟨s1,s2⟩:=same (by rw[hf];rfl);exact⟨_,z00,by rw[s2];rfl,by rw[s1];exact h6⟩
 .simp only[wz,arI,zdf]at g2;have hk:k=l.length:=om;subst hk;rw[ztl om,List.drop_of_length_le om,zan]at h6;rw[ztl (show gr.length≤l.length by omega),ztl (show long.length≤l.length by omega)];exact⟨rfl,h6⟩
end
theorem Zlv(n:Int):IntKind.i16.wrap n=(n+32768)%65536-32768:=by
 have:IntKind.i16.wrap n=if 32768≤n%65536 then n%65536-65536 else n%65536:=by
  simp only[IntKind.wrap,IntKind.bits,IntKind.signed];simp
 rw[this];split<;>omega
theorem Zny{x:ItemR}(h:mayR x=true):(x.kind=2→(24≤x.x.op∧x.x.op≤27)∧x.x.c=0)∧(x.kind=3→x.x.op=28∧x.x.b=0∧x.x.c=0):=by
 refine⟨fun hk=>?_,fun hk=>?_⟩
 .have hop:=Zqz h hk;refine⟨hop,?_⟩;unfold mayR at h;rw[qc om,qc om,qj hk]at h;simp only[zba,zdt]at h;obtain⟨w,hw⟩:=qG.1 h.1.1.1.1;unfold encR at hw;rw[qc om]at hw;split at hw
  .rename_i hf;unfold fitsR at hf;simp only[zba]at hf;have hc:=hf.1.1.2;have:(frmR x.x.op).c=false:=by
    obtain h1|h1|h1|h1:x.x.op=24∨x.x.op=25∨x.x.op=26∨x.x.op=27:=om
    all_goals rw[h1];rfl
   rw[this]at hc;simpa[regR]using hc
  .cases hw
 .unfold mayR at h;rw[qc om,qc om,qc om,qj hk]at h;simp only[zba,zdt]at h;have hop:x.x.op=28:=h.1.1.2;obtain⟨w,hw⟩:=qG.1 h.1.1.1;unfold encR at hw;rw[qc om]at hw;split at hw
  .rename_i hf;unfold fitsR at hf;simp only[zba]at hf;have hc:=hf.1.1.2;have hb:=hf.1.1.1.2;rw[hop]at hc hb;rw[show(frmR 28).c=false from rfl]at hc;rw[show(frmR 28).b=false from rfl]at hb;exact⟨hop,by simpa[regR]using hb,by simpa[regR]using hc⟩
  .cases hw
section
variable {r mr:Nat}{lv bv pv cv:Value}{es:Array MapEntry}{cl:Nat}{long:List Bool}{places:List Int}{code:List W32}{S K:PH}{J:List Itm}
theorem ze1(y:InsR)(h:Held S K (asmI r lv mr es cl long bv places pv code cv++J))(hy:InI5 y)(hc:code.length≤1000000):
  Tri zP 112 #[pAt r,.agg (insV y).toArray] K fun e K'=>∃S' cv',PH.le S S'∧e=.returned (.tuple #[])∧Held S' K' (asmI r lv mr es cl long bv places pv (code++[z3r y]) cv'++J):=by
 refine qr zo6 ([pAt r]++insV y) ?_;simp only[cns];refine z03 (qb 110) (h.gives (zk9 y S hy)) ?_;rintro e K1 ⟨rfl,h1,_⟩;refine⟨_,[.int .u32 ((encR y).getD 0),vi (encE (encR y))],rfl,rfl,rfl,z01,?_⟩;simp only[cns];have hp:=h1.perm (qA (l₁:=[_,_,_,_]) (l₂:=J));obtain⟨cb,cc,hcv⟩:=(hp.row (e:=121) (zms)).sl;refine⟨fun _=>by simp[Chk.holds,wz,arI],[cv],by rw[hcv];rfl,by simp only[wz,arI];exact z1b h1 rfl,?_⟩;simp only[cns];refine z1w (b:=4) (more:=[z3r y]) [.int .u32 ((encR y).getD 0)] uU32s Zp2 rfl dC dC hp kr (.cons (csW (Zp6 y)) .nil) z01 (fun w=>kr) (fun w=>kr)
  (by simp only[maxLen,List.length_singleton];omega) (by simp only[List.length_singleton];omega) fun w6 v6 S6 K6 l6 h6=>⟨z01,?_⟩
 simp only[cns];obtain⟨b6,c6,hv6⟩:=(h6.row (e:=121) (zms)).sl;refine z0b (off:=4) (vs:=[v6]) (by simp only[wz,arI];rfl) (h6.perm (qq _ _ _)) (by simp only[wz,arI]) (by intro u hu;rw[zsi.1 hu,hv6];rfl) sM fun K7 h7=>?_;exact⟨S6,v6,l6,rfl,h7.perm (List.Perm.cons _ (qA (l₁:=[_,_,_]) (l₂:=J)).symm)⟩
theorem Z1f(q n:Int)(k:Nat)(h:Held S K (asmI r lv mr es cl long bv places pv code cv++J))(hk:1≤k∧k≤4)(hq:InI q)(hc:code.length≤900000):
  Tri zP 114 #[pAt r,vi q,vi n,vi (k:Int)] K fun e K'=>∃S' cv',PH.le S S'∧e=.returned (.tuple #[])∧Held S' K' (asmI r lv mr es cl long bv places pv (code++(numR q n k).map z3r) cv'++J):=by
 refine qr zh1 [pAt r,vi q,vi n,vi (k:Int)] ?_;have z0:InI 0:=dC;have hi:∀m:Int,0≤m%65536∧m%65536<65536:=fun m=>om;have ht:=hi (shrR n (16*(k-1))+32768);have hin:InI5 (topR q n k):=⟨by unfold topR InI;simp,hq,z0,z0,by unfold topR InI;simp only[];omega⟩;have e1:IntKind.i64.wrap ((k:Int)-1)=((k-1:Nat):Int):=by rw[w64 om om];omega
 have e2:IntKind.i64.wrap (16*((k-1:Nat):Int))=((16*(k-1):Nat):Int):=by rw[w64 om om];omega
 have eraw:IntKind.i64.wrap (IntKind.i16.wrap (arI .shr .i64 n (arI .mul .i64 16 (arI .sub .i64 (k:Int) 1))))=(shrR n (16*(k-1))+32768)%65536-32768:=by
  rw[show arI .sub .i64 (k:Int) 1=((k-1:Nat):Int)from e1,show arI .mul .i64 16 ((k-1:Nat):Int)=((16*(k-1):Nat):Int)from e2,zw7 n _ om,Zlv];exact w64 om om
 refine⟨fun _=>?_,?_⟩
 .simp only[Chk.holds,wz,arI,e1,e2];omega
 have c1:Tri zP 112 #[pAt r,.agg (insV ⟨20,q,0,0,IntKind.i64.wrap (IntKind.i16.wrap (arI .shr .i64 n (arI .mul .i64 16 (arI .sub .i64 (k:Int) 1))))⟩).toArray] K fun e K'=>∃S' cv',PH.le S S'∧e=.returned (.tuple #[])∧Held S' K' (asmI r lv mr es cl long bv places pv (code++[z3r (topR q n k)]) cv'++J):=by
  rw[eraw];exact ze1 (topR q n k) h hin om
 refine z03 (qb 112) c1 ?_;rintro e K1 ⟨S1,cv1,l1,rfl,h1⟩;refine⟨_,[],rfl,rfl,rfl,z01,?_⟩;simp only[zan];refine⟨fun m vs K2=>∃(S2:PH)(cv2:Value)(done:List InsR),vs=[nI m]∧m≤3∧done.length+m≤4∧PH.le S S2∧Held S2 K2 (asmI r lv mr es cl long bv places pv (code++done.map z3r) cv2++J)∧done++restR q n m=numR q n k,⟨k-1,S1,cv1,[topR q n k],by simp only[wz,arI,e1],om,by simp;omega,l1,h1,rfl⟩,?_⟩;rintro m vs K2 _ ⟨S2,cv2,done,rfl,hm,hd,l2,h2,hdone⟩;simp only[cns];refine⟨fun g=>?_,fun g=>?_⟩
 .simp only[wz,arI,zdt]at g;obtain⟨j,rfl⟩:∃j,m=j+1:=⟨m-1,om⟩;obtain⟨x,hx⟩:∃x:InsR,x=⟨21,q,0,0,shrR n (16*j)%65536⟩:=⟨_,rfl⟩;have hxi:InI5 x:=by
   have:=hi (shrR n (16*j));rw[hx];exact⟨(by decide:InI 21),hq,z0,z0,by unfold InI;simp only[];omega⟩
  have f0:IntKind.i64.wrap (((j+1:Nat):Int)-1)=(j:Int):=by rw[w64 om om];omega
  have f1:IntKind.i64.wrap (16*(j:Int))=((16*j:Nat):Int):=by rw[w64 om om];omega
  have fraw:arI .and .i64 (arI .shr .i64 n (arI .mul .i64 16 (arI .sub .i64 ((j+1:Nat):Int) 1))) 65535=shrR n (16*j)%65536:=by
   rw[show arI .sub .i64 ((j+1:Nat):Int) 1=(j:Int)from f0,show arI .mul .i64 16 (j:Int)=((16*j:Nat):Int)from f1,zw7 n _ om,Zqc]
  refine⟨fun _=>?_,?_⟩
  .simp only[Chk.holds,wz,arI,f0,f1];omega
  have c2:Tri zP 112 #[pAt r,.agg (insV ⟨21,q,0,0,arI .and .i64 (arI .shr .i64 n (arI .mul .i64 16 (arI .sub .i64 ((j+1:Nat):Int) 1))) 65535⟩).toArray] K2 fun e K'=>∃S' cv',PH.le S2 S'∧e=.returned (.tuple #[])∧Held S' K' (asmI r lv mr es cl long bv places pv (code++done.map z3r++[z3r x]) cv'++J):=by
   rw[fraw,←show x=_ from hx];exact ze1 x h2 hxi (by rw[zla,zlm];omega)
  refine z03 (qb 112) c2 ?_;rintro e K3 ⟨S3,cv3,l3,rfl,h3⟩;refine⟨_,[],rfl,rfl,rfl,z01,?_⟩;simp only[zan];refine⟨_,z00,j,om,S3,cv3,done++[x],by simp only[wz,arI,f0],om,by rw[zla,List.length_singleton];omega,wx l2 l3,?_,?_⟩
  .rw[List.map_append,←zaa];exact h3
  .rw[←hdone,zaa,hx];rfl
 .simp only[wz,arI,zdf]at g;have hm0:m=0:=om;subst hm0;simp only[restR,zan]at hdone;rw[hdone]at h2;exact⟨S2,cv2,l2,rfl,h2⟩
theorem Zj3(l:List ItemR)(m:List (Int×Value))(i:Nat)(x:ItemR)(b:Bool)(h:Held S K (asmI r lv mr es cl long bv (plI ((z0q 0 l long).take l.length)) pv code cv++J))(hl:SlR S l lv)(hm:EntsR es.toList cl m)(hlab:LabOk l m)(hll:long.length=l.length)(hs:l.length≤65536)(hn:∀x∈l,z1j x=true→(findR l x.label).isSome=true)(hmay:mayR x=true)(hx:l[i]?=some x)(hb:long[i]?=some b)(hcl:code.length≤800000):
  Tri zP 76 #[pAt r,nI i] K fun e K'=>∃S' cv',PH.le S S'∧e=.returned (.tuple #[])∧Held S' K' (asmI r lv mr es cl long bv (plI ((z0q 0 l long).take l.length)) pv (code++(zb1 x b (((z0q 0 l long).getD i 0:Nat):Int) (toR l (z0q 0 l long) x)).map z3r) cv'++J):=by
 obtain⟨lb,lc,rfl⟩:=hl.sl;obtain⟨P,hP⟩:∃P,P=z0q 0 l long:=⟨_,rfl⟩;have hPl:P.length=l.length+1:=by rw[hP];exact zch l long 0 hll
 have hPle:∀q∈P,q≤4*l.length:=by
  intro q hq;rw[hP]at hq;have:=zlz l long 0 q hq;omega
 rw[←hP]at h⊢;obtain⟨Q,hQ⟩:∃Q,Q=plI (P.take l.length):=⟨_,rfl⟩;have hQl:Q.length=l.length:=by rw[hQ];simp[plI,hPl]
 have hQg:∀(j q:Nat),j<l.length→P[j]?=some q→Q[j]?=some (q:Int):=fun j q hj hq=>by
  rw[hQ,zem,List.getElem?_take,qj hj,hq];rfl
 rw[←hQ]at h⊢;have hil:=(zgi.1 hx).1;obtain⟨y1,_,cs,y2,y3⟩:=(hl.le h.sh).get hx;obtain⟨rfl,hx8⟩:=itemR_iff.1 y2;obtain⟨p,hp⟩:∃p,P[i]?=some p:=⟨_,zge om⟩;have hpD:((P.getD i 0:Nat):Int)=(p:Int):=by rw[zgd,hp];rfl
 have hp4:=hPle p (zmg hp);have hto:=Zk6 hPle hs x;have htq:z1j x=true→∃j q:Nat,findR l x.label=some j∧j<l.length∧P[j]?=some q∧toR l P x=(q:Int)∧q≤4*l.length:=fun hnm=>by
  obtain⟨j,hj⟩:=qG.1 (hn x (zmg hx) hnm);have hjl:=Zfz hj;obtain⟨q,hq⟩:∃q,P[j]?=some q:=⟨_,zge om⟩;refine⟨j,q,hj,hjl,hq,?_,hPle q (zmg hq)⟩;unfold toR;rw[qj hnm,hj];simp[zgd,hq]
 rw[hpD];obtain⟨to,hto'⟩:∃to,toR l P x=to:=⟨_,rfl⟩;rw[hto']at hto htq⊢;have z0:InI 0:=dC;obtain⟨bare2,bare3⟩:=Zny hmay;refine qr zj5 [pAt r,nI i] ?_;refine⟨fun _=>by simp[Chk.holds,wz,arI],[.slice lb l.length lc],rfl,by simp only[wz,arI];exact z1b h rfl,fun _=>?_,itemV x,rfl,by simp only[wz,arI];exact y3,?_⟩
 .simp only[Chk.holds,wz,arI];exact⟨y1,om,om⟩
 simp only[cns];have hps:=zhp h;obtain⟨pb,pc,hpv⟩:=hps.sl;obtain⟨r1,_,rcs,r2,r3⟩:=hps.get (hQg i p hil hp);obtain⟨rfl,_⟩:=csIK r2;refine⟨fun vs K2=>vs=[vi (if z1j x=true then to-(p:Int)else 0)]∧K=K2,?_,?_⟩;rotate_left
 .refine⟨fun g=>?_,fun g=>?_⟩
  .simp only[wz,arI]at g;have hnm:z1j x=true:=g;obtain⟨j,q,hj,hjl,hq,htoq,hq4⟩:=htq hnm;obtain⟨q1,_,qcs,q2,q3⟩:=hps.get (hQg j q hjl hq);obtain⟨rfl,_⟩:=csIK q2;rw[hpv]at q1 q3 r1 r3;have wd:IntKind.i64.wrap ((q:Int)-(p:Int))=(q:Int)-p:=w64 om om;refine⟨[.slice pb Q.length pc],rfl,by simp only[wz,arI];rw[←hpv];exact z1b h rfl,[.map (some mr)],rfl,by simp only[wz,arI];exact z1b h rfl,[.slice pb Q.length pc],rfl,by simp only[wz,arI];rw[←hpv];exact z1b h rfl,fun _=>?_,[vi (p:Int)],rfl,by simp only[wz,arI,cns];exact r3,?_⟩
   .simp only[Chk.holds,wz,arI,cns];exact⟨r1,om,om⟩
   simp only[cns];refine z1o (α:=Int) (m:=m) (v:=.map (some mr)) x.label (vi 0) uLabs kIntQ zIntM kr kr (zwe h hm) (by rw[zw9 hlab hj];rfl) (z0o (by simp only[wz,arI];exact r3) (z0o (by simp only[wz,arI];rw[←hpv];exact z1b h rfl) (z0o (by simp only[wz,arI];rw[←hpv];exact z1b h rfl) z01))) ?_;rw[zw9 hlab hj];simp only[cns];refine⟨fun _=>?_,[vi (q:Int)],rfl,by simp only[wz,arI];exact q3,_,z00,?_,rfl⟩
   .simp only[Chk.holds,wz,arI];exact⟨q1,om,om⟩
   .rw[qj hnm,htoq];simp only[wz,arI,wd]
  .simp only[wz,arI]at g;have hnm:z1j x=false:=g;exact⟨_,z00,by rw[qc (by rw[hnm];exact qk)];rfl,rfl⟩
 rintro vs K2 _ ⟨rfl,rfl⟩;simp only[cns];have done0:∀{S':PH} {cv':Value} {K':PH} {I:List InsR} {c:List W32},PH.le S S'→Held S' K' (asmI r (.slice lb l.length lc) mr es cl long bv Q pv c cv'++J)→c=code++I.map z3r→∃S' cv',PH.le S S'∧Ending.returned (.tuple #[])=.returned (.tuple #[])∧Held S' K' (asmI r (.slice lb l.length lc) mr es cl long bv Q pv (code++I.map z3r) cv'++J):=fun l h e=>⟨_,_,l,rfl,by rw[←e];exact h⟩;generalize hI:zb1 x b (p:Int) to=I;unfold zb1 at hI;refine⟨fun g=>?_,fun g=>?_⟩
 .simp only[wz,arI,zdt]at g;rw[qj g]at hI;refine z03 (qb 112) (ze1 x.x h hx8.x om) ?_;rintro e K3 ⟨S3,cv3,l3,rfl,h3⟩;exact⟨_,[],rfl,rfl,rfl,z01,done0 l3 h3 (by rw[←hI];rfl)⟩
 simp only[wz,arI,zdf]at g;rw[qc g]at hI;refine⟨fun g2=>?_,fun g2=>?_⟩
 .simp only[wz,arI,zdt]at g2;rw[qj g2]at hI;obtain⟨hop,hc0⟩:=bare2 g2;have hnm:z1j x=true:=by unfold z1j;simp[g2]
  rw[qj hnm];have w1:IntKind.i64.wrap (to-(p:Int)-1)=to-p-1:=w64 om om;have hls:=zzp h;obtain⟨bb,bc,hbv⟩:=hls.sl;obtain⟨z1,_,zcs,z2,z3⟩:=hls.get hb;obtain rfl:=csBK z2;refine⟨[bv],by rw[hbv];rfl,by simp only[wz,arI];exact z1b h rfl,fun _=>?_,[.bool b],rfl,by simp only[wz,arI];exact z3,?_⟩
  .simp only[Chk.holds,wz,arI,slLen];rw[hbv]at z1⊢;exact⟨z1,om,by simp only[hll];omega⟩
  simp only[cns];refine⟨fun g3=>?_,fun g3=>?_⟩
  .simp only[wz,arI]at g3;rw[qj g3]at hI;refine z03 (qb 113) (h.gives (Z3t x.x.op S)) ?_;rintro e K3 ⟨rfl,h3,_⟩;refine⟨_,[vi (zf5 x.x.op)],rfl,rfl,rfl,z01,?_⟩;simp only[cns];refine z03 (qb 112) (ze1 ⟨zf5 x.x.op,x.x.a,x.x.b,0,2⟩ h3 ⟨Znv,hx8.x.a,hx8.x.b,z0,(by decide:InI 2)⟩ om) ?_;rintro e K4 ⟨S4,cv4,l4,rfl,h4⟩;refine⟨_,[],rfl,rfl,rfl,z01,?_⟩;simp only[zan];have c2:Tri zP 112 #[pAt r,.agg (insV ⟨28,0,0,0,arI .sub .i64 (to-(p:Int)) 1⟩).toArray] K4 fun e K'=>∃S' cv',PH.le S4 S'∧e=.returned (.tuple #[])∧Held S' K' (asmI r (.slice lb l.length lc) mr es cl long bv Q pv (code++[z3r ⟨zf5 x.x.op,x.x.a,x.x.b,0,2⟩]++[z3r ⟨28,0,0,0,to-(p:Int)-1⟩]) cv'++J):=by
    rw[show arI .sub .i64 (to-(p:Int)) 1=to-p-1 from w1];exact ze1 ⟨28,0,0,0,to-(p:Int)-1⟩ h4 ⟨(by decide:InI 28),z0,z0,z0,by unfold InI;simp only[];omega⟩ (by rw[zla,List.length_singleton];omega)
   refine z03 (qb 112) c2 ?_;rintro e K5 ⟨S5,cv5,l5,rfl,h5⟩;exact⟨_,[],rfl,rfl,rfl,z01,done0 (wx l4 l5) h5 (by rw[←hI,zaa];rfl)⟩
  .simp only[wz,arI]at g3;rw[qc (by rw[g3];exact qk)]at hI;refine z03 (qb 112) (ze1 ⟨x.x.op,x.x.a,x.x.b,x.x.c,to-(p:Int)⟩ h ⟨hx8.x.op,hx8.x.a,hx8.x.b,hx8.x.c,by unfold InI;simp only[];omega⟩ om) ?_;rintro e K3 ⟨S3,cv3,l3,rfl,h3⟩;exact⟨_,[],rfl,rfl,rfl,z01,done0 l3 h3 (by rw[←hI,hc0];rfl)⟩
 simp only[wz,arI,zdf]at g2;rw[qc g2]at hI;refine⟨fun g3=>?_,fun g3=>?_⟩
 .simp only[wz,arI,zdt]at g3;rw[qj g3]at hI;obtain⟨ho,hb0,hc0⟩:=bare3 g3;have hnm:z1j x=true:=by unfold z1j;simp[g3]
  rw[qj hnm];refine z03 (qb 112) (ze1 ⟨x.x.op,x.x.a,x.x.b,x.x.c,to-(p:Int)⟩ h ⟨hx8.x.op,hx8.x.a,hx8.x.b,hx8.x.c,by unfold InI;simp only[];omega⟩ om) ?_;rintro e K3 ⟨S3,cv3,l3,rfl,h3⟩;exact⟨_,[],rfl,rfl,rfl,z01,done0 l3 h3 (by rw[←hI,ho,hb0,hc0];rfl)⟩
 simp only[wz,arI,zdf]at g3;rw[qc g3]at hI;refine⟨fun g4=>?_,fun g4=>?_⟩
 .simp only[wz,arI,zdt]at g4;rw[qj g4]at hI;refine z03 (qb 115) (h.gives (zvp x.n S hx8.n)) ?_;rintro e K3 ⟨rfl,h3,_⟩;refine⟨_,[vi (z5n x.n:Int)],rfl,rfl,rfl,z01,?_⟩;simp only[cns];refine z03 (qb 114) (Z1f x.x.a x.n (z5n x.n) h3 (zv8 x.n) hx8.x.a om) ?_;rintro e K4 ⟨S4,cv4,l4,rfl,h4⟩;exact⟨_,[],rfl,rfl,rfl,z01,done0 l4 h4 (by rw[←hI])⟩
 simp only[wz,arI,zdf]at g4;rw[qc g4]at hI;refine⟨fun g5=>?_,fun g5=>?_⟩
 .simp only[wz,arI,zdt]at g5;rw[qj g5]at hI;have hnm:z1j x=true:=by unfold z1j;simp[g5]
  rw[qj hnm];rw[hpv]at r1 r3;have w1:IntKind.i64.wrap (to-(p:Int)+(p:Int))=to:=by rw[w64 om om];omega
  refine⟨[.slice pb Q.length pc],rfl,by simp only[wz,arI];rw[←hpv];exact z1b h rfl,fun _=>?_,[vi (p:Int)],rfl,by simp only[wz,arI,cns];exact r3,?_⟩
  .simp only[Chk.holds,wz,arI,cns];exact⟨r1,om,om⟩
  simp only[cns];have c2:Tri zP 114 #[pAt r,vi x.x.a,vi (arI .add .i64 (to-(p:Int)) (p:Int)),vi 2] K fun e K'=>∃S' cv',PH.le S S'∧e=.returned (.tuple #[])∧Held S' K' (asmI r (.slice lb l.length lc) mr es cl long bv Q pv (code++(numR x.x.a to 2).map z3r) cv'++J):=by
   rw[show arI .add .i64 (to-(p:Int)) (p:Int)=to from w1];exact Z1f x.x.a to 2 h om hx8.x.a om
  refine z03 (qb 114) c2 ?_;rintro e K4 ⟨S4,cv4,l4,rfl,h4⟩;exact⟨_,[],rfl,rfl,rfl,z01,done0 l4 h4 (by rw[←hI])⟩
 simp only[wz,arI,zdf]at g5;rw[qc g5]at hI;exact done0 (wy _) h (by rw[←hI];simp)
end
theorem Z5v(seen:List ItemR)(x:ItemR)(label:Int):findR (seen++[x]) label=(findR seen label).or (if isLab label x=true then some seen.length else none):=by
 unfold findR;rw[List.findIdx?_append];cases h:seen.findIdx? (isLab label)with
 |some k=>simp
 |none=>
  simp only[Option.none_or,List.findIdx?_singleton];split<;>simp
theorem Zq6:LabOk [] []:=fun _=>rfl
theorem Zm5{l:List ItemR}{m:List (Int×Value)}{x:ItemR}(h:LabOk l m)(hk:x.kind≠1):LabOk (l++[x]) m:=fun label=>by
 rw[Z5v,h label];have:isLab label x=false:=by unfold isLab;simp[hk]
 rw[this];simp
theorem Zpd{l:List ItemR}{m:List (Int×Value)}{x:ItemR}(h:LabOk l m)(hk:x.kind=1)(hn:findR l x.label=none):LabOk (l++[x]) (putM m x.label (nI l.length)):=fun label=>by
 rw[Z5v,zdu,h label];by_cases e:label=x.label
 .subst e;rw[qj rfl,hn];have:isLab x.label x=true:=by unfold isLab;simp[hk]
  rw[this];rfl
 .rw[qc e];have:isLab label x=false:=by unfold isLab;simp[hk];exact fun h=>e h.symm
  rw[this];simp
theorem zvs(l:List ItemR)(lv:Value)(S:PH)(hl:SlR S l lv):
  Tri zP 27 #[lv] S fun e K'=>∃v1 v2,e=.returned (.tuple #[v1,v2,vi (errA (asmR l))])∧SlR K' (codeA (asmR l)) v1∧SlR K' (plI (Zg2 (asmR l))) v2∧PH.le S K':=by
 obtain⟨lb,lc,rfl⟩:=hl.sl;have hlm:=hl.max;have hmx:maxLen=9223372036854775807:=rfl;have hnil:∀{α:Type} [Enc α] (K:PH),SlR (α:=α) K [] (.slice none 0 0):=fun K=>SlR.mk_iff.2 ⟨by simp[maxLen],.inl ⟨rfl,rfl⟩⟩;have err:∀{K:PH} {e:AsmE} {q:Int},asmR l=.error e→q=errA (.error e)→PH.le S K→∃v1 v2,Ending.returned (.tuple #[.slice none 0 0,.slice none 0 0,vi q])=.returned (.tuple #[v1,v2,vi (errA (asmR l))])∧SlR K (codeA (asmR l)) v1∧SlR K (plI (Zg2 (asmR l))) v2∧PH.le S K:=fun h hq hK=>by
  rw[h,hq];exact⟨_,_,rfl,hnil _,hnil _,hK⟩
 refine qr zyc [.slice lb l.length lc] ?_;refine⟨fun g=>?_,fun g=>?_⟩
 .simp only[wz,arI,zdt]at g;obtain⟨v1,v2,he,e1,e2,e3⟩:=err (K:=S) (e:=.many) (q:=213) (by unfold asmR;rw[qj om]) rfl (wy _);exact⟨v1,v2,he,e1,e2,e3⟩
 simp only[wz,arI,zdf]at g;have hs:l.length≤65536:=om;have hA1:asmR l=if badR [] l=1 then .error .form
   else if badR [] l=2 then .error .twice
   else if l.any (fun x=>z1j x&&(findR l x.label).isNone)=true then .error .none_
   else .ok (codeR l (longR l) (z0q 0 l (longR l)),(z0q 0 l (longR l)).take l.length):=by
  unfold asmR;rw[qc om]
 have h0:Held S S []:=Held.nil (wy _);have fin:∀{K:PH} {r mr:Nat} {bv pv:Value} {I:List Itm},Held S K (bx r TA (z87 (.slice lb l.length lc) mr bv pv (.slice none 0 0))::I)→I.Perm [.blk mr (.map #[] 0),orow 4 (List.replicate l.length false) bv,orow 3 (List.replicate l.length (0:Int)) pv]→Held S K (asmI r (.slice lb l.length lc) mr #[] 0 (List.replicate l.length false) bv (List.replicate l.length (0:Int)) pv [] (.slice none 0 0)++[]):=fun h p=>by
  have h1:=(h.perm (List.Perm.cons _ p)).empty (α:=W32) 121;exact h1.perm (List.perm_append_comm (l₁:=[_]) (l₂:=[_,_,_,_]))
 refine⟨fun vs K=>∃(r mr:Nat)(bv pv:Value),vs=[pAt r]∧Held S K (asmI r (.slice lb l.length lc) mr #[] 0 (List.replicate l.length false) bv (List.replicate l.length (0:Int)) pv [] (.slice none 0 0)++[]),?_,?_⟩;rotate_left
 .simp only[cns];refine⟨?_,?_,?_⟩
  .refine z21 fun mr hmr=>?_;have h1:=h0.new hmr (.map #[] 0);simp only[cns];refine⟨?_,?_⟩
   .refine z1v (α:=Bool) (b:=1) (n:=l.length) false rfl (fun S=>zf8) zds zab kr kr om om h1 fun bv Kb2 h2 _=>?_;simp only[cns];refine z1v (α:=Int) (b:=8) (n:=l.length) 0 rfl (fun S=>z7n) z0j zb4 kr kr om om h2 fun pv Ki3 h3 _=>?_;simp only[cns];refine z1d (vs:=z87 (.slice lb l.length lc) mr bv pv (.slice none 0 0)) h3 kr fun r K4 _ h4=>?_;exact⟨_,z00,r,mr,bv,pv,rfl,fin h4 (by exact(List.reverse_perm [_,_,_]).symm)⟩
   .refine z1v (α:=Int) (b:=8) (n:=l.length) 0 rfl (fun S=>z7n) z0j zb4 kr kr om om h1 fun pv Ki2 h2 _=>?_;simp only[cns];refine z1v (α:=Bool) (b:=1) (n:=l.length) false rfl (fun S=>zf8) zds zab kr kr om om h2 fun bv Kb3 h3 _=>?_;simp only[cns];refine z1d (vs:=z87 (.slice lb l.length lc) mr bv pv (.slice none 0 0)) h3 kr fun r K4 _ h4=>?_;exact⟨_,z00,r,mr,bv,pv,rfl,fin h4 (by exact(List.perm_append_comm (l₁:=[_,_]) (l₂:=[_])))⟩
  .refine z1v (α:=Bool) (b:=1) (n:=l.length) false rfl (fun S=>zf8) zds zab kr kr om om h0 fun bv Kb1 h1 _=>?_;simp only[cns];refine⟨?_,?_⟩
   .refine z21 fun mr hmr=>?_;have h2:=h1.new hmr (.map #[] 0);simp only[cns];refine z1v (α:=Int) (b:=8) (n:=l.length) 0 rfl (fun S=>z7n) z0j zb4 kr kr om om h2 fun pv Ki3 h3 _=>?_;simp only[cns];refine z1d (vs:=z87 (.slice lb l.length lc) mr bv pv (.slice none 0 0)) h3 kr fun r K4 _ h4=>?_;exact⟨_,z00,r,mr,bv,pv,rfl,fin h4 (by exact(List.perm_append_comm (l₁:=[_]) (l₂:=[_,_])))⟩
   .refine z1v (α:=Int) (b:=8) (n:=l.length) 0 rfl (fun S=>z7n) z0j zb4 kr kr om om h1 fun pv Ki2 h2 _=>?_;simp only[cns];refine z21 fun mr hmr=>?_;have h3:=h2.new hmr (.map #[] 0);simp only[cns];refine z1d (vs:=z87 (.slice lb l.length lc) mr bv pv (.slice none 0 0)) h3 kr fun r K4 _ h4=>?_;exact⟨_,z00,r,mr,bv,pv,rfl,fin h4 (by exact List.Perm.cons _ (qq _ _ _))⟩
  .refine z1v (α:=Int) (b:=8) (n:=l.length) 0 rfl (fun S=>z7n) z0j zb4 kr kr om om h0 fun pv Ki1 h1 _=>?_;simp only[cns];refine⟨?_,?_⟩
   .refine z21 fun mr hmr=>?_;have h2:=h1.new hmr (.map #[] 0);simp only[cns];refine z1v (α:=Bool) (b:=1) (n:=l.length) false rfl (fun S=>zf8) zds zab kr kr om om h2 fun bv Kb3 h3 _=>?_;simp only[cns];refine z1d (vs:=z87 (.slice lb l.length lc) mr bv pv (.slice none 0 0)) h3 kr fun r K4 _ h4=>?_;exact⟨_,z00,r,mr,bv,pv,rfl,fin h4 (by exact qq _ _ _)⟩
   .refine z1v (α:=Bool) (b:=1) (n:=l.length) false rfl (fun S=>zf8) zds zab kr kr om om h1 fun bv Kb2 h2 _=>?_;simp only[cns];refine z21 fun mr hmr=>?_;have h3:=h2.new hmr (.map #[] 0);simp only[cns];refine z1d (vs:=z87 (.slice lb l.length lc) mr bv pv (.slice none 0 0)) h3 kr fun r K4 _ h4=>?_;exact⟨_,z00,r,mr,bv,pv,rfl,fin h4 (by exact List.Perm.refl _)⟩
 rintro vs K0 _ ⟨r,mr,bv,pv,rfl,hK0⟩;simp only[cns];refine⟨fun n vs K=>∃(k:Nat) (es:Array MapEntry) (cl:Nat) (m:List (Int×Value)),k+n=l.length∧vs=[.slice none 0 0,.slice none 0 0,vi 0,nI k]∧Held S K (asmI r (.slice lb l.length lc) mr es cl (List.replicate l.length false) bv (List.replicate l.length (0:Int)) pv [] (.slice none 0 0)++[])∧EntsR es.toList cl m∧LabOk (l.take k) m∧badR (l.take k) (l.drop k)=badR [] l∧∀x∈l.take k,mayR x=true,⟨l.length,0,#[],0,[],om,rfl,hK0,EntsR.empty,Zq6,sM,sM⟩,?_⟩;rintro n vs K _ ⟨k,es,cl,m,hkn,rfl,hh,hm,hlab,hbad,hmay⟩;simp only[cns];refine⟨fun g2=>?_,fun g2=>?_⟩
 .simp only[wz,arI,zdt]at g2;have hk:k<l.length:=om;obtain⟨x,hx⟩:∃x,l[k]?=some x:=⟨_,zge hk⟩;have hdl:l.drop k=x::l.drop (k+1):=by rw[List.drop_eq_getElem_cons hk,(zgi.1 hx).2]
  have htl:l.take (k+1)=l.take k++[x]:=by rw[qZ,hx];rfl
  have htk:(l.take k).length=k:=by rw[List.length_take];omega
  rw[hdl,Znk]at hbad;obtain⟨y1,_,cs,y2,y3⟩:=(hl.le hh.sh).get hx;obtain⟨rfl,hx8⟩:=itemR_iff.1 y2;have w2:IntKind.i64.wrap ((k:Int)+1)=((k+1:Nat):Int):=by rw[w64 om om];rfl
  have hmayT:mayR x=true→∀y∈l.take (k+1),mayR y=true:=fun hmx y hy=>by
   rw[htl]at hy;rcases zma.1 hy with hy|hy
   .exact hmay y hy
   .rw[zsi.1 hy];exact hmx
  refine⟨fun vs K3=>∃(es:Array MapEntry) (cl:Nat) (m:List (Int×Value)),vs=[]∧Held S K3 (asmI r (.slice lb l.length lc) mr es cl (List.replicate l.length false) bv (List.replicate l.length (0:Int)) pv [] (.slice none 0 0)++[])∧EntsR es.toList cl m∧LabOk (l.take (k+1)) m∧badR (l.take (k+1)) (l.drop (k+1))=badR [] l∧mayR x=true,?_,fun _=>?_,itemV x,rfl,by simp only[wz,arI];exact y3,?_⟩
  .rintro vs K3 _ ⟨es3,cl3,m3,rfl,h3,hm3,hlab3,hbad3,hmx3⟩;simp only[zan];exact⟨_,z00,n-1,om,k+1,es3,cl3,m3,om,by simp only[wz,arI,w2],h3,hm3,hlab3,hbad3,hmayT hmx3⟩
  .simp only[Chk.holds,wz,arI];exact⟨y1,om,om⟩
  simp only[cns];refine z03 (qb 73) (hh.gives (Zlo x S hx8)) ?_;rintro e K2 ⟨rfl,h2,_⟩;refine⟨_,[.bool (mayR x)],rfl,rfl,rfl,z01,?_⟩;simp only[cns];refine⟨fun g3=>?_,fun g3=>?_⟩
  .simp only[wz,arI,qy]at g3;rw[qj g3]at hbad;obtain⟨v1,v2,he,e1,e2,e3⟩:=err (K:=K2) (e:=.form) (q:=210) (by rw[hA1,qj hbad.symm]) rfl h2.sh;exact⟨v1,v2,he,e1,e2,e3⟩
  simp only[wz,arI,qR]at g3;rw[qc (by rw[g3];simp)]at hbad;refine⟨fun g4=>?_,fun g4=>?_⟩
  .simp only[wz,arI,zdt]at g4;refine⟨fun _=>by simp[Chk.holds,wz,arI],[.map (some mr)],rfl,by simp only[wz,arI];exact z1b h2 rfl,?_⟩;simp only[cns];have hgs:(getM m x.label).isSome=(findR (l.take k) x.label).isSome:=by rw[hlab x.label];cases findR (l.take k) x.label<;>rfl
   refine z7c (α:=Int) (m:=m) (v:=.map (some mr)) x.label (vi 0) uLabs kIntQ zIntM kr kr (zwe h2 hm) (by
    rw[hlab x.label];cases findR (l.take k) x.label<;>rfl) z01 ?_
   simp only[cns];refine⟨fun g5=>?_,fun g5=>?_⟩
   .simp only[wz,arI,hgs]at g5;rw[qj ⟨g4,g5⟩]at hbad;obtain⟨v1,v2,he,e1,e2,e3⟩:=err (K:=K2) (e:=.twice) (q:=211) (by rw[hA1,qc om,qj hbad.symm]) rfl h2.sh;exact⟨v1,v2,he,e1,e2,e3⟩
   .simp only[wz,arI,hgs]at g5;rw[qc (by rw[g5];simp)]at hbad;have hfn:findR (l.take k) x.label=none:=by
     cases hf:findR (l.take k) x.label with
     |none=>rfl
     |some j=>rw[hf]at g5;cases g5
    refine⟨[.map (some mr)],rfl,by simp only[wz,arI];exact z1b h2 rfl,?_⟩;simp only[cns];have hp:=h2.perm (qq (Itm.blk mr (.map es cl)) _ _);refine z1s (α:=Int) (m:=m) (r:=mr) (es:=es) (clock:=cl) x.label (nI k) uLabs kIntQ kr kr kr (hp.blk (zms)) hm fun es3 cl3 he3=>?_;have h3:=(hp.put (.map es3 cl3)).perm (qq _ _ _);have hlab3:=Zpd hlab g4 hfn;rw[htk,←htl]at hlab3;exact⟨_,z00,es3,cl3,_,rfl,h3,he3,hlab3,by rw[htl];exact hbad,g3⟩
  .simp only[wz,arI,zdf]at g4;rw[qc (fun h=>g4 h.1)]at hbad;exact⟨_,z00,es,cl,m,rfl,h2,hm,by rw[htl];exact Zm5 hlab g4,by rw[htl];exact hbad,g3⟩
 simp only[wz,arI,zdf]at g2;have hk:k=l.length:=om;subst hk;rw[ztl (we _)]at hbad hmay hlab;rw[List.drop_of_length_le (we _)]at hbad;have hb0:badR [] l=0:=by rw[←hbad];rfl
 have hA2:asmR l=if l.any (fun x=>z1j x&&(findR l x.label).isNone)=true then .error .none_
   else .ok (codeR l (longR l) (z0q 0 l (longR l)),(z0q 0 l (longR l)).take l.length):=by
  rw[hA1,hb0,qc om,qc om]
 refine⟨fun n vs K=>∃k:Nat,k+n=l.length∧vs=[.slice none 0 0,.slice none 0 0,vi 0,nI k]∧Held S K (asmI r (.slice lb l.length lc) mr es cl (List.replicate l.length false) bv (List.replicate l.length (0:Int)) pv [] (.slice none 0 0)++[])∧∀x∈l.take k,(z1j x&&(findR l x.label).isNone)=false,⟨l.length,0,om,rfl,hh,sM⟩,?_⟩;rintro n vs K5 _ ⟨k,hkn,rfl,h5,hno⟩;simp only[cns];refine⟨fun g3=>?_,fun g3=>?_⟩
 .simp only[wz,arI,zdt]at g3;have hk:k<l.length:=om;obtain⟨x,hx⟩:∃x,l[k]?=some x:=⟨_,zge hk⟩;have htl:l.take (k+1)=l.take k++[x]:=by rw[qZ,hx];rfl
  obtain⟨y1,_,cs,y2,y3⟩:=(hl.le h5.sh).get hx;obtain⟨rfl,hx8⟩:=itemR_iff.1 y2;have w2:IntKind.i64.wrap ((k:Int)+1)=((k+1:Nat):Int):=by rw[w64 om om];rfl
  have hgs:(getM m x.label).isSome=(findR l x.label).isSome:=by rw[hlab x.label];cases findR l x.label<;>rfl
  have hnm:z1j x=((decide (x.kind=2)||decide (x.kind=3))||decide (x.kind=5)):=rfl;refine⟨fun _=>?_,itemV x,rfl,by simp only[wz,arI];exact y3,fun _=>by simp[Chk.holds,wz,arI],[.map (some mr)],rfl,by simp only[wz,arI,cns];exact z1b h5 rfl,?_⟩
  .simp only[Chk.holds,wz,arI];exact⟨y1,om,om⟩
  simp only[cns];refine z7c (α:=Int) (m:=m) (v:=.map (some mr)) x.label (vi 0) uLabs kIntQ zIntM kr kr (zwe h5 hm) (by
   rw[hlab x.label];cases findR l x.label<;>rfl) z01 ?_
  simp only[cns];refine⟨fun g4=>?_,fun g4=>?_⟩
  .simp only[wz,arI,hgs,←hnm]at g4;have hbadx:(z1j x&&(findR l x.label).isNone)=true:=by
    simp only[zba,qy]at g4;rw[g4.2,Bool.true_and];cases hf:findR l x.label with
    |none=>rfl
    |some j=>rw[hf]at g4;simp at g4
   obtain⟨v1,v2,he,e1,e2,e3⟩:=err (K:=K5) (e:=.none_) (q:=212) (by rw[hA2,qj (wo.2 ⟨x,zmg hx,hbadx⟩)]) rfl h5.sh;exact⟨v1,v2,he,e1,e2,e3⟩
  .simp only[wz,arI,hgs,←hnm]at g4;refine⟨_,z00,n-1,om,k+1,om,by simp only[wz,arI,w2],h5,fun y hy=>?_⟩;rw[htl]at hy;rcases zma.1 hy with hy|hy
   .exact hno y hy
   .rw[zsi.1 hy];cases hf:findR l x.label with
    |none=>
     rw[hf]at g4;simpa using g4
    |some j=>simp
 simp only[wz,arI,zdf]at g3;have hk:k=l.length:=om;subst hk;rw[ztl (we _)]at hno;have hA3:asmR l=.ok (codeR l (longR l) (z0q 0 l (longR l)),(z0q 0 l (longR l)).take l.length):=by
  rw [hA2,qc (by
   rw[wo];rintro⟨x,hx,h⟩;rw[hno x hx]at h;cases h)]
 have hnm:∀x∈l,z1j x=true→(findR l x.label).isSome=true:=fun x hx h=>by
  have:=hno x hx;rw[h,Bool.true_and]at this;cases hf:findR l x.label with
  |none=>rw[hf]at this;cases this
  |some j=>rfl
 rw[hA3];refine z03 (qb 74) (Zfv l h5 hl sM sM hs) ?_;rintro e K6 ⟨rfl,h6⟩;refine⟨_,[],rfl,rfl,rfl,z01,?_⟩;simp only[zan];refine ⟨fun n vs K=>∃long:List Bool,vs=[]∧long.length=l.length∧layR l n long=longR l∧cntF long < n∧Held S K (asmI r (.slice lb l.length lc) mr es cl long bv (plI ((z0q 0 l long).take l.length)) pv [] (.slice none 0 0)++[]),
  ⟨l.length+1,List.replicate l.length false,rfl,sM,by unfold longR;rw[List.map_const'],by unfold cntF;simp,h6⟩,?_⟩
 rintro n vs K7 _ ⟨long,rfl,hll,hlay,hcnt,h7⟩;simp only[zan];obtain⟨f,rfl⟩:∃f,n=f+1:=⟨n-1,om⟩;simp only[layR]at hlay;refine z03 (qb 75) (Zne l m h7 hl hm hlab hll hs hnm) ?_;rintro e K8 ⟨rfl,h8⟩;refine⟨_,[.bool (decide (growR l (z0q 0 l long) long≠long))],rfl,rfl,rfl,z01,?_⟩;simp only[cns];refine⟨fun g4=>?_,fun g4=>?_⟩
 .simp only[wz,arI,zdt]at g4;rw[qc g4]at hlay;have hc:=Zn2 hll g4;have hgl:=zyr (p:=z0q 0 l long) hll;refine z03 (qb 74) (Zfv l h8 hl hgl (by
   have:=zch l long 0 hll;simp[plI,this]) hs) ?_
  rintro e K9 ⟨rfl,h9⟩;exact⟨_,[],rfl,rfl,rfl,z01,_,z00,f,om,_,rfl,hgl,hlay,om,h9⟩
 simp only[wz,arI,zdf,ne_eq,Decidable.not_not]at g4;rw[g4]at h8;rw[qj g4]at hlay;subst hlay;obtain⟨p,hp⟩:∃p,p=z0q 0 l (longR l):=⟨_,rfl⟩;obtain⟨Z,hZ⟩:∃Z,Z=l.zipIdx.zip (longR l):=⟨_,rfl⟩;have hZl:Z.length=l.length:=by rw[hZ];simp[hll]
 refine⟨fun n vs K=>∃(k:Nat)(S2:PH)(cv:Value),k+n=l.length∧vs=[nI k]∧PH.le S S2∧((Z.take k).flatMap (partC l p)).length≤4*k∧Held S2 K (asmI r (.slice lb l.length lc) mr es cl (longR l) bv (plI ((z0q 0 l (longR l)).take l.length)) pv ((Z.take k).flatMap (partC l p)) cv++[]),⟨l.length,0,S,.slice none 0 0,om,rfl,wy _,sM,by simpa using h8⟩,?_⟩;rintro n vs K9 _ ⟨k,S2,cv,hkn,rfl,l2,hcl,h9⟩;simp only[cns];refine⟨fun g5=>?_,fun g5=>?_⟩
 .simp only[wz,arI,zdt]at g5;have hk:k<l.length:=om;obtain⟨x,hx⟩:∃x,l[k]?=some x:=⟨_,zge hk⟩;obtain⟨bk,hbk⟩:∃b,(longR l)[k]?=some b:=⟨_,zge om⟩;have hzk:Z[k]?=some ((x,k),bk):=by rw[hZ];exact Zfq hx hbk
  have htz:(Z.take (k+1)).flatMap (partC l p)=(Z.take k).flatMap (partC l p)++(zb1 x bk ((p.getD k 0:Nat):Int) (toR l p x)).map z3r:=by
   rw[qZ,hzk];simp only[Option.toList_some,List.flatMap_append,qO,List.flatMap_nil,zan,partC]
  have hin:=Zh8 x bk ((p.getD k 0:Nat):Int) (toR l p x);have w2:IntKind.i64.wrap ((k:Int)+1)=((k+1:Nat):Int):=by rw[w64 om om];rfl
  refine z03 (qb 76) (Zj3 l m k x bk h9 (hl.le l2) hm hlab hll hs hnm (hmay x (zmg hx)) hx hbk om) ?_;rintro e Ka ⟨Sa,cva,la,rfl,ha⟩;refine⟨_,[],rfl,rfl,rfl,z01,?_⟩;simp only[zan];rw[←hp]at ha;refine⟨_,z00,n-1,om,k+1,Sa,cva,om,by simp only[wz,arI,w2],wx l2 la,?_,?_⟩
  .rw[htz,zla,zlm];omega
  .rw[htz,←hp];exact ha
 .simp only[wz,arI,zdf]at g5;have hk:k=l.length:=om;subst hk;have hcode:(Z.take l.length).flatMap (partC l p)=codeR l (longR l) (z0q 0 l (longR l)):=by
   rw[ztl om,hZ,hp];rfl
  rw[hcode]at h9;have hcs:=(h9.row (e:=121) (l:=codeR l (longR l) (z0q 0 l (longR l))) (v:=cv) sM).slR h9.sh;have hps:=zhp h9;obtain⟨cb,cc,hcv⟩:=hcs.sl;obtain⟨pb,pc,hpv⟩:=hps.sl;refine⟨fun _=>by simp[Chk.holds,wz,arI],[cv],by rw[hcv];rfl,by simp only[wz,arI];exact z1b h9 rfl,[pv],by rw[hpv];rfl,by simp only[wz,arI,cns];exact z1b h9 rfl,cv,pv,?_,hcs,hps,wx l2 h9.sh⟩;simp[wz,arI,partV,qp,if_false,if_true,List.headD_cons,errA]
theorem Zq4:Tryz.prog.underlying 50=some (.slice 131):=kr
theorem Zix:ElemOk zP 131 (sz ItemR) 64=true:=kr
def EmH(S0 K:PH)(r:Nat)(T:TypeId)(rest:List Value)(l:List ItemR)(k:Nat)(J:List Itm):Prop:=
 l.length+k≤1099511627776∧∃S iv,PH.le S0 S∧Held S K (bx r T (iv::rest)::orow 131 l iv::J)
abbrev EmQ(S0:PH)(r:Nat)(T:TypeId)(rest:List Value)(l:List ItemR)(k:Nat)(J:List Itm):Ending→PH→Prop:=fun e K'=>e=.returned (.tuple #[])∧EmH S0 K' r T rest l k J
theorem EmH.sh{S0 K:PH}{r:Nat}{T:TypeId}{rest:List Value}{l:List ItemR}{k:Nat}{J:List Itm}(h:EmH S0 K r T rest l k J):PH.le S0 K:=by
 obtain⟨_,S,iv,h1,h2⟩:=h;exact wx h1 h2.sh
theorem i0J:InI 0:=dC
section
variable {S0 K:PH}{r:Nat}{T:TypeId}{rest:List Value}{l:List ItemR}{k:Nat}{J:List Itm}
theorem zii(x:ItemR)(hx:InI8 x)(h:EmH S0 K r T rest l (k+1) J):Tri zP 99 #[pAt r,.agg (itemV x).toArray] K (EmQ S0 r T rest (l++[x]) k J):=by
 obtain⟨hl,S,iv,hS,h⟩:=h;refine qr zqa ([pAt r]++itemV x) ?_;simp only[cns];obtain⟨ib,ic,hiv⟩:=(h.row (e:=131) (l:=l) (v:=iv) sM).sl;have hr0:rowAt K (pOf (pAt r)) [iv]:=z1k h (zms) 0 1;refine⟨fun _=>by simp[Chk.holds,wz,arI],[iv],by rw[hiv];rfl,by simp only[wz,arI];exact hr0,?_⟩;simp only[cns];refine z1w (b:=64) (more:=[x]) [.agg (itemV x).toArray] Zq4 Zix rfl dC dC (h.perm (qq _ _ _)) kr (.cons (itemR_iff.2 ⟨rfl,hx⟩) .nil) (z0o (by simp only[wz,arI];exact hr0) z01) (fun w=>kr) (fun w=>kr)
  (by simp only[maxLen,List.length_singleton];omega) (by simp only[List.length_singleton];omega) fun w1 v1 S1 K1 l1 h1=>⟨z01,?_⟩
 simp only[cns];obtain⟨b1,c1,hv1⟩:=(h1.row (e:=131) (zms)).sl;refine z0b (off:=0) (vs:=[v1]) (by simp only[wz,arI];rfl) (h1.perm (qq _ _ _)) (by simp only[wz,arI]) (by intro u hu;rw[zsi.1 hu,hv1];rfl) sM fun K2 h2=>?_;exact⟨rfl,by rw[zla,List.length_singleton];omega,S1,v1,wx hS l1,h2⟩
theorem z5d(n:Int)(hn:InI n)(h:EmH S0 K r T rest l (k+1) J):Tri zP 51 #[pAt r,vi n] K (EmQ S0 r T rest (l++[⟨1,⟨0,0,0,0,0⟩,n,0⟩]) k J):=by
 refine qr zl5 [pAt r,vi n] ?_;refine z03 (qb 99) (zii ⟨1,⟨0,0,0,0,0⟩,n,0⟩ ⟨(by decide:InI 1),⟨i0J,i0J,i0J,i0J,i0J⟩,hn,i0J⟩ h) ?_;rintro e K1 ⟨rfl,h1⟩;exact⟨_,[],rfl,rfl,rfl,z01,rfl,h1⟩
theorem z28(op a x n:Int)(ho:InI op)(ha:InI a)(hx:InI x)(hn:InI n)(h:EmH S0 K r T rest l (k+1) J):Tri zP 97 #[pAt r,vi op,vi a,vi x,vi n] K (EmQ S0 r T rest (l++[⟨0,⟨op,a,x,0,n⟩,0,0⟩]) k J):=by
 refine qr zo8 [pAt r,vi op,vi a,vi x,vi n] ?_;refine z03 (qb 99) (zii ⟨0,⟨op,a,x,0,n⟩,0,0⟩ ⟨i0J,⟨ho,ha,hx,i0J,hn⟩,i0J,i0J⟩ h) ?_;rintro e K1 ⟨rfl,h1⟩;exact⟨_,[],rfl,rfl,rfl,z01,rfl,h1⟩
theorem Zo9(op a x y:Int)(ho:InI op)(ha:InI a)(hx:InI x)(hy:InI y)(h:EmH S0 K r T rest l (k+1) J):Tri zP 62 #[pAt r,vi op,vi a,vi x,vi y] K (EmQ S0 r T rest (l++[⟨0,⟨op,a,x,y,0⟩,0,0⟩]) k J):=by
 refine qr zky [pAt r,vi op,vi a,vi x,vi y] ?_;refine z03 (qb 99) (zii ⟨0,⟨op,a,x,y,0⟩,0,0⟩ ⟨i0J,⟨ho,ha,hx,hy,i0J⟩,i0J,i0J⟩ h) ?_;rintro e K1 ⟨rfl,h1⟩;exact⟨_,[],rfl,rfl,rfl,z01,rfl,h1⟩
theorem z1x(a n:Int)(ha:InI a)(hn:InI n)(h:EmH S0 K r T rest l (k+1) J):Tri zP 57 #[pAt r,vi a,vi n] K (EmQ S0 r T rest (l++[⟨4,⟨20,a,0,0,0⟩,0,n⟩]) k J):=by
 refine qr ziy [pAt r,vi a,vi n] ?_;refine z03 (qb 99) (zii ⟨4,⟨20,a,0,0,0⟩,0,n⟩ ⟨(by decide:InI 4),⟨(by decide:InI 20),ha,i0J,i0J,i0J⟩,i0J,hn⟩ h) ?_;rintro e K1 ⟨rfl,h1⟩;exact⟨_,[],rfl,rfl,rfl,z01,rfl,h1⟩
theorem zyv(a n:Int)(ha:InI a)(hn:InI n)(h:EmH S0 K r T rest l (k+1) J):Tri zP 151 #[pAt r,vi a,vi n] K (EmQ S0 r T rest (l++[⟨5,⟨20,a,0,0,0⟩,n,0⟩]) k J):=by
 refine qr zl1 [pAt r,vi a,vi n] ?_;refine z03 (qb 99) (zii ⟨5,⟨20,a,0,0,0⟩,n,0⟩ ⟨(by decide:InI 5),⟨(by decide:InI 20),ha,i0J,i0J,i0J⟩,hn,i0J⟩ h) ?_;rintro e K1 ⟨rfl,h1⟩;exact⟨_,[],rfl,rfl,rfl,z01,rfl,h1⟩
theorem zw3(a n:Int)(ha:InI a)(hn:InI n)(h:EmH S0 K r T rest l (k+1) J):Tri zP 58 #[pAt r,vi a,vi n] K (EmQ S0 r T rest (l++[⟨3,⟨28,a,0,0,0⟩,n,0⟩]) k J):=by
 refine qr znp [pAt r,vi a,vi n] ?_;refine z03 (qb 99) (zii ⟨3,⟨28,a,0,0,0⟩,n,0⟩ ⟨(by decide:InI 3),⟨(by decide:InI 28),ha,i0J,i0J,i0J⟩,hn,i0J⟩ h) ?_;rintro e K1 ⟨rfl,h1⟩;exact⟨_,[],rfl,rfl,rfl,z01,rfl,h1⟩
theorem If_em(op x y n:Int)(ho:InI op)(hx:InI x)(hy:InI y)(hn:InI n)(h:EmH S0 K r T rest l (k+1) J):Tri zP 59 #[pAt r,vi op,vi x,vi y,vi n] K (EmQ S0 r T rest (l++[⟨2,⟨op,x,y,0,0⟩,n,0⟩]) k J):=by
 refine qr zr2 [pAt r,vi op,vi x,vi y,vi n] ?_;refine z03 (qb 99) (zii ⟨2,⟨op,x,y,0,0⟩,n,0⟩ ⟨(by decide:InI 2),⟨ho,hx,hy,i0J,i0J⟩,hn,i0J⟩ h) ?_;rintro e K1 ⟨rfl,h1⟩;exact⟨_,[],rfl,rfl,rfl,z01,rfl,h1⟩
theorem zqn(a x:Int)(ha:InI a)(hx:InI x)(h:EmH S0 K r T rest l (k+1) J):Tri zP 56 #[pAt r,vi a,vi x] K (EmQ S0 r T rest (l++[⟨0,⟨15,a,x,0,0⟩,0,0⟩]) k J):=by
 refine qr zn8 [pAt r,vi a,vi x] ?_;refine z03 (qb 97) (z28 15 a x 0 dC ha hx i0J h) ?_;rintro e K1 ⟨rfl,h1⟩;exact⟨_,[],rfl,rfl,rfl,z01,rfl,h1⟩
theorem zov(a x n:Int)(ha:InI a)(hx:InI x)(hn:InI n)(h:EmH S0 K r T rest l (k+1) J):Tri zP 55 #[pAt r,vi a,vi x,vi n] K (EmQ S0 r T rest (l++[⟨0,⟨22,a,x,0,n⟩,0,0⟩]) k J):=by
 refine qr zni [pAt r,vi a,vi x,vi n] ?_;refine z03 (qb 97) (z28 22 a x n dC ha hx hn h) ?_;rintro e K1 ⟨rfl,h1⟩;exact⟨_,[],rfl,rfl,rfl,z01,rfl,h1⟩
theorem z5g(a x n:Int)(ha:InI a)(hx:InI x)(hn:InI n)(h:EmH S0 K r T rest l (k+1) J):Tri zP 54 #[pAt r,vi a,vi x,vi n] K (EmQ S0 r T rest (l++[⟨0,⟨23,a,x,0,n⟩,0,0⟩]) k J):=by
 refine qr zkd [pAt r,vi a,vi x,vi n] ?_;refine z03 (qb 97) (z28 23 a x n dC ha hx hn h) ?_;rintro e K1 ⟨rfl,h1⟩;exact⟨_,[],rfl,rfl,rfl,z01,rfl,h1⟩
theorem z6v(n:Int)(hn:InI n)(h:EmH S0 K r T rest l (k+1) J):Tri zP 60 #[pAt r,vi n] K (EmQ S0 r T rest (l++[⟨3,⟨28,0,0,0,0⟩,n,0⟩]) k J):=by
 refine qr znr [pAt r,vi n] ?_;refine z03 (qb 58) (zw3 0 n i0J hn h) ?_;rintro e K1 ⟨rfl,h1⟩;exact⟨_,[],rfl,rfl,rfl,z01,rfl,h1⟩
theorem Zq8(x:Int)(hx:InI x)(h:EmH S0 K r T rest l (k+1) J):Tri zP 63 #[pAt r,vi x] K (EmQ S0 r T rest (l++[⟨0,⟨29,0,x,0,0⟩,0,0⟩]) k J):=by
 refine qr zn6 [pAt r,vi x] ?_;refine z03 (qb 97) (z28 29 0 x 0 dC i0J hx i0J h) ?_;rintro e K1 ⟨rfl,h1⟩;exact⟨_,[],rfl,rfl,rfl,z01,rfl,h1⟩
theorem Zpj(a n:Int)(ha:InI a)(hn:InI n)(h:EmH S0 K r T rest l (k+2) J):Tri zP 53 #[pAt r,vi a,vi n] K (EmQ S0 r T rest (l++[⟨4,⟨20,a,0,0,0⟩,0,n⟩]++[⟨0,⟨0,a,0,0,0⟩,0,0⟩]) k J):=by
 refine qr zn0 [pAt r,vi a,vi n] ?_;refine z03 (qb 57) (z1x a n ha hn h) ?_;rintro e K1 ⟨rfl,h1⟩;refine⟨_,[],rfl,rfl,rfl,z01,?_⟩;simp only[zan];refine z03 (qb 97) (z28 0 a 0 0 dC ha i0J i0J h1) ?_;rintro e K2 ⟨rfl,h2⟩;exact⟨_,[],rfl,rfl,rfl,z01,rfl,h2⟩
end
inductive GI where
 |lit (n:Int)|to|num|arg (j:Nat)|get (j:Nat) (s:Int)|nw (j:Nat)|add (a b:GI)
inductive GV where
 |i (g:GI)|b (v:Bool)|s (l:List UInt8)|pf|pg|sl|o (k:Nat) (t:Tag)
inductive GS where
 |it (k:Int) (op a b c n lab w:GI)|get (j:Nat) (s:Int)|set (g:GI)|nmb (g:GI)|ask|clo
structure GSt where
 segs:List GS
 nl:Nat
 left:Nat
inductive GOut where
 |ret (v:Option GV) (G:List GV)|nxt (id:Nat) (vs:List GV)
structure GE where
 f:FuncId
 rs:List RS
 fm:Fm VE
def GE.Ok(P:Program)(e:GE):Prop:=callB P e.f=true∧∀(E:List Value) {args:Array Value} {H:PH} {R:Ending→PH→Prop},z07 (e.rs.flatMap RS.tags) E=true→args.toList=z17 e.rs E →
 den P (fun c H'=>R (.panicked c) H') e.fm E H [] (fun ve E' H' _=>R (.returned (evV E' (fun _=>0) ve)) H')→Tri P e.f args H R
def GV.tag:GV→Tag
 | .i _=>.int .i64 | .b _=>.bool | .s _=>.str | .pf=>.ptr | .pg=>.ptr | .sl=>.sl | .o _ t=>t
def garI(op:BinOp):GI→GI→Option GI
 | .lit a,.lit b=>some (.lit (arI op .i64 a b))
 |a,b=>if op=.add then some (.add a b)else none
def gcmp(op:BinOp):GV→GV→Option GV
 | .i (.lit a),.i (.lit b)=>some (.b (cmpI op a b))
 |_,_=>none
def gscmp(op:BinOp):GV→GV→Option GV
 | .s a,.s b=>if op=.eql then some (.b (decide (a=b)))else if op=.neq then some (.b (!decide (a=b)))else none
 |_,_=>none
def gnum:SV→Option GV→Option GV
 | .int _ k,_=>some (.i (.lit k))
 |_,o=>o
def gs(n:Nat)(G:List GV):SV→Option GV
 | .atom k=>G[k]?
 | .int .i64 k=>some (.i (.lit k))
 | .bool q=>some (.b q)
 | .str l=>some (.s l)
 | .ar op .i64 a b=>match gs n G a,gnum b (gs n G b)with
  |some (.i p),some (.i q)=>(garI op p q).map .i
  |_,_=>none
 | .cmp op a b=>match gs n G a,gs n G b with
  |some p,some q=>gcmp op p q
  |_,_=>none
 | .scmp op a b=>match gs n G a,gs n G b with
  |some p,some q=>gscmp op p q
  |_,_=>none
 | .len a=>match gs n G a with
  |some .sl=>some (.i (.lit n))
  |_=>none
 | .not a=>match gs n G a with
  |some (.b q)=>some (.b (!q))
  |_=>none
 | .pick c a b=>match gs n G c with
  |some (.b true)=>gs n G a
  |some (.b false)=>gs n G b
  |_=>none
 | .padd p 0=>match gs n G p with
  |some .pg=>some .pg
  |_=>none
 |_=>none
def ga(n:Nat)(G:List GV):SV→Option GV
 | .padd p 0=>match gs n G p with
  |some .pf=>if n<1000 then some .pg else none
  |_=>none
 | .elt s i 1=>match gs n G s,gs n G i with
  |some .sl,some (.i (.lit k))=>if n<1000∧0≤k∧k<n then some (.i (.arg k.toNat))else none
  |_,_=>none
 |_=>none
def gchk(n:Nat)(G:List GV):Chk→Bool
 | .some p=>match gs n G p with
  |some .pf=>true
  |some .pg=>true
  |_=>false
 | .inSl s i=>(ga n G (.elt s i 1)).isSome
 |_=>false
def gsame:GV→GV→Bool
 | .pg,.pg=>true
 | .i (.arg a),.i (.arg b)=>decide (a=b)
 |_,_=>false
def gpend(n:Nat)(G:List GV):List (SV×List SV)→Bool
 | []=>true
 | (p,[c])::l=>(match ga n G p,gs n G c with
  |some a,some b=>gsame a b
  |_,_=>false)&&gpend n G l
 |_=>false
def gall(n:Nat)(G:List GV):List SV→Option (List GV)
 | []=>some []
 |s::l=>match gs n G s,gall n G l with
  |some a,some m=>some (a::m)
  |_,_=>none
def gargs(n:Nat)(G:List GV):List VE→Option (List (Bool×List GV))
 | []=>some []
 | .sc s::l=>match gs n G s,gargs n G l with
  |some a,some m=>some ((false,[a])::m)
  |_,_=>none
 | .ag cs::l=>match gall n G cs,gargs n G l with
  |some a,some m=>some ((true,a)::m)
  |_,_=>none
 |_=>none
def gfit:List RS→List (Bool×List GV)→Bool
 | [],[]=>true
 | .sc t::rs,(false,[g])::az=>decide (g.tag=t)&&gfit rs az
 | .ag ts::rs,(true,gs)::az=>decide (gs.map GV.tag=ts)&&gfit rs az
 |_,_=>false
abbrev GPr:=FuncId→List (Bool×List GV)→GSt→Option (Option GV×GSt)
def gback(n:Nat)(G:List GV)(rs:RS)(pend:List (SV×List SV)):Option GV→Option (List GV)
 |none=>match rs with
  | .tu []=>if gpend n G pend then some G else none
  |_=>none
 |some g=>match rs with
  | .sc t=>if decide (g.tag=t)&&gpend n G pend then some (G++[g])else none
  |_=>none
abbrev GRun:=Fm VE→Option (List GV)→List GV→GSt→Option (GOut×GSt)
def gstep(n:Nat)(T:FuncId→Option GE)(pr:GPr)(ih:GRun):GRun
 | .leaf (.tu []),_,G,st=>some (.ret none G,st)
 | .leaf (.sc s),_,G,st=>(gs n G s).map fun g=>(.ret (some g) G,st)
 | .ite c a b,_,G,st=>match gs n G c with
  |some (.b true)=>ih a none G st
  |some (.b false)=>ih b none G st
  |_=>none
 | .chk _ c k,_,G,st=>if gchk n G c then ih k none G st else none
 | .hold p k,_,G,st=>if gpend n G p then ih k none G st else none
 | .load p ts k,_,G,st=>match ga n G p with
  |some g=>if ts=[g.tag]then ih k none (G++[g]) st else none
  |none=>none
 | .call (.fn f) args rs pend k,_,G,st=>match gargs n G args with
  |none=>none
  |some az=>match pr f az st with
   | some (v,st1)=>(match gback n G rs pend v with
    |some G'=>ih k none G' st1
    |none=>none)
   |none=>match T f with
    |none=>none
    | some e=>if gfit e.rs az then (match ih e.fm none (az.flatMap (·.2)) st with
     | some (.ret v _,st1)=>(match gback n G rs pend v with
      |some G'=>ih k none G' st1
      |none=>none)
     |_=>none)else none
 | .join id ts r m,_,G,st=>match ih m none G st with
  |some (.nxt i vs,st1)=>if i=id then ih r none (G++vs) st1 else some (.nxt i vs,st1)
  |o=>o
 | .next id vs,_,G,st=>(gall n G vs).map fun ws=>(.nxt id ws,st)
 | .loop id ts init body,lv,G,st=>match lv with
  |none=>match gall n G init with
   |some ws=>ih (.loop id ts init body) (some ws) G st
   |none=>none
  |some ws=>match ih body none (G++ws) st with
   |some (.nxt i vs,st1)=>if i=id then ih (.loop id ts init body) (some vs) G st1 else some (.nxt i vs,st1)
   |o=>o
 |_,_,_,_=>none
noncomputable def gI(n:Nat)(T:FuncId→Option GE)(pr:GPr)(d:Nat):GRun:=Nat.rec (motive:=fun _=>GRun) (fun _ _ _ _=>none) (fun _ ih=>gstep n T pr ih) d
theorem Zg0(n:Nat)(T:FuncId→Option GE)(pr:GPr)(d:Nat):gI n T pr (d+1)=gstep n T pr (gI n T pr d):=rfl
structure GNm where
 to:Int
 num:Int
 args:List Int
 get:Int→Int→Int
 getL:Int→Int→List ItemR
 setL:Int→Int→List ItemR
 numL:Int→Int→List ItemR
 askL:List ItemR
 cloL:List ItemR
 nx:Int
structure GC where
 n:GNm
 rf:Value
 rg:Value
 av:Value
 ov:Nat→Value
def GI.v(c:GNm):GI→Int
 | .lit n=>n
 | .to=>c.to
 | .num=>c.num
 | .arg j=>c.args.getD j 0
 | .get j s=>c.get (c.args.getD j 0) s
 | .nw j=>c.nx+(j:Int)
 | .add a b=>arI .add .i64 (a.v c) (b.v c)
def GV.rel(c:GC):GV→Value→Prop
 | .i g,v=>v=.int .i64 (g.v c.n)
 | .b q,v=>v=.bool q
 | .s l,v=>v=.string ⟨l.toArray⟩
 | .pf,v=>v=c.rf
 | .pg,v=>v=c.rg
 | .sl,v=>v=c.av
 | .o k t,v=>v=c.ov k∧t.ok v=true
def GV.argRel(c:GC)(a:Bool×List GV)(v:Value):Prop:=∃cs,All2 (GV.rel c) a.2 cs∧if a.1 then v=.agg cs.toArray else cs=[v]
def GV.retRel(c:GC):Option GV→Value→Prop
 |none,v=>v=.tuple #[]
 |some g,v=>g.rel c v
structure GOk(P:Program)(c:GC)(n:Nat)(T:FuncId→Option GE)(pr:GPr)(Inv:GSt→PH→Prop):Prop where
 tab:∀f e,T f=some e→e.f=f∧e.Ok P
 rg:∃r,c.rg=pAt r
 rf:∃r,c.rf=pAt r
 av:Tag.sl.ok c.av=true
 len:n=slLen c.av
 fbox:∀st H,n<1000→Inv st H→rowAt H (pOf c.rf) [c.rg]
 arg:∀st H k,n<1000→Inv st H→k<n→(z09 c.av).isSome=true∧rowAt H (pOf (eltV c.av (k:Int) 1)) [vi (c.n.args.getD k 0)]
 prim:∀f az st v st1,pr f az st=some (v,st1)→callB P f=true∧∀vs H,All2 (GV.argRel c) az vs→Inv st H→Tri P f vs.toArray H (fun e H'=>∃r,e=.returned r∧GV.retRel c v r∧Inv st1 H')
section
variable {P:Program}{c:GC}{n:Nat}{T:FuncId→Option GE}{pr:GPr}{Inv:GSt→PH→Prop}{G:List GV}{E:List Value}{H:PH}{st st1:GSt}
theorem All2.app2{α β:Type}{R:α→β→Prop}:∀{a c:List α} {b d:List β},All2 R a b→All2 R c d→All2 R (a++c) (b++d)
 | [],_,[],_,_,h=>h
 |_::_,_,_::_,_,.cons h1 h2,h=>.cons h1 (h2.app2 h)
theorem All2.get2{α β:Type}{R:α→β→Prop}:∀{a:List α} {b:List β},All2 R a b→∀{k:Nat} {x:α},a[k]?=some x→∃y,b[k]?=some y∧R x y
 |_::_,_::_,.cons h1 _,0,_,hk=>by simp only[List.getElem?_cons_zero,qB]at hk;subst hk;exact⟨_,rfl,h1⟩
 |_::_,_::_,.cons _ h2,k+1,_,hk=>h2.get2 (k:=k) hk
theorem All2.len2{α β:Type}{R:α→β→Prop}:∀{a:List α} {b:List β},All2 R a b→b.length=a.length
 |_,_,.nil=>rfl
 |_::_,_::_,.cons _ h2=>congrArg (·+1) h2.len2
theorem GV.tag_ok(h:GOk P c n T pr Inv){g:GV}{v:Value}(hr:g.rel c v):g.tag.ok v=true:=by
 obtain⟨r,hg⟩:=h.rg;obtain⟨q,hf⟩:=h.rf;have ha:=h.av;cases g<;>simp only[GV.rel]at hr<;>first
  |(subst hr;rfl)
  |(subst hr;simp only[GV.tag,hg];rfl)
  |(subst hr;simp only[GV.tag,hf];rfl)
  |(subst hr;exact ha)
  |exact hr.2
theorem Zop{c:GNm}{op:BinOp}{p q r:GI}(h:garI op p q=some r):r.v c=arI op .i64 (p.v c) (q.v c):=by
 unfold garI at h;split at h
 .cases h;rfl
 .split at h
  .rename_i ho;cases h;subst ho;rfl
  .cases h
theorem gs_ok(h:GOk P c n T pr Inv)(hE:All2 (GV.rel c) G E):∀(s:SV)(g:GV),gs n G s=some g→g.rel c (ev0 E s)
 | .atom k,g,hs=>by
  obtain⟨v,h1,h2⟩:=hE.get2 (by simpa only[gs]using hs);have:ev0 E (.atom k)=v:=by simp[ev0,ev,zgd,h1]
  rw[this];exact h2
 | .int k m,g,hs=>by
  cases k<;>simp only[gs,qB,reduceCtorEq]at hs;subst hs;rfl
 | .bool q,g,hs=>by simp only[gs,qB]at hs;subst hs;rfl
 | .str l,g,hs=>by simp only[gs,qB]at hs;subst hs;rfl
 | .ar op k a b,g,hs=>by
  cases k<;>simp only[gs,reduceCtorEq]at hs;split at hs
  .rename_i p q e1 e2;have i1:=gs_ok h hE a _ e1;have ib:=gs_ok h hE b;have i2:iOf (ev0 E b)=q.v c.n:=by
    cases b with
    |int k m=>cases e2;rfl
    |_=>
     have:=ib _ e2;simp only[GV.rel]at this;rw[this];rfl
   simp only[GV.rel]at i1;cases hr:garI op p q with
   |none=>rw[hr]at hs;cases hs
   |some r=>
    rw[hr]at hs;cases hs;show Value.int .i64 (arI op .i64 (iOf (ev0 E a)) (iOf (ev0 E b)))=.int .i64 (r.v c.n);rw[Zop hr,i1,i2];rfl
  .cases hs
 | .cmp op a b,g,hs=>by
  simp only[gs]at hs;split at hs
  .rename_i p q e1 e2;have i1:=gs_ok h hE a _ e1;have i2:=gs_ok h hE b _ e2;unfold gcmp at hs;split at hs
   .cases hs;simp only[GV.rel]at i1 i2;show Value.bool (cmpI op (iOf (ev0 E a)) (iOf (ev0 E b)))=_;rw[i1,i2];rfl
   .cases hs
  .cases hs
 | .scmp op a b,g,hs=>by
  simp only[gs]at hs;split at hs
  .rename_i p q e1 e2;have i1:=gs_ok h hE a _ e1;have i2:=gs_ok h hE b _ e2;unfold gscmp at hs;split at hs
   .split at hs
    .rename_i ho;subst ho;cases hs;simp only[GV.rel]at i1 i2;show Value.bool (cmpS .eql (sOf (ev0 E a)) (sOf (ev0 E b)))=_;rw[i1,i2];simp only[sOf,z06]
    .split at hs
     .rename_i ho;subst ho;cases hs;simp only[GV.rel]at i1 i2;show Value.bool (!cmpS .eql (sOf (ev0 E a)) (sOf (ev0 E b)))=_;rw[i1,i2];simp only[sOf,z06]
     .cases hs
   .cases hs
  .cases hs
 | .len a,g,hs=>by
  simp only[gs]at hs;split at hs
  .rename_i e1;have i1:=gs_ok h hE a _ e1;cases hs;simp only[GV.rel]at i1;show Value.int .i64 (slLen (ev0 E a))=.int .i64 (n:Int);rw[i1,h.len]
  .cases hs
 | .not a,g,hs=>by
  simp only[gs]at hs;split at hs
  .rename_i e1;have i1:=gs_ok h hE a _ e1;cases hs;simp only[GV.rel]at i1;show Value.bool (!bOf (ev0 E a))=_;rw[i1];rfl
  .cases hs
 | .pick d a b,g,hs=>by
  simp only[gs]at hs;have hv:ev0 E (.pick d a b)=if bOf (ev0 E d)then ev0 E a else ev0 E b:=rfl
  split at hs
  .rename_i e1;have i1:=gs_ok h hE d _ e1;simp only[GV.rel]at i1;rw[hv,i1];exact gs_ok h hE a _ hs
  .rename_i e1;have i1:=gs_ok h hE d _ e1;simp only[GV.rel]at i1;rw[hv,i1];exact gs_ok h hE b _ hs
  .cases hs
 | .padd p k,g,hs=>by
  cases k with
  |succ k=>simp only[gs,reduceCtorEq]at hs
  |zero=>
   simp only[gs]at hs;split at hs
   .rename_i e1;have i1:=gs_ok h hE p _ e1;cases hs;simp only[GV.rel]at i1;obtain⟨r,hg⟩:=h.rg;show Value.pointer ((pOf (ev0 E p)).map (·.add 0))=c.rg;rw[i1,hg];rfl
   .cases hs
 | .nil _,g,hs | .fn _,g,hs | .glob _,g,hs | .box _ _,g,hs | .beq _ _,g,hs | .isnil _,g,hs | .com _ _,g,hs | .conv _ _,g,hs | .cap _,g,hs | .slen _,g,hs | .elt _ _ _,g,hs | .sidx _ _,g,hs | .ssub _ _ _,g,hs | .cat _ _,g,hs | .sls _ _ _ _,g,hs=>by simp only[gs,reduceCtorEq]at hs
theorem ga_ok(h:GOk P c n T pr Inv)(hE:All2 (GV.rel c) G E)(hI:Inv st H){p:SV}{g:GV}(hg:ga n G p=some g):∃v,g.rel c v∧rowAt H (pOf (ev0 E p)) [v]∧∀w,gsame g w=true→∀u,w.rel c u→u=v:=by
 unfold ga at hg;split at hg
 .rename_i q;split at hg
  .rename_i e1;have i1:=gs_ok h hE q _ e1;split at hg
   case isFalse=>cases hg
   rename_i hn;cases hg;simp only[GV.rel]at i1;refine⟨c.rg,rfl,?_,fun w hw u hu=>?_⟩
   .have:=h.fbox st H hn hI;obtain⟨r,hr⟩:=h.rf;show rowAt H ((pOf (ev0 E q)).map (·.add 0)) [c.rg];rw[i1];rw[hr]at this⊢;exact this
   .cases w<;>simp only[gsame,qp]at hw;exact hu
  .cases hg
 .rename_i s i;split at hg
  .rename_i k e1 e2;split at hg
   .rename_i hk;have i1:=gs_ok h hE s _ e1;have i2:=gs_ok h hE i _ e2;cases hg;simp only[GV.rel]at i1 i2;refine⟨_,rfl,?_,fun w hw u hu=>?_⟩
    .have:=(h.arg st H k.toNat hk.1 hI om).2;show rowAt H (pOf (eltV (ev0 E s) (iOf (ev0 E i)) 1)) _;rw[i1,i2];have e:((k.toNat:Nat):Int)=k:=om;rw[e]at this;exact this
    .cases w with
     |i q=>
      cases q<;>simp only[gsame,qp,zdt]at hw;subst hw;exact hu
     |_=>simp only[gsame,qp]at hw
   .cases hg
  .cases hg
 .cases hg
theorem Zox(h:GOk P c n T pr Inv)(hE:All2 (GV.rel c) G E)(hI:Inv st H){k:Chk}(hk:gchk n G k=true):k.holds E:=by
 cases k with
 |some p=>
  simp only[gchk]at hk;obtain⟨r,hr⟩:=h.rg;obtain⟨q,hq⟩:=h.rf;split at hk
  .rename_i e1;have i1:=gs_ok h hE p _ e1;simp only[GV.rel]at i1;show(pOf (ev0 E p)).isSome=true;rw[i1,hq];rfl
  .rename_i e1;have i1:=gs_ok h hE p _ e1;simp only[GV.rel]at i1;show(pOf (ev0 E p)).isSome=true;rw[i1,hr];rfl
  .cases hk
 |inSl s i=>
  simp only[gchk,ga]at hk;split at hk
  .rename_i k e1 e2;split at hk
   .rename_i hb;have i1:=gs_ok h hE s _ e1;have i2:=gs_ok h hE i _ e2;simp only[GV.rel]at i1 i2;have h1:=(h.arg st H k.toNat hb.1 hI om).1;have h2:=h.len;simp only[Chk.holds,i1,i2];exact⟨h1,hb.2.1,by show k<_;omega⟩
   .cases hk
  .cases hk
 |_=>simp only[gchk,qp]at hk
theorem zsk(h:GOk P c n T pr Inv)(hE:All2 (GV.rel c) G E)(hI:Inv st H):∀{l:List (SV×List SV)},gpend n G l=true→z0l E H l
 | [],_=>fun x hx=>by cases hx
 |(p,cs)::l,hp=>by
  unfold gpend at hp;split at hp
  .rename_i heq;cases heq
  .rename_i heq;cases heq;simp only[zba]at hp;obtain⟨h1,h2⟩:=hp;split at h1
   .rename_i a b e1 e2;obtain⟨v,g1,g2,g3⟩:=ga_ok h hE hI e1;have:=g3 b h1 _ (gs_ok h hE _ _ e2);intro x hx;rcases zmc.1 hx with rfl|hx
    .simp only[q9,List.map_nil,this];exact g2
    .exact zsk h hE hI h2 x hx
   .cases h1
  .cases hp
theorem zpo(h:GOk P c n T pr Inv)(hE:All2 (GV.rel c) G E):∀{l:List SV} {m:List GV},gall n G l=some m→All2 (GV.rel c) m (l.map (ev0 E))
 | [],m,hm=>by simp only[gall,qB]at hm;subst hm;exact .nil
 |s::l,m,hm=>by
  simp only[gall]at hm;split at hm
  .rename_i a m1 e1 e2;cases hm;exact .cons (gs_ok h hE s _ e1) (zpo h hE e2)
  .cases hm
theorem Z65(h:GOk P c n T pr Inv):∀{m:List GV} {vs:List Value},All2 (GV.rel c) m vs→z07 (m.map GV.tag) vs=true
 |_,_,.nil=>rfl
 |_::_,_::_,.cons h1 h2=>by
  simp only[q9,z07,zba];exact⟨GV.tag_ok h h1,Z65 h h2⟩
theorem ztz(h:GOk P c n T pr Inv)(hE:All2 (GV.rel c) G E):∀{l:List VE} {az:List (Bool×List GV)},gargs n G l=some az→All2 (GV.argRel c) az (l.map (evV E fun _=>0))
 | [],az,hm=>by simp only[gargs,qB]at hm;subst hm;exact .nil
 | .sc s::l,az,hm=>by
  simp only[gargs]at hm;split at hm
  .rename_i a m1 e1 e2;cases hm;exact .cons ⟨[_],.cons (gs_ok h hE s _ e1) .nil,rfl⟩ (ztz h hE e2)
  .cases hm
 | .ag cs::l,az,hm=>by
  simp only[gargs]at hm;split at hm
  .rename_i a m1 e1 e2;cases hm;exact .cons ⟨_,zpo h hE e1,rfl⟩ (ztz h hE e2)
  .cases hm
 | .junk::l,az,hm | .tu _::l,az,hm=>by simp only[gargs,reduceCtorEq]at hm
theorem Z5b(h:GOk P c n T pr Inv)(hE:All2 (GV.rel c) G E):∀{l:List VE} {az:List (Bool×List GV)} {rs:List RS},gargs n G l=some az→gfit rs az=true →
  ∃E',All2 (GV.rel c) (az.flatMap (·.2)) E'∧z07 (rs.flatMap RS.tags) E'=true∧l.map (evV E fun _=>0)=z17 rs E'
 | [],az,rs,hm,hf=>by
  simp only[gargs,qB]at hm;subst hm;cases rs with
  |nil=>exact⟨[],.nil,rfl,rfl⟩
  |cons r rs=>cases r<;>simp[gfit]at hf
 | .sc s::l,az,rs,hm,hf=>by
  simp only[gargs]at hm;split at hm
  .rename_i a m1 e1 e2;cases hm;cases rs with
   |nil=>simp[gfit]at hf
   |cons r rs=>
    cases r<;>simp only[gfit,zba,zdt,qp]at hf;obtain⟨rfl,h2⟩:=hf;obtain⟨E',g1,g2,g3⟩:=Z5b h hE e2 h2;have i1:=gs_ok h hE s _ e1;refine⟨ev0 E s::E',.cons i1 g1,?_,?_⟩
    .simp only[qO,RS.tags,cns,z07,zba];exact⟨GV.tag_ok h i1,g2⟩
    .simp only[q9,z17,RS.tags,RS.pack,List.length_singleton,List.take_succ_cons,List.take_zero,List.drop_succ_cons,List.drop_zero,List.headD_cons,g3];rfl
  .cases hm
 | .ag cs::l,az,rs,hm,hf=>by
  simp only[gargs]at hm;split at hm
  .rename_i a m1 e1 e2;cases hm;cases rs with
   |nil=>simp[gfit]at hf
   |cons r rs=>
    cases r<;>simp only[gfit,zba,zdt,qp]at hf;obtain⟨rfl,h2⟩:=hf;obtain⟨E',g1,g2,g3⟩:=Z5b h hE e2 h2;have i1:=zpo h hE e1;have il:=i1.len2;refine⟨cs.map (ev0 E)++E',i1.app2 g1,?_,?_⟩
    .simp only[qO,RS.tags];exact zg6 (Z65 h i1) g2
    .have hl:(a.map GV.tag).length=(cs.map (ev0 E)).length:=by rw[zlm,il]
     simp only[q9,z17,RS.tags,RS.pack,hl,List.take_left,List.drop_left,g3];rfl
  .cases hm
 | .junk::l,az,rs,hm,_ | .tu _::l,az,rs,hm,_=>by simp only[gargs,reduceCtorEq]at hm
def GPost(c:GC)(Inv:GSt→PH→Prop)(out:GOut)(st:GSt)(L:LK)(K:VE→List Value→PH→LK→Prop):Prop:=
 match out with
 | .ret v G=>∀x E H L,All2 (GV.rel c) G E→GV.retRel c v (evV E (fun _=>0) x)→Inv st H→K x E H L
 | .nxt id ws=>∃J,L.lookup id=some J∧∀vs H,All2 (GV.rel c) ws vs→Inv st H→J vs H
theorem GPost.under{out:GOut}{L:LK}{K:VE→List Value→PH→LK→Prop}{id:Nat}{J:List Value→PH→Prop}(h:GPost c Inv out st L K)(hn:∀ws,out≠.nxt id ws):GPost c Inv out st ((id,J)::L) K:=by
 cases out with
 |ret v _=>exact h
 |nxt i ws=>
  obtain⟨J',h1,h2⟩:=h;exact⟨J',(z2g (fun e=>hn ws (by rw[e]))).trans h1,h2⟩
theorem Zc9(h:GOk P c n T pr Inv)(hE:All2 (GV.rel c) G E){rs:RS}{pend:List (SV×List SV)}{v:Option GV}{G':List GV}{r:Value}(hb:gback n G rs pend v=some G')(hv:GV.retRel c v r)(hI:Inv st H):
  ∃vs,z07 rs.tags vs=true∧r=rs.pack vs∧z0l E H pend∧All2 (GV.rel c) G' (E++vs):=by
 cases v with
 |none=>
  simp only[gback]at hb;split at hb
  .split at hb
   .rename_i hp;cases hb;exact⟨[],rfl,hv,zsk h hE hI hp,by rw[zan];exact hE⟩
   .cases hb
  .cases hb
 |some g=>
  simp only[gback]at hb;split at hb
  .split at hb
   .rename_i hp;cases hb;simp only[zba,zdt]at hp;obtain⟨rfl,hp⟩:=hp;refine⟨[r],?_,rfl,zsk h hE hI hp,hE.app2 (.cons hv .nil)⟩;simp only[RS.tags,z07,Bool.and_true];exact GV.tag_ok h hv
   .cases hb
  .cases hb
theorem gI_ok(h:GOk P c n T pr Inv):∀(d:Nat)(fm:Fm VE)(G:List GV)(st:GSt)(out:GOut)(st1:GSt),gI n T pr d fm none G st=some (out,st1) →
  ∀(E:List Value)(H:PH)(L:LK)(X:List PanicEntry→PH→Prop)(K:VE→List Value→PH→LK→Prop),All2 (GV.rel c) G E→Inv st H→GPost c Inv out st1 L K→den P X fm E H L K:=by
 intro d
 induction d using Nat.strongRecOn with
 |_ d IH=>
 intro fm G st out st1 hr E H L X K hE hI hK;cases d with
 |zero=>cases hr
 |succ d=>
 have ih:=IH d (Nat.lt_succ_self d);rw[Zg0]at hr;cases fm with
 |leaf x=>
  cases x with
  |tu vs=>
   cases vs with
   |nil=>cases hr;exact hK _ E H L hE rfl hI
   |cons _ _=>cases hr
  |sc s=>
   simp only[gstep]at hr;cases hg:gs n G s with
   |none=>rw[hg]at hr;cases hr
   |some g=>rw[hg]at hr;cases hr;exact hK _ E H L hE (gs_ok h hE s g hg) hI
  |junk=>cases hr
  |ag _=>cases hr
 |fail w=>cases hr
 |ite q a b=>
  simp only[gstep]at hr;split at hr
  .rename_i e1;have i1:ev0 E q=.bool true:=gs_ok h hE q _ e1;refine⟨fun _=>ih _ _ _ _ _ hr E H L X K hE hI hK,fun hn=>?_⟩;rw[i1]at hn;cases hn
  .rename_i e1;have i1:ev0 E q=.bool false:=gs_ok h hE q _ e1;refine⟨fun hn=>?_,fun _=>ih _ _ _ _ _ hr E H L X K hE hI hK⟩;rw[i1]at hn;cases hn
  .cases hr
 |chk g q k=>
  simp only[gstep]at hr;split at hr
  .rename_i hq;exact⟨fun _=>Zox h hE hI hq,ih _ _ _ _ _ hr E H L X K hE hI hK⟩
  .cases hr
 |hold p k=>
  simp only[gstep]at hr;split at hr
  .rename_i hq;exact⟨zsk h hE hI hq,ih _ _ _ _ _ hr E H L X K hE hI hK⟩
  .cases hr
 |load p ts k=>
  simp only[gstep]at hr;split at hr
  .rename_i g hg;split at hr
   .rename_i ht;subst ht;obtain⟨v,g1,g2,_⟩:=ga_ok h hE hI hg;refine⟨[v],?_,g2,ih _ _ _ _ _ hr _ H L X K (hE.app2 (.cons g1 .nil)) hI hK⟩;simp only[z07,Bool.and_true];exact GV.tag_ok h g1
   .cases hr
  .cases hr
 |call q args rs pend k=>
  cases q with
  |fn f=>
   simp only[gstep]at hr;split at hr
   .cases hr
   rename_i az haz;split at hr
   .rename_i v st2 hp;split at hr
    .rename_i G' hb;obtain⟨hc,ht⟩:=h.prim _ _ _ _ _ hp;refine z03 hc (ht _ H (ztz h hE haz) hI) ?_;rintro e H' ⟨r,rfl,h1,h2⟩;obtain⟨vs,b1,b2,b3,b4⟩:=Zc9 h hE hb h1 h2;exact⟨r,vs,rfl,b1,b2,b3,ih _ _ _ _ _ hr _ H' L X K b4 h2 hK⟩
    .cases hr
   .split at hr
    .cases hr
    rename_i e he;split at hr
    .rename_i hf;split at hr
     .rename_i v _ st2 hsub;split at hr
      .rename_i G' hb;obtain⟨rfl,hc,ho⟩:=h.tab _ _ he;obtain⟨E',a1,a2,a3⟩:=Z5b h hE haz hf;refine z03 hc (R:=fun e H'=>∃r,e=.returned r∧GV.retRel c v r∧Inv st2 H') (ho E' a2 (by rw[List.toList_toArray];exact a3) ?_) ?_
       .exact ih _ _ _ _ _ hsub E' H [] _ _ a1 hI fun x E2 H2 L2 _ h1 h2=>⟨_,rfl,h1,h2⟩
       .rintro e' H' ⟨r,rfl,h1,h2⟩;obtain⟨vs,b1,b2,b3,b4⟩:=Zc9 h hE hb h1 h2;exact⟨r,vs,rfl,b1,b2,b3,ih _ _ _ _ _ hr _ H' L X K b4 h2 hK⟩
      .cases hr
     .cases hr
    .cases hr
  |_=>cases hr
 |join id ts r m=>
  simp only[gstep]at hr;split at hr
  .rename_i i vs st2 hm;split at hr
   .rename_i hi;subst hi;exact ⟨fun us H'=>All2 (GV.rel c) vs us∧Inv st2 H',fun us H' _ hj=>ih _ _ _ _ _ hr _ H' L X K (hE.app2 hj.1) hj.2 hK,
     ih _ _ _ _ _ hm E H _ X K hE hI ⟨_,z00,fun us H' h1 h2=>⟨h1,h2⟩⟩⟩
   .rename_i hi;cases hr;exact⟨fun _ _=>False,fun _ _ _ hj=>hj.elim,ih _ _ _ _ _ hm E H _ X K hE hI (hK.under fun ws e=>hi (by cases e;rfl))⟩
  .rename_i hno;rw[hr]at hno;exact⟨fun _ _=>False,fun _ _ _ hj=>hj.elim,ih _ _ _ _ _ hr E H _ X K hE hI (hK.under fun ws e=>hno _ _ _ (by rw[e]))⟩
 |next id vs=>
  simp only[gstep]at hr;cases hg:gall n G vs with
  |none=>rw[hg]at hr;cases hr
  |some ws=>
   rw[hg]at hr;cases hr;obtain⟨J,h1,h2⟩:=hK;exact⟨J,h1,h2 _ H (zpo h hE hg) hI⟩
 |loop id ts init body=>
  simp only[gstep]at hr;split at hr
  .rename_i ws0 hg;refine⟨fun m us H'=>m≤d∧∃ws st',gI n T pr m (.loop id ts init body) (some ws) G st'=some (out,st1)∧All2 (GV.rel c) ws us∧Inv st' H',⟨d,we d,ws0,st,hr,zpo h hE hg,hI⟩,?_⟩;rintro m us H' _ ⟨hm,ws,st',hr',hws,hI'⟩;cases m with
   |zero=>cases hr'
   |succ m=>
   rw[Zg0]at hr';simp only[gstep]at hr';split at hr'
   .rename_i i vs st2 hb;split at hr'
    .rename_i hi;subst hi;exact IH m om _ _ _ _ _ hb _ H' _ X K (hE.app2 hws) hI' ⟨_,z00,fun us' H'' h1 h2=>⟨m,Nat.lt_succ_self m,om,vs,st2,hr',h1,h2⟩⟩
    .rename_i hi;cases hr';exact IH m om _ _ _ _ _ hb _ H' _ X K (hE.app2 hws) hI' (hK.under fun ws e=>hi (by cases e;rfl))
   .rename_i hno;rw[hr']at hno;exact IH m om _ _ _ _ _ hr' _ H' _ X K (hE.app2 hws) hI' (hK.under fun ws e=>hno _ _ _ (by rw[e]))
  .cases hr
 |store _ _ _=>cases hr
 |new _ _ _=>cases hr
 |sem _ _ _ _ _ _=>cases hr
 |alt _ _ _ _ _ _ _=>cases hr
 |both _ _=>cases hr
 |far _ _ _ _ _=>cases hr
end
def GS.l(c:GNm):GS→List ItemR
 | .it k op a b d n lab w=>[⟨k,⟨op.v c,a.v c,b.v c,d.v c,n.v c⟩,lab.v c,w.v c⟩]
 | .get j s=>c.getL (c.args.getD j 0) s
 | .set g=>c.setL c.to (g.v c)
 | .nmb g=>c.numL c.to (g.v c)
 | .ask=>c.askL
 | .clo=>c.cloL
def emS(f:FuncId):List GI→Option (List GS)
 | [op,a,b,n]=>
  if f=97 then some [.it 0 op a b (.lit 0) n (.lit 0) (.lit 0)]
  else if f=62 then some [.it 0 op a b n (.lit 0) (.lit 0) (.lit 0)]
  else if f=59 then some [.it 2 op a b (.lit 0) (.lit 0) n (.lit 0)]else none
 | [a,b,n]=>
  if f=55 then some [.it 0 (.lit 22) a b (.lit 0) n (.lit 0) (.lit 0)]
  else if f=54 then some [.it 0 (.lit 23) a b (.lit 0) n (.lit 0) (.lit 0)]else none
 | [a,n]=>
  if f=57 then some [.it 4 (.lit 20) a (.lit 0) (.lit 0) (.lit 0) (.lit 0) n]
  else if f=151 then some [.it 5 (.lit 20) a (.lit 0) (.lit 0) (.lit 0) n (.lit 0)]
  else if f=58 then some [.it 3 (.lit 28) a (.lit 0) (.lit 0) (.lit 0) n (.lit 0)]
  else if f=56 then some [.it 0 (.lit 15) a n (.lit 0) (.lit 0) (.lit 0) (.lit 0)]
  else if f=53 then some [.it 4 (.lit 20) a (.lit 0) (.lit 0) (.lit 0) (.lit 0) n,.it 0 (.lit 0) a (.lit 0) (.lit 0) (.lit 0) (.lit 0) (.lit 0)]else none
 | [n]=>
  if f=51 then some [.it 1 (.lit 0) (.lit 0) (.lit 0) (.lit 0) (.lit 0) n (.lit 0)]
  else if f=60 then some [.it 3 (.lit 28) (.lit 0) (.lit 0) (.lit 0) (.lit 0) n (.lit 0)]
  else if f=63 then some [.it 0 (.lit 29) (.lit 0) n (.lit 0) (.lit 0) (.lit 0) (.lit 0)]else none
 |_=>none
def GI.ok(n nl:Nat):GI→Bool
 | .lit k=>decide (InI k)
 | .num=>true
 | .get j s=>decide (j<n)&&decide (InI s)
 | .nw j=>decide (j<nl)
 | .add _ _=>true
 |_=>false
def gis:List (Bool×List GV)→Option (List GI)
 | []=>some []
 |(false,[.i g])::l=>(gis l).map (g::·)
 |_=>none
def prE(n:Nat)(f:FuncId)(az:List (Bool×List GV))(st:GSt):Option (Option GV×GSt):=
 match az with
 |(false,[.pg])::ws=>match gis ws with
  |some l=>match emS f l with
   |some ss=>if l.all (GI.ok n st.nl)&&decide (ss.length≤st.left)then some (none,⟨st.segs++ss,st.nl,st.left-ss.length⟩)else none
   |none=>none
  |none=>none
 |_=>none
section
variable {S0 K:PH}{r:Nat}{T:TypeId}{rest:List Value}{l:List ItemR}{k:Nat}{J:List Itm}{c:GNm}
theorem EmH.le{K':PH}(h:EmH S0 K r T rest l k J)(hl:PH.le K K'):EmH S0 K' r T rest l k J:=by
 obtain⟨h1,S,iv,h2,h3⟩:=h;exact⟨h1,S,iv,h2,h3.le hl⟩
theorem EmH.re{k':Nat}(h:EmH S0 K r T rest l k J)(hl:l.length+k'≤1099511627776):EmH S0 K r T rest l k' J:=⟨hl,h.2⟩
theorem inJ{n:Int}(h0:-9223372036854775808≤n)(h1:n≤9223372036854775807):InI n:=⟨h0,h1⟩
theorem Zk0{f:FuncId}{l0:List GI}{ss:List GS}(h:emS f l0=some ss)(hb:∀g∈l0,InI (g.v c)):
  ∀k K,EmH S0 K r T rest l (k+ss.length) J→Tri zP f (pAt r::l0.map fun g=>.int .i64 (g.v c)).toArray K (EmQ S0 r T rest (l++ss.flatMap (GS.l c)) k J):=by
 unfold emS at h;split at h
 .rename_i op a b n;have h1:=hb op sM;have h2:=hb a sM;have h3:=hb b sM;have h4:=hb n sM;split at h
  .rename_i hf;cases h;subst hf;exact fun k K h0=>z28 _ _ _ _ h1 h2 h3 h4 h0
  split at h
  .rename_i hf;cases h;subst hf;exact fun k K h0=>Zo9 _ _ _ _ h1 h2 h3 h4 h0
  split at h
  .rename_i hf;cases h;subst hf;exact fun k K h0=>If_em _ _ _ _ h1 h2 h3 h4 h0
  .cases h
 .rename_i a b n;have h1:=hb a sM;have h2:=hb b sM;have h3:=hb n sM;split at h
  .rename_i hf;cases h;subst hf;exact fun k K h0=>zov _ _ _ h1 h2 h3 h0
  split at h
  .rename_i hf;cases h;subst hf;exact fun k K h0=>z5g _ _ _ h1 h2 h3 h0
  .cases h
 .rename_i a n;have h1:=hb a sM;have h2:=hb n sM;split at h
  .rename_i hf;cases h;subst hf;exact fun k K h0=>z1x _ _ h1 h2 h0
  split at h
  .rename_i hf;cases h;subst hf;exact fun k K h0=>zyv _ _ h1 h2 h0
  split at h
  .rename_i hf;cases h;subst hf;exact fun k K h0=>zw3 _ _ h1 h2 h0
  split at h
  .rename_i hf;cases h;subst hf;exact fun k K h0=>zqn _ _ h1 h2 h0
  split at h
  .rename_i hf;cases h;subst hf;intro k K h0;have:=Zpj _ _ h1 h2 h0;rw[zaa]at this;exact this
  .cases h
 .rename_i n;have h1:=hb n sM;split at h
  .rename_i hf;cases h;subst hf;exact fun k K h0=>z5d _ h1 h0
  split at h
  .rename_i hf;cases h;subst hf;exact fun k K h0=>z6v _ h1 h0
  split at h
  .rename_i hf;cases h;subst hf;exact fun k K h0=>Zq8 _ h1 h0
  .cases h
 .cases h
theorem Zjh{f:FuncId}{l0:List GI}{ss:List GS}(h:emS f l0=some ss):callB zP f=true:=by
 unfold emS at h;split at h
 all_goals repeat' split at h
 all_goals first|cases h|(rename_i hf;subst hf;kernel_rfl)
 all_goals (rename_i hf;subst hf;kernel_rfl)
theorem z3n{c:GC}{g:GV}{v:Value}(h:GV.argRel c (false,[g]) v):g.rel c v:=by
 obtain⟨cs,h1,h2⟩:=h;have e:cs=[v]:=h2;subst e;cases h1 with
 |cons h _=>exact h
theorem Zam{c:GC}:∀{ws:List (Bool×List GV)} {l0:List GI} {vs:List Value},gis ws=some l0→All2 (GV.argRel c) ws vs→vs=l0.map fun g=>.int .i64 (g.v c.n)
 | [],l0,[],h,.nil=>by simp only[gis,qB]at h;subst h;rfl
 |a::ws,l0,v::vs,h,.cons h1 h2=>by
  unfold gis at h;split at h
  .rename_i heq;cases heq
  .rename_i heq;cases heq;simp only[qQ]at h;obtain⟨m,hm,rfl⟩:=h;rw[Zam hm h2,show v=_ from z3n h1];rfl
  .cases h
theorem Zoo(a b:Int):InI (arI .add .i64 a b):=by
 have h:∀n:Int,-9223372036854775808≤IntKind.i64.wrap n∧IntKind.i64.wrap n≤9223372036854775807:=fun n=>by
  simp only[IntKind.wrap,IntKind.bits,IntKind.signed];simp;split<;>omega
 exact h _
theorem GI.ok_v{n nl:Nat}{g:GI}(h:g.ok n nl=true)(hnum:InI c.num)(hget:∀j s,j<n→InI s→InI (c.get (c.args.getD j 0) s))(hnw:∀j,j<nl→InI (c.nx+(j:Int))):InI (g.v c):=by
 cases g with
 |lit k=>exact qY h
 |num=>exact hnum
 |get j s=>
  simp only[GI.ok,zba,zdt]at h;exact hget j s h.1 h.2
 |nw j=>exact hnw j (qY h)
 |add a b=>exact Zoo _ _
 |to=>cases h
 |arg _=>cases h
end
def cN:GNm:=⟨0,0,[],fun _ _=>0,fun _ _=>[],fun _ _=>[],fun _ _=>[],[],[],0⟩
def cR(r:Nat):GC:=⟨cN,pAt r,pAt r,.slice none 1000 1000,fun _=>.bool false⟩
noncomputable def tabRt:List GE:=
  [⟨46,z0c zP Tryz.f46,zmo⟩,⟨47,z0c zP Tryz.f47,zrx⟩,⟨48,z0c zP Tryz.f48,zn3⟩,
   ⟨49,z0c zP Tryz.f49,zco⟩,⟨50,z0c zP Tryz.f50,zmz⟩,⟨52,z0c zP Tryz.f52,zg7⟩,
   ⟨93,z0c zP Tryz.f93,zij⟩,⟨94,z0c zP Tryz.f94,zs4⟩,⟨95,z0c zP Tryz.f95,zrp⟩,
   ⟨96,z0c zP Tryz.f96,zrd⟩,⟨98,z0c zP Tryz.f98,znu⟩,⟨61,z0c zP Tryz.f61,zrt⟩,⟨64,z0c zP Tryz.f64,zft⟩]
theorem GE.c{P:Program}{e:GE}{l:List GE}(h1:e.Ok P)(h2:∀e∈l,e.Ok P):∀d∈e::l,d.Ok P:=fun d hd=>by
 rcases zmc.1 hd with rfl|h
 .exact h1
 .exact h2 d h
theorem Znc:∀e∈tabRt,e.Ok zP:=
 GE.c ⟨(qb 46),@Z8x⟩<|GE.c ⟨(qb 47),@Zd2⟩<|GE.c ⟨(qb 48),@Zba⟩<|GE.c ⟨(qb 49),@zz8⟩<|GE.c ⟨(qb 50),@Zbb⟩<|GE.c ⟨(qb 52),@Z3x⟩<|GE.c ⟨(qb 93),@Z7u⟩<|GE.c ⟨(qb 94),@Zd6⟩<|GE.c ⟨(qb 95),@Zeu⟩<|GE.c ⟨(qb 96),@Zec⟩<|GE.c ⟨(qb 98),@Z8s⟩<|GE.c ⟨(qb 61),@Zd4⟩<|GE.c ⟨(qb 64),@Z38⟩<|fun _ h=>nomatch h
noncomputable def tabF(t:List GE)(f:FuncId):Option GE:=t.find? fun e=>decide (e.f=f)
theorem Zfi{P:Program}{t:List GE}(h:∀e∈t,e.Ok P)(f:FuncId)(e:GE)(he:tabF t f=some e):e.f=f∧e.Ok P:=
 ⟨qY (List.find?_some (p:=fun e:GE=>decide (e.f=f)) he),h e (List.mem_of_find?_eq_some he)⟩
def cutF:Fm VE→Fm VE
 | .call f a r p k=>.call f a r p (cutF k)
 | .loop i t v b=>.loop i t v (cutF b)
 | .ite c a b=>.ite c (cutF a) (cutF b)
 | .chk _ (.some _) _=>.leaf (.tu [])
 |o=>o
def bodyN:Fm VE→Fm VE
 | .new _ _ k=>k
 |o=>o
def tailF(k:Nat):Fm VE:=.chk [] (.some (.atom 0)) (.load (.padd (.atom 0) 0) [.sl] (.leaf (.sc (.atom k))))
noncomputable def codeO(fm:Fm VE):Option (GOut×GSt):=gI 1000 (tabF tabRt) (prE 1000) 400 (cutF (bodyN fm)) none [.pg] ⟨[],0,100000⟩
def okO(k:Nat):Option (GOut×GSt)→Bool
 |some (.ret none (.pg::G),_)=>decide (G.length+1=k)
 |_=>false
def Z1j:Option (GOut×GSt)→List ItemR
 |some (_,st)=>st.segs.flatMap (GS.l cN)
 |none=>[]
theorem Z9w{f:FuncId}{fn:Func}{fm:Fm VE}(ht:TriOf zP f fn fm)(hn:z0c zP fn=[])(k:Nat)(hfm:fm=.new 98 [.nil 1] ((cutF (bodyN fm)).bind fun _=>tailF k))(hok:okO k (codeO fm)=true)(S:PH):
  Tri zP f #[] S fun e K'=>∃v,e=.returned v∧SlR K' (Z1j (codeO fm)) v∧PH.le S K':=by
 refine ht [] (by rw[hn];rfl) (by rw[hn];rfl) ?_;cases hO:codeO fm with
 |none=>rw[hO]at hok;cases hok
 |some o=>
 obtain⟨out,st1⟩:=o;rw[hO]at hok;unfold okO at hok;split at hok
 case h_2=>cases hok
 rename_i G st2 heq;cases heq;have hk:=qY hok;rw[hfm];refine z1d (vs:=[.slice none 0 0]) (Held.nil (wy S)) kr fun r K1 l1 h1=>?_;have e0:EmH S K1 r 98 [] [] (0+100000) []:=⟨dC,S,_,wy S,(h1.empty (α:=ItemR) 131).perm (qq _ _ _)⟩;rw[Z6i];have hG:GOk zP (cR r) 1000 (tabF tabRt) (prE 1000) fun st H=>st.nl=0∧EmH S H r 98 [] (st.segs.flatMap (GS.l cN)) (0+st.left) []:=by
  refine⟨Zfi Znc,⟨r,rfl⟩,⟨r,rfl⟩,rfl,rfl,fun _ _ h=>absurd h dC,fun _ _ _ h=>absurd h dC,?_⟩;intro f az st v st2 hp;unfold prE at hp;split at hp
  case h_2=>cases hp
  rename_i ws;split at hp
  case h_2=>cases hp
  rename_i l0 hl;split at hp
  case h_2=>cases hp
  rename_i ss hs;split at hp
  case isFalse=>cases hp
  rename_i hq;cases hp;simp only[zba,zdt,zat]at hq;have key:st.nl=0→∀k K,EmH S K r 98 [] (st.segs.flatMap (GS.l cN)) (k+ss.length) []→Tri zP f (pAt r::l0.map fun g=>.int .i64 (g.v cN)).toArray K (EmQ S r 98 [] (st.segs.flatMap (GS.l cN)++ss.flatMap (GS.l cN)) k []):=
   fun hn=>Zk0 hs fun g hg=>GI.ok_v (hq.1 g hg) (by decide:InI 0) (fun _ _ _ _=>(by decide:InI 0)) fun j hj=>absurd hj om
  refine⟨(Zjh hs),fun vs H hv hI=>?_⟩;cases hv with
  |cons hv1 hv2=>
  rw[Zam hl hv2,show _=_ from z3n hv1];refine(key hI.1 (0+(st.left-ss.length)) H (by rw[show 0+(st.left-ss.length)+ss.length=0+st.left by omega];exact hI.2)).mono fun e H'⟨h1,h2⟩=>⟨_,h1,rfl,hI.1,?_⟩;rw[List.flatMap_append];exact h2
 refine gI_ok hG 400 _ [.pg] ⟨[],0,100000⟩ _ _ hO _ _ _ _ _ (.cons rfl .nil) ⟨rfl,by simpa using e0⟩ ?_;intro x E H L hE _ hI;obtain⟨_,_,S',iv,hS,h7⟩:=hI;have hr:=h7.row (e:=131) (l:=st1.segs.flatMap (GS.l cN)) (v:=iv) sM;obtain⟨b,c,hiv⟩:=hr.sl;obtain⟨v0,E0,rfl,hv0,hE2⟩:∃v0 E0,E=v0::E0∧v0=pAt r∧All2 (GV.rel (cR r)) G E0:=by
  cases hE with
  |cons h1 h2=>exact⟨_,_,rfl,h1,h2⟩
 have hlen:=hE2.len2;subst hv0;refine⟨fun _=>rfl,[iv],by rw[hiv];rfl,z1k h7 (zms) 0 1,iv,?_,?_,wx hS h7.sh⟩
 .show Ending.returned (ev0 (pAt r::(E0++[iv])) (.atom k))=_;have:(pAt r::(E0++[iv]))[k]?=some iv:=by rw[←hk,List.getElem?_cons_succ,←hlen];simp
  simp[ev0,ev,zgd,this]
 .rw[show Z1j (some (.ret none (.pg::G),st1))=st1.segs.flatMap (GS.l cN)from rfl];exact hr.slR h7.sh
noncomputable def rt_codeR:List ItemR:=Z1j (codeO zr5)
noncomputable def gc_codeR:List ItemR:=Z1j (codeO zrc)
theorem Z1y(S:PH):Tri zP 17 #[] S fun e K'=>∃v,e=.returned v∧SlR K' rt_codeR v∧PH.le S K':=
 Z9w @Zcp kr 2 kr kr S
theorem Z0d(S:PH):Tri zP 18 #[] S fun e K'=>∃v,e=.returned v∧SlR K' gc_codeR v∧PH.le S K':=
 Z9w @Zd3 kr 3 kr kr S
structure PrcX.Fit(p:PrcX):Prop where
 n:p.blocks.length≤20000000
 ins:∀b∈p.blocks,b.ins.length≤20000000
 regs:p.regl.length≤20000000
theorem Z5i{p:PrcX}(h:p.Fit):(readL p).length≤20000000:=by
 have:=Z8l p.regl [];have:=h.regs;unfold readL;simp only[zln]at *;omega
noncomputable def inL(p:PrcX):List (List Int):=(List.range p.blocks.length).map fun i=>liveL p i 0
theorem Zpe(p:PrcX):(inL p).length=p.blocks.length:=by simp[inL]
noncomputable def behL(p:PrcX)(i:Nat)(b:BlkX):List (List Int):=(List.range b.ins.length).map fun k=>liveL p i (k+1)
noncomputable def zbx(p:PrcX)(block:Int):List (List Int):=match(if block<0 then none else p.blocks[block.toNat]?)with
 |some b=>behL p block.toNat b
 |none=>[]
def BlkX.crosses(b:BlkX)(n:Nat):Prop:=b.e.calls=true∧0≤b.e.next∧b.e.next<(n:Int)
instance (b:BlkX)(n:Nat):Decidable (b.crosses n):=by unfold BlkX.crosses;exact inferInstance
noncomputable def z0w(p:PrcX)(block:Int):List Int:=match(if block<0 then none else p.blocks[block.toNat]?)with
 |some b=>if b.crosses p.blocks.length then(liveL p b.e.next.toNat 0).filter (fun x=>decide (x≠b.e.to))else[]
 |none=>[]
theorem Z90{p:PrcX}{block:Int}(h:block<0∨(p.blocks.length:Int)≤block):z0w p block=[]:=by
 unfold z0w;by_cases h0:block<0
 .rw[qj h0]
 .rw[qc h0,ww om]
theorem Zhc{p:PrcX}{i:Nat}{b:BlkX}(hb:p.blocks[i]?=some b):z0w p (i:Int)=if b.crosses p.blocks.length then(liveL p b.e.next.toNat 0).filter (fun x=>decide (x≠b.e.to))else[]:=by
 unfold z0w;rw[qc om,qM,hb]
theorem z8b{α:Type}[Enc α](S:PH):SlR S ([]:List α) (.slice none 0 0):=SlR.mk_iff.2 ⟨Nat.zero_le _,.inl ⟨rfl,rfl⟩⟩
theorem zut{p:PrcX}(h:p.Fit)(i a:Nat):(liveL p i a).length≤20000000:=Nat.le_trans (List.length_filter_le _ _) (Z5i h)
section
variable {P:Program}{D:Prot}{H0:PH}{w0:World}{X:List PanicEntry→PH→Prop}
theorem Zmx{m:Nat}{o:Oper}{a:Act}{w:World}{K K':Act→World→Prop}{Q Q':Exit→Act→World→Prop}(hK:∀a w,K a w→K' a w)(hP:∀ch a w,Q (.panic ch) a w→Q' (.panic ch) a w)(hO:¬LetsOut Q)(h:o.wp P a w K Q):o.wpIn Fence.wide m P a w K' Q':=by
 refine⟨fun _ _=>trivial,?_⟩;show o.uponIn _ _ _ _ _ _ ((o.semAt none a.eval).run P w);rw[Oper.semAt_none];unfold Oper.wp at h;generalize(execOp a.eval o).run P w=res at h⊢;cases res with
 |ok x w'=>
  cases x
  case enter f args=>
   refine⟨fun h=>absurd h (by simp[Fence.wide]),callsIn_wide.2 (Calls.mono h fun e w'' he=>?_)⟩;cases e with
   |returned v=>exact hK _ _ he
   |panicked ch=>exact hP _ _ _ he
   |outgrown=>exact absurd he hO
  case row rw args=>
   refine⟨fun h=>absurd h (by simp[Fence.wide]),?_⟩;intro c cs _;obtain⟨v,w1,r,s⟩:=h c cs;exact⟨v,w1,hK _ _ r,stepsIn_wide.2 s⟩
  all_goals first|exact hK _ _ h|exact h.elim
 |halt x w'=>cases x<;>first|exact hP _ _ _ h|exact h
theorem zzt{m:Nat}{ops:Array Oper}{Q Q':Exit→Act→World→Prop}{post:List Oper}(hO:¬LetsOut Q)(hN:∀a w,Q .normal a w→wpListIn Fence.wide m P ops Q' post a w)(hP:∀ch a w,Q (.panic ch) a w→Q' (.panic ch) a w):
  ∀(os:List Oper)(a:Act)(w:World),wpList P ops Q os a w→wpListIn Fence.wide m P ops Q' (os++post) a w
 | [],a,w,h=>hN a w h
 |o::os,a,w,h=>by
  rw[List.cons_append];unfold wpList at h;unfold wpListIn;split at h
  .rename_i hw;rw[qj hw];rcases h with h|h
   .exact Zmx (fun a w h=>zzt hO hN hP os a w h) hP hO h
   .exact absurd h.2 hO
  .rename_i hw;rw[qc hw];exact⟨fun _ _=>trivial,zzt hO hN hP os _ w h⟩
theorem Zhp{m:Nat}{id:Nat}{ops:Array Oper}{pre post:List Oper}{st:St}{E:List Value}{r:Nat→Nat}{H:PH}{a:Act}{w:World}{L:LK}{K:St→List Value→PH→LK→Prop}{Q:Exit→Act→World→Prop}(hs:ops.toList=pre++post)(hm:∀o∈pre,D.may o)
  (hR:Rel D H0 w0 st E r H a w) (hden:den P X (z5z P [] ops 400 pre st) E H L K) (hK:∀st' F r' H' a' w',Rel D H0 w0 st' (E++F) r' H' a' w'→K st' (E++F) H' L→wpListIn Fence.wide m P ops Q post a' w')
  (hX:∀ch a' w',PanOf H0 w0 X ch w'→D.ok a'→Q (.panic ch) a' w'):(Code.region id ops false).wpIn Fence.wide m P Q a w:=by
 refine wpIn_region_list ?_;rw[hs];refine zzt (Q:=QX D H0 w0 X fun a w=>wpListIn Fence.wide m P ops Q post a w) zyq (fun a w h=>h) (fun ch a w h=>hX ch a w h.1 h.2) pre a w ?_;exact zt0 400 pre hm st E r H a w _ hR hden (fun st' F r' H' a' w' _ h2 h3=>hK st' F r' H' a' w' h2 h3) fun ch a' w' h1 h2=>⟨h1,h2⟩
theorem zym{m:Nat}{c:Code}{st:St}{E:List Value}{r:Nat→Nat}{H:PH}{a:Act}{w:World}{L:LK}{K:Ex×St→List Value→PH→LK→Prop}{Q:Exit→Act→World→Prop}(hm:∀o∈z61 c,D.may o)
  (hR:Rel D H0 w0 st E r H a w) (hden:den P X (execC P {} c st) E H L K)
  (hK:∀e st' F r' H' L' a' w',Rel D H0 w0 st' (E++F) r' H' a' w'→K (e,st') (E++F) H' L'→Q (exOf e) a' w') (hX:∀ch a' w',PanOf H0 w0 X ch w'→D.ok a'→Q (.panic ch) a' w'):c.wpIn Fence.wide m P Q a w:=
 z89 (ro:=none) (op:={}) rfl (fun _ g ps asg b=>Z9p rfl g ps asg b) (zm7 P _) c hm m st E r H a w L K Q hR hden (fun e st' F r' H' L' a' w' h1 _ _ h4=>hK e st' F r' H' L' a' w' h1 h4) hX
end
def bkFr(e3:VE):List Ent:=[⟨[],.sc (.atom 0)⟩,⟨[],.sc (.atom 1)⟩,⟨[],.junk⟩,⟨[],e3⟩]++List.replicate 15 ⟨[],.junk⟩
def bkS0:St:={ fr:=bkFr .junk,bx:=[],nb:=0,nl:=0,tags:=[.any,.ptr],asu:=[],kn:=[],its:=[] }
def bkS1:St:={ fr:=bkFr (.sc (.atom 2)),bx:=[],nb:=0,nl:=0,tags:=[.any,.ptr,.int .i64],asu:=[],kn:=[],its:=[] }
def lastE:Fm (Ex×St)→St
 | .leaf x=>x.2
 | .load _ _ k=>lastE k
 | .chk _ _ k=>lastE k
 |_=>bkS0
def lastS:Fm St→St
 | .leaf x=>x
 | .load _ _ k=>lastS k
 | .chk _ _ k=>lastS k
 |_=>bkS0
noncomputable def bkB:Code×Code×Code×Nat×Array Oper:=match Tryz.f220.body with
 |some (.seq r0 (.block _ (.loop (.seq (.seq r1 _) (.seq (.block _ (.seq (.region i ops _) _)) r2)))))=>(r0,r1,r2,i,ops)
 |_=>(.skip,.skip,.skip,0,#[])
theorem Zqs:Tryz.f220.body=some (.seq bkB.1 (.block 0 (.loop (.seq (.seq bkB.2.1 (.cond (.tmp 8) .skip (.exit 0))) (.seq (.block 1 (.seq (.region bkB.2.2.2.1 bkB.2.2.2.2 false) (.cond (.tmp 18) .ret .skip))) bkB.2.2.1))))):=kr
abbrev Zpw:List Tag:=[.str,.int .i64,.sl,.int .i64,.int .i64,.str,.sl,.int .i64]
noncomputable def bkSA:St:=lastE (execC zP {} bkB.1 bkS0)
noncomputable def bkSB:St:=lastE (execC zP {} bkB.2.1 bkS1)
noncomputable def bkSC:St:=lastS (z5z zP [] bkB.2.2.2.2 400 (bkB.2.2.2.2.toList.take 6) bkS1)
noncomputable def bkSD:St:=lastE (execC zP {} bkB.2.2.1 bkS1)
theorem Zqt:execC zP {} bkB.1 bkS0=.load (.atom 1) [.sl] (.leaf (.normal,bkSA)):=kr
theorem Zpu:execC zP {} bkB.2.1 bkS1=.leaf (.normal,bkSB):=kr
theorem Zqh:z5z zP [] bkB.2.2.2.2 400 (bkB.2.2.2.2.toList.take 6) bkS1=.load (.atom 1) [.sl] (.chk [] (.inSl (.atom 3) (.atom 2)) (.load (.elt (.atom 3) (.atom 2) 8) Zpw (.leaf bkSC))):=kr
theorem Zqx:execC zP {} bkB.2.2.1 bkS1=.leaf (.normal,bkSD):=kr
theorem Zql:bkSA.fr[0]?=some ⟨[],.sc (.atom 0)⟩∧bkSA.fr[1]?=some ⟨[],.sc (.atom 1)⟩∧bkSA.fr[3]?=some ⟨[],.sc (.ar .sub .i64 (.len (.atom 2)) (.int .i64 1))⟩∧bkSA.fr.length=19:=⟨kr,kr,kr,kr⟩
theorem Zr2:bkSB.fr[0]?=some ⟨[],.sc (.atom 0)⟩∧bkSB.fr[1]?=some ⟨[],.sc (.atom 1)⟩∧bkSB.fr[3]?=some ⟨[],.sc (.atom 2)⟩∧bkSB.fr[8]?=some ⟨[],.sc (.cmp .geq (.atom 2) (.int .i64 0))⟩∧bkSB.fr.length=19:=⟨kr,kr,kr,kr,kr⟩
theorem Zqr:bkSC.fr[0]?=some ⟨[],.sc (.atom 0)⟩∧bkSC.fr[1]?=some ⟨[],.sc (.atom 1)⟩∧bkSC.fr[3]?=some ⟨[],.sc (.atom 2)⟩∧bkSC.fr[11]?=some ⟨[],.sc (.atom 0)⟩∧bkSC.fr[12]?=some ⟨[],.sc (.atom 2)⟩∧bkSC.fr[16]?=some ⟨[],.ag [.atom 4,.atom 5,.atom 6,.atom 7,.atom 8,.atom 9,.atom 10,.atom 11]⟩∧bkSC.fr.length=19:=⟨kr,kr,kr,kr,kr,kr,kr⟩
theorem Zqd:bkSD.fr[0]?=some ⟨[],.sc (.atom 0)⟩∧bkSD.fr[1]?=some ⟨[],.sc (.atom 1)⟩∧bkSD.fr[3]?=some ⟨[],.sc (.ar .sub .i64 (.atom 2) (.int .i64 1))⟩∧bkSD.fr.length=19:=⟨kr,kr,kr,kr⟩
noncomputable def bkO7 : Oper := (bkB.2.2.2.2.toList.drop 6).headD { dst := none, op := .nilCheck (.tmp 0), type := 0, pos := "", after := #[], guard := none }
noncomputable def bkO8 : Oper := (bkB.2.2.2.2.toList.drop 7).headD { dst := none, op := .nilCheck (.tmp 0), type := 0, pos := "", after := #[], guard := none }
noncomputable def bkTs:Array TypeId:=match bkO7.op with
 | .call c=>c.argTypes
 |_=>#[]
theorem Zkt:bkB.2.2.2.2.toList=bkB.2.2.2.2.toList.take 6++[bkO7,bkO8]:=kr
theorem bkO7_op:bkO7.op=.call { callee:=.value (.tmp 11),args:=#[.tmp 12,.tmp 16],argTypes:=bkTs }∧bkO7.dst=some 17∧bkO7.guard=none:=⟨kr,kr,kr⟩
theorem bkO8_op:bkO8.dst=some 18∧bkO8.guard=none:=⟨kr,kr⟩
theorem Zal{a:Act}{d t:Nat}{v:Value}(h:t≠d):(a.put (some d) v).tmps.getD t undef=a.tmps.getD t undef:=by
 simp only[Act.put,Array.getD_eq_getD_getElem?,Array.getElem?_setIfInBounds,qc (Ne.symm h)]
theorem Z9o{a:Act}{d:Nat}{v:Value}(h:d<a.tmps.size):(a.put (some d) v).tmps.getD d undef=v:=by
 simp[Act.put,Array.getD_eq_getD_getElem?,h]
theorem zaf{a:Act}{t:Nat}:a.eval (.tmp t)=a.tmps.getD t undef:=rfl
theorem zwf{e3:VE}{t:Nat}{e:Ent}(he:(bkFr e3)[t]?=some e)(hj:e.v=.junk→False):(t=0∧e=⟨[],.sc (.atom 0)⟩)∨(t=1∧e=⟨[],.sc (.atom 1)⟩)∨(t=3∧e=⟨[],e3⟩):=by
 unfold bkFr at he;rcases t with _|_|_|_|t
 .simp at he;exact .inl ⟨rfl,he.symm⟩
 .simp at he;exact .inr (.inl ⟨rfl,he.symm⟩)
 .simp at he;rw[←he]at hj;exact absurd rfl (fun h=>hj h)
 .simp at he;exact .inr (.inr ⟨rfl,he.symm⟩)
 .simp only[cns,List.getElem?_cons_succ,List.getElem?_replicate]at he;split at he
  .cases he;exact absurd rfl (fun h=>hj h)
  .cases he
theorem Zpg{H:PH}{w:World}{a:Act}{y pv:Value}(hv:Vis H w)(hs:a.tmps.size=19)(hd:a.defers=[])(h0:a.tmps.getD 0 undef=y)(h1:a.tmps.getD 1 undef=pv)(hy:Tag.any.ok y=true)(hp:Tag.ptr.ok pv=true):Rel (.plain []) H w bkS0 [y,pv] (fun _=>0) H a w:=by
 refine { adv:=.refl hv,tags:=by simp[bkS0,z07,hy,hp],size:=hs,df:=hd,wk:=trivial,fr:=?_,bx:=fun _ h=>(by cases h),inj:=fun _ h=>(by cases h),nd:=List.nodup_nil,asu:=fun _ h=>(by cases h),kn:=fun _ h=>(by cases h) };intro t e he hj;have hg:e.g=[]:=by rcases zwf he hj with⟨_,rfl⟩|⟨_,rfl⟩|⟨_,rfl⟩<;>rfl
 rw[hg];refine⟨fun _=>?_,fun h=>absurd (fun x hx=>by cases hx) h⟩;rcases zwf he hj with⟨rfl,rfl⟩|⟨rfl,rfl⟩|⟨rfl,rfl⟩
 .rw[h0];rfl
 .rw[h1];rfl
 .exact absurd rfl (fun h=>hj h)
theorem Z3m{H:PH}{w:World}{a:Act}{y pv:Value}{i:Int}(hv:Vis H w)(hs:a.tmps.size=19)(hd:a.defers=[])(h0:a.tmps.getD 0 undef=y)(h1:a.tmps.getD 1 undef=pv)(h3:a.tmps.getD 3 undef=.int .i64 i)(hy:Tag.any.ok y=true)(hp:Tag.ptr.ok pv=true):Rel (.plain []) H w bkS1 [y,pv,.int .i64 i] (fun _=>0) H a w:=by
 refine { adv:=.refl hv,tags:=?_,size:=hs,df:=hd,wk:=trivial,fr:=?_,bx:=fun _ h=>(by cases h),inj:=fun _ h=>(by cases h),nd:=List.nodup_nil,asu:=fun _ h=>(by cases h),kn:=fun _ h=>(by cases h) }
 .show(Tag.any.ok y&&(Tag.ptr.ok pv&&((Tag.int .i64).ok (.int .i64 i)&&true)))=true;rw[hy,hp];rfl
 intro t e he hj;have hg:e.g=[]:=by rcases zwf he hj with⟨_,rfl⟩|⟨_,rfl⟩|⟨_,rfl⟩<;>rfl
 rw[hg];refine⟨fun _=>?_,fun h=>absurd (fun x hx=>by cases hx) h⟩;rcases zwf he hj with⟨rfl,rfl⟩|⟨rfl,rfl⟩|⟨rfl,rfl⟩
 .rw[h0];rfl
 .rw[h1];rfl
 .rw[h3];rfl
theorem z3q{D:Prot}{H0:PH}{w0:World}{st:St}{E:List Value}{r:Nat→Nat}{H:PH}{a:Act}{w:World}(hR:Rel D H0 w0 st E r H a w){t:Nat}{ve:VE}(he:st.fr[t]?=some ⟨[],ve⟩)(hj:ve=.junk→False):a.tmps.getD t undef=evV E r ve:=
 (hR.fr t _ he hj).1 fun x hx=>by cases hx
noncomputable def bkT8:TypeId:=match bkO8.op with
 | .unOp _ t _=>t
 |_=>0
theorem Zmn:bkO8.op=.unOp .not bkT8 (.tmp 17):=kr
theorem Zme{ρ:Operand→Value}{w:World}(h:ρ (.tmp 17)=.bool true):(execOp ρ bkO8).run zP w=.ok (.value (.bool false)) w:=by
 rw[zvb,Zmn];simp[execOp,bare,h,Op.unary,Sem.run_bind,Result.andThen]
theorem Znn{ρ:Operand→Value}{w:World}{l:Nat}{x y:Value}{fn:FuncId}{tmps:Array Value}{asg body:Code}(h11:ρ (.tmp 11)=.func (.yield l) #[] #[])(h12:ρ (.tmp 12)=x)(h16:ρ (.tmp 16)=y)(hy:(Instr.yield l #[x,y]).run zP w=.ok (.round l fn tmps asg body) w):
  (execOp ρ bkO7).run zP w=.ok (.round l fn tmps asg body) w:=by
 rw[zvb,bkO7_op.1];simp[execOp,bare,resolve,h11,h12,h16,invoke,go_sem,hy]
theorem SlR.fn{α:Type}[Enc α]{H:PH}{l:List α}{v:Value}(h:SlR H l v):∃f:Nat→List Value,∀i a,l[i]?=some a→CsR H a (f i)∧rowAt H (pOf (eltV v (i:Int) (sz α))) (f i):=by
 have:∀i:Nat,∃cs:List Value,∀a,l[i]?=some a→CsR H a cs∧rowAt H (pOf (eltV v (i:Int) (sz α))) cs:=by
  intro i;cases hi:l[i]? with
  |none=>exact⟨[],fun a h=>by cases h⟩
  |some a=>
   obtain⟨_,_,cs,h1,h2⟩:=h.get hi;exact⟨cs,fun a' h'=>by cases h';exact⟨h1,h2⟩⟩
 exact⟨fun i=>(this i).choose,fun i=>(this i).choose_spec⟩
theorem zsn(l:List InsX)(S:PH)(ad:Option Addr)(sv:Value)(hp:rowAt S ad [sv])(hs:SlR S l sv)(hl:l.length≤40000000)(cells:Nat→List Value)(hc:∀i a,l[i]?=some a→CsR S a (cells i)∧rowAt S (pOf (eltV sv (i:Int) 8)) (cells i)):
  Iter zP (.func (.func 220) #[] #[.pointer ad]) S l.length (fun j=>[vi ((l.length-1-j:Nat):Int),.agg (cells (l.length-1-j)).toArray]):=by
 have hcb:callB zP 220=true:=kr;obtain⟨sb,sc,rfl⟩:=hs.sl;refine⟨_,_,rfl,zlw hcb,fun lr I H W hSH hmono hv hround h0=>(callsIn_wide (n:=0)).1 ?_⟩;refine callsIn_of_wp Tryz.func220 Zqs trivial ?_;have hnt:Tryz.f220.ntmps=19:=kr;rw[hnt];obtain⟨y,hy⟩:∃y,y=Value.func (.yield lr) #[] #[]:=⟨_,rfl⟩;rw[←hy];have hyt:Tag.any.ok y=true:=by rw[hy];rfl
 refine wpIn_seq ?_;refine zym (D:=.plain []) (X:=fun _ _=>False) (L:=[]) (K:=fun x E' H' _=>x=(.normal,bkSA)∧H'=H∧E'=[y,.pointer ad,.slice sb l.length sc]) (fun o _=>Prot.plain_may [] o) (Zpg (pv:=.pointer ad) hv sM rfl sM sM hyt rfl) ?_ ?_ (fun ch a' w' h=>by obtain⟨_,_,h⟩:=h;exact h.elim)
 .rw[Zqt];exact⟨[_],rfl,z0p hSH hp,rfl,rfl,rfl⟩
 rintro e st' F r' H' L' a1 W1 hR1 ⟨h1,rfl,hE⟩;cases h1;obtain⟨f0,f1,f3,f4⟩:=Zql;have t0:=z3q hR1 f0 (fun h=>by cases h);have t1:=z3q hR1 f1 (fun h=>by cases h);have t3:=z3q hR1 f3 (fun h=>by cases h);have hsz:=hR1.size;rw[hE]at t0 t1 t3;rw[f4]at hsz;have hadv1:Adv H' W H' W1:=hR1.adv;have hdf1:a1.defers=[]:=hR1.df;show(Code.block 0 _).wpIn _ _ _ _ _ _;refine wpIn_block ?_;refine wpIn_loop (fun a w=>∃(j:Nat)(Hj:PH),j≤l.length∧a.tmps.size=19∧a.defers=[]∧a.tmps.getD 0 undef=y∧a.tmps.getD 1 undef=.pointer ad∧a.tmps.getD 3 undef=.int .i64 ((l.length:Int)-1-j)∧Adv H' W Hj w∧I j Hj) (fun a _=>match a.tmps.getD 3 undef with | .int _ n=>(n+1).toNat|_=>0) ?_ ?_
 .refine⟨0,H',Nat.zero_le _,hsz,hdf1,t0,t1,?_,hadv1,h0⟩;rw[t3];simp only[wz];rw[w64 om om];simp
 rintro a w ⟨j,Hj,hj,q1,q2,q3,q4,q5,q6,q7⟩;have hSj:=hmono j Hj q7;have hRa:=Z3m q6.vis q1 q2 q3 q4 q5 hyt rfl;refine wpIn_seq (wpIn_seq ?_);refine zym (D:=.plain []) (X:=fun _ _=>False) (L:=[]) (K:=fun x E' H' _=>x=(.normal,bkSB)∧H'=Hj∧E'=[y,.pointer ad,vi ((l.length:Int)-1-j)]) (fun o _=>Prot.plain_may [] o) hRa ?_ ?_ (fun ch a' w' h=>by obtain⟨_,_,h⟩:=h;exact h.elim)
 .rw[Zpu];exact⟨rfl,rfl,rfl⟩
 rintro e st' F r2 H2 L2 a2 w2 hR2 ⟨h1,rfl,hE2⟩;cases h1;obtain⟨f0,f1,f3,f8,f4⟩:=Zr2;have u0:=z3q hR2 f0 (fun h=>by cases h);have u1:=z3q hR2 f1 (fun h=>by cases h);have u3:=z3q hR2 f3 (fun h=>by cases h);have u8:=z3q hR2 f8 (fun h=>by cases h);have hsz2:=hR2.size;rw[hE2]at u0 u1 u3 u8;rw[f4]at hsz2;have hadv2:Adv H' W H2 w2:=q6.trans hR2.adv;have hdf2:a2.defers=[]:=hR2.df;have hc8:a2.eval (.tmp 8)=.bool (decide ((l.length:Int)-1-j≥0)):=by
  rw[zaf,u8];simp only[wz]
 show(Code.cond _ _ _).wpIn _ _ _ _ _ _;by_cases hjl:j<l.length
 .have hc8':a2.eval (.tmp 8)=.bool true:=by rw[hc8,qW om]
  refine wpIn_cond_true hc8' (wpIn_skip ?_);show(Code.seq _ _).wpIn _ _ _ _ _ _;obtain⟨idx,hidx⟩:∃idx:Nat,idx=l.length-1-j:=⟨_,rfl⟩;have hi3:((l.length:Int)-1-j)=(idx:Int):=om;have hil:idx<l.length:=om;obtain⟨x,hx⟩:∃x,l[idx]?=some x:=⟨_,zge hil⟩;obtain⟨hcr,hcrow⟩:=hc idx x hx;obtain⟨z1,_⟩:=hs.get hx;obtain⟨av,dv,hcell,y1,y2,ya,y4,y5,y6,yd,y8⟩:=ins_iff.1 hcr;obtain⟨ab,ac,rfl⟩:=ya.sl;obtain⟨db,dc,rfl⟩:=yd.sl;have hR2':=Z3m (i:=(idx:Int)) hadv2.vis hsz2 hdf2 u0 u1 (by rw[u3];simp only[wz];rw[hi3]) hyt (rfl:Tag.ptr.ok (.pointer ad)=true);refine wpIn_seq (wpIn_block (wpIn_seq ?_));refine Zhp (D:=.plain []) (X:=fun _ _=>False) (L:=[]) (K:=fun st E' H' _=>st=bkSC∧H'=H2∧E'=[y,.pointer ad,vi (idx:Int),.slice sb l.length sc]++cells idx) Zkt (fun o _=>Prot.plain_may [] o) hR2' ?_ ?_ (fun ch a' w' h=>by obtain⟨_,_,h⟩:=h;exact h.elim)
  .rw[Zqh];refine⟨[_],rfl,z0p hSj hp,fun _=>?_,cells idx,by rw[hcell];rfl,?_,rfl,rfl,rfl⟩
   .simp only[Chk.holds,wz];exact⟨z1,om,om⟩
   .simp only[wz];exact z0p hSj hcrow
  rintro st' F3 r3 H3 a3 w3 hR3 ⟨rfl,rfl,hE3⟩;obtain⟨g0,g1,g3,g11,g12,g16,g4⟩:=Zqr;have s0:=z3q hR3 g0 (fun h=>by cases h);have s1:=z3q hR3 g1 (fun h=>by cases h);have s3:=z3q hR3 g3 (fun h=>by cases h);have s11:=z3q hR3 g11 (fun h=>by cases h);have s12:=z3q hR3 g12 (fun h=>by cases h);have s16:=z3q hR3 g16 (fun h=>by cases h);have hsz3:=hR3.size;rw[hE3]at s0 s1 s3 s11 s12 s16;rw[g4]at hsz3;have hadv3:Adv H' W H3 w3:=hadv2.trans hR3.adv;have hdf3:a3.defers=[]:=hR3.df;have e16:a3.eval (.tmp 16)=.agg (cells idx).toArray:=by
   rw[zaf,s16,hcell];rfl
  refine wpListIn_plain bkO7_op.2.2 fun K hK=>?_;refine⟨fun _ _=>trivial,?_⟩;show Oper.uponIn _ _ _ _ _ _ _ ((bkO7.semAt none a3.eval).run _ w3);obtain⟨fn,tmps,asg,body,hyl,hrd⟩:=hround j H3 w3 hjl q7 hadv3 0;have hyl:(Instr.yield lr #[vi (idx:Int),.agg (cells idx).toArray]).run zP w3=.ok (.round lr fn tmps asg body) w3:=by rw[hidx];exact hyl
  rw[Oper.semAt_none,Znn (l:=lr) (x:=.int .i64 (idx:Int)) (y:=.agg (cells idx).toArray) (by rw[zaf,s11,←hy];rfl) (by rw[zaf,s12];rfl) e16 hyl];refine⟨fun h=>absurd h (by simp[Fence.wide]),?_⟩;refine RoundIn.mono (show RoundIn Fence.wide _ _ _ _ _ _ _ _ _ from hrd) ?_;rintro e W4 ⟨rfl,H4,hadv4,hI4⟩;refine hK _ _ ?_;rw[bkO7_op.2.1];have hsz17:17<a3.tmps.size:=by rw[hsz3];decide
  refine wpListIn_plain bkO8_op.2 fun K2 hK2=>?_;refine⟨fun _ _=>trivial,?_⟩;show Oper.uponIn _ _ _ _ _ _ _ ((bkO8.semAt none _).run _ W4);rw[Oper.semAt_none,Zme (by rw[zaf];exact Z9o hsz17)];show K2 _ W4;refine hK2 _ _ ?_;rw[bkO8_op.1];obtain⟨a5,ha5⟩:∃a5,a5=(a3.put (some 17) (.bool true)).put (some 18) (.bool false):=⟨_,rfl⟩;have hsz4:(a3.put (some 17) (.bool true)).tmps.size=19:=by simp[Act.put,hsz3]
  have hsz5:a5.tmps.size=19:=by rw[ha5];simp[Act.put,hsz3]
  have hg5:∀t,t≠17→t≠18→a5.tmps.getD t undef=a3.tmps.getD t undef:=fun t h1 h2=>by rw[ha5,Zal h2,Zal h1]
  have h18:a5.eval (.tmp 18)=.bool false:=by rw[zaf,ha5];exact Z9o (by rw[hsz4];decide)
  rw[←ha5];show(Code.cond _ _ _).wpIn _ _ _ _ _ _;refine wpIn_cond_false h18 (wpIn_skip ?_);show Code.wpIn _ _ _ bkB.2.2.1 _ _ _;have hdf5:a5.defers=[]:=by rw[ha5];exact hdf3
  have hR5:=Z3m (i:=(idx:Int)) hadv4.vis hsz5 hdf5 ((hg5 0 dC dC).trans s0) ((hg5 1 dC dC).trans s1) ((hg5 3 dC dC).trans s3) hyt (rfl:Tag.ptr.ok (.pointer ad)=true);refine zym (D:=.plain []) (X:=fun _ _=>False) (L:=[]) (K:=fun x E' H' _=>x=(.normal,bkSD)∧H'=H4∧E'=[y,.pointer ad,vi (idx:Int)]) (fun o _=>Prot.plain_may [] o) hR5 ?_ ?_ (fun ch a' w' h=>by obtain⟨_,_,h⟩:=h;exact h.elim)
  .rw[Zqx];exact⟨rfl,rfl,rfl⟩
  rintro e st' F6 r6 H6 L6 a6 w6 hR6 ⟨h1,rfl,hE6⟩;cases h1;obtain⟨m0,m1,m3,m4⟩:=Zqd;have v0:=z3q hR6 m0 (fun h=>by cases h);have v1:=z3q hR6 m1 (fun h=>by cases h);have v3:=z3q hR6 m3 (fun h=>by cases h);have hsz6:=hR6.size;rw[hE6]at v0 v1 v3;rw[m4]at hsz6;have hv3:a6.tmps.getD 3 undef=.int .i64 ((l.length:Int)-1-(j+1:Nat)):=by
   rw[v3];simp only[wz];rw[w64 om om];congr 1;omega
  refine⟨⟨j+1,H6,om,hsz6,hR6.df,v0,v1,hv3,(hadv3.trans hadv4).trans hR6.adv,hI4⟩,?_⟩;rw[hv3,q5];simp only[];omega
 .have hc8':a2.eval (.tmp 8)=.bool false:=by rw[hc8,qX om]
  refine wpIn_cond_false hc8' (wpIn_exit ?_);have hjn:j=l.length:=om;simp only[Exit.then,Exit.inBlock,↓reduceIte];refine⟨hdf2,.tuple #[],?_,⟨_,rfl⟩,H2,hadv2,hjn▸q7⟩;have hres:Tryz.f220.results=#[]:=kr;simp[results,hres]
abbrev encS(s:List Int):List (Int×Value):=s.map fun k=>(k,vi 1)
abbrev SetAt(es:Array MapEntry)(clock:Nat)(s:List Int):Prop:=EntsR (α:=Int) es.toList clock (encS s)
theorem SetAt.nodup{es:Array MapEntry}{clock:Nat}{s:List Int}(h:SetAt es clock s):s.Nodup:=by
 have:=h.keys;rw[List.map_map]at this;have e:((fun x:Int×Value=>x.1) ∘ fun k:Int=>(k,(Value.int .i64 1)))=id:=rfl;rw[e,List.map_id]at this;exact this
theorem Zn4(s:List Int)(k:Int):(getM (encS s) k).isSome=decide (k∈s):=by
 unfold getM encS;rw[Option.isSome_map];by_cases h:k∈s
 .rw[qW h];refine List.find?_isSome.2 ⟨(k,vi 1),zmp.2 ⟨k,h,rfl⟩,sM⟩
 .rw[qX h,Option.isSome_eq_false_iff,Option.isNone_iff_eq_none,List.find?_eq_none];intro x hx;obtain⟨y,hy,rfl⟩:=zmp.1 hx;simp only[zdt];exact fun e=>h (e▸hy)
def addS(s:List Int)(k:Int):List Int:=if k∈s then s else s++[k]
theorem zra(s:List Int)(k:Int):putM (encS s) k (vi 1)=encS (addS s k):=by
 unfold putM addS;rw[Zn4];by_cases h:k∈s
 .rw[qj (by rw[qW h]),qj h];unfold encS;rw[List.map_map];refine qN fun x _=>?_;by_cases e:x=k<;>simp[e]
 .rw[qc (by rw[qX h];exact qk),qc h];simp[encS]
theorem zsg(s:List Int)(k y:Int):y∈addS s k↔y∈s∨y=k:=by
 unfold addS;split
 .rename_i h;exact⟨.inl,fun hy=>hy.elim id fun e=>e▸h⟩
 .simp
theorem Zmb(s:List Int)(k:Int):delM (encS s) k=encS (s.filter fun y=>decide (y≠k)):=by
 unfold delM encS;rw[List.filter_map];rfl
theorem zlx:SetAt (#[]:Array MapEntry) 0 []:=EntsR.empty
theorem uSetK:Tryz.prog.underlying 216=some (.map 3 3):=kr
theorem kIntK:Tryz.prog.underlying 3=some (Key.kd Int):=kr
theorem SetAt.entry{es:Array MapEntry}{clock:Nat}{s:List Int}(h:SetAt es clock s){e:MapEntry}(he:e∈es.toList):∃k∈s,e.key=.int .i64 k∧e.val=.int .i64 1:=by
 have h1:(e.key,e.val)∈es.toList.map (fun e=>(e.key,e.val)):=zmp.2 ⟨e,he,rfl⟩;rw[h.ents]at h1;obtain⟨x,hx,hxe⟩:=zmp.1 h1;obtain⟨k,hk,rfl⟩:=zmp.1 hx;simp only[Prod.mk.injEq]at hxe;exact⟨k,hk,hxe.1.symm,hxe.2.symm⟩
theorem SetAt.has{es:Array MapEntry}{clock:Nat}{s:List Int}(h:SetAt es clock s){k:Int}(hk:k∈s):∃e∈es.toList,e.key=.int .i64 k:=by
 have h1:((vi k:Value),(vi 1:Value))∈(encS s).map fun x=>(Key.kv x.1,x.2):=zmp.2 ⟨(k,vi 1),zmp.2 ⟨k,hk,rfl⟩,rfl⟩;rw[←h.ents]at h1;obtain⟨e,he,hee⟩:=zmp.1 h1;simp only[Prod.mk.injEq]at hee;exact⟨e,he,hee.1⟩
theorem Z0k(r:Nat)(es:Array MapEntry)(clock:Nat)(s l:List Int)(lv:Value)(S K:PH)(hl:SlR S l lv)(h:Held S K [.blk r (.map es clock)])(hs:SetAt es clock s):
  Tri zP 218 #[.map (some r),lv] K fun x K'=>∃es' clock' s',x=.returned (.tuple #[])∧Held S K' [.blk r (.map es' clock')]∧SetAt es' clock' s'∧∀y,y∈s'↔y∈s∨y∈l:=by
 obtain⟨b,c,rfl⟩:=hl.sl;have hm:=hl.max;simp only[maxLen]at hm;refine qr zmv [.map (some r),.slice b l.length c] ?_;refine⟨fun n vs K'=>∃(k:Nat)(es':Array MapEntry)(clock':Nat)(s':List Int),vs=[nI k]∧k+n=l.length∧Held S K' [.blk r (.map es' clock')]∧SetAt es' clock' s'∧∀y,y∈s'↔y∈s∨y∈l.take k,⟨l.length,0,es,clock,s,rfl,om,h,hs,fun y=>sM⟩,?_⟩;rintro n vs K1 _ ⟨k,es1,clock1,s1,rfl,hkn,h1,hs1,hm1⟩;refine⟨fun g=>?_,fun g=>?_⟩
 .simp only[wz,zdt]at g;obtain⟨a,ha⟩:∃a,l[k]?=some a:=⟨_,zge (show k<l.length by omega)⟩;obtain⟨q1,_,ces,q2,q3⟩:=(hl.le h1.sh).get ha;obtain⟨rfl,hai⟩:=csIK q2;refine⟨fun _=>?_,[vi a],rfl,?_,?_⟩
  .simp only[Chk.holds,wz];exact⟨q1,om,om⟩
  .simp only[wz];exact q3
  refine z1s (α:=Int) (m:=encS s1) (r:=r) (es:=es1) (clock:=clock1) a (vi 1) uSetK kIntK kr kr kr (h1.blk (zms)) hs1 fun es2 clock2 he2=>?_;rw[zra]at he2;refine⟨_,z00,n-1,om,k+1,es2,clock2,addS s1 a,?_,om,h1.put _,he2,fun y=>?_⟩
  .simp only[wz];rw[w64 om om];rfl
  .rw[zsg,hm1,qZ,ha];simp only[Option.toList_some,zma,zsi,or_assoc]
 .simp only[wz,zdf]at g;rw[ztl om]at hm1;exact⟨es1,clock1,s1,rfl,h1,hs1,hm1⟩
theorem zns(r:Nat)(es:Array MapEntry)(clock:Nat)(s:List Int)(a:Int)(S K:PH)(h:Held S K [.blk r (.map es clock)])(hs:SetAt es clock s):
  Tri zP 177 #[.map (some r),vi a] K fun x K'=>∃es' clock',x=.returned (.tuple #[])∧Held S K' [.blk r (.map es' clock')]∧SetAt es' clock' (s.filter fun y=>decide (y≠a)):=by
 refine qr zll [.map (some r),vi a] ?_;refine zs3 (α:=Int) (m:=encS s) (r:=r) (es:=es) (clock:=clock) a rfl uSetK kIntK kr kr (h.blk (zms)) hs fun es2 clock2 he2=>?_;rw[Zmb]at he2;exact⟨es2,clock2,rfl,h.put _,he2⟩
def SetR(H:PH)(v:Value)(s:List Int):Prop:=∃r es clock,v=.map (some r)∧H r=some (.map es clock)∧SetAt es clock s
theorem SetR.le{H H':PH}{v:Value}{s:List Int}(h:SetR H v s)(hl:PH.le H H'):SetR H' v s:=by
 obtain⟨r,es,clock,h1,h2,h3⟩:=h;exact⟨r,es,clock,h1,hl _ _ h2,h3⟩
theorem Zev(r:Nat)(es:Array MapEntry)(clock:Nat)(s t:List Int)(tv:Value)(S K:PH)(ht:SetR S tv t)(h:Held S K [.blk r (.map es clock)])(hs:SetAt es clock s):
  Tri zP 217 #[.map (some r),tv] K fun x K'=>∃es' clock' s',x=.returned (.tuple #[])∧Held S K' [.blk r (.map es' clock')]∧SetAt es' clock' s'∧∀y,y∈s'↔y∈s∨y∈t:=by
 obtain⟨rt,est,clt,rfl,hrt,hst⟩:=ht;refine qr zld [.map (some r),.map (some rt)] ?_;refine zuo (r:=rt) (es:=est) (clock:=clt) uSetK kr (h.sh _ _ hrt) (fun _ _=>z01) fun i hi=>?_;have h0:=h.new hi (.mapIter (some rt) clt #[] clt);have hl0:leftM est #[]=est.toList:=by unfold leftM;simp
 refine ⟨fun n vs K'=>∃(seen:Array Nat) (es':Array MapEntry) (clock':Nat) (s':List Int),vs=[]∧n=(leftM est seen).length∧Held S K' [.blk i (.mapIter (some rt) clt seen clt),.blk r (.map es' clock')]∧SetAt es' clock' s'∧∀y,y∈s'↔y∈s∨(y∈t∧∀e∈leftM est seen,e.key≠.int .i64 y),
  ⟨_,#[],es,clock,s,rfl,rfl,h0,hs,fun y=>?_⟩,?_⟩
 .constructor
  .exact .inl
  .rintro(h|⟨h1,h2⟩)
   .exact h
   .obtain⟨e,he,hk⟩:=hst.has h1;exact absurd hk (h2 e (by rw[hl0];exact he))
 rintro n vs K1 _ ⟨seen,es1,clock1,s1,rfl,rfl,h1,hs1,hm1⟩;refine⟨fun vs K'=>∃b:Bool,vs=[.bool b]∧((b=false∧leftM est seen=[]∧Held S K' [.blk i (.mapIter (some rt) clt seen clt),.blk r (.map es1 clock1)])∨(b=true∧∃e∈leftM est seen,Held S K' [.blk i (.mapIter (some rt) clt (seen.push e.born) clt),.blk r (.map es1 clock1)])),?_,?_⟩
 .rintro vs K2 _ ⟨b,rfl,hcase⟩;refine⟨fun g=>?_,fun g=>?_⟩
  .simp only[wz]at g;subst g;rcases hcase with⟨h,_⟩|⟨_,e,he,h2⟩
   .cases h
   have hee:e∈est.toList:=(zmf.1 he).1;obtain⟨k,hk,hek,hev⟩:=hst.entry hee;refine zvm (i:=i) (r:=rt) (es:=est) (clock:=clt) (seen:=seen) (m:=encS t) (e:=e) kr (h2.blk (zms)) (h2.sh _ _ hrt) hst hee (by rw[hek,hev];exact⟨rfl,rfl⟩) ?_;rw[hek,hev];refine z1s (α:=Int) (m:=encS s1) (r:=r) (es:=es1) (clock:=clock1) k (vi 1) uSetK kIntK kr kr kr (h2.blk (zmm _ (zms))) hs1 fun es2 clock2 he2=>?_;rw[zra]at he2;obtain⟨p1,p2⟩:=zm8 hst he;refine⟨_,z00,_,p1,seen.push e.born,es2,clock2,addS s1 k,rfl,rfl,((h2.perm (qq _ _ _)).put _).perm (qq _ _ _),he2,fun y=>?_⟩;rw[zsg,hm1];constructor
   .rintro((h|⟨h3,h4⟩)|h)
    .exact .inl h
    .exact .inr ⟨h3,fun e' he'=>h4 e' ((p2 e').2 (.inr he'))⟩
    .subst h;refine .inr ⟨hk,fun e' he' hke=>?_⟩;have he'l:e'∈leftM est seen:=(p2 e').2 (.inr he');have he'e:e'∈est.toList:=(zmf.1 he'l).1;obtain⟨a,ha⟩:=qH he'e;obtain⟨b,hb⟩:=qH hee;have hkeys:(est.toList.map (·.key))=t.map fun k=>Value.int .i64 k:=by
      have:=congrArg (List.map Prod.fst) hst.ents;simp only[List.map_map,Function.comp_def,encS]at this;exact this
     have hta:t[a]?=some y:=by
      have:=congrArg (fun l=>l[a]?) hkeys;simp only[zem,ha,Option.map_some,hke]at this;cases hx:t[a]? with
      |none=>rw[hx]at this;cases this
      |some z=>rw[hx]at this;simp at this;rw[this]
     have htb:t[b]?=some y:=by
      have:=congrArg (fun l=>l[b]?) hkeys;simp only[zem,hb,Option.map_some,hek]at this;cases hx:t[b]? with
      |none=>rw[hx]at this;cases this
      |some z=>rw[hx]at this;simp at this;rw[this]
     have hab:=(List.getElem?_inj (zgi.1 hta).1 hst.nodup).1 (hta.trans htb.symm);subst hab;rw[ha]at hb;cases hb;have hno:=(zmf.1 he').2;simp at hno
   .rintro(h|⟨h3,h4⟩)
    .exact .inl (.inl h)
    .by_cases hyk:y=k
     .exact .inr hyk
     .refine .inl (.inr ⟨h3,fun e' he' hke=>?_⟩);rcases(p2 e').1 he' with rfl|h5
      .rw[hek]at hke;cases hke;exact hyk rfl
      .exact h4 e' h5 hke
  .simp only[wz]at g;subst g;rcases hcase with⟨_,hnil,h2⟩|⟨h,_⟩
   .refine⟨es1,clock1,s1,rfl,h2.tail,hs1,fun y=>?_⟩;rw[hm1,hnil];simp
   .cases h
 .refine zze (i:=i) (r:=rt) (es:=est) (clock:=clt) (seen:=seen) (m:=encS t) kr (h1.blk (zms)) (h1.sh _ _ hrt) hst (fun e he=>?_) (fun hnil=>?_) fun e he=>?_
  .obtain⟨k,hk,hek,hev⟩:=hst.entry he;rw[hek,hev];exact⟨rfl,rfl⟩
  .exact⟨_,z00,false,rfl,.inl ⟨rfl,hnil,h1⟩⟩
  .exact⟨_,z00,true,rfl,.inr ⟨rfl,e,he,h1.put _⟩⟩
