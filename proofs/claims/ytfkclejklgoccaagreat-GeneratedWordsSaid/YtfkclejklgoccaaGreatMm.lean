import Derived.Test.YtfkclejklgoccaaGreatMl
set_option linter.unusedSimpArgs false
set_option linter.unusedVariables false
set_option maxRecDepth 100000
namespace Go.Proofs.YtfkclejklgoccaaGreat.Vc
open Go
abbrev plI (p:List Nat):List Int:=p.map fun k:Nat=>(k:Int)
theorem Z0j (x:ItemR) (b:Bool):sizeR x b≤4:=by
 have:=(zkk x.n).2
 unfold sizeR
 repeat' split
 all_goals omega
theorem ziu:∀(l:List ItemR) (long:List Bool) (a:Nat),long.length=l.length→(z19 a l long).length=l.length+1
 | [],[],_,_=>rfl
 | x::l,b::long,a,h=>by
  simp only [z19,zlc]
  rw [ziu l long _ (by simpa using h)]
 | [],_::_,_,h=>by simp at h
 | _::_,[],_,h=>by simp at h
theorem zl1:∀(l:List ItemR) (long:List Bool) (a:Nat),∀q∈z19 a l long,q≤a+4 * l.length
 | x::l,b::long,a,q,hq=>by
  simp only [z19,List.mem_cons] at hq
  rcases hq with rfl | hq
  ·omega
  ·have:=zl1 l long _ q hq
   have:=Z0j x b
   simp only [zlc];omega
 | [],long,a,q,hq=>by
  cases long<;>simp only [z19,List.mem_singleton] at hq<;>omega
 | _::_,[],a,q,hq=>by
  simp only [z19,List.mem_singleton] at hq;omega
theorem zv5 (l:List ItemR) (long:List Bool) (lv bv:Value) (S K:PH) (h:Held S K [orow 4 long bv]) (hl:SlR S l lv) (hlen:long.length=l.length) (hs:l.length≤65536) :
  Tri Tryz.prog zdu #[lv,bv] K fun e K'=>∃S' J',PH.le S S'∧Held S' K' J'∧(J'=[orow 4 long bv]∧∃v,e=.returned v∧SlR S' (plI (z19 0 l long)) v):=by
 obtain ⟨b,c,rfl⟩:=hl.sl
 obtain ⟨bb,bc,rfl⟩:=(h.row (e:=4) (zms)).sl
 refine zbh [.slice b l.length c,.slice bb long.length bc] (by kernel_rfl) (by kernel_rfl) ?_
 refine z0x (α:=Int) (l:=[0]) (b:=8) [.int .i64 0] z0y z0v rfl (by decide) (by decide) h (by kernel_rfl) (.cons zi8 .nil) z06 fun v1 K1 h1 l1 _=>?_
 simp only [List.cons_append,List.nil_append]
 refine ⟨fun n vs K2=>∃(k at_:Nat) (u:Value) (S2:PH) (pre:List Nat),k+n=l.length∧vs=[u,nI at_,nI k]∧PH.le S S2∧at_≤4 * k∧pre.length=k∧Held S2 K2 (orow 3 (plI (pre++[at_])) u::[orow 4 long (.slice bb long.length bc)])∧pre++z19 at_ (l.drop k) (long.drop k)=z19 0 l long,
  ⟨l.length,0,0,v1,S,[],by omega,rfl,PH.le_refl _,by omega,rfl,h1,rfl⟩,?_⟩
 rintro n vs K2 _ ⟨k,at_,u,S2,pre,hkn,rfl,l2,hat,hpl,h2,hpre⟩
 simp only [List.cons_append,List.nil_append]
 refine ⟨fun g=>?_,fun g=>?_⟩
 ·simp only [ev0,ev,evV,List.cons_append,List.nil_append,List.getD_cons_zero,List.getD_cons_succ,List.map_cons,List.map_nil,iOf,bOf,sOf,pOf,slLen,z04,cmpI,arI,Value.ite_bool,z03,z02,z00,z01,zdt] at g
  have hk:k < l.length:=by omega
  obtain ⟨x,hx⟩:∃x,l[k]?=some x:=⟨_,zge hk⟩
  obtain ⟨bk,hbk⟩:∃b,long[k]?=some b:=⟨_,zge (by omega)⟩
  have hdl:l.drop k=x::l.drop (k+1):=by rw [List.drop_eq_getElem_cons hk,(List.getElem?_eq_some_iff.1 hx).2]
  have hdb:long.drop k=bk::long.drop (k+1):=by rw [List.drop_eq_getElem_cons (by omega),(List.getElem?_eq_some_iff.1 hbk).2]
  have hlK:=hl.le (PH.le_trans l2 h2.sh)
  obtain ⟨y1,_,cs,y2,y3⟩:=hlK.get hx
  obtain ⟨rfl,hx8⟩:=itemR_iff.1 y2
  have hbs:=(h2.row (e:=4) (l:=long) (v:=.slice bb long.length bc) (by simp)).slR h2.sh
  obtain ⟨z1,_,cs,z2,z3⟩:=hbs.get hbk
  obtain rfl:=csBK z2
  refine ⟨fun vs K3=>vs=[nI (sizeR x bk)]∧Held S2 K3 (orow 3 (plI (pre++[at_])) u::[orow 4 long (.slice bb long.length bc)]),?_,fun _=>?_,[.int .i64 x.kind],rfl,?_,?_⟩
  ·rintro vs K3 _ ⟨rfl,h2⟩
   simp only [List.cons_append,List.nil_append]
   have hsz:=Z0j x bk
   have w1:IntKind.i64.wrap ((at_:Int)+(sizeR x bk:Int))=((at_+sizeR x bk:Nat):Int):=by rw [w64 (by omega) (by omega)];omega
   have w2:IntKind.i64.wrap ((k:Int)+1)=((k+1:Nat):Int):=by rw [w64 (by omega) (by omega)];rfl
   refine z1o (b:=8) (more:=[((at_+sizeR x bk:Nat):Int)]) [.int .i64 (arI .add .i64 (at_:Int) (sizeR x bk:Int))] z0y z0v rfl (by decide) (by decide) h2 (by kernel_rfl) (.cons (by
     rw [show arI .add .i64 (at_:Int) (sizeR x bk:Int)=((at_+sizeR x bk:Nat):Int) from w1]
     exact z0o (by unfold InI;omega)) .nil) z06 (fun w=>by kernel_rfl) (fun w=>by kernel_rfl)
    (by simp only [maxLen,plI,List.length_map,zla,List.length_singleton];omega) (by simp only [plI,List.length_map,zla,List.length_singleton];omega) fun w v6 S6 K6 l6 h6=>⟨z06,?_⟩
   refine ⟨_,z05,n - 1,by omega,k+1,at_+sizeR x bk,v6,S6,pre++[at_],by omega,by simp only [ev0,ev,evV,List.cons_append,List.nil_append,List.getD_cons_zero,List.getD_cons_succ,List.map_cons,List.map_nil,iOf,bOf,sOf,pOf,slLen,z04,cmpI,arI,Value.ite_bool,z03,z02,z00,z01,w1,w2],PH.le_trans l2 l6,by omega,by simp [hpl],?_,?_⟩
   ·have:plI (pre++[at_]++[at_+sizeR x bk])=plI (pre++[at_])++[((at_+sizeR x bk:Nat):Int)]:=by simp [plI]
    rw [this];exact h6
   ·rw [←hpre,hdl,hdb]
    simp [z19]
  ·simp only [Chk.holds,ev0,ev,evV,List.cons_append,List.nil_append,List.getD_cons_zero,List.getD_cons_succ,List.map_cons,List.map_nil,iOf,bOf,sOf,pOf,slLen,z04,cmpI,arI,Value.ite_bool,z03,z02,z00,z01];exact ⟨y1,by omega,by omega⟩
  ·simp only [ev0,ev,evV,List.cons_append,List.nil_append,List.getD_cons_zero,List.getD_cons_succ,List.map_cons,List.map_nil,iOf,bOf,sOf,pOf,slLen,z04,cmpI,arI,Value.ite_bool,z03,z02,z00,z01];exact z30 y3 0 _ rfl
  ·simp only [List.cons_append,List.nil_append]
   generalize hz:sizeR x bk=z
   unfold sizeR at hz
   refine ⟨fun g2=>?_,fun g2=>?_⟩
   ·simp only [ev0,ev,evV,List.cons_append,List.nil_append,List.getD_cons_zero,List.getD_cons_succ,List.map_cons,List.map_nil,iOf,bOf,sOf,pOf,slLen,z04,cmpI,arI,Value.ite_bool,z03,z02,z00,z01,zdt] at g2
    rw [if_pos g2] at hz
    exact ⟨_,z05,by rw [←hz];rfl,h2⟩
   simp only [ev0,ev,evV,List.cons_append,List.nil_append,List.getD_cons_zero,List.getD_cons_succ,List.map_cons,List.map_nil,iOf,bOf,sOf,pOf,slLen,z04,cmpI,arI,Value.ite_bool,z03,z02,z00,z01,zdf] at g2
   rw [if_neg g2] at hz
   refine ⟨fun g3=>?_,fun g3=>?_⟩
   ·simp only [ev0,ev,evV,List.cons_append,List.nil_append,List.getD_cons_zero,List.getD_cons_succ,List.map_cons,List.map_nil,iOf,bOf,sOf,pOf,slLen,z04,cmpI,arI,Value.ite_bool,z03,z02,z00,z01,zdt] at g3
    rw [if_pos g3] at hz
    refine ⟨fun _=>?_,[.bool bk],rfl,by simp only [ev0,ev,evV,List.cons_append,List.nil_append,List.getD_cons_zero,List.getD_cons_succ,List.map_cons,List.map_nil,iOf,bOf,sOf,pOf,slLen,z04,cmpI,arI,Value.ite_bool,z03,z02,z00,z01];exact z3,_,z05,?_,h2⟩
    ·simp only [Chk.holds,ev0,ev,evV,List.cons_append,List.nil_append,List.getD_cons_zero,List.getD_cons_succ,List.map_cons,List.map_nil,iOf,bOf,sOf,pOf,slLen,z04,cmpI,arI,Value.ite_bool,z03,z02,z00,z01];exact ⟨z1,by omega,by omega⟩
    ·cases bk<;>simp [ev0,ev,evV,List.cons_append,List.nil_append,List.getD_cons_zero,List.getD_cons_succ,List.map_cons,List.map_nil,iOf,bOf,sOf,pOf,slLen,z04,cmpI,arI,Value.ite_bool,z03,z02,z00,z01,←hz]
   simp only [ev0,ev,evV,List.cons_append,List.nil_append,List.getD_cons_zero,List.getD_cons_succ,List.map_cons,List.map_nil,iOf,bOf,sOf,pOf,slLen,z04,cmpI,arI,Value.ite_bool,z03,z02,z00,z01,zdf] at g3
   rw [if_neg g3] at hz
   refine ⟨fun g4=>?_,fun g4=>?_⟩
   ·simp only [ev0,ev,evV,List.cons_append,List.nil_append,List.getD_cons_zero,List.getD_cons_succ,List.map_cons,List.map_nil,iOf,bOf,sOf,pOf,slLen,z04,cmpI,arI,Value.ite_bool,z03,z02,z00,z01,zdt] at g4
    rw [if_pos g4] at hz
    refine ⟨[.int .i64 x.n],rfl,by simp only [ev0,ev,evV,List.cons_append,List.nil_append,List.getD_cons_zero,List.getD_cons_succ,List.map_cons,List.map_nil,iOf,bOf,sOf,pOf,slLen,z04,cmpI,arI,Value.ite_bool,z03,z02,z00,z01];exact z30 y3 7 _ rfl,?_⟩
    simp only [List.cons_append,List.nil_append]
    refine z0a z5j (h2.gives (zgg x.n S2)) ?_
    rintro e K4 ⟨rfl,h4,l4⟩
    exact ⟨_,[nI (z2m x.n)],rfl,rfl,rfl,z06,_,z05,by rw [←hz];rfl,h4⟩
   simp only [ev0,ev,evV,List.cons_append,List.nil_append,List.getD_cons_zero,List.getD_cons_succ,List.map_cons,List.map_nil,iOf,bOf,sOf,pOf,slLen,z04,cmpI,arI,Value.ite_bool,z03,z02,z00,z01,zdf] at g4
   rw [if_neg g4] at hz
   refine ⟨_,z05,?_,h2⟩
   by_cases g5:x.kind=5
   ·rw [if_pos g5] at hz;simp [ev0,ev,evV,List.cons_append,List.nil_append,List.getD_cons_zero,List.getD_cons_succ,List.map_cons,List.map_nil,iOf,bOf,sOf,pOf,slLen,z04,cmpI,arI,Value.ite_bool,z03,z02,z00,z01,g5,←hz]
   ·rw [if_neg g5] at hz;simp [ev0,ev,evV,List.cons_append,List.nil_append,List.getD_cons_zero,List.getD_cons_succ,List.map_cons,List.map_nil,iOf,bOf,sOf,pOf,slLen,z04,cmpI,arI,Value.ite_bool,z03,z02,z00,z01,g5,←hz]
 ·simp only [ev0,ev,evV,List.cons_append,List.nil_append,List.getD_cons_zero,List.getD_cons_succ,List.map_cons,List.map_nil,iOf,bOf,sOf,pOf,slLen,z04,cmpI,arI,Value.ite_bool,z03,z02,z00,z01,zdf] at g
  have hk:k=l.length:=by omega
  rw [hk,List.drop_of_length_le (Nat.le_refl _),List.drop_of_length_le (by omega)] at hpre
  simp only [z19] at hpre
  rw [hpre] at h2
  obtain ⟨S',s1,s2,s3⟩:=h2.freeze
  exact ⟨S',_,PH.le_trans l2 s2,s3,rfl,_,rfl,s1⟩
theorem Z0s {l:List ItemR} {long:List Bool} {k:Nat} {x:ItemR} {b:Bool} (hx:l[k]?=some x) (hb:long[k]?=some b):(l.zipIdx.zip long)[k]?=some ((x,k),b):=by
 rw [List.getElem?_zip_eq_some]
 exact ⟨by rw [List.getElem?_zipIdx,hx];simp,hb⟩
theorem znb {l:List ItemR} {p:List Nat} {long:List Bool} (h:long.length=l.length):(growR l p long).length=l.length:=by
 simp [growR,h]
theorem zvz {l:List ItemR} {p:List Nat} {long:List Bool} {k:Nat} {x:ItemR} {b:Bool} (hx:l[k]?=some x) (hb:long[k]?=some b):(growR l p long)[k]?=some (b || farR l p k x):=by
 rw [growR,List.getElem?_map,Z0s hx hb];rfl
def cntF (l:List Bool):Nat:=(l.filter fun b=>!b).length
theorem zv0:∀(a b:List Bool),a.length=b.length→(∀k:Nat,a[k]?=some true→b[k]?=some true)→cntF b≤cntF a∧(b≠a→cntF b < cntF a)
 | [],[],_,_=>⟨Nat.le_refl _,fun h=>absurd rfl h⟩
 | x::a,y::b,hl,hk=>by
  have ih:=zv0 a b (by simpa using hl) fun k h=>by simpa using hk (k+1) (by simpa using h)
  have h0:=hk 0
  simp only [List.getElem?_cons_zero,Option.some.injEq] at h0
  unfold cntF at *
  cases x<;>cases y<;>simp at h0 ⊢
  ·exact ⟨ih.1,ih.2⟩
  ·exact ⟨by omega,by omega⟩
  ·exact ⟨ih.1,ih.2⟩
 | [],_::_,h,_=>by simp at h
 | _::_,[],h,_=>by simp at h
theorem Z69 {l:List ItemR} {p:List Nat} {long:List Bool} (h:long.length=l.length) (hn:growR l p long≠long):cntF (growR l p long) < cntF long:=by
 refine (zv0 long (growR l p long) (by rw [znb h,h]) fun k hk=>?_).2 hn
 obtain ⟨x,hx⟩:∃x,l[k]?=some x:=⟨_,zge (by have:=(List.getElem?_eq_some_iff.1 hk).1;omega)⟩
 rw [zvz hx hk];rfl
theorem Z0e (l:List ItemR):∀(f:Nat) (long:List Bool),long.length=l.length→(layR l f long).length=l.length
 | 0,long,h=>h
 | f+1,long,h=>by
  simp only [layR]
  split
  ·exact h
  ·exact Z0e l f _ (znb h)
theorem zw0 (l:List ItemR):(longR l).length=l.length:=Z0e l _ _ (by simp)
def z1q (l:List ItemR):List Int:=l.map fun x=>if z2f x=true then z1f l x.label else 0
theorem zqw {l:List ItemR} {label:Int} {k:Nat} (h:findR l label=some k):k < l.length:=by
 unfold findR at h
 rw [List.findIdx?_eq_some_iff_getElem] at h
 exact h.1
theorem Z0q {α:Type} (A:List α) (b v:α) (B:List α):(A++b::B).set A.length v=A++v::B:=by
 rw [List.set_append_right _ _ (Nat.le_refl _),Nat.sub_self,List.set_cons_zero]
theorem Z88 (l:List ItemR) (label:Int) (h:l.length≤65536):-1≤z1f l label∧z1f l label≤65536:=by
 unfold z1f
 cases hf:findR l label with
 | none=>simp
 | some k=>have:=zqw hf;simp only [];omega
theorem zvv (l:List ItemR) (lv:Value) (S:PH) (hl:SlR S l lv) (hs:l.length≤65536) (hn:∀x∈l,z2f x=true→(findR l x.label).isSome=true) :
  Tri Tryz.prog zdj #[lv] S fun e K'=>∃v1 v2,e=.returned (.tuple #[v1,v2])∧SlR K' (longR l) v1∧SlR K' (plI (z19 0 l (longR l))) v2∧PH.le S K':=by
 obtain ⟨b,c,rfl⟩:=hl.sl
 have hlm:=hl.max
 have hmx:maxLen=9223372036854775807:=rfl
 have h0:Held S S []:=Held.nil (PH.le_refl _)
 refine zbc [.slice b l.length c] (by kernel_rfl) (by kernel_rfl) ?_
 refine z3p (α:=Bool) (b:=1) (n:=l.length) false rfl (fun S=>zt7) zlm zhm (by kernel_rfl) (by kernel_rfl) (by omega) (by omega) h0 fun bv K1 h1 l1=>?_
 simp only [List.cons_append,List.nil_append]
 refine z3p (α:=Int) (b:=8) (n:=l.length) 0 rfl (fun S=>zi8) z0y zrb (by kernel_rfl) (by kernel_rfl) (by omega) (by omega) h1 fun fv K2 h2 l2=>?_
 simp only [List.cons_append,List.nil_append]
 obtain ⟨bb,bc,rfl⟩:=(h2.row (e:=4) (l:=List.replicate l.length false) (v:=bv) (by simp)).sl
 obtain ⟨fb,fc,rfl⟩:=(h2.row (e:=3) (zms)).sl
 simp only [List.length_replicate] at h2 ⊢
 refine ⟨fun n vs K=>∃k:Nat,k+n=l.length∧vs=[nI k]∧Held S K [orow 3 ((z1q l).take k++List.replicate (l.length - k) 0) (.slice fb l.length fc),orow 4 (List.replicate l.length false) (.slice bb l.length bc)],⟨l.length,0,by omega,rfl,by simpa using h2⟩,?_⟩
 rintro n vs K _ ⟨k,hkn,rfl,h3⟩
 simp only [List.cons_append,List.nil_append]
 have hfl:(z1q l).length=l.length:=by simp [z1q]
 refine ⟨fun g=>?_,fun g=>?_⟩
 ·simp only [ev0,ev,evV,List.cons_append,List.nil_append,List.getD_cons_zero,List.getD_cons_succ,List.map_cons,List.map_nil,iOf,bOf,sOf,pOf,slLen,z04,cmpI,arI,Value.ite_bool,z03,z02,z00,z01,zdt] at g
  have hk:k < l.length:=by omega
  obtain ⟨x,hx⟩:∃x,l[k]?=some x:=⟨_,zge hk⟩
  obtain ⟨y1,_,cs,y2,y3⟩:=(hl.le h3.sh).get hx
  obtain ⟨rfl,hx8⟩:=itemR_iff.1 y2
  have w2:IntKind.i64.wrap ((k:Int)+1)=((k+1:Nat):Int):=by rw [w64 (by omega) (by omega)];rfl
  have hfk:(z1q l)[k]?=some (if z2f x=true then z1f l x.label else 0):=by unfold z1q;rw [List.getElem?_map,hx];rfl
  have hrep:List.replicate (l.length - k) (0:Int)=0::List.replicate (l.length - (k+1)) 0:=by
   rw [←List.replicate_succ];congr 1;omega
  have hAl:((z1q l).take k).length=k:=by rw [List.length_take];omega
  have htk:(z1q l).take (k+1)=(z1q l).take k++[if z2f x=true then z1f l x.label else 0]:=by rw [List.take_add_one,hfk];rfl
  refine ⟨fun vs K3=>vs=[]∧Held S K3 [orow 3 ((z1q l).take (k+1)++List.replicate (l.length - (k+1)) 0) (.slice fb l.length fc),orow 4 (List.replicate l.length false) (.slice bb l.length bc)],?_,fun _=>?_,itemV x,rfl,by simp only [ev0,ev,evV,List.cons_append,List.nil_append,List.getD_cons_zero,List.getD_cons_succ,List.map_cons,List.map_nil,iOf,bOf,sOf,pOf,slLen,z04,cmpI,arI,Value.ite_bool,z03,z02,z00,z01];exact y3,?_⟩
  ·rintro vs K3 _ ⟨rfl,h4⟩
   simp only [List.cons_append,List.nil_append,List.append_nil]
   exact ⟨_,z05,n - 1,by omega,k+1,by omega,by simp only [ev0,ev,evV,List.cons_append,List.nil_append,List.getD_cons_zero,List.getD_cons_succ,List.map_cons,List.map_nil,iOf,bOf,sOf,pOf,slLen,z04,cmpI,arI,Value.ite_bool,z03,z02,z00,z01,w2],h4⟩
  ·simp only [Chk.holds,ev0,ev,evV,List.cons_append,List.nil_append,List.getD_cons_zero,List.getD_cons_succ,List.map_cons,List.map_nil,iOf,bOf,sOf,pOf,slLen,z04,cmpI,arI,Value.ite_bool,z03,z02,z00,z01];exact ⟨y1,by omega,by omega⟩
  ·simp only [List.cons_append,List.nil_append]
   refine z0a z3l (h3.gives (zak x S)) ?_
   rintro e K4 ⟨rfl,h4,l4⟩
   refine ⟨_,[.bool (z2f x)],rfl,rfl,rfl,z06,?_⟩
   simp only [List.cons_append,List.nil_append]
   refine ⟨fun g2=>?_,fun g2=>?_⟩
   ·simp only [ev0,ev,evV,List.cons_append,List.nil_append,List.getD_cons_zero,List.getD_cons_succ,List.map_cons,List.map_nil,iOf,bOf,sOf,pOf,slLen,z04,cmpI,arI,Value.ite_bool,z03,z02,z00,z01] at g2
    rw [if_pos g2] at htk
    refine ⟨[.int .i64 x.label],rfl,by simp only [ev0,ev,evV,List.cons_append,List.nil_append,List.getD_cons_zero,List.getD_cons_succ,List.map_cons,List.map_nil,iOf,bOf,sOf,pOf,slLen,z04,cmpI,arI,Value.ite_bool,z03,z02,z00,z01];exact z30 (z18 l4 y3) 6 _ rfl,?_⟩
    simp only [List.cons_append,List.nil_append]
    refine z0a z2r (h4.gives (z96 l x.label _ S hl)) ?_
    rintro e K5 ⟨rfl,h5,l5⟩
    refine ⟨_,[.int .i64 (z1f l x.label)],rfl,rfl,rfl,z06,?_⟩
    simp only [List.cons_append,List.nil_append]
    have hbnd:=Z88 l x.label hs
    have hget:((z1q l).take k++List.replicate (l.length - k) 0)[k]?=some 0:=by
     rw [List.getElem?_append_right (by omega),hAl,Nat.sub_self,hrep];rfl
    obtain ⟨z1,_⟩:=((h5.row (e:=3) (l:=(z1q l).take k++List.replicate (l.length - k) 0) (v:=.slice fb l.length fc) (by simp)).slR h5.sh).get hget
    refine ⟨fun _=>?_,?_⟩
    ·simp only [Chk.holds,ev0,ev,evV,List.cons_append,List.nil_append,List.getD_cons_zero,List.getD_cons_succ,List.map_cons,List.map_nil,iOf,bOf,sOf,pOf,slLen,z04,cmpI,arI,Value.ite_bool,z03,z02,z00,z01];exact ⟨z1,by omega,by omega⟩
    refine z1d (i:=k) (a:=0) (a':=z1f l x.label) (us:=[.int .i64 (z1f l x.label)]) (by simp only [ev0,ev,evV,List.cons_append,List.nil_append,List.getD_cons_zero,List.getD_cons_succ,List.map_cons,List.map_nil,iOf,bOf,sOf,pOf,slLen,z04,cmpI,arI,Value.ite_bool,z03,z02,z00,z01];rfl) h5 hget rfl (by simp only [ev0,ev,evV,List.cons_append,List.nil_append,List.getD_cons_zero,List.getD_cons_succ,List.map_cons,List.map_nil,iOf,bOf,sOf,pOf,slLen,z04,cmpI,arI,Value.ite_bool,z03,z02,z00,z01]) (by simp [oneC]) (z0o (by unfold InI;omega)) fun K6 h6=>?_
    refine ⟨_,z05,rfl,?_⟩
    have e:((z1q l).take k++List.replicate (l.length - k) 0).set k (z1f l x.label)=(z1q l).take (k+1)++List.replicate (l.length - (k+1)) 0:=by
     rw [htk,hrep,List.append_assoc]
     have:=Z0q ((z1q l).take k) 0 (z1f l x.label) (List.replicate (l.length - (k+1)) 0)
     rw [hAl] at this
     exact this
    rw [e] at h6;exact h6
   ·simp only [ev0,ev,evV,List.cons_append,List.nil_append,List.getD_cons_zero,List.getD_cons_succ,List.map_cons,List.map_nil,iOf,bOf,sOf,pOf,slLen,z04,cmpI,arI,Value.ite_bool,z03,z02,z00,z01] at g2
    rw [if_neg (by rw [g2];exact Bool.false_ne_true)] at htk
    refine ⟨_,z05,rfl,?_⟩
    have e:(z1q l).take k++List.replicate (l.length - k) 0=(z1q l).take (k+1)++List.replicate (l.length - (k+1)) 0:=by
     rw [htk,hrep,List.append_assoc];rfl
    rw [e] at h4;exact h4
 simp only [ev0,ev,evV,List.cons_append,List.nil_append,List.getD_cons_zero,List.getD_cons_succ,List.map_cons,List.map_nil,iOf,bOf,sOf,pOf,slLen,z04,cmpI,arI,Value.ite_bool,z03,z02,z00,z01,zdf] at g
 have hk:k=l.length:=by omega
 subst hk
 rw [List.take_of_length_le (by omega),Nat.sub_self,List.replicate_zero,List.append_nil] at h3
 refine ⟨fun n vs K=>∃(u1 u2:Value) (S2:PH) (long:List Bool),vs=[u1,u2]∧PH.le S S2∧long.length=l.length∧layR l n long=longR l∧cntF long < n∧Held S2 K [orow 3 (z1q l) (.slice fb l.length fc),orow 4 long (.slice bb l.length bc)],
  ⟨l.length+1,.slice none 0 0,.slice none 0 0,S,List.replicate l.length false,rfl,PH.le_refl _,by simp,by unfold longR;rw [List.map_const'],by unfold cntF;simp,h3⟩,?_⟩
 rintro n vs K4 _ ⟨u1,u2,S2,long,rfl,l2,hll,hlay,hcnt,h4⟩
 simp only [List.cons_append,List.nil_append]
 obtain ⟨f,rfl⟩:∃f,n=f+1:=⟨n - 1,by omega⟩
 simp only [layR] at hlay
 obtain ⟨p,hp⟩:∃p,p=z19 0 l long:=⟨_,rfl⟩
 rw [←hp] at hlay
 have hpl:p.length=l.length+1:=by rw [hp];exact ziu l long 0 hll
 have hple:∀q∈p,q≤4 * l.length:=by
  intro q hq
  rw [hp] at hq
  have:=zl1 l long 0 q hq
  omega
 obtain ⟨gr,hgr⟩:∃gr,gr=growR l p long:=⟨_,rfl⟩
 have hgl:gr.length=l.length:=by rw [hgr];exact znb hll
 refine z0a zcf (Held.call (J:=[orow 4 long (.slice bb l.length bc)]) (I:=[orow 3 (z1q l) (.slice fb l.length fc)]) (h4.perm (List.Perm.swap _ _ _)) fun K hK=>zv5 l long _ _ S2 K hK (hl.le l2) hll hs) ?_
 rintro e K5 ⟨S5,J5,l5,h5,rfl,pv,rfl,hpv⟩
 rw [←hp] at hpv
 obtain ⟨pb,pc,rfl⟩:=hpv.sl
 refine ⟨_,[.slice pb (plI p).length pc],rfl,rfl,rfl,z06,?_⟩
 simp only [List.cons_append,List.nil_append] at h5 ⊢
 have h5:Held S5 K5 [orow 4 long (.slice bb l.length bc),orow 3 (z1q l) (.slice fb l.length fc)]:=h5
 refine ⟨fun n vs K=>∃k:Nat,k+n=l.length∧vs=[.bool (decide (gr.take k≠long.take k)),nI k]∧Held S5 K [orow 4 (gr.take k++long.drop k) (.slice bb l.length bc),orow 3 (z1q l) (.slice fb l.length fc)],⟨l.length,0,by omega,by simp [ev0,ev,evV,List.cons_append,List.nil_append,List.getD_cons_zero,List.getD_cons_succ,List.map_cons,List.map_nil,iOf,bOf,sOf,pOf,slLen,z04,cmpI,arI,Value.ite_bool,z03,z02,z00,z01],by simpa using h5⟩,?_⟩
 rintro n vs K6 _ ⟨k,hkn,rfl,h6⟩
 simp only [List.cons_append,List.nil_append]
 refine ⟨fun g2=>?_,fun g2=>?_⟩
 ·simp only [ev0,ev,evV,List.cons_append,List.nil_append,List.getD_cons_zero,List.getD_cons_succ,List.map_cons,List.map_nil,iOf,bOf,sOf,pOf,slLen,z04,cmpI,arI,Value.ite_bool,z03,z02,z00,z01,zdt] at g2
  have hk:k < l.length:=by omega
  obtain ⟨x,hx⟩:∃x,l[k]?=some x:=⟨_,zge hk⟩
  obtain ⟨bk,hbk⟩:∃b,long[k]?=some b:=⟨_,zge (by omega)⟩
  have hgk:gr[k]?=some (bk || farR l p k x):=by rw [hgr];exact zvz hx hbk
  obtain ⟨y1,_,cs,y2,y3⟩:=(hl.le (PH.le_trans l2 (PH.le_trans l5 h6.sh))).get hx
  obtain ⟨rfl,hx8⟩:=itemR_iff.1 y2
  have w2:IntKind.i64.wrap ((k:Int)+1)=((k+1:Nat):Int):=by rw [w64 (by omega) (by omega)];rfl
  have hAl:(gr.take k).length=k:=by rw [List.length_take];omega
  have hdl:long.drop k=bk::long.drop (k+1):=by rw [List.drop_eq_getElem_cons (by omega),(List.getElem?_eq_some_iff.1 hbk).2]
  have htg:gr.take (k+1)=gr.take k++[bk || farR l p k x]:=by rw [List.take_add_one,hgk];rfl
  have htl:long.take (k+1)=long.take k++[bk]:=by rw [List.take_add_one,hbk];rfl
  have hmid:(gr.take k++long.drop k)[k]?=some bk:=by
   rw [List.getElem?_append_right (by omega),hAl,Nat.sub_self,hdl];rfl
  have same:(bk || farR l p k x)=bk→gr.take (k+1)++long.drop (k+1)=gr.take k++long.drop k∧decide (gr.take (k+1)≠long.take (k+1))=decide (gr.take k≠long.take k):=fun e=>by
   rw [htg,htl,e,hdl]
   exact ⟨by simp,by simp⟩
  refine ⟨fun vs K7=>vs=[.bool (decide (gr.take (k+1)≠long.take (k+1)))]∧Held S5 K7 [orow 4 (gr.take (k+1)++long.drop (k+1)) (.slice bb l.length bc),orow 3 (z1q l) (.slice fb l.length fc)],?_,?_⟩
  ·rintro vs K7 _ ⟨rfl,h7⟩
   exact ⟨_,z05,n - 1,by omega,k+1,by omega,by simp only [ev0,ev,evV,List.cons_append,List.nil_append,List.getD_cons_zero,List.getD_cons_succ,List.map_cons,List.map_nil,iOf,bOf,sOf,pOf,slLen,z04,cmpI,arI,Value.ite_bool,z03,z02,z00,z01,w2],h7⟩
  have hls:=(h6.row (e:=4) (l:=gr.take k++long.drop k) (v:=.slice bb l.length bc) (by simp)).slR h6.sh
  obtain ⟨z1,_,zcs,z2,z3⟩:=hls.get hmid
  obtain rfl:=csBK z2
  refine ⟨fun vs K7=>vs=[.bool (decide (x.kind≠2) || bk)]∧K6=K7,?_,fun _=>?_,[.int .i64 x.kind],rfl,by simp only [ev0,ev,evV,List.cons_append,List.nil_append,List.getD_cons_zero,List.getD_cons_succ,List.map_cons,List.map_nil,iOf,bOf,sOf,pOf,slLen,z04,cmpI,arI,Value.ite_bool,z03,z02,z00,z01];exact z30 y3 0 _ rfl,fun _=>?_,fun g3=>?_,fun g3=>?_⟩
  rotate_left
  ·simp only [Chk.holds,ev0,ev,evV,List.cons_append,List.nil_append,List.getD_cons_zero,List.getD_cons_succ,List.map_cons,List.map_nil,iOf,bOf,sOf,pOf,slLen,z04,cmpI,arI,Value.ite_bool,z03,z02,z00,z01];exact ⟨y1,by omega,by omega⟩
  ·simp only [Chk.holds,ev0,ev,evV,List.cons_append,List.nil_append,List.getD_cons_zero,List.getD_cons_succ,List.map_cons,List.map_nil,iOf,bOf,sOf,pOf,slLen,z04,cmpI,arI,Value.ite_bool,z03,z02,z00,z01];exact ⟨z1,by omega,by omega⟩
  ·simp only [ev0,ev,evV,List.cons_append,List.nil_append,List.getD_cons_zero,List.getD_cons_succ,List.map_cons,List.map_nil,iOf,bOf,sOf,pOf,slLen,z04,cmpI,arI,Value.ite_bool,z03,z02,z00,z01,ne_eq,zdt] at g3
   exact ⟨_,z05,by simp [ev0,ev,evV,List.cons_append,List.nil_append,List.getD_cons_zero,List.getD_cons_succ,List.map_cons,List.map_nil,iOf,bOf,sOf,pOf,slLen,z04,cmpI,arI,Value.ite_bool,z03,z02,z00,z01,g3],rfl⟩
  ·simp only [ev0,ev,evV,List.cons_append,List.nil_append,List.getD_cons_zero,List.getD_cons_succ,List.map_cons,List.map_nil,iOf,bOf,sOf,pOf,slLen,z04,cmpI,arI,Value.ite_bool,z03,z02,z00,z01,ne_eq,zdf,Decidable.not_not] at g3
   refine ⟨[.bool bk],rfl,by simp only [ev0,ev,evV,List.cons_append,List.nil_append,List.getD_cons_zero,List.getD_cons_succ,List.map_cons,List.map_nil,iOf,bOf,sOf,pOf,slLen,z04,cmpI,arI,Value.ite_bool,z03,z02,z00,z01];exact z3,_,z05,?_,rfl⟩
   simp [ev0,ev,evV,List.cons_append,List.nil_append,List.getD_cons_zero,List.getD_cons_succ,List.map_cons,List.map_nil,iOf,bOf,sOf,pOf,slLen,z04,cmpI,arI,Value.ite_bool,z03,z02,z00,z01,g3]
  rintro vs K7 _ ⟨rfl,rfl⟩
  simp only [List.cons_append,List.nil_append]
  refine ⟨fun g3=>?_,fun g3=>?_⟩
  ·simp only [ev0,ev,evV,List.cons_append,List.nil_append,List.getD_cons_zero,List.getD_cons_succ,List.map_cons,List.map_nil,iOf,bOf,sOf,pOf,slLen,z04,cmpI,arI,Value.ite_bool,z03,z02,z00,z01] at g3
   have:(bk || farR l p k x)=bk:=by
    cases bk with
    | true=>rfl
    | false=>
     simp only [Bool.or_false,zdt] at g3
     unfold farR
     simp [g3]
   obtain ⟨s1,s2⟩:=same this
   exact ⟨_,z05,by rw [s2];rfl,by rw [s1];exact h6⟩
  simp only [ev0,ev,evV,List.cons_append,List.nil_append,List.getD_cons_zero,List.getD_cons_succ,List.map_cons,List.map_nil,iOf,bOf,sOf,pOf,slLen,z04,cmpI,arI,Value.ite_bool,z03,z02,z00,z01,Bool.or_eq_false_iff,zdf,ne_eq,Decidable.not_not] at g3
  obtain ⟨g3,rfl⟩:=g3
  have hnm:z2f x=true:=by unfold z2f;simp [g3]
  obtain ⟨j,hj⟩:=Option.isSome_iff_exists.1 (hn x (List.mem_of_getElem? hx) hnm)
  have hjl:=zqw hj
  have hfj:z1f l x.label=(j:Int):=by unfold z1f;rw [hj]
  have hfk:(z1q l)[k]?=some (j:Int):=by unfold z1q;rw [List.getElem?_map,hx];simp [hnm,hfj]
  have hfs:=(h6.row (e:=3) (l:=z1q l) (v:=.slice fb l.length fc) (by simp)).slR h6.sh
  obtain ⟨f1,_,fcs,f2,f3⟩:=hfs.get hfk
  obtain ⟨rfl,_⟩:=csIK f2
  have hpK:=hpv.le h6.sh
  obtain ⟨q,hq⟩:∃q,p[j]?=some q:=⟨_,zge (by omega)⟩
  obtain ⟨r,hr⟩:∃r,p[k]?=some r:=⟨_,zge (by omega)⟩
  have hpq:(plI p)[j]?=some (q:Int):=by simp [plI,hq]
  have hpr:(plI p)[k]?=some (r:Int):=by simp [plI,hr]
  obtain ⟨q1,_,qcs,q2,q3⟩:=hpK.get hpq
  obtain ⟨rfl,_⟩:=csIK q2
  obtain ⟨r1,_,rcs,r2,r3⟩:=hpK.get hpr
  obtain ⟨rfl,_⟩:=csIK r2
  have hq4:=hple q (List.mem_of_getElem? hq)
  have hr4:=hple r (List.mem_of_getElem? hr)
  have hplI:(plI p).length=l.length+1:=by simp [plI,hpl]
  have hfar:farR l p k x=(decide ((q:Int) - r < -512) || decide (511 < (q:Int) - r)):=by
   unfold farR toR
   rw [if_pos hnm,hj]
   simp [g3,zgd,hq,hr]
  have wd:IntKind.i64.wrap ((q:Int) - (r:Int))=(q:Int) - r:=w64 (by omega) (by omega)
  refine ⟨fun _=>?_,[.int .i64 (j:Int)],rfl,by simp only [ev0,ev,evV,List.cons_append,List.nil_append,List.getD_cons_zero,List.getD_cons_succ,List.map_cons,List.map_nil,iOf,bOf,sOf,pOf,slLen,z04,cmpI,arI,Value.ite_bool,z03,z02,z00,z01];exact f3,fun _=>?_,[.int .i64 (q:Int)],rfl,by simp only [ev0,ev,evV,List.cons_append,List.nil_append,List.getD_cons_zero,List.getD_cons_succ,List.map_cons,List.map_nil,iOf,bOf,sOf,pOf,slLen,z04,cmpI,arI,Value.ite_bool,z03,z02,z00,z01];exact q3,fun _=>?_,[.int .i64 (r:Int)],rfl,by simp only [ev0,ev,evV,List.cons_append,List.nil_append,List.getD_cons_zero,List.getD_cons_succ,List.map_cons,List.map_nil,iOf,bOf,sOf,pOf,slLen,z04,cmpI,arI,Value.ite_bool,z03,z02,z00,z01];exact r3,fun g4=>?_,fun g4=>?_⟩
  ·simp only [Chk.holds,ev0,ev,evV,List.cons_append,List.nil_append,List.getD_cons_zero,List.getD_cons_succ,List.map_cons,List.map_nil,iOf,bOf,sOf,pOf,slLen,z04,cmpI,arI,Value.ite_bool,z03,z02,z00,z01];exact ⟨f1,by omega,by omega⟩
  ·simp only [Chk.holds,ev0,ev,evV,List.cons_append,List.nil_append,List.getD_cons_zero,List.getD_cons_succ,List.map_cons,List.map_nil,iOf,bOf,sOf,pOf,slLen,z04,cmpI,arI,Value.ite_bool,z03,z02,z00,z01];exact ⟨q1,by omega,by omega⟩
  ·simp only [Chk.holds,ev0,ev,evV,List.cons_append,List.nil_append,List.getD_cons_zero,List.getD_cons_succ,List.map_cons,List.map_nil,iOf,bOf,sOf,pOf,slLen,z04,cmpI,arI,Value.ite_bool,z03,z02,z00,z01];exact ⟨r1,by omega,by omega⟩
  ·simp only [ev0,ev,evV,List.cons_append,List.nil_append,List.getD_cons_zero,List.getD_cons_succ,List.map_cons,List.map_nil,iOf,bOf,sOf,pOf,slLen,z04,cmpI,arI,Value.ite_bool,z03,z02,z00,z01,wd] at g4
   have hf:farR l p k x=true:=by rw [hfar];exact g4
   refine ⟨fun _=>?_,?_⟩
   ·simp only [Chk.holds,ev0,ev,evV,List.cons_append,List.nil_append,List.getD_cons_zero,List.getD_cons_succ,List.map_cons,List.map_nil,iOf,bOf,sOf,pOf,slLen,z04,cmpI,arI,Value.ite_bool,z03,z02,z00,z01];exact ⟨z1,by omega,by omega⟩
   refine z1d (i:=k) (a:=false) (a':=true) (us:=[.bool true]) (by simp only [ev0,ev,evV,List.cons_append,List.nil_append,List.getD_cons_zero,List.getD_cons_succ,List.map_cons,List.map_nil,iOf,bOf,sOf,pOf,slLen,z04,cmpI,arI,Value.ite_bool,z03,z02,z00,z01];rfl) h6 hmid rfl (by simp only [ev0,ev,evV,List.cons_append,List.nil_append,List.getD_cons_zero,List.getD_cons_succ,List.map_cons,List.map_nil,iOf,bOf,sOf,pOf,slLen,z04,cmpI,arI,Value.ite_bool,z03,z02,z00,z01]) (by simp [oneC]) zby fun K8 h8=>?_
   have e:(gr.take k++long.drop k).set k true=gr.take (k+1)++long.drop (k+1):=by
    rw [htg,hdl,List.append_assoc,hf]
    have:=Z0q (gr.take k) false true (long.drop (k+1))
    rw [hAl] at this
    exact this
   rw [e] at h8
   refine ⟨_,z05,?_,h8⟩
   have:decide (gr.take (k+1)≠long.take (k+1))=true:=by
    rw [zdt,htg,htl,hf]
    intro hh
    have:=(List.append_inj' hh rfl).2
    simp at this
   rw [this];rfl
  ·simp only [ev0,ev,evV,List.cons_append,List.nil_append,List.getD_cons_zero,List.getD_cons_succ,List.map_cons,List.map_nil,iOf,bOf,sOf,pOf,slLen,z04,cmpI,arI,Value.ite_bool,z03,z02,z00,z01,wd] at g4
   have hf:farR l p k x=false:=by rw [hfar];exact g4
   obtain ⟨s1,s2⟩:=same (by rw [hf];rfl)
   exact ⟨_,z05,by rw [s2];rfl,by rw [s1];exact h6⟩
 ·simp only [ev0,ev,evV,List.cons_append,List.nil_append,List.getD_cons_zero,List.getD_cons_succ,List.map_cons,List.map_nil,iOf,bOf,sOf,pOf,slLen,z04,cmpI,arI,Value.ite_bool,z03,z02,z00,z01,zdf] at g2
  have hk:k=l.length:=by omega
  subst hk
  rw [List.take_of_length_le (by omega),List.drop_of_length_le (by omega),List.append_nil] at h6
  rw [List.take_of_length_le (show gr.length≤l.length by omega),List.take_of_length_le (show long.length≤l.length by omega)]
  refine ⟨fun g3=>?_,fun g3=>?_⟩
  ·simp only [ev0,ev,evV,List.cons_append,List.nil_append,List.getD_cons_zero,List.getD_cons_succ,List.map_cons,List.map_nil,iOf,bOf,sOf,pOf,slLen,z04,cmpI,arI,Value.ite_bool,z03,z02,z00,z01,Bool.not_eq_true',zdf,ne_eq,Decidable.not_not] at g3
   rw [←hgr,if_pos g3] at hlay
   rw [g3,hlay] at h6
   obtain ⟨S',s1,s2,s3⟩:=h6.freeze
   refine ⟨_,_,rfl,?_,?_,PH.le_trans l2 (PH.le_trans l5 (PH.le_trans s2 s3.sh))⟩
   ·have:=s1.le s3.sh
    simpa [ev0,ev,evV,List.cons_append,List.nil_append,List.getD_cons_zero,List.getD_cons_succ,List.map_cons,List.map_nil,iOf,bOf,sOf,pOf,slLen,z04,cmpI,arI,Value.ite_bool,z03,z02,z00,z01,partV,Bool.false_eq_true,if_false,if_true,List.headD_cons] using this
   ·have:=hpv.le (PH.le_trans s2 s3.sh)
    rw [hp,hlay] at this
    rw [hp,hlay]
    simpa [ev0,ev,evV,List.cons_append,List.nil_append,List.getD_cons_zero,List.getD_cons_succ,List.map_cons,List.map_nil,iOf,bOf,sOf,pOf,slLen,z04,cmpI,arI,Value.ite_bool,z03,z02,z00,z01,partV,Bool.false_eq_true,if_false,if_true,List.headD_cons] using this
  ·simp only [ev0,ev,evV,List.cons_append,List.nil_append,List.getD_cons_zero,List.getD_cons_succ,List.map_cons,List.map_nil,iOf,bOf,sOf,pOf,slLen,z04,cmpI,arI,Value.ite_bool,z03,z02,z00,z01,Bool.not_eq_false',zdt] at g3
   rw [←hgr,if_neg g3] at hlay
   have hc:cntF gr < cntF long:=by rw [hgr];rw [hgr] at g3;exact Z69 hll g3
   exact ⟨_,z1i (by decide) |>.trans z05,f,by omega,_,_,S5,gr,rfl,PH.le_trans l2 l5,hgl,hlay,by omega,h6.perm (List.Perm.swap _ _ _)⟩
def errA:Except AsmE (List W32×List Nat)→Int
 | .ok _=>0
 | .error .many=>213
 | .error .form=>210
 | .error .twice=>211
 | .error .none_=>212
def codeA:Except AsmE (List W32×List Nat)→List W32
 | .ok x=>x.1
 | .error _=>[]
def zsb:Except AsmE (List W32×List Nat)→List Nat
 | .ok x=>x.2
 | .error _=>[]
theorem Z7r (x:InsR):InU ((encR x).getD 0):=by
 cases h:encR x with
 | none=>unfold InU;simp
 | some w=>
  have ok:=Z4k h
  unfold encR at h
  obtain ⟨o1,o2,o3,o4,o5,_⟩:=ok
  rw [if_neg (by omega)] at h
  split at h
  ·rename_i hf
   simp only [Option.some.injEq] at h
   have hk:=zk8 x.op
   unfold fitsR at hf
   simp only [zba,zdt] at hf
   have h2:(2:Int) ^ (frmR x.op).bits≤2097152:=by
    rcases hk.bits with h | h | h | h<;>rw [h]<;>decide
   have h5:=hk.lo
   have h6:=hk.fit
   have hm:0≤(if x.n < 0 then x.n+2 ^ (frmR x.op).bits else x.n)∧(if x.n < 0 then x.n+2 ^ (frmR x.op).bits else x.n)≤2097152:=by
    by_cases hn:x.n < 0
    ·rw [if_pos hn]
     have hb0:(frmR x.op).bits≠0:=fun h=>by have:=h5 h;omega
     have:=h6 hb0
     omega
    ·rw [if_neg hn];omega
   generalize (if x.n < 0 then x.n+2 ^ (frmR x.op).bits else x.n)=m at *
   unfold wordR at h
   unfold InU
   simp only [Option.getD_some]
   omega
  ·cases h
theorem Z85 (r n:Int) (k:Nat) (h:1≤k):(numR r n k).length=k:=by
 simp only [numR,zlc,zn9];omega
theorem Z1t (x:ItemR) (b:Bool) (a t:Int):(z45 x b a t).length≤4:=by
 have h1:=zkk x.n
 unfold z45
 repeat' split
 all_goals first | (simp;done) | (rw [Z85 _ _ _ (by omega)];omega)
abbrev partC (l:List ItemR) (p:List Nat) (x:(ItemR×Nat)×Bool):List W32:=(z45 x.1.1 x.2 ((p.getD x.1.2 0:Nat):Int) (toR l p x.1.1)).map z91
theorem Z6s (seen:List ItemR) (x:ItemR) (l:List ItemR):badR seen (x::l)=if mayR x=false then 1 else if x.kind=1∧(findR seen x.label).isSome=true then 2 else badR (seen++[x]) l:=rfl
theorem uU32s:Tryz.prog.underlying 53=some (.slice 121):=by kernel_rfl
theorem Z0u:ElemOk Tryz.prog 121 1 4=true:=by kernel_rfl
theorem csW {S:PH} {w:W32} (h:InU w.n):CsR S w [.int .u32 w.n]:=w32_iff.2 ⟨rfl,h⟩
theorem Z47 {l:List ItemR} {p:List Nat} (hp:∀q∈p,q≤4 * l.length) (hs:l.length≤65536) (x:ItemR):0≤toR l p x∧toR l p x≤1099511627776:=by
 unfold toR
 split
 ·rw [zgd]
  cases h:p[(findR l x.label).getD 0]? with
  | none=>simp
  | some q=>have:=hp q (List.mem_of_getElem? h);simp only [Option.getD_some];omega
 ·omega
theorem Z4g {p:List Nat} {n:Nat} (hp:∀q∈p,q≤4 * n) (hs:n≤65536) (k:Nat):(0:Int)≤((p.getD k 0:Nat):Int)∧((p.getD k 0:Nat):Int)≤1099511627776:=by
 rw [zgd]
 cases h:p[k]? with
 | none=>simp
 | some q=>have:=hp q (List.mem_of_getElem? h);simp only [Option.getD_some];omega
theorem capQ {α:Type} [Enc α] {H:PH} {l:List α} {b:Option Addr} {n c:Nat} (h:SlR H l (.slice b n c)):n≤c:=by
 rcases (SlR.mk_iff.1 h).2 with ⟨h1,_⟩ | ⟨a,c',h1,h2,_⟩
 ·cases h1;exact Nat.le_refl _
 ·simp only [Value.slice.injEq] at h1
  omega
theorem zrr (l:List ItemR) (lv:Value) (S:PH) (hl:SlR S l lv) :
  Tri Tryz.prog zbn #[lv] S fun e K'=>∃v1 v2,e=.returned (.tuple #[v1,v2,.int .i64 (errA (asmR l))])∧SlR K' (codeA (asmR l)) v1∧SlR K' (plI (zsb (asmR l))) v2∧PH.le S K':=by
 obtain ⟨b,c,rfl⟩:=hl.sl
 have hlm:=hl.max
 have hcap:=capQ hl
 have hmx:maxLen=9223372036854775807:=rfl
 have hnil:∀{α:Type} [Enc α] (K:PH),SlR (α:=α) K [] (.slice none 0 0):=fun K=>SlR.mk_iff.2 ⟨by simp [maxLen],.inl ⟨rfl,rfl⟩⟩
 have err:∀{K:PH} {e:AsmE} {q:Int},asmR l=.error e→q=errA (.error e)→PH.le S K→∃v1 v2,Ending.returned (.tuple #[.slice none 0 0,.slice none 0 0,.int .i64 q])=.returned (.tuple #[v1,v2,.int .i64 (errA (asmR l))])∧SlR K (codeA (asmR l)) v1∧SlR K (plI (zsb (asmR l))) v2∧PH.le S K:=fun h hq hK=>by
  rw [h,hq]
  exact ⟨_,_,rfl,hnil _,hnil _,hK⟩
 refine za8 [.slice b l.length c] (by kernel_rfl) (by kernel_rfl) ?_
 refine ⟨fun g=>?_,fun g=>?_⟩
 ·simp only [ev0,ev,evV,List.cons_append,List.nil_append,List.getD_cons_zero,List.getD_cons_succ,List.map_cons,List.map_nil,iOf,bOf,sOf,pOf,slLen,z04,cmpI,arI,Value.ite_bool,z03,z02,z00,z01,zdt] at g
  obtain ⟨v1,v2,he,e1,e2,e3⟩:=err (K:=S) (e:=.many) (q:=213) (by unfold asmR;rw [if_pos (by omega)]) rfl (PH.le_refl _)
  exact ⟨v1,v2,he,e1,e2,e3⟩
 simp only [ev0,ev,evV,List.cons_append,List.nil_append,List.getD_cons_zero,List.getD_cons_succ,List.map_cons,List.map_nil,iOf,bOf,sOf,pOf,slLen,z04,cmpI,arI,Value.ite_bool,z03,z02,z00,z01,zdf] at g
 have hs:l.length≤65536:=by omega
 have hA1:asmR l=if badR [] l=1 then .error .form
   else if badR [] l=2 then .error .twice
   else if l.any (fun x=>z2f x && (findR l x.label).isNone)=true then .error .none_
   else .ok (codeR l (longR l) (z19 0 l (longR l)),(z19 0 l (longR l)).take l.length):=by
  unfold asmR;rw [if_neg (by omega)]
 refine ⟨fun n vs K=>∃k:Nat,k+n=l.length∧vs=[.slice none 0 0,.slice none 0 0,.int .i64 0,nI k]∧PH.le S K∧badR (l.take k) (l.drop k)=badR [] l∧∀x∈l.take k,mayR x=true,⟨l.length,0,by omega,rfl,PH.le_refl _,by simp,by simp⟩,?_⟩
 rintro n vs K _ ⟨k,hkn,rfl,l2,hbad,hmay⟩
 simp only [List.cons_append,List.nil_append]
 refine ⟨fun g2=>?_,fun g2=>?_⟩
 ·simp only [ev0,ev,evV,List.cons_append,List.nil_append,List.getD_cons_zero,List.getD_cons_succ,List.map_cons,List.map_nil,iOf,bOf,sOf,pOf,slLen,z04,cmpI,arI,Value.ite_bool,z03,z02,z00,z01,zdt] at g2
  have hk:k < l.length:=by omega
  obtain ⟨x,hx⟩:∃x,l[k]?=some x:=⟨_,zge hk⟩
  have hdl:l.drop k=x::l.drop (k+1):=by rw [List.drop_eq_getElem_cons hk,(List.getElem?_eq_some_iff.1 hx).2]
  have htl:l.take (k+1)=l.take k++[x]:=by rw [List.take_add_one,hx];rfl
  rw [hdl,Z6s] at hbad
  have hlK:=hl.le l2
  obtain ⟨y1,_,cs,y2,y3⟩:=hlK.get hx
  obtain ⟨rfl,hx8⟩:=itemR_iff.1 y2
  have w2:IntKind.i64.wrap ((k:Int)+1)=((k+1:Nat):Int):=by rw [w64 (by omega) (by omega)];rfl
  refine ⟨fun _=>?_,itemV x,rfl,by simp only [ev0,ev,evV,List.cons_append,List.nil_append,List.getD_cons_zero,List.getD_cons_succ,List.map_cons,List.map_nil,iOf,bOf,sOf,pOf,slLen,z04,cmpI,arI,Value.ite_bool,z03,z02,z00,z01];exact y3,?_⟩
  ·simp only [Chk.holds,ev0,ev,evV,List.cons_append,List.nil_append,List.getD_cons_zero,List.getD_cons_succ,List.map_cons,List.map_nil,iOf,bOf,sOf,pOf,slLen,z04,cmpI,arI,Value.ite_bool,z03,z02,z00,z01];exact ⟨y1,by omega,by omega⟩
  simp only [List.cons_append,List.nil_append]
  refine z0b [.bool (mayR x)] zgc (zyo x K hx8) rfl z06 fun K2 l3=>?_
  simp only [List.cons_append,List.nil_append]
  refine ⟨fun g3=>?_,fun g3=>?_⟩
  ·simp only [ev0,ev,evV,List.cons_append,List.nil_append,List.getD_cons_zero,List.getD_cons_succ,List.map_cons,List.map_nil,iOf,bOf,sOf,pOf,slLen,z04,cmpI,arI,Value.ite_bool,z03,z02,z00,z01,Bool.not_eq_true'] at g3
   rw [if_pos g3] at hbad
   obtain ⟨v1,v2,he,e1,e2,e3⟩:=err (K:=K2) (e:=.form) (q:=210) (by rw [hA1,if_pos hbad.symm]) rfl (PH.le_trans l2 l3)
   exact ⟨v1,v2,he,e1,e2,e3⟩
  simp only [ev0,ev,evV,List.cons_append,List.nil_append,List.getD_cons_zero,List.getD_cons_succ,List.map_cons,List.map_nil,iOf,bOf,sOf,pOf,slLen,z04,cmpI,arI,Value.ite_bool,z03,z02,z00,z01,Bool.not_eq_false'] at g3
  rw [if_neg (by rw [g3];simp)] at hbad
  refine ⟨fun vs K3=>vs=[.bool (decide (x.kind=1∧(findR (l.take k) x.label).isSome=true))]∧PH.le K2 K3,?_,?_⟩
  ·rintro vs K3 _ ⟨rfl,l4⟩
   simp only [List.cons_append,List.nil_append]
   have l24:=PH.le_trans l2 (PH.le_trans l3 l4)
   refine ⟨fun g4=>?_,fun g4=>?_⟩
   ·simp only [ev0,ev,evV,List.cons_append,List.nil_append,List.getD_cons_zero,List.getD_cons_succ,List.map_cons,List.map_nil,iOf,bOf,sOf,pOf,slLen,z04,cmpI,arI,Value.ite_bool,z03,z02,z00,z01,zdt] at g4
    rw [if_pos g4] at hbad
    obtain ⟨v1,v2,he,e1,e2,e3⟩:=err (K:=K3) (e:=.twice) (q:=211) (by rw [hA1,if_neg (by omega),if_pos hbad.symm]) rfl l24
    exact ⟨v1,v2,he,e1,e2,e3⟩
   ·simp only [ev0,ev,evV,List.cons_append,List.nil_append,List.getD_cons_zero,List.getD_cons_succ,List.map_cons,List.map_nil,iOf,bOf,sOf,pOf,slLen,z04,cmpI,arI,Value.ite_bool,z03,z02,z00,z01,zdf] at g4
    rw [if_neg g4] at hbad
    refine ⟨_,z05,n - 1,by omega,k+1,by omega,by simp only [ev0,ev,evV,List.cons_append,List.nil_append,List.getD_cons_zero,List.getD_cons_succ,List.map_cons,List.map_nil,iOf,bOf,sOf,pOf,slLen,z04,cmpI,arI,Value.ite_bool,z03,z02,z00,z01,w2],l24,by rw [htl];exact hbad,fun y hy=>?_⟩
    rw [htl] at hy
    rcases List.mem_append.1 hy with hy | hy
    ·exact hmay y hy
    ·rw [List.mem_singleton.1 hy];exact g3
  ·refine ⟨[.int .i64 x.kind],rfl,by simp only [ev0,ev,evV,List.cons_append,List.nil_append,List.getD_cons_zero,List.getD_cons_succ,List.map_cons,List.map_nil,iOf,bOf,sOf,pOf,slLen,z04,cmpI,arI,Value.ite_bool,z03,z02,z00,z01];exact z30 (z18 l3 y3) 0 _ rfl,fun _=>?_,fun g4=>?_,fun g4=>?_⟩
   ·simp only [Chk.holds,ev0,ev,evV,List.cons_append,List.nil_append,List.getD_cons_zero,List.getD_cons_succ,List.map_cons,List.map_nil,iOf,bOf,sOf,pOf,slLen,z04,cmpI,arI,Value.ite_bool,z03,z02,z00,z01,slCap];omega
   ·simp only [ev0,ev,evV,List.cons_append,List.nil_append,List.getD_cons_zero,List.getD_cons_succ,List.map_cons,List.map_nil,iOf,bOf,sOf,pOf,slLen,z04,cmpI,arI,Value.ite_bool,z03,z02,z00,z01,zdt] at g4
    refine ⟨[.int .i64 x.label],rfl,by simp only [ev0,ev,evV,List.cons_append,List.nil_append,List.getD_cons_zero,List.getD_cons_succ,List.map_cons,List.map_nil,iOf,bOf,sOf,pOf,slLen,z04,cmpI,arI,Value.ite_bool,z03,z02,z00,z01];exact z30 (z18 l3 y3) 6 _ rfl,?_⟩
    simp only [List.cons_append,List.nil_append]
    have hcut:=(hlK.le l3).cut (a:=0) (b:=k) (by omega) (by omega)
    rw [List.drop_zero] at hcut
    refine z0b [.int .i64 (z1f (l.take k) x.label)] z2r (z96 (l.take k) x.label _ K2 hcut) rfl z06 fun K3 l4=>⟨_,z05,?_,l4⟩
    simp only [ev0,ev,evV,List.cons_append,List.nil_append,List.getD_cons_zero,List.getD_cons_succ,List.map_cons,List.map_nil,iOf,bOf,sOf,pOf,slLen,z04,cmpI,arI,Value.ite_bool,z03,z02,z00,z01]
    rw [List.cons.injEq]
    refine ⟨?_,rfl⟩
    rw [Value.bool.injEq,decide_eq_decide]
    unfold z1f
    cases findR (l.take k) x.label with
    | none=>simp
    | some j=>simp [g4]
   ·simp only [ev0,ev,evV,List.cons_append,List.nil_append,List.getD_cons_zero,List.getD_cons_succ,List.map_cons,List.map_nil,iOf,bOf,sOf,pOf,slLen,z04,cmpI,arI,Value.ite_bool,z03,z02,z00,z01,zdf] at g4
    exact ⟨_,z05,by simp [ev0,ev,evV,List.cons_append,List.nil_append,List.getD_cons_zero,List.getD_cons_succ,List.map_cons,List.map_nil,iOf,bOf,sOf,pOf,slLen,z04,cmpI,arI,Value.ite_bool,z03,z02,z00,z01,g4],PH.le_refl _⟩
 simp only [ev0,ev,evV,List.cons_append,List.nil_append,List.getD_cons_zero,List.getD_cons_succ,List.map_cons,List.map_nil,iOf,bOf,sOf,pOf,slLen,z04,cmpI,arI,Value.ite_bool,z03,z02,z00,z01,zdf] at g2
 have hk:k=l.length:=by omega
 subst hk
 rw [List.take_of_length_le (Nat.le_refl _)] at hbad hmay
 rw [List.drop_of_length_le (Nat.le_refl _)] at hbad
 have hb0:badR [] l=0:=by rw [←hbad];rfl
 have hA2:asmR l=if l.any (fun x=>z2f x && (findR l x.label).isNone)=true then .error .none_
   else .ok (codeR l (longR l) (z19 0 l (longR l)),(z19 0 l (longR l)).take l.length):=by
  rw [hA1,hb0,if_neg (by omega),if_neg (by omega)]
 refine ⟨fun n vs K=>∃k:Nat,k+n=l.length∧vs=[.slice none 0 0,.slice none 0 0,.int .i64 0,nI k]∧PH.le S K∧∀x∈l.take k,(z2f x && (findR l x.label).isNone)=false,⟨l.length,0,by omega,rfl,l2,by simp⟩,?_⟩
 rintro n vs K5 _ ⟨k,hkn,rfl,l5,hno⟩
 simp only [List.cons_append,List.nil_append]
 refine ⟨fun g3=>?_,fun g3=>?_⟩
 ·simp only [ev0,ev,evV,List.cons_append,List.nil_append,List.getD_cons_zero,List.getD_cons_succ,List.map_cons,List.map_nil,iOf,bOf,sOf,pOf,slLen,z04,cmpI,arI,Value.ite_bool,z03,z02,z00,z01,zdt] at g3
  have hk:k < l.length:=by omega
  obtain ⟨x,hx⟩:∃x,l[k]?=some x:=⟨_,zge hk⟩
  have htl:l.take (k+1)=l.take k++[x]:=by rw [List.take_add_one,hx];rfl
  have hlK:=hl.le l5
  obtain ⟨y1,_,cs,y2,y3⟩:=hlK.get hx
  obtain ⟨rfl,hx8⟩:=itemR_iff.1 y2
  have w2:IntKind.i64.wrap ((k:Int)+1)=((k+1:Nat):Int):=by rw [w64 (by omega) (by omega)];rfl
  refine ⟨fun vs K6=>vs=[.bool (z2f x && (findR l x.label).isNone)]∧PH.le K5 K6,?_,fun _=>?_,itemV x,rfl,by simp only [ev0,ev,evV,List.cons_append,List.nil_append,List.getD_cons_zero,List.getD_cons_succ,List.map_cons,List.map_nil,iOf,bOf,sOf,pOf,slLen,z04,cmpI,arI,Value.ite_bool,z03,z02,z00,z01];exact y3,?_⟩
  ·rintro vs K6 _ ⟨rfl,l6⟩
   simp only [List.cons_append,List.nil_append]
   refine ⟨fun g4=>?_,fun g4=>?_⟩
   ·simp only [ev0,ev,evV,List.cons_append,List.nil_append,List.getD_cons_zero,List.getD_cons_succ,List.map_cons,List.map_nil,iOf,bOf,sOf,pOf,slLen,z04,cmpI,arI,Value.ite_bool,z03,z02,z00,z01] at g4
    obtain ⟨v1,v2,he,e1,e2,e3⟩:=err (K:=K6) (e:=.none_) (q:=212) (by rw [hA2,if_pos (List.any_eq_true.2 ⟨x,List.mem_of_getElem? hx,g4⟩)]) rfl (PH.le_trans l5 l6)
    exact ⟨v1,v2,he,e1,e2,e3⟩
   ·simp only [ev0,ev,evV,List.cons_append,List.nil_append,List.getD_cons_zero,List.getD_cons_succ,List.map_cons,List.map_nil,iOf,bOf,sOf,pOf,slLen,z04,cmpI,arI,Value.ite_bool,z03,z02,z00,z01] at g4
    refine ⟨_,z05,n - 1,by omega,k+1,by omega,by simp only [ev0,ev,evV,List.cons_append,List.nil_append,List.getD_cons_zero,List.getD_cons_succ,List.map_cons,List.map_nil,iOf,bOf,sOf,pOf,slLen,z04,cmpI,arI,Value.ite_bool,z03,z02,z00,z01,w2],PH.le_trans l5 l6,fun y hy=>?_⟩
    rw [htl] at hy
    rcases List.mem_append.1 hy with hy | hy
    ·exact hno y hy
    ·rw [List.mem_singleton.1 hy];exact g4
  ·simp only [Chk.holds,ev0,ev,evV,List.cons_append,List.nil_append,List.getD_cons_zero,List.getD_cons_succ,List.map_cons,List.map_nil,iOf,bOf,sOf,pOf,slLen,z04,cmpI,arI,Value.ite_bool,z03,z02,z00,z01];exact ⟨y1,by omega,by omega⟩
  ·simp only [List.cons_append,List.nil_append]
   refine z0b [.bool (z2f x)] z3l (zak x K5) rfl z06 fun K6 l6=>?_
   simp only [List.cons_append,List.nil_append]
   refine ⟨fun g4=>?_,fun g4=>?_⟩
   ·simp only [ev0,ev,evV,List.cons_append,List.nil_append,List.getD_cons_zero,List.getD_cons_succ,List.map_cons,List.map_nil,iOf,bOf,sOf,pOf,slLen,z04,cmpI,arI,Value.ite_bool,z03,z02,z00,z01] at g4
    refine ⟨[.int .i64 x.label],rfl,by simp only [ev0,ev,evV,List.cons_append,List.nil_append,List.getD_cons_zero,List.getD_cons_succ,List.map_cons,List.map_nil,iOf,bOf,sOf,pOf,slLen,z04,cmpI,arI,Value.ite_bool,z03,z02,z00,z01];exact z30 (z18 l6 y3) 6 _ rfl,?_⟩
    simp only [List.cons_append,List.nil_append]
    refine z0b [.int .i64 (z1f l x.label)] z2r (z96 l x.label _ K6 (hlK.le l6)) rfl z06 fun K7 l7=>⟨_,z05,?_,PH.le_trans l6 l7⟩
    simp only [ev0,ev,evV,List.cons_append,List.nil_append,List.getD_cons_zero,List.getD_cons_succ,List.map_cons,List.map_nil,iOf,bOf,sOf,pOf,slLen,z04,cmpI,arI,Value.ite_bool,z03,z02,z00,z01]
    rw [List.cons.injEq]
    refine ⟨?_,rfl⟩
    rw [Value.bool.injEq,g4,Bool.true_and]
    unfold z1f
    cases findR l x.label with
    | none=>simp
    | some j=>simp
   ·simp only [ev0,ev,evV,List.cons_append,List.nil_append,List.getD_cons_zero,List.getD_cons_succ,List.map_cons,List.map_nil,iOf,bOf,sOf,pOf,slLen,z04,cmpI,arI,Value.ite_bool,z03,z02,z00,z01] at g4
    exact ⟨_,z05,by simp [ev0,ev,evV,List.cons_append,List.nil_append,List.getD_cons_zero,List.getD_cons_succ,List.map_cons,List.map_nil,iOf,bOf,sOf,pOf,slLen,z04,cmpI,arI,Value.ite_bool,z03,z02,z00,z01,g4],l6⟩
 simp only [ev0,ev,evV,List.cons_append,List.nil_append,List.getD_cons_zero,List.getD_cons_succ,List.map_cons,List.map_nil,iOf,bOf,sOf,pOf,slLen,z04,cmpI,arI,Value.ite_bool,z03,z02,z00,z01,zdf] at g3
 have hk:k=l.length:=by omega
 subst hk
 rw [List.take_of_length_le (Nat.le_refl _)] at hno
 have hA3:asmR l=.ok (codeR l (longR l) (z19 0 l (longR l)),(z19 0 l (longR l)).take l.length):=by
  rw [hA2,if_neg (by
   rw [List.any_eq_true]
   rintro ⟨x,hx,h⟩
   rw [hno x hx] at h;cases h)]
 have hnm:∀x∈l,z2f x=true→(findR l x.label).isSome=true:=fun x hx h=>by
  have:=hno x hx
  rw [h,Bool.true_and] at this
  cases hf:findR l x.label with
  | none=>rw [hf] at this;cases this
  | some j=>rfl
 rw [hA3]
 refine z0a zcz (zvv l _ K5 (hl.le l5) hs hnm) ?_
 rintro e K6 ⟨bv,pv,rfl,hbv,hpv,l6⟩
 obtain ⟨p,hp⟩:∃p,p=z19 0 l (longR l):=⟨_,rfl⟩
 obtain ⟨long,hlong⟩:∃long,long=longR l:=⟨_,rfl⟩
 rw [←hp] at hpv ⊢
 rw [←hlong] at hbv ⊢
 have hll:long.length=l.length:=by rw [hlong];exact zw0 l
 have hpl:p.length=l.length+1:=by rw [hp];exact ziu l _ 0 (zw0 l)
 have hple:∀q∈p,q≤4 * l.length:=by
  intro q hq
  rw [hp] at hq
  have:=zl1 l _ 0 q hq
  omega
 have hplI:(plI p).length=l.length+1:=by simp [plI,hpl]
 obtain ⟨bb,bc,rfl⟩:=hbv.sl
 obtain ⟨pb,pc,rfl⟩:=hpv.sl
 have hpcap:=capQ hpv
 simp only [hll] at hbv ⊢
 simp only [hplI] at hpv hpcap ⊢
 refine ⟨_,[.slice bb l.length bc,.slice pb (l.length+1) pc],rfl,rfl,rfl,z06,?_⟩
 simp only [List.cons_append,List.nil_append]
 have hl6:=hl.le (PH.le_trans l5 l6)
 have h6:Held K6 K6 []:=Held.nil (PH.le_refl _)
 refine zt8 (α:=W32) (b:=4) uU32s Z0u h6 z06 fun v1 K7 h7 _ _=>?_
 simp only [List.cons_append,List.nil_append]
 obtain ⟨Z,hZ⟩:∃Z,Z=l.zipIdx.zip long:=⟨_,rfl⟩
 have hZl:Z.length=l.length:=by rw [hZ];simp [hll]
 refine ⟨fun n vs K=>∃(k:Nat) (u:Value) (S2:PH),k+n=l.length∧vs=[u,nI k]∧PH.le K6 S2∧((Z.take k).flatMap (partC l p)).length≤4 * k∧Held S2 K [orow 121 ((Z.take k).flatMap (partC l p)) u],⟨l.length,0,v1,K6,by omega,rfl,PH.le_refl _,by simp,by simpa using h7⟩,?_⟩
 rintro n vs K8 _ ⟨k,u,S2,hkn,rfl,l8,hcl,h8⟩
 simp only [List.cons_append,List.nil_append]
 refine ⟨fun g4=>?_,fun g4=>?_⟩
 ·simp only [ev0,ev,evV,List.cons_append,List.nil_append,List.getD_cons_zero,List.getD_cons_succ,List.map_cons,List.map_nil,iOf,bOf,sOf,pOf,slLen,z04,cmpI,arI,Value.ite_bool,z03,z02,z00,z01,zdt] at g4
  have hk:k < l.length:=by omega
  obtain ⟨x,hx⟩:∃x,l[k]?=some x:=⟨_,zge hk⟩
  obtain ⟨bk,hbk⟩:∃b,long[k]?=some b:=⟨_,zge (by omega)⟩
  obtain ⟨r,hr⟩:∃r,p[k]?=some r:=⟨_,zge (by omega)⟩
  have hpr:(plI p)[k]?=some (r:Int):=by simp [plI,hr]
  have hrk:((p.getD k 0:Nat):Int)=(r:Int):=by rw [zgd,hr];rfl
  have hzk:Z[k]?=some ((x,k),bk):=by rw [hZ];exact Z0s hx hbk
  have htz:(Z.take (k+1)).flatMap (partC l p)=(Z.take k).flatMap (partC l p)++(z45 x bk (r:Int) (toR l p x)).map z91:=by
   rw [List.take_add_one,hzk]
   simp only [Option.toList_some,List.flatMap_append,List.flatMap_cons,List.flatMap_nil,List.append_nil,partC]
   rw [hrk]
  have hin:=Z1t x bk (r:Int) (toR l p x)
  have hto:=Z47 hple hs x
  have hat:=Z4g hple hs k
  rw [hrk] at hat
  have w2:IntKind.i64.wrap ((k:Int)+1)=((k+1:Nat):Int):=by rw [w64 (by omega) (by omega)];rfl
  refine ⟨fun vs K9=>vs=[.int .i64 (toR l p x)]∧Held S2 K9 [orow 121 ((Z.take k).flatMap (partC l p)) u],?_,?_⟩
  rotate_left
  ·obtain ⟨y1,_,cs,y2,y3⟩:=(hl6.le (PH.le_trans l8 h8.sh)).get hx
   obtain ⟨rfl,hx8⟩:=itemR_iff.1 y2
   refine ⟨fun _=>?_,itemV x,rfl,by simp only [ev0,ev,evV,List.cons_append,List.nil_append,List.getD_cons_zero,List.getD_cons_succ,List.map_cons,List.map_nil,iOf,bOf,sOf,pOf,slLen,z04,cmpI,arI,Value.ite_bool,z03,z02,z00,z01];exact y3,?_⟩
   ·simp only [Chk.holds,ev0,ev,evV,List.cons_append,List.nil_append,List.getD_cons_zero,List.getD_cons_succ,List.map_cons,List.map_nil,iOf,bOf,sOf,pOf,slLen,z04,cmpI,arI,Value.ite_bool,z03,z02,z00,z01];exact ⟨y1,by omega,by omega⟩
   simp only [List.cons_append,List.nil_append]
   refine z0a z3l (h8.gives (zak x S2)) ?_
   rintro e K9 ⟨rfl,h9,l9⟩
   refine ⟨_,[.bool (z2f x)],rfl,rfl,rfl,z06,?_⟩
   simp only [List.cons_append,List.nil_append]
   refine ⟨fun g5=>?_,fun g5=>?_⟩
   ·simp only [ev0,ev,evV,List.cons_append,List.nil_append,List.getD_cons_zero,List.getD_cons_succ,List.map_cons,List.map_nil,iOf,bOf,sOf,pOf,slLen,z04,cmpI,arI,Value.ite_bool,z03,z02,z00,z01] at g5
    refine ⟨[.int .i64 x.label],rfl,by simp only [ev0,ev,evV,List.cons_append,List.nil_append,List.getD_cons_zero,List.getD_cons_succ,List.map_cons,List.map_nil,iOf,bOf,sOf,pOf,slLen,z04,cmpI,arI,Value.ite_bool,z03,z02,z00,z01];exact z30 (z18 l9 y3) 6 _ rfl,?_⟩
    simp only [List.cons_append,List.nil_append]
    refine z0a z2r (h9.gives (z96 l x.label _ S2 (hl6.le l8))) ?_
    rintro e Ka ⟨rfl,ha,la⟩
    refine ⟨_,[.int .i64 (z1f l x.label)],rfl,rfl,rfl,z06,?_⟩
    simp only [List.cons_append,List.nil_append]
    obtain ⟨j,hj⟩:=Option.isSome_iff_exists.1 (hnm x (List.mem_of_getElem? hx) g5)
    have hjl:=zqw hj
    have hfj:z1f l x.label=(j:Int):=by unfold z1f;rw [hj]
    obtain ⟨q,hq⟩:∃q,p[j]?=some q:=⟨_,zge (by omega)⟩
    have hpq:(plI p)[j]?=some (q:Int):=by simp [plI,hq]
    obtain ⟨q1,_,qcs,q2,q3⟩:=(hpv.le (PH.le_trans l8 ha.sh)).get hpq
    obtain ⟨rfl,_⟩:=csIK q2
    have htoq:toR l p x=(q:Int):=by
     unfold toR
     rw [if_pos g5,hj]
     simp [zgd,hq]
    rw [hfj]
    refine ⟨fun _=>?_,[.int .i64 (q:Int)],rfl,by simp only [ev0,ev,evV,List.cons_append,List.nil_append,List.getD_cons_zero,List.getD_cons_succ,List.map_cons,List.map_nil,iOf,bOf,sOf,pOf,slLen,z04,cmpI,arI,Value.ite_bool,z03,z02,z00,z01];exact q3,_,z05,?_,ha⟩
    ·simp only [Chk.holds,ev0,ev,evV,List.cons_append,List.nil_append,List.getD_cons_zero,List.getD_cons_succ,List.map_cons,List.map_nil,iOf,bOf,sOf,pOf,slLen,z04,cmpI,arI,Value.ite_bool,z03,z02,z00,z01];exact ⟨q1,by omega,by omega⟩
    ·rw [htoq];rfl
   ·simp only [ev0,ev,evV,List.cons_append,List.nil_append,List.getD_cons_zero,List.getD_cons_succ,List.map_cons,List.map_nil,iOf,bOf,sOf,pOf,slLen,z04,cmpI,arI,Value.ite_bool,z03,z02,z00,z01] at g5
    refine ⟨_,z05,?_,h9⟩
    unfold toR
    rw [if_neg (by rw [g5];exact Bool.false_ne_true)];rfl
  rintro vs K9 _ ⟨rfl,h9⟩
  simp only [List.cons_append,List.nil_append]
  obtain ⟨y1,_,cs,y2,y3⟩:=(hl6.le (PH.le_trans l8 h9.sh)).get hx
  obtain ⟨rfl,hx8⟩:=itemR_iff.1 y2
  obtain ⟨z1,_,zcs,z2,z3⟩:=(hbv.le (PH.le_trans l8 h9.sh)).get hbk
  obtain rfl:=csBK z2
  obtain ⟨q1,_,qcs,q2,q3⟩:=(hpv.le (PH.le_trans l8 h9.sh)).get hpr
  obtain ⟨rfl,_⟩:=csIK q2
  refine ⟨fun _=>?_,itemV x,rfl,by simp only [ev0,ev,evV,List.cons_append,List.nil_append,List.getD_cons_zero,List.getD_cons_succ,List.map_cons,List.map_nil,iOf,bOf,sOf,pOf,slLen,z04,cmpI,arI,Value.ite_bool,z03,z02,z00,z01];exact y3,fun _=>?_,[.bool bk],rfl,by simp only [ev0,ev,evV,List.cons_append,List.nil_append,List.getD_cons_zero,List.getD_cons_succ,List.map_cons,List.map_nil,iOf,bOf,sOf,pOf,slLen,z04,cmpI,arI,Value.ite_bool,z03,z02,z00,z01];exact z3,fun _=>?_,[.int .i64 (r:Int)],rfl,by simp only [ev0,ev,evV,List.cons_append,List.nil_append,List.getD_cons_zero,List.getD_cons_succ,List.map_cons,List.map_nil,iOf,bOf,sOf,pOf,slLen,z04,cmpI,arI,Value.ite_bool,z03,z02,z00,z01];exact q3,?_⟩
  ·simp only [Chk.holds,ev0,ev,evV,List.cons_append,List.nil_append,List.getD_cons_zero,List.getD_cons_succ,List.map_cons,List.map_nil,iOf,bOf,sOf,pOf,slLen,z04,cmpI,arI,Value.ite_bool,z03,z02,z00,z01];exact ⟨y1,by omega,by omega⟩
  ·simp only [Chk.holds,ev0,ev,evV,List.cons_append,List.nil_append,List.getD_cons_zero,List.getD_cons_succ,List.map_cons,List.map_nil,iOf,bOf,sOf,pOf,slLen,z04,cmpI,arI,Value.ite_bool,z03,z02,z00,z01];exact ⟨z1,by omega,by omega⟩
  ·simp only [Chk.holds,ev0,ev,evV,List.cons_append,List.nil_append,List.getD_cons_zero,List.getD_cons_succ,List.map_cons,List.map_nil,iOf,bOf,sOf,pOf,slLen,z04,cmpI,arI,Value.ite_bool,z03,z02,z00,z01];exact ⟨q1,by omega,by omega⟩
  simp only [List.cons_append,List.nil_append]
  refine z0a zd8 (h9.pure (R:=fun e S'=>∃v,e=.returned v∧SlR S' (z45 x bk (r:Int) (toR l p x)) v) ((zws x bk (r:Int) (toR l p x) S2 hx8 (hmay x (List.mem_of_getElem? hx)) hat hto).mono fun e K' ⟨v,a1,a2,a3⟩=>⟨a3,v,a1,a2⟩)) ?_
  rintro e Kb ⟨Sb,lb,hb,iv,rfl,hiv⟩
  obtain ⟨ib,ic,rfl⟩:=hiv.sl
  refine ⟨_,[.slice ib (z45 x bk (r:Int) (toR l p x)).length ic],rfl,rfl,rfl,z06,?_⟩
  simp only [List.cons_append,List.nil_append]
  generalize hI:z45 x bk (r:Int) (toR l p x)=I at *
  refine ⟨fun n vs K=>∃(j:Nat) (w:Value) (S3:PH),j+n=I.length∧vs=[w,nI j]∧PH.le Sb S3∧Held S3 K [orow 121 ((Z.take k).flatMap (partC l p)++(I.take j).map z91) w],⟨I.length,0,u,Sb,by omega,rfl,PH.le_refl _,by simpa using hb⟩,?_⟩
  rintro n2 vs Kc _ ⟨j,w,S3,hjn,rfl,lc,hc⟩
  simp only [List.cons_append,List.nil_append]
  refine ⟨fun g5=>?_,fun g5=>?_⟩
  ·simp only [ev0,ev,evV,List.cons_append,List.nil_append,List.getD_cons_zero,List.getD_cons_succ,List.map_cons,List.map_nil,iOf,bOf,sOf,pOf,slLen,z04,cmpI,arI,Value.ite_bool,z03,z02,z00,z01,zdt] at g5
   obtain ⟨y,hy⟩:∃y,I[j]?=some y:=⟨_,zge (by omega)⟩
   obtain ⟨m1,_,mcs,m2,m3⟩:=(hiv.le (PH.le_trans lc hc.sh)).get hy
   obtain ⟨rfl,my⟩:=insR_iff.1 m2
   have hty:(I.take (j+1)).map z91=(I.take j).map z91++[z91 y]:=by rw [List.take_add_one,hy];simp
   have w3:IntKind.i64.wrap ((j:Int)+1)=((j+1:Nat):Int):=by rw [w64 (by omega) (by omega)];rfl
   refine ⟨fun _=>?_,insV y,rfl,by simp only [ev0,ev,evV,List.cons_append,List.nil_append,List.getD_cons_zero,List.getD_cons_succ,List.map_cons,List.map_nil,iOf,bOf,sOf,pOf,slLen,z04,cmpI,arI,Value.ite_bool,z03,z02,z00,z01];exact m3,?_⟩
   ·simp only [Chk.holds,ev0,ev,evV,List.cons_append,List.nil_append,List.getD_cons_zero,List.getD_cons_succ,List.map_cons,List.map_nil,iOf,bOf,sOf,pOf,slLen,z04,cmpI,arI,Value.ite_bool,z03,z02,z00,z01];exact ⟨m1,by omega,by omega⟩
   simp only [List.cons_append,List.nil_append]
   refine z0a z3e (hc.gives (z9f y S3 my)) ?_
   rintro e Kd ⟨rfl,hd,ld⟩
   refine ⟨_,[.int .u32 ((encR y).getD 0),.int .i64 (encE (encR y))],rfl,rfl,rfl,z06,?_⟩
   simp only [List.cons_append,List.nil_append]
   have hlen:((Z.take k).flatMap (partC l p)++(I.take j).map z91).length≤4 * l.length:=by
    rw [zla,List.length_map,List.length_take];omega
   refine z1o (b:=4) (more:=[z91 y]) [.int .u32 ((encR y).getD 0)] uU32s Z0u rfl (by decide) (by decide) hd (by kernel_rfl) (.cons (csW (Z7r y)) .nil) z06 (fun w=>by kernel_rfl) (fun w=>by kernel_rfl)
    (by simp only [maxLen,List.length_singleton];omega) (by simp only [List.length_singleton];omega) fun w6 v6 S6 K6 l6 h6=>⟨z06,?_⟩
   refine ⟨_,z05,n2 - 1,by omega,j+1,v6,S6,by omega,by simp only [ev0,ev,evV,List.cons_append,List.nil_append,List.getD_cons_zero,List.getD_cons_succ,List.map_cons,List.map_nil,iOf,bOf,sOf,pOf,slLen,z04,cmpI,arI,Value.ite_bool,z03,z02,z00,z01,w3],PH.le_trans lc l6,?_⟩
   rw [hty,←List.append_assoc];exact h6
  ·simp only [ev0,ev,evV,List.cons_append,List.nil_append,List.getD_cons_zero,List.getD_cons_succ,List.map_cons,List.map_nil,iOf,bOf,sOf,pOf,slLen,z04,cmpI,arI,Value.ite_bool,z03,z02,z00,z01,zdf] at g5
   rw [List.take_of_length_le (l:=I) (by omega),←htz] at hc
   refine ⟨_,z1i (by decide) |>.trans z05,n - 1,by omega,k+1,w,S3,by omega,by simp only [ev0,ev,evV,List.cons_append,List.nil_append,List.getD_cons_zero,List.getD_cons_succ,List.map_cons,List.map_nil,iOf,bOf,sOf,pOf,slLen,z04,cmpI,arI,Value.ite_bool,z03,z02,z00,z01,w2],PH.le_trans l8 (PH.le_trans lb lc),?_,hc⟩
   rw [htz,zla,List.length_map];omega
 ·simp only [ev0,ev,evV,List.cons_append,List.nil_append,List.getD_cons_zero,List.getD_cons_succ,List.map_cons,List.map_nil,iOf,bOf,sOf,pOf,slLen,z04,cmpI,arI,Value.ite_bool,z03,z02,z00,z01,zdf] at g4
  have hk:k=l.length:=by omega
  subst hk
  have hcode:(Z.take l.length).flatMap (partC l p)=codeR l long p:=by
   rw [List.take_of_length_le (by omega),hZ];rfl
  rw [hcode] at h8
  obtain ⟨S',s1,s2,s3⟩:=h8.freeze
  have hcut:=(hpv.le (PH.le_trans l8 (PH.le_trans s2 s3.sh))).cut (a:=0) (b:=l.length) (by omega) (by omega)
  rw [List.drop_zero] at hcut
  have hle:PH.le S K8:=PH.le_trans l5 (PH.le_trans l6 (PH.le_trans l8 (PH.le_trans s2 s3.sh)))
  refine ⟨fun _=>?_,u,slsV (.slice pb (l.length+1) pc) 0 (l.length:Int) 1,?_,s1.le s3.sh,?_,hle⟩
  ·simp only [Chk.holds,ev0,ev,evV,List.cons_append,List.nil_append,List.getD_cons_zero,List.getD_cons_succ,List.map_cons,List.map_nil,iOf,bOf,sOf,pOf,slLen,z04,cmpI,arI,Value.ite_bool,z03,z02,z00,z01,slCap];omega
  ·simp [ev0,ev,evV,List.cons_append,List.nil_append,List.getD_cons_zero,List.getD_cons_succ,List.map_cons,List.map_nil,iOf,bOf,sOf,pOf,slLen,z04,cmpI,arI,Value.ite_bool,z03,z02,z00,z01,partV,Bool.false_eq_true,if_false,if_true,List.headD_cons,errA]
  ·show SlR K8 (plI (p.take l.length)) _
   rw [show plI (p.take l.length)=(plI p).take l.length by simp [plI,List.map_take]]
   exact hcut
def memR (stack size:Int):List Int:=((((List.replicate 32 0).set 28 (32+stack)).set 29 (32+stack+size)).set 30 (32+stack+size)).set 31 (32+stack+2 * size)
def imgR (l:List ItemR) (stack size:Int):ImgR:=⟨codeA (asmR l),memR stack size,32+stack+2 * size⟩
theorem zp8:Tryz.prog.underlying 50=some (.slice 131):=by kernel_rfl
theorem zix:ElemOk Tryz.prog 131 8 64=true:=by kernel_rfl
theorem zz9 (l1 l2 l3:List ItemR) (stack size:Int) (w1 w2 w3:Value) (S:PH) (h1:SlR S l1 w1) (h2:SlR S l2 w2) (h3:SlR S l3 w3) (hst:0≤stack∧stack≤1048576) (hsz:0≤size∧size≤1048576) (hlen:l1.length+l2.length+l3.length≤1000000000) :
  Tri Tryz.prog zfl #[w1,w2,w3,.int .i64 stack,.int .i64 size] S fun e K'=>∃cv mv,e=.returned (.tuple #[.agg #[cv,mv,.int .i64 (imgR (l1++l2++l3) stack size).words],.bool (decide (errA (asmR (l1++l2++l3))=0))])∧SlR K' (imgR (l1++l2++l3) stack size).code cv∧SlR K' (memR stack size) mv∧PH.le S K':=by
 obtain ⟨b1,c1,rfl⟩:=h1.sl
 obtain ⟨b2,c2,rfl⟩:=h2.sl
 obtain ⟨b3,c3,rfl⟩:=h3.sl
 refine zck [.slice b1 l1.length c1,.slice b2 l2.length c2,.slice b3 l3.length c3,.int .i64 stack,.int .i64 size] (by kernel_rfl) (by kernel_rfl) ?_
 have h0:Held S S []:=Held.nil (PH.le_refl _)
 refine zt8 (α:=ItemR) (b:=64) zp8 zix h0 z06 fun v1 K1 k1 _ _=>?_
 simp only [List.cons_append,List.nil_append]
 refine z7b (b:=64) (more:=l1) zp8 zix (by kernel_rfl) (by kernel_rfl) k1 (h1.srcS k1.sh) (by simp only [maxLen,List.length_nil];omega) (by simp only [List.length_nil];omega) fun v2 K2 k2 _=>⟨z06,?_⟩
 rw [List.nil_append] at k2
 simp only [List.cons_append,List.nil_append]
 refine z7b (b:=64) (more:=l2) zp8 zix (by kernel_rfl) (by kernel_rfl) k2 (h2.srcS k2.sh) (by simp only [maxLen];omega) (by omega) fun v3 K3 k3 _=>⟨z06,?_⟩
 simp only [List.cons_append,List.nil_append]
 refine z7b (b:=64) (more:=l3) zp8 zix (by kernel_rfl) (by kernel_rfl) k3 (h3.srcS k3.sh) (by simp only [maxLen,zla];omega) (by simp only [zla];omega) fun v4 K4 k4 _=>⟨z06,?_⟩
 simp only [List.cons_append,List.nil_append]
 obtain ⟨S',s1,s2,s3⟩:=k4.freeze
 generalize l1++l2++l3=l at *
 obtain ⟨lb,lc,rfl⟩:=s1.sl
 refine z0a zaj (zrr l _ K4 (s1.le s3.sh)) ?_
 rintro e K5 ⟨cv,pv,rfl,hcv,hpv,l5⟩
 obtain ⟨cb,cc,rfl⟩:=hcv.sl
 obtain ⟨pb,pc,rfl⟩:=hpv.sl
 refine ⟨_,[.slice cb (codeA (asmR l)).length cc,.slice pb (plI (zsb (asmR l))).length pc,.int .i64 (errA (asmR l))],rfl,rfl,rfl,z06,?_⟩
 simp only [List.cons_append,List.nil_append]
 have h5:Held K5 K5 []:=Held.nil (PH.le_refl _)
 have a1:arI .add .i64 32 stack=32+stack:=w64 (by omega) (by omega)
 have a2:arI .add .i64 (32+stack) size=32+stack+size:=w64 (by omega) (by omega)
 have a3:arI .mul .i64 2 size=2 * size:=w64 (by omega) (by omega)
 have a4:arI .add .i64 (32+stack) (2 * size)=32+stack+2 * size:=w64 (by omega) (by omega)
 refine z3p (α:=Int) (b:=8) (n:=32) 0 rfl (fun S=>zi8) z0y zrb (by kernel_rfl) (by kernel_rfl) (by decide) (by decide) h5 fun mv K6 h6 l6=>?_
 simp only [List.cons_append,List.nil_append]
 obtain ⟨mb,mc,rfl⟩:=(h6.row (e:=3) (zms)).sl
 have hb:=((h6.row (e:=3) (zms)).slR h6.sh).get (i:=0) (a:=0) rfl
 obtain ⟨z1,_⟩:=hb
 have chk:∀{E:List Value} {s i:SV} {k:Int},ev0 E s=.slice mb (List.replicate 32 (0:Int)).length mc→ev0 E i=.int .i64 k→0≤k→k < 32→Chk.holds E (.inSl s i):=fun h1 h2 h3 h4=>by
  simp only [Chk.holds,h1,h2]
  exact ⟨z1,h3,by simp [slLen,iOf];omega⟩
 refine ⟨fun _=>chk rfl rfl (by decide) (by decide),?_⟩
 refine z1d (i:=28) (a:=0) (a':=32+stack) (us:=[.int .i64 (arI .add .i64 32 stack)]) (by kernel_rfl) h6 rfl rfl (by kernel_rfl) (by simp [oneC]) (by rw [a1];exact z0o (by unfold InI;omega)) fun K7 h7=>?_
 refine ⟨fun _=>chk rfl rfl (by decide) (by decide),?_⟩
 refine z1d (i:=29) (a:=0) (a':=32+stack+size) (us:=[.int .i64 (arI .add .i64 (arI .add .i64 32 stack) size)]) (by kernel_rfl) h7 rfl rfl (by kernel_rfl) (by simp [oneC]) (by rw [a1,a2];exact z0o (by unfold InI;omega)) fun K8 h8=>?_
 refine ⟨fun _=>chk rfl rfl (by decide) (by decide),?_⟩
 refine z1d (i:=30) (a:=0) (a':=32+stack+size) (us:=[.int .i64 (arI .add .i64 (arI .add .i64 32 stack) size)]) (by kernel_rfl) h8 rfl rfl (by kernel_rfl) (by simp [oneC]) (by rw [a1,a2];exact z0o (by unfold InI;omega)) fun K9 h9=>?_
 refine ⟨fun _=>chk rfl rfl (by decide) (by decide),?_⟩
 refine z1d (i:=31) (a:=0) (a':=32+stack+2 * size) (us:=[.int .i64 (arI .add .i64 (arI .add .i64 32 stack) (arI .mul .i64 2 size))]) (by kernel_rfl) h9 rfl rfl (by kernel_rfl) (by simp [oneC]) (by rw [a1,a3,a4];exact z0o (by unfold InI;omega)) fun Ka ha=>?_
 obtain ⟨S2,t1,t2,t3⟩:=ha.freeze
 refine ⟨.slice cb (codeA (asmR l)).length cc,.slice mb (List.replicate 32 (0:Int)).length mc,?_,hcv.le (PH.le_trans t2 t3.sh),t1.le t3.sh,PH.le_trans s2 (PH.le_trans s3.sh (PH.le_trans l5 (PH.le_trans t2 t3.sh)))⟩
 have e1:(imgR l stack size).words=arI .add .i64 (arI .add .i64 32 stack) (arI .mul .i64 2 size):=by rw [a1,a3,a4];rfl
 rw [e1]
 show Ending.returned _=Ending.returned _
 kernel_rfl
structure ValW where
 kind:Int
 int:Int
 text:List UInt8
def isW (n:Int):Bool:=decide (-1152921504606846976≤n) && decide (n≤1152921504606846975)
def wordX (v:ValW) (symbols:List (List UInt8)):Option Int:=
 if v.text≠[]∧v.kind≠3 then none
 else if v.kind=0 then (if v.int=0∨v.int=1 then some (8 * v.int+2) else none)
 else if v.kind=1 then (if isW v.int=true then some (8 * v.int) else none)
 else if v.kind=2 then (if 0≤v.int∧v.int≤255 then some (8 * (256+v.int)+2) else none)
 else if v.kind=3 then (if v.int=0 then (symbols.findIdx? (fun s=>decide (s=v.text))).map (fun (i:Nat)=>IntKind.i64.wrap (8 * (i:Int)+3)) else none)
 else if v.kind=4∨v.kind=5∨v.kind=6∨v.kind=7 then (if v.int=0 then some (8 * (v.kind - 2)+2) else none)
 else none
theorem Z4w {H:PH} {a:List UInt8} {cs:List Value} (h:CsR H a cs):cs=[txt a]:=by
 have h':PV.RepRow H [.str a] cs:=h
 simp only [PV.RepRow,zni] at h'
 obtain ⟨v,vs,rfl,⟨rfl,_⟩,rfl⟩:=h'
 rfl
theorem or8 {n t:Int} (h0:0≤n) (h1:n≤1152921504606846975) (t0:0≤t) (t1:t < 8):arI .or .i64 (8 * n) t=8 * n+t:=by
 show IntKind.i64.wrap (((BitVec.ofInt 64 (8 * n) ||| BitVec.ofInt 64 t).toNat:Nat):Int)=_
 obtain ⟨k,rfl⟩:∃k:Nat,n=(k:Int):=⟨n.toNat,by omega⟩
 obtain ⟨j,rfl⟩:∃j:Nat,t=(j:Int):=⟨t.toNat,by omega⟩
 have e1:(BitVec.ofInt 64 (8 * (k:Int))).toNat=8 * k:=by
  rw [BitVec.toNat_ofInt];omega
 have e2:(BitVec.ofInt 64 (j:Int)).toNat=j:=by
  rw [BitVec.toNat_ofInt];omega
 rw [BitVec.toNat_or,e1,e2]
 have e3:=Nat.two_pow_add_eq_or_of_lt (i:=3) (b:=j) (by omega) k
 rw [show (2:Nat) ^ 3=8 from rfl] at e3
 rw [←e3,w64 (by omega) (by omega)]
 omega
theorem shl3 {n:Int} (h0:-1152921504606846976≤n) (h1:n≤1152921504606846975):arI .shl .i64 n 3=8 * n:=by
 show IntKind.i64.wrap (n * 2 ^ (min (3:Int).toNat 64))=_
 rw [show (2:Int) ^ (min (3:Int).toNat 64)=8 from rfl,w64 (by omega) (by omega)];omega
theorem z9u (n:Int):IntKind.i64.wrap n=(n+9223372036854775808) % 18446744073709551616 - 9223372036854775808:=by
 have:IntKind.i64.wrap n=if 9223372036854775808≤n % 18446744073709551616 then n % 18446744073709551616 - 18446744073709551616 else n % 18446744073709551616:=by
  simp only [IntKind.wrap,IntKind.bits,IntKind.signed];simp
 rw [this]
 split<;>omega
theorem or3 (k:Nat):arI .or .i64 (arI .shl .i64 (k:Int) 3) 3=IntKind.i64.wrap (8 * (k:Int)+3):=by
 show IntKind.i64.wrap (((BitVec.ofInt 64 (IntKind.i64.wrap ((k:Int) * 2 ^ (min (3:Int).toNat 64))) ||| BitVec.ofInt 64 3).toNat:Nat):Int)=_
 rw [show (2:Int) ^ (min (3:Int).toNat 64)=8 from rfl]
 have e1:(BitVec.ofInt 64 (IntKind.i64.wrap ((k:Int) * 8))).toNat=8 * (k % 2305843009213693952):=by
  rw [BitVec.toNat_ofInt,z9u];omega
 have e2:(BitVec.ofInt 64 3).toNat=3:=by decide
 rw [BitVec.toNat_or,e1,e2]
 have e3:8 * (k % 2305843009213693952) ||| 3=8 * (k % 2305843009213693952)+3:=by
  have:=Nat.two_pow_add_eq_or_of_lt (i:=3) (b:=3) (by decide) (k % 2305843009213693952)
  rw [show (2:Nat) ^ 3=8 from rfl] at this
  exact this.symm
 rw [e3,z9u,z9u];omega
theorem add3 (k:Nat):arI .add .i64 (arI .mul .i64 8 (k:Int)) 3=IntKind.i64.wrap (8 * (k:Int)+3):=by
 show IntKind.i64.wrap (IntKind.i64.wrap (8 * (k:Int))+3)=_
 rw [z9u,z9u,z9u];omega
theorem z38 (n:Int) (H:PH) (h:0≤n∧n≤100000):Gives Tryz.prog zh6 [.int .i64 n] H (.int .i64 (8 * n+2)):=by
 refine zo0 [.int .i64 n] (by kernel_rfl) (by kernel_rfl) ?_
 refine ⟨?_,PH.le_refl _⟩
 show Ending.returned (.int .i64 (arI .or .i64 (arI .shl .i64 n 3) 2))=_
 rw [shl3 (by omega) (by omega),or8 (by omega) (by omega) (by omega) (by omega)]
theorem zxi (n:Int) (H:PH):Gives Tryz.prog zoc [.int .i64 n] H (.bool (isW n)):=by
 refine zm4 [.int .i64 n] (by kernel_rfl) (by kernel_rfl) ?_
 exact ⟨by simp only [ev0,ev,evV,List.cons_append,List.nil_append,List.getD_cons_zero,List.getD_cons_succ,List.map_cons,List.map_nil,iOf,bOf,sOf,pOf,slLen,z04,cmpI,arI,Value.ite_bool,z03,z02,z00,z01,isW,ge_iff_le],PH.le_refl _⟩
theorem Z2m (n:Int) (H:PH):Gives Tryz.prog zjs [.int .i64 n] H (.bool (isW n)):=by
 refine zgb [.int .i64 n] (by kernel_rfl) (by kernel_rfl) ?_
 exact ⟨by simp only [ev0,ev,evV,List.cons_append,List.nil_append,List.getD_cons_zero,List.getD_cons_succ,List.map_cons,List.map_nil,iOf,bOf,sOf,pOf,slLen,z04,cmpI,arI,Value.ite_bool,z03,z02,z00,z01,isW,ge_iff_le],PH.le_refl _⟩
theorem isW_iff {n:Int}:isW n=true↔-1152921504606846976≤n∧n≤1152921504606846975:=by simp [isW]
theorem arOr0 {n:Int} (h:InI n):arI .or .i64 n 0=n:=by
 show IntKind.i64.wrap (((BitVec.ofInt 64 n ||| BitVec.ofInt 64 0).toNat:Nat):Int)=_
 rw [show BitVec.ofInt 64 0=0#64 from rfl,BitVec.or_zero,BitVec.toNat_ofInt]
 obtain ⟨h0,h1⟩:=h
 have hp:(0:Int)≤n % (2 ^ 64:Nat):=Int.emod_nonneg _ (by decide)
 rw [Int.toNat_of_nonneg hp,zik]
 split<;>omega
theorem zux (n:Int) (H:PH):Gives Tryz.prog Z17 [.int .i64 n] H (.tuple #[.int .i64 (if isW n=true then 8 * n else 0),.int .i64 (if isW n=true then 0 else 10)]):=by
 refine zx8 [.int .i64 n] (by kernel_rfl) (by kernel_rfl) ?_
 refine z0b [.bool (isW n)] zn5 (zxi n H) rfl z06 fun K l=>?_
 simp only [List.cons_append,List.nil_append]
 refine ⟨fun g=>?_,fun g=>?_⟩
 ·simp only [ev0,ev,evV,List.cons_append,List.nil_append,List.getD_cons_zero,List.getD_cons_succ,List.map_cons,List.map_nil,iOf,bOf,sOf,pOf,slLen,z04,cmpI,arI,Value.ite_bool,z03,z02,z00,z01,Bool.not_eq_true'] at g
  rw [if_neg (by rw [g];exact Bool.false_ne_true),if_neg (by rw [g];exact Bool.false_ne_true)]
  exact ⟨rfl,l⟩
 ·simp only [ev0,ev,evV,List.cons_append,List.nil_append,List.getD_cons_zero,List.getD_cons_succ,List.map_cons,List.map_nil,iOf,bOf,sOf,pOf,slLen,z04,cmpI,arI,Value.ite_bool,z03,z02,z00,z01,Bool.not_eq_false'] at g
  rw [if_pos g,if_pos g]
  have hb:=isW_iff.1 g
  refine z0b [.int .i64 (8 * n)] zy1 ?_ rfl z06 fun K2 l2=>⟨rfl,PH.le_trans l l2⟩
  refine zxj [.int .i64 0,.int .i64 n] (by kernel_rfl) (by kernel_rfl) ?_
  refine ⟨?_,PH.le_refl _⟩
  show Ending.returned (.int .i64 (arI .or .i64 (arI .shl .i64 n 3) 0))=_
  rw [shl3 (by omega) (by omega),arOr0 (by unfold InI;omega)]
  rfl
def zlb (l:List (List UInt8)) (s:List UInt8):Int:=match l.findIdx? (fun x=>decide (x=s)) with
 | none=>-1
 | some k=>(k:Int)
theorem zwp (l:List (List UInt8)) (s:List UInt8) (v:Value) (H:PH) (hl:SlR H l v):Gives Tryz.prog z8b [v,txt s] H (.int .i64 (zlb l s)):=by
 obtain ⟨b,c,rfl⟩:=hl.sl
 have hmx:maxLen=9223372036854775807:=rfl
 have hlm:=hl.max
 refine z6z [.slice b l.length c,txt s] (by kernel_rfl) (by kernel_rfl) ?_
 refine ⟨fun n vs K=>∃k:Nat,k+n=l.length∧vs=[.int .i64 0,nI k]∧K=H∧∀(i:Nat) (x:List UInt8),i < k→l[i]?=some x→x≠s,⟨l.length,0,by omega,rfl,rfl,fun i x hi=>absurd hi (by omega)⟩,?_⟩
 rintro n vs K _ ⟨k,hkn,rfl,rfl,hno⟩
 simp only [List.cons_append,List.nil_append]
 refine ⟨fun g=>?_,fun g=>?_⟩
 ·simp only [ev0,ev,evV,List.cons_append,List.nil_append,List.getD_cons_zero,List.getD_cons_succ,List.map_cons,List.map_nil,iOf,bOf,sOf,pOf,slLen,z04,cmpI,arI,Value.ite_bool,z03,z02,z00,z01,zdt] at g
  obtain ⟨x,hx⟩:∃x,l[k]?=some x:=⟨_,zge (by omega)⟩
  obtain ⟨y1,_,cs,y2,y3⟩:=hl.get hx
  obtain rfl:=Z4w y2
  refine ⟨fun _=>?_,[txt x],rfl,by simp only [ev0,ev,evV,List.cons_append,List.nil_append,List.getD_cons_zero,List.getD_cons_succ,List.map_cons,List.map_nil,iOf,bOf,sOf,pOf,slLen,z04,cmpI,arI,Value.ite_bool,z03,z02,z00,z01];exact y3,fun g2=>?_,fun g2=>?_⟩
  ·simp only [Chk.holds,ev0,ev,evV,List.cons_append,List.nil_append,List.getD_cons_zero,List.getD_cons_succ,List.map_cons,List.map_nil,iOf,bOf,sOf,pOf,slLen,z04,cmpI,arI,Value.ite_bool,z03,z02,z00,z01];exact ⟨y1,by omega,by omega⟩
  ·simp only [ev0,ev,evV,List.cons_append,List.nil_append,List.getD_cons_zero,List.getD_cons_succ,List.map_cons,List.map_nil,iOf,bOf,sOf,pOf,slLen,z04,cmpI,arI,Value.ite_bool,z03,z02,z00,z01,z1b,zdt] at g2
   refine ⟨?_,PH.le_refl _⟩
   have:l.findIdx? (fun x=>decide (x=s))=some k:=by
    rw [List.findIdx?_eq_some_iff_getElem]
    have hkl:k < l.length:=(List.getElem?_eq_some_iff.1 hx).1
    refine ⟨hkl,by rw [(List.getElem?_eq_some_iff.1 hx).2];simp [g2],fun j hj=>?_⟩
    have:=hno j l[j] hj (zge (by omega))
    simpa using this
   unfold zlb
   rw [this];rfl
  ·simp only [ev0,ev,evV,List.cons_append,List.nil_append,List.getD_cons_zero,List.getD_cons_succ,List.map_cons,List.map_nil,iOf,bOf,sOf,pOf,slLen,z04,cmpI,arI,Value.ite_bool,z03,z02,z00,z01,z1b,zdf] at g2
   refine ⟨_,z05,n - 1,by omega,k+1,by omega,?_,rfl,fun i y hi hy=>?_⟩
   ·have hw:IntKind.i64.wrap ((k:Int)+1)=((k+1:Nat):Int):=by rw [w64 (by omega) (by omega)];rfl
    simp only [ev0,ev,evV,List.cons_append,List.nil_append,List.getD_cons_zero,List.getD_cons_succ,List.map_cons,List.map_nil,iOf,bOf,sOf,pOf,slLen,z04,cmpI,arI,Value.ite_bool,z03,z02,z00,z01,hw]
   ·rcases Nat.lt_succ_iff_lt_or_eq.1 hi with hi | rfl
    ·exact hno i y hi hy
    ·rw [hx] at hy;cases hy;exact fun h=>g2 h.symm
 ·simp only [ev0,ev,evV,List.cons_append,List.nil_append,List.getD_cons_zero,List.getD_cons_succ,List.map_cons,List.map_nil,iOf,bOf,sOf,pOf,slLen,z04,cmpI,arI,Value.ite_bool,z03,z02,z00,z01,zdf] at g
  refine ⟨?_,PH.le_refl _⟩
  have:l.findIdx? (fun x=>decide (x=s))=none:=by
   rw [List.findIdx?_eq_none_iff]
   intro y hy
   obtain ⟨i,hi⟩:=List.getElem?_of_mem hy
   have:=hno i y (by have:=(List.getElem?_eq_some_iff.1 hi).1;omega) hi
   simpa using this
  unfold zlb
  rw [this];rfl
abbrev valW (v:ValW):List Value:=[.int .i64 v.kind,.int .i64 v.int,txt v.text]
theorem zah (v:ValW) (l:List (List UInt8)) (lv:Value) (H:PH) (hl:SlR H l lv):Gives Tryz.prog Z1m [.agg (valW v).toArray,lv] H (.tuple #[.int .i64 ((wordX v l).getD 0),.bool (wordX v l).isSome]):=by
 obtain ⟨b,c,rfl⟩:=hl.sl
 refine zx5 (valW v++[.slice b l.length c]) (by kernel_rfl) (by kernel_rfl) ?_
 simp only [List.cons_append,List.nil_append]
 generalize hw:wordX v l=w
 unfold wordX at hw
 refine ⟨fun g=>?_,fun g=>?_⟩
 ·simp only [ev0,ev,evV,List.cons_append,List.nil_append,List.getD_cons_zero,List.getD_cons_succ,List.map_cons,List.map_nil,iOf,bOf,sOf,pOf,slLen,z04,cmpI,arI,Value.ite_bool,z03,z02,z00,z01,z37] at g
  simp only [Bool.or_eq_true,zba,zdt] at g
  have:w=none:=by
   rw [←hw]
   by_cases h0:v.text≠[]∧v.kind≠3
   ·rw [if_pos h0]
   ·rw [if_neg h0]
    have g2:((v.kind≠1∧v.kind≠2)∧v.kind≠0)∧v.int≠0:=by
     rcases g with g | g
     ·exact absurd ⟨g.2,g.1⟩ h0
     ·exact g
    rw [if_neg g2.1.2,if_neg g2.1.1.1,if_neg g2.1.1.2]
    by_cases h3:v.kind=3
    ·rw [if_pos h3,if_neg g2.2]
    ·rw [if_neg h3]
     split
     ·rw [if_neg g2.2]
     ·rfl
  rw [this]
  exact ⟨rfl,PH.le_refl _⟩
 simp only [ev0,ev,evV,List.cons_append,List.nil_append,List.getD_cons_zero,List.getD_cons_succ,List.map_cons,List.map_nil,iOf,bOf,sOf,pOf,slLen,z04,cmpI,arI,Value.ite_bool,z03,z02,z00,z01,z37] at g
 simp only [Bool.or_eq_false_iff,Bool.and_eq_false_iff,zdf] at g
 have n0:¬(v.text≠[]∧v.kind≠3):=by
  rintro ⟨h1,h2⟩
  rcases g.1 with g | g
  ·exact g h2
  ·exact g h1
 have ni:v.kind=1∨v.kind=2∨v.kind=0∨v.int=0:=by
  rcases g.2 with (g | g) | g<;>omega
 rw [if_neg n0] at hw
 have ret0:∀{K:PH},w=none→PH.le H K→(Ending.returned (.tuple #[.int .i64 0,.bool false])=.returned (.tuple #[.int .i64 (w.getD 0),.bool w.isSome])∧PH.le H K):=fun h l=>by rw [h];exact ⟨rfl,l⟩
 refine ⟨fun vs K=>vs=[]∧PH.le H K∧w=none,?_,?_⟩
 ·rintro vs K _ ⟨rfl,l,h⟩
  exact ret0 h l
 refine ⟨fun g1=>?_,fun g1=>?_⟩
 ·simp only [ev0,ev,evV,List.cons_append,List.nil_append,List.getD_cons_zero,List.getD_cons_succ,List.map_cons,List.map_nil,iOf,bOf,sOf,pOf,slLen,z04,cmpI,arI,Value.ite_bool,z03,z02,z00,z01,zdt] at g1
  rw [if_neg (by omega),if_pos g1] at hw
  refine z0b [.int .i64 (if isW v.int=true then 8 * v.int else 0),.int .i64 (if isW v.int=true then 0 else 10)] zyu (zux v.int H) rfl z06 fun K l=>?_
  rw [←hw]
  by_cases h:isW v.int=true
  ·simp only [if_pos h];exact ⟨rfl,l⟩
  ·simp only [if_neg h];exact ⟨rfl,l⟩
 simp only [ev0,ev,evV,List.cons_append,List.nil_append,List.getD_cons_zero,List.getD_cons_succ,List.map_cons,List.map_nil,iOf,bOf,sOf,pOf,slLen,z04,cmpI,arI,Value.ite_bool,z03,z02,z00,z01,zdf] at g1
 refine ⟨fun g2=>?_,fun g2=>?_⟩
 ·simp only [ev0,ev,evV,List.cons_append,List.nil_append,List.getD_cons_zero,List.getD_cons_succ,List.map_cons,List.map_nil,iOf,bOf,sOf,pOf,slLen,z04,cmpI,arI,Value.ite_bool,z03,z02,z00,z01,zdt] at g2
  rw [if_pos g2] at hw
  have e1:=and_1 v.int
  simp only [arI] at e1
  refine ⟨fun g3=>?_,fun g3=>?_⟩
  ·simp only [ev0,ev,evV,List.cons_append,List.nil_append,List.getD_cons_zero,List.getD_cons_succ,List.map_cons,List.map_nil,iOf,bOf,sOf,pOf,slLen,z04,cmpI,arI,Value.ite_bool,z03,z02,z00,z01,e1,zdt] at g3
   have h3:v.int=0∨v.int=1:=by omega
   rw [if_pos h3] at hw
   refine z0b [.int .i64 (8 * v.int+2)] z2x (z38 v.int H (by omega)) rfl z06 fun K l=>?_
   rw [←hw];exact ⟨rfl,l⟩
  ·simp only [ev0,ev,evV,List.cons_append,List.nil_append,List.getD_cons_zero,List.getD_cons_succ,List.map_cons,List.map_nil,iOf,bOf,sOf,pOf,slLen,z04,cmpI,arI,Value.ite_bool,z03,z02,z00,z01,e1,zdf] at g3
   rw [if_neg (by omega)] at hw
   exact ⟨_,z05,rfl,PH.le_refl _,hw.symm⟩
 simp only [ev0,ev,evV,List.cons_append,List.nil_append,List.getD_cons_zero,List.getD_cons_succ,List.map_cons,List.map_nil,iOf,bOf,sOf,pOf,slLen,z04,cmpI,arI,Value.ite_bool,z03,z02,z00,z01,zdf] at g2
 rw [if_neg g2,if_neg g1] at hw
 refine ⟨fun g3=>?_,fun g3=>?_⟩
 ·simp only [ev0,ev,evV,List.cons_append,List.nil_append,List.getD_cons_zero,List.getD_cons_succ,List.map_cons,List.map_nil,iOf,bOf,sOf,pOf,slLen,z04,cmpI,arI,Value.ite_bool,z03,z02,z00,z01,zdt] at g3
  rw [if_pos g3] at hw
  have e1:=Z0k v.int
  simp only [arI] at e1
  refine ⟨fun g4=>?_,fun g4=>?_⟩
  ·simp only [ev0,ev,evV,List.cons_append,List.nil_append,List.getD_cons_zero,List.getD_cons_succ,List.map_cons,List.map_nil,iOf,bOf,sOf,pOf,slLen,z04,cmpI,arI,Value.ite_bool,z03,z02,z00,z01,e1,zdt] at g4
   have h3:0≤v.int∧v.int≤255:=by omega
   rw [if_pos h3] at hw
   refine z0b [.int .i64 (8 * (256+v.int)+2)] z2x ?_ rfl z06 fun K l=>?_
   ·have:=z38 (256+v.int) H (by omega)
    have e2:arI .add .i64 256 v.int=256+v.int:=w64 (by omega) (by omega)
    have e3:Gives Tryz.prog zh6 [.int .i64 (arI .add .i64 256 v.int)] H (.int .i64 (8 * (256+v.int)+2)):=by rw [e2];exact this
    exact e3
   ·rw [←hw];exact ⟨rfl,l⟩
  ·simp only [ev0,ev,evV,List.cons_append,List.nil_append,List.getD_cons_zero,List.getD_cons_succ,List.map_cons,List.map_nil,iOf,bOf,sOf,pOf,slLen,z04,cmpI,arI,Value.ite_bool,z03,z02,z00,z01,e1,zdf] at g4
   rw [if_neg (by omega)] at hw
   exact ⟨_,z05,rfl,PH.le_refl _,hw.symm⟩
 simp only [ev0,ev,evV,List.cons_append,List.nil_append,List.getD_cons_zero,List.getD_cons_succ,List.map_cons,List.map_nil,iOf,bOf,sOf,pOf,slLen,z04,cmpI,arI,Value.ite_bool,z03,z02,z00,z01,zdf] at g3
 rw [if_neg g3] at hw
 have hi0:v.int=0:=by omega
 refine ⟨fun g4=>?_,fun g4=>?_⟩
 ·simp only [ev0,ev,evV,List.cons_append,List.nil_append,List.getD_cons_zero,List.getD_cons_succ,List.map_cons,List.map_nil,iOf,bOf,sOf,pOf,slLen,z04,cmpI,arI,Value.ite_bool,z03,z02,z00,z01,zdt] at g4
  rw [if_pos g4,if_pos hi0] at hw
  refine z0b [.int .i64 (zlb l v.text)] z7a (zwp l v.text _ H hl) rfl z06 fun K l'=>?_
  unfold zlb
  cases hf:l.findIdx? (fun x=>decide (x=v.text)) with
  | none=>
   rw [hf] at hw
   refine ⟨fun g5=>?_,fun g5=>?_⟩
   ·simp [ev0,ev,evV,List.cons_append,List.nil_append,List.getD_cons_zero,List.getD_cons_succ,List.map_cons,List.map_nil,iOf,bOf,sOf,pOf,slLen,z04,cmpI,arI,Value.ite_bool,z03,z02,z00,z01] at g5
   ·exact ⟨_,z05,rfl,l',hw.symm⟩
  | some k=>
   rw [hf] at hw
   have hk:k < l.length:=by
    rw [List.findIdx?_eq_some_iff_getElem] at hf;exact hf.1
   refine ⟨fun g5=>?_,fun g5=>?_⟩
   ·refine ⟨?_,l'⟩
    rw [←hw]
    show Ending.returned (.tuple #[.int .i64 (arI .or .i64 (arI .shl .i64 (k:Int) 3) 3),.bool true])=_
    rw [or3]
    rfl
   ·simp [ev0,ev,evV,List.cons_append,List.nil_append,List.getD_cons_zero,List.getD_cons_succ,List.map_cons,List.map_nil,iOf,bOf,sOf,pOf,slLen,z04,cmpI,arI,Value.ite_bool,z03,z02,z00,z01] at g5
 simp only [ev0,ev,evV,List.cons_append,List.nil_append,List.getD_cons_zero,List.getD_cons_succ,List.map_cons,List.map_nil,iOf,bOf,sOf,pOf,slLen,z04,cmpI,arI,Value.ite_bool,z03,z02,z00,z01,zdf] at g4
 rw [if_neg g4] at hw
 refine ⟨fun g5=>?_,fun g5=>?_⟩
 ·simp only [ev0,ev,evV,List.cons_append,List.nil_append,List.getD_cons_zero,List.getD_cons_succ,List.map_cons,List.map_nil,iOf,bOf,sOf,pOf,slLen,z04,cmpI,arI,Value.ite_bool,z03,z02,z00,z01,zdt] at g5
  rw [if_pos (by omega),if_pos hi0,g5] at hw
  refine z0b [.int .i64 (8 * 2+2)] z2x (z38 2 H (by omega)) rfl z06 fun K l=>?_
  rw [←hw];exact ⟨rfl,l⟩
 simp only [ev0,ev,evV,List.cons_append,List.nil_append,List.getD_cons_zero,List.getD_cons_succ,List.map_cons,List.map_nil,iOf,bOf,sOf,pOf,slLen,z04,cmpI,arI,Value.ite_bool,z03,z02,z00,z01,zdf] at g5
 refine ⟨fun g6=>?_,fun g6=>?_⟩
 ·simp only [ev0,ev,evV,List.cons_append,List.nil_append,List.getD_cons_zero,List.getD_cons_succ,List.map_cons,List.map_nil,iOf,bOf,sOf,pOf,slLen,z04,cmpI,arI,Value.ite_bool,z03,z02,z00,z01,zdt] at g6
  rw [if_pos (by omega),if_pos hi0,g6] at hw
  refine z0b [.int .i64 (8 * 3+2)] z2x (z38 3 H (by omega)) rfl z06 fun K l=>?_
  rw [←hw];exact ⟨rfl,l⟩
 simp only [ev0,ev,evV,List.cons_append,List.nil_append,List.getD_cons_zero,List.getD_cons_succ,List.map_cons,List.map_nil,iOf,bOf,sOf,pOf,slLen,z04,cmpI,arI,Value.ite_bool,z03,z02,z00,z01,zdf] at g6
 refine ⟨fun g7=>?_,fun g7=>?_⟩
 ·simp only [ev0,ev,evV,List.cons_append,List.nil_append,List.getD_cons_zero,List.getD_cons_succ,List.map_cons,List.map_nil,iOf,bOf,sOf,pOf,slLen,z04,cmpI,arI,Value.ite_bool,z03,z02,z00,z01,zdt] at g7
  rw [if_pos (by omega),if_pos hi0,g7] at hw
  refine z0b [.int .i64 (8 * 4+2)] z2x (z38 4 H (by omega)) rfl z06 fun K l=>?_
  rw [←hw];exact ⟨rfl,l⟩
 simp only [ev0,ev,evV,List.cons_append,List.nil_append,List.getD_cons_zero,List.getD_cons_succ,List.map_cons,List.map_nil,iOf,bOf,sOf,pOf,slLen,z04,cmpI,arI,Value.ite_bool,z03,z02,z00,z01,zdf] at g7
 refine ⟨fun g8=>?_,fun g8=>?_⟩
 ·simp only [ev0,ev,evV,List.cons_append,List.nil_append,List.getD_cons_zero,List.getD_cons_succ,List.map_cons,List.map_nil,iOf,bOf,sOf,pOf,slLen,z04,cmpI,arI,Value.ite_bool,z03,z02,z00,z01,zdt] at g8
  rw [if_pos (by omega),if_pos hi0,g8] at hw
  refine z0b [.int .i64 (8 * 5+2)] z2x (z38 5 H (by omega)) rfl z06 fun K l=>?_
  rw [←hw];exact ⟨rfl,l⟩
 simp only [ev0,ev,evV,List.cons_append,List.nil_append,List.getD_cons_zero,List.getD_cons_succ,List.map_cons,List.map_nil,iOf,bOf,sOf,pOf,slLen,z04,cmpI,arI,Value.ite_bool,z03,z02,z00,z01,zdf] at g8
 rw [if_neg (by omega)] at hw
 exact ⟨_,z05,rfl,PH.le_refl _,hw.symm⟩
theorem Z1p (v:ValW) (l:List (List UInt8)) (lv:Value) (H:PH) (hl:SlR H l lv) (hi:InI v.int):Tri Tryz.prog zgf #[.agg (valW v).toArray,lv] H fun e K=>∃b:Int,e=.returned (.tuple #[.int .i64 b,.bool (wordX v l).isSome])∧(∀w,wordX v l=some w→b=w)∧PH.le H K:=by
 have hlm:=hl.max
 obtain ⟨b,c,rfl⟩:=hl.sl
 obtain ⟨hi0,hi1⟩:=hi
 have hmx:maxLen=9223372036854775807:=rfl
 refine zdi (valW v++[.slice b l.length c]) (by kernel_rfl) (by kernel_rfl) ?_
 simp only [List.cons_append,List.nil_append]
 generalize hw:wordX v l=w
 unfold wordX at hw
 have ret:∀{K:PH} {b:Int} {ok:Bool},ok=w.isSome→(∀x,w=some x→b=x)→PH.le H K→∃b':Int,Ending.returned (.tuple #[.int .i64 b,.bool ok])=.returned (.tuple #[.int .i64 b',.bool w.isSome])∧(∀x,w=some x→b'=x)∧PH.le H K:=fun h1 h2 h3=>⟨_,by rw [h1],h2,h3⟩
 have ret0:∀{K:PH} {b:Int},w=none→PH.le H K→∃b':Int,Ending.returned (.tuple #[.int .i64 b,.bool false])=.returned (.tuple #[.int .i64 b',.bool w.isSome])∧(∀x,w=some x→b'=x)∧PH.le H K:=fun h l=>ret (by rw [h];rfl) (fun x hx=>by rw [h] at hx;cases hx) l
 refine ⟨fun g=>?_,fun g=>?_⟩
 ·simp only [ev0,ev,evV,List.cons_append,List.nil_append,List.getD_cons_zero,List.getD_cons_succ,List.map_cons,List.map_nil,iOf,bOf,sOf,pOf,slLen,z04,cmpI,arI,Value.ite_bool,z03,z02,z00,z01,z37] at g
  simp only [zba,zdt] at g
  rw [if_pos g] at hw
  exact ret0 hw.symm (PH.le_refl _)
 simp only [ev0,ev,evV,List.cons_append,List.nil_append,List.getD_cons_zero,List.getD_cons_succ,List.map_cons,List.map_nil,iOf,bOf,sOf,pOf,slLen,z04,cmpI,arI,Value.ite_bool,z03,z02,z00,z01,z37] at g
 simp only [Bool.and_eq_false_iff,zdf] at g
 rw [if_neg (by rintro ⟨h1,h2⟩;rcases g with g | g;exact g h1;exact g h2)] at hw
 refine ⟨fun g1=>?_,fun g1=>?_⟩
 ·simp only [ev0,ev,evV,List.cons_append,List.nil_append,List.getD_cons_zero,List.getD_cons_succ,List.map_cons,List.map_nil,iOf,bOf,sOf,pOf,slLen,z04,cmpI,arI,Value.ite_bool,z03,z02,z00,z01,zdt] at g1
  rw [if_pos g1] at hw
  refine ⟨fun g2=>?_,fun g2=>?_⟩
  ·simp only [ev0,ev,evV,List.cons_append,List.nil_append,List.getD_cons_zero,List.getD_cons_succ,List.map_cons,List.map_nil,iOf,bOf,sOf,pOf,slLen,z04,cmpI,arI,Value.ite_bool,z03,z02,z00,z01] at g2
   simp only [zba,zdt] at g2
   rw [if_neg (by omega)] at hw
   exact ret0 hw.symm (PH.le_refl _)
  ·simp only [ev0,ev,evV,List.cons_append,List.nil_append,List.getD_cons_zero,List.getD_cons_succ,List.map_cons,List.map_nil,iOf,bOf,sOf,pOf,slLen,z04,cmpI,arI,Value.ite_bool,z03,z02,z00,z01] at g2
   simp only [Bool.and_eq_false_iff,zdf] at g2
   rw [if_pos (by omega)] at hw
   refine ret (by rw [←hw];rfl) (fun x hx=>?_) (PH.le_refl _)
   rw [←hw] at hx
   simp only [Option.some.injEq] at hx
   show arI .add .i64 (arI .mul .i64 8 v.int) 2=x
   rw [show arI .mul .i64 8 v.int=8 * v.int from w64 (by omega) (by omega),show arI .add .i64 (8 * v.int) 2=8 * v.int+2 from w64 (by omega) (by omega)]
   exact hx
 simp only [ev0,ev,evV,List.cons_append,List.nil_append,List.getD_cons_zero,List.getD_cons_succ,List.map_cons,List.map_nil,iOf,bOf,sOf,pOf,slLen,z04,cmpI,arI,Value.ite_bool,z03,z02,z00,z01,zdf] at g1
 rw [if_neg g1] at hw
 refine ⟨fun g2=>?_,fun g2=>?_⟩
 ·simp only [ev0,ev,evV,List.cons_append,List.nil_append,List.getD_cons_zero,List.getD_cons_succ,List.map_cons,List.map_nil,iOf,bOf,sOf,pOf,slLen,z04,cmpI,arI,Value.ite_bool,z03,z02,z00,z01,zdt] at g2
  rw [if_pos g2] at hw
  refine z0b [.bool (isW v.int)] ziy (Z2m v.int H) rfl z06 fun K l=>?_
  simp only [List.cons_append,List.nil_append]
  refine ⟨fun g3=>?_,fun g3=>?_⟩
  ·simp only [ev0,ev,evV,List.cons_append,List.nil_append,List.getD_cons_zero,List.getD_cons_succ,List.map_cons,List.map_nil,iOf,bOf,sOf,pOf,slLen,z04,cmpI,arI,Value.ite_bool,z03,z02,z00,z01,Bool.not_eq_true'] at g3
   rw [if_neg (by rw [g3];exact Bool.false_ne_true)] at hw
   exact ret0 hw.symm l
  ·simp only [ev0,ev,evV,List.cons_append,List.nil_append,List.getD_cons_zero,List.getD_cons_succ,List.map_cons,List.map_nil,iOf,bOf,sOf,pOf,slLen,z04,cmpI,arI,Value.ite_bool,z03,z02,z00,z01,Bool.not_eq_false'] at g3
   have hb:=isW_iff.1 g3
   rw [if_pos g3] at hw
   refine ret (by rw [←hw];rfl) (fun x hx=>?_) l
   rw [←hw] at hx
   simp only [Option.some.injEq] at hx
   show arI .mul .i64 8 v.int=x
   rw [show arI .mul .i64 8 v.int=8 * v.int from w64 (by omega) (by omega)]
   exact hx
 simp only [ev0,ev,evV,List.cons_append,List.nil_append,List.getD_cons_zero,List.getD_cons_succ,List.map_cons,List.map_nil,iOf,bOf,sOf,pOf,slLen,z04,cmpI,arI,Value.ite_bool,z03,z02,z00,z01,zdf] at g2
 rw [if_neg g2] at hw
 refine ⟨fun g3=>?_,fun g3=>?_⟩
 ·simp only [ev0,ev,evV,List.cons_append,List.nil_append,List.getD_cons_zero,List.getD_cons_succ,List.map_cons,List.map_nil,iOf,bOf,sOf,pOf,slLen,z04,cmpI,arI,Value.ite_bool,z03,z02,z00,z01,zdt] at g3
  rw [if_pos g3] at hw
  refine ⟨fun g4=>?_,fun g4=>?_⟩
  ·simp only [ev0,ev,evV,List.cons_append,List.nil_append,List.getD_cons_zero,List.getD_cons_succ,List.map_cons,List.map_nil,iOf,bOf,sOf,pOf,slLen,z04,cmpI,arI,Value.ite_bool,z03,z02,z00,z01] at g4
   simp only [Bool.or_eq_true,zdt] at g4
   rw [if_neg (by omega)] at hw
   exact ret0 hw.symm (PH.le_refl _)
  ·simp only [ev0,ev,evV,List.cons_append,List.nil_append,List.getD_cons_zero,List.getD_cons_succ,List.map_cons,List.map_nil,iOf,bOf,sOf,pOf,slLen,z04,cmpI,arI,Value.ite_bool,z03,z02,z00,z01] at g4
   simp only [Bool.or_eq_false_iff,zdf] at g4
   rw [if_pos (by omega)] at hw
   refine ret (by rw [←hw];rfl) (fun x hx=>?_) (PH.le_refl _)
   rw [←hw] at hx
   simp only [Option.some.injEq] at hx
   show arI .add .i64 (arI .mul .i64 8 (arI .add .i64 256 v.int)) 2=x
   rw [show arI .add .i64 256 v.int=256+v.int from w64 (by omega) (by omega),show arI .mul .i64 8 (256+v.int)=8 * (256+v.int) from w64 (by omega) (by omega),show arI .add .i64 (8 * (256+v.int)) 2=8 * (256+v.int)+2 from w64 (by omega) (by omega)]
   exact hx
 simp only [ev0,ev,evV,List.cons_append,List.nil_append,List.getD_cons_zero,List.getD_cons_succ,List.map_cons,List.map_nil,iOf,bOf,sOf,pOf,slLen,z04,cmpI,arI,Value.ite_bool,z03,z02,z00,z01,zdf] at g3
 rw [if_neg g3] at hw
 refine ⟨fun g4=>?_,fun g4=>?_⟩
 ·simp only [ev0,ev,evV,List.cons_append,List.nil_append,List.getD_cons_zero,List.getD_cons_succ,List.map_cons,List.map_nil,iOf,bOf,sOf,pOf,slLen,z04,cmpI,arI,Value.ite_bool,z03,z02,z00,z01,zdt] at g4
  rw [if_pos g4] at hw
  refine ⟨fun n vs K=>∃k:Nat,k+n=l.length∧vs=[.int .i64 0,.bool false,nI k]∧K=H∧∀(i:Nat) (x:List UInt8),i < k→l[i]?=some x→x≠v.text,⟨l.length,0,by omega,rfl,rfl,fun i x hi=>absurd hi (by omega)⟩,?_⟩
  rintro n vs K _ ⟨k,hkn,rfl,rfl,hno⟩
  simp only [List.cons_append,List.nil_append]
  refine ⟨fun g5=>?_,fun g5=>?_⟩
  ·simp only [ev0,ev,evV,List.cons_append,List.nil_append,List.getD_cons_zero,List.getD_cons_succ,List.map_cons,List.map_nil,iOf,bOf,sOf,pOf,slLen,z04,cmpI,arI,Value.ite_bool,z03,z02,z00,z01] at g5
   simp only [zba,zdt] at g5
   rw [if_pos g5.2] at hw
   obtain ⟨x,hx⟩:∃x,l[k]?=some x:=⟨_,zge (by omega)⟩
   obtain ⟨y1,_,cs,y2,y3⟩:=hl.get hx
   obtain rfl:=Z4w y2
   refine ⟨fun _=>?_,[txt x],rfl,by simp only [ev0,ev,evV,List.cons_append,List.nil_append,List.getD_cons_zero,List.getD_cons_succ,List.map_cons,List.map_nil,iOf,bOf,sOf,pOf,slLen,z04,cmpI,arI,Value.ite_bool,z03,z02,z00,z01];exact y3,fun g6=>?_,fun g6=>?_⟩
   ·simp only [Chk.holds,ev0,ev,evV,List.cons_append,List.nil_append,List.getD_cons_zero,List.getD_cons_succ,List.map_cons,List.map_nil,iOf,bOf,sOf,pOf,slLen,z04,cmpI,arI,Value.ite_bool,z03,z02,z00,z01];exact ⟨y1,by omega,by omega⟩
   ·simp only [ev0,ev,evV,List.cons_append,List.nil_append,List.getD_cons_zero,List.getD_cons_succ,List.map_cons,List.map_nil,iOf,bOf,sOf,pOf,slLen,z04,cmpI,arI,Value.ite_bool,z03,z02,z00,z01,z1b,zdt] at g6
    have:l.findIdx? (fun s=>decide (s=v.text))=some k:=by
     rw [List.findIdx?_eq_some_iff_getElem]
     have hkl:k < l.length:=(List.getElem?_eq_some_iff.1 hx).1
     refine ⟨hkl,by rw [(List.getElem?_eq_some_iff.1 hx).2];simp [g6],fun j hj=>?_⟩
     have:=hno j l[j] hj (zge (by omega))
     simpa using this
    rw [this] at hw
    refine ret (by rw [←hw];rfl) (fun x hx=>?_) (PH.le_refl _)
    rw [←hw] at hx
    simp only [Option.map_some,Option.some.injEq] at hx
    show arI .add .i64 (arI .mul .i64 8 (k:Int)) 3=x
    rw [add3]
    exact hx
   ·simp only [ev0,ev,evV,List.cons_append,List.nil_append,List.getD_cons_zero,List.getD_cons_succ,List.map_cons,List.map_nil,iOf,bOf,sOf,pOf,slLen,z04,cmpI,arI,Value.ite_bool,z03,z02,z00,z01,z1b,zdf] at g6
    refine ⟨_,z05,n - 1,by omega,k+1,by omega,?_,rfl,fun i y hi hy=>?_⟩
    ·have hw:IntKind.i64.wrap ((k:Int)+1)=((k+1:Nat):Int):=by rw [w64 (by omega) (by omega)];rfl
     simp only [ev0,ev,evV,List.cons_append,List.nil_append,List.getD_cons_zero,List.getD_cons_succ,List.map_cons,List.map_nil,iOf,bOf,sOf,pOf,slLen,z04,cmpI,arI,Value.ite_bool,z03,z02,z00,z01,hw]
    ·rcases Nat.lt_succ_iff_lt_or_eq.1 hi with hi | rfl
     ·exact hno i y hi hy
     ·rw [hx] at hy;cases hy;exact g6
  ·simp only [ev0,ev,evV,List.cons_append,List.nil_append,List.getD_cons_zero,List.getD_cons_succ,List.map_cons,List.map_nil,iOf,bOf,sOf,pOf,slLen,z04,cmpI,arI,Value.ite_bool,z03,z02,z00,z01] at g5
   simp only [Bool.and_eq_false_iff,zdf] at g5
   have:w=none:=by
    rw [←hw]
    by_cases h0:v.int=0
    ·rw [if_pos h0]
     have:l.findIdx? (fun s=>decide (s=v.text))=none:=by
      rw [List.findIdx?_eq_none_iff]
      intro y hy
      obtain ⟨i,hi⟩:=List.getElem?_of_mem hy
      have:=hno i y (by have:=(List.getElem?_eq_some_iff.1 hi).1;omega) hi
      simpa using this
     rw [this];rfl
    ·rw [if_neg h0]
   exact ret0 this (PH.le_refl _)
 simp only [ev0,ev,evV,List.cons_append,List.nil_append,List.getD_cons_zero,List.getD_cons_succ,List.map_cons,List.map_nil,iOf,bOf,sOf,pOf,slLen,z04,cmpI,arI,Value.ite_bool,z03,z02,z00,z01,zdf] at g4
 rw [if_neg g4] at hw
 refine ⟨fun vs K=>vs=[.bool (decide (v.kind=4∨v.kind=5∨v.kind=6∨v.kind=7))]∧K=H,?_,fun g5=>?_,fun g5=>?_⟩
 ·rintro vs K _ ⟨rfl,rfl⟩
  simp only [List.cons_append,List.nil_append]
  refine ⟨fun g5=>?_,fun g5=>?_⟩
  ·simp only [ev0,ev,evV,List.cons_append,List.nil_append,List.getD_cons_zero,List.getD_cons_succ,List.map_cons,List.map_nil,iOf,bOf,sOf,pOf,slLen,z04,cmpI,arI,Value.ite_bool,z03,z02,z00,z01,zdt] at g5
   rw [if_pos g5] at hw
   by_cases h0:v.int=0
   ·rw [if_pos h0] at hw
    refine ret (by rw [←hw];simp [ev0,ev,evV,List.cons_append,List.nil_append,List.getD_cons_zero,List.getD_cons_succ,List.map_cons,List.map_nil,iOf,bOf,sOf,pOf,slLen,z04,cmpI,arI,Value.ite_bool,z03,z02,z00,z01,h0]) (fun x hx=>?_) (PH.le_refl _)
    rw [←hw] at hx
    simp only [Option.some.injEq] at hx
    show arI .add .i64 (arI .mul .i64 8 (arI .sub .i64 v.kind 2)) 2=x
    rw [show arI .sub .i64 v.kind 2=v.kind - 2 from w64 (by omega) (by omega),show arI .mul .i64 8 (v.kind - 2)=8 * (v.kind - 2) from w64 (by omega) (by omega),show arI .add .i64 (8 * (v.kind - 2)) 2=8 * (v.kind - 2)+2 from w64 (by omega) (by omega)]
    exact hx
   ·rw [if_neg h0] at hw
    refine ret (by rw [←hw];simp [ev0,ev,evV,List.cons_append,List.nil_append,List.getD_cons_zero,List.getD_cons_succ,List.map_cons,List.map_nil,iOf,bOf,sOf,pOf,slLen,z04,cmpI,arI,Value.ite_bool,z03,z02,z00,z01,h0]) (fun x hx=>?_) (PH.le_refl _)
    rw [←hw] at hx;cases hx
  ·simp only [ev0,ev,evV,List.cons_append,List.nil_append,List.getD_cons_zero,List.getD_cons_succ,List.map_cons,List.map_nil,iOf,bOf,sOf,pOf,slLen,z04,cmpI,arI,Value.ite_bool,z03,z02,z00,z01,zdf] at g5
   rw [if_neg g5] at hw
   exact ret0 hw.symm (PH.le_refl _)
 ·simp only [ev0,ev,evV,List.cons_append,List.nil_append,List.getD_cons_zero,List.getD_cons_succ,List.map_cons,List.map_nil,iOf,bOf,sOf,pOf,slLen,z04,cmpI,arI,Value.ite_bool,z03,z02,z00,z01,zdt] at g5
  exact ⟨_,z05,by simp [ev0,ev,evV,List.cons_append,List.nil_append,List.getD_cons_zero,List.getD_cons_succ,List.map_cons,List.map_nil,iOf,bOf,sOf,pOf,slLen,z04,cmpI,arI,Value.ite_bool,z03,z02,z00,z01,g5],rfl⟩
 ·simp only [ev0,ev,evV,List.cons_append,List.nil_append,List.getD_cons_zero,List.getD_cons_succ,List.map_cons,List.map_nil,iOf,bOf,sOf,pOf,slLen,z04,cmpI,arI,Value.ite_bool,z03,z02,z00,z01,zdf] at g5
  refine ⟨fun g6=>?_,fun g6=>?_⟩
  ·simp only [ev0,ev,evV,List.cons_append,List.nil_append,List.getD_cons_zero,List.getD_cons_succ,List.map_cons,List.map_nil,iOf,bOf,sOf,pOf,slLen,z04,cmpI,arI,Value.ite_bool,z03,z02,z00,z01,zdt] at g6
   exact ⟨_,z05,by simp [ev0,ev,evV,List.cons_append,List.nil_append,List.getD_cons_zero,List.getD_cons_succ,List.map_cons,List.map_nil,iOf,bOf,sOf,pOf,slLen,z04,cmpI,arI,Value.ite_bool,z03,z02,z00,z01,g6],rfl⟩
  ·simp only [ev0,ev,evV,List.cons_append,List.nil_append,List.getD_cons_zero,List.getD_cons_succ,List.map_cons,List.map_nil,iOf,bOf,sOf,pOf,slLen,z04,cmpI,arI,Value.ite_bool,z03,z02,z00,z01,zdf] at g6
   refine ⟨_,z05,?_,rfl⟩
   by_cases g7:v.kind=6<;>simp [ev0,ev,evV,List.cons_append,List.nil_append,List.getD_cons_zero,List.getD_cons_succ,List.map_cons,List.map_nil,iOf,bOf,sOf,pOf,slLen,z04,cmpI,arI,Value.ite_bool,z03,z02,z00,z01,g5,g6,g7]
theorem z2t {E:List Value} {H:PH} {p:SV} {ss:List SV} {pend:List (SV×List SV)} (h:rowAt H (pOf (ev0 E p)) (ss.map (ev0 E))) (t:z0s E H pend):z0s E H ((p,ss)::pend):=fun x hx=>by
 rcases List.mem_cons.1 hx with rfl | hx
 ·exact h
 ·exact t x hx
section
variable {r mr:Nat} {lv bv pv cv:Value} {es:Array MapEntry} {cl:Nat} {long:List Bool} {places:List Int} {code:List W32} {S K:PH} {J:List Itm}
end
theorem Z7l:Tryz.prog.underlying 50=some (.slice 131):=by kernel_rfl
theorem Z3j:ElemOk Tryz.prog 131 (sz ItemR) 64=true:=by kernel_rfl
def EmH (S0 K:PH) (r:Nat) (T:TypeId) (rest:List Value) (l:List ItemR) (k:Nat) (J:List Itm):Prop:=
 l.length+k≤1099511627776∧∃S iv,PH.le S0 S∧Held S K (bx r T (iv::rest)::orow 131 l iv::J)
abbrev EmQ (S0:PH) (r:Nat) (T:TypeId) (rest:List Value) (l:List ItemR) (k:Nat) (J:List Itm):Ending→PH→Prop:=fun e K'=>e=.returned (.tuple #[])∧EmH S0 K' r T rest l k J
theorem EmH.drop {S0 K:PH} {r:Nat} {T:TypeId} {rest:List Value} {l:List ItemR} {k:Nat} {J:List Itm} (d:Nat) (h:EmH S0 K r T rest l (k+d) J):EmH S0 K r T rest l k J:=⟨by have:=h.1;omega,h.2⟩
theorem EmH.sh {S0 K:PH} {r:Nat} {T:TypeId} {rest:List Value} {l:List ItemR} {k:Nat} {J:List Itm} (h:EmH S0 K r T rest l k J):PH.le S0 K:=by
 obtain ⟨_,S,iv,h1,h2⟩:=h
 exact PH.le_trans h1 h2.sh
theorem i0J:InI 0:=by decide
section
variable {S0 K:PH} {r:Nat} {T:TypeId} {rest:List Value} {l:List ItemR} {k:Nat} {J:List Itm}
theorem zd0 (x:ItemR) (hx:InI8 x) (h:EmH S0 K r T rest l (k+1) J):Tri Tryz.prog zjz #[pAt r,.agg (itemV x).toArray] K (EmQ S0 r T rest (l++[x]) k J):=by
 obtain ⟨hl,S,iv,hS,h⟩:=h
 refine zhj ([pAt r]++itemV x) (by kernel_rfl) (by kernel_rfl) ?_
 simp only [List.cons_append,List.nil_append]
 obtain ⟨ib,ic,hiv⟩:=(h.row (e:=131) (l:=l) (v:=iv) (by simp)).sl
 have hr0:rowAt K (pOf (pAt r)) [iv]:=z1p h (zms) 0 1
 refine ⟨fun _=>by simp [Chk.holds,ev0,ev,evV,List.cons_append,List.nil_append,List.getD_cons_zero,List.getD_cons_succ,List.map_cons,List.map_nil,iOf,bOf,sOf,pOf,slLen,z04,cmpI,arI,Value.ite_bool,z03,z02,z00,z01],[iv],by rw [hiv];rfl,by simp only [ev0,ev,evV,List.cons_append,List.nil_append,List.getD_cons_zero,List.getD_cons_succ,List.map_cons,List.map_nil,iOf,bOf,sOf,pOf,slLen,z04,cmpI,arI,Value.ite_bool,z03,z02,z00,z01];exact hr0,?_⟩
 simp only [List.cons_append,List.nil_append]
 refine z1o (b:=64) (more:=[x]) [.agg (itemV x).toArray] Z7l Z3j rfl (by decide) (by decide) (h.perm (List.Perm.swap _ _ _)) (by kernel_rfl) (.cons (itemR_iff.2 ⟨rfl,hx⟩) .nil) (z2t (by simp only [ev0,ev,evV,List.cons_append,List.nil_append,List.getD_cons_zero,List.getD_cons_succ,List.map_cons,List.map_nil,iOf,bOf,sOf,pOf,slLen,z04,cmpI,arI,Value.ite_bool,z03,z02,z00,z01];exact hr0) z06) (fun w=>by kernel_rfl) (fun w=>by kernel_rfl)
  (by simp only [maxLen,List.length_singleton];omega) (by simp only [List.length_singleton];omega) fun w1 v1 S1 K1 l1 h1=>⟨z06,?_⟩
 simp only [List.cons_append,List.nil_append]
 obtain ⟨b1,c1,hv1⟩:=(h1.row (e:=131) (zms)).sl
 refine z0n (off:=0) (vs:=[v1]) (by simp only [ev0,ev,evV,List.cons_append,List.nil_append,List.getD_cons_zero,List.getD_cons_succ,List.map_cons,List.map_nil,iOf,bOf,sOf,pOf,slLen,z04,cmpI,arI,Value.ite_bool,z03,z02,z00,z01];rfl) (h1.perm (List.Perm.swap _ _ _)) (by simp only [ev0,ev,evV,List.cons_append,List.nil_append,List.getD_cons_zero,List.getD_cons_succ,List.map_cons,List.map_nil,iOf,bOf,sOf,pOf,slLen,z04,cmpI,arI,Value.ite_bool,z03,z02,z00,z01]) (by intro u hu;rw [List.mem_singleton.1 hu,hv1];rfl) (by simp) fun K2 h2=>?_
 exact ⟨rfl,by rw [zla,List.length_singleton];omega,S1,v1,PH.le_trans hS l1,h2⟩
theorem z0u (n:Int) (hn:InI n) (h:EmH S0 K r T rest l (k+1) J):Tri Tryz.prog zha #[pAt r,.int .i64 n] K (EmQ S0 r T rest (l++[⟨1,⟨0,0,0,0,0⟩,n,0⟩]) k J):=by
 refine zdm [pAt r,.int .i64 n] (by kernel_rfl) (by kernel_rfl) ?_
 refine z0a z1l (zd0 ⟨1,⟨0,0,0,0,0⟩,n,0⟩ ⟨(by decide:InI 1),⟨i0J,i0J,i0J,i0J,i0J⟩,hn,i0J⟩ h) ?_
 rintro e K1 ⟨rfl,h1⟩
 exact ⟨_,[],rfl,rfl,rfl,z06,rfl,h1⟩
theorem z0j (op a x n:Int) (ho:InI op) (ha:InI a) (hx:InI x) (hn:InI n) (h:EmH S0 K r T rest l (k+1) J):Tri Tryz.prog zi3 #[pAt r,.int .i64 op,.int .i64 a,.int .i64 x,.int .i64 n] K (EmQ S0 r T rest (l++[⟨0,⟨op,a,x,0,n⟩,0,0⟩]) k J):=by
 refine zfp [pAt r,.int .i64 op,.int .i64 a,.int .i64 x,.int .i64 n] (by kernel_rfl) (by kernel_rfl) ?_
 refine z0a z1l (zd0 ⟨0,⟨op,a,x,0,n⟩,0,0⟩ ⟨i0J,⟨ho,ha,hx,i0J,hn⟩,i0J,i0J⟩ h) ?_
 rintro e K1 ⟨rfl,h1⟩
 exact ⟨_,[],rfl,rfl,rfl,z06,rfl,h1⟩
theorem z9d (op a x y:Int) (ho:InI op) (ha:InI a) (hx:InI x) (hy:InI y) (h:EmH S0 K r T rest l (k+1) J):Tri Tryz.prog zgp #[pAt r,.int .i64 op,.int .i64 a,.int .i64 x,.int .i64 y] K (EmQ S0 r T rest (l++[⟨0,⟨op,a,x,y,0⟩,0,0⟩]) k J):=by
 refine zdl [pAt r,.int .i64 op,.int .i64 a,.int .i64 x,.int .i64 y] (by kernel_rfl) (by kernel_rfl) ?_
 refine z0a z1l (zd0 ⟨0,⟨op,a,x,y,0⟩,0,0⟩ ⟨i0J,⟨ho,ha,hx,hy,i0J⟩,i0J,i0J⟩ h) ?_
 rintro e K1 ⟨rfl,h1⟩
 exact ⟨_,[],rfl,rfl,rfl,z06,rfl,h1⟩
theorem z0w (a n:Int) (ha:InI a) (hn:InI n) (h:EmH S0 K r T rest l (k+1) J):Tri Tryz.prog zfz #[pAt r,.int .i64 a,.int .i64 n] K (EmQ S0 r T rest (l++[⟨4,⟨20,a,0,0,0⟩,0,n⟩]) k J):=by
 refine zcr [pAt r,.int .i64 a,.int .i64 n] (by kernel_rfl) (by kernel_rfl) ?_
 refine z0a z1l (zd0 ⟨4,⟨20,a,0,0,0⟩,0,n⟩ ⟨(by decide:InI 4),⟨(by decide:InI 20),ha,i0J,i0J,i0J⟩,i0J,hn⟩ h) ?_
 rintro e K1 ⟨rfl,h1⟩
 exact ⟨_,[],rfl,rfl,rfl,z06,rfl,h1⟩
theorem Z6z (a n:Int) (ha:InI a) (hn:InI n) (h:EmH S0 K r T rest l (k+1) J):Tri Tryz.prog zgs #[pAt r,.int .i64 a,.int .i64 n] K (EmQ S0 r T rest (l++[⟨5,⟨20,a,0,0,0⟩,n,0⟩]) k J):=by
 refine ze2 [pAt r,.int .i64 a,.int .i64 n] (by kernel_rfl) (by kernel_rfl) ?_
 refine z0a z1l (zd0 ⟨5,⟨20,a,0,0,0⟩,n,0⟩ ⟨(by decide:InI 5),⟨(by decide:InI 20),ha,i0J,i0J,i0J⟩,hn,i0J⟩ h) ?_
 rintro e K1 ⟨rfl,h1⟩
 exact ⟨_,[],rfl,rfl,rfl,z06,rfl,h1⟩
theorem z9g (a n:Int) (ha:InI a) (hn:InI n) (h:EmH S0 K r T rest l (k+1) J):Tri Tryz.prog zis #[pAt r,.int .i64 a,.int .i64 n] K (EmQ S0 r T rest (l++[⟨3,⟨28,a,0,0,0⟩,n,0⟩]) k J):=by
 refine zfb [pAt r,.int .i64 a,.int .i64 n] (by kernel_rfl) (by kernel_rfl) ?_
 refine z0a z1l (zd0 ⟨3,⟨28,a,0,0,0⟩,n,0⟩ ⟨(by decide:InI 3),⟨(by decide:InI 28),ha,i0J,i0J,i0J⟩,hn,i0J⟩ h) ?_
 rintro e K1 ⟨rfl,h1⟩
 exact ⟨_,[],rfl,rfl,rfl,z06,rfl,h1⟩
theorem If_em (op x y n:Int) (ho:InI op) (hx:InI x) (hy:InI y) (hn:InI n) (h:EmH S0 K r T rest l (k+1) J):Tri Tryz.prog zkx #[pAt r,.int .i64 op,.int .i64 x,.int .i64 y,.int .i64 n] K (EmQ S0 r T rest (l++[⟨2,⟨op,x,y,0,0⟩,n,0⟩]) k J):=by
 refine zi9 [pAt r,.int .i64 op,.int .i64 x,.int .i64 y,.int .i64 n] (by kernel_rfl) (by kernel_rfl) ?_
 refine z0a z1l (zd0 ⟨2,⟨op,x,y,0,0⟩,n,0⟩ ⟨(by decide:InI 2),⟨ho,hx,hy,i0J,i0J⟩,hn,i0J⟩ h) ?_
 rintro e K1 ⟨rfl,h1⟩
 exact ⟨_,[],rfl,rfl,rfl,z06,rfl,h1⟩
theorem z5o (a x:Int) (ha:InI a) (hx:InI x) (h:EmH S0 K r T rest l (k+1) J):Tri Tryz.prog zie #[pAt r,.int .i64 a,.int .i64 x] K (EmQ S0 r T rest (l++[⟨0,⟨15,a,x,0,0⟩,0,0⟩]) k J):=by
 refine zf4 [pAt r,.int .i64 a,.int .i64 x] (by kernel_rfl) (by kernel_rfl) ?_
 refine z0a z08 (z0j 15 a x 0 (by decide) ha hx i0J h) ?_
 rintro e K1 ⟨rfl,h1⟩
 exact ⟨_,[],rfl,rfl,rfl,z06,rfl,h1⟩
theorem z1c (a x n:Int) (ha:InI a) (hx:InI x) (hn:InI n) (h:EmH S0 K r T rest l (k+1) J):Tri Tryz.prog z8q #[pAt r,.int .i64 a,.int .i64 x,.int .i64 n] K (EmQ S0 r T rest (l++[⟨0,⟨22,a,x,0,n⟩,0,0⟩]) k J):=by
 refine zfr [pAt r,.int .i64 a,.int .i64 x,.int .i64 n] (by kernel_rfl) (by kernel_rfl) ?_
 refine z0a z08 (z0j 22 a x n (by decide) ha hx hn h) ?_
 rintro e K1 ⟨rfl,h1⟩
 exact ⟨_,[],rfl,rfl,rfl,z06,rfl,h1⟩
theorem z10 (a x n:Int) (ha:InI a) (hx:InI x) (hn:InI n) (h:EmH S0 K r T rest l (k+1) J):Tri Tryz.prog z7h #[pAt r,.int .i64 a,.int .i64 x,.int .i64 n] K (EmQ S0 r T rest (l++[⟨0,⟨23,a,x,0,n⟩,0,0⟩]) k J):=by
 refine zdh [pAt r,.int .i64 a,.int .i64 x,.int .i64 n] (by kernel_rfl) (by kernel_rfl) ?_
 refine z0a z08 (z0j 23 a x n (by decide) ha hx hn h) ?_
 rintro e K1 ⟨rfl,h1⟩
 exact ⟨_,[],rfl,rfl,rfl,z06,rfl,h1⟩
theorem z3n (n:Int) (hn:InI n) (h:EmH S0 K r T rest l (k+1) J):Tri Tryz.prog zhl #[pAt r,.int .i64 n] K (EmQ S0 r T rest (l++[⟨3,⟨28,0,0,0,0⟩,n,0⟩]) k J):=by
 refine zez [pAt r,.int .i64 n] (by kernel_rfl) (by kernel_rfl) ?_
 refine z0a z1e (z9g 0 n i0J hn h) ?_
 rintro e K1 ⟨rfl,h1⟩
 exact ⟨_,[],rfl,rfl,rfl,z06,rfl,h1⟩
theorem z9l (x:Int) (hx:InI x) (h:EmH S0 K r T rest l (k+1) J):Tri Tryz.prog zhn #[pAt r,.int .i64 x] K (EmQ S0 r T rest (l++[⟨0,⟨29,0,x,0,0⟩,0,0⟩]) k J):=by
 refine zex [pAt r,.int .i64 x] (by kernel_rfl) (by kernel_rfl) ?_
 refine z0a z08 (z0j 29 0 x 0 (by decide) i0J hx i0J h) ?_
 rintro e K1 ⟨rfl,h1⟩
 exact ⟨_,[],rfl,rfl,rfl,z06,rfl,h1⟩
theorem Z0i (a n:Int) (ha:InI a) (hn:InI n) (h:EmH S0 K r T rest l (k+2) J):Tri Tryz.prog ziw #[pAt r,.int .i64 a,.int .i64 n] K (EmQ S0 r T rest (l++[⟨4,⟨20,a,0,0,0⟩,0,n⟩]++[⟨0,⟨0,a,0,0,0⟩,0,0⟩]) k J):=by
 refine zf9 [pAt r,.int .i64 a,.int .i64 n] (by kernel_rfl) (by kernel_rfl) ?_
 refine z0a z0d (z0w a n ha hn h) ?_
 rintro e K1 ⟨rfl,h1⟩
 refine ⟨_,[],rfl,rfl,rfl,z06,?_⟩
 simp only [List.append_nil]
 refine z0a z08 (z0j 0 a 0 0 (by decide) ha i0J i0J h1) ?_
 rintro e K2 ⟨rfl,h2⟩
 exact ⟨_,[],rfl,rfl,rfl,z06,rfl,h2⟩
end
section
variable {S0 K:PH} {r:Nat} {T:TypeId} {rest:List Value} {l:List ItemR} {k:Nat} {J:List Itm}
theorem EmH.le {K':PH} (h:EmH S0 K r T rest l k J) (hl:PH.le K K'):EmH S0 K' r T rest l k J:=by
 obtain ⟨h1,S,iv,h2,h3⟩:=h
 exact ⟨h1,S,iv,h2,h3.le hl⟩
theorem EmH.re {k':Nat} (h:EmH S0 K r T rest l k J) (hl:l.length+k'≤1099511627776):EmH S0 K r T rest l k' J:=⟨hl,h.2⟩
theorem z07 {P:Program} {X:List PanicEntry→PH→Prop} {β:Type} {E:List Value} {L:LK} {Q:β→List Value→PH→LK→Prop} {H:PH} {f:FuncId} {args:List VE} {g:Fm β} (hok:callB P f=true)
  (hc:Tri P f (args.map (evV E fun _=>0)).toArray H (EmQ S0 r T rest l k J)) (hk:∀K',EmH S0 K' r T rest l k J→den P X g E K' L Q):den P X (.call (.fn f) args (.tu []) [] g) E H L Q:=by
 refine z0a hok hc ?_
 rintro e K' ⟨rfl,h⟩
 exact ⟨_,[],rfl,rfl,rfl,z06,by rw [List.append_nil];exact hk K' h⟩
theorem z71 (e v:Int) (hv:arI .add .i64 11 (arI .sub .i64 e 80)=v) (H:PH):Gives Tryz.prog zw7 [.int .i64 e] H (.int .i64 v):=by
 subst hv
 refine zr3 [.int .i64 e] (by kernel_rfl) (by kernel_rfl) ?_
 exact ⟨rfl,PH.le_refl _⟩
theorem zoz (a b v:Int) (hv:arI .or .i64 (arI .shl .i64 (arI .or .i64 (arI .shl .i64 b 3) a) 3) 7=v) (H:PH):Gives Tryz.prog Z5b [.int .i64 a,.int .i64 b] H (.int .i64 v):=by
 subst hv
 refine zzq [.int .i64 a,.int .i64 b] (by kernel_rfl) (by kernel_rfl) ?_
 exact ⟨rfl,PH.le_refl _⟩
def z8h (a1 a2 a3:Int):List ItemR:=[⟨5,⟨20,a1,0,0,0⟩,a2,0⟩,⟨0,⟨18,a1,a1,0,a3⟩,0,0⟩]
theorem zch (a1 a2 a3:Int) (b1:InI a1) (b2:InI a2) (b3:InI a3) (h0:EmH S0 K r T rest l (k+2) J):Tri Tryz.prog zxv #[pAt r,.int .i64 a1,.int .i64 a2,.int .i64 a3] K (EmQ S0 r T rest (l++z8h a1 a2 a3) k J):=by
 refine zum [pAt r,.int .i64 a1,.int .i64 a2,.int .i64 a3] (by kernel_rfl) (by kernel_rfl) ?_
 refine z07 zfm (Z6z a1 a2 b1 b2 h0) fun K1 h1=>?_
 refine z07 z08 (z0j 18 a1 a1 a3 (by decide) b1 b1 b3 h1) fun K2 h2=>?_
 exact ⟨rfl,by simpa only [z8h,List.append_assoc,List.cons_append,List.nil_append] using h2⟩
def zin (a1:Int):List ItemR:=[⟨4,⟨20,26,0,0,0⟩,0,a1⟩,⟨3,⟨28,31,0,0,0⟩,2,0⟩]
theorem zoq (a1:Int) (b1:InI a1) (h0:EmH S0 K r T rest l (k+2) J):Tri Tryz.prog Z4a #[pAt r,.int .i64 a1] K (EmQ S0 r T rest (l++zin a1) k J):=by
 refine zza [pAt r,.int .i64 a1] (by kernel_rfl) (by kernel_rfl) ?_
 refine z07 z0d (z0w 26 a1 (by decide) b1 h0) fun K1 h1=>?_
 refine z07 z1e (z9g 31 2 (by decide) (by decide) h1) fun K2 h2=>?_
 exact ⟨rfl,by simpa only [zin,List.append_assoc,List.cons_append,List.nil_append] using h2⟩
def zj2 (a1 a2:Int):List ItemR:=[⟨0,⟨18,a1,29,0,3⟩,0,0⟩,⟨0,⟨17,a1,a1,0,1⟩,0,0⟩,⟨0,⟨15,29,29,0,a2⟩,0,0⟩]
theorem zqd (a1 a2:Int) (b1:InI a1) (b2:InI a2) (h0:EmH S0 K r T rest l (k+3) J):Tri Tryz.prog Z3u #[pAt r,.int .i64 a1,.int .i64 a2] K (EmQ S0 r T rest (l++zj2 a1 a2) k J):=by
 refine zy9 [pAt r,.int .i64 a1,.int .i64 a2] (by kernel_rfl) (by kernel_rfl) ?_
 refine z07 z08 (z0j 18 a1 29 3 (by decide) b1 (by decide) (by decide) h0) fun K1 h1=>?_
 refine z07 z08 (z0j 17 a1 a1 1 (by decide) b1 b1 (by decide) h1) fun K2 h2=>?_
 refine z07 z08 (z0j 15 29 29 a2 (by decide) (by decide) (by decide) b2 h2) fun K3 h3=>?_
 exact ⟨rfl,by simpa only [zj2,List.append_assoc,List.cons_append,List.nil_append] using h3⟩
def zkb:List ItemR:=[⟨0,⟨22,26,30,0,-1⟩,0,0⟩,⟨0,⟨19,26,26,0,3⟩,0,0⟩,⟨0,⟨16,26,26,0,4095⟩,0,0⟩,⟨0,⟨15,27,26,0,2⟩,0,0⟩,⟨0,⟨18,27,27,0,3⟩,0,0⟩,⟨0,⟨17,27,27,0,6⟩,0,0⟩,⟨0,⟨18,27,27,0,3⟩,0,0⟩,⟨0,⟨17,27,27,0,7⟩,0,0⟩,⟨0,⟨23,27,29,0,0⟩,0,0⟩,⟨0,⟨15,26,26,0,1⟩,0,0⟩,⟨0,⟨2,28,30,26,0⟩,0,0⟩,⟨4,⟨20,27,0,0,0⟩,0,33⟩,⟨2,⟨24,28,27,0,0⟩,2005,0⟩,⟨0,⟨1,27,29,26,0⟩,0,0⟩,⟨0,⟨15,27,27,0,2⟩,0,0⟩,⟨0,⟨18,27,27,0,3⟩,0,0⟩,⟨0,⟨17,27,27,0,1⟩,0,0⟩,⟨0,⟨23,27,29,0,1⟩,0,0⟩,⟨3,⟨28,0,0,0,0⟩,2006,0⟩,⟨1,⟨0,0,0,0,0⟩,2005,0⟩,⟨0,⟨23,31,29,0,1⟩,0,0⟩,⟨1,⟨0,0,0,0,0⟩,2006,0⟩,⟨0,⟨15,29,29,0,2⟩,0,0⟩,⟨0,⟨15,30,28,0,0⟩,0,0⟩,⟨1,⟨0,0,0,0,0⟩,2002,0⟩,⟨2,⟨24,26,0,0,0⟩,2003,0⟩,⟨0,⟨22,27,30,0,0⟩,0,0⟩,⟨0,⟨23,27,29,0,0⟩,0,0⟩,⟨0,⟨15,30,30,0,1⟩,0,0⟩,⟨0,⟨15,29,29,0,1⟩,0,0⟩,⟨0,⟨15,26,26,0,-1⟩,0,0⟩,⟨3,⟨28,0,0,0,0⟩,2002,0⟩,⟨1,⟨0,0,0,0,0⟩,2003,0⟩,⟨0,⟨15,30,28,0,0⟩,0,0⟩]
theorem zzo (h0:EmH S0 K r T rest l (k+34) J):Tri Tryz.prog Z2k #[pAt r] K (EmQ S0 r T rest (l++zkb) k J):=by
 refine zvd [pAt r] (by kernel_rfl) (by kernel_rfl) ?_
 refine z07 z0f (z1c 26 30 (-1) (by decide) (by decide) (by decide) h0) fun K1 h1=>?_
 refine z07 z08 (z0j 19 26 26 3 (by decide) (by decide) (by decide) (by decide) h1) fun K2 h2=>?_
 refine z07 z08 (z0j 16 26 26 4095 (by decide) (by decide) (by decide) (by decide) h2) fun K3 h3=>?_
 refine z07 z08 (z0j 15 27 26 2 (by decide) (by decide) (by decide) (by decide) h3) fun K4 h4=>?_
 refine z07 z08 (z0j 18 27 27 3 (by decide) (by decide) (by decide) (by decide) h4) fun K5 h5=>?_
 refine z07 z08 (z0j 17 27 27 6 (by decide) (by decide) (by decide) (by decide) h5) fun K6 h6=>?_
 refine z07 z08 (z0j 18 27 27 3 (by decide) (by decide) (by decide) (by decide) h6) fun K7 h7=>?_
 refine z07 z08 (z0j 17 27 27 7 (by decide) (by decide) (by decide) (by decide) h7) fun K8 h8=>?_
 refine z07 z0e (z10 27 29 0 (by decide) (by decide) (by decide) h8) fun K9 h9=>?_
 refine z07 z08 (z0j 15 26 26 1 (by decide) (by decide) (by decide) (by decide) h9) fun K10 h10=>?_
 refine z07 z1m (z9d 2 28 30 26 (by decide) (by decide) (by decide) (by decide) h10) fun K11 h11=>?_
 refine z07 z0d (z0w 27 33 (by decide) (by decide) h11) fun K12 h12=>?_
 refine z07 z0k (If_em 24 28 27 2005 (by decide) (by decide) (by decide) (by decide) h12) fun K13 h13=>?_
 refine z07 z1m (z9d 1 27 29 26 (by decide) (by decide) (by decide) (by decide) h13) fun K14 h14=>?_
 refine z07 z08 (z0j 15 27 27 2 (by decide) (by decide) (by decide) (by decide) h14) fun K15 h15=>?_
 refine z07 z08 (z0j 18 27 27 3 (by decide) (by decide) (by decide) (by decide) h15) fun K16 h16=>?_
 refine z07 z08 (z0j 17 27 27 1 (by decide) (by decide) (by decide) (by decide) h16) fun K17 h17=>?_
 refine z07 z0e (z10 27 29 1 (by decide) (by decide) (by decide) h17) fun K18 h18=>?_
 refine z07 z0r (z3n 2006 (by decide) h18) fun K19 h19=>?_
 refine z07 z0c (z0u 2005 (by decide) h19) fun K20 h20=>?_
 refine z07 z0e (z10 31 29 1 (by decide) (by decide) (by decide) h20) fun K21 h21=>?_
 refine z07 z0c (z0u 2006 (by decide) h21) fun K22 h22=>?_
 refine z07 z08 (z0j 15 29 29 2 (by decide) (by decide) (by decide) (by decide) h22) fun K23 h23=>?_
 refine z07 z14 (z5o 30 28 (by decide) (by decide) h23) fun K24 h24=>?_
 refine z07 z0c (z0u 2002 (by decide) h24) fun K25 h25=>?_
 refine z07 z0k (If_em 24 26 0 2003 (by decide) (by decide) (by decide) (by decide) h25) fun K26 h26=>?_
 refine z07 z0f (z1c 27 30 0 (by decide) (by decide) (by decide) h26) fun K27 h27=>?_
 refine z07 z0e (z10 27 29 0 (by decide) (by decide) (by decide) h27) fun K28 h28=>?_
 refine z07 z08 (z0j 15 30 30 1 (by decide) (by decide) (by decide) (by decide) h28) fun K29 h29=>?_
 refine z07 z08 (z0j 15 29 29 1 (by decide) (by decide) (by decide) (by decide) h29) fun K30 h30=>?_
 refine z07 z08 (z0j 15 26 26 (-1) (by decide) (by decide) (by decide) (by decide) h30) fun K31 h31=>?_
 refine z07 z0r (z3n 2002 (by decide) h31) fun K32 h32=>?_
 refine z07 z0c (z0u 2003 (by decide) h32) fun K33 h33=>?_
 refine z07 z14 (z5o 30 28 (by decide) (by decide) h33) fun K34 h34=>?_
 exact ⟨rfl,by simpa only [zkb,List.append_assoc,List.cons_append,List.nil_append] using h34⟩
def zek:List ItemR:=[⟨1,⟨0,0,0,0,0⟩,9,0⟩,⟨0,⟨22,29,0,0,28⟩,0,0⟩]++z8h 27 5 15++[⟨0,⟨23,27,0,0,32⟩,0,0⟩,⟨4,⟨20,30,0,0,0⟩,0,33⟩,⟨4,⟨20,27,0,0,0⟩,0,18⟩,⟨0,⟨23,27,0,0,25⟩,0,0⟩,⟨0,⟨23,27,0,0,26⟩,0,0⟩]++zin 2++[⟨4,⟨20,27,0,0,0⟩,0,111⟩,⟨0,⟨23,27,29,0,0⟩,0,0⟩]++z8h 27 10 3++[⟨0,⟨23,27,29,0,1⟩,0,0⟩]++zj2 25 2++[⟨4,⟨20,28,0,0,0⟩,0,0⟩,⟨3,⟨28,0,0,0,0⟩,10,0⟩]
theorem zye (h0:EmH S0 K r T rest l (k+21) J):Tri Tryz.prog Z18 #[pAt r] K (EmQ S0 r T rest (l++zek) k J):=by
 refine zvq [pAt r] (by kernel_rfl) (by kernel_rfl) ?_
 refine z07 z0c (z0u 9 (by decide) h0) fun K1 h1=>?_
 refine z07 z0f (z1c 29 0 28 (by decide) (by decide) (by decide) h1) fun K2 h2=>?_
 refine z07 zdc (zch 27 5 15 (by decide) (by decide) (by decide) h2) fun K3 h3=>?_
 refine z07 z0e (z10 27 0 32 (by decide) (by decide) (by decide) h3) fun K4 h4=>?_
 refine z07 z0d (z0w 30 33 (by decide) (by decide) h4) fun K5 h5=>?_
 refine z07 z0d (z0w 27 18 (by decide) (by decide) h5) fun K6 h6=>?_
 refine z07 z0e (z10 27 0 25 (by decide) (by decide) (by decide) h6) fun K7 h7=>?_
 refine z07 z0e (z10 27 0 26 (by decide) (by decide) (by decide) h7) fun K8 h8=>?_
 refine z07 zpm (zoq 2 (by decide) h8) fun K9 h9=>?_
 refine z0b [.int .i64 111] zq6 (zoz 5 1 111 (by kernel_rfl) _) rfl z06 fun K10 l10=>?_
 have h10:=h9.le l10
 simp only [List.cons_append,List.nil_append]
 refine z07 z0d (z0w 27 111 (by decide) (by decide) h10) fun K11 h11=>?_
 refine z07 z0e (z10 27 29 0 (by decide) (by decide) (by decide) h11) fun K12 h12=>?_
 refine z07 zdc (zch 27 10 3 (by decide) (by decide) (by decide) h12) fun K13 h13=>?_
 refine z07 z0e (z10 27 29 1 (by decide) (by decide) (by decide) h13) fun K14 h14=>?_
 refine z07 zpl (zqd 25 2 (by decide) (by decide) h14) fun K15 h15=>?_
 refine z07 z0d (z0w 28 0 (by decide) (by decide) h15) fun K16 h16=>?_
 refine z07 z0r (z3n 10 (by decide) h16) fun K17 h17=>?_
 exact ⟨rfl,by simpa only [zek,List.append_assoc,List.cons_append,List.nil_append] using h17⟩
def zhx:List ItemR:=[⟨1,⟨0,0,0,0,0⟩,2,0⟩,⟨0,⟨1,27,29,26,0⟩,0,0⟩,⟨0,⟨22,28,0,0,29⟩,0,0⟩,⟨2,⟨26,28,27,0,0⟩,1,0⟩,⟨0,⟨29,0,31,0,0⟩,0,0⟩,⟨1,⟨0,0,0,0,0⟩,3,0⟩,⟨0,⟨16,26,25,0,7⟩,0,0⟩,⟨4,⟨20,27,0,0,0⟩,0,1⟩,⟨2,⟨25,26,27,0,0⟩,21,0⟩,⟨0,⟨19,26,25,0,3⟩,0,0⟩,⟨0,⟨22,27,26,0,0⟩,0,0⟩,⟨0,⟨19,27,27,0,3⟩,0,0⟩,⟨0,⟨16,27,27,0,7⟩,0,0⟩,⟨4,⟨20,31,0,0,0⟩,0,5⟩,⟨2,⟨24,27,31,0,0⟩,2009,0⟩,⟨4,⟨20,31,0,0,0⟩,0,7⟩,⟨2,⟨25,27,31,0,0⟩,21,0⟩,⟨1,⟨0,0,0,0,0⟩,2009,0⟩,⟨0,⟨22,26,26,0,1⟩,0,0⟩,⟨0,⟨19,26,26,0,3⟩,0,0⟩,⟨0,⟨29,0,26,0,0⟩,0,0⟩,⟨1,⟨0,0,0,0,0⟩,4,0⟩,⟨0,⟨22,26,30,0,-1⟩,0,0⟩,⟨0,⟨19,26,26,0,15⟩,0,0⟩,⟨0,⟨29,0,26,0,0⟩,0,0⟩]
theorem Z2a (h0:EmH S0 K r T rest l (k+25) J):Tri Tryz.prog Z35 #[pAt r] K (EmQ S0 r T rest (l++zhx) k J):=by
 refine zzi [pAt r] (by kernel_rfl) (by kernel_rfl) ?_
 refine z07 z0c (z0u 2 (by decide) h0) fun K1 h1=>?_
 refine z07 z1m (z9d 1 27 29 26 (by decide) (by decide) (by decide) (by decide) h1) fun K2 h2=>?_
 refine z07 z0f (z1c 28 0 29 (by decide) (by decide) (by decide) h2) fun K3 h3=>?_
 refine z07 z0k (If_em 26 28 27 1 (by decide) (by decide) (by decide) (by decide) h3) fun K4 h4=>?_
 refine z07 z1h (z9l 31 (by decide) h4) fun K5 h5=>?_
 refine z07 z0c (z0u 3 (by decide) h5) fun K6 h6=>?_
 refine z07 z08 (z0j 16 26 25 7 (by decide) (by decide) (by decide) (by decide) h6) fun K7 h7=>?_
 refine z07 z0d (z0w 27 1 (by decide) (by decide) h7) fun K8 h8=>?_
 refine z0b [.int .i64 21] z70 (z71 90 21 (by kernel_rfl) _) rfl z06 fun K9 l9=>?_
 have h9:=h8.le l9
 simp only [List.cons_append,List.nil_append]
 refine z07 z0k (If_em 25 26 27 21 (by decide) (by decide) (by decide) (by decide) h9) fun K10 h10=>?_
 refine z07 z08 (z0j 19 26 25 3 (by decide) (by decide) (by decide) (by decide) h10) fun K11 h11=>?_
 refine z07 z0f (z1c 27 26 0 (by decide) (by decide) (by decide) h11) fun K12 h12=>?_
 refine z07 z08 (z0j 19 27 27 3 (by decide) (by decide) (by decide) (by decide) h12) fun K13 h13=>?_
 refine z07 z08 (z0j 16 27 27 7 (by decide) (by decide) (by decide) (by decide) h13) fun K14 h14=>?_
 refine z07 z0d (z0w 31 5 (by decide) (by decide) h14) fun K15 h15=>?_
 refine z07 z0k (If_em 24 27 31 2009 (by decide) (by decide) (by decide) (by decide) h15) fun K16 h16=>?_
 refine z07 z0d (z0w 31 7 (by decide) (by decide) h16) fun K17 h17=>?_
 refine z0b [.int .i64 21] z70 (z71 90 21 (by kernel_rfl) _) rfl z06 fun K18 l18=>?_
 have h18:=h17.le l18
 simp only [List.cons_append,List.nil_append]
 refine z07 z0k (If_em 25 27 31 21 (by decide) (by decide) (by decide) (by decide) h18) fun K19 h19=>?_
 refine z07 z0c (z0u 2009 (by decide) h19) fun K20 h20=>?_
 refine z07 z0f (z1c 26 26 1 (by decide) (by decide) (by decide) h20) fun K21 h21=>?_
 refine z07 z08 (z0j 19 26 26 3 (by decide) (by decide) (by decide) (by decide) h21) fun K22 h22=>?_
 refine z07 z1h (z9l 26 (by decide) h22) fun K23 h23=>?_
 refine z07 z0c (z0u 4 (by decide) h23) fun K24 h24=>?_
 refine z07 z0f (z1c 26 30 (-1) (by decide) (by decide) (by decide) h24) fun K25 h25=>?_
 refine z07 z08 (z0j 19 26 26 15 (by decide) (by decide) (by decide) (by decide) h25) fun K26 h26=>?_
 refine z07 z1h (z9l 26 (by decide) h26) fun K27 h27=>?_
 exact ⟨rfl,by simpa only [zhx,List.append_assoc,List.cons_append,List.nil_append] using h27⟩
def zej:List ItemR:=[⟨1,⟨0,0,0,0,0⟩,6,0⟩,⟨4,⟨20,26,0,0,0⟩,0,33⟩,⟨2,⟨25,26,30,0,0⟩,2000,0⟩,⟨0,⟨29,0,31,0,0⟩,0,0⟩,⟨1,⟨0,0,0,0,0⟩,2000,0⟩,⟨0,⟨23,31,0,0,27⟩,0,0⟩,⟨0,⟨15,26,30,0,-33⟩,0,0⟩,⟨0,⟨18,27,26,0,1⟩,0,0⟩,⟨0,⟨1,26,26,27,0⟩,0,0⟩,⟨3,⟨28,31,0,0,0⟩,2,0⟩,⟨0,⟨22,31,0,0,25⟩,0,0⟩,⟨0,⟨18,27,29,0,3⟩,0,0⟩,⟨0,⟨17,27,27,0,1⟩,0,0⟩,⟨0,⟨23,27,0,0,25⟩,0,0⟩,⟨1,⟨0,0,0,0,0⟩,2001,0⟩]++zkb++[⟨4,⟨20,27,0,0,0⟩,0,33⟩,⟨2,⟨25,30,27,0,0⟩,2001,0⟩,⟨0,⟨22,31,0,0,27⟩,0,0⟩,⟨0,⟨29,0,31,0,0⟩,0,0⟩]
theorem zy7 (h0:EmH S0 K r T rest l (k+53) J):Tri Tryz.prog Z21 #[pAt r] K (EmQ S0 r T rest (l++zej) k J):=by
 refine zvt [pAt r] (by kernel_rfl) (by kernel_rfl) ?_
 refine z07 z0c (z0u 6 (by decide) h0) fun K1 h1=>?_
 refine z07 z0d (z0w 26 33 (by decide) (by decide) h1) fun K2 h2=>?_
 refine z07 z0k (If_em 25 26 30 2000 (by decide) (by decide) (by decide) (by decide) h2) fun K3 h3=>?_
 refine z07 z1h (z9l 31 (by decide) h3) fun K4 h4=>?_
 refine z07 z0c (z0u 2000 (by decide) h4) fun K5 h5=>?_
 refine z07 z0e (z10 31 0 27 (by decide) (by decide) (by decide) h5) fun K6 h6=>?_
 refine z07 z08 (z0j 15 26 30 (-33) (by decide) (by decide) (by decide) (by decide) h6) fun K7 h7=>?_
 refine z07 z08 (z0j 18 27 26 1 (by decide) (by decide) (by decide) (by decide) h7) fun K8 h8=>?_
 refine z07 z1m (z9d 1 26 26 27 (by decide) (by decide) (by decide) (by decide) h8) fun K9 h9=>?_
 refine z07 z1e (z9g 31 2 (by decide) (by decide) h9) fun K10 h10=>?_
 refine z07 z0f (z1c 31 0 25 (by decide) (by decide) (by decide) h10) fun K11 h11=>?_
 refine z07 z08 (z0j 18 27 29 3 (by decide) (by decide) (by decide) (by decide) h11) fun K12 h12=>?_
 refine z07 z08 (z0j 17 27 27 1 (by decide) (by decide) (by decide) (by decide) h12) fun K13 h13=>?_
 refine z07 z0e (z10 27 0 25 (by decide) (by decide) (by decide) h13) fun K14 h14=>?_
 refine z07 z0c (z0u 2001 (by decide) h14) fun K15 h15=>?_
 refine z07 zyy (zzo   h15) fun K16 h16=>?_
 refine z07 z0d (z0w 27 33 (by decide) (by decide) h16) fun K17 h17=>?_
 refine z07 z0k (If_em 25 30 27 2001 (by decide) (by decide) (by decide) (by decide) h17) fun K18 h18=>?_
 refine z07 z0f (z1c 31 0 27 (by decide) (by decide) (by decide) h18) fun K19 h19=>?_
 refine z07 z1h (z9l 31 (by decide) h19) fun K20 h20=>?_
 exact ⟨rfl,by simpa only [zej,List.append_assoc,List.cons_append,List.nil_append] using h20⟩
def z72:List ItemR:=[⟨1,⟨0,0,0,0,0⟩,5,0⟩,⟨0,⟨22,26,0,0,25⟩,0,0⟩,⟨4,⟨20,27,0,0,0⟩,0,18⟩,⟨2,⟨25,26,27,0,0⟩,2007,0⟩,⟨0,⟨0,0,0,0,0⟩,0,0⟩,⟨1,⟨0,0,0,0,0⟩,2007,0⟩,⟨0,⟨19,26,26,0,3⟩,0,0⟩,⟨0,⟨22,27,26,0,1⟩,0,0⟩,⟨0,⟨23,27,0,0,25⟩,0,0⟩,⟨0,⟨22,27,26,0,0⟩,0,0⟩,⟨0,⟨19,27,27,0,6⟩,0,0⟩,⟨0,⟨1,27,27,26,0⟩,0,0⟩,⟨0,⟨15,26,26,0,2⟩,0,0⟩,⟨4,⟨20,30,0,0,0⟩,0,33⟩,⟨1,⟨0,0,0,0,0⟩,2004,0⟩,⟨2,⟨26,27,26,0,0⟩,2008,0⟩,⟨0,⟨22,28,26,0,0⟩,0,0⟩,⟨0,⟨23,28,30,0,0⟩,0,0⟩,⟨0,⟨15,26,26,0,1⟩,0,0⟩,⟨0,⟨15,30,30,0,1⟩,0,0⟩,⟨3,⟨28,0,0,0,0⟩,2004,0⟩,⟨1,⟨0,0,0,0,0⟩,2008,0⟩,⟨3,⟨28,0,0,0,0⟩,4,0⟩]
theorem zq5 (h0:EmH S0 K r T rest l (k+23) J):Tri Tryz.prog zs9 #[pAt r] K (EmQ S0 r T rest (l++z72) k J):=by
 refine znh [pAt r] (by kernel_rfl) (by kernel_rfl) ?_
 refine z07 z0c (z0u 5 (by decide) h0) fun K1 h1=>?_
 refine z07 z0f (z1c 26 0 25 (by decide) (by decide) (by decide) h1) fun K2 h2=>?_
 refine z07 z0d (z0w 27 18 (by decide) (by decide) h2) fun K3 h3=>?_
 refine z07 z0k (If_em 25 26 27 2007 (by decide) (by decide) (by decide) (by decide) h3) fun K4 h4=>?_
 refine z07 z08 (z0j 0 0 0 0 (by decide) (by decide) (by decide) (by decide) h4) fun K5 h5=>?_
 refine z07 z0c (z0u 2007 (by decide) h5) fun K6 h6=>?_
 refine z07 z08 (z0j 19 26 26 3 (by decide) (by decide) (by decide) (by decide) h6) fun K7 h7=>?_
 refine z07 z0f (z1c 27 26 1 (by decide) (by decide) (by decide) h7) fun K8 h8=>?_
 refine z07 z0e (z10 27 0 25 (by decide) (by decide) (by decide) h8) fun K9 h9=>?_
 refine z07 z0f (z1c 27 26 0 (by decide) (by decide) (by decide) h9) fun K10 h10=>?_
 refine z07 z08 (z0j 19 27 27 6 (by decide) (by decide) (by decide) (by decide) h10) fun K11 h11=>?_
 refine z07 z1m (z9d 1 27 27 26 (by decide) (by decide) (by decide) (by decide) h11) fun K12 h12=>?_
 refine z07 z08 (z0j 15 26 26 2 (by decide) (by decide) (by decide) (by decide) h12) fun K13 h13=>?_
 refine z07 z0d (z0w 30 33 (by decide) (by decide) h13) fun K14 h14=>?_
 refine z07 z0c (z0u 2004 (by decide) h14) fun K15 h15=>?_
 refine z07 z0k (If_em 26 27 26 2008 (by decide) (by decide) (by decide) (by decide) h15) fun K16 h16=>?_
 refine z07 z0f (z1c 28 26 0 (by decide) (by decide) (by decide) h16) fun K17 h17=>?_
 refine z07 z0e (z10 28 30 0 (by decide) (by decide) (by decide) h17) fun K18 h18=>?_
 refine z07 z08 (z0j 15 26 26 1 (by decide) (by decide) (by decide) (by decide) h18) fun K19 h19=>?_
 refine z07 z08 (z0j 15 30 30 1 (by decide) (by decide) (by decide) (by decide) h19) fun K20 h20=>?_
 refine z07 z0r (z3n 2004 (by decide) h20) fun K21 h21=>?_
 refine z07 z0c (z0u 2008 (by decide) h21) fun K22 h22=>?_
 refine z07 z0r (z3n 4 (by decide) h22) fun K23 h23=>?_
 exact ⟨rfl,by simpa only [z72,List.append_assoc,List.cons_append,List.nil_append] using h23⟩
def zel:List ItemR:=[⟨1,⟨0,0,0,0,0⟩,7,0⟩,⟨3,⟨28,31,0,0,0⟩,6,0⟩]++zin 3++[⟨4,⟨20,27,0,0,0⟩,0,191⟩,⟨0,⟨23,27,29,0,0⟩,0,0⟩]++z8h 27 8 3++[⟨0,⟨23,27,29,0,1⟩,0,0⟩,⟨0,⟨22,27,0,0,25⟩,0,0⟩,⟨0,⟨23,27,29,0,2⟩,0,0⟩]++zj2 1 3++[⟨4,⟨20,28,0,0,0⟩,0,1⟩,⟨3,⟨28,0,0,0,0⟩,3,0⟩,⟨1,⟨0,0,0,0,0⟩,8,0⟩,⟨4,⟨20,26,0,0,0⟩,0,1⟩,⟨2,⟨25,26,28,0,0⟩,22,0⟩,⟨0,⟨19,26,25,0,3⟩,0,0⟩,⟨0,⟨22,27,26,0,2⟩,0,0⟩,⟨0,⟨23,27,0,0,25⟩,0,0⟩,⟨4,⟨20,30,0,0,0⟩,0,33⟩,⟨3,⟨28,0,0,0,0⟩,4,0⟩]
theorem zy5 (h0:EmH S0 K r T rest l (k+24) J):Tri Tryz.prog Z2d #[pAt r] K (EmQ S0 r T rest (l++zel) k J):=by
 refine zwt [pAt r] (by kernel_rfl) (by kernel_rfl) ?_
 refine z07 z0c (z0u 7 (by decide) h0) fun K1 h1=>?_
 refine z07 z1e (z9g 31 6 (by decide) (by decide) h1) fun K2 h2=>?_
 refine z07 zpm (zoq 3 (by decide) h2) fun K3 h3=>?_
 refine z0b [.int .i64 191] zq6 (zoz 7 2 191 (by kernel_rfl) _) rfl z06 fun K4 l4=>?_
 have h4:=h3.le l4
 simp only [List.cons_append,List.nil_append]
 refine z07 z0d (z0w 27 191 (by decide) (by decide) h4) fun K5 h5=>?_
 refine z07 z0e (z10 27 29 0 (by decide) (by decide) (by decide) h5) fun K6 h6=>?_
 refine z07 zdc (zch 27 8 3 (by decide) (by decide) (by decide) h6) fun K7 h7=>?_
 refine z07 z0e (z10 27 29 1 (by decide) (by decide) (by decide) h7) fun K8 h8=>?_
 refine z07 z0f (z1c 27 0 25 (by decide) (by decide) (by decide) h8) fun K9 h9=>?_
 refine z07 z0e (z10 27 29 2 (by decide) (by decide) (by decide) h9) fun K10 h10=>?_
 refine z07 zpl (zqd 1 3 (by decide) (by decide) h10) fun K11 h11=>?_
 refine z07 z0d (z0w 28 1 (by decide) (by decide) h11) fun K12 h12=>?_
 refine z07 z0r (z3n 3 (by decide) h12) fun K13 h13=>?_
 refine z07 z0c (z0u 8 (by decide) h13) fun K14 h14=>?_
 refine z07 z0d (z0w 26 1 (by decide) (by decide) h14) fun K15 h15=>?_
 refine z0b [.int .i64 22] z70 (z71 91 22 (by kernel_rfl) _) rfl z06 fun K16 l16=>?_
 have h16:=h15.le l16
 simp only [List.cons_append,List.nil_append]
 refine z07 z0k (If_em 25 26 28 22 (by decide) (by decide) (by decide) (by decide) h16) fun K17 h17=>?_
 refine z07 z08 (z0j 19 26 25 3 (by decide) (by decide) (by decide) (by decide) h17) fun K18 h18=>?_
 refine z07 z0f (z1c 27 26 2 (by decide) (by decide) (by decide) h18) fun K19 h19=>?_
 refine z07 z0e (z10 27 0 25 (by decide) (by decide) (by decide) h19) fun K20 h20=>?_
 refine z07 z0d (z0w 30 33 (by decide) (by decide) h20) fun K21 h21=>?_
 refine z07 z0r (z3n 4 (by decide) h21) fun K22 h22=>?_
 exact ⟨rfl,by simpa only [zel,List.append_assoc,List.cons_append,List.nil_append] using h22⟩
def zit (a1 a2:Int):List ItemR:=[⟨0,⟨22,3,0,0,a1⟩,0,0⟩,⟨0,⟨22,4,0,0,a2⟩,0,0⟩,⟨0,⟨23,4,0,0,a1⟩,0,0⟩,⟨0,⟨23,3,0,0,a2⟩,0,0⟩]
theorem zo1 (a1 a2:Int) (b1:InI a1) (b2:InI a2) (h0:EmH S0 K r T rest l (k+4) J):Tri Tryz.prog Z32 #[pAt r,.int .i64 a1,.int .i64 a2] K (EmQ S0 r T rest (l++zit a1 a2) k J):=by
 refine zyh [pAt r,.int .i64 a1,.int .i64 a2] (by kernel_rfl) (by kernel_rfl) ?_
 refine z07 z0f (z1c 3 0 a1 (by decide) (by decide) b1 h0) fun K1 h1=>?_
 refine z07 z0f (z1c 4 0 a2 (by decide) (by decide) b2 h1) fun K2 h2=>?_
 refine z07 z0e (z10 4 0 a1 (by decide) (by decide) b1 h2) fun K3 h3=>?_
 refine z07 z0e (z10 3 0 a2 (by decide) (by decide) b2 h3) fun K4 h4=>?_
 exact ⟨rfl,by simpa only [zit,List.append_assoc,List.cons_append,List.nil_append] using h4⟩
def zf8:List ItemR:=[⟨1,⟨0,0,0,0,0⟩,1003,0⟩,⟨2,⟨27,3,4,0,0⟩,1005,0⟩,⟨0,⟨22,6,3,0,0⟩,0,0⟩,⟨0,⟨16,7,6,0,7⟩,0,0⟩,⟨4,⟨20,8,0,0,0⟩,0,1⟩,⟨2,⟨25,7,8,0,0⟩,1004,0⟩,⟨0,⟨19,7,6,0,3⟩,0,0⟩,⟨0,⟨22,9,7,0,0⟩,0,0⟩,⟨0,⟨16,10,9,0,7⟩,0,0⟩,⟨2,⟨24,10,8,0,0⟩,1007,0⟩,⟨0,⟨19,10,9,0,6⟩,0,0⟩,⟨0,⟨18,6,1,0,3⟩,0,0⟩,⟨0,⟨17,6,6,0,1⟩,0,0⟩,⟨0,⟨23,9,1,0,0⟩,0,0⟩,⟨0,⟨23,6,7,0,0⟩,0,0⟩,⟨0,⟨23,6,3,0,0⟩,0,0⟩,⟨0,⟨15,1,1,0,1⟩,0,0⟩,⟨1,⟨0,0,0,0,0⟩,1006,0⟩,⟨2,⟨24,10,0,0,0⟩,1004,0⟩,⟨0,⟨15,7,7,0,1⟩,0,0⟩,⟨0,⟨22,9,7,0,0⟩,0,0⟩,⟨0,⟨23,9,1,0,0⟩,0,0⟩,⟨0,⟨15,1,1,0,1⟩,0,0⟩,⟨0,⟨15,10,10,0,-1⟩,0,0⟩,⟨3,⟨28,0,0,0,0⟩,1006,0⟩,⟨1,⟨0,0,0,0,0⟩,1007,0⟩,⟨0,⟨23,9,3,0,0⟩,0,0⟩,⟨1,⟨0,0,0,0,0⟩,1004,0⟩,⟨0,⟨15,3,3,0,1⟩,0,0⟩,⟨3,⟨28,0,0,0,0⟩,1003,0⟩,⟨1,⟨0,0,0,0,0⟩,1005,0⟩,⟨0,⟨29,0,5,0,0⟩,0,0⟩]
theorem zu8 (h0:EmH S0 K r T rest l (k+32) J):Tri Tryz.prog zv9 #[pAt r] K (EmQ S0 r T rest (l++zf8) k J):=by
 refine zr1 [pAt r] (by kernel_rfl) (by kernel_rfl) ?_
 refine z07 z0c (z0u 1003 (by decide) h0) fun K1 h1=>?_
 refine z07 z0k (If_em 27 3 4 1005 (by decide) (by decide) (by decide) (by decide) h1) fun K2 h2=>?_
 refine z07 z0f (z1c 6 3 0 (by decide) (by decide) (by decide) h2) fun K3 h3=>?_
 refine z07 z08 (z0j 16 7 6 7 (by decide) (by decide) (by decide) (by decide) h3) fun K4 h4=>?_
 refine z07 z0d (z0w 8 1 (by decide) (by decide) h4) fun K5 h5=>?_
 refine z07 z0k (If_em 25 7 8 1004 (by decide) (by decide) (by decide) (by decide) h5) fun K6 h6=>?_
 refine z07 z08 (z0j 19 7 6 3 (by decide) (by decide) (by decide) (by decide) h6) fun K7 h7=>?_
 refine z07 z0f (z1c 9 7 0 (by decide) (by decide) (by decide) h7) fun K8 h8=>?_
 refine z07 z08 (z0j 16 10 9 7 (by decide) (by decide) (by decide) (by decide) h8) fun K9 h9=>?_
 refine z07 z0k (If_em 24 10 8 1007 (by decide) (by decide) (by decide) (by decide) h9) fun K10 h10=>?_
 refine z07 z08 (z0j 19 10 9 6 (by decide) (by decide) (by decide) (by decide) h10) fun K11 h11=>?_
 refine z07 z08 (z0j 18 6 1 3 (by decide) (by decide) (by decide) (by decide) h11) fun K12 h12=>?_
 refine z07 z08 (z0j 17 6 6 1 (by decide) (by decide) (by decide) (by decide) h12) fun K13 h13=>?_
 refine z07 z0e (z10 9 1 0 (by decide) (by decide) (by decide) h13) fun K14 h14=>?_
 refine z07 z0e (z10 6 7 0 (by decide) (by decide) (by decide) h14) fun K15 h15=>?_
 refine z07 z0e (z10 6 3 0 (by decide) (by decide) (by decide) h15) fun K16 h16=>?_
 refine z07 z08 (z0j 15 1 1 1 (by decide) (by decide) (by decide) (by decide) h16) fun K17 h17=>?_
 refine z07 z0c (z0u 1006 (by decide) h17) fun K18 h18=>?_
 refine z07 z0k (If_em 24 10 0 1004 (by decide) (by decide) (by decide) (by decide) h18) fun K19 h19=>?_
 refine z07 z08 (z0j 15 7 7 1 (by decide) (by decide) (by decide) (by decide) h19) fun K20 h20=>?_
 refine z07 z0f (z1c 9 7 0 (by decide) (by decide) (by decide) h20) fun K21 h21=>?_
 refine z07 z0e (z10 9 1 0 (by decide) (by decide) (by decide) h21) fun K22 h22=>?_
 refine z07 z08 (z0j 15 1 1 1 (by decide) (by decide) (by decide) (by decide) h22) fun K23 h23=>?_
 refine z07 z08 (z0j 15 10 10 (-1) (by decide) (by decide) (by decide) (by decide) h23) fun K24 h24=>?_
 refine z07 z0r (z3n 1006 (by decide) h24) fun K25 h25=>?_
 refine z07 z0c (z0u 1007 (by decide) h25) fun K26 h26=>?_
 refine z07 z0e (z10 9 3 0 (by decide) (by decide) (by decide) h26) fun K27 h27=>?_
 refine z07 z0c (z0u 1004 (by decide) h27) fun K28 h28=>?_
 refine z07 z08 (z0j 15 3 3 1 (by decide) (by decide) (by decide) (by decide) h28) fun K29 h29=>?_
 refine z07 z0r (z3n 1003 (by decide) h29) fun K30 h30=>?_
 refine z07 z0c (z0u 1005 (by decide) h30) fun K31 h31=>?_
 refine z07 z1h (z9l 5 (by decide) h31) fun K32 h32=>?_
 exact ⟨rfl,by simpa only [zf8,List.append_assoc,List.cons_append,List.nil_append] using h32⟩
end
def errR (i:Nat):List ItemR:=[⟨1,⟨0,0,0,0,0⟩,11+(i:Int),0⟩,⟨4,⟨20,26,0,0,0⟩,0,80+(i:Int)⟩,⟨0,⟨0,26,0,0,0⟩,0,0⟩]
def zig:List ItemR:=zek++zhx++zej++z72++zel++(List.range 16).flatMap errR
def stR1 (i:Nat):ItemR:=⟨0,⟨23,(i:Int)+1,0,0,(i:Int)⟩,0,0⟩
def ldR1 (i:Nat):ItemR:=⟨0,⟨22,(i:Int)+1,0,0,(i:Int)⟩,0,0⟩
theorem zqe {α:Type} (f:Nat→List α) (i:Nat):(List.range (i+1)).flatMap f=(List.range i).flatMap f++f i:=by
 rw [List.range_succ,List.flatMap_append];simp
theorem zsp {α:Type} (f:Nat→α) (i:Nat):(List.range (i+1)).map f=(List.range i).map f++[f i]:=by
 rw [List.range_succ,List.map_append];rfl
theorem Z6t (i:Nat):((List.range i).flatMap errR).length=3 * i:=by
 induction i with
 | zero=>rfl
 | succ i ih=>rw [zqe,zla,ih];simp [errR];omega
theorem inJ {n:Int} (h0:-9223372036854775808≤n) (h1:n≤9223372036854775807):InI n:=⟨h0,h1⟩
theorem zwg {S K:PH} {r:Nat} {T:TypeId} {v:Value} (h:Held S K [bx r T [.slice none 0 0]]):EmH S K r T [] [] 1099511627776 []:=
 ⟨by simp,S,_,PH.le_refl S,((h.empty (α:=ItemR) 131).perm (List.Perm.swap _ _ _))⟩
theorem Z10 (S:PH):Tri Tryz.prog Z43 #[] S fun e K'=>∃v,e=.returned v∧SlR K' zig v∧PH.le S K':=by
 refine zya [] (by kernel_rfl) (by kernel_rfl) ?_
 refine z28 (vs:=[.slice none 0 0]) (Held.nil (PH.le_refl S)) (by kernel_rfl) fun r K1 l1 h1=>?_
 have e0:=zwg (v:=.bool false) h1
 simp only [List.cons_append,List.nil_append]
 refine z07 zzl (zye (k:=1000000) (e0.re (by simp))) fun K1 h1=>?_
 refine z07 Z2t (Z2a (k:=900000) (h1.drop 0 |>.re (by simp;decide))) fun K2 h2=>?_
 refine z07 zxw (zy7 (k:=800000) (h2.re (by simp;decide))) fun K3 h3=>?_
 refine z07 zo6 (zq5 (k:=700000) (h3.re (by simp;decide))) fun K4 h4=>?_
 refine z07 zz8 (zy5 (k:=600000) (h4.re (by simp;decide))) fun K5 h5=>?_
 obtain ⟨base,hb⟩:∃base,base=zek++zhx++zej++z72++zel:=⟨_,rfl⟩
 have h5:EmH S K5 r 98 [] base 600000 []:=by rw [hb];exact h5
 have hbl:base.length≤1000:=by rw [hb];decide
 refine ⟨fun n vs K=>∃i:Nat,i+n=16∧vs=[.int .i64 (80+(i:Int))]∧EmH S K r 98 [] (base++(List.range i).flatMap errR) 3 [],⟨16,0,rfl,rfl,by simpa using h5.re (by omega)⟩,?_⟩
 rintro n vs K _ ⟨i,hin,rfl,h6⟩
 simp only [List.cons_append,List.nil_append]
 have hel:=Z6t i
 refine ⟨fun g=>?_,fun g=>?_⟩
 ·simp only [ev0,ev,evV,List.cons_append,List.nil_append,List.getD_cons_zero,List.getD_cons_succ,List.map_cons,List.map_nil,iOf,bOf,sOf,pOf,slLen,z04,cmpI,arI,Value.ite_bool,z03,z02,z00,z01,zdt] at g
  refine z0b [.int .i64 (11+(i:Int))] z70 (z71 (80+(i:Int)) (11+(i:Int)) ?_ K) rfl z06 fun K7 l7=>?_
  ·show IntKind.i64.wrap (11+IntKind.i64.wrap (80+(i:Int) - 80))=_
   rw [w64 (n:=80+(i:Int) - 80) (by omega) (by omega),w64 (by omega) (by omega)];omega
  have h7:=h6.le l7
  simp only [List.cons_append,List.nil_append]
  refine z07 z0c (z0u (11+(i:Int)) (inJ (by omega) (by omega)) (h7.re (k':=2+1) (by simp [hel];omega))) fun K8 h8=>?_
  refine z07 z7u (Z0i 26 (80+(i:Int)) (by decide) (inJ (by omega) (by omega)) (h8.re (k':=0+2) (by simp [hel];omega))) fun K9 h9=>?_
  refine ⟨_,z05,n - 1,by omega,i+1,by omega,?_,?_⟩
  ·simp only [ev0,ev,evV,List.cons_append,List.nil_append,List.getD_cons_zero,List.getD_cons_succ,List.map_cons,List.map_nil,iOf,bOf,sOf,pOf,slLen,z04,cmpI,arI,Value.ite_bool,z03,z02,z00,z01];rw [w64 (by omega) (by omega)];congr 2
  ·rw [zqe,←List.append_assoc]
   have:=h9.re (k':=3) (by simp [hel];omega)
   simpa only [errR,List.append_assoc,List.cons_append,List.nil_append] using this
 ·simp only [ev0,ev,evV,List.cons_append,List.nil_append,List.getD_cons_zero,List.getD_cons_succ,List.map_cons,List.map_nil,iOf,bOf,sOf,pOf,slLen,z04,cmpI,arI,Value.ite_bool,z03,z02,z00,z01,zdf] at g
  have:i=16:=by omega
  subst this
  obtain ⟨_,S',iv,hS,h7⟩:=h6
  have hr:=(h7.row (e:=131) (l:=base++(List.range 16).flatMap errR) (v:=iv) (by simp))
  obtain ⟨b,c,hiv⟩:=hr.sl
  refine ⟨fun _=>by simp [Chk.holds,ev0,ev,evV,List.cons_append,List.nil_append,List.getD_cons_zero,List.getD_cons_succ,List.map_cons,List.map_nil,iOf,bOf,sOf,pOf,slLen,z04,cmpI,arI,Value.ite_bool,z03,z02,z00,z01],[iv],by rw [hiv];rfl,by simp only [ev0,ev,evV,List.cons_append,List.nil_append,List.getD_cons_zero,List.getD_cons_succ,List.map_cons,List.map_nil,iOf,bOf,sOf,pOf,slLen,z04,cmpI,arI,Value.ite_bool,z03,z02,z00,z01];exact z1p h7 (zms) 0 1,iv,rfl,?_,PH.le_trans hS h7.sh⟩
  have:=hr.slR h7.sh
  rw [hb] at this
  exact this
def gc_midR:List ItemR:=[⟨0,⟨22,1,0,0,30⟩,0,0⟩,⟨0,⟨15,2,1,0,0⟩,0,0⟩,⟨4,⟨20,3,0,0,0⟩,0,0⟩,⟨4,⟨20,4,0,0,0⟩,0,27⟩,⟨3,⟨28,5,0,0,0⟩,1003,0⟩,⟨4,⟨20,3,0,0,0⟩,0,32⟩,⟨0,⟨15,4,30,0,0⟩,0,0⟩,⟨3,⟨28,5,0,0,0⟩,1003,0⟩,⟨1,⟨0,0,0,0,0⟩,1000,0⟩,⟨2,⟨27,2,1,0,0⟩,1001,0⟩,⟨0,⟨15,3,2,0,0⟩,0,0⟩,⟨0,⟨15,4,1,0,0⟩,0,0⟩,⟨0,⟨15,2,1,0,0⟩,0,0⟩,⟨3,⟨28,5,0,0,0⟩,1003,0⟩,⟨3,⟨28,0,0,0,0⟩,1000,0⟩,⟨1,⟨0,0,0,0,0⟩,1001,0⟩]++zit 28 30++zit 29 31++[⟨0,⟨15,29,1,0,0⟩,0,0⟩,⟨0,⟨1,3,1,26,0⟩,0,0⟩,⟨0,⟨22,4,0,0,29⟩,0,0⟩,⟨2,⟨26,4,3,0,0⟩,1002,0⟩]
def zzw:List ItemR:=[⟨0,⟨29,0,31,0,0⟩,0,0⟩,⟨1,⟨0,0,0,0,0⟩,1002,0⟩,⟨4,⟨20,26,0,0,0⟩,0,95⟩,⟨0,⟨0,26,0,0,0⟩,0,0⟩]++zf8
def z74:List ItemR:=[⟨1,⟨0,0,0,0,0⟩,1,0⟩]++(List.range 25).map stR1++gc_midR++(List.range 25).map ldR1++zzw
theorem Z2b (S:PH):Tri Tryz.prog Z54 #[] S fun e K'=>∃v,e=.returned v∧SlR K' z74 v∧PH.le S K':=by
 refine zzf [] (by kernel_rfl) (by kernel_rfl) ?_
 refine z28 (vs:=[.slice none 0 0]) (Held.nil (PH.le_refl S)) (by kernel_rfl) fun r K1 l1 h1=>?_
 have e0:=zwg (v:=.bool false) h1
 simp only [List.cons_append,List.nil_append]
 refine z07 z0c (z0u 1 (by decide) (e0.re (k':=0+1) (by simp))) fun K1 h1=>?_
 obtain ⟨b0,hb0⟩:∃b0:List ItemR,b0=[⟨1,⟨0,0,0,0,0⟩,1,0⟩]:=⟨_,rfl⟩
 have h1:EmH S K1 r 98 [] b0 0 []:=by rw [hb0];exact h1
 have hl0:b0.length=1:=by rw [hb0];rfl
 refine ⟨fun n vs K=>∃i:Nat,i+n=25∧vs=[.int .i64 ((i:Int)+1)]∧EmH S K r 98 [] (b0++(List.range i).map stR1) 1 [],⟨25,0,rfl,rfl,by simpa using h1.re (by omega)⟩,?_⟩
 rintro n vs K _ ⟨i,hin,rfl,h2⟩
 simp only [List.cons_append,List.nil_append]
 refine ⟨fun g=>?_,fun g=>?_⟩
 ·simp only [ev0,ev,evV,List.cons_append,List.nil_append,List.getD_cons_zero,List.getD_cons_succ,List.map_cons,List.map_nil,iOf,bOf,sOf,pOf,slLen,z04,cmpI,arI,Value.ite_bool,z03,z02,z00,z01,zdt] at g
  have e1:arI .sub .i64 (arI .add .i64 0 ((i:Int)+1)) 1=(i:Int):=by
   show IntKind.i64.wrap (IntKind.i64.wrap (0+((i:Int)+1)) - 1)=_
   rw [w64 (n:=0+((i:Int)+1)) (by omega) (by omega),w64 (by omega) (by omega)];omega
  have c1:Tri Tryz.prog z7h #[pAt r,.int .i64 ((i:Int)+1),.int .i64 0,.int .i64 (arI .sub .i64 (arI .add .i64 0 ((i:Int)+1)) 1)] K (EmQ S r 98 [] (b0++(List.range i).map stR1++[stR1 i]) 0 []):=by
   rw [e1]
   exact z10 ((i:Int)+1) 0 (i:Int) (inJ (by omega) (by omega)) (by decide) (inJ (by omega) (by omega)) (h2.re (k':=0+1) (by simp [hl0];omega))
  refine z07 z0e c1 fun K3 h3=>?_
  refine ⟨_,z05,n - 1,by omega,i+1,by omega,?_,?_⟩
  ·simp only [ev0,ev,evV,List.cons_append,List.nil_append,List.getD_cons_zero,List.getD_cons_succ,List.map_cons,List.map_nil,iOf,bOf,sOf,pOf,slLen,z04,cmpI,arI,Value.ite_bool,z03,z02,z00,z01];rw [w64 (by omega) (by omega)];congr 2
  ·rw [zsp,←List.append_assoc]
   exact h3.re (by simp [hl0];omega)
 ·simp only [ev0,ev,evV,List.cons_append,List.nil_append,List.getD_cons_zero,List.getD_cons_succ,List.map_cons,List.map_nil,iOf,bOf,sOf,pOf,slLen,z04,cmpI,arI,Value.ite_bool,z03,z02,z00,z01,zdf] at g
  have:i=25:=by omega
  subst this
  obtain ⟨b1,hb1⟩:∃b1,b1=b0++(List.range 25).map stR1:=⟨_,rfl⟩
  have hl1:b1.length=26:=by rw [hb1];simp [hl0]
  rw [←hb1] at h2
  have hA:EmH S K r 98 [] b1 (0+28) []:=h2.re (by omega)
  refine z07 z0f (z1c 1 0 30 (by decide) (by decide) (by decide) hA) fun K101 h101=>?_
  refine z07 z14 (z5o 2 1 (by decide) (by decide) h101) fun K102 h102=>?_
  refine z07 z0d (z0w 3 0 (by decide) (by decide) h102) fun K103 h103=>?_
  refine z07 z0d (z0w 4 27 (by decide) (by decide) h103) fun K104 h104=>?_
  refine z07 z1e (z9g 5 1003 (by decide) (by decide) h104) fun K105 h105=>?_
  refine z07 z0d (z0w 3 32 (by decide) (by decide) h105) fun K106 h106=>?_
  refine z07 z14 (z5o 4 30 (by decide) (by decide) h106) fun K107 h107=>?_
  refine z07 z1e (z9g 5 1003 (by decide) (by decide) h107) fun K108 h108=>?_
  refine z07 z0c (z0u 1000 (by decide) h108) fun K109 h109=>?_
  refine z07 z0k (If_em 27 2 1 1001 (by decide) (by decide) (by decide) (by decide) h109) fun K110 h110=>?_
  refine z07 z14 (z5o 3 2 (by decide) (by decide) h110) fun K111 h111=>?_
  refine z07 z14 (z5o 4 1 (by decide) (by decide) h111) fun K112 h112=>?_
  refine z07 z14 (z5o 2 1 (by decide) (by decide) h112) fun K113 h113=>?_
  refine z07 z1e (z9g 5 1003 (by decide) (by decide) h113) fun K114 h114=>?_
  refine z07 z0r (z3n 1000 (by decide) h114) fun K115 h115=>?_
  refine z07 z0c (z0u 1001 (by decide) h115) fun K116 h116=>?_
  refine z07 zof (zo1 28 30 (by decide) (by decide) h116) fun K117 h117=>?_
  refine z07 zof (zo1 29 31 (by decide) (by decide) h117) fun K118 h118=>?_
  refine z07 z14 (z5o 29 1 (by decide) (by decide) h118) fun K119 h119=>?_
  refine z07 z1m (z9d 1 3 1 26 (by decide) (by decide) (by decide) (by decide) h119) fun K120 h120=>?_
  refine z07 z0f (z1c 4 0 29 (by decide) (by decide) (by decide) h120) fun K121 h121=>?_
  refine z07 z0k (If_em 26 4 3 1002 (by decide) (by decide) (by decide) (by decide) h121) fun K122 h122=>?_
  have hM:EmH S K122 r 98 [] (b1++gc_midR) 0 []:=by simpa only [gc_midR,List.append_assoc,List.cons_append,List.nil_append] using h122
  have hlm:gc_midR.length=28:=by rfl
  obtain ⟨b2,hb2⟩:∃b2,b2=b1++gc_midR:=⟨_,rfl⟩
  have hl2:b2.length=54:=by rw [hb2,zla,hl1,hlm]
  rw [←hb2] at hM
  refine ⟨fun n vs K=>∃i:Nat,i+n=25∧vs=[.int .i64 ((i:Int)+1)]∧EmH S K r 98 [] (b2++(List.range i).map ldR1) 1 [],⟨25,0,rfl,rfl,by simpa using hM.re (by omega)⟩,?_⟩
  rintro n vs K _ ⟨i,hin,rfl,h2⟩
  simp only [List.cons_append,List.nil_append]
  refine ⟨fun g=>?_,fun g=>?_⟩
  ·simp only [ev0,ev,evV,List.cons_append,List.nil_append,List.getD_cons_zero,List.getD_cons_succ,List.map_cons,List.map_nil,iOf,bOf,sOf,pOf,slLen,z04,cmpI,arI,Value.ite_bool,z03,z02,z00,z01,zdt] at g
   have e1:arI .sub .i64 (arI .add .i64 0 ((i:Int)+1)) 1=(i:Int):=by
    show IntKind.i64.wrap (IntKind.i64.wrap (0+((i:Int)+1)) - 1)=_
    rw [w64 (n:=0+((i:Int)+1)) (by omega) (by omega),w64 (by omega) (by omega)];omega
   have c1:Tri Tryz.prog z8q #[pAt r,.int .i64 ((i:Int)+1),.int .i64 0,.int .i64 (arI .sub .i64 (arI .add .i64 0 ((i:Int)+1)) 1)] K (EmQ S r 98 [] (b2++(List.range i).map ldR1++[ldR1 i]) 0 []):=by
    rw [e1]
    exact z1c ((i:Int)+1) 0 (i:Int) (inJ (by omega) (by omega)) (by decide) (inJ (by omega) (by omega)) (h2.re (k':=0+1) (by simp [hl2];omega))
   refine z07 z0f c1 fun K3 h3=>?_
   refine ⟨_,z05,n - 1,by omega,i+1,by omega,?_,?_⟩
   ·simp only [ev0,ev,evV,List.cons_append,List.nil_append,List.getD_cons_zero,List.getD_cons_succ,List.map_cons,List.map_nil,iOf,bOf,sOf,pOf,slLen,z04,cmpI,arI,Value.ite_bool,z03,z02,z00,z01];rw [w64 (by omega) (by omega)];congr 2
   ·rw [zsp,←List.append_assoc]
    exact h3.re (by simp [hl2];omega)
  ·simp only [ev0,ev,evV,List.cons_append,List.nil_append,List.getD_cons_zero,List.getD_cons_succ,List.map_cons,List.map_nil,iOf,bOf,sOf,pOf,slLen,z04,cmpI,arI,Value.ite_bool,z03,z02,z00,z01,zdf] at g
   have:i=25:=by omega
   subst this
   obtain ⟨b3,hb3⟩:∃b3,b3=b2++(List.range 25).map ldR1:=⟨_,rfl⟩
   have hl3:b3.length=79:=by rw [hb3];simp [hl2]
   rw [←hb3] at h2
   have hB:EmH S K r 98 [] b3 (0+36) []:=h2.re (by omega)
   refine z07 z1h (z9l 31 (by decide) hB) fun K201 h201=>?_
   refine z07 z0c (z0u 1002 (by decide) h201) fun K202 h202=>?_
   refine z07 z7u (Z0i 26 95 (by decide) (by decide) h202) fun K203 h203=>?_
   refine z07 zuk (zu8   h203) fun K204 h204=>?_
   have hE:EmH S K204 r 98 [] z74 0 []:=by
    have:=h204
    rw [hb3,hb2,hb1,hb0] at this
    simpa only [z74,zzw,List.append_assoc,List.cons_append,List.nil_append] using this
   obtain ⟨_,S',iv,hS,h7⟩:=hE
   have hr:=(h7.row (e:=131) (l:=z74) (v:=iv) (by simp))
   obtain ⟨b,c,hiv⟩:=hr.sl
   exact ⟨fun _=>by simp [Chk.holds,ev0,ev,evV,List.cons_append,List.nil_append,List.getD_cons_zero,List.getD_cons_succ,List.map_cons,List.map_nil,iOf,bOf,sOf,pOf,slLen,z04,cmpI,arI,Value.ite_bool,z03,z02,z00,z01],[iv],by rw [hiv];rfl,by simp only [ev0,ev,evV,List.cons_append,List.nil_append,List.getD_cons_zero,List.getD_cons_succ,List.map_cons,List.map_nil,iOf,bOf,sOf,pOf,slLen,z04,cmpI,arI,Value.ite_bool,z03,z02,z00,z01];exact z1p h7 (zms) 0 1,iv,rfl,hr.slR h7.sh,PH.le_trans hS h7.sh⟩
structure PrcX.Fit (p:PrcX):Prop where
 n:p.blocks.length≤20000000
 ins:∀b∈p.blocks,b.ins.length≤20000000
 regs:p.regl.length≤20000000
theorem Z38 {p:PrcX} (h:p.Fit):(readL p).length≤20000000:=by
 have:=zue p.regl []
 have:=h.regs
 unfold readL
 simp only [List.length_nil] at *
 omega
noncomputable def inL (p:PrcX):List (List Int):=(List.range p.blocks.length).map fun i=>liveL p i 0
theorem Z84 (p:PrcX):(inL p).length=p.blocks.length:=by simp [inL]
noncomputable def behL (p:PrcX) (i:Nat) (b:BlkX):List (List Int):=(List.range b.ins.length).map fun k=>liveL p i (k+1)
noncomputable def z83 (p:PrcX) (block:Int):List (List Int):=match (if block < 0 then none else p.blocks[block.toNat]?) with
 | some b=>behL p block.toNat b
 | none=>[]
def BlkX.crosses (b:BlkX) (n:Nat):Prop:=b.e.calls=true∧0≤b.e.next∧b.e.next < (n:Int)
instance (b:BlkX) (n:Nat):Decidable (b.crosses n):=by unfold BlkX.crosses;exact inferInstance
noncomputable def z2b (p:PrcX) (block:Int):List Int:=match (if block < 0 then none else p.blocks[block.toNat]?) with
 | some b=>if b.crosses p.blocks.length then (liveL p b.e.next.toNat 0).filter (fun x=>decide (x≠b.e.to)) else []
 | none=>[]
theorem zwa {p:PrcX} {block:Int} (h:block < 0∨(p.blocks.length:Int)≤block):z2b p block=[]:=by
 unfold z2b
 by_cases h0:block < 0
 ·rw [if_pos h0]
 ·rw [if_neg h0,List.getElem?_eq_none (by omega)]
theorem Z26 {p:PrcX} {i:Nat} {b:BlkX} (hb:p.blocks[i]?=some b):z2b p (i:Int)=if b.crosses p.blocks.length then (liveL p b.e.next.toNat 0).filter (fun x=>decide (x≠b.e.to)) else []:=by
 unfold z2b
 rw [if_neg (by omega),Int.toNat_natCast,hb]
theorem z49 {α:Type} [Enc α] (S:PH):SlR S ([]:List α) (.slice none 0 0):=SlR.mk_iff.2 ⟨Nat.zero_le _,.inl ⟨rfl,rfl⟩⟩
theorem zl3 {p:PrcX} (h:p.Fit) (i a:Nat):(liveL p i a).length≤20000000:=Nat.le_trans (List.length_filter_le _ _) (Z38 h)
section
variable {P:Program} {D:Prot} {H0:PH} {w0:World} {X:List PanicEntry→PH→Prop}
theorem Z6k {m:Nat} {o:Oper} {a:Act} {w:World} {K K':Act→World→Prop} {Q Q':Exit→Act→World→Prop} (hK:∀a w,K a w→K' a w) (hP:∀ch a w,Q (.panic ch) a w→Q' (.panic ch) a w) (hO:¬LetsOut Q) (h:o.wp P a w K Q):o.wpIn Fence.wide m P a w K' Q':=by
 refine ⟨fun _ _=>trivial,?_⟩
 show o.uponIn _ _ _ _ _ _ ((o.semAt none a.eval).run P w)
 rw [Oper.semAt_none]
 unfold Oper.wp at h
 generalize (execOp a.eval o).run P w=res at h ⊢
 cases res with
 | ok x w'=>
  cases x
  case enter f args=>
   refine ⟨fun h=>absurd h (by simp [Fence.wide]),callsIn_wide.2 (Calls.mono h fun e w'' he=>?_)⟩
   cases e with
   | returned v=>exact hK _ _ he
   | panicked ch=>exact hP _ _ _ he
   | outgrown=>exact absurd he hO
  case row rw args=>
   refine ⟨fun h=>absurd h (by simp [Fence.wide]),?_⟩
   intro c cs _
   obtain ⟨v,w1,r,s⟩:=h c cs
   exact ⟨v,w1,hK _ _ r,stepsIn_wide.2 s⟩
  all_goals first | exact hK _ _ h | exact h.elim
 | halt x w'=>cases x<;>first | exact hP _ _ _ h | exact h
theorem zn7 {m:Nat} {ops:Array Oper} {Q Q':Exit→Act→World→Prop} {post:List Oper} (hO:¬LetsOut Q) (hN:∀a w,Q .normal a w→wpListIn Fence.wide m P ops Q' post a w) (hP:∀ch a w,Q (.panic ch) a w→Q' (.panic ch) a w) :
  ∀(os:List Oper) (a:Act) (w:World),wpList P ops Q os a w→wpListIn Fence.wide m P ops Q' (os++post) a w
 | [],a,w,h=>hN a w h
 | o::os,a,w,h=>by
  rw [List.cons_append]
  unfold wpList at h
  unfold wpListIn
  split at h
  ·rename_i hw
   rw [if_pos hw]
   rcases h with h | h
   ·exact Z6k (fun a w h=>zn7 hO hN hP os a w h) hP hO h
   ·exact absurd h.2 hO
  ·rename_i hw
   rw [if_neg hw]
   exact ⟨fun _ _=>trivial,zn7 hO hN hP os _ w h⟩
theorem Z1s {m:Nat} {id:Nat} {ops:Array Oper} {pre post:List Oper} {st:St} {E:List Value} {r:Nat→Nat} {H:PH} {a:Act} {w:World} {L:LK} {K:St→List Value→PH→LK→Prop} {Q:Exit→Act→World→Prop} (hs:ops.toList=pre++post) (hm:∀o∈pre,D.may o)
  (hR:Rel D H0 w0 st E r H a w) (hden:den P X (z48 P [] ops 400 pre st) E H L K) (hK:∀st' F r' H' a' w',Rel D H0 w0 st' (E++F) r' H' a' w'→K st' (E++F) H' L→wpListIn Fence.wide m P ops Q post a' w')
  (hX:∀ch a' w',PanOf H0 w0 X ch w'→D.ok a'→Q (.panic ch) a' w'):(Code.region id ops false).wpIn Fence.wide m P Q a w:=by
 refine wpIn_region_list ?_
 rw [hs]
 refine zn7 (Q:=QX D H0 w0 X fun a w=>wpListIn Fence.wide m P ops Q post a w) zn8 (fun a w h=>h) (fun ch a w h=>hX ch a w h.1 h.2) pre a w ?_
 exact zjb 400 pre hm st E r H a w _ hR hden (fun st' F r' H' a' w' _ h2 h3=>hK st' F r' H' a' w' h2 h3) fun ch a' w' h1 h2=>⟨h1,h2⟩
theorem znv {m:Nat} {c:Code} {st:St} {E:List Value} {r:Nat→Nat} {H:PH} {a:Act} {w:World} {L:LK} {K:Ex×St→List Value→PH→LK→Prop} {Q:Exit→Act→World→Prop} (hm:∀o∈z43 c,D.may o)
  (hR:Rel D H0 w0 st E r H a w) (hden:den P X (execC P {} c st) E H L K)
  (hK:∀e st' F r' H' L' a' w',Rel D H0 w0 st' (E++F) r' H' a' w'→K (e,st') (E++F) H' L'→Q (exOf e) a' w') (hX:∀ch a' w',PanOf H0 w0 X ch w'→D.ok a'→Q (.panic ch) a' w'):c.wpIn Fence.wide m P Q a w:=
 z5s (ro:=none) (op:={}) rfl (fun _ g ps asg b=>zvu rfl g ps asg b) (zev P _) c hm m st E r H a w L K Q hR hden (fun e st' F r' H' L' a' w' h1 _ _ h4=>hK e st' F r' H' L' a' w' h1 h4) hX
end
def bkFr (e3:VE):List Ent:=[⟨[],.sc (.atom 0)⟩,⟨[],.sc (.atom 1)⟩,⟨[],.junk⟩,⟨[],e3⟩]++List.replicate 15 ⟨[],.junk⟩
def bkS0:St:={ fr:=bkFr .junk,bx:=[],nb:=0,nl:=0,tags:=[.any,.ptr],asu:=[],kn:=[],its:=[] }
def bkS1:St:={ fr:=bkFr (.sc (.atom 2)),bx:=[],nb:=0,nl:=0,tags:=[.any,.ptr,.int .i64],asu:=[],kn:=[],its:=[] }
def lastE:Fm (Ex×St)→St
 | .leaf x=>x.2
 | .load _ _ k=>lastE k
 | .chk _ _ k=>lastE k
 | _=>bkS0
def lastS:Fm St→St
 | .leaf x=>x
 | .load _ _ k=>lastS k
 | .chk _ _ k=>lastS k
 | _=>bkS0
noncomputable def bkB:Code×Code×Code×Nat×Array Oper:=match Tryz.f220.body with
 | some (.seq r0 (.block _ (.loop (.seq (.seq r1 _) (.seq (.block _ (.seq (.region i ops _) _)) r2)))))=>(r0,r1,r2,i,ops)
 | _=>(.skip,.skip,.skip,0,#[])
theorem Z8i:Tryz.f220.body=some (.seq bkB.1 (.block 0 (.loop (.seq (.seq bkB.2.1 (.cond (.tmp 8) .skip (.exit 0))) (.seq (.block 1 (.seq (.region bkB.2.2.2.1 bkB.2.2.2.2 false) (.cond (.tmp 18) .ret .skip))) bkB.2.2.1))))):=by kernel_rfl
abbrev Z7s:List Tag:=[.str,.int .i64,.sl,.int .i64,.int .i64,.str,.sl,.int .i64]
noncomputable def bkSA:St:=lastE (execC Tryz.prog {} bkB.1 bkS0)
noncomputable def bkSB:St:=lastE (execC Tryz.prog {} bkB.2.1 bkS1)
noncomputable def bkSC:St:=lastS (z48 Tryz.prog [] bkB.2.2.2.2 400 (bkB.2.2.2.2.toList.take 6) bkS1)
noncomputable def bkSD:St:=lastE (execC Tryz.prog {} bkB.2.2.1 bkS1)
theorem Z8z:execC Tryz.prog {} bkB.1 bkS0=.load (.atom 1) [.sl] (.leaf (.normal,bkSA)):=by kernel_rfl
theorem Z7y:execC Tryz.prog {} bkB.2.1 bkS1=.leaf (.normal,bkSB):=by kernel_rfl
theorem Z8r:z48 Tryz.prog [] bkB.2.2.2.2 400 (bkB.2.2.2.2.toList.take 6) bkS1=.load (.atom 1) [.sl] (.chk [] (.inSl (.atom 3) (.atom 2)) (.load (.elt (.atom 3) (.atom 2) 8) Z7s (.leaf bkSC))):=by kernel_rfl
theorem Z91:execC Tryz.prog {} bkB.2.2.1 bkS1=.leaf (.normal,bkSD):=by kernel_rfl
theorem Z8x:bkSA.fr[0]?=some ⟨[],.sc (.atom 0)⟩∧bkSA.fr[1]?=some ⟨[],.sc (.atom 1)⟩∧bkSA.fr[3]?=some ⟨[],.sc (.ar .sub .i64 (.len (.atom 2)) (.int .i64 1))⟩∧bkSA.fr.length=19:=⟨by kernel_rfl,by kernel_rfl,by kernel_rfl,by kernel_rfl⟩
theorem Z93:bkSB.fr[0]?=some ⟨[],.sc (.atom 0)⟩∧bkSB.fr[1]?=some ⟨[],.sc (.atom 1)⟩∧bkSB.fr[3]?=some ⟨[],.sc (.atom 2)⟩∧bkSB.fr[8]?=some ⟨[],.sc (.cmp .geq (.atom 2) (.int .i64 0))⟩∧bkSB.fr.length=19:=⟨by kernel_rfl,by kernel_rfl,by kernel_rfl,by kernel_rfl,by kernel_rfl⟩
theorem Z8w:bkSC.fr[0]?=some ⟨[],.sc (.atom 0)⟩∧bkSC.fr[1]?=some ⟨[],.sc (.atom 1)⟩∧bkSC.fr[3]?=some ⟨[],.sc (.atom 2)⟩∧bkSC.fr[11]?=some ⟨[],.sc (.atom 0)⟩∧bkSC.fr[12]?=some ⟨[],.sc (.atom 2)⟩∧bkSC.fr[16]?=some ⟨[],.ag [.atom 4,.atom 5,.atom 6,.atom 7,.atom 8,.atom 9,.atom 10,.atom 11]⟩∧bkSC.fr.length=19:=⟨by kernel_rfl,by kernel_rfl,by kernel_rfl,by kernel_rfl,by kernel_rfl,by kernel_rfl,by kernel_rfl⟩
theorem Z99:bkSD.fr[0]?=some ⟨[],.sc (.atom 0)⟩∧bkSD.fr[1]?=some ⟨[],.sc (.atom 1)⟩∧bkSD.fr[3]?=some ⟨[],.sc (.ar .sub .i64 (.atom 2) (.int .i64 1))⟩∧bkSD.fr.length=19:=⟨by kernel_rfl,by kernel_rfl,by kernel_rfl,by kernel_rfl⟩
noncomputable def bkO7 : Oper := (bkB.2.2.2.2.toList.drop 6).headD { dst := none, op := .nilCheck (.tmp 0), type := 0, pos := "", after := #[], guard := none }
noncomputable def bkO8 : Oper := (bkB.2.2.2.2.toList.drop 7).headD { dst := none, op := .nilCheck (.tmp 0), type := 0, pos := "", after := #[], guard := none }
noncomputable def bkTs:Array TypeId:=match bkO7.op with
 | .call c=>c.argTypes
 | _=>#[]
theorem Z4j:bkB.2.2.2.2.toList=bkB.2.2.2.2.toList.take 6++[bkO7,bkO8]:=by kernel_rfl
theorem bkO7_op:bkO7.op=.call { callee:=.value (.tmp 11),args:=#[.tmp 12,.tmp 16],argTypes:=bkTs }∧bkO7.dst=some 17∧bkO7.guard=none:=⟨by kernel_rfl,by kernel_rfl,by kernel_rfl⟩
theorem bkO8_op:bkO8.dst=some 18∧bkO8.guard=none:=⟨by kernel_rfl,by kernel_rfl⟩
theorem zxp {a:Act} {d t:Nat} {v:Value} (h:t≠d):(a.put (some d) v).tmps.getD t undef=a.tmps.getD t undef:=by
 simp only [Act.put,Array.getD_eq_getD_getElem?,Array.getElem?_setIfInBounds,if_neg (Ne.symm h)]
theorem zw1 {a:Act} {d:Nat} {v:Value} (h:d < a.tmps.size):(a.put (some d) v).tmps.getD d undef=v:=by
 simp [Act.put,Array.getD_eq_getD_getElem?,h]
theorem z7p {a:Act} {t:Nat}:a.eval (.tmp t)=a.tmps.getD t undef:=rfl
theorem zln {e3:VE} {t:Nat} {e:Ent} (he:(bkFr e3)[t]?=some e) (hj:e.v=.junk→False):(t=0∧e=⟨[],.sc (.atom 0)⟩)∨(t=1∧e=⟨[],.sc (.atom 1)⟩)∨(t=3∧e=⟨[],e3⟩):=by
 unfold bkFr at he
 rcases t with _ | _ | _ | _ | t
 ·simp at he;exact .inl ⟨rfl,he.symm⟩
 ·simp at he;exact .inr (.inl ⟨rfl,he.symm⟩)
 ·simp at he;rw [←he] at hj;exact absurd rfl (fun h=>hj h)
 ·simp at he;exact .inr (.inr ⟨rfl,he.symm⟩)
 ·simp only [List.cons_append,List.nil_append,List.getElem?_cons_succ,List.getElem?_replicate] at he
  split at he
  ·cases he;exact absurd rfl (fun h=>hj h)
  ·cases he
theorem Z80 {H:PH} {w:World} {a:Act} {y pv:Value} (hv:Vis H w) (hs:a.tmps.size=19) (hd:a.defers=[]) (h0:a.tmps.getD 0 undef=y) (h1:a.tmps.getD 1 undef=pv) (hy:Tag.any.ok y=true) (hp:Tag.ptr.ok pv=true):Rel (.plain []) H w bkS0 [y,pv] (fun _=>0) H a w:=by
 refine { adv:=.refl hv,tags:=by simp [bkS0,z0h,hy,hp],size:=hs,df:=hd,wk:=trivial,fr:=?_,bx:=fun _ h=>(by cases h),inj:=fun _ h=>(by cases h),nd:=List.nodup_nil,asu:=fun _ h=>(by cases h),kn:=fun _ h=>(by cases h) }
 intro t e he hj
 have hg:e.g=[]:=by rcases zln he hj with ⟨_,rfl⟩ | ⟨_,rfl⟩ | ⟨_,rfl⟩<;>rfl
 rw [hg]
 refine ⟨fun _=>?_,fun h=>absurd (fun x hx=>by cases hx) h⟩
 rcases zln he hj with ⟨rfl,rfl⟩ | ⟨rfl,rfl⟩ | ⟨rfl,rfl⟩
 ·rw [h0];rfl
 ·rw [h1];rfl
 ·exact absurd rfl (fun h=>hj h)
theorem zrv {H:PH} {w:World} {a:Act} {y pv:Value} {i:Int} (hv:Vis H w) (hs:a.tmps.size=19) (hd:a.defers=[]) (h0:a.tmps.getD 0 undef=y) (h1:a.tmps.getD 1 undef=pv) (h3:a.tmps.getD 3 undef=.int .i64 i) (hy:Tag.any.ok y=true) (hp:Tag.ptr.ok pv=true):Rel (.plain []) H w bkS1 [y,pv,.int .i64 i] (fun _=>0) H a w:=by
 refine { adv:=.refl hv,tags:=?_,size:=hs,df:=hd,wk:=trivial,fr:=?_,bx:=fun _ h=>(by cases h),inj:=fun _ h=>(by cases h),nd:=List.nodup_nil,asu:=fun _ h=>(by cases h),kn:=fun _ h=>(by cases h) }
 ·show (Tag.any.ok y && (Tag.ptr.ok pv && ((Tag.int .i64).ok (.int .i64 i) && true)))=true
  rw [hy,hp];rfl
 intro t e he hj
 have hg:e.g=[]:=by rcases zln he hj with ⟨_,rfl⟩ | ⟨_,rfl⟩ | ⟨_,rfl⟩<;>rfl
 rw [hg]
 refine ⟨fun _=>?_,fun h=>absurd (fun x hx=>by cases hx) h⟩
 rcases zln he hj with ⟨rfl,rfl⟩ | ⟨rfl,rfl⟩ | ⟨rfl,rfl⟩
 ·rw [h0];rfl
 ·rw [h1];rfl
 ·rw [h3];rfl
theorem z2y {D:Prot} {H0:PH} {w0:World} {st:St} {E:List Value} {r:Nat→Nat} {H:PH} {a:Act} {w:World} (hR:Rel D H0 w0 st E r H a w) {t:Nat} {ve:VE} (he:st.fr[t]?=some ⟨[],ve⟩) (hj:ve=.junk→False):a.tmps.getD t undef=evV E r ve:=
 (hR.fr t _ he hj).1 fun x hx=>by cases hx
noncomputable def bkT8:TypeId:=match bkO8.op with
 | .unOp _ t _=>t
 | _=>0
theorem Z63:bkO8.op=.unOp .not bkT8 (.tmp 17):=by kernel_rfl
theorem Z5w {ρ:Operand→Value} {w:World} (h:ρ (.tmp 17)=.bool true):(execOp ρ bkO8).run Tryz.prog w=.ok (.value (.bool false)) w:=by
 rw [zk6,Z63]
 simp [execOp,bare,h,Op.unary,Sem.run_bind,Result.andThen]
theorem Z5p {ρ:Operand→Value} {w:World} {l:Nat} {x y:Value} {fn:FuncId} {tmps:Array Value} {asg body:Code} (h11:ρ (.tmp 11)=.func (.yield l) #[] #[]) (h12:ρ (.tmp 12)=x) (h16:ρ (.tmp 16)=y) (hy:(Instr.yield l #[x,y]).run Tryz.prog w=.ok (.round l fn tmps asg body) w) :
  (execOp ρ bkO7).run Tryz.prog w=.ok (.round l fn tmps asg body) w:=by
 rw [zk6,bkO7_op.1]
 simp [execOp,bare,resolve,h11,h12,h16,invoke,go_sem,hy]
theorem SlR.fn {α:Type} [Enc α] {H:PH} {l:List α} {v:Value} (h:SlR H l v):∃f:Nat→List Value,∀i a,l[i]?=some a→CsR H a (f i)∧rowAt H (pOf (eltV v (i:Int) (sz α))) (f i):=by
 have:∀i:Nat,∃cs:List Value,∀a,l[i]?=some a→CsR H a cs∧rowAt H (pOf (eltV v (i:Int) (sz α))) cs:=by
  intro i
  cases hi:l[i]? with
  | none=>exact ⟨[],fun a h=>by cases h⟩
  | some a=>
   obtain ⟨_,_,cs,h1,h2⟩:=h.get hi
   exact ⟨cs,fun a' h'=>by cases h';exact ⟨h1,h2⟩⟩
 exact ⟨fun i=>(this i).choose,fun i=>(this i).choose_spec⟩
set_option maxHeartbeats 2000000 in
theorem zjo (l:List InsX) (S:PH) (ad:Option Addr) (sv:Value) (hp:rowAt S ad [sv]) (hs:SlR S l sv) (hl:l.length≤40000000) (cells:Nat→List Value) (hc:∀i a,l[i]?=some a→CsR S a (cells i)∧rowAt S (pOf (eltV sv (i:Int) 8)) (cells i)) :
  Iter Tryz.prog (.func (.func 220) #[] #[.pointer ad]) S l.length (fun j=>[.int .i64 ((l.length - 1 - j:Nat):Int),.agg (cells (l.length - 1 - j)).toArray]):=by
 have hcb:callB Tryz.prog 220=true:=by kernel_rfl
 obtain ⟨sb,sc,rfl⟩:=hs.sl
 refine ⟨_,_,rfl,zew hcb,fun lr I H W hSH hmono hv hround h0=>(callsIn_wide (n:=0)).1 ?_⟩
 refine callsIn_of_wp Tryz.func220 Z8i trivial ?_
 have hnt:Tryz.f220.ntmps=19:=by kernel_rfl
 rw [hnt]
 obtain ⟨y,hy⟩:∃y,y=Value.func (.yield lr) #[] #[]:=⟨_,rfl⟩
 rw [←hy]
 have hyt:Tag.any.ok y=true:=by rw [hy];rfl
 refine wpIn_seq ?_
 refine znv (D:=.plain []) (X:=fun _ _=>False) (L:=[]) (K:=fun x E' H' _=>x=(.normal,bkSA)∧H'=H∧E'=[y,.pointer ad,.slice sb l.length sc]) (fun o _=>Prot.plain_may [] o) (Z80 (pv:=.pointer ad) hv (by simp) rfl (by simp) (by simp) hyt rfl) ?_ ?_ (fun ch a' w' h=>by obtain ⟨_,_,h⟩:=h;exact h.elim)
 ·rw [Z8z]
  exact ⟨[_],rfl,z18 hSH hp,rfl,rfl,rfl⟩
 rintro e st' F r' H' L' a1 W1 hR1 ⟨h1,rfl,hE⟩
 cases h1
 obtain ⟨f0,f1,f3,f4⟩:=Z8x
 have t0:=z2y hR1 f0 (fun h=>by cases h)
 have t1:=z2y hR1 f1 (fun h=>by cases h)
 have t3:=z2y hR1 f3 (fun h=>by cases h)
 have hsz:=hR1.size
 rw [hE] at t0 t1 t3
 rw [f4] at hsz
 have hadv1:Adv H' W H' W1:=hR1.adv
 have hdf1:a1.defers=[]:=hR1.df
 show (Code.block 0 _).wpIn _ _ _ _ _ _
 refine wpIn_block ?_
 refine wpIn_loop (fun a w=>∃(j:Nat) (Hj:PH),j≤l.length∧a.tmps.size=19∧a.defers=[]∧a.tmps.getD 0 undef=y∧a.tmps.getD 1 undef=.pointer ad∧a.tmps.getD 3 undef=.int .i64 ((l.length:Int) - 1 - j)∧Adv H' W Hj w∧I j Hj) (fun a _=>match a.tmps.getD 3 undef with | .int _ n=>(n+1).toNat | _=>0) ?_ ?_
 ·refine ⟨0,H',Nat.zero_le _,hsz,hdf1,t0,t1,?_,hadv1,h0⟩
  rw [t3]
  simp only [evs,evb]
  rw [w64 (by omega) (by omega)]
  simp
 rintro a w ⟨j,Hj,hj,q1,q2,q3,q4,q5,q6,q7⟩
 have hSj:=hmono j Hj q7
 have hRa:=zrv q6.vis q1 q2 q3 q4 q5 hyt rfl
 refine wpIn_seq (wpIn_seq ?_)
 refine znv (D:=.plain []) (X:=fun _ _=>False) (L:=[]) (K:=fun x E' H' _=>x=(.normal,bkSB)∧H'=Hj∧E'=[y,.pointer ad,.int .i64 ((l.length:Int) - 1 - j)]) (fun o _=>Prot.plain_may [] o) hRa ?_ ?_ (fun ch a' w' h=>by obtain ⟨_,_,h⟩:=h;exact h.elim)
 ·rw [Z7y];exact ⟨rfl,rfl,rfl⟩
 rintro e st' F r2 H2 L2 a2 w2 hR2 ⟨h1,rfl,hE2⟩
 cases h1
 obtain ⟨f0,f1,f3,f8,f4⟩:=Z93
 have u0:=z2y hR2 f0 (fun h=>by cases h)
 have u1:=z2y hR2 f1 (fun h=>by cases h)
 have u3:=z2y hR2 f3 (fun h=>by cases h)
 have u8:=z2y hR2 f8 (fun h=>by cases h)
 have hsz2:=hR2.size
 rw [hE2] at u0 u1 u3 u8
 rw [f4] at hsz2
 have hadv2:Adv H' W H2 w2:=q6.trans hR2.adv
 have hdf2:a2.defers=[]:=hR2.df
 have hc8:a2.eval (.tmp 8)=.bool (decide ((l.length:Int) - 1 - j ≥ 0)):=by
  rw [z7p,u8]
  simp only [evs,evb]
 show (Code.cond _ _ _).wpIn _ _ _ _ _ _
 by_cases hjl:j < l.length
 ·have hc8':a2.eval (.tmp 8)=.bool true:=by rw [hc8,decide_eq_true (by omega)]
  refine wpIn_cond_true hc8' (wpIn_skip ?_)
  show (Code.seq _ _).wpIn _ _ _ _ _ _
  obtain ⟨idx,hidx⟩:∃idx:Nat,idx=l.length - 1 - j:=⟨_,rfl⟩
  have hi3:((l.length:Int) - 1 - j)=(idx:Int):=by omega
  have hil:idx < l.length:=by omega
  obtain ⟨x,hx⟩:∃x,l[idx]?=some x:=⟨_,zge hil⟩
  obtain ⟨hcr,hcrow⟩:=hc idx x hx
  obtain ⟨z1,_⟩:=hs.get hx
  obtain ⟨av,dv,hcell,y1,y2,ya,y4,y5,y6,yd,y8⟩:=ins_iff.1 hcr
  obtain ⟨ab,ac,rfl⟩:=ya.sl
  obtain ⟨db,dc,rfl⟩:=yd.sl
  have hR2':=zrv (i:=(idx:Int)) hadv2.vis hsz2 hdf2 u0 u1 (by rw [u3];simp only [evs,evb];rw [hi3]) hyt (rfl:Tag.ptr.ok (.pointer ad)=true)
  refine wpIn_seq (wpIn_block (wpIn_seq ?_))
  refine Z1s (D:=.plain []) (X:=fun _ _=>False) (L:=[]) (K:=fun st E' H' _=>st=bkSC∧H'=H2∧E'=[y,.pointer ad,.int .i64 (idx:Int),.slice sb l.length sc]++cells idx) Z4j (fun o _=>Prot.plain_may [] o) hR2' ?_ ?_ (fun ch a' w' h=>by obtain ⟨_,_,h⟩:=h;exact h.elim)
  ·rw [Z8r]
   refine ⟨[_],rfl,z18 hSj hp,fun _=>?_,cells idx,by rw [hcell];rfl,?_,rfl,rfl,rfl⟩
   ·simp only [Chk.holds,evs,evb];exact ⟨z1,by omega,by omega⟩
   ·simp only [evs,evb];exact z18 hSj hcrow
  rintro st' F3 r3 H3 a3 w3 hR3 ⟨rfl,rfl,hE3⟩
  obtain ⟨g0,g1,g3,g11,g12,g16,g4⟩:=Z8w
  have s0:=z2y hR3 g0 (fun h=>by cases h)
  have s1:=z2y hR3 g1 (fun h=>by cases h)
  have s3:=z2y hR3 g3 (fun h=>by cases h)
  have s11:=z2y hR3 g11 (fun h=>by cases h)
  have s12:=z2y hR3 g12 (fun h=>by cases h)
  have s16:=z2y hR3 g16 (fun h=>by cases h)
  have hsz3:=hR3.size
  rw [hE3] at s0 s1 s3 s11 s12 s16
  rw [g4] at hsz3
  have hadv3:Adv H' W H3 w3:=hadv2.trans hR3.adv
  have hdf3:a3.defers=[]:=hR3.df
  have e16:a3.eval (.tmp 16)=.agg (cells idx).toArray:=by
   rw [z7p,s16,hcell];rfl
  refine wpListIn_plain bkO7_op.2.2 fun K hK=>?_
  refine ⟨fun _ _=>trivial,?_⟩
  show Oper.uponIn _ _ _ _ _ _ _ ((bkO7.semAt none a3.eval).run _ w3)
  obtain ⟨fn,tmps,asg,body,hyl,hrd⟩:=hround j H3 w3 hjl q7 hadv3 0
  have hyl:(Instr.yield lr #[.int .i64 (idx:Int),.agg (cells idx).toArray]).run Tryz.prog w3=.ok (.round lr fn tmps asg body) w3:=by rw [hidx];exact hyl
  rw [Oper.semAt_none,Z5p (l:=lr) (x:=.int .i64 (idx:Int)) (y:=.agg (cells idx).toArray) (by rw [z7p,s11,←hy];rfl) (by rw [z7p,s12];rfl) e16 hyl]
  refine ⟨fun h=>absurd h (by simp [Fence.wide]),?_⟩
  refine RoundIn.mono (show RoundIn Fence.wide _ _ _ _ _ _ _ _ _ from hrd) ?_
  rintro e W4 ⟨rfl,H4,hadv4,hI4⟩
  refine hK _ _ ?_
  rw [bkO7_op.2.1]
  have hsz17:17 < a3.tmps.size:=by rw [hsz3];decide
  refine wpListIn_plain bkO8_op.2 fun K2 hK2=>?_
  refine ⟨fun _ _=>trivial,?_⟩
  show Oper.uponIn _ _ _ _ _ _ _ ((bkO8.semAt none _).run _ W4)
  rw [Oper.semAt_none,Z5w (by rw [z7p];exact zw1 hsz17)]
  show K2 _ W4
  refine hK2 _ _ ?_
  rw [bkO8_op.1]
  obtain ⟨a5,ha5⟩:∃a5,a5=(a3.put (some 17) (.bool true)).put (some 18) (.bool false):=⟨_,rfl⟩
  have hsz4:(a3.put (some 17) (.bool true)).tmps.size=19:=by simp [Act.put,hsz3]
  have hsz5:a5.tmps.size=19:=by rw [ha5];simp [Act.put,hsz3]
  have hg5:∀t,t≠17→t≠18→a5.tmps.getD t undef=a3.tmps.getD t undef:=fun t h1 h2=>by rw [ha5,zxp h2,zxp h1]
  have h18:a5.eval (.tmp 18)=.bool false:=by rw [z7p,ha5];exact zw1 (by rw [hsz4];decide)
  rw [←ha5]
  show (Code.cond _ _ _).wpIn _ _ _ _ _ _
  refine wpIn_cond_false h18 (wpIn_skip ?_)
  show Code.wpIn _ _ _ bkB.2.2.1 _ _ _
  have hdf5:a5.defers=[]:=by rw [ha5];exact hdf3
  have hR5:=zrv (i:=(idx:Int)) hadv4.vis hsz5 hdf5 ((hg5 0 (by decide) (by decide)).trans s0) ((hg5 1 (by decide) (by decide)).trans s1) ((hg5 3 (by decide) (by decide)).trans s3) hyt (rfl:Tag.ptr.ok (.pointer ad)=true)
  refine znv (D:=.plain []) (X:=fun _ _=>False) (L:=[]) (K:=fun x E' H' _=>x=(.normal,bkSD)∧H'=H4∧E'=[y,.pointer ad,.int .i64 (idx:Int)]) (fun o _=>Prot.plain_may [] o) hR5 ?_ ?_ (fun ch a' w' h=>by obtain ⟨_,_,h⟩:=h;exact h.elim)
  ·rw [Z91];exact ⟨rfl,rfl,rfl⟩
  rintro e st' F6 r6 H6 L6 a6 w6 hR6 ⟨h1,rfl,hE6⟩
  cases h1
  obtain ⟨m0,m1,m3,m4⟩:=Z99
  have v0:=z2y hR6 m0 (fun h=>by cases h)
  have v1:=z2y hR6 m1 (fun h=>by cases h)
  have v3:=z2y hR6 m3 (fun h=>by cases h)
  have hsz6:=hR6.size
  rw [hE6] at v0 v1 v3
  rw [m4] at hsz6
  have hv3:a6.tmps.getD 3 undef=.int .i64 ((l.length:Int) - 1 - (j+1:Nat)):=by
   rw [v3]
   simp only [evs,evb]
   rw [w64 (by omega) (by omega)]
   congr 1;omega
  refine ⟨⟨j+1,H6,by omega,hsz6,hR6.df,v0,v1,hv3,(hadv3.trans hadv4).trans hR6.adv,hI4⟩,?_⟩
  rw [hv3,q5]
  simp only []
  omega
 ·have hc8':a2.eval (.tmp 8)=.bool false:=by rw [hc8,decide_eq_false (by omega)]
  refine wpIn_cond_false hc8' (wpIn_exit ?_)
  have hjn:j=l.length:=by omega
  simp only [Exit.then,Exit.inBlock,↓reduceIte]
  refine ⟨hdf2,.tuple #[],?_,⟨_,rfl⟩,H2,hadv2,hjn ▸ q7⟩
  have hres:Tryz.f220.results=#[]:=by kernel_rfl
  simp [results,hres]
abbrev encS (s:List Int):List (Int×Value):=s.map fun k=>(k,.int .i64 1)
abbrev SetAt (es:Array MapEntry) (clock:Nat) (s:List Int):Prop:=EntsR (α:=Int) es.toList clock (encS s)
theorem SetAt.nodup {es:Array MapEntry} {clock:Nat} {s:List Int} (h:SetAt es clock s):s.Nodup:=by
 have:=h.keys
 rw [List.map_map] at this
 have e:((fun x:Int×Value=>x.1) ∘ fun k:Int=>(k,(Value.int .i64 1)))=id:=rfl
 rw [e,List.map_id] at this
 exact this
theorem Z5n (s:List Int) (k:Int):(getM (encS s) k).isSome=decide (k∈s):=by
 unfold getM encS
 rw [Option.isSome_map]
 by_cases h:k∈s
 ·rw [decide_eq_true h]
  refine List.find?_isSome.2 ⟨(k,.int .i64 1),List.mem_map.2 ⟨k,h,rfl⟩,by simp⟩
 ·rw [decide_eq_false h,Option.isSome_eq_false_iff,Option.isNone_iff_eq_none,List.find?_eq_none]
  intro x hx
  obtain ⟨y,hy,rfl⟩:=List.mem_map.1 hx
  simp only [zdt]
  exact fun e=>h (e ▸ hy)
def addS (s:List Int) (k:Int):List Int:=if k∈s then s else s++[k]
theorem zir (s:List Int) (k:Int):putM (encS s) k (.int .i64 1)=encS (addS s k):=by
 unfold putM addS
 rw [Z5n]
 by_cases h:k∈s
 ·rw [if_pos (by rw [decide_eq_true h]),if_pos h]
  unfold encS
  rw [List.map_map]
  refine List.map_congr_left fun x _=>?_
  by_cases e:x=k<;>simp [e]
 ·rw [if_neg (by rw [decide_eq_false h];exact Bool.false_ne_true),if_neg h]
  simp [encS]
theorem zi5 (s:List Int) (k y:Int):y∈addS s k↔y∈s∨y=k:=by
 unfold addS
 split
 ·rename_i h;exact ⟨.inl,fun hy=>hy.elim id fun e=>e ▸ h⟩
 ·simp
theorem Z6g (s:List Int) (k:Int):delM (encS s) k=encS (s.filter fun y=>decide (y≠k)):=by
 unfold delM encS
 rw [List.filter_map];rfl
theorem zes:SetAt (#[]:Array MapEntry) 0 []:=EntsR.empty
theorem uSetK:Tryz.prog.underlying 216=some (.map 3 3):=by kernel_rfl
theorem kIntK:Tryz.prog.underlying 3=some (Key.kd Int):=by kernel_rfl
theorem SetAt.entry {es:Array MapEntry} {clock:Nat} {s:List Int} (h:SetAt es clock s) {e:MapEntry} (he:e∈es.toList):∃k∈s,e.key=.int .i64 k∧e.val=.int .i64 1:=by
 have h1:(e.key,e.val)∈es.toList.map (fun e=>(e.key,e.val)):=List.mem_map.2 ⟨e,he,rfl⟩
 rw [h.ents] at h1
 obtain ⟨x,hx,hxe⟩:=List.mem_map.1 h1
 obtain ⟨k,hk,rfl⟩:=List.mem_map.1 hx
 simp only [Prod.mk.injEq] at hxe
 exact ⟨k,hk,hxe.1.symm,hxe.2.symm⟩
theorem SetAt.has {es:Array MapEntry} {clock:Nat} {s:List Int} (h:SetAt es clock s) {k:Int} (hk:k∈s):∃e∈es.toList,e.key=.int .i64 k:=by
 have h1:((.int .i64 k:Value),(.int .i64 1:Value))∈(encS s).map fun x=>(Key.kv x.1,x.2):=List.mem_map.2 ⟨(k,.int .i64 1),List.mem_map.2 ⟨k,hk,rfl⟩,rfl⟩
 rw [←h.ents] at h1
 obtain ⟨e,he,hee⟩:=List.mem_map.1 h1
 simp only [Prod.mk.injEq] at hee
 exact ⟨e,he,hee.1⟩
theorem zq9 (r:Nat) (es:Array MapEntry) (clock:Nat) (s l:List Int) (lv:Value) (S K:PH) (hl:SlR S l lv) (h:Held S K [.blk r (.map es clock)]) (hs:SetAt es clock s) :
  Tri Tryz.prog z8f #[.map (some r),lv] K fun x K'=>∃es' clock' s',x=.returned (.tuple #[])∧Held S K' [.blk r (.map es' clock')]∧SetAt es' clock' s'∧∀y,y∈s'↔y∈s∨y∈l:=by
 obtain ⟨b,c,rfl⟩:=hl.sl
 have hm:=hl.max
 simp only [maxLen] at hm
 refine zfi [.map (some r),.slice b l.length c] (by kernel_rfl) (by kernel_rfl) ?_
 refine ⟨fun n vs K'=>∃(k:Nat) (es':Array MapEntry) (clock':Nat) (s':List Int),vs=[nI k]∧k+n=l.length∧Held S K' [.blk r (.map es' clock')]∧SetAt es' clock' s'∧∀y,y∈s'↔y∈s∨y∈l.take k,⟨l.length,0,es,clock,s,rfl,by omega,h,hs,fun y=>by simp⟩,?_⟩
 rintro n vs K1 _ ⟨k,es1,clock1,s1,rfl,hkn,h1,hs1,hm1⟩
 refine ⟨fun g=>?_,fun g=>?_⟩
 ·simp only [evs,evb,zdt] at g
  obtain ⟨a,ha⟩:∃a,l[k]?=some a:=⟨_,zge (show k < l.length by omega)⟩
  obtain ⟨q1,_,ces,q2,q3⟩:=(hl.le h1.sh).get ha
  obtain ⟨rfl,hai⟩:=csIK q2
  refine ⟨fun _=>?_,[.int .i64 a],rfl,?_,?_⟩
  ·simp only [Chk.holds,evs,evb];exact ⟨q1,by omega,by omega⟩
  ·simp only [evs,evb];exact q3
  refine z4q (α:=Int) (m:=encS s1) (r:=r) (es:=es1) (clock:=clock1) a (.int .i64 1) uSetK kIntK (by kernel_rfl) (by kernel_rfl) (by kernel_rfl) (h1.blk (zms)) hs1 fun es2 clock2 he2=>?_
  rw [zir] at he2
  refine ⟨_,z05,n - 1,by omega,k+1,es2,clock2,addS s1 a,?_,by omega,h1.put _,he2,fun y=>?_⟩
  ·simp only [evs,evb];rw [w64 (by omega) (by omega)];rfl
  ·rw [zi5,hm1,List.take_add_one,ha]
   simp only [Option.toList_some,List.mem_append,List.mem_singleton,or_assoc]
 ·simp only [evs,evb,zdf] at g
  rw [List.take_of_length_le (by omega)] at hm1
  exact ⟨es1,clock1,s1,rfl,h1,hs1,hm1⟩
theorem zfe (r:Nat) (es:Array MapEntry) (clock:Nat) (s:List Int) (a:Int) (S K:PH) (h:Held S K [.blk r (.map es clock)]) (hs:SetAt es clock s) :
  Tri Tryz.prog z86 #[.map (some r),.int .i64 a] K fun x K'=>∃es' clock',x=.returned (.tuple #[])∧Held S K' [.blk r (.map es' clock')]∧SetAt es' clock' (s.filter fun y=>decide (y≠a)):=by
 refine zdq [.map (some r),.int .i64 a] (by kernel_rfl) (by kernel_rfl) ?_
 refine Z25 (α:=Int) (m:=encS s) (r:=r) (es:=es) (clock:=clock) a rfl uSetK kIntK (by kernel_rfl) (by kernel_rfl) (h.blk (zms)) hs fun es2 clock2 he2=>?_
 rw [Z6g] at he2
 exact ⟨es2,clock2,rfl,h.put _,he2⟩
def SetR (H:PH) (v:Value) (s:List Int):Prop:=∃r es clock,v=.map (some r)∧H r=some (.map es clock)∧SetAt es clock s
theorem SetR.le {H H':PH} {v:Value} {s:List Int} (h:SetR H v s) (hl:PH.le H H'):SetR H' v s:=by
 obtain ⟨r,es,clock,h1,h2,h3⟩:=h
 exact ⟨r,es,clock,h1,hl _ _ h2,h3⟩
set_option maxHeartbeats 1000000 in
theorem zyj (r:Nat) (es:Array MapEntry) (clock:Nat) (s t:List Int) (tv:Value) (S K:PH) (ht:SetR S tv t) (h:Held S K [.blk r (.map es clock)]) (hs:SetAt es clock s) :
  Tri Tryz.prog z7z #[.map (some r),tv] K fun x K'=>∃es' clock' s',x=.returned (.tuple #[])∧Held S K' [.blk r (.map es' clock')]∧SetAt es' clock' s'∧∀y,y∈s'↔y∈s∨y∈t:=by
 obtain ⟨rt,est,clt,rfl,hrt,hst⟩:=ht
 refine zdy [.map (some r),.map (some rt)] (by kernel_rfl) (by kernel_rfl) ?_
 refine zkg (r:=rt) (es:=est) (clock:=clt) uSetK (by kernel_rfl) (h.sh _ _ hrt) (fun _ _=>z06) fun i hi=>?_
 have h0:=h.new hi (.mapIter (some rt) clt #[] clt)
 have hl0:leftM est #[]=est.toList:=by unfold leftM;simp
 refine ⟨fun n vs K'=>∃(seen:Array Nat) (es':Array MapEntry) (clock':Nat) (s':List Int),vs=[]∧n=(leftM est seen).length∧Held S K' [.blk i (.mapIter (some rt) clt seen clt),.blk r (.map es' clock')]∧SetAt es' clock' s'∧∀y,y∈s'↔y∈s∨(y∈t∧∀e∈leftM est seen,e.key≠.int .i64 y),
  ⟨_,#[],es,clock,s,rfl,rfl,h0,hs,fun y=>?_⟩,?_⟩
 ·constructor
  ·exact .inl
  ·rintro (h | ⟨h1,h2⟩)
   ·exact h
   ·obtain ⟨e,he,hk⟩:=hst.has h1
    exact absurd hk (h2 e (by rw [hl0];exact he))
 rintro n vs K1 _ ⟨seen,es1,clock1,s1,rfl,rfl,h1,hs1,hm1⟩
 refine ⟨fun vs K'=>∃b:Bool,vs=[.bool b]∧((b=false∧leftM est seen=[]∧Held S K' [.blk i (.mapIter (some rt) clt seen clt),.blk r (.map es1 clock1)])∨(b=true∧∃e∈leftM est seen,Held S K' [.blk i (.mapIter (some rt) clt (seen.push e.born) clt),.blk r (.map es1 clock1)])),?_,?_⟩
 ·rintro vs K2 _ ⟨b,rfl,hcase⟩
  refine ⟨fun g=>?_,fun g=>?_⟩
  ·simp only [evs,evb] at g
   subst g
   rcases hcase with ⟨h,_⟩ | ⟨_,e,he,h2⟩
   ·cases h
   have hee:e∈est.toList:=(List.mem_filter.1 he).1
   obtain ⟨k,hk,hek,hev⟩:=hst.entry hee
   refine zl8 (i:=i) (r:=rt) (es:=est) (clock:=clt) (seen:=seen) (m:=encS t) (e:=e) (by kernel_rfl) (h2.blk (zms)) (h2.sh _ _ hrt) hst hee (by rw [hek,hev];exact ⟨rfl,rfl⟩) ?_
   rw [hek,hev]
   refine z4q (α:=Int) (m:=encS s1) (r:=r) (es:=es1) (clock:=clock1) k (.int .i64 1) uSetK kIntK (by kernel_rfl) (by kernel_rfl) (by kernel_rfl) (h2.blk (zmm _ (zms))) hs1 fun es2 clock2 he2=>?_
   rw [zir] at he2
   obtain ⟨p1,p2⟩:=zet hst he
   refine ⟨_,z05,_,p1,seen.push e.born,es2,clock2,addS s1 k,rfl,rfl,((h2.perm (List.Perm.swap _ _ _)).put _).perm (List.Perm.swap _ _ _),he2,fun y=>?_⟩
   rw [zi5,hm1]
   constructor
   ·rintro ((h | ⟨h3,h4⟩) | h)
    ·exact .inl h
    ·exact .inr ⟨h3,fun e' he'=>h4 e' ((p2 e').2 (.inr he'))⟩
    ·subst h
     refine .inr ⟨hk,fun e' he' hke=>?_⟩
     have he'l:e'∈leftM est seen:=(p2 e').2 (.inr he')
     have he'e:e'∈est.toList:=(List.mem_filter.1 he'l).1
     obtain ⟨a,ha⟩:=List.getElem?_of_mem he'e
     obtain ⟨b,hb⟩:=List.getElem?_of_mem hee
     have hkeys:(est.toList.map (·.key))=t.map fun k=>Value.int .i64 k:=by
      have:=congrArg (List.map Prod.fst) hst.ents
      simp only [List.map_map,Function.comp_def,encS] at this
      exact this
     have hta:t[a]?=some y:=by
      have:=congrArg (fun l=>l[a]?) hkeys
      simp only [List.getElem?_map,ha,Option.map_some,hke] at this
      cases hx:t[a]? with
      | none=>rw [hx] at this;cases this
      | some z=>rw [hx] at this;simp at this;rw [this]
     have htb:t[b]?=some y:=by
      have:=congrArg (fun l=>l[b]?) hkeys
      simp only [List.getElem?_map,hb,Option.map_some,hek] at this
      cases hx:t[b]? with
      | none=>rw [hx] at this;cases this
      | some z=>rw [hx] at this;simp at this;rw [this]
     have hab:=(List.getElem?_inj (List.getElem?_eq_some_iff.1 hta).1 hst.nodup).1 (hta.trans htb.symm)
     subst hab
     rw [ha] at hb;cases hb
     have hno:=(List.mem_filter.1 he').2
     simp at hno
   ·rintro (h | ⟨h3,h4⟩)
    ·exact .inl (.inl h)
    ·by_cases hyk:y=k
     ·exact .inr hyk
     ·refine .inl (.inr ⟨h3,fun e' he' hke=>?_⟩)
      rcases (p2 e').1 he' with rfl | h5
      ·rw [hek] at hke;cases hke;exact hyk rfl
      ·exact h4 e' h5 hke
  ·simp only [evs,evb] at g
   subst g
   rcases hcase with ⟨_,hnil,h2⟩ | ⟨h,_⟩
   ·refine ⟨es1,clock1,s1,rfl,h2.tail,hs1,fun y=>?_⟩
    rw [hm1,hnil]
    simp
   ·cases h
 ·refine zne (i:=i) (r:=rt) (es:=est) (clock:=clt) (seen:=seen) (m:=encS t) (by kernel_rfl) (h1.blk (zms)) (h1.sh _ _ hrt) hst (fun e he=>?_) (fun hnil=>?_) fun e he=>?_
  ·obtain ⟨k,hk,hek,hev⟩:=hst.entry he
   rw [hek,hev];exact ⟨rfl,rfl⟩
  ·exact ⟨_,z05,false,rfl,.inl ⟨rfl,hnil,h1⟩⟩
  ·exact ⟨_,z05,true,rfl,.inr ⟨rfl,e,he,h1.put _⟩⟩
theorem zvg {S:PH}:∀{l:List Int} {xs:List Value},PV.RepRow S (l.flatMap pv) xs→xs=l.map (Value.int .i64)∧∀x∈l,InI x
 | [],xs,h=>by simp only [List.flatMap_nil,PV.RepRow] at h;subst h;exact ⟨rfl,fun x hx=>by cases hx⟩
 | a::l,xs,h=>by
  have h':PV.RepRow S (.int .i64 a::l.flatMap pv) xs:=h
  rw [PV.RepRow] at h'
  obtain ⟨v,vs,rfl,h1,h2⟩:=h'
  obtain ⟨rfl,hi⟩:=repI_iff.1 h1
  obtain ⟨rfl,h3⟩:=zvg h2
  exact ⟨rfl,fun x hx=>(List.mem_cons.1 hx).elim (fun e=>e ▸ hi) (h3 x)⟩
theorem zf3 {S:PH}:∀{l:List Int},(∀x∈l,InI x)→PV.RepRow S (l.flatMap pv) (l.map (Value.int .i64))
 | [],_=>by simp [PV.RepRow]
 | a::l,h=>by
  show PV.RepRow S (.int .i64 a::l.flatMap pv) _
  rw [PV.RepRow]
  exact ⟨_,_,rfl,repI_iff.2 ⟨rfl,h a (zms)⟩,zf3 fun x hx=>h x (zmm _ hx)⟩
abbrev sortI (l:List Int):List Int:=l.mergeSort fun x y=>decide (x≤y)
theorem z7k (l:List Int) (x:Int):x∈sortI l↔x∈l:=List.mem_mergeSort
theorem z6r {l:List Int} (h:l.Nodup):(sortI l).Pairwise (· < ·):=by
 have h1:(sortI l).Pairwise fun x y=>decide (x≤y)=true:=List.pairwise_mergeSort (fun a b c h1 h2=>by simp at *;omega) (fun a b=>by simp;omega) l
 have h2:(sortI l).Nodup:=(List.mergeSort_perm l _).nodup_iff.2 h
 exact (h1.and h2).imp fun {a b} ⟨h3,h4⟩=>by simp at h3;omega
theorem Z74 {K:PH} {w:World} (hv:Vis K w) (os:Array Obj):Adv K w K (Sort.grow w os):=by
 refine ⟨by simp [Sort.grow],fun k o hk=>?_,fun k hk hn=>⟨?_,hn⟩,rfl,rfl,rfl⟩
 ·show (w.heap++os)[k]?=some o
  rw [Array.getElem?_append_left (hv.lt hk)];exact hv k o hk
 ·show (w.heap++os)[k]?=w.heap[k]?
  rw [Array.getElem?_append_left hk]
theorem zu4 {l:List Int} {cur:Array Value} (h:l.length≤cur.size):(Sort.putCells (Value.int .i64) 0 l.toArray cur).toList.take l.length=l.map (Value.int .i64):=by
 refine List.ext_getElem? fun i=>?_
 rw [List.getElem?_take,List.getElem?_map]
 by_cases hi:i < l.length
 ·rw [if_pos hi,Array.getElem?_toList]
  unfold Sort.putCells
  rw [Array.getElem?_mapIdx]
  have hc:i < cur.size:=by omega
  simp [hc,hi]
 ·rw [if_neg hi,List.getElem?_eq_none (by omega)];rfl
theorem Z1h (l:List Int) (v:Value) (S K:PH) (I:List Itm) (h:Held S K (orow 3 l v::I)) (hl:l.length≤40000000) :
  Tri Tryz.prog 207 #[v] K fun x K'=>x=.returned (.tuple #[])∧Held S K' (orow 3 (sortI l) v::I):=by
 intro w hv
 have hr:=h.row (zms)
 obtain ⟨xs,ho,hrow⟩:=hr.own
 obtain ⟨rfl,hin⟩:=zvg hrow
 rcases ho.2 with ⟨rfl,hn⟩ | ⟨g,cap,cur,rfl,hg,h2,h3,h4,h5⟩
 ·have:l=[]:=List.length_eq_zero_iff.1 hn
  subst this
  refine (Tryz.slices_Sort_int_none none 0 w).mono ?_
  rintro e w' ⟨rfl,rfl⟩
  exact ⟨K,.refl hv,rfl,by simpa [sortI] using h⟩
 ·have hsz:sz Int=1:=rfl
  rw [hsz,Nat.mul_one] at h4 h5
  have hw:=hv _ _ hg
  have hcur:∀j,j < l.length→cur[j]?=some (.int .i64 (l[j]!)):=fun j hj=>by
   have:=congrArg (fun x=>x[j]?) h5
   simp only [List.getElem?_take,if_pos hj,List.getElem?_map,Array.getElem?_toList] at this
   rw [this,zge hj]
   simp [hj]
  have hH:Sort.Holds (Value.int .i64) w g 0 l.toArray:=by
   intro j hj
   simp only [List.size_toArray] at hj
   refine ⟨?_,?_⟩
   ·unfold World.cell?
    simp only [hw,Nat.zero_add]
    simpa using hcur j hj
   ·unfold World.frozen?
    simp [hw]
  refine (Tryz.slices_Sort_int g 0 cap l w hH (hv.lt hg) (by omega)).mono ?_
  rintro e w' ⟨rfl,n,os,rfl⟩
  obtain ⟨cur',hcur'⟩:∃c,c=Sort.putCells (Value.int .i64) 0 (sortI l).toArray cur:=⟨_,rfl⟩
  have hadv:Adv K w (K.upd g (.cells cur' 3 (0,0))) (Sort.putRow (Value.int .i64) (Sort.ahead w n) g 0 (sortI l).toArray):=by
   refine Adv.put (w':=Sort.putRow (Value.int .i64) (Sort.ahead w n) g 0 (sortI l).toArray) hv hg ?_ ?_ rfl rfl rfl
   ·simp [Sort.putRow,Sort.mapBlock,Sort.ahead]
   ·intro k
    show (w.heap.modify g _)[k]?=_
    rw [Array.getElem?_modify]
    by_cases e:k=g
    ·subst e;rw [if_pos rfl,if_pos rfl,hw,hcur'];rfl
    ·rw [if_neg e,if_neg (Ne.symm e)]
  refine ⟨_,hadv.trans (Z74 hadv.vis os),rfl,?_⟩
  have hSg:S g=none:=hr.off g rfl
  have hlen:(sortI l).length=l.length:=List.length_mergeSort l
  have hle:PH.le S (K.upd g (.cells cur' 3 (0,0))):=fun k o hk=>by
   rw [PH.upd_other (fun e=>by rw [e,hSg] at hk;cases hk)];exact h.sh k o hk
  refine h.went ⟨hr.off,(sortI l).map (Value.int .i64),⟨by rw [List.length_map,hsz,Nat.mul_one],.inr ⟨g,cap,cur',by rw [hlen],PH.upd_same,by rw [hlen];exact h2,h3,?_,?_⟩⟩,zf3 fun x hx=>hin x ((z7k l x).1 hx)⟩ hle ⟨fun k o hk hn=>?_,fun k hk=>.inl hk⟩
  ·rw [hcur',hsz,Nat.mul_one,←h4];simp [Sort.putCells]
  ·rw [hcur',hsz,Nat.mul_one]
   exact zu4 (by rw [hlen];omega)
  ·rw [PH.upd_other (fun e=>hn (by rw [e];rfl))];exact hk
theorem Z4z {est:Array MapEntry} {clt:Nat} {t:List Int} (hst:SetAt est clt t) {seen:Array Nat} {e:MapEntry} (he:e∈leftM est seen) {k:Int} (hk:k∈t) (hek:e.key=.int .i64 k) (y:Int) :
  (y∈t∧∀e'∈leftM est (seen.push e.born),e'.key≠.int .i64 y)↔((y∈t∧∀e'∈leftM est seen,e'.key≠.int .i64 y)∨y=k):=by
 have hee:e∈est.toList:=(List.mem_filter.1 he).1
 obtain ⟨p1,p2⟩:=zet hst he
 constructor
 ·rintro ⟨h3,h4⟩
  by_cases hyk:y=k
  ·exact .inr hyk
  ·refine .inl ⟨h3,fun e' he' hke=>?_⟩
   rcases (p2 e').1 he' with rfl | h5
   ·rw [hek] at hke;cases hke;exact hyk rfl
   ·exact h4 e' h5 hke
 ·rintro (⟨h3,h4⟩ | rfl)
  ·exact ⟨h3,fun e' he'=>h4 e' ((p2 e').2 (.inr he'))⟩
  ·refine ⟨hk,fun e' he' hke=>?_⟩
   have he'l:e'∈leftM est seen:=(p2 e').2 (.inr he')
   have he'e:e'∈est.toList:=(List.mem_filter.1 he'l).1
   obtain ⟨a,ha⟩:=List.getElem?_of_mem he'e
   obtain ⟨b,hb⟩:=List.getElem?_of_mem hee
   have hkeys:(est.toList.map (·.key))=t.map fun k=>Value.int .i64 k:=by
    have:=congrArg (List.map Prod.fst) hst.ents
    simp only [List.map_map,Function.comp_def,encS] at this
    exact this
   have hta:t[a]?=some y:=by
    have:=congrArg (fun l=>l[a]?) hkeys
    simp only [List.getElem?_map,ha,Option.map_some,hke] at this
    cases hx:t[a]? with
    | none=>rw [hx] at this;cases this
    | some z=>rw [hx] at this;simp at this;rw [this]
   have htb:t[b]?=some y:=by
    have:=congrArg (fun l=>l[b]?) hkeys
    simp only [List.getElem?_map,hb,Option.map_some,hek] at this
    cases hx:t[b]? with
    | none=>rw [hx] at this;cases this
    | some z=>rw [hx] at this;simp at this;rw [this]
   have hab:=(List.getElem?_inj (List.getElem?_eq_some_iff.1 hta).1 hst.nodup).1 (hta.trans htb.symm)
   subst hab
   rw [ha] at hb;cases hb
   have hno:=(List.mem_filter.1 he').2
   simp at hno
set_option maxHeartbeats 1000000 in
theorem zhu (r:Nat) (es:Array MapEntry) (clock:Nat) (s:List Int) (S K:PH) (I:List Itm) (h:Held S K I) (hr:S r=some (.map es clock)∨Itm.blk r (.map es clock)∈I) (hs:SetAt es clock s) (hi:∀x∈s,InI x) (hl:s.length≤40000000) :
  Tri Tryz.prog ze7 #[.map (some r)] K fun x K'=>∃S' v,PH.le S S'∧x=.returned v∧SlR S' (sortI s) v∧Held S' K' I:=by
 have hrd:∀{S' K':PH} {J:List Itm},PH.le S S'→Held S' K' (J++I)→K' r=some (.map es clock):=fun hS h'=>hr.elim (fun h1=>h'.sh _ _ (hS _ _ h1)) fun h1=>h'.blk (List.mem_append_right _ h1)
 refine zb2 [.map (some r)] (by kernel_rfl) (by kernel_rfl) ?_
 refine zkg (r:=r) (es:=es) (clock:=clock) uSetK (by kernel_rfl) (hrd (J:=[]) (PH.le_refl S) h) (fun _ _=>z06) fun i hin=>?_
 have h0:=(Held.empty (α:=Int) (h.new hin (.mapIter (some r) clock #[] clock)) 3).perm (List.Perm.swap _ _ _)
 have hl0:leftM es #[]=es.toList:=by unfold leftM;simp
 have hlen:es.toList.length=s.length:=by have:=hs.len;simpa [encS] using this
 refine ⟨fun n vs K'=>∃(seen:Array Nat) (out:List Int) (v:Value) (S':PH),vs=[v]∧n=(leftM es seen).length∧PH.le S S'∧Held S' K' (.blk i (.mapIter (some r) clock seen clock)::orow 3 out v::I)∧out.Nodup∧(∀y,y∈out↔(y∈s∧∀e∈leftM es seen,e.key≠.int .i64 y))∧out.length+(leftM es seen).length≤s.length,
  ⟨_,#[],[],.slice none 0 0,S,rfl,rfl,PH.le_refl S,h0,List.nodup_nil,fun y=>?_,by rw [hl0,hlen];simp⟩,?_⟩
 ·simp only [List.not_mem_nil,false_iff,not_and]
  intro hy hno
  obtain ⟨e,he,hk⟩:=hs.has hy
  exact hno e (by rw [hl0];exact he) hk
 rintro n vs K1 _ ⟨seen,out,v,S1,rfl,rfl,l1,h1,hnd,hm1,hln⟩
 refine ⟨fun vs K'=>∃b:Bool,vs=[.bool b]∧((b=false∧leftM es seen=[]∧Held S1 K' (.blk i (.mapIter (some r) clock seen clock)::orow 3 out v::I))∨(b=true∧∃e∈leftM es seen,Held S1 K' (.blk i (.mapIter (some r) clock (seen.push e.born) clock)::orow 3 out v::I))),?_,?_⟩
 ·rintro vs K2 _ ⟨b,rfl,hcase⟩
  refine ⟨fun g=>?_,fun g=>?_⟩
  ·simp only [evs,evb] at g
   subst g
   rcases hcase with ⟨h,_⟩ | ⟨_,e,he,h2⟩
   ·cases h
   have hee:e∈es.toList:=(List.mem_filter.1 he).1
   obtain ⟨k,hk,hek,hev⟩:=hs.entry hee
   refine zl8 (i:=i) (r:=r) (es:=es) (clock:=clock) (seen:=seen) (m:=encS s) (e:=e) (by kernel_rfl) (h2.blk (zms)) (hrd (J:=[_,_]) l1 h2) hs hee (by rw [hek,hev];exact ⟨rfl,rfl⟩) ?_
   rw [hek,hev]
   obtain ⟨p1,p2⟩:=zet hs he
   have hkn:k∉out:=fun hko=>((hm1 k).1 hko).2 e he hek
   refine z1o (more:=[k]) (b:=8) [.int .i64 k] z0y z0v rfl (by decide) (by decide) (h2.perm (List.Perm.swap _ _ _)) (by kernel_rfl) (.cons (z0o (hi k hk)) .nil) z06 (fun _=>by kernel_rfl) (fun _=>by kernel_rfl)
    (by simp only [maxLen,zlc,List.length_nil];omega) (by simp only [zlc,List.length_nil];omega) fun u v' S4 K4 l4 h4=>⟨z06,_,z05,_,p1,seen.push e.born,out++[k],v',S4,rfl,rfl,PH.le_trans l1 l4,h4.perm (List.Perm.swap _ _ _),?_,fun y=>?_,?_⟩
   ·rw [List.nodup_append]
    exact ⟨hnd,by simp,fun a ha b hb=>by simp at hb;subst hb;exact fun e=>hkn (e ▸ ha)⟩
   ·rw [List.mem_append,hm1,Z4z hs he hk hek y]
    simp
   ·simp only [zla,zlc,List.length_nil];omega
  ·simp only [evs,evb] at g
   subst g
   rcases hcase with ⟨_,hnil,h2⟩ | ⟨h,_⟩
   ·refine z0a (by kernel_rfl) (Z1h out v S1 K2 I h2.tail (by omega)) ?_
    rintro x K3 ⟨rfl,h3⟩
    refine ⟨_,[],rfl,rfl,rfl,z06,?_⟩
    have heq:sortI out=sortI s:=by
     refine zcm (z6r hnd) (z6r hs.nodup) fun x=>?_
     rw [z7k,z7k,hm1,hnil]
     simp
    rw [heq] at h3
    obtain ⟨S5,s5,l5,h5⟩:=h3.freeze
    exact ⟨S5,v,PH.le_trans l1 l5,rfl,s5,h5⟩
   ·cases h
 ·refine zne (i:=i) (r:=r) (es:=es) (clock:=clock) (seen:=seen) (m:=encS s) (by kernel_rfl) (h1.blk (zms)) (hrd (J:=[_,_]) l1 h1) hs (fun e he=>?_) (fun hnil=>?_) fun e he=>?_
  ·obtain ⟨k,hk,hek,hev⟩:=hs.entry he
   rw [hek,hev];exact ⟨rfl,rfl⟩
  ·exact ⟨_,z05,false,rfl,.inl ⟨rfl,hnil,h1⟩⟩
  ·exact ⟨_,z05,true,rfl,.inr ⟨rfl,e,he,h1.put _⟩⟩
theorem zmq (e:EndX) (av:Value) (H:PH) (ha:SlR H e.args av):Gives Tryz.prog zwz [.agg (endVs e av).toArray] H (.bool e.calls):=by
 obtain ⟨b,c,rfl⟩:=ha.sl
 refine zs6 (endVs e (.slice b e.args.length c)) (by kernel_rfl) (by kernel_rfl) ?_
 refine ⟨?_,PH.le_refl _⟩
 simp only [endVs,evs,evb,EndX.calls]
 congr 2
 by_cases h4:e.kind=4<;>by_cases h6:e.kind=6<;>simp [h4,h6]
theorem Z49 (e:EndX) (av:Value) (S:PH) (ha:SlR S e.args av) (hn:InI e.next) (he:InI e.els) :
  Tri Tryz.prog zxe #[.agg (endVs e av).toArray] S fun x S'=>PH.le S S'∧∃v,x=.returned v∧SlR S' e.ways v:=by
 obtain ⟨b,c,rfl⟩:=ha.sl
 refine zqq (endVs e (.slice b e.args.length c)) (by kernel_rfl) (by kernel_rfl) ?_
 simp only [endVs]
 refine ⟨fun vs H'=>vs=[.bool (decide (e.kind=0∨e.kind=4∨e.kind=6))]∧H'=S,?_,fun g=>?_,fun g=>?_⟩
 ·rintro vs H' _ ⟨rfl,rfl⟩
  refine ⟨fun g=>?_,fun g=>⟨fun g2=>?_,fun g2=>?_⟩⟩
  ·simp only [evs,evb,zdt] at g
   have hw:e.ways=[e.next]:=by
    unfold EndX.ways
    rw [if_pos (by omega),if_neg (by omega)];rfl
   rw [hw]
   refine z0x (α:=Int) (l:=[e.next]) (b:=8) [.int .i64 e.next] z0y z0v rfl (by decide) (by decide) (Held.nil (PH.le_refl H')) (by kernel_rfl) (.cons (z0o hn) .nil) z06 fun v K2 h2 _ _=>?_
   obtain ⟨S3,s3,l3,h3⟩:=h2.freeze
   exact ⟨PH.le_trans l3 h3.sh,v,rfl,s3.le h3.sh⟩
  ·simp only [evs,evb,zdt] at g2
   have hw:e.ways=[e.next,e.els]:=by
    unfold EndX.ways
    rw [if_pos (by omega),if_pos (by omega)];rfl
   rw [hw]
   refine z0x (α:=Int) (l:=[e.next,e.els]) (b:=8) [.int .i64 e.next,.int .i64 e.els] z0y z0v rfl (by decide) (by decide) (Held.nil (PH.le_refl H')) (by kernel_rfl) (.cons (z0o hn) (.cons (z0o he) .nil)) z06 fun v K2 h2 _ _=>?_
   obtain ⟨S3,s3,l3,h3⟩:=h2.freeze
   exact ⟨PH.le_trans l3 h3.sh,v,rfl,s3.le h3.sh⟩
  ·simp only [evs,evb,zdf] at g g2
   have hw:e.ways=[]:=by
    unfold EndX.ways
    rw [if_neg (by omega),if_neg (by omega)];rfl
   rw [hw]
   exact ⟨PH.le_refl _,_,rfl,z49 _⟩
 ·simp only [evs,evb,zdt] at g
  refine ⟨_,z05,?_,rfl⟩
  simp [evs,evb,g]
 ·simp only [evs,evb,zdf] at g
  refine ⟨_,z05,?_,rfl⟩
  by_cases h4:e.kind=4<;>by_cases h6:e.kind=6<;>simp [evs,evb,g,h4,h6]
def EndX.rds (e:EndX):List Int:=if e.kind=1∨e.kind=2∨e.kind=5∨e.kind=6 then [e.reg] else if e.kind=3∨e.kind=4 then e.reg::e.args else []
theorem Z81 (e:EndX) (r:Int):r∈e.rds↔e.reads r=true:=by
 unfold EndX.rds EndX.reads
 split
 ·simp;exact ⟨fun h=>h.symm,fun h=>h.symm⟩
 ·split
  ·simp only [List.mem_cons,Bool.or_eq_true,zdt]
   exact ⟨fun h=>h.imp (fun h=>h.symm) id,fun h=>h.imp (fun h=>h.symm) id⟩
  ·simp
theorem Z5c (e:EndX) (av:Value) (S:PH) (ha:SlR S e.args av) (hr:InI e.reg) (hl:e.args.length≤40000000) :
  Tri Tryz.prog zxn #[.agg (endVs e av).toArray] S fun x S'=>PH.le S S'∧∃v,x=.returned v∧SlR S' e.rds v:=by
 obtain ⟨b,c,rfl⟩:=ha.sl
 refine zqz (endVs e (.slice b e.args.length c)) (by kernel_rfl) (by kernel_rfl) ?_
 simp only [endVs]
 refine ⟨fun vs H'=>vs=[.bool (decide (e.kind=1∨e.kind=2∨e.kind=5∨e.kind=6))]∧H'=S,?_,fun g=>?_,fun g=>⟨fun g2=>?_,fun g2=>?_⟩⟩
 ·rintro vs H' _ ⟨rfl,rfl⟩
  refine ⟨fun g=>?_,fun g=>⟨fun g2=>?_,fun g2=>?_⟩⟩
  ·simp only [evs,evb,zdt] at g
   have hw:e.rds=[e.reg]:=by unfold EndX.rds;rw [if_pos g]
   rw [hw]
   refine z0x (α:=Int) (l:=[e.reg]) (b:=8) [.int .i64 e.reg] z0y z0v rfl (by decide) (by decide) (Held.nil (PH.le_refl H')) (by kernel_rfl) (.cons (z0o hr) .nil) z06 fun v K2 h2 _ _=>?_
   obtain ⟨S3,s3,l3,h3⟩:=h2.freeze
   exact ⟨PH.le_trans l3 h3.sh,v,rfl,s3.le h3.sh⟩
  ·simp only [evs,evb,zdf] at g
   have hk:e.kind=3∨e.kind=4:=by
    by_cases h3:e.kind=3
    ·exact .inl h3
    ·by_cases h4:e.kind=4
     ·exact .inr h4
     ·simp [evs,evb,h3,h4] at g2
   have hw:e.rds=[e.reg]++e.args:=by unfold EndX.rds;rw [if_neg g,if_pos hk];rfl
   rw [hw]
   refine z0x (α:=Int) (l:=[e.reg]) (b:=8) [.int .i64 e.reg] z0y z0v rfl (by decide) (by decide) (Held.nil (PH.le_refl H')) (by kernel_rfl) (.cons (z0o hr) .nil) z06 fun v K2 h2 _ _=>?_
   refine z7b (b:=8) (more:=e.args) z0y z0v (by kernel_rfl) (by kernel_rfl) h2 (ha.srcS h2.sh) (by simp only [maxLen,zlc,List.length_nil];omega) (by simp only [zlc,List.length_nil];omega) fun v3 K3 h3 _=>⟨z06,?_⟩
   obtain ⟨S4,s4,l4,h4⟩:=h3.freeze
   exact ⟨PH.le_trans l4 h4.sh,v3,rfl,s4.le h4.sh⟩
  ·simp only [evs,evb,zdf] at g
   have hk:¬(e.kind=3∨e.kind=4):=by
    rintro (h3 | h3)<;>simp [evs,evb,h3] at g2
   have hw:e.rds=[]:=by unfold EndX.rds;rw [if_neg g,if_neg hk]
   rw [hw]
   exact ⟨PH.le_refl _,_,rfl,z49 _⟩
 ·simp only [evs,evb,zdt] at g
  refine ⟨_,z05,?_,rfl⟩
  simp [evs,evb,g]
 ·simp only [evs,evb,zdt] at g2
  refine ⟨_,z05,?_,rfl⟩
  simp [evs,evb,g2]
 ·simp only [evs,evb,zdf] at g g2
  refine ⟨_,z05,?_,rfl⟩
  by_cases h5:e.kind=5<;>by_cases h6:e.kind=6<;>simp [evs,evb,g,g2,h5,h6]
theorem zmo (r:Nat) (es:Array MapEntry) (clock:Nat) (s:List Int) (x:InsX) (cs:List Value) (S K:PH) (hx:CsR S x cs) (h:Held S K [.blk r (.map es clock)]) (hs:SetAt es clock s) :
  Tri Tryz.prog z9w #[.map (some r),.agg cs.toArray] K fun e K'=>∃es' clock' s',e=.returned (.tuple #[])∧Held S K' [.blk r (.map es' clock')]∧SetAt es' clock' s'∧∀y,y∈s'↔(y∈x.args∨(¬x.fills y∧y∈s)):=by
 obtain ⟨av,dv,rfl,y1,y2,ya,y4,y5,y6,yd,y8⟩:=ins_iff.1 hx
 obtain ⟨ab,ac,rfl⟩:=ya.sl
 obtain ⟨db,dc,rfl⟩:=yd.sl
 refine znl [.map (some r),txt x.op,.int .i64 x.to,.slice ab x.args.length ac,.int .i64 x.const.kind,.int .i64 x.const.int,txt x.const.text,.slice db x.const.list.length dc,.int .i64 x.num] (by kernel_rfl) (by kernel_rfl) ?_
 refine ⟨fun vs K'=>vs=[]∧∃es' clock' s',Held S K' [.blk r (.map es' clock')]∧SetAt es' clock' s'∧∀y,y∈s'↔(¬x.fills y∧y∈s),?_,fun g=>?_,fun g=>?_⟩
 ·rintro vs K2 _ ⟨rfl,es2,clock2,s2,h2,hs2,hm2⟩
  refine z0a z7x (zq9 r es2 clock2 s2 x.args _ S K2 ya h2 hs2) ?_
  rintro e K3 ⟨es3,clock3,s3,rfl,h3,hs3,hm3⟩
  refine ⟨_,[],rfl,rfl,rfl,z06,es3,clock3,s3,rfl,h3,hs3,fun y=>?_⟩
  rw [hm3,hm2]
  exact Or.comm
 ·simp only [evs,evb,zll] at g
  have hop:x.op≠tieB:=by simpa using g
  refine z0a z3y (zfe r es clock s x.to S K h hs) ?_
  rintro e K3 ⟨es3,clock3,rfl,h3,hs3⟩
  refine ⟨_,[],rfl,rfl,rfl,z06,_,z05,rfl,es3,clock3,_,h3,hs3,fun y=>?_⟩
  rw [List.mem_filter]
  simp only [zdt,InsX.fills]
  constructor
  ·rintro ⟨h1,h2⟩;exact ⟨fun hf=>h2 hf.2.symm,h1⟩
  ·rintro ⟨h1,h2⟩;exact ⟨h2,fun e=>h1 ⟨hop,e.symm⟩⟩
 ·simp only [evs,evb,zll] at g
  have hop:x.op=tieB:=by simpa using g
  refine ⟨_,z05,rfl,es,clock,s,h,hs,fun y=>?_⟩
  exact ⟨fun hy=>⟨fun hf=>hf.1 hop,hy⟩,fun hy=>hy.2⟩
abbrev flowB (fb:Nat) (p:PrcX) (bv:Value) (inv:Value):Itm:=.blk fb (.cells [.int .i64 p.params,.int .i64 p.holds,.int .i64 p.regs,bv,inv].toArray 219 (0,0))
abbrev inB (ib:Nat) (ims:List Value):Itm:=.blk ib (.cells ims.toArray 216 (0,0))
theorem zlo {K:PH} {b off:Nat} {cs:List Value} {e:TypeId} {f:Nat×Nat} (h:K b=some (.cells cs.toArray e f)) (n:Nat):rowAt K (some ⟨b,off,none⟩) ((cs.drop off).take n):=by
 refine ⟨_,rfl,fun i v hi=>?_⟩
 rw [Addr.add_plain,PH.cell_at h]
 rw [List.getElem?_take] at hi
 split at hi
 ·rw [List.getElem?_drop] at hi;simpa using hi
 ·cases hi
theorem zgv {K:PH} {ib n c:Nat} {ims:List Value} {e:TypeId} {f:Nat×Nat} {v:Value} (h:K ib=some (.cells ims.toArray e f)) (hv:ims[c]?=some v):rowAt K (pOf (eltV (.slice (some ⟨ib,0,none⟩) n n) (c:Int) 1)) [v]:=by
 have h1:=zlo (off:=c) h 1
 have h2:(ims.drop c).take 1=[v]:=by
  obtain ⟨hc,he⟩:=List.getElem?_eq_some_iff.1 hv
  rw [List.drop_eq_getElem_cons hc,he];rfl
 rw [h2] at h1
 have:pOf (eltV (.slice (some ⟨ib,0,none⟩) n n) (c:Int) 1)=some ⟨ib,c,none⟩:=by simp [eltV,pOf,z04,Addr.add_plain]
 rw [this];exact h1
def outS (p:PrcX) (sets:Nat→List Int) (b:BlkX) (y:Int):Prop:=b.e.reads y=true∨(¬(b.e.calls=true∧b.e.to=y)∧∃c:Nat,(c:Int)∈b.e.leads p.blocks.length∧y∈sets c)
set_option maxHeartbeats 2000000 in
theorem Z0t (p:PrcX) (bv:Value) (fb ib:Nat) (ims:List Value) (sets:Nat→List Int) (i:Nat) (b:BlkX) (S K:PH) (hbv:SlR S p.blocks bv) (hb:p.blocks[i]?=some b) (hN:p.blocks.length≤20000000) (hrl:b.e.args.length≤40000000) (hil:ims.length=p.blocks.length) (him:∀c v,ims[c]?=some v→SetR S v (sets c))
  (h:Held S K [flowB fb p bv (.slice (some ⟨ib,0,none⟩) p.blocks.length p.blocks.length),inB ib ims]) :
  Tri Tryz.prog znz #[.pointer (some ⟨fb,0,none⟩),nI i] K fun x K'=>∃S' ro es clock s,PH.le S S'∧x=.returned (.map (some ro))∧Held S' K' [.blk ro (.map es clock),flowB fb p bv (.slice (some ⟨ib,0,none⟩) p.blocks.length p.blocks.length),inB ib ims]∧SetAt es clock s∧∀y,y∈s↔outS p sets b y:=by
 obtain ⟨b0,c0,rfl⟩:=hbv.sl
 have hi:i < p.blocks.length:=(List.getElem?_eq_some_iff.1 hb).1
 refine zl0 [.pointer (some ⟨fb,0,none⟩),nI i] (by kernel_rfl) (by kernel_rfl) ?_
 have hfl:∀{S' K':PH} {J:List Itm},Held S' K' (J++[flowB fb p (.slice b0 p.blocks.length c0) (.slice (some ⟨ib,0,none⟩) p.blocks.length p.blocks.length),inB ib ims])→rowAt K' (some ⟨fb,3,none⟩) [.slice b0 p.blocks.length c0]∧rowAt K' (some ⟨fb,4,none⟩) [.slice (some ⟨ib,0,none⟩) p.blocks.length p.blocks.length]∧K' ib=some (.cells ims.toArray 216 (0,0)):=fun h'=>
  ⟨zlo (h'.blk (List.mem_append_right _ (zms))) 1,zlo (h'.blk (List.mem_append_right _ (zms))) 1,h'.blk (List.mem_append_right _ (zmm _ (zms)))⟩
 obtain ⟨q1,_,ces,q2,q3⟩:=hbv.get hb
 obtain ⟨iv,es0,rfl,his,hes⟩:=blk_iff.1 q2
 obtain ⟨av,rfl,e1,e2,hea,e3,e4,e5⟩:=end_iff.1 hes
 obtain ⟨b3,c3,rfl⟩:=hea.sl
 refine ⟨fun _=>rfl,[.slice b0 p.blocks.length c0],rfl,?_,fun _=>?_,[.int .i64 b.e.kind,.int .i64 b.e.reg,.slice b3 b.e.args.length c3,.int .i64 b.e.to,.int .i64 b.e.next,.int .i64 b.e.els],rfl,?_,?_⟩
 ·exact (hfl (J:=[]) h).1
 ·simp only [Chk.holds,evs,evb];exact ⟨q1,by omega,by omega⟩
 ·simp only [evs,evb];exact z3t (z18 h.sh q3) 1 6
 refine z3w fun ro hro=>?_
 have h1:=h.new hro (.map #[] 0)
 refine z0a zut (h1.pure (R:=fun x S'=>∃v,x=.returned v∧SlR S' b.e.ways v) (Z49 b.e _ S hea e4 e5)) ?_
 rintro x K2 ⟨S2,l2,h2,lv,rfl,hlv⟩
 obtain ⟨b5,c5,rfl⟩:=hlv.sl
 refine ⟨_,[.slice b5 b.e.ways.length c5],rfl,rfl,rfl,z06,?_⟩
 have hwl:=Z71 b.e
 refine ⟨fun n vs K'=>∃(k:Nat) (es:Array MapEntry) (clock:Nat) (s:List Int),vs=[nI k]∧k+n=b.e.ways.length∧Held S2 K' [.blk ro (.map es clock),flowB fb p (.slice b0 p.blocks.length c0) (.slice (some ⟨ib,0,none⟩) p.blocks.length p.blocks.length),inB ib ims]∧SetAt es clock s∧∀y,y∈s↔∃c:Nat,(c:Int)∈b.e.ways.take k∧c < p.blocks.length∧y∈sets c,
  ⟨b.e.ways.length,0,#[],0,[],rfl,by omega,h2,zes,fun y=>by simp⟩,?_⟩
 rintro n vs K3 _ ⟨k,es,clock,s,rfl,hkn,h3,hs3,hm3⟩
 refine ⟨fun g=>?_,fun g=>?_⟩
 ·simp only [evs,evb,zdt] at g
  obtain ⟨a,ha⟩:∃a,b.e.ways[k]?=some a:=⟨_,zge (show k < b.e.ways.length by omega)⟩
  have hst:b.e.ways.take (k+1)=b.e.ways.take k++[a]:=by rw [List.take_add_one,ha];rfl
  obtain ⟨w1,_,wes,w2,w3⟩:=(hlv.le h3.sh).get ha
  obtain ⟨rfl,hai⟩:=csIK w2
  obtain ⟨r1,r2,r3⟩:=hfl (J:=[_]) h3
  refine ⟨fun vs K'=>vs=[]∧∃(es':Array MapEntry) (clock':Nat) (s':List Int),Held S2 K' [.blk ro (.map es' clock'),flowB fb p (.slice b0 p.blocks.length c0) (.slice (some ⟨ib,0,none⟩) p.blocks.length p.blocks.length),inB ib ims]∧SetAt es' clock' s'∧∀y,y∈s'↔∃c:Nat,(c:Int)∈b.e.ways.take (k+1)∧c < p.blocks.length∧y∈sets c,?_,fun _=>?_,[.int .i64 a],rfl,?_,?_⟩
  ·rintro vs K4 _ ⟨rfl,es4,clock4,s4,h4,hs4,hm4⟩
   refine ⟨_,z05,n - 1,by omega,k+1,es4,clock4,s4,?_,by omega,h4,hs4,hm4⟩
   simp only [evs,evb];rw [w64 (by omega) (by omega)];rfl
  ·simp only [Chk.holds,evs,evb];exact ⟨w1,by omega,by omega⟩
  ·simp only [evs,evb];exact w3
  refine ⟨fun vs K'=>vs=[.bool (decide (0≤a∧a < (p.blocks.length:Int)))]∧K'=K3,?_,fun g2=>?_,fun g2=>?_⟩
  ·rintro vs K4 _ ⟨rfl,rfl⟩
   refine ⟨fun g2=>?_,fun g2=>?_⟩
   ·simp only [evs,evb,zdt] at g2
    obtain ⟨c,rfl⟩:∃c:Nat,a=(c:Int):=⟨a.toNat,by omega⟩
    have hcN:c < ims.length:=by omega
    obtain ⟨mv,hmv⟩:∃mv,ims[c]?=some mv:=⟨_,zge hcN⟩
    have hset:=(him c mv hmv).le l2
    have hset':=hset
    obtain ⟨rt,est,clt,rfl,_,_⟩:=hset'
    refine ⟨[.slice (some ⟨ib,0,none⟩) p.blocks.length p.blocks.length],rfl,r2,fun _=>?_,[.map (some rt)],rfl,?_,?_⟩
    ·simp only [Chk.holds,evs,evb];exact ⟨rfl,by omega,by omega⟩
    ·simp only [evs,evb];exact zgv (n:=p.blocks.length) r3 hmv
    refine z0a zg1 (Held.call (P:=Tryz.prog) (f:=z7z) (args:=#[.map (some ro),.map (some rt)]) (J:=[.blk ro (.map es clock)]) (I:=[flowB fb p (.slice b0 p.blocks.length c0) (.slice (some ⟨ib,0,none⟩) p.blocks.length p.blocks.length),inB ib ims])
     (R:=fun x S' J'=>S'=S2∧∃es' clock' s',x=.returned (.tuple #[])∧J'=[.blk ro (.map es' clock')]∧SetAt es' clock' s'∧∀y,y∈s'↔y∈s∨y∈sets c) h3
     (fun K' hK=>(zyj ro es clock s (sets c) _ S2 K' hset hK hs3).mono fun x K'' ⟨es',clock',s',q1,q2,q3,q4⟩=>⟨S2,_,PH.le_refl _,q2,rfl,es',clock',s',q1,rfl,q3,q4⟩)) ?_
    rintro x K5 ⟨S5,J5,_,h5,rfl,es5,clock5,s5,rfl,rfl,hs5,hm5⟩
    refine ⟨_,[],rfl,rfl,rfl,z06,_,z05,rfl,es5,clock5,s5,h5,hs5,fun y=>?_⟩
    rw [hm5,hm3,hst]
    constructor
    ·rintro (⟨d,h1,h2,h3⟩ | h)
     ·exact ⟨d,List.mem_append_left _ h1,h2,h3⟩
     ·exact ⟨c,by simp,by omega,h⟩
    ·rintro ⟨d,h1,h2,h3⟩
     rcases List.mem_append.1 h1 with h1 | h1
     ·exact .inl ⟨d,h1,h2,h3⟩
     ·have:d=c:=by simp at h1;omega
      subst this;exact .inr h3
   ·simp only [evs,evb,zdf] at g2
    refine ⟨_,z05,rfl,es,clock,s,h3,hs3,fun y=>?_⟩
    rw [hm3,hst]
    constructor
    ·rintro ⟨d,h1,h2,h3⟩;exact ⟨d,List.mem_append_left _ h1,h2,h3⟩
    ·rintro ⟨d,h1,h2,h3⟩
     rcases List.mem_append.1 h1 with h1 | h1
     ·exact ⟨d,h1,h2,h3⟩
     ·exact absurd (by simp at h1;omega) g2
  ·simp only [evs,evb,zdt] at g2
   refine ⟨[.slice (some ⟨ib,0,none⟩) p.blocks.length p.blocks.length],rfl,r2,_,z05,?_,rfl⟩
   simp only [evs,evb]
   by_cases hc:a < (p.blocks.length:Int)<;>simp [hc]<;>omega
  ·simp only [evs,evb,zdf] at g2
   refine ⟨_,z05,?_,rfl⟩
   simp only [evs,evb]
   rw [decide_eq_false (fun h=>g2 (by omega))]
 ·simp only [evs,evb,zdf] at g
  rw [List.take_of_length_le (by omega)] at hm3
  have hea3:=hea.le l2
  refine ⟨fun vs K'=>vs=[]∧∃(es':Array MapEntry) (clock':Nat) (s':List Int),Held S2 K' [.blk ro (.map es' clock'),flowB fb p (.slice b0 p.blocks.length c0) (.slice (some ⟨ib,0,none⟩) p.blocks.length p.blocks.length),inB ib ims]∧SetAt es' clock' s'∧∀y,y∈s'↔(¬(b.e.calls=true∧b.e.to=y)∧y∈s),?_,?_⟩
  ·rintro vs K4 _ ⟨rfl,es4,clock4,s4,h4,hs4,hm4⟩
   refine z0a ztq (h4.pure (R:=fun x S'=>∃v,x=.returned v∧SlR S' b.e.rds v) (Z5c b.e _ S2 hea3 e2 hrl)) ?_
   rintro x K5 ⟨S5,l5,h5,rv,rfl,hrv⟩
   obtain ⟨b6,c6,rfl⟩:=hrv.sl
   refine ⟨_,[.slice b6 b.e.rds.length c6],rfl,rfl,rfl,z06,?_⟩
   refine z0a z7x (Held.call (P:=Tryz.prog) (f:=z8f) (args:=#[.map (some ro),.slice b6 b.e.rds.length c6]) (J:=[.blk ro (.map es4 clock4)]) (I:=[flowB fb p (.slice b0 p.blocks.length c0) (.slice (some ⟨ib,0,none⟩) p.blocks.length p.blocks.length),inB ib ims])
    (R:=fun x S' J'=>S'=S5∧∃es' clock' s',x=.returned (.tuple #[])∧J'=[.blk ro (.map es' clock')]∧SetAt es' clock' s'∧∀y,y∈s'↔y∈s4∨y∈b.e.rds) h5
    (fun K' hK=>(zq9 ro es4 clock4 s4 b.e.rds _ S5 K' hrv hK hs4).mono fun x K'' ⟨es',clock',s',q1,q2,q3,q4⟩=>⟨S5,_,PH.le_refl _,q2,rfl,es',clock',s',q1,rfl,q3,q4⟩)) ?_
   rintro x K6 ⟨S6,J6,_,h6,rfl,es6,clock6,s6,rfl,rfl,hs6,hm6⟩
   refine ⟨_,[],rfl,rfl,rfl,z06,S6,ro,es6,clock6,s6,PH.le_trans l2 l5,rfl,h6,hs6,fun y=>?_⟩
   rw [hm6,hm4,hm3,Z81]
   unfold outS
   constructor
   ·rintro (⟨h1,c,h2,h3,h4⟩ | h)
    ·exact .inr ⟨h1,c,List.mem_filter.2 ⟨h2,by simp;omega⟩,h4⟩
    ·exact .inl h
   ·rintro (h | ⟨h1,c,h2,h3⟩)
    ·exact .inr h
    ·obtain ⟨h4,h5⟩:=List.mem_filter.1 h2
     exact .inl ⟨h1,c,h4,by simp at h5;omega,h3⟩
  ·refine z0b [.bool b.e.calls] zjn (zmq b.e _ K3 (hea3.le h3.sh)) rfl z06 fun K4 l4=>⟨fun g2=>?_,fun g2=>?_⟩
   ·simp only [evs,evb] at g2
    refine z0a z3y (Held.call (P:=Tryz.prog) (f:=z86) (args:=#[.map (some ro),.int .i64 b.e.to]) (J:=[.blk ro (.map es clock)]) (I:=[flowB fb p (.slice b0 p.blocks.length c0) (.slice (some ⟨ib,0,none⟩) p.blocks.length p.blocks.length),inB ib ims])
     (R:=fun x S' J'=>S'=S2∧∃es' clock',x=.returned (.tuple #[])∧J'=[.blk ro (.map es' clock')]∧SetAt es' clock' (s.filter fun y=>decide (y≠b.e.to))) (h3.le l4)
     (fun K' hK=>(zfe ro es clock s b.e.to S2 K' hK hs3).mono fun x K'' ⟨es',clock',q1,q2,q3⟩=>⟨S2,_,PH.le_refl _,q2,rfl,es',clock',q1,rfl,q3⟩)) ?_
    rintro x K6 ⟨S6,J6,_,h6,rfl,es6,clock6,rfl,rfl,hs6⟩
    refine ⟨_,[],rfl,rfl,rfl,z06,_,z05,rfl,es6,clock6,_,h6,hs6,fun y=>?_⟩
    rw [List.mem_filter]
    simp only [zdt]
    exact ⟨fun ⟨h1,h2⟩=>⟨fun ⟨_,e⟩=>h2 e.symm,h1⟩,fun ⟨h1,h2⟩=>⟨h2,fun e=>h1 ⟨g2,e.symm⟩⟩⟩
   ·simp only [evs,evb] at g2
    refine ⟨_,z05,rfl,es,clock,s,h3.le l4,hs3,fun y=>?_⟩
    exact ⟨fun h=>⟨fun ⟨h1,_⟩=>by (rw [g2] at h1;cases h1),h⟩,fun h=>h.2⟩
end Go.Proofs.YtfkclejklgoccaaGreat.Vc
