import Derived.Test.YtfkclejklgoccaaGreatPi
import Derived.Test.YtfkclejklgoccaaGreatRows
import Derived.OpenShut
import Derived.ReadAgain
import Derived.Deep.DeepHandedRow
import Derived.Lib.LaidTab
set_option linter.unusedSimpArgs false
set_option linter.unusedVariables false
set_option maxRecDepth 100000
namespace Go.Proofs.YtfkclejklgoccaaGreat.Vc
open Go Go.ChangeShapes Go.WideShapes Go.ChangeAt Go.RowKit
def whole(w:World):PH:=fun k=>w.heap[k]?
theorem Zfl(w:World):Vis (whole w) w:=fun _ _ h=>h
theorem Z9v{w:World}{a:Addr}{n:Nat}{cs:List Value}(h:w.cells? 0 a n=some cs):cs.length=n∧∀i v,cs[i]?=some v→(whole w).cell? (a.add i)=some v:=by
 unfold World.cells? at h;rw[qj (Nat.zero_le _)]at h;have hl:cs.length=n:=by simpa using Lib.mapM_length h
 refine⟨hl,fun i v hi=>?_⟩;have hi':i<n:=by rw[←hl];exact(zgi.1 hi).1
 obtain⟨b,h1,h2⟩:=Lib.mapM_at h i i (by simp[hi']);rw[hi]at h1;cases h1;exact h2
section
variable {H:Type}{enc:TypeId×Value→H}{P:Program}{w:World}
abbrev Z2j(enc:TypeId×Value→H)(P:Program)(w:World)(fuel:Nat)(t:TypeId)(cs:List Value)(d:DataW H)(ps:List MemPlace):Prop:=DataW.trod enc P w 0 (fun _=>true) true fuel t cs=some (d,ps)
def Opens(enc:TypeId×Value→H)(P:Program)(w:World){α:Type}[Enc α](wt:α→Nat)(t:TypeId)(fuel:Nat):Prop:=
 ∀cs d ps,Z2j enc P w fuel t cs d ps→∃a:α,CsR (whole w) a cs∧wt a≤Rows.uptoBulk d
def sumWt{α:Type}(wt:α→Nat):List α→Nat
 | []=>0
 |a::l=>wt a+sumWt wt l
theorem Zha{t:TypeId}(ht:P.underlying t=some (.int .i64))(fuel:Nat):Opens (α:=Int) enc P w (fun _=>1) t fuel:=fun cs d ps h=>by
 obtain⟨n,rfl,hx,hw⟩:=DataW.trod_int ht h;simp only[Prod.mk.injEq]at hx;refine⟨n,?_,by rw[hx.1];simp[Rows.uptoBulk]⟩;show PV.RepRow _ [.int .i64 n] [_];simp only[PV.RepRow,PV.Rep];have:IntKind.i64.min≤n∧n≤IntKind.i64.max:=by simpa[Lit.wf]using hw
 exact⟨_,_,rfl,⟨rfl,this⟩,rfl⟩
theorem Zf4(d:DataW H)(l:List (DataW H)):Rows.uptoBulkAll (d::l)=Rows.uptoBulk d+Rows.uptoBulkAll l:=by simp[Rows.uptoBulkAll]
theorem Zar{α:Type}[Enc α]{wt:α→Nat}{t e:TypeId}{fuel:Nat}(ht:P.underlying t=some (.slice e))(hc:P.cellsOf e=sz α)(he:∀n,n<fuel→Opens enc P w wt e n){cs:List Value}{d:DataW H}{ps:List MemPlace}(h:Z2j enc P w fuel t cs d ps):
  ∃(l:List α)(v:Value),cs=[v]∧SlR (whole w) l v∧sumWt wt l+1≤Rows.uptoBulk d:=by
 rcases DataW.trod_slice ht h with⟨rfl,hx⟩|⟨a,len,cap,elems,rest,n,hf,rfl,hx,hb,hl,hm,hlen,hel,_,_⟩
 .simp only[Prod.mk.injEq]at hx;exact⟨[],_,rfl,SlR.mk_iff.2 ⟨Nat.zero_le _,.inl ⟨rfl,rfl⟩⟩,by rw[hx.1];simp[sumWt,Rows.uptoBulk]⟩
 .simp only[Prod.mk.injEq]at hx;have key:∀(m:Nat),m≤len→∃l:List α,l.length=len-m∧PV.RepRows (whole w) (l.map pv) (a.add (m*sz α))∧sumWt wt l≤Rows.uptoBulkAll ((elems.drop m).map (·.1)):=by
   intro m
   induction hk:len-m generalizing m with
   |zero=>intro hm;exact⟨[],rfl,by simp[PV.RepRows],by simp[sumWt]⟩
   |succ j ih=>
    intro hm;obtain⟨l,h1,h2,h3⟩:=ih (m+1) om om;have hm':m<elems.length:=om;have hg:=hel m om;rw[zge hm']at hg;obtain⟨cs',h4,h5⟩:=qw.1 hg;rw[hc]at h4;obtain⟨x,h6,h7⟩:=he n om cs' elems[m].1 elems[m].2 h5;obtain⟨h8,h9⟩:=Z9v h4;refine⟨x::l,by simp[h1],?_,?_⟩
    .simp only[wa,PV.RepRows,Enc.len];refine⟨⟨cs',h6,h9⟩,?_⟩;rw[Addr.add_add];rwa[show m*sz α+Enc.sz α=(m+1)*sz α by rw[Nat.add_mul];simp only[sz];omega]
    .rw[List.drop_eq_getElem_cons hm',wa,Zf4];simp only[sumWt];omega
  obtain⟨l,h1,h2,h3⟩:=key 0 (Nat.zero_le _);rw[Nat.sub_zero]at h1;rw[Nat.zero_mul,Addr.add_zero]at h2;rw[List.drop_zero]at h3;refine⟨l,_,rfl,SlR.mk_iff.2 ⟨om,.inr ⟨a,cap,by rw[h1],om,hm,h2⟩⟩,?_⟩;rw[hx.1];simp only[Rows.uptoBulk];omega
end
section
variable {H:Type}{enc:TypeId×Value→H}{P:Program}
theorem zrw{W W':World}(hk:∀k,k<W.heap.size→W'.heap[k]?=W.heap[k]?):∀{ts:List TypeId} {vs:List Value} {ds:List (DataW H)} {ps:List MemPlace},
  DataW.TrodAll enc P W 0 (fun _=>true) true ts vs ds ps→DataW.TrodAll enc P W' 0 (fun _=>true) true ts vs ds ps
 | [],vs,ds,ps,h=>by
  obtain⟨rfl,rfl,rfl⟩:=trodAll_nil h;rfl
 |t::ts,vs,ds,ps,h=>by
  obtain⟨v,vs1,d,ds1,a,b,rfl,rfl,rfl,⟨fuel,h1⟩,h2⟩:=trodAll_cons h;refine⟨a,b,⟨fuel,?_⟩,zrw hk h2,rfl⟩;refine DataW.trod_carry fuel _ _ _ h1 fun p hp=>?_;have hlt:=DataW.trod_lt fuel _ _ _ h1 p hp;cases p with
  |cell b off=>
   have:=hk b hlt;show W'.cell? _=W.cell? _;unfold World.cell?;rw[this]
  |map b=>exact hk b hlt
theorem Zhj{f:FuncId}{fn:Func}{s:ChangeSpec}{apart fresh handsOn again:Bool}{T:TypeId→Prop}{W:World}{args:Array Value}{ds gs:List (DataW H)}{before:List MemPlace}{tb:TypeId}
  (hvars:s.vars=[]) (hfn:s.fn H (ds++gs)={ results:=[.lit (.bool true)],args:=ds,vars:=[] }) (hres:fn.resultTypes=#[tb]) (hb:P.underlying tb=some .bool)
  (K:Kids P T) (hz:∀t e,T t→P.underlying t=some (.slice e)→0<P.cellsOf e) (hT:∀t∈fn.params.toList,T t)
  (hW:DataW.Whole enc P fn.params.toList s.vars apart W args.toList ds gs before) (hc:Gives P f args.toList (whole W) (.bool true)) :
  Calls P f args W fun e W'=>∃v,e=.returned v∧s.post enc P fn apart fresh handsOn again W args v W':=by
 refine(hc W (Zfl W)).mono ?_;rintro e W' ⟨H',hadv,rfl,hle⟩;have hk:∀k,k<W.heap.size→W'.heap[k]?=W.heap[k]?:=by
  intro k hk;have h1:whole W k=some W.heap[k]:=Array.getElem?_eq_getElem hk;rw[Array.getElem?_eq_getElem hk];exact hadv.vis k _ (hle k _ h1)
 have hfz:∀a:Addr,a.block<W.heap.size→W'.frozen? a=W.frozen? a:=fun a ha=>by
  unfold World.frozen?;rw[hk _ ha]
 have hW':=hW;obtain⟨pa,pv',hA,hV,hps,hz0,hn⟩:=hW';rw[hvars]at hV;have hV2:gs=[]∧pv'=[]:=by
  cases gs with
  |nil=>exact⟨rfl,by simpa[DataW.TrodVars]using hV⟩
  |cons g gs=>simp[DataW.TrodVars]at hV
 obtain⟨rfl,rfl⟩:=hV2;have hA':=zrw hk hA;have hbefore:before=pa:=by rw[hps];simp
 subst hbefore;have hargs:∀sp:Nat→Bool,(∀p∈before,sp p.block=true)→DataW.TrodAll enc P W' 0 sp true fn.params.toList args.toList ds before:=fun sp hsp=>DataW.TrodAll.respare K hz hT hA' hsp;have hold:∀p∈before,(fun b=>decide (b<W.heap.size)) p.block=true:=fun p hp=>by simpa using hW.lt p hp
 have hrs:∀(b:Nat)(sp:Nat→Bool)(hd:Bool),DataW.TrodAll enc P W' b sp hd fn.resultTypes.toList ((Value.bool true).resultList fn.resultTypes.size) [.lit (.bool true)] []:=by
  intro b sp hd;rw[hres];exact⟨[],[],shut_bool hb _,rfl,rfl⟩
 refine⟨_,rfl,ds,[],before,[],before,[],hW,?_,?_,?_,?_,fun _=>?_⟩
 .rw[hfn];exact hrs _ _ _
 .rw[hfn];exact hargs _ hold
 .rw[hfn,hvars];rfl
 .refine⟨hadv.os,hadv.out,fun i hi=>?_⟩;rw[hk i hi];cases W.heap[i]? with
  |none=>rfl
  |some o=>cases o<;>simp
 .refine⟨?_,_,_,([]++before)++[],⟨[]++before,[],trodAll_append (hargs _ (fun _ _=>rfl)) (hrs _ _ _),(by rw[hvars];rfl:DataW.TrodVars enc P W' (fun _=>true) s.vars [] []),rfl,?_,?_⟩,?_⟩
  .exact ok_one hres rfl (okWide_bool_mk hb _)
  .intro b off hp;have hp':MemPlace.cell b off∈before:=by simpa using hp
   rw[hfz ⟨b,off,none⟩ (hW.lt _ hp')];exact hz0 b off (by rw[hps];simpa using hp')
  .intro ha;have:=hn ha;rw[hps]at this;simpa using this
  .intro p hp _;simpa using hp
end
