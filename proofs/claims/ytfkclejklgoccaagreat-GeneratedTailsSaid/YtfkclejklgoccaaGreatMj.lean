import Derived.Test.YtfkclejklgoccaaGreatMi
import Derived.Test.YtfkclejklgoccaaGreatRows
import Derived.OpenShut
import Derived.ReadAgain
import Derived.Deep.DeepHandedRow
import Derived.Lib.LaidTab
set_option linter.unusedSimpArgs false
set_option linter.unusedVariables false
set_option maxRecDepth 100000
namespace Go.Proofs.YtfkclejklgoccaaGreat.Vc
open Go Go.ChangeShapes Go.WideShapes Go.ChangeAt Go.RowKit
def whole(w:World):PH:=fun k=>w.heap[k]?
theorem Zau(w:World):Vis (whole w) w:=fun _ _ h=>h
section
variable {H:Type}{enc:TypeId×Value→H}{P:Program}{w:World}
end
section
variable {H:Type}{enc:TypeId×Value→H}{P:Program}
theorem zqc{W W':World}(hk:∀k,k<W.heap.size→W'.heap[k]?=W.heap[k]?):∀{ts:List TypeId} {vs:List Value} {ds:List (DataW H)} {ps:List MemPlace},
  DataW.TrodAll enc P W 0 (fun _=>true) true ts vs ds ps→DataW.TrodAll enc P W' 0 (fun _=>true) true ts vs ds ps
 | [],vs,ds,ps,h=>by
  obtain⟨rfl,rfl,rfl⟩:=trodAll_nil h;rfl
 |t::ts,vs,ds,ps,h=>by
  obtain⟨v,vs1,d,ds1,a,b,rfl,rfl,rfl,⟨fuel,h1⟩,h2⟩:=trodAll_cons h;refine⟨a,b,⟨fuel,?_⟩,zqc hk h2,rfl⟩;refine DataW.trod_carry fuel _ _ _ h1 fun p hp=>?_;have hlt:=DataW.trod_lt fuel _ _ _ h1 p hp;cases p with
  |cell b off=>
   have:=hk b hlt;show W'.cell? _=W.cell? _;unfold World.cell?;rw[this]
  |map b=>exact hk b hlt
theorem Zc1{f:FuncId}{fn:Func}{s:ChangeSpec}{apart fresh handsOn again:Bool}{T:TypeId→Prop}{W:World}{args:Array Value}{ds gs:List (DataW H)}{before:List MemPlace}{tb:TypeId}
  (hvars:s.vars=[]) (hfn:s.fn H (ds++gs)={ results:=[.lit (.bool true)],args:=ds,vars:=[] }) (hres:fn.resultTypes=#[tb]) (hb:P.underlying tb=some .bool)
  (K:Kids P T) (hz:∀t e,T t→P.underlying t=some (.slice e)→0<P.cellsOf e) (hT:∀t∈fn.params.toList,T t)
  (hW:DataW.Whole enc P fn.params.toList s.vars apart W args.toList ds gs before) (hc:Gives P f args.toList (whole W) (.bool true)) :
  Calls P f args W fun e W'=>∃v,e=.returned v∧s.post enc P fn apart fresh handsOn again W args v W':=by
 refine(hc W (Zau W)).mono ?_;rintro e W' ⟨H',hadv,rfl,hle⟩;have hk:∀k,k<W.heap.size→W'.heap[k]?=W.heap[k]?:=by
  intro k hk;have h1:whole W k=some W.heap[k]:=Array.getElem?_eq_getElem hk;rw[Array.getElem?_eq_getElem hk];exact hadv.vis k _ (hle k _ h1)
 have hfz:∀a:Addr,a.block<W.heap.size→W'.frozen? a=W.frozen? a:=fun a ha=>by
  unfold World.frozen?;rw[hk _ ha]
 have hW':=hW;obtain⟨pa,pv',hA,hV,hps,hz0,hn⟩:=hW';rw[hvars]at hV;have hV2:gs=[]∧pv'=[]:=by
  cases gs with
  |nil=>exact⟨rfl,by simpa[DataW.TrodVars]using hV⟩
  |cons g gs=>simp[DataW.TrodVars]at hV
 obtain⟨rfl,rfl⟩:=hV2;have hA':=zqc hk hA;have hbefore:before=pa:=by rw[hps];simp
 subst hbefore;have hargs:∀sp:Nat→Bool,(∀p∈before,sp p.block=true)→DataW.TrodAll enc P W' 0 sp true fn.params.toList args.toList ds before:=fun sp hsp=>DataW.TrodAll.respare K hz hT hA' hsp;have hold:∀p∈before,(fun b=>decide (b<W.heap.size)) p.block=true:=fun p hp=>by simpa using hW.lt p hp
 have hrs:∀(b:Nat)(sp:Nat→Bool)(hd:Bool),DataW.TrodAll enc P W' b sp hd fn.resultTypes.toList ((Value.bool true).resultList fn.resultTypes.size) [.lit (.bool true)] []:=by
  intro b sp hd;rw[hres];exact⟨[],[],shut_bool hb _,rfl,rfl⟩
 refine⟨_,rfl,ds,[],before,[],before,[],hW,?_,?_,?_,?_,fun _=>?_⟩
 .rw[hfn];exact hrs _ _ _
 .rw[hfn];exact hargs _ hold
 .rw[hfn,hvars];rfl
 .refine⟨hadv.os,hadv.out,fun i hi=>?_⟩;rw[hk i hi];cases W.heap[i]? with
  |none=>rfl
  |some o=>cases o<;>simp
 .refine⟨?_,_,_,([]++before)++[],⟨[]++before,[],trodAll_append (hargs _ (fun _ _=>rfl)) (hrs _ _ _),(by rw[hvars];rfl:DataW.TrodVars enc P W' (fun _=>true) s.vars [] []),rfl,?_,?_⟩,?_⟩
  .exact ok_one hres rfl (okWide_bool_mk hb _)
  .intro b off hp;have hp':MemPlace.cell b off∈before:=by simpa using hp
   rw[hfz ⟨b,off,none⟩ (hW.lt _ hp')];exact hz0 b off (by rw[hps];simpa using hp')
  .intro ha;have:=hn ha;rw[hps]at this;simpa using this
  .intro p hp _;simpa using hp
end
