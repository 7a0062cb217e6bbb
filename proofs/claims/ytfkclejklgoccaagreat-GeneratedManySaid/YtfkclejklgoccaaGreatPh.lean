import Derived.Test.YtfkclejklgoccaaGreatPg
import Derived.Recover
set_option linter.unusedSimpArgs false
set_option linter.unusedVariables false
set_option maxRecDepth 100000
namespace Go.Proofs.YtfkclejklgoccaaGreat.Vc
open Go
section
variable {P:Program}{D:Prot}{H0:PH}{w0:World}{X:List PanicEntry→PH→Prop}
def st00(fn:Func)(rsl:List RS):St:=
 { fr:=z2z 0 rsl++List.replicate (fn.ntmps-rsl.length) none0,bx:=[],nb:=0,nl:=0,tags:=rsl.flatMap RS.tags,asu:=[],kn:=[],its:=[] }
theorem Z2s{fn:Func}{rsl:List RS}{args:Array Value}{E:List Value}{H:PH}{w:World}(hv:Vis H w)(hpl:rsl.all RS.plain=true)(hE:z07 (rsl.flatMap RS.tags) E=true)(hargs:args.toList=z19 rsl E):
  Rel (.plain []) H w (st00 fn rsl) E (fun _=>0) H { tmps:=args++Array.replicate (fn.ntmps-args.size) undef,defers:=[] } w:=by
 obtain⟨p1,p2,p3⟩:=zg8 (r:=fun _=>0) rsl [] E hpl hE;have hsz:args.size=rsl.length:=by rw[←p2,←hargs];simp
 refine { adv:=.refl hv,tags:=hE,size:=?_,df:=rfl,wk:=trivial,fr:=?_,bx:=(fun b hb=>by cases hb),inj:=(fun b hb=>by cases hb),nd:=List.nodup_nil,asu:=(fun x hx=>by cases hx),kn:=(fun c hc=>by cases hc) }
 .simp only[st00,zla,wi,Array.size_append,Array.size_replicate];have:(z2z 0 rsl).length=rsl.length:=p1;rw[this,hsz]
 .intro t e he hj;have hp1:(z2z 0 rsl).length=rsl.length:=p1;simp only[st00,List.getElem?_append,hp1]at he;have hget:({ tmps:=args++Array.replicate (fn.ntmps-args.size) undef,defers:=[] }:Act).tmps.getD t undef=if t<args.size then args.toList.getD t undef else undef:=by
   simp only[Array.getD_eq_getD_getElem?,Array.getElem?_append,zgd,Array.getElem?_toList];split
   .rfl
   .simp only[Array.getElem?_replicate];split<;>rfl
  rw[hget];by_cases ht:t<rsl.length
  .rw[qj ht]at he;obtain⟨v,hv',hg,hev⟩:=p3 t e he;rw[qj (by rw[hsz];exact ht),hargs,zgd,hv',hg];refine⟨fun _=>?_,fun h=>absurd (fun x hx=>by cases hx) h⟩;rw[←hev];rfl
  .rw[qc ht]at he;rw[qc (by rw[hsz];exact ht)];have:e=none0:=by
    rw[List.getElem?_replicate]at he;split at he
    .cases he;rfl
    .cases he
   subst this;exact⟨fun _=>rfl,fun _=>rfl⟩
end
section
variable {P:Program}
end
def zif(P:Program)(op:Opt)(fn:Func)(rsl:List RS):Fm VE:=
 match fn.body with
 |some c=>if rsl.all RS.plain=true∧op.inr=false∧op.far.isEmpty=true then(execC P op c (st00 fn rsl)).bind fun x=>match x.1 with
  | .normal=>retL P fn x.2
  | .ret=>retL P fn x.2
  | .exit _=>.fail 64
  else .fail 66
 |none=>.fail 65
theorem Zdy{P:Program}{op:Opt}{f:FuncId}{fn:Func}{rsl:List RS}(hf:P.funcs[f]?=some fn){args:Array Value}{E:List Value}(hE:z07 (rsl.flatMap RS.tags) E=true)(hargs:args.toList=z19 rsl E){H:PH}{R:Ending→PH→Prop}
  (hden:den P (fun c H'=>R (.panicked c) H') (zif P op fn rsl) E H [] (fun ve E' H' _=>R (.returned (evV E' (fun _=>0) ve)) H')):Tri P f args H R:=by
 intro w hv;unfold zif at hden;split at hden
 .rename_i c hb;split at hden
  .rename_i hpl;obtain⟨hpl,hinr,hfar⟩:=hpl;rw[z3b]at hden;refine calls_of_wp hf hb ?_;have hR:=Z2s (fn:=fn) hv hpl hE hargs;refine zmi hinr (.inl (List.isEmpty_iff.1 hfar)) (zkh P op.pub) c (fun o _=>Prot.plain_may [] o) (st00 fn rsl) E _ H _ w [] _ _ hR hden ?_ ?_
   .intro e st' F r' H' L' a' w' h1 _ _ h4;cases e with
    |normal=>
     obtain⟨ve,hk,hrun⟩:=zc8 h1 h4;exact⟨h1.df,_,hrun,H',h1.adv,hk⟩
    |ret=>
     obtain⟨ve,hk,hrun⟩:=zc8 h1 h4;exact⟨h1.df,_,hrun,H',h1.adv,hk⟩
    |exit j=>exact h4.elim
   .rintro ch a' w' ⟨H',h1,h2⟩ hdf;exact⟨hdf,H',h1,h2⟩
  .exact hden.elim
 .exact hden.elim
section
variable {P:Program}{X:List PanicEntry→PH→Prop}{β:Type}{E:List Value}{H:PH}{L:LK}{K:β→List Value→PH→LK→Prop}
theorem z7z{fn:Fn}{first caps:Array Operand}{ty:TypeId}{args:List (Nat×VE)}{k:Fm β}{f:FuncId}(hf:fn=.func f)(hk:den P X k (E++[.func (.func f) (first.map (argEv E args)) (caps.map (argEv E args))]) H L K):
  den P X (.sem (.makeFunc fn first caps) ty args (.sc .any) [] k) E H L K:=by
 subst hf;exact⟨[_],rfl,rfl,z01,hk⟩
theorem z1m{i:Nat}{f:FuncId}{first caps:Array Value}{args:List VE}{rs:RS}{pend:List (SV×List SV)}{k:Fm β}{R:Ending→PH→Prop}(hi:E.getD i (.bool false)=.func (.func f) first caps)(hok:callB P f=true)
  (hc:Tri P f (first++(args.map (evV E fun _=>0)).toArray++caps) H R)
  (hk:∀e H',R e H'→∃v vs,e=.returned v∧z07 rs.tags vs=true∧v=rs.pack vs∧z0s E H' pend∧den P X k (E++vs) H' L K):den P X (.call (.atom i) args rs pend k) E H L K:=by
 refine⟨f,first,caps,hi,zkd hok,hc.mono fun e H' hr=>?_⟩;obtain⟨v,vs,rfl,h1,h2,h3,h4⟩:=hk e H' hr;exact⟨vs,h1,h2,h3,h4⟩
end
def zcu(d:Nat):Deferred:={ target:=.collected d,args:=#[] }
theorem zwu:∀{xs ys:List Nat},xs.map zcu=ys.map zcu→xs=ys
 | [],[],_=>rfl
 | [],_::_,h=>by simp at h
 |_::_,[],h=>by simp at h
 |x::xs,y::ys,h=>by
  simp only[wa,List.cons.injEq,zcu,Deferred.mk.injEq,Target.collected.injEq]at h;rw[h.1.1,zwu h.2]
def Prot.marked(w0:World):Prot:=
 {
  ok:=fun a=>∃ds:List Nat,a.defers=ds.map zcu
  free:=fun _=>true
  stable:=fun _ _ _ _ h=>h
  back:=fun _ _ _ _ h=>h
  wk:=fun l H w=>w0.heap.size≤w.heap.size∧∃ds:List Nat,l=ds.map zcu∧ds.Nodup∧∀d∈ds,w0.heap.size≤d∧d<w.heap.size∧w.heap[d]?=some (.deferred (some []))∧H d=none
  wcl:=by
   rintro l H H' w w' ⟨h0,ds,h1,h2,h3⟩ hs hk;refine⟨Nat.le_trans h0 hs,ds,h1,h2,fun d hd=>?_⟩;obtain⟨a1,a2,a3,a4⟩:=h3 d hd;obtain⟨b1,b2⟩:=hk d a2 a4 fun cs t f e=>by rw[a3]at e;cases e
   exact⟨a1,Nat.lt_of_lt_of_le a2 hs,b1.trans a3,b2⟩
  marks:=true
  mkd:=by
   rintro _ a H H' w w' d ⟨ds,hds⟩ ⟨h0,es,e1,e2,e3⟩ ⟨g0,fs,f1,f2,f3⟩ hd1 hd2 hd3 hd4;refine⟨⟨d::ds,by simp[hds,zcu]⟩,g0,d::fs,by simp[f1,zcu],?_,?_⟩
   .have hef:es=fs:=by
     have:=e1.symm.trans f1;exact zwu this
    refine List.nodup_cons.2 ⟨fun hm=>?_,f2⟩;rw[←hef]at hm;have:=(e3 d hm).2.1;omega
   .intro x hx;rcases zmc.1 hx with rfl|hx
    .exact⟨Nat.le_trans h0 hd1,hd2,hd3,hd4⟩
    .exact f3 x hx }
theorem zua{P:Program}{fn:Func}{tmps:Array Value}{n:Nat}{R:Ending→World→Prop}:∀(ds:List Nat)(w:World),ds.Nodup→(∀d∈ds,w.heap[d]?=some (.deferred (some []))) →
  (∀w2:World,w2.heap.size=w.heap.size→(∀k,k∉ds→w2.heap[k]?=w.heap[k]?)→w2.os=w.os→w2.tape=w.tape→w2.output=w.output→∃v,(results fn tmps).run P w2=.ok v w2∧R (.returned v) w2) →
  LeavesInM Fence.wide n P fn tmps R (ds.map zcu) .returning w
 | [],w,_,_,h=>h w rfl (fun _ _=>rfl) rfl rfl rfl
 |d::ds,w,hn,hd,h=>by
  obtain⟨hn1,hn2⟩:=List.nodup_cons.1 hn;refine⟨fun e=>(by cases e),.inl ⟨d,_,rfl,run_takeDeferred (hd d (zms)),?_⟩⟩;refine zua ds _ hn2 (fun e he=>?_) fun w2 s1 s2 s3 s4 s5=>?_
  .rw[World.putObj_heap_other (fun x:e=d=>hn1 (x▸he))];exact hd e (zmm _ he)
  .refine h w2 (by rw[s1,World.putObj_size]) (fun k hk=>?_) s3 s4 s5;rw[s2 k fun hk'=>hk (zmm _ hk'),World.putObj_heap_other (fun e:k=d=>hk (e▸zms))]
section
variable {P:Program}{H0:PH}{w0:World}{st:St}{E:List Value}{r:Nat→Nat}{H:PH}{a:Act}{w:World}
theorem Rel.shut(hR:Rel (.marked w0) H0 w0 st E r H a w):∃ds:List Nat,a.defers=ds.map zcu∧ds.Nodup∧(∀d∈ds,w.heap[d]?=some (.deferred (some []))) ∧
  ∀w2:World,w2.heap.size=w.heap.size→(∀k,k∉ds→w2.heap[k]?=w.heap[k]?)→w2.os=w.os→w2.tape=w.tape→w2.output=w.output→Rel (Prot.marked w0).thin H0 w0 st E r H a w2:=by
 obtain⟨_,ds,h1,h2,h3⟩:=hR.wk;refine⟨ds,h1,h2,fun d hd=>(h3 d hd).2.2.1,fun w2 s1 s2 s3 s4 s5=>?_⟩;refine { adv:=?_,tags:=hR.tags,size:=hR.size,df:=hR.df,wk:=trivial,fr:=hR.fr,bx:=?_,inj:=hR.inj,nd:=hR.nd,asu:=hR.asu,kn:=hR.kn }
 .refine⟨by rw[s1];exact hR.adv.size,fun k o hk=>?_,fun k hk hkn=>?_,s3.trans hR.adv.os,s4.trans hR.adv.tape,s5.trans hR.adv.out⟩
  .rw[s2 k fun hm=>by rw[(h3 k hm).2.2.2]at hk;cases hk];exact hR.adv.vis k o hk
  .rw[s2 k fun hm=>by have:=(h3 k hm).1;omega];exact hR.adv.old k hk hkn
 .intro b hb;obtain⟨x1,x2,x3,x4⟩:=hR.bx b hb;exact⟨by rw[s2 _ fun hm=>by rw[(h3 _ hm).2.2.1]at x1;cases x1];exact x1,x2,x3,x4⟩
end
def execM(P:Program)(op:Opt)(fn:Func):Fm VE:=
 match fn.body with
 |some c=>if(z0c P fn).all RS.plain=true∧op.inr=false then(execC P op c (st00 fn (z0c P fn))).bind fun x=>match x.1 with
  | .normal=>retL P fn x.2
  | .ret=>retL P fn x.2
  | .exit _=>.fail 64
  else .fail 66
 |none=>.fail 65
theorem Zfz{P:Program}{op:Opt}{f:FuncId}{fn:Func}(hf:P.funcs[f]?=some fn){args:Array Value}{E:List Value}(hE:z07 ((z0c P fn).flatMap RS.tags) E=true)(hargs:args.toList=z19 (z0c P fn) E){H:PH}{R:Ending→PH→Prop}
  (hden:den P (fun _ _=>False) (execM P op fn) E H [] (fun ve E' H' _=>R (.returned (evV E' (fun _=>0) ve)) H')):Tri P f args H R:=by
 intro w hv;unfold execM at hden;split at hden
 .rename_i c hb;split at hden
  .rename_i hpl;obtain⟨hpl,hinr⟩:=hpl;rw[z3b]at hden;refine(callsIn_wide (n:=0)).1 (callsIn_of_wp_marks hf hb trivial (wpIn_wide.2 ?_));have hR0:=Z2s (fn:=fn) hv hpl hE hargs;have hR:Rel (.marked w) H w (st00 fn (z0c P fn)) E (fun _=>0) H { tmps:=args++Array.replicate (fn.ntmps-args.size) undef,defers:=[] } w:=
    { hR0 with df:=⟨[],rfl⟩,wk:=⟨we _,[],rfl,List.nodup_nil,fun d hd=>by cases hd⟩ }
   refine zmi hinr (.inr rfl) (zkh P op.pub) c (fun o _ _ _=>rfl) (st00 fn (z0c P fn)) E _ H _ w [] _ _ hR hden ?_ ?_
   .intro e st' F r' H' L' a' w' h1 _ _ h4;have fin:∀(K:VE→List Value→PH→LK→Prop),(∀ve E' H'' L'',K ve E' H'' L''→R (.returned (evV E' (fun _=>0) ve)) H'')→den P (fun _ _=>False) (retL P fn st') (E++F) H' L' K →
      LeavesInM Fence.wide 0 P fn a'.tmps (fun e w'=>∃H',Adv H w H' w'∧R e H') a'.defers .returning w':=by
     intro K hK h4;obtain⟨ds,d1,d2,d3,d4⟩:=h1.shut;rw[d1];refine zua ds w' d2 d3 fun w2 s1 s2 s3 s4 s5=>?_;have h5:=d4 w2 s1 s2 s3 s4 s5;obtain⟨ve,hk,hrun⟩:=zc8 h5 h4;exact⟨_,hrun,H',h5.adv,hK _ _ _ _ hk⟩
    cases e with
    |normal=>exact fin _ (fun _ _ _ _ h=>h) h4
    |ret=>exact fin _ (fun _ _ _ _ h=>h) h4
    |exit j=>exact h4.elim
   .rintro ch a' w' ⟨H',h1,h2⟩ hdf;exact h2.elim
  .exact hden.elim
 .exact hden.elim
def Z7x(P:Program)(f:FuncId)(fn:Func)(fm:Fm VE):Prop:=∀(E:List Value) {args:Array Value} {H:PH} {R:Ending→PH→Prop},z07 ((z0c P fn).flatMap RS.tags) E=true→args.toList=z19 (z0c P fn) E →
 den P (fun _ _=>False) fm E H [] (fun ve E' H' _=>R (.returned (evV E' (fun _=>0) ve)) H')→Tri P f args H R
theorem Zfu{P:Program}{f:FuncId}{fn:Func}{fm:Fm VE}{op:Opt}(hf:P.funcs[f]?=some fn)(he:execM P op fn=fm):Z7x P f fn fm:=
 fun E _ _ _ hE ha hd=>Zfz (op:=op) hf hE ha (by rw[he];exact hd)
open Key (kv kd)
set_option linter.unusedSectionVars false
section
variable {P:Program}{Ψ:Value→PH→Prop}{H:PH}{ρ:Operand→Value}{Φ:Next→PH→Prop}
theorem Z9s{x y:Operand}{ts:Array TypeId}{ty:TypeId}:wpS P (execOp ρ (bare (.call ⟨.builtin .delete,#[x,y],ts⟩) ty)) Φ Ψ H=wpS P (Builtin.delete_ ts ty #[ρ x,ρ y]) (fun v H'=>Φ (.value v) H') Ψ H:=by
 simp only[execOp,bare,resolve,z04,z0i];simp only[invoke,List.map_toArray,wa,List.map_nil,builtin,z04,z0i]
theorem Z62{x:Operand}{ts:Array TypeId}{ty:TypeId}:wpS P (execOp ρ (bare (.call ⟨.builtin .len,#[x],ts⟩) ty)) Φ Ψ H=wpS P (Builtin.len_ ts ty #[ρ x]) (fun v H'=>Φ (.value v) H') Ψ H:=by
 simp only[execOp,bare,resolve,z04,z0i];simp only[invoke,List.map_toArray,wa,List.map_nil,builtin,z04,z0i]
theorem zxg{T ty:TypeId}{x:Operand}:wpS P (execOp ρ (bare (.range T x) ty)) Φ Ψ H=wpS P (Instr.range T (ρ x)) (fun v H'=>Φ (.value v) H') Ψ H:=by
 simp only[execOp,bare,z04,z0i]
theorem Z1q{ty:TypeId}{x:Operand}{b:Bool}:wpS P (execOp ρ (bare (.next x b) ty)) Φ Ψ H=wpS P (Instr.next (ρ x) b ty) (fun v H'=>Φ (.value v) H') Ψ H:=by
 simp only[execOp,bare,z04,z0i]
theorem Zeo{ty:TypeId}{x:Operand}:wpS P (execOp ρ (bare (.entry x) ty)) Φ Ψ H=wpS P (Instr.entry (ρ x)) (fun v H'=>Φ (.value v) H') Ψ H:=by
 simp only[execOp,bare,z04,z0i]
end
section
variable {α:Type}[Key α][DecidableEq α]
theorem Zjj{es:List MapEntry}{clock:Nat}{m:List (α×Value)}(h:EntsR es clock m){k:α}{v0:Value}{j:Nat}(hm:m[j]?=some (k,v0)):EntsR (es.eraseIdx j) clock (delM m k):=by
 have hlen:=h.len;have hj:j<m.length:=(zgi.1 hm).1;have hd:delM m k=m.eraseIdx j:=by
  unfold delM;have hsplit:m=m.take j++(k,v0)::m.drop (j+1):=by
   have h1:m.drop j=(k,v0)::m.drop (j+1):=by
    rw[List.drop_eq_getElem_cons hj];rw[zge hj]at hm;rw[qW hm]
   rw[←h1];exact(List.take_append_drop j m).symm
  rw[List.eraseIdx_eq_take_drop_succ]
  conv=>lhs;rw[hsplit]
  have hk:=h.keys;rw[hsplit]at hk;rw[List.map_append,wa,List.nodup_append]at hk;obtain⟨_,k2,k3⟩:=hk;rw[List.filter_append,qM];simp only[ne_eq,not_true_eq_false,decide_false,qp,if_false];rw[List.filter_eq_self.2,List.filter_eq_self.2]
  .intro x hx;have:=(List.nodup_cons.1 k2).1;simp only[zdt];exact fun e=>this (zmp.2 ⟨x,hx,e⟩)
  .intro x hx;simp only[zdt];exact fun e=>k3 x.1 (zmp.2 ⟨x,hx,rfl⟩) k (zms) e
 rw[hd];refine⟨?_,?_,?_,?_⟩
 .rw[List.eraseIdx_eq_take_drop_succ,List.eraseIdx_eq_take_drop_succ,List.map_append,List.map_append,List.map_take,List.map_take,List.map_drop,List.map_drop,h.ents]
 .exact h.keys.sublist ((List.eraseIdx_sublist m j).map _)
 .exact h.born.sublist ((List.eraseIdx_sublist es j).map _)
 .exact fun e he=>h.old e ((List.eraseIdx_sublist es j).mem he)
theorem Zgj{m:List (α×Value)}{k:α}(h:getM m k=none):delM m k=m:=by
 unfold delM;refine List.filter_eq_self.2 fun x hx=>?_;simp only[zdt];intro e;exact getM_none.1 h (zmp.2 ⟨x,hx,e⟩)
variable {P:Program}{X:List PanicEntry→PH→Prop}{β:Type}{E:List Value}{L:LK}{K:β→List Value→PH→LK→Prop}{H:PH}
theorem zq4{t kt et ty:TypeId}{x i:Operand}{ts:Array TypeId}{args:List (Nat×VE)}{k:Fm β}{m:List (α×Value)}{r:Nat}{es:Array MapEntry}{clock:Nat}(key:α)(hts:ts[0]?=some t)(ht:P.underlying t=some (.map kt et))(hkt:P.underlying kt=some (Key.kd α))
  (hx:argEv E args x=.map (some r)) (hi:argEv E args i=kv key) (hr:H r=some (.map es clock)) (h:EntsR es.toList clock m)
  (hk:∀es' clock',EntsR es'.toList clock' (delM m key)→den P X k E (H.upd r (.map es' clock')) L K):den P X (.sem (.call ⟨.builtin .delete,#[x,i],ts⟩) ty args (.tu []) [] k) E H L K:=by
 show wpS P (execOp (argEv E args) (bare _ ty)) _ _ H;rw[Z9s,hx,hi];unfold Builtin.delete_;simp only[hts,List.getElem?_toArray,List.getElem?_cons_zero,List.getElem?_cons_succ,z04,z08 ht];refine⟨_,hr,rfl,?_⟩;simp only[z2r,z04];refine zci hkt _ key ?_;refine zdx hkt h key (fun g=>?_) (fun j v e g g1 g2 g3 g4=>?_)
 .refine⟨_,hr,rfl,?_⟩;refine⟨[],rfl,rfl,z01,?_⟩;rw[zan];exact hk _ _ (by rw[Zgj g];exact h)
 .refine⟨_,hr,rfl,?_⟩;refine⟨[],rfl,rfl,z01,?_⟩;rw[zan];refine hk _ _ ?_;have hjl:j<es.size:=by
   have:=(zgi.1 g1).1;simpa using this
  have:(es.eraseIdxIfInBounds j).toList=es.toList.eraseIdx j:=by
   simp[Array.eraseIdxIfInBounds,hjl]
  rw[this];exact Zjj h g2
theorem zoh{t kt et ty:TypeId}{x:Operand}{ts:Array TypeId}{args:List (Nat×VE)}{pend:List (SV×List SV)}{k:Fm β}{m:List (α×Value)}{v:Value}(hts:ts[0]?=some t)(ht:P.underlying t=some (.map kt et))
  (hx:argEv E args x=v) (h:MapR H v m) (hb:(m.length:Int)≤9223372036854775807) (hp:z0s E H pend)
  (hk:den P X k (E++[.int .i64 m.length]) H L K):den P X (.sem (.call ⟨.builtin .len,#[x],ts⟩) ty args (.sc (.int .i64)) pend k) E H L K:=by
 show wpS P (execOp (argEv E args) (bare _ ty)) _ _ H;obtain⟨r,es,clock,rfl,h1,h2⟩:=h;rw[Z62,hx];unfold Builtin.len_;simp only[hts,List.getElem?_toArray,List.getElem?_cons_zero,z04,z08 ht];refine⟨_,h1,rfl,?_⟩;have hl:es.size=m.length:=by have:=h2.len;simpa using this
 refine⟨[.int .i64 m.length],?_,?_,hp,hk⟩
 .rfl
 .show goInt es.size=_;rw[hl];rfl
theorem zt5{T kt et ty:TypeId}{x:Operand}{args:List (Nat×VE)}{pend:List (SV×List SV)}{k:Fm β}{r:Nat}{es:Array MapEntry}{clock:Nat}(ht:P.underlying T=some (.map kt et))
  (hx:argEv E args x=.map (some r)) (hr:H r=some (.map es clock)) (hp:∀i,H i=none→z0s E (H.upd i (.mapIter (some r) clock #[] clock)) pend)
  (hk:∀i,H i=none→den P X k (E++[.pointer (some ⟨i,0,none⟩)]) (H.upd i (.mapIter (some r) clock #[] clock)) L K):den P X (.sem (.range T x) ty args (.sc .ptr) pend k) E H L K:=by
 show wpS P (execOp (argEv E args) (bare _ ty)) _ _ H;rw[zxg,hx];unfold Instr.range;simp only[z04,z08 ht];refine⟨_,hr,rfl,?_⟩;intro i hi;exact⟨[_],rfl,rfl,hp i hi,hk i hi⟩
def leftM(es:Array MapEntry)(seen:Array Nat):List MapEntry:=es.toList.filter fun e=>!seen.contains e.born
theorem zx5{β:Type}{p q:β→Bool}:∀l:List β,(∀x,p x=true→q x=true)→(l.filter p).Sublist (l.filter q)
 | [],_=>.slnil
 |x::l,h=>by
  have ih:=zx5 l h;simp only[qM];cases hp:p x with
  |true=>rw[h x hp];simp only[if_true];exact ih.cons_cons x
  |false=>
   simp only[qp,if_false];split
   .exact ih.cons x
   .exact ih
theorem zka{es:Array MapEntry}{clock:Nat}{m:List (α×Value)}(h:EntsR es.toList clock m){seen:Array Nat}{e:MapEntry}(he:e∈leftM es seen):
  (leftM es (seen.push e.born)).length<(leftM es seen).length∧∀x,x∈leftM es seen↔x=e∨x∈leftM es (seen.push e.born):=by
 have hmem:∀x,x∈leftM es seen↔x∈es.toList∧seen.contains x.born=false:=fun x=>by simp[leftM]
 have hmem2:∀x,x∈leftM es (seen.push e.born)↔x∈es.toList∧seen.contains x.born=false∧x.born≠e.born:=fun x=>by
  simp only[leftM,zmf,Array.contains_push,Bool.not_or,zba,qy,beq_eq_false_iff_ne,ne_eq]
 have hinj:∀x∈es.toList,x.born=e.born→x=e:=by
  intro x hx hb;obtain⟨i,hi⟩:=qJ hx;obtain⟨j,hj⟩:=qJ ((hmem e).1 he).1;have h1:(es.toList.map (·.born))[i]?=some x.born:=by rw[zem,hi];rfl
  have h2:(es.toList.map (·.born))[j]?=some x.born:=by rw[zem,hj,hb];rfl
  have hij:=(List.getElem?_inj (zgi.1 h1).1 h.born).1 (h1.trans h2.symm);subst hij;rw[hi]at hj;cases hj;rfl
 refine⟨?_,fun x=>?_⟩
 .have hsub:(leftM es (seen.push e.born)).Sublist (leftM es seen):=by
   unfold leftM;refine zx5 _ fun x hx=>?_;simp only[Array.contains_push,Bool.not_or,zba]at hx
   first|exact hx.1|exact hx.2
  rcases Nat.lt_or_ge (leftM es (seen.push e.born)).length (leftM es seen).length with h1|h1
  .exact h1
  .have:=hsub.eq_of_length (Nat.le_antisymm hsub.length_le h1);rw[←this]at he;exact absurd rfl ((hmem2 e).1 he).2.2
 .rw[hmem,hmem2];constructor
  .rintro⟨h1,h2⟩;by_cases hb:x.born=e.born
   .exact .inl (hinj x h1 hb)
   .exact .inr ⟨h1,h2,hb⟩
  .rintro(rfl|⟨h1,h2,_⟩)
   .exact(hmem x).1 he
   .exact⟨h1,h2⟩
theorem zvu{ty:TypeId}{x:Operand}{args:List (Nat×VE)}{t1 t2:Tag}{k1 k2:Fm β}{i r:Nat}{es:Array MapEntry}{clock:Nat}{seen:Array Nat}{m:List (α×Value)}
    (hx:argEv E args x=.pointer (some ⟨i,0,none⟩)) (hi:H i=some (.mapIter (some r) clock seen clock)) (hr:H r=some (.map es clock)) (h:EntsR es.toList clock m)
    (htag:∀e∈es.toList,t1.ok e.key=true∧t2.ok e.val=true)
    (hover:leftM es seen=[]→den P X k1 (E++[.bool false]) H L K)
    (hstep:∀e,e∈leftM es seen→den P X k2 (E++[.bool true,e.key,e.val]) (H.upd i (.mapIter (some r) clock (seen.push e.born) clock)) L K) :
    den P X (.alt (.next x false) ty args (.tu [(false,[.bool])]) (.tu [(false,[.bool]),(false,[t1]),(false,[t2])]) k1 k2) E H L K:=by
  show wpS P (execOp (argEv E args) (bare _ ty)) _ _ H;rw[Z1q,hx];unfold Instr.next;simp only[z04,z2r];refine⟨_,hi,rfl,?_⟩;simp only[z2r,z04];refine⟨_,hr,rfl,?_⟩;simp only[z2r,z04];have hallf:(!seen.isEmpty && !es.isEmpty&&es.all (fun e=>decide (e.born≥clock)))=false:=by
    cases hes:es.isEmpty with
    |true=>simp
    |false=>
      have:es.all (fun e=>decide (e.born≥clock))=false:=by
        rw[Bool.eq_false_iff];intro hall;rw[Array.all_eq_true']at hall;have hne:es.toList≠[]:=by
                                        intro e;have:es=#[]:=by rw[←Array.toList_inj];exact e
                                        rw[this]at hes;simp at hes
        obtain⟨e,he⟩:=List.exists_mem_of_ne_nil _ hne;have h1:=hall e (Array.mem_toList_iff.1 he);have h2:=h.old e he;simp at h1;omega
      rw[this];simp
  have hold:(es.filter fun e=>!seen.contains e.born).filter (fun e=>decide (e.born<clock))=(leftM es seen).toArray:=by
    rw[←Array.toList_inj];simp only[Array.toList_filter,List.toList_toArray,leftM];refine List.filter_eq_self.2 fun e he=>?_;simp only[zdt];exact h.old e (zmf.1 he).1
  have hnew:(es.filter fun e=>!seen.contains e.born).filter (fun e=>decide (e.born≥clock))=#[]:=by
    rw[←Array.toList_inj];simp only[Array.toList_filter];refine List.filter_eq_nil_iff.2 fun e he=>?_;have:=h.old e (zmf.1 he).1;simp;omega
  rw[qc (by rw[hallf];exact qk)];simp only[z04,z2r,z0i];rw[hold,hnew];generalize hcand:((if(leftM es seen).toArray.isEmpty=true then #[none]else #[])++Array.map some ((leftM es seen).toArray++#[]))=cand;have hall:∀n:Nat,n < cand.size→wpS P (match cand[n]? with
      |some (some e)=>do setObj i (.mapIter (some r) clock (seen.push e.born) clock);pure (.tuple #[.bool true,e.key,e.val])
      |some none=>pure (.tuple #[.bool false])
      | none => stuck "Next: no such candidate") (fun v H' => Z0r (.tu [(false, [.bool])]) (.tu [(false, [.bool]), (false, [t1]), (false, [t2])]) E (fun E' H' => den P X k1 E' H' L K) (fun E' H' => den P X k2 E' H' L K) (.value v) H') (fun v H' => X [{ v, recovered := false }] H') H := by
    intro n hn;cases hl:leftM es seen with
    |nil=>
      rw[hl]at hcand;simp at hcand;subst hcand;have:n=0:=by simpa using hn
      subst this;exact .inl ⟨[.bool false],rfl,rfl,hover hl⟩
    |cons e0 l=>
      rw[hl]at hcand;simp at hcand;subst hcand;have hn':n<(e0::l).length:=by simpa using hn
      have hget:((#[some e0]++Array.map some l.toArray:Array (Option MapEntry)))[n]?=some (some ((e0::l)[n]'hn')):=by
        cases n with
        |zero=>simp
        |succ n=>simp
      first
        |rw[hget]
        | (have hget':(List.toArray (some e0::List.map some l))[n]?=some (some ((e0::l)[n]'hn')):=by
            cases n with
            |zero=>simp
            |succ n=>simp
           rw[hget'])
      have hmem:(e0::l)[n]'hn'∈leftM es seen:=by rw[hl];exact List.getElem_mem hn'
      generalize(e0::l)[n]'hn'=e at hmem;have hes:e∈es.toList:=(zmf.1 hmem).1;obtain⟨g1,g2⟩:=htag e hes;refine⟨_,hi,rfl,?_⟩;refine .inr ⟨[.bool true,e.key,e.val],?_,rfl,hstep e hmem⟩;show(Tag.bool.ok (.bool true)&&(t1.ok e.key&&(t2.ok e.val&&true)))=true;rw[g1,g2];rfl
  by_cases hq:(Question.mapNext cand.size).forced=true
  · refine⟨fun _=>?_,fun h=>absurd (hq.symm.trans h) sM⟩
    refine hall 0 ?_;cases hl:leftM es seen with
    |nil=>rw[hl]at hcand;simp at hcand;simp[←hcand]
    |cons e l=>rw[hl]at hcand;simp at hcand;simp[←hcand]
  · refine⟨fun h=>absurd h hq,fun _ t=>?_⟩
    refine hall _ ?_;have:¬cand.size≤1:=by simpa[Question.forced]using hq
    exact Nat.mod_lt _ om
theorem zs9{ty:TypeId}{x:Operand}{args:List (Nat×VE)}{t1 t2:Tag}{k:Fm β}{i r:Nat}{es:Array MapEntry}{clock:Nat}{seen:Array Nat}{m:List (α×Value)}{e:MapEntry}
  (hx:argEv E args x=.pointer (some ⟨i,0,none⟩)) (hi:H i=some (.mapIter (some r) clock (seen.push e.born) clock)) (hr:H r=some (.map es clock)) (h:EntsR es.toList clock m) (he:e∈es.toList)
  (htag:t1.ok e.key=true∧t2.ok e.val=true) (hk:den P X k (E++[e.key,e.val]) H L K) :
  den P X (.sem (.entry x) ty args (.tu [(false,[t1]),(false,[t2])]) [] k) E H L K:=by
 show wpS P (execOp (argEv E args) (bare _ ty)) _ _ H;rw[Zeo,hx];unfold Instr.entry;simp only[z04,z2r];refine⟨_,hi,rfl,?_⟩;simp only[z2r,z04,Array.back?_push];refine⟨_,hr,rfl,?_⟩;simp only[z2r,z04,bne_self_eq_false,qp,if_false];have hf:es.find? (fun x=>x.born==e.born)=some e:=by
  rw[←Array.find?_toList];have hex:(es.toList.find? (fun x=>x.born==e.born)).isSome=true:=List.find?_isSome.2 ⟨e,he,sM⟩;obtain⟨y,hy⟩:=qH.1 hex;have hy1:=List.find?_some hy;have hy2:=List.mem_of_find?_eq_some hy;simp only[beq_iff_eq]at hy1;rw[hy];obtain⟨a,ha⟩:=qJ hy2;obtain⟨b,hb⟩:=qJ he;have h1:(es.toList.map (·.born))[a]?=some e.born:=by rw[zem,ha,←hy1];rfl
  have h2:(es.toList.map (·.born))[b]?=some e.born:=by rw[zem,hb];rfl
  have hab:=(List.getElem?_inj (zgi.1 h1).1 h.born).1 (h1.trans h2.symm);subst hab;rw[ha]at hb;exact hb
 rw[hf];refine⟨[e.key,e.val],?_,rfl,z01,hk⟩;show(t1.ok e.key&&(t2.ok e.val&&true))=true;rw[htag.1,htag.2];rfl
end
