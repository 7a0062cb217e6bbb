import Derived.Test.YtfkclejklgoccaaGreatMm
set_option linter.unusedSimpArgs false
set_option linter.unusedVariables false
set_option maxRecDepth 100000
set_option maxHeartbeats 4000000
namespace Go.Proofs.YtfkclejklgoccaaGreat.Vc
open Go
theorem Z4n(m:List (Int×Value))(t q:Int):getM (delM m t) q=if q=t then none else getM m q:=by
 induction m with
 |nil=>unfold getM delM;simp
 |cons a l ih=>
  unfold delM at ih⊢;rw[qJ];by_cases e:a.1=t
  .rw[qc (by simp[e]),ih,z2s];by_cases e2:q=t
   .rw[qj e2,qj e2]
   .rw[qc e2,qc e2,qc (fun h=>e2 (by rw[←h,e]))]
  .rw[qj (by simpa using e),z2s,z2s,ih];by_cases e2:a.1=q
   .rw[qj e2,qj e2,qc (fun h=>e (by rw[e2,h]))]
   .rw[qc e2,qc e2]
theorem uMapO:Tryz.prog.underlying 135=some (.map 3 3):=kr
theorem kIntO:Tryz.prog.underlying 3=some (Key.kd Int):=kr
theorem zry:Tryz.prog.underlying 184=some (.slice 188):=kr
theorem zjc:ElemOk zP 188 2 16=true:=kr
structure OrdR(R:List MvR)(sp:Int)(fm wm:List (Int×Value)):Prop where
 f:∀q,getM fm q=(lkM R q).map (Value.int .i64)
 w:∀p,∃n:Int,(getM wm p).getD (vi 0)=.int .i64 n∧(p≠sp→n=cntM R p)
 k:KeyM R
 i:∀m∈R,InI m.to∧InI m.fr
 s:∀m∈R,m.to≠sp
def OrdH(S0 K:PH)(ro rf rw:Nat)(sp:Int)(R out:List MvR)(J:List Itm):Prop:=∃(S:PH) (es:Array MapEntry) (cl:Nat) (es2:Array MapEntry) (cl2:Nat) (fm wm:List (Int×Value)) (ov:Value),PH.le S0 S ∧
 Held S K (bx ro 248 [.map (some rf),.map (some rw),ov]::.blk rf (.map es cl)::.blk rw (.map es2 cl2)::orow 188 out ov::J)∧EntsR es.toList cl fm∧EntsR es2.toList cl2 wm∧OrdR R sp fm wm
section
variable {S0 K:PH}{ro rf rw:Nat}{sp:Int}{R out:List MvR}{J:List Itm}
theorem OrdR.pop{fm wm:List (Int×Value)}(h:OrdR R sp fm wm){to fr n:Int}(hl:lkM R to=some fr)(hn:(getM wm fr).getD (vi 0)=.int .i64 n)(hsp:fr≠sp→IntKind.i64.wrap (n-1)=n-1):
  OrdR (dropM R to) sp (delM fm to) (putM wm fr (vi (IntKind.i64.wrap (n-1)))):=by
 refine⟨fun q=>?_,fun p=>?_,ztf h.k to,fun m hm=>h.i m (zoj m hm),fun m hm=>h.s m (zoj m hm)⟩
 .rw[Z4n,Zgj];split
  .rfl
  .exact h.f q
 .rw[zhh];obtain⟨n',h1,h2⟩:=h.w p;have hc:=Z3e h.k hl p;by_cases e:p=fr
  .subst e;rw[qj rfl];refine⟨_,rfl,fun hp=>?_⟩;rw[h1]at hn;cases hn;rw[qj rfl]at hc;rw[hsp hp,h2 hp];omega
  .rw[qc e];rw[qc e]at hc;exact⟨n',h1,fun hp=>by rw[h2 hp];omega⟩
theorem Z46(R:List MvR)(p:Int):cntM R p≤R.length:=List.length_filter_le _ _
theorem Z3q(to:Int)(hto:InI to)(hl:R.length≤1000)(ho:out.length+R.length≤100000)(h:OrdH S0 K ro rf rw sp R out J):
  Tri zP 208 #[pAt ro,vi to] K fun e K'=>e=.returned (.tuple #[])∧OrdH S0 K' ro rf rw sp (moveM (R.length+1) R to out).1 (moveM (R.length+1) R to out).2 J:=by
 refine qr zli [pAt ro,vi to] ?_;generalize hT:moveM (R.length+1) R to out=T;refine⟨fun n vs K'=>∃(R' out':List MvR)(to':Int),n=R'.length∧vs=[vi to']∧InI to'∧R'.length≤1000∧out'.length+R'.length≤100000∧OrdH S0 K' ro rf rw sp R' out' J∧moveM (R'.length+1) R' to' out'=T,⟨R.length,R,out,to,rfl,rfl,hto,hl,ho,h,hT⟩,?_⟩;rintro n vs K1 _ ⟨R1,o1,t1,rfl,rfl,ht1,hl1,ho1,h1,hT1⟩;obtain⟨S,es,cl,es2,cl2,fm,wm,ov,hS,hh,e1,e2,hr⟩:=h1;simp only[cns];have row:∀{S' K':PH} {I:List Itm} {u:Value} (a k:Nat),Held S' K' I→bx ro 248 [.map (some rf),.map (some rw),u]∈I→rowAt K' (some ⟨ro,a,none⟩) ((([.map (some rf),.map (some rw),u]:List Value).drop a).take k):=fun a k hh hi=>z20 hh hi a k;refine⟨fun _=>rfl,[.map (some rf)],rfl,row 0 1 hh (zms),?_⟩;simp only[cns];have hb1:K1 rf=some (.map es cl):=hh.blk (zmm _ (zms));have hb2:K1 rw=some (.map es2 cl2):=hh.blk (zmm _ (zmm _ (zms)));have hg:=hr.f t1;refine zhd (α:=Int) (m:=fm) (v:=.map (some rf)) t1 (vi 0) uMapO kIntO kr kr kr ⟨rf,es,cl,rfl,hb1,e1⟩ (by rw[hg];cases lkM R1 t1<;>rfl) z01 ?_;rw[hg];rw[moveM]at hT1;cases hlk:lkM R1 t1 with
 |none=>
  rw[hlk]at hT1;simp only at hT1;simp only[Option.map_none,Option.getD_none,Option.isSome_none,cns];refine⟨fun vs K'=>vs=[.bool true]∧K'=K1,?_,fun _=>⟨_,z00,rfl,rfl⟩,fun g=>by simp[ww]at g⟩;rintro vs K' _ ⟨rfl,rfl⟩;simp only[cns];refine⟨fun _=>⟨rfl,?_⟩,fun g=>by simp[ww]at g⟩;rw[←hT1];exact⟨S,es,cl,es2,cl2,fm,wm,ov,hS,hh,e1,e2,hr⟩
 |some fr=>
  rw[hlk]at hT1;simp only at hT1;simp only[Option.map_some,Option.getD_some,Option.isSome_some,cns];have hmem:=zbv hlk;obtain⟨nt,hnt,hnt2⟩:=hr.w t1;have hnt2:=hnt2 (hr.s _ hmem);have hfi:=(hr.i _ hmem).2;refine⟨fun vs K'=>vs=[.bool (decide (0<cntM R1 t1))]∧K'=K1,?_,fun g=>by simp[ww]at g,fun _=>?_⟩;rotate_left
  .refine⟨[.map (some rw)],rfl,row 1 1 hh (zms),?_⟩;simp only[cns];refine z1x (α:=Int) (m:=wm) (v:=.map (some rw)) t1 (vi 0) uMapO kIntO kr kr kr ⟨rw,es2,cl2,rfl,hb2,e2⟩ (by rw[hnt];rfl) z01 ?_;rw[hnt];simp only[cns];refine⟨_,z00,?_,rfl⟩;simp only[ev0,ev,evV,cns,List.getD_cons_zero,List.getD_cons_succ,q9,List.map_nil,iOf,bOf,sOf,pOf,slLen,z09,cmpI,Value.ite_bool,zyq,zxi,zti,zza,List.cons.injEq,Value.bool.injEq,and_true,decide_eq_decide];omega
  rintro vs K' _ ⟨rfl,rfl⟩;simp only[cns];refine⟨fun g=>?_,fun g=>?_⟩
  .simp only[ev0,ev,evV,cns,List.getD_cons_zero,List.getD_cons_succ,q9,List.map_nil,iOf,bOf,sOf,pOf,slLen,z09,cmpI,Value.ite_bool,zyq,zxi,zti,zza,zdt]at g;rw[qj g]at hT1;refine⟨rfl,?_⟩;rw[←hT1];exact⟨S,es,cl,es2,cl2,fm,wm,ov,hS,hh,e1,e2,hr⟩
  simp only[ev0,ev,evV,cns,List.getD_cons_zero,List.getD_cons_succ,q9,List.map_nil,iOf,bOf,sOf,pOf,slLen,z09,cmpI,Value.ite_bool,zyq,zxi,zti,zza,zdf]at g;rw[qc g]at hT1;have hdl:=zot hr.k hlk;obtain⟨ob,oc,hov⟩:=(hh.row (e:=188) (l:=o1) (v:=ov) sM).sl;refine⟨[ov],by rw[hov];rfl,row 2 1 hh (zms),?_⟩;simp only[cns];refine z15 (b:=16) (more:=[⟨t1,fr⟩]) [.agg #[vi t1,vi fr]] zry zjc rfl dC dC (hh.perm (qA (l₁:=[_,_,_]) (l₂:=J))) kr (.cons (mvR_iff.2 ⟨rfl,ht1,hfi⟩) .nil) z01 (fun w=>kr) (fun w=>kr)
   (by simp only[maxLen,zlc,zln];omega) (by simp only[zlc,zln];omega) fun u v7 S7 K7 l7 h7=>⟨z01,?_⟩
  simp only[cns];obtain⟨b7,c7,hv7⟩:=(h7.row (zms)).sl;refine z0d (off:=2) (vs:=[v7]) rfl (h7.perm (qq _ _ _)) (by simp only[ww]) (by intro w hw;rw[zsi.1 hw,hv7];rfl) sM fun K8 h8=>?_;have h8:Held S7 K8 (bx ro 248 [.map (some rf),.map (some rw),v7]::orow 188 (o1++[⟨t1,fr⟩]) v7::.blk rf (.map es cl)::.blk rw (.map es2 cl2)::J):=h8;refine⟨[.map (some rf)],rfl,row 0 1 h8 (zms),?_⟩;simp only[cns];refine znl (α:=Int) (m:=fm) (r:=rf) (es:=es) (clock:=cl) t1 rfl uMapO kIntO kr kr (h8.blk (zmm _ (zmm _ (zms)))) e1 fun es3 cl3 he3=>?_;have h9:=(h8.perm (qA (l₁:=[_,_]) (l₂:=_::J))).put (.map es3 cl3);refine⟨[.map (some rw)],rfl,row 1 1 h9 (zmm _ (zms)),?_⟩;simp only[cns];obtain⟨nf,hnf,hnf2⟩:=hr.w fr;have hb3:=h9.blk (r:=rw) (o:=.map es2 cl2) (zmm _ (zmm _ (zmm _ (zms))));refine z1x (α:=Int) (m:=wm) (v:=.map (some rw)) fr (vi 0) uMapO kIntO kr kr kr ⟨rw,es2,cl2,rfl,hb3,e2⟩ (by rw[hnf];rfl) z01 ?_;rw[hnf];simp only[cns];refine z1s (α:=Int) (m:=wm) (r:=rw) (es:=es2) (clock:=cl2) fr (vi (IntKind.i64.wrap (nf-1))) uMapO kIntO kr kr kr hb3 e2 fun es4 cl4 he4=>?_;have ha:=(h9.perm (qA (l₁:=[_,_,_]) (l₂:=J))).put (.map es4 cl4);have hcl:=Z46 R1 fr;have hrp:=hr.pop hlk hnf fun hp=>by rw[hnf2 hp];exact w64 om om
  refine⟨_,z00,(dropM R1 t1).length,om,dropM R1 t1,o1++[⟨t1,fr⟩],fr,rfl,rfl,hfi,om,by simp only[zla,zlc,zln];omega,⟨S7,es3,cl3,es4,cl4,_,_,v7,wt hS l7,?_,he3,he4,hrp⟩,by rw[←hT1,hdl]⟩;refine ha.perm ?_;refine(qA (l₁:=[_,_]) (l₂:=_)).trans ?_;refine List.Perm.cons _ ?_;exact(qq _ _ _)
end
theorem zqv:∀(k:Nat)(R:List MvR)(to:Int)(out:List MvR),KeyM R→(moveM k R to out).2.length+(moveM k R to out).1.length=out.length+R.length
 |0,R,to,out,_=>rfl
 |k+1,R,to,out,hk=>by
  rw[moveM];cases hl:lkM R to with
  |none=>rfl
  |some fr=>
   simp only;split
   .rfl
   .have:=zot hk hl;rw[zqv k _ _ _ (ztf hk to)];simp only[zla,zlc,zln];omega
theorem zvg(A B:List MvR)(q:Int):lkM (A++B) q=(lkM A q).or (lkM B q):=by
 unfold lkM;rw[List.find?_append];cases List.find? (fun m=>decide (m.to=q)) A<;>rfl
theorem Zcw(m:MvR)(q:Int):lkM [m] q=if q=m.to then some m.fr else none:=by
 unfold lkM;rw[List.find?_cons];by_cases e:m.to=q
 .rw[qj e.symm];simp[e]
 .rw[qc (fun h=>e h.symm)];simp[e]
theorem Zgh(A B:List MvR)(p:Int):cntM (A++B) p=cntM A p+cntM B p:=by
 unfold cntM;rw[List.filter_append,zla]
theorem Zgz(m:MvR)(p:Int):cntM [m] p=if p=m.fr then 1 else 0:=by
 unfold cntM;rw[qJ];by_cases e:m.fr=p
 .rw[qj (by simpa using e),qj e.symm];rfl
 .rw[qc (by simpa using e),qc (fun h=>e h.symm)];rfl
def partM(l:List MvR)(i:Nat):List MvR:=realM (l.take i)++l.drop i
theorem zac{l:List MvR}{i:Nat}{m:MvR}(h:l[i]?=some m):l.drop i=m::l.drop (i+1):=by
 rw[←List.getElem_cons_drop (zgi.1 h).1,(zgi.1 h).2]
theorem z4s{l:List MvR}{i:Nat}{m:MvR}(h:l[i]?=some m):l.take (i+1)=l.take i++[m]:=by rw[qZ,h];rfl
theorem zos(A B:List MvR):realM (A++B)=realM A++realM B:=List.filter_append ..
theorem Zce{l:List MvR}{i:Nat}{m:MvR}(h:l[i]?=some m)(hr:m.to≠m.fr):partM l (i+1)=partM l i:=by
 unfold partM;rw[z4s h,zos,zac h];have:realM [m]=[m]:=by unfold realM;rw[qJ,qj (by simpa using hr)];rfl
 rw[this,zaa];rfl
theorem Z3p{l:List MvR}(hk:KeyM l)(i:Nat):KeyM (partM l i):=by
 unfold partM KeyM;rw[List.map_append];have h1:((l.take i).map (·.to)++(l.drop i).map (·.to)).Nodup:=by rw[←List.map_append,List.take_append_drop];exact hk
 exact h1.sublist (((List.filter_sublist (p:=fun m:MvR=>decide (m.to≠m.fr)) (l:=l.take i)).map _).append (List.Sublist.refl _))
theorem Zbz{l:List MvR}(hk:KeyM l){i:Nat}{m:MvR}(h:l[i]?=some m)(hr:m.to=m.fr)(q:Int):lkM (partM l (i+1)) q=if q=m.to then none else lkM (partM l i) q:=by
 have h0:partM l (i+1)=realM (l.take i)++l.drop (i+1):=by
  unfold partM;rw[z4s h,zos];have:realM [m]=[]:=by unfold realM;rw[qJ,qc (by simpa using hr)];rfl
  rw[this,zan]
 have h1:partM l i=realM (l.take i)++([m]++l.drop (i+1)):=by unfold partM;rw[zac h];rfl
 rw[h0,h1,zvg,zvg,zvg,Zcw];by_cases e:q=m.to
 .rw[qj e];have hk':=Z3p hk i;rw[h1]at hk';unfold KeyM at hk';rw[List.map_append,List.map_append,List.nodup_append]at hk';have n1:lkM (realM (l.take i)) q=none:=lk_none.2 fun x hx hxe=>hk'.2.2 x.to (zmp.2 ⟨x,hx,rfl⟩) m.to sM (by rw[hxe,e]);have n2:lkM (l.drop (i+1)) q=none:=lk_none.2 fun x hx hxe=>by
   have:=(List.nodup_append.1 hk'.2.1).2.2 m.to sM x.to (zmp.2 ⟨x,hx,rfl⟩);exact this (by rw[hxe,e])
  rw[n1,n2];rfl
 .rw[qc e,qc e];cases lkM (realM (l.take i)) q<;>rfl
theorem Z3h(R:List MvR)(last sp:Int):(turnM R last sp).length=R.length:=zlm _
section
variable {S0 K:PH}{ro rf rw:Nat}{sp:Int}{R out:List MvR}{J:List Itm}
theorem OrdR.turn{fm wm:List (Int×Value)}(h:OrdR R sp fm wm)(hsp:InI sp){t last n:Int}(hl:lkM R last=some t)(ht:t≠sp)(hn:(getM wm t).getD (vi 0)=.int .i64 n)(hw:IntKind.i64.wrap (n-1)=n-1):
  OrdR (turnM R last sp) sp (putM fm last (vi sp)) (putM wm t (vi (IntKind.i64.wrap (n-1)))):=by
 refine⟨fun q=>?_,fun p=>?_,zte h.k last sp,fun m hm=>?_,fun m hm=>?_⟩
 .rw[zhh,Zh0];by_cases e:q=last
  .subst e;rw[qj rfl,qj ⟨rfl,by rw[hl];rfl⟩];rfl
  .rw[qc e,qc (fun hh=>e hh.1)];exact h.f q
 .rw[zhh];obtain⟨n',h1,h2⟩:=h.w p;by_cases e:p=t
  .subst e;rw[qj rfl];rw[h1]at hn;cases hn;refine⟨_,rfl,fun hp=>?_⟩;have:=zui h.k hl p hp;rw[qj rfl]at this;rw[hw,h2 hp];omega
  .rw[qc e];refine⟨n',h1,fun hp=>?_⟩;have:=zui h.k hl p hp;rw[qc e]at this;rw[h2 hp];omega
 .obtain⟨m',hm',rfl⟩:=zmp.1 hm;split
  .rename_i e;exact⟨by rw[←e];exact(h.i m' hm').1,hsp⟩
  .exact h.i m' hm'
 .obtain⟨m',hm',rfl⟩:=zmp.1 hm;split
  .rename_i e;show last≠sp;rw[←e];exact h.s m' hm'
  .exact h.s m' hm'
theorem Zcq(hk:KeyM R)(hw:WantM R fun _=>False)(hs:∀m∈R,m.to≠sp){t last:Int}(hl:lkM R last=some t):WantM (turnM R last sp) fun q=>False∨q=t:=fun m hm hu=>by
 obtain⟨m',hm',rfl⟩:=zmp.1 hm;have hto:(if m'.to=last then(⟨last,sp⟩:MvR)else m').to=m'.to:=by
  split
  .rename_i e;exact e.symm
  .rfl
 rw[hto]at hu⊢;have h1:=hw m' hm' id;have h2:=zui hk hl m'.to (hs m' hm');rw[qc fun e=>hu (.inr e)]at h2;omega
end
theorem Zbu(l:List MvR)(v:Value)(sp:Int)(S:PH)(hl:SlR S l v)(hsp:InI sp):Tri zP 179 #[v,vi sp] S fun e K'=>PH.le S K'∧∃w err,e=.returned (.tuple #[w,vi err])∧SlR K' (zdr l sp) w:=by
 have hl0:=hl;have hmx:maxLen=9223372036854775807:=rfl;obtain⟨lb,lc,rfl⟩:=hl.sl;have hlm:=hl.max;have nil_:∀K:PH,SlR (α:=MvR) K [] (.slice none 0 0):=fun K=>SlR.mk_iff.2 ⟨by simp[maxLen],.inl ⟨rfl,rfl⟩⟩;generalize hT:zdr l sp=T;unfold zdr at hT;refine qr zw1 [.slice lb l.length lc,vi sp] ?_;refine⟨fun g=>?_,fun g=>?_⟩
 .simp only[ww,zdt]at g;rw[qc om]at hT;rw[←hT];exact⟨wu _,_,_,rfl,nil_ S⟩
 simp only[ww,zdf]at g;have hle:l.length≤1000:=om;refine z4x fun rf hrf=>?_;have k1:=(Held.nil (wu S)).new hrf (.map #[] 0);simp only[cns];refine z4x fun rw_ hrw=>?_;have k2:=k1.new hrw (.map #[] 0);simp only[cns];refine z2r (vs:=[.map (some rf),.map (some rw_),.slice none 0 0]) k2 kr fun ro K3 _ h3=>?_;simp only[cns];have rd:∀{i:Nat} {m:MvR} {K:PH},l[i]?=some m→PH.le S K→(z09 (.slice lb l.length lc)).isSome=true∧InI m.to∧InI m.fr∧rowAt K (pOf (eltV (.slice lb l.length lc) (i:Int) 2)) [vi m.to,vi m.fr]:=fun hi hK=>by
  obtain⟨x1,_,cs,x2,x3⟩:=hl0.get hi;obtain⟨rfl,x4,x5⟩:=mvR_iff.1 x2;exact⟨x1,x4,x5,z0t hK x3⟩
 have hin:∀m∈l,InI m.to∧InI m.fr:=fun m hm=>by
  obtain⟨i,hi⟩:=qH hm;obtain⟨_,h1,h2,_⟩:=rd hi (wu S);exact⟨h1,h2⟩
 have up:∀{i:Nat},i<l.length→IntKind.i64.wrap ((i:Int)+1)=((i+1:Nat):Int):=fun h=>by rw[w64 om om];rfl
 have row:∀{S' K':PH} {I:List Itm} {u:Value} (a k:Nat),Held S' K' I→bx ro 248 [.map (some rf),.map (some rw_),u]∈I→rowAt K' (some ⟨ro,a,none⟩) ((([.map (some rf),.map (some rw_),u]:List Value).drop a).take k):=fun a k hh hi=>z20 hh hi a k;refine ⟨fun n vs K'=>∃(i:Nat) (es:Array MapEntry) (cl:Nat) (fm:List (Int×Value)),i+n=l.length∧vs=[.slice none 0 0,vi 0,nI i] ∧
   Held S K' [bx ro 248 [.map (some rf),.map (some rw_),.slice none 0 0],.blk rw_ (.map #[] 0),.blk rf (.map es cl)]∧EntsR es.toList cl fm∧(∀q,getM fm q=(lkM (l.take i) q).map (Value.int .i64))∧KeyM (l.take i)∧(∀m∈l.take i,m.to≠sp)∧mayM sp [] l=mayM sp (l.take i) (l.drop i),
  ⟨l.length,0,#[],0,[],om,rfl,h3,EntsR.empty,fun q=>rfl,List.nodup_nil,fun m hm=>by simp at hm,sM⟩,?_⟩
 rintro n vs K4 _ ⟨i,es,cl,fm,hin_,rfl,h4,e4,f4,k4,s4,m4⟩;simp only[cns];have hK4:=h4.sh;refine⟨fun g1=>?_,fun g1=>?_⟩
 .simp only[ww,zdt]at g1;obtain⟨m,hm⟩:∃m,l[i]?=some m:=⟨_,zge om⟩;obtain⟨x1,x2,x3,x4⟩:=rd hm hK4;rw[zac hm,mayM]at m4;refine⟨fun _=>⟨x1,by show(0:Int)≤(i:Int);omega,by show(i:Int)<(l.length:Int);omega⟩,[vi m.to,vi m.fr],rfl,x4,fun _=>rfl,[.map (some rf)],rfl,row 0 1 h4 (zms),?_⟩;simp only[cns];have hg:=f4 m.to;refine zhd (α:=Int) (m:=fm) (v:=.map (some rf)) m.to (vi 0) uMapO kIntO kr kr kr ⟨rf,es,cl,rfl,h4.blk sM,e4⟩ (by rw[hg];cases lkM (l.take i) m.to<;>rfl) z01 ?_;have hsome:(getM fm m.to).isSome=(lkM (l.take i) m.to).isSome:=by rw[hg];cases lkM (l.take i) m.to<;>rfl
  rw[hsome];simp only[cns];refine⟨fun g2=>?_,fun g2=>?_⟩
  .have hno:mayM sp [] l=false:=by
    rw[m4];simp only[ww]at g2;simp only[qu,zdt]at g2;simp only[wi,qR];left;simp only[qu,zdt];exact g2
   rw[qc (by rw[hno];simp)]at hT;rw[←hT];exact⟨hK4,_,_,rfl,nil_ K4⟩
  .simp only[ww]at g2;simp only[zof,zdf]at g2;obtain⟨⟨g3,g4⟩,g5⟩:=g2;have hno:=lk_none.1 (by simpa using g3:lkM (l.take i) m.to=none);refine⟨[.map (some rf)],rfl,row 0 1 h4 (zms),?_⟩;simp only[cns];refine z1s (α:=Int) (m:=fm) (r:=rf) (es:=es) (clock:=cl) m.to (vi m.fr) uMapO kIntO kr kr kr (h4.blk sM) e4 fun es5 cl5 he5=>?_;have h5:=((h4.perm (qA (l₁:=[_,_]) (l₂:=[]))).put (.map es5 cl5)).perm (qA (l₁:=[_,_]) (l₂:=[])).symm;refine⟨_,z00,n-1,om,i+1,es5,cl5,_,om,by simp only[ww,up (show i<l.length by omega)],h5,he5,fun q=>?_,?_,fun x hx=>?_,?_⟩
   .rw[zhh,z4s hm,zvg,Zcw,f4 q];by_cases e:q=m.to
    .have:lkM (l.take i) q=none:=by rw[e];simpa using g3
     rw[qj e,qj e,this];rfl
    .rw[qc e,qc e];cases lkM (l.take i) q<;>rfl
   .unfold KeyM;rw[z4s hm,List.map_append,List.nodup_append];refine⟨k4,sM,fun a ha b hb=>?_⟩;obtain⟨x,hx,rfl⟩:=zmp.1 ha;simp at hb;rw[hb];exact hno x hx
   .rw[z4s hm]at hx;rcases zma.1 hx with hx|hx
    .exact s4 x hx
    .rw[zsi.1 hx];exact g4
   .rw[m4,z4s hm];simp[g3,g4,g5]
 simp only[ww,zdf]at g1;obtain rfl:i=l.length:=om;have hT2:mayM sp [] l=true:=by rw[m4,List.drop_length];rfl
 rw[List.take_length]at f4 k4 s4;rw[qj ⟨hle,hT2⟩]at hT;clear m4 g1;refine ⟨fun n vs K'=>∃(i:Nat) (es:Array MapEntry) (cl:Nat) (es2:Array MapEntry) (cl2:Nat) (fm wm:List (Int×Value)),i+n=l.length∧vs=[nI i] ∧
   Held S K' [bx ro 248 [.map (some rf),.map (some rw_),.slice none 0 0],.blk rw_ (.map es2 cl2),.blk rf (.map es cl)]∧EntsR es.toList cl fm∧EntsR es2.toList cl2 wm∧(∀q,getM fm q=(lkM (partM l i) q).map (Value.int .i64))∧(∀p,(getM wm p).getD (vi 0)=.int .i64 (cntM (realM (l.take i)) p:Int)),
  ⟨l.length,0,es,cl,#[],0,fm,[],om,rfl,h4,e4,EntsR.empty,f4,fun p=>rfl⟩,?_⟩
 clear h4 e4 f4;rintro n vs K4 _ ⟨i,es,cl,es2,cl2,fm,wm,hin_,rfl,h4,e4,e42,f4,w4⟩;have hK4:=h4.sh;simp only[cns];refine⟨fun g1=>?_,fun g1=>?_⟩
 .simp only[ww,zdt]at g1;obtain⟨m,hm⟩:∃m,l[i]?=some m:=⟨_,zge om⟩;obtain⟨x1,x2,x3,x4⟩:=rd hm hK4;refine ⟨fun vs K'=>vs=[]∧∃(es:Array MapEntry) (cl:Nat) (es2:Array MapEntry) (cl2:Nat) (fm wm:List (Int×Value)),
   Held S K' [bx ro 248 [.map (some rf),.map (some rw_),.slice none 0 0],.blk rw_ (.map es2 cl2),.blk rf (.map es cl)]∧EntsR es.toList cl fm∧EntsR es2.toList cl2 wm∧(∀q,getM fm q=(lkM (partM l (i+1)) q).map (Value.int .i64))∧(∀p,(getM wm p).getD (vi 0)=.int .i64 (cntM (realM (l.take (i+1))) p:Int)),?_,
   fun _=>⟨x1,by show(0:Int)≤(i:Int);omega,by show(i:Int)<(l.length:Int);omega⟩,[vi m.to,vi m.fr],rfl,x4,fun g2=>?_,fun g2=>?_⟩
  .rintro vs K5 _ ⟨rfl,es,cl,es2,cl2,fm,wm,q1,q2,q3,q4,q5⟩;refine⟨_,z00,n-1,om,i+1,es,cl,es2,cl2,fm,wm,om,by simp only[ww,up (show i<l.length by omega)],q1,q2,q3,q4,q5⟩
  .simp only[ww,zdt]at g2;refine⟨fun _=>rfl,[.map (some rf)],rfl,row 0 1 h4 (zms),?_⟩;simp only[cns];refine znl (α:=Int) (m:=fm) (r:=rf) (es:=es) (clock:=cl) m.to rfl uMapO kIntO kr kr (h4.blk sM) e4 fun es5 cl5 he5=>?_;have h5:=((h4.perm (qA (l₁:=[_,_]) (l₂:=[]))).put (.map es5 cl5)).perm (qA (l₁:=[_,_]) (l₂:=[])).symm;refine⟨_,z00,rfl,es5,cl5,es2,cl2,_,wm,h5,he5,e42,fun q=>?_,fun p=>?_⟩
   .rw[Z4n,Zbz k4 hm g2,f4 q];split<;>rfl
   .rw[z4s hm,zos];have:realM [m]=[]:=by unfold realM;rw[qJ,qc (by simpa using g2)];rfl
    rw[this,zan];exact w4 p
  .simp only[ww,zdf]at g2;refine⟨fun _=>rfl,[.map (some rw_)],rfl,row 1 1 h4 (zms),?_⟩;simp only[cns];have hwf:=w4 m.fr;refine z1x (α:=Int) (m:=wm) (v:=.map (some rw_)) m.fr (vi 0) uMapO kIntO kr kr kr ⟨rw_,es2,cl2,rfl,h4.blk sM,e42⟩ (by rw[hwf];rfl) z01 ?_;rw[hwf];simp only[cns];refine z1s (α:=Int) (m:=wm) (r:=rw_) (es:=es2) (clock:=cl2) m.fr (vi (IntKind.i64.wrap ((cntM (realM (l.take i)) m.fr:Int)+1))) uMapO kIntO kr kr kr (h4.blk sM) e42 fun es5 cl5 he5=>?_;have h5:=((h4.perm (qq _ _ _)).put (.map es5 cl5)).perm (qq _ _ _);have hc:=Z46 (realM (l.take i)) m.fr;have hrl:(realM (l.take i)).length≤l.length:=Nat.le_trans (List.length_filter_le _ _) (by rw[List.length_take];omega);refine⟨_,z00,rfl,es,cl,es5,cl5,fm,_,h5,e4,he5,fun q=>by rw[Zce hm g2];exact f4 q,fun p=>?_⟩;rw[zhh,z4s hm,zos,Zgh];have:realM [m]=[m]:=by unfold realM;rw[qJ,qj (by simpa using g2)];rfl
   rw[this,Zgz];by_cases e:p=m.fr
   .rw[qj e,qj e,e,w64 om om];simp only[Option.getD_some];congr 1
   .rw[qc e,qc e,w4 p];rfl
 simp only[ww,zdf]at g1;obtain rfl:i=l.length:=om;clear g1;have hpl:partM l l.length=realM l:=by unfold partM;rw[List.take_length,List.drop_length,zan]
 rw[hpl]at f4;rw[List.take_length]at w4;have rk:KeyM (realM l):=by rw[←hpl];exact Z3p k4 _
 have rsub:∀m∈realM l,m∈l:=fun m hm=>(zmf.1 hm).1;have rlen:(realM l).length≤l.length:=List.length_filter_le _ _;have hord:OrdR (realM l) sp fm wm:=⟨f4,fun p=>⟨_,w4 p,fun _=>rfl⟩,rk,fun m hm=>hin m (rsub m hm),fun m hm=>s4 m (rsub m hm)⟩;have hO:OrdH S K4 ro rf rw_ sp (realM l) [] []:=⟨S,es,cl,es2,cl2,fm,wm,.slice none 0 0,wu S,by
  have:=h4.empty (α:=MvR) 188;refine this.perm ?_;refine(qA (l₁:=[_]) (l₂:=[_,_])).symm.trans ?_;refine List.Perm.cons _ ?_;exact((qq _ _ _).trans (List.Perm.cons _ (qq _ _ _))).trans (qq _ _ _),e4,e42,hord⟩
 refine ⟨fun n vs K'=>∃(i:Nat) (R out:List MvR),i+n=l.length∧vs=[nI i]∧PH.le S K'∧OrdH S K' ro rf rw_ sp R out []∧KeyM R∧(∀m∈R,m∈realM l)∧out.length+R.length≤l.length∧WantM R (fun t=>∃m∈l.drop i,m.to=t)∧freeM l (realM l) []=freeM (l.drop i) R out,
  ⟨l.length,0,realM l,[],om,rfl,hK4,hO,rk,fun m hm=>hm,by simpa using rlen,fun m hm hu=>absurd ⟨m,rsub m hm,rfl⟩ hu,rfl⟩,?_⟩
 clear hO h4 e4 e42 f4 w4 hord;rintro n vs K5 _ ⟨i,R,out,hin_,rfl,hK5,hO,hRk,hRs,hRo,hRw,hfree⟩;simp only[cns];refine⟨fun g1=>?_,fun g1=>?_⟩
 .simp only[ww,zdt]at g1;obtain⟨m,hm⟩:∃m,l[i]?=some m:=⟨_,zge om⟩;obtain⟨x1,x2,x3,x4⟩:=rd hm hK5;rw[zac hm,freeM]at hfree;refine⟨fun _=>⟨x1,by show(0:Int)≤(i:Int);omega,by show(i:Int)<(l.length:Int);omega⟩,[vi m.to,vi m.fr],rfl,x4,?_⟩;simp only[cns];refine z02 (qb 208) (Z3q m.to x2 om om hO) ?_;rintro _ K6 ⟨rfl,hO6⟩;refine⟨_,[],rfl,rfl,rfl,z01,?_⟩;simp only[zan];obtain⟨w1,w2,w3⟩:=znk (R.length+1) R m.to out (fun t=>∃x∈l.drop (i+1),x.to=t) hRk om fun x hx hu=>hRw x hx fun⟨y,hy,hyt⟩=>by
   rw[zac hm]at hy;rcases zmc.1 hy with rfl|hy
   .exact hu (.inr hyt.symm)
   .exact hu (.inl ⟨y,hy,hyt⟩)
  have hlen:=zqv (R.length+1) R m.to out hRk;have hK6:PH.le S K6:=by
   obtain⟨S',_,_,_,_,_,_,_,q1,q2,_⟩:=hO6;exact wt q1 q2.sh
  exact⟨_,z00,n-1,om,i+1,_,_,om,by simp only[ww,up (show i<l.length by omega)],hK6,hO6,w1,fun x hx=>hRs x (w3 x hx),om,w2,hfree⟩
 simp only[ww,zdf]at g1;obtain rfl:i=l.length:=om;clear g1;rw[List.drop_length]at hRw hfree;rw[freeM]at hfree;rw[hfree]at hT;have hRw':WantM R fun _=>False:=fun m hm hu=>hRw m hm fun⟨x,hx,_⟩=>by cases hx
 have hRs':∀m∈R,m.to≠sp:=fun m hm=>s4 m (rsub m (hRs m hm));refine ⟨fun n vs K'=>∃(i:Nat) (R out:List MvR),i+n=l.length∧vs=[nI i]∧PH.le S K'∧OrdH S K' ro rf rw_ sp R out []∧R.length≤1000∧out.length+R.length≤l.length+i∧WantM R (fun _=>False)∧(z7m sp (l.drop i) R out).2=T,
  ⟨l.length,0,R,out,om,rfl,hK5,hO,om,om,hRw',by rw[List.drop_zero];exact hT⟩,?_⟩
 clear hO hRk hRs hRo hRw hRw' hRs' hfree hT;rintro n vs K6 _ ⟨i,R1,o1,hin1,rfl,hK6,hO6,l6,b6,w6,t6⟩;obtain⟨S1,es,cl,es2,cl2,fm,wm,ov,hS1,hh,e1,e2,hr⟩:=hO6;have k6:=hr.k;obtain⟨ob,oc,hov⟩:=(hh.row (e:=188) (l:=o1) (v:=ov) sM).sl;simp only[cns];refine⟨fun g1=>?_,fun g1=>?_⟩;rotate_left
 .simp only[ww,zdf]at g1;obtain rfl:i=l.length:=om;rw[List.drop_length,z7m]at t6;refine⟨fun _=>rfl,[ov],by rw[hov];rfl,row 2 1 hh (zms),?_⟩;obtain⟨S2,s2,l2,h2⟩:=(hh.perm (qA (l₁:=[_,_,_]) (l₂:=[]))).freeze;have t6':o1=T:=t6;exact⟨hK6,ov,0,rfl,by rw[←t6'];exact s2.le h2.sh⟩
 simp only[ww,zdt]at g1;obtain⟨m,hm⟩:∃m,l[i]?=some m:=⟨_,zge om⟩;obtain⟨x1,x2,x3,x4⟩:=rd hm hK6;rw[zac hm,z7m]at t6;refine ⟨fun vs K'=>vs=[]∧∃(R2 o2:List MvR),PH.le S K'∧OrdH S K' ro rf rw_ sp R2 o2 []∧R2.length≤1000∧o2.length+R2.length≤l.length+(i+1)∧WantM R2 (fun _=>False)∧(z7m sp (l.drop (i+1)) R2 o2).2=T,?_,
  fun _=>⟨x1,by show(0:Int)≤(i:Int);omega,by show(i:Int)<(l.length:Int);omega⟩,[vi m.to,vi m.fr],rfl,x4,fun _=>rfl,[.map (some rf)],rfl,row 0 1 hh (zms),?_⟩
 .rintro vs K7 _ ⟨rfl,R2,o2,q1,q2,q3,q4,q5,q6⟩;exact⟨_,z00,n-1,om,i+1,R2,o2,om,by simp only[ww,up (show i<l.length by omega)],q1,q2,q3,q4,q5,q6⟩
 simp only[cns];have hg:=hr.f m.to;refine zhd (α:=Int) (m:=fm) (v:=.map (some rf)) m.to (vi 0) uMapO kIntO kr kr kr ⟨rf,es,cl,rfl,hh.blk sM,e1⟩ (by rw[hg];cases lkM R1 m.to<;>rfl) z01 ?_;have hsome:(getM fm m.to).isSome=(lkM R1 m.to).isSome:=by rw[hg];cases lkM R1 m.to<;>rfl
 rw[hsome];simp only[cns];unfold ze0 at t6;refine⟨fun g2=>?_,fun g2=>?_⟩;rotate_left
 .simp only[ww]at g2;rw[qc (by rw[g2];simp)]at t6;exact⟨_,z00,rfl,R1,o1,hK6,⟨S1,es,cl,es2,cl2,fm,wm,ov,hS1,hh,e1,e2,hr⟩,l6,om,w6,t6⟩
 simp only[ww]at g2;rw[qj g2]at t6;obtain⟨f0,hf0⟩:=qG.1 g2;obtain⟨t,ht⟩:∃t,t=m.to:=⟨_,rfl⟩;have htsp:t≠sp:=by rw[ht];exact hr.s ⟨m.to,f0⟩ (zbv hf0)
 have hti:InI t:=by rw[ht];exact x2
 rw[←ht]at t6 g2;obtain⟨n0,hn0,hback⟩:=Zan k6 w6 g2;obtain⟨_,_,_,hlastk⟩:=zso n0 R1.length t hn0 hback;obtain⟨last,hlast⟩:∃last,last=lastM R1.length R1 t t:=⟨_,rfl⟩;rw[←hlast]at hlastk t6;refine⟨[ov],by rw[hov];rfl,row 2 1 hh (zms),?_⟩;simp only[cns];rw[←ht];refine z15 (b:=16) (more:=[⟨sp,t⟩]) [.agg #[vi sp,vi t]] zry zjc rfl dC dC (hh.perm (qA (l₁:=[_,_,_]) (l₂:=[]))) kr (.cons (mvR_iff.2 ⟨rfl,hsp,hti⟩) .nil) (z0u (row 2 1 hh (zms)) z01) (fun w=>kr) (fun w=>kr)
  (by simp only[maxLen,zlc,zln];omega) (by simp only[zlc,zln];omega) fun u v7 S7 K7 l7 h7=>⟨z01,?_⟩
 simp only[cns];obtain⟨b7,c7,hv7⟩:=(h7.row (zms)).sl;refine z0d (off:=2) (vs:=[v7]) rfl (h7.perm (qq _ _ _)) (by simp only[ww]) (by intro w hw;rw[zsi.1 hw,hv7];rfl) sM fun K8 h8=>?_;have h8:Held S7 K8 (bx ro 248 [.map (some rf),.map (some rw_),v7]::orow 188 (o1++[⟨sp,t⟩]) v7::.blk rf (.map es cl)::.blk rw_ (.map es2 cl2)::[]):=h8;have b8:K8 rf=some (.map es cl):=h8.blk sM;have b8':K8 rw_=some (.map es2 cl2):=h8.blk sM;refine⟨fun n vs K'=>K'=K8∧∃(k:Nat)(cur:Int),n<k∧vs=[vi cur]∧(lkM R1 cur).isSome=true∧lkM R1 (z29 R1 n cur)=some t∧lastM k R1 t cur=last,⟨n0,rfl,R1.length,t,hn0,rfl,g2,hback,hlast.symm⟩,?_⟩;rintro n9 vs K9 _ ⟨rfl,k9,cur,hk9,rfl,hc9,hst9,hl9⟩;obtain⟨f2,hf2⟩:=qG.1 hc9;have hgc:(getM fm cur).getD (vi 0)=.int .i64 f2:=by rw[hr.f cur,hf2];rfl
 simp only[cns];refine⟨[.map (some rf)],rfl,row 0 1 h8 (zms),?_⟩;simp only[cns];refine z1x (α:=Int) (m:=fm) (v:=.map (some rf)) cur (vi 0) uMapO kIntO kr kr kr ⟨rf,es,cl,rfl,b8,e1⟩ (by rw[hgc];rfl) z01 ?_;rw[hgc];simp only[cns];obtain⟨k9,rfl⟩:∃k',k9=k'+1:=⟨k9-1,om⟩;rw[lastM,hf2]at hl9;refine⟨fun g3=>?_,fun g3=>?_⟩
 .simp only[ww,zdt]at g3;refine⟨[.map (some rf)],rfl,row 0 1 h8 (zms),?_⟩;simp only[cns];refine z1x (α:=Int) (m:=fm) (v:=.map (some rf)) cur (vi 0) uMapO kIntO kr kr kr ⟨rf,es,cl,rfl,b8,e1⟩ (by rw[hgc];rfl) z01 ?_;rw[hgc];simp only[cns];rw[qc (by simpa using g3)]at hl9;cases n9 with
  |zero=>rw[z29,hf2]at hst9;exact absurd (qV hst9) g3
  |succ j=>
   rw[z29,hf2]at hst9;obtain⟨f3,hf3⟩:=(Z3s k6 w6).1 _ (zbv hf2);exact⟨_,z00,j,om,rfl,k9,f2,om,rfl,by simp only at hf3;rw[hf3];rfl,hst9,hl9⟩
 .simp only[ww,zdf]at g3;have g3:f2=t:=Classical.byContradiction g3;subst g3;rw[qj rfl]at hl9;subst hl9;refine⟨[.map (some rf)],rfl,row 0 1 h8 (zms),?_⟩;simp only[cns];refine z1s (α:=Int) (m:=fm) (r:=rf) (es:=es) (clock:=cl) cur (vi sp) uMapO kIntO kr kr kr b8 e1 fun es3 cl3 he3=>?_;have h9:=(h8.perm (qA (l₁:=[_,_]) (l₂:=[_]))).put (.map es3 cl3);refine⟨[.map (some rw_)],rfl,row 1 1 h9 (zmm _ (zms)),?_⟩;simp only[cns];obtain⟨nf,hnf,hnf2⟩:=hr.w f2;have hb3:=h9.blk (r:=rw_) (o:=.map es2 cl2) (zmm _ (zmm _ (zmm _ (zms))));refine z1x (α:=Int) (m:=wm) (v:=.map (some rw_)) f2 (vi 0) uMapO kIntO kr kr kr ⟨rw_,es2,cl2,rfl,hb3,e2⟩ (by rw[hnf];rfl) z01 ?_;rw[hnf];simp only[cns];refine z1s (α:=Int) (m:=wm) (r:=rw_) (es:=es2) (clock:=cl2) f2 (vi (IntKind.i64.wrap (nf-1))) uMapO kIntO kr kr kr hb3 e2 fun es4 cl4 he4=>?_;have ha:=(h9.perm (qA (l₁:=[_,_,_]) (l₂:=[]))).put (.map es4 cl4);have hcl:=Z46 R1 f2;have hnf3:=hnf2 htsp;have hrt:=hr.turn hsp hlastk htsp hnf (by rw[hnf3];exact w64 om om);have htl:=Z3h R1 cur sp;have hO9:OrdH S _ ro rf rw_ sp (turnM R1 cur sp) (o1++[⟨sp,f2⟩]) []:=⟨S7,es3,cl3,es4,cl4,_,_,v7,wt hS1 l7,by
   refine ha.perm ?_;refine(qA (l₁:=[_,_]) (l₂:=_)).trans ?_;refine List.Perm.cons _ ?_;exact(qq _ _ _),he3,he4,hrt⟩
  refine z02 (qb 208) (Z3q f2 hti om (by simp only[zla,zlc,zln];omega) hO9) ?_;rw[htl];rintro _ Kb ⟨rfl,hOb⟩;refine⟨_,[],rfl,rfl,rfl,z01,?_⟩;simp only[zan];obtain⟨v1,v2,v3⟩:=znk (R1.length+1) (turnM R1 cur sp) f2 (o1++[⟨sp,f2⟩]) (fun _=>False) (zte k6 cur sp) om (Zcq k6 w6 hr.s hlastk);have hlen:=zqv (R1.length+1) (turnM R1 cur sp) f2 (o1++[⟨sp,f2⟩]) (zte k6 cur sp);simp only[zla,zlc,zln]at hlen;have hKb:PH.le S Kb:=by
   obtain⟨S',_,_,_,_,_,_,_,q1,q2,_⟩:=hOb;exact wt q1 q2.sh
  have hR2:(moveM (R1.length+1) (turnM R1 cur sp) f2 (o1++[⟨sp,f2⟩])).1.length≤1000:=by
   have h1:((moveM (R1.length+1) (turnM R1 cur sp) f2 (o1++[⟨sp,f2⟩])).1.map (·.to)).length≤((turnM R1 cur sp).map (·.to)).length:=z0m v1 fun y hy=>by
    obtain⟨z,hz,rfl⟩:=zmp.1 hy;exact zmp.2 ⟨z,v3 z hz,rfl⟩
   rw[zlm,zlm]at h1;omega
  exact⟨_,(z1b dC).trans z00,rfl,_,_,hKb,hOb,hR2,om,v2,t6⟩
def seekG(deg:Int→Int)(gone:Int→Bool)(k:Int):List Nat→Int→Int
 | [],best=>best
 |r::l,best=>if gone (r:Int)=true then seekG deg gone k l best else if deg (r:Int)<k then(r:Int)else seekG deg gone k l (if best<0∨deg best<deg (r:Int)then(r:Int)else best)
def ordG(deg:List Int→Int→Int)(R:Nat)(k:Int):Nat→List Int→List Int
 |0,st=>st
 |n+1,st=>ordG deg R k n (st++[seekG (deg st) (fun r=>decide (r∈st)) k (List.range R) (-1)])
theorem Z8v(R:Nat)(hR:R≤2000)(k:Int)(gv:Value)(N:List (Int×GN))(S:PH)(hg:GraphR S gv N)(ok:GraphOk R N):
  Tri zP 124 #[gv,vi (R:Int),vi k] S fun x S'=>PH.le S S'∧∃st v,x=.returned v∧SlR S' st.reverse v∧st.Nodup∧st.length=R∧(∀s:Int,s∈st→0≤s∧s<R)∧OrdOk N R k st∧st=ordG (fun g u=>(degN N g u:Int)) R k R []:=by
 obtain⟨gr,ges,gcl,rfl,_,_⟩:=hg.at_;refine qr zwv [.map (some gr),vi (R:Int),vi k] ?_;refine⟨fun vs K=>∃dv nv,vs=[dv,nv]∧Held S K [orow 3 (List.replicate R (0:Int)) dv,orow 4 (List.replicate R false) nv],?_,?_,?_⟩;rotate_left
 .refine z4q (α:=Int) (n:=R) 0 rfl (fun S=>z08 InI0) z0j zyd kr kr (by simp only[maxLen];omega) om (Held.nil (wu S)) fun v1 K1 h1 _=>?_;refine z4q (α:=Bool) (n:=R) false rfl (fun S=>zfy) zs1 zok kr kr (by simp only[maxLen];omega) om h1 fun v2 K2 h2 _=>?_;exact⟨_,z00,v1,v2,rfl,h2.perm (qq _ _ _)⟩
 .refine z4q (α:=Bool) (n:=R) false rfl (fun S=>zfy) zs1 zok kr kr (by simp only[maxLen];omega) om (Held.nil (wu S)) fun v1 K1 h1 _=>?_;refine z4q (α:=Int) (n:=R) 0 rfl (fun S=>z08 InI0) z0j zyd kr kr (by simp only[maxLen];omega) om h1 fun v2 K2 h2 _=>?_;exact⟨_,z00,v2,v1,rfl,h2⟩
 rintro vs K1 _ ⟨dv,nv,rfl,h1⟩;obtain⟨db,dc,rfl⟩:∃b c,dv=.slice b R c:=by have:=(h1.row (zms)).sl;rwa[wh]at this
 obtain⟨nb,nc,rfl⟩:∃b c,nv=.slice b R c:=by have:=(h1.row (zmm _ (zms))).sl;rwa[wh]at this
 simp only[cns];refine ⟨fun n vs K=>∃(i:Nat) (l:List Int),vs=[nI i]∧i+n=R∧l.length=R∧Held S K [orow 3 l (.slice db R dc),orow 4 (List.replicate R false) (.slice nb R nc)]∧∀j,j < i→l[j]?=some (degN N [] (j:Int):Int),
  ⟨R,0,_,rfl,om,sM,h1,fun j h=>om⟩,?_⟩
 rintro n vs K2 _ ⟨i,l,rfl,hin,hl,h2,hd⟩;simp only[cns];refine⟨fun g=>?_,fun g=>?_⟩
 .simp only[ww,zdt]at g;obtain⟨hm,w,hw1,hw2,hw3⟩:=(hg.le h2.sh).look (i:Int);refine z1x (α:=Int) (m:=outM N) (v:=.map (some gr)) (i:Int) (.map none) zcr kIntK kr kr kr hm (by rw[hw1];exact hw2) z01 ?_;rw[hw1];obtain⟨wm,rfl⟩:∃wm,w=.map wm:=by cases w<;>simp[Tag.ok]at hw2;exact⟨_,rfl⟩
  have hdl:=Z3v ok [] (i:Int);have hdn:=Z48 N (i:Int);simp only[cns];refine Zei (m:=encS (adjN N (i:Int))) (v:=.map wm) rfl zfz kr (wu K2) hw3 (by simp[encS];omega) ?_;obtain⟨c,hc⟩:∃c,l[i]?=some c:=⟨_,zge om⟩;obtain⟨t1,_⟩:=(h2.row (zms)).get hc;refine⟨fun _=>?_,?_⟩
  .simp only[Chk.holds,ww];exact⟨t1,om,om⟩
  have hlen:(encS (adjN N (i:Int))).length=degN N [] (i:Int):=by rw[hdn];simp[encS]
  rw[hlen];refine z1f (i:=i) (a:=c) (a':=(degN N [] (i:Int):Int)) (us:=[vi (degN N [] (i:Int):Int)]) ?_ h2 hc rfl ?_ (by simp[oneC]) (z08 (by unfold InI;omega)) fun K3 h3=>?_
  .simp only[ww];rfl
  .simp only[ww]
  refine⟨_,z00,n-1,om,i+1,l.set i _,?_,om,by simpa using hl,h3,fun j hj=>?_⟩
  .simp only[ww];rw[w64 om om];rfl
  .rw[List.getElem?_set];by_cases e:i=j
   .subst e;rw[qj rfl,qj om]
   .rw[qc e];exact hd j om
 simp only[ww,zdf]at g;have hiR:i=R:=om;subst hiR;have h2e:=(h2.empty (α:=Int) 3);refine ⟨fun n vs K=>∃(st:List Int) (sv:Value) (l:List Int) (gn:List Bool) (S':PH),vs=[sv]∧n=i - st.length∧PH.le S S'∧Held S' K [orow 3 st sv,orow 3 l (.slice db i dc),orow 4 gn (.slice nb i nc)]∧st.Nodup∧(∀s:Int,s∈st→0≤s∧s < i)∧st.length≤i∧OrdOk N i k st∧l.length=i∧(∀j,j < i→l[j]?=some (degN N st (j:Int):Int))∧gn.length=i∧(∀j,j < i→gn[j]?=some (decide ((j:Int)∈st)))∧ordG (fun g u=>(degN N g u:Int)) i k (i - st.length) st=ordG (fun g u=>(degN N g u:Int)) i k i [],
  ⟨i,[],.slice none 0 0,l,List.replicate i false,S,rfl,rfl,wu S,h2e,List.nodup_nil,fun s h=>(by cases h),sM,fun t s h=>(by simp at h),hl,hd,sM,fun j hj=>by rw[List.getElem?_replicate,qj hj];simp,rfl⟩,?_⟩
 rintro n vs K3 _ ⟨st,sv,l3,gn,S3,rfl,rfl,le3,h3,hnd,hrg,hstl,hord,hl3,hd3,hgl,hgn,hG⟩;obtain⟨sb,sc,rfl⟩:=(h3.row (zms)).sl;simp only[cns];refine⟨fun g=>?_,fun g=>?_⟩;rotate_left
 .simp only[ww,zdf]at g;have hsl:st.length=i:=om;refine z02 (qb 174) (Z3y st _ S3 K3 _ h3 om) ?_;rintro x K4 ⟨rfl,h4⟩;refine⟨_,[],rfl,rfl,rfl,z01,?_⟩;obtain⟨S5,s5,l5,h5⟩:=h4.freeze;exact⟨wt le3 (wt l5 h5.sh),st,_,rfl,s5.le h5.sh,hnd,hsl,hrg,hord,by rw[←hG,hsl,Nat.sub_self];rfl⟩
 simp only[ww,zdt]at g;have hsl:st.length<i:=om;obtain⟨j0,hj0,hj0n⟩:=Zc8 hnd hrg hsl;have hdeg:∀j,degN N st j≤i:=fun j=>Z3v ok st j;have rdD:∀j,j<i→(z09 (.slice db i dc)).isSome=true∧rowAt K3 (pOf (eltV (.slice db i dc) (j:Int) 1)) [vi (degN N st (j:Int):Int)]:=fun j hj=>by
  obtain⟨t1,_,tcs,t2,t3⟩:=(h3.row (zmm _ (zms))).get (hd3 j hj);obtain⟨rfl,_⟩:=csIK t2;exact⟨t1,t3⟩
 have rdG:∀j,j<i→(z09 (.slice nb i nc)).isSome=true∧rowAt K3 (pOf (eltV (.slice nb i nc) (j:Int) 1)) [.bool (decide ((j:Int)∈st))]:=fun j hj=>by
  obtain⟨t1,_,tcs,t2,t3⟩:=(h3.row (zmm _ (zmm _ (zms)))).get (hgn j hj);rw[csBK t2]at t3;exact⟨t1,t3⟩
 obtain⟨bst,hbst⟩:∃b,b=seekG (fun r=>(degN N st r:Int)) (fun r=>decide (r∈st)) k (List.range i) (-1):=⟨_,rfl⟩;refine⟨fun vs K=>K=K3∧∃best:Nat,vs=[nI best]∧best<i∧(best:Int)∉st∧(best:Int)=bst∧((degN N st (best:Int):Int)<k∨∀u:Nat,u<i→(u:Int)∉st→k≤degN N st u),?_,?_⟩;rotate_left
 ·
  refine ⟨fun n vs K=>K=K3∧∃(best:Int) (r:Nat),vs=[vi best,nI r]∧r+n=i∧((best=-1∧∀j:Nat,j < r→(j:Int)∈st)∨(0≤best∧best < r∧best∉st))∧(∀u:Nat,u < r→(u:Int)∉st→k≤degN N st u)∧seekG (fun r=>(degN N st r:Int)) (fun r=>decide (r∈st)) k ((List.range i).drop r) best=bst,
   ⟨i,rfl,-1,0,rfl,om,.inl ⟨rfl,fun j h=>om⟩,fun u h=>om,hbst.symm⟩,?_⟩
  rintro n vs K _ ⟨rfl,best,r,rfl,hrn,hbest,hall,hseek⟩;simp only[cns];refine⟨fun g2=>?_,fun g2=>?_⟩;rotate_left
  .simp only[ww,zdf]at g2;have hri:r=i:=om;subst hri;rcases hbest with⟨_,hb⟩|⟨hb1,hb2,hb3⟩
   .exact absurd (hb j0 hj0) hj0n
   .obtain⟨bn,rfl⟩:∃bn:Nat,best=(bn:Int):=⟨best.toNat,om⟩;exact⟨_,z1a rfl z00,rfl,bn,rfl,om,hb3,by rw[←hseek,List.drop_of_length_le (by rw[wg];omega)];rfl,.inr hall⟩
  simp only[ww,zdt]at g2;have hri:r<i:=om;obtain⟨g3,g4⟩:=rdG r hri;obtain⟨d3,d4⟩:=rdD r hri;have hdr:=hdeg (r:Int);have hdrop:(List.range i).drop r=r::(List.range i).drop (r+1):=by
   rw[←List.getElem_cons_drop (by rw[wg];omega:r<(List.range i).length),List.getElem_range]
  rw[hdrop,seekG]at hseek;refine⟨fun vs K'=>K'=K∧∃best':Int,vs=[vi best']∧((best'=-1∧∀j:Nat,j<r+1→(j:Int)∈st)∨(0≤best'∧best'<(r+1:Nat)∧best'∉st))∧(∀u:Nat,u<r+1→(u:Int)∉st→k≤degN N st u)∧seekG (fun r=>(degN N st r:Int)) (fun r=>decide (r∈st)) k ((List.range i).drop (r+1)) best'=bst,?_,fun _=>?_,[.bool (decide ((r:Int)∈st))],rfl,?_,fun g5=>?_,fun g5=>?_⟩
  .rintro vs K' _ ⟨rfl,best',rfl,hb',hall',hsk'⟩;refine⟨_,z00,n-1,om,rfl,best',r+1,?_,om,hb',hall',hsk'⟩;simp only[ww];rw[w64 om om];rfl
  .simp only[Chk.holds,ww];exact⟨g3,om,om⟩
  .simp only[ww];exact g4
  .simp only[ww,zdt]at g5;rw[qj (by simpa using g5)]at hseek;refine⟨_,z00,rfl,best,rfl,?_,fun u hu hn=>?_,hseek⟩
   .rcases hbest with⟨h1,h2⟩|⟨h1,h2,h3⟩
    .refine .inl ⟨h1,fun j hj=>?_⟩;by_cases e:j=r
     .subst e;exact g5
     .exact h2 j om
    .exact .inr ⟨h1,om,h3⟩
   .by_cases e:u=r
    .subst e;exact absurd g5 hn
    .exact hall u om hn
  simp only[ww,zdf]at g5;rw[qc (by simpa using g5)]at hseek;simp only[cns];refine⟨fun _=>?_,[vi (degN N st (r:Int):Int)],rfl,?_,fun g6=>?_,fun g6=>?_⟩
  .simp only[Chk.holds,ww];exact⟨d3,om,om⟩
  .simp only[ww];exact d4
  .simp only[ww,zdt]at g6;rw[qj g6]at hseek;exact⟨_,z1a rfl (z1a rfl z00),rfl,r,rfl,hri,g5,hseek,.inl g6⟩
  simp only[ww,zdf]at g6;rw[qc g6]at hseek;simp only[cns];have hall':∀u:Nat,u<r+1→(u:Int)∉st→k≤degN N st u:=fun u hu hn=>by
   by_cases e:u=r
   .subst e;omega
   .exact hall u om hn
  refine⟨fun vs K'=>K'=K∧∃t:Bool,vs=[.bool t]∧t=decide (best<0∨(degN N st best:Int)<degN N st (r:Int)),?_,fun g7=>?_,fun g7=>?_,fun g7=>?_⟩
  .rintro vs K' _ ⟨rfl,t,rfl,ht0⟩;have ht:best<0→t=true:=fun h=>by rw[ht0];simp[h]
   refine⟨_,z00,rfl,if t then(r:Int)else best,?_,?_,hall',?_⟩
   .simp only[ww];cases t<;>rfl
   .cases t with
    |true=>exact .inr ⟨sM,by simp;omega,g5⟩
    |false=>
     simp only[qp,if_false];rcases hbest with⟨h1,h2⟩|⟨h1,h2,h3⟩
     .have:=ht om;cases this
     .exact .inr ⟨h1,om,h3⟩
   .rw[←hseek,ht0];by_cases hc:best<0∨(degN N st best:Int)<degN N st (r:Int)
    .rw[qj hc,qW hc];rfl
    .rw[qc hc,qX hc];rfl
  .rcases hbest with⟨h1,h2⟩|⟨h1,h2,h3⟩
   .have:=g7 ((.cmp .lss (.atom 7) (.int .i64 0)),false) (zms);subst h1;simp[ev]at this;simp[ww]at this
   .simp only[Chk.holds,ww];exact⟨d3,om,om⟩
  .simp only[ww,zdt]at g7;exact⟨_,z00,rfl,true,rfl,by simp[g7]⟩
  .simp only[ww,zdf]at g7;rcases hbest with⟨h1,h2⟩|⟨h1,h2,h3⟩
   .omega
   obtain⟨bn,rfl⟩:∃bn:Nat,best=(bn:Int):=⟨best.toNat,om⟩;obtain⟨e3,e4⟩:=rdD bn om;refine⟨[vi (degN N st (r:Int):Int)],rfl,?_,[vi (degN N st (bn:Int):Int)],rfl,?_,_,z00,rfl,decide ((degN N st (bn:Int):Int)<(degN N st (r:Int):Int)),?_,by simp;omega⟩
   .simp only[ww];exact d4
   .simp only[ww];exact e4
   .simp only[ww,gt_iff_lt]
 rintro vs K _ ⟨rfl,best,rfl,hbi,hbn,hbst',hbd⟩;simp only[cns];obtain⟨g3,g4⟩:=rdG best hbi;refine⟨fun _=>?_,?_⟩
 .simp only[Chk.holds,ww];exact⟨g3,om,om⟩
 have hp1:[orow 3 st (.slice sb st.length sc),orow 3 l3 (.slice db i dc),orow 4 gn (.slice nb i nc)].Perm [orow 4 gn (.slice nb i nc),orow 3 st (.slice sb st.length sc),orow 3 l3 (.slice db i dc)]:=
  List.perm_append_comm (l₁:=[orow 3 st (.slice sb st.length sc),orow 3 l3 (.slice db i dc)]) (l₂:=[orow 4 gn (.slice nb i nc)])
 refine z1f (i:=best) (a':=true) (us:=[.bool true]) ?_ (h3.perm hp1) (hgn best hbi) rfl ?_ (by simp[oneC]) zfy fun K4 h4=>?_
 .simp only[ww];rfl
 .simp only[ww]
 refine z15 (more:=[(best:Int)]) (b:=8) [vi (best:Int)] z0j z0i rfl dC dC (h4.perm (qq _ _ _)) kr (.cons (z08 (by unfold InI;omega)) .nil) z01 (fun _=>kr) (fun _=>kr)
  (by simp only[maxLen,zlc,zln];omega) (by simp only[zlc,zln];omega) fun u v5 S5 K5 l5 h5=>⟨z01,?_⟩
 obtain⟨sb5,sc5,rfl⟩:=(h5.row (zms)).sl;simp only[cns];have le5:=wt le3 l5;obtain⟨hm,w,hw1,hw2,hw3⟩:=(hg.le le5).look (best:Int);refine z1x (α:=Int) (m:=outM N) (v:=.map (some gr)) (best:Int) (.map none) zcr kIntK kr kr kr (MapR.le hm h5.sh) (by rw[hw1];exact hw2) z01 ?_;rw[hw1];obtain⟨wm,rfl⟩:∃wm,w=.map wm:=by cases w<;>simp[Tag.ok]at hw2;exact⟨_,rfl⟩
 simp only[cns];have hst5:(st++[(best:Int)]).length=st.length+1:=sM;refine zx1 (m:=encS (adjN N (best:Int))) (v:=.map wm) rfl rfl zfz kr h5.sh hw3 (fun y hy=>by obtain⟨z,_,rfl⟩:=zmp.1 hy;rfl) rfl
  (fun done vs K i' o=>∃l:List Int,vs=[]∧l.length=i∧Held S5 K [.blk i' o,orow 3 l (.slice db i dc),orow 3 (st++[(best:Int)]) (.slice sb5 (st++[(best:Int)]).length sc5),orow 4 (gn.set best true) (.slice nb i nc)]∧∀j,j<i→l[j]?=some ((degN N st (j:Int):Int)-(if(j:Int)∈done then 1 else 0)))
  (fun i' o hi'=>⟨l3,rfl,hl3,?_,fun j hj=>by rw[hd3 j hj];simp⟩) ?_ ?_ ?_ ?_
 .refine(h5.new hi' o).perm (List.Perm.cons _ ?_);exact(List.perm_append_comm (l₁:=[orow 3 (st++[(best:Int)]) (.slice sb5 (st++[(best:Int)]).length sc5),orow 4 (gn.set best true) (.slice nb i nc)]) (l₂:=[orow 3 l3 (.slice db i dc)]))
 .rintro done vs K i' o ⟨l,rfl,hl,h,_⟩;exact⟨h.blk (zms),h.sh⟩
 .rintro done vs K i' o o' ⟨l,rfl,hl,h,hd⟩;exact⟨l,rfl,hl,h.put o',hd⟩
 .rintro done y wv vs K6 i' o J hy hyd _ ⟨l,rfl,hl6,h6,hd6⟩ hJ;obtain⟨y',hy',hyy⟩:=zmp.1 hy;simp only[Prod.mk.injEq]at hyy;obtain⟨rfl,rfl⟩:=hyy;obtain⟨hr1,hr2,_,_,hr3,hr4⟩:=ok.rel _ _ hy';obtain⟨yn,rfl⟩:∃yn:Nat,y'=(yn:Int):=⟨y'.toNat,om⟩;have hyi:yn<i:=om;have hgy:=hd6 yn hyi;rw[qc hyd,Int.sub_zero]at hgy;obtain⟨t1,_,tcs,t2,t3⟩:=(h6.row (zmm _ (zms))).get hgy;obtain⟨rfl,_⟩:=csIK t2;simp only[cns];have hpos:=Z7x (N:=N) (g:=st) hbn hr1;have hdy:=hdeg (yn:Int);refine⟨fun _=>?_,[vi (degN N st (yn:Int):Int)],rfl,?_,?_⟩
  .simp only[Chk.holds,ww];exact⟨t1,om,om⟩
  .simp only[ww];exact t3
  refine z1f (i:=yn) (a':=(degN N st (yn:Int):Int)-1) (us:=[vi ((degN N st (yn:Int):Int)-1)]) ?_ (h6.perm (qq _ _ _)) hgy rfl ?_ (by simp[oneC]) (z08 (by unfold InI;omega)) fun K7 h7=>?_
  .simp only[ww];rfl
  .simp only[ww];rw[w64 om om]
  refine⟨_,z00,hJ _ _ ⟨l.set yn _,rfl,by simpa using hl6,h7.perm (qq _ _ _),fun j hj=>?_⟩⟩;rw[List.getElem?_set];by_cases e:yn=j
  .subst e;rw[qj rfl,qj om,qj (zms)]
  .rw[qc e,hd6 j hj];have h1:((j:Int)∈(yn:Int)::done)↔(j:Int)∈done:=by rw[zmc];exact⟨fun h=>h.elim (fun h=>absurd (Int.ofNat_inj.1 h).symm e) id,.inr⟩
   simp only[h1]
 .rintro done vs K6 i' o J hdone _ _ ⟨l,rfl,hl6,h6,hd6⟩;have hdone':∀y,y∈done↔y∈adjN N (best:Int):=fun y=>by
   rw[←hdone,List.map_map];simp only[Function.comp_def,List.map_id']
  refine⟨_,z1a rfl z00,i-(st.length+1),om,st++[(best:Int)],_,l,gn.set best true,S5,rfl,by rw[hst5],le5,h6.tail.perm (qq _ _ _),?_,?_,om,?_,hl6,fun j hj=>?_,by simpa using hgl,fun j hj=>?_,?_⟩
  .rw[List.nodup_append];exact⟨hnd,sM,fun a ha b hb=>by simp at hb;subst hb;exact fun e=>hbn (e▸ha)⟩
  .intro s hs;rcases zma.1 hs with hs|hs
   .exact hrg s hs
   .rw[zsi.1 hs];omega
  .intro t s hts;by_cases ht:t<st.length
   .rw[List.getElem?_append_left ht]at hts;rw[List.take_append_of_le_length om];exact hord t s hts
   .have:t=st.length:=by
     have:=(zgi.1 hts).1;omega
    subst this;rw[List.getElem?_append_right (wa _),Nat.sub_self]at hts;simp at hts;subst hts;rw[List.take_left']
    .exact hbd
    .rfl
  .rw[hd6 j hj,Ze8 ok hbn];have hiff:(j:Int)∈done↔(best:Int)∈adjN N (j:Int):=by
    rw[hdone'];exact⟨fun h=>(ok.rel _ _ h).1,fun h=>(ok.rel _ _ h).1⟩
   by_cases h:(j:Int)∈done
   .have hpos:=Z7x (N:=N) (g:=st) hbn (hiff.1 h);rw[qj h,qj (hiff.1 h)];congr 1;omega
   .rw[qc h,qc (fun hh=>h (hiff.2 hh))];simp
  .rw[List.getElem?_set];by_cases e:best=j
   .subst e;rw[qj rfl,qj om];simp
   .rw[qc e,hgn j hj];congr 2;simp only[zma,zsi,eq_iff_iff];exact⟨.inl,fun h=>h.elim id fun h=>absurd (Int.ofNat_inj.1 h).symm e⟩
  .rw[←hG];obtain⟨m,hm⟩:∃m,i-st.length=m+1:=⟨i-st.length-1,om⟩;rw[hm,ordG,show i-(st++[(best:Int)]).length=m by rw[hst5];omega,hbst',hbst]
def zh6(tk:Int→Bool):Nat→Nat→Nat
 |0,j=>j
 |f+1,j=>if tk (j:Int)=true then zh6 tk f (j+1)else j
def putG(tk:List Int→Int→Int→Bool)(fuel:Nat)(s:List Int×Int)(r:Int):List Int×Int:=
 (s.1.set r.toNat (zh6 (tk s.1 r) fuel 0:Int),if((zh6 (tk s.1 r) fuel 0:Nat):Int)+1>s.2 then((zh6 (tk s.1 r) fuel 0:Nat):Int)+1 else s.2)
def colG(deg:List Int→Int→Int)(tk:List Int→Int→Int→Bool)(R:Nat)(k:Int):List Int×Int:=(ordG deg R k R []).reverse.foldl (putG tk (R+1)) (List.replicate R (-1),k)
open Classical in
noncomputable def degP(p:PrcX)(g:List Int)(u:Int):Int:=(((List.range p.regs.toNat).filter fun d:Nat=>decide (u≠d∧MeetP p u d)&&decide ((d:Int)∉g)).length:Int)
open Classical in
noncomputable def tkP(p:PrcX)(pl:List Int)(r x:Int):Bool:=(List.range p.regs.toNat).any fun q:Nat=>decide (r≠q∧MeetP p r q)&&decide (plAt pl q=x)
noncomputable def colP(p:PrcX)(k:Int):List Int×Int:=colG (degP p) (tkP p) p.regs.toNat k
def tkN(N:List (Int×GN))(pl:List Int)(r x:Int):Bool:=(adjN N r).any fun q=>decide (plAt pl q=x)
theorem zys(N:List (Int×GN))(pl:List Int)(r x:Int):tkN N pl r x=true↔∃q∈adjN N r,plAt pl q=x:=by
 unfold tkN;simp only[wj,zdt]
theorem Z0l{tk:Int→Bool}{j:Nat}:∀{f a:Nat},(∀x:Nat,a≤x→x<j→tk (x:Int)=true)→tk (j:Int)=false→a≤j→j<a+f→zh6 tk f a=j
 |0,a,_,_,h1,h2=>absurd h2 om
 |f+1,a,h,hj,h1,h2=>by
  rw[zh6];by_cases e:a=j
  .subst e;rw[qc (by rw[hj];simp)]
  .rw[qj (h a (wa _) om)];exact Z0l (fun x hx hxj=>h x om hxj) hj om om
theorem Zgp{p:PrcX}{N:List (Int×GN)}{R:Nat}{k:Int}(hR:p.regs=(R:Int))(ok:GraphOk R N)(hadj:∀a b,b∈adjN N a↔a≠b∧MeetP p a b):colP p k=(ordG (fun g u=>(degN N g u:Int)) R k R []).reverse.foldl (putG (tkN N) (R+1)) (List.replicate R (-1),k):=by
 classical
 have hRt:p.regs.toNat=R:=om;have hd:degP p=fun g u=>(degN N g u:Int):=by
  funext g u
  unfold degP degN;rw[hRt];congr 1;refine Nat.le_antisymm ?_ ?_
  .have h1:(((List.range R).filter fun d:Nat=>decide (u≠d∧MeetP p u d) && decide ((d:Int)∉g)).map Int.ofNat).length≤((adjN N u).filter fun d=>decide (d∉g)).length:=z0m (by
    rw[List.Nodup,List.pairwise_map];exact((List.nodup_range (n:=R)).sublist List.filter_sublist).imp fun h e=>h (Int.ofNat.inj e)) fun y hy=>by
     obtain⟨d,hd,rfl⟩:=zmp.1 hy;obtain⟨_,hd⟩:=zmf.1 hd;simp only[zba,zdt]at hd;exact zmf.2 ⟨(hadj u _).2 hd.1,by simpa using hd.2⟩
   rwa[zlm]at h1
  .have h1:((adjN N u).filter fun d=>decide (d∉g)).length≤(((List.range R).filter fun d:Nat=>decide (u≠d∧MeetP p u d)&&decide ((d:Int)∉g)).map Int.ofNat).length:=z0m ((ok.nd u).sublist List.filter_sublist) fun y hy=>by
    obtain⟨h2,h3⟩:=zmf.1 hy;have h4:=ok.rel u y h2;refine zmp.2 ⟨y.toNat,zmf.2 ⟨we.2 om,?_⟩,show((y.toNat:Nat):Int)=y by omega⟩;have h5:=(hadj u y).1 h2;have hy':((y.toNat:Nat):Int)=y:=om;simp only[zba,zdt,hy'];exact⟨h5,by simpa using h3⟩
   rwa[zlm]at h1
 have ht:tkP p=tkN N:=by
  funext pl r x
  rw[Bool.eq_iff_iff,zys];unfold tkP;rw[hRt];simp only[wj,zba,zdt,we];constructor
  .rintro⟨q,_,h1,h2⟩;exact⟨q,(hadj r q).2 h1,h2⟩
  .rintro⟨q,h1,h2⟩;have h4:=ok.rel r q h1;have hq:((q.toNat:Nat):Int)=q:=om;exact⟨q.toNat,om,by rw[hq];exact(hadj r q).1 h1,by rw[hq];exact h2⟩
 unfold colP colG;rw[hd,ht,hRt]
theorem Z9x(p:PrcX)(k:Int)(bv:Value)(S:PH)(hbv:SlR S p.blocks bv)(hw:p.Fit∧∀b∈p.blocks,b.e.args.length≤20000000):
  Tri zP 81 #[.agg (prcVs p bv).toArray,vi k] S fun x S'=>PH.le S S'∧(((k<1∨24<k)∧x=.returned (.tuple #[.slice none 0 0,vi 0,vi 1]))∨((1≤k∧k≤24)∧mayP p=false∧x=.returned (.tuple #[.slice none 0 0,vi 0,vi 150]))∨((1≤k∧k≤24)∧mayP p=true∧∃l v n,x=.returned (.tuple #[v,vi n,vi 0])∧SlR S' l v∧Placed p k n l∧l=(colP p k).1∧n=(colP p k).2-k)):=by
 obtain⟨hp,hE⟩:=hw;obtain⟨b0,c0,rfl⟩:=hbv.sl;refine qr zuw (prcVs p (.slice b0 p.blocks.length c0)++[vi k]) ?_;simp only[prcVs,cns];refine⟨fun g=>?_,fun g=>?_⟩
 .simp only[ww]at g;simp only[qu,zdt]at g;exact⟨wu _,.inl ⟨om,rfl⟩⟩
 simp only[ww,zof,zdf]at g;have hk:1≤k∧k≤24:=om;refine z03 [.bool (mayP p)] (qb 121) (Zcr p (.slice b0 p.blocks.length c0) S hbv hp hE) rfl z01 fun K1 l1=>⟨fun g=>?_,fun g=>?_⟩
 .simp only[ww]at g;have hm:mayP p=false:=by simpa using g
  exact⟨l1,.inr (.inl ⟨hk,hm,rfl⟩)⟩
 simp only[ww]at g;have hmay:mayP p=true:=by simpa using g
 obtain⟨hr0,hr1,_,_,hne⟩:=Z50 hmay;refine z02 (qb 122) (Zdg p (.slice b0 p.blocks.length c0) K1 (hbv.le l1) ⟨hp,hE⟩ hmay) ?_;rintro x K2 ⟨S1,gr,es,cl,N,l2,rfl,h2,gok,rel⟩;refine⟨_,[.map (some gr)],rfl,rfl,rfl,z01,?_⟩;obtain⟨S3,l3,l3',hg⟩:=Z6x h2 gok;obtain⟨R,hRi⟩:∃R:Nat,p.regs=(R:Int):=⟨p.regs.toNat,om⟩;have hR2:R≤2000:=om;obtain⟨ok,hadj⟩:=Z9v hRi hmay hg rel;rw[hRi];simp only[cns];refine z0h (α:=Int) (l:=[(-1:Int)]) (b:=8) [vi (-1)] z0j z0i rfl dC dC (Held.nil l3') kr (.cons (z08 (by unfold InI;omega)) .nil) z01 fun v4 K4 h4 _ _=>?_;obtain⟨S4,s4,l4,h4⟩:=h4.freeze;simp only[cns];refine z02 (qb 123) (Zad R hR2 (-1) v4 K4 (s4.le h4.sh)) ?_;rintro x K5 ⟨pv5,rfl,h5⟩;obtain⟨pb,pc,rfl⟩:∃b c,pv5=.slice b R c:=by have:=(h5.row (zms)).sl;rwa[wh]at this
 refine⟨_,[.slice pb R pc],rfl,rfl,rfl,z01,?_⟩;have l04:PH.le S K4:=wt l1 (wt l2 (wt l3 (wt l4 h4.sh)));have hg4:GraphR K4 (.map (some gr)) N:=hg.le (wt l4 h4.sh);simp only[cns];refine z02 (qb 124) (h5.pure (R:=fun x S'=>∃(st:List Int)(v:Value),x=.returned v∧SlR S' st.reverse v∧st.Nodup∧st.length=R∧(∀s:Int,s∈st→0≤s∧s<R)∧OrdOk N R k st∧st=ordG (fun g u=>(degN N g u:Int)) R k R []) (Z8v R hR2 k (.map (some gr)) N K4 hg4 ok)) ?_;rintro x K6 ⟨S6,l6,h6,st,ov,rfl,hov,hnd,hstl,hrg,hord,hstG⟩;obtain⟨ob,oc,rfl⟩:∃b c,ov=.slice b R c:=by have:=hov.sl;rwa[List.length_reverse,hstl]at this
 refine⟨_,[.slice ob R oc],rfl,rfl,rfl,z01,?_⟩;simp only[cns];have hg6:GraphR S6 (.map (some gr)) N:=hg4.le l6;refine ⟨fun n vs K=>∃(i:Nat) (pl:List Int) (most:Int) (S':PH),vs=[vi most,nI i]∧i+n=R∧PH.le S6 S'∧Held S' K [orow 3 pl (.slice pb R pc)]∧ColOk N R k st i pl most∧(st.reverse.take i).foldl (putG (tkN N) (R+1)) (List.replicate R (-1),k)=(pl,most),
  ⟨R,0,List.replicate R (-1),k,S6,rfl,om,wu _,h6,⟨sM,fun r hr _=>by rw [List.getElem?_replicate,qj hr],fun r a _ h=>by simp at h,fun r q a h1 _ h3=>(by
   rw[List.getElem?_replicate]at h1;split at h1
   .cases h1;omega
   .cases h1),om,om,fun s h1 h2=>om,fun h=>om,fun r a h1=>(by
   rw[List.getElem?_replicate]at h1;split at h1
   .cases h1;omega
   .cases h1)⟩,rfl⟩,?_⟩
 rintro n vs K7 _ ⟨i,pl,most,S7,rfl,hin,l7,h7,hcol,hfold⟩;simp only[cns];have hm1:=hcol.lo;have hm2:=hcol.hi;refine⟨fun g=>?_,fun g=>?_⟩;rotate_left
 .simp only[ww,zdf]at g;have:i=R:=om;subst this;obtain⟨S8,s8,l8,h8⟩:=h7.freeze;refine⟨wt l04 (wt l6 (wt l7 (wt l8 h8.sh))),.inr (.inr ⟨hk,hmay,pl,.slice pb i pc,most-k,?_,s8.le h8.sh,Zb1 hRi hR2 ok hadj hnd hstl hrg hcol,?_,?_⟩)⟩
  .show Ending.returned (.tuple #[.slice pb i pc,vi (IntKind.i64.wrap (most-k)),vi 0])=_;rw[w64 om om]
  all_goals
   have hcp:=Zgp (k:=k) hRi ok hadj;rw[←hstG]at hcp;rw[ztl (by rw[List.length_reverse];omega)]at hfold;rw[hfold]at hcp;rw[hcp]
 simp only[ww,zdt]at g;have hiR:i<R:=om;obtain⟨r',hr'⟩:∃r,st.reverse[i]?=some r:=⟨_,zge (by rw[List.length_reverse];omega)⟩;have hrr:=hrg r' (List.mem_reverse.1 (zmg hr'));obtain⟨r,rfl⟩:∃r:Nat,r'=(r:Int):=⟨r'.toNat,om⟩;have hrR:r<R:=om;obtain⟨t1,_,tcs,t2,t3⟩:=(hov.le (wt l7 h7.sh)).get hr';obtain⟨rfl,_⟩:=csIK t2;refine⟨fun _=>?_,[vi (r:Int)],rfl,?_,?_⟩
 .simp only[Chk.holds,ww];exact⟨t1,om,om⟩
 .simp only[ww];exact t3
 refine z4x fun tr htr=>?_;have h8:=h7.new htr (.map #[] 0);simp only[cns];obtain⟨hm,w,hw1,hw2,hw3⟩:=(hg6.le l7).look (r:Int);refine z1x (α:=Int) (m:=outM N) (v:=.map (some gr)) (r:Int) (.map none) zcr kIntK kr kr kr (MapR.le hm h8.sh) (by rw[hw1];exact hw2) z01 ?_;rw[hw1];obtain⟨wm,rfl⟩:∃wm,w=.map wm:=by cases w<;>simp[Tag.ok]at hw2;exact⟨_,rfl⟩
 simp only[cns];refine zx1 (m:=encS (adjN N (r:Int))) (v:=.map wm) rfl rfl zfz kr h8.sh hw3 (fun y hy=>by obtain⟨z,_,rfl⟩:=zmp.1 hy;rfl) rfl
  (fun done vs K i' o=>∃(es:Array MapEntry)(cl:Nat)(s:List Int),vs=[]∧SetAt es cl s∧(∀y,y∈s↔∃q∈done,plAt pl q=y)∧Held S7 K [.blk i' o,.blk tr (.map es cl),orow 3 pl (.slice pb R pc)])
  (fun i' o hi'=>⟨#[],0,[],rfl,zjj,fun y=>sM,h8.new hi' o⟩) ?_ ?_ ?_ ?_
 .rintro done vs K i' o ⟨es,cl,s,rfl,hset,hs,h⟩;exact⟨h.blk (zms),h.sh⟩
 .rintro done vs K i' o o' ⟨es,cl,s,rfl,hset,hs,h⟩;exact⟨es,cl,s,rfl,hset,hs,h.put o'⟩
 .rintro done y wv vs K9 i' o J hy hyd _ ⟨es9,cl9,s,rfl,hset,hs,h9⟩ hJ;obtain⟨y',hy',hyy⟩:=zmp.1 hy;simp only[Prod.mk.injEq]at hyy;obtain⟨rfl,rfl⟩:=hyy;obtain⟨_,_,_,_,hr3,hr4⟩:=ok.rel _ _ hy';obtain⟨yn,rfl⟩:∃yn:Nat,y'=(yn:Int):=⟨y'.toNat,om⟩;have hgy:=Z06 (pl:=pl) (q:=yn) (by rw[hcol.len];omega);obtain⟨u1,_,ucs,u2,u3⟩:=(h9.row (zmm _ (zmm _ (zms)))).get hgy;obtain⟨rfl,_⟩:=csIK u2;simp only[cns];refine⟨fun _=>?_,[vi (plAt pl (yn:Int))],rfl,?_,?_⟩
  .simp only[Chk.holds,ww];exact⟨u1,om,om⟩
  .simp only[ww];exact u3
  refine z1s (α:=Int) (m:=encS s) (r:=tr) (es:=es9) (clock:=cl9) (plAt pl (yn:Int)) (vi 1) zfz kIntK kr kr kr (h9.blk (zmm _ (zms))) hset fun es3 cl3 he3=>?_;rw[zor]at he3;have h10:=((h9.perm (qq _ _ _)).put (.map es3 cl3)).perm (qq _ _ _);refine⟨_,z00,hJ _ _ ⟨es3,cl3,_,rfl,he3,fun z=>?_,h10⟩⟩;rw[znv,hs];constructor
  .rintro(⟨q,hq,h⟩|rfl)
   .exact⟨q,zmm _ hq,h⟩
   .exact⟨_,zms,rfl⟩
  .rintro⟨q,hq,h⟩;rcases zmc.1 hq with rfl|hq
   .exact .inr h.symm
   .exact .inl ⟨q,hq,h⟩
 .rintro done vs K9 i' o J hdone _ _ ⟨es9,cl9,s,rfl,hset,hs,h9⟩;have hdone':∀y,y∈done↔y∈adjN N (r:Int):=fun y=>by
   rw[←hdone,List.map_map];simp only[Function.comp_def,List.map_id']
  have hs':∀y,y∈s↔∃q∈adjN N (r:Int),plAt pl q=y:=fun y=>by
   rw[hs];exact⟨fun⟨q,h1,h2⟩=>⟨q,(hdone' q).1 h1,h2⟩,fun⟨q,h1,h2⟩=>⟨q,(hdone' q).2 h1,h2⟩⟩
  have hsl:s.length≤R:=by
   have h1:s.length≤((adjN N (r:Int)).map (plAt pl)).length:=z0m hset.nodup fun y hy=>by
    obtain⟨q,h1,h2⟩:=(hs' y).1 hy;exact zmp.2 ⟨q,h1,h2⟩
   rw[zlm]at h1;have h2:=Z3v ok [] (r:Int);rw[Z48]at h2;omega
  have hjl:∀j:Nat,(∀x:Nat,x<j→(x:Int)∈s)→j≤s.length:=fun j hj=>by
   have h1:((List.range j).map Int.ofNat).length≤s.length:=z0m (zny j) fun y hy=>by
    obtain⟨x,hx,rfl⟩:=zmp.1 hy;exact hj x (we.1 hx)
   rwa[zlm,wg]at h1
  simp only[cns,zan];refine⟨fun n vs K=>K=K9∧∃j:Nat,vs=[nI j]∧n=s.length-j∧∀x:Nat,x<j→(x:Int)∈s,⟨s.length,rfl,0,rfl,rfl,fun x h=>om⟩,?_⟩;rintro n2 vs K _ ⟨rfl,j,rfl,rfl,hj⟩;simp only[cns];have hjs:=hjl j hj;have hb9:K tr=some (.map es9 cl9):=h9.blk (zmm _ (zms));refine z1x (α:=Int) (m:=encS s) (v:=.map (some tr)) (j:Int) (vi 0) zfz kIntK kr kr kr ⟨tr,es9,cl9,rfl,hb9,hset⟩ (by rw[zrb];split<;>rfl) z01 ?_;rw[zrb];by_cases hin:(j:Int)∈s
  .rw[qj hin];simp only[Option.getD_some,cns];have hj2:=hjl (j+1) fun x hx=>by
    by_cases e:x=j
    .subst e;exact hin
    .exact hj x om
   refine⟨fun g2=>?_,fun g2=>?_⟩
   .refine⟨_,z00,s.length-(j+1),om,rfl,j+1,?_,rfl,fun x hx=>?_⟩
    .simp only[ww];rw[w64 om om];rfl
    .by_cases e:x=j
     .subst e;exact hin
     .exact hj x om
   .simp[ww]at g2
  .rw[qc hin];simp only[Option.getD_none,cns];refine⟨fun g2=>?_,fun g2=>?_⟩
   .simp[ww]at g2
   have hplr:∃c,pl[r]?=some c:=⟨_,zge (by rw[hcol.len];omega)⟩;obtain⟨c,hc⟩:=hplr;have h10:=h9.tail.tail;obtain⟨u1,_⟩:=(h10.row (zms)).get hc;refine⟨fun _=>?_,?_⟩
   .simp only[Chk.holds,ww];exact⟨u1,om,om⟩
   refine z1f (i:=r) (a:=c) (a':=(j:Int)) (us:=[vi (j:Int)]) ?_ h10 hc rfl ?_ (by simp[oneC]) (z08 (by unfold InI;omega)) fun K11 h11=>?_
   .simp only[ww];rfl
   .simp only[ww]
   have hstep:=Ze9 ok hk.1 hnd hstl hrg hord hcol hr' hrR (j:=j) (fun x hx=>(hs' _).1 (hj x hx)) (fun h=>hin ((hs' _).2 h)) om;refine⟨_,z1a rfl (z1a rfl z00),n-1,om,i+1,pl.set r (j:Int),_,S7,?_,om,l7,h11,hstep,?_⟩;rotate_left
   .rw[qZ,hr',List.foldl_append,hfold];show putG (tkN N) (R+1) (pl,most) (r:Int)=_;have hle:zh6 (tkN N pl (r:Int)) (R+1) 0=j:=Z0l (fun x _ hx=>(zys N pl _ _).2 ((hs' _).1 (hj x hx))) (by
     cases hq:tkN N pl (r:Int) (j:Int)with
     |false=>rfl
     |true=>exact absurd ((hs' _).2 ((zys N pl _ _).1 hq)) hin) (Nat.zero_le _) om
    unfold putG;rw[hle,qM]
   simp only[ww];rw[w64 (n:=(j:Int)+1) om om,w64 (n:=(i:Int)+1) om om];by_cases e:(j:Int)+1>most
   .simp[e]
   .simp[e]
theorem zqm(p:PrcX)(bv:Value)(S K:PH)(J:List Itm)(h:Held S K J)(hbv:SlR S p.blocks bv)(hp:p.Fit)(hE:∀b∈p.blocks,b.e.args.length≤20000000)(hm:mayP p=true):
  Tri zP 39 #[.agg (prcVs p bv).toArray] K fun e K'=>∃(S':PH)(rf:Nat)(pl:List Int)(pv:Value)(n:Int),e=.returned (pAt rf)∧PH.le S S'∧SlR S' pl pv∧Placed p 24 n pl∧pl=(colP p 24).1∧n=(colP p 24).2-24 ∧
   Held S' K' (bx rf 142 [.pointer none,vi p.params,vi p.holds,vi p.regs,bv,pv,vi n,.slice none 0 0,vi 0]::J):=by
 obtain⟨b0,c0,rfl⟩:=hbv.sl;refine qr zyf (prcVs p (.slice b0 p.blocks.length c0)) ?_;simp only[prcVs];refine z2r (vs:=[.pointer none,vi p.params,vi p.holds,vi p.regs,.slice b0 p.blocks.length c0,.slice none 0 0,vi 0,.slice none 0 0,vi 0]) h kr fun rf K1 _ h1=>?_;simp only[cns];refine z02 (qb 81) (h1.pure (R:=fun x S'=>((24<(1:Int)∨24<(24:Int))∧x=.returned (.tuple #[.slice none 0 0,vi 0,vi 1]))∨((1≤(24:Int)∧(24:Int)≤24)∧mayP p=false∧x=.returned (.tuple #[.slice none 0 0,vi 0,vi 150]))∨((1≤(24:Int)∧(24:Int)≤24)∧mayP p=true∧∃l v n,x=.returned (.tuple #[v,vi n,vi 0])∧SlR S' l v∧Placed p 24 n l∧l=(colP p 24).1∧n=(colP p 24).2-24)) (Z9x p 24 (.slice b0 p.blocks.length c0) S hbv ⟨hp,hE⟩)) ?_;rintro e K2 ⟨S2,l2,h2,h|⟨_,h,_⟩|⟨_,_,pl,pv,n,rfl,hpl,hpd,hq1,hq2⟩⟩
 .omega
 .rw[hm]at h;cases h
 obtain⟨pb,pc,hpv⟩:=hpl.sl;refine⟨_,[pv,vi n,vi 0],rfl,by rw[hpv];rfl,rfl,z01,fun _=>rfl,?_⟩;simp only[cns];refine z0d (off:=5) (vs:=[pv]) rfl h2 (by simp only[ww]) (by intro u hu;rw[zsi.1 hu,hpv];rfl) sM fun K3 h3=>?_;refine z0d (off:=6) (vs:=[vi n]) rfl h3 (by simp only[ww]) (by simp[oneC]) sM fun K4 h4=>?_;exact⟨S2,rf,pl,pv,n,rfl,l2,hpl,hpd,hq1,hq2,h4⟩
theorem Zd4{R:List MvR}{t fr:Int}(h:lkM R t=some fr):(dropM R t).length+1≤R.length:=by
 have hm:=zbv h
 induction R with
 |nil=>cases hm
 |cons a l ih=>
  unfold dropM;rw[qJ];by_cases e:a.to=t
  .rw[qc (by simp[e])];have:=List.length_filter_le (fun m:MvR=>decide (m.to≠t)) l;simp only[zlc];omega
  .rw[qj (by simpa using e)];have hl:lkM l t=some fr:=by
    unfold lkM at h⊢;rw[List.find?_cons]at h;simpa[e]using h
   have:=ih hl (zbv hl);unfold dropM at this;simp only[zlc];omega
theorem zp1:∀(k:Nat)(R:List MvR)(to:Int)(out:List MvR),(moveM k R to out).2.length+(moveM k R to out).1.length≤out.length+R.length
 |0,R,to,out=>wa _
 |k+1,R,to,out=>by
  rw[moveM];cases hl:lkM R to with
  |none=>exact wa _
  |some fr=>
   simp only;split
   .exact wa _
   .have h1:=Zd4 hl;have h2:=zp1 k (dropM R to) fr (out++[⟨to,fr⟩]);simp only[zla,zlc,zln]at h2;omega
theorem zvh:∀(l R out:List MvR),(freeM l R out).2.length+(freeM l R out).1.length≤out.length+R.length
 | [],R,out=>wa _
 |m::l,R,out=>by
  rw[freeM];have h1:=zp1 (R.length+1) R m.to out;have h2:=zvh l (moveM (R.length+1) R m.to out).1 (moveM (R.length+1) R m.to out).2;omega
theorem zrp(sp:Int):∀(l R out:List MvR),(z7m sp l R out).2.length+(z7m sp l R out).1.length≤out.length+R.length+l.length
 | [],R,out=>wa _
 |m::l,R,out=>by
  rw[z7m];have h2:=zrp sp l (ze0 sp m R out).1 (ze0 sp m R out).2;have h1:(ze0 sp m R out).2.length+(ze0 sp m R out).1.length≤out.length+R.length+1:=by
   unfold ze0;split
   .have:=zp1 (R.length+1) (turnM R (lastM R.length R m.to m.to) sp) m.to (out++[⟨sp,m.to⟩]);rw[Z3h]at this;simp only[zla,zlc,zln]at this;omega
   .simp
  simp only[zlc];omega
theorem Z8w(l:List MvR)(sp:Int):(zdr l sp).length≤2*l.length:=by
 unfold zdr;split
 .have h1:=zvh l (realM l) [];have h2:=zrp sp l (freeM l (realM l) []).1 (freeM l (realM l) []).2;have h3:(realM l).length≤l.length:=List.length_filter_le _ _;simp only[zln]at h1;omega
 .simp
def zs3(ms:List MvR):List ItemR:=ms.map fun m=>⟨0,⟨15,m.to,m.fr,0,0⟩,0,0⟩
def zbm(ms:List MvR):List ItemR:=zs3 (zdr ms 26)
section
variable {S0 K:PH}{x:FX}{pu nx:Int}{l l':List ItemR}{k k':Nat}{J:List Itm}
theorem GnH.pure{P:Program}{f:FuncId}{args:Array Value}{R:Ending→PH→Prop}(h:GnH S0 K x pu nx l k J)(ht:∀S,PH.le S0 S→Tri P f args S fun e S'=>PH.le S S'∧R e S'):Tri P f args K fun e K'=>∃S',PH.le S0 S'∧GnH S' K' x pu nx l k J∧R e S':=by
 obtain⟨⟨h1,S,iv,h2,h3⟩,h4,h5⟩:=h;refine(h3.pure (ht S h2)).mono ?_;rintro e K' ⟨S',l1,h6,h7⟩;exact⟨S',wt h2 l1,⟨⟨h1,S',iv,wu _,h6⟩,h4,h5⟩,h7⟩
theorem Z5e(ms:List MvR)(v:Value)(hv:SlR S0 ms v)(h0:GnH S0 K x pu nx l (k+2*ms.length) J):Tri zP 132 #[pAt x.rf,v] K (GnQ S0 x pu nx (l++zbm ms) k J):=by
 have hv0:=hv;obtain⟨vb,vc,rfl⟩:=hv.sl;refine qr zic [pAt x.rf,.slice vb ms.length vc] ?_;refine z02 (qb 179) (h0.pure (R:=fun e S'=>∃w err,e=.returned (.tuple #[w,vi err])∧SlR S' (zdr ms 26) w) fun S hS=>Zbu ms _ 26 S (hv0.le hS) dC) ?_;have hol:=Z8w ms 26;unfold zbm;rintro _ K1 ⟨S1,l1,h1,w,err,rfl,hw⟩;generalize zdr ms 26=o at hw hol⊢;have hw0:=hw;obtain⟨wb,wc,rfl⟩:=hw.sl;refine⟨_,[.slice wb o.length wc,vi err],rfl,rfl,rfl,z01,?_⟩;simp only[cns];refine⟨fun n vs K'=>∃i:Nat,i+n=o.length∧vs=[nI i]∧GnH S1 K' x pu nx (l++zs3 (o.take i)) (k+n) J,⟨o.length,0,om,rfl,by simpa[zs3]using h1.less om⟩,?_⟩;rintro n vs K2 _ ⟨i,hin,rfl,h2⟩;simp only[cns];refine⟨fun g=>?_,fun g=>?_⟩
 .simp only[ww,zdt]at g;obtain⟨m,hm⟩:∃m,o[i]?=some m:=⟨_,zge om⟩;obtain⟨x1,_,cs,x2,x3⟩:=hw0.get hm;obtain⟨rfl,q1,q2⟩:=mvR_iff.1 x2;obtain⟨j,rfl⟩:∃j,n=j+1:=⟨n-1,om⟩;refine⟨fun _=>⟨x1,by show(0:Int)≤(i:Int);omega,by show(i:Int)<(o.length:Int);omega⟩,[vi m.to,vi m.fr],rfl,z0t h2.sh x3,fun _=>rfl,[pAt x.rg],rfl,h2.frow 0 1,fun _=>rfl,?_⟩;simp only[cns];refine z05 (qb 56) ((h2.less (k':=k+j+1) om).to (zn2 m.to m.fr q1 q2)) fun K3 h3=>?_;have hw:IntKind.i64.wrap ((i:Int)+1)=((i+1:Nat):Int):=by
   have:=hw0.max;simp only[maxLen]at this;rw[w64 om om];rfl
  refine⟨_,z00,j,om,i+1,om,by simp only[ww,hw],?_⟩;rw[z4s hm];simpa[zs3]using h3
 .simp only[ww,zdf]at g;rw[ztl om]at h2;exact⟨rfl,(h2.less om).base l1⟩
end
noncomputable def z2h(p:PrcX)(place:List Int)(b:Int):List Int:=(z0w p b).filter fun r=>decide (place.getD r.toNat 0<24)
theorem znq{p:PrcX}(hp:p.Fit)(b:Int):(z0w p b).length≤20000000:=by
 have h0:=Z0d hp;unfold z0w;split
 .split
  .refine Nat.le_trans (List.length_filter_le _ _) ?_;unfold liveL;exact Nat.le_trans (List.length_filter_le _ _) h0
  .simp
 .simp
theorem zvr(place:List Int)(pv:Value)(rf:Nat)(r:Int)(K:PH)(hpl:SlR K place pv)(hrow:rowAt K (some ⟨rf,5,none⟩) [pv])(hr:0≤r∧r<place.length):Gives zP 126 [pAt rf,vi r] K (.bool (decide (place.getD r.toNat 0<24))):=by
 obtain⟨n,rfl⟩:∃n:Nat,r=(n:Int):=⟨r.toNat,om⟩;obtain⟨a,ha⟩:∃a,place[n]?=some a:=⟨_,zge om⟩;have hpl0:=hpl;obtain⟨b,c,rfl⟩:=hpl.sl;obtain⟨z1,_,cs,z2,z3⟩:=hpl0.get ha;obtain⟨rfl,_⟩:=csIK z2;rw[qM,zgd,ha];refine qr z6c [pAt rf,vi (n:Int)] ?_;refine⟨fun _=>rfl,[.slice b place.length c],rfl,hrow,fun _=>⟨z1,by show(0:Int)≤(n:Int);omega,by show(n:Int)<(place.length:Int);omega⟩,[vi a],rfl,z3,rfl,wu _⟩
abbrev zg2(gp:Value)(p:PrcX)(bv pv:Value)(slots:Int)(lv:Value)(pushed:Int):List Value:=[gp,vi p.params,vi p.holds,vi p.regs,bv,pv,vi slots,lv,vi pushed]
section
variable {p:PrcX}{bv pv lv gp:Value}{place:List Int}{rf:Nat}{slots pushed:Int}{S K:PH}{I:List Itm}
theorem zv8(h:Held S K I)(hi:bx rf 142 (zg2 gp p bv pv slots lv pushed)∈I)(hbv:SlR S p.blocks bv)(hpl:SlR S place pv)(hp:p.Fit)(hE:∀b∈p.blocks,b.e.args.length≤20000000)(b:Int)(hin:∀r∈z0w p b,0≤r∧r<place.length):
  Tri zP 82 #[pAt rf,vi b] K fun e K'=>∃S' v,PH.le S S'∧Held S' K' I∧SlR S' (z2h p place b) v∧e=.returned (.tuple #[v,.bool (decide (0<p.holds))]):=by
 have hal:=znq hp b;have hbv0:=hbv;obtain⟨bb,bc,rfl⟩:=hbv.sl;have row:∀{S' K':PH} {I':List Itm} (a n:Nat),Held S' K' I'→bx rf 142 (zg2 gp p (.slice bb p.blocks.length bc) pv slots lv pushed)∈I'→rowAt K' (some ⟨rf,a,none⟩) (((zg2 gp p (.slice bb p.blocks.length bc) pv slots lv pushed).drop a).take n):=fun a n hh hi=>z20 hh hi a n;refine qr zid [pAt rf,vi b] ?_;refine⟨fun _=>rfl,prcVs p (.slice bb p.blocks.length bc),rfl,row 1 4 h hi,?_⟩;simp only[prcVs,cns];refine z02 (qb 125) (h.pure (R:=fun x S'=>∃v,x=.returned v∧SlR S' (z0w p b) v) (zt5 p _ b S hbv0 hp hE)) ?_;rintro _ K1 ⟨S1,l1,h1,v,rfl,hv⟩;unfold z2h;generalize z0w p b=as_ at *;have hv0:=hv;obtain⟨vb,vc,rfl⟩:=hv.sl;refine⟨_,[.slice vb as_.length vc],rfl,rfl,rfl,z01,?_⟩;simp only[cns];have h1':=h1.empty (α:=Int) 3;refine⟨fun n vs K'=>∃(i:Nat)(u:Value)(S':PH),i+n=as_.length∧vs=[u,nI i]∧PH.le S1 S'∧Held S' K' (orow 3 ((as_.take i).filter fun r=>decide (place.getD r.toNat 0<24)) u::I),⟨as_.length,0,.slice none 0 0,S1,om,rfl,wu _,by simpa using h1'⟩,?_⟩;rintro n vs K2 _ ⟨i,u,S2,hin2,rfl,l2,h2⟩;simp only[cns];obtain⟨ub,uc,hu⟩:=(h2.row (zms)).sl;refine⟨fun g=>?_,fun g=>?_⟩
 .simp only[ww,zdt]at g;obtain⟨r,hr⟩:∃r,as_[i]?=some r:=⟨_,zge om⟩;obtain⟨ri,q,d⟩:=z3j hv0 i r hr;have hrb:=hin r (zmg hr);have hup:IntKind.i64.wrap ((i:Int)+1)=((i+1:Nat):Int):=by rw[w64 om om];rfl
  have htk:as_.take (i+1)=as_.take i++[r]:=by rw[qZ,hr];rfl
  have hfl:((as_.take i).filter fun r=>decide (place.getD r.toNat 0<24)).length≤20000000:=Nat.le_trans (List.length_filter_le _ _) (by rw[List.length_take];omega);refine⟨fun vs K'=>∃(u:Value)(S':PH),vs=[u]∧PH.le S1 S'∧Held S' K' (orow 3 ((as_.take (i+1)).filter fun r=>decide (place.getD r.toNat 0<24)) u::I),?_,fun _=>q,[vi r],rfl,d _ (wt l2 h2.sh),?_⟩
  .rintro vs K' _ ⟨u',S',rfl,q1,q2⟩;exact⟨_,z00,n-1,om,i+1,u',S',om,by simp only[ww,hup],q1,q2⟩
  simp only[cns];have hsk:=wt l1 (wt l2 h2.sh);refine z03 [.bool (decide (place.getD r.toNat 0<24))] (qb 126) (zvr place pv rf r K2 (hpl.le hsk) (row 5 1 h2 (zmm _ hi)) hrb) rfl z01 fun K3 l3=>?_;have h3:=h2.le l3;simp only[cns];refine⟨fun g2=>?_,fun g2=>?_⟩
  .simp only[ww]at g2;refine z15 (b:=8) (more:=[r]) [vi r] z0j z0i rfl dC dC h3 kr (.cons (z08 ri) .nil) z01 (fun _=>kr) (fun _=>kr)
    (by simp only[maxLen,zlc,zln];omega) (by simp only[zlc,zln];omega) fun w v5 S5 K5 l5 h5=>⟨z01,?_⟩
   refine⟨_,z00,v5,S5,rfl,wt l2 l5,?_⟩;rw[htk,List.filter_append,qJ,qj g2];exact h5
  .simp only[ww]at g2;refine⟨_,z00,u,S2,rfl,l2,?_⟩;rw[htk,List.filter_append,qJ,qc (by rw[g2];simp),List.filter_nil,zan];exact h3
 .simp only[ww,zdf]at g;rw[ztl om]at h2;obtain⟨S3,s3,l3,h3⟩:=h2.freeze;refine⟨[vi p.holds],rfl,row 2 1 h2 (zmm _ hi),?_⟩;exact⟨S3,u,wt l1 (wt l2 l3),h3,s3,rfl⟩
def mostL(f:Nat→Int):List BlkX→Nat→Int→Int
 | [],_,m=>m
 |b::l,i,m=>mostL f l (i+1) (if b.e.kind=4∨b.e.kind=6 then(if f i+2>m then f i+2 else m)else m)
noncomputable def roomP(p:PrcX)(place:List Int)(slots:Int):Int:=slots+mostL (fun i=>((z2h p place (i:Int)).length:Int)) p.blocks 0 0
theorem zts{f:Nat→Int}(hf:∀i,0≤f i∧f i≤20000000):∀(l:List BlkX)(i:Nat)(m:Int),0≤m∧m≤20000002→0≤mostL f l i m∧mostL f l i m≤20000002
 | [],i,m,h=>h
 |b::l,i,m,h=>by
  rw[mostL];refine zts hf l (i+1) _ ?_;have:=hf i;split
  .split<;>omega
  .exact h
theorem Z0f(h:Held S K I)(hi:bx rf 142 (zg2 gp p bv pv slots lv pushed)∈I)(hbv:SlR S p.blocks bv)(hpl:SlR S place pv)(hp:p.Fit)(hE:∀b∈p.blocks,b.e.args.length≤20000000)(hin:∀b r,r∈z0w p b→0≤r∧r<place.length)(hsl:0≤slots∧slots≤100000):
  Tri zP 40 #[pAt rf] K fun e K'=>e=.returned (vi (roomP p place slots))∧∃S',PH.le S S'∧Held S' K' I:=by
 have hbm:=hbv.max;have hmx:maxLen=9223372036854775807:=rfl;have hbv0:=hbv;obtain⟨bb,bc,hbvE⟩:=hbv.sl;have row:∀{S' K':PH} {I':List Itm} (a n:Nat),Held S' K' I'→bx rf 142 (zg2 gp p bv pv slots lv pushed)∈I'→rowAt K' (some ⟨rf,a,none⟩) (((zg2 gp p bv pv slots lv pushed).drop a).take n):=fun a n hh hi=>z20 hh hi a n;have hf:∀i:Nat,(0:Int)≤((z2h p place (i:Int)).length:Int)∧((z2h p place (i:Int)).length:Int)≤20000000:=fun i=>by
  have h1:=znq hp (i:Int);have h2:(z2h p place (i:Int)).length≤(z0w p (i:Int)).length:=List.length_filter_le _ _;omega
 unfold roomP;generalize hfd:(fun i:Nat=>((z2h p place (i:Int)).length:Int))=f at *;have hf':∀i,0≤f i∧f i≤20000000:=fun i=>by rw[←hfd];exact hf i
 have hfi:∀i:Nat,((z2h p place (i:Int)).length:Int)=f i:=fun i=>by rw[←hfd]
 refine qr zkp [pAt rf] ?_;refine⟨fun _=>rfl,[bv],by rw[hbvE];rfl,row 4 1 h hi,?_⟩;simp only[cns];refine⟨fun n vs K'=>∃(i:Nat)(m:Int)(S':PH),i+n=p.blocks.length∧vs=[vi m,nI i]∧PH.le S S'∧Held S' K' I∧(0≤m∧m≤20000002)∧mostL f p.blocks 0 0=mostL f (p.blocks.drop i) i m,⟨p.blocks.length,0,0,S,om,rfl,wu _,h,om,rfl⟩,?_⟩;rintro n vs K1 _ ⟨i,m,S1,hin1,rfl,l1,h1,hm,hmost⟩;simp only[cns];have hbl:slLen bv=p.blocks.length:=hbv0.len;refine⟨fun g=>?_,fun g=>?_⟩
 .replace g:decide ((i:Int)<(slLen bv:Int))=true:=g
  rw[hbl,zdt]at g;obtain⟨b,hb⟩:∃b,p.blocks[i]?=some b:=⟨_,zge om⟩;have hdr:p.blocks.drop i=b::p.blocks.drop (i+1):=by
   rw[←List.getElem_cons_drop (zgi.1 hb).1,(zgi.1 hb).2]
  rw[hdr,mostL]at hmost;obtain⟨y1,_,ycs,y2,y3⟩:=(hbv0.le (wt l1 h1.sh)).get hb;obtain⟨iv,es,rfl,i1,i2⟩:=blk_iff.1 y2;obtain⟨av,rfl,e1,e2,e3,e4,e5,e6⟩:=end_iff.1 i2;obtain⟨ib,ic,hiv⟩:=i1.sl;obtain⟨ab,ac,hav⟩:=e3.sl;have hup:IntKind.i64.wrap ((i:Int)+1)=((i+1:Nat):Int):=by rw[w64 om om];rfl
  refine⟨fun vs K'=>∃(m':Int)(S':PH),vs=[vi m']∧PH.le S S'∧Held S' K' I∧(0≤m'∧m'≤20000002)∧m'=(if b.e.kind=4∨b.e.kind=6 then(if f i+2>m then f i+2 else m)else m),?_,fun _=>⟨y1,by show(0:Int)≤(i:Int);omega,by show(i:Int)<(slLen bv:Int);omega⟩,iv::[vi b.e.kind,vi b.e.reg,av,vi b.e.to,vi b.e.next,vi b.e.els],by rw[hiv,hav];rfl,y3,fun g2=>?_,fun g2=>?_⟩
  .rintro vs K' _ ⟨m',S',rfl,q1,q2,q3,q4⟩;exact⟨_,z00,n-1,om,i+1,m',S',om,by simp only[ww,hup],q1,q2,q3,by rw[hmost,q4]⟩
  .have g3:b.e.kind=4∨b.e.kind=6:=by
    simp only[ww]at g2;simp only[qu,zdt]at g2;exact g2
   simp only[cns];refine z02 (qb 82) (zv8 h1 hi (hbv0.le l1) (hpl.le l1) hp hE (i:Int) (hin _)) ?_;rintro _ K2 ⟨S2,v,l2,h2,hv,rfl⟩;obtain⟨vb,vc,rfl⟩:=hv.sl;refine⟨_,[.slice vb (z2h p place (i:Int)).length vc,.bool (decide (0<p.holds))],rfl,rfl,rfl,z01,?_⟩;have hfb:=hf' i;refine⟨_,z00,if f i+2>m then f i+2 else m,S2,?_,wt l1 l2,h2,by split<;>omega,by rw[qj g3]⟩;have hw:IntKind.i64.wrap (f i+2)=f i+2:=w64 om om;have hsv:(((z2h p place (i:Int)).length:Nat):Int)=f i:=hfi i;simp only[ww,hsv,hw];by_cases hc:f i+2>m
   .simp[hc]
   .simp[hc]
  .have g3:¬(b.e.kind=4∨b.e.kind=6):=by
    simp only[ww]at g2;simp only[zof,zdf]at g2;omega
   exact⟨_,z00,m,S1,rfl,l1,h1,hm,by rw[qc g3]⟩
 .replace g:decide ((i:Int)<(slLen bv:Int))=false:=g
  rw[hbl,zdf]at g;obtain rfl:i=p.blocks.length:=om;rw[List.drop_length,mostL]at hmost;refine⟨[vi slots],rfl,row 6 1 h1 hi,?_,S1,l1,h1⟩;rw[hmost];show Ending.returned (vi (IntKind.i64.wrap (slots+m)))=_;rw[w64 om om]
end
section
variable {S0 K:PH}{x:FX}{pu nx:Int}{l l':List ItemR}{k k':Nat}{J:List Itm}
theorem GnH.empty{α:Type}[Enc α](h:GnH S0 K x pu nx l k J)(e:TypeId):GnH S0 K x pu nx l k (orow (α:=α) e [] (.slice none 0 0)::J):=by
 obtain⟨⟨h1,S,iv,h2,h3⟩,h4,h5⟩:=h;exact⟨⟨h1,S,iv,h2,(h3.empty e).perm (qA (l₁:=[_,_,_]) (l₂:=J)).symm⟩,h4,h5⟩
theorem GnH.freeze{α:Type}[Enc α]{e:TypeId}{as_:List α}{v:Value}(h:GnH S0 K x pu nx l k (orow e as_ v::J)):∃S1,PH.le S0 S1∧SlR S1 as_ v∧GnH S1 K x pu nx l k J:=by
 obtain⟨⟨h1,S,iv,h2,h3⟩,h4,h5⟩:=h;obtain⟨S1,s1,l1,h6⟩:=(h3.perm (qA (l₁:=[_,_,_]) (l₂:=J))).freeze;exact⟨S1,wt h2 l1,s1,⟨⟨h1,S1,iv,wu _,h6⟩,h4,h5⟩⟩
theorem GnH.rowsl{α:Type}[Enc α]{e:TypeId}{as_:List α}{v:Value}(h:GnH S0 K x pu nx l k (orow e as_ v::J)):∃b c,v=.slice b as_.length c:=by
 obtain⟨⟨h1,S,iv,h2,h3⟩,h4,h5⟩:=h;exact(h3.row (e:=e) (l:=as_) (v:=v) sM).sl
theorem zfx{P:Program}{α:Type}[Enc α]{X:List PanicEntry→PH→Prop}{β:Type}{E:List Value}{L:LK}{Q:β→List Value→PH→LK→Prop}{e T ty ty2:TypeId}{n b:Nat}{ps:Array (Nat×Operand)}{args args2:List (Nat×VE)}{pend pend2:List (SV×List SV)}{x' y':Operand}{f:Fm β}{as_ more:List α}{v:Value}(vs:List Value)
  (hT:P.underlying T=some (.slice e)) (he:ElemOk P e (sz α) b=true) (hn:more.length=n) (h0:n*sz α≠0) (hle:n*sz α≤2^24)
  (h:GnH S0 K x pu nx l k (orow e as_ v::J)) (hps:ps.toList.map (fun x=>(x.1,argEv E args x.2))=idxs 0 vs) (hvs:∀S,PH.le S0 S→All2 (fun a v'=>CsR S a v'.cells.toList) more vs) (hp:z0p E K pend)
  (hx:∀u,argEv (E++[u]) args2 x'=v) (hy:∀u,argEv (E++[u]) args2 y'=u) (h63:as_.length+more.length≤maxLen) (hby:(as_.length+more.length)*b≤140737488355328)
  (hk:∀u v' K',GnH S0 K' x pu nx l k (orow e (as_++more) v'::J)→z0p (E++[u]) K' pend2∧den P X f (E++[u]++[v']) K' L Q) :
  den P X (.sem (.buildSlice T n ps) ty args (.sc .sl) pend (.sem (.call ⟨.builtin .append,#[x',y'],#[T,T]⟩) ty2 args2 (.sc .sl) pend2 f)) E K L Q:=by
 obtain⟨⟨h1,S,iv,h2,h3⟩,h4,h5⟩:=h;refine z15 vs hT he hn h0 hle (h3.perm (qA (l₁:=[_,_,_]) (l₂:=J))) hps (hvs S h2) hp hx hy h63 hby fun u v' S' K' l7 h7=>?_;exact hk u v' K' ⟨⟨h1,S',iv,wt h2 l7,h7.perm (qA (l₁:=[_,_,_]) (l₂:=J)).symm⟩,h4,h5⟩
structure FnOk(x:FX):Prop where
 fit:x.p.Fit
 few:∀b∈x.p.blocks,b.e.args.length≤20000000
 regs:∀r∈x.p.regl,x.has r
 plen:x.place.length≤2000
theorem FnOk.live(h:FnOk x){i j:Nat}{r:Int}(hr:r∈liveL x.p i j):x.has r:=h.regs r (z4p (liveL_mem.1 hr))
theorem FnOk.across(h:FnOk x){b r:Int}(hr:r∈z0w x.p b):x.has r:=by
 unfold z0w at hr;split at hr
 .split at hr
  .exact h.live (zmf.1 hr).1
  .cases hr
 .cases hr
theorem zwn(p:PrcX)(i j:Nat):(liveL p i j).Nodup:=((zd7 p i j).imp fun h=>Int.ne_of_lt h)
theorem Z29(p:PrcX)(b:Int):(z0w p b).Nodup:=by
 unfold z0w;split
 .split
  .exact(zwn p _ _).sublist List.filter_sublist
  .exact List.nodup_nil
 .exact List.nodup_nil
theorem Z7c{rs:List Int}(hn:rs.Nodup)(h:∀r∈rs,x.has r):rs.length≤x.place.length:=by
 have h1:=z0m hn (m:=(List.range x.place.length).map Int.ofNat) fun y hy=>by
  obtain⟨h2,h3⟩:=h y hy;exact zmp.2 ⟨y.toNat,we.2 om,show((y.toNat:Nat):Int)=y by omega⟩
 rwa[zlm,wg]at h1
theorem FnOk.saved(h:FnOk x)(b:Int):(z2h x.p x.place b).length≤2000:=by
 have h1:(z2h x.p x.place b).length≤(z0w x.p b).length:=List.length_filter_le _ _;have h2:=Z7c (Z29 x.p b) fun r hr=>h.across hr;have:=h.plen;omega
theorem Zdh(hx:FOk S0 x)(hf:FnOk x)(b:Int)(h:GnH S0 K x pu nx l k J):Tri zP 82 #[pAt x.rf,vi b] K fun e K'=>∃S1 v,PH.le S0 S1∧GnH S1 K' x pu nx l k J∧SlR S1 (z2h x.p x.place b) v∧e=.returned (.tuple #[v,.bool (decide (0<x.p.holds))]):=by
 obtain⟨⟨h1,S,iv,h2,h3⟩,h4,h5⟩:=h;refine(zv8 (gp:=pAt x.rg) (p:=x.p) (bv:=x.bv) (pv:=x.pv) (lv:=x.lv) (place:=x.place) (slots:=x.slots) (pushed:=pu) (rf:=x.rf) h3 sM (hx.bl.le h2) (hx.pl.le h2) hf.fit hf.few b fun r hr=>hf.across hr).mono ?_;rintro e K' ⟨S',v,l1,h6,h7,h8⟩;exact⟨S',v,wt h2 l1,⟨⟨h1,S',iv,wu _,h6⟩,h4,h5⟩,h7,h8⟩
noncomputable def FX.room(x:FX):Int:=roomP x.p x.place x.slots
theorem Zg2(hx:FOk S0 x)(hf:FnOk x):0≤x.room∧x.room≤20003002:=by
 obtain⟨h1,h2⟩:=hx.sl;have:=zts (f:=fun i=>((z2h x.p x.place (i:Int)).length:Int)) (fun i=>by have:=hf.saved (i:Int);omega) x.p.blocks 0 0 om;unfold FX.room roomP;omega
theorem Zgf(hx:FOk S0 x)(hf:FnOk x)(h:GnH S0 K x pu nx l k J):Tri zP 40 #[pAt x.rf] K (GnV (vi x.room) S0 x pu nx l k J):=by
 obtain⟨⟨h1,S,iv,h2,h3⟩,h4,h5⟩:=h;have hs:=hx.sl;refine(Z0f (gp:=pAt x.rg) (p:=x.p) (bv:=x.bv) (pv:=x.pv) (lv:=x.lv) (place:=x.place) (slots:=x.slots) (pushed:=pu) (rf:=x.rf) h3 sM (hx.bl.le h2) (hx.pl.le h2) hf.fit hf.few (fun b r hr=>hf.across hr) om).mono ?_;rintro e K' ⟨rfl,S',l1,h6⟩;exact⟨rfl,⟨h1,S',iv,wt h2 l1,h6⟩,h4,h5⟩
end
def toP(i:Nat):Int:=if i=0 then 25 else(i:Int)
def FX.passM(x:FX):Nat→List Int→List MvR
 |_,[]=>[]
 |i,r::rs=>(if x.col r=true then[⟨toP i,x.reg r⟩]else[])++x.passM (i+1) rs
def FX.passD(x:FX)(pu:Int):Nat→List Int→List ItemR
 |_,[]=>[]
 |i,r::rs=>(if x.col r=true then[]else[⟨0,⟨22,toP i,30,0,x.slot pu r⟩,0,0⟩])++x.passD pu (i+1) rs
def FX.passL(x:FX)(pu:Int)(callee:Int)(rs:List Int):List ItemR:=zbm (x.passM 0 (callee::rs))++x.passD pu 0 (callee::rs)++[⟨4,⟨20,28,0,0,0⟩,0,(rs.length:Int)⟩]
theorem zql(x:FX):∀(a b:List Int)(i:Nat),x.passM i (a++b)=x.passM i a++x.passM (i+a.length) b
 | [],b,i=>by simp[FX.passM]
 |r::a,b,i=>by
  simp only[List.cons_append,FX.passM,zql x a b (i+1),zaa,zlc];rw[show i+1+a.length=i+(a.length+1) by omega]
theorem Z0i(x:FX)(pu:Int):∀(a b:List Int)(i:Nat),x.passD pu i (a++b)=x.passD pu i a++x.passD pu (i+a.length) b
 | [],b,i=>by simp[FX.passD]
 |r::a,b,i=>by
  simp only[List.cons_append,FX.passD,Z0i x pu a b (i+1),zaa,zlc];rw[show i+1+a.length=i+(a.length+1) by omega]
theorem zqt(x:FX):∀(a:List Int)(i:Nat),(x.passM i a).length≤a.length
 | [],i=>by simp[FX.passM]
 |r::a,i=>by
  have:=zqt x a (i+1);rw[FX.passM];split<;>simp only[zla,zlc,zln]<;>omega
theorem zr4(i:Nat)(hi:i≤1000)(H:PH):Gives zP 193 [vi (i:Int)] H (vi (toP i)):=by
 refine qr zi2 [vi (i:Int)] ?_;refine⟨fun g=>?_,fun g=>?_⟩
 .simp only[ww,zdt]at g;obtain rfl:i=0:=om;exact⟨rfl,wu _⟩
 .simp only[ww,zdf]at g;unfold toP;rw[qc om];refine⟨?_,wu _⟩;show Ending.returned (vi (IntKind.i64.wrap (IntKind.i64.wrap (1+(i:Int))-1)))=_;rw[w64 (n:=1+(i:Int)) om om,w64 om om];congr 2;omega
section
variable {S0 K:PH}{x:FX}{pu nx:Int}{l l':List ItemR}{k k':Nat}{J:List Itm}
theorem Zcc(i:Nat)(hi:i≤1000):InI (toP i):=by
 unfold toP;split
 .decide
 .exact inJ om om
theorem Z8k(hx:FOk S0 x)(hp:0≤pu∧pu≤100000)(callee:Int)(rs:List Int)(av:Value)(ha:SlR S0 rs av)(hc:x.has callee)(hr:∀r∈rs,x.has r)(hn:rs.length≤900)(hci:InI callee)(h0:GnH S0 K x pu nx l (k+(4+3*rs.length)) J):
  Tri zP 145 #[pAt x.rf,vi callee,av] K (GnQ S0 x pu nx (l++x.passL pu callee rs) k J):=by
 have ha0:=ha;obtain⟨ab,ac,rfl⟩:=ha.sl;refine qr zke [pAt x.rf,vi callee,.slice ab rs.length ac] ?_;obtain⟨⟨g1,S,iv,g2,g3⟩,g4,g5⟩:=h0;refine z0h (α:=Int) (l:=[callee]) (b:=8) [vi callee] z0j z0i rfl dC dC g3 kr (.cons (z08 hci) .nil) z01 fun v3 K3 g6 _ _=>?_;simp only[cns];refine z67 (b:=8) (more:=rs) z0j z0i kr kr g6 ((ha0.le g2).srcS g6.sh) (by simp only[maxLen,zlc,zln];omega) (by simp only[zlc,zln];omega) fun v4 K4 g7 _=>⟨z01,?_⟩;simp only[cns];obtain⟨S1,s1,l1,g8⟩:=g7.freeze;have h1:GnH S1 K4 x pu nx l (k+(4+3*rs.length)) J:=⟨⟨g1,S1,iv,wu _,g8⟩,g4,g5⟩;have l01:PH.le S0 S1:=wt g2 l1;clear g1 g3 g4 g5 g6 g7 g8;have hx1:=hx.le l01;obtain⟨ws,hws⟩:∃ws,ws=callee::rs:=⟨_,rfl⟩;have s1:SlR S1 ws v4:=by rw[hws];simpa using s1
 have hwl:ws.length=rs.length+1:=by rw[hws];rfl
 have hwh:∀r∈ws,x.has r:=fun r hr'=>by
  rw[hws]at hr';rcases zmc.1 hr' with rfl|hr'
  .exact hc
  .exact hr r hr'
 unfold FX.passL;rw[←hws];have s10:=s1;obtain⟨wb,wc,rfl⟩:=s1.sl;refine⟨fun n vs K'=>∃(i:Nat)(u:Value),i+n=ws.length∧vs=[u,nI i]∧GnH S1 K' x pu nx l (k+(4+3*rs.length)) (orow 188 (x.passM 0 (ws.take i)) u::J),⟨ws.length,0,.slice none 0 0,om,rfl,by rw[List.take_zero,FX.passM];exact h1.empty _⟩,?_⟩;rintro n vs K5 _ ⟨i,u,hin,rfl,h5⟩;simp only[cns];obtain⟨ub,uc,hu⟩:=h5.rowsl;have hup:∀{i:Nat},i<ws.length→IntKind.i64.wrap ((i:Int)+1)=((i+1:Nat):Int):=fun h=>by rw[w64 om om];rfl
 have htk:∀{i:Nat} {r:Int},ws[i]?=some r→ws.take (i+1)=ws.take i++[r]∧(ws.take i).length=i:=fun h=>⟨by rw[qZ,h];rfl,by rw[List.length_take];have:=(zgi.1 h).1;omega⟩;refine⟨fun g=>?_,fun g=>?_⟩
 .simp only[ww,zdt]at g;obtain⟨r,hri⟩:∃r,ws[i]?=some r:=⟨_,zge om⟩;have hrh:=hwh r (zmg hri);obtain⟨ri,q,d⟩:=z3j s10 i r hri;obtain⟨t1,t2⟩:=htk hri;refine⟨fun vs K'=>∃u,vs=[u]∧GnH S1 K' x pu nx l (k+(4+3*rs.length)) (orow 188 (x.passM 0 (ws.take (i+1))) u::J),?_,fun _=>q,[vi r],rfl,d _ h5.sh,?_⟩
  .rintro vs K' _ ⟨u',rfl,q1⟩;exact⟨_,z00,n-1,om,i+1,u',om,by simp only[ww,hup (show i<ws.length by omega)],q1⟩
  simp only[cns];refine z03 [.bool (x.col r)] (qb 126) (z3r hx1 h5 r hrh) rfl z01 fun K6 l6=>?_;have h6:=h5.le l6;simp only[cns];have hml:=zqt x (ws.take i) 0;refine⟨fun g2=>?_,fun g2=>?_⟩
  .simp only[ww]at g2;refine z03 [vi (toP i)] (qb 193) (zr4 i om K6) rfl z01 fun K7 l7=>?_;have h7:=h6.le l7;simp only[cns];refine z03 [vi (x.reg r)] (qb 130) (z9k hx1 h7 r hrh) rfl z01 fun K8 l8=>?_;have h8:=h7.le l8;simp only[cns];refine zfx (b:=16) (more:=[(⟨toP i,x.reg r⟩:MvR)]) [.agg #[vi (toP i),vi (x.reg r)]] zry zjc rfl dC dC h8 kr (fun S _=>.cons (mvR_iff.2 ⟨rfl,Zcc i om,zga hx1 r hrh⟩) .nil) z01 (fun _=>kr) (fun _=>kr)
    (by simp only[maxLen,zlc,zln];omega) (by simp only[zlc,zln];omega) fun w v5 K9 h9=>⟨z01,?_⟩
   refine⟨_,z00,v5,rfl,?_⟩;rw[t1,zql,t2,FX.passM,qj g2,FX.passM,zan,wl];exact h9
  .simp only[ww]at g2;refine⟨_,z00,u,rfl,?_⟩;rw[t1,zql,FX.passM,qc (by rw[g2];simp),FX.passM,zan,zan];exact h6
 simp only[ww,zdf]at g;obtain rfl:i=ws.length:=om;rw[List.take_length]at h5;have hml:=zqt x ws 0;obtain⟨S2,l2,s2,h6⟩:=h5.freeze;refine z05 (qb 132) (Z5e (k:=k+(2+rs.length)) (x.passM 0 ws) u s2 (h6.less om)) fun K7 h7=>?_;have hx2:=hx1.le l2;have s12:=s10.le l2;refine⟨fun n vs K'=>∃i:Nat,i+n=ws.length∧vs=[nI i]∧GnH S2 K' x pu nx (l++zbm (x.passM 0 ws)++x.passD pu 0 (ws.take i)) (k+(1+n)) J,⟨ws.length,0,om,rfl,by rw[List.take_zero,FX.passD,zan];exact h7.less om⟩,?_⟩;rintro n vs K8 _ ⟨j,hjn,rfl,h8⟩;simp only[cns];refine⟨fun g=>?_,fun g=>?_⟩
 .simp only[ww,zdt]at g;obtain⟨r,hri⟩:∃r,ws[j]?=some r:=⟨_,zge om⟩;have hrh:=hwh r (zmg hri);obtain⟨ri,q,d⟩:=z3j s12 j r hri;obtain⟨t1,t2⟩:=htk hri;obtain⟨m,rfl⟩:∃m,n=m+1:=⟨n-1,om⟩;refine⟨fun vs K'=>vs=[]∧GnH S2 K' x pu nx (l++zbm (x.passM 0 ws)++x.passD pu 0 (ws.take (j+1))) (k+(1+m)) J,?_,fun _=>q,[vi r],rfl,d _ h8.sh,?_⟩
  .rintro vs K' _ ⟨rfl,q1⟩;exact⟨_,z00,m,om,j+1,om,by simp only[ww,hup (show j<ws.length by omega)],q1⟩
  simp only[cns];refine z03 [.bool (x.col r)] (qb 126) (z3r hx2 h8 r hrh) rfl z01 fun K9 l9=>?_;have h9:=h8.le l9;simp only[cns];rw[t1,Z0i,t2,FX.passD,FX.passD,zan,wl];refine⟨fun g2=>?_,fun g2=>?_⟩
  .simp only[ww,qy]at g2;rw[qc (by rw[g2];simp)];refine⟨fun _=>rfl,[pAt x.rg],rfl,h9.frow 0 1,fun _=>rfl,?_⟩;simp only[cns];refine z03 [vi (toP j)] (qb 193) (zr4 j om K9) rfl (z0u (h9.frow 0 1) z01) fun Ka la=>?_;have ha:=h9.le la;simp only[cns];refine z03 [vi (x.slot pu r)] (qb 131) (zc5 hx2 ha r hrh hp) rfl (z0u (ha.frow 0 1) z01) fun Kb lb=>?_;have hb:=ha.le lb;simp only[cns];refine z05 (qb 55) ((hb.less (k':=k+(1+m)+1) om).to (zmn (toP j) 30 (x.slot pu r) (Zcc j om) dC (zmi hx2 r hrh hp))) fun Kc hc'=>?_;exact⟨_,z00,rfl,by rw[←zaa];exact hc'⟩
  .simp only[ww,qR]at g2;rw[qj g2,zan];exact⟨_,z00,rfl,h9.less om⟩
 .simp only[ww,zdf]at g;obtain rfl:j=ws.length:=om;rw[List.take_length]at h8;refine⟨fun _=>rfl,[pAt x.rg],rfl,h8.frow 0 1,fun _=>rfl,?_⟩;simp only[cns];refine z05 (qb 57) ((h8.less (k':=k+1) om).to (z1n 28 (rs.length:Int) dC (inJ om om))) fun K9 h9=>?_;exact⟨rfl,by simpa only[zaa]using h9.base (wt l01 l2)⟩
end
theorem zqg{α:Type}(f:Nat→α)(i:Nat):(List.range (i+1)).map f=(List.range i).map f++[f i]:=by
 rw[List.range_succ,List.map_append];rfl
noncomputable def FX.roomL(x:FX)(nx:Int):List ItemR:=if 0<x.room then[⟨4,⟨20,27,0,0,0⟩,0,32+x.stack-x.room⟩,⟨2,⟨27,27,30,0,0⟩,nx,0⟩,⟨3,⟨28,31,0,0,0⟩,6,0⟩,⟨1,⟨0,0,0,0,0⟩,nx,0⟩]else[]
noncomputable def FX.roomN(x:FX)(nx:Int):Int:=if 0<x.room then nx+1 else nx
def zeroR(j:Nat):ItemR:=⟨0,⟨23,0,30,0,(j:Int)⟩,0,0⟩
def FX.entM(x:FX)(r:Int):List MvR:=if r<x.p.params∧x.col r=true then[⟨x.reg r,1+r⟩]else[]
def FX.entD(x:FX)(r:Int):List ItemR:=if r<x.p.params∧x.col r=false then[⟨0,⟨23,1+r,30,0,x.slot 0 r⟩,0,0⟩]else[]
def FX.entN(x:FX)(r:Int):List ItemR:=if r<x.p.params then[]else x.numL 0 r 42
noncomputable def FX.entL(x:FX)(lab nx:Int):List ItemR:=[⟨1,⟨0,0,0,0,0⟩,lab,0⟩,⟨4,⟨20,26,0,0,0⟩,0,x.p.params⟩,⟨2,⟨25,26,28,0,0⟩,22,0⟩]++x.roomL nx++(List.range x.slots.toNat).map zeroR++growL x.slots++(liveL x.p 0 0).flatMap x.entD++zbm ((liveL x.p 0 0).flatMap x.entM)++(liveL x.p 0 0).flatMap x.entN
theorem zrf{α β:Type}{l:List α}{i:Nat}{r:α}(h:l[i]?=some r)(f:α→List β):(l.take (i+1)).flatMap f=(l.take i).flatMap f++f r:=by rw[qZ,h];simp
theorem Z2u{α β:Type}(f:α→List β)(n:Nat)(h:∀a,(f a).length≤n):∀l:List α,(l.flatMap f).length≤n*l.length
 | []=>sM
 |a::l=>by
  have h1:=Z2u f n h l;have h2:=h a;rw[qO,zla,zlc,Nat.mul_succ];omega
theorem Z4g(x:FX)(l:List Int):(l.flatMap x.entM).length≤l.length:=by
 have:=Z2u x.entM 1 (fun a=>by unfold FX.entM;split<;>simp) l;omega
section
variable {S0 K:PH}{x:FX}{pu nx:Int}{l l':List ItemR}{k k':Nat}{J:List Itm}
theorem Zds(hx:FOk S0 x)(hf:FnOk x)(lab:Int)(hl:InI lab)(hpr:0≤x.p.params∧x.p.params≤1000000)(hb0:0<x.p.blocks.length)(h:GnH S0 K x 0 nx l (k+20000) J):
  Tri zP 84 #[pAt x.rf,vi lab] K (GnQ S0 x 0 (x.roomN nx) (l++x.entL lab nx) k J):=by
 obtain⟨bb,bc,hbv⟩:=hx.bl.sl;have hrm:=Zg2 hx hf;have hst:=hx.st;have hsl:=hx.sl;have hn0:=h.n0;have hnk:=h.nk;refine qr zj9 [pAt x.rf,vi lab] ?_;refine⟨fun _=>rfl,[pAt x.rg],rfl,h.frow 0 1,fun _=>rfl,?_⟩;simp only[cns];refine z05 (qb 51) ((h.less (k':=k+19990+1) om).to (z52 lab hl)) fun K1 h1=>?_;refine⟨[pAt x.rg],rfl,h1.frow 0 1,fun _=>rfl,[vi x.p.params],rfl,h1.frow 1 1,?_⟩;simp only[cns];refine z05 (qb 57) ((h1.less (k':=k+19980+1) om).to (z1n 26 x.p.params dC (inJ om om))) fun K2 h2=>?_;refine⟨[pAt x.rg],rfl,h2.frow 0 1,fun _=>rfl,?_⟩;simp only[cns];refine z03 [vi 22] (qb 127) (zyr 91 22 kr K2) rfl (z0u (h2.frow 0 1) z01) fun K3 l3=>?_;have h3:=h2.le l3;simp only[cns];refine z05 (qb 59) ((h3.less (k':=k+19970+1) om).to (If_em 25 26 28 22 dC dC dC dC)) fun K4 h4=>?_;obtain⟨lh,hlh⟩:∃lh,lh=l++[⟨1,⟨0,0,0,0,0⟩,lab,0⟩,⟨4,⟨20,26,0,0,0⟩,0,x.p.params⟩,⟨2,⟨25,26,28,0,0⟩,22,0⟩]:=⟨_,rfl⟩;have h4':GnH S0 K4 x 0 nx lh (k+19970) J:=by
  rw[hlh];simpa only[zaa,cns]using h4
 obtain⟨nx',hnx⟩:∃n,n=x.roomN nx:=⟨_,rfl⟩;obtain⟨lr,hlr⟩:∃lr,lr=lh++x.roomL nx:=⟨_,rfl⟩;have hfin:l++x.entL lab nx=lr++(List.range x.slots.toNat).map zeroR++growL x.slots++(liveL x.p 0 0).flatMap x.entD++zbm ((liveL x.p 0 0).flatMap x.entM)++(liveL x.p 0 0).flatMap x.entN:=by
  rw[hlr,hlh];simp only[FX.entL,zaa]
 rw[hfin,←hnx];refine⟨fun vs K=>vs=[]∧GnH S0 K x 0 nx' lr (k+19960) J,?_,?_⟩;rotate_left
 .refine z2q (qb 40) (Zgf hx hf h4') (fun _ _=>z01) fun K5 h5=>?_;simp only[cns];refine⟨fun g=>?_,fun g=>?_⟩
  .simp only[ww,zdt]at g;have g':0<x.room:=om;refine⟨[pAt x.rg],rfl,h5.frow 0 1,?_⟩;simp only[cns];refine z2q (qb 42) (z4a (h5.less (k':=k+19968+1) om)) (fun _ _=>z01) fun K6 h6=>?_;simp only[cns];refine⟨[pAt x.rg],rfl,h6.frow 0 1,fun _=>rfl,[pAt x.rg],rfl,h6.frow 0 1,fun _=>rfl,[vi x.stack],rfl,h6.grow 3 1,?_⟩;simp only[cns];have e1:arI .sub .i64 (arI .add .i64 32 x.stack) x.room=32+x.stack-x.room:=by
    show IntKind.i64.wrap (IntKind.i64.wrap (32+x.stack)-x.room)=_;rw[w64 (n:=32+x.stack) om om,w64 om om]
   have c1:Tri zP 57 #[pAt x.rg,vi 27,vi (arI .sub .i64 (arI .add .i64 32 x.stack) x.room)] K6 (GnQ S0 x 0 (nx+1) (lh++[⟨4,⟨20,27,0,0,0⟩,0,32+x.stack-x.room⟩]) (k+19967) J):=by
    rw[e1];exact(h6.less (k':=k+19967+1) om).to (z1n 27 _ dC (inJ om om))
   refine z05 (qb 57) c1 fun K7 h7=>?_;refine⟨[pAt x.rg],rfl,h7.frow 0 1,fun _=>rfl,?_⟩;simp only[cns];refine z05 (qb 59) ((h7.less (k':=k+19966+1) om).to (If_em 27 27 30 nx dC dC dC (inJ om om))) fun K8 h8=>?_;refine⟨[pAt x.rg],rfl,h8.frow 0 1,fun _=>rfl,?_⟩;simp only[cns];refine z05 (qb 58) ((h8.less (k':=k+19965+1) om).to (zrs 31 6 dC dC)) fun K9 h9=>?_;refine⟨[pAt x.rg],rfl,h9.frow 0 1,fun _=>rfl,?_⟩;simp only[cns];refine z05 (qb 51) ((h9.less (k':=k+19960+1) om).to (z52 nx (inJ om om))) fun Ka ha=>?_;refine⟨_,z00,rfl,?_⟩;rw[hnx,hlr];unfold FX.roomN FX.roomL;rw[qj g',qj g'];simpa only[zaa,cns]using ha
  .simp only[ww,zdf]at g;have g':¬0<x.room:=om;refine⟨_,z00,rfl,?_⟩;rw[hnx,hlr];unfold FX.roomN FX.roomL;rw[qc g',qc g',zan];exact h5.less om
 clear h1 h2 h3 h4 h4';rintro vs K5 _ ⟨rfl,h5⟩;simp only[cns];obtain⟨sn,hsn⟩:∃sn:Nat,x.slots=(sn:Int):=⟨x.slots.toNat,om⟩;rw[show x.slots.toNat=sn by omega];refine⟨[vi x.slots],rfl,h5.frow 6 1,?_⟩;simp only[cns];refine⟨fun n vs K=>∃i:Nat,i+n=sn∧vs=[nI i]∧GnH S0 K x 0 nx' (lr++(List.range i).map zeroR) (k+15000+n) J,⟨sn,0,om,rfl,by simpa using h5.less om⟩,?_⟩;rintro n vs K6 _ ⟨i,hin,rfl,h6⟩;simp only[cns];refine⟨fun g=>?_,fun g=>?_⟩
 .simp only[ww,zdt]at g;obtain⟨m,rfl⟩:∃m,n=m+1:=⟨n-1,om⟩;refine⟨[pAt x.rg],rfl,h6.frow 0 1,fun _=>rfl,?_⟩;simp only[cns];refine z05 (qb 54) ((h6.less (k':=k+15000+m+1) om).to (z50 0 30 (i:Int) dC dC (inJ om om))) fun K7 h7=>?_;have hw:IntKind.i64.wrap ((i:Int)+1)=((i+1:Nat):Int):=by rw[w64 om om];rfl
  refine⟨_,z00,m,om,i+1,om,by simp only[ww,hw],?_⟩;rw[zqg,←zaa];exact h7
 simp only[ww,zdf]at g;obtain rfl:i=sn:=om;refine⟨[vi x.slots],rfl,h6.frow 6 1,?_⟩;simp only[cns];refine z05 (qb 128) (zlj (k:=k+14000) x.slots (inJ om om) (h6.less om)) fun K7 h7=>?_;refine⟨[vi x.p.params,vi x.p.holds,vi x.p.regs,x.bv],by rw[hbv];rfl,h7.frow 1 4,?_⟩;simp only[cns];refine z02 (qb 129) (h7.pure (R:=fun e S'=>∃v,e=.returned v∧SlR S' (inL x.p) v) fun S hS=>Z7h x.p x.bv S (hx.bl.le hS) hf.fit hf.few) ?_;rintro _ K8 ⟨S1,l1,h8,v8,rfl,hv8⟩;have hx1:=hx.le l1;have hin0:(inL x.p)[0]?=some (liveL x.p 0 0):=by
  unfold inL;rw[zem,List.getElem?_range hb0];rfl
 obtain⟨z1,_,zcs,z2,z3'⟩:=hv8.get hin0;obtain⟨w8,rfl,hw8⟩:=csLK z2;have z3:=z0t h8.sh z3';have hlh0:∀r∈liveL x.p 0 0,x.has r:=fun r hr=>hf.live hr;have hlen:(liveL x.p 0 0).length≤2000:=Nat.le_trans (Z7c (zwn x.p 0 0) hlh0) hf.plen;obtain⟨rs,hrs⟩:∃rs,rs=liveL x.p 0 0:=⟨_,rfl⟩;rw[←hrs]at hw8 hlh0 hlen⊢;have hw80:=hw8;obtain⟨vb,vc,rfl⟩:=hv8.sl;obtain⟨wb,wc,rfl⟩:=hw8.sl;refine⟨_,[_],rfl,rfl,rfl,z01,fun _=>?_,[_],rfl,z3,?_⟩
 .simp only[Chk.holds,ww];refine⟨z1,om,?_⟩;have:=(zgi.1 hin0).1;omega
 simp only[cns];obtain⟨l1',hl1'⟩:∃l1',l1'=lr++(List.range i).map zeroR++growL x.slots:=⟨_,rfl⟩;rw[←hl1']at h8⊢;have hup:∀{i:Nat},i<rs.length→IntKind.i64.wrap ((i:Int)+1)=((i+1:Nat):Int):=fun h=>by rw[w64 om om];rfl
 refine⟨fun n vs K'=>∃(i:Nat)(u:Value),i+n=rs.length∧vs=[u,nI i]∧GnH S1 K' x 0 nx' (l1'++(rs.take i).flatMap x.entD) (k+10000+n) (orow 188 ((rs.take i).flatMap x.entM) u::J),⟨rs.length,0,.slice none 0 0,om,rfl,by simpa using(h8.less (k':=k+10000+rs.length) om).empty _⟩,?_⟩;rintro n vs K9 _ ⟨j,u,hjn,rfl,h9⟩;simp only[cns];obtain⟨ub,uc,hu⟩:=h9.rowsl;refine⟨fun g=>?_,fun g=>?_⟩
 .simp only[ww,zdt]at g;obtain⟨r,hri⟩:∃r,rs[j]?=some r:=⟨_,zge om⟩;have hrh:=hlh0 r (zmg hri);obtain⟨hr0,hr1⟩:=hrh;have hpl:=hf.plen;obtain⟨m,rfl⟩:∃m,n=m+1:=⟨n-1,om⟩;obtain⟨ri,q,d⟩:=z3j hw80 j r hri;refine⟨fun vs K'=>∃u,vs=[u]∧GnH S1 K' x 0 nx' (l1'++(rs.take (j+1)).flatMap x.entD) (k+10000+m) (orow 188 ((rs.take (j+1)).flatMap x.entM) u::J),?_,fun _=>q,[vi r],rfl,d _ h9.sh,[vi x.p.params],rfl,h9.frow 1 1,?_⟩
  .rintro vs K' _ ⟨u',rfl,q1⟩;exact⟨_,z00,m,om,j+1,u',om,by simp only[ww,hup (show j<rs.length by omega)],q1⟩
  simp only[cns];rw[zrf hri,zrf hri];unfold FX.entD FX.entM;refine⟨fun g2=>?_,fun g2=>?_⟩
  .simp only[ww,zdt]at g2;refine⟨_,z00,u,rfl,?_⟩;rw[qc om,qc om,zan,zan];exact h9.less om
  simp only[ww,zdf]at g2;have g2':r<x.p.params:=om;have e1:arI .add .i64 1 r=1+r:=w64 om om;refine z03 [.bool (x.col r)] (qb 126) (z3r hx1 h9 r ⟨hr0,hr1⟩) rfl z01 fun Ka la=>?_;have ha:=h9.le la;simp only[cns];have hml:=Z4g x (rs.take j);have htl:(rs.take j).length=j:=by rw[List.length_take];omega
  refine⟨fun g3=>?_,fun g3=>?_⟩
  .simp only[ww]at g3;rw[qc (by rw[g3];simp),qj ⟨g2',g3⟩,zan];refine z03 [vi (x.reg r)] (qb 130) (z9k hx1 ha r ⟨hr0,hr1⟩) rfl z01 fun Kb lb=>?_;have hb:=ha.le lb;simp only[cns];refine zfx (b:=16) (more:=[(⟨x.reg r,1+r⟩:MvR)]) [.agg #[vi (x.reg r),vi (arI .add .i64 1 r)]] zry zjc rfl dC dC hb kr (fun S _=>.cons (mvR_iff.2 ⟨by rw[e1];rfl,zga hx1 r ⟨hr0,hr1⟩,show InI (1+r)from inJ om om⟩) .nil) z01 (fun _=>kr) (fun _=>kr)
    (by simp only[maxLen,zlc,zln];omega) (by simp only[zlc,zln];omega) fun w v5 Kc hc=>⟨z01,?_⟩
   exact⟨_,z00,v5,rfl,hc.less om⟩
  .simp only[ww]at g3;rw[qj ⟨g2',g3⟩,qc (by rw[g3];simp),zan];refine⟨[pAt x.rg],rfl,ha.frow 0 1,fun _=>rfl,?_⟩;simp only[cns];refine z03 [vi (x.slot 0 r)] (qb 131) (zc5 hx1 ha r ⟨hr0,hr1⟩ om) rfl (z0u (ha.frow 0 1) z01) fun Kb lb=>?_;have hb:=ha.le lb;simp only[cns];have c2:Tri zP 54 #[pAt x.rg,vi (arI .add .i64 1 r),vi 30,vi (x.slot 0 r)] Kb (GnQ S1 x 0 nx' (l1'++(rs.take j).flatMap x.entD++[⟨0,⟨23,1+r,30,0,x.slot 0 r⟩,0,0⟩]) (k+10000+m) (orow 188 ((rs.take j).flatMap x.entM) u::J)):=by
    rw[e1];exact hb.to (z50 (1+r) 30 (x.slot 0 r) (inJ om om) dC (zmi hx1 r ⟨hr0,hr1⟩ om))
   refine z05 (qb 54) c2 fun Kc hc=>?_;refine⟨_,z00,u,rfl,?_⟩;rw[←zaa];exact hc
 simp only[ww,zdf]at g;obtain rfl:j=rs.length:=om;rw[List.take_length]at h9;have hml:=Z4g x rs;obtain⟨S2,l2,s2,ha⟩:=h9.freeze;refine z05 (qb 132) (Z5e (k:=k+5000) (rs.flatMap x.entM) u s2 (ha.less om)) fun Kb hb=>?_;have hx2:=hx1.le l2;have hw82:=hw80.le l2;refine⟨fun n vs K'=>∃i:Nat,i+n=rs.length∧vs=[nI i]∧GnH S2 K' x 0 nx' (l1'++rs.flatMap x.entD++zbm (rs.flatMap x.entM)++(rs.take i).flatMap x.entN) (k+2*n) J,⟨rs.length,0,om,rfl,by simpa using hb.less om⟩,?_⟩;rintro n vs Kc _ ⟨q0,hqn,rfl,hc⟩;simp only[cns];refine⟨fun g=>?_,fun g=>?_⟩
 .simp only[ww,zdt]at g;obtain⟨r,hri⟩:∃r,rs[q0]?=some r:=⟨_,zge om⟩;have hrh:=hlh0 r (zmg hri);obtain⟨m,rfl⟩:∃m,n=m+1:=⟨n-1,om⟩;obtain⟨ri,q,d⟩:=z3j hw82 q0 r hri;refine⟨fun vs K'=>vs=[]∧GnH S2 K' x 0 nx' (l1'++rs.flatMap x.entD++zbm (rs.flatMap x.entM)++(rs.take (q0+1)).flatMap x.entN) (k+2*m) J,?_,fun _=>q,[vi r],rfl,d _ hc.sh,[vi x.p.params],rfl,hc.frow 1 1,?_⟩
  .rintro vs K' _ ⟨rfl,q1⟩;exact⟨_,z00,m,om,q0+1,om,by simp only[ww,hup (show q0<rs.length by omega)],q1⟩
  simp only[cns];rw[zrf hri];refine⟨fun g2=>?_,fun g2=>?_⟩
  .simp only[ww,zdt]at g2;refine z03 [vi 42] (qb 34) (z6s 5 42 dC dC _) rfl z01 fun Kd ld=>?_;have hd:=hc.le ld;simp only[cns];refine z05 (qb 133) (zrk (k:=k+2*m) hx2 om r 42 hrh dC (hd.less om)) fun Ke he=>?_;refine⟨_,z00,rfl,?_⟩;unfold FX.entN;unfold FX.entN at he;rw[qc om,←zaa];exact he
  .simp only[ww,zdf]at g2;refine⟨_,z00,rfl,?_⟩;have:x.entN r=[]:=by unfold FX.entN;rw[qj om]
   rw[this,zan];exact hc.less om
 .simp only[ww,zdf]at g;obtain rfl:q0=rs.length:=om;rw[List.take_length]at hc;exact⟨rfl,(hc.less om).base (wt l1 l2)⟩
end
def stW:Nat→List Int→List ItemR
 |_,[]=>[]
 |j,w::ws=>⟨0,⟨23,w,30,0,(j:Int)⟩,0,0⟩::stW (j+1) ws
def ldW:Nat→List Int→List ItemR
 |_,[]=>[]
 |j,w::ws=>⟨0,⟨22,w,30,0,(j:Int)⟩,0,0⟩::ldW (j+1) ws
theorem Z8f:∀(a b:List Int)(i:Nat),stW i (a++b)=stW i a++stW (i+a.length) b
 | [],b,i=>by simp[stW]
 |w::a,b,i=>by
  simp only[List.cons_append,stW,Z8f a b (i+1),zlc];rw[show i+1+a.length=i+(a.length+1) by omega]
theorem Z89:∀(a b:List Int)(i:Nat),ldW i (a++b)=ldW i a++ldW (i+a.length) b
 | [],b,i=>by simp[ldW]
 |w::a,b,i=>by
  simp only[List.cons_append,ldW,Z89 a b (i+1),zlc];rw[show i+1+a.length=i+(a.length+1) by omega]
noncomputable def FX.saveW(x:FX)(b:Int):List Int:=(z2h x.p x.place b).map x.reg++(if 0<x.p.holds then[25]else[])
noncomputable def FX.callL(x:FX)(b:Int)(e:EndX)(place nx:Int):List ItemR:=
 stW 0 (x.saveW b)++[⟨5,⟨20,26,0,0,0⟩,nx,0⟩,⟨0,⟨18,26,26,0,15⟩,0,0⟩,⟨0,⟨15,26,26,0,arI .shl .i64 (arI .add .i64 x.slots ((x.saveW b).length:Int)) 3⟩,0,0⟩,⟨0,⟨23,26,30,0,((x.saveW b).length:Int)⟩,0,0⟩]
 ++ growL (((x.saveW b).length:Int)+1)++x.passL (((x.saveW b).length:Int)+1) e.reg e.args++[⟨3,⟨28,0,0,0,0⟩,place,0⟩,⟨1,⟨0,0,0,0,0⟩,nx,0⟩,⟨0,⟨15,27,1,0,0⟩,0,0⟩]
 ++ growL (-((x.saveW b).length:Int)-1)++ldW 0 (x.saveW b)++x.setL 0 e.to 27++[⟨3,⟨28,0,0,0,0⟩,x.labs.getD e.next.toNat 0,0⟩]
section
variable {S0 K:PH}{x:FX}{pu pu' nx:Int}{l l':List ItemR}{k k':Nat}{J:List Itm}
theorem Za0{α:Type}[Enc α]{P:Program}{X:List PanicEntry→PH→Prop}{β:Type}{E:List Value}{L:LK}{Q:β→List Value→PH→LK→Prop}{e T ty:TypeId}{b:Nat}{args:List (Nat×VE)}{f:Fm β}
  (hT:P.underlying T=some (.slice e)) (he:ElemOk P e (sz α) b=true) (h:GnH S0 K x pu nx l k J) (hk:∀v K',GnH S0 K' x pu nx l k (orow (α:=α) e [] v::J)→den P X f (E++[v]) K' L Q):den P X (.sem (.buildSlice T 0 #[]) ty args (.sc .sl) [] f) E K L Q:=by
 obtain⟨⟨h1,S,iv,h2,h3⟩,h4,h5⟩:=h;refine zji (α:=α) hT he h3 z01 fun v K' h6 _ _=>hk v K' ?_;exact⟨⟨h1,S,iv,h2,h6.perm (qA (l₁:=[_,_,_]) (l₂:=J)).symm⟩,h4,h5⟩
theorem Z40{P:Program}{X:List PanicEntry→PH→Prop}{β:Type}{E:List Value}{L:LK}{Q:β→List Value→PH→LK→Prop}{p s:SV}{f:Fm β}(hp:pOf (ev0 E p)=some ⟨x.rf,8,none⟩)(h:GnH S0 K x pu nx l k J)(hv:ev0 E s=.int .i64 pu')(hk:∀K',GnH S0 K' x pu' nx l k J→den P X f E K' L Q):den P X (.store p [s] f) E K L Q:=by
 obtain⟨⟨h1,S,iv,h2,h3⟩,h4,h5⟩:=h;refine z0d (vs:=[vi pu']) hp (h3.perm (qA (l₁:=[_,_]) (l₂:=J))) (by simp only[q9,List.map_nil,hv]) (by simp[oneC]) sM fun K' h6=>hk K' ?_;exact⟨⟨h1,S,iv,h2,h6.perm (qA (l₁:=[_,_]) (l₂:=J)).symm⟩,h4,h5⟩
theorem zu2(hx:FOk S0 x)(h:GnH S0 K x pu nx l k J)(n:Int)(hn:0≤n∧n<x.labs.length):x.lv=.slice (z09 x.lv) x.labs.length (slCap x.lv)∧(z09 x.lv).isSome=true∧rowAt K (pOf (eltV x.lv n 1)) [vi (x.labs.getD n.toNat 0)]∧InI (x.labs.getD n.toNat 0):=by
 obtain⟨m,rfl⟩:∃m:Nat,n=(m:Int):=⟨n.toNat,om⟩;have hm:x.labs[m]?=some (x.labs.getD m 0):=by rw[zgd,zge om];rfl
 obtain⟨ei,eq,ed⟩:=z3j hx.la m _ hm;obtain⟨b,c,hv⟩:=hx.la.sl;refine⟨by rw[hv];rfl,eq.1,ed _ h.sh,ei⟩
theorem Zcu(hf:FnOk x)(b:Int):(x.saveW b).length≤2001:=by
 have:=hf.saved b;unfold FX.saveW;rw[zla,zlm];split<;>simp<;>omega
theorem Zea{S:PH}(hx:FOk S x)(hf:FnOk x)(b w:Int)(h:w∈x.saveW b):InI w:=by
 unfold FX.saveW at h;rcases zma.1 h with h|h
 .obtain⟨r,h1,rfl⟩:=zmp.1 h;exact zga hx r (hf.across (zmf.1 h1).1)
 .split at h
  .rw[zsi.1 h];decide
  .cases h
theorem Z8a(hx:FOk S0 x)(hf:FnOk x)(b:Int)(e:EndX)(av:Value)(he:EnR S0 e av)(place:Int)(hpi:InI place)(hreg:x.has e.reg)(hargs:∀r∈e.args,x.has r)(hn:e.args.length≤900)(hto:x.has e.to)(hnext:0≤e.next∧e.next<x.labs.length)(h:GnH S0 K x 0 nx l (k+20000) J):
  Tri zP 146 #[pAt x.rf,vi b,.agg (enV e av).toArray,vi place] K (GnQ S0 x 0 (nx+1) (l++x.callL b e place nx) k J):=by
 obtain⟨ab,ac,hav⟩:=he.args.sl;obtain⟨s1,s2⟩:=hx.sl;have hn0:=h.n0;have hnk:=h.nk;have hwl:=Zcu hf b;have hwi:=fun w hw=>Zea hx hf b w hw;have hsv:=hf.saved b;refine qr zkw ([pAt x.rf,vi b]++enV e av++[vi place]) ?_ (by rw[hav];kernel_rfl) kr;simp only[enV,cns];refine z02 (qb 82) (Zdh hx hf b h) ?_;rintro _ K1 ⟨S1,v1,l1,h1,q1,rfl⟩;have hx1:=hx.le l1;have hwE:x.saveW b=(z2h x.p x.place b).map x.reg++(if 0<x.p.holds then[25]else[]):=rfl;have hsh:∀r∈z2h x.p x.place b,x.has r:=fun r hr=>hf.across (zmf.1 hr).1;unfold FX.callL;generalize hws:x.saveW b=ws at *;generalize hrs:z2h x.p x.place b=rs at *;have q10:=q1;obtain⟨vb,vc,rfl⟩:=q1.sl;refine⟨_,[.slice vb rs.length vc,.bool (decide (0<x.p.holds))],rfl,rfl,rfl,z01,fun _=>rfl,[pAt x.rg],rfl,h1.frow 0 1,?_⟩;simp only[cns];refine z2q (qb 42) (z4a (h1.less (k':=k+19900+1) om)) (fun _ _=>z01) fun K2 h2=>?_;simp only[cns];refine Za0 (α:=Int) z0j z0i h2 fun v2 K3 h3=>?_;simp only[cns];have hup:∀{i n:Nat},i<n→n≤100000→IntKind.i64.wrap ((i:Int)+1)=((i+1:Nat):Int):=fun h h'=>by rw[w64 om om];rfl
 refine⟨fun n vs K'=>∃(i:Nat)(u:Value),i+n=rs.length∧vs=[u,nI i]∧GnH S1 K' x 0 (nx+1) l (k+19900) (orow 3 ((rs.take i).map x.reg) u::J),⟨rs.length,0,v2,om,rfl,by simpa using h3⟩,?_⟩;rintro n vs K4 _ ⟨i,u,hin,rfl,h4⟩;simp only[cns];obtain⟨ub,uc,hu⟩:=h4.rowsl;have hml:((rs.take i).map x.reg).length≤2000:=by rw[zlm,List.length_take];omega
 refine⟨fun g=>?_,fun g=>?_⟩
 .simp only[ww,zdt]at g;obtain⟨r,hri⟩:∃r,rs[i]?=some r:=⟨_,zge om⟩;have hrh:=hsh r (zmg hri);obtain⟨ri,q,d⟩:=z3j q10 i r hri;refine⟨fun _=>q,[vi r],rfl,d _ h4.sh,?_⟩;simp only[cns];refine z03 [vi (x.reg r)] (qb 130) (z9k hx1 h4 r hrh) rfl z01 fun K5 l5=>?_;have h5:=h4.le l5;simp only[cns];refine zfx (b:=8) (more:=[x.reg r]) [vi (x.reg r)] z0j z0i rfl dC dC h5 kr (fun S _=>.cons (z08 (zga hx1 r hrh)) .nil) z01 (fun _=>kr) (fun _=>kr)
   (by simp only[maxLen,zlc,zln];omega) (by simp only[zlc,zln];omega) fun w v6 K6 h6=>⟨z01,?_⟩
  refine⟨_,z00,n-1,om,i+1,v6,om,by simp only[ww,hup (show i<rs.length by omega) om],?_⟩;rw[qZ,hri,List.map_append];exact h6
 simp only[ww,zdf]at g;obtain rfl:i=rs.length:=om;rw[List.take_length]at h4 hml;refine⟨fun vs K'=>∃u,vs=[u]∧GnH S1 K' x 0 (nx+1) l (k+19900) (orow 3 ws u::J),?_,fun g2=>?_,fun g2=>?_⟩;rotate_left
 .simp only[ww,zdt]at g2;refine zfx (b:=8) (more:=[(25:Int)]) [vi 25] z0j z0i rfl dC dC h4 kr (fun S _=>.cons (z08 dC) .nil) z01 (fun _=>kr) (fun _=>kr)
   (by simp only[maxLen,zlc,zln];omega) (by simp only[zlc,zln];omega) fun w v6 K6 h6=>⟨z01,?_⟩
  refine⟨_,z00,v6,rfl,?_⟩;rw[hwE,qj g2];exact h6
 .simp only[ww,zdf]at g2;refine⟨_,z00,u,rfl,?_⟩;rw[hwE,qc g2,zan];exact h4
 clear h1 h2 h3 h4 hu;rintro vs K5 _ ⟨u2,rfl,h5⟩;simp only[cns];obtain⟨S2,l2,q2,h6⟩:=h5.freeze;clear h5;have hx2:=hx1.le l2;have l02:=wt l1 l2;have q20:=q2;obtain⟨wb,wc,rfl⟩:=q2.sl;have htk:∀{i:Nat} {w:Int},ws[i]?=some w→ws.take (i+1)=ws.take i++[w]∧(ws.take i).length=i:=fun h=>⟨by rw[qZ,h];rfl,by rw[List.length_take];have:=(zgi.1 h).1;omega⟩;refine⟨fun n vs K'=>∃i:Nat,i+n=ws.length∧vs=[nI i]∧GnH S2 K' x 0 (nx+1) (l++stW 0 (ws.take i)) (k+17000+n) J,⟨ws.length,0,om,rfl,by simpa[stW]using h6.less om⟩,?_⟩;rintro n vs K7 _ ⟨i,hin,rfl,h7⟩;simp only[cns];refine⟨fun g=>?_,fun g=>?_⟩
 .simp only[ww,zdt]at g;obtain⟨w,hri⟩:∃r,ws[i]?=some r:=⟨_,zge om⟩;obtain⟨m,rfl⟩:∃m,n=m+1:=⟨n-1,om⟩;obtain⟨ri,q,d⟩:=z3j q20 i w hri;refine⟨fun _=>q,[vi w],rfl,d _ h7.sh,[pAt x.rg],rfl,h7.frow 0 1,fun _=>rfl,?_⟩;simp only[cns];refine z05 (qb 54) ((h7.less (k':=k+17000+m+1) om).to (z50 w 30 (i:Int) ri dC (inJ om om))) fun K8 h8=>?_;refine⟨_,z00,m,om,i+1,om,by simp only[ww,hup (show i<ws.length by omega) om],?_⟩;rw[(htk hri).1,Z8f,(htk hri).2,wl,←zaa];exact h8
 simp only[ww,zdf]at g;obtain rfl:i=ws.length:=om;rw[List.take_length]at h7;refine⟨[pAt x.rg],rfl,h7.frow 0 1,fun _=>rfl,?_⟩;simp only[cns];refine z05 (qb 151) ((h7.less (k':=k+16990+1) om).to (zug 26 nx dC (inJ om om))) fun K8 h8=>?_;refine⟨[pAt x.rg],rfl,h8.frow 0 1,fun _=>rfl,?_⟩;simp only[cns];refine z05 (qb 97) ((h8.less (k':=k+16980+1) om).to (z1v 18 26 26 15 dC dC dC dC)) fun K9 h9=>?_;refine⟨[pAt x.rg],rfl,h9.frow 0 1,fun _=>rfl,[vi x.slots],rfl,h9.frow 6 1,?_⟩;simp only[cns];refine z05 (qb 97) ((h9.less (k':=k+16970+1) om).to (z1v 15 26 26 (arI .shl .i64 (arI .add .i64 x.slots (ws.length:Int)) 3) dC dC dC (z27 _))) fun Ka ha=>?_;refine⟨[pAt x.rg],rfl,ha.frow 0 1,fun _=>rfl,?_⟩;simp only[cns];refine z05 (qb 54) ((ha.less (k':=k+16960+1) om).to (z50 26 30 (ws.length:Int) dC dC (inJ om om))) fun Kb hb=>?_;have e1:arI .add .i64 (ws.length:Int) 1=(ws.length:Int)+1:=w64 om om;obtain⟨l3,hl3⟩:∃l3,l3=l++stW 0 ws++[⟨5,⟨20,26,0,0,0⟩,nx,0⟩,⟨0,⟨18,26,26,0,15⟩,0,0⟩,⟨0,⟨15,26,26,0,arI .shl .i64 (arI .add .i64 x.slots (ws.length:Int)) 3⟩,0,0⟩,⟨0,⟨23,26,30,0,(ws.length:Int)⟩,0,0⟩]:=⟨_,rfl⟩;have hb':GnH S2 Kb x 0 (nx+1) l3 (k+16960) J:=by
  rw[hl3];simpa only[zaa,cns]using hb
 clear h6 h7 h8 h9 ha hb;have c1:Tri zP 128 #[pAt x.rf,vi (arI .add .i64 (ws.length:Int) 1)] Kb (GnQ S2 x 0 (nx+1) (l3++growL ((ws.length:Int)+1)) (k+16950) J):=by
  rw[e1];exact zlj _ (inJ om om) (hb'.less om)
 refine z05 (qb 128) c1 fun Kc hc=>?_;refine Z40 (pu':=(ws.length:Int)+1) rfl hc (by simp only[ww];exact congrArg (Value.int .i64) e1) fun Kd hd=>?_;refine z05 (qb 145) (Z8k (k:=k+10000) hx2 om e.reg e.args av (he.args.le l02) hreg hargs hn he.reg (hd.less om)) fun Ke he'=>?_;refine Z40 (pu':=0) rfl he' (by simp only[ww]) fun Kf hff=>?_;refine⟨[pAt x.rg],rfl,hff.frow 0 1,fun _=>rfl,?_⟩;simp only[cns];refine z05 (qb 60) ((hff.less (k':=k+9990+1) om).to (z6j place hpi)) fun Kg hg=>?_;refine⟨[pAt x.rg],rfl,hg.frow 0 1,fun _=>rfl,?_⟩;simp only[cns];refine z05 (qb 51) ((hg.less (k':=k+9980+1) om).to (z52 nx (inJ om om))) fun Kh hh=>?_;refine⟨[pAt x.rg],rfl,hh.frow 0 1,fun _=>rfl,?_⟩;simp only[cns];refine z05 (qb 56) ((hh.less (k':=k+9970+1) om).to (zn2 27 1 dC dC)) fun Ki hi=>?_;have e2:arI .sub .i64 (arI .sub .i64 0 (ws.length:Int)) 1=-(ws.length:Int)-1:=by
  show IntKind.i64.wrap (IntKind.i64.wrap (0-(ws.length:Int))-1)=_;rw[w64 (n:=0-(ws.length:Int)) om om,w64 om om];omega
 obtain⟨l4,hl4⟩:∃l4,l4=l3++growL ((ws.length:Int)+1)++x.passL ((ws.length:Int)+1) e.reg e.args++[⟨3,⟨28,0,0,0,0⟩,place,0⟩,⟨1,⟨0,0,0,0,0⟩,nx,0⟩,⟨0,⟨15,27,1,0,0⟩,0,0⟩]:=⟨_,rfl⟩;have hi':GnH S2 Ki x 0 (nx+1) l4 (k+9970) J:=by
  rw[hl4];simpa only[zaa,cns]using hi
 clear hc hd he' hff hg hh hi;have c2:Tri zP 128 #[pAt x.rf,vi (arI .sub .i64 (arI .sub .i64 0 (ws.length:Int)) 1)] Ki (GnQ S2 x 0 (nx+1) (l4++growL (-(ws.length:Int)-1)) (k+9960) J):=by
  rw[e2];exact zlj _ (inJ om om) (hi'.less om)
 refine z05 (qb 128) c2 fun Kj hj=>?_;refine⟨fun n vs K'=>∃i:Nat,i+n=ws.length∧vs=[nI i]∧GnH S2 K' x 0 (nx+1) (l4++growL (-(ws.length:Int)-1)++ldW 0 (ws.take i)) (k+7000+n) J,⟨ws.length,0,om,rfl,by simpa[ldW]using hj.less om⟩,?_⟩;rintro n vs Kk _ ⟨i,hin,rfl,hk⟩;simp only[cns];refine⟨fun g=>?_,fun g=>?_⟩
 .simp only[ww,zdt]at g;obtain⟨w,hri⟩:∃r,ws[i]?=some r:=⟨_,zge om⟩;obtain⟨m,rfl⟩:∃m,n=m+1:=⟨n-1,om⟩;obtain⟨ri,q,d⟩:=z3j q20 i w hri;refine⟨fun _=>q,[vi w],rfl,d _ hk.sh,[pAt x.rg],rfl,hk.frow 0 1,fun _=>rfl,?_⟩;simp only[cns];refine z05 (qb 55) ((hk.less (k':=k+7000+m+1) om).to (zmn w 30 (i:Int) ri dC (inJ om om))) fun Kl hl=>?_;refine⟨_,z00,m,om,i+1,om,by simp only[ww,hup (show i<ws.length by omega) om],?_⟩;rw[(htk hri).1,Z89,(htk hri).2,wl,←zaa];exact hl
 simp only[ww,zdf]at g;obtain rfl:i=ws.length:=om;rw[List.take_length]at hk;refine z05 (qb 135) (zx3 (k:=k+10) hx2 om e.to 27 hto dC (hk.less om)) fun Kl hl=>?_;obtain⟨z1,z2,z3,z4⟩:=zu2 hx2 hl e.next hnext;refine⟨[pAt x.rg],rfl,hl.frow 0 1,fun _=>rfl,[x.lv],by rw[z1];rfl,hl.frow 7 1,fun _=>?_,[vi (x.labs.getD e.next.toNat 0)],rfl,z3,?_⟩
 .exact⟨z2,hnext.1,by show e.next<(slLen x.lv:Int);rw[z1];exact hnext.2⟩
 simp only[cns];refine z05 (qb 60) ((hl.less (k':=k+1) om).to (z6j _ z4)) fun Km hm=>?_;refine⟨rfl,?_⟩;rw[hl4,hl3]at hm;simpa only[zaa,cns]using hm.base l02
end
def FX.leaveL(x:FX)(e:EndX)(to:Int):List ItemR:=x.passL 0 e.reg e.args++growL (arI .sub .i64 0 x.slots)++[⟨3,⟨28,0,0,0,0⟩,to,0⟩]
def FX.lab(x:FX)(i:Int):Int:=x.labs.getD i.toNat 0
def FX.askL(x:FX)(e:EndX):List ItemR:=x.getL 0 e.reg 26++[⟨4,⟨20,28,0,0,0⟩,0,2⟩,⟨2,⟨24,x.get e.reg 26,28,0,0⟩,x.lab e.els,0⟩,⟨3,⟨28,0,0,0,0⟩,x.lab e.next,0⟩]
noncomputable def FX.endL(x:FX)(b nx:Int)(e:EndX):List ItemR:=
 if e.kind=0 then[⟨3,⟨28,0,0,0,0⟩,x.lab e.next,0⟩]
 else if e.kind=1 then x.askL e
 else if e.kind=2 then x.retL 0 e.reg
 else if e.kind=3 then x.leaveL e 3
 else if e.kind=5 then x.leaveL e 7
 else if e.kind=4 then x.callL b e 3 nx
 else if e.kind=6 then x.callL b e 7 nx
 else[]
def endN(nx:Int)(e:EndX):Int:=if e.kind=4∨e.kind=6 then nx+1 else nx
section
variable {S0 K:PH}{x:FX}{pu pu' nx:Int}{l l':List ItemR}{k k':Nat}{J:List Itm}
theorem Zi0(hx:FOk S0 x)(hf:FnOk x)(hregs:∀r,0≤r∧r<x.p.regs→x.has r)(hlabs:x.labs.length=x.p.blocks.length)(b:Int)(e:EndX)(av:Value)(he:EnR S0 e av)(hok:finOk x.p e=true)(h:GnH S0 K x 0 nx l (k+20000) J):
  Tri zP 86 #[pAt x.rf,vi b,.agg (enV e av).toArray] K (GnQ S0 x 0 (endN nx e) (l++x.endL b nx e) k J):=by
 have hg:=zbg hok;obtain⟨s1,s2⟩:=hx.sl;have hargs:∀r∈e.args,x.has r:=fun r hr=>hregs r (hg.args r hr);have hfew:=hg.few;have hin:InI (arI .sub .i64 0 x.slots):=by
  show InI (IntKind.i64.wrap (0-x.slots));rw[w64 om om];exact inJ om om
 by_cases k2:e.kind=2
 .have e1:x.endL b nx e=x.retL 0 e.reg:=by unfold FX.endL;rw[qc om,qc om,qj k2]
  have e2:endN nx e=nx:=by unfold endN;rw[qc om]
  rw[e1,e2];exact Z97 hx om b e av he k2 (hregs _ (hg.reg om)) (h.less om)
 obtain⟨ab,ac,hav⟩:=he.args.sl;refine qr zae ([pAt x.rf,vi b]++enV e av) ?_ (by rw[hav];kernel_rfl) kr;simp only[enV,cns];have lab:∀{K':PH} {nx':Int} {l':List ItemR} {k':Nat} {n:Int},(0≤n∧n<x.p.blocks.length)→GnH S0 K' x 0 nx' l' k' J→x.lv=.slice (z09 x.lv) x.labs.length (slCap x.lv)∧((z09 x.lv).isSome=true∧(0:Int)≤n∧n<(slLen x.lv:Int))∧rowAt K' (pOf (eltV x.lv n 1)) [vi (x.lab n)]∧InI (x.lab n):=fun hn h=>by
  obtain⟨z1,z2,z3,z4⟩:=zu2 hx h _ (by rw[hlabs];exact hn);refine⟨z1,⟨z2,hn.1,by rw[z1];show _<(x.labs.length:Int);rw[hlabs];exact hn.2⟩,z3,z4⟩
 refine⟨fun g=>?_,fun g=>?_⟩
 .simp only[ww,zdt]at g;have hn:=hg.next (.inl g);obtain⟨z1,z2,z3,z4⟩:=lab hn h;refine⟨fun _=>rfl,[pAt x.rg],rfl,h.frow 0 1,fun _=>rfl,[x.lv],by rw[z1];rfl,h.frow 7 1,fun _=>z2,[vi (x.lab e.next)],rfl,z3,?_⟩;simp only[cns];refine z05 (qb 60) ((h.less (k':=k+1) om).to (z6j _ z4)) fun K1 h1=>?_;refine⟨rfl,?_⟩;unfold FX.endL endN;rw[qj g,qc om];exact h1
 simp only[ww,zdf]at g;refine⟨fun g1=>?_,fun g1=>?_⟩
 .simp only[ww,zdt]at g1;have hn:=hg.next (.inr (.inl g1));have hl:=hg.els g1;have hr:=hregs _ (hg.reg g);refine z2q (qb 136) (zm0 (k:=k+10) hx om e.reg 26 hr dC (h.less om)) (fun _ _=>z01) fun K1 h1=>?_;simp only[cns];refine⟨fun _=>rfl,[pAt x.rg],rfl,h1.frow 0 1,fun _=>rfl,?_⟩;simp only[cns];refine z03 [vi 2] (qb 34) (z6s 0 2 dC dC _) rfl (z0u (h1.frow 0 1) z01) fun K2 l2=>?_;have h2:=h1.le l2;simp only[cns];refine z05 (qb 57) ((h2.less (k':=k+8+1) om).to (z1n 28 2 dC dC)) fun K3 h3=>?_;obtain⟨z1,z2,z3,z4⟩:=lab hl h3;refine⟨[pAt x.rg],rfl,h3.frow 0 1,fun _=>rfl,[x.lv],by rw[z1];rfl,h3.frow 7 1,fun _=>z2,[vi (x.lab e.els)],rfl,z3,?_⟩;simp only[cns];refine z05 (qb 59) ((h3.less (k':=k+7+1) om).to (If_em 24 (x.get e.reg 26) 28 (x.lab e.els) dC (zrd hx e.reg 26 hr dC) dC z4)) fun K4 h4=>?_;obtain⟨y1,y2,y3,y4⟩:=lab hn h4;refine⟨[pAt x.rg],rfl,h4.frow 0 1,fun _=>rfl,[x.lv],by rw[z1];rfl,h4.frow 7 1,fun _=>y2,[vi (x.lab e.next)],rfl,y3,?_⟩;simp only[cns];refine z05 (qb 60) ((h4.less (k':=k+1) om).to (z6j _ y4)) fun K5 h5=>?_;refine⟨rfl,?_⟩;unfold FX.endL endN;rw[qc g,qj g1,qc om];simpa only[FX.askL,zaa,cns]using h5
 simp only[ww,zdf]at g1;refine⟨fun g2=>?_,fun _=>?_⟩
 .simp only[ww,zdt]at g2;exact absurd g2 k2
 have hr:=hregs _ (hg.reg g);refine⟨fun g3=>?_,fun g3=>?_⟩
 .have g3':e.kind=3∨e.kind=5:=by
   simp only[ww]at g3;by_cases q:e.kind=3
   .exact .inl q
   .simp only[qX q,qp,if_false,cond_false,zdt]at g3;exact .inr (by simpa using g3)
  refine z05 (qb 145) (Z8k (k:=k+10) hx om e.reg e.args av he.args hr hargs om he.reg (h.less om)) fun K1 h1=>?_;refine⟨fun _=>rfl,[vi x.slots],rfl,h1.frow 6 1,?_⟩;simp only[cns];refine z05 (qb 128) (zlj (k:=k+9) (arI .sub .i64 0 x.slots) hin (h1.less om)) fun K2 h2=>?_;refine⟨fun g4=>?_,fun g4=>?_⟩
  .simp only[ww,zdt]at g4;refine⟨[pAt x.rg],rfl,h2.frow 0 1,fun _=>rfl,?_⟩;simp only[cns];refine z05 (qb 60) ((h2.less (k':=k+1) om).to (z6j 3 dC)) fun K3 h3=>?_;refine⟨rfl,?_⟩;unfold FX.endL endN;rw[qc g,qc g1,qc k2,qj g4,qc om];simpa only[FX.leaveL,zaa,cns]using h3
  .simp only[ww,zdf]at g4;refine⟨[pAt x.rg],rfl,h2.frow 0 1,fun _=>rfl,?_⟩;simp only[cns];refine z05 (qb 60) ((h2.less (k':=k+1) om).to (z6j 7 dC)) fun K3 h3=>?_;refine⟨rfl,?_⟩;unfold FX.endL endN;rw[qc g,qc g1,qc k2,qc g4,qj (show e.kind=5 by omega),qc (show ¬(e.kind=4∨e.kind=6) by omega)];simpa only[FX.leaveL,zaa,cns]using h3
 have g3':e.kind≠3∧e.kind≠5:=by
  simp only[ww]at g3;by_cases q:e.kind=3
  .simp[q]at g3
  .exact⟨q,by simpa[q]using g3⟩
 refine⟨fun g4=>?_,fun g4=>?_⟩
 .simp only[ww,zdt]at g4;have hn:=hg.next (.inr (.inr (.inl g4)));refine z05 (qb 146) (Z8a hx hf b e av he 3 dC hr hargs om (hregs _ (hg.to (.inl g4))) (by rw[hlabs];exact hn) h) fun K1 h1=>?_;refine⟨rfl,?_⟩;unfold FX.endL endN;rw[qc g,qc g1,qc k2,qc g3'.1,qc g3'.2,qj g4,qj om];exact h1
 simp only[ww,zdf]at g4;refine⟨fun g5=>?_,fun g5=>?_⟩
 .simp only[ww,zdt]at g5;have hn:=hg.next (.inr (.inr (.inr g5)));refine z05 (qb 146) (Z8a hx hf b e av he 7 dC hr hargs om (hregs _ (hg.to (.inr g5))) (by rw[hlabs];exact hn) h) fun K1 h1=>?_;refine⟨rfl,?_⟩;unfold FX.endL endN;rw[qc g,qc g1,qc k2,qc g3'.1,qc g3'.2,qc g4,qj g5,qj om];exact h1
 simp only[ww,zdf]at g5;have:=hg.kind;omega
end
theorem zzj{c:CodeX}(g:GoodC c){p:PrcX}{x:InsX}(h:insOk c p x=true):x.args.length≤1000:=by
 have gx:=zc6 h;unfold insOk at h;split at h
 .cases h
 split at h
 .simp only[zba,zdt]at h;omega
 split at h
 .simp only[zba,zdt]at h;omega
 split at h
 .simp only[zba,zdt]at h;omega
 split at h
 .rename_i hc;obtain⟨h1,h2,h3⟩:=gx.closure hc;have:=(g.prc (zzz om h2).1).holds;omega
 split at h
 .simp only[zba,zdt]at h;omega
 split at h
 .cases h
 .simp only[zba,zdt]at h;have:z2t x.op≤3:=by
   unfold z2t
   repeat' split
   all_goals decide
  omega
theorem Zeu{c:CodeX}(g:GoodC c){p:PrcX}{b:BlkX}(hi:∀x∈b.ins,insOk c p x=true)(hf:finOk p b.e=true):b.regs.length≤1000*b.many:=by
 have h1:∀l:List InsX,(∀x∈l,insOk c p x=true)→(l.flatMap (·.args)).length≤1000*l.length:=by
  intro l
  induction l with
  |nil=>intro _;simp
  |cons x l ih=>
   intro h;have:=zzj g (h x (zms));have:=ih fun y hy=>h y (zmm _ hy);simp only[qO,zla,zlc];omega
 have h2:=h1 b.ins hi;have h3:=(zbg hf).few;unfold BlkX.regs BlkX.many EndX.regs;rw[zla,zla];have h4:(if b.e.reads b.e.reg=true then[b.e.reg]else[]).length≤1:=by split<;>simp
 have h5:(if b.e.kind=3∨b.e.kind=4 then b.e.args else[]).length≤b.e.args.length:=by split<;>simp
 omega
theorem Z84{α:Type}(f:α→List Int)(m:α→Nat):∀l:List α,(∀a∈l,(f a).length≤1000*m a)→(l.flatMap f).length≤1000*(l.map m).sum
 | [],_=>sM
 |a::l,h=>by
  have h1:=h a (zms);have h2:=Z84 f m l fun b hb=>h b (zmm _ hb);simp only[qO,zla,q9,List.sum_cons];omega
theorem GoodC.fit{c:CodeX}(g:GoodC c){p:PrcX}(hp:p∈c):p.Fit∧∀b∈p.blocks,b.e.args.length≤20000000:=by
 have gp:=g.prc hp;refine⟨⟨by have:=gp.blocks;omega,fun b hb=>by have:=(gp.ins b hb).1;omega,?_⟩,fun b hb=>by have:=(zbg (gp.fin b hb)).few;omega⟩;have h1:=Z84 BlkX.regs BlkX.many p.blocks fun b hb=>Zeu g (gp.ins b hb).2 (gp.fin b hb);have h2:=ztx hp;have h3:=g.many;unfold PrcX.many at h2;unfold PrcX.regl;omega
theorem Z73{p:PrcX}{e:EndX}(h:FinGood p e){r:Int}(hr:e.reads r=true):0≤r∧r<p.regs:=by
 unfold EndX.reads at hr;split at hr
 .rename_i hk;have hr:e.reg=r:=by simpa using hr
  rw[←hr];exact h.reg om
 split at hr
 .rename_i hk;simp only[qu,zdt]at hr;rcases hr with hr|hr
  .rw[←hr];exact h.reg om
  .exact h.args r hr
 .cases hr
theorem zwo{c:CodeX}{p:PrcX}(hg:GoodP c p):∀r∈p.regl,0≤r∧r<p.regs:=by
 intro r hr;obtain⟨b,hb,h1⟩:=List.mem_flatMap.1 hr;unfold BlkX.regs at h1;rcases zma.1 h1 with h|h
 .obtain⟨x,hx,h2⟩:=List.mem_flatMap.1 h;exact(zc6 ((hg.ins b hb).2 x hx)).args r h2
 .have hf:=zbg (hg.fin b hb);unfold EndX.regs at h;rcases zma.1 h with h|h
  .split at h
   .rename_i hr2;rw[zsi.1 h];exact Z73 hf hr2
   .simp at h
  .split at h
   .exact hf.args r h
   .simp at h
theorem Z33{c:CodeX}{p:PrcX}(hg:GoodP c p):mayP p=true:=by
 unfold mayP;rw[zba,zat];refine⟨?_,fun b hb=>?_⟩
 .have h1:=hg.params;have h2:=hg.regs;have h3:=hg.blocks;unfold z5f;simp only[qy,zof,zdf];omega
 .unfold BlkX.may;rw[zba,zat,zat];refine⟨fun x hx=>?_,fun r hr=>?_⟩
  .have g:=zc6 ((hg.ins b hb).2 x hx);unfold InsX.may;rw[zba,zat];refine⟨fun r hr=>qW (g.args r hr),?_⟩;by_cases h:x.op=tieB
   .simp[h]
   .rw[qu];exact .inr (qW (g.to h))
  .have g:=zbg (hg.fin b hb);refine qW ?_;unfold EndX.uses at hr;split at hr
   .rw[zsi.1 hr];exact g.reg om
   split at hr
   .rcases zmc.1 hr with rfl|h
    .exact g.reg om
    .exact g.args r h
   split at hr
   .rcases zmc.1 hr with rfl|h
    .exact g.reg om
    rcases zmc.1 h with rfl|h
    .exact g.to om
    .exact g.args r h
   split at hr
   .rcases zmc.1 hr with rfl|h
    .exact g.reg om
    .rw[zsi.1 h];exact g.to om
   .simp at hr
theorem Zb7{op:List UInt8}{n:Nat}(h:z2t op=(n:Int)):(n=0∧op∈ar0)∨(n=1∧op∈ar1)∨(n=2∧op∈ar2)∨(n=3∧op∈ar3):=by
 unfold z2t at h;split at h
 .rename_i g;exact .inl ⟨om,by simpa using g⟩
 split at h
 .rename_i g;exact .inr (.inl ⟨om,by simpa using g⟩)
 split at h
 .rename_i g;exact .inr (.inr (.inl ⟨om,by simpa using g⟩))
 split at h
 .rename_i g;exact .inr (.inr (.inr ⟨om,by simpa using g⟩))
 .omega
theorem Z5i{c:CodeX}{p:PrcX}{y:InsX}(h:insOk c p y=true)(e:y.op=hldB):y.args.length=0:=by
 unfold insOk at h;split at h
 .cases h
 rw[qc (show ¬y.op=constB by rw[e];decide),qc (show ¬y.op=movB by rw[e];decide)]at h;simp only[zba,zdt]at h;exact h.1.1.1
theorem Zgd(n:Nat):opG cloB n=some (.ret none [.pf,.s cloB,.i .to,.sl,.o 0 (.int .i64),.o 1 (.int .i64),.o 2 .str,.o 3 .sl,.i .num],⟨[.clo],0,900⟩):=kr
theorem Zen{c:CodeX}{p:PrcX}{y:InsX}(h:insOk c p y=true)(h1:y.op≠constB):(∃G st,opG y.op y.args.length=some (.ret none G,st))∧(y.op≠cloB→okG y.op (opG y.op y.args.length)=true):=by
 have hg:=zc6 h;have hcc:y.op≠ccB:=fun e=>by rw[Z4s e]at h;cases h
 have key:y.op≠cloB→okG y.op (opG y.op y.args.length)=true:=fun h2=>by
  have hm:(y.op,y.args.length)∈opsG:=by
   refine zmf.2 ⟨?_,qW hcc⟩;simp only[zma,zmc,zmp,Prod.mk.injEq];by_cases e1:y.op=movB
   .exact .inl (.inl (.inl (.inl ⟨e1,hg.move e1⟩)))
   by_cases e2:y.op=hldB
   .exact .inl (.inl (.inl (.inr (.inl ⟨e2,Z5i h e2⟩))))
   by_cases e3:y.op=tieB
   .exact .inl (.inl (.inl (.inr (.inr (.inl ⟨e3,(hg.tie e3).1⟩)))))
   rcases Zb7 (hg.prim h1 e1 e2 h2 e3)with⟨q,m⟩|⟨q,m⟩|⟨q,m⟩|⟨q,m⟩
   .exact .inl (.inl (.inl (.inr (.inr (.inr ⟨_,m,rfl,q.symm⟩)))))
   .exact .inl (.inl (.inr ⟨_,m,rfl,q.symm⟩))
   .exact .inl (.inr ⟨_,m,rfl,q.symm⟩)
   .exact .inr ⟨_,m,rfl,q.symm⟩
  exact zat.1 Zgm _ hm
 refine⟨?_,key⟩;by_cases h2:y.op=cloB
 .rw[h2];exact⟨_,_,Zgd _⟩
 .have:=key h2;unfold okG at this;split at this
  .exact⟨_,_,by assumption⟩
  .cases this
section
variable {S0 K:PH}{x:FX}{pu nx:Int}{l:List ItemR}{k:Nat}{J:List Itm}
theorem Zhx{c:CodeX}(hx:FOk S0 x)(hp:0≤pu∧pu≤100000)(gc:GoodC c)(hc:c.length≤x.ents.length)(hregs:∀r,0≤r∧r<x.p.regs→x.has r)(y:InsX)(hok:insOk c x.p y=true)(av dv:Value)(hy:InR S0 y av dv)(h0:GnH S0 K x pu nx l (k+3000) J):
  Tri zP 85 #[pAt x.rf,.agg (inV y av dv).toArray] K (GnQ S0 x pu (insN nx y) (l++x.insL pu nx y) k J):=by
 have hg:=zc6 hok;by_cases e1:y.op=constB
 .have a1:x.insL pu nx y=x.constL pu y:=qj e1;have a2:insN nx y=nx:=qj e1;rw[a1,a2];exact Z42 hx hp _ av dv hy e1 (hregs _ (hg.to (by rw[e1];decide))) (h0.less om)
 obtain⟨⟨G,st,hO⟩,_⟩:=Zen hok e1;have a1:x.insL pu nx y=st.segs.flatMap (GS.l (x.gn pu nx y)):=by unfold FX.insL;rw[qc e1,hO]
 have a2:insN nx y=nx+(st.nl:Int):=by unfold insN;rw[qc e1,hO]
 rw[a1,a2];obtain⟨ab,ac,hav⟩:=hy.args.sl;obtain⟨db,dc,hdv⟩:=hy.cl.sl;refine qr z9m ([pAt x.rf]++inV y av dv) ?_ (by rw[hav,hdv];kernel_rfl) kr;have hGok:=Zi6 (l:=l) (k:=k) (J:=J) (nx:=nx) h0.n0 hx hp hy (fun e=>hregs _ (hg.to e)) (fun r hr=>hregs r (hg.args r hr)) (zzj gc hok) fun e=>by
  have:=hg.closure e;omega
 have e3:Tag.sl.ok dv=true:=by rw[hdv];rfl
 refine gI_ok hGok 300 _ _ _ _ _ hO _ _ _ _ _ (.cons rfl (.cons rfl (.cons rfl (.cons rfl (.cons ⟨rfl,rfl⟩ (.cons ⟨rfl,rfl⟩ (.cons ⟨rfl,rfl⟩ (.cons ⟨rfl,e3⟩ (.cons rfl .nil))))))))) ?_ ?_
 .show GnH S0 K x pu (nx+0) (l++[]) (k+3000) J;rw[zan,Int.add_zero];exact h0
 .intro v E H L _ hv hI;refine⟨?_,hI.less om⟩;rw[show evV E (fun _=>0) v=_ from hv]
end
noncomputable def FX.inssL(x:FX):Int→List InsX→List ItemR
 |_,[]=>[]
 |nx,y::ys=>x.insL 0 nx y++x.inssL (insN nx y) ys
noncomputable def inssN:Int→List InsX→Int
 |nx,[]=>nx
 |nx,y::ys=>inssN (insN nx y) ys
noncomputable def FX.blksL(x:FX):Nat→Int→List BlkX→List ItemR
 |_,_,[]=>[]
 |i,nx,b::bs=>[⟨1,⟨0,0,0,0,0⟩,x.lab (i:Int),0⟩]++x.inssL nx b.ins++x.endL (i:Int) (inssN nx b.ins) b.e++x.blksL (i+1) (endN (inssN nx b.ins) b.e) bs
noncomputable def blksN:Int→List BlkX→Int
 |nx,[]=>nx
 |nx,b::bs=>blksN (endN (inssN nx b.ins) b.e) bs
noncomputable def FX.funL(x:FX)(lab nx:Int):List ItemR:=x.entL lab nx++[⟨3,⟨28,0,0,0,0⟩,x.lab 0,0⟩]++x.blksL 0 (x.roomN nx) x.p.blocks
noncomputable def FX.funN(x:FX)(nx:Int):Int:=blksN (x.roomN nx) x.p.blocks
noncomputable def fxP(p:PrcX)(ents:List Int)(syms:List (List UInt8))(stack nx:Int):FX:=
 ⟨0,0,p,(colP p 24).1,(colP p 24).2-24,(List.range p.blocks.length).map fun j:Nat=>nx+(j:Int),ents,syms,stack,.bool false,.bool false,.bool false,.bool false,.bool false⟩
def FX.bare(x:FX):FX:=⟨0,0,x.p,x.place,x.slots,x.labs,x.ents,x.syms,x.stack,.bool false,.bool false,.bool false,.bool false,.bool false⟩
theorem Zci(x:FX)(pu nx:Int)(y:InsX):x.insL pu nx y=x.bare.insL pu nx y:=kr
theorem zw2(x:FX):∀(i:Nat)(rs:List Int),x.passM i rs=x.bare.passM i rs
 |_,[]=>rfl
 |i,r::rs=>by
  rw[FX.passM,FX.passM,zw2 x (i+1) rs];rfl
theorem zv9(x:FX)(pu:Int):∀(i:Nat)(rs:List Int),x.passD pu i rs=x.bare.passD pu i rs
 |_,[]=>rfl
 |i,r::rs=>by
  rw[FX.passD,FX.passD,zv9 x pu (i+1) rs];rfl
theorem zut(x:FX)(pu c:Int)(rs:List Int):x.passL pu c rs=x.bare.passL pu c rs:=by
 unfold FX.passL;rw[zw2,zv9]
theorem Zbg(x:FX)(b nx:Int)(e:EndX):x.endL b nx e=x.bare.endL b nx e:=by
 unfold FX.endL FX.leaveL FX.callL;rw[zut,zut]
 kernel_rfl
theorem zwb(x:FX):∀(ys:List InsX)(nx:Int),x.inssL nx ys=x.bare.inssL nx ys
 | [],_=>rfl
 |y::ys,nx=>by rw[FX.inssL,FX.inssL,zwb x ys,Zci]
theorem zvv(x:FX):∀(bs:List BlkX)(i:Nat)(nx:Int),x.blksL i nx bs=x.bare.blksL i nx bs
 | [],_,_=>rfl
 |b::bs,i,nx=>by
  rw[FX.blksL,FX.blksL,zvv x bs,zwb,Zbg];rfl
theorem Zcs(x:FX)(lab nx:Int):x.funL lab nx=x.bare.funL lab nx:=by
 unfold FX.funL;rw[zvv];rfl
theorem Zbo(x:FX)(nx:Int):x.funN nx=x.bare.funN nx:=rfl
structure GeH(S0 K:PH)(rg:Nat)(sv env:Value)(nx stack:Int)(l:List ItemR)(k:Nat)(J:List Itm):Prop where
 em:EmH S0 K rg 100 [sv,env,vi nx,vi stack] l k J
 n0:0≤nx
 nk:nx+k≤2199023255552
def costB(b:BlkX):Nat:=30000+3000*b.ins.length
def z3u(l:List BlkX):Nat:=(l.map costB).sum
theorem zt1(b:BlkX)(l:List BlkX):z3u (b::l)=costB b+z3u l:=by unfold z3u;rw[q9,List.sum_cons]
theorem Zam(l:List BlkX):l.length≤z3u l:=zxj costB (fun b=>by unfold costB;omega) l
def costP(p:PrcX):Nat:=30000+2*z3u p.blocks
section
variable {S0 K:PH}{rg:Nat}{sv env:Value}{nx stack:Int}{l:List ItemR}{k:Nat}{J:List Itm}
theorem Z5t{c:CodeX}(gc:GoodC c){p:PrcX}(hpc:p∈c){ents:List Int}{syms:List (List UInt8)}(bv:Value)(lab:Int)(hlab:InI lab)(h:GeH S0 K rg sv env nx stack l (k+costP p) J)(hst:0≤stack∧stack≤131072)
  (hbv:SlR S0 p.blocks bv) (hen:SlR S0 ents env) (hel:c.length≤ents.length) (hsy:SlR S0 syms sv) :
  Tri zP 43 #[pAt rg,.agg (prcVs p bv).toArray,vi lab] K fun e K'=>e=.returned (.tuple #[])∧GeH S0 K' rg sv env ((fxP p ents syms stack nx).funN (nx+p.blocks.length)) stack (l++(fxP p ents syms stack nx).funL lab (nx+p.blocks.length)) k J:=by
 have gp:=gc.prc hpc;obtain⟨hfit,hfew⟩:=gc.fit hpc;have hmay:=Z33 gp;have hH:∀q∈c,q.holds≤1000:=fun q hq=>(gc.prc hq).holds.2;have hn0:=h.n0;have hnk:=h.nk;obtain⟨⟨hl,S,iv,hS,hh⟩,_,_⟩:=h;have hbv0:=hbv;have hblk:=gp.blocks;have hcl:=Zam p.blocks;unfold costP at hl hnk;obtain⟨b0,c0,rfl⟩:=hbv.sl;refine qr zdg ([pAt rg]++prcVs p (.slice b0 p.blocks.length c0)++[vi lab]) ?_;simp only[prcVs,cns];refine z02 (qb 39) (zqm p (.slice b0 p.blocks.length c0) S K _ hh (hbv0.le hS) hfit hfew hmay) ?_;rintro _ K1 ⟨S1,rf,pl,pv,n,rfl,l1,hpl,hpd,hq1,hq2,hh1⟩;refine⟨_,[pAt rf],rfl,rfl,rfl,z01,fun _=>rfl,?_⟩;simp only[cns];refine z0d (off:=0) (vs:=[pAt rg]) rfl hh1 (by simp only[ww]) (by simp[oneC]) sM fun K2 hh2=>?_;have hS1:=wt hS l1;have hup:∀{i n:Nat},i<n→n≤100000→IntKind.i64.wrap ((i:Int)+1)=((i+1:Nat):Int):=fun h h'=>by rw[w64 om om];rfl
 refine ⟨fun m vs K=>∃(i:Nat) (lv:Value) (S2:PH) (iv:Value),i+m=p.blocks.length∧vs=[nI i]∧PH.le S1 S2∧Held S2 K (bx rg 100 [iv,sv,env,vi (nx+i),vi stack]::orow 131 l iv::bx rf 142 [pAt rg,vi p.params,vi p.holds,vi p.regs,.slice b0 p.blocks.length c0,pv,vi n,lv,vi 0]::orow 3 ((List.range i).map fun j:Nat=>nx+(j:Int)) lv::J),
  ⟨p.blocks.length,0,.slice none 0 0,S1,iv,om,rfl,wu _,?_⟩,?_⟩
 .have h3:=hh2.empty (α:=Int) 3;rw[show nx+((0:Nat):Int)=nx by omega];exact h3.perm (by
   refine(qq _ _ _).trans ?_;refine List.Perm.trans ?_ (qA (l₁:=[_,_]) (l₂:=_)).symm;refine List.Perm.cons _ ?_;exact(qA (l₁:=[_,_]) (l₂:=J)).symm)
 rintro m vs K3 _ ⟨i,lv,S2,iv2,him,rfl,l2,hh3⟩;have hlr:=(hh3.row (e:=3) (l:=(List.range i).map fun j:Nat=>nx+(j:Int)) (v:=lv) sM);obtain⟨lb,lc,hlv⟩:=hlr.sl;simp only[cns];refine⟨fun g=>?_,fun g=>?_⟩
 .simp only[ww,zdt]at g;have hrf:∀off n',rowAt K3 (some ⟨rf,off,none⟩) ((([pAt rg,vi p.params,vi p.holds,vi p.regs,.slice b0 p.blocks.length c0,pv,vi n,lv,vi 0]:List Value).drop off).take n'):=fun off n'=>z20 (T:=142) hh3 sM off n';refine⟨[lv],by rw[hlv];rfl,hrf 7 1,?_⟩;simp only[cns];have hem:EmH S1 K3 rg 100 [sv,env,vi (nx+i),vi stack] l k (bx rf 142 [pAt rg,vi p.params,vi p.holds,vi p.regs,.slice b0 p.blocks.length c0,pv,vi n,lv,vi 0]::orow 3 ((List.range i).map fun j:Nat=>nx+(j:Int)) lv::J):=⟨om,S2,iv2,l2,hh3⟩;refine z02 (qb 42) (Z4y hem om om) ?_;rintro _ K4 ⟨rfl,_,S4,iv4,l4,hh4⟩;have hrf4:∀off n',rowAt K4 (some ⟨rf,off,none⟩) ((([pAt rg,vi p.params,vi p.holds,vi p.regs,.slice b0 p.blocks.length c0,pv,vi n,lv,vi 0]:List Value).drop off).take n'):=fun off n'=>z20 (T:=142) hh4 sM off n';refine⟨_,[vi (nx+i)],rfl,rfl,rfl,z0u (hrf4 7 1) z01,?_⟩;simp only[cns];have hh5:=hh4.perm (qA (l₁:=[_,_,_]) (l₂:=J));refine z15 (b:=8) (more:=[nx+(i:Int)]) [vi (nx+i)] z0j z0i rfl dC dC hh5 kr (.cons (z08 (inJ om om)) .nil) (z0u (hrf4 7 1) z01) (fun w=>kr) (fun w=>kr)
   (by simp only[zlm,wg,maxLen,zlc,zln];omega) (by simp only[zlm,wg,zlc,zln];omega) fun w5 v5 S5 K5 l5 hh6=>⟨z01,?_⟩
  simp only[cns];obtain⟨b6,c6,hv6⟩:=(hh6.row (e:=3) (zms)).sl;refine z0d (T:=142) (off:=7) (vs:=[v5]) rfl (hh6.perm (qA (l₁:=[_,_,_]) (l₂:=J))) (by simp only[ww]) (by intro u hu;rw[zsi.1 hu,hv6];rfl) sM fun K6 hh8=>?_;refine⟨_,z00,m-1,om,i+1,v5,S5,iv4,om,by simp only[ww,hup (show i<p.blocks.length by omega) om],wt l4 l5,?_⟩;rw[show(List.range (i+1)).map (fun j:Nat=>nx+(j:Int))=(List.range i).map (fun j:Nat=>nx+(j:Int))++[nx+(i:Int)]from zqg _ i,show nx+((i+1:Nat):Int)=nx+i+1 by omega];exact hh8.perm (List.Perm.append_right J (List.perm_append_comm (l₁:=[_,_]) (l₂:=[_,_])))
 simp only[ww,zdf]at g;obtain rfl:i=p.blocks.length:=om;obtain⟨S3,s3,l3,hh4⟩:=(hh3.perm (qA (l₁:=[_,_,_]) (l₂:=J))).freeze;have hS3:=wt hS1 (wt l2 l3);obtain⟨x,hxE⟩:∃x:FX,x=⟨rg,rf,p,pl,n,(List.range p.blocks.length).map fun j:Nat=>nx+(j:Int),ents,syms,stack,.slice b0 p.blocks.length c0,pv,lv,env,sv⟩:=⟨_,rfl⟩;have hbare:x.bare=fxP p ents syms stack nx:=by rw[hxE,hq1,hq2];rfl
 rw[←hbare,←Zcs,←Zbo];have hplen:pl.length=p.regs.toNat:=hpd.len;have hreg:=gp.regs;have hpar:=gp.params;have hlo:=hpd.lo;have hhi:=hpd.hi;have hx:FOk S3 x:=by
  rw[hxE];refine⟨hbv0.le hS3,hpl.le (wt l2 l3),s3,hen.le hS3,hsy.le hS3,fun a ha=>?_,by show 0≤n∧n≤3000;omega,hst⟩;obtain⟨r,hr⟩:=qH ha;have:=hpd.all r a hr;omega
 have xrf:x.rf=rf:=by rw[hxE]
 have xrg:x.rg=rg:=by rw[hxE]
 have xp:x.p=p:=by rw[hxE]
 have xpl:x.place=pl:=by rw[hxE]
 have xla:x.labs=(List.range p.blocks.length).map fun j:Nat=>nx+(j:Int):=by rw[hxE]
 have xlv:x.lv=lv:=by rw[hxE]
 have xen:x.ents=ents:=by rw[hxE]
 have hregs:∀r,0≤r∧r<x.p.regs→x.has r:=fun r hr=>by
  rw[xp]at hr;unfold FX.has;rw[xpl];omega
 have hf:FnOk x:=⟨by rw[xp];exact hfit,by rw[xp];exact hfew,fun r hr=>hregs r (by rw[xp]at hr⊢;exact zwo gp r hr),by rw[xpl];omega⟩;have hlabs:x.labs.length=x.p.blocks.length:=by rw[xla,xp];simp
 have hg4:GnH S3 K3 x 0 (nx+p.blocks.length) l (k+30000+z3u p.blocks) J:=by
  rw[hxE];exact⟨⟨om,S3,iv2,wu _,hh4⟩,om,om⟩
 have fin:∀{K':PH} {l':List ItemR} {n':Int},GnH S3 K' x 0 n' l' k J→GeH S0 K' rg sv env n' stack l' k J:=fun h=>by
  obtain⟨⟨q1,S4,iv4,q2,q3⟩,q4,q5⟩:=h;rw[hxE]at q3;exact⟨⟨q1,S4,iv4,wt hS3 q2,(q3.perm (qA (l₁:=[_,_]) (l₂:=J))).tail⟩,q4,q5⟩
 have labR:∀{K':PH} {nx':Int} {l':List ItemR} {k':Nat} {j:Nat},j<p.blocks.length→GnH S3 K' x 0 nx' l' k' J→x.lv=.slice (z09 x.lv) x.labs.length (slCap x.lv)∧((z09 x.lv).isSome=true∧(0:Int)≤(j:Int)∧(j:Int)<(slLen x.lv:Int))∧rowAt K' (pOf (eltV x.lv (j:Int) 1)) [vi (x.lab (j:Int))]∧InI (x.lab (j:Int)):=fun{K'}{nx'}{l'}{k'}{j}hn h=>by
  have hlt:(0:Int)≤(j:Int)∧(j:Int)<(x.labs.length:Int):=by rw[hlabs,xp];omega
  obtain⟨z1,z2,z3,z4⟩:=zu2 hx h (j:Int) hlt;exact⟨z1,⟨z2,hlt.1,by rw[z1];exact hlt.2⟩,z3,z4⟩
 rw[←xrf];refine z05 (qb 84) (Zds (k:=k+10000+z3u p.blocks) hx hf lab hlab (by rw[xp];omega) (by rw[xp];omega) (hg4.less om)) fun K4 h4=>?_;obtain⟨z1,z2,z3,z4⟩:=labR (j:=0) om h4;refine⟨[pAt x.rg],rfl,h4.frow 0 1,fun _=>rfl,[x.lv],by rw[z1];rfl,h4.frow 7 1,fun _=>z2,[vi (x.lab ((0:Nat):Int))],rfl,z3,?_⟩;simp only[cns];refine z05 (qb 60) ((h4.less (k':=k+z3u p.blocks+1) om).to (z6j (x.lab ((0:Nat):Int)) z4)) fun K5 h5=>?_;obtain⟨Lf,hLf⟩:∃Lf,Lf=l++x.funL lab (nx+p.blocks.length):=⟨_,rfl⟩;obtain⟨Nf,hNf⟩:∃Nf,Nf=x.funN (nx+p.blocks.length):=⟨_,rfl⟩;rw[←hLf,←hNf];have hLf':(l++x.entL lab (nx+p.blocks.length)++[⟨3,⟨28,0,0,0,0⟩,x.lab ((0:Nat):Int),0⟩])++x.blksL 0 (x.roomN (nx+p.blocks.length)) p.blocks=Lf:=by
  rw[hLf];unfold FX.funL;rw[xp];simp only[zaa];rfl
 have hNf':blksN (x.roomN (nx+p.blocks.length)) p.blocks=Nf:=by rw[hNf];unfold FX.funN;rw[xp]
 refine⟨fun m vs K=>∃(i:Nat)(n':Int)(l':List ItemR),i+m=p.blocks.length∧vs=[nI i]∧GnH S3 K x 0 n' l' (k+z3u (p.blocks.drop i)) J∧l'++x.blksL i n' (p.blocks.drop i)=Lf∧blksN n' (p.blocks.drop i)=Nf,⟨p.blocks.length,0,_,_,om,rfl,h5,hLf',hNf'⟩,?_⟩;clear h4 h5 hg4;rintro m vs K6 _ ⟨i,n6,l6,him,rfl,h6,hL6,hN6⟩;simp only[cns];refine⟨fun g=>?_,fun g=>?_⟩;rotate_left
 .simp only[ww,zdf]at g;obtain rfl:i=p.blocks.length:=om;rw[List.drop_length]at h6 hL6 hN6;rw[FX.blksL,zan]at hL6;rw[blksN]at hN6;rw[←hL6,←hN6];exact⟨rfl,fin (h6.less om)⟩
 simp only[ww,zdt]at g;obtain⟨b,hb⟩:∃b,p.blocks[i]?=some b:=⟨_,zge om⟩;have hdr:p.blocks.drop i=b::p.blocks.drop (i+1):=by
  rw[←List.getElem_cons_drop (zgi.1 hb).1,(zgi.1 hb).2]
 have hbm:=zmg hb;rw[hdr,FX.blksL]at hL6;rw[hdr,blksN]at hN6;rw[hdr,zt1,costB]at h6;obtain⟨hil,hio⟩:=gp.ins b hbm;obtain⟨y1,_,ycs,y2,y3⟩:=(hbv0.le hS3).get hb;obtain⟨iv6,es,rfl,i1,i2⟩:=blk_iff.1 y2;obtain⟨av,rfl,e1,e2,e3,e4,e5,e6⟩:=end_iff.1 i2;obtain⟨ab,ac,hav⟩:=e3.sl;have i10:=i1;obtain⟨ib,ic,rfl⟩:=i1.sl;refine⟨fun _=>⟨y1,by show(0:Int)≤(i:Int);omega,by show(i:Int)<(p.blocks.length:Int);omega⟩,[.slice ib b.ins.length ic,vi b.e.kind,vi b.e.reg,av,vi b.e.to,vi b.e.next,vi b.e.els],by rw[hav];rfl,z0t h6.sh y3,?_⟩;simp only[cns];obtain⟨z1,z2,z3,z4⟩:=labR (j:=i) om h6;refine⟨[pAt x.rg],rfl,h6.frow 0 1,fun _=>rfl,[x.lv],by rw[z1];rfl,h6.frow 7 1,fun _=>z2,[vi (x.lab (i:Int))],rfl,z3,?_⟩;simp only[cns];refine z05 (qb 51) ((h6.less (k':=k+z3u (p.blocks.drop (i+1))+25000+3000*b.ins.length+1) om).to (z52 (x.lab (i:Int)) z4)) fun K7 h7=>?_;obtain⟨l7,hl7⟩:∃l7,l7=l6++[⟨1,⟨0,0,0,0,0⟩,x.lab (i:Int),0⟩]:=⟨_,rfl⟩;rw[←hl7]at h7;refine⟨fun q vs K=>∃(u:Nat)(n':Int)(l':List ItemR),u+q=b.ins.length∧vs=[nI u]∧GnH S3 K x 0 n' l' (k+z3u (p.blocks.drop (i+1))+25000+3000*q) J∧l'++x.inssL n' (b.ins.drop u)=l7++x.inssL n6 b.ins∧inssN n' (b.ins.drop u)=inssN n6 b.ins,⟨b.ins.length,0,n6,l7,om,rfl,h7,rfl,rfl⟩,?_⟩;clear h6 h7;rintro q vs K8 _ ⟨u,n8,l8,huq,rfl,h8,hL8,hN8⟩;simp only[cns];refine⟨fun g2=>?_,fun g2=>?_⟩
 .simp only[ww,zdt]at g2;obtain⟨y,hy⟩:∃y,b.ins[u]?=some y:=⟨_,zge om⟩;have hdy:b.ins.drop u=y::b.ins.drop (u+1):=by
   rw[←List.getElem_cons_drop (zgi.1 hy).1,(zgi.1 hy).2]
  rw[hdy,FX.inssL]at hL8;rw[hdy,inssN]at hN8;obtain⟨q',rfl⟩:∃q',q=q'+1:=⟨q-1,om⟩;obtain⟨w1,_,wcs,w2,w3⟩:=i10.get hy;obtain⟨wv,dv,rfl,q1,q2,q3,q4,q5,q6,q7,q8⟩:=ins_iff.1 w2;obtain⟨wb,wc,hwv⟩:=q3.sl;obtain⟨db,dc,hdv⟩:=q7.sl;refine⟨fun _=>⟨w1,by show(0:Int)≤(u:Int);omega,by show(u:Int)<(b.ins.length:Int);omega⟩,inV y wv dv,by rw[hwv,hdv];rfl,z0t h8.sh w3,?_⟩;simp only[inV,cns];refine z05 (qb 85) (Zhx (c:=c) (k:=k+z3u (p.blocks.drop (i+1))+25000+3000*q') hx om gc (by rw[xen];exact hel) hregs y (by rw[xp];exact hio y (zmg hy)) wv dv ⟨q1,q2,q3,q4,q5,q6,q7,q8⟩ (h8.less om)) fun K9 h9=>?_;refine⟨_,z00,q',om,u+1,_,_,om,by simp only[ww,hup (show u<b.ins.length by omega) om],h9,?_,hN8⟩;rw[zaa];exact hL8
 .simp only[ww,zdf]at g2;obtain rfl:u=b.ins.length:=om;rw[List.drop_length]at hL8 hN8;rw[FX.inssL,zan]at hL8;rw[inssN]at hN8;subst hN8;refine z05 (qb 86) (Zi0 (k:=k+z3u (p.blocks.drop (i+1))) hx hf hregs hlabs (i:Int) b.e av ⟨e1,e2,e3.le (wu _),e4,e5,e6⟩ (by rw[xp];exact gp.fin b hbm) (h8.less om)) fun K9 h9=>?_;refine⟨_,(z1b dC).trans z00,m-1,om,i+1,_,_,om,by simp only[ww,hup (show i<p.blocks.length by omega) om],h9,?_,hN6⟩;rw[hL8,hl7];simpa only[zaa]using hL6
end
def gsY(acc:List (List UInt8))(y:InsX):List (List UInt8):=if y.op=constB∧y.const.kind=4∧acc.contains y.const.text=false then acc++[y.const.text]else acc
def gsB(acc:List (List UInt8))(b:BlkX):List (List UInt8):=b.ins.foldl gsY acc
def gsP(acc:List (List UInt8))(p:PrcX):List (List UInt8):=p.blocks.foldl gsB acc
def gsC(c:CodeX):List (List UInt8):=c.foldl gsP []
theorem z61{α β:Type}{f:List β→α→List β}{m:Nat}:∀(l:List α)(acc:List β),(∀a∈l,∀acc,(f acc a).length≤acc.length+m)→(l.foldl f acc).length≤acc.length+m*l.length
 | [],acc,_=>sM
 |a::l,acc,h=>by
  have h1:=z61 l (f acc a) fun b hb=>h b (zmm _ hb);have h2:=h a (zms) acc;rw[List.foldl_cons,zlc,Nat.mul_succ];omega
theorem znz{α β:Type}{f:β→α→β}{l:List α}{i:Nat}{a:α}(h:l[i]?=some a)(acc:β):(l.take (i+1)).foldl f acc=f ((l.take i).foldl f acc) a:=by
 rw[qZ,h,List.foldl_append];rfl
theorem Z7b(y:InsX)(acc:List (List UInt8)):(gsY acc y).length≤acc.length+1:=by unfold gsY;split<;>simp
theorem Z87{b:BlkX}(h:b.ins.length≤4096)(acc:List (List UInt8)):(gsB acc b).length≤acc.length+4096:=by
 have:=z61 (m:=1) b.ins acc fun a _ acc=>Z7b a acc;unfold gsB;omega
theorem Z81{c:CodeX}{p:PrcX}(h:GoodP c p)(acc:List (List UInt8)):(gsP acc p).length≤acc.length+16777216:=by
 have:=z61 (m:=4096) p.blocks acc fun b hb acc=>Z87 (h.ins b hb).1 acc;have:=h.blocks;unfold gsP;omega
theorem csTxG{H:PH}{l:List UInt8}{cs:List Value}(h:CsR H l cs):cs=[txt l]∧l.length≤maxLen:=by
 obtain⟨v,vs,rfl,⟨rfl,h2⟩,rfl⟩:=h;exact⟨rfl,h2⟩
theorem Zf0{H:PH}{l:List UInt8}(h:l.length≤maxLen):CsR H l [txt l]:=⟨_,_,rfl,⟨rfl,h⟩,rfl⟩
theorem uTxG:Tryz.prog.underlying 24=some (.slice 9):=kr
theorem zxf:ElemOk zP 9 1 16=true:=kr
theorem Z9m(l:List (List UInt8))(s:List UInt8)(v:Value)(H:PH)(hl:SlR H l v):Tri zP 35 #[v,txt s] H fun e H'=>∃n:Int,e=.returned (vi n)∧decide (0≤n)=l.contains s∧PH.le H H':=by
 obtain⟨b,c,rfl⟩:=hl.sl;have hm:=hl.max;simp only[maxLen]at hm;refine qr z3o [.slice b l.length c,txt s] ?_;refine⟨fun n vs H'=>∃k:Nat,vs=[vi 0,vi k]∧k+n=l.length∧s∉l.take k∧PH.le H H',⟨l.length,0,rfl,om,sM,wu H⟩,?_⟩;rintro n vs H' _ ⟨k,rfl,hkn,hno,hle⟩;refine⟨fun h=>?_,fun h=>?_⟩
 .simp only[ww,zdt]at h;obtain⟨a,ha⟩:∃a,l[k]?=some a:=⟨_,zge (show k<l.length by omega)⟩;obtain⟨g1,_,ces,g2,g3⟩:=(hl.le hle).get ha;obtain⟨rfl,_⟩:=csTxG g2;refine⟨fun _=>?_,[txt a],rfl,?_,fun h2=>?_,fun h2=>?_⟩
  .simp only[Chk.holds,ww];exact⟨g1,om,om⟩
  .simp only[ww];exact g3
  .simp only[ww,z0k,zdt]at h2;subst h2;exact⟨k,rfl,by rw[List.contains_iff_mem.2 (zmg ha)];simp,hle⟩
  .simp only[ww,z0k,zdf]at h2;refine⟨_,z00,n-1,om,k+1,?_,om,fun hx=>?_,hle⟩
   .simp only[ww];rw[w64 om om];rfl
   .rw[qZ,ha]at hx;rcases zma.1 hx with hx|hx
    .exact hno hx
    .exact h2 (zsi.1 hx)
 .simp only[ww,zdf]at h;rw[ztl om]at hno;refine⟨-1,rfl,?_,hle⟩;cases hc:l.contains s with
  |false=>rfl
  |true=>exact absurd (List.contains_iff_mem.1 hc) hno
theorem zv1(l:List (List UInt8))(s:List UInt8)(v:Value)(H:PH)(hl:SlR H l v):Gives zP 83 [v,txt s] H (.bool (l.contains s)):=by
 obtain⟨b,c,rfl⟩:=hl.sl;refine qr z7e [.slice b l.length c,txt s] ?_;refine z02 (qb 35) (Z9m l s _ H hl) ?_;rintro e H' ⟨n,rfl,h1,h2⟩;refine⟨_,[_],rfl,rfl,rfl,z01,?_,h2⟩;simp only[ww,h1]
theorem Z9t(l:List (List UInt8))(v:Value)(S:PH)(h:SlR S l v)(hl:l.length≤6000000000):Tri zP 44 #[v] S fun x S'=>PH.le S S'∧∃v',x=.returned v'∧SlR S' l v':=by
 obtain⟨b,c,hv⟩:=h.sl;subst hv;refine qr z95 [.slice b l.length c] ?_;refine⟨fun g=>?_,fun g=>?_⟩
 .simp only[ww]at g;have:b=none:=by
   cases b with
   |none=>rfl
   |some a=>simp[z5s]at g
  subst this;refine⟨wu S,_,rfl,?_⟩;have hl0:l=[]:=by
   rcases(SlR.mk_iff.1 h).2 with⟨_,e⟩|⟨a,c',e,_⟩
   .exact e
   .cases e
  rw[hl0];exact SlR.mk_iff.2 ⟨Nat.zero_le _,.inl ⟨rfl,rfl⟩⟩
 .refine zji (α:=List UInt8) (b:=16) uTxG zxf (Held.nil (wu S)) z01 fun v1 H1 h1 _ _=>?_;refine z67 (b:=16) (more:=l) uTxG zxf kr kr h1 (h.srcS h1.sh) (by simp only[maxLen,zln];omega) (by simp only[zln];omega) fun v2 H2 h2 _=>⟨z01,?_⟩;obtain⟨S3,s3,l3,h3⟩:=h2.freeze;exact⟨wt l3 h3.sh,v2,rfl,s3.le h3.sh⟩
theorem Z62{c:CodeX}(gc:GoodC c)(cv:Value)(S:PH)(hc:SlR S c cv):Tri zP 41 #[.agg #[cv]] S fun e S'=>PH.le S S'∧∃v,e=.returned v∧SlR S' (gsC c) v:=by
 have hcn:=gc.few;have hc0:=hc;obtain⟨cb,cc,rfl⟩:=hc.sl;have hup:∀{i n:Nat},i<n→n≤100000→IntKind.i64.wrap ((i:Int)+1)=((i+1:Nat):Int):=fun h h'=>by rw[w64 om om];rfl
 refine qr zuv [.slice cb c.length cc] ?_;have st:=(Held.nil (wu S)).empty (α:=List UInt8) 9;refine⟨fun n vs K=>∃(i:Nat)(u:Value)(S':PH),i+n=c.length∧vs=[u,nI i]∧PH.le S S'∧Held S' K [orow 9 ((c.take i).foldl gsP []) u],⟨c.length,0,.slice none 0 0,S,om,rfl,wu _,st⟩,?_⟩;rintro n vs K1 _ ⟨i,u1,S1,hin,rfl,l1,h1⟩;obtain⟨ub,uc,hu⟩:=(h1.row (zms)).sl;simp only[cns];refine⟨fun g=>?_,fun g=>?_⟩;rotate_left
 .simp only[ww,zdf]at g;obtain rfl:i=c.length:=om;rw[List.take_length]at h1;obtain⟨S2,s2,l2,h2⟩:=h1.freeze;exact⟨wt l1 (wt l2 h2.sh),u1,rfl,s2.le h2.sh⟩
 simp only[ww,zdt]at g;obtain⟨p,hp⟩:∃p,c[i]?=some p:=⟨_,zge om⟩;have hpm:=zmg hp;have gp:=gc.prc hpm;have gpb:=gp.blocks;have hA:=z61 (m:=16777216) (f:=gsP) (c.take i) [] fun q hq acc=>Z81 (gc.prc (List.mem_of_mem_take hq)) acc;rw[List.length_take,zln]at hA;generalize hacc:(c.take i).foldl gsP []=acc at *;obtain⟨x1,_,cs,x2,x3⟩:=hc0.get hp;obtain⟨bv,rfl,p1,p2,p3,p4⟩:=prc_iff.1 x2;have p40:=p4;obtain⟨pb,pc,rfl⟩:=p4.sl;refine⟨fun _=>⟨x1,by show(0:Int)≤(i:Int);omega,by show(i:Int)<(c.length:Int);omega⟩,[vi p.params,vi p.holds,vi p.regs,.slice pb p.blocks.length pc],rfl,z0t (wt l1 h1.sh) x3,?_⟩;simp only[cns];refine⟨fun m vs K=>∃(j:Nat)(u:Value)(S':PH),j+m=p.blocks.length∧vs=[u,nI j]∧PH.le S S'∧Held S' K [orow 9 ((p.blocks.take j).foldl gsB acc) u],⟨p.blocks.length,0,u1,S1,om,rfl,l1,h1⟩,?_⟩;rintro m vs K2 _ ⟨j,u2,S2,hjm,rfl,l2,h2⟩;obtain⟨ub2,uc2,hu2⟩:=(h2.row (zms)).sl;simp only[cns];refine⟨fun g=>?_,fun g=>?_⟩;rotate_left
 .simp only[ww,zdf]at g;obtain rfl:j=p.blocks.length:=om;rw[List.take_length]at h2;refine⟨_,(z1b dC).trans z00,n-1,om,i+1,u2,S2,om,by simp only[ww,hup (show i<c.length by omega) om],l2,?_⟩;rw[znz hp,hacc];exact h2
 simp only[ww,zdt]at g;obtain⟨b,hb⟩:∃b,p.blocks[j]?=some b:=⟨_,zge om⟩;have hbm:=zmg hb;have gbi:=(gp.ins b hbm).1;have hB:=z61 (m:=4096) (f:=gsB) (p.blocks.take j) acc fun q hq acc=>Z87 (gp.ins q (List.mem_of_mem_take hq)).1 acc;rw[List.length_take]at hB;generalize hacc2:(p.blocks.take j).foldl gsB acc=acc2 at *;obtain⟨y1,_,ycs,y2,y3⟩:=p40.get hb;obtain⟨iv,es,rfl,i1,i2⟩:=blk_iff.1 y2;have i10:=i1;obtain⟨ib,ic,rfl⟩:=i1.sl;obtain⟨av,rfl,e1,e2,e3,e4,e5,e6⟩:=end_iff.1 i2;obtain⟨ab,ac,hav⟩:=e3.sl;refine⟨fun _=>⟨y1,by show(0:Int)≤(j:Int);omega,by show(j:Int)<(p.blocks.length:Int);omega⟩,[.slice ib b.ins.length ic,vi b.e.kind,vi b.e.reg,av,vi b.e.to,vi b.e.next,vi b.e.els],by rw[hav];rfl,z0t (wt l2 h2.sh) y3,?_⟩;simp only[cns];refine⟨fun m vs K=>∃(q:Nat)(u:Value)(S':PH),q+m=b.ins.length∧vs=[u,nI q]∧PH.le S S'∧Held S' K [orow 9 ((b.ins.take q).foldl gsY acc2) u],⟨b.ins.length,0,u2,S2,om,rfl,l2,h2⟩,?_⟩;rintro m3 vs K3 _ ⟨q,u3,S3,hqm,rfl,l3,h3⟩;obtain⟨ub3,uc3,hu3⟩:=(h3.row (zms)).sl;simp only[cns];refine⟨fun g=>?_,fun g=>?_⟩;rotate_left
 .simp only[ww,zdf]at g;obtain rfl:q=b.ins.length:=om;rw[List.take_length]at h3;refine⟨_,(z1b dC).trans z00,m-1,om,j+1,u3,S3,om,by simp only[ww,hup (show j<p.blocks.length by omega) om],l3,?_⟩;rw[znz hb,hacc2];exact h3
 simp only[ww,zdt]at g;obtain⟨y,hy⟩:∃y,b.ins[q]?=some y:=⟨_,zge om⟩;have hC:=z61 (m:=1) (f:=gsY) (b.ins.take q) acc2 fun a _ acc=>Z7b a acc;rw[List.length_take]at hC;generalize hacc3:(b.ins.take q).foldl gsY acc2=acc3 at *;obtain⟨z1,_,zcs,z2,z3⟩:=i10.get hy;obtain⟨wv,dv,rfl,q1,q2,q3,q4,q5,q6,q7,q8⟩:=ins_iff.1 z2;obtain⟨wb,wc,hwv⟩:=q3.sl;obtain⟨db,dc,hdv⟩:=q7.sl;refine⟨fun vs K=>∃(u:Value)(S':PH),vs=[u]∧PH.le S S'∧Held S' K [orow 9 (gsY acc3 y) u],?_,fun _=>⟨z1,by show(0:Int)≤(q:Int);omega,by show(q:Int)<(b.ins.length:Int);omega⟩,inV y wv dv,by rw[hwv,hdv];rfl,z0t (wt l3 h3.sh) z3,?_⟩
 .rintro vs K _ ⟨u,S',rfl,l,h⟩;refine⟨_,z00,m3-1,om,q+1,u,S',om,by simp only[ww,hup (show q<b.ins.length by omega) om],l,?_⟩;rw[znz hy,hacc3];exact h
 simp only[inV,cns];refine⟨fun vs K=>vs=[.bool (decide (y.op=constB)&&decide (y.const.kind=4) && !acc3.contains y.const.text)]∧PH.le K3 K,?_,fun g2=>?_,fun g2=>?_⟩;rotate_left
 .simp only[ww,z0k]at g2;simp only[zba,zdt]at g2;refine z03 [.bool (acc3.contains y.const.text)] (qb 83) (zv1 acc3 y.const.text u3 K3 ((h3.row (zms)).slR h3.sh)) rfl z01 fun K4 l4=>?_;refine⟨_,z00,?_,l4⟩;rw[qW (show y.op=constB from g2.1),qW g2.2];rfl
 .simp only[ww,z0k]at g2;refine⟨_,z00,?_,wu _⟩;have:(decide (y.op=constB)&&decide (y.const.kind=4))=false:=g2;rw[this];rfl
 rintro vs K4 _ ⟨rfl,k34⟩;simp only[cns];have h4:=h3.le k34;refine⟨fun g2=>?_,fun g2=>?_⟩
 .simp only[ww]at g2;simp only[zba,zdt,qy]at g2;have e1:gsY acc3 y=acc3++[y.const.text]:=by unfold gsY;rw[qj ⟨g2.1.1,g2.1.2,g2.2⟩]
  refine z15 (b:=16) (more:=[y.const.text]) [txt y.const.text] uTxG zxf rfl dC dC h4 kr (.cons (Zf0 q6) .nil) z01 (fun _=>kr) (fun _=>kr)
   (by simp only[maxLen,zlc,zln];omega) (by simp only[zlc,zln];omega) fun w v5 S5 K5 l5 h5=>⟨z01,?_⟩
  refine⟨_,z00,v5,S5,rfl,wt l3 l5,by rw[e1];exact h5⟩
 .simp only[ww]at g2;have e1:gsY acc3 y=acc3:=by
   unfold gsY;rw[qc];rintro⟨a1,a2,a3⟩;rw[qW a1,qW a2,a3]at g2;cases g2
  exact⟨_,z00,u3,S3,rfl,l3,by rw[e1];exact h4⟩
noncomputable def roomF(p:PrcX):Int:=roomP p (colP p 24).1 ((colP p 24).2-24)
noncomputable def z4z(m:Int)(p:PrcX):Int:=if roomF p>m then roomF p else m
noncomputable def roomC(c:CodeX):Int:=c.foldl z4z 0+2
theorem Zdm{c:CodeX}(gc:GoodC c){p:PrcX}(hp:p∈c)(hpd:Placed p 24 ((colP p 24).2-24) (colP p 24).1):0≤roomF p∧roomF p≤20003002:=by
 have gp:=gc.prc hp;obtain⟨hfit,hfew⟩:=gc.fit hp;have hlo:=hpd.lo;have hhi:=hpd.hi;have:=zts (f:=fun i=>((z2h p (colP p 24).1 (i:Int)).length:Int)) (fun i=>by
  have h1:(z2h p (colP p 24).1 (i:Int)).length≤(z0w p (i:Int)).length:=List.length_filter_le _ _;have h2:=znq hfit (i:Int);omega) p.blocks 0 0 om
 unfold roomF roomP;omega
def PlOk(p:PrcX):Prop:=Placed p 24 ((colP p 24).2-24) (colP p 24).1
theorem zto(c:CodeX)(cv:Value)(S:PH)(hc:SlR S c cv)(hshort:∀p∈c,∀b∈p.blocks,b.ins.length≤4611686018427387904):Tri zP 14 #[.agg #[cv]] S fun x K=>PH.le S K∧x=.returned (.tuple #[vi (if z1e c=0 then roomC c else 0),vi (z1e c)])∧(z1e c=0→∀p∈c,PlOk p):=by
 have hcv:=Z3z c cv S hc hshort;have hc0:=hc;obtain⟨cb,cc,rfl⟩:=hc.sl;refine qr Z4i [.slice cb c.length cc] ?_;refine z03 [vi (z1e c)] (qb 38) hcv rfl z01 fun K1 l1=>?_;simp only[cns];refine⟨fun g=>?_,fun g=>?_⟩
 .simp only[ww]at g;have g':¬z1e c=0:=by simpa using g
  rw[qc g'];exact⟨l1,rfl,fun h=>absurd h g'⟩
 have hck:z1e c=0:=by
  simp only[ww]at g;simpa using g
 have gc:=zt2 hck;have hcn:=gc.few;rw[qj hck,hck];have hup:∀{i n:Nat},i<n→n≤100000→IntKind.i64.wrap ((i:Int)+1)=((i+1:Nat):Int):=fun h h'=>by rw[w64 om om];rfl
 refine⟨fun n vs K=>∃(i:Nat)(m:Int),i+n=c.length∧vs=[vi m,nI i]∧PH.le S K∧m=(c.take i).foldl z4z 0∧(0≤m∧m≤20003002)∧∀q∈c.take i,PlOk q,⟨c.length,0,0,om,rfl,l1,rfl,om,fun q hq=>by simp at hq⟩,?_⟩;rintro n vs K2 _ ⟨i,m,hin,rfl,l2,hm,hmb,hpk⟩;simp only[cns];refine⟨fun g=>?_,fun g=>?_⟩;rotate_left
 .simp only[ww,zdf]at g;obtain rfl:i=c.length:=om;rw[List.take_length]at hm hpk;refine⟨l2,?_,fun _=>hpk⟩;show Ending.returned (.tuple #[vi (IntKind.i64.wrap (m+2)),vi 0])=_;rw[w64 om om,hm];rfl
 simp only[ww,zdt]at g;obtain⟨p,hp⟩:∃p,c[i]?=some p:=⟨_,zge om⟩;have hpm:=zmg hp;have gp:=gc.prc hpm;obtain⟨hfit,hfew⟩:=gc.fit hpm;obtain⟨x1,_,cs,x2,x3⟩:=hc0.get hp;obtain⟨bv,rfl,p1,p2,p3,p4⟩:=prc_iff.1 x2;have p40:=p4;obtain⟨pb,pc,rfl⟩:=p4.sl;refine⟨fun _=>⟨x1,by show(0:Int)≤(i:Int);omega,by show(i:Int)<(c.length:Int);omega⟩,[vi p.params,vi p.holds,vi p.regs,.slice pb p.blocks.length pc],rfl,z0t l2 x3,?_⟩;simp only[cns];refine z02 (qb 39) (zqm p (.slice pb p.blocks.length pc) K2 K2 [] (Held.nil (wu K2)) (p40.le l2) hfit hfew (Z33 gp)) ?_;rintro _ K3 ⟨S3,rf,pl,pv,n3,rfl,l3,hpl,hpd,hq1,hq2,hh⟩;refine⟨_,[pAt rf],rfl,rfl,rfl,z01,?_⟩;simp only[cns];have hlo:=hpd.lo;have hhi:=hpd.hi;have hplen:pl.length=p.regs.toNat:=hpd.len;have hregs:=gp.regs;have hrb:=Zdm gc hpm (by rw[←hq2,←hq1];exact hpd);have hrE:roomP p pl n3=roomF p:=by unfold roomF;rw[←hq2,←hq1]
 refine z02 (qb 40) (Z0f (gp:=.pointer none) (p:=p) (pv:=pv) (lv:=.slice none 0 0) (place:=pl) (slots:=n3) (pushed:=0) (rf:=rf) hh (zms) (p40.le (wt l2 l3)) hpl hfit hfew (fun b r hr=>?_) om) ?_
 .have:r∈p.regl:=by
   unfold z0w at hr;split at hr
   .split at hr
    .exact z4p (liveL_mem.1 (zmf.1 hr).1)
    .cases hr
   .cases hr
  have:=zwo gp r this;omega
 rintro _ K4 ⟨rfl,S4,l4,h4⟩;refine⟨_,[vi (roomP p pl n3)],rfl,rfl,rfl,z01,?_⟩;refine⟨_,z00,n-1,om,i+1,z4z m p,om,?_,wt l2 (wt l3 (wt l4 h4.sh)),?_,?_,fun q hq=>?_⟩
 .rw[hrE];simp only[ww,hup (show i<c.length by omega) om];unfold z4z;by_cases hc':roomF p>m
  .simp[hc']
  .simp[hc']
 .rw[qZ,hp,List.foldl_append,←hm];rfl
 .unfold z4z;split<;>omega
 .rw[qZ,hp]at hq;rcases zma.1 hq with hq|hq
  .exact hpk q hq
  .obtain rfl:q=p:=by simpa using hq
   unfold PlOk;rw[←hq2,←hq1];exact hpd
noncomputable def genF(ents:List Int)(syms:List (List UInt8))(stack:Int):Nat→Int→List ItemR→List PrcX→Option (List ItemR)
 |_,_,l,[]=>some l
 |i,nx,l,p::ps=>
  if 64536<(l++(fxP p ents syms stack nx).funL (ents.getD i 0) (nx+p.blocks.length)).length then none
  else genF ents syms stack (i+1) ((fxP p ents syms stack nx).funN (nx+p.blocks.length)) (l++(fxP p ents syms stack nx).funL (ents.getD i 0) (nx+p.blocks.length)) ps
def entA(j:Nat):Int:=if j=0 then 10 else 10000+(j:Int)
def entsC(c:CodeX):List Int:=(List.range c.length).map entA
noncomputable def genC(c:CodeX)(stack:Int):Int ⊕ List ItemR:=
 if z1e c≠0 then .inl (z1e c)
 else if stack<roomC c∨131072<stack then .inl 250
 else match genF (entsC c) (gsC c) stack 0 (10000+(c.length:Int)) [] c with
  |none=>.inl 151
  |some l=>.inr l
def GenAt(r:Int ⊕ List ItemR)(syms:List (List UInt8))(x:Ending)(K:PH):Prop:=
 match r with
 | .inl n=>x=.returned (.tuple #[.slice none 0 0,.slice none 0 0,.int .i64 n])
 | .inr l=>∃v sv,x=.returned (.tuple #[v,sv,.int .i64 0])∧SlR K l v∧SlR K syms sv∧l.length≤64536
def costC(l:List PrcX):Nat:=(l.map costP).sum
theorem zwu(p:PrcX)(l:List PrcX):costC (p::l)=costP p+costC l:=by unfold costC;rw[q9,List.sum_cons]
theorem Zfb(p:PrcX):costP p≤30000+60000*p.many:=by
 have:∀l:List BlkX,z3u l≤30000*(l.map BlkX.many).sum:=by
  intro l
  induction l with
  |nil=>exact wa _
  |cons b l ih=>
   rw[zt1,q9,List.sum_cons];have h1:costB b=30000+3000*b.ins.length:=rfl;have h2:b.many=1+b.ins.length:=rfl;omega
 have h1:=this p.blocks;have h2:costP p=30000+2*z3u p.blocks:=rfl;have h3:p.many=(p.blocks.map BlkX.many).sum:=rfl;omega
theorem Zdt(l:List PrcX):costC l≤30000*l.length+60000*(l.map PrcX.many).sum:=by
 induction l with
 |nil=>exact wa _
 |cons p l ih=>
  have:=Zfb p;rw[zwu,q9,List.sum_cons,zlc];omega
theorem GeH.items{S0 K:PH}{rg:Nat}{sv env:Value}{nx stack:Int}{l:List ItemR}{k:Nat}{J:List Itm}(h:GeH S0 K rg sv env nx stack l k J):∃iv,(∀off n,rowAt K (some ⟨rg,off,none⟩) ((([iv,sv,env,vi nx,vi stack]:List Value).drop off).take n))∧SlR K l iv∧PH.le S0 K:=by
 obtain⟨⟨_,S,iv,hS,hh⟩,_,_⟩:=h;exact⟨iv,fun off n=>z20 hh (zms) off n,(hh.row (e:=131) (l:=l) (v:=iv) sM).slR hh.sh,wt hS hh.sh⟩
theorem Zc2(i:Nat):(List.range (i+1)).map entA=(List.range i).map entA++[entA i]:=zqg entA i
theorem zxs(c:CodeX)(cv:Value)(stack:Int)(S:PH)(hc:SlR S c cv)(hshort:∀p∈c,∀b∈p.blocks,b.ins.length≤4611686018427387904)(hpr:InI stack):Tri zP 15 #[.agg #[cv],vi stack] S fun x K'=>PH.le S K'∧GenAt (genC c stack) (gsC c) x K'∧(z1e c=0→∀p∈c,PlOk p):=by
 have hrm:=zto c cv S hc hshort;have hc0:=hc;obtain⟨cb,cc,rfl⟩:=hc.sl;have hup:∀{i n:Nat},i<n→n≤100000→IntKind.i64.wrap ((i:Int)+1)=((i+1:Nat):Int):=fun h h'=>by rw[w64 om om];rfl
 refine qr Z5u [.slice cb c.length cc,vi stack] ?_;refine z02 (qb 14) hrm ?_;rintro _ K1 ⟨l1,rfl,hpk⟩;refine⟨_,[vi (if z1e c=0 then roomC c else 0),vi (z1e c)],rfl,rfl,rfl,z01,?_⟩;simp only[cns];refine⟨fun g=>?_,fun g=>?_⟩
 .simp only[ww]at g;have g':z1e c≠0:=by simpa using g
  refine⟨l1,?_,hpk⟩;unfold genC;rw[qj g'];rfl
 have hck:z1e c=0:=by
  simp only[ww]at g;simpa using g
 have gc:=zt2 hck;have hcn:=gc.few;rw[qj hck];refine⟨fun g=>?_,fun g=>?_⟩
 .simp only[ww]at g;simp only[qu,zdt]at g;refine⟨l1,?_,hpk⟩;unfold genC;rw[qc om,qj om];rfl
 simp only[ww]at g;simp only[zof,zdf]at g;have hgC:genC c stack=match genF (entsC c) (gsC c) stack 0 (10000+(c.length:Int)) [] c with
  |none=>.inl 151
  |some l=>.inr l:=by
  unfold genC;rw[qc om,qc om]
  try (generalize genF _ _ _ _ _ _ _=o;cases o<;>rfl)
 have hst:0≤stack∧stack≤131072:=by
  refine⟨?_,om⟩;have h1:(0:Int)≤c.foldl z4z 0:=by
   have:∀(l:List PrcX)(m:Int),0≤m→0≤l.foldl z4z m:=by
    intro l
    induction l with
    |nil=>intro m h;exact h
    |cons p l ih=>
     intro m h;rw[List.foldl_cons];refine ih _ ?_;unfold z4z;split<;>omega
   exact this c 0 om
  have h2:roomC c=c.foldl z4z 0+2:=rfl;omega
 refine z02 (qb 41) (Z62 gc (.slice cb c.length cc) K1 (hc0.le l1)) ?_;rintro _ K2 ⟨l2,sv,rfl,hsv⟩;have hsv0:=hsv;obtain⟨sb,sc,rfl⟩:=hsv.sl;refine⟨_,[.slice sb (gsC c).length sc],rfl,rfl,rfl,z01,?_⟩;simp only[cns];have l02:=wt l1 l2;obtain⟨svv,hsvv⟩:∃sv,sv=Value.slice sb (gsC c).length sc:=⟨_,rfl⟩;rw[←hsvv]at hsv0;refine z2r (vs:=[.slice none 0 0,svv,.slice none 0 0,vi 10000,vi stack]) (Held.nil (wu K2)) (by rw[hsvv];kernel_rfl) fun rg K3 _ h3=>?_;simp only[cns];have h3a:Held K2 K3 [bx rg 100 [.slice none 0 0,svv,.slice none 0 0,vi 10000,vi stack],orow 131 ([]:List ItemR) (.slice none 0 0),orow 3 ([]:List Int) (.slice none 0 0)]:=
  ((h3.empty (α:=Int) 3).empty (α:=ItemR) 131).perm (List.perm_append_comm (l₁:=[_,_]) (l₂:=[_]))
 refine ⟨fun n vs K=>∃(i:Nat) (env iv:Value) (S2:PH),i+n=c.length∧vs=[nI i]∧PH.le K2 S2∧Held S2 K [bx rg 100 [iv,svv,env,vi (10000+i),vi stack],orow 131 ([]:List ItemR) iv,orow 3 ((List.range i).map entA) env],
  ⟨c.length,0,.slice none 0 0,.slice none 0 0,K2,om,rfl,wu _,by rw[show((10000:Int)+((0:Nat):Int))=10000 by decide];exact h3a⟩,?_⟩
 rintro n vs K _ ⟨i,env,iv,S2,hin,rfl,l3,h4⟩;have her:=h4.row (e:=3) (l:=(List.range i).map entA) (v:=env) sM;obtain⟨eb,ec,hev⟩:=her.sl;simp only[cns];refine⟨fun g=>?_,fun g=>?_⟩
 .simp only[ww,zdt]at g;refine⟨fun vs K=>∃(env iv:Value)(S2:PH),vs=[]∧PH.le K2 S2∧Held S2 K [bx rg 100 [iv,svv,env,vi (10000+i+1),vi stack],orow 131 ([]:List ItemR) iv,orow 3 ((List.range (i+1)).map entA) env],?_,fun _=>rfl,[env],by rw[hev];rfl,z20 h4 (zms) 2 1,?_⟩
  .rintro vs K5 _ ⟨ev5,iv5,S5,rfl,l5,h5⟩;refine⟨_,z00,n-1,om,i+1,ev5,iv5,S5,om,by simp only[ww,hup (show i<c.length by omega) om],l5,?_⟩;rw[show(10000:Int)+((i+1:Nat):Int)=10000+i+1 by omega];exact h5
  simp only[cns];have hem:EmH S2 K rg 100 [svv,env,vi (10000+i),vi stack] [] 100 [orow 3 ((List.range i).map entA) env]:=⟨sM,S2,_,wu _,h4⟩;refine z02 (qb 42) (Z4y hem om om) ?_;rintro _ K4 ⟨rfl,_,S4,iv4,l4,h5⟩;refine⟨_,[vi (10000+i)],rfl,rfl,rfl,z0u (z20 h5 (zms) 2 1) z01,?_⟩;simp only[cns];have h6:=h5.perm (List.perm_append_comm (l₁:=[_,_]) (l₂:=[_]));refine z15 (b:=8) (more:=[(10000+i:Int)]) [vi (10000+i)] z0j z0i rfl dC dC h6 kr (.cons (z08 (inJ om om)) .nil) (z0u (z20 h5 (zms) 2 1) z01) (fun w=>kr) (fun w=>kr)
   (by simp only[zlm,wg,maxLen,zlc,zln];omega) (by simp only[zlm,wg,zlc,zln];omega) fun w7 v7 S7 K7 l7 h7=>⟨z01,?_⟩
  simp only[cns];obtain⟨b7,c7,hv7⟩:=(h7.row (e:=3) (zms)).sl;refine z0d (T:=100) (off:=2) (vs:=[v7]) rfl (h7.perm (qq _ _ _)) (by simp only[ww]) (by intro u hu;rw[zsi.1 hu,hv7];rfl) sM fun K8 h8=>?_;have l27:=wt l3 (wt l4 l7);refine⟨fun g2=>?_,fun g2=>?_⟩
  .have hi0:i=0:=by
    simp only[ww,zdt]at g2;omega
   subst hi0;have h8r:=(h8.row (e:=3) (l:=(List.range 0).map entA++[(10000+(0:Nat):Int)]) (v:=v7) sM);obtain⟨z1,_⟩:=(h8r.slR h8.sh).get (i:=0) rfl;refine⟨[v7],by rw[hv7];rfl,z20 h8 (zms) 2 1,fun _=>?_,?_⟩
   .simp only[Chk.holds,ww,slLen];rw[hv7]at z1⊢;exact⟨z1,om,sM⟩
   simp only[cns];refine z1f (i:=0) (a:=(10000+(0:Nat):Int)) (a':=(10:Int)) (us:=[vi 10]) (by simp only[ww];rfl) (h8.perm (qq _ _ _)) rfl rfl (by simp only[ww]) (by simp[oneC]) (z08 dC) fun K9 h9=>?_;exact⟨_,z00,v7,iv4,S7,rfl,l27,h9.perm (by exact(qq _ _ _).trans (List.Perm.cons _ (qq _ _ _)))⟩
  .have hi0:i≠0:=by
    simp only[ww,zdf]at g2;omega
   refine⟨_,z00,v7,iv4,S7,rfl,l27,?_⟩;have e1:entA i=10000+(i:Int):=by unfold entA;rw[qc hi0]
   rw[Zc2,e1];exact h8.perm (List.Perm.cons _ (qq _ _ _))
 simp only[ww,zdf]at g;obtain rfl:i=c.length:=om;obtain⟨S5,s5,l5,h5⟩:=(h4.perm (List.perm_append_comm (l₁:=[_,_]) (l₂:=[_]))).freeze;have l25:=wt l3 l5;have l05:=wt l02 l25;have s5':SlR S5 (entsC c) env:=s5;have s50:=s5';obtain⟨eb,ec,hevE⟩:=s5'.sl;have hel:(entsC c).length=c.length:=by unfold entsC;simp
 have hcost:=Zdt c;have hmany:=gc.many;have hmE:manyC c=(c.map PrcX.many).sum:=rfl;have hem:GeH S5 K rg svv env (10000+c.length) stack [] (1000000+costC c) []:=⟨⟨by rw[zln];omega,S5,iv,wu _,h5⟩,om,om⟩;refine⟨fun n vs K=>∃(i:Nat)(nx':Int)(l':List ItemR),i+n=c.length∧vs=[.slice none 0 0,.slice none 0 0,vi 0,nI i]∧GeH S5 K rg svv env nx' stack l' (1000000+costC (c.drop i)) []∧l'.length≤64536∧genF (entsC c) (gsC c) stack i nx' l' (c.drop i)=genF (entsC c) (gsC c) stack 0 (10000+(c.length:Int)) [] c,⟨c.length,0,_,_,om,rfl,hem,sM,rfl⟩,?_⟩;clear hem h4 h5;rintro n vs K6 _ ⟨i,nx6,l6,hin6,rfl,h6,hl6,hF6⟩;simp only[cns];refine⟨fun g=>?_,fun g=>?_⟩
 .simp only[ww,zdt]at g;obtain⟨p,hp⟩:∃p,c[i]?=some p:=⟨_,zge om⟩;have hpm:=zmg hp;have hdr:c.drop i=p::c.drop (i+1):=by
   rw[←List.getElem_cons_drop (zgi.1 hp).1,(zgi.1 hp).2]
  rw[hdr,zwu]at h6;rw[hdr,genF]at hF6;obtain⟨x1,_,cs,x2,x3⟩:=(hc0.le l05).get hp;obtain⟨bv,rfl,p1,p2,p3,p4⟩:=prc_iff.1 x2;have p40:=p4;obtain⟨pb,pc,rfl⟩:=p4.sl;have hent:(entsC c)[i]?=some ((entsC c).getD i 0):=by rw[zgd,zge om];rfl
  obtain⟨ei,eq,ed⟩:=z3j s50 i _ hent;obtain⟨iv6,hr6,hs6,sh6⟩:=h6.items;refine⟨fun _=>⟨x1,by show(0:Int)≤(i:Int);omega,by show(i:Int)<(c.length:Int);omega⟩,[vi p.params,vi p.holds,vi p.regs,.slice pb p.blocks.length pc],rfl,z0t sh6 x3,fun _=>rfl,[env],by rw[hevE];rfl,hr6 2 1,fun _=>eq,[vi ((entsC c).getD i 0)],rfl,ed _ sh6,?_⟩;simp only[cns];refine z02 (qb 43) (Z5t (k:=1000000+costC (c.drop (i+1))) (ents:=entsC c) (syms:=gsC c) gc hpm (.slice pb p.blocks.length pc) ((entsC c).getD i 0) ei ⟨⟨by have:=h6.em.1;omega,h6.em.2⟩,h6.n0,by have:=h6.nk;omega⟩ hst p40 s50 om (hsv0.le l25)) ?_;rintro _ K7 ⟨rfl,h7⟩;refine⟨_,[],rfl,rfl,rfl,z01,?_⟩;simp only[zan];obtain⟨iv7,hr7,hs7,sh7⟩:=h7.items;obtain⟨l7,hl7⟩:∃l7,l7=l6++(fxP p (entsC c) (gsC c) stack nx6).funL ((entsC c).getD i 0) (nx6+p.blocks.length):=⟨_,rfl⟩;rw[←hl7]at h7 hs7 hF6;have hs70:=hs7;obtain⟨ib,ic,hiv⟩:=hs7.sl;refine⟨[iv7],by rw[hiv];rfl,hr7 0 1,fun g2=>?_,fun g2=>?_⟩
  .have g3:64536<l7.length:=by
    rw[hiv]at g2;simp only[ww,zdt]at g2;omega
   rw[qj g3]at hF6;refine⟨wt l05 sh7,?_,hpk⟩;rw[hgC,←hF6];rfl
  .have g3:¬64536<l7.length:=by
    rw[hiv]at g2;simp only[ww,zdf]at g2;omega
   rw[qc g3]at hF6;exact⟨_,z00,n-1,om,i+1,_,l7,om,by simp only[ww,hup (show i<c.length by omega) om],h7,om,hF6⟩
 simp only[ww,zdf]at g;obtain rfl:i=c.length:=om;rw[List.drop_length,genF]at hF6;obtain⟨iv6,hr6,hs6,sh6⟩:=h6.items;have hs60:=hs6;obtain⟨ib,ic,hiv⟩:=hs6.sl;refine⟨fun _=>rfl,[iv6],by rw[hiv];rfl,hr6 0 1,[svv],by rw[hsvv];rfl,hr6 1 1,?_⟩;simp only[cns];have hgl:(gsC c).length≤6000000000:=by
  have:=z61 (m:=16777216) (f:=gsP) c [] fun q hq acc=>Z81 (gc.prc hq) acc;rw[zln]at this;unfold gsC;omega
 refine z02 (qb 44) (Z9t (gsC c) svv K6 (hsv0.le (wt l25 sh6)) hgl) ?_;rintro _ K8 ⟨l8,sv8,rfl,hs8⟩;refine⟨_,[sv8],rfl,?_,rfl,z0u (z0t l8 (hr6 0 1)) z01,?_⟩
 .obtain⟨b8,c8,rfl⟩:=hs8.sl;rfl
 refine⟨wt l05 (wt sh6 l8),?_,hpk⟩;rw[hgC,←hF6];exact⟨iv6,sv8,rfl,hs60.le l8,hs8,hl6⟩
def thruB(r:Int):List InsX→Bool→Bool
 | [],q=>q
 |x::xs,q=>decide (r∈x.args)||(!(decide (x.op≠tieB)&&decide (x.to=r))&&thruB r xs q)
def zum(e:EndX)(n:Nat)(r:Int)(L:List Bool):Bool:=e.reads r||(!(e.calls&&decide (e.to=r))&&(e.leads n).any fun b=>L.getD b.toNat false)
def blkB(p:PrcX)(r:Int)(L:List Bool)(i a:Nat):Bool:=match p.blocks[i]? with
 |some b=>thruB r (b.ins.drop a) (zum b.e p.blocks.length r L)
 |none=>false
def stepB(p:PrcX)(r:Int)(L:List Bool):List Bool:=(List.range p.blocks.length).map fun j=>blkB p r L j 0
def iterB(p:PrcX)(r:Int):Nat→List Bool
 |0=>[]
 |k+1=>stepB p r (iterB p r k)
abbrev isB(L:List Bool)(b:Nat):Prop:=L.getD b false=true
theorem Z0c{r:Int}{q:Bool}:∀{l:List InsX},thruB r l q=true↔thru r l (q=true)
 | []=>Iff.rfl
 |x::xs=>by
  rw[thruB,thru,←Z0c (l:=xs)];simp[InsX.fills,Decidable.or_iff_not_imp_left]
theorem endB_iff{e:EndX}{n:Nat}{r:Int}{L:List Bool}:zum e n r L=true↔zd0 e n r (isB L):=by
 unfold zum zd0;simp only[qu,zba,qy,wi,zdf,wj];refine or_congr Iff.rfl (and_congr ?_ ⟨?_,?_⟩)
 .cases e.calls<;>simp
 .rintro⟨b,hb,h⟩;have h0:0≤b:=by
   unfold EndX.leads at hb;have:=(zmf.1 hb).2;simp only[zdt]at this;exact this.1
  exact⟨b.toNat,by rw[show((b.toNat:Nat):Int)=b by omega];exact hb,h⟩
 .rintro⟨b,hb,h⟩;exact⟨b,hb,h⟩
theorem blkB_iff{p:PrcX}{r:Int}{L:List Bool}{i a:Nat}:blkB p r L i a=true↔z7i p r (isB L) i a:=by
 unfold blkB z7i;cases h:p.blocks[i]? with
 |none=>simp
 |some b=>
  simp only[qB,exists_eq_left'];rw[Z0c];exact⟨fun h=>zai endB_iff.1 h,fun h=>zai endB_iff.2 h⟩
theorem zvm{p:PrcX}{r:Int}:∀(k j:Nat),isB (iterB p r k) j→LiveB p r j
 |0,j,h=>by simp[isB,iterB]at h
 |k+1,j,h=>by
  have hj:j<p.blocks.length:=by
   rcases Nat.lt_or_ge j p.blocks.length with g|g
   .exact g
   .simp[isB,iterB,stepB,wq (l:=List.range p.blocks.length) (i:=j) (by simpa using g)]at h
  have h:blkB p r (iterB p r k) j 0=true:=by
   simpa[isB,iterB,stepB,List.getElem?_range hj]using h
  exact zp7 (z2n (fun i hi=>zvm k i hi) (blkB_iff.1 h))
theorem Zgr{p:PrcX}{r:Int}{k:Nat}(h:iterB p r (k+1)=iterB p r k){i a:Nat}:z6b p r i a↔blkB p r (iterB p r k) i a=true:=by
 rw[blkB_iff];refine⟨fun hl=>z2n (fun j hj=>hj _ fun i hi=>?_) hl,fun hl=>z2n (fun j hj=>zvm k j hj) hl⟩;have hb:=blkB_iff.2 hi;have hi':i<p.blocks.length:=by
  rcases Nat.lt_or_ge i p.blocks.length with g|g
  .exact g
  .unfold blkB at hb;rw[wq g]at hb;cases hb
 show(iterB p r k).getD i false=true;rw[←h];simpa[iterB,stepB,List.getElem?_range hi']using hb
def liveF(k:Nat)(p:PrcX)(i a:Nat):List Int:=(readL p).filter fun r=>blkB p r (iterB p r k) i a
def fixB(k:Nat)(p:PrcX):Bool:=(readL p).all fun r=>decide (iterB p r (k+1)=iterB p r k)
theorem zu1{k:Nat}{p:PrcX}(h:fixB k p=true):liveL p=liveF k p:=by
 funext i a
 unfold liveL liveF;refine List.filter_congr fun r hr=>?_;have hf:iterB p r (k+1)=iterB p r k:=qY (zat.1 h r hr);rw[Bool.eq_iff_iff,zzo,Zgr hf]
def fsymB(f:FillX)(a b:Int):Bool:=(decide (a=f.to)&&decide (b∈f.live))||(decide (b=f.to)&&decide (a∈f.live))
def meetB(l0:List Int)(fl:List FillX)(a b:Int):Bool:=(decide (a∈l0)&&decide (b∈l0))||fl.any fun f=>fsymB f a b
theorem zzp{p:PrcX}{l0:List Int}{fl:List FillX}(h0:liveL p 0 0=l0)(h1:zdj p=fl){a b:Int}:MeetP p a b↔meetB l0 fl a b=true:=by
 subst h0 h1;unfold MeetP meetB fsymB FillX.sym;simp
def degB(R:Nat)(l0:List Int)(fl:List FillX)(g:List Int)(u:Int):Int:=(((List.range R).filter fun d:Nat=>(decide (u≠d)&&meetB l0 fl u d)&&decide ((d:Int)∉g)).length:Int)
def tkB(R:Nat)(l0:List Int)(fl:List FillX)(pl:List Int)(r x:Int):Bool:=(List.range R).any fun q:Nat=>(decide (r≠q)&&meetB l0 fl r q)&&decide (plAt pl q=x)
theorem Z8i{p:PrcX}{l0:List Int}{fl:List FillX}{R:Nat}(h0:liveL p 0 0=l0)(h1:zdj p=fl)(hR:p.regs.toNat=R)(k:Int):colP p k=colG (degB R l0 fl) (tkB R l0 fl) R k:=by
 have e1:degP p=degB R l0 fl:=by
  funext g u
  unfold degP degB;rw[hR];refine congrArg (fun l:List Nat=>(l.length:Int)) (List.filter_congr fun d _=>?_);rw[Bool.eq_iff_iff];simp[zzp h0 h1]
 have e2:tkP p=tkB R l0 fl:=by
  funext pl r x
  unfold tkP tkB;rw[hR,Bool.eq_iff_iff];simp[zzp h0 h1]
 unfold colP;rw[e1,e2,hR]
abbrev tY(op:List UInt8)(to:Int)(args:List Int)(n:Int):InsX:=⟨op,to,args,.mk 0 0 [] [],n⟩
abbrev tC(to n:Int):InsX:=⟨constB,to,[],.mk 1 n [] [],0⟩
def tMain:PrcX:=⟨0,0,2,[⟨[tY cloB 1 [1] 1,tY tieB 0 [1,1] 0,tC 0 0],⟨3,1,[0],0,0,0⟩⟩]⟩
def tLoop(n:Int):PrcX:=⟨1,1,5,[⟨[tC 1 n,tY [61] 2 [0,1] 0],⟨1,2,[],0,1,2⟩⟩,⟨[],⟨2,0,[],0,0,0⟩⟩,⟨[tC 1 1,tY [43] 0 [0,1] 0,tY [99,111,110,115] 4 [0,0] 0,tY hldB 3 [] 0],⟨3,3,[0],0,0,0⟩⟩]⟩
def tCode(n:Int):CodeX:=[tMain,tLoop n]
theorem Z7l:liveL tMain=liveF 3 tMain:=zu1 kr
theorem Z88(n:Int):liveL (tLoop n)=liveF 4 (tLoop n):=zu1 kr
theorem Z2p:liveL tMain 0 0=[1]:=by rw[Z7l];kernel_rfl
theorem Z58(n:Int):liveL (tLoop n) 0 0=[0]:=by rw[Z88];kernel_rfl
theorem Zdo:zdj tMain=[⟨1,-1,[1]⟩,⟨0,-1,[0,1]⟩]:=by
 unfold zdj z3c zd5 z3i zd3 z0w;rw[Z7l];kernel_rfl
theorem Zes(n:Int):zdj (tLoop n)=[⟨1,-1,[0,1]⟩,⟨2,-1,[0,2]⟩,⟨1,-1,[0,1]⟩,⟨0,-1,[0]⟩,⟨4,-1,[0]⟩,⟨3,-1,[0,3]⟩]:=by
 unfold zdj z3c zd5 z3i zd3 z0w;rw[Z88];kernel_rfl
theorem Z4t:colP tMain 24=([1,0],24):=by rw[Z8i Z2p Zdo (R:=2) rfl];kernel_rfl
theorem Zaw(n:Int):colP (tLoop n) 24=([1,0,0,0,0],24):=by rw[Z8i (Z58 n) (Zes n) (R:=5) rfl];kernel_rfl
def tItM:List ItemR:=[⟨1,⟨0,0,0,0,0⟩,10,0⟩,⟨4,⟨20,26,0,0,0⟩,0,0⟩,⟨2,⟨25,26,28,0,0⟩,22,0⟩,⟨4,⟨20,1,0,0,0⟩,0,42⟩,⟨3,⟨28,0,0,0,0⟩,10002,0⟩,⟨1,⟨0,0,0,0,0⟩,10002,0⟩,⟨4,⟨20,26,0,0,0⟩,0,3⟩,⟨3,⟨28,31,0,0,0⟩,2,0⟩,⟨4,⟨20,26,0,0,0⟩,0,175⟩,⟨0,⟨23,26,29,0,0⟩,0,0⟩,⟨5,⟨20,26,0,0,0⟩,10001,0⟩,⟨0,⟨18,26,26,0,3⟩,0,0⟩,⟨0,⟨23,26,29,0,1⟩,0,0⟩,⟨0,⟨23,1,29,0,2⟩,0,0⟩,⟨0,⟨18,26,29,0,3⟩,0,0⟩,⟨0,⟨17,26,26,0,1⟩,0,0⟩,⟨0,⟨15,29,29,0,3⟩,0,0⟩,⟨0,⟨15,1,26,0,0⟩,0,0⟩,⟨0,⟨16,28,1,0,7⟩,0,0⟩,⟨4,⟨20,31,0,0,0⟩,0,1⟩,⟨2,⟨25,28,31,0,0⟩,11,0⟩,⟨0,⟨19,28,1,0,3⟩,0,0⟩,⟨0,⟨22,31,28,0,0⟩,0,0⟩,⟨0,⟨19,31,31,0,3⟩,0,0⟩,⟨0,⟨16,31,31,0,7⟩,0,0⟩,⟨4,⟨20,26,0,0,0⟩,0,5⟩,⟨2,⟨25,31,26,0,0⟩,11,0⟩,⟨0,⟨22,31,28,0,0⟩,0,0⟩,⟨0,⟨19,31,31,0,6⟩,0,0⟩,⟨0,⟨15,31,31,0,(-1)⟩,0,0⟩,⟨4,⟨20,26,0,0,0⟩,0,0⟩,⟨2,⟨27,26,31,0,0⟩,11,0⟩,⟨0,⟨1,28,28,26,0⟩,0,0⟩,⟨0,⟨23,1,28,0,2⟩,0,0⟩,⟨4,⟨20,2,0,0,0⟩,0,0⟩,⟨0,⟨15,25,1,0,0⟩,0,0⟩,⟨0,⟨15,1,2,0,0⟩,0,0⟩,⟨4,⟨20,28,0,0,0⟩,0,1⟩,⟨3,⟨28,0,0,0,0⟩,3,0⟩]
def tItA:List ItemR:=[⟨1,⟨0,0,0,0,0⟩,10001,0⟩,⟨4,⟨20,26,0,0,0⟩,0,1⟩,⟨2,⟨25,26,28,0,0⟩,22,0⟩,⟨0,⟨15,2,1,0,0⟩,0,0⟩,⟨3,⟨28,0,0,0,0⟩,10003,0⟩,⟨1,⟨0,0,0,0,0⟩,10003,0⟩]
def tItB:List ItemR:=[⟨0,⟨8,28,2,1,0⟩,0,0⟩,⟨0,⟨16,28,28,0,7⟩,0,0⟩,⟨2,⟨25,28,0,0,0⟩,11,0⟩,⟨0,⟨9,28,2,1,0⟩,0,0⟩,⟨0,⟨14,31,0,28,0⟩,0,0⟩,⟨4,⟨20,28,0,0,0⟩,0,1⟩,⟨0,⟨2,28,28,31,0⟩,0,0⟩,⟨0,⟨18,28,28,0,3⟩,0,0⟩,⟨0,⟨15,28,28,0,2⟩,0,0⟩,⟨0,⟨15,1,28,0,0⟩,0,0⟩,⟨4,⟨20,28,0,0,0⟩,0,2⟩,⟨2,⟨24,1,28,0,0⟩,10005,0⟩,⟨3,⟨28,0,0,0,0⟩,10004,0⟩,⟨1,⟨0,0,0,0,0⟩,10004,0⟩,⟨0,⟨15,1,2,0,0⟩,0,0⟩,⟨3,⟨28,0,0,0,0⟩,4,0⟩,⟨1,⟨0,0,0,0,0⟩,10005,0⟩,⟨4,⟨20,1,0,0,0⟩,0,8⟩,⟨0,⟨8,28,2,1,0⟩,0,0⟩,⟨0,⟨16,28,28,0,7⟩,0,0⟩,⟨2,⟨25,28,0,0,0⟩,11,0⟩,⟨0,⟨1,28,2,1,0⟩,0,0⟩,⟨0,⟨9,31,28,2,0⟩,0,0⟩,⟨0,⟨9,26,28,1,0⟩,0,0⟩,⟨0,⟨7,31,31,26,0⟩,0,0⟩,⟨2,⟨26,31,0,0,0⟩,12,0⟩,⟨0,⟨15,2,28,0,0⟩,0,0⟩,⟨4,⟨20,26,0,0,0⟩,0,3⟩,⟨3,⟨28,31,0,0,0⟩,2,0⟩,⟨4,⟨20,26,0,0,0⟩,0,143⟩,⟨0,⟨23,26,29,0,0⟩,0,0⟩,⟨0,⟨23,2,29,0,1⟩,0,0⟩,⟨0,⟨23,2,29,0,2⟩,0,0⟩,⟨0,⟨18,26,29,0,3⟩,0,0⟩,⟨0,⟨17,26,26,0,1⟩,0,0⟩,⟨0,⟨15,29,29,0,3⟩,0,0⟩,⟨0,⟨15,1,26,0,0⟩,0,0⟩,⟨0,⟨19,26,25,0,3⟩,0,0⟩,⟨0,⟨22,26,26,0,2⟩,0,0⟩,⟨0,⟨15,1,26,0,0⟩,0,0⟩,⟨0,⟨15,25,1,0,0⟩,0,0⟩,⟨0,⟨15,1,2,0,0⟩,0,0⟩,⟨4,⟨20,28,0,0,0⟩,0,1⟩,⟨3,⟨28,0,0,0,0⟩,3,0⟩]
def tNum(n:Int):ItemR:=⟨4,⟨20,1,0,0,0⟩,0,n⟩
theorem Zi3:(fxP tMain [10,10001] [] 2 10002).funL 10 10003=tItM:=by
 unfold FX.funL FX.entL;rw[show liveL (fxP tMain [10,10001] [] 2 10002).p 0 0=[1]from Z2p];unfold fxP;rw[Z4t];kernel_rfl
theorem Zi7(n:Int):(fxP (tLoop n) [10,10001] [] 2 10003).funL 10001 10006=tItA++tNum ((wordX (z2i (.mk 1 n [] [])) []).getD 0)::tItB:=by
 unfold FX.funL FX.entL;rw[show liveL (fxP (tLoop n) [10,10001] [] 2 10003).p 0 0=[0]from Z58 n];unfold fxP;rw[Zaw];kernel_rfl
theorem Zgk{n:Int}(h:0≤n∧n≤300):(wordX (z2i (.mk 1 n [] [])) []).getD 0=8*n:=by
 obtain⟨k,rfl⟩:∃k:Nat,n=k:=⟨n.toNat,om⟩;have:∀j:Fin 301,(wordX (z2i (.mk 1 (j.val:Int) [] [])) []).getD 0=8*(j.val:Int):=by decide +kernel
 exact this ⟨k,om⟩
theorem Z8e{n:Int}(h:0≤n∧n≤300):z1e (tCode n)=0:=by
 obtain⟨k,rfl⟩:∃k:Nat,n=k:=⟨n.toNat,om⟩;have:∀j:Fin 301,z1e (tCode (j.val:Int))=0:=by decide +kernel
 exact this ⟨k,om⟩
theorem Zaz(n:Int):roomC (tCode n)=2:=by
 unfold roomC tCode;simp only[List.foldl];unfold z4z roomF;rw[Z4t,Zaw]
 kernel_rfl
theorem Zfu:(fxP tMain [10,10001] [] 2 10002).funN 10003=10003:=by
 unfold FX.funN FX.roomN FX.room fxP;rw[Z4t];kernel_rfl
theorem t_gen{n:Int}(h:0≤n∧n≤300):genC (tCode n) 2=.inr (tItM++(tItA++tNum (8*n)::tItB)):=by
 unfold genC;rw[qc (by rw[Z8e h];decide),qc (by rw[Zaz];decide)];have e:genF (entsC (tCode n)) (gsC (tCode n)) 2 0 (10000+((tCode n).length:Int)) [] (tCode n) =
   genF [10,10001] [] 2 0 10002 [] [tMain,tLoop n]:=kr
 have hM:∀l,(fxP tMain [10,10001] [] 2 10002).funL ([10,10001].getD 0 0) (10002+((tMain.blocks.length:Nat):Int))=l→l=tItM:=fun l hl=>hl.symm.trans Zi3;have hN:(fxP tMain [10,10001] [] 2 10002).funN (10002+((tMain.blocks.length:Nat):Int))=10003:=Zfu;have hL:(fxP (tLoop n) [10,10001] [] 2 10003).funL ([10,10001].getD (0+1) 0) (10003+(((tLoop n).blocks.length:Nat):Int))=tItA++tNum (8*n)::tItB:=(Zi7 n).trans (by rw[Zgk h]);rw[e,genF,genF,genF,hN,hL,hM _ rfl,List.nil_append,qc (by simp[tItM]),qc (by simp[tItM,tItA,tItB])]
structure SimI(x y:ItemR):Prop where
 lab:∀k,isLab k y=isLab k x
 nm:z2a y=z2a x
 lb:y.label=x.label
 k2:(y.kind=2)=(x.kind=2)
 sz:∀b,sizeR y b=sizeR x b
 ins:∀b a t,z2o y b a t=z2o x b a t
section
variable {x y:ItemR}(h:SimI x y)
include h
theorem Zfa(a b:List ItemR)(k:Int):findR (a++y::b) k=findR (a++x::b) k:=by
 unfold findR;rw[List.findIdx?_append,List.findIdx?_append,List.findIdx?_cons,List.findIdx?_cons,h.lab]
theorem zno(b:List ItemR):∀(a:List ItemR)(n:Nat)(long:List Bool),z0v n (a++y::b) long=z0v n (a++x::b) long
 | [],n,[]=>rfl
 | [],n,g::long=>by
  show n::z0v (n+sizeR y g) b long=n::z0v (n+sizeR x g) b long;rw[h.sz]
 |z::a,n,[]=>rfl
 |z::a,n,g::long=>by
  show n::z0v (n+sizeR z g) (a++y::b) long=n::z0v (n+sizeR z g) (a++x::b) long;rw[zno b a]
theorem Zbe(a b:List ItemR)(p:List Nat):toR (a++y::b) p=toR (a++x::b) p:=by
 funext z
 unfold toR;rw[Zfa h]
theorem Z8h(l:List ItemR)(p:List Nat):toR l p y=toR l p x:=by unfold toR;rw[h.nm,h.lb]
theorem Zfi(l:List ItemR)(p:List Nat)(i:Nat):farR l p i y=farR l p i x:=by
 unfold farR;rw[Z8h h];simp only[h.k2]
omit h in
theorem zxo{α β γ:Type}(f:(α×Nat)×β→γ)(x y:α)(hf:∀i c,f ((y,i),c)=f ((x,i),c))(b:List α):∀(a:List α)(n:Nat)(long:List β),(((a++y::b).zipIdx n).zip long).map f=(((a++x::b).zipIdx n).zip long).map f
 | [],n,[]=>rfl
 | [],n,g::long=>by simp[List.zipIdx_cons,hf]
 |z::a,n,[]=>sM
 |z::a,n,g::long=>by
  have:=zxo f x y hf b a (n+1) long;simpa[List.zipIdx_cons]using this
theorem Zdn(a b:List ItemR)(p:List Nat)(long:List Bool):growR (a++y::b) p long=growR (a++x::b) p long:=by
 unfold growR;have e:(fun z:(ItemR×Nat)×Bool=>z.2||farR (a++y::b) p z.1.2 z.1.1)=fun z=>z.2||farR (a++x::b) p z.1.2 z.1.1:=by
  funext z
  unfold farR;rw[Zbe h]
 rw[e];exact zxo _ x y (fun i c=>by show(c||farR (a++x::b) p i y)=_;rw[Zfi h]) b a 0 long
theorem Z80(a b:List ItemR):∀(k:Nat)(long:List Bool),layR (a++y::b) k long=layR (a++x::b) k long
 |0,_=>rfl
 |k+1,long=>by
  rw[layR,layR,zno h,Zdn h,Z80 a b k]
theorem Zdp(a b:List ItemR):longR (a++y::b)=longR (a++x::b):=by
 unfold longR;rw[Z80 h];simp
theorem Zf3(a b:List ItemR)(long:List Bool)(p:List Nat):codeR (a++y::b) long p=codeR (a++x::b) long p:=by
 unfold codeR;rw[Zbe h,List.flatMap_def,List.flatMap_def];refine congrArg List.flatten (zxo _ x y (fun i c=>?_) b a 0 long);show(z2o y c _ (toR (a++x::b) p y)).map z1c=(z2o x c _ (toR (a++x::b) p x)).map z1c;rw[Z8h h,h.ins]
end
theorem Zgi{r n:Int}(hn:-32768≤n∧n≤32767):SimI ⟨0,⟨20,r,0,0,n⟩,0,0⟩ ⟨4,⟨20,r,0,0,0⟩,0,n⟩:=by
 have hp:z28 n=1:=by unfold z28;rw[qj hn]
 refine⟨fun k=>rfl,rfl,rfl,sM,fun b=>?_,fun b a t=>?_⟩
 .show(if(4:Int)=1 then 0 else if(4:Int)=2 then(if b=true then 2 else 1)else if(4:Int)=4 then z28 n else if(4:Int)=5 then 2 else 1)=_;simp[sizeR,hp]
 .simp only[z2o,hp];have:shrR n 0=n:=by unfold shrR;rw[show(2:Int)^0=1 from rfl];exact Int.fdiv_one n
  simp[numR,restR,this];omega
def tInA:List InsR:=[⟨22,29,0,0,28⟩,⟨20,27,0,0,0⟩,⟨21,27,0,0,89⟩,⟨18,27,27,0,15⟩,⟨23,27,0,0,32⟩,⟨20,30,0,0,33⟩,⟨20,27,0,0,18⟩,⟨23,27,0,0,25⟩,⟨23,27,0,0,26⟩,⟨20,26,0,0,2⟩,⟨28,31,0,0,12⟩,⟨20,27,0,0,111⟩,⟨23,27,29,0,0⟩,⟨20,27,0,0,0⟩,⟨21,27,0,0,269⟩,⟨18,27,27,0,3⟩,⟨23,27,29,0,1⟩,⟨18,25,29,0,3⟩,⟨17,25,25,0,1⟩,⟨15,29,29,0,2⟩,⟨20,28,0,0,0⟩,⟨28,0,0,0,248⟩,⟨1,27,29,26,0⟩,⟨22,28,0,0,29⟩,⟨26,28,27,0,139⟩,⟨29,0,31,0,0⟩,⟨16,26,25,0,7⟩,⟨20,27,0,0,1⟩,⟨25,26,27,0,123⟩,⟨19,26,25,0,3⟩,⟨22,27,26,0,0⟩,⟨19,27,27,0,3⟩,⟨16,27,27,0,7⟩,⟨20,31,0,0,5⟩,⟨24,27,31,0,3⟩,⟨20,31,0,0,7⟩,⟨25,27,31,0,115⟩,⟨22,26,26,0,1⟩,⟨19,26,26,0,3⟩,⟨29,0,26,0,0⟩,⟨22,26,30,0,(-1)⟩,⟨19,26,26,0,15⟩,⟨29,0,26,0,0⟩,⟨20,26,0,0,33⟩,⟨25,26,30,0,2⟩,⟨29,0,31,0,0⟩,⟨23,31,0,0,27⟩,⟨15,26,30,0,(-33)⟩,⟨18,27,26,0,1⟩,⟨1,26,26,27,0⟩,⟨28,31,0,0,(-28)⟩,⟨22,31,0,0,25⟩,⟨18,27,29,0,3⟩,⟨17,27,27,0,1⟩,⟨23,27,0,0,25⟩,⟨22,26,30,0,(-1)⟩,⟨19,26,26,0,3⟩,⟨16,26,26,0,4095⟩,⟨15,27,26,0,2⟩,⟨18,27,27,0,3⟩,⟨17,27,27,0,6⟩,⟨18,27,27,0,3⟩,⟨17,27,27,0,7⟩,⟨23,27,29,0,0⟩,⟨15,26,26,0,1⟩,⟨2,28,30,26,0⟩,⟨20,27,0,0,33⟩,⟨24,28,27,0,7⟩,⟨1,27,29,26,0⟩,⟨15,27,27,0,2⟩,⟨18,27,27,0,3⟩,⟨17,27,27,0,1⟩,⟨23,27,29,0,1⟩,⟨28,0,0,0,2⟩,⟨23,31,29,0,1⟩,⟨15,29,29,0,2⟩,⟨15,30,28,0,0⟩,⟨24,26,0,0,7⟩,⟨22,27,30,0,0⟩,⟨23,27,29,0,0⟩,⟨15,30,30,0,1⟩,⟨15,29,29,0,1⟩,⟨15,26,26,0,(-1)⟩,⟨28,0,0,0,(-6)⟩,⟨15,30,28,0,0⟩,⟨20,27,0,0,33⟩,⟨25,30,27,0,(-31)⟩,⟨22,31,0,0,27⟩,⟨29,0,31,0,0⟩,⟨22,26,0,0,25⟩,⟨20,27,0,0,18⟩,⟨25,26,27,0,2⟩,⟨0,0,0,0,0⟩,⟨19,26,26,0,3⟩,⟨22,27,26,0,1⟩,⟨23,27,0,0,25⟩,⟨22,27,26,0,0⟩,⟨19,27,27,0,6⟩,⟨1,27,27,26,0⟩,⟨15,26,26,0,2⟩,⟨20,30,0,0,33⟩,⟨26,27,26,0,6⟩,⟨22,28,26,0,0⟩,⟨23,28,30,0,0⟩,⟨15,26,26,0,1⟩,⟨15,30,30,0,1⟩,⟨28,0,0,0,(-5)⟩,⟨28,0,0,0,(-67)⟩,⟨28,31,0,0,(-65)⟩,⟨20,26,0,0,3⟩,⟨28,31,0,0,(-88)⟩,⟨20,27,0,0,191⟩,⟨23,27,29,0,0⟩,⟨20,27,0,0,0⟩,⟨21,27,0,0,124⟩,⟨18,27,27,0,3⟩,⟨23,27,29,0,1⟩,⟨22,27,0,0,25⟩,⟨23,27,29,0,2⟩,⟨18,1,29,0,3⟩,⟨17,1,1,0,1⟩,⟨15,29,29,0,3⟩,⟨20,28,0,0,1⟩,⟨28,0,0,0,(-97)⟩,⟨20,26,0,0,1⟩,⟨25,26,28,0,28⟩,⟨19,26,25,0,3⟩,⟨22,27,26,0,2⟩,⟨23,27,0,0,25⟩,⟨20,30,0,0,33⟩,⟨28,0,0,0,(-90)⟩,⟨20,26,0,0,80⟩,⟨0,26,0,0,0⟩,⟨20,26,0,0,81⟩,⟨0,26,0,0,0⟩,⟨20,26,0,0,82⟩,⟨0,26,0,0,0⟩,⟨20,26,0,0,83⟩,⟨0,26,0,0,0⟩,⟨20,26,0,0,84⟩,⟨0,26,0,0,0⟩,⟨20,26,0,0,85⟩,⟨0,26,0,0,0⟩,⟨20,26,0,0,86⟩,⟨0,26,0,0,0⟩,⟨20,26,0,0,87⟩,⟨0,26,0,0,0⟩,⟨20,26,0,0,88⟩,⟨0,26,0,0,0⟩,⟨20,26,0,0,89⟩,⟨0,26,0,0,0⟩,⟨20,26,0,0,90⟩,⟨0,26,0,0,0⟩,⟨20,26,0,0,91⟩,⟨0,26,0,0,0⟩,⟨20,26,0,0,92⟩,⟨0,26,0,0,0⟩,⟨20,26,0,0,93⟩,⟨0,26,0,0,0⟩,⟨20,26,0,0,94⟩,⟨0,26,0,0,0⟩,⟨20,26,0,0,95⟩,⟨0,26,0,0,0⟩,⟨23,1,0,0,0⟩,⟨23,2,0,0,1⟩,⟨23,3,0,0,2⟩,⟨23,4,0,0,3⟩,⟨23,5,0,0,4⟩,⟨23,6,0,0,5⟩,⟨23,7,0,0,6⟩,⟨23,8,0,0,7⟩,⟨23,9,0,0,8⟩,⟨23,10,0,0,9⟩,⟨23,11,0,0,10⟩,⟨23,12,0,0,11⟩,⟨23,13,0,0,12⟩,⟨23,14,0,0,13⟩,⟨23,15,0,0,14⟩,⟨23,16,0,0,15⟩,⟨23,17,0,0,16⟩,⟨23,18,0,0,17⟩,⟨23,19,0,0,18⟩,⟨23,20,0,0,19⟩,⟨23,21,0,0,20⟩,⟨23,22,0,0,21⟩,⟨23,23,0,0,22⟩,⟨23,24,0,0,23⟩,⟨23,25,0,0,24⟩,⟨22,1,0,0,30⟩,⟨15,2,1,0,0⟩,⟨20,3,0,0,0⟩,⟨20,4,0,0,27⟩,⟨28,5,0,0,50⟩,⟨20,3,0,0,32⟩,⟨15,4,30,0,0⟩,⟨28,5,0,0,47⟩,⟨27,2,1,0,6⟩,⟨15,3,2,0,0⟩,⟨15,4,1,0,0⟩,⟨15,2,1,0,0⟩,⟨28,5,0,0,42⟩,⟨28,0,0,0,(-5)⟩,⟨22,3,0,0,28⟩,⟨22,4,0,0,30⟩,⟨23,4,0,0,28⟩,⟨23,3,0,0,30⟩,⟨22,3,0,0,29⟩,⟨22,4,0,0,31⟩,⟨23,4,0,0,29⟩,⟨23,3,0,0,31⟩,⟨15,29,1,0,0⟩,⟨1,3,1,26,0⟩,⟨22,4,0,0,29⟩,⟨26,4,3,0,27⟩,⟨22,1,0,0,0⟩,⟨22,2,0,0,1⟩,⟨22,3,0,0,2⟩,⟨22,4,0,0,3⟩,⟨22,5,0,0,4⟩,⟨22,6,0,0,5⟩,⟨22,7,0,0,6⟩,⟨22,8,0,0,7⟩,⟨22,9,0,0,8⟩,⟨22,10,0,0,9⟩,⟨22,11,0,0,10⟩,⟨22,12,0,0,11⟩,⟨22,13,0,0,12⟩,⟨22,14,0,0,13⟩,⟨22,15,0,0,14⟩,⟨22,16,0,0,15⟩,⟨22,17,0,0,16⟩,⟨22,18,0,0,17⟩,⟨22,19,0,0,18⟩,⟨22,20,0,0,19⟩,⟨22,21,0,0,20⟩,⟨22,22,0,0,21⟩,⟨22,23,0,0,22⟩,⟨22,24,0,0,23⟩,⟨22,25,0,0,24⟩,⟨29,0,31,0,0⟩,⟨20,26,0,0,95⟩,⟨0,26,0,0,0⟩,⟨27,3,4,0,26⟩,⟨22,6,3,0,0⟩,⟨16,7,6,0,7⟩,⟨20,8,0,0,1⟩,⟨25,7,8,0,20⟩,⟨19,7,6,0,3⟩,⟨22,9,7,0,0⟩,⟨16,10,9,0,7⟩,⟨24,10,8,0,15⟩,⟨19,10,9,0,6⟩,⟨18,6,1,0,3⟩,⟨17,6,6,0,1⟩,⟨23,9,1,0,0⟩,⟨23,6,7,0,0⟩,⟨23,6,3,0,0⟩,⟨15,1,1,0,1⟩,⟨24,10,0,0,8⟩,⟨15,7,7,0,1⟩,⟨22,9,7,0,0⟩,⟨23,9,1,0,0⟩,⟨15,1,1,0,1⟩,⟨15,10,10,0,(-1)⟩,⟨28,0,0,0,(-6)⟩,⟨23,9,3,0,0⟩,⟨15,3,3,0,1⟩,⟨28,0,0,0,(-25)⟩,⟨29,0,5,0,0⟩,⟨20,26,0,0,0⟩,⟨25,26,28,0,(-117)⟩,⟨20,1,0,0,42⟩,⟨28,0,0,0,1⟩,⟨20,26,0,0,3⟩,⟨28,31,0,0,(-252)⟩,⟨20,26,0,0,175⟩,⟨23,26,29,0,0⟩,⟨20,26,0,0,0⟩,⟨21,26,0,0,307⟩,⟨18,26,26,0,3⟩,⟨23,26,29,0,1⟩,⟨23,1,29,0,2⟩,⟨18,26,29,0,3⟩,⟨17,26,26,0,1⟩,⟨15,29,29,0,3⟩,⟨15,1,26,0,0⟩,⟨16,28,1,0,7⟩,⟨20,31,0,0,1⟩,⟨25,28,31,0,(-157)⟩,⟨19,28,1,0,3⟩,⟨22,31,28,0,0⟩,⟨19,31,31,0,3⟩,⟨16,31,31,0,7⟩,⟨20,26,0,0,5⟩,⟨25,31,26,0,(-163)⟩,⟨22,31,28,0,0⟩,⟨19,31,31,0,6⟩,⟨15,31,31,0,(-1)⟩,⟨20,26,0,0,0⟩,⟨27,26,31,0,(-168)⟩,⟨1,28,28,26,0⟩,⟨23,1,28,0,2⟩,⟨20,2,0,0,0⟩,⟨15,25,1,0,0⟩,⟨15,1,2,0,0⟩,⟨20,28,0,0,1⟩,⟨28,0,0,0,(-280)⟩,⟨20,26,0,0,1⟩,⟨25,26,28,0,(-155)⟩,⟨15,2,1,0,0⟩,⟨28,0,0,0,1⟩]
def tInB:List InsR:=[⟨8,28,2,1,0⟩,⟨16,28,28,0,7⟩,⟨25,28,0,0,(-183)⟩,⟨9,28,2,1,0⟩,⟨14,31,0,28,0⟩,⟨20,28,0,0,1⟩,⟨2,28,28,31,0⟩,⟨18,28,28,0,3⟩,⟨15,28,28,0,2⟩,⟨15,1,28,0,0⟩,⟨20,28,0,0,2⟩,⟨24,1,28,0,4⟩,⟨28,0,0,0,1⟩,⟨15,1,2,0,0⟩,⟨28,0,0,0,(-286)⟩,⟨20,1,0,0,8⟩,⟨8,28,2,1,0⟩,⟨16,28,28,0,7⟩,⟨25,28,0,0,(-199)⟩,⟨1,28,2,1,0⟩,⟨9,31,28,2,0⟩,⟨9,26,28,1,0⟩,⟨7,31,31,26,0⟩,⟨26,31,0,0,(-202)⟩,⟨15,2,28,0,0⟩,⟨20,26,0,0,3⟩,⟨28,31,0,0,(-316)⟩,⟨20,26,0,0,143⟩,⟨23,26,29,0,0⟩,⟨23,2,29,0,1⟩,⟨23,2,29,0,2⟩,⟨18,26,29,0,3⟩,⟨17,26,26,0,1⟩,⟨15,29,29,0,3⟩,⟨15,1,26,0,0⟩,⟨19,26,25,0,3⟩,⟨22,26,26,0,2⟩,⟨15,1,26,0,0⟩,⟨15,25,1,0,0⟩,⟨15,1,2,0,0⟩,⟨20,28,0,0,1⟩,⟨28,0,0,0,(-327)⟩]
def tIns(n:Int):List InsR:=tInA++⟨20,1,0,0,8*n⟩::tInB
noncomputable def tAll(n:Int):List ItemR:=(rt_codeR++gc_codeR++tItM++tItA)++tNum (8*n)::tItB
noncomputable def tAll'(n:Int):List ItemR:=(rt_codeR++gc_codeR++tItM++tItA)++⟨0,⟨20,1,0,0,8*n⟩,0,0⟩::tItB
theorem Z77(n:Int):rt_codeR++gc_codeR++(tItM++(tItA++tNum (8*n)::tItB))=tAll n:=by unfold tAll;simp only[zaa]
theorem Z35(n:Int):errA (asmR (tAll n))=0:=kr
theorem Zc5(n:Int):codeR (tAll' n) (longR (tAll' n)) (z0v 0 (tAll' n) (longR (tAll' n)))=(tIns n).map z1c:=kr
def tTabL:List IA:=(tIns 0).zipIdx.map fun x=>if x.2=311 then .cmp 327 else iaR x.2 x.1
theorem t_run:(Bt.ofL .bad 9 tTabL).forceK (fun tab=>(Bt.ofL 0 10 (memR 2 400)).forceK fun me=>runA tab 354 834 40000 0 0 (Bt.rep 0 5) me)=true:=kr
theorem Z8o(I:List InsR)(pc:Nat)(h:pc<I.length):(I.map z1c).getD pc ⟨0⟩=z1c I[pc]:=by
 rw[zgd,zem,zge h];rfl
theorem Z0q{I:List InsR}(h:∀x∈I,decR (z1c x).n=some x)(pc:Nat)(hp:pc<I.length):decR ((I.map z1c).getD pc ⟨0⟩).n=some I[pc]:=by
 rw[Z8o I pc hp];exact h _ (List.getElem_mem hp)
theorem Zbl{I:List InsR}(h:∀x∈I,decR (z1c x).n=some x):∀(b a c:List InsR),I=a++b++c→AtI (I.map z1c) a.length b
 | [],_,_,_=>trivial
 |x::b,a,c,e=>by
  have hl:a.length<I.length:=by rw[e];simp
  refine⟨by rw[zlm];exact hl,?_,?_⟩
  .rw[Z0q h _ hl];subst e;simp
  .have:=Zbl h b (a++[x]) c (by rw[e];simp);rw[zla]at this;exact this
theorem Z3g{R:Nat}(hR:R≤300):∀x∈tIns (R:Int),decR (z1c x).n=some x:=by
 have h1:((tInA++tInB).all fun x=>decide (decR (z1c x).n=some x))=true:=kr;have h2:∀j:Fin 301,decR (z1c ⟨20,1,0,0,8*(j.val:Int)⟩).n=some ⟨20,1,0,0,8*(j.val:Int)⟩:=by decide +kernel
 intro x hx;unfold tIns at hx;rcases zma.1 hx with g|g
 .exact qY (zat.1 h1 x (List.mem_append_left _ g))
 .rcases zmc.1 g with rfl|g
  .exact h2 ⟨R,om⟩
  .exact qY (zat.1 h1 x (wo _ g))
theorem lenA:tInA.length=311:=by decide +kernel
theorem lenI(n:Int):(tIns n).length=354:=by
 unfold tIns;rw[zla,zlc,lenA];exact(by decide +kernel:311+(tInB.length+1)=354)
theorem Zba(n:Int){pc:Nat}(hp:pc<354)(hne:pc≠311):(tIns n)[pc]'(by rw[lenI];exact hp)=(tIns 0)[pc]'(by rw[lenI];exact hp):=by
 unfold tIns;rcases Nat.lt_or_ge pc 311 with g|g
 .rw[List.getElem_append_left (by rw[lenA];exact g),List.getElem_append_left (by rw[lenA];exact g)]
 .obtain⟨k,rfl⟩:∃k,pc=311+(k+1):=⟨pc-312,om⟩;rw[List.getElem_append_right (by rw[lenA];omega),List.getElem_append_right (by rw[lenA];omega)];simp only[lenA,Nat.add_sub_cancel_left,List.getElem_cons_succ]
theorem Z7t{pc:Nat}(hp:pc<354):(Bt.ofL IA.bad 9 tTabL).get pc=if pc=311 then .cmp 327 else iaR pc ((tIns 0)[pc]'(by rw[lenI];exact hp)):=by
 rw[Bt.get_ofL _ 9 _ _ om];unfold tTabL;rw[zgd,zem,List.getElem?_zipIdx,zge (by rw[lenI];exact hp)];simp
theorem Zg5{R:Nat}(hR:R≤300):CodeA R ((tIns (R:Int)).map z1c) (Bt.ofL .bad 9 tTabL):=by
 intro pc hp;rw[zlm,lenI]at hp;by_cases e:pc=311
 .subst e;refine .inr ⟨327,-183,4,by rw[Z7t dC,qj rfl],dC,?_⟩;have:=Zbl (Z3g hR) (cmpW (8*(R:Int)) (-183)++[⟨24,1,28,0,4⟩]) tInA (tInB.drop 12) kr;rwa[lenA]at this
 .refine .inl ⟨_,Z0q (Z3g hR) pc (by rw[lenI];exact hp),?_⟩;rw[Z7t hp,qc e];exact congrArg (iaR pc) (Zba (R:Int) hp e).symm
theorem Zex{l:List ItemR}(h:errA (asmR l)=0):codeA (asmR l)=codeR l (longR l) (z0v 0 l (longR l)):=by
 unfold asmR at h⊢;by_cases g1:65536<l.length
 .rw[qj g1]at h;cases h
 rw[qc g1]at h⊢;by_cases g2:badR [] l=1
 .rw[qj g2]at h;cases h
 rw[qc g2]at h⊢;by_cases g3:badR [] l=2
 .rw[qj g3]at h;cases h
 rw[qc g3]at h⊢;by_cases g4:l.any (fun x=>z2a x&&(findR l x.label).isNone)=true
 .rw[qj g4]at h;cases h
 rw[qc g4];rfl
theorem Zi4{R:Nat}(hR:R≤300):codeA (asmR (tAll (R:Int)))=(tIns (R:Int)).map z1c:=by
 rw[Zex (Z35 (R:Int))];have hs:SimI (⟨0,⟨20,1,0,0,8*(R:Int)⟩,0,0⟩:ItemR) (tNum (8*(R:Int))):=Zgi om;have h3:=Zc5 (R:Int);unfold tAll' at h3;unfold tAll;rw[Zdp hs,zno hs,Zf3 hs];exact h3
theorem Zhu{R:Nat}(hR:R≤300):∃m',goR ((tIns (R:Int)).map z1c) 520400 (z5u ⟨(tIns (R:Int)).map z1c,memR 2 400,834⟩ [])=(0,m')∧m'.value=0∧m'.reg 1=8*(R:Int):=by
 have hrun:=t_run;rw[Bt.forceK_eq,Bt.forceK_eq]at hrun;have hl:((tIns (R:Int)).map z1c).length=354:=by rw[zlm,lenI]
 refine zzh (d:=10) (L:=834) dC hR (Zg5 hR) 40000 0 _ 0 (Bt.rep 0 5) (Bt.ofL 0 10 (memR 2 400)) (Nat.zero_le _) ?_ (by rw[hl];exact hrun);have hml:(memR 2 400).length=32:=dC;refine⟨rfl,by simp[z5u,zvy],Bt.full_rep _ _,Bt.get_rep _ _ _,fun i hi=>?_,?_,Bt.full_ofL _ _ _,fun i hi=>?_⟩
 .rw[Bt.get_rep];show(List.replicate 32 (0:Int)).getD i 0=0;rw[zgd,List.getElem?_replicate];split<;>rfl
 .show(memR 2 400++List.replicate (834-(memR 2 400).length) 0).length=834;rw[zla,wh,hml]
 .show(memR 2 400++List.replicate (834-(memR 2 400).length) 0).getD i 0=_;rw[Bt.get_ofL _ 10 _ _ om];simp only[zgd,List.getElem?_append,List.getElem?_replicate];split
  .rfl
  .rename_i g;rw[wq om];split<;>rfl
theorem Zah:liveL fiveP=liveF 2 fiveP:=zu1 kr
theorem znw:roomC [fiveP]=2:=kr
theorem Zc3(stack:Int):(fxP fiveP [10] [] stack 10001).funL 10 10002=zmy 10 10001 40:=by
 unfold FX.funL FX.entL;rw[show liveL (fxP fiveP [10] [] stack 10001).p 0 0=[]from by show liveL fiveP 0 0=[];rw[Zah];kernel_rfl]
 kernel_rfl
theorem Zbh:genC [fiveP] 2=.inr (zmy 10 10001 40):=by
 unfold genC;rw[qc (by rw[zoa];decide),qc (by rw[znw];decide)];rw[show genF (entsC [fiveP]) (gsC [fiveP]) 2 0 (10000+([fiveP].length:Int)) [] [fiveP]=(if 64536<([]++(fxP fiveP [10] [] 2 10001).funL 10 10002).length then none else some ([]++(fxP fiveP [10] [] 2 10001).funL 10 10002))from by kernel_rfl];rw[Zc3]
 kernel_rfl
theorem Zcf:genC [fiveP] 1=.inl 250:=by
 unfold genC;rw[qc (by rw[zoa];decide),qj (by rw[znw];decide)]
theorem zkc:∀p∈[fiveP],∀b∈p.blocks,b.ins.length≤4611686018427387904:=fun p hp b hb=>by
 rw[zsi.1 hp]at hb;rw[zsi.1 hb];decide
theorem zmb(S:PH):Gives zP 12 [] S (.bool true):=by
 refine qr zhs [] ?_;refine z02 (qb 37) (ztk S) ?_;rintro _ K1 ⟨c1,rfl,s1,l1⟩;obtain⟨b1,d1,rfl⟩:=s1.sl;refine⟨_,[_],rfl,rfl,rfl,z01,?_⟩;simp only[cns];refine z02 (qb 14) (zto [fiveP] _ K1 s1 zkc) ?_;rintro _ K2 ⟨l2,rfl,_⟩;rw[zoa,znw];refine⟨_,[vi 2,vi 0],rfl,by rfl,rfl,z01,?_⟩;simp only[cns];refine z02 (qb 37) (ztk K2) ?_;rintro _ K3 ⟨c3,rfl,s3,l3⟩;obtain⟨b3,d3,rfl⟩:=s3.sl;refine⟨_,[_],rfl,rfl,rfl,z01,?_⟩;simp only[cns];refine z02 (qb 15) (zxs [fiveP] _ 2 K3 s3 zkc dC) ?_;rw[Zbh];rintro _ K4 ⟨l4,⟨v4,sv4,rfl,s4,s4',_⟩,_⟩;obtain⟨b4,d4,rfl⟩:=s4.sl;obtain⟨b4',d4',rfl⟩:=s4'.sl;refine⟨_,[.slice b4 (zmy 10 10001 40).length d4,.slice b4' _ d4',vi 0],rfl,by rfl,rfl,z01,?_⟩;simp only[cns];refine z02 (qb 37) (ztk K4) ?_;rintro _ K5 ⟨c5,rfl,s5,l5⟩;obtain⟨b5,d5,rfl⟩:=s5.sl;refine⟨_,[_],rfl,rfl,rfl,z01,?_⟩;simp only[cns];refine z02 (qb 15) (zxs [fiveP] _ 1 K5 s5 zkc dC) ?_;rw[Zcf];rintro _ K6 ⟨l6,rfl,_⟩;refine⟨_,[.slice none 0 0,.slice none 0 0,vi 250],rfl,rfl,rfl,z01,?_⟩;simp only[cns];refine z03 [vi 40,.bool true] (qb 10) (zpi ⟨1,5,[]⟩ [] (.slice none 0 0) K6 (z26 _)) rfl z01 fun K7 l7=>?_;simp only[cns];refine z02 (qb 17) (zw4 K7) ?_;rintro _ K8 ⟨v8,rfl,s8,l8⟩;obtain⟨b8,d8,rfl⟩:=s8.sl;refine⟨_,[_],rfl,rfl,rfl,z01,?_⟩;simp only[cns];refine z02 (qb 18) (zuu K8) ?_;rintro _ K9 ⟨v9,rfl,s9,l9⟩;obtain⟨b9,d9,rfl⟩:=s9.sl;refine⟨_,[_],rfl,rfl,rfl,z01,?_⟩;simp only[cns];have l49:=wt l5 (wt l6 (wt l7 (wt l8 l9)));refine z02 (qb 16) (zt3 rt_codeR gc_codeR (zmy 10 10001 40) 2 10 _ _ _ K9 (s8.le l9) s9 (s4.le l49) dC dC dC) ?_;rintro _ K10 ⟨cv,mv,rfl,hcv,hmv,l10⟩;obtain⟨cb,cd,rfl⟩:=hcv.sl;obtain⟨mb,md,rfl⟩:=hmv.sl;have hbool:decide (errA (asmR (rt_codeR++gc_codeR++zmy 10 10001 40))=0)=true:=Zf4;rw[hbool];refine⟨_,[.slice cb (imgR z9z 2 10).code.length cd,.slice mb (memR 2 10).length md,vi (imgR z9z 2 10).words,.bool true],rfl,rfl,rfl,z01,?_⟩;simp only[cns];refine z02 (qb 19) (zzn (imgR z9z 2 10) [] 200000 _ _ K10 hcv hmv om) ?_;rintro _ K11 ⟨mv',l11,rfl,hmv',hrl,hri⟩;obtain⟨mb',md',rfl⟩:=hmv'.sl;refine⟨_,haltV (runR (imgR z9z 2 10) [] 200000) (.slice mb' (runR (imgR z9z 2 10) [] 200000).mem.length md'),rfl,kr,kr,z01,?_,?_⟩
 .kernel_rfl
 .exact wt l1 (wt l2 (wt l3 (wt l4 (wt l49 (wt l10 l11)))))
theorem t_ins(y:InsX){S:PH}{av:Value}(ha:SlR S y.args av)(ho:y.op.length≤maxLen)(hi:InI y.const.int)(ht:InI y.to)(hn:InI y.num)(hk:InI y.const.kind:=by decide)(htx:y.const.text=[]:=by rfl)(hl:y.const.list=[]:=by rfl):CsR S y (inV y av (.slice none 0 0)):=
 ins_iff.2 ⟨_,_,rfl,ho,ht,ha,hk,hi,by rw[htx];decide,by rw[hl];exact z26 S,hn⟩
theorem Zha(to n:Int){S:PH}(ht:InI to)(hi:InI n):CsR S (tC to n) (inV (tC to n) (.slice none 0 0) (.slice none 0 0)):=
 t_ins (tC to n) (z26 S) (by show constB.length≤maxLen;decide) hi ht (by show InI 0;decide) (by show InI 1;decide)
theorem t_end(e:EndX){S:PH}{av:Value}(ha:SlR S e.args av)(h1:InI e.kind)(h2:InI e.reg)(h3:InI e.to)(h4:InI e.next)(h5:InI e.els):CsR S e (enV e av):=
 end_iff.2 ⟨_,rfl,h1,h2,ha,h3,h4,h5⟩
theorem Z79(n:Int):∀p∈tCode n,∀b∈p.blocks,b.ins.length≤4611686018427387904:=by
 intro p hp b hb;rcases zmc.1 hp with rfl|hp
 .rw[zsi.1 hb];decide
 rw[zsi.1 hp]at hb;rcases zmc.1 hb with rfl|hb
 .show 2≤4611686018427387904;decide
 rcases zmc.1 hb with rfl|hb
 .decide
 rw[zsi.1 hb];decide
theorem Zi1{n:Int}(h:0≤n∧n≤300){steps:Int}(hs:520400≤steps):(runR (imgR (rt_codeR++gc_codeR++(tItM++(tItA++tNum (8*n)::tItB))) 2 400) [] steps).state=0∧(runR (imgR (rt_codeR++gc_codeR++(tItM++(tItA++tNum (8*n)::tItB))) 2 400) [] steps).value=0∧(runR (imgR (rt_codeR++gc_codeR++(tItM++(tItA++tNum (8*n)::tItB))) 2 400) [] steps).regs.getD 1 0=8*n:=by
 obtain⟨R,rfl⟩:∃R:Nat,n=R:=⟨n.toNat,om⟩;have hR:R≤300:=om;obtain⟨m',h1,h2,h3⟩:=Zhu hR;rw[Z77];have hi:imgR (tAll (R:Int)) 2 400=⟨(tIns (R:Int)).map z1c,memR 2 400,834⟩:=by unfold imgR;rw[Zi4 hR];rfl
 rw[hi];have hl:((tIns (R:Int)).map z1c).length=354:=by rw[zlm,lenI]
 have hb:zn3 ⟨(tIns (R:Int)).map z1c,memR 2 400,834⟩ steps=false:=by
  have hml:(memR 2 400).length=32:=dC;unfold zn3;simp only[hl,hml];simp;omega
 unfold runR;rw[qc (by rw[hb];decide)];have hg:=zop dC 520400 (steps.toNat-520400) _ h1;rw[show 520400+(steps.toNat-520400)=steps.toNat by omega]at hg;rw[hg];exact⟨rfl,h2,h3⟩
theorem zqf(n0:Int)(hi:InI n0)(H:PH):Gives zP 4 [vi n0] H (.bool true):=by
 refine qr z8p [vi n0] ?_;refine z03 [.bool true] (qb 12) (zmb H) rfl z01 fun K1 lH=>?_;simp only[cns];refine⟨fun g=>?_,fun g=>?_⟩
 .refine z03 [.bool true] (qb 12) (zmb K1) rfl z01 fun K2 l2=>?_;exact⟨rfl,wt lH l2⟩
 have hn:0≤n0∧n0≤300:=by
  simp only[ww]at g;simp only[zof,zdf]at g;omega
 clear g;refine z0h (α:=Int) (l:=[1]) (b:=8) [vi 1] z0j z0i rfl dC dC (Held.nil (wu K1)) kr (.cons (z08 dC) .nil) z01 fun v2 K2 h2 _ _=>?_;obtain⟨S2,x2,m2,h2⟩:=h2.freeze
 replace x2:=x2.le h2.sh
 replace m2:=wt m2 h2.sh
 simp only[cns]
 replace lH:=wt lH m2
 refine z0h (α:=Int) (l:=[1,1]) (b:=8) [vi 1,vi 1] z0j z0i rfl dC dC (Held.nil (wu K2)) kr (.cons (z08 dC) (.cons (z08 dC) .nil)) z01 fun v3 K3 h3 _ _=>?_;obtain⟨S3,x3,m3,h3⟩:=h3.freeze
 replace x3:=x3.le h3.sh
 replace m3:=wt m3 h3.sh
 simp only[cns]
 replace x2:=x2.le m3
 replace lH:=wt lH m3
 refine z03 [vi 1,vi 0,txt [],.slice none 0 0] (qb 13) (zd8 0 K3) rfl z01 fun K4 m4=>?_;simp only[cns]
 replace x2:=x2.le m4
 replace x3:=x3.le m4
 replace lH:=wt lH m4
 refine z0h (α:=InsX) (l:=[tY cloB 1 [1] 1,tY tieB 0 [1,1] 0,tC 0 0]) (b:=112) [.agg (inV (tY cloB 1 [1] 1) v2 (.slice none 0 0)).toArray,.agg (inV (tY tieB 0 [1,1] 0) v3 (.slice none 0 0)).toArray,.agg (inV (tC 0 0) (.slice none 0 0) (.slice none 0 0)).toArray] zwz zo5 rfl dC dC (Held.nil (wu K4)) kr (.cons (t_ins (tY cloB 1 [1] 1) x2 dC dC dC dC) (.cons (t_ins (tY tieB 0 [1,1] 0) x3 dC dC dC dC) (.cons (t_ins (tC 0 0) (z26 K4) dC dC dC dC) .nil))) z01 fun v8 K5 h8 _ _=>?_;obtain⟨S8,x8,m8,h8⟩:=h8.freeze
 replace x8:=x8.le h8.sh
 replace m8:=wt m8 h8.sh
 simp only[cns]
 replace x2:=x2.le m8
 replace x3:=x3.le m8
 replace lH:=wt lH m8
 refine z0h (α:=Int) (l:=[0]) (b:=8) [vi 0] z0j z0i rfl dC dC (Held.nil (wu K5)) kr (.cons (z08 dC) .nil) z01 fun v9 K6 h9 _ _=>?_;obtain⟨S9,x9,m9,h9⟩:=h9.freeze
 replace x9:=x9.le h9.sh
 replace m9:=wt m9 h9.sh
 simp only[cns]
 replace x2:=x2.le m9
 replace x3:=x3.le m9
 replace x8:=x8.le m9
 replace lH:=wt lH m9
 refine z0h (α:=BlkX) (l:=[⟨[tY cloB 1 [1] 1,tY tieB 0 [1,1] 0,tC 0 0],⟨3,1,[0],0,0,0⟩⟩]) (b:=88) [.agg (v8::enV ⟨3,1,[0],0,0,0⟩ v9).toArray] Z4l zub rfl dC dC (Held.nil (wu K6)) kr (.cons (blk_iff.2 ⟨_,_,rfl,x8,t_end ⟨3,1,[0],0,0,0⟩ x9 dC dC dC dC dC⟩) .nil) z01 fun v10 K7 h10 _ _=>?_;obtain⟨S10,x10,m10,h10⟩:=h10.freeze
 replace x10:=x10.le h10.sh
 replace m10:=wt m10 h10.sh
 simp only[cns]
 replace x2:=x2.le m10
 replace x3:=x3.le m10
 replace x8:=x8.le m10
 replace x9:=x9.le m10
 replace lH:=wt lH m10
 refine z03 [vi 1,vi n0,txt [],.slice none 0 0] (qb 13) (zd8 n0 K7) rfl z01 fun K8 m11=>?_;simp only[cns]
 replace x2:=x2.le m11
 replace x3:=x3.le m11
 replace x8:=x8.le m11
 replace x9:=x9.le m11
 replace x10:=x10.le m11
 replace lH:=wt lH m11
 refine z0h (α:=Int) (l:=[0,1]) (b:=8) [vi 0,vi 1] z0j z0i rfl dC dC (Held.nil (wu K8)) kr (.cons (z08 dC) (.cons (z08 dC) .nil)) z01 fun v15 K9 h15 _ _=>?_;obtain⟨S15,x15,m15,h15⟩:=h15.freeze
 replace x15:=x15.le h15.sh
 replace m15:=wt m15 h15.sh
 simp only[cns]
 replace x2:=x2.le m15
 replace x3:=x3.le m15
 replace x8:=x8.le m15
 replace x9:=x9.le m15
 replace x10:=x10.le m15
 replace lH:=wt lH m15
 refine z0h (α:=InsX) (l:=[tC 1 n0,tY [61] 2 [0,1] 0]) (b:=112) [.agg (inV (tC 1 n0) (.slice none 0 0) (.slice none 0 0)).toArray,.agg (inV (tY [61] 2 [0,1] 0) v15 (.slice none 0 0)).toArray] zwz zo5 rfl dC dC (Held.nil (wu K9)) kr (.cons (Zha 1 n0 dC hi) (.cons (t_ins (tY [61] 2 [0,1] 0) x15 dC dC dC dC) .nil)) z01 fun v16 K10 h16 _ _=>?_;obtain⟨S16,x16,m16,h16⟩:=h16.freeze
 replace x16:=x16.le h16.sh
 replace m16:=wt m16 h16.sh
 simp only[cns]
 replace x2:=x2.le m16
 replace x3:=x3.le m16
 replace x8:=x8.le m16
 replace x9:=x9.le m16
 replace x10:=x10.le m16
 replace x15:=x15.le m16
 replace lH:=wt lH m16
 refine z03 [vi 1,vi 1,txt [],.slice none 0 0] (qb 13) (zd8 1 K10) rfl z01 fun K11 m17=>?_;simp only[cns]
 replace x2:=x2.le m17
 replace x3:=x3.le m17
 replace x8:=x8.le m17
 replace x9:=x9.le m17
 replace x10:=x10.le m17
 replace x15:=x15.le m17
 replace x16:=x16.le m17
 replace lH:=wt lH m17
 refine z0h (α:=Int) (l:=[0,1]) (b:=8) [vi 0,vi 1] z0j z0i rfl dC dC (Held.nil (wu K11)) kr (.cons (z08 dC) (.cons (z08 dC) .nil)) z01 fun v21 K12 h21 _ _=>?_;obtain⟨S21,x21,m21,h21⟩:=h21.freeze
 replace x21:=x21.le h21.sh
 replace m21:=wt m21 h21.sh
 simp only[cns]
 replace x2:=x2.le m21
 replace x3:=x3.le m21
 replace x8:=x8.le m21
 replace x9:=x9.le m21
 replace x10:=x10.le m21
 replace x15:=x15.le m21
 replace x16:=x16.le m21
 replace lH:=wt lH m21
 refine z0h (α:=Int) (l:=[0,0]) (b:=8) [vi 0,vi 0] z0j z0i rfl dC dC (Held.nil (wu K12)) kr (.cons (z08 dC) (.cons (z08 dC) .nil)) z01 fun v22 K13 h22 _ _=>?_;obtain⟨S22,x22,m22,h22⟩:=h22.freeze
 replace x22:=x22.le h22.sh
 replace m22:=wt m22 h22.sh
 simp only[cns]
 replace x2:=x2.le m22
 replace x3:=x3.le m22
 replace x8:=x8.le m22
 replace x9:=x9.le m22
 replace x10:=x10.le m22
 replace x15:=x15.le m22
 replace x16:=x16.le m22
 replace x21:=x21.le m22
 replace lH:=wt lH m22
 refine z0h (α:=InsX) (l:=[tC 1 1,tY [43] 0 [0,1] 0,tY [99,111,110,115] 4 [0,0] 0,tY hldB 3 [] 0]) (b:=112) [.agg (inV (tC 1 1) (.slice none 0 0) (.slice none 0 0)).toArray,.agg (inV (tY [43] 0 [0,1] 0) v21 (.slice none 0 0)).toArray,.agg (inV (tY [99,111,110,115] 4 [0,0] 0) v22 (.slice none 0 0)).toArray,.agg (inV (tY hldB 3 [] 0) (.slice none 0 0) (.slice none 0 0)).toArray] zwz zo5 rfl dC dC (Held.nil (wu K13)) kr (.cons (t_ins (tC 1 1) (z26 K13) dC dC dC dC) (.cons (t_ins (tY [43] 0 [0,1] 0) x21 dC dC dC dC) (.cons (t_ins (tY [99,111,110,115] 4 [0,0] 0) x22 dC dC dC dC) (.cons (t_ins (tY hldB 3 [] 0) (z26 K13) dC dC dC dC) .nil)))) z01 fun v23 K14 h23 _ _=>?_;obtain⟨S23,x23,m23,h23⟩:=h23.freeze
 replace x23:=x23.le h23.sh
 replace m23:=wt m23 h23.sh
 simp only[cns]
 replace x2:=x2.le m23
 replace x3:=x3.le m23
 replace x8:=x8.le m23
 replace x9:=x9.le m23
 replace x10:=x10.le m23
 replace x15:=x15.le m23
 replace x16:=x16.le m23
 replace x21:=x21.le m23
 replace x22:=x22.le m23
 replace lH:=wt lH m23
 refine z0h (α:=Int) (l:=[0]) (b:=8) [vi 0] z0j z0i rfl dC dC (Held.nil (wu K14)) kr (.cons (z08 dC) .nil) z01 fun v24 K15 h24 _ _=>?_;obtain⟨S24,x24,m24,h24⟩:=h24.freeze
 replace x24:=x24.le h24.sh
 replace m24:=wt m24 h24.sh
 simp only[cns]
 replace x2:=x2.le m24
 replace x3:=x3.le m24
 replace x8:=x8.le m24
 replace x9:=x9.le m24
 replace x10:=x10.le m24
 replace x15:=x15.le m24
 replace x16:=x16.le m24
 replace x21:=x21.le m24
 replace x22:=x22.le m24
 replace x23:=x23.le m24
 replace lH:=wt lH m24
 refine z0h (α:=BlkX) (l:=[⟨[tC 1 n0,tY [61] 2 [0,1] 0],⟨1,2,[],0,1,2⟩⟩,⟨[],⟨2,0,[],0,0,0⟩⟩,⟨[tC 1 1,tY [43] 0 [0,1] 0,tY [99,111,110,115] 4 [0,0] 0,tY hldB 3 [] 0],⟨3,3,[0],0,0,0⟩⟩]) (b:=88) [.agg (v16::enV ⟨1,2,[],0,1,2⟩ (.slice none 0 0)).toArray,.agg ((.slice none 0 0)::enV ⟨2,0,[],0,0,0⟩ (.slice none 0 0)).toArray,.agg (v23::enV ⟨3,3,[0],0,0,0⟩ v24).toArray] Z4l zub rfl dC dC (Held.nil (wu K15)) kr (.cons (blk_iff.2 ⟨_,_,rfl,x16,t_end ⟨1,2,[],0,1,2⟩ (z26 K15) dC dC dC dC dC⟩) (.cons (blk_iff.2 ⟨_,_,rfl,(z26 K15),t_end ⟨2,0,[],0,0,0⟩ (z26 K15) dC dC dC dC dC⟩) (.cons (blk_iff.2 ⟨_,_,rfl,x23,t_end ⟨3,3,[0],0,0,0⟩ x24 dC dC dC dC dC⟩) .nil))) z01 fun v25 K16 h25 _ _=>?_;obtain⟨S25,x25,m25,h25⟩:=h25.freeze
 replace x25:=x25.le h25.sh
 replace m25:=wt m25 h25.sh
 simp only[cns]
 replace x2:=x2.le m25
 replace x3:=x3.le m25
 replace x8:=x8.le m25
 replace x9:=x9.le m25
 replace x10:=x10.le m25
 replace x15:=x15.le m25
 replace x16:=x16.le m25
 replace x21:=x21.le m25
 replace x22:=x22.le m25
 replace x23:=x23.le m25
 replace x24:=x24.le m25
 replace lH:=wt lH m25
 refine z0h (α:=PrcX) (l:=(tCode n0)) (b:=48) [.agg #[vi 0,vi 0,vi 2,v10],.agg #[vi 1,vi 1,vi 5,v25]] Z7e zzw rfl dC dC (Held.nil (wu K16)) kr (.cons (prc_iff.2 ⟨_,rfl,dC,dC,dC,x10⟩) (.cons (prc_iff.2 ⟨_,rfl,by show InI 1;decide,by show InI 1;decide,by show InI 5;decide,x25⟩) .nil)) z01 fun v26 K17 h26 _ _=>?_;obtain⟨S26,x26,m26,h26⟩:=h26.freeze
 replace x26:=x26.le h26.sh
 replace m26:=wt m26 h26.sh
 simp only[cns]
 replace x2:=x2.le m26
 replace x3:=x3.le m26
 replace x8:=x8.le m26
 replace x9:=x9.le m26
 replace x10:=x10.le m26
 replace x15:=x15.le m26
 replace x16:=x16.le m26
 replace x21:=x21.le m26
 replace x22:=x22.le m26
 replace x23:=x23.le m26
 replace x24:=x24.le m26
 replace x25:=x25.le m26
 replace lH:=wt lH m26
 have c26:SlR K17 (tCode n0) v26:=x26;clear x2 x3 x8 x9 x10 x15 x16 x21 x22 x23 x24 x25 m2 m3 m4 m8 m9 m10 m11 m15 m16 m17 m21 m22 m23 m24 m25 m26;obtain⟨cb,cc,hcv⟩:=c26.sl;refine z02 (qb 14) (zto (tCode n0) v26 K17 c26 (Z79 n0)) ?_;rintro _ K31 ⟨l31,rfl,_⟩;rw[Z8e hn,Zaz];refine⟨_,[vi 2,vi 0],rfl,by rfl,rfl,z01,?_⟩;simp only[cns];refine z02 (qb 15) (zxs (tCode n0) v26 2 K31 (c26.le l31) (Z79 n0) dC) ?_;rw[t_gen hn];rintro _ K32 ⟨l32,⟨v29,v30,rfl,x29,x30,_⟩,_⟩;obtain⟨b29,d29,rfl⟩:=x29.sl;obtain⟨b30,d30,rfl⟩:=x30.sl;refine⟨_,[.slice b29 _ d29,.slice b30 _ d30,vi 0],rfl,by rfl,rfl,z01,?_⟩;simp only[cns];refine z02 (qb 17) (zw4 K32) ?_;rintro _ K33 ⟨v33,rfl,x33,l33⟩;obtain⟨b33,d33,rfl⟩:=x33.sl;refine⟨_,[_],rfl,rfl,rfl,z01,?_⟩;simp only[cns];refine z02 (qb 18) (zuu K33) ?_;rintro _ K34 ⟨v34,rfl,x34,l34⟩;obtain⟨b34,d34,rfl⟩:=x34.sl;refine⟨_,[_],rfl,rfl,rfl,z01,?_⟩;simp only[cns];have hlen:rt_codeR.length+gc_codeR.length+(tItM++(tItA++tNum (8*n0)::tItB)).length≤1000000000:=Nat.le_of_ble_eq_true kr;refine z02 (qb 16) (zt3 rt_codeR gc_codeR (tItM++(tItA++tNum (8*n0)::tItB)) 2 400 _ _ _ K34 (x33.le l34) x34 (x29.le (wt l33 l34)) dC dC hlen) ?_;rintro _ K35 ⟨cv,mv,rfl,hcv',hmv,l35⟩;obtain⟨cb',cd,hcv2⟩:=hcv'.sl;obtain⟨mb,md,hmv2⟩:=hmv.sl;rw[show decide (errA (asmR (rt_codeR++gc_codeR++(tItM++(tItA++tNum (8*n0)::tItB))))=0)=true from by rw[Z77,Z35];rfl];refine⟨_,[cv,mv,vi 834,.bool true],rfl,by rw[hcv2,hmv2];rfl,rfl,z01,?_⟩;simp only[cns];obtain⟨st,hst⟩:∃st:Int,st=(10*n0+20)*60200:=⟨_,rfl⟩;have hst0:520400≤st∧st≤1099511627776:=om;have hstep:IntKind.i64.wrap (IntKind.i64.wrap (IntKind.i64.wrap (10*n0)+20)*IntKind.i64.wrap (20000+IntKind.i64.wrap (100*IntKind.i64.wrap (2+400))))=st:=by
  rw[show IntKind.i64.wrap (2+400)=402 by decide,show IntKind.i64.wrap (100*402)=40200 by decide,show IntKind.i64.wrap (20000+40200)=60200 by decide,w64 (n:=10*n0) om om,w64 (n:=10*n0+20) om om,←hst];exact w64 om om
 have hrun:=zzn (imgR (rt_codeR++gc_codeR++(tItM++(tItA++tNum (8*n0)::tItB))) 2 400) [] st cv mv K35 hcv' hmv hst0.2;refine z02 (qb 19) (by simp only[ww];rw[hstep];exact hrun) ?_;clear hrun;obtain⟨r1,r2,r3⟩:=Zi1 hn hst0.1;generalize runR (imgR (rt_codeR++gc_codeR++(tItM++(tItA++tNum (8*n0)::tItB))) 2 400) [] st=h at r1 r2 r3;rintro _ K36 ⟨mv',l36,rfl,hm',hrl,hri⟩;obtain⟨a0,a1,a2,a3,a4,a5,a6,a7,a8,a9,b0,b1',b2',b3',b4,b5,b6,b7,b8,b9,c0,c1,c2,c3,c4,c5,c6,c7,c8,c9,e0,e1,hreg⟩:=Zg6 hrl;obtain⟨mb',mc,hmv'⟩:=hm'.sl;obtain⟨hs,va,ou,sp,pc,rg,me⟩:=h;simp only at hreg hm' hri hmv' r1 r2 r3;subst hreg r1 r2;have r3:a1=8*n0:=r3;subst r3;refine⟨_,haltV ⟨0,0,ou,sp,pc,_,me⟩ mv',rfl,by rw[hmv'];rfl,rfl,z01,?_⟩;simp only[haltV,q9,List.map_nil,cns];refine⟨?_,wt lH (wt l31 (wt l32 (wt l33 (wt l34 (wt l35 l36)))))⟩;simp only[ww];rw[w64 om om];simp
