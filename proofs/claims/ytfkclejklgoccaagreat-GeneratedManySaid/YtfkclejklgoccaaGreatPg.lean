import Derived.Test.YtfkclejklgoccaaGreatPf
import Derived.Laws.Append
set_option linter.unusedSimpArgs false
set_option linter.unusedVariables false
set_option maxRecDepth 100000
namespace Go.Proofs.YtfkclejklgoccaaGreat.Vc
open Go
theorem PH.upd_upd{H:PH}{b:Nat}{x y:Obj}:(H.upd b x).upd b y=H.upd b y:=by
 funext k;unfold PH.upd;split<;>rfl
theorem PH.upd_self{H:PH}{b:Nat}{x:Obj}(h:H b=some x):H.upd b x=H:=by
 funext k;unfold PH.upd;split
 .rename_i e;rw[e,h]
 .rfl
theorem Addr.add_plain(b o i:Nat):(⟨b,o,none⟩:Addr).add i=⟨b,o+i,none⟩:=by
 unfold Addr.add;split
 .simp_all
 .rfl
theorem PH.cell_at{H:PH}{b o:Nat}{c:Array Value}{e:TypeId}{f:Nat×Nat}(h:H b=some (.cells c e f)):H.cell? ⟨b,o,none⟩=c[o]?:=by
 unfold PH.cell?;simp[h]
section
variable {P:Program}{α β:Type}{Φ:α→PH→Prop}{Ψ:Value→PH→Prop}{H:PH}
theorem z0i(a:α):wpS P (pure a:Sem α) Φ Ψ H=Φ a H:=rfl
theorem z04(s:Sem β)(f:β→Sem α):wpS P (s >>= f) Φ Ψ H=wpS P s (fun a H'=>wpS P (f a) Φ Ψ H') Ψ H:=propext (Zk7 s f)
theorem z08{t:TypeId}{d:TypeDesc}(h:P.underlying t=some d){Φ:TypeDesc→PH→Prop}:wpS P (underlying t) Φ Ψ H=Φ d H:=by
 show wpS P (match P.underlying t with | some d => pure d | none => stuck "no such type") Φ Ψ H = _
 rw[h];rfl
theorem z7g{t:TypeId}{i:TypeInfo}(h:P.info? t=some i){Φ:TypeInfo→PH→Prop}:wpS P (typeInfo t) Φ Ψ H=Φ i H:=by
 show wpS P (match P.info? t with | some i => pure i | none => stuck "no such type") Φ Ψ H = _
 rw[h];rfl
theorem z2v{t:TypeId}{i:TypeInfo}(h:P.info? t=some i){Φ:Nat→PH→Prop}:wpS P (sizeOf t) Φ Ψ H=Φ i.size H:=by
 unfold sizeOf;rw[z04,z7g h];rfl
theorem z4y{t:TypeId}{i:TypeInfo}{z:Value}(h:P.info? t=some i)(hz:i.zero=some z){Φ:Value→PH→Prop}:wpS P (zeroValue t) Φ Ψ H=Φ z H:=by
 unfold zeroValue;rw[z04,z7g h,hz];rfl
theorem z6i{e:TypeId}{cells:Array Value}{Φ:Addr→PH→Prop}:wpS P (newRow e cells) Φ Ψ H=∀r,H r=none→Φ ⟨r,0,none⟩ (H.upd r (.cells cells e)):=rfl
theorem zll{n:Nat}{Φ:Unit→PH→Prop}:wpS P (askRoom n) Φ Ψ H=Φ () H:=by
 unfold askRoom;split<;>rfl
theorem Zcx{q:Question}(hq:q.forced=false){Φ:Nat→PH→Prop}:wpS P (choose q) Φ Ψ H=∀t,Φ (q.cut t) H:=by
 show((q.forced=true→Φ 0 H)∧(q.forced=false→∀t,Φ (q.cut t) H))=_;rw[hq];simp
theorem zfe{a:Addr}:∀(n j:Nat) (acc:Array Value) (vs:List Value) {Φ:Array Value→PH→Prop},vs.length=n→(∀i v,vs[i]?=some v→H.cell? (a.add (j+i))=some v) →
  Φ (acc++vs.toArray) H→wpS P (loadCellsFrom a j n acc) Φ Ψ H
 |0,j,acc,vs,Φ,hl,_,hk=>by
  have:vs=[]:=qV.1 hl;subst this;show Φ acc H;simpa using hk
 |n+1,j,acc,vs,Φ,hl,h,hk=>by
  cases vs with
  |nil=>simp at hl
  |cons v vs=>
   unfold loadCellsFrom;rw[z04];refine⟨v,by simpa using h 0 v rfl,?_⟩;refine zfe n (j+1) (acc.push v) vs (by simpa using hl) (fun i u hi=>?_) (by simpa using hk);have:=h (i+1) u (by simpa using hi);rwa[show j+(i+1)=j+1+i by omega]at this
theorem z6p{a:Addr}{n:Nat}{vs:List Value}{Φ:Array Value→PH→Prop}(hl:vs.length=n)(h:∀i v,vs[i]?=some v→H.cell? (a.add i)=some v)(hk:Φ vs.toArray H):wpS P (loadCells a n) Φ Ψ H:=
 zfe n 0 #[] vs hl (fun i v hi=>by rw[wo];exact h i v hi) (by simpa using hk)
def z1b(cs:Array Value)(o:Nat)(vs:List Value):Array Value:=(cs.toList.take o++vs++cs.toList.drop (o+vs.length)).toArray
theorem zp3(cs:Array Value)(o:Nat):z1b cs o []=cs:=by simp[z1b]
theorem zdw{cs:Array Value}{o:Nat}{vs:List Value}(h:o+vs.length≤cs.size):(z1b cs o vs).size=cs.size:=by
 simp[z1b];omega
theorem zuh{cs:Array Value}{o:Nat}{v:Value}{vs:List Value}(h:o+(v::vs).length≤cs.size):z1b (cs.setIfInBounds o v) (o+1) vs=z1b cs o (v::vs):=by
 simp only[zlc]at h;unfold z1b;congr 1;rw[Array.toList_setIfInBounds,List.take_succ_eq_append_getElem (by simp;omega),List.take_set_of_le (we _),List.drop_set_of_lt om];simp only[List.getElem_set_self,zaa,zlc,List.cons_append,List.nil_append];rw[show o+1+vs.length=o+(vs.length+1) by omega]
theorem z3a{b:Nat}{e:TypeId}:∀(vs:List Value) (o i:Nat) (cs:Array Value) (H:PH) {Φ:Unit→PH→Prop},H b=some (.cells cs e (0,0))→o+i+vs.length≤cs.size→(∀v∈vs,oneC v=true) →
  Φ () (H.upd b (.cells (z1b cs (o+i) vs) e (0,0)))→wpS P (storeCells ⟨b,o,none⟩ vs i) Φ Ψ H
 | [],o,i,cs,H,Φ,hb,_,_,hk=>by
  rw[zp3,PH.upd_self hb]at hk;exact hk
 |v::vs,o,i,cs,H,Φ,hb,hl,h1,hk=>by
  have hl':=hl;simp only[zlc]at hl;unfold storeCells;rw[z04,Addr.add_plain];have hcell:H.cell? ⟨b,o+i,none⟩=some (cs[o+i]'(om)):=by rw[PH.cell_at hb];simp[show o+i<cs.size by omega]
  refine⟨h1 v (zms),_,_,hb,hcell,by simp[PH.frozenO],?_⟩;show wpS P (storeCells ⟨b,o,none⟩ vs (i+1)) Φ Ψ _;have hset:PH.setC ⟨b,o+i,none⟩ v (.cells cs e (0,0))=.cells (cs.setIfInBounds (o+i) v) e (0,0):=rfl;refine z3a vs o (i+1) (cs.setIfInBounds (o+i) v) _ (PH.upd_same.trans (congrArg some hset)) (by simp;omega) (fun u hu=>h1 u (zmm _ hu)) ?_;rw[PH.upd_upd,←Nat.add_assoc,zuh hl'];exact hk
end
def ob:Value→Option Nat
 | .slice (some a) _ _=>some a.block
 |_=>none
def Own(H:PH)(e:TypeId)(sz:Nat)(v:Value)(n:Nat)(xs:List Value):Prop:=
 xs.length=n*sz∧((v=.slice none 0 0∧n=0)∨∃g cap cur,v=.slice (some ⟨g,0,none⟩) n cap∧H g=some (.cells cur e (0,0))∧n≤cap∧cap≤maxLen∧cur.size=cap*sz∧cur.toList.take (n*sz)=xs)
theorem Own.nil(H:PH)(e:TypeId)(sz:Nat):Own H e sz (.slice none 0 0) 0 []:=⟨sM,.inl ⟨rfl,rfl⟩⟩
theorem Own.le{H H':PH}{e:TypeId}{sz:Nat}{v:Value}{n:Nat}{xs:List Value}(h:Own H e sz v n xs)(hk:∀k,ob v=some k→H' k=H k):Own H' e sz v n xs:=by
 refine⟨h.1,?_⟩;rcases h.2 with h|⟨g,cap,cur,rfl,h1,h2⟩
 .exact .inl h
 .exact .inr ⟨g,cap,cur,rfl,by rw[hk g rfl];exact h1,h2⟩
theorem Own.cells{H:PH}{e:TypeId}{sz:Nat}{v:Value}{n:Nat}{xs:List Value}(h:Own H e sz v n xs){a:Addr}{m c:Nat}(hv:v=.slice (some a) m c):m=n∧∀j u,xs[j]?=some u→H.cell? (a.add j)=some u:=by
 rcases h.2 with⟨rfl,_⟩|⟨g,cap,cur,rfl,h1,h2,h3,h4,h5⟩
 .cases hv
 .cases hv;refine⟨rfl,fun j u hu=>?_⟩;rw[Addr.add_plain,PH.cell_at h1,wo];rw[←h5,List.getElem?_take]at hu;split at hu
  .simpa using hu
  .cases hu
theorem Own.slice{H:PH}{e:TypeId}{sz:Nat}{v:Value}{n:Nat}{xs:List Value}(h:Own H e sz v n xs):∃b c,v=.slice b n c:=by
 rcases h.2 with⟨rfl,rfl⟩|⟨g,cap,cur,rfl,_⟩<;>exact⟨_,_,rfl⟩
def Src(H:PH)(x:Value)(m:Nat)(news:List Value):Prop:=
 (∃b c,x=.slice (some b) m c∧∀j u,news[j]?=some u→H.cell? (b.add j)=some u)∨(x=.slice none 0 0∧m=0∧news=[]) ∨
 (∃s,x=.string s∧m=s.size∧news=s.data.toList.map fun b=>.int .u8 b.toNat)
section
variable {P:Program}{Φ:Value→PH→Prop}{Ψ:Value→PH→Prop}{H:PH}
theorem Zh3{x:Value}{m:Nat}{news:List Value}(h:Src H x m news){Φ:Nat→PH→Prop}:wpS P (Builtin.lenOf x) Φ Ψ H=Φ m H:=by
 rcases h with⟨b,c,rfl,_⟩|⟨rfl,rfl,_⟩|⟨s,rfl,rfl,_⟩<;>rfl
theorem zdi{x:Value}{m sz:Nat}{news:List Value}(h:Src H x m news)(hl:news.length=m*sz){Φ:Array Value→PH→Prop}(hk:Φ news.toArray H):wpS P (Builtin.firstCells sz m x) Φ Ψ H:=by
 rcases h with⟨b,c,rfl,h⟩|⟨rfl,rfl,rfl⟩|⟨s,rfl,rfl,rfl⟩
 .exact z6p hl h hk
 .exact hk
 .show Φ _ H;have:(s.extract 0 s.size).data.map (fun b=>Value.int .u8 b.toNat)=(s.data.toList.map fun b=>Value.int .u8 b.toNat).toArray:=by
   apply Array.ext';simp[ByteArray.extract_zero_size]
  rw[this];exact hk
theorem Z0o(z:Array Value)(n:Nat):(Builtin.zeroCells z n).size=n*z.size:=by simp[Builtin.zeroCells]
theorem Own.src{H:PH}{e:TypeId}{sz:Nat}{v:Value}{n:Nat}{xs:List Value}(h:Own H e sz v n xs):Src H v n xs:=by
 rcases h.2 with⟨rfl,rfl⟩|⟨g,cap,cur,rfl,h1,h2⟩
 .exact .inr (.inl ⟨rfl,rfl,qV.1 (by rw[h.1];simp)⟩)
 .exact .inl ⟨_,_,rfl,(h.cells rfl).2⟩
theorem Zel{t t2 ty e:TypeId}{d2:TypeDesc}{i:TypeInfo}{z:Value}(ht:P.underlying t=some (.slice e))(ht2:P.underlying t2=some d2)(hd2:∀k,d2≠.int k)(hi:P.info? e=some i)(hz:i.zero=some z)(hzs:z.cells.size=i.size)
  {v x:Value} {n m:Nat} {xs news:List Value} (hown:Own H e i.size v n xs) (hx:Src H x m news) (hl:news.length=m*i.size) (h1:∀u∈news,oneC u=true) (h63:n+m≤maxLen) (hby:(n+m)*i.bytes≤140737488355328)
  (hk:∀v' H',Own H' e i.size v' (n+m) (xs++news)→(∀k o,H k=some o→some k≠ob v→H' k=some o)→(∀k,ob v'=some k→ob v=some k∨H k=none)→Φ v' H') :
  wpS P (Builtin.append_ #[t,t2] ty #[v,x]) Φ Ψ H:=by
 have hlen:(xs++news).length=(n+m)*i.size:=by rw[zla,hown.1,hl,Nat.add_mul]
 obtain⟨b,c,hv⟩:=hown.slice;subst hv;have hnc:n≤c:=by
  rcases hown.2 with⟨h,h'⟩|⟨g,cap,cur,h,_,h2,_⟩
  .cases h;omega
  .cases h;exact h2
 unfold Builtin.append_;simp only[List.getElem?_toArray,List.getElem?_cons_zero,List.getElem?_cons_succ,z04,z08 ht,z08 ht2,z2v hi,z0i,if_false,Zh3 hx,Bool.not_false,if_true,qp];split
 .rename_i hroom;rw[z04];refine zdi hx hl ?_;rcases hown.2 with⟨h,h'⟩|⟨g,cap,cur,h,hg,g2,g3,g4,g5⟩
  .cases h;have hm:m=0:=om;subst hm;have hnews:news=[]:=qV.1 (by rw[hl];simp);subst hnews;show Φ _ H;refine hk _ _ (by simpa using hown) (fun k o h _=>h) (fun k h=>.inl h)
  .cases h;simp only[z04,Addr.add_plain];have hfit:n*i.size+news.length≤cur.size:=by
    rw[hl,g4,←Nat.add_mul];exact Nat.mul_le_mul_right _ hroom
   refine z3a news (0+n*i.size) 0 cur H hg om h1 ?_;show Φ _ _;refine hk _ _ ⟨hlen,.inr ⟨g,c,z1b cur (0+n*i.size+0) news,rfl,PH.upd_same,hroom,g3,?_,?_⟩⟩ (fun k o h hne=>?_) (fun k h=>.inl h)
   .rw[zdw om];exact g4
   .rw[wo,Nat.add_zero];unfold z1b;rw[List.toList_toArray,g5,zaa,←zaa,List.take_left' hlen]
   .rw[PH.upd_other (fun e=>hne (by subst e;rfl))];exact h
 .rename_i hroom;have hmax:¬(((n+m:Nat):Int)>IntKind.i64.max∧(False∨i.bytes=0)):=by
   rintro⟨h,_⟩;have:IntKind.i64.max=9223372036854775807:=rfl;rw[this]at h;simp only[maxLen]at h63;omega
  have hfit:¬(Builtin.nextslicecap (n+m) c*i.bytes>2^48):=by
   have:=growslice_fits (need:=n+m) (old:=c) om hby
   omega
  simp only[z04,z7g hi,qc hmax,qc hfit,Zcx (q:=.appendCap (n+m) c e) rfl,zll];intro tp;have hcap:n+m≤Question.cut (.appendCap (n+m) c e) tp∧Question.cut (.appendCap (n+m) c e) tp≤maxLen:=by
   simp only[Question.cut];simp only[maxLen]at h63⊢;have:=Nat.mod_lt tp (show 0<2^63-(n+m) by omega);omega
  generalize Question.cut (.appendCap (n+m) c e) tp=nc at hcap;refine zdi hown.src hown.1 ?_;refine zdi hx hl ?_;simp only[z4y hi hz,z6i];intro r hr;show Φ _ _;refine hk _ _ ⟨hlen,.inr ⟨r,nc,_,rfl,PH.upd_same,hcap.1,hcap.2,?_,?_⟩⟩ (fun k o h _=>?_) (fun k h=>?_)
  .simp only[Array.size_append,Z0o,hzs,List.size_toArray];rw[←zla,hlen,←Nat.add_mul];congr 1;omega
  .rw[Array.toList_append,Array.toList_append,List.take_left' (by simpa using hlen)]
  .rw[PH.upd_other (fun e=>by rw[e,hr]at h;cases h)];exact h
  .cases h;exact .inr hr
end
section
variable {P:Program}{Ψ:Value→PH→Prop}{H:PH}{Φ:Next→PH→Prop}{ρ:Operand→Value}
theorem Zaf{x y:Operand}{ts:Array TypeId}{ty:TypeId}:wpS P (execOp ρ (bare (.call ⟨.builtin .append,#[x,y],ts⟩) ty)) Φ Ψ H=wpS P (Builtin.append_ ts ty #[ρ x,ρ y]) (fun v H'=>Φ (.value v) H') Ψ H:=by
 simp only[execOp,bare,resolve,z04,z0i];simp only[invoke,List.map_toArray,wa,List.map_nil,builtin,z04,z0i]
theorem z58{T ty:TypeId}{n:Nat}{ps:Array (Nat×Operand)}:wpS P (execOp ρ (bare (.buildSlice T n ps) ty)) Φ Ψ H=wpS P (Instr.buildSlice T n (ps.map fun(i,x)=>(i,ρ x))) (fun v H'=>Φ (.value v) H') Ψ H:=by
 simp only[execOp,bare,z04,z0i]
theorem z85{T e:TypeId}{i:TypeInfo}{z:Value}{n:Nat}{ps:Array (Nat×Value)}{cells:Array Value}{Φ:Value→PH→Prop}(ht:P.underlying T=some (.slice e))(hi:P.info? e=some i)(hz:i.zero=some z)(hn:n*i.size≠0)(hle:n*i.size≤2^24)
  (hf:Instr.fill (fun j=>some (j*i.size,i.size)) ((Array.range (n*i.size)).map (z.cells[· % z.cells.size]!)) ps.toList=some cells)
  (hk:∀r,H r=none→Φ (.slice (some ⟨r,0,none⟩) n n) (H.upd r (.cells cells e))):wpS P (Instr.buildSlice T n ps) Φ Ψ H:=by
 unfold Instr.buildSlice;have hle':¬n*i.size>2^24:=om;simp only[z04,z08 ht,z2v hi,qc hle',qc hn,z4y hi hz,z0i,hf,z6i];exact hk
end
def callB(P:Program)(f:FuncId):Bool:=
 match P.funcs[f]? with
 | some fn => !(fn.name == "runtime.NumGoroutine") && fn.body.isSome
 |none=>false
theorem zkd{P:Program}{f:FuncId}(h:callB P f=true):zro P f:=by
 intro args w;unfold callB at h;split at h
 .rename_i fn hf;simp only[zba,qy,beq_eq_false_iff_ne]at h;obtain⟨h1,h2⟩:=h;have h3:fn.body≠none:=fun h=>by rw[h]at h2;cases h2
  simp[callFunc,hf,h1,h3]
 .cases h
section
variable {P:Program}{X:List PanicEntry→PH→Prop}{α:Type}{E:List Value}{H:PH}{L:LK}{K:α→List Value→PH→LK→Prop}
def Gives(P:Program)(f:FuncId)(args:List Value)(H:PH)(v:Value):Prop:=Tri P f args.toArray H fun e H'=>e=.returned v∧PH.le H H'
theorem z02{f:FuncId}{args:List VE}{rs:RS}{pend:List (SV×List SV)}{k:Fm α}{R:Ending→PH→Prop}(hok:callB P f=true)(hc:Tri P f (args.map (evV E fun _=>0)).toArray H R)
  (hk:∀e H',R e H'→∃v vs,e=.returned v∧z07 rs.tags vs=true∧v=rs.pack vs∧z0s E H' pend∧den P X k (E++vs) H' L K):den P X (.call (.fn f) args rs pend k) E H L K:=by
 refine⟨zkd hok,hc.mono fun e H' hr=>?_⟩;obtain⟨v,vs,rfl,h1,h2,h3,h4⟩:=hk e H' hr;exact⟨vs,h1,h2,h3,h4⟩
theorem z03{f:FuncId}{args:List VE}{rs:RS}{pend:List (SV×List SV)}{k:Fm α}(vs:List Value)(hok:callB P f=true)(hc:Gives P f (args.map (evV E fun _=>0)) H (rs.pack vs))(ht:z07 rs.tags vs=true)(hp:z0s E H pend)
  (hk:∀H',PH.le H H'→den P X k (E++vs) H' L K):den P X (.call (.fn f) args rs pend k) E H L K:=
 z02 hok hc fun _ H'⟨he,hl⟩=>⟨_,vs,he,ht,rfl,z3h hp hl,hk H' hl⟩
theorem z01:z0s E H []:=fun x hx=>by cases hx
theorem z00{n:Nat}{J:List Value→PH→Prop}{L:LK}:((n,J)::L).lookup n=some J:=sM
theorem z1f{n m:Nat}{J:List Value→PH→Prop}{L:LK}(h:n≠m):((n,J)::L).lookup m=L.lookup m:=by
 have:(m==n)=false:=by simp[Ne.symm h]
 rw[List.lookup_cons,this]
end
theorem w64{n:Int}(h0:-9223372036854775808≤n)(h1:n≤9223372036854775807):IntKind.i64.wrap n=n:=by
 simp only[IntKind.wrap,IntKind.bits,IntKind.signed];simp;omega
theorem wu8{n:Int}(h0:0≤n)(h1:n≤255):IntKind.u8.wrap n=n:=by
 simp only[IntKind.wrap,IntKind.bits,IntKind.signed];simp;omega
section
variable {P:Program}{Ψ:Value→PH→Prop}{H:PH}{ρ:Operand→Value}
theorem zyg{f:Value→ByteArray→Sem (ForInStep ByteArray)}(hf:∀(b:UInt8)s,f (.int .u8 (b.toNat:Int)) s=pure (.yield (s.push b))):∀(l:List UInt8) (s:ByteArray) {Φ:ByteArray→PH→Prop},Φ (l.foldl ByteArray.push s) H →
  wpS P (forIn (l.map fun b=>Value.int .u8 (b.toNat:Int)) s f) Φ Ψ H
 | [],s,Φ,h=>h
 |b::l,s,Φ,h=>by
  rw[wa,List.forIn_cons,z04,hf];exact zyg hf l (s.push b) h
theorem Zeq(l:List UInt8)(s:ByteArray):l.foldl ByteArray.push s=⟨(s.data.toList++l).toArray⟩:=by
 induction l generalizing s with
 |nil=>simp
 |cons b l ih=>rw[List.foldl_cons,ih];simp
theorem ztz{a:Addr}{l:List UInt8}{c:Nat}{Φ:Value→PH→Prop}(h:∀j u,(l.map fun b=>Value.int .u8 (b.toNat:Int))[j]?=some u→H.cell? (a.add j)=some u)(hk:Φ (.string ⟨l.toArray⟩) H):wpS P (Conv.bytesToString (.slice (some a) l.length c)) Φ Ψ H:=by
 unfold Conv.bytesToString;simp only[z04];refine z6p (vs:=l.map fun b=>Value.int .u8 (b.toNat:Int)) sM h ?_;rw[List.forIn_toArray];refine zyg (fun b s=>sM) l ByteArray.empty ?_;rw[Zeq];exact hk
theorem Z89{a b ty:TypeId}{x:Operand}{Φ:Next→PH→Prop}:wpS P (execOp ρ (bare (.convert a b x) ty)) Φ Ψ H=wpS P (convert a b (ρ x)) (fun v H'=>Φ (.value v) H') Ψ H:=by
 simp only[execOp,bare,z04,z0i]
theorem Zdv{s t e:TypeId}(hs:P.underlying s=some (.slice e))(ht:P.underlying t=some .string)(he:P.underlying e=some (.int .u8)){a:Addr}{l:List UInt8}{c:Nat}{Φ:Value→PH→Prop}(h:∀j u,(l.map fun b=>Value.int .u8 (b.toNat:Int))[j]?=some u→H.cell? (a.add j)=some u)(hk:Φ (.string ⟨l.toArray⟩) H):
  wpS P (convert s t (.slice (some a) l.length c)) Φ Ψ H:=by
 unfold convert;simp only[z04,z08 hs,z08 ht,z08 he];exact ztz h hk
theorem Z14{s t e:TypeId}(hs:P.underlying s=some (.slice e))(ht:P.underlying t=some .string)(he:P.underlying e=some (.int .u8)){Φ:Value→PH→Prop}(hk:Φ (.string ⟨#[]⟩) H):
  wpS P (convert s t (.slice none 0 0)) Φ Ψ H:=by
 unfold convert;simp only[z04,z08 hs,z08 ht,z08 he];exact hk
end
abbrev txt(l:List UInt8):Value:=.string ⟨l.toArray⟩
theorem z2e(l:List UInt8):(⟨l.toArray⟩:ByteArray).size=l.length:=by simp[ByteArray.size]
inductive PV where
 |int (k:IntKind) (n:Int)
 |bool (b:Bool)
 |str (l:List UInt8)
 |sl (rows:List (List PV))
 |own (b:Option Addr) (n c:Nat)
mutual
def PV.Rep(H:PH):PV→Value→Prop
 | .int k n,v=>v=.int k n∧k.min≤n∧n≤k.max
 | .bool b,v=>v=.bool b
 | .str l,v=>v=txt l∧l.length≤maxLen
 | .sl rows,v=>rows.length≤maxLen∧((v=.slice none 0 0∧rows=[])∨∃a c,v=.slice (some a) rows.length c∧rows.length≤c∧c≤maxLen∧PV.RepRows H rows a)
 | .own b n c,v=>v=.slice b n c
def PV.RepRows(H:PH):List (List PV)→Addr→Prop
 | [],_=>True
 |row::rows,a=>(∃cs,PV.RepRow H row cs∧∀i v,cs[i]?=some v→H.cell? (a.add i)=some v)∧PV.RepRows H rows (a.add row.length)
def PV.RepRow(H:PH):List PV→List Value→Prop
 | [],cs=>cs=[]
 |p::ps,cs=>∃v vs,cs=v::vs∧PV.Rep H p v∧PV.RepRow H ps vs
end
mutual
theorem PV.Rep.le{H H':PH}(h:PH.le H H'):∀{p:PV} {v:Value},p.Rep H v→p.Rep H' v
 | .int _ _,v,hp=>by simp only[PV.Rep]at hp⊢;exact hp
 | .bool _,v,hp=>by simp only[PV.Rep]at hp⊢;exact hp
 | .str _,v,hp=>by simp only[PV.Rep]at hp⊢;exact hp
 | .sl rows,v,hp=>by
  simp only[PV.Rep]at hp⊢;refine⟨hp.1,?_⟩;rcases hp.2 with hp|⟨a,c,h1,h2,h3,h4⟩
  .exact .inl hp
  .exact .inr ⟨a,c,h1,h2,h3,PV.RepRows.le h h4⟩
 | .own _ _ _,v,hp=>by simp only[PV.Rep]at hp⊢;exact hp
theorem PV.RepRows.le{H H':PH}(h:PH.le H H'):∀{rows:List (List PV)} {a:Addr},PV.RepRows H rows a→PV.RepRows H' rows a
 | [],_,_=>by simp only[PV.RepRows]
 |row::rows,a,hp=>by
  simp only[PV.RepRows]at hp⊢;obtain⟨⟨cs,h1,h2⟩,h3⟩:=hp;exact⟨⟨cs,PV.RepRow.le h h1,fun i v hi=>PH.cell_le h (h2 i v hi)⟩,PV.RepRows.le h h3⟩
theorem PV.RepRow.le{H H':PH}(h:PH.le H H'):∀{row:List PV} {cs:List Value},PV.RepRow H row cs→PV.RepRow H' row cs
 | [],cs,hp=>by simp only[PV.RepRow]at hp⊢;exact hp
 |p::ps,cs,hp=>by
  simp only[PV.RepRow]at hp⊢;obtain⟨v,vs,h1,h2,h3⟩:=hp;exact⟨v,vs,h1,PV.Rep.le h h2,PV.RepRow.le h h3⟩
end
theorem PV.RepRow.length{H:PH}:∀{row:List PV} {cs:List Value},PV.RepRow H row cs→cs.length=row.length
 | [],cs,hp=>by simp only[PV.RepRow]at hp;simp[hp]
 |p::ps,cs,hp=>by
  simp only[PV.RepRow]at hp;obtain⟨v,vs,rfl,_,h3⟩:=hp;simp[PV.RepRow.length h3]
theorem PV.RepRow.append{H:PH}:∀{row:List PV} {cs:List Value} {row':List PV} {cs':List Value},PV.RepRow H row cs→PV.RepRow H row' cs'→PV.RepRow H (row++row') (cs++cs')
 | [],cs,row',cs',h1,h2=>by simp only[PV.RepRow]at h1;subst h1;exact h2
 |p::ps,cs,row',cs',h1,h2=>by
  simp only[PV.RepRow,List.cons_append]at h1⊢;obtain⟨v,vs,rfl,h3,h4⟩:=h1;exact⟨v,vs++cs',rfl,h3,PV.RepRow.append h4 h2⟩
theorem PV.RepRow.split{H:PH}:∀{row row':List PV} {cs:List Value},PV.RepRow H (row++row') cs→PV.RepRow H row (cs.take row.length)∧PV.RepRow H row' (cs.drop row.length)
 | [],row',cs,h=>by simp only[PV.RepRow,List.nil_append]at h⊢;simpa using h
 |p::ps,row',cs,h=>by
  simp only[PV.RepRow,List.cons_append]at h⊢;obtain⟨v,vs,rfl,h3,h4⟩:=h;have:=PV.RepRow.split h4;exact⟨⟨v,vs.take ps.length,sM,h3,this.1⟩,by simpa using this.2⟩
class Enc(α:Type) where
 pv:α→List PV
 sz:Nat
 len:∀a,(pv a).length=sz
abbrev pv{α:Type}[Enc α]:α→List PV:=Enc.pv
abbrev sz(α:Type)[Enc α]:Nat:=Enc.sz α
instance encInt:Enc Int:=⟨fun n=>[.int .i64 n],1,fun _=>rfl⟩
instance encByte:Enc UInt8:=⟨fun c=>[.int .u8 (c.toNat:Int)],1,fun _=>rfl⟩
instance encBool:Enc Bool:=⟨fun b=>[.bool b],1,fun _=>rfl⟩
instance encTxt:Enc (List UInt8):=⟨fun l=>[.str l],1,fun _=>rfl⟩
abbrev slp{α:Type}[Enc α](l:List α):PV:=.sl (l.map pv)
def SlR{α:Type}[Enc α](H:PH)(l:List α)(v:Value):Prop:=(slp l).Rep H v
def CsR{α:Type}[Enc α](H:PH)(a:α)(cs:List Value):Prop:=PV.RepRow H (pv a) cs
theorem Addr.add_add(a:Addr)(i j:Nat):(a.add i).add j=a.add (i+j):=by
 obtain⟨b,o,s⟩:=a;unfold Addr.add;by_cases h1:i=0<;>by_cases h2:j=0<;>simp_all[Nat.add_assoc]
theorem Addr.add_zero(a:Addr):a.add 0=a:=by simp[Addr.add]
theorem z54{H:PH}{p:Option Addr}{cs:List Value}(h:rowAt H p cs)(off n:Nat):rowAt H (p.map (·.add off)) ((cs.drop off).take n):=by
 obtain⟨a,rfl,h⟩:=h;refine⟨a.add off,rfl,fun i v hi=>?_⟩;rw[List.getElem?_take]at hi;split at hi
 .rw[List.getElem?_drop]at hi;have:=h (off+i) v hi;rw[Addr.add_add];exact this
 .cases hi
section
variable {α:Type}[Enc α]{H H':PH}{l:List α}{v:Value}
theorem SlR.le(h:PH.le H H')(hs:SlR H l v):SlR H' l v:=PV.Rep.le h hs
theorem CsR.le{a:α}{cs:List Value}(h:PH.le H H')(hs:CsR H a cs):CsR H' a cs:=PV.RepRow.le h hs
theorem SlR.mk_iff:SlR H l v↔l.length≤maxLen∧((v=.slice none 0 0∧l=[])∨∃a c,v=.slice (some a) l.length c∧l.length≤c∧c≤maxLen∧PV.RepRows H (l.map pv) a):=by
 unfold SlR slp;simp only[PV.Rep,zlm,List.map_eq_nil_iff]
theorem SlR.max(h:SlR H l v):l.length≤maxLen:=(SlR.mk_iff.1 h).1
theorem SlR.sl(h:SlR H l v):∃b c,v=.slice b l.length c:=by
 rcases(SlR.mk_iff.1 h).2 with⟨rfl,rfl⟩|⟨a,c,rfl,_⟩<;>exact⟨_,_,rfl⟩
theorem SlR.len(h:SlR H l v):slLen v=l.length:=by
 obtain⟨b,c,rfl⟩:=h.sl;rfl
theorem RepRows.get:∀{l:List α} {p:Addr} {i:Nat} {a:α},PV.RepRows H (l.map pv) p→l[i]?=some a→∃cs,CsR H a cs∧∀j v,cs[j]?=some v→H.cell? ((p.add (i*sz α)).add j)=some v
 | [],_,_,_,_,h=>by simp at h
 |d::l,p,0,e,hd,h=>by
  simp only[wa,PV.RepRows]at hd;simp only[List.getElem?_cons_zero,qG]at h;subst h;obtain⟨cs,h1,h2⟩:=hd.1;exact⟨cs,h1,by simpa[Addr.add_zero]using h2⟩
 |d::l,p,i+1,e,hd,h=>by
  simp only[wa,PV.RepRows,Enc.len]at hd;simp only[List.getElem?_cons_succ]at h;obtain⟨cs,h1,h2⟩:=RepRows.get hd.2 h;refine⟨cs,h1,fun j v hj=>?_⟩;have:=h2 j v hj;rw[Addr.add_add p]at this;rwa[show Enc.sz α+i*sz α=(i+1)*sz α by rw[Nat.add_mul];simp only[sz];omega]at this
theorem SlR.get(h:SlR H l v){i:Nat}{a:α}(hi:l[i]?=some a):
  (z0b v).isSome=true∧(pOf (eltV v (i:Int) (sz α))).isSome=true∧∃cs,CsR H a cs∧rowAt H (pOf (eltV v (i:Int) (sz α))) cs:=by
 rcases(SlR.mk_iff.1 h).2 with⟨rfl,rfl⟩|⟨p,c,rfl,h1,h2,h3⟩
 .simp at hi
 .obtain⟨cs,h4,h5⟩:=RepRows.get h3 hi;refine⟨rfl,rfl,cs,h4,⟨p.add (i*sz α),?_,fun j v hj=>h5 j v hj⟩⟩;simp[eltV,pOf,z0b]
theorem RepRows.drop:∀{l:List α} {p:Addr} (i:Nat),PV.RepRows H (l.map pv) p→PV.RepRows H ((l.drop i).map pv) (p.add (i*sz α))
 | [],_,_,_=>by simp[PV.RepRows]
 |d::l,p,0,hd=>by simpa[Addr.add_zero]using hd
 |d::l,p,i+1,hd=>by
  simp only[wa,PV.RepRows,Enc.len]at hd;have:=RepRows.drop i hd.2;rw[List.drop_succ_cons];rw[Addr.add_add]at this;rwa[show Enc.sz α+i*sz α=(i+1)*sz α by rw[Nat.add_mul];simp only[sz];omega]at this
theorem RepRows.take:∀{l:List α} {p:Addr} (i:Nat),PV.RepRows H (l.map pv) p→PV.RepRows H ((l.take i).map pv) p
 | [],_,_,_=>by simp[PV.RepRows]
 |d::l,p,0,hd=>by simp[PV.RepRows]
 |d::l,p,i+1,hd=>by
  simp only[List.take_succ_cons,wa,PV.RepRows]at hd⊢;exact⟨hd.1,RepRows.take i hd.2⟩
theorem SlR.cut(h:SlR H l v){a b:Nat}(hab:a≤b)(hb:b≤l.length):SlR H ((l.take b).drop a) (slsV v a b (sz α)):=by
 rw[SlR.mk_iff];have hl:=h.max;have e:((l.take b).drop a).length=b-a:=by simp;omega
 refine⟨om,?_⟩;rcases(SlR.mk_iff.1 h).2 with⟨rfl,rfl⟩|⟨p,c,rfl,h1,h2,h3⟩
 .simp at hb;subst hb;have:a=0:=om;subst this;exact .inl ⟨rfl,sM⟩
 .right;have hv:slsV (.slice (some p) l.length c) a b (sz α)=.slice (some (if c=a then p else p.add (a*sz α))) (b-a) (c-a):=by
   by_cases hc:c=a
   .subst hc;simp[slsV,z0b,slCap]
   .have:¬c=(a:Int).toNat:=by simpa using hc
    simp[slsV,z0b,slCap,hc]
  rw[hv,e];by_cases hc:c=a
  .rw[qj hc];have:b=a:=om;subst this;refine⟨p,c-b,rfl,om,om,?_⟩;have:(l.take b).drop b=[]:=sM;rw[this];simp[PV.RepRows]
  .rw[qc hc];refine⟨p.add (a*sz α),c-a,rfl,om,om,?_⟩;exact RepRows.drop a (RepRows.take b h3)
theorem RepRows.cells:∀{l:List α} {p:Addr},PV.RepRows H (l.map pv) p→∃cs,PV.RepRow H (l.flatMap pv) cs∧cs.length=l.length*sz α∧∀j v,cs[j]?=some v→H.cell? (p.add j)=some v
 | [],_,_=>⟨[],by simp[PV.RepRow],sM,sM⟩
 |d::l,p,hd=>by
  simp only[wa,PV.RepRows,Enc.len]at hd;obtain⟨⟨c1,h1,h2⟩,h3⟩:=hd;obtain⟨c2,h4,h5,h6⟩:=RepRows.cells h3;have hl:=h1.length;rw[Enc.len]at hl;refine⟨c1++c2,?_,?_,fun j v hj=>?_⟩
  .rw[qQ];exact PV.RepRow.append h1 h4
  .rw[zla,h5,hl,zlc,Nat.add_mul];simp only[sz];omega
  .by_cases hj':j<c1.length
   .rw[List.getElem?_append_left hj']at hj;exact h2 j v hj
   .rw[List.getElem?_append_right om]at hj;have:=h6 _ v hj;rw[Addr.add_add]at this;rwa[show Enc.sz α+(j-c1.length)=j by omega]at this
theorem RepRows.of:∀{l:List α} {p:Addr} {cs:List Value},PV.RepRow H (l.flatMap pv) cs→(∀j v,cs[j]?=some v→H.cell? (p.add j)=some v)→PV.RepRows H (l.map pv) p
 | [],_,_,_,_=>by simp[PV.RepRows]
 |d::l,p,cs,h1,h2=>by
  rw[qQ]at h1;have h3:=PV.RepRow.split h1;simp only[wa,PV.RepRows];refine⟨⟨_,h3.1,fun i v hi=>?_⟩,RepRows.of h3.2 fun j v hj=>?_⟩
  .rw[List.getElem?_take]at hi;split at hi
   .exact h2 i v hi
   .cases hi
  .rw[List.getElem?_drop]at hj;have:=h2 _ v hj;rw[Addr.add_add];exact this
theorem SlR.src(h:SlR H l v):∃news,PV.RepRow H (l.flatMap pv) news∧news.length=l.length*sz α∧Src H v l.length news:=by
 rcases(SlR.mk_iff.1 h).2 with⟨rfl,rfl⟩|⟨p,c,rfl,h1,h2,h3⟩
 .exact⟨[],by simp[PV.RepRow],sM,.inr (.inl ⟨rfl,rfl,rfl⟩)⟩
 .obtain⟨cs,h4,h5,h6⟩:=RepRows.cells h3;exact⟨cs,h4,h5,.inl ⟨_,_,rfl,h6⟩⟩
end
def PH.del(H:PH)(r:Nat):PH:=fun k=>if k=r then none else H k
theorem PH.del_le(H:PH)(r:Nat):PH.le (H.del r) H:=fun k o h=>by
 unfold PH.del at h;split at h
 .cases h
 .exact h
theorem PH.del_upd(H:PH)(r:Nat)(o:Obj):(H.upd r o).del r=H.del r:=by
 funext k;unfold PH.del PH.upd;split<;>rfl
theorem PH.del_mono{H H':PH}(h:PH.le H H')(r:Nat):PH.le (H.del r) (H'.del r):=fun k o hk=>by
 unfold PH.del at hk⊢;split at hk
 .cases hk
 .rename_i e;rw[qc e];exact h k o hk
theorem PH.del_new(H:PH)(r:Nat)(o:Obj)(h:H r=none):PH.le H ((H.upd r o).del r):=fun k x hk=>by
 have e:k≠r:=fun e=>by rw[e,h]at hk;cases hk
 unfold PH.del;rw[qc e,PH.upd_other e];exact hk
theorem PH.del_none{H:PH}{r:Nat}:(H.del r) r=none:=by simp[PH.del]
theorem PH.del_other{H:PH}{r k:Nat}(h:k≠r):(H.del r) k=H k:=by simp[PH.del,h]
theorem z0v{H H':PH}(h:PH.le H H'){p:Option Addr}{vs:List Value}(hr:rowAt H p vs):rowAt H' p vs:=by
 obtain⟨a,h1,h2⟩:=hr;exact⟨a,h1,fun i v hi=>PH.cell_le h (h2 i v hi)⟩
def delV(v:Value)(H:PH):PH:=match ob v with
 |some g=>H.del g
 |none=>H
theorem Zlw(v:Value)(H:PH):PH.le (delV v H) H:=by
 unfold delV;split
 .exact PH.del_le _ _
 .exact wx _
structure Acc{α:Type}[Enc α](H0 H:PH)(e:TypeId)(l:List α)(v:Value):Prop where
 le:PH.le H0 (delV v H)
 own:∃xs,Own H e (sz α) v l.length xs∧PV.RepRow (delV v H) (l.flatMap pv) xs
section
variable {α:Type}[Enc α]{H0 H H':PH}{e:TypeId}{l:List α}{v:Value}
theorem Acc.max(h:Acc H0 H e l v):l.length≤maxLen:=by
 obtain⟨xs,h1,h2⟩:=h.own;rcases h1.2 with⟨rfl,hz⟩|⟨g,cap,cur,rfl,h3,h4,h5,_⟩
 .omega
 .omega
theorem Acc.slR(h:Acc H0 H e l v):SlR H l v:=by
 rw[SlR.mk_iff];refine⟨h.max,?_⟩;obtain⟨xs,h1,h2⟩:=h.own;have hc:=fun a m c hv=>(h1.cells (a:=a) (m:=m) (c:=c) hv).2;rcases h1.2 with⟨rfl,hz⟩|⟨g,cap,cur,rfl,h3,h4,h5,_⟩
 .exact .inl ⟨rfl,qV.1 hz⟩
 .exact .inr ⟨_,cap,rfl,h4,h5,RepRows.of (PV.RepRow.le (Zlw _ H) h2) fun j u hj=>hc _ _ _ rfl j u hj⟩
theorem Acc.new{r cap:Nat}{cs:List Value}(hr:H r=none)(h0:PH.le H0 H)(hcs:PV.RepRow H (l.flatMap pv) cs)(hl:l.length=cap)(hm:cap≤maxLen):Acc H0 (H.upd r (.cells cs.toArray e (0,0))) e l (.slice (some ⟨r,0,none⟩) l.length cap):=by
 have hlen:cs.length=l.length*sz α:=by
  rw[hcs.length];have:∀l:List α,(l.flatMap pv).length=l.length*sz α:=fun l=>by
   induction l with
   |nil=>simp
   |cons d l ih=>rw[qQ,zla,ih,Enc.len,zlc,Nat.add_mul];simp only[sz];omega
  exact this l
 refine⟨ww h0 (PH.del_new H r _ hr),cs,⟨hlen,.inr ⟨r,cap,cs.toArray,rfl,PH.upd_same,om,hm,by simp[hlen,hl],?_⟩⟩,PV.RepRow.le (PH.del_new H r _ hr) hcs⟩;rw[←hlen];simp
end
theorem Zbi:∀(cs:List Value)(j off:Nat)(cells:Array Value),off+j+cs.length≤cells.size →
  (cs.zipIdx j).foldl (fun a x=>a.setIfInBounds (off+x.2) x.1) cells=z1b cells (off+j) cs
 | [],j,off,cells,_=>by simp[zp3]
 |c::cs,j,off,cells,h=>by
  simp only[zlc]at h;rw[List.zipIdx_cons,List.foldl_cons,Zbi cs (j+1) off _ (by simp;omega),←Nat.add_assoc,zuh (by simp only[zlc];omega)]
theorem Z38{cells:Array Value}{o:Nat}{a b:List Value}(h:o+a.length+b.length≤cells.size):z1b (z1b cells o a) (o+a.length) b=z1b cells o (a++b):=by
 unfold z1b;congr 1;simp only[List.toList_toArray,zla];have h1:(cells.toList.take o).length=o:=by simp;omega
 have h3:(cells.toList.take o++a++cells.toList.drop (o+a.length)).take (o+a.length)=cells.toList.take o++a:=
  List.take_left' (by simp only[zla,h1])
 have h4:(cells.toList.take o++a++cells.toList.drop (o+a.length)).drop (o+a.length+b.length)=cells.toList.drop (o+(a.length+b.length)):=by
  rw[List.drop_append,List.drop_eq_nil_of_le (by simp only[zla,h1];omega),List.nil_append,List.drop_drop,zla,h1];congr 1;omega
 rw[h3,h4];simp
inductive All2{α β:Type}(R:α→β→Prop):List α→List β→Prop where
 |nil:All2 R [] []
 |cons {a:α} {b:β} {l:List α} {m:List β}:R a b→All2 R l m→All2 R (a::l) (b::m)
def idxs:Nat→List Value→List (Nat×Value)
 |_,[]=>[]
 |k,v::vs=>(k,v)::idxs (k+1) vs
theorem ze5{sz:Nat}:∀(vs:List Value)(k:Nat)(cells:Array Value),(∀v∈vs,v.cells.size=sz)→(k+vs.length)*sz≤cells.size →
  Instr.fill (fun i=>some (i*sz,sz)) cells (idxs k vs)=some (z1b cells (k*sz) (vs.flatMap fun v=>v.cells.toList))
 | [],k,cells,_,_=>by simp[idxs,Instr.fill,zp3]
 |v::vs,k,cells,hv,hl=>by
  have h1:=hv v (zms);simp only[zlc]at hl;have h2:k*sz+sz+vs.length*sz≤cells.size:=by
   have:(k+(vs.length+1))*sz=k*sz+sz+vs.length*sz:=by simp only[Nat.add_mul,Nat.one_mul];omega
   omega
  have hcl:v.cells.toList.length=sz:=by simpa using h1
  have hfl:(vs.flatMap fun v=>v.cells.toList).length=vs.length*sz:=by
   have:∀vs:List Value,(∀v∈vs,v.cells.size=sz)→(vs.flatMap fun v=>v.cells.toList).length=vs.length*sz:=by
    intro vs
    induction vs with
    |nil=>simp
    |cons v vs ih=>
     intro h;rw[qQ,zla,ih (fun u hu=>h u (zmm _ hu)),zlc,Nat.add_mul];have:=h v (zms);simp only[Array.length_toList,this];omega
   exact this vs fun u hu=>hv u (zmm _ hu)
  simp only[idxs,Instr.fill];have hc1:(v.cells.size≠sz||decide (k*sz+v.cells.size>cells.size))=false:=by simp[h1];omega
  rw[hc1];simp only[qp,if_false];have hz:=Zbi v.cells.toList 0 (k*sz) cells om;have e1:v.cells.zipIdx.foldl (fun cs x=>cs.setIfInBounds (k*sz+x.2) x.1) cells=z1b cells (k*sz) v.cells.toList:=by
   rw[←Array.foldl_toList,Array.toList_zipIdx];exact hz
  have e2:v.cells.zipIdx.foldl (fun cs x=>match x with|(c,j)=>cs.setIfInBounds (k*sz+j) c) cells=z1b cells (k*sz) v.cells.toList:=e1;rw[e2,ze5 vs (k+1) _ (fun u hu=>hv u (zmm _ hu)) (by rw[zdw om];simp only[Nat.add_mul,Nat.one_mul];omega)];congr 1;rw[show(k+1)*sz=k*sz+v.cells.toList.length by rw[Nat.add_mul,hcl,Nat.one_mul],Z38 om];rfl
theorem zfn{cells:Array Value}{vs:List Value}(h:cells.size=vs.length):z1b cells 0 vs=vs.toArray:=by
 unfold z1b;simp[←h]
mutual
theorem PV.Rep.oneC{H:PH}:∀{p:PV} {v:Value},p.Rep H v→oneC v=true
 | .int _ _,v,h=>by simp only[PV.Rep]at h;rw[h.1];rfl
 | .bool _,v,h=>by simp only[PV.Rep]at h;rw[h];rfl
 | .str _,v,h=>by simp only[PV.Rep]at h;rw[h.1];rfl
 | .sl rows,v,h=>by
  simp only[PV.Rep]at h;rcases h.2 with⟨rfl,_⟩|⟨a,c,rfl,_⟩<;>rfl
 | .own _ _ _,v,h=>by simp only[PV.Rep]at h;rw[h];rfl
end
theorem PV.RepRow.oneC{H:PH}:∀{row:List PV} {cs:List Value},PV.RepRow H row cs→∀u∈cs,Vc.oneC u=true
 | [],cs,h,u,hu=>by simp only[PV.RepRow]at h;subst h;cases hu
 |p::ps,cs,h,u,hu=>by
  simp only[PV.RepRow]at h;obtain⟨v,vs,rfl,h1,h2⟩:=h;rcases zmc.1 hu with rfl|hu
  .exact h1.oneC
  .exact PV.RepRow.oneC h2 u hu
section
variable {P:Program}{α:Type}[Enc α]{H0 H:PH}{e:TypeId}{l:List α}{v:Value}
theorem z3e(l:List α):(l.flatMap pv).length=l.length*sz α:=by
 induction l with
 |nil=>simp
 |cons d l ih=>rw[qQ,zla,ih,Enc.len,zlc,Nat.add_mul];simp only[sz];omega
theorem zgw{l:List α}{vs:List Value}(h:All2 (fun a v=>CsR H a v.cells.toList) l vs):PV.RepRow H (l.flatMap pv) (vs.flatMap fun v=>v.cells.toList)∧(∀v∈vs,v.cells.size=sz α)∧vs.length=l.length:=by
 induction h with
 |nil=>exact⟨by simp[PV.RepRow],sM,rfl⟩
 |cons h1 h2 ih=>
  refine⟨?_,?_,by simp[ih.2.2]⟩
  .rw[qQ,qQ];exact PV.RepRow.append h1 ih.1
  .intro u hu;rcases zmc.1 hu with rfl|hu
   .have:=PV.RepRow.length h1;rw[Enc.len]at this;simpa using this
   .exact ih.2.1 u hu
def ElemOk(P:Program)(e:TypeId)(n b:Nat):Bool:=match P.info? e with
 |some i=>decide (i.size=n)&&decide (i.bytes=b)&&(match i.zero with|some z=>decide (z.cells.size=n)|none=>false)
 |none=>false
theorem ElemOk.info{n b:Nat}(h:ElemOk P e n b=true):∃i z,P.info? e=some i∧i.size=n∧i.bytes=b∧i.zero=some z∧z.cells.size=n:=by
 unfold ElemOk at h;split at h
 .rename_i i hi;simp only[zba,zdt]at h;obtain⟨⟨h1,h2⟩,h3⟩:=h;split at h3
  .rename_i z hz;exact⟨i,z,hi,h1,h2,hz,qZ h3⟩
  .cases h3
 .cases h
theorem Zmr{X:List PanicEntry→PH→Prop}{β:Type}{E:List Value}{L:LK}{K:β→List Value→PH→LK→Prop}{T ty:TypeId}{n b:Nat}{ps:Array (Nat×Operand)}{args:List (Nat×VE)}{pend:List (SV×List SV)}{k:Fm β}(vs:List Value)
  (hT:P.underlying T=some (.slice e)) (he:ElemOk P e (sz α) b=true) (hn:l.length=n) (h0:n*sz α≠0) (hle:n*sz α≤2^24)
  (hps:ps.toList.map (fun x=>(x.1,argEv E args x.2))=idxs 0 vs) (hvs:All2 (fun a v=>CsR H a v.cells.toList) l vs) (hp:z0s E H pend)
  (hk:∀v H',Acc H H' e l v→PH.le H H'→z0s E H' pend→den P X k (E++[v]) H' L K):den P X (.sem (.buildSlice T n ps) ty args (.sc .sl) pend k) E H L K:=by
 obtain⟨i,z,hi,i1,i2,i3,i4⟩:=ElemOk.info he;obtain⟨hr,hsz,hlen⟩:=zgw hvs;show wpS P (execOp (argEv E args) (bare (.buildSlice T n ps) ty)) _ _ H;rw[z58];have hcs:(vs.flatMap fun v=>v.cells.toList).length=n*sz α:=by
  rw[hr.length,z3e,hn]
 have hcells:((Array.range (n*i.size)).map (z.cells[· % z.cells.size]!)).size=(vs.flatMap fun v=>v.cells.toList).length:=by simp[hcs,i1]
 refine z85 hT hi i3 (by rw[i1];exact h0) (by rw[i1];exact hle) (cells:=(vs.flatMap fun v=>v.cells.toList).toArray) ?_ fun r hr'=>?_
 .have hpl:(ps.map fun(i,x)=>(i,argEv E args x)).toList=idxs 0 vs:=by rw[←hps];simp
  rw[hpl,i1,ze5 vs 0 _ hsz (by simp[i1]at hcells⊢;rw[hlen,hn];omega)];congr 1;rw[Nat.zero_mul];refine zfn ?_;rw[i1]at hcells;exact hcells
 .have hnn:n≤n*sz α:=Nat.le_mul_of_pos_right _ (Nat.pos_of_ne_zero fun h=>h0 (by rw[h];simp));have hacc:Acc H (H.upd r (.cells (vs.flatMap fun v=>v.cells.toList).toArray e (0,0))) e l (.slice (some ⟨r,0,none⟩) n n):=by
   have:=Acc.new (H0:=H) (e:=e) (l:=l) (cap:=n) hr' (wx H) hr hn (by simp only[maxLen];omega);rwa[hn]at this
  have hle':=PH.le_upd (o:=.cells (vs.flatMap fun v=>v.cells.toList).toArray e (0,0)) hr';exact⟨[_],rfl,rfl,z3h hp hle',hk _ _ hacc hle' (z3h hp hle')⟩
structure Went(H H':PH)(v v':Value):Prop where
 keep:∀k o,H k=some o→some k≠ob v→H' k=some o
 fresh:∀k,ob v'=some k→ob v=some k∨H k=none
theorem Zlk{v:Value}{H:PH}{k:Nat}(h:ob v≠some k):(delV v H) k=H k:=by
 unfold delV;cases hg:ob v with
 |none=>rfl
 |some g=>exact PH.del_other fun e=>h (by rw[hg,e])
end
theorem Z5s{P:Program}{α:Type}[Enc α]{H:PH}{e:TypeId}{X:List PanicEntry→PH→Prop}{β:Type}{E:List Value}{L:LK}{K:β→List Value→PH→LK→Prop}{T ty:TypeId}{b:Nat}{args:List (Nat×VE)}{k:Fm β}
  (hT:P.underlying T=some (.slice e)) (he:ElemOk P e (sz α) b=true) (hk:∀v H',Acc (α:=α) H H' e [] v→PH.le H H'→den P X k (E++[v]) H' L K):den P X (.sem (.buildSlice T 0 #[]) ty args (.sc .sl) [] k) E H L K:=by
 obtain⟨i,z,hi,i1,i2,i3,i4⟩:=ElemOk.info he;show wpS P (execOp (argEv E args) (bare (.buildSlice T 0 #[]) ty)) _ _ H;rw[z58];unfold Instr.buildSlice;simp only[z04,z08 hT,z2v hi,Nat.zero_mul,z0i,if_true];have hc:¬(0>2^24):=om;rw[qc hc];have hf:Instr.fill (fun j=>some (j*i.size,i.size)) ((Array.range 0).map fun x=>(#[]:Array Value)[x%(#[]:Array Value).size]!) ((#[]:Array (Nat×Operand)).map fun x=>(x.1,argEv E args x.2)).toList=some #[]:=by simp[Instr.fill]
 simp only[z04,z0i,hf,z6i];intro r hr;have hacc:Acc (α:=α) H (H.upd r (.cells #[] e)) e [] (.slice (some ⟨r,0,none⟩) 0 0):=
  Acc.new (l:=[]) (cs:=[]) hr (wx H) (by simp[PV.RepRow]) rfl om
 exact⟨[_],rfl,rfl,z01,hk _ _ hacc (PH.le_upd hr)⟩
theorem Tri.within{P:Program}{f:FuncId}{args:Array Value}{S H:PH}{R:Ending→PH→Prop}(hS:PH.le S H)(ht:Tri P f args S R):
  Tri P f args H fun e H'=>∃K,R e K∧PH.le K H'∧∀k,S k=none→H k≠none→K k=none∧H' k=H k:=by
 intro w hv;have hv':Vis S w:=fun k x hk=>hv k x (hS k x hk);refine(ht w hv').mono ?_;rintro e w' ⟨K,ha,hr⟩;have hlt:∀k,H k≠none→k<w.heap.size:=fun k hk=>by
  cases h:H k with
  |none=>exact absurd h hk
  |some o=>exact hv.lt h
 refine⟨fun k=>if S k=none then(match H k with|some o=>some o|none=>K k)else K k,⟨ha.size,?_,?_,ha.os,ha.tape,ha.out⟩,K,hr,?_,?_⟩
 .intro k x hk
  dsimp only at hk
  split at hk
  .rename_i hs;split at hk
   .rename_i o ho;cases hk;rw[(ha.old k (hlt k (by rw[ho];exact fun h=>by cases h)) hs).1];exact hv k x ho
   .exact ha.vis k x hk
  .exact ha.vis k x hk
 .intro k hk hn;have hs:S k=none:=by
   cases h:S k with
   |none=>rfl
   |some o=>rw[hS k o h]at hn;cases hn
  obtain⟨h1,h2⟩:=ha.old k hk hs;refine⟨h1,?_⟩;show(if S k=none then(match H k with|some o=>some o|none=>K k)else K k)=none;rw[qj hs,hn];exact h2
 .intro k o hk;show(if S k=none then(match H k with|some o=>some o|none=>K k)else K k)=some o;by_cases hs:S k=none
  .rw[qj hs];cases ho:H k with
   |none=>exact hk
   |some o'=>
    have:=(ha.old k (hlt k (by rw[ho];exact fun h=>by cases h)) hs).2;rw[this]at hk;cases hk
  .rw[qc hs];exact hk
 .intro k hs ho;refine⟨(ha.old k (hlt k ho) hs).2,?_⟩;show(if S k=none then(match H k with|some o=>some o|none=>K k)else K k)=H k;rw[qj hs];cases h:H k with
  |none=>exact absurd h ho
  |some o=>rfl
structure Ext(S H S' H':PH):Prop where
 s:PH.le S S'
 h:PH.le H H'
 i:PH.le S' H'
 n:∀k,S k=none→S' k≠none→H k=none
theorem Ext.of_le{S H H':PH}(hS:PH.le S H)(h:PH.le H H'):Ext S H S H':=⟨wx _,h,ww hS h,fun _ h1 h2=>absurd h1 h2⟩
theorem PH.none_of_le{H H':PH}(h:PH.le H H'){k:Nat}(hk:H' k=none):H k=none:=by
 cases x:H k with
 |none=>rfl
 |some o=>rw[h k o x]at hk;cases hk
theorem Tri.ext{P:Program}{f:FuncId}{args:Array Value}{S H:PH}{R:Ending→PH→Prop}(hS:PH.le S H)(hR:∀e K,R e K→PH.le S K)(ht:Tri P f args S R):
  Tri P f args H fun e H'=>∃K,R e K∧Ext S H K H':=by
 refine(Tri.within hS ht).mono ?_;rintro e H' ⟨K,hr,h1,h2⟩;have h0:=hR e K hr;refine⟨K,hr,h0,?_,h1,?_⟩
 .intro k o hk;cases hs:S k with
  |none=>rw[(h2 k hs (by rw[hk];exact fun e=>by cases e)).2];exact hk
  |some o'=>
   have:=hS k o' hs;rw[hk]at this;cases this;exact h1 k o (h0 k o hs)
 .intro k hs hk;cases h:H k with
  |none=>rfl
  |some o=>exact absurd (h2 k hs (by rw[h];exact fun e=>by cases e)).1 hk
theorem Gives.up{P:Program}{f:FuncId}{args:List Value}{S H:PH}{v:Value}(hS:PH.le S H)(h:Gives P f args S v):Gives P f args H v:=by
 refine(Tri.ext hS (fun e K hk=>hk.2) h).mono ?_;rintro e H' ⟨K,⟨h1,_⟩,hx⟩;exact⟨h1,hx.h⟩
section
variable {α:Type}[Enc α]{S S' H H':PH}{e:TypeId}{l:List α}{v:Value}
structure Row(S H:PH)(e:TypeId)(l:List α)(v:Value):Prop where
 off:∀g,ob v=some g→S g=none
 own:∃xs,Own H e (sz α) v l.length xs∧PV.RepRow S (l.flatMap pv) xs
theorem Row.acc(hS:PH.le S H)(h:Row S H e l v):Acc S H e l v:=by
 have hd:PH.le S (delV v H):=by
  intro k o hk;rw[Zlk]
  .exact hS k o hk
  .intro hv;rw[h.off k hv]at hk;cases hk
 obtain⟨xs,h1,h2⟩:=h.own;exact⟨hd,xs,h1,PV.RepRow.le hd h2⟩
theorem Row.nil(S H:PH)(e:TypeId):Row (α:=α) S H e [] (.slice none 0 0):=⟨fun g hg=>(by cases hg),[],Own.nil _ _ _,by simp[PV.RepRow]⟩
theorem Row.empty(hS:PH.le S H)(h:Acc (α:=α) H H' e [] v):Row (α:=α) S H' e [] v:=by
 obtain⟨xs,h1,h2⟩:=h.own;refine⟨fun g hg=>?_,xs,h1,?_⟩
 .cases hs:S g with
  |none=>rfl
  |some o=>
   have h3:=h.le g o (hS g o hs);simp only[delV,hg]at h3;rw[PH.del_none]at h3;cases h3
 .have:xs=[]:=qV.1 (by rw[h1.1];simp);subst this;simp[PV.RepRow]
theorem Row.max(h:Row S H e l v):l.length≤maxLen:=by
 obtain⟨xs,h1,h2⟩:=h.own;rcases h1.2 with⟨rfl,hz⟩|⟨g,cap,cur,rfl,h3,h4,h5,_⟩
 .omega
 .omega
theorem Row.sl(h:Row S H e l v):∃b c,v=.slice b l.length c:=by
 obtain⟨xs,h1,h2⟩:=h.own;exact h1.slice
theorem Row.slR(hS:PH.le S H)(h:Row S H e l v):SlR H l v:=(h.acc hS).slR
theorem Row.freeze(hS:PH.le S H)(h:Row S H e l v):∃S',SlR S' l v∧PH.le S S'∧PH.le S' H∧∀k,S k=none→S' k≠none→ob v=some k:=by
 obtain⟨xs,h1,h2⟩:=h.own;rcases h1.2 with⟨rfl,hz⟩|⟨g,cap,cur,rfl,h3,h4,h5,h6,h7⟩
 .refine⟨S,SlR.mk_iff.2 ⟨om,.inl ⟨rfl,qV.1 hz⟩⟩,wx _,hS,fun k h1 h2=>absurd h1 h2⟩
 .have hg:=h.off g rfl;have hx:PH.le S (S.upd g (.cells cur e (0,0))):=PH.le_upd hg;refine⟨S.upd g (.cells cur e (0,0)),SlR.mk_iff.2 ⟨om,.inr ⟨_,cap,rfl,h4,h5,RepRows.of (PV.RepRow.le hx h2) fun j u hj=>?_⟩⟩,hx,?_,?_⟩
  .rw[Addr.add_plain,PH.cell_at PH.upd_same,wo,←Array.getElem?_toList];rw[←h7]at hj;rw[List.getElem?_take]at hj;split at hj
   .exact hj
   .cases hj
  .intro k o hk;by_cases ek:k=g
   .subst ek;rw[PH.upd_same]at hk;cases hk;exact h3
   .rw[PH.upd_other ek]at hk;exact hS k o hk
  .intro k h1 h2;by_cases ek:k=g
   .subst ek;rfl
   .rw[PH.upd_other ek]at h2;exact absurd h1 h2
theorem Row.get(h:Row S H e l v){i:Nat}{a:α}(hi:l[i]?=some a):
  (z0b v).isSome=true∧(pOf (eltV v (i:Int) (sz α))).isSome=true∧∃cs,CsR S a cs∧rowAt H (pOf (eltV v (i:Int) (sz α))) cs:=by
 obtain⟨xs,h1,h2⟩:=h.own;rcases h1.2 with⟨rfl,hz⟩|⟨g,cap,cur,rfl,h3,h4,h5,h6,h7⟩
 .have:=qV.1 hz;subst this;simp at hi
 .have key:∀(l:List α)(xs:List Value)(i:Nat),PV.RepRow S (l.flatMap pv) xs→l[i]?=some a→CsR S a ((xs.drop (i*sz α)).take (sz α)):=by
   intro l
   induction l with
   |nil=>intro xs i _ hi;simp at hi
   |cons b l ih=>
    intro xs i hr hi;rw[qQ]at hr;have hsp:=PV.RepRow.split hr;rw[Enc.len]at hsp;cases i with
    |zero=>
     simp at hi;subst hi;rw[Nat.zero_mul,List.drop_zero];exact hsp.1
    |succ i=>
     have:=ih _ i hsp.2 (by simpa using hi);rw[List.drop_drop]at this;rwa[show Enc.sz α+i*sz α=(i+1)*sz α by rw[Nat.add_mul];simp only[sz];omega]at this
  refine⟨rfl,rfl,_,key l xs i h2 hi,⟨(⟨g,0,none⟩:Addr).add (i*sz α),by simp[eltV,pOf,z0b],fun j u hj=>?_⟩⟩;rw[Addr.add_plain,Addr.add_plain,PH.cell_at h3];rw[List.getElem?_take]at hj;split at hj
  .rw[List.getElem?_drop,←h7,List.getElem?_take]at hj;split at hj
   .rw[←Array.getElem?_toList,wo];exact hj
   .cases hj
  .cases hj
end
section
variable {P:Program}{α:Type}[Enc α]{S S' H H':PH}{e:TypeId}{l:List α}{v:Value}{X:List PanicEntry→PH→Prop}{β:Type}{E:List Value}{L:LK}{K:β→List Value→PH→LK→Prop}
def SrcS(S H:PH)(more:List α)(w:Value):Prop:=∃news,PV.RepRow S (more.flatMap pv) news∧Src H w more.length news
theorem SlR.srcS{more:List α}{w:Value}(hS:PH.le S H)(hw:SlR S more w):SrcS S H more w:=by
 obtain⟨news,h1,h2,h3⟩:=hw.src;refine⟨news,h1,?_⟩;rcases h3 with⟨b,c,rfl,h⟩|h|h
 .exact .inl ⟨b,c,rfl,fun j u hu=>PH.cell_le hS (h j u hu)⟩
 .exact .inr (.inl h)
 .exact .inr (.inr h)
theorem Z0h{T ty:TypeId}{b:Nat}{x y:Operand}{args:List (Nat×VE)}{pend:List (SV×List SV)}{k:Fm β}{more:List α}{w:Value}
  (hT:P.underlying T=some (.slice e)) (he:ElemOk P e (sz α) b=true) (hx:argEv E args x=v) (hy:argEv E args y=w)
  (hS:PH.le S H) (hr:Row S H e l v) (hw:SrcS S H more w) (h63:l.length+more.length≤maxLen) (hby:(l.length+more.length)*b≤140737488355328)
  (hk:∀v' H',Row S H' e (l++more) v'→Went H H' v v'→PH.le S H'→z0s E H' pend∧den P X k (E++[v']) H' L K):den P X (.sem (.call ⟨.builtin .append,#[x,y],#[T,T]⟩) ty args (.sc .sl) pend k) E H L K:=by
 show wpS P (execOp (argEv E args) (bare _ ty)) _ _ H;rw[Zaf,hx,hy];obtain⟨i,z,hi,i1,i2,i3,i4⟩:=ElemOk.info he;obtain⟨xs,ho,hrow⟩:=hr.own;rw[←i1]at ho;obtain⟨news,h1,h3'⟩:=hw;have hnl:news.length=more.length*i.size:=by rw[h1.length,z3e,i1]
 refine Zel hT hT (fun k=>by intro h;cases h) hi i3 (by rw[i4,i1]) ho h3' hnl h1.oneC h63 (by rw[i2];exact hby) fun v' H' g1 g2 g3=>?_;have hwt:Went H H' v v':=⟨g2,g3⟩;have hrow':Row S H' e (l++more) v':=by
  refine⟨fun g hg=>?_,xs++news,?_,?_⟩
  .rcases g3 g hg with h|h
   .exact hr.off g h
   .exact PH.none_of_le hS h
  .rw[zla,←i1];exact g1
  .rw[List.flatMap_append];exact PV.RepRow.append hrow h1
 have hS':PH.le S H':=fun k o hk=>g2 k o (hS k o hk) fun hv=>by rw[hr.off k hv.symm]at hk;cases hk
 obtain⟨bb,c,hv'⟩:=hrow'.sl;obtain⟨q1,q2⟩:=hk v' H' hrow' hwt hS';exact⟨[v'],by rw[hv'];rfl,rfl,q1,q2⟩
theorem Zei{T ty:TypeId}{n b:Nat}{ps:Array (Nat×Operand)}{args:List (Nat×VE)}{pend:List (SV×List SV)}{k:Fm β}(vs:List Value)
  (hT:P.underlying T=some (.slice e)) (he:ElemOk P e (sz α) b=true) (hn:l.length=n) (h0:n*sz α≠0) (hle:n*sz α≤2^24) (hS:PH.le S H)
  (hps:ps.toList.map (fun x=>(x.1,argEv E args x.2))=idxs 0 vs) (hvs:All2 (fun a v=>CsR S a v.cells.toList) l vs) (hp:z0s E H pend)
  (hk:∀v S' H',Ext S H S' H'→SlR S' l v→z0s E H' pend→den P X k (E++[v]) H' L K):den P X (.sem (.buildSlice T n ps) ty args (.sc .sl) pend k) E H L K:=by
 obtain⟨i,z,hi,i1,i2,i3,i4⟩:=ElemOk.info he;obtain⟨hr,hsz,hlen⟩:=zgw hvs;show wpS P (execOp (argEv E args) (bare (.buildSlice T n ps) ty)) _ _ H;rw[z58];have hcs:(vs.flatMap fun v=>v.cells.toList).length=n*sz α:=by
  rw[hr.length,z3e,hn]
 have hcells:((Array.range (n*i.size)).map (z.cells[· % z.cells.size]!)).size=(vs.flatMap fun v=>v.cells.toList).length:=by simp[hcs,i1]
 refine z85 hT hi i3 (by rw[i1];exact h0) (by rw[i1];exact hle) (cells:=(vs.flatMap fun v=>v.cells.toList).toArray) ?_ fun r hr'=>?_
 .have hpl:(ps.map fun(i,x)=>(i,argEv E args x)).toList=idxs 0 vs:=by rw[←hps];simp
  rw[hpl,i1,ze5 vs 0 _ hsz (by simp[i1]at hcells⊢;rw[hlen,hn];omega)];congr 1;rw[Nat.zero_mul];refine zfn ?_;rw[i1]at hcells;exact hcells
 .have hnn:n≤n*sz α:=Nat.le_mul_of_pos_right _ (Nat.pos_of_ne_zero fun h=>h0 (by rw[h];simp));have hle':=PH.le_upd (o:=.cells (vs.flatMap fun v=>v.cells.toList).toArray e (0,0)) hr';have hs':=PH.le_upd (o:=.cells (vs.flatMap fun v=>v.cells.toList).toArray e (0,0)) (PH.none_of_le hS hr');refine⟨[_],rfl,rfl,z3h hp hle',hk _ (S.upd r (.cells (vs.flatMap fun v=>v.cells.toList).toArray e (0,0))) _ ⟨hs',hle',?_,?_⟩ ?_ (z3h hp hle')⟩
  .intro k o hk;by_cases ek:k=r
   .subst ek;rw[PH.upd_same]at hk⊢;exact hk
   .rw[PH.upd_other ek]at hk⊢;exact hS k o hk
  .intro k h1 h2;by_cases ek:k=r
   .subst ek;exact hr'
   .rw[PH.upd_other ek]at h2;exact absurd h1 h2
  .rw[SlR.mk_iff];refine⟨by simp only[maxLen];omega,.inr ⟨⟨r,0,none⟩,n,by rw[hn],om,by simp only[maxLen];omega,RepRows.of (PV.RepRow.le hs' hr) fun j u hu=>?_⟩⟩;rw[Addr.add_plain,PH.cell_at PH.upd_same,wo];simpa using hu
theorem Z9h{T ty:TypeId}{b:Nat}{args:List (Nat×VE)}{pend:List (SV×List SV)}{k:Fm β}
  (hT:P.underlying T=some (.slice e)) (he:ElemOk P e (sz α) b=true) (hS:PH.le S H) (hp:z0s E H pend)
  (hk:∀v H',Row (α:=α) S H' e [] v→PH.le H H'→(∀g,ob v=some g→H g=none)→z0s E H' pend→den P X k (E++[v]) H' L K):den P X (.sem (.buildSlice T 0 #[]) ty args (.sc .sl) pend k) E H L K:=by
 obtain⟨i,z,hi,i1,i2,i3,i4⟩:=ElemOk.info he;have key:=@Z5s P α _ H e X β E L K T ty b args (.sem (.buildSlice T 0 #[]) ty args (.sc .sl) [] k);have h:den (α:=Unit) P X (.sem (.buildSlice T 0 #[]) ty args (.sc .sl) [] (.leaf ())) E H L fun _ E' H' L'=>∃v,E'=E++[v]∧L'=L∧Acc (α:=α) H H' e [] v∧PH.le H H':=
  Z5s (α:=α) hT he fun v H' a hl=>⟨v,rfl,rfl,a,hl⟩
 refine Zjr _ ?_ ?_ h
 .intro nx H' hn;cases nx with
  |value u=>
   obtain⟨vs,h1,h2,h3,v,h4,_,h5,h6⟩:=hn;have:vs=[v]:=by simpa using h4
   subst this;refine⟨_,h1,h2,z3h hp h6,hk v H' (Row.empty hS h5) h6 (fun g hg=>?_) (z3h hp h6)⟩;cases hx:H g with
   |none=>rfl
   |some o=>
    have:=h5.le g o hx;simp only[delV,hg]at this;rw[PH.del_none]at this;cases this
  |skip=>
   obtain⟨_,h2,_⟩:=hn;simp only[RS.pack,List.headD_nil,undef]at h2;cases h2
  |_=>exact hn.elim
 .intro u H' hx;exact hx
end
section
variable {P:Program}{Ψ:Value→PH→Prop}{H:PH}
theorem Zdn{ρ:Operand→Value}{Φ:Next→PH→Prop}{op:BinOp}{T U ty:TypeId}{x y:Operand}:wpS P (execOp ρ (bare (.binOp op T x y U) ty)) Φ Ψ H=wpS P (eqGuard op T x y (ρ x) (ρ y)) (fun _ H'=>wpS P (binOp op T (ρ x) (ρ y)) (fun v H'=>Φ (.value v) H') Ψ H') Ψ H:=by
 simp only[execOp,bare,z04,z0i]
def flatB:TypeDesc→Bool
 | .int _=>true
 | .string=>true
 | .bool=>true
 |_=>false
theorem Z5m{t:TypeId}{d:TypeDesc}(ht:P.underlying t=some d)(hd:flatB d=true){cs:Array Value}{o:Nat}{v:Value}(hv:cs[o]?=some v){Φ:Value→PH→Prop}:wpS P (part t cs o) Φ Ψ H=Φ v H:=by
 unfold part isAgg;simp only[z04,z08 ht,z0i];cases d<;>simp[flatB]at hd<;>simp[hv,z0i,z04]
def zht:Value→Value→Bool
 | .int _ a,.int _ b=>a==b
 | .string a,.string b=>a==b
 | .bool a,.bool b=>a==b
 |_,_=>false
def FitB(P:Program):List Field→List Value→List Value→Bool
 | [],[],[]=>true
 | f :: fs, a :: asu, b :: bs => f.name != "_" && (match P.underlying f.type, a, b with
  |some (.int _),.int k _,.int k' _=>decide (k=k')
  |some .string,.string _,.string _=>true
  |some .bool,.bool _,.bool _=>true
  |_,_,_=>false)&&FitB P fs asu bs
 |_,_,_=>false
def z6w:List Value→List Value→Bool
 |a::asu,b::bs=>zht a b&&z6w asu bs
 |_,_=>true
theorem Z74 {d:Nat} {t:TypeId} {a b:Value} (h:(match P.underlying t,a,b with
  |some (.int _),.int k _,.int k' _=>decide (k=k')
  |some .string,.string _,.string _=>true
  |some .bool,.bool _,.bool _=>true
  |_,_,_=>false)=true) {Φ:Bool→PH→Prop}:wpS P (Op.equalIn (d+1) t a b) Φ Ψ H=Φ (zht a b) H:=by
 unfold Op.equalIn;split at h
 .rename_i k1 k m k' n hu;have hk:=qZ h;subst hk;simp only[z04,z08 hu,if_true,z0i,zht]
 .rename_i hu;simp only[z04,z08 hu,z0i,zht]
 .rename_i hu;simp only[z04,z08 hu,z0i,zht]
 .cases h
def OffB:Nat→List Field→Bool
 |_,[]=>true
 |k,f::fs=>decide (f.offset=k)&&OffB (k+1) fs
theorem zxs{l:List Value}{k:Nat}{a:Value}{asu:List Value}(h:l.drop k=a::asu):l.toArray[k]?=some a∧l.drop (k+1)=asu:=by
 have h1:l[k]?=some a:=by
  have:=congrArg (·[0]?) h;simpa[List.getElem?_drop]using this
 refine⟨by simpa using h1,?_⟩;have:=congrArg List.tail h;simpa using this
theorem zqy{d:Nat}{asu bs:List Value}:∀(fs:List Field)(k:Nat),OffB k fs=true→FitB P fs (asu.drop k) (bs.drop k)=true→∀{Φ:Option Bool×Unit→PH→Prop},
  wpS P (forIn fs ((none,()):Option Bool×Unit) fun f __s=>
   if f.name ≠ "_" then do
    let x ←part f.type asu.toArray f.offset
    let y ←part f.type bs.toArray f.offset
    let z ←Op.equalIn (d+1) f.type x y
    if(!z)=true then pure (ForInStep.done (some false,()))else pure (ForInStep.yield (none,()))
   else pure (ForInStep.yield (none,()))) Φ Ψ H=Φ (if z6w (asu.drop k) (bs.drop k)=true then(none,())else(some false,())) H
 | [],k,_,hf,Φ=>by
  cases h1:asu.drop k with
  |nil=>rfl
  |cons a r=>cases h2:bs.drop k<;>simp[h1,h2,FitB]at hf
 |f::fs,k,ho,hf,Φ=>by
  cases h1:asu.drop k with
  |nil=>cases h2:bs.drop k<;>simp[h1,h2,FitB]at hf
  |cons a r=>
   cases h2:bs.drop k with
   |nil=>simp[h1,h2,FitB]at hf
   |cons b q=>
    rw[h1,h2]at hf;simp only[FitB,zba]at hf;obtain⟨⟨hn,hm⟩,hf⟩:=hf;simp only[OffB,zba,zdt]at ho;obtain⟨ho,ho2⟩:=ho;obtain⟨ga,gr⟩:=zxs h1;obtain⟨gb,gq⟩:=zxs h2;have hn' : f.name ≠ "_" := by simpa using hn
    have hd:∃dd,P.underlying f.type=some dd∧flatB dd=true:=by
     split at hm
     .rename_i hu;exact⟨_,hu,rfl⟩
     .rename_i hu;exact⟨_,hu,rfl⟩
     .rename_i hu;exact⟨_,hu,rfl⟩
     .cases hm
    obtain⟨dd,hu,hfl⟩:=hd;rw[List.forIn_cons];simp only[z04,qj hn',ho,Z5m hu hfl ga,Z5m hu hfl gb,Z74 hm];cases he:zht a b with
    |false=>simp[z0i,z6w,he]
    |true=>
     simp only[Bool.not_true,qp,if_false,z0i];have ih:=zqy (d:=d) (asu:=asu) (bs:=bs) fs (k+1) ho2 (by rw[gr,gq];exact hf) (Φ:=Φ);rw[gr,gq]at ih;simp only[z6w,he,Bool.true_and];exact ih
theorem zxe{d:Nat}{t:TypeId}{fs:List Field}{asu bs:List Value}(ht:P.underlying t=some (.struct fs.toArray))(hheld:P.stoodInHeld t=false)(ho:OffB 0 fs=true)(hf:FitB P fs asu bs=true){Φ:Bool→PH→Prop}:wpS P (Op.equalIn (d+2) t (.agg asu.toArray) (.agg bs.toArray)) Φ Ψ H=Φ (z6w asu bs) H:=by
 unfold Op.equalIn;simp only[z04,z08 ht,List.forIn_toArray];show wpS P (if P.stoodInHeld t=true then _ else _) Φ Ψ H=_;rw[qc (by rw[hheld];simp)];rw[z04,zqy (d:=d) (asu:=asu) (bs:=bs) fs 0 ho (by simpa using hf)];simp only[List.drop_zero];cases z6w asu bs<;>rfl
end
class Key(α:Type) where
 kv:α→Value
 kd:TypeDesc
 yes:∀a:α,Instr.sameNow kd (kv a) (kv a)=some true
 no:∀a b:α,a≠b→Instr.sameNow kd (kv a) (kv b)=some false
 bits:∀a:α,Instr.sameBits 10000 (kv a) (kv a)=true
 plain:kd=.string∨∃k,kd=.int k
open Key (kv kd)
instance keyInt:Key Int where
 kv n:=.int .i64 n
 kd:=.int .i64
 yes a:=by
  show(if IntKind.i64=IntKind.i64 then some (a==a)else none)=_;rw[qj rfl,beq_self_eq_true]
 no a b h:=by
  show(if IntKind.i64=IntKind.i64 then some (a==b)else none)=_;rw[qj rfl,beq_eq_false_iff_ne.2 h]
 bits a:=by
  show(IntKind.i64==IntKind.i64&&a==a)=true;rw[beq_self_eq_true,beq_self_eq_true];rfl
 plain:=.inr ⟨_,rfl⟩
set_option linter.unusedSectionVars false
section
variable {α:Type}[Key α][DecidableEq α]
def getM(m:List (α×Value))(k:α):Option Value:=(m.find? fun x=>decide (x.1=k)).map (·.2)
def putM(m:List (α×Value))(k:α)(v:Value):List (α×Value):=if(getM m k).isSome then m.map fun x=>if x.1=k then(k,v)else x else m++[(k,v)]
def delM(m:List (α×Value))(k:α):List (α×Value):=m.filter fun x=>decide (x.1≠k)
structure EntsR(es:List MapEntry)(clock:Nat)(m:List (α×Value)):Prop where
 ents:es.map (fun e=>(e.key,e.val))=m.map fun x=>(kv x.1,x.2)
 keys:(m.map (·.1)).Nodup
 born:(es.map (·.born)).Nodup
 old:∀e∈es,e.born<clock
def MapR(H:PH)(v:Value)(m:List (α×Value)):Prop:=∃r es clock,v=.map (some r)∧H r=some (.map es clock)∧EntsR es.toList clock m
theorem MapR.le{H H':PH}{v:Value}{m:List (α×Value)}(h:MapR H v m)(hl:PH.le H H'):MapR H' v m:=by
 obtain⟨r,es,clock,rfl,h1,h2⟩:=h;exact⟨r,es,clock,rfl,hl _ _ h1,h2⟩
theorem EntsR.len{es:List MapEntry}{clock:Nat}{m:List (α×Value)}(h:EntsR es clock m):es.length=m.length:=by
 have:=congrArg List.length h.ents;simpa using this
theorem zrd(k:α):∀(es:List MapEntry) (m:List (α×Value)) (i:Nat),es.map (fun e=>(e.key,e.val))=m.map (fun x=>(kv x.1,x.2)) →
  (getM m k=none∧Instr.findNow (Key.kd α) (kv k) es i=some none)∨(∃j v e,getM m k=some v∧Instr.findNow (Key.kd α) (kv k) es i=some (some (i+j,v))∧es[j]?=some e∧m[j]?=some (k,v)∧e.key=kv k∧e.val=v)
 | [],[],i,_=>.inl ⟨rfl,rfl⟩
 | [],_::_,i,h=>by simp at h
 |_::_,[],i,h=>by simp at h
 |e::es,x::m,i,h=>by
  simp only[wa,List.cons.injEq,Prod.mk.injEq]at h;obtain⟨⟨h1,h2⟩,h3⟩:=h;by_cases hk:x.1=k
  .right;refine⟨0,x.2,e,?_,?_,rfl,?_,by rw[h1,hk],h2⟩
   .simp[getM,List.find?_cons,hk]
   .simp only[Instr.findNow,h1,hk,Key.yes];rw[h2];rfl
   .simp only[List.getElem?_cons_zero];rw[←hk]
  .have hne:=Key.no k x.1 (Ne.symm hk);rcases zrd k es m (i+1) h3 with⟨g1,g2⟩|⟨j,v,e',g1,g2,g3,g4,g5,g6⟩
   .left;refine⟨?_,?_⟩
    .simp only[getM,List.find?_cons,qY hk]at g1⊢;exact g1
    .simp only[Instr.findNow,h1,hne];exact g2
   .right;refine⟨j+1,v,e',?_,?_,by simpa using g3,by simpa using g4,g5,g6⟩
    .simp only[getM,List.find?_cons,qY hk]at g1⊢;exact g1
    .simp only[Instr.findNow,h1,hne];rw[g2,show i+1+j=i+(j+1) by omega]
variable {P:Program}{Ψ:Value→PH→Prop}{H:PH}
theorem zdx{kt:TypeId}(hk:P.underlying kt=some (Key.kd α)){es:List MapEntry}{clock:Nat}{m:List (α×Value)}(h:EntsR es clock m)(k:α){Φ:Option (Nat×Value)→PH→Prop}
  (h0:getM m k=none→Φ none H) (h1:∀j v e,getM m k=some v→es[j]?=some e→m[j]?=some (k,v)→e.key=kv k→e.val=v→Φ (some (j,v)) H):wpS P (Instr.findKey kt (kv k) es) Φ Ψ H:=by
 unfold Instr.findKey;rw[z04,z08 hk];rcases zrd k es m 0 h.ents with⟨g1,g2⟩|⟨j,v,e,g1,g2,g3,g4,g5,g6⟩
 .rw[g2];exact h0 g1
 .rw[g2,wo];exact h1 j v e g1 g3 g4 g5 g6
theorem zci{kt:TypeId}(hk:P.underlying kt=some (Key.kd α))(b:Bool)(k:α){Φ:Unit→PH→Prop}(h:Φ () H):wpS P (Instr.checkKey b 10000 kt (kv k)) Φ Ψ H:=by
 show wpS P (Instr.checkKey b (9999+1) kt (kv k)) Φ Ψ H;unfold Instr.checkKey;rw[z04,z08 hk];rcases Key.plain (α:=α)with e|⟨n,e⟩<;>rw[e]<;>exact h
theorem z2r{β:Type}(a:β){Φ:β→PH→Prop}:wpS P (Sem.pure a) Φ Ψ H=Φ a H:=rfl
theorem Ze1{t kt et:TypeId}(ht:P.underlying t=some (.map kt et))(hk:P.underlying kt=some (Key.kd α)){i:TypeInfo}{z:Value}(hi:P.info? et=some i)(hz:i.zero=some z){v:Value}{m:List (α×Value)}(h:MapR H v m)(k:α){Φ:Value→PH→Prop}
  (hok:Φ ((getM m k).getD z) H):wpS P (Instr.lookup t v (kv k) false) Φ Ψ H:=by
 obtain⟨r,es,clock,rfl,h1,h2⟩:=h;unfold Instr.lookup;simp only[z04,z08 ht];refine⟨_,h1,rfl,?_⟩;simp only[z2r,z0i,z04];refine zci hk _ k ?_;refine zdx hk h2 k (fun g=>?_) (fun j v e g _ _ _ _=>?_)
 .simp only[z04,z4y hi hz];rw[g]at hok;exact hok
 .rw[g]at hok;exact hok
theorem Z5g{t kt et:TypeId}(ht:P.underlying t=some (.map kt et))(hk:P.underlying kt=some (Key.kd α)){i:TypeInfo}{z:Value}(hi:P.info? et=some i)(hz:i.zero=some z){v:Value}{m:List (α×Value)}(h:MapR H v m)(k:α){Φ:Value→PH→Prop}
  (hok:Φ (.tuple #[(getM m k).getD z,.bool (getM m k).isSome]) H):wpS P (Instr.lookup t v (kv k) true) Φ Ψ H:=by
 obtain⟨r,es,clock,rfl,h1,h2⟩:=h;unfold Instr.lookup;simp only[z04,z08 ht];refine⟨_,h1,rfl,?_⟩;simp only[z2r,z0i,z04];refine zci hk _ k ?_;refine zdx hk h2 k (fun g=>?_) (fun j v e g _ _ _ _=>?_)
 .simp only[z04,z4y hi hz];rw[g]at hok;exact hok
 .rw[g]at hok;exact hok
theorem getM_none{m:List (α×Value)}{k:α}:getM m k=none↔k∉m.map (·.1):=by
 unfold getM;rw[Option.map_eq_none_iff,List.find?_eq_none];simp only[zmp,not_exists,not_and,zdt]
theorem z30(x:α×Value)(m:List (α×Value))(k:α):getM (x::m) k=if x.1=k then some x.2 else getM m k:=by
 unfold getM;rw[List.find?_cons];split
 .rename_i h;rw[qj (qZ h)];rfl
 .rename_i h;rw[qc (of_decide_eq_false h)]
theorem Z9x(m l:List (α×Value))(k:α):getM (m++l) k=(getM m k).or (getM l k):=by
 induction m with
 |nil=>simp[getM]
 |cons x m ih=>
  rw[List.cons_append,z30,z30,ih];split<;>simp
theorem Zkh(m:List (α×Value))(k:α)(v:Value)(q:α):getM (m.map fun x=>if x.1=k then(k,v)else x) q=if q=k∧(getM m k).isSome then some v else getM m q:=by
 induction m with
 |nil=>simp[getM]
 |cons x m ih=>
  rw[wa,z30,z30,z30,ih];by_cases hk:x.1=k
  .rw[qj hk,qj hk];by_cases hq:q=k
   .subst hq;simp
   .have h2:¬k=q:=fun e=>hq e.symm;have h3:¬x.1=q:=fun e=>h2 (hk.symm.trans e);simp only[h2,h3,hq,if_false,false_and]
  .rw[qc hk,qc hk];by_cases hx:x.1=q
   .have h2:¬q=k:=fun e=>hk (hx.trans e);simp only[hx,h2,if_true,false_and,if_false]
   .simp only[hx,if_false]
theorem zhl(m:List (α×Value))(k:α)(v:Value)(q:α):getM (putM m k v) q=if q=k then some v else getM m q:=by
 unfold putM;split
 .rename_i h;rw[Zkh];by_cases hq:q=k
  .rw[qj ⟨hq,h⟩,qj hq]
  .rw[qc (fun e=>hq e.1),qc hq]
 .rename_i h;rw[Z9x,z30];by_cases hq:q=k
  .subst hq;have:getM m q=none:=by simpa using h
   rw[this];simp
  .have h2:¬k=q:=fun e=>hq e.symm;rw[qc hq,qc h2];simp[getM]
theorem Z2n{m:List (α×Value)}(h:(m.map (·.1)).Nodup)(k:α)(v:Value):((putM m k v).map (·.1)).Nodup:=by
 unfold putM;split
 .have:((m.map fun x=>if x.1=k then(k,v)else x).map (·.1))=m.map (·.1):=by
   rw[List.map_map];refine qO fun x _=>?_;simp only[Function.comp];split
   .rename_i e;exact e.symm
   .rfl
  rw[this];exact h
 .rename_i hn;have:getM m k=none:=by simpa using hn
  rw[List.map_append,List.nodup_append];refine⟨h,sM,fun a ha b hb=>?_⟩;simp only[wa,List.map_nil,zsi]at hb;subst hb;exact fun e=>getM_none.1 this (e▸ha)
theorem Zjy{es:List MapEntry}{clock:Nat}{m:List (α×Value)}(h:EntsR es clock m){k:α}{v0 v:Value}{j:Nat}{e:MapEntry}(hj:es[j]?=some e)(hm:m[j]?=some (k,v0)){f:MapEntry→MapEntry}(hf1:(f e).key=kv k)(hf2:(f e).val=v)(hf3:(f e).born=e.born):EntsR (es.modify j f) clock (putM m k v):=by
 have hsome:(getM m k).isSome=true:=by
  cases hg:getM m k with
  |some _=>rfl
  |none=>exact absurd (zmp.2 ⟨_,zmg hm,rfl⟩) (getM_none.1 hg)
 have hlen:=h.len;have hother:∀(i:Nat)(x:α×Value),m[i]?=some x→i≠j→x.1≠k:=by
  intro i x hx hij e;have hi:(m.map (·.1))[i]?=some k:=by rw[zem,hx];simp[e]
  have hj':(m.map (·.1))[j]?=some k:=by rw[zem,hm];rfl
  have hil:=(zgi.1 hi).1;exact hij ((List.getElem?_inj hil h.keys).1 (hi.trans hj'.symm))
 refine⟨?_,Z2n h.keys k v,?_,?_⟩
 .unfold putM;rw[qj hsome];refine List.ext_getElem? fun i=>?_;have hi:=congrArg (fun l=>l[i]?) h.ents;simp only[zem]at hi⊢;rw[List.getElem?_modify];by_cases hij:j=i
  .subst hij;rw[hj,hm];simp[hf1,hf2]
  .cases hmi:m[i]? with
   |none=>
    rw[hmi]at hi;simp only[Option.map_none,Option.map_eq_none_iff]at hi;simp[hi]
   |some x=>
    have hx:=hother i x hmi (fun e=>hij e.symm);rw[hmi]at hi;simp only[Option.map_some]at hi;cases hei:es[i]? with
    |none=>rw[hei]at hi;cases hi
    |some y=>
     rw[hei]at hi;simp only[hij,if_false,Option.map_some,hx];simpa using hi
 .have:(es.modify j f).map (·.born)=es.map (·.born):=by
   refine List.ext_getElem? fun i=>?_;simp only[zem];rw[List.getElem?_modify];by_cases hij:j=i
   .subst hij;rw[hj];simp[hf3]
   .simp[hij]
  rw[this];exact h.born
 .intro y hy;obtain⟨i,hi⟩:=qJ hy;rw[List.getElem?_modify]at hi;by_cases hij:j=i
  .subst hij;rw[hj]at hi;have hi:some (f e)=some y:=by simpa using hi
   cases hi;rw[hf3];exact h.old e (zmg hj)
  .cases hei:es[i]? with
   |none=>rw[hei]at hi;simp at hi
   |some z=>
    rw[hei]at hi;simp[hij]at hi;subst hi;exact h.old z (zmg hei)
theorem Zge{es:List MapEntry}{clock:Nat}{m:List (α×Value)}(h:EntsR es clock m){k:α}{v:Value}(hn:getM m k=none):EntsR (es++[{ key:=kv k,val:=v,born:=clock }]) (clock+1) (putM m k v):=by
 have hp:putM m k v=m++[(k,v)]:=by unfold putM;rw[hn];rfl
 refine⟨?_,Z2n h.keys k v,?_,?_⟩
 .rw[hp,List.map_append,List.map_append,h.ents];rfl
 .rw[List.map_append,List.nodup_append];refine⟨h.born,sM,fun a ha b hb=>?_⟩;simp only[wa,List.map_nil,zsi]at hb;subst hb;obtain⟨e,he,rfl⟩:=zmp.1 ha;exact Nat.ne_of_lt (h.old e he)
 .intro e he;rcases zma.1 he with he|he
  .exact Nat.lt_succ_of_lt (h.old e he)
  .rw[zsi.1 he];exact Nat.lt_succ_self _
theorem Zfq{old:Value}(k:α)(ho:old=kv k){Φ:Value→PH→Prop}(h:Φ (kv k) H):wpS P (Instr.keyThatStays old (kv k)) Φ Ψ H:=by
 unfold Instr.keyThatStays;rw[ho,qj (Key.bits k)];exact h
theorem Z4f{t kt et:TypeId}(ht:P.underlying t=some (.map kt et))(hk:P.underlying kt=some (Key.kd α)){r:Nat}{es:Array MapEntry}{clock:Nat}{m:List (α×Value)}(hr:H r=some (.map es clock))(h:EntsR es.toList clock m)(k:α)(x:Value){Φ:Unit→PH→Prop}
  (hok:∀es' clock',EntsR es'.toList clock' (putM m k x)→Φ () (H.upd r (.map es' clock'))):wpS P (Instr.mapUpdate t (.map (some r)) (kv k) x) Φ Ψ H:=by
 unfold Instr.mapUpdate;simp only[z04,z08 ht];refine⟨_,hr,rfl,?_⟩;simp only[z2r,z04];refine zci hk _ k ?_;refine zdx hk h k (fun g=>?_) (fun j v e g g1 g2 g3 g4=>?_)
 .refine⟨_,hr,rfl,?_⟩;refine hok _ _ ?_;rw[Array.toList_push];exact Zge h g
 .simp only[z04];have hj:es[j]?=some e:=by rw[←Array.getElem?_toList];exact g1
  rw[hj];refine Zfq k g3 ?_;refine⟨_,hr,rfl,?_⟩;refine hok _ _ ?_;rw[Array.toList_modify];exact Zjy h g1 g2 rfl rfl rfl
end
open Key (kv kd)
set_option linter.unusedSectionVars false
section
variable {P:Program}{Ψ:Value→PH→Prop}{H:PH}{ρ:Operand→Value}{Φ:Next→PH→Prop}
theorem Z5o{T ty:TypeId}:wpS P (execOp ρ (bare (.makeMap T none) ty)) Φ Ψ H=∀r,H r=none→Φ (.value (.map (some r))) (H.upd r (.map #[] 0)):=rfl
theorem zuf{t ty:TypeId}{x i:Operand}{b:Bool}:wpS P (execOp ρ (bare (.lookup t x i b) ty)) Φ Ψ H=wpS P (Instr.lookup t (ρ x) (ρ i) b) (fun v H'=>Φ (.value v) H') Ψ H:=by
 simp only[execOp,bare,z04,z0i]
theorem Z0x{t ty:TypeId}{m k x:Operand}:wpS P (execOp ρ (bare (.mapUpdate t m k x) ty)) Φ Ψ H=wpS P (Instr.mapUpdate t (ρ m) (ρ k) (ρ x)) (fun _ H'=>Φ .skip H') Ψ H:=by
 simp only[execOp,bare,z04,z0i]
end
section
variable {P:Program}{X:List PanicEntry→PH→Prop}{β:Type}{E:List Value}{L:LK}{K:β→List Value→PH→LK→Prop}{H:PH}
theorem z5g{T ty:TypeId}{args:List (Nat×VE)}{k:Fm β}(hk:∀r,H r=none→den P X k (E++[.map (some r)]) (H.upd r (.map #[] 0)) L K):den P X (.sem (.makeMap T none) ty args (.sc .map) [] k) E H L K:=by
 show wpS P (execOp (argEv E args) (bare _ ty)) _ _ H;rw[Z5o];exact fun r hr=>⟨[_],rfl,rfl,z01,hk r hr⟩
variable {α:Type}[Key α][DecidableEq α]
theorem z29{t kt et ty:TypeId}{x i:Operand}{args:List (Nat×VE)}{pend:List (SV×List SV)}{k:Fm β}{tag:Tag}{m:List (α×Value)}{v:Value}(key:α)(z:Value)(ht:P.underlying t=some (.map kt et))(hkt:P.underlying kt=some (Key.kd α))(hz:(P.info? et).map (·.zero)=some (some z))
  (hx:argEv E args x=v) (hi:argEv E args i=kv key) (h:MapR H v m) (htag:tag.ok ((getM m key).getD z)=true) (hp:z0s E H pend) (hk:den P X k (E++[(getM m key).getD z]) H L K):den P X (.sem (.lookup t x i false) ty args (.sc tag) pend k) E H L K:=by
 obtain⟨inf,h1,h2⟩:=qR.1 hz;show wpS P (execOp (argEv E args) (bare _ ty)) _ _ H;rw[zuf,hx,hi];exact Ze1 ht hkt h1 h2 h key ⟨[_],(by show(tag.ok ((getM m key).getD z)&&true)=true;rw[htag];rfl),rfl,hp,hk⟩
theorem zij{t kt et ty:TypeId}{x i:Operand}{args:List (Nat×VE)}{pend:List (SV×List SV)}{k:Fm β}{tag:Tag}{m:List (α×Value)}{v:Value}(key:α)(z:Value)(ht:P.underlying t=some (.map kt et))(hkt:P.underlying kt=some (Key.kd α))(hz:(P.info? et).map (·.zero)=some (some z))
  (hx:argEv E args x=v) (hi:argEv E args i=kv key) (h:MapR H v m) (htag:z07 [tag,.bool] [(getM m key).getD z,.bool (getM m key).isSome]=true) (hp:z0s E H pend) (hk:den P X k (E++[(getM m key).getD z,.bool (getM m key).isSome]) H L K):den P X (.sem (.lookup t x i true) ty args (.tu [(false,[tag]),(false,[.bool])]) pend k) E H L K:=by
 obtain⟨inf,h1,h2⟩:=qR.1 hz;show wpS P (execOp (argEv E args) (bare _ ty)) _ _ H;rw[zuf,hx,hi];exact Z5g ht hkt h1 h2 h key ⟨[_,_],htag,rfl,hp,hk⟩
theorem z1y{t kt et ty:TypeId}{x i y:Operand}{args:List (Nat×VE)}{k:Fm β}{m:List (α×Value)}{r:Nat}{es:Array MapEntry}{clock:Nat}(key:α)(val:Value)(ht:P.underlying t=some (.map kt et))(hkt:P.underlying kt=some (Key.kd α))
  (hx:argEv E args x=.map (some r)) (hi:argEv E args i=kv key) (hy:argEv E args y=val) (hr:H r=some (.map es clock)) (h:EntsR es.toList clock m)
  (hk:∀es' clock',EntsR es'.toList clock' (putM m key val)→den P X k E (H.upd r (.map es' clock')) L K):den P X (.sem (.mapUpdate t x i y) ty args (.tu []) [] k) E H L K:=by
 show wpS P (execOp (argEv E args) (bare _ ty)) _ _ H;rw[Z0x,hx,hi,hy];refine Z4f ht hkt hr h key val fun es' clock' he=>⟨rfl,rfl,z01,?_⟩;rw[zan];exact hk es' clock' he
end
theorem EntsR.empty{α:Type}[Key α]:EntsR (α:=α) (#[]:Array MapEntry).toList 0 []:=⟨rfl,sM,sM,fun e he=>by cases he⟩
inductive Itm where
 |row (e:TypeId) (z:Nat) (rows:List (List PV)) (v:Value)
 |raw (e:TypeId) (z:Nat) (xs:List Value) (n:Nat) (v:Value)
 |blk (r:Nat) (o:Obj)
def Itm.ob:Itm→Option Nat
 | .row _ _ _ v=>Vc.ob v
 | .raw _ _ _ _ v=>Vc.ob v
 | .blk r _=>some r
def Itm.At(S H:PH):Itm→Prop
 | .row e z rows v=>∃xs,Own H e z v rows.length xs∧PV.RepRow S rows.flatten xs
 | .raw e z xs n v=>Own H e z v n xs
 | .blk r o=>H r=some o
abbrev orow{α:Type}[Enc α](e:TypeId)(l:List α)(v:Value):Itm:=.row e (sz α) (l.map pv) v
structure Held(S H:PH)(I:List Itm):Prop where
 sh:PH.le S H
 at_:∀i∈I,i.At S H
 off:∀i∈I,∀g,i.ob=some g→S g=none
 nd:I.Pairwise fun a b=>∀g,a.ob=some g→b.ob≠some g
section
variable {S H S' H':PH}{I J J':List Itm}
theorem Own.dwell{e:TypeId}{z n:Nat}{v:Value}{xs:List Value}(h:Own H e z v n xs){g:Nat}(hg:ob v=some g):H g≠none:=by
 rcases h.2 with⟨rfl,_⟩|⟨g',cap,cur,rfl,h1,_⟩
 .cases hg
 .simp only[ob,qG]at hg;subst hg;rw[h1];exact fun h=>by cases h
theorem Itm.At.dwell{i:Itm}(h:i.At S H){g:Nat}(hg:i.ob=some g):H g≠none:=by
 cases i with
 |row e z rows v=>obtain⟨xs,h1,_⟩:=h;exact h1.dwell hg
 |raw e z xs n v=>exact Own.dwell h hg
 |blk r o=>
  simp only[Itm.ob,qG]at hg;subst hg;simp only[Itm.At]at h;rw[h];exact fun h=>by cases h
theorem Itm.At.mono{i:Itm}(h:i.At S H)(hs:PH.le S S')(hk:∀g,i.ob=some g→H' g=H g):i.At S' H':=by
 cases i with
 |row e z rows v=>obtain⟨xs,h1,h2⟩:=h;exact⟨xs,h1.le hk,PV.RepRow.le hs h2⟩
 |raw e z xs n v=>exact Own.le h hk
 |blk r o=>simp only[Itm.At]at h⊢;rw[hk r rfl];exact h
theorem Held.step(h:Held S H (J++I))(hS:PH.le S S')(keep:∀k o,H k=some o→(∀j∈J,j.ob≠some k)→H' k=some o)
  (newS:∀k,S k=none→S' k≠none→H k=none∨∃j∈J,j.ob=some k) (hJ:Held S' H' J')
  (newJ:∀j∈J',∀g,j.ob=some g→H g=none∨∃i∈J,i.ob=some g):Held S' H' (J'++I):=by
 have hnd:=List.pairwise_append.1 h.nd;have hin:∀i∈I,∀g,i.ob=some g→H g≠none∧∀j∈J,j.ob≠some g:=fun i hi g hg=>
  ⟨(h.at_ i (wq _ hi)).dwell hg,fun j hj hjg=>hnd.2.2 j hj i hi g hjg hg⟩
 refine⟨hJ.sh,fun i hi=>?_,fun i hi g hg=>?_,List.pairwise_append.2 ⟨hJ.nd,hnd.2.1,fun a ha b hb g hag hbg=>?_⟩⟩
 .rcases zma.1 hi with hi|hi
  .exact hJ.at_ i hi
  .refine(h.at_ i (wq _ hi)).mono hS fun g hg=>?_;obtain⟨h1,h2⟩:=hin i hi g hg;cases ho:H g with
   |none=>exact absurd ho h1
   |some o=>exact keep g o ho h2
 .rcases zma.1 hi with hi|hi
  .exact hJ.off i hi g hg
  .cases hs:S' g with
   |none=>rfl
   |some o=>
    obtain⟨h1,h2⟩:=hin i hi g hg;rcases newS g (h.off i (wq _ hi) g hg) (by rw[hs];exact fun h=>by cases h)with h3|⟨j,h3,h4⟩
    .exact absurd h3 h1
    .exact absurd h4 (h2 j h3)
 .obtain⟨h1,h2⟩:=hin b hb g hbg;rcases newJ a ha g hag with h3|⟨j,h3,h4⟩
  .exact h1 h3
  .exact h2 j h3 h4
theorem Held.nil(h:PH.le S H):Held S H []:=⟨h,fun i hi=>(by cases hi),fun i hi=>(by cases hi),List.Pairwise.nil⟩
theorem Held.ext(h:Held S H I)(x:Ext S H S' H'):Held S' H' I:=by
 have:=Held.step (J:=[]) (J':=[]) (I:=I) (S':=S') (H':=H') h x.s (fun k o hk _=>x.h k o hk) (fun k h1 h2=>.inl (x.n k h1 h2)) (Held.nil x.i) (fun j hj=>by cases hj);exact this
theorem Held.le(h:Held S H I)(hl:PH.le H H'):Held S H' I:=h.ext (Ext.of_le h.sh hl)
theorem Held.perm(h:Held S H I)(p:I.Perm J):Held S H J:=
 ⟨h.sh,fun i hi=>h.at_ i (p.mem_iff.2 hi),fun i hi=>h.off i (p.mem_iff.2 hi),(p.pairwise_iff (fun hab g hb ha=>hab g ha hb)).1 h.nd⟩
theorem Held.sub(h:Held S H I)(s:J.Sublist I):Held S H J:=
 ⟨h.sh,fun i hi=>h.at_ i (s.subset hi),fun i hi=>h.off i (s.subset hi),h.nd.sublist s⟩
theorem Held.tail{a:Itm}(h:Held S H (a::I)):Held S H I:=h.sub (List.sublist_cons_self a I)
theorem Held.call{P:Program}{f:FuncId}{args:Array Value}{R:Ending→PH→List Itm→Prop}(h:Held S H (J++I))
  (ht:∀K,Held S K J→Tri P f args K fun e K'=>∃S' J',PH.le S S'∧Held S' K' J'∧R e S' J') :
  Tri P f args H fun e H'=>∃S' J',PH.le S S'∧Held S' H' (J'++I)∧R e S' J':=by
 classical
 let K:PH:=fun k=>if S k≠none∨∃j∈J,j.ob=some k then H k else none
 have hKH:PH.le K H:=fun k o hk=>by
  simp only[K]at hk;split at hk
  .exact hk
  .cases hk
 have hKat:∀k,(S k≠none∨∃j∈J,j.ob=some k)→K k=H k:=fun k hk=>qj hk;have hKno:∀k,K k=none→H k≠none→S k=none∧∀j∈J,j.ob≠some k:=fun k h1 h2=>by
  by_cases hc:S k≠none∨∃j∈J,j.ob=some k
  .rw[hKat k hc]at h1;exact absurd h1 h2
  .exact ⟨by
    cases hs:S k with
    |none=>rfl
    |some o=>exact absurd (.inl (by rw[hs];exact fun h=>by cases h)) hc,fun j hj hg=>hc (.inr ⟨j,hj,hg⟩)⟩
 have hJ:=h.sub (List.sublist_append_left J I);have hK:Held S K J:=by
  refine⟨fun k o hk=>by rw[hKat k (.inl (by rw[hk];exact fun h=>by cases h))];exact h.sh k o hk,fun i hi=>?_,hJ.off,hJ.nd⟩;exact(hJ.at_ i hi).mono (wx _) fun g hg=>hKat g (.inr ⟨i,hi,hg⟩)
 refine(Tri.within hKH (ht K hK)).mono ?_;rintro e H' ⟨K',⟨S',J',h1,h2,h3⟩,h4,h5⟩;have hJ':Held S' H' J':=h2.le h4;refine⟨S',J',h1,Held.step h h1 (fun k o hk hn=>?_) (fun k hs hs'=>?_) hJ' (fun j hj g hg=>?_),h3⟩
 .by_cases hs:S k=none
  .have hKn:K k=none:=qc fun hc=>by
    rcases hc with hc|⟨j,hj,hg⟩
    .exact hc hs
    .exact hn j hj hg
   rw[(h5 k hKn (by rw[hk];exact fun h=>by cases h)).2];exact hk
  .cases hso:S k with
   |none=>exact absurd hso hs
   |some o'=>
    have:=h.sh k o' hso;rw[hk]at this;cases this;exact h4 k o (h2.sh k o (h1 k o hso))
 .by_cases hn:H k=none
  .exact .inl hn
  .right;cases hkk:K k with
   |none=>
    have:=(h5 k hkk hn).1;cases hso:S' k with
    |none=>exact absurd hso hs'
    |some o'=>have:=h2.sh k o' hso;simp_all
   |some o'=>
    by_cases hc:S k≠none∨∃j∈J,j.ob=some k
    .rcases hc with hc|hc
     .exact absurd hs hc
     .exact hc
    .have:K k=none:=qc hc;rw[this]at hkk;cases hkk
 .by_cases hn:H g=none
  .exact .inl hn
  .right;cases hkk:K g with
   |none=>
    have h6:=(h5 g hkk hn).1;exact absurd h6 ((h2.at_ j hj).dwell hg)
   |some o'=>
    by_cases hc:S g≠none∨∃j∈J,j.ob=some g
    .rcases hc with hc|hc
     .have h7:=h2.off j hj g hg;cases hso:S g with
      |none=>exact absurd hso hc
      |some o2=>rw[h1 g o2 hso]at h7;cases h7
     .exact hc
    .have:K g=none:=qc hc;rw[this]at hkk;cases hkk
theorem Held.pure{P:Program}{f:FuncId}{args:Array Value}{R:Ending→PH→Prop}(h:Held S H I)
  (ht:Tri P f args S fun e S'=>PH.le S S'∧R e S'):Tri P f args H fun e H'=>∃S',PH.le S S'∧Held S' H' I∧R e S':=by
 refine(Tri.ext h.sh (fun e K hk=>hk.1) ht).mono ?_;rintro e H' ⟨K,⟨_,h1⟩,hx⟩;exact⟨K,hx.s,h.ext hx,h1⟩
theorem Held.gives{P:Program}{f:FuncId}{args:List Value}{v:Value}(h:Held S H I)(ht:Gives P f args S v):Tri P f args.toArray H fun e H'=>e=.returned v∧Held S H' I∧PH.le H H':=by
 refine(Gives.up h.sh ht).mono ?_;rintro e H' ⟨h1,h2⟩;exact⟨h1,h.le h2,h2⟩
end
section
variable {α:Type}[Enc α]{S S' H H':PH}{I:List Itm}{e:TypeId}{l:List α}{v:Value}
theorem zzq(l:List α):(l.map pv).flatten=l.flatMap pv:=by rw[List.flatMap_def]
theorem Held.row(h:Held S H I)(hi:orow e l v∈I):Row S H e l v:=by
 obtain⟨xs,h1,h2⟩:=h.at_ _ hi;exact⟨h.off _ hi,xs,by rw[←zlm (f:=pv)];exact h1,by rw[←zzq];exact h2⟩
theorem Row.at_(h:Row S H e l v):(orow e l v).At S H:=by
 obtain⟨xs,h1,h2⟩:=h.own;exact⟨xs,by rw[zlm];exact h1,by rw[zzq];exact h2⟩
theorem Row.held(hS:PH.le S H)(h:Row S H e l v):Held S H [orow e l v]:=
 ⟨hS,fun i hi=>by rw[zsi.1 hi];exact h.at_,fun i hi g hg=>by rw[zsi.1 hi]at hg;exact h.off g hg,List.pairwise_singleton _ _⟩
theorem Held.empty(h:Held S H I)(e:TypeId):Held S H (orow (α:=α) e [] (.slice Option.none 0 0)::I):=
 Held.step (J:=[]) (J':=[orow (α:=α) e [] (.slice Option.none 0 0)]) h (wx _) (fun k o hk _=>hk) (fun k h1 h2=>absurd h1 h2) (Row.held h.sh (Row.nil S H e)) fun j hj g hg=>by rw[zsi.1 hj]at hg;cases hg
theorem Held.went{l':List α}{v':Value}(h:Held S H (orow e l v::I))(hr:Row S H' e l' v')(hS:PH.le S H')(w:Went H H' v v'):Held S H' (orow e l' v'::I):=
 Held.step (J:=[orow e l v]) (J':=[orow e l' v']) h (wx _) (fun k o hk hn=>w.keep k o hk fun e=>hn _ (zsi.2 rfl) e.symm) (fun k h1 h2=>absurd h1 h2) (Row.held hS hr) fun j hj g hg=>by
  rw[zsi.1 hj]at hg;rcases w.fresh g hg with h1|h1
  .exact .inr ⟨_,zsi.2 rfl,h1⟩
  .exact .inl h1
theorem Held.freeze(h:Held S H (orow e l v::I)):∃S',SlR S' l v∧PH.le S S'∧Held S' H I:=by
 obtain⟨S',h1,h2,h3,h4⟩:=(h.row (zms)).freeze h.sh;refine⟨S',h1,h2,?_⟩;have:=Held.step (J:=[orow e l v]) (J':=[]) (I:=I) (H':=H) h h2 (fun k o hk _=>hk) (fun k h5 h6=>.inr ⟨_,zsi.2 rfl,h4 k h5 h6⟩) (Held.nil h3) (fun j hj=>by cases hj);exact this
theorem Held.freezeB{r:Nat}{o:Obj}(h:Held S H (.blk r o::I)):PH.le S (S.upd r o)∧Held (S.upd r o) H I:=by
 have hr:S r=Option.none:=h.off _ (zms) r rfl;have ho:H r=some o:=h.at_ _ (zms);refine⟨PH.le_upd hr,?_⟩;have hle:PH.le (S.upd r o) H:=fun k x hk=>by
  by_cases e:k=r
  .subst e;rw[PH.upd_same]at hk;cases hk;exact ho
  .rw[PH.upd_other e]at hk;exact h.sh k x hk
 have:=Held.step (J:=[.blk r o]) (J':=[]) (I:=I) (H':=H) h (PH.le_upd hr) (fun k o hk _=>hk) (fun k h5 h6=>.inr ⟨_,zsi.2 rfl,by
  by_cases e:k=r
  .rw[e];rfl
  .rw[PH.upd_other e]at h6;exact absurd h5 h6⟩) (Held.nil hle) (fun j hj=>by cases hj)
 exact this
theorem Held.new(h:Held S H I){r:Nat}(hr:H r=Option.none)(o:Obj):Held S (H.upd r o) (.blk r o::I):=by
 refine Held.step (J:=[]) (J':=[.blk r o]) h (wx _) (fun k x hk _=>PH.le_upd hr k x hk) (fun k h1 h2=>absurd h1 h2) ⟨ww h.sh (PH.le_upd hr),fun i hi=>?_,fun i hi g hg=>?_,List.pairwise_singleton _ _⟩ fun j hj g hg=>?_
 .rw[zsi.1 hi];exact PH.upd_same
 .rw[zsi.1 hi]at hg;simp only[Itm.ob,qG]at hg;subst hg;exact PH.none_of_le h.sh hr
 .rw[zsi.1 hj]at hg;simp only[Itm.ob,qG]at hg;subst hg;exact .inl hr
theorem Held.put{r:Nat}{o:Obj}(h:Held S H (.blk r o::I))(o':Obj):Held S (H.upd r o') (.blk r o'::I):=by
 have hr:S r=Option.none:=h.off _ (zms) r rfl;refine Held.step (J:=[.blk r o]) (J':=[.blk r o']) h (wx _) (fun k x hk hn=>by rw[PH.upd_other];exact hk;exact fun e=>hn _ (zsi.2 rfl) (by rw[e];rfl)) (fun k h1 h2=>absurd h1 h2)
  ⟨le_updOff' h.sh hr o',fun i hi=>?_,fun i hi g hg=>?_,List.pairwise_singleton _ _⟩ fun j hj g hg=>?_
 .rw[zsi.1 hi];exact PH.upd_same
 .rw[zsi.1 hi]at hg;simp only[Itm.ob,qG]at hg;subst hg;exact hr
 .rw[zsi.1 hj]at hg;exact .inr ⟨_,zsi.2 rfl,hg⟩
where
 le_updOff' {S H:PH} (h:PH.le S H) {r:Nat} (hr:S r=Option.none) (o:Obj):PH.le S (H.upd r o):=fun k x hk=>by
  by_cases e:k=r
  .subst e;rw[hr]at hk;cases hk
  .rw[PH.upd_other e];exact h k x hk
theorem Held.blk{r:Nat}{o:Obj}(h:Held S H I)(hi:Itm.blk r o∈I):H r=some o:=h.at_ _ hi
variable {P:Program}{X:List PanicEntry→PH→Prop}{β:Type}{E:List Value}{L:LK}{K:β→List Value→PH→LK→Prop}
theorem z0k{T ty:TypeId}{n b:Nat}{ps:Array (Nat×Operand)}{args:List (Nat×VE)}{pend:List (SV×List SV)}{k:Fm β}(vs:List Value)
  (hT:P.underlying T=some (.slice e)) (he:ElemOk P e (sz α) b=true) (hn:l.length=n) (h0:n*sz α≠0) (hle:n*sz α≤2^24) (h:Held S H I)
  (hps:ps.toList.map (fun x=>(x.1,argEv E args x.2))=idxs 0 vs) (hvs:All2 (fun a v=>CsR S a v.cells.toList) l vs) (hp:z0s E H pend)
  (hk:∀v H',Held S H' (orow e l v::I)→PH.le H H'→z0s E H' pend→den P X k (E++[v]) H' L K):den P X (.sem (.buildSlice T n ps) ty args (.sc .sl) pend k) E H L K:=by
 obtain⟨i,z,hi,i1,i2,i3,i4⟩:=ElemOk.info he;obtain⟨hr,hsz,hlen⟩:=zgw hvs;show wpS P (execOp (argEv E args) (bare (.buildSlice T n ps) ty)) _ _ H;rw[z58];have hcs:(vs.flatMap fun v=>v.cells.toList).length=n*sz α:=by
  rw[hr.length,z3e,hn]
 have hcells:((Array.range (n*i.size)).map (z.cells[· % z.cells.size]!)).size=(vs.flatMap fun v=>v.cells.toList).length:=by simp[hcs,i1]
 refine z85 hT hi i3 (by rw[i1];exact h0) (by rw[i1];exact hle) (cells:=(vs.flatMap fun v=>v.cells.toList).toArray) ?_ fun r hr'=>?_
 .have hpl:(ps.map fun(i,x)=>(i,argEv E args x)).toList=idxs 0 vs:=by rw[←hps];simp
  rw[hpl,i1,ze5 vs 0 _ hsz (by simp[i1]at hcells⊢;rw[hlen,hn];omega)];congr 1;rw[Nat.zero_mul];refine zfn ?_;rw[i1]at hcells;exact hcells
 .have hnn:n≤n*sz α:=Nat.le_mul_of_pos_right _ (Nat.pos_of_ne_zero fun h=>h0 (by rw[h];simp));have hle':=PH.le_upd (o:=.cells (vs.flatMap fun v=>v.cells.toList).toArray e (0,0)) hr';have hR:Row S (H.upd r (.cells (vs.flatMap fun v=>v.cells.toList).toArray e (0,0))) e l (.slice (some ⟨r,0,Option.none⟩) n n):=by
   refine⟨fun g hg=>?_,_,⟨by rw[hcs,hn],.inr ⟨r,n,_,by rw[hn],PH.upd_same,om,by simp only[maxLen];omega,by simp only[List.size_toArray];exact hcs,?_⟩⟩,hr⟩
   .simp only[ob,qG]at hg;subst hg;exact PH.none_of_le h.sh hr'
   .rw[List.toList_toArray];exact ztl (by rw[hcs,hn];exact we _)
  refine⟨[_],rfl,rfl,z3h hp hle',hk _ _ ?_ hle' (z3h hp hle')⟩;exact Held.step (J:=[]) (J':=[orow e l (.slice (some ⟨r,0,Option.none⟩) n n)]) h (wx _) (fun k o hk _=>hle' k o hk) (fun k h1 h2=>absurd h1 h2) (Row.held (ww h.sh hle') hR) fun j hj g hg=>by
   rw[zsi.1 hj]at hg;simp only[Itm.ob,ob,qG]at hg;subst hg;exact .inl hr'
theorem zk8{T ty:TypeId}{b:Nat}{args:List (Nat×VE)}{pend:List (SV×List SV)}{k:Fm β}
  (hT:P.underlying T=some (.slice e)) (he:ElemOk P e (sz α) b=true) (h:Held S H I) (hp:z0s E H pend)
  (hk:∀v H',Held S H' (orow (α:=α) e [] v::I)→PH.le H H'→z0s E H' pend→den P X k (E++[v]) H' L K):den P X (.sem (.buildSlice T 0 #[]) ty args (.sc .sl) pend k) E H L K:=by
 refine Z9h (α:=α) hT he h.sh hp fun v H' hr hl hn hp'=>hk v H' ?_ hl hp';exact Held.step (J:=[]) (J':=[orow (α:=α) e [] v]) h (wx _) (fun k o hk _=>hl k o hk) (fun k h1 h2=>absurd h1 h2) (Row.held (ww h.sh hl) hr) fun j hj g hg=>by
  rw[zsi.1 hj]at hg;exact .inl (hn g hg)
theorem z6k{T ty:TypeId}{b:Nat}{x y:Operand}{args:List (Nat×VE)}{pend:List (SV×List SV)}{k:Fm β}{more:List α}{w:Value}
  (hT:P.underlying T=some (.slice e)) (he:ElemOk P e (sz α) b=true) (hx:argEv E args x=v) (hy:argEv E args y=w)
  (h:Held S H (orow e l v::I)) (hw:SrcS S H more w) (h63:l.length+more.length≤maxLen) (hby:(l.length+more.length)*b≤140737488355328)
  (hk:∀v' H',Held S H' (orow e (l++more) v'::I)→Went H H' v v'→z0s E H' pend∧den P X k (E++[v']) H' L K):den P X (.sem (.call ⟨.builtin .append,#[x,y],#[T,T]⟩) ty args (.sc .sl) pend k) E H L K:=
 Z0h hT he hx hy h.sh (h.row (zms)) hw h63 hby fun v' H' hr hw' hs=>hk v' H' (h.went hr hs hw') hw'
theorem z0t{T ty ty2:TypeId}{n b:Nat}{ps:Array (Nat×Operand)}{args args2:List (Nat×VE)}{pend pend2:List (SV×List SV)}{x y:Operand}{k:Fm β}{more:List α}(vs:List Value)
  (hT:P.underlying T=some (.slice e)) (he:ElemOk P e (sz α) b=true) (hn:more.length=n) (h0:n*sz α≠0) (hle:n*sz α≤2^24)
  (h:Held S H (orow e l v::I)) (hps:ps.toList.map (fun x=>(x.1,argEv E args x.2))=idxs 0 vs) (hvs:All2 (fun a v'=>CsR S a v'.cells.toList) more vs) (hp:z0s E H pend)
  (hx:∀u,argEv (E++[u]) args2 x=v) (hy:∀u,argEv (E++[u]) args2 y=u) (h63:l.length+more.length≤maxLen) (hby:(l.length+more.length)*b≤140737488355328)
  (hk:∀u v' S' H',PH.le S S'→Held S' H' (orow e (l++more) v'::I)→z0s (E++[u]) H' pend2∧den P X k (E++[u]++[v']) H' L K) :
  den P X (.sem (.buildSlice T n ps) ty args (.sc .sl) pend (.sem (.call ⟨.builtin .append,#[x,y],#[T,T]⟩) ty2 args2 (.sc .sl) pend2 k)) E H L K:=by
 refine Zei (l:=more) vs hT he hn h0 hle h.sh hps hvs hp fun u S1 H1 hx1 hs1 hp1=>?_;have h1:=h.ext hx1;exact z6k hT he (hx u) (hy u) h1 (hs1.srcS h1.sh) h63 hby fun v' H2 h2 _=>hk u v' S1 H2 hx1.s h2
end
abbrev bx(r:Nat)(T:TypeId)(cs:List Value):Itm:=.blk r (.cells cs.toArray T (0,0))
abbrev pAt(r:Nat):Value:=.pointer (some ⟨r,0,none⟩)
section
variable {P:Program}{X:List PanicEntry→PH→Prop}{β:Type}{E:List Value}{L:LK}{K:β→List Value→PH→LK→Prop}{S H:PH}{I:List Itm}{r:Nat}{T:TypeId}{cs:List Value}
theorem z0r(h:Held S H I)(hi:bx r T cs∈I)(off n:Nat):rowAt H (some ⟨r,off,none⟩) ((cs.drop off).take n):=by
 have hb:=h.blk hi;refine⟨_,rfl,fun i v hi=>?_⟩;rw[Addr.add_plain,PH.cell_at hb];rw[List.getElem?_take]at hi;split at hi
 .rw[List.getElem?_drop]at hi;simpa using hi
 .cases hi
theorem z0p{p:SV}{tags:List Tag}{f:Fm β}{off:Nat}(vs:List Value)(hp:pOf (ev0 E p)=some ⟨r,off,none⟩)(h:Held S H I)(hi:bx r T cs∈I)(hv:(cs.drop off).take vs.length=vs)(ht:z07 tags vs=true)
  (hk:den P X f (E++vs) H L K):den P X (.load p tags f) E H L K:=by
 refine⟨vs,ht,?_,hk⟩;rw[hp,←hv];exact z0r h hi off vs.length
theorem z06{p:SV}{ss:List SV}{f:Fm β}{off:Nat}{vs:List Value}(hp:pOf (ev0 E p)=some ⟨r,off,none⟩)(h:Held S H (bx r T cs::I))(hv:ss.map (ev0 E)=vs)(h1:∀v∈vs,oneC v=true)(hl:off+vs.length≤cs.length)
  (hk:∀H',Held S H' (bx r T (cs.take off++vs++cs.drop (off+vs.length))::I)→den P X f E H' L K):den P X (.store p ss f) E H L K:=by
 refine⟨⟨r,off,none⟩,hp,?_⟩;rw[hv];refine z3a vs off 0 cs.toArray H (h.blk (zms)) (by simpa using hl) h1 (hk _ ?_);have:=h.put (.cells (cs.take off++vs++cs.drop (off+vs.length)).toArray T (0,0));have e:z1b cs.toArray (off+0) vs=(cs.take off++vs++cs.drop (off+vs.length)).toArray:=by
  unfold z1b;simp
 rw[e];exact this
theorem z31{t:TypeId}{ss:List SV}{f:Fm β}{vs:List Value}(h:Held S H I)(hv:ss.map (ev0 E)=vs)
  (hk:∀r H',PH.le H H'→Held S H' (bx r t vs::I)→den P X f (E++[pAt r]) H' L K):den P X (.new t ss f) E H L K:=by
 intro r hr;rw[hv];exact hk r _ (PH.le_upd hr) (h.new hr _)
end
section
variable {P:Program}{α:Type}[Enc α]{S H:PH}{e:TypeId}{l:List α}{v:Value}
theorem Row.putAt{Ψ:Value→PH→Prop}(h:Row S H e l v){i off:Nat}{a a':α}{us:List Value}(hi:l[i]?=some a)(hoff:off+us.length≤sz α)(h1:∀u∈us,oneC u=true)(hu:∀ces,CsR S a ces→CsR S a' (ces.take off++us++ces.drop (off+us.length))):
  ∃ad,(pOf (eltV v (i:Int) (sz α))).map (·.add off)=some ad∧∀{Φ:Unit→PH→Prop},(∀H',Row S H' e (l.set i a') v→Went H H' v v→Φ () H')→wpS P (storeCells ad us) Φ Ψ H:=by
 obtain⟨xs,ho,h2⟩:=h.own;have hil:i<l.length:=by
  rcases Nat.lt_or_ge i l.length with h|h
  .exact h
  .rw[wu h]at hi;cases hi
 rcases ho.2 with⟨rfl,hz⟩|⟨g,cap,cur,rfl,h3,h4,h5,h6,h7⟩
 .omega
 .refine⟨⟨g,i*sz α+off,none⟩,by simp[eltV,pOf,z0b,Addr.add_plain],fun{Φ}hk=>?_⟩;have hb:i*sz α+sz α≤l.length*sz α:=by
   have:(i+1)*sz α≤l.length*sz α:=Nat.mul_le_mul_right _ hil;rw[Nat.add_mul,Nat.one_mul]at this;omega
  have hcap:l.length*sz α≤cap*sz α:=Nat.mul_le_mul_right _ h4;refine z3a us (i*sz α+off) 0 cur H h3 (by simp;omega) h1 (hk _ ?_ ?_)
  .have key:∀(l:List α)(xs:List Value)(i:Nat),PV.RepRow S (l.flatMap pv) xs→l[i]?=some a→PV.RepRow S ((l.set i a').flatMap pv) (xs.take (i*sz α+off)++us++xs.drop (i*sz α+off+us.length)):=by
    intro l
    induction l with
    |nil=>intro xs i _ hi;simp at hi
    |cons b l ih=>
     intro xs i hr hi;rw[qQ]at hr;have hsp:=PV.RepRow.split hr;rw[Enc.len]at hsp;have hl1:(xs.take (sz α)).length=sz α:=by
      have:=hsp.1.length;rwa[Enc.len]at this
     cases i with
     |zero=>
      simp at hi;subst hi;rw[List.set_cons_zero,qQ,Nat.zero_mul,wo];have e1:xs.take off++us++xs.drop (off+us.length)=((xs.take (sz α)).take off++us++(xs.take (sz α)).drop (off+us.length))++xs.drop (sz α):=by
       rw[List.take_take,Nat.min_eq_left om,zaa,zaa,zaa];congr 2
       conv=>lhs;rw[←List.take_append_drop (sz α) xs]
       rw[List.drop_append_of_le_length (by rw[hl1];exact hoff)]
      rw[e1];exact PV.RepRow.append (hu _ hsp.1) hsp.2
     |succ i=>
      rw[List.set_cons_succ,qQ];have:=ih _ i hsp.2 (by simpa using hi);have e1:xs.take ((i+1)*sz α+off)++us++xs.drop ((i+1)*sz α+off+us.length)=xs.take (sz α)++((xs.drop (sz α)).take (i*sz α+off)++us++(xs.drop (sz α)).drop (i*sz α+off+us.length)):=by
       rw[show(i+1)*sz α+off=sz α+(i*sz α+off) by rw[Nat.add_mul,Nat.one_mul];omega,List.take_add,List.drop_drop,zaa,zaa,zaa,Nat.add_assoc (sz α)]
      rw[e1];exact PV.RepRow.append hsp.1 this
   have hk2:=key l xs i h2 hi;refine⟨h.off,xs.take (i*sz α+off)++us++xs.drop (i*sz α+off+us.length),⟨?_,.inr ⟨g,cap,z1b cur (i*sz α+off+0) us,by rw[List.length_set],PH.upd_same,by rw[List.length_set];exact h4,h5,by rw[zdw (by simp;omega)];exact h6,?_⟩⟩,hk2⟩
   .rw[hk2.length,z3e]
   .rw[List.length_set,Nat.add_zero,←h7];unfold z1b;simp only[List.toList_toArray];have e2:(cur.toList.take (i*sz α+off)).length=i*sz α+off:=by rw[List.length_take,Array.length_toList];omega
    have hle:i*sz α+off≤l.length*sz α:=om;rw[List.take_append,List.take_append,List.drop_take,zla,e2,List.take_take,List.take_take,Nat.min_eq_right hle,Nat.min_eq_left hle,ztl (l:=us) om]
  .exact⟨fun k o hk hn=>by rw[PH.upd_other fun e=>hn (by rw[e];rfl)];exact hk,fun k hk=>.inl hk⟩
variable {X:List PanicEntry→PH→Prop}{β:Type}{E:List Value}{L:LK}{K:β→List Value→PH→LK→Prop}{I:List Itm}
theorem Zkf{p:SV}{ss:List SV}{f:Fm β}{i off:Nat}{a a':α}{us:List Value}(hp:pOf (ev0 E p)=(pOf (eltV v (i:Int) (sz α))).map (·.add off))(h:Held S H (orow e l v::I))(hi:l[i]?=some a)(hoff:off+us.length≤sz α)(hv:ss.map (ev0 E)=us)(h1:∀u∈us,oneC u=true)
  (hu:∀ces,CsR S a ces→CsR S a' (ces.take off++us++ces.drop (off+us.length)))
  (hk:∀H',Held S H' (orow e (l.set i a') v::I)→den P X f E H' L K):den P X (.store p ss f) E H L K:=by
 obtain⟨ad,h2,h3⟩:=(h.row (zms)).putAt (P:=P) (Ψ:=fun _ _=>False) hi hoff h1 hu;refine⟨ad,hp.trans h2,?_⟩;rw[hv];refine h3 fun H' hr hw=>hk H' (h.went hr ?_ hw);intro k o hk;refine hw.keep k o (h.sh k o hk) fun hob=>?_;have:=h.off _ (zms) k (show Vc.ob v=some k from hob.symm);rw[this]at hk;cases hk
end
section
variable {P:Program}{Φ:Value→PH→Prop}{Ψ:Value→PH→Prop}{H:PH}
end
section
variable {P:Program}{X:List PanicEntry→PH→Prop}{β:Type}{E:List Value}{L:LK}{K:β→List Value→PH→LK→Prop}{S H:PH}{I:List Itm}{e:TypeId}
variable {α:Type}[Enc α]
end
theorem z1i{α:Type}[Enc α]{P:Program}{X:List PanicEntry→PH→Prop}{β:Type}{E:List Value}{H S:PH}{L:LK}{K:β→List Value→PH→LK→Prop}{I:List Itm}{e:TypeId}{l:List α}{v:Value}{p:SV}{ss:List SV}{f:Fm β}{i:Nat}{a a':α}{us:List Value}(hp:pOf (ev0 E p)=pOf (eltV v (i:Int) (sz α)))(h:Held S H (orow e l v::I))(hi:l[i]?=some a)(hs:us.length=sz α)(hv:ss.map (ev0 E)=us)(h1:∀u∈us,oneC u=true)
  (hu:CsR S a' us)
  (hk:∀H',Held S H' (orow e (l.set i a') v::I)→den P X f E H' L K):den P X (.store p ss f) E H L K:=by
 refine Zkf (off:=0) (a':=a') ?_ h hi om hv h1 (fun ces hc=>?_) hk
 .rw[hp];cases pOf (eltV v (i:Int) (sz α))with
  |none=>rfl
  |some x=>simp[Addr.add_zero]
 .have hl:ces.length=sz α:=by
   have:=PV.RepRow.length hc;rw[Enc.len]at this;exact this
  rw[List.take_zero,List.nil_append,wo,hs,List.drop_of_length_le om,zan];exact hu
section
variable {P:Program}{Ψ:Value→PH→Prop}{H:PH}{ρ:Operand→Value}
theorem Z28{k:IntKind}{n:Int}{Φ:Int→PH→Prop}:wpS P (asInt (.int k n)) Φ Ψ H=Φ n H:=rfl
theorem Zmw(z0:Value)(n:Nat):((Array.range n).map ((#[z0]:Array Value)[· % 1]!))=(List.replicate n z0).toArray:=by
 apply Array.ext';rw[Array.toList_map,Array.toList_range];refine List.ext_getElem? fun i=>?_;rw[zem,List.getElem?_replicate];by_cases hi:i<n
 .rw[List.getElem?_range hi,qj hi];simp[Nat.mod_one]
 .rw[wu (by rw[wh];omega),qc hi];rfl
theorem zzh{t e:TypeId}{i:TypeInfo}{z0 z:Value}(ht:P.underlying t=some (.slice e))(hi:P.info? e=some i)(hz:i.zero=some z)(hc:z.cells=#[z0])(hs:i.size=1){n:Nat}(hn:n≤maxLen)(hb:n*i.bytes≤140737488355328){Φ:Value→PH→Prop}
  (hk:∀r,H r=none→Φ (.slice (some ⟨r,0,none⟩) n n) (H.upd r (.cells (List.replicate n z0).toArray e))):wpS P (Instr.makeSlice t (.int .i64 (n:Int)) (.int .i64 (n:Int))) Φ Ψ H:=by
 unfold Instr.makeSlice;simp only[maxLen]at hn;have hw:IntKind.i64.wrap (n:Int)=(n:Int):=w64 om om;have hbb:(i.bytes:Int)*(n:Int)≤140737488355328:=by
  have:((n*i.bytes:Nat):Int)≤140737488355328:=om;rw[Int.natCast_mul,Int.mul_comm]at this;exact this
 have h1:¬((i.bytes:Int)*(n:Int)>2^48):=by
  intro h;have:(2:Int)^48=281474976710656:=dC;omega
 have h2:¬((n:Int)<0):=om;simp only[z04,z08 ht,Z28,z7g hi,hw,h1,h2,gt_iff_lt,Int.lt_irrefl,decide_false,Bool.or_self,qp,if_false,zll,z2v hi,qN,hs,Nat.mul_one];by_cases h0:n=0
 .subst h0;simp only[if_true,z0i,z04,z6i];intro r hr;have:=hk r hr;rw[show Array.range 0=#[] by apply Array.ext';simp];simpa using this
 .simp only[qc h0,z04,z4y hi hz,z0i,z6i,hc];intro r hr;have:=hk r hr;rw[←Zmw]at this;exact this
theorem zmt{T ty:TypeId}{x y:Operand}{Φ:Next→PH→Prop}:wpS P (execOp ρ (bare (.makeSlice T x y) ty)) Φ Ψ H=wpS P (Instr.makeSlice T (ρ x) (ρ y)) (fun v H'=>Φ (.value v) H') Ψ H:=by
 simp only[execOp,bare,z04,z0i]
def OneOk(P:Program)(e:TypeId)(b:Nat)(z0:Value):Prop:=∃i z,P.info? e=some i∧i.zero=some z∧z.cells=#[z0]∧i.size=1∧i.bytes=b
theorem OneOk.of{e:TypeId}{b:Nat}{z0:Value}(h:(P.info? e).map (fun i=>(i.zero,i.size,i.bytes))=some (some z0,1,b))(hz:z0.cells=#[z0]):OneOk P e b z0:=by
 obtain⟨i,hi,h2⟩:=qR.1 h;simp only[Prod.mk.injEq]at h2;exact⟨i,z0,hi,h2.1,hz,h2.2.1,h2.2.2⟩
end
section
variable {P:Program}{X:List PanicEntry→PH→Prop}{β:Type}{E:List Value}{H S:PH}{L:LK}{K:β→List Value→PH→LK→Prop}{I:List Itm}{e:TypeId}
theorem zhy{T ty:TypeId}{b:Nat}{z0:Value}{x y:Operand}{args:List (Nat×VE)}{k:Fm β}{n:Nat}(hT:P.underlying T=some (.slice e))(ho:OneOk P e b z0)(hx:argEv E args x=.int .i64 (n:Int))(hy:argEv E args y=.int .i64 (n:Int))(hn:n≤maxLen)(hb:n*b≤140737488355328)(h:Held S H I)
  (hk:∀r H',Held S H' (.raw e 1 (List.replicate n z0) n (.slice (some ⟨r,0,none⟩) n n)::I)→PH.le H H'→den P X k (E++[.slice (some ⟨r,0,none⟩) n n]) H' L K):den P X (.sem (.makeSlice T x y) ty args (.sc .sl) [] k) E H L K:=by
 obtain⟨i,z,hi,hz,hc,hs,hbb⟩:=ho;show wpS P (execOp (argEv E args) (bare (.makeSlice T x y) ty)) _ _ H;rw[zmt,hx,hy];refine zzh hT hi hz hc hs hn (by rw[hbb];exact hb) fun r hr=>?_;have hle:=PH.le_upd (o:=.cells (List.replicate n z0).toArray e (0,0)) hr;refine⟨[_],rfl,rfl,z01,hk r _ ?_ hle⟩;refine Held.step (J:=[]) (J':=[_]) h (wx _) (fun k o hk _=>hle k o hk) (fun k h1 h2=>absurd h1 h2) ⟨ww h.sh hle,fun j hj=>?_,fun j hj g hg=>?_,List.pairwise_singleton _ _⟩ fun j hj g hg=>?_
 .rw[zsi.1 hj];refine⟨sM,.inr ⟨r,n,_,rfl,PH.upd_same,we _,hn,sM,?_⟩⟩;rw[List.toList_toArray,Nat.mul_one,ztl sM]
 .rw[zsi.1 hj]at hg;simp only[Itm.ob,ob,qG]at hg;subst hg;exact PH.none_of_le h.sh hr
 .rw[zsi.1 hj]at hg;simp only[Itm.ob,ob,qG]at hg;subst hg;exact .inl hr
theorem Z5k{α:Type}[Enc α]{a:α}{z0:Value}{n:Nat}{v:Value}(hsz:sz α=1)(hz:∀S:PH,CsR S a [z0])(h:Held S H (.raw e 1 (List.replicate n z0) n v::I)):Held S H (orow e (List.replicate n a) v::I):=by
 have hob:(Itm.raw e 1 (List.replicate n z0) n v).ob=(orow e (List.replicate n a) v).ob:=rfl;refine⟨h.sh,fun i hi=>?_,fun i hi=>?_,?_⟩
 .rcases zmc.1 hi with rfl|hi
  .have h1:Own H e 1 v n (List.replicate n z0):=h.at_ _ (zms);refine⟨List.replicate n z0,?_,?_⟩
   .rw[hsz,zlm,wi];exact h1
   .rw[zzq];clear h1 h hob hi
    induction n with
    |zero=>simp[PV.RepRow]
    |succ n ih=>rw[List.replicate_succ,List.replicate_succ,qQ];exact PV.RepRow.append (cs:=[z0]) (hz S) ih
  .exact h.at_ _ (zmm _ hi)
 .rcases zmc.1 hi with rfl|hi
  .intro g hg;exact h.off _ (zms) g (by rw[hob];exact hg)
  .exact h.off _ (zmm _ hi)
 .have:=List.pairwise_cons.1 h.nd;exact List.pairwise_cons.2 ⟨fun b hb g hg=>this.1 b hb g (by rw[hob];exact hg),this.2⟩
theorem z55{α:Type}[Enc α]{T ty:TypeId}{b:Nat}{z0:Value}{x y:Operand}{args:List (Nat×VE)}{k:Fm β}{n:Nat}(a:α)(hsz:sz α=1)(hza:∀S:PH,CsR S a [z0])(hT:P.underlying T=some (.slice e))(ho:OneOk P e b z0)(hx:argEv E args x=.int .i64 (n:Int))(hy:argEv E args y=.int .i64 (n:Int))(hn:n≤maxLen)(hb:n*b≤140737488355328)(h:Held S H I)
  (hk:∀v H',Held S H' (orow e (List.replicate n a) v::I)→PH.le H H'→den P X k (E++[v]) H' L K):den P X (.sem (.makeSlice T x y) ty args (.sc .sl) [] k) E H L K:=
 zhy hT ho hx hy hn hb h fun r H' h' hl=>hk _ H' (Z5k hsz hza h') hl
end
section
variable {P:Program}{Ψ:Value→PH→Prop}{H:PH}{ρ:Operand→Value}
theorem Znf(zs:List Value)(h0:zs≠[])(n:Nat):((Array.range (n*zs.length)).map (zs.toArray[· % zs.length]!))=((List.replicate n zs).flatten).toArray:=by
 have hp:0<zs.length:=by cases zs with
  |nil=>exact absurd rfl h0
  |cons a l=>simp
 apply Array.ext';rw[Array.toList_map,Array.toList_range,List.toList_toArray]
 induction n with
 |zero=>simp
 |succ n ih=>
  rw[List.replicate_succ',List.flatten_append,←ih,Nat.add_mul,Nat.one_mul,List.range_add,List.map_append];congr 1;simp only[List.flatten_cons,List.flatten_nil,zan,List.map_map];refine List.ext_getElem? fun i=>?_;rw[zem];by_cases hi:i<zs.length
  .rw[List.getElem?_range hi];simp only[Option.map_some,Function.comp,Nat.mul_add_mod_self_right,Nat.mod_eq_of_lt hi];rw[zge hi];simp[hi]
  .rw[wu (by rw[wh];omega),wu om];rfl
theorem zzu{t e:TypeId}{i:TypeInfo}{zs:List Value}{z:Value}(ht:P.underlying t=some (.slice e))(hi:P.info? e=some i)(hz:i.zero=some z)(hc:z.cells=zs.toArray)(hs:i.size=zs.length)(h0:zs≠[]){n:Nat}(hn:n≤maxLen)(hb:n*i.bytes≤140737488355328){Φ:Value→PH→Prop}
  (hk:∀r,H r=none→Φ (.slice (some ⟨r,0,none⟩) n n) (H.upd r (.cells ((List.replicate n zs).flatten).toArray e))):wpS P (Instr.makeSlice t (.int .i64 (n:Int)) (.int .i64 (n:Int))) Φ Ψ H:=by
 unfold Instr.makeSlice;simp only[maxLen]at hn;have hw:IntKind.i64.wrap (n:Int)=(n:Int):=w64 om om;have hbb:(i.bytes:Int)*(n:Int)≤140737488355328:=by
  have:((n*i.bytes:Nat):Int)≤140737488355328:=om;rw[Int.natCast_mul,Int.mul_comm]at this;exact this
 have h1:¬((i.bytes:Int)*(n:Int)>2^48):=by
  intro h;have:(2:Int)^48=281474976710656:=dC;omega
 have h2:¬((n:Int)<0):=om;simp only[z04,z08 ht,Z28,z7g hi,hw,h1,h2,gt_iff_lt,Int.lt_irrefl,decide_false,Bool.or_self,qp,if_false,zll,z2v hi,qN];by_cases hn0:n=0
 .subst hn0;rw[qj (Nat.zero_mul _)];simp only[z0i,z04,z6i];intro r hr;have:=hk r hr;rw[Nat.zero_mul,show Array.range 0=#[] by apply Array.ext';simp];simpa using this
 .have hp:0<zs.length:=by cases zs with
   |nil=>exact absurd rfl h0
   |cons a l=>simp
  have hns:¬(n*i.size=0):=by rw[hs];exact Nat.ne_of_gt (Nat.mul_pos om hp)
  rw[qc hns];simp only[z04,z4y hi hz,z0i,z6i,hc];intro r hr;have:=hk r hr;rw[←Znf zs h0]at this;simpa[hs]using this
def ManyOk(P:Program)(e:TypeId)(b:Nat)(zs:List Value):Prop:=∃i z,P.info? e=some i∧i.zero=some z∧z.cells=zs.toArray∧i.size=zs.length∧i.bytes=b
theorem ManyOk.of{e:TypeId}{b:Nat}{z:Value}{zs:List Value}(h:(P.info? e).map (fun i=>(i.zero,i.size,i.bytes))=some (some z,zs.length,b))(hz:z.cells=zs.toArray):ManyOk P e b zs:=by
 obtain⟨i,hi,h2⟩:=qR.1 h;simp only[Prod.mk.injEq]at h2;exact⟨i,z,hi,h2.1,hz,h2.2.1,h2.2.2⟩
end
section
variable {P:Program}{X:List PanicEntry→PH→Prop}{β:Type}{E:List Value}{H S:PH}{L:LK}{K:β→List Value→PH→LK→Prop}{I:List Itm}{e:TypeId}
theorem Zdr{α:Type}[Enc α]{T ty:TypeId}{b:Nat}{zs:List Value}{x y:Operand}{args:List (Nat×VE)}{k:Fm β}{n:Nat}(a:α)(hza:∀S:PH,CsR S a zs)(h0:zs≠[])(hT:P.underlying T=some (.slice e))(ho:ManyOk P e b zs)(hx:argEv E args x=.int .i64 (n:Int))(hy:argEv E args y=.int .i64 (n:Int))(hn:n≤maxLen)(hb:n*b≤140737488355328)(h:Held S H I)
  (hk:∀v H',Held S H' (orow e (List.replicate n a) v::I)→PH.le H H'→den P X k (E++[v]) H' L K):den P X (.sem (.makeSlice T x y) ty args (.sc .sl) [] k) E H L K:=by
 obtain⟨i,z,hi,hz,hc,hs,hbb⟩:=ho;have hzl:zs.length=sz α:=by
  have:=(hza S).length;rwa[Enc.len]at this
 show wpS P (execOp (argEv E args) (bare (.makeSlice T x y) ty)) _ _ H;rw[zmt,hx,hy];refine zzu hT hi hz hc hs h0 hn (by rw[hbb];exact hb) fun r hr=>?_;have hle:=PH.le_upd (o:=.cells ((List.replicate n zs).flatten).toArray e (0,0)) hr;refine⟨[_],rfl,rfl,z01,hk _ _ ?_ hle⟩;have hlen:∀n:Nat,((List.replicate n zs).flatten).length=n*sz α:=fun n=>by
  induction n with
  |zero=>simp
  |succ n ih=>rw[List.replicate_succ,List.flatten_cons,zla,ih,hzl,Nat.add_mul];omega
 have hR:Row S (H.upd r (.cells ((List.replicate n zs).flatten).toArray e (0,0))) e (List.replicate n a) (.slice (some ⟨r,0,none⟩) n n):=by
  refine⟨fun g hg=>?_,(List.replicate n zs).flatten,⟨by rw[hlen,wi],.inr ⟨r,n,_,by rw[wi],PH.upd_same,by rw[wi];exact we _,hn,by rw[List.size_toArray,hlen],?_⟩⟩,?_⟩
  .simp only[ob,qG]at hg;subst hg;exact PH.none_of_le h.sh hr
  .rw[List.toList_toArray,wi,ztl (by rw[hlen];exact we _)]
  .clear hk hle hr hn hb hx hy
   induction n with
   |zero=>simp[PV.RepRow]
   |succ n ih=>rw[List.replicate_succ,List.replicate_succ,qQ,List.flatten_cons];exact PV.RepRow.append (hza S) ih
 exact Held.step (J:=[]) (J':=[orow e (List.replicate n a) (.slice (some ⟨r,0,none⟩) n n)]) h (wx _) (fun k o hk _=>hle k o hk) (fun k h1 h2=>absurd h1 h2) (Row.held (ww h.sh hle) hR) fun j hj g hg=>by
  rw[zsi.1 hj]at hg;simp only[Itm.ob,ob,qG]at hg;subst hg;exact .inl hr
theorem Zdl{ρ:Operand→Value}{Ψ:Value→PH→Prop}{x y:Operand}{ts:Array TypeId}{ty:TypeId}{Φ:Next→PH→Prop}:wpS P (execOp ρ (bare (.call ⟨.builtin .copy,#[x,y],ts⟩) ty)) Φ Ψ H=wpS P (Builtin.copy_ ts ty #[ρ x,ρ y]) (fun v H'=>Φ (.value v) H') Ψ H:=by
 simp only[execOp,bare,resolve,z04,z0i];simp only[invoke,List.map_toArray,wa,List.map_nil,builtin,z04,z0i]
theorem Z6g{α:Type}[Enc α]:∀(k:Nat)(l:List α)(xs:List Value),PV.RepRow S (l.flatMap pv) xs→PV.RepRow S ((l.drop k).flatMap pv) (xs.drop (k*sz α))
 |0,l,xs,h=>by simpa using h
 |k+1,[],xs,h=>by
  simp only[List.flatMap_nil,PV.RepRow]at h;subst h;simp[PV.RepRow]
 |k+1,a::l,xs,h=>by
  rw[qQ]at h;have hsp:=PV.RepRow.split h;rw[Enc.len]at hsp;have:=Z6g k l _ hsp.2;rw[List.drop_succ_cons,Nat.add_mul,Nat.one_mul,Nat.add_comm (k*sz α),←List.drop_drop];exact this
theorem Zgz{α:Type}[Enc α]{T T2 ty:TypeId}{b:Nat}{x y:Operand}{args:List (Nat×VE)}{k:Fm β}{l more:List α}{v w:Value}(hT:P.underlying T=some (.slice e))(he:ElemOk P e (sz α) b=true)(hx:argEv E args x=v)(hy:argEv E args y=w)
  (h:Held S H (orow e l v::I)) (hw:SlR S more w) (hl:more.length≤l.length)
  (hk:∀H',Held S H' (orow e (more++l.drop more.length) v::I)→den P X k (E++[.int .i64 (more.length:Int)]) H' L K):den P X (.sem (.call ⟨.builtin .copy,#[x,y],#[T,T2]⟩) ty args (.sc (.int .i64)) [] k) E H L K:=by
 obtain⟨i,z,hi,i1,i2,i3,i4⟩:=ElemOk.info he;obtain⟨news,hn,hsrc⟩:=hw.srcS h.sh;have hr:=h.row (zms);obtain⟨xs,ho,hxs⟩:=hr.own;have hnl:news.length=more.length*sz α:=by rw[hn.length,z3e]
 obtain⟨wb,wc,hwv⟩:=hw.sl;show wpS P (execOp (argEv E args) (bare _ ty)) _ _ H;rw[Zdl,hx,hy];subst hwv;rcases ho.2 with⟨rfl,hz⟩|⟨g,cap,cur,rfl,h3,h4,h5,h6,h7⟩
 .have hm0:more=[]:=qV.1 om;subst hm0;unfold Builtin.copy_;simp only[List.getElem?_toArray,List.getElem?_cons_zero,List.getElem?_cons_succ,z04,z08 hT];show wpS P (Builtin.lenOf (.slice wb 0 wc)) _ _ H;show wpS P (sizeOf e) _ _ H;rw[z2v hi];have e0:Nat.min 0 0=0:=rfl;have hH:Held S H (orow e ([]++l.drop ([]:List α).length) (.slice none 0 0)::I):=by simpa using h
  cases wb with
  |none=>exact⟨[_],rfl,rfl,z01,hk H hH⟩
  |some a=>
   show wpS P (loadCells a (Nat.min 0 0*i.size)) _ _ H;refine z6p (vs:=[]) (by simp[e0]) (fun i v hi=>by simp at hi) ?_;exact⟨[_],rfl,rfl,z01,hk H hH⟩
 .have hlc:l.length*sz α≤cap*sz α:=Nat.mul_le_mul_right _ h4;have hml:more.length*sz α≤l.length*sz α:=Nat.mul_le_mul_right _ hl;have hxl:xs.length=l.length*sz α:=ho.1;unfold Builtin.copy_;simp only[List.getElem?_toArray,List.getElem?_cons_zero,List.getElem?_cons_succ,z04,z08 hT];show wpS P (Builtin.lenOf (.slice wb more.length wc)) _ _ H;show wpS P (sizeOf e) _ _ H;rw[z2v hi,i1];have hmin:Nat.min more.length l.length=more.length:=Nat.min_eq_left hl;have hfirst:∀{Φ:Array Value→PH→Prop} {Ψ:Value→PH→Prop},Φ news.toArray H→wpS P (Builtin.firstCells (sz α) (Nat.min more.length l.length) (.slice wb more.length wc)) Φ Ψ H:=by
   intro Φ Ψ hΦ;rw[hmin];rcases hsrc with⟨bb,c,hv,hcell⟩|⟨hv,hm0,hn0⟩|⟨s,hv,_⟩
   .simp only[Value.slice.injEq]at hv;obtain⟨rfl,_,_⟩:=hv;exact z6p (vs:=news) hnl hcell hΦ
   .simp only[Value.slice.injEq]at hv;obtain⟨rfl,_,_⟩:=hv;rw[hn0]at hΦ;exact hΦ
   .cases hv
  refine hfirst ?_;have hone:∀u∈news,oneC u=true:=hn.oneC;refine z3a news 0 0 cur H h3 om hone ?_;have hR:Row S (H.upd g (.cells (z1b cur (0+0) news) e (0,0))) e (more++l.drop more.length) (.slice (some ⟨g,0,none⟩) l.length cap):=by
   have hll:(more++l.drop more.length).length=l.length:=by rw[zla,List.length_drop];omega
   have hrep:PV.RepRow S ((more++l.drop more.length).flatMap pv) (news++xs.drop (more.length*sz α)):=by
    rw[List.flatMap_append];exact PV.RepRow.append hn (Z6g more.length l xs hxs)
   refine⟨hr.off,news++xs.drop (more.length*sz α),⟨?_,.inr ⟨g,cap,_,by rw[hll],PH.upd_same,by rw[hll];exact h4,h5,by rw[zdw om];exact h6,?_⟩⟩,hrep⟩
   .rw[hrep.length,z3e]
   .rw[hll,←h7];unfold z1b;simp only[List.toList_toArray,wo,Nat.add_zero,List.take_zero,List.nil_append];rw[List.take_append,hnl,ztl om,List.drop_take]
  have hW:Went H (H.upd g (.cells (z1b cur (0+0) news) e (0,0))) (.slice (some ⟨g,0,none⟩) l.length cap) (.slice (some ⟨g,0,none⟩) l.length cap):=⟨fun k o hk hn=>by rw[PH.upd_other fun e=>hn (by rw[e];rfl)];exact hk,fun k hk=>.inl hk⟩;have hS:PH.le S (H.upd g (.cells (z1b cur (0+0) news) e (0,0))):=by
   intro k o hk;refine hW.keep k o (h.sh k o hk) fun hob=>?_;have:=hr.off k (show Vc.ob _=some k from hob.symm);rw[this]at hk;cases hk
  refine⟨[.int .i64 (more.length:Int)],rfl,?_,z01,?_⟩
  .show _=Value.int .i64 _;rw[hmin];rfl
  .exact hk _ (h.went hR hS hW)
end
