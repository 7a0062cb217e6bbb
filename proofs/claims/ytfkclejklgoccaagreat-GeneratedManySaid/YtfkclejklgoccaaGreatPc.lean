import Derived.Test.YtfkclejklgoccaaGreatPb
import Derived.RangeFuncLeaves
import Derived.RangeFuncSeq
set_option linter.unusedSimpArgs false
set_option linter.unusedVariables false
set_option maxRecDepth 100000
namespace Go.Proofs.YtfkclejklgoccaaGreat.Vc
open Go
def rowAt(H:PH)(p:Option Addr)(vs:List Value):Prop:=∃a,p=some a∧∀i v,vs[i]?=some v→H.cell? (a.add i)=some v
def zro(P:Program)(f:FuncId):Prop:=∀args w,(callFunc f args).run P w=.ok (.enter f args) w
def z0s(E:List Value)(H:PH)(pend:List (SV×List SV)):Prop:=∀x∈pend,rowAt H (pOf (ev0 E x.1)) (x.2.map (ev0 E))
def argEv(E:List Value)(args:List (Nat×VE)):Operand→Value
 | .tmp t=>match args.lookup t with
  |some v=>evV E (fun _=>0) v
  |none=>undef
 | .const v=>v
 | .global g=>.pointer (some ⟨g,0,none⟩)
 | .func f=>.func (.func f) #[] #[]
def bare (o : Op) (ty : TypeId) : Oper := ⟨none, o, ty, "", #[], none⟩
def zvz(X:List PanicEntry→PH→Prop)(rs:RS)(pend:List (SV×List SV))(E:List Value)(k:List Value→PH→Prop):Ending→PH→Prop
 | .returned v,H'=>∃vs,z07 rs.tags vs=true∧v=rs.pack vs∧z0s E H' pend∧k (E++vs) H'
 | .panicked c,H'=>X c H'
 | .outgrown,_=>False
def Z7w(rs:RS)(pend:List (SV×List SV))(E:List Value)(k:List Value→PH→Prop):Next→PH→Prop
 | .value v,H'=>∃vs,z07 rs.tags vs=true∧v=rs.pack vs∧z0s E H' pend∧k (E++vs) H'
 | .skip,H'=>rs.tags=[]∧undef=rs.pack []∧z0s E H' pend∧k (E++[]) H'
 |_,_=>False
def Z0r(r1 r2:RS)(E:List Value)(k1 k2:List Value→PH→Prop):Next→PH→Prop
 | .value v,H'=>(∃vs,z07 r1.tags vs=true∧v=r1.pack vs∧k1 (E++vs) H')∨(∃vs,z07 r2.tags vs=true∧v=r2.pack vs∧k2 (E++vs) H')
 |_,_=>False
abbrev LK:=List (Nat×(List Value→PH→Prop))
def Iter(P:Program)(gv:Value)(S:PH)(n:Nat)(xs:Nat→List Value):Prop:=
 ∃gf lb,gv=.func (.func gf) #[] lb∧zro P gf∧∀(l:Nat)(I:Nat→PH→Prop)(H:PH)(W:World),PH.le S H→(∀j H',I j H'→PH.le S H')→Vis H W →
  (∀j H' W',j<n→I j H'→Adv H W H' W'→∀m,YieldAt Fence.wide m P l (xs j).toArray W' fun e W''=>e=.returned (.bool true)∧∃H'',Adv H' W' H'' W''∧I (j+1) H'')→I 0 H →
  Calls P gf (#[.func (.yield l) #[] #[]]++lb) W fun e W'=>(∃v,e=.returned v)∧∃H',Adv H W H' W'∧I n H'
def den(P:Program)(X:List PanicEntry→PH→Prop){α:Type}:Fm α→List Value→PH→LK→(α→List Value→PH→LK→Prop)→Prop
 | .leaf x,E,H,L,K=>K x E H L
 | .fail _,_,_,_,_=>False
 | .ite c a b,E,H,L,K=>(bOf (ev0 E c)=true→den P X a E H L K)∧(bOf (ev0 E c)=false→den P X b E H L K)
 | .chk g c k,E,H,L,K=>(Guard.holds E (fun _=>0) g→c.holds E)∧den P X k E H L K
 | .call f args rs pend k,E,H,L,K=>
  match f with
  | .fn fid=>zro P fid∧Tri P fid (args.map (evV E fun _=>0)).toArray H (zvz X rs pend E fun E' H'=>den P X k E' H' L K)
  |f=>∃fid first capt,ev0 E f=.func (.func fid) first capt∧zro P fid∧Tri P fid (first++(args.map (evV E fun _=>0)).toArray++capt) H (zvz X rs pend E fun E' H'=>den P X k E' H' L K)
 | .load p tags k,E,H,L,K=>∃vs,z07 tags vs=true∧rowAt H (pOf (ev0 E p)) vs∧den P X k (E++vs) H L K
 | .store p cs k,E,H,L,K=>∃a,pOf (ev0 E p)=some a∧wpS P (storeCells a (cs.map (ev0 E))) (fun _ H'=>den P X k E H' L K) (fun _ _=>False) H
 | .new t cs k,E,H,L,K=>∀r,H r=none→den P X k (E++[.pointer (some ⟨r,0,none⟩)]) (H.upd r (.cells (cs.map (ev0 E)).toArray t)) L K
 | .sem o ty args rs pend k,E,H,L,K=>wpS P (execOp (argEv E args) (bare o ty)) (Z7w rs pend E fun E' H'=>den P X k E' H' L K) (fun v H'=>X [{ v,recovered:=false }] H') H
 | .alt o ty args r1 r2 k1 k2,E,H,L,K=>wpS P (execOp (argEv E args) (bare o ty)) (Z0r r1 r2 E (fun E' H'=>den P X k1 E' H' L K) fun E' H'=>den P X k2 E' H' L K) (fun v H'=>X [{ v,recovered:=false }] H') H
 | .loop id tags init body,E,H,L,K=>∃I:Nat→List Value→PH→Prop,(∃n,I n (init.map (ev0 E)) H) ∧
   ∀n vs H',z07 tags vs=true→I n vs H'→den P X body (E++vs) H' ((id,fun vs' H''=>∃m,m<n∧I m vs' H'')::L) K
 | .join id tags rest main,E,H,L,K=>∃J:List Value→PH→Prop,(∀vs H',z07 tags vs=true→J vs H'→den P X rest (E++vs) H' L K)∧den P X main E H ((id,J)::L) K
 | .next id vs,E,H,L,_=>∃J,L.lookup id=some J∧J (vs.map (ev0 E)) H
 | .both a b,E,H,L,K=>den P X a E H L K∧den P X b E H L K
 | .hold pend k,E,H,L,K=>z0s E H pend∧den P X k E H L K
 | .far id g rs body k,E,H,L,K=>∃(S:PH)(n:Nat)(xs:Nat→List Value)(I:Nat→PH→Prop),PH.le S H∧Iter P (ev0 E g) S n (fun j=>z19 rs (xs j))∧(∀j H',I j H'→PH.le S H')∧I 0 H ∧
   (∀j H',j<n→I j H'→z07 (rs.flatMap RS.tags) (xs j)=true∧den P (fun _ _=>False) body (E++xs j) H' [(id,fun _ H''=>I (j+1) H'')] (fun _ _ _ _=>False))∧∀H',I n H'→den P X k E H' L K
theorem Z21{P:Program}{α:Type}(t:Fm α):∀{β:Type} (f:α→Fm β) (K:β→List Value→PH→LK→Prop) (X:List PanicEntry→PH→Prop) (E:List Value) (H:PH) (L:LK),
  den P X (t.bind f) E H L K=den P X t E H L fun x E' H' L'=>den P X (f x) E' H' L' K:=by
 induction t with
 |leaf x=>intro β f K X E H L;rfl
 |fail w=>intro β f K X E H L;rfl
 |ite c a b iha ihb=>intro β f K X E H L;simp only[Fm.bind,den,iha,ihb]
 |chk g c k ih=>intro β f K X E H L;simp only[Fm.bind,den,ih]
 |call g args rs pend k ih=>
  intro β f K X E H L;cases g<;>simp only[Fm.bind,den,ih]
 |load p tags k ih=>intro β f K X E H L;simp only[Fm.bind,den,ih]
 |store p cs k ih=>intro β f K X E H L;simp only[Fm.bind,den,ih]
 |new t cs k ih=>intro β f K X E H L;simp only[Fm.bind,den,ih]
 |sem o ty args rs pend k ih=>intro β f K X E H L;simp only[Fm.bind,den,ih]
 |alt o ty args r1 r2 k1 k2 ih1 ih2=>intro β f K X E H L;simp only[Fm.bind,den,ih1,ih2]
 |loop id tags init body ih=>intro β f K X E H L;simp only[Fm.bind,den,ih]
 |join id tags rest main ih1 ih2=>intro β f K X E H L;simp only[Fm.bind,den,ih1,ih2]
 |next id vs=>intro β f K X E H L;rfl
 |both a b iha ihb=>intro β f K X E H L;simp only[Fm.bind,den,iha,ihb]
 |hold p k ih=>intro β f K X E H L;simp only[Fm.bind,den,ih]
 |far id g rs body k ihb ih=>intro β f K X E H L;simp only[Fm.bind,den,ihb,ih]
theorem z3b{P:Program}{X:List PanicEntry→PH→Prop}{α β:Type}(t:Fm α)(f:α→Fm β)(K:β→List Value→PH→LK→Prop)(E:List Value)(H:PH)(L:LK):
  den P X (t.bind f) E H L K=den P X t E H L fun x E' H' L'=>den P X (f x) E' H' L' K:=Z21 t f K X E H L
theorem zc0{r:Nat→Nat}:∀(ts:List Tag)(E vs:List Value),z07 ts vs=true→(z1v E.length ts).map (ev (E++vs) r)=vs
 | [],E,vs,h=>by cases vs with
  |nil=>rfl
  |cons v vs=>exact absurd h qk
 |t::ts,E,vs,h=>by
  cases vs with
  |nil=>exact absurd h qk
  |cons v vs=>
   simp only[z07,zba]at h;simp only[z1v,wa];have e1:ev (E++v::vs) r (.atom E.length)=v:=by simp[ev,zgd]
   have e2:=zc0 (r:=r) ts (E++[v]) vs h.2;rw[e1];congr 1;simpa using e2
theorem Z31{r:Nat→Nat}:∀(l:List (Bool×List Tag)) (E vs:List Value),z07 (l.flatMap (·.2)) vs=true→(∀x∈l,x.1=false→x.2≠[]) →
  (zyz E.length l).map (partV (E++vs) r)=zy9 l vs
 | [],E,vs,_,_=>rfl
 |(b,ts)::l,E,vs,h,hne=>by
  have hl:ts.length≤vs.length:=by have:=z1a h;simp at this;omega
  have h1:z07 ts (vs.take ts.length)=true:=by
   have:=zlw h ts.length;simpa using this
  have h2:z07 (l.flatMap (·.2)) (vs.drop ts.length)=true:=by
   have key:∀(ts us:List Tag)(vs:List Value),z07 (ts++us) vs=true→z07 us (vs.drop ts.length)=true:=by
    intro ts
    induction ts with
    |nil=>intro us vs h;simpa using h
    |cons t ts ih=>
     intro us vs h;cases vs with
     |nil=>exact absurd h qk
     |cons v vs=>
      simp only[List.cons_append,z07,zba]at h;simpa using ih us vs h.2
   exact key ts _ vs (by simpa using h)
  have e1:=zc0 (r:=r) ts E (vs.take ts.length) h1;have hsplit:E++vs=E++vs.take ts.length++vs.drop ts.length:=sM;have e3:=Z31 (r:=r) l (E++vs.take ts.length) (vs.drop ts.length) h2 (fun x hx=>hne x (zmm _ hx));have hlen:(E++vs.take ts.length).length=E.length+ts.length:=by simp;omega
  rw[hlen,←hsplit]at e3;simp only[zyz,wa,zy9,e3];congr 1;have e2:(z1v E.length ts).map (ev (E++vs) r)=vs.take ts.length:=by
   have hall:∀(ts:List Tag)(n:Nat)(s:SV),s∈z1v n ts→s.under (n+ts.length)=true:=by
    intro ts
    induction ts with
    |nil=>intro n s hs;cases hs
    |cons t ts ih=>
     intro n s hs;simp only[z1v,zmc]at hs;rcases hs with rfl|hs
     .simp[SV.under]
     .have:=ih (n+1) s hs;rw[zlc,show n+(ts.length+1)=n+1+ts.length by omega];exact this
   rw[←e1];refine qO fun s hs=>?_;have:=hall ts E.length s hs;rw[hsplit];exact z2q s (by rw[hlen];exact this)
  unfold partV;simp only[e2];cases b with
  |true=>rfl
  |false=>
   have hn:=hne (false,ts) (zms) rfl;simp only[qp,if_false];cases ts with
   |nil=>exact absurd rfl hn
   |cons t ts=>
    cases vs with
    |nil=>simp at hl
    |cons v vs=>
     simp only[z1v,List.headD_cons];simp[ev,zgd]
def RS.fine:RS→Prop
 | .tu l=>∀x∈l,x.1=false→x.2≠[]
 |_=>True
theorem RS.pack_ev{r:Nat→Nat}{rs:RS}(hf:rs.fine){E vs:List Value}(h:z07 rs.tags vs=true):evV (E++vs) r (rs.ve E.length)=rs.pack vs:=by
 cases rs with
 |sc t=>
  cases vs with
  |nil=>exact absurd h qk
  |cons v vs=>simp[RS.ve,evV,ev,RS.pack,zgd]
 |ag ts=>simp only[RS.ve,evV,RS.pack,zc0 (r:=r) ts E vs h]
 |tu l=>simp only[RS.ve,evV,RS.pack,Z31 (r:=r) l E vs h hf]
section
variable {P:Program}{D:Prot}{H0:PH}{w0:World}{st:St}{E:List Value}{r:Nat→Nat}{H:PH}{a:Act}{w:World}{G:Guard}
theorem Zjs(a:Act)(d:Nat)(v:Value)(t:Nat)(hd:d<a.tmps.size):(a.put (some d) v).tmps.getD t undef=if t=d then v else a.tmps.getD t undef:=by
 simp only[Act.put,Array.getD_eq_getD_getElem?,Array.getElem?_setIfInBounds];by_cases e:t=d
 .subst e;simp[hd]
 .simp[e,Ne.symm e]
theorem Rel.put(hR:Rel D H0 w0 st E r H a w)(d:Option Nat)(g:Guard)(ve:VE)(v:Value)(h1:Guard.holds E r g→v=evV E r ve)(h2:¬Guard.holds E r g→v=undef)(hw:∀x,d=some x→D.free x=true):
  Rel D H0 w0 (st.set d ⟨g,ve⟩) E r H (a.put d v) w:=by
 cases d with
 |none=>exact hR
 |some d=>
  refine { hR with size:=?_,fr:=?_,df:=D.stable a d v (hw d rfl) hR.df }
  .simp[Act.put,St.set,hR.size]
  .intro t e he hj;simp only[St.set,List.getElem?_set]at he;by_cases hd:d<st.fr.length
   .rw[Zjs _ _ _ _ (by rw[hR.size];exact hd)];by_cases e':d=t
    .subst e';simp[hd]at he;subst he;simp only[if_true];exact⟨h1,h2⟩
    .rw[qc e']at he;rw[qc (Ne.symm e')];exact hR.fr t e he hj
   .have hnot:¬d<a.tmps.size:=by rw[hR.size];exact hd
    have:(a.put (some d) v).tmps=a.tmps:=by simp[Act.put,Array.setIfInBounds_eq_of_size_le (Nat.le_of_not_lt hnot)]
    rw[this];by_cases e':d=t
    .subst e';simp[hd]at he
    .rw[qc e']at he;exact hR.fr t e he hj
theorem Zh5{F:List Value}{g:Guard}(h:g.all (fun x=>x.1.under E.length)=true):Guard.holds (E++F) r g↔Guard.holds E r g:=by
 constructor
 .intro hh x hx;have:=hh x hx;rwa[z2q _ (zat.1 h x hx)]at this
 .intro hh x hx;have:=hh x hx;rwa[z2q _ (zat.1 h x hx)]
theorem Zb6{F:List Value}{v:VE}(h:v.under E.length=true):evV (E++F) r v=evV E r v:=by
 cases v with
 |junk=>rfl
 |sc s=>exact z2q s h
 |ag cs=>
  simp only[evV];rw[qO fun s hs=>z2q s (zat.1 h s hs)]
 |tu vs=>
  simp only[evV];congr 2;refine qO fun x hx=>?_;have hx':x.2.all (SV.under E.length)=true:=zat.1 h x hx;unfold partV;have e1:x.2.map (ev (E++F) r)=x.2.map (ev E r):=qO fun s hs=>z2q s (zat.1 hx' s hs);rw[e1];cases hc:x.2 with
  |nil=>rfl
  |cons s ss=>
   rw[hc]at hx';simp only[List.all_cons,zba]at hx';simp only[List.headD_cons,z2q s hx'.1]
theorem Z96{F:List Value}{c:Chk}(h:c.under E.length=true)(hh:c.holds E):c.holds (E++F):=by
 have key:∀s:SV,s.under E.length=true→ev0 (E++F) s=ev0 E s:=fun s hs=>z2q s hs;cases c<;>simp only[Chk.under,zba]at h<;>simp only[Chk.holds]at hh⊢
 .rw[key _ h.1,key _ h.2];exact hh
 .rw[key _ h.1,key _ h.2];exact hh
 .rw[key _ h.1.1,key _ h.1.2,key _ h.2];exact hh
 .rw[key _ h];exact hh
 .rw[key _ h];exact hh
 .rw[key _ h];exact hh
 .rw[key _ h.1,key _ h.2];exact hh
theorem Rel.ext(hR:Rel D H0 w0 st E r H a w)(hu:st.under=true){ts:List Tag}{vs:List Value}(ht:z07 ts vs=true):
  Rel D H0 w0 { st with tags:=st.tags++ts } (E++vs) r H a w:=by
 have hlen:st.tags.length=E.length:=z1a hR.tags;simp only[St.under,zba,hlen]at hu;obtain⟨⟨⟨u1,u2⟩,u3⟩,u4⟩:=hu;refine { hR with tags:=zf4 hR.tags ht,fr:=?_,bx:=?_,asu:=?_,kn:=?_ }
 .intro t e he hj;have hm:=zat.1 u1 e (zmg he);simp only[zba]at hm;rw[Zh5 hm.2,Zb6 hm.1];exact hR.fr t e he hj
 .intro b hb;have hm:=zat.1 u2 b hb;obtain⟨x1,x2⟩:=hR.bx b hb;refine⟨?_,x2⟩;rw[x1,qO fun s hs=>(z2q s (zat.1 hm s hs)).symm]
 .intro x hx;show ev (E++vs) r x.1=_;rw[z2q _ (zat.1 u3 x hx)];exact hR.asu x hx
 .intro c hc;exact⟨(hR.kn c hc).1,Z96 (zat.1 u4 c hc) (hR.kn c hc).2⟩
theorem Rel.res(hR:Rel D H0 w0 st E r H a w)(hu:st.under=true){rs:RS}(hf:rs.fine){vs:List Value}(ht:z07 rs.tags vs=true)(d:Option Nat)(hw:∀x,d=some x→D.free x=true):
  Rel D H0 w0 (z4k st d rs) (E++vs) r H (a.put d (rs.pack vs)) w:=by
 have hlen:st.tags.length=E.length:=z1a hR.tags;have h1:=(hR.ext hu ht).put d [] (rs.ve st.tags.length) (rs.pack vs) (fun _=>by rw[hlen,RS.pack_ev hf ht]) (fun h=>absurd (fun x hx=>by cases hx) h) hw;have e:z4k st d rs=({ st with tags:=st.tags++rs.tags }:St).set d ⟨[],rs.ve st.tags.length⟩:=by
  cases d<;>rfl
 rw[e];exact h1
theorem Rel.adv'(hR:Rel D H0 w0 st E r H a w){H':PH}{w':World}(h:Adv H w H' w'):Rel D H0 w0 st E r H' a w':=by
 refine { hR with adv:=hR.adv.trans h,wk:=D.adv hR.wk h,bx:=?_ };intro b hb;obtain⟨x1,x2,x3,x4⟩:=hR.bx b hb;have hlt:r b.id<w.heap.size:=by
  rcases Nat.lt_or_ge (r b.id) w.heap.size with h|h
  .exact h
  .simp[Array.getElem?_eq_none h]at x1
 obtain⟨y1,y2⟩:=h.old _ hlt x2;exact⟨by rw[y1];exact x1,y2,x3,x4⟩
theorem Rel.assume(hR:Rel D H0 w0 st E r H a w){c:SV}{b:Bool}(h:ev E r c=.bool b):Rel D H0 w0 (assume st c b) E r H a w:=by
 refine { hR with asu:=?_ };intro x hx;rcases zmc.1 hx with rfl|hx
 .exact h
 .exact hR.asu x hx
theorem Rel.learn(hR:Rel D H0 w0 st E r H a w){g:Guard}{cks:List Chk}(h:g=[]→∀c∈cks,c.noBox=true∧c.holds E):Rel D H0 w0 (learn st g cks) E r H a w:=by
 unfold Vc.learn;split
 .rename_i hg;refine { hR with kn:=?_ };intro c hc;rcases zma.1 hc with hc|hc
  .exact h (List.isEmpty_iff.1 hg) c hc
  .exact hR.kn c hc
 .exact hR
end
theorem zn3{rs:RS}(h:rs.fineB=true):rs.fine:=by
 cases rs with
 |tu l=>
  intro x hx hb;have:=zat.1 h x hx;simp only[hb,Bool.false_or,qy,List.isEmpty_eq_false_iff]at this;exact this
 |_=>trivial
def HeavyOk(P:Program)(o:Oper)(a:Act)(w:World)(Post:Value→World→Prop)(Pan:List PanicEntry→World→Prop):Prop:=
 ∀(next:Act→World→Prop)(Q:Exit→Act→World→Prop)(aa:Act),execOp aa.eval o=execOp a.eval o →
  (∀v w',Post v w'→next (aa.put o.dst v) w')→(∀ch w',Pan ch w'→Q (.panic ch) aa w')→o.wp P aa w next Q
theorem HeavyOk.value{P:Program}{o:Oper}{a:Act}{w w':World}{v:Value}{Post:Value→World→Prop}{Pan:List PanicEntry→World→Prop}
  (hr:(execOp a.eval o).run P w=.ok (.value v) w') (h:Post v w'):HeavyOk P o a w Post Pan:=by
 intro next Q aa he hn _;unfold Oper.wp;rw[he,hr];exact hn v w' h
theorem HeavyOk.skip{P:Program}{o:Oper}{a:Act}{w w':World}{Post:Value→World→Prop}{Pan:List PanicEntry→World→Prop}
  (hr:(execOp a.eval o).run P w=.ok .skip w') (h:Post undef w'):HeavyOk P o a w Post Pan:=by
 intro next Q aa he hn _;unfold Oper.wp;rw[he,hr];exact hn undef w' h
theorem HeavyOk.mono{P:Program}{o:Oper}{a:Act}{w:World}{Post Post':Value→World→Prop}{Pan Pan':List PanicEntry→World→Prop}
  (h:HeavyOk P o a w Post Pan) (h1:∀v w',Post v w'→Post' v w') (h2:∀c w',Pan c w'→Pan' c w'):HeavyOk P o a w Post' Pan':=
 fun next Q aa he hn hq=>h next Q aa he (fun v w' x=>hn v w' (h1 v w' x)) (fun c w' x=>hq c w' (h2 c w' x))
section
variable {P:Program}{D:Prot}{H0:PH}{w0:World}{st:St}{E:List Value}{r:Nat→Nat}{H:PH}{a:Act}{w:World}{X:List PanicEntry→PH→Prop}{L:LK}{K:St→List Value→PH→LK→Prop}
def z8w(D:Prot)(H0:PH)(w0:World)(st:St)(E:List Value)(H:PH)(w:World)(a:Act)(o:Oper)(pend:List (SV×List SV))(L:LK)(K:St→List Value→PH→LK→Prop)(v:Value)(w':World):Prop:=
 ∃st' F r' H',st'.nl=st.nl∧Rel D H0 w0 st' (E++F) r' H' (a.put o.dst v) w'∧(z7a st o=false→z0s E H' pend∧Adv H w H' w')∧K st' (E++F) H' L
def PanOf(H0:PH)(w0:World)(X:List PanicEntry→PH→Prop)(c:List PanicEntry)(w':World):Prop:=∃H',Adv H0 w0 H' w'∧X c H'
theorem zdk(hv:Vis H w)(o:Obj):Adv H w H (w.alloc o):=by
 refine⟨sM,?_,?_,rfl,rfl,rfl⟩
 .intro k x hk;rw[Go.RowKit.Below.heap_alloc _ _ _ (hv.lt hk)];exact hv k x hk
 .intro k hk hn;exact⟨Go.RowKit.Below.heap_alloc _ _ _ hk,hn⟩
theorem Zll(hv:Vis H w)(o:Obj):Adv H w (H.upd w.heap.size o) (w.alloc o):=by
 refine⟨sM,?_,?_,rfl,rfl,rfl⟩
 .intro k x hk;unfold PH.upd at hk;by_cases e:k=w.heap.size
  .rw[qj e]at hk;subst e;show(w.heap.push o)[_]?=_;simpa using hk
  .rw[qc e]at hk;rw[Go.RowKit.Below.heap_alloc _ _ _ (hv.lt hk)];exact hv k x hk
 .intro k hk hn;exact⟨Go.RowKit.Below.heap_alloc _ _ _ hk,by rw[PH.upd_other om];exact hn⟩
theorem zbx{r':Nat→Nat}{m:Nat}(h:∀d,d<m→r' d=r d)(s:SV)(hs:s.bxu m=true):ev E r' s=ev E r s:=by
 induction s with
 |box d o=>simp only[ev,h d (qZ hs)]
 |ar op k a b iha ihb=>simp only[SV.bxu,zba]at hs;simp only[ev,iha hs.1,ihb hs.2]
 |cmp op a b iha ihb=>simp only[SV.bxu,zba]at hs;simp only[ev,iha hs.1,ihb hs.2]
 |scmp op a b iha ihb=>simp only[SV.bxu,zba]at hs;simp only[ev,iha hs.1,ihb hs.2]
 |beq a b iha ihb=>simp only[SV.bxu,zba]at hs;simp only[ev,iha hs.1,ihb hs.2]
 |sidx a b iha ihb=>simp only[SV.bxu,zba]at hs;simp only[ev,iha hs.1,ihb hs.2]
 |cat a b iha ihb=>simp only[SV.bxu,zba]at hs;simp only[ev,iha hs.1,ihb hs.2]
 |elt a b n iha ihb=>simp only[SV.bxu,zba]at hs;simp only[ev,iha hs.1,ihb hs.2]
 |pick c a b ihc iha ihb=>simp only[SV.bxu,zba]at hs;simp only[ev,ihc hs.1.1,iha hs.1.2,ihb hs.2]
 |ssub c a b ihc iha ihb=>simp only[SV.bxu,zba]at hs;simp only[ev,ihc hs.1.1,iha hs.1.2,ihb hs.2]
 |sls c a b n ihc iha ihb=>simp only[SV.bxu,zba]at hs;simp only[ev,ihc hs.1.1,iha hs.1.2,ihb hs.2]
 |not a iha=>simp only[SV.bxu]at hs;simp only[ev,iha hs]
 |com k a iha=>simp only[SV.bxu]at hs;simp only[ev,iha hs]
 |conv k a iha=>simp only[SV.bxu]at hs;simp only[ev,iha hs]
 |len a iha=>simp only[SV.bxu]at hs;simp only[ev,iha hs]
 |cap a iha=>simp only[SV.bxu]at hs;simp only[ev,iha hs]
 |slen a iha=>simp only[SV.bxu]at hs;simp only[ev,iha hs]
 |padd a n iha=>simp only[SV.bxu]at hs;simp only[ev,iha hs]
 |isnil a iha=>simp only[SV.bxu]at hs;simp only[ev,iha hs]
 |_=>rfl
theorem Zkn{r':Nat→Nat}{m:Nat}(h:∀d,d<m→r' d=r d)(v:VE)(hv:v.bxu m=true):evV E r' v=evV E r v:=by
 cases v with
 |junk=>rfl
 |sc s=>exact zbx h s hv
 |ag cs=>simp only[evV];rw[qO fun s hs=>zbx h s (zat.1 hv s hs)]
 |tu vs=>
  simp only[evV];congr 2;refine qO fun x hx=>?_;have hx':x.2.all (SV.bxu m)=true:=zat.1 hv x hx;unfold partV;have e1:x.2.map (ev E r')=x.2.map (ev E r):=qO fun s hs=>zbx h s (zat.1 hx' s hs);rw[e1];cases hc:x.2 with
  |nil=>rfl
  |cons s ss=>
   rw[hc]at hx';simp only[List.all_cons,zba]at hx';simp only[List.headD_cons,zbx h s hx'.1]
theorem Rel.newBox(hR:Rel D H0 w0 st E r H a w)(hb:st.bxu=true)(T:TypeId)(cs:List SV)(hc:cs.all (SV.bxu st.nb)=true)(d:Option Nat)(hw:∀x,d=some x→D.free x=true):
  Rel D H0 w0 (newBox st d T cs) E (fun x=>if x=st.nb then w.heap.size else r x) H (a.put d (.pointer (some ⟨w.heap.size,0,none⟩))) (w.alloc (.cells (cs.map (ev E r)).toArray T)):=by
 have hsame:∀x,x<st.nb→(if x=st.nb then w.heap.size else r x)=r x:=fun x hx=>qc om;simp only[St.bxu,zba]at hb;obtain⟨⟨u1,u2⟩,u3⟩:=hb;have h1:Rel D H0 w0 { st with bx:=⟨st.nb,T,cs,d.getD 0⟩::st.bx,nb:=st.nb+1 } E (fun x=>if x=st.nb then w.heap.size else r x) H a (w.alloc (.cells (cs.map (ev E r)).toArray T)):=by
  refine { adv:=hR.adv.trans (zdk hR.vis _),tags:=hR.tags,size:=hR.size,df:=hR.df,wk:=D.adv hR.wk (zdk hR.vis _),fr:=?_,bx:=?_,inj:=?_,nd:=?_,asu:=?_,kn:=hR.kn }
  .intro t e he hj;have hm:=zat.1 u1 e (zmg he);simp only[zba]at hm;have hg:Guard.holds E (fun x=>if x=st.nb then w.heap.size else r x) e.g↔Guard.holds E r e.g:=by
    constructor
    .intro hh x hx;have:=hh x hx;rwa[zbx hsame _ (zat.1 hm.2 x hx)]at this
    .intro hh x hx;have:=hh x hx;rwa[zbx hsame _ (zat.1 hm.2 x hx)]
   rw[hg,Zkn hsame _ hm.1];exact hR.fr t e he hj
  .intro b hbm;rcases zmc.1 hbm with rfl|hbm
   .refine⟨?_,?_,?_,Nat.lt_succ_self _⟩
    .simp only[if_true];show(w.heap.push _)[_]?=_;rw[qO fun s hs=>zbx hsame s (zat.1 hc s hs)];simp
    .simp only[if_true];exact hR.vis.new
    .simp only[if_true];exact hR.adv.size
   .obtain⟨x1,x2,x3,x4⟩:=hR.bx b hbm;have hm:=zat.1 u2 b hbm;have hlt:r b.id<w.heap.size:=by
     rcases Nat.lt_or_ge (r b.id) w.heap.size with h|h
     .exact h
     .simp[Array.getElem?_eq_none h]at x1
    simp only[hsame _ x4];refine⟨?_,x2,x3,Nat.lt_succ_of_lt x4⟩;rw[Go.RowKit.Below.heap_alloc _ _ _ hlt,x1,qO fun s hs=>(zbx hsame s (zat.1 hm s hs)).symm]
  .intro b hbm c hcm;have lt:∀b∈st.bx,r b.id<w.heap.size∧b.id<st.nb:=fun b hb=>by
    obtain⟨x1,x2,x3,x4⟩:=hR.bx b hb;refine⟨?_,x4⟩;rcases Nat.lt_or_ge (r b.id) w.heap.size with h|h
    .exact h
    .simp[Array.getElem?_eq_none h]at x1
   rcases zmc.1 hbm with rfl|hbm<;>rcases zmc.1 hcm with rfl|hcm
   .intro _;rfl
   .intro h;simp only[if_true,hsame _ (lt c hcm).2]at h;have:=(lt c hcm).1;omega
   .intro h;simp only[if_true,hsame _ (lt b hbm).2]at h;have:=(lt b hbm).1;omega
   .intro h;simp only[hsame _ (lt b hbm).2,hsame _ (lt c hcm).2]at h;exact hR.inj b hbm c hcm h
  .simp only[wa,List.nodup_cons];refine⟨?_,hR.nd⟩;intro hm;obtain⟨b,hbm,he⟩:=zmp.1 hm;have:=(hR.bx b hbm).2.2.2;omega
  .intro x hx;rw[zbx hsame _ (zat.1 u3 x hx)];exact hR.asu x hx
 have h2:=h1.put d [] (.sc (.box st.nb 0)) (.pointer (some ⟨w.heap.size,0,none⟩)) (fun _=>by simp[evV,ev]) (fun h=>absurd (fun x hx=>by cases hx) h) hw;have e:Vc.newBox st d T cs=({ st with bx:=⟨st.nb,T,cs,d.getD 0⟩::st.bx,nb:=st.nb+1 }:St).set d ⟨[],.sc (.box st.nb 0)⟩:=by
  cases d<;>rfl
 rw[e];exact h2
theorem z3h{H':PH}{pend:List (SV×List SV)}(h:z0s E H pend)(hl:PH.le H H'):z0s E H' pend:=fun x hx=>by
 obtain⟨ad,h1,h2⟩:=h x hx;exact⟨ad,h1,fun i v hi=>PH.cell_le hl (h2 i v hi)⟩
theorem zuo(hR:Rel D H0 w0 st E r H a w)(hu:st.under=true){pub:List Nat}{o:Oper}{T:TypeId}{cs:List SV}{pend:List (SV×List SV)}(hp:z0s E H pend)
  (hrun:(execOp a.eval o).run P w=.ok (.value (.pointer (some ⟨w.heap.size,0,none⟩))) (w.alloc (.cells (cs.map (ev E r)).toArray T)))
  (hmy:D.may o) (hden:den P X (mkBox pub st o T cs) E H L K):HeavyOk P o a w (z8w D H0 w0 st E H w a o pend L K) (PanOf H0 w0 X):=by
 refine HeavyOk.value hrun ?_;unfold mkBox at hden;split at hden
 .split at hden
  .rename_i hnb;have hcs:cs.map (ev E r)=cs.map (ev0 E):=qO fun s hs=>z14 (zat.1 hnb s hs);have hd:=hden w.heap.size hR.vis.new;rw[←hcs]at hd;have hadv:=Zll hR.vis (.cells (cs.map (ev E r)).toArray T);have hR':=(hR.adv' hadv).res hu (rs:=.sc .ptr) trivial (vs:=[.pointer (some ⟨w.heap.size,0,none⟩)]) rfl o.dst hmy;refine⟨_,[.pointer (some ⟨w.heap.size,0,none⟩)],_,_,?_,hR',fun _=>⟨z3h hp (PH.le_upd hR.vis.new),hadv⟩,hd⟩;cases o.dst<;>rfl
  .exact hden.elim
 .split at hden
  .rename_i hb;have hR':=hR.newBox hb.1 T cs hb.2 o.dst hmy;refine⟨_,[],_,_,?_,by simpa using hR',fun _=>⟨hp,zdk hR.vis _⟩,by rw[zan];exact hden⟩;cases o.dst<;>rfl
  .exact hden.elim
theorem Zbz{b:Nat}{T:TypeId}:∀(vs:List Value)(o i:Nat)(cs:List Value)(w:World),w.heap[b]?=some (.cells cs.toArray T)→o+i+vs.length≤cs.length→(∀v∈vs,oneC v=true) →
  ∃w',(storeCells ⟨b,o,none⟩ vs i).run P w=.ok () w'∧w'.heap.size=w.heap.size∧w'.os=w.os∧w'.tape=w.tape∧w'.output=w.output ∧
   ∀k,w'.heap[k]?=if k=b then some (.cells (cs.take (o+i)++vs++cs.drop (o+i+vs.length)).toArray T)else w.heap[k]?
 | [],o,i,cs,w,hb,_,_=>by
  refine⟨w,by simp[storeCells],rfl,rfl,rfl,rfl,fun k=>?_⟩;by_cases e:k=b
  .subst e;simp[hb]
  .simp[e]
 |v::vs,o,i,cs,w,hb,hl,h1=>by
  simp only[zlc]at hl;have hadd:(⟨b,o,none⟩:Addr).add i=⟨b,o+i,none⟩:=by
   unfold Addr.add;split
   .simp_all
   .rfl
  have hcell:w.cell? ⟨b,o+i,none⟩=some (cs[o+i]'(om)):=by simp[World.cell?,hb]
  have hfz:w.frozen? ⟨b,o+i,none⟩=false:=by simp[World.frozen?,hb]
  have hst:(store (⟨b,o+i,none⟩:Addr) v).run P w=.ok () (w.setCell ⟨b,o+i,none⟩ v):=by
   have:=h1 v (zms);cases v with
   |agg c=>exact absurd this qk
   |tuple c=>exact absurd this qk
   |_=>simp[store,Sem.run,hcell,hfz]
  have hb':(w.setCell ⟨b,o+i,none⟩ v).heap[b]?=some (.cells (cs.set (o+i) v).toArray T):=by
   simp[World.setCell,Array.getElem?_modify,hb]
  obtain⟨w',x1,x2,x3,x4,x5,x6⟩:=Zbz vs o (i+1) (cs.set (o+i) v) _ hb' (by simp;omega) (fun u hu=>h1 u (zmm _ hu));refine⟨w',?_,?_,x3,x4,x5,fun k=>?_⟩
  .simp only[storeCells,Sem.run_bind,hadd,hst,Result.andThen_ok,x1]
  .rw[x2];simp[World.setCell]
  .rw[x6];by_cases e:k=b
   .rw[qj e,qj e];congr 3;rw[←Nat.add_assoc,List.take_succ_eq_append_getElem (by simp;omega),List.take_set_of_le (we _),List.drop_set_of_lt om];simp only[List.getElem_set_self,zaa,zlc,List.cons_append,List.nil_append];rw[show o+i+1+vs.length=o+i+(vs.length+1) by omega]
   .rw[qc e,qc e,Go.RowKit.Below.heap_setCell _ _ _ _ e]
theorem Z6u{T:TypeId}{i:TypeInfo}(hi:P.info? T=some i){v:Value}{b o:Nat}(hl:v.cells.size=i.size){w w':World}
  (hs:(storeCells ⟨b,o,none⟩ v.cells.toList).run P w=.ok () w'):(storeVar T ⟨b,o,none⟩ v).run P w=.ok () w':=by
 simp[storeVar,z69 hi,hl,hs]
theorem Rel.putBx(hR:Rel D H0 w0 st E r H a w){b:Bx}(hb:b∈st.bx){off:Nat}{cs:List SV}(hl:off+cs.length≤b.cs.length){w':World}(h1:w'.heap.size=w.heap.size)(h2:w'.os=w.os)(h3:w'.tape=w.tape)(h4:w'.output=w.output)
  (h5:∀k,w'.heap[k]?=if k=r b.id then some (.cells ((b.cs.map (ev E r)).take off++cs.map (ev E r)++(b.cs.map (ev E r)).drop (off+cs.length)).toArray b.ty)else w.heap[k]?) :
  Rel D H0 w0 { st with bx:=st.bx.map (Vc.putBx b.id off cs) } E r H a w':=by
 obtain⟨x1,x2,x3,x4⟩:=hR.bx b hb;have hid:∀c:Bx,(Vc.putBx b.id off cs c).id=c.id:=fun c=>by unfold Vc.putBx;split<;>rfl
 have hvis:Vis H w':=by
  intro k o hk;have:k≠r b.id:=fun e=>by rw[e,x2]at hk;cases hk
  rw[h5,qc this];exact hR.vis k o hk
 have hadv:Adv H0 w0 H w':=by
  refine⟨by rw[h1];exact hR.adv.size,hvis,?_,h2.trans hR.adv.os,h3.trans hR.adv.tape,h4.trans hR.adv.out⟩;intro k hk hn;obtain⟨y1,y2⟩:=hR.adv.old k hk hn;refine⟨?_,y2⟩;rw[h5,qc om];exact y1
 have hwk:D.wk a.defers H w':=by
  refine D.wcl hR.wk (by rw[h1];exact we _) fun k _ hn hc=>⟨?_,hn⟩;rw[h5,qc];intro e;subst e;exact hc _ _ _ x1
 refine { adv:=hadv,tags:=hR.tags,size:=hR.size,df:=hR.df,wk:=hwk,fr:=hR.fr,bx:=?_,inj:=?_,nd:=?_,asu:=hR.asu,kn:=hR.kn }
 .intro c hc;obtain⟨d,hd,rfl⟩:=zmp.1 hc;obtain⟨y1,y2,y3,y4⟩:=hR.bx d hd;rw[hid];refine⟨?_,y2,y3,y4⟩;unfold Vc.putBx;by_cases e:d.id=b.id
  .have hdb:d=b:=by
    have hnd:=hR.nd;have key:∀(l:List Bx),(l.map (·.id)).Nodup→d∈l→b∈l→d.id=b.id→d=b:=by
     intro l
     induction l with
     |nil=>intro _ h;cases h
     |cons x l ih=>
      intro hn h1 h2 he;simp only[wa,List.nodup_cons]at hn;rcases zmc.1 h1 with e1|k1<;>rcases zmc.1 h2 with e2|k2
      .rw[e1,e2]
      .exact absurd (zmp.2 ⟨b,k2,by rw[←e1];exact he.symm⟩) hn.1
      .exact absurd (zmp.2 ⟨d,k1,by rw[←e2];exact he⟩) hn.1
      .exact ih hn.2 k1 k2 he
    exact key st.bx hnd hd hb e
   subst hdb;rw[h5,qj rfl,qj rfl];simp[List.map_take,List.map_drop]
  .rw[qc e,h5,qc (fun h=>e (hR.inj d hd b hb h)),y1]
 .intro c hc d hd h;obtain⟨c',hc',rfl⟩:=zmp.1 hc;obtain⟨d',hd',rfl⟩:=zmp.1 hd;rw[hid,hid]at h⊢;exact hR.inj c' hc' d' hd' h
 .show((st.bx.map (Vc.putBx b.id off cs)).map (·.id)).Nodup;rw[List.map_map];have:(fun x:Bx=>x.id) ∘ Vc.putBx b.id off cs=fun x=>x.id:=by funext c;exact hid c
  rw[this];exact hR.nd
theorem Z5d{o:Oper}(hd:o.dst=none)(v:Value):a.put o.dst v=a:=by rw[hd];rfl
def PostB(D:Prot)(H0:PH)(w0:World)(st:St)(E:List Value)(H:PH)(a:Act)(o:Oper)(L:LK)(K:St→List Value→PH→LK→Prop)(v:Value)(w':World):Prop:=
 ∃st' r',st'.nl=st.nl∧Rel D H0 w0 st' E r' H (a.put o.dst v) w'∧K st' E H L
theorem zqx(hR:Rel D H0 w0 st E r H a w){o:Oper}{T:TypeId}{p x:Operand}(ho:o.op=.store T p x){d off:Nat}{ve:VE}{cs:List SV}{i:TypeInfo}(hp:a.eval p=ev E r (.box d off))(hx:a.eval x=evV E r ve)(hcs:z56 ve=some cs)(hi:P.info? T=some i)
  (hden:den P X (zxl st o d off i.size cs) E H L K):HeavyOk P o a w (PostB D H0 w0 st E H a o L K) (PanOf H0 w0 X):=by
 unfold zxl at hden;split at hden
 .rename_i b hb;obtain⟨hm,hid⟩:=zfy hb;split at hden
  .rename_i hc;obtain⟨hl,hle,hd⟩:=hc;subst hid;have hv:=z76 hR hcs;obtain ⟨w',y1,y2,y3,y4,y5,y6⟩:=Zbz (P:=P) (cs.map (ev E r)) off 0 (b.cs.map (ev E r)) w (hR.bx b hm).1 (by simp;omega) (fun v hv=>by
    obtain⟨s,_,rfl⟩:=zmp.1 hv;exact Zb2 r hR.tags s)
   have hrun:(execOp a.eval o).run P w=.ok .skip w':=by
    have hs:=Z6u (P:=P) (T:=T) hi (v:=evV E r ve) (b:=r b.id) (o:=off) (w:=w) (w':=w') (by rw[hv];simpa using hl) (by rw[hv];exact y1);obtain⟨dst,op,ty,pos,af,gd⟩:=o;cases ho;simp[execOp,Instr.storeAt,hp,hx,ev,Instr.sureAddr,hs]
   refine HeavyOk.skip hrun ?_;have hR':=hR.putBx hm hle y2 y3 y4 y5 (fun k=>by have:=y6 k;simpa using this);exact⟨{ st with bx:=st.bx.map (putBx b.id off cs) },_,rfl,by rw[Z5d hd];exact hR',hden⟩
  .exact hden.elim
 .exact hden.elim
theorem Z6f(hR:Rel D H0 w0 st E r H a w){o:Oper}{T:TypeId}{p x:Operand}(ho:o.op=.store T p x){d off:Nat}{ve:VE}{cs:List SV}{i:TypeInfo}(hp:a.eval p=ev E r (.box d off))(hx:a.eval x=evV E r ve)(hcs:z56 ve=some cs)(hi:P.info? T=some i){pend:List (SV×List SV)}
  (hbx:z7a st o=true) (hden:den P X (zxl st o d off i.size cs) E H L K):HeavyOk P o a w (z8w D H0 w0 st E H w a o pend L K) (PanOf H0 w0 X):=
 (zqx hR ho hp hx hcs hi hden).mono (fun v w'⟨st',r',h1,h2,h3⟩=>⟨st',[],r',H,h1,by rw[zan];exact h2,(fun h=>by rw[hbx]at h;cases h),by rw[zan];exact h3⟩) fun _ _ h=>h
theorem Z65(hR:Rel D H0 w0 st E r H a w){o:Oper}{T:TypeId}{p x:Operand}(ho:o.op=.store T p x){s:SV}{ve:VE}{cs:List SV}{i:TypeInfo}(hp:a.eval p=ev E r s)(hx:a.eval x=evV E r ve)(hcs:z56 ve=some cs)(hi:P.info? T=some i){pend:List (SV×List SV)}
  (hden:den P X (Z5q st o i.size s cs pend) E H L K):HeavyOk P o a w (z8w D H0 w0 st E H w a o pend L K) (PanOf H0 w0 X):=by
 unfold Z5q at hden;split at hden
 .rename_i hc;obtain⟨ht,hnb,hcb,hl,hd⟩:=hc;obtain⟨ad,had,hw⟩:=hden;have hv:=z76 hR hcs;have hcs':cs.map (ev E r)=cs.map (ev0 E):=qO fun s hs=>z14 (zat.1 hcb s hs);rw[←hcs']at hw;have e1:=zhd (z0u hR ht);rw[z14 hnb,had]at e1;rcases Z0e _ _ _ H w hR.vis hw with⟨_,w',H',hr,hadv,hk⟩|⟨v,w',H',hr,hadv,hk⟩
  .have hrun:(execOp a.eval o).run P w=.ok .skip w':=by
    have hs:(storeVar T ad (evV E r ve)).run P w=.ok () w':=by
     simp[storeVar,z69 hi,hv,hl,hr]
    obtain⟨dst,op,ty,pos,af,gd⟩:=o;cases ho;simp[execOp,Instr.storeAt,hp,z14 hnb,e1,hx,Instr.sureAddr,hs]
   refine HeavyOk.skip hrun ?_;have hk2:z0s E H' pend∧K st E H' L:=by
    cases pend with
    |nil=>exact⟨fun x hx=>(by cases hx),hk⟩
    |cons y l=>exact hk
   exact⟨_,[],_,_,rfl,by rw[zan,Z5d hd];exact hR.adv' hadv,fun _=>⟨hk2.1,hadv⟩,by rw[zan];exact hk2.2⟩
  .exact hk.elim
 .exact hden.elim
theorem zum{P:Program}{w:World}{T:TypeId}{i:TypeInfo}{d:TypeDesc}{ad:Addr}{vs:List Value}(hi:P.info? T=some i)(hts:z07 (z27 P 12 T) vs=true)(hl:(z27 P 12 T).length=i.size)(hrs:(z6s P T).tags=z27 P 12 T)(hd:P.underlying T=some d)
  (hrow:∀j v,vs[j]?=some v→w.cell? (ad.add j)=some v):(loadVar T ad).run P w=.ok ((z6s P T).pack vs) w:=by
 have hvl:vs.length=i.size:=by rw[←z1a hts];exact hl
 unfold z6s at hrs⊢;by_cases hag:z9v P T=true
 .rw[qj hag];have key:∀(n j:Nat)(acc:Array Value),j+n=vs.length→(loadCellsFrom ad j n acc).run P w=.ok (acc++(vs.drop j).toArray) w:=by
   intro n
   induction n with
   |zero=>intro j acc h;simp at h;subst h;simp[loadCellsFrom]
   |succ n ih=>
    intro j acc h;have hj:j<vs.length:=om;have hcell:=hrow j vs[j] (by simp[hj]);simp only[loadCellsFrom,Sem.run_bind,run_load,hcell,Result.andThen_ok];rw[ih (j+1) _ om,List.drop_eq_getElem_cons hj];simp
  have:=key i.size 0 #[] om;simp[loadVar,zgx hd,hag,z69 hi,loadCells,this,RS.pack]
 .rw[qc hag]at hrs⊢;simp only[RS.tags]at hrs;have h1:vs.length=1:=by
   have:=congrArg List.length hrs;simp only[zlc,zln]at this;rw[←z1a hts];omega
  obtain⟨v,rfl⟩:∃v,vs=[v]:=by
   cases vs with
   |nil=>simp at h1
   |cons v l=>cases l with
    |nil=>exact⟨v,rfl⟩
    |cons _ _=>simp at h1
  have hcell:=hrow 0 v sM;rw[show ad.add 0=ad by simp[Addr.add]]at hcell;simp only[Bool.not_eq_true]at hag;simp[loadVar,zgx hd,hag,hcell,RS.pack]
theorem Za6(hR:Rel D H0 w0 st E r H a w)(hu:st.under=true){o:Oper}{T:TypeId}{p:Operand}(ho:o.op=.load T p){s:SV}{i:TypeInfo}(hp:a.eval p=ev E r s)(hi:P.info? T=some i){pend:List (SV×List SV)}(hpd:z0s E H pend)
  (hmy:D.may o) (hden:den P X (loadH P st o T i.size s) E H L K):HeavyOk P o a w (z8w D H0 w0 st E H w a o pend L K) (PanOf H0 w0 X):=by
 unfold loadH at hden;split at hden
 .rename_i hc;obtain⟨ht,hnb,hl,hrs,hun⟩:=hc;obtain⟨vs,hts,⟨ad,had,hrow⟩,hk⟩:=hden;obtain⟨d,hd⟩:=qH.1 hun;have e1:=zhd (z0u hR ht);rw[z14 hnb,had]at e1;have hload:=zum hi hts hl hrs hd fun j v hj=>hR.vis.cell (hrow j v hj);have hrun:(execOp a.eval o).run P w=.ok (.value ((z6s P T).pack vs)) w:=by
   obtain⟨dst,op,ty,pos,af,gd⟩:=o;cases ho;simp[execOp,Instr.loadAt,hp,z14 hnb,e1,Instr.sureAddr,hload]
  refine HeavyOk.value hrun ?_;have hf:(z6s P T).fine:=by unfold z6s;split<;>trivial
  refine⟨_,vs,_,_,?_,hR.res hu hf (by rw[hrs];exact hts) o.dst hmy,fun _=>⟨hpd,Adv.refl hR.vis⟩,hk⟩;cases o.dst<;>rfl
 .exact hden.elim
theorem Zbt(hR:Rel D H0 w0 st E r H a w):∀{l:List Operand} {vs:List VE},l.mapM (opv st [])=some vs→l.map a.eval=vs.map (evV E r)
 | [],vs,h=>by simp at h;subst h;rfl
 |x::l,vs,h=>by
  simp only[List.mapM_cons,Option.bind_eq_bind,qw]at h;obtain⟨v,hv,us,hus,h⟩:=h;cases h;simp only[wa,z1l hR (fun x hx=>by cases hx) hv,Zbt hR hus]
theorem zke{v:VE}(h:zsz v=true):evV E r v=evV E (fun _=>0) v:=by
 cases v with
 |junk=>rfl
 |sc s=>exact z14 h
 |ag cs=>simp only[evV];rw[qO fun s hs=>za4 r _ s (zat.1 h s hs)]
 |tu vs=>
  simp only[evV];congr 2;refine qO fun x hx=>?_;have hx':x.2.all SV.noBox=true:=zat.1 h x hx;unfold partV;have e1:x.2.map (ev E r)=x.2.map (ev E fun _=>0):=qO fun s hs=>za4 r _ s (zat.1 hx' s hs);rw[e1];cases hc:x.2 with
  |nil=>rfl
  |cons s ss=>
   rw[hc]at hx';simp only[List.all_cons,zba]at hx';simp only[List.headD_cons,za4 r (fun _=>0) s hx'.1]
theorem Z9o(hR:Rel D H0 w0 st E r H a w)(hu:st.under=true){o:Oper}{c:Call}{f:Operand}(ho:o.op=.call c)(hcal:c.callee=.value f){fv:SV}{vs:List VE}(hf:a.eval f=ev E r fv)(hvs:c.args.toList.mapM (opv st [])=some vs){pend:List (SV×List SV)}
  (hmy:D.may o) (hden:den P X (callH P st o pend fv vs) E H L K):HeavyOk P o a w (z8w D H0 w0 st E H w a o pend L K) (PanOf H0 w0 X):=by
 unfold callH at hden;split at hden
 .rename_i hc;obtain⟨hfb,hvb,hfi⟩:=hc;have hargs:c.args.map a.eval=(vs.map (evV E fun _=>0)).toArray:=by
   apply Array.ext';rw[Array.toList_map,Zbt hR hvs];exact qO fun v hv=>zke (zat.1 hvb v hv)
  have main:∀fid first capt,ev0 E fv=.func (.func fid) first capt→zro P fid→Tri P fid (first++(vs.map (evV E fun _=>0)).toArray++capt) H (zvz X (rsOf P o.type) pend E fun E' H'=>den P X (.leaf (z4k st o.dst (rsOf P o.type))) E' H' L K)→HeavyOk P o a w (z8w D H0 w0 st E H w a o pend L K) (PanOf H0 w0 X):=by
   intro fid first capt e1 hok htri next Q aa he hn hq
   have hrun:(execOp aa.eval o).run P w=.ok (.enter fid (first++(vs.map (evV E fun _=>0)).toArray++capt)) w:=by
    rw[he];obtain⟨dst,op,ty,pos,af,gd⟩:=o;cases ho;obtain⟨cal,args,tys⟩:=c;cases hcal;have hargs':args.map a.eval=(vs.map (evV E fun _=>0)).toArray:=hargs;simp[execOp,resolve,hf,z14 hfb,e1,Deferred.ofValue,invoke,hargs',hok _ w]
   unfold Oper.wp;rw[hrun];show Calls P fid _ w _;refine(htri w hR.vis).mono ?_;rintro e w' ⟨H',hadv,hpost⟩;cases e with
   |returned v=>
    obtain⟨us,hts,rfl,hpd,hk⟩:=hpost;refine hn _ _ ⟨_,us,_,_,?_,(hR.adv' hadv).res hu (zn3 hfi) hts o.dst hmy,fun _=>⟨hpd,hadv⟩,hk⟩;cases o.dst<;>rfl
   |panicked ch=>exact hq ch w' ⟨H',hR.adv.trans hadv,hpost⟩
   |outgrown=>exact hpost.elim
  cases fv with
  |fn fid=>exact main fid #[] #[] rfl hden.1 (by simpa using hden.2)
  |_=>obtain⟨fid,first,capt,h1,h2,h3⟩:=hden;exact main fid first capt h1 h2 h3
 .exact hden.elim
theorem z9f(hR:Rel D H0 w0 st E r H a w):∀{l:List Operand} {args:List (Nat×VE)},z39 st l=some args →
  (∀t v,args.lookup t=some v→a.tmps.getD t undef=evV E (fun _=>0) v)∧∀t,Operand.tmp t∈l→(args.lookup t).isSome=true
 | [],args,h=>by simp[z39]at h;subst h;exact⟨fun t v h=>by simp at h,fun t h=>by cases h⟩
 |y::l,args,h=>by
  cases y with
  |tmp t=>
   simp only[z39]at h;split at h
   .rename_i v rest hv hrest;split at h
    .rename_i hnb;cases h;obtain⟨i1,i2⟩:=z9f hR hrest;have hval:a.tmps.getD t undef=evV E (fun _=>0) v:=(z1l hR (fun x hx=>by cases hx) hv).trans (zke hnb);refine⟨fun u x hx=>?_,fun u hu=>?_⟩
     .simp only[List.lookup_cons]at hx;split at hx
      .rename_i he;cases hx;rw[beq_iff_eq.1 he];exact hval
      .exact i1 u x hx
     .simp only[List.lookup_cons];split
      .rfl
      .rename_i hne;refine i2 u ?_;rcases zmc.1 hu with he|hu
       .cases he;simp at hne
       .exact hu
    .cases h
   .cases h
  |const c=>simp only[z39]at h;obtain⟨i1,i2⟩:=z9f hR h;exact⟨i1,fun t ht=>i2 t (by simpa using ht)⟩
  |global c=>simp only[z39]at h;obtain⟨i1,i2⟩:=z9f hR h;exact⟨i1,fun t ht=>i2 t (by simpa using ht)⟩
  |func c=>simp only[z39]at h;obtain⟨i1,i2⟩:=z9f hR h;exact⟨i1,fun t ht=>i2 t (by simpa using ht)⟩
theorem Z41(hR:Rel D H0 w0 st E r H a w){l:List Operand}{args:List (Nat×VE)}(h:z39 st l=some args):∀x∈l,a.eval x=argEv E args x:=by
 intro x hx;obtain⟨i1,i2⟩:=z9f hR h;cases x with
 |tmp t=>
  obtain⟨v,hv⟩:=qH.1 (i2 t hx);simp only[argEv,hv];exact i1 t v hv
 |_=>rfl
theorem zst(ρ:Operand→Value)(o:Oper):execOp ρ o=execOp ρ (bare o.op o.type):=rfl
theorem zne(hR:Rel D H0 w0 st E r H a w){o:Oper}(hs:∀cs b,o.op≠.select cs b){args:List (Nat×VE)}(h:z39 st o.op.operands.toList=some args):execOp a.eval o=execOp (argEv E args) (bare o.op o.type):=by
 rw[zst];exact execOp_congr (bare o.op o.type) hs fun x hx=>Z41 hR h x (Array.mem_toList_iff.2 hx)
theorem ztj(hR:Rel D H0 w0 st E r H a w)(hu:st.under=true){o:Oper}{args:List (Nat×VE)}(he:execOp a.eval o=execOp (argEv E args) (bare o.op o.type)){rs:RS}(hf:rs.fine){pend:List (SV×List SV)}(st':St)(hst:∀vs,z07 rs.tags vs=true→∀r H w,Rel D H0 w0 (z4k st o.dst rs) (E++vs) r H (a.put o.dst (rs.pack vs)) w→Rel D H0 w0 st' (E++vs) r H (a.put o.dst (rs.pack vs)) w)(hnl:st'.nl=st.nl)
  (hmy:D.may o) (hden:den P X (.sem o.op o.type args rs pend (.leaf st')) E H L K):HeavyOk P o a w (z8w D H0 w0 st E H w a o pend L K) (PanOf H0 w0 X):=by
 have hw:wpS P (execOp a.eval o) (Z7w rs pend E fun E' H'=>K st' E' H' L) (fun v H'=>X [{ v,recovered:=false }] H') H:=by rw[he];exact hden
 rcases Z0e _ _ _ H w hR.vis hw with⟨nx,w',H',hr,hadv,hk⟩|⟨v,w',H',hr,hadv,hk⟩
 .cases nx with
  |value v=>
   obtain⟨vs,hts,rfl,hpd,hk⟩:=hk;exact HeavyOk.value hr ⟨st',vs,_,_,hnl,hst vs hts _ _ _ ((hR.adv' hadv).res hu hf hts o.dst hmy),fun _=>⟨hpd,hadv⟩,hk⟩
  |skip=>
   obtain⟨hts,hpk,hpd,hk⟩:=hk;refine HeavyOk.skip hr ⟨st',[],r,_,hnl,?_,fun _=>⟨hpd,hadv⟩,hk⟩;rw[hpk];exact hst [] (by rw[hts];rfl) _ _ _ ((hR.adv' hadv).res hu hf (by rw[hts];rfl) o.dst hmy)
  |_=>exact hk.elim
 .intro next Q aa he' hn hq;unfold Oper.wp;rw[he',hr];exact hq _ _ ⟨H',hR.adv.trans hadv,hk⟩
theorem zwx(hR:Rel D H0 w0 st E r H a w)(hu:st.under=true){o:Oper}{pend:List (SV×List SV)}(hmy:D.may o)(hden:den P X (semH P st o pend) E H L K):HeavyOk P o a w (z8w D H0 w0 st E H w a o pend L K) (PanOf H0 w0 X):=by
 unfold semH at hden;split at hden
 .rename_i T x ho;split at hden
  .rename_i args hargs;have he:=zne hR (o:=o) (fun cs b=>by rw[ho];intro h;cases h) (by rw[ho];exact hargs);rw[←ho]at hden;refine ztj hR hu he (rs:=.sc .ptr) trivial _ ?_ ?_ hmy hden
   .intro vs _ r H w hR';exact { hR' with }
   .cases o.dst<;>rfl
  .exact hden.elim
 .rename_i T x i ho;split at hden
  .rename_i args hargs;have he:=zne hR (o:=o) (fun cs b=>by rw[ho];intro h;cases h) (by rw[ho];exact hargs);rw[←ho]at hden;refine ztj hR hu he (rs:=.sc .ptr) trivial _ (fun _ _ _ _ _ h=>h) ?_ hmy hden;cases o.dst<;>rfl
  .exact hden.elim
 .rename_i x ho;split at hden
  .rename_i args k e hargs hm;split at hden
   .rename_i hf;have he:=zne hR (o:=o) (fun cs b=>by rw[ho];intro h;cases h) (by rw[ho];exact hargs);rw[←ho]at hden;refine ztj hR hu he (rs:=.tu [k,e]) (zn3 hf) _ (fun _ _ _ _ _ h=>h) ?_ hmy hden;cases o.dst<;>rfl
   .exact hden.elim
  .exact hden.elim
 .split at hden
  .rename_i hok;split at hden
   .rename_i args hargs;split at hden
    .rename_i hf;have he:=zne hR (o:=o) (fun cs b h=>by rw[h]at hok;exact absurd hok qk) hargs;refine ztj hR hu he (zn3 hf) _ (fun _ _ _ _ _ h=>h) ?_ hmy hden;cases o.dst<;>rfl
    .exact hden.elim
   .exact hden.elim
  .exact hden.elim
theorem Zd0(hR:Rel D H0 w0 st E r H a w)(hu:st.under=true){o:Oper}{x:Operand}{isS:Bool}(ho:o.op=.next x isS)(hmy:D.may o)(hden:den P X (altH P st o x isS) E H L K):HeavyOk P o a w (z8w D H0 w0 st E H w a o [] L K) (PanOf H0 w0 X):=by
 unfold altH at hden;split at hden
 .rename_i args k e hargs hm;split at hden
  .rename_i hf;have he:=zne hR (o:=o) (fun cs b=>by rw[ho];intro h;cases h) (by rw[ho];exact hargs);rw[←ho]at hden;have hw:wpS P (execOp a.eval o) (Z0r (.tu [(false,[.bool])]) (.tu [(false,[.bool]),k,e]) E (fun E' H'=>K (z4k st o.dst (.tu [(false,[.bool])])) E' H' L) (fun E' H'=>K (z4k st o.dst (.tu [(false,[.bool]),k,e])) E' H' L)) (fun v H'=>X [{ v,recovered:=false }] H') H:=by rw[he];exact hden
   have f1:(RS.tu [(false,[Tag.bool])]).fine:=zn3 rfl;have f2:(RS.tu [(false,[Tag.bool]),k,e]).fine:=by
    intro x hx hb;rcases zmc.1 hx with rfl|hx
    .simp
    .exact zn3 hf x hx hb
   rcases Z0e _ _ _ H w hR.vis hw with⟨nx,w',H',hr,hadv,hk⟩|⟨v,w',H',hr,hadv,hk⟩
   .cases nx with
    |value v=>
     rcases hk with⟨vs,hts,rfl,hk⟩|⟨vs,hts,rfl,hk⟩
     .refine HeavyOk.value hr ⟨_,vs,_,_,?_,(hR.adv' hadv).res hu f1 hts o.dst hmy,(fun _=>⟨(fun x hx=>by cases hx),hadv⟩),hk⟩;cases o.dst<;>rfl
     .refine HeavyOk.value hr ⟨_,vs,_,_,?_,(hR.adv' hadv).res hu f2 hts o.dst hmy,(fun _=>⟨(fun x hx=>by cases hx),hadv⟩),hk⟩;cases o.dst<;>rfl
    |_=>exact hk.elim
   .intro next Q aa he' hn hq;unfold Oper.wp;rw[he',hr];exact hq _ _ ⟨H',hR.adv.trans hadv,hk⟩
  .exact hden.elim
 .exact hden.elim
theorem zrm(hR:Rel D H0 w0 st E r H a w)(hu:st.under=true){pub:List Nat}{o:Oper}{pend:List (SV×List SV)}(hp:z0s E H pend)(hmy:D.may o)(hden:den P X (zcm P pub st o pend) E H L K):HeavyOk P o a w (z8w D H0 w0 st E H w a o pend L K) (PanOf H0 w0 X):=by
 have g0:Guard.holds E r ([]:Guard):=fun x hx=>by cases hx
 obtain⟨dst,op,ty,pos,af,gd⟩:=o;unfold zcm at hden;simp only at hden;split at hden
 .rename_i T x;split at hden
  .rename_i cs hcs;obtain⟨v,hv,hc⟩:=qw.1 hcs;refine zuo hR hu hp ?_ hmy hden;have hcell:=z76 hR hc;simp[execOp,Instr.box,newVar,newRow,z1l hR g0 hv,hcell]
  .exact hden.elim
 .rename_i T;split at hden
  .rename_i cs hcs;obtain⟨v,hv,hc⟩:=qw.1 hcs;refine zuo hR hu hp ?_ hmy hden;have hcell:=z76 hR hc;simp[execOp,Instr.alloc,newVar,newRow,Z2m (P:=P) (w:=w) (E:=E) (r:=r) hv,hcell]
  .exact hden.elim
 .rename_i T p x;split at hden
  .rename_i d off cs i hp' hcs hi;obtain⟨v,hv,hc⟩:=qw.1 hcs;exact Z6f hR rfl (z0q hR g0 hp') (z1l hR g0 hv) hc hi (by simp[z7a,hp']) hden
  .rename_i s cs i _ hp' hcs hi;obtain⟨v,hv,hc⟩:=qw.1 hcs;exact Z65 hR rfl (z0q hR g0 hp') (z1l hR g0 hv) hc hi hden
  .exact hden.elim
 .rename_i T p;split at hden
  .rename_i s i hs hi;exact Za6 hR hu rfl (z0q hR g0 hs) hi hp hmy hden
  .exact hden.elim
 .rename_i c;split at hden
  .rename_i f hf;split at hden
   .rename_i fv vs hfv hvs;exact Z9o hR hu rfl hf (z0q hR g0 hfv) hvs hmy hden
   .exact hden.elim
  .exact zwx hR hu hmy hden
 .rename_i x isS;split at hden
  .rename_i he;have:pend=[]:=List.isEmpty_iff.1 he;subst this;exact Zd0 hR hu rfl hmy hden
  .exact hden.elim
 .exact zwx hR hu hmy hden
theorem Z7v(hR:Rel D H0 w0 st E r H a w){pub:List Nat}{o:Oper}{pend:List (SV×List SV)}(hb:z7a st o=true)(hden:den P X (zcm P pub st o pend) E H L K):HeavyOk P o a w (PostB D H0 w0 st E H a o L K) (PanOf H0 w0 X):=by
 have g0:Guard.holds E r ([]:Guard):=fun x hx=>by cases hx
 obtain⟨dst,op,ty,pos,af,gd⟩:=o;unfold z7a at hb;simp only at hb;split at hb
 .rename_i T p x;unfold zcm at hden;simp only at hden;split at hb
  .rename_i d off hp;rw[hp]at hden;split at hden
   .rename_i d' off' cs i hp' hcs hi;cases hp';obtain⟨v,hv,hc⟩:=qw.1 hcs;exact zqx hR rfl (z0q hR g0 hp) (z1l hR g0 hv) hc hi hden
   .rename_i hno hp' _ _;cases hp';exact(hno _ _ rfl).elim
   .exact hden.elim
  .cases hb
 .cases hb
end
section
variable {P:Program}{D:Prot}{H0:PH}{w0:World}{st:St}{E:List Value}{r:Nat→Nat}{H:PH}{a:Act}{w:World}{X:List PanicEntry→PH→Prop}{L:LK}
theorem zkk{α:Type}{g:Guard}{k:Fm α}{K:α→List Value→PH→LK→Prop}:∀{cks:List Chk},den P X (chksL g cks k) E H L K →
  (∀c∈cks,c.noBox=true∧(Guard.holds E r g→c.holds E))∧den P X k E H L K
 | [],h=>⟨(fun c hc=>by cases hc),h⟩
 |c::cks,h=>by
  simp only[chksL]at h;split at h
  .rename_i hc;obtain⟨h1,h2⟩:=h;obtain⟨i1,i2⟩:=zkk h2;refine⟨fun d hd=>?_,i2⟩;rcases zmc.1 hd with rfl|hd
   .refine⟨hc.1,fun hg=>h1 fun x hx=>?_⟩;have:=hg x hx;rwa[za4 r (fun _=>0) _ (zat.1 hc.2 x hx)]at this
   .exact i1 d hd
  .exact h.elim
theorem zx7{ops:Array Oper}{j d:Nat}{e:Ent}(hR:Rel D H0 w0 st E r H a w)(hd:(ops[j]?).bind (·.dst)=some d)(he:st.fr[d]?=some e):
  yielded ops a.tmps j=match a.tmps.getD d undef with
   | .bool b=>some b
   |_=>none:=by
 have hlt:d<a.tmps.size:=by
  rw[hR.size];rcases Nat.lt_or_ge d st.fr.length with h|h
  .exact h
  .simp[wu h]at he
 unfold yielded;rw[hd];simp[hlt];cases a.tmps[d]<;>rfl
theorem zdz(hR:Rel D H0 w0 st E r H a w){ops:Array Oper}{o:Oper}{G:Guard}(h:z45 ops st o=.ctx G):
  (Guard.holds E r G→Region.wanted o (yielded ops a.tmps)=true)∧(¬Guard.holds E r G→Region.wanted o (yielded ops a.tmps)=false):=by
 unfold z45 at h;split at h
 .rename_i hn;cases h;refine⟨fun _=>by simp[Region.wanted,hn],fun h=>absurd (fun x hx=>by cases hx) h⟩
 .rename_i j want hj;split at h
  .cases h
  .rename_i d hd;split at h
   .cases h
   .rename_i e he;split at h
    .split at h<;>cases h
    .rename_i hcon;have hy:=zx7 hR hd he;have hw:Region.wanted o (yielded ops a.tmps)=(yielded ops a.tmps j==some want):=by simp[Region.wanted,hj]
     have hleft:Guard.holds E r (e.g.filter fun x=>!hasG st.asu x)↔Guard.holds E r e.g:=by
      constructor
      .intro hh x hx;by_cases hx':hasG st.asu x=true
       .exact hR.asu.holds x (z7e hx')
       .exact hh x (zmf.2 ⟨hx,by simpa using hx'⟩)
      .intro hh x hx;exact hh x (zmf.1 hx).1
     simp only at h;split at h
     .rename_i s hs;have hfr:=hR.fr d e he (by rw[hs];intro h;cases h);have hlit:=zuy (s:=s) hR.asu;split at h
      .rename_i b hb;rw[hb]at hlit;have hev:ev E r s=.bool b:=hlit.symm;split at h
       .rename_i hbw;cases h;refine⟨fun hG=>?_,fun hG=>?_⟩
        .have:=hfr.1 (hleft.1 hG);rw[hs]at this;rw[hw,hy,this];simp[evV,hev,hbw]
        .have:=hfr.2 (fun h=>hG (hleft.2 h));rw[hw,hy,this];simp[undef]
       .cases h
      .rename_i c hc;split at h
       .rename_i ht;cases h;have hb:=zbf (z0u hR ht);rw[hlit]at hb;refine⟨fun hG=>?_,fun hG=>?_⟩
        .have h1:=hfr.1 (hleft.1 fun x hx=>hG x (zma.2 (.inl hx)));have h2:bOf (ev E r (litOf st.asu s))=want:=hG _ (zma.2 (.inr (zsi.2 rfl)));rw[hlit]at h2;rw[hs]at h1;rw[hw,hy,h1];simp only[evV];rw[hb,h2];simp
        .rw[hw,hy];by_cases hg:Guard.holds E r e.g
         .have h1:=hfr.1 hg;rw[hs]at h1;have h2:bOf (ev E r s)≠want:=fun h2=>hG (Guard.append (hleft.2 hg) (fun x hx=>by
           rw[zsi.1 hx];show bOf (ev E r (litOf st.asu s))=want;rw[hlit];exact h2))
          rw[h1];simp only[evV];rw[hb];simpa using h2
         .rw[hfr.2 hg];simp[undef]
       .cases h
     .cases h
     .cases h
theorem zfb(hR:Rel D H0 w0 st E r H a w){ops:Array Oper}{o:Oper}(h:z45 ops st o=.never):Region.wanted o (yielded ops a.tmps)=false:=by
 unfold z45 at h;split at h
 .cases h
 .rename_i j want hj;split at h
  .cases h
  .rename_i d hd;split at h
   .cases h
   .rename_i e he;have hy:=zx7 hR hd he;have hw:Region.wanted o (yielded ops a.tmps)=(yielded ops a.tmps j==some want):=by simp[Region.wanted,hj]
    split at h
    .rename_i hcon;obtain⟨x,hx,hxa⟩:=wl.1 hcon;split at h
     .cases h
     .rename_i hnj;have hng:¬Guard.holds E r e.g:=fun hh=>by
       have h1:=hh x hx;have h2:ev E r x.1=.bool (!x.2):=hR.asu _ (z7e hxa);rw[h2]at h1;simp[bOf]at h1
      have:=(hR.fr d e he (fun h=>hnj h)).2 hng;rw[hw,hy,this];simp[undef]
    .simp only at h;split at h
     .rename_i s hs;have hfr:=hR.fr d e he (by rw[hs];intro h;cases h);have hlit:=zuy (s:=s) hR.asu;split at h
      .rename_i b hb;rw[hb]at hlit;have hev:ev E r s=.bool b:=hlit.symm;split at h
       .cases h
       .rename_i hbw;rw[hw,hy];by_cases hg:Guard.holds E r e.g
        .have h1:=hfr.1 hg;rw[hs]at h1;rw[h1];simpa[evV,hev]using hbw
        .rw[hfr.2 hg];simp[undef]
      .split at h<;>cases h
     .rename_i hs;have hfr:=hR.fr d e he (by rw[hs];intro h;cases h);rw[hw,hy];by_cases hg:Guard.holds E r e.g
      .rw[hfr.1 hg,hs];simp[evV]
      .rw[hfr.2 hg];simp[undef]
     .cases h
theorem zqi{pub:List Nat}{ops:Array Oper}{Q:Exit→Act→World→Prop}:∀(n:Nat)(rest:List Oper),(∀o∈rest,D.may o)→∀(st:St)(E:List Value)(r:Nat→Nat)(H:PH)(a:Act)(w:World)(K:St→List Value→PH→LK→Prop),
  Rel D H0 w0 st E r H a w→den P X (z5r P pub ops n rest st) E H L K →
  (∀st' F r' H' a' w',st'.nl=st.nl→Rel D H0 w0 st' (E++F) r' H' a' w'→K st' (E++F) H' L→Q .normal a' w') →
  (∀ch a' w',PanOf H0 w0 X ch w'→D.ok a'→Q (.panic ch) a' w')→wpList P ops Q rest a w:=by
 intro n
 induction n with
 |zero=>intro rest _ st E r H a w K hR hden;cases rest<;>exact hden.elim
 |succ n ih=>
  intro rest hm st E r H a w K hR hden hK hX;cases rest with
  |nil=>
   have hden':K st E H L:=hden;exact hK st [] r H a w rfl (by rw[zan];exact hR) (by rw[zan];exact hden')
  |cons o rest=>
   have hmo:D.may o:=hm o (zms);have hmr:∀o'∈rest,D.may o':=fun o' h=>hm o' (zmm _ h);simp only[z5r]at hden;have hnl:∀(s:St)(d:Option Nat)(e:Ent),(s.set d e).nl=s.nl:=fun s d e=>by cases d<;>rfl
   split at hden
   .exact hden.elim
   .rename_i hg;have hw:=zfb hR hg;unfold wpList;rw[hw];refine ih rest hmr _ E r H _ w K (hR.put o.dst [] (.tu []) undef (fun _=>rfl) (fun _=>rfl) hmo) hden ?_ hX;intro st' F r' H' a' w' h1 h2 h3;exact hK st' F r' H' a' w' (h1.trans (hnl _ _ _)) h2 h3
   .rename_i G hg;have hw:=zdz hR hg;split at hden
    .rename_i cks v hl;obtain⟨hc,hk⟩:=zkk (r:=r) hden;have hnl2:(learn (st.set o.dst ⟨G,v⟩) G cks).nl=st.nl:=by
      unfold learn;split<;>exact hnl _ _ _
     unfold wpList;by_cases hG:Guard.holds E r G
     .have hck:∀c∈cks,c.noBox=true∧c.holds E:=fun c hc'=>⟨(hc c hc').1,(hc c hc').2 hG⟩;rw[hw.1 hG];refine .inl ?_;have hrun:=zrv hR hG hl hck o.dst o.type o.pos o.after o.guard;unfold Oper.wp;rw[hrun];show wpList P ops Q rest (a.put o.dst (evV E r v)) w;refine ih rest hmr _ E r H _ w K ((hR.put o.dst G v _ (fun _=>rfl) (fun h=>absurd hG h) hmo).learn (fun _=>hck)) hk ?_ hX;intro st' F r' H' a' w' h1 h2 h3;exact hK st' F r' H' a' w' (h1.trans hnl2) h2 h3
     .rw[hw.2 hG];refine ih rest hmr _ E r H _ w K ((hR.put o.dst G v undef (fun h=>absurd h hG) (fun _=>rfl) hmo).learn (fun h=>absurd (by subst h;exact fun x hx=>by cases hx) hG)) hk ?_ hX;intro st' F r' H' a' w' h1 h2 h3;exact hK st' F r' H' a' w' (h1.trans hnl2) h2 h3
    .split at hden
     .split at hden
      .rename_i hu;rw[z3b]at hden;have hG:Guard.holds E r ([]:Guard):=fun x hx=>by cases hx
       unfold wpList;rw[hw.1 hG];refine .inl ?_;have hh:=zrm (pend:=[]) hR hu (fun x hx=>by cases hx) hmo hden;refine hh (wpList P ops Q rest) Q a rfl ?_ ?_
       .rintro v w' ⟨st',F,r',H',h1,h2,_,h4⟩;refine ih rest hmr st' (E++F) r' H' _ w' K h2 h4 ?_ hX;intro st'' F' r'' H'' a'' w'' g1 g2 g3;rw[zaa]at g2 g3;exact hK st'' (F++F') r'' H'' a'' w'' (g1.trans h1) g2 g3
       .intro ch w' hp;exact hX ch a w' hp hR.df
      .exact hden.elim
     .rename_i c _ _ _;split at hden
      .rename_i hc;have hb:=zbf (z0u hR hc.2);have hb0:bOf (ev0 E c)=bOf (ev E r c):=by rw[z14 hc.1]
       cases hbb:bOf (ev E r c)with
       |true=>
        rw[hbb]at hb hb0;exact ih (o::rest) hm _ E r H a w K (hR.assume hb) (hden.1 hb0) hK hX
       |false=>
        rw[hbb]at hb hb0;exact ih (o::rest) hm _ E r H a w K (hR.assume hb) (hden.2 hb0) hK hX
      .exact hden.elim
end
