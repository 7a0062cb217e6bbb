import Derived.Test.YtfkclejklgoccaaGreatPd
import Derived.RangeFuncRecord
import Derived.TacticsIn
import Derived.OrdersIn
set_option linter.unusedSimpArgs false
set_option linter.unusedVariables false
set_option maxRecDepth 100000
namespace Go.Proofs.YtfkclejklgoccaaGreat.Vc
open Go
section
variable {P:Program}{D:Prot}{H0:PH}{w0:World}{st:St}{E:List Value}{r:Nat→Nat}{H:PH}{a:Act}{w:World}{X:List PanicEntry→PH→Prop}{L:LK}
theorem zk7:∀(ts:List Tag)(n:Nat),(z1v n ts).all (SV.under (n+ts.length))=true
 | [],n=>rfl
 |t::ts,n=>by
  simp only[z1v,List.all_cons,zba,zlc];refine⟨by simp[SV.under],?_⟩;rw[show n+(ts.length+1)=n+1+ts.length by omega];exact zk7 ts (n+1)
theorem zur:∀{ts us:List Tag} {vs:List Value},z07 (ts++us) vs=true→z07 us (vs.drop ts.length)=true
 | [],us,vs,h=>by simpa using h
 |t::ts,us,[],h=>absurd h qk
 |t::ts,us,v::vs,h=>by
  simp only[List.cons_append,z07,zba]at h;simpa using zur h.2
theorem zg8:∀(l:List RS)(E1 E2:List Value),l.all RS.plain=true→z07 (l.flatMap RS.tags) E2=true →
  (z2z E1.length l).length=l.length∧(z19 l E2).length=l.length∧∀(t:Nat)(e:Ent),(z2z E1.length l)[t]?=some e→∃v,(z19 l E2)[t]?=some v∧e.g=[]∧evV (E1++E2) r e.v=v
 | [],E1,E2,_,_=>⟨rfl,rfl,fun t e h=>by simp[z2z]at h⟩
 |rs::l,E1,E2,hp,ht=>by
  simp only[List.all_cons,zba]at hp;simp only[qQ]at ht;have hlen:rs.tags.length≤E2.length:=by have:=z1a ht;simp at this;omega
  have h1:z07 rs.tags (E2.take rs.tags.length)=true:=by
   have:=zlw ht rs.tags.length;simpa using this
  have h2:z07 (l.flatMap RS.tags) (E2.drop rs.tags.length)=true:=zur ht;have hE1:(E1++E2.take rs.tags.length).length=E1.length+rs.tags.length:=by simp;omega
  obtain⟨i1,i2,i3⟩:=zg8 l (E1++E2.take rs.tags.length) (E2.drop rs.tags.length) hp.2 h2;rw[hE1]at i1 i3;refine⟨by simp[z2z,i1],by simp[z19,i2],fun t e he=>?_⟩;cases t with
  |zero=>
   simp only[z2z,List.getElem?_cons_zero,qG]at he;subst he;refine⟨rs.pack (E2.take rs.tags.length),by simp only[z19,List.getElem?_cons_zero],rfl,?_⟩;have hf:rs.fine:=by cases rs<;>first|trivial|exact absurd hp.1 qk
   have hu:(rs.ve E1.length).under (E1++E2.take rs.tags.length).length=true:=by
    rw[hE1];cases rs with
    |sc t=>simp[RS.ve,VE.under,SV.under,RS.tags]
    |ag ts=>exact zk7 ts _
    |tu l=>exact absurd hp.1 qk
   have h3:=RS.pack_ev (r:=r) hf (E:=E1) h1;rw[←h3,←Zb6 (F:=E2.drop rs.tags.length) hu,zaa,List.take_append_drop]
  |succ t=>
   simp only[z2z,List.getElem?_cons_succ]at he;obtain⟨v,hv,hg,hev⟩:=i3 t e he;refine⟨v,by simpa[z19]using hv,hg,?_⟩;rw[←hev,zaa,List.take_append_drop]
def QX(D:Prot)(H0:PH)(w0:World)(X:List PanicEntry→PH→Prop)(N:Act→World→Prop):Exit→Act→World→Prop
 | .normal,a,w=>N a w
 | .panic ch,a,w=>PanOf H0 w0 X ch w∧D.ok a
 |_,_,_=>False
theorem zw6{N:Act→World→Prop}:¬LetsOut (QX D H0 w0 X N):=fun⟨_,_,h⟩=>h
def fw:Option Nat→Fence
 |none=>Fence.wide
 |some l=>Fence.wide.inRound l
theorem Zez{l m:Nat}{f:FuncId}{args:Array Value}{R:Ending→World→Prop}(h:Calls P f args w R):CallsIn (Fence.wide.inRound l) m P f args w R:=callsIn_wide.2 h
theorem Zjc{l m:Nat}{row:String}{args:Array Value}{R:Value→World→Prop}(h:Rows P row args w R):RowsIn (Fence.wide.inRound l) m P row args w R:=
 fun c cs _=>let⟨v,w',r,s⟩:=h c cs;⟨v,w',r,stepsIn_wide.2 s⟩
theorem Z1r{l m:Nat}{o:Oper}{K:Act→World→Prop}{Q:Exit→Act→World→Prop}(hd:noDef o=true)(h:o.wp P a w K Q):o.wpIn (Fence.wide.inRound l) m P a w K Q:=by
 have hs:o.semAt (some l) a.eval=execOp a.eval o:=Oper.semAt_some _ _ _ fun c hc=>by simp[noDef,hc]at hd
 refine⟨fun _ _=>trivial,?_⟩;show o.uponIn _ _ _ _ _ _ ((o.semAt (some l) a.eval).run P w);rw[hs];unfold Oper.wp at h;generalize(execOp a.eval o).run P w=res at h⊢;cases res with
 |ok x w'=>
  cases x
  case enter f args=>exact⟨fun h=>absurd h (by simp[Fence.wide]),Zez h⟩
  case row rw args=>exact⟨fun h=>absurd h (by simp[Fence.wide]),Zjc h⟩
  all_goals first|exact h|exact h.elim
 |halt x w'=>cases x<;>exact h
theorem Z2f{l m:Nat}{ops:Array Oper}{Q:Exit→Act→World→Prop}(hQ:¬LetsOut Q):∀(os:List Oper),(∀o∈os,noDef o=true)→∀(a:Act)(w:World),wpList P ops Q os a w→wpListIn (Fence.wide.inRound l) m P ops Q os a w
 | [],_,a,w,h=>h
 |o::os,hd,a,w,h=>by
  have ih:=Z2f (l:=l) (m:=m) (ops:=ops) hQ os fun o ho=>hd o (zmm _ ho);unfold wpList at h;unfold wpListIn;split at h
  .rename_i hw;rw[qj hw];rcases h with h|h
   .exact Oper.wpIn_mono (fun a w h=>ih a w h) (Z1r (hd o (zms)) h)
   .exact absurd h.2 hQ
  .rename_i hw;rw[qc hw];exact⟨fun _ _=>trivial,ih _ _ h⟩
theorem zpw{l m:Nat}{md:Region.Mode}{ops:Array Oper}{Q:Exit→Act→World→Prop}(hQ:¬LetsOut Q)(hd:∀o∈ops.toList,noDef o=true):∀(fuel:Nat)(listed:Array Bool)(a:Act)(w:World),
  wpAny P md ops Q fuel listed a w→wpAnyIn (Fence.wide.inRound l) m P md ops Q fuel listed a w
 |0,listed,a,w,h=>h
 |fuel+1,listed,a,w,h=>by
  refine⟨h.1,fun i hi=>?_⟩;have h1:=h.2 i hi;unfold wpOp at h1;unfold wpOpIn;split at h1
  .rename_i ho;simp only[ho];exact zpw hQ hd fuel _ a w h1
  .rename_i o ho;simp only[ho];split at h1
   .rename_i hw;rw[qj hw];rcases h1 with h1|h1
    .exact Oper.wpIn_mono (fun a w h=>zpw hQ hd fuel _ a w h) (Z1r (hd o (Array.mem_toList_iff.2 (Array.mem_of_getElem? ho))) h1)
    .exact absurd h1.2 hQ
   .rename_i hw;rw[qc hw];exact⟨fun _ _=>trivial,zpw hQ hd fuel _ _ w h1⟩
theorem Adv.swap{H':PH}{w' W W':World}{l:Nat}(h:Adv H w H' w')(hn:H l=none)(hl:l<w.heap.size)(s1:W.heap.size=w.heap.size)(s2:W'.heap.size=w'.heap.size)(o1:∀k,k≠l→W.heap[k]?=w.heap[k]?)(o2:∀k,k≠l→W'.heap[k]?=w'.heap[k]?)
  (ol:W'.heap[l]?=W.heap[l]?) (e1:W.os=w.os∧W.tape=w.tape∧W.output=w.output) (e2:W'.os=w'.os∧W'.tape=w'.tape∧W'.output=w'.output):Adv H W H' W':=by
 have hn':=(h.old l hl hn).2;refine⟨by rw[s1,s2];exact h.size,fun k o hk=>?_,fun k hk hkn=>?_,by rw[e1.1,e2.1];exact h.os,by rw[e1.2.1,e2.2.1];exact h.tape,by rw[e1.2.2,e2.2.2];exact h.out⟩
 .rw[o2 k (fun e=>by rw[e,hn']at hk;cases hk)];exact h.vis k o hk
 .rw[s1]at hk;obtain⟨x1,x2⟩:=h.old k hk hkn;refine⟨?_,x2⟩;by_cases e:k=l
  .rw[e];exact ol
  .rw[o1 k e,o2 k e];exact x1
theorem Rel.turn(hR:Rel D H0 w0 st E r H a w)(hw:∀H' w',D.wk a.defers H' w'){l:Nat}(hn:H0 l=none)(hl:l<w0.heap.size)(o:Obj):Rel D H0 (w0.putObj l o) st E r H a (w.putObj l o):=by
 have hlw:=Nat.lt_of_lt_of_le hl hR.adv.size;refine { hR with adv:=?_,wk:=hw _ _,bx:=?_ }
 .exact hR.adv.swap hn hl World.putObj_size World.putObj_size (fun k hk=>World.putObj_heap_other hk) (fun k hk=>World.putObj_heap_other hk) (by rw[World.putObj_heap_same hl,World.putObj_heap_same hlw]) ⟨rfl,rfl,rfl⟩ ⟨rfl,rfl,rfl⟩
 .intro b hb;obtain⟨x1,x2,x3,x4⟩:=hR.bx b hb;refine⟨?_,x2,by rw[World.putObj_size];exact x3,x4⟩;rw[World.putObj_heap_other om];exact x1
theorem Z2c:∀(ts:List Tmp)(rs:List RS)(es:List Value)(n:Nat)(st:St)(a:Act),(∀t∈ts,D.free t=true)→ts.length=rs.length→es.length=rs.length →
  (∀(t:Nat)(e:Ent),(z2z n rs)[t]?=some e→∃v,es[t]?=some v∧e.g=[]∧evV E r e.v=v)→Rel D H0 w0 st E r H a w →
  Rel D H0 w0 (setPs st n ts rs) E r H { a with tmps:=(ts.zip es).foldl (fun tm x=>tm.setIfInBounds x.1 x.2) a.tmps } w
 | [],[],es,n,st,a,_,_,_,_,hR=>by simpa[setPs]using hR
 | [],_::_,es,n,st,a,_,h,_,_,hR=>by simp at h
 |_::_,[],es,n,st,a,_,h,_,_,hR=>by simp at h
 |t::ts,rs::l,[],n,st,a,_,_,h,_,hR=>by simp at h
 |t::ts,rs::l,v::es,n,st,a,hf,h1,h2,hev,hR=>by
  obtain⟨v',hv',hg,he⟩:=hev 0 ⟨[],rs.ve n⟩ (by simp[z2z]);simp only[List.getElem?_cons_zero,qG]at hv';subst hv';have h3:=hR.put (some t) [] (rs.ve n) v (fun _=>he.symm) (fun h=>absurd (fun x hx=>by cases hx) h) (fun x hx=>by cases hx;exact hf t (zms));refine Z2c ts l es (n+rs.tags.length) _ _ (fun t ht=>hf t (zmm _ ht)) (by simpa using h1) (by simpa using h2) (fun k e hk=>?_) h3;exact hev (k+1) e (by simpa[z2z]using hk)
end
def LExt(n:Nat)(L L':LK):Prop:=∀i,i<n→L'.lookup i=L.lookup i
theorem LExt.refl(n:Nat)(L:LK):LExt n L L:=fun _ _=>rfl
theorem LExt.trans{n m:Nat}{L L' L'':LK}(h:LExt n L L')(k:LExt m L' L'')(hm:n≤m):LExt n L L'':=fun i hi=>(k i om).trans (h i hi)
theorem LExt.cons{n:Nat}{L L':LK}{J:List Value→PH→Prop}(h:LExt (n+1) ((n,J)::L) L'):LExt n L L':=fun i hi=>by
 rw[h i om,List.lookup_cons];have:(i==n)=false:=by simp;omega
 rw[this]
theorem LExt.get{n:Nat}{L L':LK}{J:List Value→PH→Prop}(h:LExt (n+1) ((n,J)::L) L'):L'.lookup n=some J:=by
 rw[h n om,List.lookup_cons];simp
def exOf:Ex→Exit
 | .normal=>.normal
 | .exit id=>.exit id
 | .ret=>.ret
section
variable {P:Program}{D:Prot}{H0:PH}{w0:World}{X:List PanicEntry→PH→Prop}
def zb6(P:Program)(pub:List Nat):Prop:=∀(D:Prot)(H0:PH)(w0:World)(X:List PanicEntry→PH→Prop)(L:LK)(ops:Array Oper),(∀o∈ops.toList,D.may o)→∀(st:St)(E:List Value)(r:Nat→Nat)(H:PH)(a:Act)(w:World)(K:St→List Value→PH→LK→Prop)(N:Act→World→Prop),
 P.follows .mixedOrders=true→Rel D H0 w0 st E r H a w→den P X (drawR P pub ops st) E H L K →
 (∀st' F r' H' a' w',st'.nl=st.nl→Rel D H0 w0 st' (E++F) r' H' a' w'→K st' (E++F) H' L→N a' w') →
 wpAny P .any ops (QX D H0 w0 X N) ops.size (Array.replicate ops.size false) a { w with drawn:=w.drawn+1 }
theorem zxd{E:List Value}{r:Nat→Nat}{e f:Ent}(h:zn2 e f=true):e.g=[]∧f.g=[]∧evV E r e.v=evV E r f.v∧(e.v=.junk→False)∧(f.v=.junk→False):=by
 simp only[zn2,zba]at h;obtain⟨⟨h1,h2⟩,h3⟩:=h;refine⟨List.isEmpty_iff.1 h1,List.isEmpty_iff.1 h2,?_,?_,?_⟩
 .generalize e.v=x at h3⊢;generalize f.v=y at h3⊢;cases x<;>cases y<;>simp only[VE.same]at h3<;>first
   |exact absurd h3 qk
   |skip
  .rw[z1q h3]
  .rename_i xs ys;simp only[zba,beq_iff_eq]at h3;have:xs=ys:=by
    obtain⟨hl,ha⟩:=h3
    induction xs generalizing ys with
    |nil=>cases ys with
     |nil=>rfl
     |cons y ys=>simp at hl
    |cons x xs ih=>cases ys with
     |nil=>simp at hl
     |cons y ys=>
      simp only[List.zip_cons_cons,List.all_cons,zba]at ha;rw[z1q ha.1,ih ys (by simpa using hl) ha.2]
   rw[this]
  .rename_i xs ys;simp only[zba,beq_iff_eq]at h3;have e1:xs=[]:=qV.1 h3.1;have e2:ys=[]:=qV.1 h3.2;subst e1 e2;rfl
 .intro hj;rw[hj]at h3;cases hf:f.v<;>rw[hf]at h3<;>exact absurd h3 qk
 .intro hj;rw[hj]at h3;cases hf:e.v<;>rw[hf]at h3<;>exact absurd h3 qk
theorem zu9{c:SV}:∀{es fs gs:List Ent},es.length=fs.length→es.length=gs.length→(z89 c es fs gs).length=es.length ∧
  ∀(t:Nat)(m:Ent),(z89 c es fs gs)[t]?=some m→(m.v=.junk→False)→∃e f,es[t]?=some e∧fs[t]?=some f∧m.g=[]∧((zn2 e f=true∧m=e)∨(e.g=[]∧f.g=[]∧∃x y,e.v=.sc x∧f.v=.sc y∧m.v=.sc (.pick c x y)))
 | [],fs,gs,h1,h2=>by
  refine⟨by simp[z89],fun t m hm=>by simp[z89]at hm⟩
 |e::es,[],gs,h1,h2=>by simp at h1
 |e::es,f::fs,[],h1,h2=>by simp at h2
 |e::es,f::fs,g::gs,h1,h2=>by
  obtain⟨i1,i2⟩:=zu9 (c:=c) (es:=es) (fs:=fs) (gs:=gs) (by simpa using h1) (by simpa using h2);refine⟨by simp[z89,i1],fun t m hm hj=>?_⟩;cases t with
  |zero=>
   simp only[z89,List.getElem?_cons_zero,qG]at hm;refine⟨e,f,rfl,rfl,?_⟩;split at hm
   .rename_i hs;subst hm;exact⟨(zxd (E:=[]) (r:=fun _=>0) hs).1,.inl ⟨hs,rfl⟩⟩
   .split at hm
    .rename_i s x y he hf hg hx hy;subst hm;exact⟨rfl,.inr ⟨he,hf,x,y,hx,hy,rfl⟩⟩
    .subst hm;exact absurd rfl (fun h=>hj h)
  |succ t=>
   simp only[z89,List.getElem?_cons_succ]at hm;obtain⟨e',f',h3,h4,h5⟩:=i2 t m hm hj;exact⟨e',f',by simpa using h3,by simpa using h4,h5⟩
theorem zug{c:SV}:∀{asu bs ms:List Bx},zdj c asu bs=some ms→ms.map (·.id)=asu.map (·.id)∧ms.map (·.id)=bs.map (·.id) ∧
  (∀m∈ms,∃x y,x∈asu∧y∈bs∧m.id=x.id∧m.id=y.id∧m.ty=x.ty∧m.ty=y.ty∧x.cs.length=y.cs.length∧m.cs=x.cs.zipWith (z9p c) y.cs)
 | [],[],ms,h=>by simp[zdj]at h;subst h;exact⟨rfl,rfl,fun m hm=>by cases hm⟩
 | [],b::bs,ms,h=>by simp[zdj]at h
 |a::asu,[],ms,h=>by simp[zdj]at h
 |a::asu,b::bs,ms,h=>by
  simp only[zdj]at h;split at h
  .rename_i rr hr;split at h
   .rename_i hc;cases h;obtain⟨i1,i2,i3⟩:=zug hr;refine⟨by simp[i1],by simp[i2,hc.1],fun m hm=>?_⟩;rcases zmc.1 hm with rfl|hm
    .exact⟨a,b,zms,zms,rfl,hc.1,rfl,hc.2.1,hc.2.2,rfl⟩
    .obtain⟨x,y,h1,h2,h3⟩:=i3 m hm;exact⟨x,y,zmm _ h1,zmm _ h2,h3⟩
   .cases h
  .cases h
theorem Z6d{E:List Value}{r:Nat→Nat}{c:SV}:∀{xs ys:List SV},xs.length=ys.length→(xs.zipWith (z9p c) ys).map (ev E r)=if bOf (ev E r c)then xs.map (ev E r)else ys.map (ev E r)
 | [],[],_=>sM
 | [],y::ys,h=>by simp at h
 |x::xs,[],h=>by simp at h
 |x::xs,y::ys,h=>by
  simp only[List.zipWith_cons_cons,wa,zrr];rw[Z6d (by simpa using h)];split<;>rfl
theorem zut{E:List Value}{r:Nat→Nat}{H:PH}{a:Act}{w:World}{c:SV}{st s1 s2 s:St}(h:merge c st s1 s2=some s){b:Bool}(hb:bOf (ev E r c)=b)
  (hR:Rel D H0 w0 (if b then s1 else s2) E r H a w):Rel D H0 w0 s E r H a w:=by
 unfold merge at h;split at h
 .rename_i bs hbs;split at h
  .rename_i hc;cases h;obtain⟨c1,c2,c3,c4,c5,c6,c7,c8⟩:=hc;obtain⟨m1,m2,m3⟩:=zug hbs;obtain⟨e1,e2⟩:=zu9 (c:=c) (es:=s1.fr) (fs:=s2.fr) (gs:=st.fr) c4 c5;have pick:∀x y:SV,evV E r (.sc (.pick c x y))=if b then ev E r x else ev E r y:=fun x y=>by
    show(if bOf (ev E r c)=true then _ else _)=_;rw[hb]
   refine { adv:=hR.adv,tags:=?_,size:=?_,df:=hR.df,wk:=hR.wk,fr:=?_,bx:=?_,inj:=?_,nd:=?_,asu:=?_,kn:=?_ }
   .cases b
    .have:=hR.tags;simpa[c3]using this
    .exact hR.tags
   .cases b
    .have:=hR.size;simp only[qp,if_false]at this;rw[this,e1,c4]
    .have:=hR.size;simp only[if_true]at this;rw[this,e1]
   .intro t m hm hj;obtain⟨x,y,hx,hy,hg,hcase⟩:=e2 t m hm hj;have hnil:∀F:List Value,Guard.holds F r ([]:Guard):=fun F x hx=>by cases hx
    rw[hg];refine⟨fun _=>?_,fun h=>absurd (hnil E) h⟩;rcases hcase with⟨hs,rfl⟩|⟨hxg,hyg,x',y',hxv,hyv,hmv⟩
    .obtain⟨g1,g2,g3,g4,g5⟩:=zxd (E:=E) (r:=r) hs;cases b
     .have:=(hR.fr t y (by simpa using hy) (fun h=>g5 h)).1 (by rw[g2];exact hnil E);rw[this,g3]
     .exact(hR.fr t m (by simpa using hx) (fun h=>g4 h)).1 (by rw[g1];exact hnil E)
    .rw[hmv,pick];cases b
     .have:=(hR.fr t y (by simpa using hy) (by rw[hyv];intro h;cases h)).1 (by rw[hyg];exact hnil E);rw[this,hyv];rfl
     .have:=(hR.fr t x (by simpa using hx) (by rw[hxv];intro h;cases h)).1 (by rw[hxg];exact hnil E);rw[this,hxv];rfl
   .intro m hm;obtain⟨x,y,hx,hy,i1,i2,i3,i4,i5,i6⟩:=m3 m hm;cases b
    .obtain⟨z1,z2,z3,z4⟩:=hR.bx y (by simpa using hy);rw[i2];refine⟨?_,z2,z3,by simpa[c1]using z4⟩;rw[z1,i6,Z6d i5,hb,i4];rfl
    .obtain⟨z1,z2,z3,z4⟩:=hR.bx x (by simpa using hx);rw[i1];refine⟨?_,z2,z3,by simpa using z4⟩;rw[z1,i6,Z6d i5,hb,i3];rfl
   .intro m hm n hn he;obtain⟨x,y,hx,hy,i1,i2,_⟩:=m3 m hm;obtain⟨x',y',hx',hy',j1,j2,_⟩:=m3 n hn;cases b
    .rw[i2,j2]at he⊢;exact hR.inj y (by simpa using hy) y' (by simpa using hy') he
    .rw[i1,j1]at he⊢;exact hR.inj x (by simpa using hx) x' (by simpa using hx') he
   .cases b
    .have:=hR.nd;simp only[qp,if_false]at this;show(bs.map (·.id)).Nodup;rw[m2];exact this
    .have:=hR.nd;simp only[if_true]at this;show(bs.map (·.id)).Nodup;rw[m1];exact this
   .intro x hx;cases b
    .exact hR.asu x (by simpa using z7e (zat.1 c7 x hx))
    .exact hR.asu x (by simpa using z7e (zat.1 c6 x hx))
   .intro k hk;have:=zat.1 c8 k hk;simp only[zba]at this;cases b
    .obtain⟨d,hd,he⟩:=wl.1 this.2;rw[zb8 he];exact hR.kn d (by simpa using hd)
    .obtain⟨d,hd,he⟩:=wl.1 this.1;rw[zb8 he];exact hR.kn d (by simpa using hd)
  .cases h
 .cases h
def Z6o(P:Program)(op:Opt)(ro:Option Nat)(D:Prot)(H0:PH)(w0:World)(X:List PanicEntry→PH→Prop)(c:Code):Prop:=
 ∀(m:Nat)(st:St)(E:List Value)(r:Nat→Nat)(H:PH)(a:Act)(w:World)(L:LK)(K:Ex×St→List Value→PH→LK→Prop)(Q:Exit→Act→World→Prop),
  Rel D H0 w0 st E r H a w→den P X (execC P op c st) E H L K →
  (∀e st' F r' H' L' a' w',Rel D H0 w0 st' (E++F) r' H' a' w'→LExt st.nl L L'→st.nl≤st'.nl→K (e,st') (E++F) H' L'→Q (exOf e) a' w') →
  (∀ch a' w',PanOf H0 w0 X ch w'→D.ok a'→Q (.panic ch) a' w')→c.wpIn (fw ro) m P Q a w
theorem Zan{op:Opt}{ro:Option Nat}(hi:op.inr=ro.isSome)(hd:zb6 P op.pub)(id:Nat)(ops:Array Oper)(draw:Bool)(hm:∀o∈ops.toList,D.may o):Z6o P op ro D H0 w0 X (.region id ops draw):=by
 intro m st E r H a w L K Q hR hden hK hX;simp only[execC]at hden;split at hden
 .exact hden.elim
 rename_i hnd;have hnd':ro≠none→∀o∈ops.toList,noDef o=true:=by
  intro hro;have:op.inr=true:=by rw[hi];cases ro<;>simp_all
  simp only[this,true_and]at hnd;cases hall:ops.toList.all noDef with
  |true=>exact zat.1 hall
  |false=>exact absurd hall hnd
 rw[z3b]at hden;have hQ:∀e a' w',QX D H0 w0 X (Q .normal) e a' w'→Q e a' w':=by
  intro e a' w' h;cases e with
  |normal=>exact h
  |panic ch=>exact hX ch a' w' h.1 h.2
  |_=>exact h.elim
 cases draw with
 |true=>
  simp only[if_true]at hden;split at hden
  .rename_i hmx;have h:=hd D H0 w0 X L ops hm st E r H a w _ (Q .normal) hmx hR hden fun st' F r' H' a' w' h1 h2 h3=>hK .normal st' F r' H' L a' w' h2 (LExt.refl _ _) (Nat.le_of_eq h1.symm) h3;refine wpIn_mono ?_ hQ;cases ro with
   |none=>exact wpIn_wide.2 (wp_region_any hmx h)
   |some l=>exact wpIn_region_any hmx (zpw zw6 (hnd' sM) _ _ _ _ h)
  .exact hden.elim
 |false=>
  simp only[qp,if_false]at hden;have h:wpList P ops (QX D H0 w0 X (Q .normal)) ops.toList a w:=by
   refine zqi 400 ops.toList hm st E r H a w _ hR hden ?_ fun ch a' w' h1 h2=>⟨h1,h2⟩;intro st' F r' H' a' w' h1 h2 h3;exact hK .normal st' F r' H' L a' w' h2 (LExt.refl _ _) (Nat.le_of_eq h1.symm) h3
  refine wpIn_mono ?_ hQ;cases ro with
  |none=>exact wpIn_wide.2 (wp_region_list h)
  |some l=>exact wpIn_region_list (Z2f zw6 _ (hnd' sM) _ _ h)
def FarOk(P:Program)(op:Opt)(D:Prot)(H0:PH)(w0:World)(X:List PanicEntry→PH→Prop)(g:Operand)(ps:Array Tmp)(asg b:Code):Prop:=Z6o P op none D H0 w0 X (.rangeFunc g ps asg b)
theorem z87{op:Opt}{ro:Option Nat}(hi:op.inr=ro.isSome)(hfar:ro=none→∀g ps asg b,FarOk P op D H0 w0 X g ps asg b)(hd:zb6 P op.pub):∀c:Code,(∀o∈z5x c,D.may o)→Z6o P op ro D H0 w0 X c:=by
 intro c
 induction c with
 |skip=>
  intro hm m st E r H a w L K Q hR hden hK hX;exact wpIn_skip (hK .normal st [] r H L a w (by rw[zan];exact hR) (LExt.refl _ _) (we _) (by rw[zan];exact hden))
 |label l=>
  intro hm m st E r H a w L K Q hR hden hK hX;exact wpIn_label (hK .normal st [] r H L a w (by rw[zan];exact hR) (LExt.refl _ _) (we _) (by rw[zan];exact hden))
 |exit id=>
  intro hm m st E r H a w L K Q hR hden hK hX;exact wpIn_exit (hK (.exit id) st [] r H L a w (by rw[zan];exact hR) (LExt.refl _ _) (we _) (by rw[zan];exact hden))
 |ret=>
  intro hm m st E r H a w L K Q hR hden hK hX;exact wpIn_ret (hK .ret st [] r H L a w (by rw[zan];exact hR) (LExt.refl _ _) (we _) (by rw[zan];exact hden))
 |region id ops draw=>exact fun hm=>Zan hi hd id ops draw hm
 |scope b ih=>
  intro hm m st E r H a w L K Q hR hden hK hX
  replace ih:=ih hm
  simp only[execC]at hden;split at hden
  .exact hden.elim
  rename_i hin;have hro:ro=none:=by cases ro<;>simp_all
  subst hro;refine wpIn_wide.2 (wp_scope_straight (wpIn_wide.1 (ih m st E r H a w L K _ hR hden ?_ ?_)))
  .intro e st' F r' H' L' a' w' h1 h2 h3 h4;have:=hK e st' F r' H' L' a' w' h1 h2 h3 h4;cases e<;>exact this
  .exact hX
 |block id b ih=>
  intro hm m st E r H a w L K Q hR hden hK hX
  replace ih:=ih hm
  simp only[execC]at hden;rw[z3b]at hden;refine wpIn_block (ih m st E r H a w L _ _ hR hden ?_ hX);intro e st' F r' H' L' a' w' h1 h2 h3 h4;cases e with
  |normal=>exact hK .normal st' F r' H' L' a' w' h1 h2 h3 h4
  |ret=>exact hK .ret st' F r' H' L' a' w' h1 h2 h3 h4
  |exit j=>
   simp only at h4;show Exit.inBlock id Q (.exit j) a' w';by_cases hj:j=id
   .rw[qj hj]at h4;simp only[Exit.inBlock,qj hj];exact hK .normal st' F r' H' L' a' w' h1 h2 h3 h4
   .rw[qc hj]at h4;simp only[Exit.inBlock,qc hj];exact hK (.exit j) st' F r' H' L' a' w' h1 h2 h3 h4
 |cond c x y ihx ihy=>
  intro hm m st E r H a w L K Q hR hden hK hX
  replace ihx:=ihx fun o h=>hm o (List.mem_append_left _ h)
  replace ihy:=ihy fun o h=>hm o (wq _ h)
  have g0:Guard.holds E r ([]:Guard):=fun x hx=>by cases hx
  simp only[execC]at hden;split at hden
  .rename_i b hb;have hc:a.eval c=.bool b:=z0q hR g0 hb;cases b with
   |true=>exact wpIn_cond_true hc (ihx m st E r H a w L K Q hR hden hK hX)
   |false=>exact wpIn_cond_false hc (ihy m st E r H a w L K Q hR hden hK hX)
  .rename_i s _ hs;split at hden
   .rename_i hcc;have hb:=zbf (z0u hR hcc.2);have hc:a.eval c=.bool (bOf (ev E r s)):=(z0q hR g0 hs).trans hb;have hb0:bOf (ev0 E s)=bOf (ev E r s):=by rw[z14 hcc.1]
    have key:∀(X1 X2:Fm (Ex×St)),X1=execC P op x (assume st s true)→X2=execC P op y (assume st s false)→den P X (iteL s st X1 X2) E H L K→(Code.cond c x y).wpIn (fw ro) m P Q a w:=by
     intro X1 X2 e1 e2 hd';have plain:den P X (.ite s X1 X2) E H L K→(Code.cond c x y).wpIn (fw ro) m P Q a w:=by
      intro hite;cases hbb:bOf (ev E r s)with
      |true=>
       rw[hbb]at hc hb hb0;exact wpIn_cond_true hc (ihx m _ E r H a w L K Q (hR.assume hb) (by rw[←e1];exact hite.1 hb0) hK hX)
      |false=>
       rw[hbb]at hc hb hb0;exact wpIn_cond_false hc (ihy m _ E r H a w L K Q (hR.assume hb) (by rw[←e2];exact hite.2 hb0) hK hX)
     unfold iteL at hd';split at hd'
     .rename_i s1 s2;split at hd'
      .rename_i sm hm;have hnl:sm.nl=s1.nl∧sm.nl=s2.nl:=by
        unfold merge at hm;split at hm
        .split at hm
         .rename_i hcm;cases hm;exact⟨rfl,hcm.2.1⟩
         .cases hm
        .cases hm
       have hshape:sm.nb=sm.nb:=rfl;cases hbb:bOf (ev E r s)with
       |true=>
        rw[hbb]at hc hb hb0;refine wpIn_cond_true hc (ihx m _ E r H a w L (fun z E' H' L'=>z=(.normal,s1)∧E'=E∧H'=H∧L'=L) Q (hR.assume hb) (by rw[←e1];exact⟨rfl,rfl,rfl,rfl⟩) ?_ hX);rintro e st' F r' H' L' a' w' h1 h2 h3 ⟨h4,h5,h6,h7⟩;cases h4;rw[h5]at h1;subst h6 h7;have hev:bOf (ev E r' s)=true:=by rw[za4 r' r s hcc.1];exact hbb
        have:=zut (b:=true) hm hev h1;refine hK .normal sm [] r' H' L' a' w' (by rw[zan];exact this) h2 (by rw[hnl.1];exact h3) (by rw[zan];exact hd')
       |false=>
        rw[hbb]at hc hb hb0;refine wpIn_cond_false hc (ihy m _ E r H a w L (fun z E' H' L'=>z=(.normal,s2)∧E'=E∧H'=H∧L'=L) Q (hR.assume hb) (by rw[←e2];exact⟨rfl,rfl,rfl,rfl⟩) ?_ hX);rintro e st' F r' H' L' a' w' h1 h2 h3 ⟨h4,h5,h6,h7⟩;cases h4;rw[h5]at h1;subst h6 h7;have hev:bOf (ev E r' s)=false:=by rw[za4 r' r s hcc.1];exact hbb
        have:=zut (b:=false) hm hev h1;refine hK .normal sm [] r' H' L' a' w' (by rw[zan];exact this) h2 (by rw[hnl.2];exact h3) (by rw[zan];exact hd')
      .exact plain hd'
     .exact plain hd'
    exact key _ _ rfl rfl hden
   .exact hden.elim
  .exact hden.elim
 |seq x y ihx ihy=>
  intro hm m st E r H a w L K Q hR hden hK hX
  replace ihx:=ihx fun o h=>hm o (List.mem_append_left _ h)
  replace ihy:=ihy fun o h=>hm o (wq _ h)
  have hR1:Rel D H0 w0 { st with nl:=st.nl+1 } E r H a w:={ hR with };simp only[execC]at hden;split at hden
  .rw[z3b]at hden;refine wpIn_seq (ihx m _ E r H a w L _ _ hR1 hden ?_ ?_)
   .intro e st' F r' H' L' a' w' h1 h2 h3 h4;cases e with
    |normal=>
     refine ihy m st' (E++F) r' H' a' w' L' K Q h1 h4 ?_ hX;intro e2 st2 F2 r2 H2 L2 a2 w2 g1 g2 g3 g4;rw[zaa]at g1 g4;have h3':st.nl+1≤st'.nl:=h3;exact hK e2 st2 (F++F2) r2 H2 L2 a2 w2 g1 (fun i hi=>((LExt.trans h2 g2 h3) i (by show i<st.nl+1;omega))) om g4
    |ret=>
     have h3':st.nl+1≤st'.nl:=h3;exact hK .ret st' F r' H' L' a' w' h1 (fun i hi=>h2 i (by show i<st.nl+1;omega)) om h4
    |exit j=>
     have h3':st.nl+1≤st'.nl:=h3;exact hK (.exit j) st' F r' H' L' a' w' h1 (fun i hi=>h2 i (by show i<st.nl+1;omega)) om h4
   .exact hX
  .obtain⟨J,hJ,hmain⟩:=hden;rw[z3b]at hmain;refine wpIn_seq (ihx m _ E r H a w _ _ _ hR1 hmain ?_ ?_)
   .intro e st' F r' H' L' a' w' h1 h2 h3 h4;have h3':st.nl+1≤st'.nl:=h3;cases e with
    |normal=>
     simp only at h4;split at h4
     .rename_i vs hvs;obtain⟨J',hl,hj⟩:=h4;have hg:L'.lookup st.nl=some J:=LExt.get h2;rw[hg]at hl;cases hl;obtain⟨f1,f2,f3,f4⟩:=zpd h1 hvs;have hlen:st.tags.length=E.length:=z1a hR.tags;have htake:(E++F).take st.tags.length=E:=by rw[hlen];simp
      rw[htake]at f1;refine ihy m _ _ r' H' a' w' L K Q f1 (hJ _ H' f2 hj) ?_ hX;intro e2 st2 F2 r2 H2 L2 a2 w2 g1 g2 g3 g4;rw[zaa]at g1 g4;have g3':st.nl+1≤st2.nl:=g3;exact hK e2 st2 _ r2 H2 L2 a2 w2 g1 (fun i hi=>g2 i (by show i<st.nl+1;omega)) om g4
     .exact h4.elim
    |ret=>exact hK .ret st' F r' H' L' a' w' h1 (LExt.cons h2) om h4
    |exit j=>exact hK (.exit j) st' F r' H' L' a' w' h1 (LExt.cons h2) om h4
   .exact hX
 |loop b ih=>
  intro hm m st E r H a w L K Q hR hden hK hX
  replace ih:=ih hm
  simp only[execC]at hden;split at hden
  .exact hden.elim
  rename_i hin;have hro:ro=none:=by cases ro<;>simp_all
  subst hro;split at hden
  .rename_i init hinit;obtain⟨I,⟨n0,hI0⟩,hround⟩:=hden;have hlen:st.tags.length=E.length:=z1a hR.tags;obtain⟨f1,f2,f3,f4⟩:=zpd hR hinit;rw[show E.take st.tags.length=E by rw[hlen];simp]at f1;refine wpIn_wide.2 (wp_loop_ghost (fun n a w=>∃vs r H,Rel D H0 w0 (absSt st st (z5s b) [] (fun _ _=>true) (fun x=>((zom (z5x b)).filterMap fun t=>match st.fr[t]? with
     |some e=>(match e.g,e.v with | [],.sc (.box d _)=>some d|_,_=>none)
     | none=>none).contains x.id)) (E++vs) r H a w∧I n vs H∧z07 ((absSt st st (z5s b) [] (fun _ _=>true) (fun x=>((zom (z5x b)).filterMap fun t=>match st.fr[t]? with
     |some e=>(match e.g,e.v with | [],.sc (.box d _)=>some d|_,_=>none)
     |none=>none).contains x.id)).tags.drop st.tags.length) vs=true) n0 ⟨_,r,H,f1,hI0,f2⟩ ?_)
   rintro n a1 w1 ⟨vs,r1,H1,g1,g2,g3⟩;have hb:=hround n vs H1 g3 g2;rw[z3b]at hb;refine wpIn_wide.1 (ih m _ _ r1 H1 a1 w1 _ _ _ g1 hb ?_ ?_)
   .intro e st' F r' H' L' a' w' h1 h2 h3 h4;have h3':st.nl+1≤st'.nl:=h3;have h2':LExt (st.nl+1) _ L':=h2;cases e with
    |normal=>
     simp only at h4;split at h4
     .rename_i us hus;obtain⟨J',hl,hj⟩:=h4;rw[LExt.get h2']at hl;cases hl;obtain⟨m,hm,hIm⟩:=hj;obtain⟨k1,k2,k3,k4⟩:=zpd h1 hus;have htake:(E++vs++F).take st.tags.length=E:=by rw[hlen,zaa];simp
      rw[htake]at k1;exact⟨m,hm,_,r',H',k1,hIm,k2⟩
     .exact h4.elim
    |ret=>
     rw[zaa]at h1 h4;exact hK .ret st' (vs++F) r' H' L' a' w' h1 (LExt.cons h2') om h4
    |exit j=>
     rw[zaa]at h1 h4;exact hK (.exit j) st' (vs++F) r' H' L' a' w' h1 (LExt.cons h2') om h4
   .exact hX
  .exact hden.elim
 |rangeFunc f ps asg b=>
  intro hm m st E r H a w L K Q hR hden hK hX;cases ro with
  |none=>exact hfar rfl f ps asg b m st E r H a w L K Q hR hden hK hX
  |some l=>
   have h:op.inr=true:=hi;simp only[execC,h]at hden;split at hden
   .simp at hden;exact hden.elim
   .exact hden.elim
 |goto l=>intro _ m st E r H a w L K Q hR hden;exact hden.elim
 |refuse why=>intro _ m st E r H a w L K Q hR hden;exact hden.elim
theorem Z73{op:Opt}(h:op.far=[])(g:Operand)(ps:Array Tmp)(asg b:Code):FarOk P op D H0 w0 X g ps asg b:=by
 intro m st E r H a w L K Q hR hden hK hX;simp only[execC]at hden;split at hden
 .split at hden
  .rename_i hc;rw[h]at hc;exact absurd hc.2.1 dC
  .exact hden.elim
 .exact hden.elim
theorem Zf3{op:Opt}(hi:op.inr=false)(hmk:D.marks=true)(hd:zb6 P op.pub)(g:Operand)(ps:Array Tmp)(asg b:Code):FarOk P op D H0 w0 X g ps asg b:=by
 intro m st E r H a w L K Q hR hden hK hX;simp only[execC]at hden;split at hden;rotate_left
 .exact hden.elim
 rename_i gv hgv;split at hden;rotate_left
 .exact hden.elim
 rename_i hc;obtain⟨_,_,c1,c2,c3,c4,c5⟩:=hc;obtain⟨S,n,xs,I,hS,⟨gf,lb,hg,hcall,hiter⟩,hmono,hI0,hround,hdone⟩:=hden;have g0:Guard.holds E r ([]:Guard):=fun x hx=>by cases hx
 have hge:a.eval g=.func (.func gf) #[] lb:=by rw[z0q hR g0 hgv,z14 c1];exact hg
 refine wpIn_rangeFunc ?_;intro fn hfn;obtain⟨rec,hrec⟩:∃rec:LoopState→Option Code→Loop,rec=fun s pe=>{ state:=s,pending:=pe,fn,tmps:=a.tmps,params:=ps,assign:=asg,body:=b,defers:=w.heap.size }:=⟨_,rfl⟩;obtain⟨W1,hW1⟩:∃W1,(w.alloc (.deferred (some []))).alloc (.loop (rec .ready none))=W1:=⟨_,rfl⟩;have hadv1:Adv H w H W1:=by
  rw[←hW1];exact(zdk hR.vis _).trans (zdk (zdk hR.vis _).vis _)
 have hs1:W1.heap.size=w.heap.size+2:=by rw[←hW1];simp
 have hnone:∀k,w.heap.size≤k→H k=none:=by
  intro k hk;cases hh:H k with
  |none=>rfl
  |some o=>exact absurd (hR.vis.lt hh) om
 have hL1:W1.heap[w.heap.size+1]?=some (.loop (rec .ready none)):=by
  rw[←hW1];have:=World.alloc_heap_new (w.alloc (.deferred (some []))) (.loop (rec .ready none));rwa[World.size_alloc]at this
 have hK1:W1.heap[w.heap.size]?=some (.deferred (some [])):=by
  rw[←hW1];exact(RowKit.Below.heap_alloc _ _ _ sM).trans (World.alloc_heap_new w _)
 refine ⟨w.heap.size+1,[{ target:=.collected w.heap.size,args:=#[] }],W1,{ target:=.fn (.func gf) lb,args:=#[.func (.yield (w.heap.size+1)) #[] #[]] },W1,gf,
  #[.func (.yield (w.heap.size+1)) #[] #[]]++lb,W1,?_,?_,?_,?_,?_,?_⟩
 .show(Instr.enterLoop fn a.tmps ps asg b none).run P w=_;rw[←hW1,hrec];exact run_enterLoop_outer _ _ _ _ _
 .simp only[resolve,hge];simp[go_sem]
 .intro f' hf';trivial
 .simp[invoke,go_sem];exact hcall _ _
 .intro h;exact absurd h (by simp[fw,Fence.wide])
 .refine(callsIn_wide (n:=m-1)).2 ((hiter (w.heap.size+1) I H W1 hS hmono hadv1.vis ?_ hI0).mono ?_)
  ·
   intro j H' W' hj hIj hadv' m';have hl:=hadv'.old (w.heap.size+1) om (hnone _ om);have hlk:W'.heap[w.heap.size+1]?=some (.loop (rec .ready none)):=hl.1.trans hL1;have hlt:w.heap.size+1<W'.heap.size:=by have:=hadv'.size;omega
   obtain⟨ht,hrd⟩:=hround j H' hj hIj;obtain⟨p1,p2,p3⟩:=zg8 (r:=r) op.far E (xs j) c4 ht;have hpk:(z19 op.far (xs j)).length=op.far.length:=p2;have hy:=run_yield (P:=P) (args:=(z19 op.far (xs j)).toArray) hlk (by rw[hrec];simp[hpk,c3]);rw[hrec]at hy;refine⟨fn,_,asg,b,hy,roundIn_of_wpIn hfn ?_⟩;have hadvW:Adv H w H' W':=hadv1.trans hadv';have hlen:st.tags.length=E.length:=z1a hR.tags;have hR0:Rel (.plain []) H' W' { st with bx:=[],nl:=st.nl+1 } E r H' { tmps:=a.tmps,defers:=[] } W':=
    { adv:=.refl hadv'.vis,tags:=hR.tags,size:=hR.size,df:=rfl,wk:=trivial,fr:=hR.fr,bx:=fun _ h=>(by cases h),inj:=fun _ h=>(by cases h),nd:=List.nodup_nil,asu:=hR.asu,kn:=hR.kn }
   have hu0:({ st with bx:=[],nl:=st.nl+1 }:St).under=true:=by
    simp only[St.under,zba]at c2⊢;exact⟨⟨⟨c2.1.1.1,rfl⟩,c2.1.2⟩,c2.2⟩
   have hR1:=Z2c ps.toList op.far (z19 op.far (xs j)) st.tags.length _ _ (fun _ _=>rfl) (by simpa using c3) hpk (by rw[hlen];exact p3) (hR0.ext hu0 ht);have hfold:(Array.zip ps (z19 op.far (xs j)).toArray).foldl (fun tmps(x:Tmp×Value)=>tmps.setIfInBounds x.1 x.2) a.tmps=(ps.toList.zip (z19 op.far (xs j))).foldl (fun tm x=>tm.setIfInBounds x.1 x.2) a.tmps:=by
    rw[←Array.foldl_toList];simp
   have hstart:∀(Q':Exit→Act→World→Prop)(K':Ex×St→List Value→PH→LK→Prop)(L':LK),den P (fun _ _=>False) (execC P { op with inr:=true } asg (farSt st ps op.far)) (E++xs j) H' L' K' →
     (∀e st' F r' H'' L'' a' w',Rel (.plain []) H' W' st' (E++xs j++F) r' H'' a' w'→LExt (farSt st ps op.far).nl L' L''→(farSt st ps op.far).nl≤st'.nl→K' (e,st') (E++xs j++F) H'' L''→Q' (exOf e) a' w') →
     asg.wpIn (Fence.wide.inRound (w.heap.size+1)) m' P Q' { tmps:=(Array.zip ps (z19 op.far (xs j)).toArray).foldl (fun tmps(x:Tmp×Value)=>tmps.setIfInBounds x.1 x.2) a.tmps,defers:=[] } W':=by
    intro Q' K' L' h1 h2;rw[hfold];exact z87 (ro:=some (w.heap.size+1)) (op:={ op with inr:=true }) rfl (fun h=>by cases h) hd asg (fun o _=>Prot.plain_may [] o) m' _ _ _ _ _ _ _ _ _ hR1 h1 h2 fun ch a' w' h=>by obtain⟨_,_,h⟩:=h;exact h.elim
   rw[z3b]at hrd;have hnl0:∀(ts:List Tmp)(rs:List RS)(n:Nat)(s:St),(setPs s n ts rs).nl=s.nl:=by
    intro ts
    induction ts with
    |nil=>intro rs n s;rfl
    |cons t ts ih=>intro rs n s;cases rs with
     |nil=>rfl
     |cons x l=>show(setPs (s.set _ _) _ ts l).nl=_;rw[ih];rfl
   have hnl:(farSt st ps op.far).nl=st.nl+1:=hnl0 _ _ _ _;refine hstart _ _ _ hrd ?_;intro e st' F r' H'' L'' a' w' h1 h2 h3 h4;rw[hnl]at h2 h3;cases e with
   |normal=>
    simp only at h4;rw[z3b]at h4;have hl2:=h1.adv.old (w.heap.size+1) hlt hl.2;have hlk2:w'.heap[w.heap.size+1]?=some (.loop (rec .ready none)):=hl2.1.trans hlk;refine⟨_,run_beginRound hlk2 (by rw[hrec]),?_⟩;have hR2:=h1.turn (fun _ _=>trivial) hl.2 hlt (.loop { rec .ready none with state:=.busy });refine z87 (ro:=some (w.heap.size+1)) (op:={ op with inr:=true }) rfl (fun h=>by cases h) hd b (fun o _=>Prot.plain_may [] o) m' _ _ _ _ _ _ _ _ _ hR2 h4 ?_ fun ch a' w' h=>by obtain⟨_,_,h⟩:=h;exact h.elim
    intro e2 st2 F2 r2 H2 L2 a2 w2 k1 k2 k3 k4;cases e2 with
    |normal=>
     obtain⟨J,hJ,hIn⟩:=k4;have hLL:L2.lookup st.nl=some (fun _ H''=>I (j+1) H''):=by
      rw[k2 _ om];exact LExt.get h2
     rw[hLL]at hJ;cases hJ;have hbusy:(W'.putObj (w.heap.size+1) (.loop { rec .ready none with state:=.busy })).heap[w.heap.size+1]?=some (.loop { rec .ready none with state:=.busy }):=World.putObj_heap_same hlt;have hl3:=k1.adv.old (w.heap.size+1) (by rw[World.putObj_size];exact hlt) hl.2;have hlk3:w2.heap[w.heap.size+1]?=some (.loop { rec .ready none with state:=.busy }):=hl3.1.trans hbusy;have her:=run_endRound (P:=P) none hlk3;have hback:({ ({ rec .ready none with state:=.busy }:Loop)with state:=if(none:Option Code).isNone then .ready else .done,pending:=none }:Loop)=rec .ready none:=by rw[hrec];rfl
     rw[hback]at her;refine⟨_,_,her,rfl,H2,?_,hIn⟩;have hlt2:=Nat.lt_of_lt_of_le (show w.heap.size+1<(W'.putObj (w.heap.size+1) (.loop { rec .ready none with state:=.busy })).heap.size by rw[World.putObj_size];exact hlt) k1.adv.size;refine k1.adv.swap hl.2 (by rw[World.putObj_size];exact hlt) (by rw[World.putObj_size]) (by rw[World.putObj_size]) (fun k hk=>(World.putObj_heap_other hk).symm) (fun k hk=>World.putObj_heap_other hk) ?_ ⟨rfl,rfl,rfl⟩ ⟨rfl,rfl,rfl⟩;rw[World.putObj_heap_same hlt2,hlk]
    |exit id=>exact k4.elim
    |ret=>exact k4.elim
   |exit id=>exact h4.elim
   |ret=>exact h4.elim
  ·
   rintro e W2 ⟨⟨v,rfl⟩,H2,hadv2,hIn⟩;have hl:=hadv2.old (w.heap.size+1) om (hnone _ om);have hdk:=hadv2.old w.heap.size om (hnone _ om);have hlk:W2.heap[w.heap.size+1]?=some (.loop (rec .ready none)):=hl.1.trans hL1;have hsz:=hadv2.size;refine⟨_,_,run_endLoop (P:=P) hlk (by rw[hrec];simp),?_⟩;have hpd:(rec .ready none).pending=none:=by rw[hrec]
   rw[hpd];simp only[];rw[show({ target:=.collected w.heap.size,args:=#[] }::[]:List Deferred)++a.defers={ target:=.collected w.heap.size,args:=#[] }::a.defers from rfl];generalize hx:(Obj.loop _)=ox;have hadv3:Adv H w H2 (W2.putObj (w.heap.size+1) ox):=by
    have h:=hadv1.trans hadv2;refine⟨by rw[World.putObj_size];exact h.size,fun k o hk=>?_,fun k hk hkn=>?_,h.os,h.tape,h.out⟩
    .rw[World.putObj_heap_other (fun e=>by rw[e,hl.2]at hk;cases hk)];exact h.vis k o hk
    .rw[World.putObj_heap_other om];exact h.old k hk hkn
   have hR3:=hR.adv' hadv3;obtain⟨m1,m2⟩:=D.mkd hmk (d:=w.heap.size) hR.df hR.wk hR3.wk (we _) (by rw[World.putObj_size];omega) (by rw[World.putObj_heap_other om];exact hdk.1.trans hK1) hdk.2;have hR4:Rel D H0 w0 { st with nl:=st.nl+1 } (E++[]) r H2 { a with defers:={ target:=.collected w.heap.size,args:=#[] }::a.defers } (W2.putObj (w.heap.size+1) ox):=by
    rw[zan];exact { hR3 with df:=m1,wk:=m2 }
   have:=hK .normal { st with nl:=st.nl+1 } [] r H2 L _ _ hR4 (LExt.refl _ _) (Nat.le_succ _) (by rw[zan];exact hdone H2 hIn);exact this
theorem zmi{op:Opt}(hi:op.inr=false)(hf:op.far=[]∨D.marks=true)(hd:zb6 P op.pub)(c:Code)(hm:∀o∈z5x c,D.may o)
  (st:St) (E:List Value) (r:Nat→Nat) (H:PH) (a:Act) (w:World) (L:LK) (K:Ex×St→List Value→PH→LK→Prop) (Q:Exit→Act→World→Prop)
  (hR:Rel D H0 w0 st E r H a w) (hden:den P X (execC P op c st) E H L K)
  (hK:∀e st' F r' H' L' a' w',Rel D H0 w0 st' (E++F) r' H' a' w'→LExt st.nl L L'→st.nl≤st'.nl→K (e,st') (E++F) H' L'→Q (exOf e) a' w')
  (hX:∀ch a' w',PanOf H0 w0 X ch w'→D.ok a'→Q (.panic ch) a' w'):c.wp P Q a w:=
 wpIn_wide.1 (z87 (ro:=none) (by simpa using hi) (fun _ g ps asg b=>hf.elim (fun h=>Z73 h g ps asg b) fun h=>Zf3 hi h hd g ps asg b) hd c hm 0 st E r H a w L K Q hR hden hK hX)
end
section
variable {P:Program}{D:Prot}{H0:PH}{w0:World}{st:St}{E:List Value}{r:Nat→Nat}{H:PH}{a:Act}{w:World}{X:List PanicEntry→PH→Prop}{L:LK}
def resF(tmps:Array Value)(x:ResultVar):Sem Value:=
 match x with
 | .tmp t=>pure (tmps.getD t undef)
 | .cell c t=>do loadVar t (←asAddr (tmps.getD c undef))
theorem Zer (fn:Func) (tmps:Array Value):results fn tmps=(do
  let vs ←fn.results.mapM (resF tmps)
  pure (if h:vs.size=1 then vs[0]else .tuple vs)):=by
 unfold results;congr 2
theorem Zki(hR:Rel D H0 w0 st E r H a w){x:ResultVar}{v:VE}(h:resL P st x=some v):(resF a.tmps x).run P w=.ok (evV E r v) w:=by
 have g0:Guard.holds E r ([]:Guard):=fun x hx=>by cases hx
 cases x with
 |tmp t=>
  have:=z1l hR g0 (x:=.tmp t) h;simp only[resF,Sem.run_pure];rw[←this];rfl
 |cell c t=>
  simp only[resL]at h;split at h
  .rename_i d off hs;split at h
   .rename_i b hb;obtain⟨hm,hid⟩:=zfy hb;have h1:=z0q hR g0 (x:=.tmp c) hs;have h2:a.tmps.getD c undef=.pointer (some ⟨r d,off,none⟩):=h1;have h3:=zwj (P:=P) (T:=t) (hR.bx b hm).1 h;subst hid;simp only[resF,Sem.run_bind,h2,asAddr,Sem.run_pure,Result.andThen_ok,h3]
   .cases h
  .cases h
theorem Z8f(hR:Rel D H0 w0 st E r H a w):∀{l:List ResultVar} {vs:List VE},l.mapM (resL P st)=some vs→(l.mapM (resF a.tmps)).run P w=.ok (vs.map (evV E r)) w
 | [],vs,h=>by simp at h;subst h;simp
 |x::l,vs,h=>by
  simp only[List.mapM_cons,Option.bind_eq_bind,qw]at h;obtain⟨v,hv,us,hus,h⟩:=h;cases h;simp only[List.mapM_cons,Sem.run_bind,wa,Zki hR hv,Result.andThen_ok,Z8f hR hus,Sem.run_pure]
theorem Zgc{v:VE}{p:Bool×List SV}(h:zyt v=some p):partV E r p=evV E r v:=by
 unfold zyt at h;split at h
 .cases h;rfl
 .cases h;rfl
 .cases h
theorem Z6r:∀{vs:List VE} {ps:List (Bool×List SV)},vs.mapM zyt=some ps→ps.map (partV E r)=vs.map (evV E r)∧ps.length=vs.length
 | [],ps,h=>by simp at h;subst h;exact⟨rfl,rfl⟩
 |v::vs,ps,h=>by
  simp only[List.mapM_cons,Option.bind_eq_bind,qw]at h;obtain⟨p,hp,qs,hqs,h⟩:=h;cases h;obtain⟨i1,i2⟩:=Z6r hqs;exact⟨by simp[Zgc hp,i1],by simp[i2]⟩
theorem zc8(hR:Rel D H0 w0 st E r H a w){fn:Func}{K:VE→List Value→PH→LK→Prop}(h:den P X (retL P fn st) E H L K):
  ∃ve,K ve E H L∧(results fn a.tmps).run P w=.ok (evV E (fun _=>0) ve) w:=by
 have hres:∀vs,fn.results.toList.mapM (resL P st)=some vs→(results fn a.tmps).run P w=.ok (if h:(vs.map (evV E r)).toArray.size=1 then(vs.map (evV E r)).toArray[0]else .tuple (vs.map (evV E r)).toArray) w:=by
  intro vs hvs;have h1:=Z8f hR hvs;rw[Zer,Array.mapM_eq_mapM_toList];simp only[Sem.run_bind,Sem.run_map,h1,Result.andThen_ok,Sem.run_pure]
 unfold retL at h;split at h
 .rename_i v hvs;split at h
  .rename_i hnb;refine⟨v,h,?_⟩;rw[hres _ hvs,←zke (r:=r) hnb];rfl
  .exact h.elim
 .rename_i vs hne hvs;split at h
  .rename_i ps hps;split at h
   .rename_i hnb;refine⟨.tu ps,h,?_⟩;obtain⟨i1,i2⟩:=Z6r (E:=E) (r:=r) hps;rw[hres _ hvs,←zke (r:=r) hnb];have hs:¬(vs.map (evV E r)).toArray.size=1:=by
     intro h1;simp at h1;obtain⟨x,hx⟩:=List.length_eq_one_iff.1 h1;exact hne x hx
    rw[dif_neg hs];simp only[evV,i1]
   .exact h.elim
  .exact h.elim
 .exact h.elim
theorem Za4{op:Opt}(hd:zb6 P op.pub){f:FuncId}{fn:Func}(hf:P.funcs[f]?=some fn){args:Array Value}{E:List Value}(hE:z07 ((z0c P fn).flatMap RS.tags) E=true)(hargs:args.toList=z19 (z0c P fn) E){H:PH}{R:Ending→PH→Prop}
  (hden:den P (fun c H'=>R (.panicked c) H') (execF P op fn) E H [] (fun ve E' H' _=>R (.returned (evV E' (fun _=>0) ve)) H')):Tri P f args H R:=by
 intro w hv;unfold execF at hden;split at hden
 .rename_i c hb;split at hden
  .rename_i hpl;obtain⟨hpl,hinr,hfar⟩:=hpl;rw[z3b]at hden;refine calls_of_wp hf hb ?_;obtain⟨p1,p2,p3⟩:=zg8 (r:=fun _=>0) (z0c P fn) [] E hpl hE;have hsz:args.size=(z0c P fn).length:=by rw[←p2,←hargs];simp
   have hR:Rel (.plain []) H w (st0 P fn) E (fun _=>0) H { tmps:=args++Array.replicate (fn.ntmps-args.size) undef,defers:=[] } w:=by
    refine { adv:=.refl hv,tags:=hE,size:=?_,df:=rfl,wk:=trivial,fr:=?_,bx:=(fun b hb=>by cases hb),inj:=(fun b hb=>by cases hb),nd:=List.nodup_nil,asu:=(fun x hx=>by cases hx),kn:=(fun c hc=>by cases hc) }
    .simp only[st0,zla,wi,Array.size_append,Array.size_replicate];have:(z2z 0 (z0c P fn)).length=(z0c P fn).length:=p1;rw[this,hsz]
    .intro t e he hj;have hp1:(z2z 0 (z0c P fn)).length=(z0c P fn).length:=p1;simp only[st0,List.getElem?_append,hp1]at he;have hget:({ tmps:=args++Array.replicate (fn.ntmps-args.size) undef,defers:=[] }:Act).tmps.getD t undef=if t<args.size then args.toList.getD t undef else undef:=by
      simp only[Array.getD_eq_getD_getElem?,Array.getElem?_append,zgd,Array.getElem?_toList];split
      .rfl
      .simp only[Array.getElem?_replicate];split<;>rfl
     rw[hget];by_cases ht:t<(z0c P fn).length
     .rw[qj ht]at he;obtain⟨v,hv',hg,hev⟩:=p3 t e he;rw[qj (by rw[hsz];exact ht),hargs,zgd,hv',hg];refine⟨fun _=>?_,fun h=>absurd (fun x hx=>by cases hx) h⟩;rw[←hev];rfl
     .rw[qc ht]at he;rw[qc (by rw[hsz];exact ht)];have:e=none0:=by
       rw[List.getElem?_replicate]at he;split at he
       .cases he;rfl
       .cases he
      subst this;exact⟨fun _=>rfl,fun _=>rfl⟩
   refine zmi hinr (.inl (List.isEmpty_iff.1 hfar)) hd c (fun o _=>Prot.plain_may [] o) (st0 P fn) E _ H _ w [] _ _ hR hden ?_ ?_
   .intro e st' F r' H' L' a' w' h1 _ _ h4;cases e with
    |normal=>
     obtain⟨ve,hk,hrun⟩:=zc8 h1 h4;exact⟨h1.df,_,hrun,H',h1.adv,hk⟩
    |ret=>
     obtain⟨ve,hk,hrun⟩:=zc8 h1 h4;exact⟨h1.df,_,hrun,H',h1.adv,hk⟩
    |exit j=>exact h4.elim
   .rintro ch a' w' ⟨H',h1,h2⟩ hdf;exact⟨hdf,H',h1,h2⟩
  .exact hden.elim
 .exact hden.elim
end
