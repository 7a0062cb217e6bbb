import Derived.WalkKit
set_option linter.unusedSimpArgs false
set_option linter.unusedVariables false
set_option maxRecDepth 100000
namespace Go.Proofs.YtfkclejklgoccaaGreat.Vc
open Go
theorem qc{c:Prop}{h:Decidable c}(n:¬c){α:Sort _}{t e:α}:ite c t e=e:=if_neg n
theorem qj{c:Prop}{h:Decidable c}(n:c){α:Sort _}{t e:α}:ite c t e=t:=if_pos n
theorem qk:false≠true:=Bool.false_ne_true
theorem qp:(false=true)=False:=Bool.false_eq_true
theorem qq{α:Type _}(x y:α)(l:List α):(y::x::l).Perm (x::y::l):=.swap x y l
theorem qu(a b:Bool):((a||b)=true)=(a=true∨b=true):=Bool.or_eq_true a b
theorem qw{α:Type _}{b:α}{β:Type _}{x:Option β}{f:β→Option α}:x.bind f=some b↔∃a,x=some a∧f a=some b:=Option.bind_eq_some_iff
theorem qy(b:Bool):((!b)=true)=(b=false):=Bool.not_eq_true' b
theorem qA{α:Type _}{a:α}{l₁ l₂:List α}:(l₁++a::l₂).Perm (a::(l₁++l₂)):=List.perm_middle
theorem qG{α:Type _}(a b:α):(some a=some b)=(a=b):=Option.some.injEq a b
theorem qH{α:Type _}{x:Option α}:x.isSome=true↔∃a,x=some a:=Option.isSome_iff_exists
theorem qJ{α:Type _}{a:α}{l:List α}(h:a∈l):∃i:Nat,l[i]?=some a:=List.getElem?_of_mem h
theorem qM{α:Type _}{x:α}{s:List α}{p:α→Bool}:List.filter p (x::s)=if p x=true then x::List.filter p s else List.filter p s:=List.filter_cons
theorem qN(n:Nat):(n:Int).toNat=n:=Int.toNat_natCast n
theorem qO{α:Type _}{l:List α}{β:Type _}{f g:α→β}(h:∀a∈l,f a=g a):l.map f=l.map g:=List.map_congr_left h
theorem qQ{α:Type _}{β:Type _}{x:α}{s:List α}{f:α→List β}:List.flatMap f (x::s)=f x++List.flatMap f s:=List.flatMap_cons
theorem qR{α:Type _}{b:α}{β:Type _}{x:Option β}{f:β→α}:Option.map f x=some b↔∃a,x=some a∧f a=b:=Option.map_eq_some_iff
theorem qU(b:Bool):((!b)=false)=(b=true):=Bool.not_eq_false' b
theorem qV{α:Type _}{l:List α}:l.length=0↔l=[]:=List.length_eq_zero_iff
theorem qW{α:Type _}{a b:α}(h:some a=some b):a=b:=Option.some.inj h
theorem qX{p:Prop}[Decidable p](h:p):decide p=true:=decide_eq_true h
theorem qY{p:Prop}[Decidable p](h:¬p):decide p=false:=decide_eq_false h
theorem qZ{p:Prop}[Decidable p](h:decide p=true):p:=of_decide_eq_true h
theorem q9{α:Type _}{l:List α}{i:Nat}:l.take (i+1)=l.take i++l[i]?.toList:=List.take_add_one
theorem wa{α:Type _}{β:Type _}{f:α→β}{a:α}{l:List α}:(a::l).map f=f a::l.map f:=List.map_cons
theorem we(n:Nat):n≤n:=Nat.le_refl n
theorem wg{m n:Nat}:m∈List.range n↔m<n:=List.mem_range
theorem wh{n:Nat}:(List.range n).length=n:=List.length_range
theorem wi{α:Type _}{n:Nat}{a:α}:(List.replicate n a).length=n:=List.length_replicate
theorem wj{x y:Bool}:(x&&y)=false↔x=false∨y=false:=Bool.and_eq_false_iff
theorem wl{α:Type _}{p:α→Bool}{l:List α}:l.any p=true↔∃x,x∈l∧p x=true:=List.any_eq_true
theorem wo(n:Nat):0+n=n:=Nat.zero_add n
theorem wq{α:Type _}{b:α}(s:List α){t:List α}(h:b∈t):b∈s++t:=List.mem_append_right s h
theorem wu{α:Type _}{l:List α}{i:Nat}(h:l.length≤i):l[i]?=none:=List.getElem?_eq_none h
theorem om{p:Prop}(h:p:=by omega):p:=h
theorem dC{p:Prop}(h:p:=by decide):p:=h
theorem sM{p:Prop}(h:p:=by simp):p:=h
theorem zdt{p:Prop}[Decidable p]:(decide p=true)=p:=decide_eq_true_eq
theorem zdf{p:Prop}{x:Decidable p}:(decide p=false)↔¬p:=decide_eq_false_iff_not
theorem zms{α:Type _}{a:α}{l:List α}:a∈a::l:=List.mem_cons_self ..
theorem zge{α:Type _}{l:List α}{i:Nat}(h:i<l.length):l[i]?=some l[i]:=List.getElem?_eq_getElem h
theorem zba(a b:Bool):((a&&b)=true)=(a=true∧b=true):=Bool.and_eq_true a b
theorem zgd{α:Type _}{l:List α}{i:Nat}{a:α}:l.getD i a=l[i]?.getD a:=List.getD_eq_getElem?_getD
theorem zmm{α:Type _}{a:α}{l:List α}(y:α)(h:a∈l):a∈y::l:=List.mem_cons_of_mem y h
theorem zlc{α:Type _}{a:α}{l:List α}:(a::l).length=l.length+1:=List.length_cons
theorem zla{α:Type _}{l m:List α}:(l++m).length=l.length+m.length:=List.length_append
theorem zsi{α:Type _}{a b:α}:a∈[b]↔a=b:=List.mem_singleton
theorem zmg{α:Type _}{l:List α}{i:Nat}{a:α}(h:l[i]?=some a):a∈l:=List.mem_of_getElem? h
theorem zgi{α:Type _}{l:List α}{i:Nat}{a:α}:l[i]?=some a↔∃h:i<l.length,l[i]=a:=List.getElem?_eq_some_iff
theorem zan{α:Type _}(l:List α):l++[]=l:=List.append_nil l
theorem zat{α:Type _}{p:α→Bool}{l:List α}:l.all p=true↔∀x∈l,p x=true:=List.all_eq_true
theorem zaa{α:Type _}(a b c:List α):a++b++c=a++(b++c):=List.append_assoc a b c
theorem ztl{α:Type _}{l:List α}{i:Nat}(h:l.length≤i):l.take i=l:=List.take_of_length_le h
theorem zma{α:Type _}{a:α}{s t:List α}:a∈s++t↔a∈s∨a∈t:=List.mem_append
theorem zem{α β:Type _}{f:α→β}{l:List α}{i:Nat}:(l.map f)[i]?=Option.map f l[i]?:=List.getElem?_map
theorem zln{α:Type _}:([]:List α).length=0:=List.length_nil
theorem zof{x y:Bool}:(x||y)=false↔x=false∧y=false:=Bool.or_eq_false_iff
theorem zmf{α:Type _}{p:α→Bool}{a:α}{l:List α}:a∈l.filter p↔a∈l∧p a=true:=List.mem_filter
theorem zlm{α β:Type _}{l:List α}(f:α→β):(l.map f).length=l.length:=List.length_map f
theorem zmc{α:Type _}{a b:α}{l:List α}:a∈b::l↔a=b∨a∈l:=List.mem_cons
theorem zmp{α β:Type _}{b:β}{f:α→β}{l:List α}:b∈l.map f↔∃a,a∈l∧f a=b:=List.mem_map
abbrev PH:=Nat→Option Obj
namespace PH
def upd(H:PH)(r:Nat)(o:Obj):PH:=fun k=>if k=r then some o else H k
def cell?(H:PH)(a:Addr):Option Value:=
 match H a.block with
 |some (.cells c _ _)=>if a.spot.isSome then none else c[a.off]?
 |_=>none
def setC(a:Addr)(v:Value):Obj→Obj
 | .cells c e f=>.cells (if a.spot.isSome then c else c.setIfInBounds a.off v) e f
 |o=>o
def frozenO(a:Addr):Obj→Bool
 | .cells _ _ (lo,hi)=>lo≤a.off&&a.off<hi
 |_=>false
def frzO(a:Addr)(n:Nat):Obj→Obj
 | .cells c e (lo,hi)=>.cells c e (if lo==hi then(a.off,a.off+n)else(min lo a.off,max hi (a.off+n)))
 |o=>o
def shapeO:Obj→Option (TypeId×Nat)
 | .cells c e _=>some (e,c.size)
 |_=>none
def isCells:Obj→Bool
 | .cells ..=>true
 |_=>false
def le(H H':PH):Prop:=∀k o,H k=some o→H' k=some o
theorem le_refl(H:PH):le H H:=fun _ _ h=>h
theorem le_trans{A B C:PH}(h:le A B)(k:le B C):le A C:=fun _ _ x=>k _ _ (h _ _ x)
theorem le_upd{H:PH}{r:Nat}{o:Obj}(h:H r=none):le H (H.upd r o):=fun k o' hk=>by
 unfold upd;by_cases e:k=r
 .subst e;rw[h]at hk;cases hk
 .rw[qc e];exact hk
theorem upd_same{H:PH}{r:Nat}{o:Obj}:(H.upd r o) r=some o:=by simp[upd]
theorem upd_other{H:PH}{r k:Nat}{o:Obj}(h:k≠r):(H.upd r o) k=H k:=by simp[upd,h]
theorem cell_le{H H':PH}(h:le H H'){a:Addr}{v:Value}(hc:cell? H a=some v):cell? H' a=some v:=by
 unfold cell? at *;cases hb:H a.block with
 |none=>simp[hb]at hc
 |some o=>rw[hb]at hc;rw[h _ _ hb];exact hc
end PH
theorem ww{a b c:PH}(h:PH.le a b)(k:PH.le b c):PH.le a c:=PH.le_trans h k
theorem wx(a:PH):PH.le a a:=PH.le_refl a
def Vis(H:PH)(w:World):Prop:=∀k o,H k=some o→w.heap[k]?=some o
structure Adv(H:PH)(w:World)(H':PH)(w':World):Prop where
 size:w.heap.size≤w'.heap.size
 vis:Vis H' w'
 old:∀k,k<w.heap.size→H k=none→w'.heap[k]?=w.heap[k]?∧H' k=none
 os:w'.os=w.os
 tape:w'.tape=w.tape
 out:w'.output=w.output
theorem Adv.refl{H:PH}{w:World}(h:Vis H w):Adv H w H w:=⟨we _,h,fun _ _ hk=>⟨rfl,hk⟩,rfl,rfl,rfl⟩
theorem Adv.trans{H1 H2 H3:PH}{w1 w2 w3:World}(h:Adv H1 w1 H2 w2)(k:Adv H2 w2 H3 w3):Adv H1 w1 H3 w3:=
 ⟨Nat.le_trans h.size k.size,k.vis,
  fun i hi hn=>let⟨a,b⟩:=h.old i hi hn;let⟨c,d⟩:=k.old i (Nat.lt_of_lt_of_le hi h.size) b;⟨c.trans a,d⟩,
  k.os.trans h.os,k.tape.trans h.tape,k.out.trans h.out⟩
theorem Vis.lt{H:PH}{w:World}(h:Vis H w){k:Nat}{o:Obj}(hk:H k=some o):k<w.heap.size:=by
 have:=h k o hk;rcases Nat.lt_or_ge k w.heap.size with h|h
 .exact h
 .simp[Array.getElem?_eq_none h]at this
theorem Vis.new{H:PH}{w:World}(h:Vis H w):H w.heap.size=none:=by
 cases hk:H w.heap.size with
 |none=>rfl
 |some o=>have:=h.lt hk;omega
theorem Vis.cell{H:PH}{w:World}(h:Vis H w){a:Addr}{v:Value}(hc:H.cell? a=some v):w.cell? a=some v:=by
 unfold PH.cell? at hc;unfold World.cell?;cases hb:H a.block with
 |none=>simp[hb]at hc
 |some o=>rw[hb]at hc;rw[h _ _ hb];exact hc
theorem Adv.put{H:PH}{w w':World}(h:Vis H w){r:Nat}{o o':Obj}(hr:H r=some o)
  (hs:w'.heap.size=w.heap.size) (hh:∀k,w'.heap[k]?=if k=r then some o' else w.heap[k]?) (h1:w'.os=w.os) (h2:w'.tape=w.tape) (h3:w'.output=w.output) :
  Adv H w (H.upd r o') w':=by
 refine⟨om,?_,?_,h1,h2,h3⟩
 .intro k x hk;rw[hh];unfold PH.upd at hk;by_cases e:k=r
  .rw[qj e]at hk⊢;exact hk
  .rw[qc e]at hk⊢;exact h _ _ hk
 .intro k _ hn;have e:k≠r:=fun e=>by rw[e,hr]at hn;cases hn
  exact⟨by rw[hh,qc e],by rw[PH.upd_other e];exact hn⟩
def oneC:Value→Bool
 | .agg _=>false
 | .tuple _=>false
 |_=>true
def wpS(P:Program){α:Type}:Sem α→(α→PH→Prop)→(Value→PH→Prop)→PH→Prop
 | .pure a,Φ,_,H=>Φ a H
 | .load _ a k,Φ,Ψ,H=>∃v,H.cell? a=some v∧wpS P (k v) Φ Ψ H
 | .store _ a v k,Φ,Ψ,H=>oneC v=true∧∃o u,H a.block=some o∧H.cell? a=some u∧PH.frozenO a o=false∧wpS P k Φ Ψ (H.upd a.block (PH.setC a v o))
 | .new o k,Φ,Ψ,H=>∀r,H r=none→wpS P (k r) Φ Ψ (H.upd r o)
 | .shape r k,Φ,Ψ,H=>∃o,H r=some o∧wpS P (k (PH.shapeO o)) Φ Ψ H
 | .freeze a n k,Φ,Ψ,H=>∃o,H a.block=some o∧n≠0∧wpS P k Φ Ψ (H.upd a.block (PH.frzO a n o))
 | .frozen a k,Φ,Ψ,H=>∃o,H a.block=some o∧wpS P (k (PH.frozenO a o)) Φ Ψ H
 | .getObj r k,Φ,Ψ,H=>∃o,H r=some o∧PH.isCells o=false∧wpS P (k o) Φ Ψ H
 | .setObj r o' k,Φ,Ψ,H=>∃o,H r=some o∧PH.isCells o=false∧wpS P k Φ Ψ (H.upd r o')
 | .choose q k,Φ,Ψ,H=>(q.forced=true→wpS P (k 0) Φ Ψ H)∧(q.forced=false→∀t,wpS P (k (q.cut t)) Φ Ψ H)
 | .sys _ _,_,_,_=>False
 | .program k,Φ,Ψ,H=>wpS P (k P) Φ Ψ H
 | .mark _ k,Φ,Ψ,H=>wpS P k Φ Ψ H
 | .halt (.panic v),_,Ψ,H=>Ψ v H
 | .halt _,_,_,_=>False
def Ran(P:Program){α:Type}(s:Sem α)(H:PH)(w:World)(Φ:α→PH→Prop)(Ψ:Value→PH→Prop):Prop:=
 (∃a w' H',s.run P w=.ok a w'∧Adv H w H' w'∧Φ a H')∨(∃v w' H',s.run P w=.halt (.panic v) w'∧Adv H w H' w'∧Ψ v H')
theorem Ran.step{P:Program}{α:Type}{s s':Sem α}{H H':PH}{w w':World}{Φ:α→PH→Prop}{Ψ:Value→PH→Prop}
  (hr:s.run P w=s'.run P w') (ha:Adv H w H' w') (h:Ran P s' H' w' Φ Ψ):Ran P s H w Φ Ψ:=by
 rcases h with⟨a,w2,H2,h1,h2,h3⟩|⟨a,w2,H2,h1,h2,h3⟩
 .exact .inl ⟨a,w2,H2,hr.trans h1,ha.trans h2,h3⟩
 .exact .inr ⟨a,w2,H2,hr.trans h1,ha.trans h2,h3⟩
theorem Z0e{P:Program}{α:Type}(s:Sem α):∀(Φ:α→PH→Prop)(Ψ:Value→PH→Prop)(H:PH)(w:World),Vis H w→wpS P s Φ Ψ H→Ran P s H w Φ Ψ:=by
 induction s with
 |pure a=>intro Φ Ψ H w hv h;exact .inl ⟨a,w,H,rfl,.refl hv,h⟩
 |load m a k ih=>
  intro Φ Ψ H w hv h;obtain⟨v,hc,h⟩:=h;exact Ran.step (by simp[Sem.run,hv.cell hc]) (.refl hv) (ih v Φ Ψ H w hv h)
 |store m a v k ih=>
  intro Φ Ψ H w hv h;obtain⟨h1c,o,u,hb,hc,hf,h⟩:=h;have hz:w.frozen? a=false:=by
   unfold World.frozen?;rw[hv _ _ hb];cases o<;>first|rfl|exact hf
  have hget:∀k:Nat,(w.setCell a v).heap[k]?=if k=a.block then some (PH.setC a v o)else w.heap[k]?:=by
   intro k;simp only[World.setCell,Array.getElem?_modify];by_cases e:k=a.block
   .rw[qj e,qj e.symm,e,hv _ _ hb];cases o<;>rfl
   .rw[qc e,qc (Ne.symm e)]
  have hadv:=Adv.put (w':=w.setCell a v) hv hb (by simp[World.setCell]) hget rfl rfl rfl;have hrun:Sem.run P (.store m a v k) w=Sem.run P k (w.setCell a v):=by
   cases v with
   |agg c=>exact absurd h1c qk
   |tuple c=>exact absurd h1c qk
   |_=>simp only[Sem.run,hv.cell hc,hz,qp,if_false]
  exact Ran.step hrun hadv (ih Φ Ψ _ _ hadv.vis h)
 |new o k ih=>
  intro Φ Ψ H w hv h;have hv':Vis (H.upd w.heap.size o) { w with heap:=w.heap.push o }:=by
   intro j x hj;unfold PH.upd at hj;show(w.heap.push o)[j]?=some x;rw[Array.getElem?_push];by_cases e:j=w.heap.size
   .rw[qj e]at hj;rw[qj e];exact hj
   .rw[qc e]at hj;rw[qc e];exact hv _ _ hj
  refine Ran.step (s':=k w.heap.size) (w':={ w with heap:=w.heap.push o }) (by simp[Sem.run]) ⟨sM,hv',?_,rfl,rfl,rfl⟩ (ih _ Φ Ψ _ _ hv' (h _ hv.new));intro j hj hn;refine⟨?_,by rw[PH.upd_other om];exact hn⟩;show(w.heap.push o)[j]?=_;rw[Array.getElem?_push,qc om]
 |shape r k ih=>
  intro Φ Ψ H w hv h;obtain⟨o,hb,h⟩:=h;have e:w.shape? r=PH.shapeO o:=by unfold World.shape?;rw[hv _ _ hb];cases o<;>rfl
  exact Ran.step (by simp[Sem.run,e]) (.refl hv) (ih _ Φ Ψ H w hv h)
 |freeze a n k ih=>
  intro Φ Ψ H w hv h;obtain⟨o,hb,hn,h⟩:=h;have hget:∀k:Nat,(w.freeze a n).heap[k]?=if k=a.block then some (PH.frzO a n o)else w.heap[k]?:=by
   intro k;simp only[World.freeze,qc hn,Array.getElem?_modify];by_cases e:k=a.block
   .rw[qj e,qj e.symm,e,hv _ _ hb];cases o<;>rfl
   .rw[qc e,qc (Ne.symm e)]
  have hadv:=Adv.put (w':=w.freeze a n) hv hb (by simp[World.freeze,qc hn]) hget (by simp[World.freeze,qc hn]) (by simp[World.freeze,qc hn]) (by simp[World.freeze,qc hn]);exact Ran.step (by simp[Sem.run]) hadv (ih Φ Ψ _ _ hadv.vis h)
 |frozen a k ih=>
  intro Φ Ψ H w hv h;obtain⟨o,hb,h⟩:=h;have e:w.frozen? a=PH.frozenO a o:=by unfold World.frozen?;rw[hv _ _ hb];cases o<;>rfl
  exact Ran.step (by simp[Sem.run,e]) (.refl hv) (ih _ Φ Ψ H w hv h)
 |getObj r k ih=>
  intro Φ Ψ H w hv h;obtain⟨o,hb,hc,h⟩:=h;refine Ran.step (s':=k o) (w':=w) ?_ (.refl hv) (ih _ Φ Ψ H w hv h);simp only[Sem.run,hv _ _ hb];cases o<;>first|rfl|simp[PH.isCells]at hc
 |setObj r o' k ih=>
  intro Φ Ψ H w hv h;obtain⟨o,hb,hc,h⟩:=h;have hlt:=hv.lt hb;have hget:∀k:Nat,({ w with heap:=w.heap.setIfInBounds r o' }:World).heap[k]?=if k=r then some o' else w.heap[k]?:=by
   intro k;show(w.heap.setIfInBounds r o')[k]?=_;rw[Array.getElem?_setIfInBounds];by_cases e:k=r
   .rw[qj e,qj e.symm,qj om]
   .rw[qc e,qc (Ne.symm e)]
  have hadv:=Adv.put (w':={ w with heap:=w.heap.setIfInBounds r o' }) hv hb sM hget rfl rfl rfl;refine Ran.step (s':=k) ?_ hadv (ih Φ Ψ _ _ hadv.vis h);simp only[Sem.run,hv _ _ hb];cases o<;>first|rfl|simp[PH.isCells]at hc
 |choose q k ih=>
  intro Φ Ψ H w hv h;cases hq:q.forced with
  |true=>exact Ran.step (by simp[Sem.run,hq]) (.refl hv) (ih _ Φ Ψ H w hv (h.1 hq))
  |false=>
   have hv':Vis H { w with drawn:=w.drawn+1 }:=hv;exact Ran.step (w':={ w with drawn:=w.drawn+1 }) (by simp only[Sem.run,hq,qp,if_false]) ⟨we _,hv',fun _ _ hn=>⟨rfl,hn⟩,rfl,rfl,rfl⟩ (ih _ Φ Ψ H _ hv' (h.2 hq (w.tape w.drawn q)))
 |sys c k ih=>intro Φ Ψ H w hv h;exact h.elim
 |program k ih=>intro Φ Ψ H w hv h;exact Ran.step (by simp[Sem.run]) (.refl hv) (ih _ Φ Ψ H w hv h)
 |mark m k ih=>intro Φ Ψ H w hv h;exact Ran.step (by simp[Sem.run]) (.refl hv) (ih Φ Ψ H w hv h)
 |halt x=>
  intro Φ Ψ H w hv h;cases x<;>first
   |exact h.elim
   |exact .inr ⟨_,w,H,rfl,.refl hv,h⟩
theorem Zjr{P:Program}{α:Type}(s:Sem α):∀{Φ Φ':α→PH→Prop} {Ψ Ψ':Value→PH→Prop} {H:PH},(∀a H,Φ a H→Φ' a H)→(∀v H,Ψ v H→Ψ' v H)→wpS P s Φ Ψ H→wpS P s Φ' Ψ' H:=by
 induction s with
 |pure a=>intro _ _ _ _ H h1 h2 h;exact h1 _ _ h
 |load m a k ih=>intro _ _ _ _ H h1 h2 h;obtain⟨v,hc,h⟩:=h;exact⟨v,hc,ih v h1 h2 h⟩
 |store m a v k ih=>
  intro _ _ _ _ H h1 h2 h;obtain⟨x0,o,u,x1,x2,x3,h⟩:=h;exact⟨x0,o,u,x1,x2,x3,ih h1 h2 h⟩
 |new o k ih=>intro _ _ _ _ H h1 h2 h;exact fun r hr=>ih r h1 h2 (h r hr)
 |shape r k ih=>intro _ _ _ _ H h1 h2 h;obtain⟨o,hb,h⟩:=h;exact⟨o,hb,ih _ h1 h2 h⟩
 |freeze a n k ih=>intro _ _ _ _ H h1 h2 h;obtain⟨o,hb,hn,h⟩:=h;exact⟨o,hb,hn,ih h1 h2 h⟩
 |frozen a k ih=>intro _ _ _ _ H h1 h2 h;obtain⟨o,hb,h⟩:=h;exact⟨o,hb,ih _ h1 h2 h⟩
 |getObj r k ih=>intro _ _ _ _ H h1 h2 h;obtain⟨o,hb,hc,h⟩:=h;exact⟨o,hb,hc,ih _ h1 h2 h⟩
 |setObj r o' k ih=>intro _ _ _ _ H h1 h2 h;obtain⟨o,hb,hc,h⟩:=h;exact⟨o,hb,hc,ih h1 h2 h⟩
 |choose q k ih=>intro _ _ _ _ H h1 h2 h;exact⟨fun e=>ih _ h1 h2 (h.1 e),fun e t=>ih _ h1 h2 (h.2 e t)⟩
 |sys c k ih=>intro _ _ _ _ H h1 h2 h;exact h.elim
 |program k ih=>intro _ _ _ _ H h1 h2 h;exact ih _ h1 h2 h
 |mark m k ih=>intro _ _ _ _ H h1 h2 h;exact ih h1 h2 h
 |halt x=>
  intro _ _ _ _ H h1 h2 h;cases x<;>first
   |exact h.elim
   |exact h2 _ _ h
theorem Zk7{P:Program}{α β:Type}(s:Sem α)(f:α→Sem β):∀{Φ:β→PH→Prop} {Ψ:Value→PH→Prop} {H:PH},
  wpS P (s.bind f) Φ Ψ H↔wpS P s (fun a H'=>wpS P (f a) Φ Ψ H') Ψ H:=by
 induction s with
 |pure a=>intro _ _ _;exact Iff.rfl
 |load m a k ih=>intro _ _ _;exact⟨fun⟨v,hc,h⟩=>⟨v,hc,(ih v).1 h⟩,fun⟨v,hc,h⟩=>⟨v,hc,(ih v).2 h⟩⟩
 |store m a v k ih=>
  intro _ _ _;exact⟨fun⟨x0,o,u,x1,x2,x3,h⟩=>⟨x0,o,u,x1,x2,x3,ih.1 h⟩,fun⟨x0,o,u,x1,x2,x3,h⟩=>⟨x0,o,u,x1,x2,x3,ih.2 h⟩⟩
 |new o k ih=>intro _ _ _;exact⟨fun h r hr=>(ih r).1 (h r hr),fun h r hr=>(ih r).2 (h r hr)⟩
 |shape r k ih=>intro _ _ _;exact⟨fun⟨o,hb,h⟩=>⟨o,hb,(ih _).1 h⟩,fun⟨o,hb,h⟩=>⟨o,hb,(ih _).2 h⟩⟩
 |freeze a n k ih=>intro _ _ _;exact⟨fun⟨o,hb,hn,h⟩=>⟨o,hb,hn,ih.1 h⟩,fun⟨o,hb,hn,h⟩=>⟨o,hb,hn,ih.2 h⟩⟩
 |frozen a k ih=>intro _ _ _;exact⟨fun⟨o,hb,h⟩=>⟨o,hb,(ih _).1 h⟩,fun⟨o,hb,h⟩=>⟨o,hb,(ih _).2 h⟩⟩
 |getObj r k ih=>intro _ _ _;exact⟨fun⟨o,hb,hn,h⟩=>⟨o,hb,hn,(ih _).1 h⟩,fun⟨o,hb,hn,h⟩=>⟨o,hb,hn,(ih _).2 h⟩⟩
 |setObj r o' k ih=>intro _ _ _;exact⟨fun⟨o,hb,hn,h⟩=>⟨o,hb,hn,ih.1 h⟩,fun⟨o,hb,hn,h⟩=>⟨o,hb,hn,ih.2 h⟩⟩
 |choose q k ih=>intro _ _ _;exact⟨fun h=>⟨fun e=>(ih _).1 (h.1 e),fun e t=>(ih _).1 (h.2 e t)⟩,fun h=>⟨fun e=>(ih _).2 (h.1 e),fun e t=>(ih _).2 (h.2 e t)⟩⟩
 |sys c k ih=>intro _ _ _;exact Iff.rfl
 |program k ih=>intro _ _ _;exact ih _
 |mark m k ih=>intro _ _ _;exact ih
 |halt x=>intro _ _ _;cases x<;>exact Iff.rfl
def Tri(P:Program)(f:FuncId)(args:Array Value)(H:PH)(R:Ending→PH→Prop):Prop:=
 ∀w,Vis H w→Calls P f args w fun e w'=>∃H',Adv H w H' w'∧R e H'
theorem Tri.mono{P:Program}{f:FuncId}{args:Array Value}{H:PH}{R R':Ending→PH→Prop}(h:Tri P f args H R)(hr:∀e H',R e H'→R' e H'):Tri P f args H R':=
 fun w hv=>(h w hv).mono fun _ _⟨H',ha,r⟩=>⟨H',ha,hr _ _ r⟩
inductive Tag where
 |int (k:IntKind)
 |bool
 |str
 |sl
 |ptr
 |map
 |any
 deriving DecidableEq
def Tag.ok:Tag→Value→Bool
 | .int k,.int k' _=>decide (k=k')
 | .bool,.bool _=>true
 | .str,.string _=>true
 | .sl,.slice ..=>true
 | .ptr,.pointer _=>true
 | .map,.map _=>true
 | .any,.bool _=>true
 | .any,.int ..=>true
 | .any,.float ..=>true
 | .any,.complex ..=>true
 | .any,.string _=>true
 | .any,.pointer _=>true
 | .any,.slice ..=>true
 | .any,.map _=>true
 | .any,.chan _=>true
 | .any,.func ..=>true
 | .any,.nilFunc=>true
 | .any,.iface ..=>true
 | .any,.nilIface=>true
 |_,_=>false
def z07:List Tag→List Value→Bool
 | [],[]=>true
 |t::ts,v::vs=>t.ok v&&z07 ts vs
 |_,_=>false
def iOf:Value→Int
 | .int _ n=>n
 |_=>0
def bOf:Value→Bool
 | .bool b=>b
 |_=>false
def sOf:Value→ByteArray
 | .string s=>s
 |_=>.empty
def pOf:Value→Option Addr
 | .pointer a=>a
 |_=>none
def z0b:Value→Option Addr
 | .slice a _ _=>a
 |_=>none
def slLen:Value→Nat
 | .slice _ n _=>n
 |_=>0
def slCap:Value→Nat
 | .slice _ _ c=>c
 |_=>0
def z61:Value→Bool
 | .pointer none=>true
 | .slice none _ _=>true
 | .map none=>true
 |_=>false
inductive SV where
 |atom (i:Nat)
 |int (k:IntKind) (n:Int)
 |bool (b:Bool)
 |str (l:List UInt8)
 |nil (c:Nat)
 |fn (f:Nat)
 |glob (g:Nat)
 |box (d off:Nat)
 |ar (op:BinOp) (k:IntKind) (a b:SV)
 |cmp (op:BinOp) (a b:SV)
 |scmp (op:BinOp) (a b:SV)
 |beq (a b:SV)
 |isnil (a:SV)
 |pick (c a b:SV)
 |not (a:SV)
 |com (k:IntKind) (a:SV)
 |conv (k:IntKind) (a:SV)
 |len (a:SV)
 |cap (a:SV)
 |slen (a:SV)
 |padd (p:SV) (n:Nat)
 |elt (s i:SV) (sz:Nat)
 |sidx (s i:SV)
 |ssub (s lo hi:SV)
 |cat (a b:SV)
 |sls (s lo hi:SV) (sz:Nat)
def arI(op:BinOp)(k:IntKind)(x y:Int):Int:=
 match op with
 | .add=>k.wrap (x+y)
 | .sub=>k.wrap (x-y)
 | .mul=>k.wrap (x*y)
 | .quo=>k.wrap (x.tdiv y)
 | .rem=>x.tmod y
 | .and=>k.wrap (BitVec.ofInt k.bits x &&& BitVec.ofInt k.bits y).toNat
 | .or=>k.wrap (BitVec.ofInt k.bits x ||| BitVec.ofInt k.bits y).toNat
 | .xor=>k.wrap (BitVec.ofInt k.bits x ^^^ BitVec.ofInt k.bits y).toNat
 | .andNot=>k.wrap (BitVec.ofInt k.bits x &&& ~~~(BitVec.ofInt k.bits y)).toNat
 | .shl=>k.wrap (x*2^(min y.toNat k.bits))
 | .shr=>x.fdiv (2^(min y.toNat k.bits))
 |_=>0
def cmpI(op:BinOp)(x y:Int):Bool:=
 match op with
 | .eql=>x==y
 | .neq=>x != y
 | .lss=>decide (x<y)
 | .leq=>decide (x≤y)
 | .gtr=>decide (x>y)
 | .geq=>decide (x≥y)
 |_=>false
def cmpS(op:BinOp)(x y:ByteArray):Bool:=
 match op with
 | .eql=>x.toList==y.toList
 | .neq=>!(x.toList==y.toList)
 | .lss=>Op.bytesLess x.toList y.toList
 | .leq=>Op.bytesLess x.toList y.toList||x.toList==y.toList
 | .gtr=>!(Op.bytesLess x.toList y.toList||x.toList==y.toList)
 | .geq=>!Op.bytesLess x.toList y.toList
 |_=>false
def comI(k:IntKind)(n:Int):Int:=k.wrap (BitVec.ofInt k.bits (if k.signed then -1 else k.max) ^^^ BitVec.ofInt k.bits n).toNat
def nilV:Nat→Value
 |0=>.pointer none
 |1=>.slice none 0 0
 |2=>.map none
 |3=>.nilFunc
 |4=>.nilIface
 |_=>.chan none
def eltV(s:Value)(i:Int)(sz:Nat):Value:=.pointer ((z0b s).map (·.add (i.toNat*sz)))
def slsV(s:Value)(lo hi:Int)(sz:Nat):Value:=
 .slice (if slCap s=lo.toNat then z0b s else(z0b s).map (·.add (lo.toNat*sz))) (hi.toNat-lo.toNat) (slCap s-lo.toNat)
def ev(E:List Value)(r:Nat→Nat):SV→Value
 | .atom i=>E.getD i (.bool false)
 | .int k n=>.int k n
 | .bool b=>.bool b
 | .str l=>.string ⟨l.toArray⟩
 | .nil c=>nilV c
 | .fn f=>.func (.func f) #[] #[]
 | .glob g=>.pointer (some ⟨g,0,none⟩)
 | .box d off=>.pointer (some ⟨r d,off,none⟩)
 | .ar op k a b=>.int k (arI op k (iOf (ev E r a)) (iOf (ev E r b)))
 | .cmp op a b=>.bool (cmpI op (iOf (ev E r a)) (iOf (ev E r b)))
 | .scmp op a b=>.bool (cmpS op (sOf (ev E r a)) (sOf (ev E r b)))
 | .beq a b=>.bool (bOf (ev E r a)==bOf (ev E r b))
 | .isnil a=>.bool (z61 (ev E r a))
 | .pick c a b=>if bOf (ev E r c)then ev E r a else ev E r b
 | .not a=>.bool (!bOf (ev E r a))
 | .com k a=>.int k (comI k (iOf (ev E r a)))
 | .conv k a=>.int k (k.wrap (iOf (ev E r a)))
 | .len a=>.int .i64 (slLen (ev E r a))
 | .cap a=>.int .i64 (slCap (ev E r a))
 | .slen a=>.int .i64 (sOf (ev E r a)).size
 | .padd p n=>.pointer ((pOf (ev E r p)).map (·.add n))
 | .elt s i sz=>eltV (ev E r s) (iOf (ev E r i)) sz
 | .sidx s i=>.int .u8 (((sOf (ev E r s))[(iOf (ev E r i)).toNat]?).getD 0).toNat
 | .ssub s lo hi=>.string ((sOf (ev E r s)).extract (iOf (ev E r lo)).toNat (iOf (ev E r hi)).toNat)
 | .cat a b=>.string (sOf (ev E r a)++sOf (ev E r b))
 | .sls s lo hi sz=>slsV (ev E r s) (iOf (ev E r lo)) (iOf (ev E r hi)) sz
def SV.noBox:SV→Bool
 | .box _ _=>false
 | .ar _ _ a b | .cmp _ a b | .scmp _ a b | .beq a b | .sidx a b | .cat a b=>a.noBox&&b.noBox
 | .elt a b _=>a.noBox&&b.noBox
 | .pick a b c | .ssub a b c=>a.noBox&&b.noBox&&c.noBox
 | .sls a b c _=>a.noBox&&b.noBox&&c.noBox
 | .not a | .com _ a | .conv _ a | .len a | .cap a | .slen a | .padd a _ | .isnil a=>a.noBox
 |_=>true
def SV.under(n:Nat):SV→Bool
 | .atom i=>decide (i<n)
 | .ar _ _ a b | .cmp _ a b | .scmp _ a b | .beq a b | .sidx a b | .cat a b=>a.under n&&b.under n
 | .elt a b _=>a.under n&&b.under n
 | .pick a b c | .ssub a b c=>a.under n&&b.under n&&c.under n
 | .sls a b c _=>a.under n&&b.under n&&c.under n
 | .not a | .com _ a | .conv _ a | .len a | .cap a | .slen a | .padd a _ | .isnil a=>a.under n
 |_=>true
def SV.bxu(m:Nat):SV→Bool
 | .box d _=>decide (d<m)
 | .ar _ _ a b | .cmp _ a b | .scmp _ a b | .beq a b | .sidx a b | .cat a b=>a.bxu m&&b.bxu m
 | .elt a b _=>a.bxu m&&b.bxu m
 | .pick a b c | .ssub a b c=>a.bxu m&&b.bxu m&&c.bxu m
 | .sls a b c _=>a.bxu m&&b.bxu m&&c.bxu m
 | .not a | .com _ a | .conv _ a | .len a | .cap a | .slen a | .padd a _ | .isnil a=>a.bxu m
 |_=>true
def SV.same:SV→SV→Bool
 | .atom i,.atom j=>i==j
 | .int k n,.int k' n'=>decide (k=k')&&decide (n=n')
 | .bool a,.bool b=>a==b
 | .str l,.str m=>l==m
 | .nil c,.nil d=>c==d
 | .fn f,.fn g=>f==g
 | .glob f,.glob g=>f==g
 | .box d o,.box d' o'=>d==d'&&o==o'
 | .ar op k a b,.ar op' k' a' b'=>decide (op=op')&&decide (k=k')&&a.same a'&&b.same b'
 | .cmp op a b,.cmp op' a' b'=>decide (op=op')&&a.same a'&&b.same b'
 | .scmp op a b,.scmp op' a' b'=>decide (op=op')&&a.same a'&&b.same b'
 | .beq a b,.beq a' b'=>a.same a'&&b.same b'
 | .isnil a,.isnil a'=>a.same a'
 | .pick c a b,.pick c' a' b'=>c.same c'&&a.same a'&&b.same b'
 | .not a,.not a'=>a.same a'
 | .com k a,.com k' a'=>decide (k=k')&&a.same a'
 | .conv k a,.conv k' a'=>decide (k=k')&&a.same a'
 | .len a,.len a'=>a.same a'
 | .cap a,.cap a'=>a.same a'
 | .slen a,.slen a'=>a.same a'
 | .padd a n,.padd a' n'=>a.same a'&&n==n'
 | .elt a b n,.elt a' b' n'=>a.same a'&&b.same b'&&n==n'
 | .sidx a b,.sidx a' b'=>a.same a'&&b.same b'
 | .ssub c a b,.ssub c' a' b'=>c.same c'&&a.same a'&&b.same b'
 | .cat a b,.cat a' b'=>a.same a'&&b.same b'
 | .sls c a b n,.sls c' a' b' n'=>c.same c'&&a.same a'&&b.same b'&&n==n'
 |_,_=>false
def tagOf(ts:List Tag):SV→Tag
 | .atom i=>ts.getD i .bool
 | .int k _=>.int k
 | .bool _=>.bool
 | .str _=>.str
 | .nil 0=>.ptr
 | .nil 1=>.sl
 | .nil 2=>.map
 | .nil _=>.any
 | .fn _=>.any
 | .glob _=>.ptr
 | .box _ _=>.ptr
 | .ar _ k _ _=>.int k
 | .cmp .. | .scmp .. | .beq .. | .not _ | .isnil _=>.bool
 | .pick _ a b=>if tagOf ts a=tagOf ts b then tagOf ts a else .any
 | .com k _=>.int k
 | .conv k _=>.int k
 | .len _ | .cap _ | .slen _=>.int .i64
 | .padd .. | .elt ..=>.ptr
 | .sidx ..=>.int .u8
 | .ssub .. | .cat ..=>.str
 | .sls ..=>.sl
inductive VE where
 |junk
 |sc (s:SV)
 |ag (cs:List SV)
 |tu (vs:List (Bool×List SV))
def partV(E:List Value)(r:Nat→Nat)(x:Bool×List SV):Value:=
 if x.1 then .agg (x.2.map (ev E r)).toArray else ev E r (x.2.headD (.nil 0))
def evV(E:List Value)(r:Nat→Nat):VE→Value
 | .junk=>undef
 | .sc s=>ev E r s
 | .ag cs=>.agg (cs.map (ev E r)).toArray
 | .tu vs=>.tuple (vs.map (partV E r)).toArray
abbrev Guard:=List (SV×Bool)
structure Ent where
 g:Guard
 v:VE
structure Bx where
 id:Nat
 ty:TypeId
 cs:List SV
 sl:Nat
def dead:Ent:=⟨[],.junk⟩
def none0:Ent:=⟨[],.tu []⟩
inductive Chk where
 |inSl (s i:SV)
 |inStr (s i:SV)
 |sub (n lo hi:SV)
 |nz (a:SV)
 |nneg (a:SV)
 |some (p:SV)
 |catOk (a b:SV)
def Chk.same:Chk→Chk→Bool
 | .inSl a b,.inSl c d=>a.same c&&b.same d
 | .inStr a b,.inStr c d=>a.same c&&b.same d
 | .sub a b e,.sub c d f=>a.same c&&b.same d&&e.same f
 | .nz a,.nz b=>a.same b
 | .nneg a,.nneg b=>a.same b
 | .some a,.some b=>a.same b
 | .catOk a b,.catOk c d=>a.same c&&b.same d
 |_,_=>false
def Chk.under(n:Nat):Chk→Bool
 | .inSl a b | .inStr a b | .catOk a b=>a.under n&&b.under n
 | .sub a b c=>a.under n&&b.under n&&c.under n
 | .nz a | .nneg a | .some a=>a.under n
structure St where
 fr:List Ent
 bx:List Bx
 nb:Nat
 nl:Nat
 tags:List Tag
 asu:Guard
 kn:List Chk
 its:List (Nat×TypeId)
def Chk.noBox:Chk→Bool
 | .inSl a b | .inStr a b | .catOk a b=>a.noBox&&b.noBox
 | .sub a b c=>a.noBox&&b.noBox&&c.noBox
 | .nz a | .nneg a | .some a=>a.noBox
def ev0(E:List Value)(s:SV):Value:=ev E (fun _=>0) s
def Chk.holds(E:List Value):Chk→Prop
 | .inSl s i=>(z0b (ev0 E s)).isSome=true∧0≤iOf (ev0 E i)∧iOf (ev0 E i)<slLen (ev0 E s)
 | .inStr s i=>0≤iOf (ev0 E i)∧iOf (ev0 E i)<(sOf (ev0 E s)).size
 | .sub n lo hi=>0≤iOf (ev0 E lo)∧iOf (ev0 E lo)≤iOf (ev0 E hi)∧iOf (ev0 E hi)≤iOf (ev0 E n)
 | .nz a=>iOf (ev0 E a)≠0
 | .nneg a=>0≤iOf (ev0 E a)
 | .some p=>(pOf (ev0 E p)).isSome=true
 | .catOk a b=>(((sOf (ev0 E a)).size+(sOf (ev0 E b)).size:Nat):Int)≤IntKind.i64.max
def Guard.holds(E:List Value)(r:Nat→Nat)(g:Guard):Prop:=∀x∈g,bOf (ev E r x.1)=x.2
inductive RS where
 |sc (t:Tag)
 |ag (ts:List Tag)
 |tu (l:List (Bool×List Tag))
def RS.tags:RS→List Tag
 | .sc t=>[t]
 | .ag ts=>ts
 | .tu l=>l.flatMap (·.2)
def z1v(n:Nat):List Tag→List SV
 | []=>[]
 |_::ts=>.atom n::z1v (n+1) ts
def zyz(n:Nat):List (Bool×List Tag)→List (Bool×List SV)
 | []=>[]
 |(b,ts)::l=>(b,z1v n ts)::zyz (n+ts.length) l
def RS.ve(n:Nat):RS→VE
 | .sc _=>.sc (.atom n)
 | .ag ts=>.ag (z1v n ts)
 | .tu l=>.tu (zyz n l)
def zy9:List (Bool×List Tag)→List Value→List Value
 | [],_=>[]
 |(b,ts)::l,vs=>(if b then .agg (vs.take ts.length).toArray else vs.headD (.pointer none))::zy9 l (vs.drop ts.length)
def RS.pack:RS→List Value→Value
 | .sc _,vs=>vs.headD (.bool false)
 | .ag _,vs=>.agg vs.toArray
 | .tu l,vs=>.tuple (zy9 l vs).toArray
def z27(P:Program):Nat→TypeId→List Tag
 |0,_=>[]
 |d+1,t=>
  match P.underlying t with
  |some (.int k)=>[.int k]
  |some .bool=>[.bool]
  |some .string=>[.str]
  |some (.slice _)=>[.sl]
  |some (.pointer _)=>[.ptr]
  |some (.map _ _)=>[.map]
  |some (.struct fs)=>fs.toList.flatMap fun f=>z27 P d f.type
  |some (.array n e)=>(List.replicate n (z27 P d e)).flatten
  |_=>[.any]
def z9v(P:Program)(t:TypeId):Bool:=
 match P.underlying t with
 |some (.struct _)|some (.array _ _)=>true
 |_=>false
def rsOf(P:Program)(t:TypeId):RS:=
 match P.underlying t with
 |some (.tuple ts)=>.tu (ts.toList.map fun u=>(z9v P u,z27 P 12 u))
 |some (.struct _)|some (.array _ _)=>.ag (z27 P 12 t)
 |_=>.sc ((z27 P 12 t).headD .any)
inductive Fm(α:Type) where
 |leaf (x:α)
 |fail (why:Nat)
 |ite (c:SV) (a b:Fm α)
 |chk (g:Guard) (c:Chk) (k:Fm α)
 |call (f:SV) (args:List VE) (res:RS) (pend:List (SV×List SV)) (k:Fm α)
 |load (p:SV) (tags:List Tag) (k:Fm α)
 |store (p:SV) (cs:List SV) (k:Fm α)
 |new (t:TypeId) (cs:List SV) (k:Fm α)
 |sem (o:Op) (ty:TypeId) (args:List (Nat×VE)) (res:RS) (pend:List (SV×List SV)) (k:Fm α)
 |alt (o:Op) (ty:TypeId) (args:List (Nat×VE)) (r1 r2:RS) (k1 k2:Fm α)
 |loop (id:Nat) (tags:List Tag) (init:List SV) (body:Fm α)
 |join (id:Nat) (tags:List Tag) (rest main:Fm α)
 |next (id:Nat) (vs:List SV)
 |both (a b:Fm α)
 |hold (pend:List (SV×List SV)) (k:Fm α)
 |far (id:Nat) (g:SV) (rs:List RS) (body k:Fm α)
def Fm.bind{α β:Type}:Fm α→(α→Fm β)→Fm β
 | .leaf x,f=>f x
 | .fail w,_=>.fail w
 | .ite c a b,f=>.ite c (a.bind f) (b.bind f)
 | .chk g c k,f=>.chk g c (k.bind f)
 | .call a b c d k,f=>.call a b c d (k.bind f)
 | .load p t k,f=>.load p t (k.bind f)
 | .store p c k,f=>.store p c (k.bind f)
 | .new t c k,f=>.new t c (k.bind f)
 | .sem a b c d e k,f=>.sem a b c d e (k.bind f)
 | .alt a b c d e k l,f=>.alt a b c d e (k.bind f) (l.bind f)
 | .loop i t v b,f=>.loop i t v (b.bind f)
 | .join i t r m,f=>.join i t (r.bind f) (m.bind f)
 | .next i v,_=>.next i v
 | .both a b,f=>.both (a.bind f) (b.bind f)
 | .hold p k,f=>.hold p (k.bind f)
 | .far i g rs b k,f=>.far i g rs (b.bind fun _=>.fail 99) (k.bind f)
def hasG(G:Guard)(x:SV×Bool):Bool:=G.any fun y=>x.1.same y.1&&x.2==y.2
def sub1(g:Guard)(G:Guard):Bool:=g.all (hasG G)
def litOf(asu:Guard)(s:SV):SV:=if hasG asu (s,true)then .bool true else if hasG asu (s,false)then .bool false else s
def zcf:Value→Option SV
 | .bool b=>some (.bool b)
 | .int k n=>some (.int k n)
 | .string s=>some (.str s.data.toList)
 | .pointer none=>some (.nil 0)
 | .slice none 0 0=>some (.nil 1)
 | .map none=>some (.nil 2)
 | .nilFunc=>some (.nil 3)
 | .nilIface=>some (.nil 4)
 | .chan none=>some (.nil 5)
 |_=>none
def zz7:Value→Option VE
 | .agg cs=>(cs.toList.mapM zcf).map .ag
 | .tuple vs=>if vs.size=0 then some (.tu [])else none
 |v=>(zcf v).map .sc
def opv(st:St)(G:Guard):Operand→Option VE
 | .tmp t=>match st.fr[t]? with
  |some e=>match e.v with
   | .junk=>none
   | .sc s=>if sub1 e.g (G++st.asu)then some (.sc (litOf st.asu s))else none
   |v=>if sub1 e.g (G++st.asu)then some v else none
  |none=>none
 | .const v=>zz7 v
 | .global g=>some (.sc (.glob g))
 | .func f=>some (.sc (.fn f))
def ops1(st:St)(G:Guard)(x:Operand):Option SV:=
 match opv st G x with
 |some (.sc s)=>some s
 |_=>none
def z56:VE→Option (List SV)
 | .sc s=>some [s]
 | .ag cs=>some cs
 |_=>none
def z9p(c a b:SV):SV:=if a.same b then a else .pick c a b
def pickV(c:SV)(a b:VE):Option VE:=
 match c with
 | .bool true=>some a
 | .bool false=>some b
 |_=>match a,b with
  | .sc x,.sc y=>some (.sc (z9p c x y))
  | .ag xs,.ag ys=>if xs.length=ys.length then some (.ag (xs.zipWith (z9p c) ys))else none
  |_,_=>none
def zcd(st:St)(d:Nat):Option Bx:=st.bx.find? fun b=>b.id==d
def Zb1:BinOp→Bool
 | .add | .sub | .mul | .and | .or | .xor | .andNot | .quo | .rem | .shl | .shr=>true
 |_=>false
def isCmp:BinOp→Bool
 | .eql | .neq | .lss | .leq | .gtr | .geq=>true
 |_=>false
def isNz:SV→Bool
 | .int _ n=>decide (n≠0)
 |_=>false
def Zhd:SV→Bool
 | .int _ n=>decide (0≤n)
 | .conv k _=>!k.signed
 |_=>false
def Zbv(P:Program)(t:TypeId):Bool:=
 match P.underlying t with
 |some .bool=>true
 |_=>false
def isSlT(P:Program)(t:TypeId):Bool:=
 match P.underlying t with
 |some (.slice _)=>true
 |_=>false
def Zi6(P:Program)(t:TypeId):Bool:=
 match P.underlying t with
 |some (.map _ _)=>true
 |_=>false
def Zhr(P:Program)(t:TypeId):Bool:=
 match P.underlying t with
 |some (.pointer _)=>true
 |_=>false
def zrn(c:Nat):SV→Bool
 | .nil d=>c==d
 |_=>false
abbrev Light:=Option (List Chk×VE)
def binL(P:Program)(ts:List Tag)(op:BinOp)(xT:TypeId)(a b:SV):Light:=
  match tagOf ts a,tagOf ts b with
  | .int k,.int k'=>
    if op=.shl∨op=.shr then(if Zhd b then some ([],.sc (.ar op k a b))else some ([.nneg b],.sc (.ar op k a b)))
    else if k=k' then
      (if isCmp op then some ([],.sc (.cmp op a b))
       else if op=.quo∨op=.rem then(if isNz b then some ([],.sc (.ar op k a b))else some ([.nz b],.sc (.ar op k a b)))
       else if Zb1 op then some ([],.sc (.ar op k a b))else none)
    else none
  | .str,.str=>if isCmp op then some ([],.sc (.scmp op a b))else if op=.add then some ([.catOk a b],.sc (.cat a b))else none
  | .bool,.bool=>
    if Zbv P xT=true then
      (if op=.eql then some ([],.sc (.beq a b))else if op=.neq then some ([],.sc (.not (.beq a b)))else none)
    else none
  | .sl,.sl=>
    if isSlT P xT=true∧zrn 1 b=true then
      (if op=.eql then some ([],.sc (.isnil a))else if op=.neq then some ([],.sc (.not (.isnil a)))else none)
    else none
  | .map,.map=>
    if Zi6 P xT=true∧zrn 2 b=true then
      (if op=.eql then some ([],.sc (.isnil a))else if op=.neq then some ([],.sc (.not (.isnil a)))else none)
    else none
  | .ptr,.ptr=>
    if Zhr P xT=true∧zrn 0 b=true then
      (if op=.eql then some ([],.sc (.isnil a))else if op=.neq then some ([],.sc (.not (.isnil a)))else none)
    else none
  |_,_=>none
def znq(kn:List Chk):SV→Bool
 | .elt s i z=>kn.any (fun c=>c.same (.inSl s i))||kn.any (fun c=>c.same (.some (.elt s i z)))
 | .padd p n=>znq kn p||kn.any (fun c=>c.same (.some (.padd p n)))
 |p=>kn.any (fun c=>c.same (.some p))
def nnL(st:St)(p:SV):List Chk:=if znq st.kn p then[]else[.some p]
def zpp(P:Program)(T:TypeId)(f:Nat):Option Field:=
 match P.underlying T with
 |some (.struct fs)=>fs[f]?
 |_=>none
def cut(cs:List SV)(off n:Nat):Option (List SV):=if off+n≤cs.length then some ((cs.drop off).take n)else none
def partL(P:Program)(t:TypeId)(cs:List SV)(off:Nat):Option VE:=
 if z9v P t then(match P.info? t with|some i=>(cut cs off i.size).map .ag|none=>none)
 else match P.underlying t with
  |some _=>(cs[off]?).map .sc
  |none=>none
def lenL(P:Program)(T:TypeId)(ts:List Tag)(x:SV):Light:=
 match P.underlying T,tagOf ts x with
 |some .string,.str=>match x with
  | .str l=>some ([],.sc (.int .i64 l.length))
  |_=>some ([],.sc (.slen x))
 |some (.slice _),.sl=>some ([],.sc (.len x))
 |_,_=>none
def fillL(place:Nat→Option (Nat×Nat))(cells:List SV):List (Nat×VE)→Option (List SV)
 | []=>some cells
 |(i,v)::rest=>match place i,z56 v with
  |some (off,size),some cs=>if cs.length=size∧off+cs.length≤cells.length then fillL place (cells.take off++cs++cells.drop (off+cs.length)) rest else none
  |_,_=>none
def zeroL(P:Program)(t:TypeId):Option VE:=
 match P.info? t with
 |some i=>i.zero.bind zz7
 |none=>none
def optOp(st:St)(G:Guard)(x:Option Operand)(d:SV):Option SV:=
 match x with
 |some v=>ops1 st G v
 |none=>some d
def callL(P:Program)(st:St)(G:Guard)(c:Call):Light:=
 match c.callee,c.args.toList,c.argTypes.toList with
 | .builtin .len,[x],[T]=>(match ops1 st G x with
  |some a=>lenL P T st.tags a
  |none=>none)
 | .builtin .cap,[x],[T]=>(match ops1 st G x with
  | some a=>(match P.underlying T,tagOf st.tags a with
   |some (.slice _),.sl=>some ([],.sc (.cap a))
   |_,_=>none)
  |none=>none)
 | .builtin .min,[x,y],_=>(match ops1 st G x,ops1 st G y with
  | some a,some b=>(match tagOf st.tags a,tagOf st.tags b with
   | .int k,.int k'=>if k=k' then some ([],.sc (.pick (.cmp .lss b a) b a))else none
   |_,_=>none)
  |_,_=>none)
 | .builtin .max,[x,y],_=>(match ops1 st G x,ops1 st G y with
  | some a,some b=>(match tagOf st.tags a,tagOf st.tags b with
   | .int k,.int k'=>if k=k' then some ([],.sc (.pick (.cmp .gtr b a) b a))else none
   |_,_=>none)
  |_,_=>none)
 |_,_,_=>none
def z13(P:Program)(st:St)(G:Guard)(op:Op):Light:=
 match op with
 | .move x | .assign x=>(opv st G x).map ([],·)
 | .pick c a b=>match ops1 st G c with
  |some c=>if tagOf st.tags c=.bool then
    (match opv st (G++[(c,true)]) a,opv st (G++[(c,false)]) b,c with
    |some x,_,.bool true=>some ([],x)
    |_,some y,.bool false=>some ([],y)
    |some x,some y,c=>(pickV c x y).map ([],·)
    |_,_,_=>none)else none
  |none=>none
 | .fieldAddr T x f=>do
  let p ←ops1 st G x
  let fd ←zpp P T f
  let i ←P.info? fd.type
  if i.size=0 then none else
  match p with
  | .box d off=>some ([],.sc (.box d (off+fd.offset)))
  |p=>if tagOf st.tags p=.ptr then some (nnL st p,.sc (.padd p fd.offset))else none
 | .nilCheck x=>do
  let p ←ops1 st G x
  match p with
  | .box d off=>some ([],.sc (.box d off))
  | .fn f=>some ([],.sc (.fn f))
  |p=>if tagOf st.tags p=.ptr then some (nnL st p,.sc p)else none
 | .load T x=>do
  let p ←ops1 st G x
  match p with
  | .box d off=>do
   let b ←zcd st d
   let v ←partL P T b.cs off
   some ([],v)
  |_=>none
 | .binOp op xT x y _=>do
  let a ←ops1 st G x
  let b ←ops1 st G y
  binL P st.tags op xT a b
 | .unOp op _ x=>do
  let a ←ops1 st G x
  match op,tagOf st.tags a with
  | .not,.bool=>some ([],.sc (.not a))
  | .neg,.int k=>some ([],.sc (.ar .sub k (.int k 0) a))
  | .xor,.int k=>some ([],.sc (.com k a))
  |_,_=>none
 | .convert src dst x=>do
  let a ←ops1 st G x
  let _ ←P.underlying src
  match P.underlying dst,tagOf st.tags a with
  |some (.int k),.int _=>some ([],.sc (.conv k a))
  |some .string,.str=>some ([],.sc a)
  |_,_=>none
 | .extract x i=>match opv st G x with
  |some (.tu vs)=>match vs[i]? with
   |some (true,cs)=>some ([],.ag cs)
   |some (false,c::_)=>some ([],.sc c)
   |_=>none
  |_=>none
 | .field T x f=>match opv st G x with
  |some (.ag cs)=>do
   let fd ←zpp P T f
   let v ←partL P fd.type cs fd.offset
   some ([],v)
  |_=>none
 | .index T x i=>do
  let a ←ops1 st G x
  let b ←ops1 st G i
  match P.underlying T,tagOf st.tags a,tagOf st.tags b with
  |some .string,.str,.int _=>some ([.inStr a b],.sc (.sidx a b))
  |_,_,_=>none
 | .indexAddr T x i=>do
  let a ←ops1 st G x
  let b ←ops1 st G i
  match P.underlying T,a,tagOf st.tags a,tagOf st.tags b with
  |some (.array n e),.box d off,_,.int _=>do
   let inf ←P.info? e
   match b with
   | .int _ j=>if 0≤j∧j<n∧1<n then some ([],.sc (.box d (off+j.toNat*inf.size)))else none
   |_=>none
  |some (.slice e),_,.sl,.int _=>do
   let inf ←P.info? e
   some (if st.kn.any (fun c=>c.same (.inSl a b))then[]else[.inSl a b],.sc (.elt a b inf.size))
  |_,_,_,_=>none
 | .call c=>callL P st G c
 | .slice T x lo hi none=>do
  let a ←ops1 st G x
  let l ←optOp st G lo (.int .i64 0)
  match P.underlying T,tagOf st.tags a,tagOf st.tags l with
  |some .string,.str,.int _=>do
   let h ←optOp st G hi (.slen a)
   match tagOf st.tags h with
   | .int _=>some ([.sub (.slen a) l h],.sc (.ssub a l h))
   |_=>none
  |some (.slice e),.sl,.int _=>do
   let h ←optOp st G hi (.len a)
   let inf ←P.info? e
   match tagOf st.tags h with
   | .int _=>some ([.sub (.cap a) l h],.sc (.sls a l h inf.size))
   |_=>none
  |_,_,_=>none
 | .build T parts=>match zeroL P T,parts.toList.mapM fun p=>(opv st G p.2).map fun v=>(p.1,v)with
  | some (.ag zs),some ps=>(match P.underlying T with
   | some (.struct fs)=>(match fs.toList.mapM fun f=>(P.info? f.type).map fun i=>(f.offset,i.size) with
    |some places=>(fillL (places[·]?) zs ps).map fun cs=>([],.ag cs)
    |none=>none)
   | some (.array _ e)=>(match P.info? e with
    |some inf=>(fillL (fun i=>some (i*inf.size,inf.size)) zs ps).map fun cs=>([],.ag cs)
    |none=>none)
   |_=>none)
  |_,_=>none
 |_=>none
def St.set(st:St)(d:Option Nat)(e:Ent):St:=
 match d with
 |some t=>{ st with fr:=st.fr.set t e }
 |none=>st
inductive GK where
 |never
 |bad
 |ctx (g:Guard)
def z45(ops:Array Oper)(st:St)(o:Oper):GK:=
 match o.guard with
 |none=>.ctx []
 |some (j,want)=>match(ops[j]?).bind (·.dst)with
  |none=>.bad
  |some d=>match st.fr[d]? with
   |none=>.bad
   |some e=>
    if e.g.any (fun x=>hasG st.asu (x.1,!x.2))then(match e.v with | .junk=>.bad|_=>.never)else
    let g:=e.g.filter fun x=>!hasG st.asu x
    match e.v with
    | .sc s=>match litOf st.asu s with
     | .bool b=>if b=want then .ctx g else .never
     |c=>if tagOf st.tags c=.bool then .ctx (g++[(c,want)])else .bad
    | .tu []=>.never
    |_=>.bad
def assume(st:St)(c:SV)(b:Bool):St:={ st with asu:=(c,b)::st.asu }
def z4k(st:St)(d:Option Nat)(rs:RS):St:=
 { (st.set d ⟨[],rs.ve st.tags.length⟩)with tags:=st.tags++rs.tags }
def zsz:VE→Bool
 | .junk=>false
 | .sc s=>s.noBox
 | .ag cs=>cs.all SV.noBox
 | .tu vs=>vs.all fun x=>x.2.all SV.noBox
def newBox(st:St)(d:Option Nat)(T:TypeId)(cs:List SV):St:=
 { (st.set d ⟨[],.sc (.box st.nb 0)⟩)with bx:=⟨st.nb,T,cs,d.getD 0⟩::st.bx,nb:=st.nb+1 }
def SV.boxIn(st:St):SV→Nat
 | .box d _=>((zcd st d).map (·.sl)).getD 0
 |_=>0
def VE.boxIn(st:St):VE→Nat
 | .sc s=>s.boxIn st
 | .ag cs=>(cs.map (SV.boxIn st)).foldl max 0
 | .tu vs=>(vs.map fun x=>(x.2.map (SV.boxIn st)).foldl max 0).foldl max 0
 | .junk=>0
def putBx(d off:Nat)(cs:List SV)(b:Bx):Bx:=
 if b.id=d then { b with cs:=b.cs.take off++cs++b.cs.drop (off+cs.length) }else b
def z39(st:St):List Operand→Option (List (Nat×VE))
 | []=>some []
 | .tmp t::l=>match opv st [] (.tmp t),z39 st l with
  |some v,some r=>if zsz v then some ((t,v)::r)else none
  |_,_=>none
 |_::l=>z39 st l
def semOk:Op→Bool
 | .call { callee:=.builtin .append,.. } | .call { callee:=.builtin .copy,.. } | .call { callee:=.builtin .delete,.. } | .call { callee:=.builtin .len,.. }=>true
 | .call { callee:=.builtin .clear,.. }=>true
 | .buildSlice .. | .makeSlice .. | .makeMap .. | .lookup .. | .mapUpdate .. | .insert .. | .convert .. | .slice .. | .binOp .. | .indexAddr .. | .index ..
 | .makeInterface .. | .makeFunc .. | .typeAssert .. | .panic ..=>true
 |_=>false
def VE.under(n:Nat):VE→Bool
 | .junk=>true
 | .sc a=>a.under n
 | .ag a=>a.all (SV.under n)
 | .tu a=>a.all fun x=>x.2.all (SV.under n)
def mapRS(P:Program)(st:St)(x:Operand):Option ((Bool×List Tag)×(Bool×List Tag)):=
 match ops1 st [] x with
 |some (.atom i)=>match st.its.lookup i with
  |some T=>match P.underlying T with
   |some (.map k e)=>some ((z9v P k,z27 P 12 k),(z9v P e,z27 P 12 e))
   |_=>none
  |none=>none
 |_=>none
def St.under(st:St):Bool:=
 let n:=st.tags.length
 (st.fr.all fun e=>e.v.under n&&e.g.all fun x=>x.1.under n)&&(st.bx.all fun b=>b.cs.all (SV.under n))&&(st.asu.all fun x=>x.1.under n)&&(st.kn.all (Chk.under n))
def VE.bxu(m:Nat):VE→Bool
 | .junk=>true
 | .sc a=>a.bxu m
 | .ag a=>a.all (SV.bxu m)
 | .tu a=>a.all fun x=>x.2.all (SV.bxu m)
def St.bxu(st:St):Bool:=
 (st.fr.all fun e=>e.v.bxu st.nb&&e.g.all fun x=>x.1.bxu st.nb)&&(st.bx.all fun b=>b.cs.all (SV.bxu st.nb))&&(st.asu.all fun x=>x.1.bxu st.nb)
def RS.fineB:RS→Bool
 | .tu l=>l.all fun x=>x.1 || !x.2.isEmpty
 |_=>true
def isPub(pub:List Nat)(d:Option Nat):Bool:=
 match d with
 |some d=>pub.contains d
 |none=>false
def mkBox(pub:List Nat)(st:St)(o:Oper)(T:TypeId)(cs:List SV):Fm St:=
 if isPub pub o.dst=true then
  (if cs.all SV.noBox=true then .new T cs (.leaf (z4k st o.dst (.sc .ptr)))else .fail 10)
 else if st.bxu=true∧cs.all (SV.bxu st.nb)=true then .leaf (newBox st o.dst T cs)else .fail 97
def zxl(st:St)(o:Oper)(d off n:Nat)(cs:List SV):Fm St:=
 match zcd st d with
 |some b=>if cs.length=n∧off+cs.length≤b.cs.length∧o.dst=none then .leaf { st with bx:=st.bx.map (putBx d off cs) }else .fail 13
 |none=>.fail 14
def holdF(pend:List (SV×List SV))(k:Fm St):Fm St:=match pend with
 | []=>k
 |_=>.hold pend k
def Z5q(st:St)(o:Oper)(n:Nat)(p:SV)(cs:List SV)(pend:List (SV×List SV)):Fm St:=
 if tagOf st.tags p=.ptr∧p.noBox=true∧cs.all SV.noBox=true∧cs.length=n∧o.dst=none then .store p cs (holdF pend (.leaf st))else .fail 15
def z6s(P:Program)(T:TypeId):RS:=if z9v P T then .ag (z27 P 12 T)else .sc ((z27 P 12 T).headD .any)
def loadH(P:Program)(st:St)(o:Oper)(T:TypeId)(n:Nat)(p:SV):Fm St:=
 if tagOf st.tags p=.ptr∧p.noBox=true∧(z27 P 12 T).length=n∧(z6s P T).tags=z27 P 12 T∧(P.underlying T).isSome=true then .load p (z27 P 12 T) (.leaf (z4k st o.dst (z6s P T)))else .fail 17
def callH(P:Program)(st:St)(o:Oper)(pend:List (SV×List SV))(fv:SV)(vs:List VE):Fm St:=
 if fv.noBox=true∧vs.all zsz=true∧(rsOf P o.type).fineB=true then .call fv vs (rsOf P o.type) pend (.leaf (z4k st o.dst (rsOf P o.type)))else .fail (1000+((VE.sc fv::vs).map (VE.boxIn st)).foldl max 0)
def semH(P:Program)(st:St)(o:Oper)(pend:List (SV×List SV)):Fm St:=
 match o.op with
 | .range T x=>match z39 st [x]with
  |some args=>.sem (.range T x) o.type args (.sc .ptr) pend (.leaf { (z4k st o.dst (.sc .ptr))with its:=(st.tags.length,T)::st.its })
  |none=>.fail 25
 | .indexAddr T x i=>match z39 st (Op.indexAddr T x i).operands.toList with
  |some args=>.sem (.indexAddr T x i) o.type args (.sc .ptr) pend (.leaf (z4k st o.dst (.sc .ptr)))
  |none=>.fail 27
 | .entry x=>match z39 st [x],mapRS P st x with
  |some args,some (k,e)=>if(RS.tu [k,e]).fineB=true then .sem (.entry x) o.type args (.tu [k,e]) pend (.leaf (z4k st o.dst (.tu [k,e])))else .fail 96
  |_,_=>.fail 26
 | op=>if semOk op then (match z39 st op.operands.toList with
   |some args=>if(rsOf P o.type).fineB=true then .sem op o.type args (rsOf P o.type) pend (.leaf (z4k st o.dst (rsOf P o.type)))else .fail 96
   |none=>.fail 21)else .fail 22
def altH(P:Program)(st:St)(o:Oper)(x:Operand)(isS:Bool):Fm St:=
 match z39 st [x],(if isS then some ((false,[.int .i64]),(false,[.int .i32]))else mapRS P st x)with
 |some args,some (k,e)=>if(RS.tu [k,e]).fineB=true then .alt (.next x isS) o.type args (.tu [(false,[.bool])]) (.tu [(false,[.bool]),k,e])
   (.leaf (z4k st o.dst (.tu [(false,[.bool])]))) (.leaf (z4k st o.dst (.tu [(false,[.bool]),k,e])))else .fail 96
 |_,_=>.fail 24
def zcm(P:Program)(pub:List Nat)(st:St)(o:Oper)(pend:List (SV×List SV)):Fm St:=
 match o.op with
 | .box T x=>match(opv st [] x).bind z56 with
  |some cs=>mkBox pub st o T cs
  |none=>.fail 11
 | .alloc T=>match(zeroL P T).bind z56 with
  |some cs=>mkBox pub st o T cs
  |none=>.fail 12
 | .store T p x=>match ops1 st [] p,(opv st [] x).bind z56,P.info? T with
  |some (.box d off),some cs,some i=>zxl st o d off i.size cs
  |some p,some cs,some i=>Z5q st o i.size p cs pend
  |_,_,_=>.fail 16
 | .load T p=>match ops1 st [] p,P.info? T with
  |some p,some i=>loadH P st o T i.size p
  |_,_=>.fail 18
 | .call c=>match c.callee with
  | .value f=>match ops1 st [] f,c.args.toList.mapM (opv st [])with
   |some fv,some vs=>callH P st o pend fv vs
   |_,_=>.fail 20
  |_=>semH P st o pend
 | .next x isS=>if pend.isEmpty then altH P st o x isS else .fail 23
 |_=>semH P st o pend
def chksL{α:Type}(g:Guard):List Chk→Fm α→Fm α
 | [],k=>k
 |c::cs,k=>if c.noBox=true∧g.all (fun x=>x.1.noBox)=true then .chk g c (chksL g cs k)else .fail 30
def learn(st:St)(g:Guard)(cks:List Chk):St:=if g.isEmpty then { st with kn:=cks++st.kn }else st
def z5r(P:Program)(pub:List Nat)(ops:Array Oper):Nat→List Oper→St→Fm St
 |0,_,_=>.fail 1
 |_+1,[],st=>.leaf st
 |n+1,o::rest,st=>
  match z45 ops st o with
  | .bad=>.fail 2
  | .never=>z5r P pub ops n rest (st.set o.dst none0)
  | .ctx G=>match z13 P st G o.op with
   |some (cks,v)=>chksL G cks (z5r P pub ops n rest (learn (st.set o.dst ⟨G,v⟩) G cks))
   |none=>match G with
    | []=>if st.under=true then(zcm P pub st o []).bind (z5r P pub ops n rest)else .fail 98
    |(c,_)::_=>if c.noBox=true∧tagOf st.tags c=.bool then .ite c (z5r P pub ops n (o::rest) (assume st c true)) (z5r P pub ops n (o::rest) (assume st c false))else .fail 3
def zbw(ops:Array Oper)(done:List Nat):List Nat:=
 (List.range ops.size).filter fun i=>!done.contains i&&((ops[i]?).map (·.after.all fun e=>!Region.binds .any e||done.contains e.on)).getD false
def ancOf(o:Oper)(anc:List Nat):Nat:=o.after.toList.foldr (fun e m=>if Region.binds .any e then(1 <<< e.on) ||| (anc.getD e.on 0 ||| m)else m) 0
def Zn1(ops:Array Oper):List Nat:=ops.toList.foldl (fun acc o=>acc++[ancOf o acc]) []
def ancOk(ops:Array Oper)(anc:List Nat):Bool:=anc.length==ops.size&&(List.range ops.size).all fun j=>match ops[j]? with
 |some o=>anc.getD j 0==ancOf o anc
 |none=>true
def waits(anc:List Nat)(i j:Nat):Bool:=(anc.getD j 0).testBit i
def zn6(o:Oper):Bool:=
 match o.op with
 | .load ..=>true
 |_=>false
def zrp(st:St)(o:Oper):St:=if zn6 o then st else { st with bx:=[] }
abbrev Hold:=Nat×List (SV×List SV)
def pendU(n:Nat)(l:List (SV×List SV)):Bool:=l.all fun x=>x.1.under n&&x.2.all (SV.under n)
inductive Ahead where
 |never
 |light (G:Guard) (cks:List Chk) (v:VE)
 |load (T:TypeId) (p:SV)
 |no
def zir(P:Program)(ops:Array Oper)(st:St)(o:Oper):Ahead:=
 match z45 ops st o with
 | .never=>.never
 | .bad=>.no
 | .ctx G=>match z13 P (zrp st o) G o.op with
  |some (cks,v)=>.light G cks v
  |none=>match G,o.op with
   | [],.load T p=>match ops1 st [] p with
    |some s=>if s.under st.tags.length then .load T s else .no
    |none=>.no
   |_,_=>.no
def freeL(ops:Array Oper)(anc done:List Nat)(i:Nat)(o:Oper):Bool:=
 done.all (fun k=>!waits anc i k)&&(List.range ops.size).all fun j=>j==i||done.contains j||waits anc i j||match ops[j]? with
  |some oj=>o.apart ops oj
  |none=>true
def Zcc(P:Program)(ops:Array Oper)(anc:List Nat)(st:St)(done:List Nat)(i:Nat):Bool:=
 match ops[i]? with
 |some o=>(match zir P ops st o with | .no=>false|_=>true)&&freeL ops anc done i o
 |none=>false
def Z22(P:Program)(pub:List Nat)(ops:Array Oper)(go:List Nat→List Hold→St→Fm St)(done:List Nat)(hold:List Hold)(st:St)(i:Nat)(o:Oper):Fm St:=
 match zir P ops st o with
 | .never=>go (i::done) hold (st.set o.dst none0)
 | .light G cks v=>chksL G cks (go (i::done) (if zn6 o then(i,[])::hold else hold) (learn (st.set o.dst ⟨G,v⟩) G cks))
 | .load T s=>if st.under=true∧hold.all (fun h=>pendU st.tags.length h.2)=true then(zcm P pub st o []).bind (go (i::done) ((i,[(s,z1v st.tags.length (z27 P 12 T))])::hold))else .fail 98
 | .no=>.fail 42
def z7a(st:St)(o:Oper):Bool:=
 match o.op with
 | .store _ p _=>(match ops1 st [] p with|some (.box _ _)=>true|_=>false)
 |_=>false
def Znd(anc:List Nat)(hold:List Hold)(st:St)(i:Nat)(o:Oper):Bool:=hold.all fun h=>waits anc h.1 i||((!z7a st o || !h.2.isEmpty)&&pendU st.tags.length h.2)
def zzr(anc:List Nat)(hold:List Hold)(i:Nat):List (SV×List SV):=(hold.filter fun h=>!waits anc h.1 i).flatMap (·.2)
def zhu(P:Program)(pub:List Nat)(ops:Array Oper)(anc:List Nat)(go:List Nat→List Hold→St→Fm St)(done:List Nat)(hold:List Hold)(st:St)(i:Nat):Fm St:=
 match ops[i]? with
 |none=>.fail 43
 |some o=>match zir P ops st o with
  | .never=>go (i::done) hold (st.set o.dst none0)
  | .light G cks v=>chksL G cks (go (i::done) hold (learn (st.set o.dst ⟨G,v⟩) G cks))
  |_=>match z45 ops st o with
   | .ctx []=>if st.under=true∧Znd anc hold st i o=true then(zcm P pub st o (zzr anc hold i)).bind (go (i::done) (hold.filter fun h=>!waits anc h.1 i))else .fail 98
   |_=>.fail 46
def bothL:Fm St→List (Fm St)→Fm St
 |a,[]=>a
 |a,b::l=>.both a (bothL b l)
def askL(ops:Array Oper)(st:St)(i:Nat):Option SV:=
 match ops[i]? with
 |some o=>(match z45 ops st o with | .ctx ((c,_)::_)=>some c|_=>none)
 |none=>none
def drawL(P:Program)(pub:List Nat)(ops:Array Oper)(anc:List Nat):Nat→List Nat→List Hold→St→Fm St
 |0,_,_,_=>.fail 40
 |n+1,done,hold,st=>
  let rd:=zbw ops done
  match rd with
  | []=>.leaf st
  |i0::l0=>
   if done.length<ops.size then
    match rd.find? (Zcc P ops anc st done)with
    |some i=>match ops[i]? with
     |some o=>Z22 P pub ops (drawL P pub ops anc n) done hold st i o
     |none=>.fail 43
    |none=>match rd.findSome? (askL ops st)with
     |some c=>if c.noBox=true∧tagOf st.tags c=.bool then .ite c (drawL P pub ops anc n done hold (assume st c true)) (drawL P pub ops anc n done hold (assume st c false))else .fail 45
     |none=>bothL (zhu P pub ops anc (drawL P pub ops anc n) done hold st i0) (l0.map (zhu P pub ops anc (drawL P pub ops anc n) done hold st))
   else .fail 39
def drawR(P:Program)(pub:List Nat)(ops:Array Oper)(st:St):Fm St:=
 let anc:=Zn1 ops
 if ancOk ops anc=true∧Region.noSelect ops=true then drawL P pub ops anc 400 [] [] st else .fail 38
inductive Ex where
 |normal
 |exit (id:Nat)
 |ret
def Zmh(ops:Array Oper):List Nat:=ops.toList.filterMap (·.dst)
def z5s:Code→List Nat
 | .region _ ops _=>Zmh ops
 | .seq a b=>z5s a++z5s b
 | .cond _ a b=>z5s a++z5s b
 | .block _ b=>z5s b
 | .loop b=>z5s b
 | .scope b=>z5s b
 |_=>[]
def z5x:Code→List Oper
 | .region _ ops _=>ops.toList
 | .seq a b=>z5x a++z5x b
 | .cond _ a b=>z5x a++z5x b
 | .block _ b=>z5x b
 | .loop b=>z5x b
 | .scope b=>z5x b
 |_=>[]
def Znp:Op→Option Nat
 | .fieldAddr _ (.tmp x) _ | .indexAddr _ (.tmp x) _ | .nilCheck (.tmp x) | .move (.tmp x) | .assign (.tmp x)=>some x
 |_=>none
def zom(os:List Oper):List Nat:=
 let s0:=os.filterMap fun o=>match o.op with | .store _ (.tmp p) _=>some p|_=>none
 let grow (s:List Nat):List Nat:=s++(os.filterMap fun o=>match o.dst with|some d=>if s.contains d then Znp o.op else none|none=>none)
 grow (grow (grow (grow s0)))
def VE.same:VE→VE→Bool
 | .sc a,.sc b=>a.same b
 | .ag a,.ag b=>a.length==b.length&&(a.zip b).all fun x=>x.1.same x.2
 | .tu a,.tu b=>a.length==0&&b.length==0
 |_,_=>false
def fitE(n:Nat)(e eT:Ent):Option (List (Nat×SV)):=
 match eT.v with
 | .junk=>some []
 | .sc (.atom i)=>if n≤i then (match e.g,e.v with
   | [],.sc s=>if s.noBox&&eT.g.isEmpty then some [(i,s)]else none
   |_,_=>none)
  else (match e.g,e.v with
   | [],.sc s=>if s.same (.atom i)&&eT.g.isEmpty then some []else none
   |_,_=>none)
 |v=>if e.g.isEmpty&&eT.g.isEmpty&&e.v.same v&&v.under n then some []else none
def fitEs(n:Nat):List Ent→List Ent→Option (List (Nat×SV))
 | [],[]=>some []
 |e::es,f::fs=>match fitE n e f,fitEs n es fs with
  |some a,some b=>some (a++b)
  |_,_=>none
 |_,_=>none
def fitC(n:Nat)(s sT:SV):Option (List (Nat×SV)):=
 match sT with
 | .atom i=>if n≤i then(if s.noBox then some [(i,s)]else none)else if s.same (.atom i)then some []else none
 |v=>if s.same v&&v.under n then some []else none
def fitCs(n:Nat):List SV→List SV→Option (List (Nat×SV))
 | [],[]=>some []
 |e::es,f::fs=>match fitC n e f,fitCs n es fs with
  |some a,some b=>some (a++b)
  |_,_=>none
 |_,_=>none
def fitBs(n:Nat)(s:St):List Bx→Option (List (Nat×SV))
 | []=>some []
 |b::bs=>match zcd s b.id,fitBs n s bs with
  |some c,some r=>if c.ty=b.ty then(match fitCs n c.cs b.cs with|some x=>some (x++r)|none=>none)else none
  |_,_=>none
def zwo:List Nat→Bool
 | []=>true
 |a::l=>!l.contains a&&zwo l
def fits(s sT:St)(n:Nat):Option (List SV):=
 match fitEs n s.fr sT.fr,fitBs n s sT.bx with
 |some a,some b=>
  let l:=a++b
  let vs:=l.map (·.2)
  if(decide (l.map (·.1)=List.range' n l.length)&&decide (vs.map (tagOf s.tags)=sT.tags.drop n)&&decide (sT.tags.take n=s.tags.take n)&&decide (n≤s.tags.length)&&decide (sT.tags.length=n+l.length)&&zwo (sT.bx.map (·.id))&&sT.bx.all (fun b=>decide (b.id<sT.nb))&&sub1 sT.asu s.asu&&sT.asu.all (fun x=>x.1.under n)&&sT.kn.all (fun c=>s.kn.any (Chk.same c)&&c.under n))=true then some vs else none
 |_,_=>none
def absEs(ts:List Tag)(wr rd:List Nat)(ch:Nat→Ent→Bool):Nat→List Ent→List Ent→List Tag→List Ent×List Tag
  |t,e::es,f::fs,tg=>
    if wr.contains t&&ch t e then
      (match f.g,f.v,(match e.v with | .sc _=>true | _=>false) || rd.contains t with
       | [],.sc s,true=>let r:=absEs ts wr rd ch (t+1) es fs (tg++[tagOf ts s]);(⟨[],.sc (.atom tg.length)⟩::r.1,r.2)
       |_,_,_=>let r:=absEs ts wr rd ch (t+1) es fs tg;(dead::r.1,r.2))
    else let r:=absEs ts wr rd ch (t+1) es fs tg;((match e.v with | .tu (_::_)=>dead|_=>if e.g.isEmpty then e else dead)::r.1,r.2)
  |_,_,_,tg=>([],tg)
def absCs(ts:List Tag):List SV→List Tag→List SV×List Tag
 | [],tg=>([],tg)
 |s::ss,tg=>let r:=absCs ts ss (tg++[tagOf ts s]);(.atom tg.length::r.1,r.2)
def absBs(ts:List Tag)(ch:Bx→Bool):List Bx→List Bx→List Tag→List Bx×List Tag
 |l::ls,b::bs,tg=>
  if ch b then(let c:=absCs ts l.cs tg;let r:=absBs ts ch ls bs c.2;(⟨b.id,b.ty,c.1,b.sl⟩::r.1,r.2))
  else(let r:=absBs ts ch ls bs tg;(b::r.1,r.2))
 |_,_,tg=>([],tg)
def absSt(st lf:St)(wr rd:List Nat)(ch:Nat→Ent→Bool)(chB:Bx→Bool):St:=
 let a:=absEs lf.tags wr rd ch 0 st.fr lf.fr st.tags
 let b:=absBs lf.tags chB (st.bx.map fun x=>match zcd lf x.id with|some y=>y|none=>x) st.bx a.2
 { fr:=a.1,bx:=b.1,nb:=st.nb,nl:=st.nl+1,tags:=b.2,asu:=st.asu,kn:=st.kn,its:=st.its }
def Zmy(o:Oper):List Nat:=o.op.operands.toList.filterMap fun | .tmp t=>some t|_=>none
def z8y:Code→List Nat
 | .region _ ops _=>ops.toList.flatMap Zmy
 | .seq a b=>z8y a++z8y b
 | .cond (.tmp t) a b=>t::(z8y a++z8y b)
 | .cond _ a b=>z8y a++z8y b
 | .block _ b=>z8y b
 | .loop b=>z8y b
 | .scope b=>z8y b
 |_=>[]
def Fm.normals:Fm (Ex×St)→List St
 | .leaf (.normal,s)=>[s]
 | .leaf _=>[]
 | .fail _=>[]
 | .ite _ a b | .both a b=>a.normals++b.normals
 | .hold _ k=>k.normals
 | .far _ _ _ b k=>b.normals++k.normals
 | .chk _ _ k | .call _ _ _ _ k | .load _ _ k | .store _ _ k | .new _ _ k | .sem _ _ _ _ _ k=>k.normals
 | .alt _ _ _ _ _ k l=>k.normals++l.normals
 | .loop _ _ _ b=>b.normals
 | .join _ _ r m=>r.normals++m.normals
 | .next _ _=>[]
def zn2(a b:Ent):Bool:=a.g.isEmpty&&b.g.isEmpty&&a.v.same b.v
def Zn5(a b:List SV):Bool:=a.length==b.length&&(a.zip b).all fun x=>x.1.same x.2
def z89(c:SV):List Ent→List Ent→List Ent→List Ent
 |e::es,f::fs,g::gs=>
  (if zn2 e f then e else match e.g,f.g,g.v,e.v,f.v with
   | [],[],.sc _,.sc x,.sc y=>⟨[],.sc (.pick c x y)⟩
   |_,_,_,_,_=>dead)::z89 c es fs gs
 |_,_,_=>[]
def zdj(c:SV):List Bx→List Bx→Option (List Bx)
 | [],[]=>some []
 |a::asu,b::bs=>match zdj c asu bs with
  |some r=>if a.id=b.id∧a.ty=b.ty∧a.cs.length=b.cs.length then some (⟨a.id,a.ty,a.cs.zipWith (z9p c) b.cs,a.sl⟩::r)else none
  |none=>none
 |_,_=>none
def merge(c:SV)(st s1 s2:St):Option St:=
 match zdj c s1.bx s2.bx with
 |some bs=>if s1.nb=s2.nb∧s1.nl=s2.nl∧s1.tags=s2.tags∧s1.fr.length=s2.fr.length∧s1.fr.length=st.fr.length∧sub1 st.asu s1.asu=true∧sub1 st.asu s2.asu=true ∧
   st.kn.all (fun k=>s1.kn.any (Chk.same k)&&s2.kn.any (Chk.same k))=true then some { fr:=z89 c s1.fr s2.fr st.fr,bx:=bs,nb:=s1.nb,nl:=s1.nl,tags:=s1.tags,asu:=st.asu,kn:=st.kn,its:=st.its }else none
 |none=>none
def RS.plain:RS→Bool
 | .tu _=>false
 |_=>true
structure Opt where
 pub:List Nat:=[]
 nojoin:Bool:=false
 far:List RS:=[]
 inr:Bool:=false
def noDef(o:Oper):Bool:=match o.op with
 | .defer _=>false
 |_=>true
def setPs:St→Nat→List Tmp→List RS→St
 |st,n,t::ts,rs::l=>setPs (st.set (some t) ⟨[],rs.ve n⟩) (n+rs.tags.length) ts l
 |st,_,_,_=>st
def farSt(st:St)(ps:Array Tmp)(rs:List RS):St:=
 setPs { st with bx:=[],nl:=st.nl+1,tags:=st.tags++rs.flatMap RS.tags } st.tags.length ps.toList rs
def iteL(c:SV)(st:St)(x y:Fm (Ex×St)):Fm (Ex×St):=
 match x,y with
 | .leaf (.normal,s1),.leaf (.normal,s2)=>match merge c st s1 s2 with
  |some s=>.leaf (.normal,s)
  |none=>.ite c x y
 |_,_=>.ite c x y
def execC(P:Program)(op:Opt):Code→St→Fm (Ex×St)
 | .skip,st=>.leaf (.normal,st)
 | .label _,st=>.leaf (.normal,st)
 | .region _ ops draw,st=>
  if op.inr=true∧ops.toList.all noDef=false then .fail 49 else(if draw then(if P.follows .mixedOrders then drawR P op.pub ops st else .fail 50)else z5r P op.pub ops 400 ops.toList st).bind fun s=>.leaf (.normal,s)
 | .seq a b,st=>
  let t:=execC P op a { st with nl:=st.nl+1 }
  let ls:=t.normals
  if ls.length≤1||op.nojoin then t.bind fun x=>match x.1 with | .normal=>execC P op b x.2|e=>.leaf (e,x.2)
  else
   let wr:=z5s a
   let sJ:=absSt st (ls.headD st) wr (z8y b) (fun t e=>!(ls.all fun s=>match s.fr[t]? with|some f=>zn2 e f|none=>false)) (fun b=>!(ls.all fun s=>match zcd s b.id with|some c=>Zn5 c.cs b.cs|none=>false))
   let n:=st.tags.length
   .join st.nl (sJ.tags.drop n) (execC P op b sJ) (t.bind fun x=>match x.1 with
    | .normal=>(match fits x.2 sJ n with|some vs=>.next st.nl vs|none=>.fail 51)
    |e=>.leaf (e,x.2))
 | .cond c x y,st=>match ops1 st [] c with
  |some (.bool b)=>if b then execC P op x st else execC P op y st
  |some c=>if c.noBox∧tagOf st.tags c=.bool then iteL c st (execC P op x (assume st c true)) (execC P op y (assume st c false))else .fail 52
  |none=>.fail 53
 | .block id b,st=>(execC P op b st).bind fun x=>match x.1 with
  | .exit j=>if j=id then .leaf (.normal,x.2)else .leaf x
  |_=>.leaf x
 | .loop b,st=>
  if op.inr=true then .fail 59 else
  let ss:=zom (z5x b)
  let mods:List Nat:=ss.filterMap fun t=>match st.fr[t]? with
   |some e=>(match e.g,e.v with | [],.sc (.box d _)=>some d|_,_=>none)
   |none=>none
  let s1:=absSt st st (z5s b) [] (fun _ _=>true) (fun x=>mods.contains x.id)
  let n:=st.tags.length
  match fits st s1 n with
  | some init=>.loop st.nl (s1.tags.drop n) init ((execC P op b s1).bind fun x=>match x.1 with
   | .normal=>(match fits x.2 s1 n with|some vs=>.next st.nl vs|none=>.fail 54)
   |e=>.leaf (e,x.2))
  |none=>.fail 55
 | .scope b,st=>if op.inr=true then .fail 59 else execC P op b st
 | .exit id,st=>.leaf (.exit id,st)
 | .ret,st=>.leaf (.ret,st)
 | .rangeFunc g ps asg b,st=>match ops1 st [] g with
  |some gv=>if op.inr=false∧op.far.isEmpty=false∧gv.noBox=true∧st.under=true∧ps.size=op.far.length∧op.far.all RS.plain=true∧op.far.all RS.fineB=true then
    .far st.nl gv op.far ((execC P { op with inr:=true } asg (farSt st ps op.far)).bind fun x=>match x.1 with
     | .normal=>(execC P { op with inr:=true } b x.2).bind fun y=>match y.1 with
      | .normal=>.next st.nl []
      |_=>.fail 57
     |_=>.fail 58) (.leaf (.normal,{ st with nl:=st.nl+1 }))
    else .fail 56
  |none=>.fail 53
 |_,_=>.fail 56
def resL(P:Program)(st:St):ResultVar→Option VE
 | .tmp t=>opv st [] (.tmp t)
 | .cell a T=>match ops1 st [] (.tmp a)with
  |some (.box d off)=>match zcd st d with
   |some b=>partL P T b.cs off
   |none=>none
  |_=>none
def zyt:VE→Option (Bool×List SV)
 | .sc s=>some (false,[s])
 | .ag cs=>some (true,cs)
 |_=>none
def retL(P:Program)(fn:Func)(st:St):Fm VE:=
 match fn.results.toList.mapM (resL P st)with
 |some [v]=>if zsz v then .leaf v else .fail 60
 |some vs=>match vs.mapM zyt with
  |some ps=>if zsz (.tu ps)then .leaf (.tu ps)else .fail 61
  |none=>.fail 62
 |none=>.fail 63
def z2z:Nat→List RS→List Ent
 |_,[]=>[]
 |n,rs::l=>⟨[],rs.ve n⟩::z2z (n+rs.tags.length) l
def z0c(P:Program)(fn:Func):List RS:=fn.params.toList.map (rsOf P)
def st0(P:Program)(fn:Func):St:=
 { fr:=z2z 0 (z0c P fn)++List.replicate (fn.ntmps-(z0c P fn).length) none0,bx:=[],nb:=0,nl:=0,tags:=(z0c P fn).flatMap RS.tags,asu:=[],kn:=[],its:=[] }
def execF(P:Program)(op:Opt)(fn:Func):Fm VE:=
 match fn.body with
 |some c=>if(z0c P fn).all RS.plain=true∧op.inr=false∧op.far.isEmpty=true then(execC P op c (st0 P fn)).bind fun x=>match x.1 with
  | .normal=>retL P fn x.2
  | .ret=>retL P fn x.2
  | .exit _=>.fail 64
  else .fail 66
 |none=>.fail 65
def z19:List RS→List Value→List Value
 | [],_=>[]
 |rs::l,E=>rs.pack (E.take rs.tags.length)::z19 l (E.drop rs.tags.length)
theorem Zh7{t:Tag}{v:Value}(h:t.ok v=true):Tag.any.ok v=true:=by
 cases t<;>cases v<;>first|rfl|exact absurd h qk
theorem zbf{v:Value}(h:Tag.bool.ok v=true):v=.bool (bOf v):=by
 cases v<;>first|rfl|exact absurd h qk
theorem z4a{k:IntKind}{v:Value}(h:(Tag.int k).ok v=true):v=.int k (iOf v):=by
 cases v<;>first|(have e:k=_:=qZ h;subst e;rfl)|exact absurd h qk
theorem zia{v:Value}(h:Tag.str.ok v=true):v=.string (sOf v):=by
 cases v<;>first|rfl|exact absurd h qk
theorem ok_sl{v:Value}(h:Tag.sl.ok v=true):v=.slice (z0b v) (slLen v) (slCap v):=by
 cases v<;>first|rfl|exact absurd h qk
theorem zhd{v:Value}(h:Tag.ptr.ok v=true):v=.pointer (pOf v):=by
 cases v<;>first|rfl|exact absurd h qk
theorem Zn2{v:Value}(h:Tag.map.ok v=true):∃r,v=.map r:=by
 cases v<;>first|exact⟨_,rfl⟩|exact absurd h qk
theorem Zkw{t:Tag}{v:Value}(h:t.ok v=true):oneC v=true:=by
 cases t<;>cases v<;>first|rfl|exact absurd h qk
theorem Zcn{ts:List Tag}{E:List Value}(h:z07 ts E=true)(i:Nat):(ts.getD i .bool).ok (E.getD i (.bool false))=true:=by
 induction ts generalizing E i with
 |nil=>
  cases E with
  |nil=>rfl
  |cons v vs=>exact absurd h qk
 |cons t ts ih=>
  cases E with
  |nil=>exact absurd h qk
  |cons v vs=>
   simp only[z07,zba]at h;cases i with
   |zero=>exact h.1
   |succ i=>simpa using ih h.2 i
theorem z1a{ts:List Tag}{E:List Value}(h:z07 ts E=true):ts.length=E.length:=by
 induction ts generalizing E with
 |nil=>
  cases E with
  |nil=>rfl
  |cons v vs=>exact absurd h qk
 |cons t ts ih=>
  cases E with
  |nil=>exact absurd h qk
  |cons v vs=>
   simp only[z07,zba]at h;simp[ih h.2]
theorem zf4{ts us:List Tag}{E F:List Value}(h:z07 ts E=true)(k:z07 us F=true):z07 (ts++us) (E++F)=true:=by
 induction ts generalizing E with
 |nil=>
  cases E with
  |nil=>exact k
  |cons v vs=>exact absurd h qk
 |cons t ts ih=>
  cases E with
  |nil=>exact absurd h qk
  |cons v vs=>
   simp only[z07,zba]at h;simp[z07,h.1,ih h.2]
theorem zlw{ts:List Tag}{E:List Value}(h:z07 ts E=true)(n:Nat):z07 (ts.take n) (E.take n)=true:=by
 induction ts generalizing E n with
 |nil=>
  cases E with
  |nil=>simp[z07]
  |cons v vs=>exact absurd h qk
 |cons t ts ih=>
  cases E with
  |nil=>exact absurd h qk
  |cons v vs=>
   simp only[z07,zba]at h;cases n with
   |zero=>rfl
   |succ n=>simp[z07,h.1,ih h.2]
theorem zkx{ts:List Tag}{E:List Value}(r:Nat→Nat)(h:z07 ts E=true)(s:SV):(tagOf ts s).ok (ev E r s)=true:=by
 induction s with
 |atom i=>exact Zcn h i
 |nil c=>
  match c with
  |0=>rfl
  |1=>rfl
  |2=>rfl
  |3=>rfl
  |4=>rfl
  |_+5=>rfl
 |pick c a b _ iha ihb=>
  simp only[tagOf,ev];by_cases e:tagOf ts a=tagOf ts b
  .rw[qj e];split
   .exact iha
   .rw[e];exact ihb
  .rw[qc e];split
   .exact Zh7 iha
   .exact Zh7 ihb
 |int k n=>simp[tagOf,ev,Tag.ok]
 |ar op k a b=>simp[tagOf,ev,Tag.ok]
 |com k a=>simp[tagOf,ev,Tag.ok]
 |conv k a=>simp[tagOf,ev,Tag.ok]
 |len a=>simp[tagOf,ev,Tag.ok]
 |cap a=>simp[tagOf,ev,Tag.ok]
 |slen a=>simp[tagOf,ev,Tag.ok]
 |sidx a b=>simp[tagOf,ev,Tag.ok]
 |_=>rfl
theorem Zb2{ts:List Tag}{E:List Value}(r:Nat→Nat)(h:z07 ts E=true)(s:SV):oneC (ev E r s)=true:=Zkw (zkx r h s)
theorem zv3{E F:List Value}{r:Nat→Nat}{n:Nat}(hn:n≤E.length)(s:SV)(h:s.under n=true):ev (E.take n++F) r s=ev E r s:=by
 induction s with
 |atom i=>
  have hi:i<n:=qZ h;simp only[ev,zgd];rw[List.getElem?_append_left (by simp;omega),List.getElem?_take,qj hi]
 |ar op k a b iha ihb=>simp only[SV.under,zba]at h;simp only[ev,iha h.1,ihb h.2]
 |cmp op a b iha ihb=>simp only[SV.under,zba]at h;simp only[ev,iha h.1,ihb h.2]
 |scmp op a b iha ihb=>simp only[SV.under,zba]at h;simp only[ev,iha h.1,ihb h.2]
 |beq a b iha ihb=>simp only[SV.under,zba]at h;simp only[ev,iha h.1,ihb h.2]
 |sidx a b iha ihb=>simp only[SV.under,zba]at h;simp only[ev,iha h.1,ihb h.2]
 |cat a b iha ihb=>simp only[SV.under,zba]at h;simp only[ev,iha h.1,ihb h.2]
 |elt a b n iha ihb=>simp only[SV.under,zba]at h;simp only[ev,iha h.1,ihb h.2]
 |pick c a b ihc iha ihb=>simp only[SV.under,zba]at h;simp only[ev,ihc h.1.1,iha h.1.2,ihb h.2]
 |ssub c a b ihc iha ihb=>simp only[SV.under,zba]at h;simp only[ev,ihc h.1.1,iha h.1.2,ihb h.2]
 |sls c a b n ihc iha ihb=>simp only[SV.under,zba]at h;simp only[ev,ihc h.1.1,iha h.1.2,ihb h.2]
 |not a iha=>simp only[SV.under]at h;simp only[ev,iha h]
 |com k a iha=>simp only[SV.under]at h;simp only[ev,iha h]
 |conv k a iha=>simp only[SV.under]at h;simp only[ev,iha h]
 |len a iha=>simp only[SV.under]at h;simp only[ev,iha h]
 |cap a iha=>simp only[SV.under]at h;simp only[ev,iha h]
 |slen a iha=>simp only[SV.under]at h;simp only[ev,iha h]
 |padd a n iha=>simp only[SV.under]at h;simp only[ev,iha h]
 |isnil a iha=>simp only[SV.under]at h;simp only[ev,iha h]
 |_=>rfl
theorem z2q{E F:List Value}{r:Nat→Nat}(s:SV)(h:s.under E.length=true):ev (E++F) r s=ev E r s:=by
 have:=zv3 (E:=E) (F:=F) (r:=r) (we _) s h;rwa[List.take_length]at this
theorem za4{E:List Value}(r r':Nat→Nat)(s:SV)(h:s.noBox=true):ev E r s=ev E r' s:=by
 induction s with
 |box d o=>exact absurd h qk
 |ar op k a b iha ihb=>simp only[SV.noBox,zba]at h;simp only[ev,iha h.1,ihb h.2]
 |cmp op a b iha ihb=>simp only[SV.noBox,zba]at h;simp only[ev,iha h.1,ihb h.2]
 |scmp op a b iha ihb=>simp only[SV.noBox,zba]at h;simp only[ev,iha h.1,ihb h.2]
 |beq a b iha ihb=>simp only[SV.noBox,zba]at h;simp only[ev,iha h.1,ihb h.2]
 |sidx a b iha ihb=>simp only[SV.noBox,zba]at h;simp only[ev,iha h.1,ihb h.2]
 |cat a b iha ihb=>simp only[SV.noBox,zba]at h;simp only[ev,iha h.1,ihb h.2]
 |elt a b n iha ihb=>simp only[SV.noBox,zba]at h;simp only[ev,iha h.1,ihb h.2]
 |pick c a b ihc iha ihb=>simp only[SV.noBox,zba]at h;simp only[ev,ihc h.1.1,iha h.1.2,ihb h.2]
 |ssub c a b ihc iha ihb=>simp only[SV.noBox,zba]at h;simp only[ev,ihc h.1.1,iha h.1.2,ihb h.2]
 |sls c a b n ihc iha ihb=>simp only[SV.noBox,zba]at h;simp only[ev,ihc h.1.1,iha h.1.2,ihb h.2]
 |not a iha=>simp only[SV.noBox]at h;simp only[ev,iha h]
 |com k a iha=>simp only[SV.noBox]at h;simp only[ev,iha h]
 |conv k a iha=>simp only[SV.noBox]at h;simp only[ev,iha h]
 |len a iha=>simp only[SV.noBox]at h;simp only[ev,iha h]
 |cap a iha=>simp only[SV.noBox]at h;simp only[ev,iha h]
 |slen a iha=>simp only[SV.noBox]at h;simp only[ev,iha h]
 |padd a n iha=>simp only[SV.noBox]at h;simp only[ev,iha h]
 |isnil a iha=>simp only[SV.noBox]at h;simp only[ev,iha h]
 |_=>rfl
theorem z14{E:List Value}{r:Nat→Nat}{s:SV}(h:s.noBox=true):ev E r s=ev0 E s:=za4 r _ s h
theorem z1q{a b:SV}(h:a.same b=true):a=b:=by
 induction a generalizing b with
 |atom i=>cases b<;>simp_all[SV.same]
 |int k n=>cases b<;>simp_all[SV.same]
 |bool x=>cases b<;>simp_all[SV.same]
 |str l=>cases b<;>simp_all[SV.same]
 |nil c=>cases b<;>simp_all[SV.same]
 |fn c=>cases b<;>simp_all[SV.same]
 |glob c=>cases b<;>simp_all[SV.same]
 |box c o=>cases b<;>simp_all[SV.same]
 |ar op k x y ih1 ih2=>cases b<;>simp[SV.same]at h⊢;exact⟨h.1.1.1,h.1.1.2,ih1 h.1.2,ih2 h.2⟩
 |cmp op x y ih1 ih2=>cases b<;>simp[SV.same]at h⊢;exact⟨h.1.1,ih1 h.1.2,ih2 h.2⟩
 |scmp op x y ih1 ih2=>cases b<;>simp[SV.same]at h⊢;exact⟨h.1.1,ih1 h.1.2,ih2 h.2⟩
 |beq x y ih1 ih2=>cases b<;>simp[SV.same]at h⊢;exact⟨ih1 h.1,ih2 h.2⟩
 |sidx x y ih1 ih2=>cases b<;>simp[SV.same]at h⊢;exact⟨ih1 h.1,ih2 h.2⟩
 |cat x y ih1 ih2=>cases b<;>simp[SV.same]at h⊢;exact⟨ih1 h.1,ih2 h.2⟩
 |elt x y n ih1 ih2=>cases b<;>simp[SV.same]at h⊢;exact⟨ih1 h.1.1,ih2 h.1.2,h.2⟩
 |pick z x y ih0 ih1 ih2=>cases b<;>simp[SV.same]at h⊢;exact⟨ih0 h.1.1,ih1 h.1.2,ih2 h.2⟩
 |ssub z x y ih0 ih1 ih2=>cases b<;>simp[SV.same]at h⊢;exact⟨ih0 h.1.1,ih1 h.1.2,ih2 h.2⟩
 |sls z x y n ih0 ih1 ih2=>cases b<;>simp[SV.same]at h⊢;exact⟨ih0 h.1.1.1,ih1 h.1.1.2,ih2 h.1.2,h.2⟩
 |not x ih=>cases b<;>simp[SV.same]at h⊢;exact ih h
 |isnil x ih=>cases b<;>simp[SV.same]at h⊢;exact ih h
 |com k x ih=>cases b<;>simp[SV.same]at h⊢;exact⟨h.1,ih h.2⟩
 |conv k x ih=>cases b<;>simp[SV.same]at h⊢;exact⟨h.1,ih h.2⟩
 |len x ih=>cases b<;>simp[SV.same]at h⊢;exact ih h
 |cap x ih=>cases b<;>simp[SV.same]at h⊢;exact ih h
 |slen x ih=>cases b<;>simp[SV.same]at h⊢;exact ih h
 |padd x n ih=>cases b<;>simp[SV.same]at h⊢;exact⟨ih h.1,h.2⟩
theorem zb8{a b:Chk}(h:a.same b=true):a=b:=by
 cases a<;>cases b<;>simp[Chk.same]at h⊢
 .exact⟨z1q h.1,z1q h.2⟩
 .exact⟨z1q h.1,z1q h.2⟩
 .exact⟨z1q h.1.1,z1q h.1.2,z1q h.2⟩
 .exact z1q h
 .exact z1q h
 .exact z1q h
 .exact⟨z1q h.1,z1q h.2⟩
theorem z7e{G:Guard}{x:SV×Bool}(h:hasG G x=true):x∈G:=by
 unfold hasG at h;obtain⟨y,hy,he⟩:=wl.1 h;simp only[zba,beq_iff_eq]at he;have:x=y:=Prod.ext (z1q he.1) he.2;rw[this];exact hy
theorem zoi{E:List Value}{r:Nat→Nat}{g G:Guard}(h:sub1 g G=true)(hG:G.holds E r):g.holds E r:=fun x hx=>by
 unfold sub1 at h;exact hG x (z7e (zat.1 h x hx))
theorem Guard.append{E:List Value}{r:Nat→Nat}{g G:Guard}(h:g.holds E r)(k:G.holds E r):Guard.holds E r (g++G):=fun x hx=>by
 rcases zma.1 hx with hx|hx
 .exact h x hx
 .exact k x hx
def asOk(E:List Value)(r:Nat→Nat)(asu:Guard):Prop:=∀x∈asu,ev E r x.1=.bool x.2
theorem asOk.holds{E:List Value}{r:Nat→Nat}{asu:Guard}(h:asOk E r asu):asu.holds E r:=fun x hx=>by rw[h x hx];rfl
theorem zuy{E:List Value}{r:Nat→Nat}{asu:Guard}{s:SV}(h:asOk E r asu):ev E r (litOf asu s)=ev E r s:=by
 unfold litOf;split
 .rename_i h1;rw[h _ (z7e h1)];rfl
 .split
  .rename_i h1;rw[h _ (z7e h1)];rfl
  .rfl
structure Prot where
 ok:Act→Prop
 free:Nat→Bool
 stable:∀(a:Act)(d:Nat)(v:Value),free d=true→ok a→ok (a.put (some d) v)
 back:∀(a:Act)(d:Nat)(v:Value),free d=true→ok (a.put (some d) v)→ok a
 wk:List Deferred→PH→World→Prop:=fun _ _ _=>True
 wcl:∀{l:List Deferred} {H H':PH} {w w':World},wk l H w→w.heap.size≤w'.heap.size→(∀k,k<w.heap.size→H k=none→(∀cs t f,w.heap[k]?≠some (.cells cs t f))→w'.heap[k]?=w.heap[k]?∧H' k=none)→wk l H' w':=by intros;trivial
 marks:Bool:=false
 mkd:marks=true→∀{a:Act} {H H':PH} {w w':World} {d:Nat},ok a→wk a.defers H w→wk a.defers H' w'→w.heap.size≤d→d<w'.heap.size→w'.heap[d]?=some (.deferred (some []))→H' d=none →
  ok { a with defers:={ target:=.collected d,args:=#[] }::a.defers }∧wk ({ target:=.collected d,args:=#[] }::a.defers) H' w':=by intro h;cases h
def Prot.thin(D:Prot):Prot:={ ok:=D.ok,free:=D.free,stable:=D.stable,back:=D.back }
def Prot.may(D:Prot)(o:Oper):Prop:=∀d,o.dst=some d→D.free d=true
def Prot.plain(l:List Deferred):Prot:={ ok:=fun a=>a.defers=l,free:=fun _=>true,stable:=fun _ _ _ _ h=>h,back:=fun _ _ _ _ h=>h }
theorem Prot.plain_may(l:List Deferred)(o:Oper):(Prot.plain l).may o:=fun _ _=>rfl
structure Rel(D:Prot)(H0:PH)(w0:World)(st:St)(E:List Value)(r:Nat→Nat)(H:PH)(a:Act)(w:World):Prop where
 adv:Adv H0 w0 H w
 tags:z07 st.tags E=true
 size:a.tmps.size=st.fr.length
 df:D.ok a
 wk:D.wk a.defers H w
 fr:∀(t:Nat)(e:Ent),st.fr[t]?=some e→(e.v=.junk→False)→(Guard.holds E r e.g→a.tmps.getD t undef=evV E r e.v)∧(¬Guard.holds E r e.g→a.tmps.getD t undef=undef)
 bx:∀b∈st.bx,w.heap[r b.id]?=some (.cells (b.cs.map (ev E r)).toArray b.ty)∧H (r b.id)=none∧w0.heap.size≤r b.id∧b.id<st.nb
 inj:∀b∈st.bx,∀c∈st.bx,r b.id=r c.id→b.id=c.id
 nd:(st.bx.map (·.id)).Nodup
 asu:asOk E r st.asu
 kn:∀c∈st.kn,c.noBox=true∧c.holds E
theorem Prot.adv(D:Prot){l:List Deferred}{H H':PH}{w w':World}(h:D.wk l H w)(ha:Adv H w H' w'):D.wk l H' w':=
 D.wcl h ha.size fun k hk hn _=>ha.old k hk hn
theorem Prot.same(D:Prot){l:List Deferred}{H:PH}{w w':World}(h:D.wk l H w)(ha:w'.heap=w.heap):D.wk l H w':=
 D.wcl h (by rw[ha];exact we _) fun k _ hn _=>⟨by rw[ha],hn⟩
theorem Rel.vis{D:Prot}{H0:PH}{w0:World}{st:St}{E:List Value}{r:Nat→Nat}{H:PH}{a:Act}{w:World}(h:Rel D H0 w0 st E r H a w):Vis H w:=h.adv.vis
theorem Z1d{E:List Value}{r:Nat→Nat}:∀{l:List Value} {cs:List SV},l.mapM zcf=some cs→cs.map (ev E r)=l
 | [],cs,h=>by simp at h;subst h;rfl
 |v::l,cs,h=>by
  simp only[List.mapM_cons]at h;cases hv:zcf v with
  |none=>simp[hv]at h
  |some s=>
   cases hl:l.mapM zcf with
   |none=>simp[hv,hl]at h
   |some ss=>
    simp[hv,hl]at h;subst h;simp only[wa,Z1d hl];congr 1;unfold zcf at hv;split at hv<;>first|(cases hv;rfl)|(cases hv)
theorem Zgr{E:List Value}{r:Nat→Nat}{v:Value}{s:SV}(h:zcf v=some s):ev E r s=v:=by
 have:=Z1d (E:=E) (r:=r) (l:=[v]) (cs:=[s]) (by simp[h]);simpa using this
theorem Z30{E:List Value}{r:Nat→Nat}{v:Value}{x:VE}(h:zz7 v=some x):evV E r x=v:=by
 unfold zz7 at h;split at h
 .rename_i cs;cases hc:cs.toList.mapM zcf with
  |none=>simp[hc]at h
  |some ss=>simp[hc]at h;subst h;simp[evV,Z1d hc]
 .rename_i vs;split at h
  .rename_i h0;cases h;have:vs=#[]:=Array.eq_empty_of_size_eq_zero h0;subst this;rfl
  .cases h
 .cases hc:zcf v with
  |none=>simp[hc]at h
  |some s=>simp[hc]at h;subst h;exact Zgr hc
section
variable {P:Program}{D:Prot}{H0:PH}{w0:World}{st:St}{E:List Value}{r:Nat→Nat}{H:PH}{a:Act}{w:World}{G:Guard}
theorem z1l(hR:Rel D H0 w0 st E r H a w)(hG:Guard.holds E r G){x:Operand}{v:VE}(h:opv st G x=some v):a.eval x=evV E r v:=by
 cases x with
 |tmp t=>
  simp only[opv]at h;cases he:st.fr[t]? with
  |none=>simp[he]at h
  |some e=>
   simp only[he]at h;have hall:=Guard.append hG hR.asu.holds;cases hv:e.v with
   |junk=>simp[hv]at h
   |sc s=>
    simp only[hv]at h;split at h
    .rename_i hs;cases h;have:=(hR.fr t e he (by simp[hv])).1 (zoi hs hall);rw[hv]at this;simp only[evV,zuy hR.asu];exact this
    .cases h
   |ag cs=>
    simp only[hv]at h;split at h
    .rename_i hs;cases h;have:=(hR.fr t e he (by simp[hv])).1 (zoi hs hall);rw[hv]at this;exact this
    .cases h
   |tu vs=>
    simp only[hv]at h;split at h
    .rename_i hs;cases h;have:=(hR.fr t e he (by simp[hv])).1 (zoi hs hall);rw[hv]at this;exact this
    .cases h
 |const v'=>exact(Z30 h).symm
 |global g=>cases h;rfl
 |func f=>cases h;rfl
theorem z0q(hR:Rel D H0 w0 st E r H a w)(hG:Guard.holds E r G){x:Operand}{s:SV}(h:ops1 st G x=some s):a.eval x=ev E r s:=by
 unfold ops1 at h;split at h
 .rename_i s' he;cases h;exact z1l hR hG he
 .cases h
end
theorem z1p{P:Program}{t:TypeId}{d:TypeDesc}(h:P.underlying t=some d)(w:World):(underlying t).run P w=.ok d w:=by
 simp[underlying,h]
theorem Zbl{P:Program}{t:TypeId}{i:TypeInfo}(h:P.info? t=some i)(w:World):(typeInfo t).run P w=.ok i w:=by
 simp[typeInfo,h]
theorem z69{P:Program}{t:TypeId}{i:TypeInfo}(h:P.info? t=some i)(w:World):(sizeOf t).run P w=.ok i.size w:=by
 simp[sizeOf,Zbl h]
theorem zgx{P:Program}{t:TypeId}{d:TypeDesc}(h:P.underlying t=some d)(w:World):(isAgg t).run P w=.ok (z9v P t) w:=by
 unfold z9v;simp[isAgg,z1p h,h];cases d<;>rfl
theorem zyr{P:Program}{t:TypeId}(h:z9v P t=true):∃d,P.underlying t=some d:=by
 unfold z9v at h;cases hu:P.underlying t with
 |none=>simp[hu]at h
 |some d=>exact⟨d,rfl⟩
theorem Zhv{P:Program}{w:World}{b o:Nat}{cs:List Value}{T:TypeId}{f:Nat×Nat}(hb:w.heap[b]?=some (.cells cs.toArray T f)):
  ∀(n i:Nat)(acc:Array Value),o+i+n≤cs.length→(loadCellsFrom ⟨b,o,none⟩ i n acc).run P w=.ok (acc++((cs.drop (o+i)).take n).toArray) w:=by
 intro n
 induction n with
 |zero=>intro i acc _;simp[loadCellsFrom]
 |succ n ih=>
  intro i acc h;have hc:w.cell? ((⟨b,o,none⟩:Addr).add i)=some (cs[o+i]'(om)):=by
   unfold World.cell? Addr.add;by_cases e:i=0
   .subst e;simp[hb]
   .simp[e,hb]
  simp only[loadCellsFrom,Sem.run_bind,run_load,hc,Result.andThen_ok];rw[ih (i+1) _ om];congr 1;have:(cs.drop (o+i)).take (n+1)=cs[o+i]'(om)::(cs.drop (o+(i+1))).take n:=by
   rw[List.drop_eq_getElem_cons om,List.take_succ_cons];rfl
  rw[this];simp
section
variable {P:Program}{D:Prot}{H0:PH}{w0:World}{st:St}{E:List Value}{r:Nat→Nat}{H:PH}{a:Act}{w:World}{G:Guard}
theorem z0u(hR:Rel D H0 w0 st E r H a w){s:SV}{t:Tag}(h:tagOf st.tags s=t):t.ok (ev E r s)=true:=h▸zkx r hR.tags s
theorem Zkl{t:TypeId}{cs:List SV}{off:Nat}{v:VE}(h:partL P t cs off=some v):(part t (cs.map (ev E r)).toArray off).run P w=.ok (evV E r v) w:=by
 unfold partL at h;split at h
 .rename_i ha;obtain⟨d,hd⟩:=zyr ha;cases hi:P.info? t with
  |none=>simp[hi]at h
  |some i=>
   simp only[hi,cut]at h;split at h
   .simp at h;subst h;simp[part,zgx hd,ha,z69 hi,evV,List.map_take,List.map_drop]
   .simp at h
 .rename_i ha;cases hu:P.underlying t with
  |none=>simp[hu]at h
  |some d=>
   simp only[hu]at h;cases hc:cs[off]? with
   |none=>simp[hc]at h
   |some s=>
    simp[hc]at h;subst h;simp[part,zgx hu,ha,hc,evV]
theorem zwj{T:TypeId}{b:Bx}{off:Nat}{v:VE}(hb:w.heap[r b.id]?=some (.cells (b.cs.map (ev E r)).toArray b.ty))(h:partL P T b.cs off=some v):
  (loadVar T ⟨r b.id,off,none⟩).run P w=.ok (evV E r v) w:=by
 unfold partL at h;split at h
 .rename_i ha;obtain⟨d,hd⟩:=zyr ha;cases hi:P.info? T with
  |none=>simp[hi]at h
  |some i=>
   simp only[hi,cut]at h;split at h
   .rename_i hle;simp at h;subst h;have hrun:=Zhv (P:=P) (o:=off) (cs:=b.cs.map (ev E r)) hb i.size 0 #[] (by simp;omega);simp[loadVar,zgx hd,ha,z69 hi,loadCells,hrun,evV,List.map_take,List.map_drop]
   .simp at h
 .rename_i ha;cases hu:P.underlying T with
  |none=>simp[hu]at h
  |some d=>
   simp only[hu]at h;cases hc:b.cs[off]? with
   |none=>simp[hc]at h
   |some s=>
    simp[hc]at h;subst h;have hcell:w.cell? ⟨r b.id,off,none⟩=some (ev E r s):=by simp[World.cell?,hb,hc]
    simp[loadVar,zgx hu,ha,hcell,evV]
theorem zfy{d:Nat}{b:Bx}(h:zcd st d=some b):b∈st.bx∧b.id=d:=by
 unfold zcd at h;exact⟨List.mem_of_find?_eq_some h,by have:=List.find?_some h;simpa using this⟩
theorem zrs{T:TypeId}{f:Nat}{fd:Field}(h:zpp P T f=some fd):∃fs,P.underlying T=some (.struct fs)∧fs[f]?=some fd:=by
 unfold zpp at h;split at h
 .rename_i fs hu;exact⟨fs,hu,h⟩
 .cases h
theorem Z80(hR:Rel D H0 w0 st E r H a w){p:SV}(hn:∀c∈nnL st p,c.noBox=true∧c.holds E):(pOf (ev E r p)).isSome=true:=by
 have key:∀p:SV,znq st.kn p=true→(pOf (ev E r p)).isSome=true:=by
  have get:∀q:SV,st.kn.any (fun c=>c.same (.some q))=true→(pOf (ev E r q)).isSome=true:=fun q h=>by
   obtain⟨c,hc,he⟩:=wl.1 h;have e:=zb8 he;obtain⟨hb,hh⟩:=hR.kn c hc;subst e;rw[z14 hb];exact hh
  intro p
  induction p with
  |elt s i z _ _=>
   intro h;simp only[znq,qu]at h;rcases h with h|h
   .obtain⟨c,hc,he⟩:=wl.1 h;have e:=zb8 he;obtain⟨hb,hh⟩:=hR.kn c hc;subst e;simp only[Chk.noBox,zba]at hb;have h1:=hh.1;simp only[ev,eltV,pOf];rw[z14 hb.1,Option.isSome_map];exact h1
   .exact get _ h
  |padd p n ih=>
   intro h;simp only[znq,qu]at h;rcases h with h|h
   .have:=ih h;simp only[ev,pOf,Option.isSome_map];exact this
   .exact get _ h
  |_=>intro h;exact get _ h
 unfold nnL at hn;split at hn
 .rename_i h;exact key p h
 .obtain⟨hb,hh⟩:=hn _ (zsi.2 rfl);rw[z14 (s:=p) hb];exact hh
theorem Z23{T:TypeId}(hu:P.underlying T=some .bool)(i j:Bool)(d:Nat):(Op.equalIn (d+1) T (.bool i) (.bool j)).run P w=.ok (i==j) w:=by
 simp[Op.equalIn,z1p hu]
theorem Zbh{T e:TypeId}(hu:P.underlying T=some (.slice e))(i:Option Addr)(m n:Nat)(d:Nat):(Op.equalIn (d+1) T (.slice i m n) (.slice none 0 0)).run P w=.ok i.isNone w:=by
 cases i<;>simp[Op.equalIn,z1p hu]
theorem Z83{T k e:TypeId}(hu:P.underlying T=some (.map k e))(i:Option Nat)(d:Nat):(Op.equalIn (d+1) T (.map i) (.map none)).run P w=.ok i.isNone w:=by
 cases i<;>simp[Op.equalIn,z1p hu]
theorem Z6j{T e:TypeId}(hu:P.underlying T=some (.pointer e))(i:Option Addr)(d:Nat):(Op.equalIn (d+1) T (.pointer i) (.pointer none)).run P w=.ok i.isNone w:=by
 cases i<;>simp[Op.equalIn,z1p hu]
theorem zyb{T:TypeId}{x y:Value}{b:Bool}(he:binOp .eql T x y=(do pure (.bool (←Op.equal T x y))))(h:(Op.equalIn (9999+1) T x y).run P w=.ok b w):(binOp .eql T x y).run P w=.ok (.bool b) w:=by
 rw[he];have:(Op.equal T x y).run P w=.ok b w:=h;simp[this]
theorem zwq{T:TypeId}{x y:Value}{b:Bool}(he:binOp .neq T x y=(do pure (.bool (!(←Op.equal T x y)))))(h:(Op.equalIn (9999+1) T x y).run P w=.ok b w):(binOp .neq T x y).run P w=.ok (.bool (!b)) w:=by
 rw[he];have:(Op.equal T x y).run P w=.ok b w:=h;simp[this]
theorem Z4w{v:Value}(h:Tag.sl.ok v=true):z61 v=(z0b v).isNone:=by
 rw[ok_sl h];cases z0b v<;>rfl
theorem Z1l{v:Value}(h:Tag.ptr.ok v=true):z61 v=(pOf v).isNone:=by
 rw[zhd h];cases pOf v<;>rfl
theorem zrf{c:Nat}{s:SV}(h:zrn c s=true):s=.nil c:=by
 cases s<;>simp[zrn]at h⊢;exact h.symm
theorem Zhm{k:IntKind}(h:(!k.signed)=true)(x:Int):0≤k.wrap x:=by
 cases k<;>simp[IntKind.signed]at h<;>simp[IntKind.wrap,IntKind.signed,IntKind.bits]<;>omega
theorem Zde(hR:Rel D H0 w0 st E r H a w){op:BinOp}{xT:TypeId}{x y:SV}{cks:List Chk}{v:VE}(h:binL P st.tags op xT x y=some (cks,v))
  (hc:∀c∈cks,c.noBox=true∧c.holds E) (xo yo:Operand):(do eqGuard op xT xo yo (ev E r x) (ev E r y);binOp op xT (ev E r x) (ev E r y):Sem Value).run P w=.ok (evV E r v) w:=by
 unfold binL at h;split at h
 .rename_i k k' h1 h2;have e1:=z4a (z0u hR h1);have e2:=z4a (z0u hR h2);have hg:∀i j:Int,(eqGuard op xT xo yo (.int k i) (.int k' j)).run P w=.ok () w:=fun i j=>by unfold eqGuard;split<;>simp
  have hev:∀o,evV E r (.sc (.ar o k x y))=.int k (arI o k (iOf (ev E r x)) (iOf (ev E r y))):=fun _=>rfl;have hcv:∀o,evV E r (.sc (.cmp o x y))=.bool (cmpI o (iOf (ev E r x)) (iOf (ev E r y))):=fun _=>rfl;rw[e1,e2];simp only[Sem.run_bind,hg,Result.andThen_ok];split at h
  .rename_i hop;have hy:0≤iOf (ev E r y):=by
    split at h
    .rename_i hn;cases y<;>simp only[Zhd]at hn<;>first
      |exact absurd hn qk
      |exact qZ hn
      |exact Zhm hn _
    .cases h;obtain⟨hb,hh⟩:=hc _ (zsi.2 rfl);have:0≤iOf (ev0 E y):=hh;rwa[←z14 (r:=r) (s:=y) hb]at this
   have hv:v=.sc (.ar op k x y):=by split at h<;>(cases h;rfl)
   subst hv;rw[hev];rcases hop with rfl|rfl<;>simp[binOp,Op.shift,Int.not_lt.2 hy,arI]
  .rename_i hop;split at h
   .rename_i hk;subst hk;split at h
    .rename_i hcmp;cases h;rw[hcv];cases op<;>simp[isCmp]at hcmp<;>simp[binOp,Op.intCmp,cmpI]
    .rename_i hncmp;split at h
     .rename_i hq;have hy:iOf (ev E r y)≠0:=by
       split at h
       .rename_i hn;cases y<;>simp only[isNz]at hn<;>first
         |exact absurd hn qk
         |exact qZ hn
       .cases h;obtain⟨hb,hh⟩:=hc _ (zsi.2 rfl);have:iOf (ev0 E y)≠0:=hh;rwa[←z14 (r:=r) (s:=y) hb]at this
      have hv:v=.sc (.ar op k x y):=by split at h<;>(cases h;rfl)
      subst hv;rw[hev];rcases hq with rfl|rfl<;>simp[binOp,Op.intDiv,hy,arI]
     .rename_i hnq;split at h
      .rename_i har;cases h;rw[hev];cases op<;>simp[Zb1,isCmp]at har hncmp hop hnq<;>simp[binOp,Op.intArith,Op.intBits,arI]
      .cases h
   .cases h
 .rename_i h1 h2;have e1:=zia (z0u hR h1);have e2:=zia (z0u hR h2);have hg:∀i j,(eqGuard op xT xo yo (.string i) (.string j)).run P w=.ok () w:=fun i j=>by unfold eqGuard;split<;>simp
  have hcv:∀o,evV E r (.sc (.scmp o x y))=.bool (cmpS o (sOf (ev E r x)) (sOf (ev E r y))):=fun _=>rfl;rw[e1,e2];simp only[Sem.run_bind,hg,Result.andThen_ok];split at h
  .rename_i hcmp;cases h;rw[hcv];cases op<;>simp[isCmp]at hcmp<;>simp[binOp,Op.stringOp,cmpS]
  .split at h
   .rename_i hop;cases h;subst hop;obtain⟨hb,hh⟩:=hc _ (zsi.2 rfl);simp only[Chk.noBox,zba]at hb;have h3:(((sOf (ev0 E x)).size+(sOf (ev0 E y)).size:Nat):Int)≤IntKind.i64.max:=hh;rw[←z14 (r:=r) hb.1,←z14 (r:=r) hb.2]at h3;have h4:¬((((sOf (ev E r x)).size+(sOf (ev E r y)).size:Nat):Int)>IntKind.i64.max):=Int.not_lt.2 h3;simp only[binOp,Op.stringOp,qc h4,Sem.run_pure,evV,ev]
   .cases h
 .rename_i h1 h2;have e1:=zbf (z0u hR h1);have e2:=zbf (z0u hR h2);have hg:∀i j,(eqGuard op xT xo yo (.bool i) (.bool j)).run P w=.ok () w:=fun i j=>by unfold eqGuard;split<;>simp
  rw[e1,e2];simp only[Sem.run_bind,hg,Result.andThen_ok];split at h
  .rename_i hu;have hu':P.underlying xT=some .bool:=by
    unfold Zbv at hu;cases hx:P.underlying xT with
    |none=>simp[hx]at hu
    |some d=>cases d<;>simp[hx]at hu⊢
   split at h
   .rename_i hop;cases h;subst hop;exact zyb rfl (Z23 hu' _ _ _)
   .split at h
    .rename_i hop;cases h;subst hop;exact zwq rfl (Z23 hu' _ _ _)
    .cases h
  .cases h
 .rename_i h1 h2;have e1:=ok_sl (z0u hR h1);split at h
  .rename_i hu;have hu':∃e,P.underlying xT=some (.slice e):=by
    have hu:=hu.1;unfold isSlT at hu;cases hx:P.underlying xT with
    |none=>simp[hx]at hu
    |some d=>cases d<;>simp[hx]at hu⊢
   obtain⟨e,hu'⟩:=hu';have hy:y=.nil 1:=zrf hu.2;subst hy;have hn:ev E r (.nil 1)=.slice none 0 0:=rfl;rw[hn,e1];have hg:∀i m n,(eqGuard op xT xo yo (.slice i m n) (.slice none 0 0)).run P w=.ok () w:=fun i m n=>by unfold eqGuard;split<;>simp
   simp only[Sem.run_bind,hg,Result.andThen_ok];have hnil:evV E r (.sc (.isnil x))=.bool (z0b (ev E r x)).isNone:=by
    show Value.bool (z61 (ev E r x))=_;rw[Z4w (z0u hR h1)]
   have hnil2:evV E r (.sc (.not (.isnil x)))=.bool (!(z0b (ev E r x)).isNone):=by
    show Value.bool (!z61 (ev E r x))=_;rw[Z4w (z0u hR h1)]
   split at h
   .rename_i hop;cases h;subst hop;rw[hnil];exact zyb rfl (Zbh hu' _ _ _ _)
   .split at h
    .rename_i hop;cases h;subst hop;rw[hnil2];exact zwq rfl (Zbh hu' _ _ _ _)
    .cases h
  .cases h
 .rename_i h1 h2;obtain⟨m,e1⟩:=Zn2 (z0u hR h1);split at h
  .rename_i hu;have hu':∃k e,P.underlying xT=some (.map k e):=by
    have hu:=hu.1;unfold Zi6 at hu;cases hx:P.underlying xT with
    |none=>simp[hx]at hu
    |some d=>cases d<;>simp[hx]at hu⊢
   obtain⟨ke,e,hu'⟩:=hu';have hy:y=.nil 2:=zrf hu.2;subst hy;have hn:ev E r (.nil 2)=.map none:=rfl;rw[hn,e1];have hg:∀i,(eqGuard op xT xo yo (.map i) (.map none)).run P w=.ok () w:=fun i=>by unfold eqGuard;split<;>simp
   simp only[Sem.run_bind,hg,Result.andThen_ok];have hnil:evV E r (.sc (.isnil x))=.bool m.isNone:=by
    show Value.bool (z61 (ev E r x))=_;rw[e1];cases m<;>rfl
   have hnil2:evV E r (.sc (.not (.isnil x)))=.bool (!m.isNone):=by
    show Value.bool (!z61 (ev E r x))=_;rw[e1];cases m<;>rfl
   split at h
   .rename_i hop;cases h;subst hop;rw[hnil];exact zyb rfl (Z83 hu' _ _)
   .split at h
    .rename_i hop;cases h;subst hop;rw[hnil2];exact zwq rfl (Z83 hu' _ _)
    .cases h
  .cases h
 .rename_i h1 h2;have e1:=zhd (z0u hR h1);split at h
  .rename_i hu;have hu':∃e,P.underlying xT=some (.pointer e):=by
    have hu:=hu.1;unfold Zhr at hu;cases hx:P.underlying xT with
    |none=>simp[hx]at hu
    |some d=>cases d<;>simp[hx]at hu⊢
   obtain⟨e,hu'⟩:=hu';have hy:y=.nil 0:=zrf hu.2;subst hy;have hn:ev E r (.nil 0)=.pointer none:=rfl;rw[hn,e1];have hg:∀i,(eqGuard op xT xo yo (.pointer i) (.pointer none)).run P w=.ok () w:=fun i=>by unfold eqGuard;split<;>simp
   simp only[Sem.run_bind,hg,Result.andThen_ok];have hnil:evV E r (.sc (.isnil x))=.bool (pOf (ev E r x)).isNone:=by
    show Value.bool (z61 (ev E r x))=_;rw[Z1l (z0u hR h1)]
   have hnil2:evV E r (.sc (.not (.isnil x)))=.bool (!(pOf (ev E r x)).isNone):=by
    show Value.bool (!z61 (ev E r x))=_;rw[Z1l (z0u hR h1)]
   split at h
   .rename_i hop;cases h;subst hop;rw[hnil];exact zyb rfl (Z6j hu' _ _)
   .split at h
    .rename_i hop;cases h;subst hop;rw[hnil2];exact zwq rfl (Z6j hu' _ _)
    .cases h
  .cases h
 .cases h
end
theorem run_v{P:Program}{x:Sem Value}{v:Value}{w w':World}(h:x.run P w=.ok v w'):(do pure (Next.value (←x)):Sem Next).run P w=.ok (.value v) w':=by
 simp[h]
theorem zrr{E:List Value}{r:Nat→Nat}(c x y:SV):ev E r (z9p c x y)=if bOf (ev E r c)then ev E r x else ev E r y:=by
 unfold z9p;split
 .rename_i h;rw[←z1q h];simp
 .rfl
theorem Zjb{E:List Value}{r:Nat→Nat}{c:SV}{x y v:VE}(h:pickV c x y=some v):evV E r v=if bOf (ev E r c)then evV E r x else evV E r y:=by
 have core:∀x y v,(match x,y with
  |VE.sc x,VE.sc y=>some (VE.sc (z9p c x y))
  | .ag xs,.ag ys=>if xs.length=ys.length then some (.ag (xs.zipWith (z9p c) ys))else none
  |_,_=>none)=some v→evV E r v=if bOf (ev E r c)then evV E r x else evV E r y:=by
  intro x y v h;split at h
  .cases h;exact zrr c _ _
  .rename_i xs ys;split at h
   .rename_i hl;cases h;have:∀(xs ys:List SV),xs.length=ys.length→(xs.zipWith (z9p c) ys).map (ev E r)=if bOf (ev E r c)then xs.map (ev E r)else ys.map (ev E r):=by
     intro xs
     induction xs with
     |nil=>intro ys h;cases ys<;>simp at h⊢
     |cons x xs ih=>
      intro ys h;cases ys with
      |nil=>simp at h
      |cons y ys=>
       simp only[List.zipWith_cons_cons,wa,zrr];rw[ih ys (by simpa using h)];split<;>rfl
    simp only[evV,this xs ys hl];split<;>rfl
   .cases h
  .cases h
 unfold pickV at h;split at h
 .cases h;simp[ev,bOf]
 .cases h;simp[ev,bOf]
 .exact core _ _ _ h
section
variable {P:Program}{D:Prot}{H0:PH}{w0:World}{st:St}{E:List Value}{r:Nat→Nat}{H:PH}{a:Act}{w:World}{G:Guard}
def z37(P:Program)(E:List Value)(r:Nat→Nat)(a:Act)(w:World)(op:Op)(v:VE):Prop:=
 ∀(d:Option Tmp) (ty:TypeId) (pos:String) (af:Array Edge) (gd:Option (Nat×Bool)),(execOp a.eval ⟨d,op,ty,pos,af,gd⟩).run P w=.ok (.value (evV E r v)) w
theorem zgg{c:SV}{b:Bool}(hG:Guard.holds E r G)(h:bOf (ev E r c)=b):Guard.holds E r (G++[(c,b)]):=
 Guard.append hG (fun x hx=>by rw[zsi.1 hx];exact h)
theorem Zdi(hR:Rel D H0 w0 st E r H a w)(hG:Guard.holds E r G){c x y:Operand}{cks:List Chk}{v:VE}(h:z13 P st G (.pick c x y)=some (cks,v)):z37 P E r a w (.pick c x y) v:=by
 intro d ty pos af gd;simp only[z13]at h;split at h
 .rename_i s hs;split at h
  .rename_i hb;have es:=z0q hR hG hs;have eb:=zbf (z0u hR hb);have hrun:(execOp a.eval ⟨d,.pick c x y,ty,pos,af,gd⟩).run P w=.ok (.value (if bOf (ev E r s)then a.eval x else a.eval y)) w:=by
    have:(Go.asBool (a.eval c)).run P w=.ok (bOf (ev E r s)) w:=by rw[es,eb];rfl
    simp[execOp,this]
   rw[hrun];split at h
   .rename_i vx hx;cases h;rw[show bOf (ev E r (.bool true))=true from rfl,qj rfl,z1l hR (zgg hG rfl) hx]
   .rename_i vy hy;cases h;rw[show bOf (ev E r (.bool false))=false from rfl,qc qk,z1l hR (zgg hG rfl) hy]
   .rename_i s x1 x0 s2 vx vy n1 n2 hx hy;simp only[qR]at h;obtain⟨vv,hp,he⟩:=h;cases he;rw[Zjb hp];by_cases hh:bOf (ev E r s)=true
    .rw[qj hh,qj hh,z1l hR (zgg hG hh) hx]
    .rw[qc hh,qc hh,z1l hR (zgg hG (by simpa using hh)) hy]
   .cases h
  .cases h
 .cases h
theorem zxi(hR:Rel D H0 w0 st E r H a w)(hG:Guard.holds E r G){T:TypeId}{x:Operand}{f:Nat}{cks:List Chk}{v:VE}(h:z13 P st G (.fieldAddr T x f)=some (cks,v))(hc:∀c∈cks,c.noBox=true∧c.holds E):
  z37 P E r a w (.fieldAddr T x f) v:=by
 intro d ty pos af gd;simp only[z13,Option.bind_eq_bind,qw]at h;obtain⟨p,hp,fd,hfd,i,hi,h⟩:=h;obtain⟨fs,hu,hf⟩:=zrs hfd;have es:=z0q hR hG hp;split at h
 .cases h
 .rename_i hz;have place:∀ad:Addr,(Instr.fieldAt T (.pointer (some ad)) f).run P w=.ok (.pointer (some (ad.add fd.offset))) w:=fun ad=>by
   simp[Instr.fieldAt,z1p hu,hf,Instr.sureAddr,fieldPlace,z69 hi,hz]
  refine run_v ?_;show(Instr.fieldAt T (a.eval x) f).run P w=_;rw[es];split at h
  .cases h;show(Instr.fieldAt T (.pointer (some ⟨r _,_,none⟩)) f).run P w=_;rw[place];show Result.ok (Value.pointer (some (Addr.add _ _))) w=Result.ok (Value.pointer (some _)) w;unfold Addr.add;split
   .rename_i hz;simp[hz]
   .rfl
  .split at h
   .rename_i hn ht;cases h;have e1:=zhd (z0u hR ht);have hs:=Z80 hR hc;obtain⟨ad,had⟩:=qH.1 hs;rw[e1,had,place];show _=Result.ok (Value.pointer ((pOf (ev E r p)).map _)) w;rw[had];rfl
   .cases h
theorem zzs(hR:Rel D H0 w0 st E r H a w)(hG:Guard.holds E r G){x:Operand}{cks:List Chk}{v:VE}(h:z13 P st G (.nilCheck x)=some (cks,v))(hc:∀c∈cks,c.noBox=true∧c.holds E):
  z37 P E r a w (.nilCheck x) v:=by
 intro d ty pos af gd;simp only[z13,Option.bind_eq_bind,qw]at h;obtain⟨p,hp,h⟩:=h;have es:=z0q hR hG hp;have hptr:∀ad,a.eval x=.pointer (some ad)→(execOp a.eval ⟨d,.nilCheck x,ty,pos,af,gd⟩).run P w=.ok (.value (a.eval x)) w:=fun ad h=>by simp[execOp,h]
 split at h
 .cases h;rw[hptr _ es,es];rfl
 .cases h;simp[execOp,es,ev,evV]
 .split at h
  .rename_i ht;cases h;have e1:=zhd (z0u hR ht);have hs:=Z80 hR hc;obtain⟨ad,had⟩:=qH.1 hs;rw[had]at e1;rw[hptr ad (es.trans e1),es];rfl
  .cases h
theorem Ze4(hR:Rel D H0 w0 st E r H a w)(hG:Guard.holds E r G){T:TypeId}{x:Operand}{cks:List Chk}{v:VE}(h:z13 P st G (.load T x)=some (cks,v)):z37 P E r a w (.load T x) v:=by
 intro d ty pos af gd;simp only[z13,Option.bind_eq_bind,qw]at h;obtain⟨p,hp,h⟩:=h;have es:=z0q hR hG hp;split at h
 .simp only[qw]at h;obtain⟨b,hb,v',hv,h⟩:=h;cases h;obtain⟨hm,hid⟩:=zfy hb;refine run_v ?_;show(Instr.loadAt T (a.eval x)).run P w=_;rw[es];have:=zwj (P:=P) (T:=T) (hR.bx b hm).1 hv;subst hid;simpa[Instr.loadAt,Instr.sureAddr,ev]using this
 .cases h
theorem Z8w(hR:Rel D H0 w0 st E r H a w)(hG:Guard.holds E r G){op:BinOp}{xT yT:TypeId}{x y:Operand}{cks:List Chk}{v:VE}(h:z13 P st G (.binOp op xT x y yT)=some (cks,v))(hc:∀c∈cks,c.noBox=true∧c.holds E):
  z37 P E r a w (.binOp op xT x y yT) v:=by
 intro d ty pos af gd;simp only[z13,Option.bind_eq_bind,qw]at h;obtain⟨p,hp,q,hq,h⟩:=h;have:=Zde hR h hc x y;rw[←z0q hR hG hp,←z0q hR hG hq]at this;exact run_v this
theorem Zd3(hR:Rel D H0 w0 st E r H a w)(hG:Guard.holds E r G){op:UnOp}{xT:TypeId}{x:Operand}{cks:List Chk}{v:VE}(h:z13 P st G (.unOp op xT x)=some (cks,v)):z37 P E r a w (.unOp op xT x) v:=by
 intro d ty pos af gd;simp only[z13,Option.bind_eq_bind,qw]at h;obtain⟨p,hp,h⟩:=h;have es:=z0q hR hG hp;refine run_v ?_;show(Op.unary op (a.eval x)).run P w=_;rw[es];split at h
 .rename_i ht;cases h;rw[zbf (z0u hR ht)];rfl
 .rename_i k ht;cases h;rw[z4a (z0u hR ht)];simp[Op.unary,Op.intArith,evV,ev,arI,iOf]
 .rename_i k ht;cases h;rw[z4a (z0u hR ht)];simp[Op.unary,Op.intBits,evV,ev,comI,iOf]
 .cases h
theorem Z3z(hR:Rel D H0 w0 st E r H a w)(hG:Guard.holds E r G){s t:TypeId}{x:Operand}{cks:List Chk}{v:VE}(h:z13 P st G (.convert s t x)=some (cks,v)):z37 P E r a w (.convert s t x) v:=by
 intro d ty pos af gd;simp only[z13,Option.bind_eq_bind,qw]at h;obtain⟨p,hp,u,hu,h⟩:=h;have es:=z0q hR hG hp;refine run_v ?_;show(convert s t (a.eval x)).run P w=_;rw[es];split at h
 .rename_i k k' hd ht;cases h;rw[z4a (z0u hR ht)];simp[convert,z1p hu,z1p hd,Conv.intToInt,evV,ev,iOf]
 .rename_i hd ht;cases h;rw[zia (z0u hR ht)];simp[convert,z1p hu,z1p hd,evV];exact(zia (z0u hR ht)).symm
 .cases h
theorem Z46(hR:Rel D H0 w0 st E r H a w)(hG:Guard.holds E r G){x:Operand}{i:Nat}{cks:List Chk}{v:VE}(h:z13 P st G (.extract x i)=some (cks,v)):z37 P E r a w (.extract x i) v:=by
 intro d ty pos af gd;simp only[z13]at h;split at h
 .rename_i vs hx;refine run_v ?_;show(Instr.extract (a.eval x) i).run P w=_;rw[z1l hR hG hx];split at h
  .rename_i cs hi;cases h;simp[Instr.extract,evV,hi,partV]
  .rename_i c l hi;cases h;simp[Instr.extract,evV,hi,partV]
  .cases h
 .cases h
theorem Zah(hR:Rel D H0 w0 st E r H a w)(hG:Guard.holds E r G){T:TypeId}{x:Operand}{f:Nat}{cks:List Chk}{v:VE}(h:z13 P st G (.field T x f)=some (cks,v)):z37 P E r a w (.field T x f) v:=by
 intro d ty pos af gd;simp only[z13]at h;split at h
 .rename_i cs hx;simp only[Option.bind_eq_bind,qw]at h;obtain⟨fd,hfd,v',hv,h⟩:=h;cases h;obtain⟨fs,hu,hf⟩:=zrs hfd;refine run_v ?_;show(Instr.field T (a.eval x) f).run P w=_;rw[z1l hR hG hx];have:=Zkl (E:=E) (r:=r) (w:=w) hv;simpa[Instr.field,z1p hu,hf,evV,asAgg]using this
 .cases h
theorem Zak(hR:Rel D H0 w0 st E r H a w)(hG:Guard.holds E r G){T:TypeId}{x i:Operand}{cks:List Chk}{v:VE}(h:z13 P st G (.index T x i)=some (cks,v))(hc:∀c∈cks,c.noBox=true∧c.holds E):z37 P E r a w (.index T x i) v:=by
 intro d ty pos af gd;simp only[z13,Option.bind_eq_bind,qw]at h;obtain⟨p,hp,q,hq,h⟩:=h;split at h
 .rename_i k hu h1 h2;cases h;refine run_v ?_;show(Instr.index T (a.eval x) (a.eval i)).run P w=_;rw[z0q hR hG hp,z0q hR hG hq];have e1:=zia (z0u hR h1);have e2:=z4a (z0u hR h2);obtain⟨hb,hh⟩:=hc _ (zsi.2 rfl);simp only[Chk.noBox,zba]at hb;have hh:0≤iOf (ev0 E q)∧iOf (ev0 E q)<(sOf (ev0 E p)).size:=hh;rw[←z14 (r:=r) hb.1,←z14 (r:=r) hb.2]at hh;have hlt:(iOf (ev E r q)).toNat<(sOf (ev E r p)).size:=om;rw[e1,e2];have hget:(sOf (ev E r p))[(iOf (ev E r q)).toNat]?=some ((sOf (ev E r p))[(iOf (ev E r q)).toNat]'hlt):=by simp[hlt]
  simp only[Instr.index,asIntOf,Sem.run_bind,Sem.run_pure,Result.andThen_ok,z1p hu,hh.1,if_true,hget,evV,ev];simp
 .cases h
theorem Zht{s:Value}{ad:Addr}(h:z0b s=some ad)(i:Int)(z:Nat):eltV s i z=.pointer (some (ad.add (i.toNat*z))):=by simp[eltV,h]
theorem zys(hR:Rel D H0 w0 st E r H a w)(hG:Guard.holds E r G){T:TypeId}{x i:Operand}{cks:List Chk}{v:VE}(h:z13 P st G (.indexAddr T x i)=some (cks,v))(hc:∀c∈cks,c.noBox=true∧c.holds E):z37 P E r a w (.indexAddr T x i) v:=by
 intro d ty pos af gd;simp only[z13,Option.bind_eq_bind,qw]at h;obtain⟨p,hp,q,hq,h⟩:=h;refine run_v ?_;show(Instr.indexAt T (a.eval x) (a.eval i)).run P w=_;rw[z0q hR hG hp,z0q hR hG hq];split at h
 .rename_i n e bd off k hu h2;simp only[qw]at h;obtain⟨inf,hi,h⟩:=h;split at h
  .rename_i kk j;split at h
   .rename_i hj;cases h;have h1:¬n≤1:=om;simp[Instr.indexAt,ev,evV,asIntOf,z1p hu,Instr.sureAddr,hj.1,hj.2.1,z69 hi];unfold Addr.add;split
    .simp_all
    .rfl
   .cases h
  .cases h
 .rename_i p _ _ _ _ e k hu h2 h1;simp only[qw]at h;obtain⟨inf,hi,h⟩:=h;cases h;have e1:=ok_sl (z0u hR h1);have e2:=z4a (z0u hR h2);have hh:(z0b (ev E r p)).isSome=true∧0≤iOf (ev E r q)∧iOf (ev E r q)<slLen (ev E r p):=by
   split at hc
   .rename_i hk;obtain⟨c,hm,he⟩:=wl.1 hk;have e:=zb8 he;obtain⟨hb,hh⟩:=hR.kn c hm;subst e;simp only[Chk.noBox,zba]at hb;rw[z14 hb.1,z14 hb.2];exact hh
   .obtain⟨hb,hh⟩:=hc _ (zsi.2 rfl);simp only[Chk.noBox,zba]at hb;rw[z14 hb.1,z14 hb.2];exact hh
  obtain⟨ad,had⟩:=qH.1 hh.1;show _=Result.ok (eltV (ev E r p) (iOf (ev E r q)) inf.size) w;rw[Zht had];rw[e1,e2,had];simp[Instr.indexAt,asIntOf,z1p hu,hh.2.1,hh.2.2,z69 hi];rfl
 .cases h
theorem Zg8(hR:Rel D H0 w0 st E r H a w)(hG:Guard.holds E r G){T ty:TypeId}{x:Operand}{s:SV}{cks:List Chk}{v:VE}(hs:ops1 st G x=some s)(h:lenL P T st.tags s=some (cks,v)):
  (Builtin.len_ #[T] ty #[a.eval x]).run P w=.ok (evV E r v) w:=by
 rw[z0q hR hG hs];unfold lenL at h;split at h
 .rename_i hu h1;have e1:=zia (z0u hR h1);have hl:(Builtin.len_ #[T] ty #[ev E r s]).run P w=.ok (.int .i64 (sOf (ev E r s)).size) w:=by
   rw[e1];simp[Builtin.len_,z1p hu,goInt,sOf]
  rw[hl];split at h
  .cases h;simp[evV,ev,sOf,ByteArray.size]
  .cases h;rfl
 .rename_i e hu h1;cases h;rw[ok_sl (z0u hR h1)];simp[Builtin.len_,z1p hu,goInt,evV,ev]
 .cases h
theorem arr1{α:Type}{l:Array α}{x:α}(h:l.toList=[x]):l=#[x]:=by
 have:=congrArg List.toArray h;simpa using this
theorem arr2{α:Type}{l:Array α}{x y:α}(h:l.toList=[x,y]):l=#[x,y]:=by
 have:=congrArg List.toArray h;simpa using this
theorem Zd6(hR:Rel D H0 w0 st E r H a w)(hG:Guard.holds E r G){c:Call}{cks:List Chk}{v:VE}(h:callL P st G c=some (cks,v)):z37 P E r a w (.call c) v:=by
 intro d ty pos af gd;obtain⟨cal,args,tys⟩:=c;simp only[callL]at h;split at h
 .rename_i x T h1 h2;rw[arr1 h1,arr1 h2];split at h
  .rename_i s hs;have:=Zg8 (ty:=ty) hR hG hs h;simp[execOp,resolve,invoke,builtin,this]
  .cases h
 .rename_i x T h1 h2;rw[arr1 h1,arr1 h2];split at h
  .rename_i s hs;split at h
   .rename_i e hu ht;cases h;have:(Builtin.cap_ #[T] ty #[a.eval x]).run P w=.ok (.int .i64 (slCap (ev E r s))) w:=by
     rw[z0q hR hG hs,ok_sl (z0u hR ht)];simp[Builtin.cap_,z1p hu,goInt,slCap]
    simp[execOp,resolve,invoke,builtin,this,evV,ev]
   .cases h
  .cases h
 .rename_i x y hl;rw[arr2 hl];split at h
  .rename_i p q hp hq;split at h
   .rename_i k k' h1 h2;split at h
    .rename_i hk;subst hk;cases h;have:(Builtin.min_ tys ty #[a.eval x,a.eval y]).run P w=.ok (evV E r (.sc (.pick (.cmp .lss q p) q p))) w:=by
      rw[z0q hR hG hp,z0q hR hG hq];have e1:=z4a (z0u hR h1);have e2:=z4a (z0u hR h2);simp only[evV,ev,cmpI,bOf,zdt];generalize iOf (ev E r p)=i at *;generalize iOf (ev E r q)=j at *;rw[e1,e2];simp only[Builtin.min_,List.foldlM,Builtin.min2,Sem.run_bind,Sem.run_pure,Result.andThen_ok];split<;>rfl
     simp[execOp,resolve,invoke,builtin,this]
    .cases h
   .cases h
  .cases h
 .rename_i x y hl;rw[arr2 hl];split at h
  .rename_i p q hp hq;split at h
   .rename_i k k' h1 h2;split at h
    .rename_i hk;subst hk;cases h;have:(Builtin.max_ tys ty #[a.eval x,a.eval y]).run P w=.ok (evV E r (.sc (.pick (.cmp .gtr q p) q p))) w:=by
      rw[z0q hR hG hp,z0q hR hG hq];have e1:=z4a (z0u hR h1);have e2:=z4a (z0u hR h2);simp only[evV,ev,cmpI,bOf,zdt];generalize iOf (ev E r p)=i at *;generalize iOf (ev E r q)=j at *;rw[e1,e2];simp only[Builtin.max_,List.foldlM,Builtin.max2,Sem.run_bind,Sem.run_pure,Result.andThen_ok];split<;>rfl
     simp[execOp,resolve,invoke,builtin,this]
    .cases h
   .cases h
  .cases h
 .cases h
theorem zm0(hR:Rel D H0 w0 st E r H a w)(hG:Guard.holds E r G){x:Option Operand}{d s:SV}(h:optOp st G x d=some s):
  (x=none∧s=d)∨∃y,x=some y∧a.eval y=ev E r s:=by
 unfold optOp at h;split at h
 .exact .inr ⟨_,rfl,z0q hR hG h⟩
 .cases h;exact .inl ⟨rfl,rfl⟩
theorem zxv{lo hi:Option Value}{l h n len:Int}{m nl:Nat}{k1 k2:IntKind}(isS:Bool)(hm:n=m)(hlen:len=nl)(hb:0≤l∧l≤h∧h≤n)
  (h1:(lo=none∧l=0)∨lo=some (.int k1 l)) (h2:(hi=none∧h=len)∨hi=some (.int k2 h)) (w:World) :
  (Instr.sliceBounds isS nl m lo hi none).run P w=.ok (l.toNat,h.toNat,m) w:=by
 subst hm hlen;have c1:0≤h∧h≤(m:Int):=om;have c2:0≤l∧l≤(h.toNat:Int):=om;rcases h1 with⟨rfl,rfl⟩|rfl<;>rcases h2 with⟨rfl,rfl⟩|rfl
 .simp only[Instr.sliceBounds,Sem.run_bind,Sem.run_pure,Result.andThen_ok];rfl
 .simp only[Instr.sliceBounds,Instr.sliceBound,asIntOf,Sem.run_bind,Sem.run_pure,Result.andThen_ok,Sem.run_ite,qj c1];rfl
 .have c3:0≤l∧l≤(nl:Int):=om;simp only[Instr.sliceBounds,Instr.sliceBound,asIntOf,Sem.run_bind,Sem.run_pure,Result.andThen_ok,Sem.run_ite,qj c3];rfl
 .simp only[Instr.sliceBounds,Instr.sliceBound,asIntOf,Sem.run_bind,Sem.run_pure,Result.andThen_ok,Sem.run_ite,qj c1,qj c2]
theorem Zal(hR:Rel D H0 w0 st E r H a w)(hG:Guard.holds E r G){T:TypeId}{x:Operand}{lo hi:Option Operand}{cks:List Chk}{v:VE}(h:z13 P st G (.slice T x lo hi none)=some (cks,v))(hc:∀c∈cks,c.noBox=true∧c.holds E):
  z37 P E r a w (.slice T x lo hi none) v:=by
 intro d ty pos af gd;simp only[z13,Option.bind_eq_bind,qw]at h;obtain⟨p,hp,l,hl,h⟩:=h;have ep:=z0q hR hG hp;have el:=zm0 hR hG hl;refine run_v ?_;show(Instr.sliceAt T (a.eval x) (lo.map a.eval) (hi.map a.eval) none).run P w=_;rw[ep];split at h
 .rename_i kl hu hs hti;simp only[qw]at h;obtain⟨u,hu2,h⟩:=h;have eu:=zm0 hR hG hu2;split at h
  .rename_i ku htu;cases h;obtain⟨hb,hh⟩:=hc _ (zsi.2 rfl);simp only[Chk.noBox,SV.noBox,zba]at hb;have hh:0≤iOf (ev0 E l)∧iOf (ev0 E l)≤iOf (ev0 E u)∧iOf (ev0 E u)≤iOf (ev0 E (.slen p)):=hh;rw[←z14 (r:=r) hb.1.2,←z14 (r:=r) hb.2,←z14 (r:=r) (s:=.slen p) (by simpa[SV.noBox]using hb.1.1)]at hh;have e1:=zia (z0u hR hs);have e2:=z4a (z0u hR hti);have e3:=z4a (z0u hR htu);have hbnd:=zxv (P:=P) (lo:=lo.map a.eval) (hi:=hi.map a.eval) (l:=iOf (ev E r l)) (h:=iOf (ev E r u)) (m:=(sOf (ev E r p)).size) (nl:=(sOf (ev E r p)).size) (len:=(sOf (ev E r p)).size) (k1:=kl) (k2:=ku) false rfl rfl hh
    (by
      rcases el with⟨rfl,rfl⟩|⟨y,rfl,ey⟩
      .exact .inl ⟨rfl,rfl⟩
      .exact .inr (by rw[Option.map_some,ey,←e2]))
    (by
      rcases eu with⟨rfl,rfl⟩|⟨y,rfl,ey⟩
      .exact .inl ⟨rfl,rfl⟩
      .exact .inr (by rw[Option.map_some,ey,←e3])) w
   rw[e1];simp[Instr.sliceAt,Instr.slice,z1p hu,hbnd,evV,ev]
  .cases h
 .rename_i e kl hu hs hti;simp only[qw]at h;obtain⟨u,hu2,inf,hinf,h⟩:=h;have eu:=zm0 hR hG hu2;split at h
  .rename_i ku htu;cases h;obtain⟨hb,hh⟩:=hc _ (zsi.2 rfl);simp only[Chk.noBox,SV.noBox,zba]at hb;have hh:0≤iOf (ev0 E l)∧iOf (ev0 E l)≤iOf (ev0 E u)∧iOf (ev0 E u)≤iOf (ev0 E (.cap p)):=hh;rw[←z14 (r:=r) hb.1.2,←z14 (r:=r) hb.2,←z14 (r:=r) (s:=.cap p) (by simpa[SV.noBox]using hb.1.1)]at hh;have e1:=ok_sl (z0u hR hs);have e2:=z4a (z0u hR hti);have e3:=z4a (z0u hR htu);have hbnd:=zxv (P:=P) (lo:=lo.map a.eval) (hi:=hi.map a.eval) (l:=iOf (ev E r l)) (h:=iOf (ev E r u)) (m:=slCap (ev E r p)) (nl:=slLen (ev E r p)) (len:=slLen (ev E r p)) (k1:=kl) (k2:=ku) true rfl rfl hh
    (by
      rcases el with⟨rfl,rfl⟩|⟨y,rfl,ey⟩
      .exact .inl ⟨rfl,rfl⟩
      .exact .inr (by rw[Option.map_some,ey,←e2]))
    (by
      rcases eu with⟨rfl,rfl⟩|⟨y,rfl,ey⟩
      .exact .inl ⟨rfl,rfl⟩
      .exact .inr (by rw[Option.map_some,ey,←e3])) w
   rw[e1];simp[Instr.sliceAt,Instr.slice,z1p hu,hbnd,z69 hinf,evV,ev,slsV]
  .cases h
 .cases h
theorem Zno(vs:List Value):∀(k off:Nat)(cells:Array Value),off+k+vs.length≤cells.size →
  ((vs.zipIdx k).foldl (fun(cs:Array Value)(x:Value×Nat)=>cs.setIfInBounds (off+x.2) x.1) cells).toList=cells.toList.take (off+k)++vs++cells.toList.drop (off+k+vs.length):=by
 induction vs with
 |nil=>intro k off cells _;simp
 |cons v vs ih=>
  intro k off cells h;simp only[zlc]at h;simp only[List.zipIdx_cons,List.foldl_cons];rw[ih (k+1) off _ (by simp;omega)];have hlen:off+k<cells.toList.length:=by simp;omega
  have e1:(cells.setIfInBounds (off+k) v).toList.take (off+(k+1))=cells.toList.take (off+k)++[v]:=by
   rw[Array.toList_setIfInBounds,←Nat.add_assoc,List.take_succ_eq_append_getElem (by simp;omega),List.take_set_of_le (we _)];simp
  have e2:(cells.setIfInBounds (off+k) v).toList.drop (off+(k+1)+vs.length)=cells.toList.drop (off+k+(v::vs).length):=by
   rw[Array.toList_setIfInBounds,List.drop_set_of_lt om];congr 1;simp only[zlc];omega
  rw[e1,e2];simp
theorem Zed{v:Value}(h:oneC v=true):v.cells=#[v]:=by cases v<;>first|rfl|exact absurd h qk
theorem z76(hR:Rel D H0 w0 st E r H a w){v:VE}{cs:List SV}(h:z56 v=some cs):(evV E r v).cells=(cs.map (ev E r)).toArray:=by
 unfold z56 at h;split at h
 .cases h;exact Zed (Zb2 r hR.tags _)
 .cases h;rfl
 .cases h
theorem Z5p(hR:Rel D H0 w0 st E r H a w)(place:Nat→Option (Nat×Nat)):∀(ps:List (Nat×VE)) (cells:List SV) (out:List SV),fillL place cells ps=some out →
  Instr.fill place (cells.map (ev E r)).toArray (ps.map fun p=>(p.1,evV E r p.2))=some (out.map (ev E r)).toArray:=by
 intro ps
 induction ps with
 |nil=>intro cells out h;simp[fillL]at h;subst h;rfl
 |cons p ps ih=>
  intro cells out h;obtain⟨i,v⟩:=p;simp only[fillL]at h;split at h
  .rename_i off size cs hpl hcs;split at h
   .rename_i hsz;have hv:(evV E r v).cells=(cs.map (ev E r)).toArray:=z76 hR hcs;have hst:=Zno (cs.map (ev E r)) 0 off (cells.map (ev E r)).toArray (by simp;omega);simp only[wa,Instr.fill,hpl,hv];rw[qc (by simp;omega)];have:=ih _ _ h;rw[←this];congr 1;apply Array.ext';rw[←Array.foldl_toList,Array.toList_zipIdx,hst];simp[List.map_take,List.map_drop]
   .cases h
  .cases h
theorem zws(hR:Rel D H0 w0 st E r H a w)(hG:Guard.holds E r G):∀{l:List (Nat×Operand)} {ps:List (Nat×VE)},(l.mapM fun p=>(opv st G p.2).map fun v=>(p.1,v))=some ps →
  l.map (fun p=>(p.1,a.eval p.2))=ps.map fun p=>(p.1,evV E r p.2)
 | [],ps,h=>by simp at h;subst h;rfl
 |p::l,ps,h=>by
  simp only[List.mapM_cons,Option.bind_eq_bind,qw,qR]at h;obtain⟨q,⟨v,hv,rfl⟩,qs,hqs,h⟩:=h;cases h;simp only[wa,z1l hR hG hv,zws hR hG hqs]
theorem Z2m{t:TypeId}{v:VE}(h:zeroL P t=some v):(zeroValue t).run P w=.ok (evV E r v) w:=by
 unfold zeroL at h;split at h
 .rename_i i hi;simp only[qw]at h;obtain⟨z,hz,hv⟩:=h;simp[zeroValue,Zbl hi,hz,Z30 hv]
 .cases h
theorem zy0:∀{l:List Field} {ps:List (Nat×Nat)},(l.mapM fun f=>(P.info? f.type).map fun i=>(f.offset,i.size))=some ps →
  (l.mapM fun f=>(do pure (f.offset,←sizeOf f.type):Sem (Nat×Nat))).run P w=.ok ps w
 | [],ps,h=>by simp at h;subst h;simp
 |f::l,ps,h=>by
  simp only[List.mapM_cons,Option.bind_eq_bind,qw,qR]at h;obtain⟨q,⟨i,hi,rfl⟩,qs,hqs,h⟩:=h;cases h;simp only[List.mapM_cons,Sem.run_bind,z69 hi,Result.andThen_ok,Sem.run_pure,zy0 hqs]
theorem Z9d(hR:Rel D H0 w0 st E r H a w)(hG:Guard.holds E r G){T:TypeId}{parts:Array (Nat×Operand)}{cks:List Chk}{v:VE}(h:z13 P st G (.build T parts)=some (cks,v)):z37 P E r a w (.build T parts) v:=by
 intro d ty pos af gd;simp only[z13]at h;refine run_v ?_;show(Instr.build T (parts.map fun(x:Nat×Operand)=>(x.1,a.eval x.2))).run P w=_;split at h
 .rename_i zs ps hz hps;have hzr:=Z2m (P:=P) (w:=w) (E:=E) (r:=r) hz;have hparts:(parts.map fun(x:Nat×Operand)=>(x.1,a.eval x.2)).toList=ps.map fun p=>(p.1,evV E r p.2):=by
   rw[Array.toList_map];exact zws hR hG hps
  split at h
  .rename_i fs hu;split at h
   .rename_i places hpl;simp only[qR]at h;obtain⟨cs,hcs,he⟩:=h;cases he;have hf:=Z5p hR (places[·]?) ps zs cs hcs;have hp:=zy0 (P:=P) (w:=w) hpl;have hp2:(fs.mapM fun f=>(do pure (f.offset,←sizeOf f.type):Sem (Nat×Nat))).run P w=.ok places.toArray w:=by
     rw[Array.mapM_eq_mapM_toList];simp only[Sem.run_map,hp,Result.andThen_ok]
    have e1:(evV E r (.ag zs)).cells=(zs.map (ev E r)).toArray:=rfl;have e2:(fun x:Nat=>places.toArray[x]?)=fun x=>places[x]?:=by funext x;simp
    simp only[Instr.build,Sem.run_bind,hzr,Result.andThen_ok,z1p hu,hp2,hparts,e1,e2,hf];rfl
   .cases h
  .rename_i n e hu;split at h
   .rename_i inf hi;simp only[qR]at h;obtain⟨cs,hcs,he⟩:=h;cases he;have hf:=Z5p hR (fun i=>some (i*inf.size,inf.size)) ps zs cs hcs;have e1:(evV E r (.ag zs)).cells=(zs.map (ev E r)).toArray:=rfl;simp only[Instr.build,Sem.run_bind,hzr,Result.andThen_ok,z1p hu,z69 hi,hparts,e1,hf];rfl
   .cases h
  .cases h
 .cases h
theorem zrv(hR:Rel D H0 w0 st E r H a w)(hG:Guard.holds E r G){op:Op}{cks:List Chk}{v:VE}(h:z13 P st G op=some (cks,v))(hc:∀c∈cks,c.noBox=true∧c.holds E):z37 P E r a w op v:=by
 cases op with
 |move x=>
  simp only[z13,qR]at h;obtain⟨u,hu,he⟩:=h;cases he;intro d ty pos af gd;simp[execOp,z1l hR hG hu]
 |assign x=>
  simp only[z13,qR]at h;obtain⟨u,hu,he⟩:=h;cases he;intro d ty pos af gd;simp[execOp,z1l hR hG hu]
 |pick c x y=>exact Zdi hR hG h
 |fieldAddr T x f=>exact zxi hR hG h hc
 |nilCheck x=>exact zzs hR hG h hc
 |load T x=>exact Ze4 hR hG h
 |binOp op xT x y yT=>exact Z8w hR hG h hc
 |unOp op xT x=>exact Zd3 hR hG h
 |convert s t x=>exact Z3z hR hG h
 |extract x i=>exact Z46 hR hG h
 |field T x f=>exact Zah hR hG h
 |index T x i=>exact Zak hR hG h hc
 |indexAddr T x i=>exact zys hR hG h hc
 |call c=>exact Zd6 hR hG h
 |slice T x lo hi mx=>
  cases mx with
  |none=>exact Zal hR hG h hc
  |some m=>simp[z13]at h
 |build T parts=>exact Z9d hR hG h
 |_=>simp[z13]at h
end
