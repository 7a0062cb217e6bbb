import Derived.Test.YtjhlndokjkeilaaGreatDoorMg
import Derived.Sort.KeysCollected
set_option linter.unusedSimpArgs false
set_option linter.unusedVariables false
set_option maxRecDepth 100000
namespace Go.Proofs.YtjhlndokjkeilaaGreatDoor.Vc
open Go
inductive Itm where
 | row (e:TypeId) (z:Nat) (rows:List (List PV)) (v:Value)
 | raw (e:TypeId) (z:Nat) (xs:List Value) (n:Nat) (v:Value)
 | blk (r:Nat) (o:Obj)
def Itm.ob:Itm→Option Nat
 | .row _ _ _ v=>Vc.ob v
 | .raw _ _ _ _ v=>Vc.ob v
 | .blk r _=>some r
def Itm.At (S H:PH):Itm→Prop
 | .row e z rows v=>∃xs,Own H e z v rows.length xs∧PV.RepRow S rows.flatten xs
 | .raw e z xs n v=>Own H e z v n xs
 | .blk r o=>H r=some o
abbrev orow {α:Type} [Enc α] (e:TypeId) (l:List α) (v:Value):Itm:=.row e (sz α) (l.map pv) v
structure Held (S H:PH) (I:List Itm):Prop where
 sh:PH.le S H
 at_:∀i∈I,i.At S H
 off:∀i∈I,∀g,i.ob=some g→S g=none
 nd:I.Pairwise fun a b=>∀g,a.ob=some g→b.ob≠some g
section
variable {S H S' H':PH} {I J J':List Itm}
theorem Own.dwell {e:TypeId} {z n:Nat} {v:Value} {xs:List Value} (h:Own H e z v n xs) {g:Nat} (hg:ob v=some g):H g≠none:=by
 rcases h.2 with ⟨rfl,_⟩ | ⟨g',cap,cur,rfl,h1,_⟩
 ·cases hg
 ·simp only [ob,Option.some.injEq] at hg
  subst hg;rw [h1];exact fun h=>by cases h
theorem Itm.At.dwell {i:Itm} (h:i.At S H) {g:Nat} (hg:i.ob=some g):H g≠none:=by
 cases i with
 | row e z rows v=>obtain ⟨xs,h1,_⟩:=h;exact h1.dwell hg
 | raw e z xs n v=>exact Own.dwell h hg
 | blk r o=>
  simp only [Itm.ob,Option.some.injEq] at hg
  subst hg
  simp only [Itm.At] at h
  rw [h];exact fun h=>by cases h
theorem Itm.At.mono {i:Itm} (h:i.At S H) (hs:PH.le S S') (hk:∀g,i.ob=some g→H' g=H g):i.At S' H':=by
 cases i with
 | row e z rows v=>obtain ⟨xs,h1,h2⟩:=h;exact ⟨xs,h1.le hk,PV.RepRow.le hs h2⟩
 | raw e z xs n v=>exact Own.le h hk
 | blk r o=>simp only [Itm.At] at h ⊢;rw [hk r rfl];exact h
theorem Held.step (h:Held S H (J++I)) (hS:PH.le S S') (keep:∀k o,H k=some o→(∀j∈J,j.ob≠some k)→H' k=some o)
  (newS:∀k,S k=none→S' k≠none→H k=none∨∃j∈J,j.ob=some k) (hJ:Held S' H' J')
  (newJ:∀j∈J',∀g,j.ob=some g→H g=none∨∃i∈J,i.ob=some g):Held S' H' (J'++I):=by
 have hnd:=List.pairwise_append.1 h.nd
 have hin:∀i∈I,∀g,i.ob=some g→H g≠none∧∀j∈J,j.ob≠some g:=fun i hi g hg=>
  ⟨(h.at_ i (List.mem_append_right _ hi)).dwell hg,fun j hj hjg=>hnd.2.2 j hj i hi g hjg hg⟩
 refine ⟨hJ.sh,fun i hi=>?_,fun i hi g hg=>?_,List.pairwise_append.2 ⟨hJ.nd,hnd.2.1,fun a ha b hb g hag hbg=>?_⟩⟩
 ·rcases List.mem_append.1 hi with hi | hi
  ·exact hJ.at_ i hi
  ·refine (h.at_ i (List.mem_append_right _ hi)).mono hS fun g hg=>?_
   obtain ⟨h1,h2⟩:=hin i hi g hg
   cases ho:H g with
   | none=>exact absurd ho h1
   | some o=>exact keep g o ho h2
 ·rcases List.mem_append.1 hi with hi | hi
  ·exact hJ.off i hi g hg
  ·cases hs:S' g with
   | none=>rfl
   | some o=>
    obtain ⟨h1,h2⟩:=hin i hi g hg
    rcases newS g (h.off i (List.mem_append_right _ hi) g hg) (by rw [hs];exact fun h=>by cases h) with h3 | ⟨j,h3,h4⟩
    ·exact absurd h3 h1
    ·exact absurd h4 (h2 j h3)
 ·obtain ⟨h1,h2⟩:=hin b hb g hbg
  rcases newJ a ha g hag with h3 | ⟨j,h3,h4⟩
  ·exact h1 h3
  ·exact h2 j h3 h4
theorem Held.nil (h:PH.le S H):Held S H []:=⟨h,fun i hi=>(by cases hi),fun i hi=>(by cases hi),List.Pairwise.nil⟩
theorem Held.ext (h:Held S H I) (x:Ext S H S' H'):Held S' H' I:=by
 have:=Held.step (J:=[]) (J':=[]) (I:=I) (S':=S') (H':=H') h x.s (fun k o hk _=>x.h k o hk) (fun k h1 h2=>.inl (x.n k h1 h2)) (Held.nil x.i) (fun j hj=>by cases hj)
 exact this
theorem Held.le (h:Held S H I) (hl:PH.le H H'):Held S H' I:=h.ext (Ext.of_le h.sh hl)
theorem Held.perm (h:Held S H I) (p:I.Perm J):Held S H J:=
 ⟨h.sh,fun i hi=>h.at_ i (p.mem_iff.2 hi),fun i hi=>h.off i (p.mem_iff.2 hi),(p.pairwise_iff (fun hab g hb ha=>hab g ha hb)).1 h.nd⟩
theorem Held.sub (h:Held S H I) (s:J.Sublist I):Held S H J:=
 ⟨h.sh,fun i hi=>h.at_ i (s.subset hi),fun i hi=>h.off i (s.subset hi),h.nd.sublist s⟩
theorem Held.tail {a:Itm} (h:Held S H (a::I)):Held S H I:=h.sub (List.sublist_cons_self a I)
theorem Held.mono (h:Held S H I) (hl:PH.le H H'):Held S H' I:=h.le hl
theorem Held.call {P:Program} {f:FuncId} {args:Array Value} {R:Ending→PH→List Itm→Prop} (h:Held S H (J++I))
  (ht:∀K,Held S K J→Tri P f args K fun e K'=>∃S' J',PH.le S S'∧Held S' K' J'∧R e S' J') :
  Tri P f args H fun e H'=>∃S' J',PH.le S S'∧Held S' H' (J'++I)∧R e S' J':=by
 classical
 let K:PH:=fun k=>if S k≠none∨∃j∈J,j.ob=some k then H k else none
 have hKH:PH.le K H:=fun k o hk=>by
  simp only [K] at hk
  split at hk
  ·exact hk
  ·cases hk
 have hKat:∀k,(S k≠none∨∃j∈J,j.ob=some k)→K k=H k:=fun k hk=>if_pos hk
 have hKno:∀k,K k=none→H k≠none→S k=none∧∀j∈J,j.ob≠some k:=fun k h1 h2=>by
  by_cases hc:S k≠none∨∃j∈J,j.ob=some k
  ·rw [hKat k hc] at h1;exact absurd h1 h2
  ·exact ⟨by
    cases hs:S k with
    | none=>rfl
    | some o=>exact absurd (.inl (by rw [hs];exact fun h=>by cases h)) hc,fun j hj hg=>hc (.inr ⟨j,hj,hg⟩)⟩
 have hJ:=h.sub (List.sublist_append_left J I)
 have hK:Held S K J:=by
  refine ⟨fun k o hk=>by rw [hKat k (.inl (by rw [hk];exact fun h=>by cases h))];exact h.sh k o hk,fun i hi=>?_,hJ.off,hJ.nd⟩
  exact (hJ.at_ i hi).mono (PH.le_refl _) fun g hg=>hKat g (.inr ⟨i,hi,hg⟩)
 refine (Tri.within hKH (ht K hK)).mono ?_
 rintro e H' ⟨K',⟨S',J',h1,h2,h3⟩,h4,h5⟩
 have hJ':Held S' H' J':=h2.le h4
 refine ⟨S',J',h1,Held.step h h1 (fun k o hk hn=>?_) (fun k hs hs'=>?_) hJ' (fun j hj g hg=>?_),h3⟩
 ·by_cases hs:S k=none
  ·have hKn:K k=none:=if_neg fun hc=>by
    rcases hc with hc | ⟨j,hj,hg⟩
    ·exact hc hs
    ·exact hn j hj hg
   rw [(h5 k hKn (by rw [hk];exact fun h=>by cases h)).2];exact hk
  ·cases hso:S k with
   | none=>exact absurd hso hs
   | some o'=>
    have:=h.sh k o' hso
    rw [hk] at this;cases this
    exact h4 k o (h2.sh k o (h1 k o hso))
 ·by_cases hn:H k=none
  ·exact .inl hn
  ·right
   cases hkk:K k with
   | none=>
    have:=(h5 k hkk hn).1
    cases hso:S' k with
    | none=>exact absurd hso hs'
    | some o'=>have:=h2.sh k o' hso;simp_all
   | some o'=>
    by_cases hc:S k≠none∨∃j∈J,j.ob=some k
    ·rcases hc with hc | hc
     ·exact absurd hs hc
     ·exact hc
    ·have:K k=none:=if_neg hc
     rw [this] at hkk;cases hkk
 ·by_cases hn:H g=none
  ·exact .inl hn
  ·right
   cases hkk:K g with
   | none=>
    have h6:=(h5 g hkk hn).1
    exact absurd h6 ((h2.at_ j hj).dwell hg)
   | some o'=>
    by_cases hc:S g≠none∨∃j∈J,j.ob=some g
    ·rcases hc with hc | hc
     ·have h7:=h2.off j hj g hg
      cases hso:S g with
      | none=>exact absurd hso hc
      | some o2=>rw [h1 g o2 hso] at h7;cases h7
     ·exact hc
    ·have:K g=none:=if_neg hc
     rw [this] at hkk;cases hkk
theorem Held.pure {P:Program} {f:FuncId} {args:Array Value} {R:Ending→PH→Prop} (h:Held S H I)
  (ht:Tri P f args S fun e S'=>PH.le S S'∧R e S'):Tri P f args H fun e H'=>∃S',PH.le S S'∧Held S' H' I∧R e S':=by
 refine (Tri.ext h.sh (fun e K hk=>hk.1) ht).mono ?_
 rintro e H' ⟨K,⟨_,h1⟩,hx⟩
 exact ⟨K,hx.s,h.ext hx,h1⟩
theorem Held.gives {P:Program} {f:FuncId} {args:List Value} {v:Value} (h:Held S H I) (ht:Gives P f args S v):Tri P f args.toArray H fun e H'=>e=.returned v∧Held S H' I∧PH.le H H':=by
 refine (Gives.up h.sh ht).mono ?_
 rintro e H' ⟨h1,h2⟩
 exact ⟨h1,h.le h2,h2⟩
end
section
variable {α:Type} [Enc α] {S S' H H':PH} {I:List Itm} {e:TypeId} {l:List α} {v:Value}
theorem zwh (l:List α):(l.map pv).flatten=l.flatMap pv:=by rw [List.flatMap_def]
theorem Held.row (h:Held S H I) (hi:orow e l v∈I):Row S H e l v:=by
 obtain ⟨xs,h1,h2⟩:=h.at_ _ hi
 exact ⟨h.off _ hi,xs,by rw [←List.length_map (f:=pv)];exact h1,by rw [←zwh];exact h2⟩
theorem Row.at_ (h:Row S H e l v):(orow e l v).At S H:=by
 obtain ⟨xs,h1,h2⟩:=h.own
 exact ⟨xs,by rw [List.length_map];exact h1,by rw [zwh];exact h2⟩
theorem Row.held (hS:PH.le S H) (h:Row S H e l v):Held S H [orow e l v]:=
 ⟨hS,fun i hi=>by rw [List.mem_singleton.1 hi];exact h.at_,fun i hi g hg=>by rw [List.mem_singleton.1 hi] at hg;exact h.off g hg,List.pairwise_singleton _ _⟩
theorem Held.empty (h:Held S H I) (e:TypeId):Held S H (orow (α:=α) e [] (.slice Option.none 0 0)::I):=
 Held.step (J:=[]) (J':=[orow (α:=α) e [] (.slice Option.none 0 0)]) h (PH.le_refl _) (fun k o hk _=>hk) (fun k h1 h2=>absurd h1 h2) (Row.held h.sh (Row.nil S H e)) fun j hj g hg=>by rw [List.mem_singleton.1 hj] at hg;cases hg
theorem Held.went {l':List α} {v':Value} (h:Held S H (orow e l v::I)) (hr:Row S H' e l' v') (hS:PH.le S H') (w:Went H H' v v'):Held S H' (orow e l' v'::I):=
 Held.step (J:=[orow e l v]) (J':=[orow e l' v']) h (PH.le_refl _) (fun k o hk hn=>w.keep k o hk fun e=>hn _ (List.mem_singleton.2 rfl) e.symm) (fun k h1 h2=>absurd h1 h2) (Row.held hS hr) fun j hj g hg=>by
  rw [List.mem_singleton.1 hj] at hg
  rcases w.fresh g hg with h1 | h1
  ·exact .inr ⟨_,List.mem_singleton.2 rfl,h1⟩
  ·exact .inl h1
theorem Held.freeze (h:Held S H (orow e l v::I)):∃S',SlR S' l v∧PH.le S S'∧Held S' H I:=by
 obtain ⟨S',h1,h2,h3,h4⟩:=(h.row (zms)).freeze h.sh
 refine ⟨S',h1,h2,?_⟩
 have:=Held.step (J:=[orow e l v]) (J':=[]) (I:=I) (H':=H) h h2 (fun k o hk _=>hk) (fun k h5 h6=>.inr ⟨_,List.mem_singleton.2 rfl,h4 k h5 h6⟩) (Held.nil h3) (fun j hj=>by cases hj)
 exact this
theorem Held.new (h:Held S H I) {r:Nat} (hr:H r=Option.none) (o:Obj):Held S (H.upd r o) (.blk r o::I):=by
 refine Held.step (J:=[]) (J':=[.blk r o]) h (PH.le_refl _) (fun k x hk _=>PH.le_upd hr k x hk) (fun k h1 h2=>absurd h1 h2) ⟨PH.le_trans h.sh (PH.le_upd hr),fun i hi=>?_,fun i hi g hg=>?_,List.pairwise_singleton _ _⟩ fun j hj g hg=>?_
 ·rw [List.mem_singleton.1 hi];exact PH.upd_same
 ·rw [List.mem_singleton.1 hi] at hg
  simp only [Itm.ob,Option.some.injEq] at hg
  subst hg
  exact PH.none_of_le h.sh hr
 ·rw [List.mem_singleton.1 hj] at hg
  simp only [Itm.ob,Option.some.injEq] at hg
  subst hg
  exact .inl hr
theorem Held.put {r:Nat} {o:Obj} (h:Held S H (.blk r o::I)) (o':Obj):Held S (H.upd r o') (.blk r o'::I):=by
 have hr:S r=Option.none:=h.off _ (zms) r rfl
 refine Held.step (J:=[.blk r o]) (J':=[.blk r o']) h (PH.le_refl _) (fun k x hk hn=>by rw [PH.upd_other];exact hk;exact fun e=>hn _ (List.mem_singleton.2 rfl) (by rw [e];rfl)) (fun k h1 h2=>absurd h1 h2)
  ⟨le_updOff' h.sh hr o',fun i hi=>?_,fun i hi g hg=>?_,List.pairwise_singleton _ _⟩ fun j hj g hg=>?_
 ·rw [List.mem_singleton.1 hi];exact PH.upd_same
 ·rw [List.mem_singleton.1 hi] at hg
  simp only [Itm.ob,Option.some.injEq] at hg
  subst hg;exact hr
 ·rw [List.mem_singleton.1 hj] at hg
  exact .inr ⟨_,List.mem_singleton.2 rfl,hg⟩
where
 le_updOff' {S H:PH} (h:PH.le S H) {r:Nat} (hr:S r=Option.none) (o:Obj):PH.le S (H.upd r o):=fun k x hk=>by
  by_cases e:k=r
  ·subst e;rw [hr] at hk;cases hk
  ·rw [PH.upd_other e];exact h k x hk
theorem Held.blk {r:Nat} {o:Obj} (h:Held S H I) (hi:Itm.blk r o∈I):H r=some o:=h.at_ _ hi
variable {P:Program} {X:List PanicEntry→PH→Prop} {β:Type} {E:List Value} {L:LK} {K:β→List Value→PH→LK→Prop}
theorem zns {T ty:TypeId} {n b:Nat} {ps:Array (Nat×Operand)} {args:List (Nat×VE)} {pend:List (SV×List SV)} {k:Fm β} (vs:List Value)
  (hT:P.underlying T=some (.slice e)) (he:ElemOk P e (sz α) b=true) (hn:l.length=n) (h0:n * sz α≠0) (hle:n * sz α≤2 ^ 24) (h:Held S H I)
  (hps:ps.toList.map (fun x=>(x.1,argEv E args x.2))=idxs 0 vs) (hvs:All2 (fun a v=>CsR S a v.cells.toList) l vs) (hp:z0m E H pend)
  (hk:∀v H',Held S H' (orow e l v::I)→PH.le H H'→z0m E H' pend→den P X k (E++[v]) H' L K):den P X (.sem (.buildSlice T n ps) ty args (.sc .sl) pend k) E H L K:=by
 obtain ⟨i,z,hi,i1,i2,i3,i4⟩:=ElemOk.info he
 obtain ⟨hr,hsz,hlen⟩:=zlv hvs
 show wpS P (execOp (argEv E args) (bare (.buildSlice T n ps) ty)) _ _ H
 rw [z3w]
 have hcs:(vs.flatMap fun v=>v.cells.toList).length=n * sz α:=by
  rw [hr.length,z2m,hn]
 have hcells:((Array.range (n * i.size)).map (z.cells[· % z.cells.size]!)).size=(vs.flatMap fun v=>v.cells.toList).length:=by simp [hcs,i1]
 refine z60 hT hi i3 (by rw [i1];exact h0) (by rw [i1];exact hle) (cells:=(vs.flatMap fun v=>v.cells.toList).toArray) ?_ fun r hr'=>?_
 ·have hpl:(ps.map fun (i,x)=>(i,argEv E args x)).toList=idxs 0 vs:=by rw [←hps];simp
  rw [hpl,i1,zbf vs 0 _ hsz (by simp [i1] at hcells ⊢;rw [hlen,hn];omega)]
  congr 1
  rw [Nat.zero_mul]
  refine z9r ?_
  rw [i1] at hcells;exact hcells
 ·have hnn:n≤n * sz α:=Nat.le_mul_of_pos_right _ (Nat.pos_of_ne_zero fun h=>h0 (by rw [h];simp))
  have hle':=PH.le_upd (o:=.cells (vs.flatMap fun v=>v.cells.toList).toArray e (0,0)) hr'
  have hR:Row S (H.upd r (.cells (vs.flatMap fun v=>v.cells.toList).toArray e (0,0))) e l (.slice (some ⟨r,0,Option.none⟩) n n):=by
   refine ⟨fun g hg=>?_,_,⟨by rw [hcs,hn],.inr ⟨r,n,_,by rw [hn],PH.upd_same,by omega,by simp only [maxLen];omega,by simp only [List.size_toArray];exact hcs,?_⟩⟩,hr⟩
   ·simp only [ob,Option.some.injEq] at hg
    subst hg
    exact PH.none_of_le h.sh hr'
   ·rw [List.toList_toArray]
    exact List.take_of_length_le (by rw [hcs,hn];exact Nat.le_refl _)
  refine ⟨[_],rfl,rfl,z2b hp hle',hk _ _ ?_ hle' (z2b hp hle')⟩
  exact Held.step (J:=[]) (J':=[orow e l (.slice (some ⟨r,0,Option.none⟩) n n)]) h (PH.le_refl _) (fun k o hk _=>hle' k o hk) (fun k h1 h2=>absurd h1 h2) (Row.held (PH.le_trans h.sh hle') hR) fun j hj g hg=>by
   rw [List.mem_singleton.1 hj] at hg
   simp only [Itm.ob,ob,Option.some.injEq] at hg
   subst hg
   exact .inl hr'
theorem z1k {T ty:TypeId} {b:Nat} {args:List (Nat×VE)} {pend:List (SV×List SV)} {k:Fm β}
  (hT:P.underlying T=some (.slice e)) (he:ElemOk P e (sz α) b=true) (h:Held S H I) (hp:z0m E H pend)
  (hk:∀v H',Held S H' (orow (α:=α) e [] v::I)→PH.le H H'→z0m E H' pend→den P X k (E++[v]) H' L K):den P X (.sem (.buildSlice T 0 #[]) ty args (.sc .sl) pend k) E H L K:=by
 refine zw3 (α:=α) hT he h.sh hp fun v H' hr hl hn hp'=>hk v H' ?_ hl hp'
 exact Held.step (J:=[]) (J':=[orow (α:=α) e [] v]) h (PH.le_refl _) (fun k o hk _=>hl k o hk) (fun k h1 h2=>absurd h1 h2) (Row.held (PH.le_trans h.sh hl) hr) fun j hj g hg=>by
  rw [List.mem_singleton.1 hj] at hg
  exact .inl (hn g hg)
theorem z1o {T ty:TypeId} {b:Nat} {x y:Operand} {args:List (Nat×VE)} {pend:List (SV×List SV)} {k:Fm β} {more:List α} {w:Value}
  (hT:P.underlying T=some (.slice e)) (he:ElemOk P e (sz α) b=true) (hx:argEv E args x=v) (hy:argEv E args y=w)
  (h:Held S H (orow e l v::I)) (hw:SrcS S H more w) (h63:l.length+more.length≤maxLen) (hby:(l.length+more.length) * b≤140737488355328)
  (hk:∀v' H',Held S H' (orow e (l++more) v'::I)→Went H H' v v'→z0m E H' pend∧den P X k (E++[v']) H' L K):den P X (.sem (.call ⟨.builtin .append,#[x,y],#[T,T]⟩) ty args (.sc .sl) pend k) E H L K:=
 zqc hT he hx hy h.sh (h.row (zms)) hw h63 hby fun v' H' hr hw' hs=>hk v' H' (h.went hr hs hw') hw'
theorem z16 {T ty ty2:TypeId} {n b:Nat} {ps:Array (Nat×Operand)} {args args2:List (Nat×VE)} {pend pend2:List (SV×List SV)} {x y:Operand} {k:Fm β} {more:List α} (vs:List Value)
  (hT:P.underlying T=some (.slice e)) (he:ElemOk P e (sz α) b=true) (hn:more.length=n) (h0:n * sz α≠0) (hle:n * sz α≤2 ^ 24)
  (h:Held S H (orow e l v::I)) (hps:ps.toList.map (fun x=>(x.1,argEv E args x.2))=idxs 0 vs) (hvs:All2 (fun a v'=>CsR S a v'.cells.toList) more vs) (hp:z0m E H pend)
  (hx:∀u,argEv (E++[u]) args2 x=v) (hy:∀u,argEv (E++[u]) args2 y=u) (h63:l.length+more.length≤maxLen) (hby:(l.length+more.length) * b≤140737488355328)
  (hk:∀u v' S' H',PH.le S S'→Held S' H' (orow e (l++more) v'::I)→z0m (E++[u]) H' pend2∧den P X k (E++[u]++[v']) H' L K) :
  den P X (.sem (.buildSlice T n ps) ty args (.sc .sl) pend (.sem (.call ⟨.builtin .append,#[x,y],#[T,T]⟩) ty2 args2 (.sc .sl) pend2 k)) E H L K:=by
 refine zis (l:=more) vs hT he hn h0 hle h.sh hps hvs hp fun u S1 H1 hx1 hs1 hp1=>?_
 have h1:=h.ext hx1
 exact z1o hT he (hx u) (hy u) h1 (hs1.srcS h1.sh) h63 hby fun v' H2 h2 _=>hk u v' S1 H2 hx1.s h2
end
abbrev bx (r:Nat) (T:TypeId) (cs:List Value):Itm:=.blk r (.cells cs.toArray T (0,0))
abbrev pAt (r:Nat):Value:=.pointer (some ⟨r,0,none⟩)
section
variable {P:Program} {X:List PanicEntry→PH→Prop} {β:Type} {E:List Value} {L:LK} {K:β→List Value→PH→LK→Prop} {S H:PH} {I:List Itm} {r:Nat} {T:TypeId} {cs:List Value}
theorem zib (h:Held S H I) (hi:bx r T cs∈I) (off n:Nat):rowAt H (some ⟨r,off,none⟩) ((cs.drop off).take n):=by
 have hb:=h.blk hi
 refine ⟨_,rfl,fun i v hi=>?_⟩
 rw [Addr.add_plain,PH.cell_at hb]
 rw [List.getElem?_take] at hi
 split at hi
 ·rw [List.getElem?_drop] at hi;simpa using hi
 ·cases hi
theorem zye {p:SV} {tags:List Tag} {f:Fm β} {off:Nat} (vs:List Value) (hp:pOf (ev0 E p)=some ⟨r,off,none⟩) (h:Held S H I) (hi:bx r T cs∈I) (hv:(cs.drop off).take vs.length=vs) (ht:z0c tags vs=true)
  (hk:den P X f (E++vs) H L K):den P X (.load p tags f) E H L K:=by
 refine ⟨vs,ht,?_,hk⟩
 rw [hp,←hv];exact zib h hi off vs.length
theorem z0u {p:SV} {ss:List SV} {f:Fm β} {off:Nat} {vs:List Value} (hp:pOf (ev0 E p)=some ⟨r,off,none⟩) (h:Held S H (bx r T cs::I)) (hv:ss.map (ev0 E)=vs) (h1:∀v∈vs,oneC v=true) (hl:off+vs.length≤cs.length)
  (hk:∀H',Held S H' (bx r T (cs.take off++vs++cs.drop (off+vs.length))::I)→den P X f E H' L K):den P X (.store p ss f) E H L K:=by
 refine ⟨⟨r,off,none⟩,hp,?_⟩
 rw [hv]
 refine z1m vs off 0 cs.toArray H (h.blk (zms)) (by simpa using hl) h1 (hk _ ?_)
 have:=h.put (.cells (cs.take off++vs++cs.drop (off+vs.length)).toArray T (0,0))
 have e:z11 cs.toArray (off+0) vs=(cs.take off++vs++cs.drop (off+vs.length)).toArray:=by
  unfold z11;simp
 rw [e];exact this
theorem zbk {t:TypeId} {ss:List SV} {f:Fm β} {vs:List Value} (h:Held S H I) (hv:ss.map (ev0 E)=vs)
  (hk:∀r H',PH.le H H'→Held S H' (bx r t vs::I)→den P X f (E++[pAt r]) H' L K):den P X (.new t ss f) E H L K:=by
 intro r hr
 rw [hv]
 exact hk r _ (PH.le_upd hr) (h.new hr _)
end
section
variable {P:Program} {α:Type} [Enc α] {S H:PH} {e:TypeId} {l:List α} {v:Value}
theorem Row.putAt {Ψ:Value→PH→Prop} (h:Row S H e l v) {i off:Nat} {a a':α} {us:List Value} (hi:l[i]?=some a) (hoff:off+us.length≤sz α) (h1:∀u∈us,oneC u=true) (hu:∀ces,CsR S a ces→CsR S a' (ces.take off++us++ces.drop (off+us.length))) :
  ∃ad,(pOf (eltV v (i:Int) (sz α))).map (·.add off)=some ad∧∀{Φ:Unit→PH→Prop},(∀H',Row S H' e (l.set i a') v→Went H H' v v→Φ () H')→wpS P (storeCells ad us) Φ Ψ H:=by
 obtain ⟨xs,ho,h2⟩:=h.own
 have hil:i < l.length:=by
  rcases Nat.lt_or_ge i l.length with h | h
  ·exact h
  ·rw [List.getElem?_eq_none h] at hi;cases hi
 rcases ho.2 with ⟨rfl,hz⟩ | ⟨g,cap,cur,rfl,h3,h4,h5,h6,h7⟩
 ·omega
 ·refine ⟨⟨g,i * sz α+off,none⟩,by simp [eltV,pOf,z04,Addr.add_plain],fun {Φ} hk=>?_⟩
  have hb:i * sz α+sz α≤l.length * sz α:=by
   have:(i+1) * sz α≤l.length * sz α:=Nat.mul_le_mul_right _ hil
   rw [Nat.add_mul,Nat.one_mul] at this;omega
  have hcap:l.length * sz α≤cap * sz α:=Nat.mul_le_mul_right _ h4
  refine z1m us (i * sz α+off) 0 cur H h3 (by simp;omega) h1 (hk _ ?_ ?_)
  ·have key:∀(l:List α) (xs:List Value) (i:Nat),PV.RepRow S (l.flatMap pv) xs→l[i]?=some a→PV.RepRow S ((l.set i a').flatMap pv) (xs.take (i * sz α+off)++us++xs.drop (i * sz α+off+us.length)):=by
    intro l
    induction l with
    | nil=>intro xs i _ hi;simp at hi
    | cons b l ih=>
     intro xs i hr hi
     rw [List.flatMap_cons] at hr
     have hsp:=PV.RepRow.split hr
     rw [Enc.len] at hsp
     have hl1:(xs.take (sz α)).length=sz α:=by
      have:=hsp.1.length
      rwa [Enc.len] at this
     cases i with
     | zero=>
      simp at hi;subst hi
      rw [List.set_cons_zero,List.flatMap_cons,Nat.zero_mul,Nat.zero_add]
      have e1:xs.take off++us++xs.drop (off+us.length)=((xs.take (sz α)).take off++us++(xs.take (sz α)).drop (off+us.length))++xs.drop (sz α):=by
       rw [List.take_take,Nat.min_eq_left (by omega),List.append_assoc,List.append_assoc,List.append_assoc]
       congr 2
       conv=>lhs;rw [←List.take_append_drop (sz α) xs]
       rw [List.drop_append_of_le_length (by rw [hl1];exact hoff)]
      rw [e1]
      exact PV.RepRow.append (hu _ hsp.1) hsp.2
     | succ i=>
      rw [List.set_cons_succ,List.flatMap_cons]
      have:=ih _ i hsp.2 (by simpa using hi)
      have e1:xs.take ((i+1) * sz α+off)++us++xs.drop ((i+1) * sz α+off+us.length)=xs.take (sz α)++((xs.drop (sz α)).take (i * sz α+off)++us++(xs.drop (sz α)).drop (i * sz α+off+us.length)):=by
       rw [show (i+1) * sz α+off=sz α+(i * sz α+off) by rw [Nat.add_mul,Nat.one_mul];omega,List.take_add,List.drop_drop,List.append_assoc,List.append_assoc,List.append_assoc,Nat.add_assoc (sz α)]
      rw [e1]
      exact PV.RepRow.append hsp.1 this
   have hk2:=key l xs i h2 hi
   refine ⟨h.off,xs.take (i * sz α+off)++us++xs.drop (i * sz α+off+us.length),⟨?_,.inr ⟨g,cap,z11 cur (i * sz α+off+0) us,by rw [List.length_set],PH.upd_same,by rw [List.length_set];exact h4,h5,by rw [z77 (by simp;omega)];exact h6,?_⟩⟩,hk2⟩
   ·rw [hk2.length,z2m]
   ·rw [List.length_set,Nat.add_zero,←h7]
    unfold z11
    simp only [List.toList_toArray]
    have e2:(cur.toList.take (i * sz α+off)).length=i * sz α+off:=by rw [List.length_take,Array.length_toList];omega
    have hle:i * sz α+off≤l.length * sz α:=by omega
    rw [List.take_append,List.take_append,List.drop_take,zla,e2,List.take_take,List.take_take,Nat.min_eq_right hle,Nat.min_eq_left hle,List.take_of_length_le (l:=us) (by omega)]
  ·exact ⟨fun k o hk hn=>by rw [PH.upd_other fun e=>hn (by rw [e];rfl)];exact hk,fun k hk=>.inl hk⟩
variable {X:List PanicEntry→PH→Prop} {β:Type} {E:List Value} {L:LK} {K:β→List Value→PH→LK→Prop} {I:List Itm}
theorem Z1o {p:SV} {ss:List SV} {f:Fm β} {i off:Nat} {a a':α} {us:List Value} (hp:pOf (ev0 E p)=(pOf (eltV v (i:Int) (sz α))).map (·.add off)) (h:Held S H (orow e l v::I)) (hi:l[i]?=some a) (hoff:off+us.length≤sz α) (hv:ss.map (ev0 E)=us) (h1:∀u∈us,oneC u=true)
  (hu:∀ces,CsR S a ces→CsR S a' (ces.take off++us++ces.drop (off+us.length)))
  (hk:∀H',Held S H' (orow e (l.set i a') v::I)→den P X f E H' L K):den P X (.store p ss f) E H L K:=by
 obtain ⟨ad,h2,h3⟩:=(h.row (zms)).putAt (P:=P) (Ψ:=fun _ _=>False) hi hoff h1 hu
 refine ⟨ad,hp.trans h2,?_⟩
 rw [hv]
 refine h3 fun H' hr hw=>hk H' (h.went hr ?_ hw)
 intro k o hk
 refine hw.keep k o (h.sh k o hk) fun hob=>?_
 have:=h.off _ (zms) k (show Vc.ob v=some k from hob.symm)
 rw [this] at hk;cases hk
end
def z21:List UInt8→List UInt8→Bool
 | [],[]=>true
 | a::az,b::bs=>decide (a.toNat=b.toNat) && z21 az bs
 | _,_=>false
theorem ze9:∀{a b:List UInt8},z21 a b=true→a=b
 | [],[],_=>rfl
 | a::az,b::bs,h=>by
  simp only [z21,zba,zdt] at h
  rw [UInt8.toNat_inj.1 h.1,ze9 h.2]
 | [],_::_,h=>by simp [z21] at h
 | _::_,[],h=>by simp [z21] at h
theorem zhu:∀a:List UInt8,z21 a a=true
 | []=>rfl
 | a::az=>by simp [z21,zhu az]
theorem zrz (a b:List UInt8):z21 a b=decide (a=b):=by
 by_cases h:a=b
 ·subst h;simp [zhu]
 ·cases hb:z21 a b with
  | false=>simp [h]
  | true=>exact absurd (ze9 hb) h
mutual
def PV.same:PV→PV→Bool
 | .int k n,.int k' n'=>decide (k=k') && decide (n=n')
 | .bool a,.bool b=>a == b
 | .str l,.str m=>z21 l m
 | .sl a,.sl b=>PV.sameRows a b
 | _,_=>false
def PV.sameRows:List (List PV)→List (List PV)→Bool
 | [],[]=>true
 | a::az,b::bs=>PV.sameRow a b && PV.sameRows az bs
 | _,_=>false
def PV.sameRow:List PV→List PV→Bool
 | [],[]=>true
 | a::az,b::bs=>PV.same a b && PV.sameRow az bs
 | _,_=>false
end
mutual
theorem PV.same_eq:∀{a b:PV},PV.same a b=true→a=b
 | .int _ _,.int _ _,h=>by simp only [PV.same,zba,zdt] at h;rw [h.1,h.2]
 | .bool _,.bool _,h=>by simp only [PV.same,beq_iff_eq] at h;rw [h]
 | .str _,.str _,h=>by simp only [PV.same] at h;rw [ze9 h]
 | .sl _,.sl _,h=>by simp only [PV.same] at h;rw [PV.sameRows_eq h]
 | .own _ _ _,b,h=>by cases b<;>simp [PV.same] at h
 | a,.own _ _ _,h=>by cases a<;>simp [PV.same] at h
 | .int _ _,.bool _,h | .int _ _,.str _,h | .int _ _,.sl _,h | .bool _,.int _ _,h | .bool _,.str _,h | .bool _,.sl _,h
 | .str _,.int _ _,h | .str _,.bool _,h | .str _,.sl _,h | .sl _,.int _ _,h | .sl _,.bool _,h | .sl _,.str _,h=>by simp [PV.same] at h
theorem PV.sameRows_eq:∀{a b:List (List PV)},PV.sameRows a b=true→a=b
 | [],[],_=>rfl
 | _::_,_::_,h=>by simp only [PV.sameRows,zba] at h;rw [PV.sameRow_eq h.1,PV.sameRows_eq h.2]
 | [],_::_,h | _::_,[],h=>by simp [PV.sameRows] at h
theorem PV.sameRow_eq:∀{a b:List PV},PV.sameRow a b=true→a=b
 | [],[],_=>rfl
 | _::_,_::_,h=>by simp only [PV.sameRow,zba] at h;rw [PV.same_eq h.1,PV.sameRow_eq h.2]
 | [],_::_,h | _::_,[],h=>by simp [PV.sameRow] at h
end
inductive AV where
 | pv (p:PV)
 | box (k:Nat)
def AV.same:AV→AV→Bool
 | .pv p,.pv q=>PV.same p q
 | .box k,.box l=>k == l
 | _,_=>false
theorem AV.same_eq {a b:AV} (h:AV.same a b=true):a=b:=by
 cases a<;>cases b<;>simp only [AV.same,beq_iff_eq] at h
 ·rw [PV.same_eq h]
 ·cases h
 ·cases h
 ·rw [h]
def zi7:List AV→List AV→Bool
 | [],[]=>true
 | a::az,b::bs=>AV.same a b && zi7 az bs
 | _,_=>false
theorem zoo:∀{a b:List AV},zi7 a b=true→a=b
 | [],[],_=>rfl
 | _::_,_::_,h=>by simp only [zi7,zba] at h;rw [AV.same_eq h.1,zoo h.2]
 | [],_::_,h | _::_,[],h=>by simp [zi7] at h
def inK (k:IntKind) (n:Int):Bool:=decide (k.min≤n) && decide (n≤k.max)
def pvOf (A:List AV):SV→Option PV
 | .atom i=>match A[i]? with
  | some (.pv p)=>some p
  | _=>none
 | .int k n=>if inK k n then some (.int k n) else none
 | .bool b=>some (.bool b)
 | .str l=>if l.length≤maxLen then some (.str l) else none
 | .nil c=>if c=1 then some (.sl []) else none
 | .cmp op a b=>match pvOf A a,pvOf A b with
  | some (.int _ x),some (.int _ y)=>some (.bool (cmpI op x y))
  | _,_=>none
 | .scmp op a b=>match pvOf A a,pvOf A b with
  | some (.str x),some (.str y)=>match op with
   | .eql=>some (.bool (z21 x y))
   | .neq=>some (.bool (!z21 x y))
   | _=>none
  | _,_=>none
 | .beq a b=>match pvOf A a,pvOf A b with
  | some (.bool x),some (.bool y)=>some (.bool (x == y))
  | _,_=>none
 | .not a=>match pvOf A a with
  | some (.bool x)=>some (.bool (!x))
  | _=>none
 | .pick c a b=>match pvOf A c with
  | some (.bool true)=>pvOf A a
  | some (.bool false)=>pvOf A b
  | _=>none
 | .len a=>match pvOf A a with
  | some (.sl rows)=>if rows.length≤maxLen then some (.int .i64 rows.length) else none
  | _=>none
 | .slen a=>match pvOf A a with
  | some (.str l)=>if l.length≤maxLen then some (.int .i64 l.length) else none
  | _=>none
 | .ar op k a b=>match pvOf A a,pvOf A b with
  | some (.int _ x),some (.int _ y)=>if inK k (arI op k x y) then some (.int k (arI op k x y)) else none
  | _,_=>none
 | .conv k a=>match pvOf A a with
  | some (.int _ x)=>if inK k (k.wrap x) then some (.int k (k.wrap x)) else none
  | _=>none
 | _=>none
def rowOf (A:List AV) (B:List (List PV)):SV→Option (List PV)
 | .atom i=>match A[i]? with
  | some (.box k)=>B[k]?
  | _=>none
 | .padd p n=>(rowOf A B p).map (·.drop n)
 | .elt s i z=>match pvOf A s,pvOf A i with
  | some (.sl rows),some (.int _ n)=>if 0≤n∧rows.all (fun r=>decide (r.length=z))=true then rows[n.toNat]? else none
  | _,_=>none
 | _=>none
def RelV (S:PH) (r:Nat→Nat):AV→Value→Prop
 | .pv p,v=>p.Rep S v
 | .box k,v=>v=.pointer (some ⟨r k,0,none⟩)
theorem RelV.le {S S':PH} (h:PH.le S S') {r:Nat→Nat} {a:AV} {v:Value} (hv:RelV S r a v):RelV S' r a v:=by
 cases a with
 | pv p=>exact PV.Rep.le h hv
 | box k=>exact hv
structure RelP (A:List AV) (B:List (List PV)) (E:List Value) (S H:PH) (r:Nat→Nat):Prop where
 len:A.length=E.length
 env:∀(i:Nat) (a:AV),A[i]?=some a→∃v:Value,E[i]?=some v∧RelV S r a v
 sh:PH.le S H
 bx:∀(k:Nat) (row:List PV),B[k]?=some row→∃cs T,H (r k)=some (.cells cs.toArray T (0,0))∧PV.RepRow S row cs∧S (r k)=none
 inj:∀i j:Nat,i < B.length→j < B.length→r i=r j→i=j
 out:∀i k:Nat,A[i]?=some (.box k)→k < B.length
section
variable {A:List AV} {B:List (List PV)} {E:List Value} {S H:PH} {r:Nat→Nat}
theorem RelP.get (h:RelP A B E S H r) {i:Nat} {a:AV} (ha:A[i]?=some a):RelV S r a (E.getD i (.bool false)):=by
 obtain ⟨v,h1,h2⟩:=h.env i a ha
 rw [zgd,h1];exact h2
theorem Z4i {k:IntKind} {n:Int} (h:inK k n=true):k.min≤n∧n≤k.max:=by
 simpa [inK] using h
theorem zdb {S:PH} {k:IntKind} {n:Int} (h:inK k n=true):PV.Rep S (.int k n) (.int k n):=by
 simp only [PV.Rep];exact ⟨trivial,Z4i h⟩
theorem Z0p {n:Nat} (h:n≤maxLen):inK .i64 (n:Int)=true:=by
 simp only [maxLen] at h
 simp only [inK,zba,zdt]
 constructor
 ·show (-9223372036854775808:Int)≤_;omega
 ·show _≤(9223372036854775807:Int);omega
theorem z1a (h:RelP A B E S H r):∀(s:SV) (p:PV),pvOf A s=some p→p.Rep S (ev0 E s):=by
 intro s
 induction s with
 | atom i=>
  intro p hp
  simp only [pvOf] at hp
  split at hp
  ·rename_i q hq
   cases hp
   exact h.get hq
  ·cases hp
 | int k n=>
  intro p hp
  simp only [pvOf] at hp
  split at hp
  ·rename_i hk;cases hp;exact zdb hk
  ·cases hp
 | bool b=>intro p hp;cases hp;simp only [PV.Rep];rfl
 | str l=>
  intro p hp
  simp only [pvOf] at hp
  split at hp
  ·rename_i hk;cases hp;simp only [PV.Rep];exact ⟨rfl,hk⟩
  ·cases hp
 | nil c=>
  intro p hp
  simp only [pvOf] at hp
  split at hp
  ·rename_i hk;subst hk;cases hp;simp only [PV.Rep];exact ⟨Nat.zero_le _,.inl ⟨rfl,trivial⟩⟩
  ·cases hp
 | cmp op a b iha ihb=>
  intro p hp
  simp only [pvOf] at hp
  split at hp
  ·rename_i k x k' y ha hb
   cases hp
   have h1:=iha _ ha
   have h2:=ihb _ hb
   simp only [PV.Rep] at h1 h2 ⊢
   show ev E _ (.cmp op a b)=_
   simp only [ev]
   rw [show ev E (fun _=>0) a=_ from h1.1,show ev E (fun _=>0) b=_ from h2.1];rfl
  ·cases hp
 | scmp op a b iha ihb=>
  intro p hp
  simp only [pvOf] at hp
  split at hp
  ·rename_i x y ha hb
   have h1:=iha _ ha
   have h2:=ihb _ hb
   simp only [PV.Rep] at h1 h2
   have e:ev0 E (.scmp op a b)=.bool (cmpS op ⟨x.toArray⟩ ⟨y.toArray⟩):=by
    show ev E _ (.scmp op a b)=_
    simp only [ev]
    rw [show ev E (fun _=>0) a=_ from h1.1,show ev E (fun _=>0) b=_ from h2.1];rfl
   have key:((⟨x.toArray⟩:ByteArray).toList == (⟨y.toArray⟩:ByteArray).toList)=z21 x y:=by
    rw [zrz]
    by_cases hxy:x=y
    ·simp [hxy]
    ·simp [hxy]
   split at hp
   ·cases hp
    simp only [PV.Rep]
    rw [e];simp only [cmpS,key]
   ·cases hp
    simp only [PV.Rep]
    rw [e];simp only [cmpS,key]
   ·cases hp
  ·cases hp
 | beq a b iha ihb=>
  intro p hp
  simp only [pvOf] at hp
  split at hp
  ·rename_i x y ha hb
   cases hp
   have h1:=iha _ ha
   have h2:=ihb _ hb
   simp only [PV.Rep] at h1 h2 ⊢
   show ev E _ (.beq a b)=_
   simp only [ev]
   rw [show ev E (fun _=>0) a=_ from h1,show ev E (fun _=>0) b=_ from h2];rfl
  ·cases hp
 | not a iha=>
  intro p hp
  simp only [pvOf] at hp
  split at hp
  ·rename_i x ha
   cases hp
   have h1:=iha _ ha
   simp only [PV.Rep] at h1 ⊢
   show ev E _ (.not a)=_
   simp only [ev]
   rw [show ev E (fun _=>0) a=_ from h1];rfl
  ·cases hp
 | pick c a b ihc iha ihb=>
  intro p hp
  simp only [pvOf] at hp
  split at hp
  ·rename_i hc
   have h1:=ihc _ hc
   simp only [PV.Rep] at h1
   have:ev0 E (.pick c a b)=ev0 E a:=by
    show ev E _ (.pick c a b)=_
    simp only [ev]
    rw [show ev E (fun _=>0) c=_ from h1];rfl
   rw [this];exact iha _ hp
  ·rename_i hc
   have h1:=ihc _ hc
   simp only [PV.Rep] at h1
   have:ev0 E (.pick c a b)=ev0 E b:=by
    show ev E _ (.pick c a b)=_
    simp only [ev]
    rw [show ev E (fun _=>0) c=_ from h1];rfl
   rw [this];exact ihb _ hp
  ·cases hp
 | len a iha=>
  intro p hp
  simp only [pvOf] at hp
  split at hp
  ·rename_i rows ha
   split at hp
   ·rename_i hl
    cases hp
    have h1:=iha _ ha
    simp only [PV.Rep] at h1
    have e:slLen (ev0 E a)=rows.length:=by
     rcases h1.2 with ⟨e,e2⟩ | ⟨ad,c,e,_⟩
     ·rw [e,e2];rfl
     ·rw [e];rfl
    have e':ev0 E (.len a)=.int .i64 rows.length:=by
     show ev E _ (.len a)=_
     simp only [ev]
     rw [show slLen (ev E (fun _=>0) a)=_ from e]
    rw [e'];exact zdb (Z0p hl)
   ·cases hp
  ·cases hp
 | slen a iha=>
  intro p hp
  simp only [pvOf] at hp
  split at hp
  ·rename_i l ha
   split at hp
   ·rename_i hl
    cases hp
    have h1:=iha _ ha
    simp only [PV.Rep] at h1
    have e':ev0 E (.slen a)=.int .i64 l.length:=by
     show ev E _ (.slen a)=_
     simp only [ev]
     rw [show ev E (fun _=>0) a=_ from h1.1,show sOf (txt l)=⟨l.toArray⟩ from rfl,z0t]
    rw [e'];exact zdb (Z0p hl)
   ·cases hp
  ·cases hp
 | ar op k a b iha ihb=>
  intro p hp
  simp only [pvOf] at hp
  split at hp
  ·rename_i k1 x k2 y ha hb
   split at hp
   ·rename_i hk
    cases hp
    have h1:=iha _ ha
    have h2:=ihb _ hb
    simp only [PV.Rep] at h1 h2
    have e':ev0 E (.ar op k a b)=.int k (arI op k x y):=by
     show ev E _ (.ar op k a b)=_
     simp only [ev]
     rw [show ev E (fun _=>0) a=_ from h1.1,show ev E (fun _=>0) b=_ from h2.1];rfl
    rw [e'];exact zdb hk
   ·cases hp
  ·cases hp
 | conv k a iha=>
  intro p hp
  simp only [pvOf] at hp
  split at hp
  ·rename_i k1 x ha
   split at hp
   ·rename_i hk
    cases hp
    have h1:=iha _ ha
    simp only [PV.Rep] at h1
    have e':ev0 E (.conv k a)=.int k (k.wrap x):=by
     show ev E _ (.conv k a)=_
     simp only [ev]
     rw [show ev E (fun _=>0) a=_ from h1.1];rfl
    rw [e'];exact zdb hk
   ·cases hp
  ·cases hp
 | fn | glob | box | isnil | com | cap | padd | elt | sidx | ssub | cat | sls=>intro p hp;simp [pvOf] at hp
theorem zvp {S:PH} {row:List PV} {cs:List Value} (h:PV.RepRow S row cs) (n:Nat):PV.RepRow S (row.take n) (cs.take n):=by
 induction row generalizing cs n with
 | nil=>simp only [PV.RepRow] at h;subst h;simp [PV.RepRow]
 | cons p ps ih=>
  simp only [PV.RepRow] at h
  obtain ⟨v,vs,rfl,h1,h2⟩:=h
  cases n with
  | zero=>simp [PV.RepRow]
  | succ n=>
   simp only [List.take_succ_cons,PV.RepRow]
   exact ⟨v,vs.take n,rfl,h1,ih h2 n⟩
theorem zwa {S:PH} {row:List PV} {cs:List Value} (h:PV.RepRow S row cs) (n:Nat):PV.RepRow S (row.drop n) (cs.drop n):=by
 induction row generalizing cs n with
 | nil=>simp only [PV.RepRow] at h;subst h;simp [PV.RepRow]
 | cons p ps ih=>
  cases n with
  | zero=>exact h
  | succ n=>
   simp only [PV.RepRow] at h
   obtain ⟨v,vs,rfl,h1,h2⟩:=h
   exact ih h2 n
theorem zml {S:PH} {z:Nat}:∀{rows:List (List PV)} {p:Addr} {i:Nat} {row:List PV},rows.all (fun r=>decide (r.length=z))=true→PV.RepRows S rows p→rows[i]?=some row→∃cs,PV.RepRow S row cs∧∀j v,cs[j]?=some v→S.cell? ((p.add (i * z)).add j)=some v
 | [],_,_,_,_,_,h=>by simp at h
 | d::l,p,0,e,_,hd,h=>by
  simp only [PV.RepRows] at hd
  simp only [List.getElem?_cons_zero,Option.some.injEq] at h
  subst h
  obtain ⟨cs,h1,h2⟩:=hd.1
  exact ⟨cs,h1,by simpa [Addr.add_zero] using h2⟩
 | d::l,p,i+1,e,hz,hd,h=>by
  simp only [PV.RepRows] at hd
  simp only [List.getElem?_cons_succ] at h
  simp only [List.all_cons,zba,zdt] at hz
  obtain ⟨cs,h1,h2⟩:=zml hz.2 hd.2 h
  refine ⟨cs,h1,fun j v hj=>?_⟩
  have:=h2 j v hj
  rw [hz.1,Addr.add_add p] at this
  rwa [show z+i * z=(i+1) * z by rw [Nat.add_mul];omega] at this
theorem zmu (h:RelP A B E S H r):∀(s:SV) (row:List PV),rowOf A B s=some row→∃cs,PV.RepRow S row cs∧(row=[]∨rowAt H (pOf (ev0 E s)) cs):=by
 intro s
 induction s with
 | atom i=>
  intro row hp
  simp only [rowOf] at hp
  split at hp
  ·rename_i k hq
   obtain ⟨cs,T,h1,h2,h3⟩:=h.bx k row hp
   refine ⟨cs,h2,.inr ⟨⟨r k,0,none⟩,?_,fun j v hj=>?_⟩⟩
   ·have:=h.get hq
    simp only [RelV] at this
    show pOf (E.getD i (.bool false))=_
    rw [this];rfl
   ·rw [Addr.add_plain,PH.cell_at h1,Nat.zero_add];simpa using hj
  ·cases hp
 | padd p n ih=>
  intro row hp
  simp only [rowOf,Option.map_eq_some_iff] at hp
  obtain ⟨row',h1,rfl⟩:=hp
  obtain ⟨cs,h2,h3⟩:=ih row' h1
  refine ⟨cs.drop n,zwa h2 n,?_⟩
  rcases h3 with rfl | h3
  ·left;simp
  ·right
   have h4:=z2o h3 n cs.length
   rw [List.take_of_length_le (by simp)] at h4
   exact h4
 | elt s i z ihs ihi=>
  intro row hp
  simp only [rowOf] at hp
  split at hp
  ·rename_i rows k n hs hi
   split at hp
   ·rename_i hc
    have h1:=z1a h s _ hs
    have h2:=z1a h i _ hi
    simp only [PV.Rep] at h1 h2
    rcases h1.2 with ⟨_,e2⟩ | ⟨ad,c,e,_,_,h5⟩
    ·rw [e2] at hp;simp at hp
    ·obtain ⟨cs,h6,h7⟩:=zml hc.2 h5 hp
     refine ⟨cs,h6,.inr ⟨ad.add (n.toNat * z),?_,fun j v hj=>PH.cell_le h.sh (h7 j v hj)⟩⟩
     show pOf (ev E _ (.elt s i z))=_
     simp only [ev]
     rw [show ev E (fun _=>0) s=_ from e,show ev E (fun _=>0) i=_ from h2.1]
     rfl
   ·cases hp
  ·cases hp
 | int | bool | str | nil | fn | glob | box | ar | cmp | scmp | beq | isnil | pick | not | com | conv | len | cap | slen | sidx | ssub | cat | sls=>intro p hp;simp [rowOf] at hp
end
inductive Sh where
 | sc
 | ag
 | tu (l:List (Bool×Nat))
 deriving DecidableEq
def zlx:List (Bool×Nat)→List Value→List Value
 | [],_=>[]
 | (b,n)::l,vs=>(if b then .agg (vs.take n).toArray else vs.headD (.pointer none))::zlx l (vs.drop n)
def Sh.pack:Sh→List Value→Value
 | .sc,vs=>vs.headD (.bool false)
 | .ag,vs=>.agg vs.toArray
 | .tu l,vs=>.tuple (zlx l vs).toArray
def shOf:RS→Sh
 | .sc _=>.sc
 | .ag _=>.ag
 | .tu l=>.tu (l.map fun x=>(x.1,x.2.length))
theorem zrp:∀(l:List (Bool×List Tag)) (vs:List Value),zif l vs=zlx (l.map fun x=>(x.1,x.2.length)) vs
 | [],_=>rfl
 | (b,ts)::l,vs=>by simp only [zif,List.map_cons,zlx,zrp l]
theorem Z3z (rs:RS) (vs:List Value):rs.pack vs=(shOf rs).pack vs:=by
 cases rs with
 | sc t=>rfl
 | ag ts=>rfl
 | tu l=>simp only [RS.pack,shOf,Sh.pack,zrp]
structure CK where
 f:FuncId
 args:List (Bool×List PV)
 sh:Sh
 out:List PV
def ArgR (S:PH) (x:Bool×List PV) (v:Value):Prop:=∃cs,PV.RepRow S x.2 cs∧if x.1=true then v=.agg cs.toArray else cs=[v]
def CK.Ok (P:Program) (S0:PH) (c:CK):Prop:=
 callB P c.f=true∧∀(S:PH) (vs:List Value),PH.le S0 S→All2 (ArgR S) c.args vs→Tri P c.f vs.toArray S fun e S'=>∃us,e=.returned (c.sh.pack us)∧PV.RepRow S' c.out us∧PH.le S S'
def TabOk (P:Program) (S0:PH) (tab:List CK):Prop:=∀c∈tab,c.Ok P S0
def zdr:List (Bool×List PV)→List (Bool×List PV)→Bool
 | [],[]=>true
 | a::az,b::bs=>(a.1 == b.1) && PV.sameRow a.2 b.2 && zdr az bs
 | _,_=>false
theorem zn6:∀{a b:List (Bool×List PV)},zdr a b=true→a=b
 | [],[],_=>rfl
 | (a1,a2)::az,(b1,b2)::bs,h=>by
  simp only [zdr,zba,beq_iff_eq] at h
  rw [h.1.1,PV.sameRow_eq h.1.2,zn6 h.2]
 | [],_::_,h | _::_,[],h=>by simp [zdr] at h
def ztd (tab:List CK) (f:FuncId) (args:List (Bool×List PV)):Option CK:=tab.find? fun c=>c.f == f && zdr c.args args
theorem zve {tab:List CK} {f:FuncId} {args:List (Bool×List PV)} {c:CK} (h:ztd tab f args=some c):c∈tab∧c.f=f∧c.args=args:=by
 unfold ztd at h
 have h1:=List.mem_of_find?_eq_some h
 have h2:=List.find?_some h
 simp only [zba,beq_iff_eq] at h2
 exact ⟨h1,h2.1,zn6 h2.2⟩
def z54 (A:List AV):List SV→Option (List PV)
 | []=>some []
 | s::ss=>match pvOf A s,z54 A ss with
  | some p,some ps=>some (p::ps)
  | _,_=>none
def argA (A:List AV):VE→Option (Bool×List PV)
 | .sc s=>(pvOf A s).map fun p=>(false,[p])
 | .ag cs=>(z54 A cs).map fun ps=>(true,ps)
 | _=>none
def argsA (A:List AV):List VE→Option (List (Bool×List PV))
 | []=>some []
 | x::xs=>match argA A x,argsA A xs with
  | some p,some ps=>some (p::ps)
  | _,_=>none
def z5k:List PV→List Tag→Bool
 | [],[]=>true
 | p::ps,t::ts=>decide (p.tag=t) && z5k ps ts
 | _,_=>false
def avOf (A:List AV):SV→Option AV
 | .atom i=>A[i]?
 | s=>(pvOf A s).map .pv
def avsOf (A:List AV):List SV→Option (List AV)
 | []=>some []
 | s::ss=>match avOf A s,avsOf A ss with
  | some p,some ps=>some (p::ps)
  | _,_=>none
def zz6:VE→Option (List SV)
 | .sc s=>some [s]
 | .ag cs=>some cs
 | .tu l=>some (l.flatMap (·.2))
 | .junk=>none
def zky (A:List AV):Guard→Option Bool
 | []=>some true
 | (s,b)::g=>match pvOf A s with
  | some (.bool x)=>if x=b then zky A g else some false
  | _=>none
def chkA (A:List AV) (B:List (List PV)):Chk→Bool
 | .inSl s i=>match pvOf A s,pvOf A i with
  | some (.sl rows),some (.int _ n)=>decide (0≤n) && decide (n < rows.length)
  | _,_=>false
 | .inStr s i=>match pvOf A s,pvOf A i with
  | some (.str l),some (.int _ n)=>decide (0≤n) && decide (n < l.length)
  | _,_=>false
 | .nz a=>match pvOf A a with
  | some (.int _ n)=>decide (n≠0)
  | _=>false
 | .nneg a=>match pvOf A a with
  | some (.int _ n)=>decide (0≤n)
  | _=>false
 | .some (.atom i)=>match A[i]? with
  | some (.box _)=>true
  | _=>false
 | .some (.elt s i z)=>match rowOf A B (.elt s i z) with
  | some (_::_)=>true
  | _=>false
 | _=>false
def callA (tab:List CK) (A:List AV) (f:SV) (args:List VE) (rs:RS) (pend:List (SV×List SV)):Option (List PV):=
 match f,pend,argsA A args with
 | .fn g,[],some az=>match ztd tab g az with
  | some c=>if c.sh=shOf rs∧z5k c.out rs.tags=true then some c.out else none
  | none=>none
 | _,_,_=>none
def loadA (A:List AV) (B:List (List PV)) (p:SV) (tags:List Tag):Option (List PV):=
 match rowOf A B p with
 | some row=>if z5k (row.take tags.length) tags=true∧tags≠[] then some (row.take tags.length) else none
 | none=>none
def Z1e (A:List AV) (B:List (List PV)) (p:SV) (cs:List SV):Option (List (List PV)):=
 match p with
 | .atom i=>match A[i]?,z54 A cs with
  | some (.box k),some ps=>match B[k]? with
   | some old=>if ps.length=old.length then some (B.set k ps) else none
   | none=>none
  | _,_=>none
 | _=>none
def opRow (A:List AV) (args:List (Nat×VE)):Operand→Option (List PV)
 | .tmp t=>match args.lookup t with
  | some (.sc s)=>(pvOf A s).map fun p=>[p]
  | some (.ag cs)=>z54 A cs
  | _=>none
 | .const (.int k n)=>if inK k n then some [.int k n] else none
 | .const (.string s)=>if s.data.toList.length≤maxLen then some [.str s.data.toList] else none
 | .const (.bool b)=>some [.bool b]
 | .const (.agg cs)=>match zhc (.agg cs) with
  | some (.ag ss)=>z54 [] ss
  | _=>none
 | _=>none
def rowsA (A:List AV) (args:List (Nat×VE)):Nat→List (Nat×Operand)→Option (List (List PV))
 | _,[]=>some []
 | k,(i,x)::l=>if i=k then (match opRow A args x,rowsA A args (k+1) l with
  | some r,some rs=>some (r::rs)
  | _,_=>none) else none
def elemB (P:Program) (e:TypeId) (m:Nat):Bool:=match P.info? e with
 | some i=>ElemOk P e m i.bytes
 | none=>false
def litA (P:Program) (A:List AV) (T:TypeId) (n:Nat) (ps:Array (Nat×Operand)) (args:List (Nat×VE)):Option PV:=
 match P.underlying T,rowsA A args 0 ps.toList with
 | some (.slice e),some (r::rows)=>
  let m:=r.length
  if (r::rows).length=n∧n * m≠0∧n * m≤2 ^ 24∧elemB P e m=true∧(r::rows).all (fun r=>decide (r.length=m))=true then some (.sl (r::rows)) else none
 | _,_=>none
def semA (P:Program) (A:List AV) (o:Op) (args:List (Nat×VE)) (rs:RS) (pend:List (SV×List SV)):Option PV:=
 match o,rs,pend with
 | .buildSlice T n ps,.sc .sl,[]=>litA P A T n ps args
 | _,_,_=>none
def zuh:VE→Nat
 | .sc _=>0
 | .ag _=>1
 | .tu _=>2
 | .junk=>3
inductive Out where
 | ret (kind:Nat) (vs:List AV)
 | next (id:Nat) (vs:List AV) (B:List (List PV))
def sift (id:Nat):List Out→Option (List Out×Option (List AV×List (List PV)))
 | []=>some ([],none)
 | .ret q vs::l=>(sift id l).map fun x=>(.ret q vs::x.1,x.2)
 | .next j vs B::l=>match sift id l with
  | some (os,x)=>if j=id then (match x with
    | none=>some (os,some (vs,B))
    | some (ws,C)=>if zi7 vs ws && PV.sameRows B C then some (os,some (ws,C)) else none)
   else some (.next j vs B::os,x)
  | none=>none
def run (P:Program) (tab:List CK):Fm VE→List AV→List (List PV)→Option (List Out)
 | .leaf x,A,_=>match zz6 x with
  | some ss=>(avsOf A ss).map fun vs=>[.ret (zuh x) vs]
  | none=>none
 | .fail _,_,_=>none
 | .ite c a b,A,B=>match pvOf A c with
  | some (.bool x)=>if x=true then run P tab a A B else run P tab b A B
  | _=>none
 | .chk g c k,A,B=>match zky A g with
  | some x=>if x=true then (if chkA A B c=true then run P tab k A B else none) else run P tab k A B
  | none=>none
 | .call f args rs pend k,A,B=>match callA tab A f args rs pend with
  | some out=>run P tab k (A++out.map .pv) B
  | none=>none
 | .load p tags k,A,B=>match loadA A B p tags with
  | some row=>run P tab k (A++row.map .pv) B
  | none=>none
 | .store p cs k,A,B=>match Z1e A B p cs with
  | some B'=>run P tab k A B'
  | none=>none
 | .new _ cs k,A,B=>match z54 A cs with
  | some ps=>run P tab k (A++[.box B.length]) (B++[ps])
  | none=>none
 | .sem o _ args rs pend k,A,B=>match semA P A o args rs pend with
  | some p=>run P tab k (A++[.pv p]) B
  | none=>none
 | .alt ..,_,_=>none
 | .loop ..,_,_=>none
 | .far ..,_,_=>none
 | .join id _ rest main,A,B=>match run P tab main A B with
  | some outs=>match sift id outs with
   | some (os,some (vs,B'))=>(run P tab rest (A++vs) B').map fun l=>os++l
   | some (os,none)=>some os
   | none=>none
  | none=>none
 | .next id vs,A,B=>(avsOf A vs).map fun a=>[.next id a B]
 | .both a b,A,B=>match run P tab a A B,run P tab b A B with
  | some x,some y=>some (x++y)
  | _,_=>none
 | .hold pend k,A,B=>if pend.isEmpty=true then run P tab k A B else none
section
variable {P:Program} {A:List AV} {B:List (List PV)} {E:List Value} {S H:PH} {r:Nat→Nat}
theorem ze0 {S:PH}:∀{ps:List PV} {ts:List Tag} {vs:List Value},z5k ps ts=true→PV.RepRow S ps vs→z0c ts vs=true
 | [],[],vs,_,h=>by simp only [PV.RepRow] at h;subst h;rfl
 | p::ps,t::ts,vs,hm,h=>by
  simp only [z5k,zba,zdt] at hm
  simp only [PV.RepRow] at h
  obtain ⟨v,us,rfl,h1,h2⟩:=h
  simp only [z0c,zba]
  exact ⟨by rw [←hm.1];exact h1.tag,ze0 hm.2 h2⟩
 | [],_::_,_,hm,_ | _::_,[],_,hm,_=>by simp [z5k] at hm
theorem z5p (h:RelP A B E S H r):∀{ss:List SV} {ps:List PV},z54 A ss=some ps→PV.RepRow S ps (ss.map (ev0 E))
 | [],ps,hp=>by simp only [z54,Option.some.injEq] at hp;subst hp;simp [PV.RepRow]
 | s::ss,ps,hp=>by
  simp only [z54] at hp
  split at hp
  ·rename_i p qs h1 h2
   cases hp
   simp only [List.map_cons,PV.RepRow]
   exact ⟨_,_,rfl,z1a h s p h1,z5p h h2⟩
  ·cases hp
theorem zyi (h:RelP A B E S H r) {x:VE} {p:Bool×List PV} (hp:argA A x=some p):ArgR S p (evV E (fun _=>0) x):=by
 cases x with
 | junk=>cases hp
 | tu l=>cases hp
 | sc s=>
  simp only [argA,Option.map_eq_some_iff] at hp
  obtain ⟨q,h1,rfl⟩:=hp
  refine ⟨[ev0 E s],?_,rfl⟩
  simp only [PV.RepRow]
  exact ⟨_,_,rfl,z1a h s q h1,rfl⟩
 | ag cs=>
  simp only [argA,Option.map_eq_some_iff] at hp
  obtain ⟨qs,h1,rfl⟩:=hp
  exact ⟨_,z5p h h1,rfl⟩
theorem znk (h:RelP A B E S H r):∀{xs:List VE} {ps:List (Bool×List PV)},argsA A xs=some ps→All2 (ArgR S) ps (xs.map (evV E fun _=>0))
 | [],ps,hp=>by simp only [argsA,Option.some.injEq] at hp;subst hp;exact .nil
 | x::xs,ps,hp=>by
  simp only [argsA] at hp
  split at hp
  ·rename_i p qs h1 h2
   cases hp
   exact .cons (zyi h h1) (znk h h2)
  ·cases hp
theorem RelP.le {S' H':PH} (h:RelP A B E S H r) (x:Ext S H S' H'):RelP A B E S' H' r where
 len:=h.len
 env:=fun i a ha=>by obtain ⟨v,h1,h2⟩:=h.env i a ha;exact ⟨v,h1,h2.le x.s⟩
 sh:=x.i
 bx:=fun k row hk=>by
  obtain ⟨cs,T,h1,h2,h3⟩:=h.bx k row hk
  refine ⟨cs,T,x.h _ _ h1,PV.RepRow.le x.s h2,?_⟩
  cases hs:S' (r k) with
  | none=>rfl
  | some o=>exact absurd (x.n _ h3 (by rw [hs];exact fun e=>by cases e)) (by rw [h1];exact fun e=>by cases e)
 inj:=h.inj
 out:=h.out
theorem RelP.more (h:RelP A B E S H r) {ps:List PV} {us:List Value} (hr:PV.RepRow S ps us):RelP (A++ps.map .pv) B (E++us) S H r where
 len:=by rw [zla,zla,h.len,List.length_map,hr.length]
 env:=fun i a ha=>by
  by_cases hi:i < A.length
  ·rw [List.getElem?_append_left hi] at ha
   obtain ⟨v,h1,h2⟩:=h.env i a ha
   exact ⟨v,by rw [List.getElem?_append_left (by rw [←h.len];exact hi)];exact h1,h2⟩
  ·rw [List.getElem?_append_right (by omega),List.getElem?_map,Option.map_eq_some_iff] at ha
   obtain ⟨p,h1,rfl⟩:=ha
   have key:∀(ps:List PV) (us:List Value) (j:Nat) (p:PV),PV.RepRow S ps us→ps[j]?=some p→∃v,us[j]?=some v∧p.Rep S v:=by
    intro ps
    induction ps with
    | nil=>intro us j p _ hj;simp at hj
    | cons q qs ih=>
     intro us j p hr hj
     simp only [PV.RepRow] at hr
     obtain ⟨v,vs,rfl,h3,h4⟩:=hr
     cases j with
     | zero=>simp at hj;subst hj;exact ⟨v,rfl,h3⟩
     | succ j=>exact ih vs j p h4 (by simpa using hj)
   obtain ⟨v,h2,h3⟩:=key ps us _ p hr h1
   exact ⟨v,by rw [List.getElem?_append_right (by rw [←h.len];omega),←h.len];exact h2,h3⟩
 sh:=h.sh
 bx:=h.bx
 inj:=h.inj
 out:=fun i k ha=>by
  by_cases hi:i < A.length
  ·rw [List.getElem?_append_left hi] at ha;exact h.out i k ha
  ·rw [List.getElem?_append_right (by omega),List.getElem?_map,Option.map_eq_some_iff] at ha
   obtain ⟨p,h1,h2⟩:=ha
   cases h2
theorem RelP.less {X:List AV} {Y:List Value} (h:RelP (A++X) B (E++Y) S H r) (hl:A.length=E.length):RelP A B E S H r where
 len:=hl
 env:=fun i a ha=>by
  have hi:i < A.length:=by
   rcases Nat.lt_or_ge i A.length with h | h
   ·exact h
   ·rw [List.getElem?_eq_none h] at ha;cases ha
  obtain ⟨v,h1,h2⟩:=h.env i a (by rw [List.getElem?_append_left hi];exact ha)
  rw [List.getElem?_append_left (by rw [←hl];exact hi)] at h1
  exact ⟨v,h1,h2⟩
 sh:=h.sh
 bx:=h.bx
 inj:=h.inj
 out:=fun i k ha=>by
  have hi:i < A.length:=by
   rcases Nat.lt_or_ge i A.length with h | h
   ·exact h
   ·rw [List.getElem?_eq_none h] at ha;cases ha
  exact h.out i k (by rw [List.getElem?_append_left hi];exact ha)
theorem RelP.skip {X Z:List AV} {Y W:List Value} (h:RelP (A++X++Z) B (E++Y++W) S H r) (hl:A.length=E.length) (hx:X.length=Y.length):RelP (A++Z) B (E++W) S H r:=by
 have hlen:=h.len
 simp only [zla] at hlen
 have hback:∀(i:Nat) (a:AV),(A++Z)[i]?=some a→∃j:Nat,(A++X++Z)[j]?=some a∧(E++Y++W)[j]?=(E++W)[i]?:=by
  intro i a ha
  by_cases hi:i < A.length
  ·refine ⟨i,?_,?_⟩
   ·rw [List.getElem?_append_left hi] at ha
    rw [List.getElem?_append_left (by rw [zla];omega),List.getElem?_append_left hi];exact ha
   ·rw [List.getElem?_append_left (by rw [zla];omega),List.getElem?_append_left (by omega),List.getElem?_append_left (by omega)]
  ·refine ⟨i+X.length,?_,?_⟩
   ·rw [List.getElem?_append_right (by omega)] at ha
    rw [List.getElem?_append_right (by rw [zla];omega),zla,show i+X.length - (A.length+X.length)=i - A.length by omega];exact ha
   ·rw [List.getElem?_append_right (by rw [zla];omega),List.getElem?_append_right (by omega),zla]
    congr 1;omega
 exact {
     len:=by simp only [zla];omega
     env:=fun i a ha=>by
      obtain ⟨j,h1,h2⟩:=hback i a ha
      obtain ⟨v,h3,h4⟩:=h.env j a h1
      exact ⟨v,by rw [←h2];exact h3,h4⟩
     sh:=h.sh,bx:=h.bx,inj:=h.inj
     out:=fun i k ha=>by
      obtain ⟨j,h1,_⟩:=hback i _ ha
      exact h.out j k h1 }
def ValsR (S:PH) (r:Nat→Nat) (vs:List AV) (us:List Value):Prop:=vs.length=us.length∧∀(i:Nat) (a:AV),vs[i]?=some a→∃v:Value,us[i]?=some v∧RelV S r a v
theorem zxf (h:RelP A B E S H r) {s:SV} {a:AV} (ha:avOf A s=some a):RelV S r a (ev0 E s)∧(∀k,a=.box k→k < B.length):=by
 have key:∀s:SV,(pvOf A s).map AV.pv=some a→RelV S r a (ev0 E s)∧(∀k,a=.box k→k < B.length):=by
  intro s hs
  obtain ⟨p,h1,rfl⟩:=Option.map_eq_some_iff.1 hs
  exact ⟨z1a h s p h1,fun k hk=>by cases hk⟩
 cases s with
 | atom i=>
  simp only [avOf] at ha
  exact ⟨h.get ha,fun k hk=>h.out i k (by rw [ha,hk])⟩
 | _=>exact key _ ha
theorem zgr (h:RelP A B E S H r):∀{ss:List SV} {vs:List AV},avsOf A ss=some vs→ValsR S r vs (ss.map (ev0 E))∧∀i k:Nat,vs[i]?=some (.box k)→k < B.length
 | [],vs,hv=>by
  simp only [avsOf,Option.some.injEq] at hv
  subst hv
  exact ⟨⟨rfl,fun i a ha=>by simp at ha⟩,fun i k ha=>by simp at ha⟩
 | s::ss,vs,hv=>by
  simp only [avsOf] at hv
  split at hv
  ·rename_i p qs h1 h2
   cases hv
   obtain ⟨h3,h4⟩:=zgr h h2
   have h5:=zxf h h1
   refine ⟨⟨by simp [h3.1],fun i a ha=>?_⟩,fun i k ha=>?_⟩
   ·cases i with
    | zero=>simp at ha;subst ha;exact ⟨_,rfl,h5.1⟩
    | succ i=>obtain ⟨v,h6,h7⟩:=h3.2 i a (by simpa using ha);exact ⟨v,by simpa using h6,h7⟩
   ·cases i with
    | zero=>simp at ha;exact h5.2 k ha
    | succ i=>exact h4 i k (by simpa using ha)
  ·cases hv
theorem RelP.vals (h:RelP A B E S H r) {vs:List AV} {us:List Value} (hv:ValsR S r vs us) (hb:∀i k:Nat,vs[i]?=some (.box k)→k < B.length):RelP (A++vs) B (E++us) S H r where
 len:=by rw [zla,zla,h.len,hv.1]
 env:=fun i a ha=>by
  by_cases hi:i < A.length
  ·rw [List.getElem?_append_left hi] at ha
   obtain ⟨v,h1,h2⟩:=h.env i a ha
   exact ⟨v,by rw [List.getElem?_append_left (by rw [←h.len];exact hi)];exact h1,h2⟩
  ·rw [List.getElem?_append_right (by omega)] at ha
   obtain ⟨v,h2,h3⟩:=hv.2 _ a ha
   exact ⟨v,by rw [List.getElem?_append_right (by rw [←h.len];omega),←h.len];exact h2,h3⟩
 sh:=h.sh
 bx:=h.bx
 inj:=h.inj
 out:=fun i k ha=>by
  by_cases hi:i < A.length
  ·rw [List.getElem?_append_left hi] at ha;exact h.out i k ha
  ·rw [List.getElem?_append_right (by omega)] at ha;exact hb _ k ha
theorem zkm (h:RelP A B E S H r):∀{g:Guard} {x:Bool},zky A g=some x→x=false→¬Guard.holds E (fun _=>0) g
 | [],x,hx,hf=>by simp only [zky,Option.some.injEq] at hx;subst hx;cases hf
 | (s,b)::g,x,hx,hf=>by
  simp only [zky] at hx
  split at hx
  ·rename_i y hy
   have h1:=z1a h s _ hy
   simp only [PV.Rep] at h1
   split at hx
   ·intro hg
    exact zkm h hx hf fun z hz=>hg z (zmm _ hz)
   ·rename_i hne
    intro hg
    have:=hg (s,b) (zms)
    simp only at this
    rw [show ev E (fun _=>0) s=_ from h1] at this
    exact hne this
  ·cases hx
theorem zyn (h:RelP A B E S H r) {c:Chk} (hc:chkA A B c=true):c.holds E:=by
 cases c with
 | inSl s i=>
  simp only [chkA] at hc
  split at hc
  ·rename_i rows k n hs hi
   simp only [zba,zdt] at hc
   have h1:=z1a h s _ hs
   have h2:=z1a h i _ hi
   simp only [PV.Rep] at h1 h2
   rcases h1.2 with ⟨_,e2⟩ | ⟨ad,cc,e,_⟩
   ·subst e2;simp at hc;omega
   ·simp only [Chk.holds]
    rw [e,h2.1]
    exact ⟨rfl,hc.1,hc.2⟩
  ·cases hc
 | inStr s i=>
  simp only [chkA] at hc
  split at hc
  ·rename_i l k n hs hi
   simp only [zba,zdt] at hc
   have h1:=z1a h s _ hs
   have h2:=z1a h i _ hi
   simp only [PV.Rep] at h1 h2
   simp only [Chk.holds]
   rw [h1.1,h2.1]
   refine ⟨hc.1,?_⟩
   show n < ((⟨l.toArray⟩:ByteArray).size:Int)
   rw [z0t];exact hc.2
  ·cases hc
 | sub n lo hi=>simp [chkA] at hc
 | nz a=>
  simp only [chkA] at hc
  split at hc
  ·rename_i k n hs
   have h1:=z1a h a _ hs
   simp only [PV.Rep] at h1
   simp only [Chk.holds]
   rw [h1.1]
   exact of_decide_eq_true hc
  ·cases hc
 | nneg a=>
  simp only [chkA] at hc
  split at hc
  ·rename_i k n hs
   have h1:=z1a h a _ hs
   simp only [PV.Rep] at h1
   simp only [Chk.holds]
   rw [h1.1]
   exact of_decide_eq_true hc
  ·cases hc
 | some p=>
  cases p with
  | atom i=>
   simp only [chkA] at hc
   split at hc
   ·rename_i k hk
    have:=h.get hk
    simp only [RelV] at this
    simp only [Chk.holds]
    show (pOf (E.getD i (.bool false))).isSome=true
    rw [this];rfl
   ·cases hc
  | elt s i z=>
   simp only [chkA] at hc
   split at hc
   ·rename_i p row hr
    obtain ⟨cs,h1,h2⟩:=zmu h _ _ hr
    rcases h2 with h2 | ⟨ad,h2,_⟩
    ·cases h2
    ·simp only [Chk.holds]
     rw [h2];rfl
   ·cases hc
  | _=>simp [chkA] at hc
 | catOk a b=>simp [chkA] at hc
structure RowP (m:Nat) where
 row:List PV
 h:row.length=m
instance encRowP (m:Nat):Enc (RowP m):=⟨(·.row),m,(·.h)⟩
def zhf (m:Nat):(rows:List (List PV))→rows.all (fun r=>decide (r.length=m))=true→List (RowP m)
 | [],_=>[]
 | r::rs,h=>⟨r,by simp only [List.all_cons,zba,zdt] at h;exact h.1⟩::zhf m rs (by simp only [List.all_cons,zba] at h;exact h.2)
theorem zlf (m:Nat):∀(rows:List (List PV)) (h:rows.all (fun r=>decide (r.length=m))=true),(zhf m rows h).map pv=rows
 | [],_=>rfl
 | r::rs,h=>by simp only [zhf,List.map_cons,zlf m rs];rfl
theorem zys (m:Nat) (rows:List (List PV)) (h:rows.all (fun r=>decide (r.length=m))=true):(zhf m rows h).length=rows.length:=by
 rw [←List.length_map (f:=pv),zlf]
theorem zzf {v:Value} (h:oneC v=true):v.cells.toList=[v]:=by
 cases v<;>first | rfl | (simp [oneC] at h)
theorem zxu:∀{cs:List Value} {ss:List SV} {ps:List PV},cs.mapM z5a=some ss→z54 [] ss=some ps→PV.RepRow S ps cs:=by
 have hR:RelP [] [] [] S S (fun _=>0):=⟨rfl,fun i a ha=>by simp at ha,PH.le_refl _,fun k row hk=>by simp at hk,fun i j hi=>by simp at hi,fun i k ha=>by simp at ha⟩
 have one:∀(c:Value) (s:SV) (p:PV),z5a c=some s→pvOf [] s=some p→p.Rep S c:=by
  intro c s p h1 h2
  have h3:=z1a hR s p h2
  have:ev0 [] s=c:=by
   unfold z5a at h1
   split at h1
   ·cases h1;rfl
   ·cases h1;rfl
   ·rename_i st;cases h1;show Value.string ⟨st.data.toList.toArray⟩=_;simp
   ·cases h1;rfl
   ·cases h1;rfl
   ·cases h1;rfl
   ·cases h1;rfl
   ·cases h1;rfl
   ·cases h1;rfl
   ·cases h1
  rw [←this];exact h3
 intro cs
 induction cs with
 | nil=>
  intro ss ps h1 h2
  simp at h1;subst h1
  simp only [z54,Option.some.injEq] at h2;subst h2
  simp [PV.RepRow]
 | cons c cs ih=>
  intro ss ps h1 h2
  rw [List.mapM_cons] at h1
  simp only [Option.pure_def,Option.bind_eq_bind,Option.bind_eq_some_iff,Option.some.injEq] at h1
  obtain ⟨s,h3,ss',h4,rfl⟩:=h1
  simp only [z54] at h2
  split at h2
  ·rename_i p qs h5 h6
   cases h2
   simp only [PV.RepRow]
   exact ⟨c,cs,rfl,one c s p h3 h5,ih h4 h6⟩
  ·cases h2
theorem zw7 (h:RelP A B E S H r) {args:List (Nat×VE)} {x:Operand} {row:List PV} (hr:opRow A args x=some row):PV.RepRow S row (argEv E args x).cells.toList:=by
 have one:∀{p:PV} {v:Value},p.Rep S v→PV.RepRow S [p] v.cells.toList:=fun hp=>by
  rw [zzf hp.oneC];simp only [PV.RepRow];exact ⟨_,_,rfl,hp,rfl⟩
 cases x with
 | tmp t=>
  simp only [opRow] at hr
  simp only [argEv]
  split at hr
  ·rename_i s hs
   rw [hs]
   obtain ⟨p,h1,rfl⟩:=Option.map_eq_some_iff.1 hr
   exact one (z1a h s p h1)
  ·rename_i cs hs
   rw [hs]
   have:PV.RepRow S row (List.map (ev E fun _=>0) cs):=z5p h hr
   simpa [evV,Value.cells] using this
  ·cases hr
 | const v=>
  simp only [argEv]
  cases v with
  | int k n=>
   simp only [opRow] at hr
   split at hr
   ·rename_i hk;cases hr;exact one (zdb hk)
   ·cases hr
  | string s=>
   simp only [opRow] at hr
   split at hr
   ·rename_i hk;cases hr
    refine one ?_
    simp only [PV.Rep]
    exact ⟨by simp,hk⟩
   ·cases hr
  | bool b=>simp only [opRow,Option.some.injEq] at hr;subst hr;exact one (by simp only [PV.Rep])
  | agg cs=>
   simp only [opRow] at hr
   split at hr
   ·rename_i ss hs
    simp only [zhc,Option.map_eq_some_iff] at hs
    obtain ⟨ss',h1,h2⟩:=hs
    cases h2
    have:=zxu (S:=S) h1 hr
    simpa [Value.cells] using this
   ·cases hr
  | _=>simp [opRow] at hr
 | global g=>simp [opRow] at hr
 | func f=>simp [opRow] at hr
theorem zmn (h:RelP A B E S H r) {args:List (Nat×VE)}:∀{l:List (Nat×Operand)} {k:Nat} {rows:List (List PV)},rowsA A args k l=some rows →
  l.map (fun x=>(x.1,argEv E args x.2))=idxs k (l.map fun x=>argEv E args x.2)∧All2 (fun row v=>PV.RepRow S row v.cells.toList) rows (l.map fun x=>argEv E args x.2)
 | [],k,rows,hr=>by simp only [rowsA,Option.some.injEq] at hr;subst hr;exact ⟨rfl,.nil⟩
 | (i,x)::l,k,rows,hr=>by
  simp only [rowsA] at hr
  split at hr
  ·rename_i hi
   split at hr
   ·rename_i row rs h1 h2
    cases hr
    obtain ⟨h3,h4⟩:=zmn h h2
    refine ⟨?_,.cons (zw7 h h1) h4⟩
    simp only [List.map_cons,idxs]
    rw [hi,h3]
   ·cases hr
  ·cases hr
theorem zr9 (m:Nat):∀{rows:List (List PV)} {vs:List Value} (h:rows.all (fun r=>decide (r.length=m))=true),All2 (fun row v=>PV.RepRow S row v.cells.toList) rows vs→All2 (fun (a:RowP m) v=>CsR S a v.cells.toList) (zhf m rows h) vs
 | [],_,h,.nil=>.nil
 | r::rs,_,h,.cons h1 h2=>.cons h1 (zr9 m (by simp only [List.all_cons,zba] at h;exact h.2) h2)
variable {K:VE→List Value→PH→LK→Prop}
def OutK (S0:PH) (K:VE→List Value→PH→LK→Prop) (A:List AV) (E:List Value) (L:LK):Out→Prop
 | .ret q vs=>∀(ve:VE) (E':List Value) (S' H':PH) (r':Nat→Nat) (L':LK) (ss:List SV),PH.le S0 S'→PH.le S' H'→zuh ve=q→zz6 ve=some ss→ValsR S' r' vs (ss.map (ev0 E'))→K ve E' H' L'
 | .next id vs B=>∃J,L.lookup id=some J∧∀(us:List Value) (S' H':PH) (r':Nat→Nat),PH.le S0 S'→RelP (A++vs) B (E++us) S' H' r'→J us H'
theorem OutK.more {S0:PH} {L:LK} {X:List AV} {Y:List Value} (hl:A.length=E.length) (hx:X.length=Y.length) {o:Out} (h:OutK S0 K A E L o):OutK S0 K (A++X) (E++Y) L o:=by
 cases o with
 | ret q vs=>exact h
 | next id vs B=>
  obtain ⟨J,h1,h2⟩:=h
  exact ⟨J,h1,fun us S' H' r' hS hR=>h2 us S' H' r' hS (hR.skip hl hx)⟩
theorem zfr (id:Nat):∀{outs os:List Out} {x:Option (List AV×List (List PV))},sift id outs=some (os,x) →
  (∀o∈outs,o∈os∨∃vs B,o=.next id vs B∧x=some (vs,B))∧(∀o∈os,o∈outs∧∀vs B,o≠.next id vs B)
 | [],os,x,h=>by
  simp only [sift,Option.some.injEq,Prod.mk.injEq] at h
  obtain ⟨rfl,rfl⟩:=h
  exact ⟨fun o ho=>(by cases ho),fun o ho=>(by cases ho)⟩
 | .ret q vs::l,os,x,h=>by
  simp only [sift,Option.map_eq_some_iff] at h
  obtain ⟨⟨os',x'⟩,h1,h2⟩:=h
  simp only [Prod.mk.injEq] at h2
  obtain ⟨rfl,rfl⟩:=h2
  obtain ⟨h3,h4⟩:=zfr id h1
  refine ⟨fun o ho=>?_,fun o ho=>?_⟩
  ·rcases List.mem_cons.1 ho with rfl | ho
   ·exact .inl (zms)
   ·exact (h3 o ho).imp (zmm _) _root_.id
  ·rcases List.mem_cons.1 ho with rfl | ho
   ·exact ⟨zms,fun vs B h=>by cases h⟩
   ·exact ⟨zmm _ (h4 o ho).1,(h4 o ho).2⟩
 | .next j vs B::l,os,x,h=>by
  simp only [sift] at h
  split at h
  ·rename_i os' x' h1
   obtain ⟨h3,h4⟩:=zfr id h1
   split at h
   ·rename_i hj
    subst hj
    split at h
    ·simp only [Option.some.injEq,Prod.mk.injEq] at h
     obtain ⟨rfl,rfl⟩:=h
     refine ⟨fun o ho=>?_,fun o ho=>⟨zmm _ (h4 o ho).1,(h4 o ho).2⟩⟩
     rcases List.mem_cons.1 ho with rfl | ho
     ·exact .inr ⟨vs,B,rfl,rfl⟩
     ·rcases h3 o ho with h | ⟨vs',B',_,h⟩
      ·exact .inl h
      ·cases h
    ·rename_i ws C
     split at h
     ·rename_i hs
      simp only [zba] at hs
      simp only [Option.some.injEq,Prod.mk.injEq] at h
      obtain ⟨rfl,rfl⟩:=h
      refine ⟨fun o ho=>?_,fun o ho=>⟨zmm _ (h4 o ho).1,(h4 o ho).2⟩⟩
      rcases List.mem_cons.1 ho with rfl | ho
      ·exact .inr ⟨vs,B,rfl,by rw [zoo hs.1,PV.sameRows_eq hs.2]⟩
      ·exact h3 o ho
     ·cases h
   ·rename_i hj
    simp only [Option.some.injEq,Prod.mk.injEq] at h
    obtain ⟨rfl,rfl⟩:=h
    refine ⟨fun o ho=>?_,fun o ho=>?_⟩
    ·rcases List.mem_cons.1 ho with rfl | ho
     ·exact .inl (zms)
     ·exact (h3 o ho).imp (zmm _) _root_.id
    ·rcases List.mem_cons.1 ho with rfl | ho
     ·exact ⟨zms,fun vs' B' h=>by cases h;exact hj rfl⟩
     ·exact ⟨zmm _ (h4 o ho).1,(h4 o ho).2⟩
  ·cases h
theorem zzz {X:List PanicEntry→PH→Prop} {S0:PH} {tab:List CK} (htab:TabOk P S0 tab):∀(fm:Fm VE) (A:List AV) (B:List (List PV)) (outs:List Out) (E:List Value) (S H:PH) (r:Nat→Nat) (L:LK),
  run P tab fm A B=some outs→RelP A B E S H r→PH.le S0 S→(∀o∈outs,OutK S0 K A E L o)→den P X fm E H L K:=by
 intro fm
 induction fm with
 | leaf x=>
  intro A B outs E S H r L hrun hR hS hK
  simp only [run] at hrun
  split at hrun
  ·rename_i ss hss
   obtain ⟨vs,h1,rfl⟩:=Option.map_eq_some_iff.1 hrun
   exact hK _ (List.mem_singleton.2 rfl) x E S H r L ss hS hR.sh rfl hss (zgr hR h1).1
  ·cases hrun
 | fail w=>intro A B outs E S H r L hrun;cases hrun
 | ite c a b iha ihb=>
  intro A B outs E S H r L hrun hR hS hK
  simp only [run] at hrun
  split at hrun
  ·rename_i x hx
   have h1:=z1a hR c _ hx
   simp only [PV.Rep] at h1
   simp only [den]
   rw [h1]
   split at hrun
   ·rename_i hxt
    subst hxt
    exact ⟨fun _=>iha A B outs E S H r L hrun hR hS hK,fun h=>absurd h (by simp [bOf])⟩
   ·rename_i hxt
    exact ⟨fun h=>absurd h hxt,fun _=>ihb A B outs E S H r L hrun hR hS hK⟩
  ·cases hrun
 | chk g c k ih=>
  intro A B outs E S H r L hrun hR hS hK
  simp only [run] at hrun
  split at hrun
  ·rename_i x hx
   split at hrun
   ·split at hrun
    ·rename_i hc
     exact ⟨fun _=>zyn hR hc,ih A B outs E S H r L hrun hR hS hK⟩
    ·cases hrun
   ·rename_i hxt
    exact ⟨fun hg=>absurd hg (zkm hR hx (by simpa using hxt)),ih A B outs E S H r L hrun hR hS hK⟩
  ·cases hrun
 | call f args rs pend k ih=>
  intro A B outs E S H r L hrun hR hS hK
  simp only [run] at hrun
  split at hrun
  ·rename_i out ho
   unfold callA at ho
   split at ho
   ·rename_i g az has
    split at ho
    ·rename_i c hc
     split at ho
     ·rename_i hsh
      cases ho
      obtain ⟨hm,hf,hargs⟩:=zve hc
      obtain ⟨hcb,hct⟩:=htab c hm
      have ha:=znk hR has
      rw [←hargs] at ha
      have ht:=(hct S _ hS ha)
      rw [hf] at ht hcb
      refine z08 hcb (Tri.ext hR.sh (fun e K hk=>by obtain ⟨_,_,_,h⟩:=hk;exact h) ht) ?_
      rintro e H' ⟨S',⟨us,rfl,hrow,hle⟩,hx⟩
      refine ⟨_,us,rfl,ze0 hsh.2 hrow,by rw [Z3z,hsh.1],z05,?_⟩
      have hR':=(hR.le hx).more hrow
      exact ih _ B outs _ S' H' r L hrun hR' (PH.le_trans hS hle) fun o h=>(hK o h).more hR.len (by rw [List.length_map,hrow.length])
     ·cases ho
    ·cases ho
   ·cases ho
  ·cases hrun
 | load p tags k ih=>
  intro A B outs E S H r L hrun hR hS hK
  simp only [run] at hrun
  split at hrun
  ·rename_i row hrow
   unfold loadA at hrow
   split at hrow
   ·rename_i full hfull
    split at hrow
    ·rename_i hc
     cases hrow
     obtain ⟨cs,h1,h2⟩:=zmu hR p full hfull
     have h3:=zvp h1 tags.length
     refine ⟨cs.take tags.length,ze0 hc.1 h3,?_,?_⟩
     ·rcases h2 with h2 | ⟨a,e,h2⟩
      ·subst h2
       have:=hc.1
       cases htg:tags with
       | nil=>exact absurd htg hc.2
       | cons t ts=>rw [htg] at this;simp [z5k] at this
      ·refine ⟨a,e,fun i v hi=>h2 i v ?_⟩
       rw [List.getElem?_take] at hi
       split at hi
       ·exact hi
       ·cases hi
     ·exact ih _ B outs _ S H r L hrun (hR.more h3) hS fun o h=>(hK o h).more hR.len (by rw [List.length_map,h3.length])
    ·cases hrow
   ·cases hrow
  ·cases hrun
 | store p cs k ih=>
  intro A B outs E S H r L hrun hR hS hK
  simp only [run] at hrun
  split at hrun
  ·rename_i B' hB
   unfold Z1e at hB
   split at hB
   ·rename_i i
    split at hB
    ·rename_i b ps hb hps
     split at hB
     ·rename_i old hold
      split at hB
      ·rename_i hlen
       cases hB
       have h1:=hR.get hb
       simp only [RelV] at h1
       obtain ⟨ocs,T,h2,h3,h4⟩:=hR.bx b old hold
       have h5:=z5p hR hps
       have hl1:=h3.length
       have hl2:=h5.length
       rw [List.length_map] at hl2
       refine ⟨⟨r b,0,none⟩,by show pOf (E.getD i (.bool false))=_;rw [h1];rfl,?_⟩
       refine z1m _ 0 0 ocs.toArray H h2 (by simp;omega) (PV.RepRow.oneC h5) ?_
       have hsp:z11 ocs.toArray (0+0) (cs.map (ev0 E))=(cs.map (ev0 E)).toArray:=z9r (by simp;omega)
       rw [hsp]
       refine ih A _ outs E S _ r L hrun ?_ hS hK
       have hbB:b < B.length:=by
        rcases Nat.lt_or_ge b B.length with h | h
        ·exact h
        ·rw [List.getElem?_eq_none h] at hold;cases hold
       exact {
           len:=hR.len,env:=hR.env
           sh:=fun k o hk=>by
            by_cases e:k=r b
            ·subst e;rw [h4] at hk;cases hk
            ·rw [PH.upd_other e];exact hR.sh k o hk
           bx:=fun j row hj=>by
            by_cases e:j=b
            ·subst e
             rw [List.getElem?_set_self hbB] at hj
             cases hj
             exact ⟨_,T,PH.upd_same,h5,h4⟩
            ·rw [List.getElem?_set_ne (Ne.symm e)] at hj
             obtain ⟨c2,T2,g1,g2,g3⟩:=hR.bx j row hj
             have hjB:j < B.length:=by
              rcases Nat.lt_or_ge j B.length with h | h
              ·exact h
              ·rw [List.getElem?_eq_none h] at hj;cases hj
             exact ⟨c2,T2,by rw [PH.upd_other fun e2=>e (hR.inj j b hjB hbB e2)];exact g1,g2,g3⟩
           inj:=fun x y hx hy=>hR.inj x y (by simpa using hx) (by simpa using hy)
           out:=fun x y hx=>by rw [List.length_set];exact hR.out x y hx }
      ·cases hB
     ·cases hB
    ·cases hB
   ·cases hB
  ·cases hrun
 | new t cs k ih=>
  intro A B outs E S H r L hrun hR hS hK
  simp only [run] at hrun
  split at hrun
  ·rename_i ps hps
   have h5:=z5p hR hps
   intro q hq
   have hnew:∀j,j < B.length→r j≠q:=fun j hj e=>by
    obtain ⟨c2,T2,g1,_⟩:=hR.bx j _ (zge hj)
    rw [e,hq] at g1;cases g1
   have hR1:RelP A (B++[ps]) E S (H.upd q (.cells (cs.map (ev0 E)).toArray t)) (fun j=>if j=B.length then q else r j):=by
    refine { len:=hR.len,env:=?_,sh:=?_,bx:=?_,inj:=?_,out:=?_ }
    ·intro i a ha
     obtain ⟨v,g1,g2⟩:=hR.env i a ha
     refine ⟨v,g1,?_⟩
     cases a with
     | pv p=>exact g2
     | box j=>
      have:=hR.out i j ha
      simp only [RelV] at g2 ⊢
      rw [if_neg (by omega)];exact g2
    ·exact PH.le_trans hR.sh (PH.le_upd hq)
    ·intro j row hj
     by_cases e:j=B.length
     ·subst e
      simp at hj
      subst hj
      simp only [if_true]
      exact ⟨_,t,PH.upd_same,h5,PH.none_of_le hR.sh hq⟩
     ·have hjB:j < B.length:=by
       rcases Nat.lt_or_ge j B.length with h | h
       ·exact h
       ·rw [List.getElem?_append_right h,List.getElem?_singleton] at hj
        split at hj
        ·omega
        ·cases hj
      rw [List.getElem?_append_left hjB] at hj
      obtain ⟨c2,T2,g1,g2,g3⟩:=hR.bx j row hj
      rw [if_neg e]
      exact ⟨c2,T2,by rw [PH.upd_other (hnew j hjB)];exact g1,g2,g3⟩
    ·intro x y hx hy
     rw [zla,List.length_singleton] at hx hy
     show (if x=B.length then q else r x)=(if y=B.length then q else r y)→x=y
     split<;>split
     ·intro _;omega
     ·intro e;exact absurd e.symm (hnew y (by omega))
     ·intro e;exact absurd e (hnew x (by omega))
     ·exact hR.inj x y (by omega) (by omega)
    ·intro x y hx;rw [zla];have:=hR.out x y hx;omega
   have hv:ValsR S (fun j=>if j=B.length then q else r j) [.box B.length] [.pointer (some ⟨q,0,none⟩)]:=by
    refine ⟨rfl,fun i a ha=>?_⟩
    cases i with
    | zero=>simp at ha;subst ha;exact ⟨_,rfl,by simp only [RelV,if_true]⟩
    | succ i=>simp at ha
   refine ih _ _ outs _ S _ _ L hrun (hR1.vals hv fun i k hk=>?_) hS fun o h=>(hK o h).more hR.len rfl
   cases i with
   | zero=>simp at hk;rw [zla,List.length_singleton];omega
   | succ i=>simp at hk
  ·cases hrun
 | sem o ty args rs pend k ih=>
  intro A B outs E S H r L hrun hR hS hK
  simp only [run] at hrun
  split at hrun
  ·rename_i p hp
   unfold semA at hp
   split at hp
   ·rename_i T n ps
    unfold litA at hp
    split at hp
    ·rename_i e row rows hT hrows
     simp only at hp
     split at hp
     ·rename_i hc
      cases hp
      obtain ⟨c1,c2,c3,c4,c5⟩:=hc
      unfold elemB at c4
      split at c4
      ·rename_i inf hi
       obtain ⟨g1,g2⟩:=zmn hR hrows
       refine zis (α:=RowP row.length) (l:=zhf row.length (row::rows) c5) _ hT c4 (by rw [zys];exact c1) c2 c3 hR.sh g1 (zr9 _ c5 g2) z05 fun v S' H' hx hsl _=>?_
       have hrep:PV.Rep S' (.sl (row::rows)) v:=by
        have:=hsl
        unfold SlR slp at this
        rw [zlf] at this
        exact this
       have hrow1:PV.RepRow S' [.sl (row::rows)] [v]:=by simp only [PV.RepRow];exact ⟨_,_,rfl,hrep,rfl⟩
       exact ih _ B outs _ S' H' r L hrun ((hR.le hx).more hrow1) (PH.le_trans hS hx.s) fun o h=>(hK o h).more hR.len rfl
      ·cases c4
     ·cases hp
    ·cases hp
   ·cases hp
  ·cases hrun
 | alt o ty args r1 r2 k1 k2 ih1 ih2=>intro A B outs E S H r L hrun;cases hrun
 | loop id tags init body ih=>intro A B outs E S H r L hrun;cases hrun
 | join id tags rest main ih1 ih2=>
  intro A B outs E S H r L hrun hR hS hK
  simp only [run] at hrun
  split at hrun
  ·rename_i mouts hm
   split at hrun
   ·rename_i os vs B' hs
    obtain ⟨routs,h1,rfl⟩:=Option.map_eq_some_iff.1 hrun
    obtain ⟨h3,h4⟩:=zfr id hs
    refine ⟨fun us H'=>∃S' r',PH.le S0 S'∧RelP (A++vs) B' (E++us) S' H' r',?_,?_⟩
    ·rintro us H' _ ⟨S',r',g1,g2⟩
     have hl:=g2.len
     simp only [zla,hR.len] at hl
     exact ih1 _ _ routs _ S' H' r' L h1 g2 g1 fun o h=>(hK o (List.mem_append_right _ h)).more hR.len (by omega)
    ·refine ih2 A B mouts E S H r _ hm hR hS fun o h=>?_
     rcases h3 o h with h5 | ⟨vs',B2,rfl,h5⟩
     ·have h6:=hK o (List.mem_append_left _ h5)
      cases o with
      | ret q ws=>exact h6
      | next j ws C=>
       obtain ⟨J,h7,h8⟩:=h6
       have hne:id≠j:=fun e=>(h4 _ h5).2 ws C (by rw [e])
       exact ⟨J,by rw [zgn hne];exact h7,h8⟩
     ·cases h5
      exact ⟨_,z06,fun us S' H' r' g1 g2=>⟨S',r',g1,g2⟩⟩
   ·rename_i os hs
    cases hrun
    obtain ⟨h3,h4⟩:=zfr id hs
    refine ⟨fun _ _=>False,fun _ _ _ h=>h.elim,?_⟩
    refine ih2 A B mouts E S H r _ hm hR hS fun o h=>?_
    rcases h3 o h with h5 | ⟨vs',B2,_,h5⟩
    ·have h6:=hK o h5
     cases o with
     | ret q ws=>exact h6
     | next j ws C=>
      obtain ⟨J,h7,h8⟩:=h6
      have hne:id≠j:=fun e=>(h4 _ h5).2 ws C (by rw [e])
      exact ⟨J,by rw [zgn hne];exact h7,h8⟩
    ·cases h5
   ·cases hrun
  ·cases hrun
 | next id vs=>
  intro A B outs E S H r L hrun hR hS hK
  simp only [run] at hrun
  obtain ⟨a,h1,rfl⟩:=Option.map_eq_some_iff.1 hrun
  obtain ⟨J,h2,h3⟩:=hK _ (List.mem_singleton.2 rfl)
  obtain ⟨h4,h5⟩:=zgr hR h1
  exact ⟨J,h2,h3 _ S H r hS (hR.vals h4 h5)⟩
 | both a b iha ihb=>
  intro A B outs E S H r L hrun hR hS hK
  simp only [run] at hrun
  split at hrun
  ·rename_i x y hx hy
   cases hrun
   exact ⟨iha A B x E S H r L hx hR hS fun o h=>hK o (List.mem_append_left _ h),ihb A B y E S H r L hy hR hS fun o h=>hK o (List.mem_append_right _ h)⟩
  ·cases hrun
 | hold pend k ih=>
  intro A B outs E S H r L hrun hR hS hK
  simp only [run] at hrun
  split at hrun
  ·rename_i hp
   have:pend=[]:=by simpa using hp
   subst this
   exact ⟨z05,ih A B outs E S H r L hrun hR hS hK⟩
  ·cases hrun
 | far id g rs b k ihb ih=>
  intro A B outs E S H r L hrun hR hS hK
  simp only [run] at hrun
  cases hrun
end
section
variable {P:Program} {Ψ:Value→PH→Prop} {H:PH} {ρ:Operand→Value}
def OneOk (P:Program) (e:TypeId) (b:Nat) (z0:Value):Prop:=∃i z,P.info? e=some i∧i.zero=some z∧z.cells=#[z0]∧i.size=1∧i.bytes=b
theorem OneOk.of {e:TypeId} {b:Nat} {z0:Value} (h:(P.info? e).map (fun i=>(i.zero,i.size,i.bytes))=some (some z0,1,b)) (hz:z0.cells=#[z0]):OneOk P e b z0:=by
 obtain ⟨i,hi,h2⟩:=Option.map_eq_some_iff.1 h
 simp only [Prod.mk.injEq] at h2
 exact ⟨i,z0,hi,h2.1,hz,h2.2.1,h2.2.2⟩
end
section
variable {P:Program} {X:List PanicEntry→PH→Prop} {β:Type} {E:List Value} {H S:PH} {L:LK} {K:β→List Value→PH→LK→Prop} {I:List Itm} {e:TypeId}
end
structure QAt (cur:Array Value) (off cap:Nat) (xs:List Value):Prop where
 le:xs.length≤cap
 max:cap≤maxLen
 room:off+cap≤cur.size
 at_:(cur.toList.drop off).take xs.length=xs
theorem QAt.get {cur:Array Value} {off cap:Nat} {xs:List Value} (h:QAt cur off cap xs) {j:Nat} {u:Value} (hu:xs[j]?=some u):cur[off+j]?=some u:=by
 have hj:j < xs.length:=(List.getElem?_eq_some_iff.1 hu).1
 rw [←h.at_,List.getElem?_take,if_pos hj,List.getElem?_drop] at hu
 simpa using hu
theorem QAt.tail {cur:Array Value} {g off cap:Nat} {x:Value} {xs:List Value} (h:QAt cur off cap (x::xs)) :
  ∃off' cap',slsV (.slice (some ⟨g,off,none⟩) (xs.length+1) cap) 1 (xs.length+1:Nat) 1=.slice (some ⟨g,off',none⟩) xs.length cap'∧QAt cur off' cap' xs:=by
 have hle:=h.le
 have hroom:=h.room
 have hmax:=h.max
 simp only [zlc] at hle
 have hat:=h.at_
 have htl:xs=(cur.toList.drop (off+1)).take xs.length:=by
  have:=congrArg List.tail hat
  rw [zlc] at this
  cases hd:cur.toList.drop off with
  | nil=>rw [hd] at hat;simp at hat
  | cons y ys=>
   rw [hd] at hat this
   simp only [List.take_succ_cons,List.tail_cons] at this
   have hys:cur.toList.drop (off+1)=ys:=by rw [←List.drop_drop,hd];rfl
   rw [hys];exact this.symm
 by_cases hc:cap=1
 ·subst hc
  have hx:xs=[]:=List.length_eq_zero_iff.1 (by omega)
  subst hx
  exact ⟨off,0,rfl,⟨Nat.le_refl _,Nat.zero_le _,by omega,by simp⟩⟩
 ·refine ⟨off+1,cap - 1,?_,⟨by omega,by omega,by omega,htl.symm⟩⟩
  unfold slsV
  rw [if_neg (show ¬slCap (.slice (some ⟨g,off,none⟩) (xs.length+1) cap)=(1:Int).toNat from hc)]
  show Value.slice ((some (⟨g,off,none⟩:Addr)).map _) _ _=_
  simp only [Option.map_some,Addr.add_plain]
  congr 1
section
variable {P:Program} {Φ:Value→PH→Prop} {Ψ:Value→PH→Prop} {H:PH}
end
section
variable {P:Program} {X:List PanicEntry→PH→Prop} {β:Type} {E:List Value} {L:LK} {K:β→List Value→PH→LK→Prop} {S H:PH} {I:List Itm} {e:TypeId}
variable {α:Type} [Enc α]
end
theorem zg0 {α:Type} [Enc α] {P:Program} {X:List PanicEntry→PH→Prop} {β:Type} {E:List Value} {H S:PH} {L:LK} {K:β→List Value→PH→LK→Prop} {I:List Itm} {e:TypeId} {l:List α} {v:Value} {p:SV} {ss:List SV} {f:Fm β} {i:Nat} {a a':α} {us:List Value} (hp:pOf (ev0 E p)=pOf (eltV v (i:Int) (sz α))) (h:Held S H (orow e l v::I)) (hi:l[i]?=some a) (hs:us.length=sz α) (hv:ss.map (ev0 E)=us) (h1:∀u∈us,oneC u=true)
  (hu:CsR S a' us)
  (hk:∀H',Held S H' (orow e (l.set i a') v::I)→den P X f E H' L K):den P X (.store p ss f) E H L K:=by
 refine Z1o (off:=0) (a':=a') ?_ h hi (by omega) hv h1 (fun ces hc=>?_) hk
 ·rw [hp]
  cases pOf (eltV v (i:Int) (sz α)) with
  | none=>rfl
  | some x=>simp [Addr.add_zero]
 ·have hl:ces.length=sz α:=by
   have:=PV.RepRow.length hc
   rw [Enc.len] at this;exact this
  rw [List.take_zero,List.nil_append,Nat.zero_add,hs,List.drop_of_length_le (by omega),List.append_nil]
  exact hu
theorem QAt.row {K:PH} {e:TypeId} {cur:Array Value} {g off cap n:Nat} {xs:List Value} (h:QAt cur off cap xs) (hg:K g=some (.cells cur e (0,0))) {j:Nat} {u:Value} (hu:xs[j]?=some u):rowAt K (pOf (eltV (.slice (some ⟨g,off,none⟩) n cap) (j:Int) 1)) [u]:=by
 refine ⟨⟨g,off+j,none⟩,?_,fun i v hi=>?_⟩
 ·simp [eltV,pOf,z04,Addr.add_plain]
 ·cases i with
  | zero=>
   simp only [List.getElem?_cons_zero,Option.some.injEq] at hi
   subst hi
   rw [Addr.add_plain,PH.cell_at hg]
   exact h.get hu
  | succ i=>simp at hi
end Go.Proofs.YtjhlndokjkeilaaGreatDoor.Vc
