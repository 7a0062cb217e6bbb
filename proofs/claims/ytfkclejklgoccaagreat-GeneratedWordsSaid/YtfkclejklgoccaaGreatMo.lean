import Derived.Test.YtfkclejklgoccaaGreatMn
set_option linter.unusedSimpArgs false
set_option linter.unusedVariables false
set_option maxRecDepth 100000
namespace Go.Proofs.YtfkclejklgoccaaGreat.Vc
open Go
section
variable {P:Program} {Φ:Next→PH→Prop} {Ψ:Value→PH→Prop} {H:PH} {ρ:Operand→Value}
theorem Z19 {T ty:TypeId} {x y:Operand}:wpS P (execOp ρ (bare (.index T x y) ty)) Φ Ψ H=wpS P (Instr.index T (ρ x) (ρ y)) (fun v H'=>Φ (.value v) H') Ψ H:=by
 simp only [execOp,bare,z09,z0l]
theorem Z2r {X:List PanicEntry→PH→Prop} {β:Type} {E:List Value} {L:LK} {K:β→List Value→PH→LK→Prop} {T ty e e2:TypeId} {n m z:Nat} {x y:Operand} {args:List (Nat×VE)} {tags:List Tag} {k:Fm β} {cs:Array Value} {kk:IntKind} {j:Nat} (vs:List Value)
  (hT:P.underlying T=some (.array n e)) (he:P.underlying e=some (.array m e2)) (hiz:(P.info? e).map (·.size)=some z) (hx:argEv E args x=.agg cs) (hy:argEv E args y=.int kk (j:Int)) (hj:j < n) (hvs:(cs.extract (j * z) (j * z+z)).toList=vs) (ht:z0h tags vs=true)
  (hk:den P X k (E++vs) H L K):den P X (.sem (.index T x y) ty args (.ag tags) [] k) E H L K:=by
 obtain ⟨i,hi,hz⟩:=Option.map_eq_some_iff.1 hiz
 show wpS P (execOp (argEv E args) (bare _ ty)) _ _ H
 rw [Z19,hx,hy]
 unfold Instr.index asIntOf
 simp only [z09,z0l,z0g hT]
 have hjn:(0:Int)≤(j:Int)∧(j:Int) < (n:Int):=⟨by omega,by omega⟩
 rw [if_pos hjn]
 simp only [z09,z2a hi,Int.toNat_natCast,hz]
 unfold part isAgg
 simp only [z09,z0g he,z0l,if_true,z2a hi,hz]
 refine ⟨vs,ht,?_,z06,hk⟩
 show Value.agg _=Value.agg _
 rw [←hvs]
end
structure GN where
 ref:Nat
 es:Array MapEntry
 cl:Nat
 s:List Int
abbrev outM (N:List (Int×GN)):List (Int×Value):=N.map fun x=>(x.1,.map (some x.2.ref))
abbrev grB (gr:Nat) (es:Array MapEntry) (cl:Nat):List Itm:=[.blk gr (.map es cl)]
abbrev grI (N:List (Int×GN)):List Itm:=N.map fun x=>.blk x.2.ref (.map x.2.es x.2.cl)
structure GrOk (es:Array MapEntry) (cl:Nat) (N:List (Int×GN)):Prop where
 outer:EntsR (α:=Int) es.toList cl (outM N)
 inner:∀(j:Nat) x,N[j]?=some x→SetAt x.2.es x.2.cl x.2.s
def relN (N:List (Int×GN)) (c d:Int):Prop:=∃x∈N,x.1=c∧d∈x.2.s
theorem zke {es:Array MapEntry} {cl:Nat} {N:List (Int×GN)} (h:GrOk es cl N):(N.map (·.1)).Nodup:=by
 have:=h.outer.keys
 rwa [List.map_map] at this
theorem zhy:∀{N:List (Int×GN)} {j:Nat} {x:Int×GN},(N.map (·.1)).Nodup→N[j]?=some x→getM (outM N) x.1=some (.map (some x.2.ref))
 | [],j,x,_,h=>by simp at h
 | y::N,0,x,hn,h=>by
  simp at h;subst h
  rw [outM,List.map_cons,zky,if_pos rfl]
 | y::N,j+1,x,hn,h=>by
  have h':N[j]?=some x:=by simpa using h
  simp only [List.map_cons,List.nodup_cons] at hn
  have hne:¬y.1=x.1:=fun e=>hn.1 (e ▸ List.mem_map.2 ⟨x,List.mem_of_getElem? h',rfl⟩)
  rw [outM,List.map_cons,zky,if_neg hne]
  exact zhy hn.2 h'
theorem zkz {N:List (Int×GN)} {k:Int} (h:∀x∈N,x.1≠k):getM (outM N) k=none:=by
 rw [getM_none,List.map_map]
 intro hk
 obtain ⟨x,hx,e⟩:=List.mem_map.1 hk
 exact h x hx e
theorem z9r:Tryz.prog.underlying 179=some (.map 3 135):=by kernel_rfl
theorem zbw:Tryz.prog.underlying 135=some (.map 3 3):=by kernel_rfl
theorem Z6w {N:List (Int×GN)} {j:Nat} {x:Int×GN} {es:Array MapEntry} {cl:Nat} {s:List Int} (hx:N[j]?=some x):outM (N.set j (x.1,⟨x.2.ref,es,cl,s⟩))=outM N:=by
 refine List.ext_getElem? fun t=>?_
 rw [List.getElem?_map,List.getElem?_map,List.getElem?_set]
 by_cases e:j=t
 ·subst e
  have hj:=(List.getElem?_eq_some_iff.1 hx).1
  rw [if_pos rfl,if_pos hj,hx];rfl
 ·rw [if_neg e]
theorem Z7o {N:List (Int×GN)} {j:Nat} {x:Int×GN} {es:Array MapEntry} {cl:Nat} {s:List Int} (hx:N[j]?=some x):(grI N).set j (.blk x.2.ref (.map es cl))=grI (N.set j (x.1,⟨x.2.ref,es,cl,s⟩)):=by
 refine List.ext_getElem? fun t=>?_
 rw [List.getElem?_set,List.getElem?_map,List.getElem?_map,List.getElem?_set,List.length_map]
 by_cases e:j=t
 ·subst e
  have hj:=(List.getElem?_eq_some_iff.1 hx).1
  rw [if_pos rfl,if_pos hj,if_pos rfl,if_pos hj];rfl
 ·rw [if_neg e,if_neg e]
theorem Z6m {N:List (Int×GN)} {j:Nat} {x:Int×GN} {es:Array MapEntry} {cl:Nat} {s:List Int} {k:Int} (hn:(N.map (·.1)).Nodup) (hx:N[j]?=some x) (hs:∀y,y∈s↔y∈x.2.s∨y=k) (c d:Int):relN (N.set j (x.1,⟨x.2.ref,es,cl,s⟩)) c d↔relN N c d∨(c=x.1∧d=k):=by
 have hj:=(List.getElem?_eq_some_iff.1 hx).1
 unfold relN
 constructor
 ·rintro ⟨y,hy,h1,h2⟩
  rcases List.mem_or_eq_of_mem_set hy with h | h
  ·exact .inl ⟨y,h,h1,h2⟩
  ·subst h
   rcases (hs d).1 h2 with h3 | h3
   ·exact .inl ⟨x,List.mem_of_getElem? hx,h1,h3⟩
   ·exact .inr ⟨h1.symm,h3⟩
 ·rintro (⟨y,hy,h1,h2⟩ | ⟨h1,h2⟩)
  ·obtain ⟨t,ht⟩:=List.getElem?_of_mem hy
   by_cases e:j=t
   ·subst e
    rw [hx] at ht;cases ht
    exact ⟨(x.1,⟨x.2.ref,es,cl,s⟩),List.mem_of_getElem? (i:=j) (by rw [List.getElem?_set,if_pos rfl,if_pos hj]),h1,(hs d).2 (.inl h2)⟩
   ·exact ⟨y,List.mem_of_getElem? (i:=t) (by rw [List.getElem?_set,if_neg e];exact ht),h1,h2⟩
  ·exact ⟨(x.1,⟨x.2.ref,es,cl,s⟩),List.mem_of_getElem? (i:=j) (by rw [List.getElem?_set,if_pos rfl,if_pos hj]),h1.symm,(hs d).2 (.inr h2)⟩
set_option maxHeartbeats 2000000 in
theorem znw (gr:Nat) (es:Array MapEntry) (cl:Nat) (N:List (Int×GN)) (a b:Int) (S K:PH) (h:Held S K (grB gr es cl++grI N)) (hg:GrOk es cl N) :
  Tri Tryz.prog zcp #[.map (some gr),.int .i64 a,.int .i64 b] K fun x K'=>∃es' cl' N',x=.returned (.tuple #[])∧Held S K' (grB gr es' cl'++grI N')∧GrOk es' cl' N'∧∀c d,relN N' c d↔relN N c d∨(a≠b∧((c=a∧d=b)∨(c=b∧d=a))):=by
 refine zaq [.map (some gr),.int .i64 a,.int .i64 b] (by kernel_rfl) (by kernel_rfl) ?_
 refine ⟨fun g=>?_,fun g=>?_⟩
 ·simp only [evs,evb,zdt] at g
  have hab:a=b:=by simpa using g
  exact ⟨es,cl,N,rfl,h,hg,fun c d=>⟨.inl,fun hh=>hh.elim id fun hh=>absurd hab hh.1⟩⟩
 simp only [evs,evb] at g
 have hab:a≠b:=by simpa using g
 refine ⟨fun n vs K'=>∃(i:Nat) (es':Array MapEntry) (cl':Nat) (N':List (Int×GN)),vs=[nI i]∧i+n=2∧Held S K' (grB gr es' cl'++grI N')∧GrOk es' cl' N'∧∀c d,relN N' c d↔relN N c d∨(1≤i∧c=a∧d=b)∨(2≤i∧c=b∧d=a),
  ⟨2,0,es,cl,N,rfl,rfl,h,hg,fun c d=>by simp⟩,?_⟩
 rintro n vs K1 _ ⟨i,es1,cl1,N1,rfl,hin,h1,hg1,hr1⟩
 simp only [cns]
 refine ⟨fun g1=>?_,fun g1=>?_⟩
 rotate_left
 ·simp only [evs,evb,zdf] at g1
  have:i=2:=by omega
  subst this
  refine ⟨es1,cl1,N1,rfl,h1,hg1,fun c d=>?_⟩
  rw [hr1]
  constructor
  ·rintro (h | ⟨_,h⟩ | ⟨_,h⟩)
   ·exact .inl h
   ·exact .inr ⟨hab,.inl h⟩
   ·exact .inr ⟨hab,.inr h⟩
  ·rintro (h | ⟨_,h | h⟩)
   ·exact .inl h
   ·exact .inr (.inl ⟨by omega,h⟩)
   ·exact .inr (.inr ⟨by omega,h⟩)
 simp only [evs,evb,zdt] at g1
 have hi2:i < 2:=by omega
 obtain ⟨k,w,hkw,hstep⟩:∃k w:Int,(k=(if i=0 then a else b)∧w=(if i=0 then b else a))∧∀c d:Int,((1≤i∧c=a∧d=b)∨(2≤i∧c=b∧d=a)∨(c=k∧d=w))↔((1≤i+1∧c=a∧d=b)∨(2≤i+1∧c=b∧d=a)):=by
  refine ⟨_,_,⟨rfl,rfl⟩,fun c d=>?_⟩
  by_cases e:i=0
  ·rw [if_pos e,if_pos e];subst e;simp
  ·have:i=1:=by omega
   subst this;simp
 refine Z2r (kk:=.i64) (e:=233) (e2:=3) (n:=2) (m:=2) (z:=2) (cs:=#[.int .i64 a,.int .i64 b,.int .i64 b,.int .i64 a]) (j:=i) [.int .i64 k,.int .i64 w] (by kernel_rfl) (by kernel_rfl) (by kernel_rfl) (by kernel_rfl) (by kernel_rfl) hi2 ?_ rfl ?_
 ·obtain ⟨rfl,rfl⟩:=hkw
  by_cases e:i=0
  ·rw [if_pos e,if_pos e];subst e;rfl
  ·have:i=1:=by omega
   subst this;rfl
 simp only [cns]
 refine ⟨fun vs K'=>vs=[]∧∃(es':Array MapEntry) (cl':Nat) (N':List (Int×GN)),Held S K' (grB gr es' cl'++grI N')∧GrOk es' cl' N'∧(∀c d,relN N' c d↔relN N1 c d)∧∃(j:Nat) (x:Int×GN),N'[j]?=some x∧x.1=k,?_,?_⟩
 ·rintro vs K2 _ ⟨rfl,es2,cl2,N2,h2,hg2,hr2,j,x,hx,hxk⟩
  have hn2:=zke hg2
  have hget:=zhy hn2 hx
  rw [hxk] at hget
  have hb2:K2 gr=some (.map es2 cl2):=h2.blk (zms)
  refine z4i (α:=Int) (m:=outM N2) (v:=.map (some gr)) k (.map none) z9r kIntK (by kernel_rfl) (by kernel_rfl) (by kernel_rfl) ⟨gr,es2,cl2,rfl,hb2,hg2.outer⟩ (by rw [hget];rfl) z06 ?_
  rw [hget]
  simp only [Option.getD_some,List.cons_append,List.nil_append]
  have h3:=h2.pick (show (grI N2)[j]?=some (.blk x.2.ref (.map x.2.es x.2.cl)) by rw [grI,List.getElem?_map,hx];rfl)
  refine z4q (α:=Int) (m:=encS x.2.s) (r:=x.2.ref) (es:=x.2.es) (clock:=x.2.cl) w (.int .i64 1) zbw kIntK (by kernel_rfl) (by kernel_rfl) (by kernel_rfl) (h3.blk (zms)) (hg2.inner j x hx) fun es3 cl3 he3=>?_
  rw [zir] at he3
  have h4:=(h3.put (.map es3 cl3)).unpick (by rw [grI,List.length_map];exact (List.getElem?_eq_some_iff.1 hx).1)
  rw [Z7o (s:=addS x.2.s w) hx] at h4
  have hjl:=(List.getElem?_eq_some_iff.1 hx).1
  refine ⟨_,z05,n - 1,by omega,i+1,es2,cl2,_,?_,by omega,h4,⟨by rw [Z6w hx];exact hg2.outer,fun t y hy=>?_⟩,fun c d=>?_⟩
  ·simp only [evs,evb];rw [w64 (by omega) (by omega)];rfl
  ·rw [List.getElem?_set] at hy
   by_cases e:j=t
   ·rw [if_pos e,if_pos hjl] at hy;cases hy;exact he3
   ·rw [if_neg e] at hy;exact hg2.inner t y hy
  ·rw [Z6m (k:=w) hn2 hx (fun y=>zi5 _ _ _),hr2,hr1,hxk,or_assoc,←hstep]
   simp only [or_assoc]
 ·have hb1:K1 gr=some (.map es1 cl1):=h1.blk (zms)
  have hn1:=zke hg1
  by_cases hin:∃x∈N1,x.1=k
  ·obtain ⟨x,hx,hxk⟩:=hin
   obtain ⟨j,hj⟩:=List.getElem?_of_mem hx
   have hget:=zhy hn1 hj
   rw [hxk] at hget
   refine z4i (α:=Int) (m:=outM N1) (v:=.map (some gr)) k (.map none) z9r kIntK (by kernel_rfl) (by kernel_rfl) (by kernel_rfl) ⟨gr,es1,cl1,rfl,hb1,hg1.outer⟩ (by rw [hget];rfl) z06 ?_
   rw [hget]
   simp only [Option.getD_some,List.cons_append,List.nil_append]
   refine ⟨fun g2=>?_,fun g2=>?_⟩
   ·simp [evV,ev0,ev,z42,bOf] at g2
   ·exact ⟨_,z05,rfl,es1,cl1,N1,h1,hg1,fun c d=>Iff.rfl,j,x,hj,hxk⟩
  ·have hno:∀x∈N1,x.1≠k:=fun x hx e=>hin ⟨x,hx,e⟩
   have hget:=zkz hno
   refine z4i (α:=Int) (m:=outM N1) (v:=.map (some gr)) k (.map none) z9r kIntK (by kernel_rfl) (by kernel_rfl) (by kernel_rfl) ⟨gr,es1,cl1,rfl,hb1,hg1.outer⟩ (by rw [hget];rfl) z06 ?_
   rw [hget]
   simp only [Option.getD_none,List.cons_append,List.nil_append]
   refine ⟨fun g2=>?_,fun g2=>?_⟩
   ·refine z3w fun r hr=>?_
    have h2:=h1.new hr (.map #[] 0)
    simp only [cns]
    refine z4q (α:=Int) (m:=outM N1) (r:=gr) (es:=es1) (clock:=cl1) k (.map (some r)) z9r kIntK (by kernel_rfl) (by kernel_rfl) (by kernel_rfl) (h2.blk (zmm _ (zms))) hg1.outer fun es3 cl3 he3=>?_
    have hput:putM (outM N1) k (.map (some r))=outM (N1++[(k,⟨r,#[],0,[]⟩)]):=by
     unfold putM
     rw [hget,if_neg (by simp),outM,outM,List.map_append];rfl
    rw [hput] at he3
    have h3:=((h2.perm (List.Perm.swap _ _ _)).put (.map es3 cl3))
    have h3':Held S _ (grB gr es3 cl3++grI (N1++[(k,⟨r,#[],0,[]⟩)])):=h3.perm (by
     have e:grI (N1++[(k,⟨r,#[],0,[]⟩)])=grI N1++[Itm.blk r (.map #[] 0)]:=by rw [grI,grI,List.map_append];rfl
     rw [e]
     exact List.Perm.cons _ (List.perm_append_comm (l₁:=[Itm.blk r (.map #[] 0)]) (l₂:=grI N1)))
    refine ⟨_,z05,rfl,es3,cl3,_,h3',⟨he3,fun t y hy=>?_⟩,fun c d=>?_,N1.length,(k,⟨r,#[],0,[]⟩),by simp,rfl⟩
    ·by_cases ht:t < N1.length
     ·rw [List.getElem?_append_left ht] at hy;exact hg1.inner t y hy
     ·rw [List.getElem?_append_right (by omega)] at hy
      have:y=(k,⟨r,#[],0,[]⟩):=by
       cases hd:t - N1.length with
       | zero=>rw [hd] at hy;simp at hy;exact hy.symm
       | succ m=>rw [hd] at hy;simp at hy
      subst this;exact zes
    ·unfold relN
     constructor
     ·rintro ⟨y,hy,h4,h5⟩
      rcases List.mem_append.1 hy with hy | hy
      ·exact ⟨y,hy,h4,h5⟩
      ·rw [List.mem_singleton.1 hy] at h5;cases h5
     ·rintro ⟨y,hy,h4,h5⟩
      exact ⟨y,List.mem_append_left _ hy,h4,h5⟩
   ·simp [evV,ev0,ev,z42,bOf] at g2
theorem zzm (l:List Int) (n:Int) (v:Value) (H:PH) (hl:SlR H l v) (hll:l.length≤40000000):∃i:Int,Gives Tryz.prog zb8 [v,.int .i64 n] H (.int .i64 i)∧(i ≥ 0↔n∈l):=by
 by_cases hn:n∈l
 ·obtain ⟨j,hj,hfirst⟩:∃j:Nat,l[j]?=some n∧∀t:Nat,t < j→l[t]?≠some n:=by
   obtain ⟨t,ht⟩:=List.getElem?_of_mem hn
   have key:∀t:Nat,l[t]?=some n→∃j:Nat,l[j]?=some n∧∀s:Nat,s < j→l[s]?≠some n:=by
    intro t
    induction t using Nat.strongRecOn with
    | ind t ih=>
     intro ht
     by_cases h:∃s:Nat,s < t∧l[s]?=some n
     ·obtain ⟨s,hs,hsn⟩:=h;exact ih s hs hsn
     ·exact ⟨t,ht,fun s hs hsn=>h ⟨s,hs,hsn⟩⟩
   exact key t ht
  refine ⟨(j:Int),?_,⟨fun _=>hn,fun _=>by omega⟩⟩
  obtain ⟨b1,c1,rfl⟩:=hl.sl
  refine z4e [.slice b1 l.length c1,.int .i64 n] (by kernel_rfl) (by kernel_rfl) ?_
  have hjl:=(List.getElem?_eq_some_iff.1 hj).1
  refine ⟨fun m vs K=>∃(z:Int) (k:Nat),vs=[.int .i64 z,nI k]∧k+m=l.length∧k≤j∧K=H,⟨l.length,0,0,rfl,by omega,by omega,rfl⟩,?_⟩
  rintro m vs K _ ⟨z,k,rfl,hkm,hkj,rfl⟩
  refine ⟨fun g=>?_,fun g=>?_⟩
  ·simp only [evs,evb,zdt] at g
   obtain ⟨a,ha⟩:∃a,l[k]?=some a:=⟨_,zge (by omega)⟩
   obtain ⟨r1,_,rcs,r2,r3⟩:=hl.get ha
   obtain ⟨rfl,_⟩:=csIK r2
   refine ⟨fun _=>?_,[.int .i64 a],rfl,?_,fun g2=>?_,fun g2=>?_⟩
   ·simp only [Chk.holds,evs,evb];exact ⟨r1,by omega,by omega⟩
   ·simp only [evs,evb];exact r3
   ·simp only [evs,evb] at g2
    have hna:n=a:=by simpa using g2
    subst hna
    have:k=j:=by
     rcases Nat.lt_or_ge k j with h | h
     ·exact absurd ha (hfirst k h)
     ·omega
    subst this
    exact ⟨rfl,PH.le_refl _⟩
   ·simp only [evs,evb] at g2
    have hna:n≠a:=by simpa using g2
    refine ⟨_,z05,m - 1,by omega,z,k+1,?_,by omega,?_,rfl⟩
    ·simp only [evs,evb];rw [w64 (by omega) (by omega)];rfl
    ·rcases Nat.lt_or_ge k j with h | h
     ·omega
     ·have:k=j:=by omega
      subst this
      rw [hj] at ha;cases ha;exact absurd rfl hna
  ·simp only [evs,evb,zdf] at g
   omega
 ·refine ⟨-1,?_,⟨fun h=>by omega,fun h=>absurd h hn⟩⟩
  obtain ⟨b1,c1,rfl⟩:=hl.sl
  refine z4e [.slice b1 l.length c1,.int .i64 n] (by kernel_rfl) (by kernel_rfl) ?_
  refine ⟨fun m vs K=>∃(z:Int) (k:Nat),vs=[.int .i64 z,nI k]∧k+m=l.length∧K=H,⟨l.length,0,0,rfl,by omega,rfl⟩,?_⟩
  rintro m vs K _ ⟨z,k,rfl,hkm,rfl⟩
  refine ⟨fun g=>?_,fun g=>⟨rfl,PH.le_refl _⟩⟩
  simp only [evs,evb,zdt] at g
  obtain ⟨a,ha⟩:∃a,l[k]?=some a:=⟨_,zge (by omega)⟩
  obtain ⟨r1,_,rcs,r2,r3⟩:=hl.get ha
  obtain ⟨rfl,_⟩:=csIK r2
  refine ⟨fun _=>?_,[.int .i64 a],rfl,?_,fun g2=>?_,fun g2=>?_⟩
  ·simp only [Chk.holds,evs,evb];exact ⟨r1,by omega,by omega⟩
  ·simp only [evs,evb];exact r3
  ·simp only [evs,evb] at g2
   have hna:n=a:=by simpa using g2
   exact absurd (hna ▸ List.mem_of_getElem? ha) hn
  ·refine ⟨_,z05,m - 1,by omega,z,k+1,?_,by omega,rfl⟩
   simp only [evs,evb];rw [w64 (by omega) (by omega)];rfl
theorem zrq (l:List Int) (n:Int) (v:Value) (H:PH) (hl:SlR H l v) (hll:l.length≤40000000):Gives Tryz.prog z9q [v,.int .i64 n] H (.bool (decide (n∈l))):=by
 obtain ⟨i,h1,h2⟩:=zzm l n v H hl hll
 obtain ⟨b1,c1,rfl⟩:=hl.sl
 refine z92 [.slice b1 l.length c1,.int .i64 n] (by kernel_rfl) (by kernel_rfl) ?_
 refine z0b [.int .i64 i] zav h1 rfl z06 fun K1 l1=>⟨?_,l1⟩
 simp only [evs,evb]
 congr 2
 by_cases h:n∈l
 ·rw [decide_eq_true h,decide_eq_true (h2.2 h)]
 ·rw [decide_eq_false h,decide_eq_false (fun hh=>h (h2.1 hh))]
theorem znj {N N':List (Int×GN)} {a b:Int} {Q Q':Int→Int→Prop} (h:∀c d,relN N' c d↔relN N c d∨(a≠b∧((c=a∧d=b)∨(c=b∧d=a)))) (hq:∀c d,relN N c d↔c≠d∧Q c d) (hq':∀c d,Q' c d↔Q c d∨(c=a∧d=b)∨(c=b∧d=a)) (c d:Int):relN N' c d↔c≠d∧Q' c d:=by
 rw [h,hq,hq']
 constructor
 ·rintro (⟨h1,h2⟩ | ⟨h1,h2 | h2⟩)
  ·exact ⟨h1,.inl h2⟩
  ·exact ⟨by rw [h2.1,h2.2];exact h1,.inr (.inl h2)⟩
  ·exact ⟨by rw [h2.1,h2.2];exact Ne.symm h1,.inr (.inr h2)⟩
 ·rintro ⟨h1,h2 | h2 | h2⟩
  ·exact .inl ⟨h1,h2⟩
  ·exact .inr ⟨by rw [←h2.1,←h2.2];exact h1,.inl h2⟩
  ·exact .inr ⟨by rw [←h2.1,←h2.2];exact Ne.symm h1,.inr h2⟩
def symL (t:Int) (l:List Int) (c d:Int):Prop:=(c=t∧d∈l)∨(d=t∧c∈l)
theorem zsk {t r:Int} {l:List Int} {j:Nat} (h:l[j]?=some r) (c d:Int):symL t (l.take (j+1)) c d↔symL t (l.take j) c d∨(c=t∧d=r)∨(c=r∧d=t):=by
 unfold symL
 rw [List.take_add_one,h]
 simp only [Option.toList_some,List.mem_append,List.mem_singleton]
 constructor
 ·rintro (⟨h1,h2 | h2⟩ | ⟨h1,h2 | h2⟩)
  ·exact .inl (.inl ⟨h1,h2⟩)
  ·exact .inr (.inl ⟨h1,h2⟩)
  ·exact .inl (.inr ⟨h1,h2⟩)
  ·exact .inr (.inr ⟨h2,h1⟩)
 ·rintro ((⟨h1,h2⟩ | ⟨h1,h2⟩) | ⟨h1,h2⟩ | ⟨h1,h2⟩)
  ·exact .inl ⟨h1,.inl h2⟩
  ·exact .inr ⟨h1,.inl h2⟩
  ·exact .inl ⟨h1,.inr h2⟩
  ·exact .inr ⟨h2,.inr h1⟩
noncomputable def selL (x:InsX) (l:List Int):List Int:=if x.op=moveB then lessL l x.args else l
theorem zt3 {x:InsX} {l:List Int} {j:Nat} {r:Int} (h:l[j]?=some r):selL x (l.take (j+1))=selL x (l.take j)++if x.op=moveB∧r∈x.args then [] else [r]:=by
 unfold selL lessL
 rw [List.take_add_one,h]
 by_cases hm:x.op=moveB
 ·rw [if_pos hm,if_pos hm]
  simp only [Option.toList_some,List.filter_append]
  congr 1
  by_cases hr:r∈x.args
  ·rw [if_pos ⟨hm,hr⟩];simp [List.filter_cons,hr]
  ·rw [if_neg (fun hh=>hr hh.2)];simp [List.filter_cons,hr]
 ·rw [if_neg hm,if_neg hm,if_neg (fun hh=>hm hh.1)];rfl
set_option maxHeartbeats 4000000 in
theorem Z3y (p:PrcX) (bv:Value) (S:PH) (hbv:SlR S p.blocks bv) (hw:p.Fit∧∀b∈p.blocks,b.e.args.length≤20000000) (hmay:mayP p=true) :
  Tri Tryz.prog zu6 #[.agg (prcVs p bv).toArray] S fun x S'=>∃S1 gr es cl N,PH.le S S1∧x=.returned (.map (some gr))∧Held S1 S' (grB gr es cl++grI N)∧GrOk es cl N∧∀a b,relN N a b↔a≠b∧MeetP p a b:=by
 obtain ⟨hp,hE⟩:=hw
 have hN:=hp.n
 obtain ⟨hr0,hr1,_,_,hne⟩:=zxb hmay
 have hb0:0 < p.blocks.length:=List.length_pos_iff.2 hne
 obtain ⟨b0,c0,rfl⟩:=hbv.sl
 refine zo7 (prcVs p (.slice b0 p.blocks.length c0)) (by kernel_rfl) (by kernel_rfl) ?_
 simp only [prcVs]
 refine z3w fun gr hgr=>?_
 have h1:=(Held.nil (PH.le_refl S)).new hgr (.map #[] 0)
 refine z0a zq2 (h1.pure (R:=fun x S'=>∃v,x=.returned v∧SlR S' (inL p) v) (zzx p (.slice b0 p.blocks.length c0) S hbv hp hE)) ?_
 rintro x K2 ⟨S2,l2,h2,iv,rfl,hiv⟩
 obtain ⟨b2,c2,rfl⟩:∃b c,iv=.slice b p.blocks.length c:=by rw [←Z84 p];exact hiv.sl
 refine ⟨_,[.slice b2 p.blocks.length c2],rfl,rfl,rfl,z06,?_⟩
 simp only [cns]
 obtain ⟨a1,_,acs,a2,a3⟩:=hiv.get (Z89 (p:=p) (i:=0) hb0)
 obtain ⟨av,rfl,a4⟩:=csLK a2
 obtain ⟨ab,ac,rfl⟩:=a4.sl
 have hlen0:=zl3 hp 0 0
 have ham:=a4.max
 have g0:∀{K:PH},PH.le S2 K→rowAt K (pOf (eltV (.slice b2 p.blocks.length c2) 0 1)) [.slice ab (liveL p 0 0).length ac]:=fun h=>z18 h a3
 refine ⟨fun _=>?_,[.slice ab (liveL p 0 0).length ac],rfl,?_,?_⟩
 ·simp only [Chk.holds,evs,evb];exact ⟨a1,by omega,by omega⟩
 ·simp only [evs,evb];exact g0 h2.sh
 simp only [cns]
 refine ⟨fun n vs K=>∃(i:Nat) (es:Array MapEntry) (cl:Nat) (N:List (Int×GN)),vs=[nI i]∧i+n=(liveL p 0 0).length∧Held S2 K (grB gr es cl++grI N)∧GrOk es cl N∧∀c d,relN N c d↔c≠d∧(c∈(liveL p 0 0).take i∧d∈(liveL p 0 0).take i),
  ⟨(liveL p 0 0).length,0,#[],0,[],rfl,by omega,h2,⟨EntsR.empty,fun j x h=>by simp at h⟩,fun c d=>by simp [relN]⟩,?_⟩
 rintro n vs K3 _ ⟨i,es3,cl3,N3,rfl,hin,h3,ok3,r3⟩
 simp only [cns]
 refine ⟨fun g=>?_,fun g=>?_⟩
 ·simp only [evs,evb,zdt] at g
  obtain ⟨x,hx⟩:∃x,(liveL p 0 0)[i]?=some x:=⟨_,zge (show i < (liveL p 0 0).length by omega)⟩
  obtain ⟨x1,_,xcs,x2,x3⟩:=(a4.le h3.sh).get hx
  obtain ⟨rfl,_⟩:=csIK x2
  have hcut:=a4.cut (Nat.zero_le i) (show i≤(liveL p 0 0).length by omega)
  rw [List.drop_zero] at hcut
  have hctl:((liveL p 0 0).take i).length=i:=by rw [List.length_take];omega
  refine ⟨fun _=>?_,[.int .i64 x],rfl,?_,[.slice ab (liveL p 0 0).length ac],rfl,?_,fun _=>?_,?_⟩
  ·simp only [Chk.holds,evs,evb];exact ⟨x1,by omega,by omega⟩
  ·simp only [evs,evb];exact x3
  ·simp only [evs,evb];exact g0 h3.sh
  ·have hcap:=(SlR.mk_iff.1 a4)
   have:(liveL p 0 0).length≤ac:=by
    rcases hcap.2 with ⟨h,h'⟩ | ⟨ad,c,h,h',_⟩
    ·rw [h'] at hx;simp at hx
    ·cases h;exact h'
   simp only [Chk.holds,evs,evb,slCap];omega
  simp only [cns]
  refine ⟨fun n vs K=>∃(j:Nat) (es:Array MapEntry) (cl:Nat) (N:List (Int×GN)),vs=[nI j]∧j+n=i∧Held S2 K (grB gr es cl++grI N)∧GrOk es cl N∧∀c d,relN N c d↔c≠d∧((c∈(liveL p 0 0).take i∧d∈(liveL p 0 0).take i)∨symL x ((liveL p 0 0).take j) c d),
   ⟨i,0,es3,cl3,N3,rfl,by omega,h3,ok3,fun c d=>by rw [r3];simp [symL]⟩,?_⟩
  rintro n4 vs K4 _ ⟨j,es4,cl4,N4,rfl,hjn,h4,ok4,r4⟩
  simp only [cns]
  refine ⟨fun g4=>?_,fun g4=>?_⟩
  ·have hji:j < i:=by
    simp only [evs,evb,slsV,zdt] at g4
    omega
   obtain ⟨y,hy⟩:∃y,(liveL p 0 0)[j]?=some y:=⟨_,zge (show j < (liveL p 0 0).length by omega)⟩
   have hy2:((liveL p 0 0).take i)[j]?=some y:=by rw [List.getElem?_take,if_pos hji];exact hy
   obtain ⟨y1,_,ycs,y2,y3⟩:=(hcut.le h4.sh).get hy2
   obtain ⟨rfl,_⟩:=csIK y2
   refine ⟨fun _=>?_,[.int .i64 y],rfl,?_,?_⟩
   ·simp only [Chk.holds,evs,evb]
    refine ⟨y1,by omega,?_⟩
    simp only [slsV,slLen];omega
   ·simp only [evs,evb];exact y3
   refine z0a z2z (znw gr es4 cl4 N4 x y S2 K4 h4 ok4) ?_
   rintro e K5 ⟨es5,cl5,N5,rfl,h5,ok5,r5⟩
   refine ⟨_,[],rfl,rfl,rfl,z06,_,z05,n4 - 1,by omega,j+1,es5,cl5,N5,?_,by omega,h5,ok5,znj r5 r4 fun c d=>?_⟩
   ·simp only [evs,evb];rw [w64 (by omega) (by omega)];rfl
   ·rw [zsk hy,or_assoc]
  ·have hji:j=i:=by
    simp only [evs,evb,slsV,zdf] at g4
    omega
   subst hji
   refine ⟨_,z17 rfl z05,n - 1,by omega,j+1,es4,cl4,N4,?_,by omega,h4,ok4,fun c d=>?_⟩
   ·simp only [evs,evb];rw [w64 (by omega) (by omega)];rfl
   ·rw [r4,List.take_add_one,hx]
    simp only [Option.toList_some,List.mem_append,List.mem_singleton,symL]
    constructor
    ·rintro ⟨h1,⟨h2,h3⟩ | ⟨h2,h3⟩ | ⟨h2,h3⟩⟩
     ·exact ⟨h1,.inl h2,.inl h3⟩
     ·exact ⟨h1,.inr h2,.inl h3⟩
     ·exact ⟨h1,.inl h3,.inr h2⟩
    ·rintro ⟨h1,h2 | h2,h3 | h3⟩
     ·exact ⟨h1,.inl ⟨h2,h3⟩⟩
     ·exact ⟨h1,.inr (.inr ⟨h3,h2⟩)⟩
     ·exact ⟨h1,.inr (.inl ⟨h2,h3⟩)⟩
     ·exact absurd (h2.trans h3.symm) h1
 simp only [evs,evb,zdf] at g
 rw [List.take_of_length_le (by omega)] at r3
 have hbv2:=hbv.le l2
 refine ⟨fun n vs K=>∃(k:Nat) (es:Array MapEntry) (cl:Nat) (N:List (Int×GN)) (S':PH),vs=[nI k]∧k+n=p.blocks.length∧PH.le S2 S'∧Held S' K (grB gr es cl++grI N)∧GrOk es cl N∧∀c d,relN N c d↔c≠d∧((c∈liveL p 0 0∧d∈liveL p 0 0)∨∃f∈z2k p k,f.sym c d),
  ⟨p.blocks.length,0,es3,cl3,N3,S2,rfl,by omega,PH.le_refl _,h3,ok3,fun c d=>by rw [r3];simp [z2k]⟩,?_⟩
 rintro n5 vs K5 _ ⟨k,es5,cl5,N5,S5,rfl,hkn,le5,h5,ok5,r5⟩
 simp only [cns]
 refine ⟨fun g5=>?_,fun g5=>?_⟩
 rotate_left
 ·simp only [evs,evb,zdf] at g5
  have:k=p.blocks.length:=by omega
  subst this
  exact ⟨S5,gr,es5,cl5,N5,PH.le_trans l2 le5,rfl,h5,ok5,r5⟩
 simp only [evs,evb,zdt] at g5
 have hk:k < p.blocks.length:=by omega
 obtain ⟨b,hb⟩:∃b,p.blocks[k]?=some b:=⟨_,zge hk⟩
 have hbl:=hp.ins b (List.mem_of_getElem? hb)
 obtain ⟨q1,_,ces,q2,q3⟩:=(hbv2.le le5).get hb
 obtain ⟨iv,es,rfl,his,hes⟩:=blk_iff.1 q2
 obtain ⟨ev,rfl,e1,e2,hea,e3,e4,e5⟩:=end_iff.1 hes
 obtain ⟨bi,ci,rfl⟩:=his.sl
 obtain ⟨be,ce,rfl⟩:=hea.sl
 have hbe:z83 p (k:Int)=behL p k b:=by
  unfold z83
  rw [if_neg (by omega),Int.toNat_natCast,hb]
 refine ⟨fun vs K'=>vs=[]∧∃(es:Array MapEntry) (cl:Nat) (N:List (Int×GN)) (S':PH),PH.le S5 S'∧Held S' K' (grB gr es cl++grI N)∧GrOk es cl N∧∀c d,relN N c d↔c≠d∧((c∈liveL p 0 0∧d∈liveL p 0 0)∨∃f∈z2k p (k+1),f.sym c d),?_,fun _=>?_,[.slice bi b.ins.length ci,.int .i64 b.e.kind,.int .i64 b.e.reg,.slice be b.e.args.length ce,.int .i64 b.e.to,.int .i64 b.e.next,.int .i64 b.e.els],rfl,?_,?_⟩
 ·rintro vs K' _ ⟨rfl,es',cl',N',S',l',h',ok',r'⟩
  refine ⟨_,z05,n5 - 1,by omega,k+1,es',cl',N',S',?_,by omega,PH.le_trans le5 l',h',ok',r'⟩
  simp only [evs,evb];rw [w64 (by omega) (by omega)];rfl
 ·simp only [Chk.holds,evs,evb];exact ⟨q1,by omega,by omega⟩
 ·simp only [evs,evb];exact z18 h5.sh q3
 simp only [cns]
 refine z0a zqu (h5.pure (R:=fun x S'=>∃v,x=.returned v∧SlR S' (z83 p (k:Int)) v) (zzh p (.slice b0 p.blocks.length c0) (k:Int) S5 (hbv2.le le5) hp hE)) ?_
 rintro x K6 ⟨S6,l6,h6,wv,rfl,hwv⟩
 rw [hbe] at hwv
 obtain ⟨b6,c6,rfl⟩:∃b' c,wv=.slice b' b.ins.length c:=by rw [←Z6d p k b];exact hwv.sl
 refine ⟨_,[.slice b6 b.ins.length c6],rfl,rfl,rfl,z06,?_⟩
 simp only [cns]
 refine ⟨fun n vs K=>∃(i:Nat) (es:Array MapEntry) (cl:Nat) (N:List (Int×GN)),vs=[nI i]∧i+n=b.ins.length∧Held S6 K (grB gr es cl++grI N)∧GrOk es cl N∧∀c d,relN N c d↔c≠d∧(((c∈liveL p 0 0∧d∈liveL p 0 0)∨∃f∈z2k p k,f.sym c d)∨∃f∈z3h p k b i,f.sym c d),
  ⟨b.ins.length,0,es5,cl5,N5,rfl,by omega,h6,ok5,fun c d=>by rw [r5];simp [z3h]⟩,?_⟩
 rintro n7 vs K7 _ ⟨i,es7,cl7,N7,rfl,hin7,h7,ok7,r7⟩
 simp only [cns]
 refine ⟨fun g7=>?_,fun g7=>?_⟩
 ·simp only [evs,evb,zdt] at g7
  have hib:i < b.ins.length:=by omega
  obtain ⟨x,hx⟩:∃x,b.ins[i]?=some x:=⟨_,zge hib⟩
  obtain ⟨z1,_,zcs,z2,z3⟩:=(hwv.le h7.sh).get (zvs (p:=p) (i:=k) hib)
  obtain ⟨zv,rfl,z4⟩:=csLK z2
  obtain ⟨zb,zc,rfl⟩:=z4.sl
  have hl2:=zl3 hp k (i+1)
  have hisK:=(his.le l6).le h7.sh
  obtain ⟨y1,_,ycs,y2,y3⟩:=hisK.get hx
  obtain ⟨arv,dv,rfl,_,x2,hya,_,_,_,hyd,_⟩:=ins_iff.1 y2
  obtain ⟨rb,rc,rfl⟩:=hya.sl
  obtain ⟨db,dc,rfl⟩:=hyd.sl
  have hargs:x.args.length≤40000000:=by
   have h1:=Z5r hb
   have h2:=congrArg List.length (zqk InsX.args hx)
   have h3:=zeo InsX.args b.ins (i+1)
   have h4:=hp.regs
   have h5:b.regs.length=(b.ins.flatMap InsX.args).length+b.e.regs.length:=by unfold BlkX.regs;rw [zla]
   rw [zla] at h2
   omega
  refine ⟨fun vs K'=>vs=[]∧∃(es:Array MapEntry) (cl:Nat) (N:List (Int×GN)),Held S6 K' (grB gr es cl++grI N)∧GrOk es cl N∧∀c d,relN N c d↔c≠d∧(((c∈liveL p 0 0∧d∈liveL p 0 0)∨∃f∈z2k p k,f.sym c d)∨∃f∈z3h p k b (i+1),f.sym c d),?_,fun _=>?_,[.slice zb (liveL p k (i+1)).length zc],rfl,?_,fun _=>?_,[txt x.op,.int .i64 x.to,.slice rb x.args.length rc,.int .i64 x.const.kind,.int .i64 x.const.int,txt x.const.text,.slice db x.const.list.length dc,.int .i64 x.num],rfl,?_,fun g8=>?_,fun g8=>?_⟩
  ·rintro vs K' _ ⟨rfl,es',cl',N',h',ok',r'⟩
   refine ⟨_,z05,n7 - 1,by omega,i+1,es',cl',N',?_,by omega,h',ok',r'⟩
   simp only [evs,evb];rw [w64 (by omega) (by omega)];rfl
  ·simp only [Chk.holds,evs,evb];exact ⟨z1,by omega,by omega⟩
  ·simp only [evs,evb];exact z3
  ·simp only [Chk.holds,evs,evb];exact ⟨y1,by omega,by omega⟩
  ·simp only [evs,evb];exact y3
  ·simp only [evs,evb,Z0g] at g8
   have hop:x.op=tieB:=by simpa using g8
   exact ⟨_,z05,rfl,es7,cl7,N7,h7,ok7,fun c d=>by rw [zan hx,zc2,if_pos hop,List.append_nil];exact r7 c d⟩
  simp only [evs,evb,Z0g] at g8
  have hop:x.op≠tieB:=by simpa using g8
  simp only [cns]
  refine ⟨fun n vs K=>∃(j:Nat) (es:Array MapEntry) (cl:Nat) (N:List (Int×GN)),vs=[nI j]∧j+n=(liveL p k (i+1)).length∧PH.le K7 K7∧Held S6 K (grB gr es cl++grI N)∧GrOk es cl N∧∀c d,relN N c d↔c≠d∧((((c∈liveL p 0 0∧d∈liveL p 0 0)∨∃f∈z2k p k,f.sym c d)∨∃f∈z3h p k b i,f.sym c d)∨symL x.to (selL x ((liveL p k (i+1)).take j)) c d),
   ⟨(liveL p k (i+1)).length,0,es7,cl7,N7,rfl,by omega,PH.le_refl _,h7,ok7,fun c d=>by rw [r7];simp [symL,selL,lessL]⟩,?_⟩
  rintro n8 vs K8 _ ⟨j,es8,cl8,N8,rfl,hjn,_,h8,ok8,r8⟩
  simp only [cns]
  obtain ⟨zz1,_,zzcs,zz2,zz3⟩:=hwv.get (zvs (p:=p) (i:=k) hib)
  obtain ⟨zzv,rfl,zz4⟩:=csLK zz2
  obtain ⟨zzb,zzc,rfl⟩:=zz4.sl
  have hsame:(Value.slice zzb (liveL p k (i+1)).length zzc)=.slice zb (liveL p k (i+1)).length zc:=by
   obtain ⟨ad1,e1,f1⟩:=z3
   obtain ⟨ad2,e2,f2⟩:=z18 h7.sh zz3
   rw [e1] at e2;cases e2
   have h1:=f1 0 _ rfl
   have h2:=f2 0 _ rfl
   rw [h1] at h2;exact (Option.some.inj h2).symm
  rw [hsame] at zz4
  refine ⟨fun g9=>?_,fun g9=>?_⟩
  ·simp only [evs,evb,zdt] at g9
   obtain ⟨r,hr⟩:∃r,(liveL p k (i+1))[j]?=some r:=⟨_,zge (show j < (liveL p k (i+1)).length by omega)⟩
   obtain ⟨w1,_,wcs,w2,w3⟩:=(zz4.le h8.sh).get hr
   obtain ⟨rfl,_⟩:=csIK w2
   have hyaK:SlR K8 x.args (.slice rb x.args.length rc):=by
    obtain ⟨u1,_,ucs,u2,u3⟩:=(his.le l6).get hx
    obtain ⟨arv2,dv2,rfl,_,_,hya2,_⟩:=ins_iff.1 u2
    obtain ⟨rb2,rc2,rfl⟩:=hya2.sl
    have hs2:(Value.slice rb2 x.args.length rc2)=.slice rb x.args.length rc:=by
     obtain ⟨ad1,e1,f1⟩:=y3
     obtain ⟨ad2,e2,f2⟩:=z18 h7.sh u3
     rw [e1] at e2;cases e2
     have h1:=f1 2 _ rfl
     have h2:=f2 2 _ rfl
     rw [h1] at h2;exact (Option.some.inj h2).symm
    rw [hs2] at hya2
    exact hya2.le h8.sh
   refine ⟨fun vs K'=>vs=[]∧∃(es:Array MapEntry) (cl:Nat) (N:List (Int×GN)),Held S6 K' (grB gr es cl++grI N)∧GrOk es cl N∧∀c d,relN N c d↔c≠d∧((((c∈liveL p 0 0∧d∈liveL p 0 0)∨∃f∈z2k p k,f.sym c d)∨∃f∈z3h p k b i,f.sym c d)∨symL x.to (selL x ((liveL p k (i+1)).take (j+1))) c d),?_,fun _=>?_,[.int .i64 r],rfl,?_,?_⟩
   ·rintro vs K' _ ⟨rfl,es',cl',N',h',ok',r'⟩
    refine ⟨_,z05,n8 - 1,by omega,j+1,es',cl',N',?_,by omega,PH.le_refl _,h',ok',r'⟩
    simp only [evs,evb];rw [w64 (by omega) (by omega)];rfl
   ·simp only [Chk.holds,evs,evb];exact ⟨w1,by omega,by omega⟩
   ·simp only [evs,evb];exact w3
   simp only [cns]
   refine ⟨fun vs K'=>vs=[.bool (!decide (x.op=moveB∧r∈x.args))]∧Held S6 K' (grB gr es8 cl8++grI N8),?_,fun g10=>?_,fun g10=>?_⟩
   ·rintro vs K9 _ ⟨rfl,h9⟩
    refine ⟨fun g11=>?_,fun g11=>?_⟩
    ·simp only [evs,evb] at g11
     have hsel:¬(x.op=moveB∧r∈x.args):=fun hh=>by rw [decide_eq_true hh] at g11;cases g11
     refine z0a z2z (znw gr es8 cl8 N8 x.to r S6 K9 h9 ok8) ?_
     rintro e K10 ⟨es10,cl10,N10,rfl,h10,ok10,r10⟩
     refine ⟨_,[],rfl,rfl,rfl,z06,_,z05,rfl,es10,cl10,N10,h10,ok10,znj r10 r8 fun c d=>?_⟩
     rw [zt3 hr,if_neg hsel]
     unfold symL
     simp only [List.mem_append,List.mem_singleton]
     constructor
     ·rintro (h | ⟨h1,h2 | h2⟩ | ⟨h1,h2 | h2⟩)
      ·exact .inl (.inl h)
      ·exact .inl (.inr (.inl ⟨h1,h2⟩))
      ·exact .inr (.inl ⟨h1,h2⟩)
      ·exact .inl (.inr (.inr ⟨h1,h2⟩))
      ·exact .inr (.inr ⟨h2,h1⟩)
     ·rintro ((h | ⟨h1,h2⟩ | ⟨h1,h2⟩) | ⟨h1,h2⟩ | ⟨h1,h2⟩)
      ·exact .inl h
      ·exact .inr (.inl ⟨h1,.inl h2⟩)
      ·exact .inr (.inr ⟨h1,.inl h2⟩)
      ·exact .inr (.inl ⟨h1,.inr h2⟩)
      ·exact .inr (.inr ⟨h2,.inr h1⟩)
    ·simp only [evs,evb] at g11
     have hsel:x.op=moveB∧r∈x.args:=Decidable.byContradiction fun hh=>by rw [decide_eq_false hh] at g11;cases g11
     exact ⟨_,z05,rfl,es8,cl8,N8,h9,ok8,fun c d=>by rw [zt3 hr,if_pos hsel,List.append_nil];exact r8 c d⟩
   ·simp only [evs,evb,Z0r] at g10
    have hmv:x.op≠moveB:=by simpa using g10
    refine ⟨_,z05,?_,h8⟩
    simp only [evs,evb]
    rw [decide_eq_false (fun hh=>hmv hh.1)];rfl
   ·simp only [evs,evb,Z0r] at g10
    have hmv:x.op=moveB:=by simpa using g10
    refine z0b [.bool (decide (r∈x.args))] z98 (zrq x.args r _ K8 hyaK hargs) rfl z06 fun K9 l9=>?_
    refine ⟨_,z05,?_,h8.le l9⟩
    simp only [evs,evb]
    by_cases h:r∈x.args
    ·rw [decide_eq_true h,decide_eq_true (⟨hmv,h⟩:x.op=moveB∧r∈x.args)]
    ·rw [decide_eq_false h,decide_eq_false (fun hh=>h hh.2)]
  ·simp only [evs,evb,zdf] at g9
   rw [List.take_of_length_le (by omega)] at r8
   refine ⟨_,z17 rfl z05,rfl,es8,cl8,N8,h8,ok8,fun c d=>?_⟩
   rw [r8,zan hx,zc2,if_neg hop]
   constructor
   ·rintro ⟨h1,(h | ⟨f,hf,hs⟩) | h⟩
    ·exact ⟨h1,.inl h⟩
    ·exact ⟨h1,.inr ⟨f,List.mem_append_left _ hf,hs⟩⟩
    ·exact ⟨h1,.inr ⟨_,List.mem_append_right _ (List.mem_singleton.2 rfl),h⟩⟩
   ·rintro ⟨h1,h | ⟨f,hf,hs⟩⟩
    ·exact ⟨h1,.inl (.inl h)⟩
    ·rcases List.mem_append.1 hf with hf | hf
     ·exact ⟨h1,.inl (.inr ⟨f,hf,hs⟩)⟩
     ·rw [List.mem_singleton.1 hf] at hs
      exact ⟨h1,.inr hs⟩
 simp only [evs,evb,zdf] at g7
 have:i=b.ins.length:=by omega
 subst this
 refine ⟨fun g8=>?_,fun g8=>?_⟩
 ·simp only [evs,evb] at g8
  have hc:b.e.calls=true:=by
   unfold EndX.calls
   simp only [Bool.or_eq_true,zdt] at g8
   exact decide_eq_true g8
  refine z0a zr0 (h7.pure (R:=fun x S'=>∃v,x=.returned v∧SlR S' (z2b p (k:Int)) v) (zyf p (.slice b0 p.blocks.length c0) (k:Int) S6 (hbv2.le (PH.le_trans le5 l6)) hp hE)) ?_
  rintro x K8 ⟨S8,l8,h8,av8,rfl,hav8⟩
  obtain ⟨b8,c8,rfl⟩:=hav8.sl
  have hal:=zyt hp (k:Int)
  refine ⟨_,[.slice b8 (z2b p (k:Int)).length c8],rfl,rfl,rfl,z06,?_⟩
  simp only [cns]
  refine ⟨fun n vs K=>∃(j:Nat) (es:Array MapEntry) (cl:Nat) (N:List (Int×GN)),vs=[nI j]∧j+n=(z2b p (k:Int)).length∧Held S8 K (grB gr es cl++grI N)∧GrOk es cl N∧∀c d,relN N c d↔c≠d∧((((c∈liveL p 0 0∧d∈liveL p 0 0)∨∃f∈z2k p k,f.sym c d)∨∃f∈z3h p k b b.ins.length,f.sym c d)∨symL b.e.to ((z2b p (k:Int)).take j) c d),
   ⟨(z2b p (k:Int)).length,0,es7,cl7,N7,rfl,by omega,h8,ok7,fun c d=>by rw [r7];simp [symL]⟩,?_⟩
  rintro n9 vs K9 _ ⟨j,es9,cl9,N9,rfl,hjn,h9,ok9,r9⟩
  simp only [cns]
  refine ⟨fun g9=>?_,fun g9=>?_⟩
  ·simp only [evs,evb,zdt] at g9
   obtain ⟨r,hr⟩:∃r,(z2b p (k:Int))[j]?=some r:=⟨_,zge (show j < (z2b p (k:Int)).length by omega)⟩
   obtain ⟨w1,_,wcs,w2,w3⟩:=(hav8.le h9.sh).get hr
   obtain ⟨rfl,_⟩:=csIK w2
   refine ⟨fun _=>?_,[.int .i64 r],rfl,?_,?_⟩
   ·simp only [Chk.holds,evs,evb];exact ⟨w1,by omega,by omega⟩
   ·simp only [evs,evb];exact w3
   refine z0a z2z (znw gr es9 cl9 N9 b.e.to r S8 K9 h9 ok9) ?_
   rintro e K10 ⟨es10,cl10,N10,rfl,h10,ok10,r10⟩
   refine ⟨_,[],rfl,rfl,rfl,z06,_,z05,n9 - 1,by omega,j+1,es10,cl10,N10,?_,by omega,h10,ok10,znj r10 r9 fun c d=>?_⟩
   ·simp only [evs,evb];rw [w64 (by omega) (by omega)];rfl
   ·rw [zsk hr];simp only [or_assoc]
  ·simp only [evs,evb,zdf] at g9
   rw [List.take_of_length_le (by omega)] at r9
   refine ⟨_,z17 rfl (z17 rfl z05),rfl,es9,cl9,N9,S8,PH.le_trans l6 l8,h9,ok9,fun c d=>?_⟩
   rw [r9,zd2 hb,zc1,if_pos hc]
   constructor
   ·rintro ⟨h1,((h | ⟨f,hf,hs⟩) | ⟨f,hf,hs⟩) | h⟩
    ·exact ⟨h1,.inl h⟩
    ·exact ⟨h1,.inr ⟨f,List.mem_append_left _ hf,hs⟩⟩
    ·exact ⟨h1,.inr ⟨f,List.mem_append_right _ (List.mem_append_left _ hf),hs⟩⟩
    ·exact ⟨h1,.inr ⟨_,List.mem_append_right _ (List.mem_append_right _ (List.mem_singleton.2 rfl)),h⟩⟩
   ·rintro ⟨h1,h | ⟨f,hf,hs⟩⟩
    ·exact ⟨h1,.inl (.inl (.inl h))⟩
    ·rcases List.mem_append.1 hf with hf | hf
     ·exact ⟨h1,.inl (.inl (.inr ⟨f,hf,hs⟩))⟩
     ·rcases List.mem_append.1 hf with hf | hf
      ·exact ⟨h1,.inl (.inr ⟨f,hf,hs⟩)⟩
      ·rw [List.mem_singleton.1 hf] at hs
       exact ⟨h1,.inr hs⟩
 ·simp only [evs,evb] at g8
  have hc:¬b.e.calls=true:=by
   unfold EndX.calls
   simp only [Bool.or_eq_false_iff,zdf] at g8
   simp only [zdt]
   omega
  refine ⟨_,z17 rfl z05,rfl,es7,cl7,N7,S6,l6,h7,ok7,fun c d=>?_⟩
  rw [r7,zd2 hb,zc1,if_neg hc,List.append_nil]
  constructor
  ·rintro ⟨h1,(h | ⟨f,hf,hs⟩) | ⟨f,hf,hs⟩⟩
   ·exact ⟨h1,.inl h⟩
   ·exact ⟨h1,.inr ⟨f,List.mem_append_left _ hf,hs⟩⟩
   ·exact ⟨h1,.inr ⟨f,List.mem_append_right _ hf,hs⟩⟩
  ·rintro ⟨h1,h | ⟨f,hf,hs⟩⟩
   ·exact ⟨h1,.inl (.inl h)⟩
   ·rcases List.mem_append.1 hf with hf | hf
    ·exact ⟨h1,.inl (.inr ⟨f,hf,hs⟩)⟩
    ·exact ⟨h1,.inr ⟨f,hf,hs⟩⟩
def MapS (S:PH) (v:Value) (m:List (Int×Value)):Prop:=(∃r es clock,v=.map (some r)∧S r=some (.map es clock)∧EntsR (α:=Int) es.toList clock m)∨(v=.map none∧m=[])
theorem MapS.le {S S':PH} {v:Value} {m:List (Int×Value)} (h:MapS S v m) (hl:PH.le S S'):MapS S' v m:=
 h.imp (fun ⟨r,es,clock,h1,h2,h3⟩=>⟨r,es,clock,h1,hl _ _ h2,h3⟩) id
section
variable {P:Program} {X:List PanicEntry→PH→Prop} {β:Type} {E:List Value} {L:LK} {K:β→List Value→PH→LK→Prop} {H S:PH}
theorem Z6a {t kt et ty:TypeId} {x:Operand} {ts:Array TypeId} {args:List (Nat×VE)} {k:Fm β} {m:List (Int×Value)} {v:Value} (hts:ts[0]?=some t) (ht:P.underlying t=some (.map kt et))
  (hx:argEv E args x=v) (hS:PH.le S H) (h:MapS S v m) (hb:(m.length:Int)≤9223372036854775807)
  (hk:den P X k (E++[.int .i64 m.length]) H L K):den P X (.sem (.call ⟨.builtin .len,#[x],ts⟩) ty args (.sc (.int .i64)) [] k) E H L K:=by
 rcases h with ⟨r,es,clock,h1,h2,h3⟩ | ⟨h1,h2⟩
 ·exact zi6 (α:=Int) (m:=m) hts ht hx ⟨r,es,clock,h1,hS _ _ h2,h3⟩ hb z06 hk
 ·subst h2
  show wpS P (execOp (argEv E args) (bare _ ty)) _ _ H
  rw [zxa,hx,h1]
  unfold Builtin.len_
  simp only [hts,List.getElem?_toArray,List.getElem?_cons_zero,z09,z0g ht]
  exact ⟨[.int .i64 0],rfl,rfl,z06,hk⟩
theorem Z70 (E F:List Value) (u:Value):(E++[u]++F).getD E.length (.bool false)=u:=by
 rw [zgd,List.append_assoc,List.getElem?_append_right (Nat.le_refl _)];simp
theorem zle (E F:List Value) (u:Value) (t:Nat):argEv (E++[u]++F) [(t,.sc (.atom E.length))] (.tmp t)=u:=by
 have h1:([(t,VE.sc (.atom E.length))]:List (Nat×VE)).lookup t=some (.sc (.atom E.length)):=by simp [List.lookup]
 show (match ([(t,VE.sc (.atom E.length))]:List (Nat×VE)).lookup t with | some v=>evV (E++[u]++F) (fun _=>0) v | none=>undef)=u
 rw [h1]
 exact Z70 E F u
theorem zol {T kt et ty ty2 ty3:TypeId} {x:Operand} {args:List (Nat×VE)} {id jid t:Nat} {tags:List Tag} {init:List SV} {t2:Tag} {body after:Fm β} {m:List (Int×Value)} {v:Value} {q mm:Nat} (hq:q=E.length) (hmm:mm=E.length+1+tags.length) (ht:P.underlying T=some (.map kt et))
  (hx:argEv E args x=v) (hS:PH.le S H) (h:MapS S v m) (htag:∀y∈m,t2.ok y.2=true) (hjid:(jid == id)=false) (Inv:List Int→List Value→PH→Nat→Obj→Prop)
  (h0:∀i o,H i=none→Inv [] (init.map (ev0 (E++[Value.pointer (some ⟨i,0,none⟩)]))) (H.upd i o) i o)
  (hcell:∀done vs H' i o,Inv done vs H' i o→H' i=some o∧PH.le S H') (hput:∀done vs H' i o o',Inv done vs H' i o→Inv done vs (H'.upd i o') i o')
  (hstep:∀done y w vs H' i o J,(y,w)∈m→y∉done→z0h tags vs=true→Inv done vs H' i o→(∀vs' H'',Inv (y::done) vs' H'' i o→J vs' H'') →
   den P X body (E++[Value.pointer (some ⟨i,0,none⟩)]++vs++[.bool true]++[.int .i64 y,w]) H' ((id,J)::L) K)
  (hend:∀done vs H' i o J,(∀y,y∈m.map (·.1)↔y∈done)→done.Nodup→z0h tags vs=true→Inv done vs H' i o→den P X after (E++[Value.pointer (some ⟨i,0,none⟩)]++vs++[.bool false]) H' ((id,J)::L) K) :
  den P X (.sem (.range T x) ty args (.sc .ptr) [] (.loop id tags init (.join jid [.bool] (.ite (.atom mm) (.sem (.entry (.tmp t)) ty2 [(t,.sc (.atom q))] (.tu [(false,[.int .i64]),(false,[t2])]) [] body) after)
   (.alt (.next (.tmp t) false) ty3 [(t,.sc (.atom q))] (.tu [(false,[.bool])]) (.tu [(false,[.bool]),(false,[.int .i64]),(false,[t2])]) (.next jid [.atom mm]) (.next jid [.atom mm]))))) E H L K:=by
 subst hq hmm
 have hat:∀(i:Nat) (vs F:List Value) (u:Value),z0h tags vs=true→ev0 (E++[Value.pointer (some ⟨i,0,none⟩)]++vs++(u::F)) (.atom (E.length+1+tags.length))=u:=by
  intro i vs F u hvs
  have hl:=z15 hvs
  show (E++[Value.pointer (some ⟨i,0,none⟩)]++vs++(u::F)).getD _ _=u
  rw [zgd,List.getElem?_append_right (by simp;omega)]
  have:E.length+1+tags.length - (E++[Value.pointer (some ⟨i,0,none⟩)]++vs).length=0:=by simp;omega
  rw [this];rfl
 rcases h with ⟨r,es,clock,rfl,hr,hents⟩ | ⟨rfl,rfl⟩
 ·refine zkg (r:=r) (es:=es) (clock:=clock) ht hx (hS _ _ hr) (fun _ _=>z06) fun i hi=>?_
  have hinit:=h0 i (.mapIter (some r) clock #[] clock) hi
  have hl0:leftM es #[]=es.toList:=by unfold leftM;simp
  have hkeys:es.toList.map (·.key)=m.map fun x=>Value.int .i64 x.1:=by
   have:=congrArg (List.map Prod.fst) hents.ents
   simp only [List.map_map,Function.comp_def] at this
   exact this
  have hent:∀e∈es.toList,∃y w,(y,w)∈m∧e.key=.int .i64 y∧e.val=w:=by
   intro e he
   have h1:(e.key,e.val)∈es.toList.map (fun e=>(e.key,e.val)):=List.mem_map.2 ⟨e,he,rfl⟩
   rw [hents.ents] at h1
   obtain ⟨z,hz,hze⟩:=List.mem_map.1 h1
   simp only [Prod.mk.injEq] at hze
   exact ⟨z.1,z.2,hz,hze.1.symm,hze.2.symm⟩
  have hhas:∀y∈m.map (·.1),∃e∈es.toList,e.key=.int .i64 y:=by
   intro y hy
   obtain ⟨z,hz,rfl⟩:=List.mem_map.1 hy
   have h1:(Value.int .i64 z.1)∈es.toList.map (·.key):=by rw [hkeys];exact List.mem_map.2 ⟨z,hz,rfl⟩
   obtain ⟨e,he,hee⟩:=List.mem_map.1 h1
   exact ⟨e,he,hee⟩
  have huniq:∀e∈es.toList,∀e'∈es.toList,e.key=e'.key→e=e':=by
   intro e he e' he' hk
   obtain ⟨a,ha⟩:=List.getElem?_of_mem he
   obtain ⟨b,hb⟩:=List.getElem?_of_mem he'
   obtain ⟨y,w,hyw,hky,_⟩:=hent e he
   have hta:(m.map (·.1))[a]?=some y:=by
    have:=congrArg (fun l=>l[a]?) hkeys
    simp only [List.getElem?_map,ha,Option.map_some,hky] at this
    rw [List.getElem?_map]
    cases hx:m[a]? with
    | none=>rw [hx] at this;cases this
    | some z=>rw [hx] at this;simp at this;rw [this];rfl
   have htb:(m.map (·.1))[b]?=some y:=by
    have:=congrArg (fun l=>l[b]?) hkeys
    simp only [List.getElem?_map,hb,Option.map_some,←hk,hky] at this
    rw [List.getElem?_map]
    cases hx:m[b]? with
    | none=>rw [hx] at this;cases this
    | some z=>rw [hx] at this;simp at this;rw [this];rfl
   have hab:=(List.getElem?_inj (List.getElem?_eq_some_iff.1 hta).1 hents.keys).1 (hta.trans htb.symm)
   subst hab
   rw [ha] at hb;exact Option.some.inj hb
  refine ⟨fun n vs H'=>∃(seen:Array Nat) (done:List Int),n=(leftM es seen).length∧done.Nodup∧(∀y,y∈done↔y∈m.map (·.1)∧∀e∈leftM es seen,e.key≠.int .i64 y)∧Inv done vs H' i (.mapIter (some r) clock seen clock),⟨_,#[],[],rfl,List.nodup_nil,fun y=>?_,hinit⟩,?_⟩
  ·rw [hl0]
   simp only [List.not_mem_nil,false_iff,not_and]
   intro hy hno
   obtain ⟨e,he,hk⟩:=hhas y hy
   exact hno e he hk
  rintro n vs H' hvs ⟨seen,done,rfl,hnd,hdone,hinv⟩
  obtain ⟨hc,hSH⟩:=hcell _ _ _ _ _ hinv
  refine ⟨fun us H''=>∃b:Bool,us=[.bool b]∧((b=false∧leftM es seen=[]∧H''=H')∨(b=true∧∃e∈leftM es seen,Inv done vs H'' i (.mapIter (some r) clock (seen.push e.born) clock))),?_,?_⟩
  ·rintro us H'' _ ⟨b,rfl,hcase⟩
   refine ⟨fun g=>?_,fun g=>?_⟩
   ·rw [hat i vs [] _ hvs] at g
    have hb:b=true:=g
    subst hb
    rcases hcase with ⟨h,_⟩ | ⟨_,e,he,h2⟩
    ·cases h
    have hee:e∈es.toList:=(List.mem_filter.1 he).1
    obtain ⟨y,w,hyw,hek,hev⟩:=hent e hee
    obtain ⟨p1,p2⟩:=zet hents he
    obtain ⟨hc2,hS2⟩:=hcell _ _ _ _ _ h2
    refine zl8 (i:=i) (r:=r) (es:=es) (clock:=clock) (seen:=seen) (m:=m) (e:=e) ?_ hc2 (hS2 _ _ hr) hents hee (by rw [hek,hev];exact ⟨rfl,htag _ hyw⟩) ?_
    ·rw [List.append_assoc,zle]
    rw [hek,hev]
    have hynd:y∉done:=fun hy=>((hdone y).1 hy).2 e he hek
    refine hstep done y w vs H'' i _ _ hyw hynd hvs h2 fun vs' H3 h3=>⟨_,p1,seen.push e.born,y::done,rfl,List.nodup_cons.2 ⟨hynd,hnd⟩,fun z=>?_,h3⟩
    rw [List.mem_cons,hdone]
    constructor
    ·rintro (rfl | ⟨h4,h5⟩)
     ·refine ⟨List.mem_map.2 ⟨_,hyw,rfl⟩,fun e' he' hk'=>?_⟩
      have he2:=(p2 e').2 (.inr he')
      have:=huniq e' (List.mem_filter.1 he2).1 e hee (hk'.trans hek.symm)
      subst this
      have hno:=(List.mem_filter.1 he').2
      simp at hno
     ·exact ⟨h4,fun e' he'=>h5 e' ((p2 e').2 (.inr he'))⟩
    ·rintro ⟨h4,h5⟩
     by_cases hz:z=y
     ·exact .inl hz
     ·refine .inr ⟨h4,fun e' he' hk'=>?_⟩
      rcases (p2 e').1 he' with rfl | h6
      ·rw [hek] at hk';cases hk';exact hz rfl
      ·exact h5 e' h6 hk'
   ·rw [hat i vs [] _ hvs] at g
    have hb:b=false:=g
    subst hb
    rcases hcase with ⟨_,hnil,rfl⟩ | ⟨h,_⟩
    ·refine hend done vs H'' i _ _ (fun y=>?_) hnd hvs hinv
     rw [hdone,hnil];simp
    ·cases h
  ·refine zne (i:=i) (r:=r) (es:=es) (clock:=clock) (seen:=seen) (m:=m) ?_ hc (hSH _ _ hr) hents (fun e he=>?_) (fun hnil=>?_) fun e he=>?_
   ·rw [zle]
   ·obtain ⟨y,w,hyw,hek,hev⟩:=hent e he
    rw [hek,hev];exact ⟨rfl,htag _ hyw⟩
   ·refine ⟨_,z05,false,?_,.inl ⟨rfl,hnil,rfl⟩⟩
    rw [List.map_cons,List.map_nil,hat i vs [] _ hvs]
   ·refine ⟨_,z05,true,?_,.inr ⟨rfl,e,he,hput _ _ _ _ _ _ hinv⟩⟩
    rw [List.map_cons,List.map_nil,hat i vs _ _ hvs]
 ·show wpS P (execOp (argEv E args) (bare _ ty)) _ _ H
  rw [zqc,hx]
  unfold Instr.range
  simp only [z09,z0g ht,z2e]
  intro i hi
  have hinit:=h0 i (.mapIter none 0 #[] 0) hi
  refine ⟨[.pointer (some ⟨i,0,none⟩)],rfl,rfl,z06,?_⟩
  refine ⟨fun n vs H'=>Inv [] vs H' i (.mapIter none 0 #[] 0),⟨0,hinit⟩,?_⟩
  intro n vs H' hvs hinv
  obtain ⟨hc,hSH⟩:=hcell _ _ _ _ _ hinv
  refine ⟨fun us H''=>us=[.bool false]∧H''=H',?_,?_⟩
  ·rintro us H'' _ ⟨rfl,rfl⟩
   refine ⟨fun g=>?_,fun g=>?_⟩
   ·rw [hat i vs [] _ hvs] at g;cases g
   ·exact hend [] vs H'' i _ _ (fun y=>by simp) List.nodup_nil hvs hinv
  ·show wpS P (execOp (argEv _ _) (bare _ ty3)) _ _ H'
   rw [zst,zle]
   unfold Instr.next
   simp only [z09,z2e]
   refine ⟨_,hc,rfl,?_⟩
   refine .inl ⟨[.bool false],rfl,rfl,_,z05,?_,rfl⟩
   rw [List.map_cons,List.map_nil,hat i vs [] _ hvs]
end
theorem zp6:∀(L:List (Nat×Obj)) {S H:PH} {I:List Itm},Held S H ((L.map fun x=>Itm.blk x.1 x.2)++I)→∃S',PH.le S S'∧Held S' H I∧∀x∈L,S' x.1=some x.2
 | [],S,H,I,h=>⟨S,PH.le_refl _,h,fun x hx=>by cases hx⟩
 | a::L,S,H,I,h=>by
  have h':Held S H (.blk a.1 a.2::((L.map fun x=>Itm.blk x.1 x.2)++I)):=h
  obtain ⟨l1,h1⟩:=h'.freezeB
  obtain ⟨S2,l2,h2,h3⟩:=zp6 L h1
  refine ⟨S2,PH.le_trans l1 l2,h2,fun x hx=>?_⟩
  rcases List.mem_cons.1 hx with rfl | hx
  ·exact l2 _ _ PH.upd_same
  ·exact h3 x hx
structure GraphR (S:PH) (v:Value) (N:List (Int×GN)):Prop where
 at_:∃gr es cl,v=.map (some gr)∧S gr=some (.map es cl)∧GrOk es cl N
 in_:∀x∈N,S x.2.ref=some (.map x.2.es x.2.cl)
theorem GraphR.le {S S':PH} {v:Value} {N:List (Int×GN)} (h:GraphR S v N) (hl:PH.le S S'):GraphR S' v N:=by
 obtain ⟨gr,es,cl,h1,h2,h3⟩:=h.at_
 exact ⟨⟨gr,es,cl,h1,hl _ _ h2,h3⟩,fun x hx=>hl _ _ (h.in_ x hx)⟩
theorem zzr {S H:PH} {gr:Nat} {es:Array MapEntry} {cl:Nat} {N:List (Int×GN)} (h:Held S H (grB gr es cl++grI N)) (ok:GrOk es cl N):∃S',PH.le S S'∧PH.le S' H∧GraphR S' (.map (some gr)) N:=by
 have e:grB gr es cl++grI N=(((gr,Obj.map es cl)::N.map fun x=>(x.2.ref,Obj.map x.2.es x.2.cl)).map fun x=>Itm.blk x.1 x.2)++[]:=by
  simp [grB,grI,Function.comp_def]
 rw [e] at h
 obtain ⟨S',l1,h1,h2⟩:=zp6 _ h
 exact ⟨S',l1,h1.sh,⟨gr,es,cl,rfl,h2 _ (zms),ok⟩,fun x hx=>h2 (x.2.ref,_) (zmm _ (List.mem_map.2 ⟨x,hx,rfl⟩))⟩
def adjN (N:List (Int×GN)) (c:Int):List Int:=match N.find? fun x=>decide (x.1=c) with
 | some x=>x.2.s
 | none=>[]
theorem zs2 {N:List (Int×GN)} (hn:(N.map (·.1)).Nodup) (c:Int):(∃(j:Nat) (x:Int×GN),N[j]?=some x∧x.1=c∧adjN N c=x.2.s)∨((∀x∈N,x.1≠c)∧adjN N c=[]):=by
 unfold adjN
 cases hf:N.find? fun x=>decide (x.1=c) with
 | none=>
  rw [List.find?_eq_none] at hf
  exact .inr ⟨fun x hx e=>hf x hx (decide_eq_true e),rfl⟩
 | some x=>
  obtain ⟨j,hj⟩:=List.getElem?_of_mem (List.mem_of_find?_eq_some hf)
  have hd:=List.find?_some hf
  exact .inl ⟨j,x,hj,by simpa using hd,rfl⟩
theorem Z7w {N:List (Int×GN)} (hn:(N.map (·.1)).Nodup) (c d:Int):d∈adjN N c↔relN N c d:=by
 rcases zs2 hn c with ⟨j,x,hj,hx,he⟩ | ⟨hno,he⟩
 ·rw [he]
  constructor
  ·exact fun h=>⟨x,List.mem_of_getElem? hj,hx,h⟩
  ·rintro ⟨y,hy,h1,h2⟩
   obtain ⟨t,ht⟩:=List.getElem?_of_mem hy
   have h3:(N.map (·.1))[j]?=some c:=by rw [List.getElem?_map,hj,←hx];rfl
   have h4:(N.map (·.1))[t]?=some c:=by rw [List.getElem?_map,ht,←h1];rfl
   have:=(List.getElem?_inj (List.getElem?_eq_some_iff.1 h3).1 hn).1 (h3.trans h4.symm)
   subst this
   rw [hj] at ht;cases ht;exact h2
 ·rw [he]
  constructor
  ·intro h;cases h
  ·rintro ⟨y,hy,h1,_⟩;exact absurd h1 (hno y hy)
theorem GraphR.keys {S:PH} {v:Value} {N:List (Int×GN)} (h:GraphR S v N):(N.map (·.1)).Nodup:=by
 obtain ⟨gr,es,cl,_,_,h3⟩:=h.at_;exact zke h3
theorem GraphR.adj_nodup {S:PH} {v:Value} {N:List (Int×GN)} (h:GraphR S v N) (c:Int):(adjN N c).Nodup:=by
 obtain ⟨gr,es,cl,_,_,h3⟩:=h.at_
 rcases zs2 h.keys c with ⟨j,x,hj,hx,he⟩ | ⟨hno,he⟩
 ·rw [he];exact (h3.inner j x hj).nodup
 ·rw [he];exact List.nodup_nil
theorem GraphR.look {S:PH} {v:Value} {N:List (Int×GN)} (h:GraphR S v N) (c:Int):MapR S v (outM N)∧∃w,(getM (outM N) c).getD (.map none)=w∧Tag.ok .map w=true∧MapS S w (encS (adjN N c)):=by
 obtain ⟨gr,es,cl,rfl,h2,h3⟩:=h.at_
 refine ⟨⟨gr,es,cl,rfl,h2,h3.outer⟩,?_⟩
 rcases zs2 h.keys c with ⟨j,x,hj,hx,he⟩ | ⟨hno,he⟩
 ·have:=zhy h.keys hj
  rw [hx] at this
  rw [this,he]
  exact ⟨_,rfl,rfl,.inl ⟨x.2.ref,x.2.es,x.2.cl,rfl,h.in_ x (List.mem_of_getElem? hj),h3.inner j x hj⟩⟩
 ·rw [zkz hno,he]
  exact ⟨_,rfl,rfl,.inr ⟨rfl,rfl⟩⟩
set_option maxHeartbeats 1000000 in
theorem zwx (l:List Int) (v:Value) (S K:PH) (I:List Itm) (h:Held S K (orow 3 l v::I)) (hl:l.length≤40000000) :
  Tri Tryz.prog zag #[v] K fun x K'=>x=.returned (.tuple #[])∧Held S K' (orow 3 l.reverse v::I):=by
 obtain ⟨b,c,rfl⟩:=(h.row (zms)).sl
 refine z9a [.slice b l.length c] (by kernel_rfl) (by kernel_rfl) ?_
 refine ⟨fun n vs K'=>∃(i:Nat) (m:List Int),vs=[nI i,.int .i64 ((l.length:Int) - 1 - i)]∧n=l.length - i∧i≤l.length∧RevAt l m i∧Held S K' (orow 3 m (.slice b l.length c)::I),⟨_,0,l,?_,rfl,by omega,RevAt.first l,h⟩,?_⟩
 ·simp only [evs,evb]
  rw [w64 (by omega) (by omega)]
  simp
 rintro n vs K1 _ ⟨i,m,rfl,rfl,hil,hr,h1⟩
 refine ⟨fun g=>?_,fun g=>?_⟩
 ·simp only [evs,evb,zdt] at g
  have hi2:2 * i+1 < l.length:=by omega
  obtain ⟨k,hk⟩:∃k:Nat,(l.length:Int) - 1 - i=(k:Int):=⟨l.length - 1 - i,by omega⟩
  have hk':k=l.length - 1 - i:=by omega
  rw [hk]
  obtain ⟨a,ha⟩:∃a,m[i]?=some a:=⟨_,zge (by rw [hr.len];omega)⟩
  obtain ⟨z,hz⟩:∃z,m[k]?=some z:=⟨_,zge (by rw [hr.len];omega)⟩
  obtain ⟨a1,_,acs,a2,a3⟩:=(h1.row (zms)).get ha
  obtain ⟨z1,_,zcs,z2,z3⟩:=(h1.row (zms)).get hz
  obtain ⟨rfl,a4⟩:=csIK a2
  obtain ⟨rfl,z4⟩:=csIK z2
  refine ⟨fun _=>?_,[.int .i64 z],rfl,?_,fun _=>?_,[.int .i64 a],rfl,?_,?_⟩
  ·simp only [Chk.holds,evs,evb];exact ⟨z1,by omega,by omega⟩
  ·simp only [evs,evb];exact z3
  ·simp only [Chk.holds,evs,evb];exact ⟨a1,by omega,by omega⟩
  ·simp only [evs,evb];exact a3
  refine z1d (i:=i) (a:=a) (a':=z) (us:=[.int .i64 z]) ?_ h1 ha rfl ?_ (by simp [oneC]) (z0o z4) fun K2 h2=>?_
  ·simp only [evs,evb];rfl
  ·simp only [evs,evb]
  have hz':(m.set i z)[k]?=some z:=by
   rw [List.getElem?_set,if_neg (by omega)];exact hz
  refine z1d (i:=k) (a:=z) (a':=a) (us:=[.int .i64 a]) ?_ h2 hz' rfl ?_ (by simp [oneC]) (z0o a4) fun K3 h3=>?_
  ·simp only [evs,evb];rfl
  ·simp only [evs,evb]
  refine ⟨_,z05,l.length - (i+1),by omega,i+1,(m.set i z).set k a,?_,rfl,by omega,?_,h3⟩
  ·simp only [evs,evb]
   rw [w64 (by omega) (by omega),w64 (by omega) (by omega)]
   congr 2
   congr 1
   omega
  ·subst hk';exact hr.step hi2 ha hz
 ·simp only [evs,evb,zdf] at g
  have:=hr.done (by omega)
  subst this
  exact ⟨rfl,h1⟩
def mulA:SV:=match z3v with
 | .leaf (.tu [(_,[a]),_])=>a
 | _=>.int .u64 1
def mulB:SV:=match z3v with
 | .leaf (.tu [_,(_,[b])])=>b
 | _=>.int .u64 1
theorem Z83:((List.range 2001).all fun R=>decide (iOf (ev [.int .u64 1,.int .u64 (R:Int)] (fun _=>0) mulA)=0) && decide (iOf (ev [.int .u64 1,.int .u64 (R:Int)] (fun _=>0) mulB)=(R:Int)))=true:=by decide +kernel
section
variable {P:Program} {Φ:Next→PH→Prop} {Ψ:Value→PH→Prop} {H S:PH} {ρ:Operand→Value} {I:List Itm}
theorem Z5e {x y:Operand} {ts:Array TypeId} {ty:TypeId}:wpS P (execOp ρ (bare (.call ⟨.builtin .copy,#[x,y],ts⟩) ty)) Φ Ψ H=wpS P (Builtin.copy_ ts ty #[ρ x,ρ y]) (fun v H'=>Φ (.value v) H') Ψ H:=by
 simp only [execOp,bare,resolve,z09,z0l]
 simp only [invoke,List.map_toArray,List.map_cons,List.map_nil,builtin,z09,z0l]
variable {X:List PanicEntry→PH→Prop} {β:Type} {E:List Value} {L:LK} {K:β→List Value→PH→LK→Prop}
theorem zsu {T ty e:TypeId} {ts:Array TypeId} {x y:Operand} {args:List (Nat×VE)} {k:Fm β} {r d dl dc sl sc m:Nat} {sa:Addr} {BT:TypeId} {cs:List Value} (vs:List Value) (hts:ts[0]?=some T) (hT:P.underlying T=some (.slice e)) (hiz:(P.info? e).map (·.size)=some 1)
  (hx:argEv E args x=.slice (some ⟨r,d,none⟩) dl dc) (hy:argEv E args y=.slice (some sa) sl sc) (h:Held S H (bx r BT cs::I)) (hm:m=min sl dl) (hvs:vs.length=m) (hread:∀i v,vs[i]?=some v→H.cell? (sa.add i)=some v) (hfit:d+m≤cs.length) (h1:∀v∈vs,oneC v=true) (hml:(m:Int)≤9223372036854775807)
  (hk:∀H',Held S H' (bx r BT (cs.take d++vs++cs.drop (d+m))::I)→den P X k (E++[.int .i64 m]) H' L K):den P X (.sem (.call ⟨.builtin .copy,#[x,y],ts⟩) ty args (.sc (.int .i64)) [] k) E H L K:=by
 obtain ⟨i,hi,hz⟩:=Option.map_eq_some_iff.1 hiz
 show wpS P (execOp (argEv E args) (bare _ ty)) _ _ H
 rw [Z5e,hx,hy]
 unfold Builtin.copy_
 simp only [hts,List.getElem?_toArray,List.getElem?_cons_zero,List.getElem?_cons_succ,z09,z0g hT]
 show wpS P (Builtin.lenOf (.slice (some sa) sl sc)) _ _ H
 show wpS P (sizeOf e) _ _ H
 rw [z2a hi,hz]
 show wpS P (loadCells sa (Nat.min sl dl * 1)) _ _ H
 have hmm:Nat.min sl dl * 1=m:=by rw [Nat.mul_one,hm]
 rw [hmm]
 refine z4o hvs hread ?_
 show wpS P (storeCells ⟨r,d,none⟩ vs.toArray.toList) _ _ H
 rw [List.toList_toArray]
 refine z1u vs d 0 cs.toArray H (h.blk (zms)) (by simp [hvs]<;>omega) h1 ?_
 have h2:=h.put (.cells (cs.take d++vs++cs.drop (d+vs.length)).toArray BT (0,0))
 have e2:z12 cs.toArray (d+0) vs=(cs.take d++vs++cs.drop (d+vs.length)).toArray:=by
  unfold z12;simp
 rw [e2]
 rw [hvs] at h2
 rw [hvs]
 refine ⟨[.int .i64 m],rfl,?_,z06,hk _ h2⟩
 show goInt (Nat.min sl dl)=_
 rw [show Nat.min sl dl=m from hm.symm];rfl
end
theorem zxx (R:Nat) (hR:R≤2000) (H:PH):Gives Tryz.prog zm2 [.int .u64 1,.int .u64 (R:Int)] H (.tuple #[.int .u64 0,.int .u64 (R:Int)]):=by
 refine zju [.int .u64 1,.int .u64 (R:Int)] (by kernel_rfl) (by kernel_rfl) ?_
 have h:=List.all_eq_true.1 Z83 R (List.mem_range.2 (by omega))
 rw [zba,zdt,zdt] at h
 obtain ⟨h1,h2⟩:=h
 refine ⟨?_,PH.le_refl _⟩
 show Ending.returned (.tuple #[.int .u64 (iOf (ev [.int .u64 1,.int .u64 (R:Int)] (fun _=>0) mulA)),.int .u64 (iOf (ev [.int .u64 1,.int .u64 (R:Int)] (fun _=>0) mulB))])=_
 rw [h1,h2]
theorem Z3p (R:Nat) (hR:R≤2000) (H:PH):Gives Tryz.prog zpd [.int .u64 1,.int .u64 (R:Int)] H (.tuple #[.int .u64 0,.int .u64 (R:Int)]):=by
 refine zlu [.int .u64 1,.int .u64 (R:Int)] (by kernel_rfl) (by kernel_rfl) ?_
 exact z0b [.int .u64 0,.int .u64 (R:Int)] zld (zxx R hR H) rfl z06 fun K l=>⟨rfl,l⟩
theorem zru:OneOk Tryz.prog 3 8 (.int .i64 0):=OneOk.of (by kernel_rfl) rfl
theorem Z00 (n m R:Nat) (u z:Value) (h:n+m≤R):(List.replicate n u++List.replicate (R - n) z).take n++List.replicate m u++(List.replicate n u++List.replicate (R - n) z).drop (n+m)=List.replicate (n+m) u++List.replicate (R - (n+m)) z:=by
 rw [List.take_left' (by simp),List.drop_append,List.length_replicate,Nat.add_sub_cancel_left,List.drop_of_length_le (by simp),List.nil_append,List.drop_replicate,←List.replicate_append_replicate]
 congr 2;omega
set_option maxHeartbeats 1000000 in
theorem Z2e (R:Nat) (hR:R≤2000) (a:Int) (lv:Value) (S:PH) (hl:SlR S [a] lv) :
  Tri Tryz.prog zai #[lv,.int .i64 (R:Int)] S fun x K=>∃v,x=.returned v∧Held S K [orow 3 (List.replicate R a) v]:=by
 have hl0:=hl
 obtain ⟨b1,c1,rfl⟩:=hl.sl
 obtain ⟨ad,had⟩:∃ad,b1=some ad:=by
  rcases (SlR.mk_iff.1 hl).2 with ⟨_,h⟩ | ⟨ad,c,h,_⟩
  ·cases h
  ·cases h;exact ⟨ad,rfl⟩
 subst had
 obtain ⟨_,_,acs,q2,q3⟩:=hl0.get (i:=0) (a:=a) rfl
 obtain ⟨rfl,hai⟩:=csIK q2
 have hcell:S.cell? ad=some (.int .i64 a):=by
  obtain ⟨ad2,e1,f1⟩:=q3
  have h0:=f1 0 _ rfl
  have:ad2=ad:=by simp [eltV,pOf,z04,Addr.add_zero] at e1;exact e1.symm
  subst this
  simpa [Addr.add_zero] using h0
 refine z9p [.slice (some ad) 1 c1,.int .i64 (R:Int)] (by kernel_rfl) (by kernel_rfl) ?_
 refine ⟨fun vs K=>vs=[]∧K=S,?_,fun g=>?_,fun g=>⟨_,z05,rfl,rfl⟩⟩
 rotate_left
 ·simp only [evs,evb,zdt] at g;omega
 rintro vs K _ ⟨rfl,rfl⟩
 have hw1:IntKind.u64.wrap (1:Int)=1:=rfl
 have hw2:IntKind.u64.wrap (R:Int)=(R:Int):=by
  simp only [IntKind.wrap,IntKind.bits,IntKind.signed];simp;omega
 refine z0b [.int .u64 0,.int .u64 (R:Int)] zns ?_ rfl z06 fun K1 l1=>?_
 ·have:=Z3p R hR K
  simp only [evs,evb,zlc,List.length_nil]
  rw [hw2]
  exact this
 simp only [cns]
 refine ⟨fun vs K'=>vs=[]∧K'=K1,?_,fun g=>?_,fun g=>⟨_,z05,rfl,rfl⟩⟩
 rotate_left
 ·simp only [evs,evb] at g
  simp only [Bool.or_eq_true,zdt] at g
  omega
 rintro vs K' _ ⟨rfl,rfl⟩
 have hw3:IntKind.i64.wrap (R:Int)=(R:Int):=by rw [w64 (by omega) (by omega)]
 simp only [List.cons_append,List.nil_append,List.append_nil]
 refine zc7 (n:=R) z0y zru (by show Value.int .i64 (IntKind.i64.wrap (R:Int))=_;rw [hw3]) (by show Value.int .i64 (IntKind.i64.wrap (R:Int))=_;rw [hw3]) (by simp only [maxLen];omega) (by omega) (Held.nil l1) fun r K2 h2 _=>?_
 have h2:=h2.rawBlk
 simp only [cns]
 have hm:min 1 R≤R:=Nat.min_le_right _ _
 refine zsu (BT:=3) (m:=min 1 R) (sl:=1) (dl:=R) (d:=0) (sa:=ad) (sc:=c1) (dc:=R) (List.replicate (min 1 R) (.int .i64 a)) rfl z0y (by kernel_rfl) (by kernel_rfl) (by kernel_rfl) h2 rfl (by simp) (fun i v hv=>?_) (by simp;omega) (fun v hv=>by rw [(List.mem_replicate.1 hv).2];rfl) (by omega) fun K3 h3=>?_
 ·rw [List.getElem?_replicate] at hv
  split at hv
  ·rename_i hi
   have:i=0:=by omega
   subst this
   cases hv
   rw [Addr.add_zero]
   exact PH.cell_le h2.sh hcell
  ·cases hv
 have h3:Held K K3 [bx r 3 (List.replicate (min 1 R) (Value.int .i64 a)++List.replicate (R - min 1 R) (Value.int .i64 0))]:=by
  have e:=Z00 0 (min 1 R) R (Value.int .i64 a) (Value.int .i64 0) (by omega)
  simp only [List.replicate_zero,List.nil_append,Nat.zero_add,Nat.sub_zero] at e
  rw [Nat.zero_add,e] at h3
  exact h3
 simp only [cns]
 refine ⟨fun n vs K'=>∃j:Nat,vs=[nI j]∧n=R - j∧j≤R∧(j=0→R=0)∧Held K K' [bx r 3 (List.replicate j (Value.int .i64 a)++List.replicate (R - j) (Value.int .i64 0))],⟨_,min 1 R,rfl,rfl,hm,by omega,h3⟩,?_⟩
 rintro n vs K4 _ ⟨j,rfl,rfl,hjR,hj0,h4⟩
 simp only [cns]
 refine ⟨fun g=>?_,fun g=>?_⟩
 ·simp only [evs,evb,zdt] at g
  have hjl:j < R:=by omega
  refine ⟨fun _=>?_,fun _=>?_,?_⟩
  ·simp only [Chk.holds,evs,evb,slCap];omega
  ·simp only [Chk.holds,evs,evb,slCap];omega
  have hd:slsV (.slice (some ⟨r,0,none⟩) R R) (j:Int) (R:Int) 1=.slice (some ⟨r,j,none⟩) (R - j) (R - j):=by
   simp only [slsV,slCap,z04,Int.toNat_natCast,Nat.mul_one]
   rw [if_neg (by omega)];simp [Addr.add_plain]
  have hs:slsV (.slice (some ⟨r,0,none⟩) R R) 0 (j:Int) 1=.slice (some ⟨r,0,none⟩) j R:=by
   show Value.slice (if R=0 then some ⟨r,0,none⟩ else some (Addr.add ⟨r,0,none⟩ 0)) ((j:Int).toNat - 0) (R - 0)=_
   rw [if_neg (show ¬R=0 by omega),Addr.add_plain,Int.toNat_natCast];rfl
  refine zsu (BT:=3) (m:=min j (R - j)) (sl:=j) (dl:=R - j) (d:=j) (sa:=⟨r,0,none⟩) (sc:=R) (dc:=R - j) (List.replicate (min j (R - j)) (.int .i64 a)) rfl z0y (by kernel_rfl) ?_ ?_ h4 rfl (by simp) (fun i v hv=>?_) (by simp;omega) (fun v hv=>by rw [(List.mem_replicate.1 hv).2];rfl) (by omega) fun K5 h5=>?_
  ·exact hd
  ·exact hs
  ·rw [List.getElem?_replicate] at hv
   split at hv
   ·rename_i hi
    cases hv
    have hb:=h4.blk (zms)
    rw [Addr.add_plain,PH.cell_at hb,Nat.zero_add]
    simp only [List.getElem?_toArray]
    rw [List.getElem?_append_left (by simp;omega),List.getElem?_replicate,if_pos (by omega)]
   ·cases hv
  rw [Z00 j (min j (R - j)) R _ _ (by omega)] at h5
  refine ⟨_,z05,R - (j+min j (R - j)),by omega,j+min j (R - j),?_,rfl,by omega,by omega,h5⟩
  simp only [evs,evb];rw [w64 (by omega) (by omega)];congr 2
 ·simp only [evs,evb,zdf] at g
  have:j=R:=by omega
  subst this
  rw [Nat.sub_self,List.replicate_zero,List.append_nil] at h4
  have hrow:PV.RepRow K ((List.replicate j a).flatMap pv) (List.replicate j (Value.int .i64 a)):=by
   have:=zf3 (S:=K) (l:=List.replicate j a) fun x hx=>by rw [(List.mem_replicate.1 hx).2];exact hai
   rwa [List.map_replicate] at this
  have h5:=Held.blkRow (α:=Int) (L:=List.replicate j a) rfl h4 hrow (by simp only [List.length_replicate,maxLen];omega)
  rw [List.length_replicate] at h5
  exact ⟨_,rfl,h5⟩
structure GraphOk (R:Nat) (N:List (Int×GN)):Prop where
 keys:(N.map (·.1)).Nodup
 nd:∀c,(adjN N c).Nodup
 rel:∀c d,d∈adjN N c→c∈adjN N d∧c≠d∧0≤c∧c < R∧0≤d∧d < R
def degN (N:List (Int×GN)) (gone:List Int) (u:Int):Nat:=((adjN N u).filter fun d=>decide (d∉gone)).length
theorem zv3 {R:Nat} {N:List (Int×GN)} (h:GraphOk R N) (g:List Int) (u:Int):degN N g u≤R:=by
 have h1:(adjN N u).length≤((List.range R).map Int.ofNat).length:=z0z (h.nd u) fun d hd=>by
  have:=h.rel u d hd
  exact List.mem_map.2 ⟨d.toNat,List.mem_range.2 (by omega),show ((d.toNat:Nat):Int)=d by omega⟩
 rw [List.length_map,List.length_range] at h1
 exact Nat.le_trans (List.length_filter_le _ _) h1
theorem zw8 (N:List (Int×GN)) (u:Int):degN N [] u=(adjN N u).length:=by
 unfold degN;rw [List.filter_eq_self.2];intro d _;simp
theorem zxy {l:List Int} (hn:l.Nodup) (g:List Int) (b:Int) (hb:b∉g):(l.filter fun d=>decide (d∉g++[b])).length=(l.filter fun d=>decide (d∉g)).length - (if b∈l then 1 else 0):=by
 induction l with
 | nil=>simp
 | cons a l ih=>
  obtain ⟨h1,h2⟩:=List.nodup_cons.1 hn
  have ih:=ih h2
  rw [List.filter_cons,List.filter_cons]
  by_cases e:a=b
  ·subst e
   rw [if_neg h1,Nat.sub_zero] at ih
   rw [if_neg (by simp),if_pos (by simpa using hb),if_pos (zms),ih,zlc,Nat.add_sub_cancel]
  ·have hiff:(b∈a::l)↔b∈l:=by rw [List.mem_cons];exact ⟨fun h=>h.elim (fun h=>absurd h.symm e) id,.inr⟩
   have hif:(if b∈a::l then 1 else 0)=(if b∈l then 1 else 0):=by simp only [hiff]
   rw [hif]
   by_cases hg:a∈g
   ·rw [if_neg (by simp [hg]),if_neg (by simp [hg]),ih]
   ·rw [if_pos (by simp [hg,e]),if_pos (by simp [hg]),zlc,zlc,ih]
    by_cases hbl:b∈l
    ·have hpos:0 < (l.filter fun d=>decide (d∉g)).length:=List.length_pos_iff.2 fun hnil=>by
      have:b∈l.filter fun d=>decide (d∉g):=List.mem_filter.2 ⟨hbl,by simpa using hb⟩
      rw [hnil] at this;cases this
     rw [if_pos hbl];omega
    ·rw [if_neg hbl];omega
theorem Z79 {R:Nat} {N:List (Int×GN)} (h:GraphOk R N) {g:List Int} {b u:Int} (hb:b∉g):degN N (g++[b]) u=degN N g u - (if b∈adjN N u then 1 else 0):=zxy (h.nd u) g b hb
theorem Z0h {N:List (Int×GN)} {g:List Int} {b u:Int} (hb:b∉g) (hu:b∈adjN N u):0 < degN N g u:=by
 unfold degN
 refine List.length_pos_iff.2 fun hnil=>?_
 have:b∈(adjN N u).filter fun d=>decide (d∉g):=List.mem_filter.2 ⟨hu,by simpa using hb⟩
 rw [hnil] at this;cases this
def OrdOk (N:List (Int×GN)) (R:Nat) (k:Int) (st:List Int):Prop:=∀(t:Nat) s,st[t]?=some s→(degN N (st.take t) s:Int) < k∨∀u:Nat,u < R→(u:Int)∉st.take t→k≤degN N (st.take t) u
theorem Z55 {R:Nat} {st:List Int} (hn:st.Nodup) (hr:∀s∈st,0≤s∧s < R) (hl:st.length < R):∃j:Nat,j < R∧(j:Int)∉st:=by
 refine Classical.byContradiction fun hno=>?_
 have hall:∀j:Nat,j < R→(j:Int)∈st:=fun j hj=>Classical.byContradiction fun h=>hno ⟨j,hj,h⟩
 have h1:((List.range R).map Int.ofNat).length≤st.length:=z0z (by
  rw [List.Nodup,List.pairwise_map]
  exact (List.nodup_range (n:=R)).imp fun h e=>h (Int.ofNat.inj e)) fun y hy=>by
   obtain ⟨i,hi,rfl⟩:=List.mem_map.1 hy
   exact hall i (List.mem_range.1 hi)
 rw [List.length_map,List.length_range] at h1
 omega
set_option maxHeartbeats 4000000 in
theorem Z50 (R:Nat) (hR:R≤2000) (k:Int) (gv:Value) (N:List (Int×GN)) (S:PH) (hg:GraphR S gv N) (ok:GraphOk R N) :
  Tri Tryz.prog zuh #[gv,.int .i64 (R:Int),.int .i64 k] S fun x S'=>PH.le S S'∧∃st v,x=.returned v∧SlR S' st.reverse v∧st.Nodup∧st.length=R∧(∀s:Int,s∈st→0≤s∧s < R)∧OrdOk N R k st:=by
 obtain ⟨gr,ges,gcl,rfl,_,_⟩:=hg.at_
 refine zoe [.map (some gr),.int .i64 (R:Int),.int .i64 k] (by kernel_rfl) (by kernel_rfl) ?_
 refine ⟨fun vs K=>∃dv nv,vs=[dv,nv]∧Held S K [orow 3 (List.replicate R (0:Int)) dv,orow 4 (List.replicate R false) nv],?_,?_,?_⟩
 rotate_left
 ·refine z3p (α:=Int) (n:=R) 0 rfl (fun S=>z0o InI0) z0y zru (by kernel_rfl) (by kernel_rfl) (by simp only [maxLen];omega) (by omega) (Held.nil (PH.le_refl S)) fun v1 K1 h1 _=>?_
  refine z3p (α:=Bool) (n:=R) false rfl (fun S=>zby) zlm zhm (by kernel_rfl) (by kernel_rfl) (by simp only [maxLen];omega) (by omega) h1 fun v2 K2 h2 _=>?_
  exact ⟨_,z05,v1,v2,rfl,h2.perm (List.Perm.swap _ _ _)⟩
 ·refine z3p (α:=Bool) (n:=R) false rfl (fun S=>zby) zlm zhm (by kernel_rfl) (by kernel_rfl) (by simp only [maxLen];omega) (by omega) (Held.nil (PH.le_refl S)) fun v1 K1 h1 _=>?_
  refine z3p (α:=Int) (n:=R) 0 rfl (fun S=>z0o InI0) z0y zru (by kernel_rfl) (by kernel_rfl) (by simp only [maxLen];omega) (by omega) h1 fun v2 K2 h2 _=>?_
  exact ⟨_,z05,v2,v1,rfl,h2⟩
 rintro vs K1 _ ⟨dv,nv,rfl,h1⟩
 obtain ⟨db,dc,rfl⟩:∃b c,dv=.slice b R c:=by have:=(h1.row (zms)).sl;rwa [List.length_replicate] at this
 obtain ⟨nb,nc,rfl⟩:∃b c,nv=.slice b R c:=by have:=(h1.row (zmm _ (zms))).sl;rwa [List.length_replicate] at this
 simp only [cns]
 refine ⟨fun n vs K=>∃(i:Nat) (l:List Int),vs=[nI i]∧i+n=R∧l.length=R∧Held S K [orow 3 l (.slice db R dc),orow 4 (List.replicate R false) (.slice nb R nc)]∧∀j,j < i→l[j]?=some (degN N [] (j:Int):Int),
  ⟨R,0,_,rfl,by omega,by simp,h1,fun j h=>by omega⟩,?_⟩
 rintro n vs K2 _ ⟨i,l,rfl,hin,hl,h2,hd⟩
 simp only [cns]
 refine ⟨fun g=>?_,fun g=>?_⟩
 ·simp only [evs,evb,zdt] at g
  obtain ⟨hm,w,hw1,hw2,hw3⟩:=(hg.le h2.sh).look (i:Int)
  refine z4i (α:=Int) (m:=outM N) (v:=.map (some gr)) (i:Int) (.map none) z9r kIntK (by kernel_rfl) (by kernel_rfl) (by kernel_rfl) hm (by rw [hw1];exact hw2) z06 ?_
  rw [hw1]
  obtain ⟨wm,rfl⟩:∃wm,w=.map wm:=by cases w<;>simp [Tag.ok] at hw2;exact ⟨_,rfl⟩
  have hdl:=zv3 ok [] (i:Int)
  have hdn:=zw8 N (i:Int)
  simp only [cns]
  refine Z6a (m:=encS (adjN N (i:Int))) (v:=.map wm) rfl zbw (by kernel_rfl) (PH.le_refl K2) hw3 (by simp [encS];omega) ?_
  obtain ⟨c,hc⟩:∃c,l[i]?=some c:=⟨_,zge (by omega)⟩
  obtain ⟨t1,_⟩:=(h2.row (zms)).get hc
  refine ⟨fun _=>?_,?_⟩
  ·simp only [Chk.holds,evs,evb];exact ⟨t1,by omega,by omega⟩
  have hlen:(encS (adjN N (i:Int))).length=degN N [] (i:Int):=by rw [hdn];simp [encS]
  rw [hlen]
  refine z1d (i:=i) (a:=c) (a':=(degN N [] (i:Int):Int)) (us:=[.int .i64 (degN N [] (i:Int):Int)]) ?_ h2 hc rfl ?_ (by simp [oneC]) (z0o (by unfold InI;omega)) fun K3 h3=>?_
  ·simp only [evs,evb];rfl
  ·simp only [evs,evb]
  refine ⟨_,z05,n - 1,by omega,i+1,l.set i _,?_,by omega,by simpa using hl,h3,fun j hj=>?_⟩
  ·simp only [evs,evb];rw [w64 (by omega) (by omega)];rfl
  ·rw [List.getElem?_set]
   by_cases e:i=j
   ·subst e;rw [if_pos rfl,if_pos (by omega)]
   ·rw [if_neg e];exact hd j (by omega)
 simp only [evs,evb,zdf] at g
 have hiR:i=R:=by omega
 subst hiR
 have h2e:=(h2.empty (α:=Int) 3)
 refine ⟨fun n vs K=>∃(st:List Int) (sv:Value) (l:List Int) (gn:List Bool) (S':PH),vs=[sv]∧n=i - st.length∧PH.le S S'∧Held S' K [orow 3 st sv,orow 3 l (.slice db i dc),orow 4 gn (.slice nb i nc)]∧st.Nodup∧(∀s:Int,s∈st→0≤s∧s < i)∧st.length≤i∧OrdOk N i k st∧l.length=i∧(∀j,j < i→l[j]?=some (degN N st (j:Int):Int))∧gn.length=i∧∀j,j < i→gn[j]?=some (decide ((j:Int)∈st)),
  ⟨i,[],.slice none 0 0,l,List.replicate i false,S,rfl,rfl,PH.le_refl S,h2e,List.nodup_nil,fun s h=>(by cases h),by simp,fun t s h=>(by simp at h),hl,hd,by simp,fun j hj=>by rw [List.getElem?_replicate,if_pos hj];simp⟩,?_⟩
 rintro n vs K3 _ ⟨st,sv,l3,gn,S3,rfl,rfl,le3,h3,hnd,hrg,hstl,hord,hl3,hd3,hgl,hgn⟩
 obtain ⟨sb,sc,rfl⟩:=(h3.row (zms)).sl
 simp only [cns]
 refine ⟨fun g=>?_,fun g=>?_⟩
 rotate_left
 ·simp only [evs,evb,zdf] at g
  have hsl:st.length=i:=by omega
  refine z0a z9v (zwx st _ S3 K3 _ h3 (by omega)) ?_
  rintro x K4 ⟨rfl,h4⟩
  refine ⟨_,[],rfl,rfl,rfl,z06,?_⟩
  obtain ⟨S5,s5,l5,h5⟩:=h4.freeze
  exact ⟨PH.le_trans le3 (PH.le_trans l5 h5.sh),st,_,rfl,s5.le h5.sh,hnd,hsl,hrg,hord⟩
 simp only [evs,evb,zdt] at g
 have hsl:st.length < i:=by omega
 obtain ⟨j0,hj0,hj0n⟩:=Z55 hnd hrg hsl
 have hdeg:∀j,degN N st j≤i:=fun j=>zv3 ok st j
 have rdD:∀j,j < i→(z04 (.slice db i dc)).isSome=true∧rowAt K3 (pOf (eltV (.slice db i dc) (j:Int) 1)) [.int .i64 (degN N st (j:Int):Int)]:=fun j hj=>by
  obtain ⟨t1,_,tcs,t2,t3⟩:=(h3.row (zmm _ (zms))).get (hd3 j hj)
  obtain ⟨rfl,_⟩:=csIK t2
  exact ⟨t1,t3⟩
 have rdG:∀j,j < i→(z04 (.slice nb i nc)).isSome=true∧rowAt K3 (pOf (eltV (.slice nb i nc) (j:Int) 1)) [.bool (decide ((j:Int)∈st))]:=fun j hj=>by
  obtain ⟨t1,_,tcs,t2,t3⟩:=(h3.row (zmm _ (zmm _ (zms)))).get (hgn j hj)
  rw [csBK t2] at t3
  exact ⟨t1,t3⟩
 refine ⟨fun vs K=>K=K3∧∃best:Nat,vs=[nI best]∧best < i∧(best:Int)∉st∧((degN N st (best:Int):Int) < k∨∀u:Nat,u < i→(u:Int)∉st→k≤degN N st u),?_,?_⟩
 rotate_left
 ·
  refine ⟨fun n vs K=>K=K3∧∃(best:Int) (r:Nat),vs=[.int .i64 best,nI r]∧r+n=i∧((best=-1∧∀j:Nat,j < r→(j:Int)∈st)∨(0≤best∧best < r∧best∉st))∧∀u:Nat,u < r→(u:Int)∉st→k≤degN N st u,
   ⟨i,rfl,-1,0,rfl,by omega,.inl ⟨rfl,fun j h=>by omega⟩,fun u h=>by omega⟩,?_⟩
  rintro n vs K _ ⟨rfl,best,r,rfl,hrn,hbest,hall⟩
  simp only [cns]
  refine ⟨fun g2=>?_,fun g2=>?_⟩
  rotate_left
  ·simp only [evs,evb,zdf] at g2
   have hri:r=i:=by omega
   subst hri
   rcases hbest with ⟨_,hb⟩ | ⟨hb1,hb2,hb3⟩
   ·exact absurd (hb j0 hj0) hj0n
   ·obtain ⟨bn,rfl⟩:∃bn:Nat,best=(bn:Int):=⟨best.toNat,by omega⟩
    exact ⟨_,z17 rfl z05,rfl,bn,rfl,by omega,hb3,.inr hall⟩
  simp only [evs,evb,zdt] at g2
  have hri:r < i:=by omega
  obtain ⟨g3,g4⟩:=rdG r hri
  obtain ⟨d3,d4⟩:=rdD r hri
  have hdr:=hdeg (r:Int)
  refine ⟨fun vs K'=>K'=K∧∃best':Int,vs=[.int .i64 best']∧((best'=-1∧∀j:Nat,j < r+1→(j:Int)∈st)∨(0≤best'∧best' < (r+1:Nat)∧best'∉st))∧∀u:Nat,u < r+1→(u:Int)∉st→k≤degN N st u,?_,fun _=>?_,[.bool (decide ((r:Int)∈st))],rfl,?_,fun g5=>?_,fun g5=>?_⟩
  ·rintro vs K' _ ⟨rfl,best',rfl,hb',hall'⟩
   refine ⟨_,z05,n - 1,by omega,rfl,best',r+1,?_,by omega,hb',hall'⟩
   simp only [evs,evb];rw [w64 (by omega) (by omega)];rfl
  ·simp only [Chk.holds,evs,evb];exact ⟨g3,by omega,by omega⟩
  ·simp only [evs,evb];exact g4
  ·simp only [evs,evb,zdt] at g5
   refine ⟨_,z05,rfl,best,rfl,?_,fun u hu hn=>?_⟩
   ·rcases hbest with ⟨h1,h2⟩ | ⟨h1,h2,h3⟩
    ·refine .inl ⟨h1,fun j hj=>?_⟩
     by_cases e:j=r
     ·subst e;exact g5
     ·exact h2 j (by omega)
    ·exact .inr ⟨h1,by omega,h3⟩
   ·by_cases e:u=r
    ·subst e;exact absurd g5 hn
    ·exact hall u (by omega) hn
  simp only [evs,evb,zdf] at g5
  simp only [cns]
  refine ⟨fun _=>?_,[.int .i64 (degN N st (r:Int):Int)],rfl,?_,fun g6=>?_,fun g6=>?_⟩
  ·simp only [Chk.holds,evs,evb];exact ⟨d3,by omega,by omega⟩
  ·simp only [evs,evb];exact d4
  ·simp only [evs,evb,zdt] at g6
   exact ⟨_,z17 rfl (z17 rfl z05),rfl,r,rfl,hri,g5,.inl g6⟩
  simp only [evs,evb,zdf] at g6
  simp only [cns]
  have hall':∀u:Nat,u < r+1→(u:Int)∉st→k≤degN N st u:=fun u hu hn=>by
   by_cases e:u=r
   ·subst e;omega
   ·exact hall u (by omega) hn
  refine ⟨fun vs K'=>K'=K∧∃t:Bool,vs=[.bool t]∧(best < 0→t=true),?_,fun g7=>?_,fun g7=>?_,fun g7=>?_⟩
  ·rintro vs K' _ ⟨rfl,t,rfl,ht⟩
   refine ⟨_,z05,rfl,if t then (r:Int) else best,?_,?_,hall'⟩
   ·simp only [evs,evb];cases t<;>rfl
   ·cases t with
    | true=>exact .inr ⟨by simp,by simp;omega,g5⟩
    | false=>
     simp only [Bool.false_eq_true,if_false]
     rcases hbest with ⟨h1,h2⟩ | ⟨h1,h2,h3⟩
     ·have:=ht (by omega);cases this
     ·exact .inr ⟨h1,by omega,h3⟩
  ·rcases hbest with ⟨h1,h2⟩ | ⟨h1,h2,h3⟩
   ·have:=g7 ((.cmp .lss (.atom 7) (.int .i64 0)),false) (zms)
    subst h1
    simp [ev] at this
    simp [evs,evb] at this
   ·simp only [Chk.holds,evs,evb];exact ⟨d3,by omega,by omega⟩
  ·exact ⟨_,z05,rfl,true,rfl,fun _=>rfl⟩
  ·simp only [evs,evb,zdf] at g7
   rcases hbest with ⟨h1,h2⟩ | ⟨h1,h2,h3⟩
   ·omega
   obtain ⟨bn,rfl⟩:∃bn:Nat,best=(bn:Int):=⟨best.toNat,by omega⟩
   obtain ⟨e3,e4⟩:=rdD bn (by omega)
   refine ⟨[.int .i64 (degN N st (r:Int):Int)],rfl,?_,[.int .i64 (degN N st (bn:Int):Int)],rfl,?_,_,z05,rfl,_,rfl,fun h=>by omega⟩
   ·simp only [evs,evb];exact d4
   ·simp only [evs,evb];exact e4
 rintro vs K _ ⟨rfl,best,rfl,hbi,hbn,hbd⟩
 simp only [cns]
 obtain ⟨g3,g4⟩:=rdG best hbi
 refine ⟨fun _=>?_,?_⟩
 ·simp only [Chk.holds,evs,evb];exact ⟨g3,by omega,by omega⟩
 have hp1:[orow 3 st (.slice sb st.length sc),orow 3 l3 (.slice db i dc),orow 4 gn (.slice nb i nc)].Perm [orow 4 gn (.slice nb i nc),orow 3 st (.slice sb st.length sc),orow 3 l3 (.slice db i dc)]:=
  List.perm_append_comm (l₁:=[orow 3 st (.slice sb st.length sc),orow 3 l3 (.slice db i dc)]) (l₂:=[orow 4 gn (.slice nb i nc)])
 refine z1d (i:=best) (a':=true) (us:=[.bool true]) ?_ (h3.perm hp1) (hgn best hbi) rfl ?_ (by simp [oneC]) zby fun K4 h4=>?_
 ·simp only [evs,evb];rfl
 ·simp only [evs,evb]
 refine z1o (more:=[(best:Int)]) (b:=8) [.int .i64 (best:Int)] z0y z0v rfl (by decide) (by decide) (h4.perm (List.Perm.swap _ _ _)) (by kernel_rfl) (.cons (z0o (by unfold InI;omega)) .nil) z06 (fun _=>by kernel_rfl) (fun _=>by kernel_rfl)
  (by simp only [maxLen,zlc,List.length_nil];omega) (by simp only [zlc,List.length_nil];omega) fun u v5 S5 K5 l5 h5=>⟨z06,?_⟩
 obtain ⟨sb5,sc5,rfl⟩:=(h5.row (zms)).sl
 simp only [cns]
 have le5:=PH.le_trans le3 l5
 obtain ⟨hm,w,hw1,hw2,hw3⟩:=(hg.le le5).look (best:Int)
 refine z4i (α:=Int) (m:=outM N) (v:=.map (some gr)) (best:Int) (.map none) z9r kIntK (by kernel_rfl) (by kernel_rfl) (by kernel_rfl) (MapR.le hm h5.sh) (by rw [hw1];exact hw2) z06 ?_
 rw [hw1]
 obtain ⟨wm,rfl⟩:∃wm,w=.map wm:=by cases w<;>simp [Tag.ok] at hw2;exact ⟨_,rfl⟩
 simp only [cns]
 have hst5:(st++[(best:Int)]).length=st.length+1:=by simp
 refine zol (m:=encS (adjN N (best:Int))) (v:=.map wm) rfl rfl zbw (by kernel_rfl) h5.sh hw3 (fun y hy=>by obtain ⟨z,_,rfl⟩:=List.mem_map.1 hy;rfl) rfl
  (fun done vs K i' o=>∃l:List Int,vs=[]∧l.length=i∧Held S5 K [.blk i' o,orow 3 l (.slice db i dc),orow 3 (st++[(best:Int)]) (.slice sb5 (st++[(best:Int)]).length sc5),orow 4 (gn.set best true) (.slice nb i nc)]∧∀j,j < i→l[j]?=some ((degN N st (j:Int):Int) - (if (j:Int)∈done then 1 else 0)))
  (fun i' o hi'=>⟨l3,rfl,hl3,?_,fun j hj=>by rw [hd3 j hj];simp⟩) ?_ ?_ ?_ ?_
 ·refine (h5.new hi' o).perm (List.Perm.cons _ ?_)
  exact (List.perm_append_comm (l₁:=[orow 3 (st++[(best:Int)]) (.slice sb5 (st++[(best:Int)]).length sc5),orow 4 (gn.set best true) (.slice nb i nc)]) (l₂:=[orow 3 l3 (.slice db i dc)]))
 ·rintro done vs K i' o ⟨l,rfl,hl,h,_⟩
  exact ⟨h.blk (zms),h.sh⟩
 ·rintro done vs K i' o o' ⟨l,rfl,hl,h,hd⟩
  exact ⟨l,rfl,hl,h.put o',hd⟩
 ·rintro done y wv vs K6 i' o J hy hyd _ ⟨l,rfl,hl6,h6,hd6⟩ hJ
  obtain ⟨y',hy',hyy⟩:=List.mem_map.1 hy
  simp only [Prod.mk.injEq] at hyy
  obtain ⟨rfl,rfl⟩:=hyy
  obtain ⟨hr1,hr2,_,_,hr3,hr4⟩:=ok.rel _ _ hy'
  obtain ⟨yn,rfl⟩:∃yn:Nat,y'=(yn:Int):=⟨y'.toNat,by omega⟩
  have hyi:yn < i:=by omega
  have hgy:=hd6 yn hyi
  rw [if_neg hyd,Int.sub_zero] at hgy
  obtain ⟨t1,_,tcs,t2,t3⟩:=(h6.row (zmm _ (zms))).get hgy
  obtain ⟨rfl,_⟩:=csIK t2
  simp only [cns]
  have hpos:=Z0h (N:=N) (g:=st) hbn hr1
  have hdy:=hdeg (yn:Int)
  refine ⟨fun _=>?_,[.int .i64 (degN N st (yn:Int):Int)],rfl,?_,?_⟩
  ·simp only [Chk.holds,evs,evb];exact ⟨t1,by omega,by omega⟩
  ·simp only [evs,evb];exact t3
  refine z1d (i:=yn) (a':=(degN N st (yn:Int):Int) - 1) (us:=[.int .i64 ((degN N st (yn:Int):Int) - 1)]) ?_ (h6.perm (List.Perm.swap _ _ _)) hgy rfl ?_ (by simp [oneC]) (z0o (by unfold InI;omega)) fun K7 h7=>?_
  ·simp only [evs,evb];rfl
  ·simp only [evs,evb];rw [w64 (by omega) (by omega)]
  refine ⟨_,z05,hJ _ _ ⟨l.set yn _,rfl,by simpa using hl6,h7.perm (List.Perm.swap _ _ _),fun j hj=>?_⟩⟩
  rw [List.getElem?_set]
  by_cases e:yn=j
  ·subst e;rw [if_pos rfl,if_pos (by omega),if_pos (zms)]
  ·rw [if_neg e,hd6 j hj]
   have h1:((j:Int)∈(yn:Int)::done)↔(j:Int)∈done:=by rw [List.mem_cons];exact ⟨fun h=>h.elim (fun h=>absurd (Int.ofNat_inj.1 h).symm e) id,.inr⟩
   simp only [h1]
 ·rintro done vs K6 i' o J hdone _ _ ⟨l,rfl,hl6,h6,hd6⟩
  have hdone':∀y,y∈done↔y∈adjN N (best:Int):=fun y=>by
   rw [←hdone,List.map_map]
   simp only [Function.comp_def,List.map_id']
  refine ⟨_,z17 rfl z05,i - (st.length+1),by omega,st++[(best:Int)],_,l,gn.set best true,S5,rfl,by rw [hst5],le5,h6.tail.perm (List.Perm.swap _ _ _),?_,?_,by omega,?_,hl6,fun j hj=>?_,by simpa using hgl,fun j hj=>?_⟩
  ·rw [List.nodup_append]
   exact ⟨hnd,by simp,fun a ha b hb=>by simp at hb;subst hb;exact fun e=>hbn (e ▸ ha)⟩
  ·intro s hs
   rcases List.mem_append.1 hs with hs | hs
   ·exact hrg s hs
   ·rw [List.mem_singleton.1 hs];omega
  ·intro t s hts
   by_cases ht:t < st.length
   ·rw [List.getElem?_append_left ht] at hts
    rw [List.take_append_of_le_length (by omega)]
    exact hord t s hts
   ·have:t=st.length:=by
     have:=(List.getElem?_eq_some_iff.1 hts).1
     omega
    subst this
    rw [List.getElem?_append_right (Nat.le_refl _),Nat.sub_self] at hts
    simp at hts;subst hts
    rw [List.take_left']
    ·exact hbd
    ·rfl
  ·rw [hd6 j hj,Z79 ok hbn]
   have hiff:(j:Int)∈done↔(best:Int)∈adjN N (j:Int):=by
    rw [hdone']
    exact ⟨fun h=>(ok.rel _ _ h).1,fun h=>(ok.rel _ _ h).1⟩
   by_cases h:(j:Int)∈done
   ·have hpos:=Z0h (N:=N) (g:=st) hbn (hiff.1 h)
    rw [if_pos h,if_pos (hiff.1 h)]
    congr 1;omega
   ·rw [if_neg h,if_neg (fun hh=>h (hiff.2 hh))];simp
  ·rw [List.getElem?_set]
   by_cases e:best=j
   ·subst e;rw [if_pos rfl,if_pos (by omega)];simp
   ·rw [if_neg e,hgn j hj]
    congr 2
    simp only [List.mem_append,List.mem_singleton,eq_iff_iff]
    exact ⟨.inl,fun h=>h.elim id fun h=>absurd (Int.ofNat_inj.1 h).symm e⟩
theorem zkq:∀(s:List Int) (k:Int),getM (encS s) k=if k∈s then some (Value.int .i64 1) else none
 | [],k=>by simp [encS,getM]
 | a::s,k=>by
  have ih:=zkq s k
  rw [encS,List.map_cons,zky]
  by_cases e:a=k
  ·subst e;simp
  ·rw [if_neg e]
   have:(k∈a::s)↔k∈s:=by rw [List.mem_cons];exact ⟨fun h=>h.elim (fun h=>absurd h.symm e) id,.inr⟩
   simp only [this]
   exact ih
def plAt (pl:List Int) (q:Int):Int:=pl.getD q.toNat 0
theorem Z77 {pl:List Int} {q:Nat} {a:Int} (h:pl[q]?=some a):plAt pl (q:Int)=a:=by
 unfold plAt;rw [Int.toNat_natCast,zgd,h];rfl
theorem zsn {pl:List Int} {q:Nat} (h:q < pl.length):pl[q]?=some (plAt pl (q:Int)):=by
 unfold plAt;rw [Int.toNat_natCast,zgd,zge h];rfl
structure ColOk (N:List (Int×GN)) (R:Nat) (k:Int) (st:List Int) (i:Nat) (pl:List Int) (most:Int):Prop where
 len:pl.length=R
 bef:∀r:Nat,r < R→(r:Int)∉st.reverse.take i→pl[r]?=some (-1)
 aft:∀(r:Nat) a,pl[r]?=some a→(r:Int)∈st.reverse.take i→0≤a∧a < most
 apart:∀(r q:Nat) a,pl[r]?=some a→pl[q]?=some a→0≤a→(q:Int)∉adjN N (r:Int)
 lo:k≤most
 hi:most≤k+R+1
 used:∀s,k≤s→s < most→s∈pl
 tight:k < most→∃(t:Nat) (s:Nat),st[t]?=some (s:Int)∧s < R∧∀u:Nat,u < R→(u:Int)∉st.take t→k≤degN N (st.take t) u
 few:∀(r:Nat) a,pl[r]?=some a→a≤((adjN N (r:Int)).length:Int)
theorem zid (j:Nat):((List.range j).map Int.ofNat).Nodup:=by
 rw [List.Nodup,List.pairwise_map]
 exact (List.nodup_range (n:=j)).imp fun h e=>h (Int.ofNat.inj e)
theorem Z8n {R:Nat} {st:List Int} (hn:st.Nodup) (hl:st.length=R) (hr:∀s:Int,s∈st→0≤s∧s < R) (j:Nat) (hj:j < R):(j:Int)∈st:=by
 refine Classical.byContradiction fun hno=>?_
 have h1:((j:Int)::st).length≤((List.range R).map Int.ofNat).length:=z0z (List.nodup_cons.2 ⟨hno,hn⟩) fun y hy=>by
  rcases List.mem_cons.1 hy with rfl | hy
  ·exact List.mem_map.2 ⟨j,List.mem_range.2 hj,rfl⟩
  ·have:=hr y hy
   exact List.mem_map.2 ⟨y.toNat,List.mem_range.2 (by omega),show ((y.toNat:Nat):Int)=y by omega⟩
 rw [List.length_map,List.length_range,zlc] at h1
 omega
theorem Z6b {N:List (Int×GN)} {R:Nat} {k:Int} {st:List Int} {i:Nat} {pl:List Int} {most:Int} (ok:GraphOk R N) (hk:1≤k) (hn:st.Nodup) (hl:st.length=R) (hr:∀s:Int,s∈st→0≤s∧s < R) (hord:OrdOk N R k st) (h:ColOk N R k st i pl most) {r:Nat} (hri:st.reverse[i]?=some (r:Int)) (hrR:r < R) {j:Nat}
  (hj:∀x:Nat,x < j→∃q∈adjN N (r:Int),plAt pl q=(x:Int)) (hnj:¬∃q∈adjN N (r:Int),plAt pl q=(j:Int)) (hjR:j≤R) :
  ColOk N R k st (i+1) (pl.set r (j:Int)) (if (j:Int)+1 > most then (j:Int)+1 else most):=by
 have hnr:st.reverse.Nodup:=List.pairwise_reverse.2 (hn.imp fun h=>Ne.symm h)
 have hiR:i < R:=by have:=(List.getElem?_eq_some_iff.1 hri).1;rwa [List.length_reverse,hl] at this
 have htk:∀y,y∈st.reverse.take (i+1)↔y∈st.reverse.take i∨y=(r:Int):=fun y=>by
  rw [List.take_add_one,hri];simp
 have hnot:(r:Int)∉st.reverse.take i:=fun hm=>by
  obtain ⟨a,ha⟩:=List.getElem?_of_mem hm
  rw [List.getElem?_take] at ha
  split at ha
  ·rename_i hai
   have:=(List.getElem?_inj (List.getElem?_eq_some_iff.1 ha).1 hnr).1 (ha.trans hri.symm)
   omega
  ·cases ha
 have hplr:=h.bef r hrR hnot
 have hlen:=h.len
 have hq:∀q∈adjN N (r:Int),∃qn:Nat,q=(qn:Int)∧qn < R∧qn≠r∧pl[qn]?=some (plAt pl q):=fun q hq=>by
  obtain ⟨_,h1,_,_,h2,h3⟩:=ok.rel _ _ hq
  refine ⟨q.toNat,by omega,by omega,fun e=>h1 (by omega),?_⟩
  have:=zsn (pl:=pl) (q:=q.toNat) (by omega)
  rwa [show ((q.toNat:Nat):Int)=q by omega] at this
 have hset:∀q:Nat,q≠r→(pl.set r (j:Int))[q]?=pl[q]?:=fun q hne=>by rw [List.getElem?_set,if_neg (Ne.symm hne)]
 have hsetr:(pl.set r (j:Int))[r]?=some (j:Int):=by rw [List.getElem?_set,if_pos rfl,if_pos (by omega)]
 refine ⟨by simpa using h.len,fun x hx hxn=>?_,fun x a ha hx=>?_,fun x q a hx hqa ha hadj=>?_,?_,?_,fun s hs1 hs2=>?_,fun hm=>?_,fun x a hx=>?_⟩
 ·rw [htk] at hxn
  rw [hset x (fun e=>hxn (.inr (by rw [e])))]
  exact h.bef x hx fun hh=>hxn (.inl hh)
 ·by_cases e:x=r
  ·subst e
   rw [hsetr] at ha;cases ha
   split<;>omega
  ·rw [hset x e] at ha
   have:=h.aft x a ha (((htk x).1 hx).resolve_right fun hh=>e (by omega))
   split<;>omega
 ·by_cases e:x=r
  ·subst e
   rw [hsetr] at hx;cases hx
   obtain ⟨qn,h1,_,h2,h3⟩:=hq _ hadj
   have:qn=q:=by omega
   subst this
   rw [hset qn h2,h3] at hqa
   exact hnj ⟨_,hadj,Option.some.inj hqa⟩
  ·rw [hset x e] at hx
   by_cases e2:q=r
   ·subst e2
    rw [hsetr] at hqa;cases hqa
    exact hnj ⟨_,(ok.rel _ _ hadj).1,Z77 hx⟩
   ·rw [hset q e2] at hqa
    exact h.apart x q a hx hqa ha hadj
 ·have:=h.lo;split<;>omega
 ·have:=h.hi;have:=h.lo;split<;>omega
 ·by_cases hsm:s < most
  ·obtain ⟨a,ha⟩:=List.getElem?_of_mem (h.used s hs1 hsm)
   have hne:a≠r:=fun e=>by subst e;rw [hplr] at ha;cases ha;omega
   exact List.mem_of_getElem? (i:=a) (by rw [hset a hne];exact ha)
  ·have hle:s≤(j:Int):=by split at hs2<;>omega
   by_cases e:s=(j:Int)
   ·subst e;exact List.mem_of_getElem? hsetr
   ·obtain ⟨q,hqa,hqs⟩:=hj s.toNat (by omega)
    obtain ⟨qn,rfl,_,h2,h3⟩:=hq q hqa
    refine List.mem_of_getElem? (i:=qn) ?_
    rw [hset qn h2,h3,hqs]
    congr 1;omega
 ·by_cases hkm:k < most
  ·exact h.tight hkm
  ·have hjk:k≤(j:Int):=by have:=h.lo;split at hm<;>omega
   have hst:st[R - 1 - i]?=some (r:Int):=by
    rw [List.getElem?_reverse (by omega)] at hri
    rw [hl] at hri;exact hri
   refine ⟨R - 1 - i,r,hst,hrR,?_⟩
   have hdeg:j≤degN N (st.take (R - 1 - i)) (r:Int):=by
    have h1:((List.range j).map Int.ofNat).length≤(((adjN N (r:Int)).filter fun d=>decide (d∉st.take (R - 1 - i))).map (plAt pl)).length:=z0z (zid j) fun y hy=>by
     obtain ⟨x,hx,rfl⟩:=List.mem_map.1 hy
     obtain ⟨q,hqa,hqx⟩:=hj x (List.mem_range.1 hx)
     refine List.mem_map.2 ⟨q,List.mem_filter.2 ⟨hqa,decide_eq_true fun hin=>?_⟩,hqx⟩
     obtain ⟨qn,rfl,h1,h2,h3⟩:=hq q hqa
     have hmem:(qn:Int)∈st.reverse.take i:=Classical.byContradiction fun hno=>by
      have:=h.bef qn h1 hno
      rw [h3,hqx] at this
      have:=Option.some.inj this
      omega
     rw [List.take_reverse,List.mem_reverse,hl] at hmem
     obtain ⟨a,ha⟩:=List.getElem?_of_mem hmem
     obtain ⟨b,hb⟩:=List.getElem?_of_mem hin
     rw [List.getElem?_drop] at ha
     rw [List.getElem?_take] at hb
     split at hb
     ·have:=(List.getElem?_inj (List.getElem?_eq_some_iff.1 ha).1 hn).1 (ha.trans hb.symm)
      omega
     ·cases hb
    rw [List.length_map,List.length_range,List.length_map] at h1
    exact h1
   rcases hord _ _ hst with h5 | h5
   ·omega
   ·exact h5
 ·by_cases e:x=r
  ·subst e
   rw [hsetr] at hx;cases hx
   have h1:((List.range j).map Int.ofNat).length≤((adjN N (x:Int)).map (plAt pl)).length:=z0z (zid j) fun y hy=>by
    obtain ⟨z,hz,rfl⟩:=List.mem_map.1 hy
    obtain ⟨q,hqa,hqx⟩:=hj z (List.mem_range.1 hz)
    exact List.mem_map.2 ⟨q,hqa,hqx⟩
   rw [List.length_map,List.length_range,List.length_map] at h1
   omega
  ·rw [hset x e] at hx
   exact h.few x a hx
theorem zpc (f:Nat→Bool):∀n,cntB f n=((List.range n).filter f).length
 | 0=>rfl
 | n+1=>by
  rw [List.range_succ,List.filter_append,zla,←zpc f n]
  simp only [cntB,List.filter_cons,List.filter_nil]
  split<;>simp
theorem Z3v {p:PrcX} {N:List (Int×GN)} {R:Nat} {k:Int} {g:List Int} (ok:GraphOk R N) (hrel:∀a b,b∈adjN N a↔a≠b∧MeetP p a b) (h:∀u:Nat,u < R→(u:Int)∉g→k≤degN N g u):Z51 R (fun a b=>MeetP p (a:Int) (b:Int)) k fun i=>decide ((i:Int)∉g):=by
 intro i hi hu
 refine ⟨fun j=>decide ((j:Int)∈adjN N (i:Int)) && decide ((j:Int)∉g),fun j hj hf=>?_,?_⟩
 ·rw [zba,zdt,zdt] at hf
  have:=(hrel _ _).1 hf.1
  exact ⟨decide_eq_true hf.2,fun e=>this.1 (by rw [e]),this.2⟩
 ·have h1:=h i hi (of_decide_eq_true hu)
  rw [zpc]
  have h2:((adjN N (i:Int)).filter fun d=>decide (d∉g)).length≤(((List.range R).filter fun j:Nat=>decide ((j:Int)∈adjN N (i:Int)) && decide ((j:Int)∉g)).map Int.ofNat).length:=z0z ((ok.nd _).filter _) fun d hd=>by
   obtain ⟨h3,h4⟩:=List.mem_filter.1 hd
   obtain ⟨_,_,_,_,h5,h6⟩:=ok.rel _ _ h3
   refine List.mem_map.2 ⟨d.toNat,List.mem_filter.2 ⟨List.mem_range.2 (by omega),?_⟩,show ((d.toNat:Nat):Int)=d by omega⟩
   rw [show ((d.toNat:Nat):Int)=d by omega,decide_eq_true h3]
   exact h4
  rw [List.length_map] at h2
  unfold degN at h1
  omega
structure Placed (p:PrcX) (k n:Int) (l:List Int):Prop where
 len:l.length=p.regs.toNat
 lo:0≤n
 hi:n≤2001
 all:∀(r:Nat) a,l[r]?=some a→0≤a∧a - k < n
 apart:∀(r q:Nat) a,l[r]?=some a→l[q]?=some a→r≠q→¬MeetP p (r:Int) (q:Int)
 used:∀s,k≤s→s - k < n→s∈l
 few:∀(r:Nat) a,l[r]?=some a→∃m:List Int,m.Nodup∧(∀y∈m,(r:Int)≠y∧MeetP p (r:Int) y)∧a≤(m.length:Int)
 tight:0 < n→∃U,Z51 p.regs.toNat (fun a b=>MeetP p (a:Int) (b:Int)) k U∧∃i,i < p.regs.toNat∧U i=true
theorem Z3h {p:PrcX} {N:List (Int×GN)} {R:Nat} {k most:Int} {st pl:List Int} (hR:p.regs=(R:Int)) (hR2:R≤2000) (ok:GraphOk R N) (hrel:∀a b,b∈adjN N a↔a≠b∧MeetP p a b) (hn:st.Nodup) (hl:st.length=R) (hr:∀s:Int,s∈st→0≤s∧s < R) (h:ColOk N R k st R pl most):Placed p k (most - k) pl:=by
 have hRt:p.regs.toNat=R:=by omega
 have hall:∀r:Nat,r < R→(r:Int)∈st.reverse.take R:=fun r hr'=>by
  rw [List.take_of_length_le (by rw [List.length_reverse];omega),List.mem_reverse]
  exact Z8n hn hl hr r hr'
 have hlo:=h.lo
 have hhi:=h.hi
 have hlt:∀{r:Nat} {a:Int},pl[r]?=some a→r < R:=fun h1=>by have:=(List.getElem?_eq_some_iff.1 h1).1;rwa [h.len] at this
 refine ⟨by rw [hRt];exact h.len,by omega,by omega,fun r a ha=>?_,fun r q a h1 h2 h3 h4=>?_,fun s hs1 hs2=>h.used s hs1 (by omega),fun r a ha=>⟨adjN N (r:Int),ok.nd _,fun y hy=>(hrel _ _).1 hy,h.few r a ha⟩,fun hm=>?_⟩
 ·have:=h.aft r a ha (hall r (hlt ha));omega
 ·have:=h.aft r a h1 (hall r (hlt h1))
  exact h.apart r q a h1 h2 this.1 ((hrel _ _).2 ⟨fun e=>h3 (by omega),h4⟩)
 ·obtain ⟨t,s,hs,hsR,hu⟩:=h.tight (by omega)
  rw [hRt]
  refine ⟨_,Z3v ok hrel hu,s,hsR,decide_eq_true fun hin=>?_⟩
  obtain ⟨b,hb⟩:=List.getElem?_of_mem hin
  rw [List.getElem?_take] at hb
  split at hb
  ·have:=(List.getElem?_inj (List.getElem?_eq_some_iff.1 hb).1 hn).1 (hb.trans hs.symm)
   omega
  ·cases hb
theorem Z33 {p:PrcX} {a b:Int}:MeetP p a b→MeetP p b a:=by
 rintro (⟨h1,h2⟩ | ⟨f,hf,h | h⟩)
 ·exact .inl ⟨h2,h1⟩
 ·exact .inr ⟨f,hf,.inr h⟩
 ·exact .inr ⟨f,hf,.inl h⟩
theorem Z8a {p:PrcX} (h:mayP p=true) {a b:Int} (hm:MeetP p a b):(0≤a∧a < p.regs)∧0≤b∧b < p.regs:=by
 rcases hm with ⟨h1,h2⟩ | ⟨f,hf,⟨h1,h2⟩ | ⟨h1,h2⟩⟩
 ·exact ⟨zdb h h1,zdb h h2⟩
 ·exact ⟨h1 ▸ (zhq h hf).1,(zhq h hf).2 _ h2⟩
 ·exact ⟨(zhq h hf).2 _ h2,h1 ▸ (zhq h hf).1⟩
theorem Z14 {p:PrcX} {S:PH} {v:Value} {N:List (Int×GN)} {R:Nat} (hR:p.regs=(R:Int)) (hmay:mayP p=true) (h:GraphR S v N) (hrel:∀a b,relN N a b↔a≠b∧MeetP p a b):GraphOk R N∧∀a b,b∈adjN N a↔a≠b∧MeetP p a b:=by
 have hadj:∀a b,b∈adjN N a↔a≠b∧MeetP p a b:=fun a b=>(Z7w h.keys a b).trans (hrel a b)
 refine ⟨⟨h.keys,h.adj_nodup,fun c d hd=>?_⟩,hadj⟩
 obtain ⟨h1,h2⟩:=(hadj c d).1 hd
 have h3:=Z8a hmay h2
 exact ⟨(hadj d c).2 ⟨Ne.symm h1,Z33 h2⟩,h1,by omega,by omega,by omega,by omega⟩
set_option maxHeartbeats 4000000 in
theorem zti (p:PrcX) (k:Int) (bv:Value) (S:PH) (hbv:SlR S p.blocks bv) (hw:p.Fit∧∀b∈p.blocks,b.e.args.length≤20000000) :
  Tri Tryz.prog zup #[.agg (prcVs p bv).toArray,.int .i64 k] S fun x S'=>PH.le S S'∧(((k < 1∨24 < k)∧x=.returned (.tuple #[.slice none 0 0,.int .i64 0,.int .i64 1]))∨((1≤k∧k≤24)∧mayP p=false∧x=.returned (.tuple #[.slice none 0 0,.int .i64 0,.int .i64 150]))∨((1≤k∧k≤24)∧mayP p=true∧∃l v n,x=.returned (.tuple #[v,.int .i64 n,.int .i64 0])∧SlR S' l v∧Placed p k n l)):=by
 obtain ⟨hp,hE⟩:=hw
 obtain ⟨b0,c0,rfl⟩:=hbv.sl
 refine zp7 (prcVs p (.slice b0 p.blocks.length c0)++[.int .i64 k]) (by kernel_rfl) (by kernel_rfl) ?_
 simp only [prcVs,List.cons_append,List.nil_append]
 refine ⟨fun g=>?_,fun g=>?_⟩
 ·simp only [evs,evb] at g
  simp only [Bool.or_eq_true,zdt] at g
  exact ⟨PH.le_refl _,.inl ⟨by omega,rfl⟩⟩
 simp only [evs,evb,Bool.or_eq_false_iff,zdf] at g
 have hk:1≤k∧k≤24:=by omega
 refine z0b [.bool (mayP p)] zwv (Z5h p (.slice b0 p.blocks.length c0) S hbv hp hE) rfl z06 fun K1 l1=>⟨fun g=>?_,fun g=>?_⟩
 ·simp only [evs,evb] at g
  have hm:mayP p=false:=by simpa using g
  exact ⟨l1,.inr (.inl ⟨hk,hm,rfl⟩)⟩
 simp only [evs,evb] at g
 have hmay:mayP p=true:=by simpa using g
 obtain ⟨hr0,hr1,_,_,hne⟩:=zxb hmay
 refine z0a zsd (Z3y p (.slice b0 p.blocks.length c0) K1 (hbv.le l1) ⟨hp,hE⟩ hmay) ?_
 rintro x K2 ⟨S1,gr,es,cl,N,l2,rfl,h2,gok,rel⟩
 refine ⟨_,[.map (some gr)],rfl,rfl,rfl,z06,?_⟩
 obtain ⟨S3,l3,l3',hg⟩:=zzr h2 gok
 obtain ⟨R,hRi⟩:∃R:Nat,p.regs=(R:Int):=⟨p.regs.toNat,by omega⟩
 have hR2:R≤2000:=by omega
 obtain ⟨ok,hadj⟩:=Z14 hRi hmay hg rel
 rw [hRi]
 simp only [cns]
 refine z0x (α:=Int) (l:=[(-1:Int)]) (b:=8) [.int .i64 (-1)] z0y z0v rfl (by decide) (by decide) (Held.nil l3') (by kernel_rfl) (.cons (z0o (by unfold InI;omega)) .nil) z06 fun v4 K4 h4 _ _=>?_
 obtain ⟨S4,s4,l4,h4⟩:=h4.freeze
 simp only [cns]
 refine z0a zad (Z2e R hR2 (-1) v4 K4 (s4.le h4.sh)) ?_
 rintro x K5 ⟨pv5,rfl,h5⟩
 obtain ⟨pb,pc,rfl⟩:∃b c,pv5=.slice b R c:=by have:=(h5.row (zms)).sl;rwa [List.length_replicate] at this
 refine ⟨_,[.slice pb R pc],rfl,rfl,rfl,z06,?_⟩
 have l04:PH.le S K4:=PH.le_trans l1 (PH.le_trans l2 (PH.le_trans l3 (PH.le_trans l4 h4.sh)))
 have hg4:GraphR K4 (.map (some gr)) N:=hg.le (PH.le_trans l4 h4.sh)
 simp only [cns]
 refine z0a zrl (h5.pure (R:=fun x S'=>∃(st:List Int) (v:Value),x=.returned v∧SlR S' st.reverse v∧st.Nodup∧st.length=R∧(∀s:Int,s∈st→0≤s∧s < R)∧OrdOk N R k st) (Z50 R hR2 k (.map (some gr)) N K4 hg4 ok)) ?_
 rintro x K6 ⟨S6,l6,h6,st,ov,rfl,hov,hnd,hstl,hrg,hord⟩
 obtain ⟨ob,oc,rfl⟩:∃b c,ov=.slice b R c:=by have:=hov.sl;rwa [List.length_reverse,hstl] at this
 refine ⟨_,[.slice ob R oc],rfl,rfl,rfl,z06,?_⟩
 simp only [cns]
 have hg6:GraphR S6 (.map (some gr)) N:=hg4.le l6
 refine ⟨fun n vs K=>∃(i:Nat) (pl:List Int) (most:Int) (S':PH),vs=[.int .i64 most,nI i]∧i+n=R∧PH.le S6 S'∧Held S' K [orow 3 pl (.slice pb R pc)]∧ColOk N R k st i pl most,
  ⟨R,0,List.replicate R (-1),k,S6,rfl,by omega,PH.le_refl _,h6,⟨by simp,fun r hr _=>by rw [List.getElem?_replicate,if_pos hr],fun r a _ h=>by simp at h,fun r q a h1 _ h3=>(by
   rw [List.getElem?_replicate] at h1;split at h1
   ·cases h1;omega
   ·cases h1),by omega,by omega,fun s h1 h2=>by omega,fun h=>by omega,fun r a h1=>(by
   rw [List.getElem?_replicate] at h1;split at h1
   ·cases h1;omega
   ·cases h1)⟩⟩,?_⟩
 rintro n vs K7 _ ⟨i,pl,most,S7,rfl,hin,l7,h7,hcol⟩
 simp only [cns]
 have hm1:=hcol.lo
 have hm2:=hcol.hi
 refine ⟨fun g=>?_,fun g=>?_⟩
 rotate_left
 ·simp only [evs,evb,zdf] at g
  have:i=R:=by omega
  subst this
  obtain ⟨S8,s8,l8,h8⟩:=h7.freeze
  refine ⟨PH.le_trans l04 (PH.le_trans l6 (PH.le_trans l7 (PH.le_trans l8 h8.sh))),.inr (.inr ⟨hk,hmay,pl,.slice pb i pc,most - k,?_,s8.le h8.sh,Z3h hRi hR2 ok hadj hnd hstl hrg hcol⟩)⟩
  show Ending.returned (.tuple #[.slice pb i pc,.int .i64 (IntKind.i64.wrap (most - k)),.int .i64 0])=_
  rw [w64 (by omega) (by omega)]
 simp only [evs,evb,zdt] at g
 have hiR:i < R:=by omega
 obtain ⟨r',hr'⟩:∃r,st.reverse[i]?=some r:=⟨_,zge (by rw [List.length_reverse];omega)⟩
 have hrr:=hrg r' (List.mem_reverse.1 (List.mem_of_getElem? hr'))
 obtain ⟨r,rfl⟩:∃r:Nat,r'=(r:Int):=⟨r'.toNat,by omega⟩
 have hrR:r < R:=by omega
 obtain ⟨t1,_,tcs,t2,t3⟩:=(hov.le (PH.le_trans l7 h7.sh)).get hr'
 obtain ⟨rfl,_⟩:=csIK t2
 refine ⟨fun _=>?_,[.int .i64 (r:Int)],rfl,?_,?_⟩
 ·simp only [Chk.holds,evs,evb];exact ⟨t1,by omega,by omega⟩
 ·simp only [evs,evb];exact t3
 refine z3w fun tr htr=>?_
 have h8:=h7.new htr (.map #[] 0)
 simp only [cns]
 obtain ⟨hm,w,hw1,hw2,hw3⟩:=(hg6.le l7).look (r:Int)
 refine z4i (α:=Int) (m:=outM N) (v:=.map (some gr)) (r:Int) (.map none) z9r kIntK (by kernel_rfl) (by kernel_rfl) (by kernel_rfl) (MapR.le hm h8.sh) (by rw [hw1];exact hw2) z06 ?_
 rw [hw1]
 obtain ⟨wm,rfl⟩:∃wm,w=.map wm:=by cases w<;>simp [Tag.ok] at hw2;exact ⟨_,rfl⟩
 simp only [cns]
 refine zol (m:=encS (adjN N (r:Int))) (v:=.map wm) rfl rfl zbw (by kernel_rfl) h8.sh hw3 (fun y hy=>by obtain ⟨z,_,rfl⟩:=List.mem_map.1 hy;rfl) rfl
  (fun done vs K i' o=>∃(es:Array MapEntry) (cl:Nat) (s:List Int),vs=[]∧SetAt es cl s∧(∀y,y∈s↔∃q∈done,plAt pl q=y)∧Held S7 K [.blk i' o,.blk tr (.map es cl),orow 3 pl (.slice pb R pc)])
  (fun i' o hi'=>⟨#[],0,[],rfl,zes,fun y=>by simp,h8.new hi' o⟩) ?_ ?_ ?_ ?_
 ·rintro done vs K i' o ⟨es,cl,s,rfl,hset,hs,h⟩
  exact ⟨h.blk (zms),h.sh⟩
 ·rintro done vs K i' o o' ⟨es,cl,s,rfl,hset,hs,h⟩
  exact ⟨es,cl,s,rfl,hset,hs,h.put o'⟩
 ·rintro done y wv vs K9 i' o J hy hyd _ ⟨es9,cl9,s,rfl,hset,hs,h9⟩ hJ
  obtain ⟨y',hy',hyy⟩:=List.mem_map.1 hy
  simp only [Prod.mk.injEq] at hyy
  obtain ⟨rfl,rfl⟩:=hyy
  obtain ⟨_,_,_,_,hr3,hr4⟩:=ok.rel _ _ hy'
  obtain ⟨yn,rfl⟩:∃yn:Nat,y'=(yn:Int):=⟨y'.toNat,by omega⟩
  have hgy:=zsn (pl:=pl) (q:=yn) (by rw [hcol.len];omega)
  obtain ⟨u1,_,ucs,u2,u3⟩:=(h9.row (zmm _ (zmm _ (zms)))).get hgy
  obtain ⟨rfl,_⟩:=csIK u2
  simp only [cns]
  refine ⟨fun _=>?_,[.int .i64 (plAt pl (yn:Int))],rfl,?_,?_⟩
  ·simp only [Chk.holds,evs,evb];exact ⟨u1,by omega,by omega⟩
  ·simp only [evs,evb];exact u3
  refine z4q (α:=Int) (m:=encS s) (r:=tr) (es:=es9) (clock:=cl9) (plAt pl (yn:Int)) (.int .i64 1) zbw kIntK (by kernel_rfl) (by kernel_rfl) (by kernel_rfl) (h9.blk (zmm _ (zms))) hset fun es3 cl3 he3=>?_
  rw [zir] at he3
  have h10:=((h9.perm (List.Perm.swap _ _ _)).put (.map es3 cl3)).perm (List.Perm.swap _ _ _)
  refine ⟨_,z05,hJ _ _ ⟨es3,cl3,_,rfl,he3,fun z=>?_,h10⟩⟩
  rw [zi5,hs]
  constructor
  ·rintro (⟨q,hq,h⟩ | rfl)
   ·exact ⟨q,zmm _ hq,h⟩
   ·exact ⟨_,zms,rfl⟩
  ·rintro ⟨q,hq,h⟩
   rcases List.mem_cons.1 hq with rfl | hq
   ·exact .inr h.symm
   ·exact .inl ⟨q,hq,h⟩
 ·rintro done vs K9 i' o J hdone _ _ ⟨es9,cl9,s,rfl,hset,hs,h9⟩
  have hdone':∀y,y∈done↔y∈adjN N (r:Int):=fun y=>by
   rw [←hdone,List.map_map]
   simp only [Function.comp_def,List.map_id']
  have hs':∀y,y∈s↔∃q∈adjN N (r:Int),plAt pl q=y:=fun y=>by
   rw [hs]
   exact ⟨fun ⟨q,h1,h2⟩=>⟨q,(hdone' q).1 h1,h2⟩,fun ⟨q,h1,h2⟩=>⟨q,(hdone' q).2 h1,h2⟩⟩
  have hsl:s.length≤R:=by
   have h1:s.length≤((adjN N (r:Int)).map (plAt pl)).length:=z0z hset.nodup fun y hy=>by
    obtain ⟨q,h1,h2⟩:=(hs' y).1 hy
    exact List.mem_map.2 ⟨q,h1,h2⟩
   rw [List.length_map] at h1
   have h2:=zv3 ok [] (r:Int)
   rw [zw8] at h2
   omega
  have hjl:∀j:Nat,(∀x:Nat,x < j→(x:Int)∈s)→j≤s.length:=fun j hj=>by
   have h1:((List.range j).map Int.ofNat).length≤s.length:=z0z (zid j) fun y hy=>by
    obtain ⟨x,hx,rfl⟩:=List.mem_map.1 hy
    exact hj x (List.mem_range.1 hx)
   rwa [List.length_map,List.length_range] at h1
  simp only [List.cons_append,List.nil_append,List.append_nil]
  refine ⟨fun n vs K=>K=K9∧∃j:Nat,vs=[nI j]∧n=s.length - j∧∀x:Nat,x < j→(x:Int)∈s,⟨s.length,rfl,0,rfl,rfl,fun x h=>by omega⟩,?_⟩
  rintro n2 vs K _ ⟨rfl,j,rfl,rfl,hj⟩
  simp only [cns]
  have hjs:=hjl j hj
  have hb9:K tr=some (.map es9 cl9):=h9.blk (zmm _ (zms))
  refine z4i (α:=Int) (m:=encS s) (v:=.map (some tr)) (j:Int) (.int .i64 0) zbw kIntK (by kernel_rfl) (by kernel_rfl) (by kernel_rfl) ⟨tr,es9,cl9,rfl,hb9,hset⟩ (by rw [zkq];split<;>rfl) z06 ?_
  rw [zkq]
  by_cases hin:(j:Int)∈s
  ·rw [if_pos hin]
   simp only [Option.getD_some,List.cons_append,List.nil_append]
   have hj2:=hjl (j+1) fun x hx=>by
    by_cases e:x=j
    ·subst e;exact hin
    ·exact hj x (by omega)
   refine ⟨fun g2=>?_,fun g2=>?_⟩
   ·refine ⟨_,z05,s.length - (j+1),by omega,rfl,j+1,?_,rfl,fun x hx=>?_⟩
    ·simp only [evs,evb];rw [w64 (by omega) (by omega)];rfl
    ·by_cases e:x=j
     ·subst e;exact hin
     ·exact hj x (by omega)
   ·simp [evs,evb] at g2
  ·rw [if_neg hin]
   simp only [Option.getD_none,List.cons_append,List.nil_append]
   refine ⟨fun g2=>?_,fun g2=>?_⟩
   ·simp [evs,evb] at g2
   have hplr:∃c,pl[r]?=some c:=⟨_,zge (by rw [hcol.len];omega)⟩
   obtain ⟨c,hc⟩:=hplr
   have h10:=h9.tail.tail
   obtain ⟨u1,_⟩:=(h10.row (zms)).get hc
   refine ⟨fun _=>?_,?_⟩
   ·simp only [Chk.holds,evs,evb];exact ⟨u1,by omega,by omega⟩
   refine z1d (i:=r) (a:=c) (a':=(j:Int)) (us:=[.int .i64 (j:Int)]) ?_ h10 hc rfl ?_ (by simp [oneC]) (z0o (by unfold InI;omega)) fun K11 h11=>?_
   ·simp only [evs,evb];rfl
   ·simp only [evs,evb]
   have hstep:=Z6b ok hk.1 hnd hstl hrg hord hcol hr' hrR (j:=j) (fun x hx=>(hs' _).1 (hj x hx)) (fun h=>hin ((hs' _).2 h)) (by omega)
   refine ⟨_,z17 rfl (z17 rfl z05),n - 1,by omega,i+1,pl.set r (j:Int),_,S7,?_,by omega,l7,h11,hstep⟩
   simp only [evs,evb]
   rw [w64 (n:=(j:Int)+1) (by omega) (by omega),w64 (n:=(i:Int)+1) (by omega) (by omega)]
   by_cases e:(j:Int)+1 > most
   ·simp [e]
   ·simp [e]
theorem zre (e v:Int) (hv:arI .add .i64 11 (arI .sub .i64 e 80)=v) (H:PH):Gives Tryz.prog zuf [.int .i64 e] H (.int .i64 v):=by
 subst hv
 refine zpr [.int .i64 e] (by kernel_rfl) (by kernel_rfl) ?_
 exact ⟨rfl,PH.le_refl _⟩
def Z0v (p:PrcX):Prop:=∀b∈p.blocks,b.e.kind≠4∧b.e.kind≠6
section
variable {S0 K:PH} {x:FX} {pu nx:Int} {l l':List ItemR} {k k':Nat} {J:List Itm}
theorem Z5y (h:GnH S0 K x pu nx l k J):Tri Tryz.prog z8p #[pAt x.rf,.int .i64 0] K (GnQ S0 x pu nx l k J):=by
 refine z6d [pAt x.rf,.int .i64 0] (by kernel_rfl) (by kernel_rfl) ?_
 exact ⟨fun g=>by simp [ev0,ev,evV,List.cons_append,List.nil_append,List.getD_cons_zero,List.getD_cons_succ,List.map_cons,List.map_nil,iOf,bOf,sOf,pOf,slLen,z04,cmpI,arI,Value.ite_bool,z03,z02,z00,z01] at g,fun _=>⟨rfl,h⟩⟩
def FX.entL0 (x:FX) (lab:Int):List ItemR:=[⟨1,⟨0,0,0,0,0⟩,lab,0⟩,⟨4,⟨20,26,0,0,0⟩,0,x.p.params⟩,⟨2,⟨25,26,28,0,0⟩,22,0⟩]
theorem Z5m (hx:FOk S0 x) (lab:Int) (hl:InI lab) (hpr:InI x.p.params) (hs:x.slots=0) (hno:Z0v x.p) (hfit:x.p.Fit) (hE:∀b∈x.p.blocks,b.e.args.length≤20000000) (hin:(inL x.p)[0]?=some []) (h:GnH S0 K x 0 nx l (k+3) J) :
  Tri Tryz.prog zgm #[pAt x.rf,.int .i64 lab] K (GnQ S0 x 0 nx (l++x.entL0 lab) k J):=by
 obtain ⟨bb,bc,hbv⟩:=hx.bl.sl
 refine zeb [pAt x.rf,.int .i64 lab] (by kernel_rfl) (by kernel_rfl) ?_
 refine ⟨fun _=>rfl,[pAt x.rg],rfl,h.frow 0 1,fun _=>rfl,?_⟩
 simp only [List.cons_append,List.nil_append]
 refine z29 z0c (h.to (z0u lab hl)) fun K1 h1=>?_
 refine ⟨[pAt x.rg],rfl,h1.frow 0 1,fun _=>rfl,[.int .i64 x.p.params],rfl,h1.frow 1 1,?_⟩
 simp only [List.cons_append,List.nil_append]
 refine z29 z0d (h1.to (z0w 26 x.p.params (by decide) hpr)) fun K2 h2=>?_
 refine ⟨[pAt x.rg],rfl,h2.frow 0 1,fun _=>rfl,?_⟩
 simp only [List.cons_append,List.nil_append]
 refine z0b [.int .i64 22] zqt (zre 91 22 (by kernel_rfl) K2) rfl (z2t (h2.frow 0 1) z06) fun K3 l3=>?_
 have h3:=h2.le l3
 simp only [List.cons_append,List.nil_append]
 refine z29 z0k (h3.to (If_em 25 26 28 22 (by decide) (by decide) (by decide) (by decide))) fun K4 h4=>?_
 have h4':GnH S0 K4 x 0 nx (l++x.entL0 lab) k J:=by
  simpa only [FX.entL0,List.append_assoc,List.cons_append,List.nil_append] using h4
 refine ⟨fun vs K=>vs=[]∧GnH S0 K x 0 nx (l++x.entL0 lab) k J,?_,?_⟩
 rotate_left
 ·refine z0b [.int .i64 0] z7o (zmt x.p x.bv x.rf (x.cells 0) 0 K4 (hx.bl.le h4'.sh) rfl (by rw [←hs];rfl) (fun off n=>h4'.frow off n) i0J hno) rfl z06 fun K5 l5=>?_
  simp only [List.cons_append,List.nil_append]
  refine ⟨fun g=>by simp [ev0,ev,evV,List.cons_append,List.nil_append,List.getD_cons_zero,List.getD_cons_succ,List.map_cons,List.map_nil,iOf,bOf,sOf,pOf,slLen,z04,cmpI,arI,Value.ite_bool,z03,z02,z00,z01] at g,fun _=>⟨_,z05,rfl,h4'.le l5⟩⟩
 rintro vs K5 _ ⟨rfl,h5⟩
 simp only [List.cons_append,List.nil_append]
 have hsl:rowAt K5 (some ⟨x.rf,6,none⟩) [.int .i64 0]:=by have:=h5.frow 6 1;rw [←hs];exact this
 refine ⟨[.int .i64 0],rfl,hsl,?_⟩
 simp only [List.cons_append,List.nil_append]
 refine ⟨fun n vs K=>vs=[.int .i64 0]∧K=K5,⟨1,rfl,rfl⟩,?_⟩
 rintro n vs K _ ⟨rfl,rfl⟩
 simp only [List.cons_append,List.nil_append]
 refine ⟨fun g=>by simp [ev0,ev,evV,List.cons_append,List.nil_append,List.getD_cons_zero,List.getD_cons_succ,List.map_cons,List.map_nil,iOf,bOf,sOf,pOf,slLen,z04,cmpI,arI,Value.ite_bool,z03,z02,z00,z01] at g,fun _=>?_⟩
 refine ⟨[.int .i64 0],rfl,hsl,?_⟩
 simp only [List.cons_append,List.nil_append]
 refine z29 z80 (Z5y h5) fun K6 h6=>?_
 refine ⟨[.int .i64 x.p.params,.int .i64 x.p.holds,.int .i64 x.p.regs,x.bv],by rw [hbv];rfl,h6.frow 1 4,?_⟩
 simp only [List.cons_append,List.nil_append]
 refine z0a zq2 (zzx x.p x.bv K6 (hx.bl.le h6.sh) hfit hE) ?_
 rintro e K7 ⟨l7,v7,rfl,hv7⟩
 obtain ⟨z1,_,zcs,z2,z3⟩:=hv7.get hin
 obtain ⟨w7,rfl,hw7⟩:=csLK z2
 obtain ⟨vb,vc,rfl⟩:=hv7.sl
 obtain ⟨wb,wc,rfl⟩:=hw7.sl
 have h7:=h6.le l7
 refine ⟨_,[_],rfl,rfl,rfl,z06,fun _=>?_,[_],rfl,z3,?_⟩
 ·simp only [Chk.holds,ev0,ev,evV,List.cons_append,List.nil_append,List.getD_cons_zero,List.getD_cons_succ,List.map_cons,List.map_nil,iOf,bOf,sOf,pOf,slLen,z04,cmpI,arI,Value.ite_bool,z03,z02,z00,z01]
  refine ⟨z1,by omega,?_⟩
  have:=(List.getElem?_eq_some_iff.1 hin).1
  omega
 simp only [List.cons_append,List.nil_append]
 refine ⟨fun n vs K=>vs=[.slice none 0 0,.int .i64 0]∧K=K7,⟨1,rfl,rfl⟩,?_⟩
 rintro n vs K _ ⟨rfl,rfl⟩
 simp only [List.cons_append,List.nil_append]
 refine ⟨fun g=>by simp [ev0,ev,evV,List.cons_append,List.nil_append,List.getD_cons_zero,List.getD_cons_succ,List.map_cons,List.map_nil,iOf,bOf,sOf,pOf,slLen,z04,cmpI,arI,Value.ite_bool,z03,z02,z00,z01] at g,fun _=>?_⟩
 refine z29 zff (Z42 h7) fun K8 h8=>?_
 refine ⟨fun n vs K=>vs=[.int .i64 0]∧K=K8,⟨1,rfl,rfl⟩,?_⟩
 rintro n vs K _ ⟨rfl,rfl⟩
 simp only [List.cons_append,List.nil_append]
 refine ⟨fun g=>by simp [ev0,ev,evV,List.cons_append,List.nil_append,List.getD_cons_zero,List.getD_cons_succ,List.map_cons,List.map_nil,iOf,bOf,sOf,pOf,slLen,z04,cmpI,arI,Value.ite_bool,z03,z02,z00,z01] at g,fun _=>⟨rfl,h8⟩⟩
end
theorem zsi (c:CodeX) (cv:Value) (H:PH) (hc:SlR H c cv) (hno:∀p∈c,∀b∈p.blocks,∀y∈b.ins,y.const.kind≠4):Gives Tryz.prog ztv [.agg #[cv]] H (.slice none 0 0):=by
 obtain ⟨cb,cc,rfl⟩:=hc.sl
 have hmx:maxLen=9223372036854775807:=rfl
 have hcm:=hc.max
 have upk:∀{k m:Nat},k < m→m≤maxLen→IntKind.i64.wrap ((k:Int)+1)=((k+1:Nat):Int):=fun h1 h2=>by rw [w64 (by omega) (by omega)];rfl
 refine zpk [.slice cb c.length cc] (by kernel_rfl) (by kernel_rfl) ?_
 refine ⟨fun n vs K=>∃i:Nat,i+n=c.length∧vs=[.slice none 0 0,nI i]∧K=H,⟨c.length,0,by omega,rfl,rfl⟩,?_⟩
 rintro n vs K _ ⟨i,hin,rfl,rfl⟩
 simp only [List.cons_append,List.nil_append]
 refine ⟨fun g=>?_,fun g=>⟨rfl,PH.le_refl _⟩⟩
 simp only [ev0,ev,evV,List.cons_append,List.nil_append,List.getD_cons_zero,List.getD_cons_succ,List.map_cons,List.map_nil,iOf,bOf,sOf,pOf,slLen,z04,cmpI,arI,Value.ite_bool,z03,z02,z00,z01,zdt] at g
 obtain ⟨p,hp⟩:∃p,c[i]?=some p:=⟨_,zge (by omega)⟩
 obtain ⟨x1,_,cs,x2,x3⟩:=hc.get hp
 obtain ⟨bv,rfl,p1,p2,p3,p4⟩:=prc_iff.1 x2
 obtain ⟨pb,pc,rfl⟩:=p4.sl
 have hbm:=p4.max
 refine ⟨fun _=>?_,[.int .i64 p.params,.int .i64 p.holds,.int .i64 p.regs,.slice pb p.blocks.length pc],rfl,by simp only [ev0,ev,evV,List.cons_append,List.nil_append,List.getD_cons_zero,List.getD_cons_succ,List.map_cons,List.map_nil,iOf,bOf,sOf,pOf,slLen,z04,cmpI,arI,Value.ite_bool,z03,z02,z00,z01];exact x3,?_⟩
 ·simp only [Chk.holds,ev0,ev,evV,List.cons_append,List.nil_append,List.getD_cons_zero,List.getD_cons_succ,List.map_cons,List.map_nil,iOf,bOf,sOf,pOf,slLen,z04,cmpI,arI,Value.ite_bool,z03,z02,z00,z01];exact ⟨x1,by omega,by omega⟩
 simp only [List.cons_append,List.nil_append]
 refine ⟨fun m vs K2=>∃j:Nat,j+m=p.blocks.length∧vs=[.slice none 0 0,nI j]∧K2=K,⟨p.blocks.length,0,by omega,rfl,rfl⟩,?_⟩
 rintro m vs K2 _ ⟨j,hjm,rfl,rfl⟩
 simp only [List.cons_append,List.nil_append]
 refine ⟨fun g=>?_,fun g=>?_⟩
 rotate_left
 ·refine ⟨_,(z1i (by decide)).trans z05,n - 1,by omega,i+1,by omega,?_,rfl⟩
  simp only [ev0,ev,evV,List.cons_append,List.nil_append,List.getD_cons_zero,List.getD_cons_succ,List.map_cons,List.map_nil,iOf,bOf,sOf,pOf,slLen,z04,cmpI,arI,Value.ite_bool,z03,z02,z00,z01,upk (show i < c.length by omega) hcm]
 simp only [ev0,ev,evV,List.cons_append,List.nil_append,List.getD_cons_zero,List.getD_cons_succ,List.map_cons,List.map_nil,iOf,bOf,sOf,pOf,slLen,z04,cmpI,arI,Value.ite_bool,z03,z02,z00,z01,zdt] at g
 obtain ⟨b,hb⟩:∃b,p.blocks[j]?=some b:=⟨_,zge (by omega)⟩
 obtain ⟨y1,_,ycs,y2,y3⟩:=p4.get hb
 obtain ⟨iv,es,rfl,i1,i2⟩:=blk_iff.1 y2
 obtain ⟨ib,ic,rfl⟩:=i1.sl
 have him:=i1.max
 obtain ⟨av,rfl,e1,e2,e3,e4,e5,e6⟩:=end_iff.1 i2
 obtain ⟨ab,ac,rfl⟩:=e3.sl
 refine ⟨fun _=>?_,[.slice ib b.ins.length ic,.int .i64 b.e.kind,.int .i64 b.e.reg,.slice ab b.e.args.length ac,.int .i64 b.e.to,.int .i64 b.e.next,.int .i64 b.e.els],rfl,by simp only [ev0,ev,evV,List.cons_append,List.nil_append,List.getD_cons_zero,List.getD_cons_succ,List.map_cons,List.map_nil,iOf,bOf,sOf,pOf,slLen,z04,cmpI,arI,Value.ite_bool,z03,z02,z00,z01];exact y3,?_⟩
 ·simp only [Chk.holds,ev0,ev,evV,List.cons_append,List.nil_append,List.getD_cons_zero,List.getD_cons_succ,List.map_cons,List.map_nil,iOf,bOf,sOf,pOf,slLen,z04,cmpI,arI,Value.ite_bool,z03,z02,z00,z01];exact ⟨y1,by omega,by omega⟩
 simp only [List.cons_append,List.nil_append]
 refine ⟨fun q vs K=>∃u:Nat,u+q=b.ins.length∧vs=[.slice none 0 0,nI u]∧K=K2,⟨b.ins.length,0,by omega,rfl,rfl⟩,?_⟩
 rintro q vs K _ ⟨u,huq,rfl,rfl⟩
 simp only [List.cons_append,List.nil_append]
 refine ⟨fun g=>?_,fun g=>?_⟩
 rotate_left
 ·refine ⟨_,(z1i (by decide)).trans z05,m - 1,by omega,j+1,by omega,?_,rfl⟩
  simp only [ev0,ev,evV,List.cons_append,List.nil_append,List.getD_cons_zero,List.getD_cons_succ,List.map_cons,List.map_nil,iOf,bOf,sOf,pOf,slLen,z04,cmpI,arI,Value.ite_bool,z03,z02,z00,z01,upk (show j < p.blocks.length by omega) hbm]
 simp only [ev0,ev,evV,List.cons_append,List.nil_append,List.getD_cons_zero,List.getD_cons_succ,List.map_cons,List.map_nil,iOf,bOf,sOf,pOf,slLen,z04,cmpI,arI,Value.ite_bool,z03,z02,z00,z01,zdt] at g
 obtain ⟨y,hy⟩:∃y,b.ins[u]?=some y:=⟨_,zge (by omega)⟩
 obtain ⟨z1,_,zcs,z2,z3⟩:=i1.get hy
 obtain ⟨wv,dv,rfl,q1,q2,q3,q4,q5,q6,q7,q8⟩:=ins_iff.1 z2
 obtain ⟨wb,wc,rfl⟩:=q3.sl
 obtain ⟨db,dc,rfl⟩:=q7.sl
 have hk:=hno p (List.mem_of_getElem? hp) b (List.mem_of_getElem? hb) y (List.mem_of_getElem? hy)
 refine ⟨fun vs K3=>vs=[.slice none 0 0]∧K3=K,?_,fun _=>?_,inV y (.slice wb y.args.length wc) (.slice db y.const.list.length dc),rfl,by simp only [ev0,ev,evV,List.cons_append,List.nil_append,List.getD_cons_zero,List.getD_cons_succ,List.map_cons,List.map_nil,iOf,bOf,sOf,pOf,slLen,z04,cmpI,arI,Value.ite_bool,z03,z02,z00,z01];exact z3,?_⟩
 ·rintro vs K3 _ ⟨rfl,rfl⟩
  refine ⟨_,z05,q - 1,by omega,u+1,by omega,?_,rfl⟩
  simp only [ev0,ev,evV,List.cons_append,List.nil_append,List.getD_cons_zero,List.getD_cons_succ,List.map_cons,List.map_nil,iOf,bOf,sOf,pOf,slLen,z04,cmpI,arI,Value.ite_bool,z03,z02,z00,z01,upk (show u < b.ins.length by omega) him]
 ·simp only [Chk.holds,ev0,ev,evV,List.cons_append,List.nil_append,List.getD_cons_zero,List.getD_cons_succ,List.map_cons,List.map_nil,iOf,bOf,sOf,pOf,slLen,z04,cmpI,arI,Value.ite_bool,z03,z02,z00,z01];exact ⟨z1,by omega,by omega⟩
 simp only [inV,List.cons_append,List.nil_append]
 refine ⟨fun vs K3=>vs=[.bool false]∧K3=K,?_,fun g=>by simp [ev0,ev,evV,List.cons_append,List.nil_append,List.getD_cons_zero,List.getD_cons_succ,List.map_cons,List.map_nil,iOf,bOf,sOf,pOf,slLen,z04,cmpI,arI,Value.ite_bool,z03,z02,z00,z01,hk] at g,fun _=>⟨_,z05,rfl,rfl⟩⟩
 rintro vs K3 _ ⟨rfl,rfl⟩
 simp only [List.cons_append,List.nil_append]
 exact ⟨fun g=>by simp [ev0,ev,evV,List.cons_append,List.nil_append,List.getD_cons_zero,List.getD_cons_succ,List.map_cons,List.map_nil,iOf,bOf,sOf,pOf,slLen,z04,cmpI,arI,Value.ite_bool,z03,z02,z00,z01] at g,fun _=>⟨_,z05,rfl,rfl⟩⟩
theorem Z9g (p:PrcX) (bv:Value) (S:PH) (hbv:SlR S p.blocks bv) (hp:p.Fit) (hE:∀b∈p.blocks,b.e.args.length≤20000000) (hm:mayP p=true) :
  Tri Tryz.prog zkm #[.agg (prcVs p bv).toArray] S fun e K'=>∃(S':PH) (rf:Nat) (pl:List Int) (pv:Value) (n:Int),e=.returned (pAt rf)∧PH.le S S'∧SlR S' pl pv∧Placed p 24 n pl ∧
   Held S' K' [bx rf 142 [.pointer none,.int .i64 p.params,.int .i64 p.holds,.int .i64 p.regs,bv,pv,.int .i64 n,.slice none 0 0,.int .i64 0]]:=by
 obtain ⟨b0,c0,rfl⟩:=hbv.sl
 refine zgi (prcVs p (.slice b0 p.blocks.length c0)) (by kernel_rfl) (by kernel_rfl) ?_
 simp only [prcVs]
 refine z28 (vs:=[.pointer none,.int .i64 p.params,.int .i64 p.holds,.int .i64 p.regs,.slice b0 p.blocks.length c0,.slice none 0 0,.int .i64 0,.slice none 0 0,.int .i64 0]) (Held.nil (PH.le_refl S)) (by kernel_rfl) fun rf K1 _ h1=>?_
 simp only [List.cons_append,List.nil_append]
 refine z0a zh2 (h1.pure (R:=fun x S'=>((24 < (1:Int)∨24 < (24:Int))∧x=.returned (.tuple #[.slice none 0 0,.int .i64 0,.int .i64 1]))∨((1≤(24:Int)∧(24:Int)≤24)∧mayP p=false∧x=.returned (.tuple #[.slice none 0 0,.int .i64 0,.int .i64 150]))∨((1≤(24:Int)∧(24:Int)≤24)∧mayP p=true∧∃l v n,x=.returned (.tuple #[v,.int .i64 n,.int .i64 0])∧SlR S' l v∧Placed p 24 n l)) (zti p 24 (.slice b0 p.blocks.length c0) S hbv ⟨hp,hE⟩)) ?_
 rintro e K2 ⟨S2,l2,h2,h | ⟨_,h,_⟩ | ⟨_,_,pl,pv,n,rfl,hpl,hpd⟩⟩
 ·omega
 ·rw [hm] at h;cases h
 obtain ⟨pb,pc,hpv⟩:=hpl.sl
 refine ⟨_,[pv,.int .i64 n,.int .i64 0],rfl,by rw [hpv];rfl,rfl,z06,fun _=>rfl,?_⟩
 simp only [List.cons_append,List.nil_append]
 refine z0n (off:=5) (vs:=[pv]) rfl h2 (by simp only [ev0,ev,evV,List.cons_append,List.nil_append,List.getD_cons_zero,List.getD_cons_succ,List.map_cons,List.map_nil,iOf,bOf,sOf,pOf,slLen,z04,cmpI,arI,Value.ite_bool,z03,z02,z00,z01]) (by intro u hu;rw [List.mem_singleton.1 hu,hpv];rfl) (by simp) fun K3 h3=>?_
 refine z0n (off:=6) (vs:=[.int .i64 n]) rfl h3 (by simp only [ev0,ev,evV,List.cons_append,List.nil_append,List.getD_cons_zero,List.getD_cons_succ,List.map_cons,List.map_nil,iOf,bOf,sOf,pOf,slLen,z04,cmpI,arI,Value.ite_bool,z03,z02,z00,z01]) (by simp [oneC]) (by simp) fun K4 h4=>?_
 exact ⟨S2,rf,pl,pv,n,rfl,l2,hpl,hpd,h4⟩
theorem zwh {S0 K:PH} {rg:Nat} {sv env:Value} {nx stack:Int} {l:List ItemR} {k:Nat} {J:List Itm} (h:EmH S0 K rg 100 [sv,env,.int .i64 nx,.int .i64 stack] l k J) (h0:0≤nx) (h1:nx≤2199023255552) :
  Tri Tryz.prog zfa #[pAt rg] K fun e K'=>e=.returned (.int .i64 nx)∧EmH S0 K' rg 100 [sv,env,.int .i64 (nx+1),.int .i64 stack] l k J:=by
 refine zc3 [pAt rg] (by kernel_rfl) (by kernel_rfl) ?_
 obtain ⟨hl,S,iv,hS,hh⟩:=h
 have w1:IntKind.i64.wrap (nx+1)=nx+1:=w64 (by omega) (by omega)
 refine ⟨fun _=>rfl,[.int .i64 nx],rfl,z1p hh (zms) 3 1,?_⟩
 simp only [List.cons_append,List.nil_append]
 refine z0n (off:=3) (vs:=[.int .i64 (nx+1)]) rfl hh (by simp only [ev0,ev,evV,List.cons_append,List.nil_append,List.getD_cons_zero,List.getD_cons_succ,List.map_cons,List.map_nil,iOf,bOf,sOf,pOf,slLen,z04,cmpI,arI,Value.ite_bool,z03,z02,z00,z01,w1]) (by simp [oneC]) (by simp) fun K1 h1=>?_
 refine ⟨[.int .i64 (nx+1)],rfl,z1p h1 (zms) 3 1,?_,hl,S,iv,hS,h1⟩
 show Ending.returned (.int .i64 (IntKind.i64.wrap (nx+1 - 1)))=_
 rw [w64 (by omega) (by omega)];congr 2;omega
theorem zmc (p:PrcX) (bv:Value) (S K:PH) (J:List Itm) (h:Held S K J) (hbv:SlR S p.blocks bv) (hp:p.Fit) (hE:∀b∈p.blocks,b.e.args.length≤20000000) (hm:mayP p=true) :
  Tri Tryz.prog zkm #[.agg (prcVs p bv).toArray] K fun e K'=>∃(S':PH) (rf:Nat) (pl:List Int) (pv:Value) (n:Int),e=.returned (pAt rf)∧PH.le S S'∧SlR S' pl pv∧Placed p 24 n pl ∧
   Held S' K' (bx rf 142 [.pointer none,.int .i64 p.params,.int .i64 p.holds,.int .i64 p.regs,bv,pv,.int .i64 n,.slice none 0 0,.int .i64 0]::J):=by
 obtain ⟨b0,c0,rfl⟩:=hbv.sl
 refine zgi (prcVs p (.slice b0 p.blocks.length c0)) (by kernel_rfl) (by kernel_rfl) ?_
 simp only [prcVs]
 refine z28 (vs:=[.pointer none,.int .i64 p.params,.int .i64 p.holds,.int .i64 p.regs,.slice b0 p.blocks.length c0,.slice none 0 0,.int .i64 0,.slice none 0 0,.int .i64 0]) h (by kernel_rfl) fun rf K1 _ h1=>?_
 simp only [List.cons_append,List.nil_append]
 refine z0a zh2 (h1.pure (R:=fun x S'=>((24 < (1:Int)∨24 < (24:Int))∧x=.returned (.tuple #[.slice none 0 0,.int .i64 0,.int .i64 1]))∨((1≤(24:Int)∧(24:Int)≤24)∧mayP p=false∧x=.returned (.tuple #[.slice none 0 0,.int .i64 0,.int .i64 150]))∨((1≤(24:Int)∧(24:Int)≤24)∧mayP p=true∧∃l v n,x=.returned (.tuple #[v,.int .i64 n,.int .i64 0])∧SlR S' l v∧Placed p 24 n l)) (zti p 24 (.slice b0 p.blocks.length c0) S hbv ⟨hp,hE⟩)) ?_
 rintro e K2 ⟨S2,l2,h2,h | ⟨_,h,_⟩ | ⟨_,_,pl,pv,n,rfl,hpl,hpd⟩⟩
 ·omega
 ·rw [hm] at h;cases h
 obtain ⟨pb,pc,hpv⟩:=hpl.sl
 refine ⟨_,[pv,.int .i64 n,.int .i64 0],rfl,by rw [hpv];rfl,rfl,z06,fun _=>rfl,?_⟩
 simp only [List.cons_append,List.nil_append]
 refine z0n (off:=5) (vs:=[pv]) rfl h2 (by simp only [ev0,ev,evV,List.cons_append,List.nil_append,List.getD_cons_zero,List.getD_cons_succ,List.map_cons,List.map_nil,iOf,bOf,sOf,pOf,slLen,z04,cmpI,arI,Value.ite_bool,z03,z02,z00,z01]) (by intro u hu;rw [List.mem_singleton.1 hu,hpv];rfl) (by simp) fun K3 h3=>?_
 refine z0n (off:=6) (vs:=[.int .i64 n]) rfl h3 (by simp only [ev0,ev,evV,List.cons_append,List.nil_append,List.getD_cons_zero,List.getD_cons_succ,List.map_cons,List.map_nil,iOf,bOf,sOf,pOf,slLen,z04,cmpI,arI,Value.ite_bool,z03,z02,z00,z01]) (by simp [oneC]) (by simp) fun K4 h4=>?_
 exact ⟨S2,rf,pl,pv,n,rfl,l2,hpl,hpd,h4⟩
structure Least (p:PrcX) (y:InsX) (e:EndX):Prop where
 blk:p.blocks=[⟨[y],e⟩]
 regs:p.regs=1
 params:p.params=0
 op:y.op=z20
 to:y.to=0
 num:y.const.kind≠4
 kind:e.kind=2
 reg:e.reg=0
 fit:p.Fit
 few:∀b∈p.blocks,b.e.args.length≤20000000
 may:mayP p=true
 inl:(inL p)[0]?=some []
 one:∀n l,Placed p 24 n l→l=[0]∧n=0
theorem Least.noCalls {p:PrcX} {y:InsX} {e:EndX} (h:Least p y e):Z0v p:=fun b hb=>by
 rw [h.blk] at hb
 rw [List.mem_singleton.1 hb]
 simp only [h.kind]
 omega
def z47 (lab nx w:Int):List ItemR:=[⟨1,⟨0,0,0,0,0⟩,lab,0⟩,⟨4,⟨20,26,0,0,0⟩,0,0⟩,⟨2,⟨25,26,28,0,0⟩,22,0⟩,⟨3,⟨28,0,0,0,0⟩,nx,0⟩,⟨1,⟨0,0,0,0,0⟩,nx,0⟩,⟨4,⟨20,1,0,0,0⟩,0,w⟩,⟨0,⟨15,1,1,0,0⟩,0,0⟩,⟨3,⟨28,0,0,0,0⟩,4,0⟩]
theorem zz0 {S0 K:PH} {rg:Nat} {sv env:Value} {nx stack:Int} {l:List ItemR} {k:Nat} {J:List Itm} {p:PrcX} {y:InsX} {e:EndX} {ents:List Int} {syms:List (List UInt8)} (hp:Least p y e) (bv:Value) (lab:Int) (hlab:InI lab)
  (h:EmH S0 K rg 100 [sv,env,.int .i64 nx,.int .i64 stack] l (k+20) J) (h0:0≤nx) (h1:nx≤1099511627776) (hst:0≤stack∧stack≤131072) (hbv:SlR S0 p.blocks bv) (hen:SlR S0 ents env) (hsy:SlR S0 syms sv) (hkk:k≤1099511620000) :
  Tri Tryz.prog zbu #[pAt rg,.agg (prcVs p bv).toArray,.int .i64 lab] K fun x K'=>x=.returned (.tuple #[])∧EmH S0 K' rg 100 [sv,env,.int .i64 (nx+1),.int .i64 stack] (l++z47 lab nx ((wordX (z1k y.const) syms).getD 0)) k J:=by
 obtain ⟨hl,S,iv,hS,hh⟩:=h
 have hbv0:=hbv
 obtain ⟨b0,c0,rfl⟩:=hbv.sl
 have hlen:p.blocks.length=1:=by rw [hp.blk];rfl
 obtain ⟨bv,hbvE⟩:∃bv,bv=Value.slice b0 p.blocks.length c0:=⟨_,rfl⟩
 refine za0 ([pAt rg]++prcVs p (.slice b0 p.blocks.length c0)++[.int .i64 lab]) (by kernel_rfl) (by kernel_rfl) ?_
 simp only [prcVs,List.cons_append,List.nil_append]
 refine z0a zj9 (zmc p (.slice b0 p.blocks.length c0) S K _ hh (hbv0.le hS) hp.fit hp.few hp.may) ?_
 rintro _ K1 ⟨S1,rf,pl,pv,n,rfl,l1,hpl,hpd,hh1⟩
 obtain ⟨rfl,rfl⟩:=hp.one _ _ hpd
 refine ⟨_,[pAt rf],rfl,rfl,rfl,z06,fun _=>rfl,?_⟩
 simp only [List.cons_append,List.nil_append]
 refine z0n (off:=0) (vs:=[pAt rg]) rfl hh1 (by simp only [ev0,ev,evV,List.cons_append,List.nil_append,List.getD_cons_zero,List.getD_cons_succ,List.map_cons,List.map_nil,iOf,bOf,sOf,pOf,slLen,z04,cmpI,arI,Value.ite_bool,z03,z02,z00,z01]) (by simp [oneC]) (by simp) fun K2 hh2=>?_
 have hS1:=PH.le_trans hS l1
 refine ⟨fun m vs K=>∃(i:Nat) (lv:Value) (S2:PH) (iv:Value),i+m=1∧vs=[nI i]∧PH.le S1 S2∧Held S2 K (bx rg 100 [iv,sv,env,.int .i64 (nx+i),.int .i64 stack]::orow 131 l iv::bx rf 142 [pAt rg,.int .i64 p.params,.int .i64 p.holds,.int .i64 p.regs,.slice b0 p.blocks.length c0,pv,.int .i64 0,lv,.int .i64 0]::orow 3 ((List.range i).map fun j:Nat=>nx+(j:Int)) lv::J),
  ⟨1,0,.slice none 0 0,S1,iv,rfl,rfl,PH.le_refl _,?_⟩,?_⟩
 ·have h3:=hh2.empty (α:=Int) 3
  rw [show nx+((0:Nat):Int)=nx by omega]
  exact h3.perm (by
   refine (List.Perm.swap _ _ _).trans ?_
   refine List.Perm.trans ?_ (List.perm_middle (l₁:=[_,_]) (l₂:=_)).symm
   refine List.Perm.cons _ ?_
   exact (List.perm_middle (l₁:=[_,_]) (l₂:=J)).symm)
 rintro m vs K3 _ ⟨i,lv,S2,iv2,him,rfl,l2,hh3⟩
 have hlr:=(hh3.row (e:=3) (l:=(List.range i).map fun j:Nat=>nx+(j:Int)) (v:=lv) (by simp))
 obtain ⟨lb,lc,hlv⟩:=hlr.sl
 simp only [List.cons_append,List.nil_append]
 refine ⟨fun g=>?_,fun g=>?_⟩
 ·simp only [ev0,ev,evV,List.cons_append,List.nil_append,List.getD_cons_zero,List.getD_cons_succ,List.map_cons,List.map_nil,iOf,bOf,sOf,pOf,slLen,z04,cmpI,arI,Value.ite_bool,z03,z02,z00,z01,hlen,zdt] at g
  obtain rfl:i=0:=by omega
  have hrf:∀off n,rowAt K3 (some ⟨rf,off,none⟩) ((([pAt rg,.int .i64 p.params,.int .i64 p.holds,.int .i64 p.regs,.slice b0 p.blocks.length c0,pv,.int .i64 0,lv,.int .i64 0]:List Value).drop off).take n):=fun off n=>z1p (T:=142) hh3 (by simp) off n
  refine ⟨[lv],by rw [hlv];rfl,hrf 7 1,?_⟩
  simp only [List.cons_append,List.nil_append]
  have hem:EmH S1 K3 rg 100 [sv,env,.int .i64 nx,.int .i64 stack] l (k+20) (bx rf 142 [pAt rg,.int .i64 p.params,.int .i64 p.holds,.int .i64 p.regs,.slice b0 p.blocks.length c0,pv,.int .i64 0,lv,.int .i64 0]::orow 3 ([]:List Int) lv::J):=⟨hl,S2,iv2,l2,by simpa using hh3⟩
  refine z0a z5x (zwh hem h0 (by omega)) ?_
  rintro _ K4 ⟨rfl,_,S4,iv4,l4,hh4⟩
  have hrf4:∀off n,rowAt K4 (some ⟨rf,off,none⟩) ((([pAt rg,.int .i64 p.params,.int .i64 p.holds,.int .i64 p.regs,.slice b0 p.blocks.length c0,pv,.int .i64 0,lv,.int .i64 0]:List Value).drop off).take n):=fun off n=>z1p (T:=142) hh4 (by simp) off n
  refine ⟨_,[.int .i64 nx],rfl,rfl,rfl,z2t (hrf4 7 1) z06,?_⟩
  simp only [List.cons_append,List.nil_append]
  have hh5:=hh4.perm (List.perm_middle (l₁:=[_,_,_]) (l₂:=J))
  refine z1o (b:=8) (more:=[nx]) [.int .i64 nx] z0y z0v rfl (by decide) (by decide) hh5 (by kernel_rfl) (.cons (z0o (inJ (by omega) (by omega))) .nil) (z2t (hrf4 7 1) z06) (fun w=>by kernel_rfl) (fun w=>by kernel_rfl)
   (by simp [maxLen]) (by simp) fun w5 v5 S5 K5 l5 hh6=>⟨z06,?_⟩
  simp only [List.cons_append,List.nil_append]
  obtain ⟨b6,c6,hv6⟩:=(hh6.row (e:=3) (zms)).sl
  have hh7:=hh6.perm (List.perm_middle (l₁:=[_,_,_]) (l₂:=J))
  refine z0n (T:=142) (off:=7) (vs:=[v5]) rfl (hh6.perm (List.perm_middle (l₁:=[_,_,_]) (l₂:=J))) (by simp only [ev0,ev,evV,List.cons_append,List.nil_append,List.getD_cons_zero,List.getD_cons_succ,List.map_cons,List.map_nil,iOf,bOf,sOf,pOf,slLen,z04,cmpI,arI,Value.ite_bool,z03,z02,z00,z01]) (by intro u hu;rw [List.mem_singleton.1 hu,hv6];rfl) (by simp) fun K6 hh8=>?_
  refine ⟨_,z05,0,by omega,1,v5,S5,iv4,rfl,by kernel_rfl,PH.le_trans l4 l5,?_⟩
  rw [show (List.range 1).map (fun j:Nat=>nx+(j:Int))=[nx] by rw [List.range_succ,List.range_zero];simp,show nx+((1:Nat):Int)=nx+1 from rfl]
  exact hh8.perm (List.Perm.append_right J (List.perm_append_comm (l₁:=[_,_]) (l₂:=[_,_])))
 simp only [ev0,ev,evV,List.cons_append,List.nil_append,List.getD_cons_zero,List.getD_cons_succ,List.map_cons,List.map_nil,iOf,bOf,sOf,pOf,slLen,z04,cmpI,arI,Value.ite_bool,z03,z02,z00,z01,hlen,zdf] at g
 obtain rfl:i=1:=by omega
 obtain ⟨S3,s3,l3,hh4⟩:=(hh3.perm (List.perm_middle (l₁:=[_,_,_]) (l₂:=J))).freeze
 have hS3:=PH.le_trans hS1 (PH.le_trans l2 l3)
 have s3':SlR S3 [nx] lv:=by
  have e:(List.range 1).map (fun j:Nat=>nx+(j:Int))=[nx]:=by
   rw [List.range_succ,List.range_zero];simp
  rw [e] at s3;exact s3
 obtain ⟨x,hxE⟩:∃x:FX,x=⟨rg,rf,p,[0],0,[nx],ents,syms,stack,.slice b0 p.blocks.length c0,pv,lv,env,sv⟩:=⟨_,rfl⟩
 have hx:FOk S3 x:=by
  rw [hxE]
  exact ⟨hbv0.le hS3,hpl.le (PH.le_trans l2 l3),s3',hen.le hS3,hsy.le hS3,by simp,by simp,hst⟩
 have xrf:x.rf=rf:=by rw [hxE]
 have xrg:x.rg=rg:=by rw [hxE]
 have xp:x.p=p:=by rw [hxE]
 have hg4:GnH S3 K3 x 0 (nx+1) l (k+17) J:=by
  rw [hxE]
  exact ⟨⟨by omega,S3,iv2,PH.le_refl _,hh4⟩,by omega,by omega⟩
 have hhas0:x.has 0:=by rw [hxE];exact ⟨by omega,by simp⟩
 have hat0:x.at_ 0=0:=by rw [hxE];rfl
 have hcol:x.col 0=true:=by unfold FX.col;rw [hat0];rfl
 have hreg:x.reg 0=1:=by unfold FX.reg;rw [hat0];rfl
 have fin:∀{K':PH} {l':List ItemR},GnH S3 K' x 0 (nx+1) l' k J→EmH S0 K' rg 100 [sv,env,.int .i64 (nx+1),.int .i64 stack] l' k J:=fun h=>by
  obtain ⟨⟨q1,S4,iv4,q2,q3⟩,_,_⟩:=h
  rw [hxE] at q3
  exact ⟨q1,S4,iv4,PH.le_trans hS3 q2,(q3.perm (List.perm_middle (l₁:=[_,_]) (l₂:=J))).tail⟩
 rw [←xrf]
 have hent:=Z5m (k:=k+14) (J:=J) hx lab hlab (by rw [xp,hp.params];exact i0J) (by rw [hxE]) (by rw [xp];exact hp.noCalls) (by rw [xp];exact hp.fit) (by rw [xp];exact hp.few) (by rw [xp];exact hp.inl) hg4
 refine z29 zfg hent fun K4 h4=>?_
 have hlv1:lv=.slice lb 1 lc:=by rw [hlv];simp
 have labR:∀{K':PH},PH.le S3 K'→(z04 lv).isSome=true∧rowAt K' (pOf (eltV lv ((0:Nat):Int) 1)) [.int .i64 nx]:=fun hl=>by
  obtain ⟨z1,_,cs,z2,z3⟩:=(s3'.le hl).get (i:=0) rfl
  obtain ⟨rfl,_⟩:=csIK z2
  exact ⟨z1,z3⟩
 have rowL:∀{K':PH} {l':List ItemR} {k':Nat},GnH S3 K' x 0 (nx+1) l' k' J→rowAt K' (some ⟨x.rf,7,none⟩) [lv]:=fun h=>by
  have:=h.frow 7 1;rw [hxE] at this ⊢;exact this
 refine ⟨[pAt x.rg],rfl,h4.frow 0 1,fun _=>rfl,[lv],by rw [hlv1];rfl,rowL h4,fun _=>?_,[.int .i64 nx],rfl,(labR h4.sh).2,?_⟩
 ·rw [hlv1]
  have:=(labR h4.sh).1
  rw [hlv1] at this
  exact ⟨this,by simp [ev0,ev,evV,List.cons_append,List.nil_append,List.getD_cons_zero,List.getD_cons_succ,List.map_cons,List.map_nil,iOf,bOf,sOf,pOf,slLen,z04,cmpI,arI,Value.ite_bool,z03,z02,z00,z01],by simp [ev0,ev,evV,List.cons_append,List.nil_append,List.getD_cons_zero,List.getD_cons_succ,List.map_cons,List.map_nil,iOf,bOf,sOf,pOf,slLen,z04,cmpI,arI,Value.ite_bool,z03,z02,z00,z01]⟩
 simp only [List.cons_append,List.nil_append]
 refine z29 z0r (h4.to (k':=k+13) (z3n nx (inJ (by omega) (by omega)))) fun K5 h5=>?_
 obtain ⟨l5,hl5⟩:∃l5,l5=l++x.entL0 lab++[⟨3,⟨28,0,0,0,0⟩,nx,0⟩]:=⟨_,rfl⟩
 rw [←hl5] at h5
 obtain ⟨w,hw⟩:∃w,w=(wordX (z1k y.const) syms).getD 0:=⟨_,rfl⟩
 have hsymX:x.syms=syms:=by rw [hxE]
 have hout:l5++[⟨1,⟨0,0,0,0,0⟩,nx,0⟩]++x.constL 0 y++x.retL 0 e.reg=l++z47 lab nx w:=by
  have e1:x.constL 0 y=[⟨4,⟨20,1,0,0,0⟩,0,w⟩]:=by
   unfold FX.constL FX.numL
   rw [hp.to,if_pos hcol,hreg,hsymX,hw]
  have e2:x.retL 0 e.reg=[⟨0,⟨15,1,1,0,0⟩,0,0⟩,⟨3,⟨28,0,0,0,0⟩,4,0⟩]:=by
   unfold FX.retL FX.getL FX.get
   rw [hp.reg,if_pos hcol,if_pos hcol,hreg]
   have:growL (arI .sub .i64 0 x.slots)=[]:=by rw [hxE];rfl
   rw [this];rfl
  have e3:x.entL0 lab=[⟨1,⟨0,0,0,0,0⟩,lab,0⟩,⟨4,⟨20,26,0,0,0⟩,0,0⟩,⟨2,⟨25,26,28,0,0⟩,22,0⟩]:=by
   unfold FX.entL0;rw [xp,hp.params]
  rw [hl5,e1,e2,e3]
  simp only [z47,List.append_assoc,List.cons_append,List.nil_append]
 rw [←hw]
 refine ⟨fun m vs K=>∃i:Nat,i+m=1∧vs=[nI i]∧((i=0∧GnH S3 K x 0 (nx+1) l5 (k+13) J)∨(i=1∧GnH S3 K x 0 (nx+1) (l++z47 lab nx w) k J)),⟨1,0,rfl,rfl,.inl ⟨rfl,h5⟩⟩,?_⟩
 rintro m vs K6 _ ⟨i,him,rfl,h6⟩
 simp only [List.cons_append,List.nil_append]
 refine ⟨fun g=>?_,fun g=>?_⟩
 rotate_left
 ·simp only [ev0,ev,evV,List.cons_append,List.nil_append,List.getD_cons_zero,List.getD_cons_succ,List.map_cons,List.map_nil,iOf,bOf,sOf,pOf,slLen,z04,cmpI,arI,Value.ite_bool,z03,z02,z00,z01,hlen,zdf] at g
  rcases h6 with ⟨rfl,_⟩ | ⟨_,h6⟩
  ·omega
  ·exact ⟨rfl,fin h6⟩
 simp only [ev0,ev,evV,List.cons_append,List.nil_append,List.getD_cons_zero,List.getD_cons_succ,List.map_cons,List.map_nil,iOf,bOf,sOf,pOf,slLen,z04,cmpI,arI,Value.ite_bool,z03,z02,z00,z01,hlen,zdt] at g
 obtain rfl:i=0:=by omega
 obtain ⟨_,h6⟩ | ⟨h,_⟩:=h6
 rotate_left
 ·omega
 have hb0:p.blocks[0]?=some ⟨[y],e⟩:=by rw [hp.blk];rfl
 obtain ⟨y1,_,ycs,y2,y3⟩:=(hbv0.le hS3).get hb0
 obtain ⟨iv6,es,rfl,i1,i2⟩:=blk_iff.1 y2
 obtain ⟨ib,ic,rfl⟩:=i1.sl
 obtain ⟨av,rfl,e1,e2,e3,e4,e5,e6⟩:=end_iff.1 i2
 obtain ⟨ab,ac,hav⟩:=e3.sl
 refine ⟨fun _=>?_,[.slice ib 1 ic,.int .i64 e.kind,.int .i64 e.reg,av,.int .i64 e.to,.int .i64 e.next,.int .i64 e.els],by rw [hav];rfl,by simp only [ev0,ev,evV,List.cons_append,List.nil_append,List.getD_cons_zero,List.getD_cons_succ,List.map_cons,List.map_nil,iOf,bOf,sOf,pOf,slLen,z04,cmpI,arI,Value.ite_bool,z03,z02,z00,z01];exact z18 h6.sh y3,?_⟩
 ·simp only [Chk.holds,ev0,ev,evV,List.cons_append,List.nil_append,List.getD_cons_zero,List.getD_cons_succ,List.map_cons,List.map_nil,iOf,bOf,sOf,pOf,slLen,z04,cmpI,arI,Value.ite_bool,z03,z02,z00,z01];exact ⟨y1,by omega,by omega⟩
 simp only [List.cons_append,List.nil_append]
 refine ⟨[pAt x.rg],rfl,h6.frow 0 1,fun _=>rfl,[lv],by rw [hlv1];rfl,rowL h6,fun _=>?_,[.int .i64 nx],rfl,(labR h6.sh).2,?_⟩
 ·rw [hlv1]
  have:=(labR h6.sh).1
  rw [hlv1] at this
  exact ⟨this,by simp [ev0,ev,evV,List.cons_append,List.nil_append,List.getD_cons_zero,List.getD_cons_succ,List.map_cons,List.map_nil,iOf,bOf,sOf,pOf,slLen,z04,cmpI,arI,Value.ite_bool,z03,z02,z00,z01],by simp [ev0,ev,evV,List.cons_append,List.nil_append,List.getD_cons_zero,List.getD_cons_succ,List.map_cons,List.map_nil,iOf,bOf,sOf,pOf,slLen,z04,cmpI,arI,Value.ite_bool,z03,z02,z00,z01]⟩
 simp only [List.cons_append,List.nil_append]
 refine z29 z0c (h6.to (k':=k+12) (z0u nx (inJ (by omega) (by omega)))) fun K7 h7=>?_
 refine ⟨fun q vs K=>∃u:Nat,u+q=1∧vs=[nI u]∧((u=0∧GnH S3 K x 0 (nx+1) (l5++[⟨1,⟨0,0,0,0,0⟩,nx,0⟩]) (k+12) J)∨(u=1∧GnH S3 K x 0 (nx+1) (l5++[⟨1,⟨0,0,0,0,0⟩,nx,0⟩]++x.constL 0 y) (k+10) J)),⟨1,0,rfl,rfl,.inl ⟨rfl,h7⟩⟩,?_⟩
 rintro q vs K8 _ ⟨u,huq,rfl,h8⟩
 simp only [List.cons_append,List.nil_append]
 refine ⟨fun g2=>?_,fun g2=>?_⟩
 ·simp only [ev0,ev,evV,List.cons_append,List.nil_append,List.getD_cons_zero,List.getD_cons_succ,List.map_cons,List.map_nil,iOf,bOf,sOf,pOf,slLen,z04,cmpI,arI,Value.ite_bool,z03,z02,z00,z01,zdt] at g2
  obtain rfl:u=0:=by omega
  obtain ⟨_,h8⟩ | ⟨h,_⟩:=h8
  rotate_left
  ·omega
  obtain ⟨z1,_,zcs,z2,z3⟩:=i1.get (i:=0) rfl
  obtain ⟨wv,dv,rfl,q1,q2,q3,q4,q5,q6,q7,q8⟩:=ins_iff.1 z2
  obtain ⟨wb,wc,hwv⟩:=q3.sl
  obtain ⟨db,dc,hdv⟩:=q7.sl
  refine ⟨fun _=>?_,inV y wv dv,by rw [hwv,hdv];rfl,by simp only [ev0,ev,evV,List.cons_append,List.nil_append,List.getD_cons_zero,List.getD_cons_succ,List.map_cons,List.map_nil,iOf,bOf,sOf,pOf,slLen,z04,cmpI,arI,Value.ite_bool,z03,z02,z00,z01];exact z18 h8.sh z3,?_⟩
  ·simp only [Chk.holds,ev0,ev,evV,List.cons_append,List.nil_append,List.getD_cons_zero,List.getD_cons_succ,List.map_cons,List.map_nil,iOf,bOf,sOf,pOf,slLen,z04,cmpI,arI,Value.ite_bool,z03,z02,z00,z01];exact ⟨z1,by omega,by omega⟩
  simp only [inV,List.cons_append,List.nil_append]
  refine z29 zil (zvr (k:=k+10) hx ⟨by omega,by omega⟩ y wv dv ⟨q1,q2,q3,q4,q5,q6,q7,q8⟩ hp.op (by rw [hp.to];exact hhas0) h8) fun K9 h9=>?_
  exact ⟨_,z05,0,by omega,1,rfl,by kernel_rfl,.inr ⟨rfl,h9⟩⟩
 ·simp only [ev0,ev,evV,List.cons_append,List.nil_append,List.getD_cons_zero,List.getD_cons_succ,List.map_cons,List.map_nil,iOf,bOf,sOf,pOf,slLen,z04,cmpI,arI,Value.ite_bool,z03,z02,z00,z01,zdf] at g2
  obtain rfl:u=1:=by omega
  obtain ⟨h,_⟩ | ⟨_,h8⟩:=h8
  ·omega
  refine z29 zhr (Z1c (k:=k+6) hx ⟨by omega,by omega⟩ ((0:Nat):Int) e av ⟨e1,e2,e3,e4,e5,e6⟩ hp.kind (by rw [hp.reg];exact hhas0) h8) fun K9 h9=>?_
  rw [hout] at h9
  exact ⟨_,(z1i (by decide)).trans z05,0,by omega,1,rfl,by kernel_rfl,.inr ⟨rfl,h9.less (by omega)⟩⟩
theorem zqn (H:PH):Gives Tryz.prog z8a [.slice none 0 0] H (.slice none 0 0):=by
 refine z6n [.slice none 0 0] (by kernel_rfl) (by kernel_rfl) ?_
 exact ⟨fun _=>⟨rfl,PH.le_refl _⟩,fun g=>by simp [ev0,ev,evV,List.cons_append,List.nil_append,List.getD_cons_zero,List.getD_cons_succ,List.map_cons,List.map_nil,iOf,bOf,sOf,pOf,slLen,z04,cmpI,arI,Value.ite_bool,z03,z02,z00,z01,z42] at g⟩
section
variable {p:PrcX} {y:InsX} {e:EndX}
theorem Least.ins4 (hp:Least p y e):∀q∈[p],∀b∈q.blocks,∀z∈b.ins,z.const.kind≠4:=fun q hq b hb z hz=>by
 rw [List.mem_singleton.1 hq,hp.blk] at hb
 rw [List.mem_singleton.1 hb] at hz
 rw [List.mem_singleton.1 hz]
 exact hp.num
theorem Least.short (hp:Least p y e):∀q∈[p],∀b∈q.blocks,b.ins.length≤4611686018427387904:=fun q hq b hb=>by
 rw [List.mem_singleton.1 hq,hp.blk] at hb
 rw [List.mem_singleton.1 hb]
 simp
theorem zqj (hp:Least p y e) (hck:z4a [p]=0) (cv:Value) (S:PH) (hc:SlR S [p] cv):Gives Tryz.prog Z1o [.agg #[cv]] S (.tuple #[.int .i64 2,.int .i64 0]):=by
 have hcv:=zwe [p] cv S hc hp.short
 rw [hck] at hcv
 obtain ⟨cb,cc,rfl⟩:=hc.sl
 refine zwl [.slice cb [p].length cc] (by kernel_rfl) (by kernel_rfl) ?_
 refine z0b [.int .i64 0] zxr hcv rfl z06 fun K1 l1=>?_
 refine ⟨fun g=>by simp [ev0,ev,evV,List.cons_append,List.nil_append,List.getD_cons_zero,List.getD_cons_succ,List.map_cons,List.map_nil,iOf,bOf,sOf,pOf,slLen,z04,cmpI,arI,Value.ite_bool,z03,z02,z00,z01] at g,fun _=>?_⟩
 refine ⟨fun n vs K=>∃i:Nat,i+n=1∧vs=[.int .i64 0,nI i]∧PH.le S K,⟨1,0,rfl,rfl,l1⟩,?_⟩
 rintro n vs K _ ⟨i,hin,rfl,hK⟩
 simp only [List.cons_append,List.nil_append]
 refine ⟨fun g=>?_,fun g=>⟨by kernel_rfl,hK⟩⟩
 have hlt:i < 1:=by
  simp only [ev0,ev,evV,List.cons_append,List.nil_append,List.getD_cons_zero,List.getD_cons_succ,List.map_cons,List.map_nil,iOf,bOf,sOf,pOf,slLen,z04,cmpI,arI,Value.ite_bool,z03,z02,z00,z01,zdt,List.length_singleton] at g
  omega
 obtain rfl:i=0:=by omega
 obtain ⟨x1,_,cs,x2,x3⟩:=(hc.le hK).get (i:=0) rfl
 obtain ⟨bv,rfl,p1,p2,p3,p4⟩:=prc_iff.1 x2
 obtain ⟨pb,pc,rfl⟩:=p4.sl
 refine ⟨fun _=>?_,[.int .i64 p.params,.int .i64 p.holds,.int .i64 p.regs,.slice pb p.blocks.length pc],rfl,by simp only [ev0,ev,evV,List.cons_append,List.nil_append,List.getD_cons_zero,List.getD_cons_succ,List.map_cons,List.map_nil,iOf,bOf,sOf,pOf,slLen,z04,cmpI,arI,Value.ite_bool,z03,z02,z00,z01];exact x3,?_⟩
 ·simp only [Chk.holds,ev0,ev,evV,List.cons_append,List.nil_append,List.getD_cons_zero,List.getD_cons_succ,List.map_cons,List.map_nil,iOf,bOf,sOf,pOf,slLen,z04,cmpI,arI,Value.ite_bool,z03,z02,z00,z01];exact ⟨x1,by omega,by simp⟩
 simp only [List.cons_append,List.nil_append]
 refine z0a zj9 (zmc p (.slice pb p.blocks.length pc) K K [] (Held.nil (PH.le_refl K)) p4 hp.fit hp.few hp.may) ?_
 rintro _ K2 ⟨S2,rf,pl,pv,m,rfl,l2,hpl,hpd,hh⟩
 obtain ⟨rfl,rfl⟩:=hp.one _ _ hpd
 refine ⟨_,[pAt rf],rfl,rfl,rfl,z06,?_⟩
 simp only [List.cons_append,List.nil_append]
 have hK2:=PH.le_trans hK (PH.le_trans l2 hh.sh)
 refine z0b [.int .i64 0] z7o (zmt p (.slice pb p.blocks.length pc) rf _ 0 K2 (p4.le (PH.le_trans l2 hh.sh)) rfl rfl (fun off n=>z1p hh (zms) off n) i0J hp.noCalls) rfl z06 fun K3 l3=>?_
 exact ⟨_,z05,0,by omega,1,rfl,by kernel_rfl,PH.le_trans hK2 l3⟩
theorem zso (hp:Least p y e) (hck:z4a [p]=0) (cv:Value) (stack:Int) (S:PH) (hc:SlR S [p] cv) (hpr:InI stack):Tri Tryz.prog Z4r #[.agg #[cv],.int .i64 stack] S fun x K'=>PH.le S K' ∧
  ((stack < 2∨131072 < stack→x=.returned (.tuple #[.slice none 0 0,.slice none 0 0,.int .i64 250]))∧(2≤stack∧stack≤131072→∃v,x=.returned (.tuple #[v,.slice none 0 0,.int .i64 0])∧SlR K' (z47 10 10001 ((wordX (z1k y.const) []).getD 0)) v)):=by
 have hrm:=zqj hp hck cv S hc
 have hsy:=fun (K:PH) (h:PH.le S K)=>zsi [p] cv K (hc.le h) hp.ins4
 obtain ⟨cb,cc,rfl⟩:=hc.sl
 refine zxt [.slice cb [p].length cc,.int .i64 stack] (by kernel_rfl) (by kernel_rfl) ?_
 refine z0b [.int .i64 2,.int .i64 0] zmw hrm rfl z06 fun K1 l1=>?_
 simp only [List.cons_append,List.nil_append]
 refine ⟨fun g=>by simp [ev0,ev,evV,List.cons_append,List.nil_append,List.getD_cons_zero,List.getD_cons_succ,List.map_cons,List.map_nil,iOf,bOf,sOf,pOf,slLen,z04,cmpI,arI,Value.ite_bool,z03,z02,z00,z01] at g,fun _=>⟨fun g=>?_,fun g=>?_⟩⟩
 ·simp only [ev0,ev,evV,List.cons_append,List.nil_append,List.getD_cons_zero,List.getD_cons_succ,List.map_cons,List.map_nil,iOf,bOf,sOf,pOf,slLen,z04,cmpI,arI,Value.ite_bool,z03,z02,z00,z01] at g
  simp only [Bool.or_eq_true,zdt] at g
  exact ⟨l1,fun _=>rfl,fun h=>by omega⟩
 simp only [ev0,ev,evV,List.cons_append,List.nil_append,List.getD_cons_zero,List.getD_cons_succ,List.map_cons,List.map_nil,iOf,bOf,sOf,pOf,slLen,z04,cmpI,arI,Value.ite_bool,z03,z02,z00,z01] at g
 simp only [Bool.or_eq_false_iff,zdf] at g
 refine z0b [.slice none 0 0] zr9 (hsy K1 l1) rfl z06 fun K2 l2=>?_
 simp only [List.cons_append,List.nil_append]
 refine z28 (vs:=[.slice none 0 0,.slice none 0 0,.slice none 0 0,.int .i64 10000,.int .i64 stack]) (Held.nil (PH.le_trans l1 l2)) (by kernel_rfl) fun rg K3 _ h3=>?_
 simp only [List.cons_append,List.nil_append]
 have h3a:Held S K3 [bx rg 100 [.slice none 0 0,.slice none 0 0,.slice none 0 0,.int .i64 10000,.int .i64 stack],orow 131 ([]:List ItemR) (.slice none 0 0),orow 3 ([]:List Int) (.slice none 0 0)]:=
  ((h3.empty (α:=Int) 3).empty (α:=ItemR) 131).perm (List.perm_append_comm (l₁:=[_,_]) (l₂:=[_]))
 refine ⟨fun n vs K=>∃(i:Nat) (env iv:Value) (S2:PH) (es:List Int),i+n=1∧vs=[nI i]∧es=(if i=0 then [] else [10])∧PH.le S S2∧Held S2 K [bx rg 100 [iv,.slice none 0 0,env,.int .i64 (10000+i),.int .i64 stack],orow 131 ([]:List ItemR) iv,orow 3 es env],
  ⟨1,0,.slice none 0 0,.slice none 0 0,S,[],rfl,rfl,rfl,PH.le_refl _,by rw [show ((10000:Int)+((0:Nat):Int))=10000 by decide];exact h3a⟩,?_⟩
 rintro n vs K _ ⟨i,env,iv,S2,es,hin,rfl,hes,l3,h4⟩
 have her:=h4.row (e:=3) (l:=es) (v:=env) (by simp)
 obtain ⟨eb,ec,hev⟩:=her.sl
 simp only [List.cons_append,List.nil_append]
 refine ⟨fun g=>?_,fun g=>?_⟩
 ·have hlt:i < 1:=by
   simp only [ev0,ev,evV,List.cons_append,List.nil_append,List.getD_cons_zero,List.getD_cons_succ,List.map_cons,List.map_nil,iOf,bOf,sOf,pOf,slLen,z04,cmpI,arI,Value.ite_bool,z03,z02,z00,z01,zdt,List.length_singleton] at g
   omega
  obtain rfl:i=0:=by omega
  obtain rfl:es=[]:=hes
  refine ⟨fun vs K=>∃(env iv:Value) (S2:PH),vs=[]∧PH.le S S2∧Held S2 K [bx rg 100 [iv,.slice none 0 0,env,.int .i64 10001,.int .i64 stack],orow 131 ([]:List ItemR) iv,orow 3 [(10:Int)] env],?_,fun _=>rfl,[env],by rw [hev];rfl,z1p h4 (zms) 2 1,?_⟩
  ·rintro vs K5 _ ⟨ev5,iv5,S5,rfl,l5,h5⟩
   exact ⟨_,z05,0,by omega,1,ev5,iv5,S5,[10],rfl,by kernel_rfl,rfl,l5,h5⟩
  simp only [List.cons_append,List.nil_append]
  have hem:EmH S2 K rg 100 [.slice none 0 0,env,.int .i64 10000,.int .i64 stack] [] 100 [orow 3 ([]:List Int) env]:=⟨by simp,S2,_,PH.le_refl _,h4⟩
  refine z0a z5x (zwh hem (by omega) (by omega)) ?_
  rintro _ K4 ⟨rfl,_,S4,iv4,l4,h5⟩
  refine ⟨_,[.int .i64 10000],rfl,rfl,rfl,z2t (z1p h5 (zms) 2 1) z06,?_⟩
  simp only [List.cons_append,List.nil_append]
  have h6:=h5.perm (List.perm_append_comm (l₁:=[_,_]) (l₂:=[_]))
  refine z1o (b:=8) (more:=[(10000:Int)]) [.int .i64 10000] z0y z0v rfl (by decide) (by decide) h6 (by kernel_rfl) (.cons (z0o (by decide)) .nil) (z2t (z1p h5 (zms) 2 1) z06) (fun w=>by kernel_rfl) (fun w=>by kernel_rfl)
   (by simp [maxLen]) (by simp) fun w7 v7 S7 K7 l7 h7=>⟨z06,?_⟩
  simp only [List.cons_append,List.nil_append]
  obtain ⟨b7,c7,hv7⟩:=(h7.row (e:=3) (zms)).sl
  refine z0n (T:=100) (off:=2) (vs:=[v7]) rfl (h7.perm (List.Perm.swap _ _ _)) (by simp only [ev0,ev,evV,List.cons_append,List.nil_append,List.getD_cons_zero,List.getD_cons_succ,List.map_cons,List.map_nil,iOf,bOf,sOf,pOf,slLen,z04,cmpI,arI,Value.ite_bool,z03,z02,z00,z01]) (by intro u hu;rw [List.mem_singleton.1 hu,hv7];rfl) (by simp) fun K8 h8=>?_
  refine ⟨fun _=>?_,fun g2=>by simp [ev0,ev,evV,List.cons_append,List.nil_append,List.getD_cons_zero,List.getD_cons_succ,List.map_cons,List.map_nil,iOf,bOf,sOf,pOf,slLen,z04,cmpI,arI,Value.ite_bool,z03,z02,z00,z01] at g2⟩
  have h8r:=(h8.row (e:=3) (l:=[(10000:Int)]) (v:=v7) (by simp))
  obtain ⟨z1,_⟩:=(h8r.slR h8.sh).get (i:=0) rfl
  refine ⟨[v7],by rw [hv7];rfl,z1p h8 (zms) 2 1,fun _=>?_,?_⟩
  ·simp only [Chk.holds,ev0,ev,evV,List.cons_append,List.nil_append,List.getD_cons_zero,List.getD_cons_succ,List.map_cons,List.map_nil,iOf,bOf,sOf,pOf,slLen,z04,cmpI,arI,Value.ite_bool,z03,z02,z00,z01]
   rw [hv7] at z1 ⊢
   exact ⟨z1,by omega,by simp⟩
  simp only [List.cons_append,List.nil_append]
  refine z1d (i:=0) (a:=(10000:Int)) (a':=(10:Int)) (us:=[.int .i64 10]) (by simp only [ev0,ev,evV,List.cons_append,List.nil_append,List.getD_cons_zero,List.getD_cons_succ,List.map_cons,List.map_nil,iOf,bOf,sOf,pOf,slLen,z04,cmpI,arI,Value.ite_bool,z03,z02,z00,z01];rfl) (h8.perm (List.Perm.swap _ _ _)) rfl rfl (by simp only [ev0,ev,evV,List.cons_append,List.nil_append,List.getD_cons_zero,List.getD_cons_succ,List.map_cons,List.map_nil,iOf,bOf,sOf,pOf,slLen,z04,cmpI,arI,Value.ite_bool,z03,z02,z00,z01]) (by simp [oneC]) (z0o (by decide)) fun K9 h9=>?_
  exact ⟨_,z05,v7,iv4,S7,rfl,PH.le_trans l3 (PH.le_trans l4 l7),h9.perm (by exact (List.Perm.swap _ _ _).trans (List.Perm.cons _ (List.Perm.swap _ _ _)))⟩
 have hi1:i=1:=by
  simp only [ev0,ev,evV,List.cons_append,List.nil_append,List.getD_cons_zero,List.getD_cons_succ,List.map_cons,List.map_nil,iOf,bOf,sOf,pOf,slLen,z04,cmpI,arI,Value.ite_bool,z03,z02,z00,z01,zdf,List.length_singleton] at g
  omega
 subst hi1
 obtain rfl:es=[10]:=hes
 obtain ⟨S5,s5,l5,h5⟩:=(h4.perm (List.perm_append_comm (l₁:=[_,_]) (l₂:=[_]))).freeze
 have lS5:=PH.le_trans l3 l5
 have hem:EmH S5 K rg 100 [.slice none 0 0,env,.int .i64 10001,.int .i64 stack] [] (1000+20) []:=⟨by simp,S5,iv,PH.le_refl _,h5⟩
 obtain ⟨w,hw⟩:∃w,w=(wordX (z1k y.const) []).getD 0:=⟨_,rfl⟩
 rw [←hw]
 refine ⟨fun n vs K=>∃i:Nat,i+n=1∧vs=[.slice none 0 0,.slice none 0 0,.int .i64 0,nI i]∧((i=0∧EmH S5 K rg 100 [.slice none 0 0,env,.int .i64 10001,.int .i64 stack] [] (1000+20) [])∨(i=1∧EmH S5 K rg 100 [.slice none 0 0,env,.int .i64 10002,.int .i64 stack] (z47 10 10001 w) 1000 [])),⟨1,0,rfl,rfl,.inl ⟨rfl,hem⟩⟩,?_⟩
 rintro n vs K6 _ ⟨i,hin,rfl,h6⟩
 simp only [List.cons_append,List.nil_append]
 refine ⟨fun g=>?_,fun g=>?_⟩
 ·have hlt:i < 1:=by
   simp only [ev0,ev,evV,List.cons_append,List.nil_append,List.getD_cons_zero,List.getD_cons_succ,List.map_cons,List.map_nil,iOf,bOf,sOf,pOf,slLen,z04,cmpI,arI,Value.ite_bool,z03,z02,z00,z01,zdt,List.length_singleton] at g
   omega
  obtain rfl:i=0:=by omega
  obtain ⟨_,h6⟩ | ⟨h,_⟩:=h6
  rotate_left
  ·omega
  obtain ⟨x1,_,cs,x2,x3⟩:=(hc.le lS5).get (i:=0) rfl
  obtain ⟨bv,rfl,p1,p2,p3,p4⟩:=prc_iff.1 x2
  obtain ⟨pb,pc,rfl⟩:=p4.sl
  obtain ⟨e1,_,ecs,e2,e3⟩:=(s5.le h6.sh).get (i:=0) rfl
  obtain ⟨rfl,_⟩:=csIK e2
  have hev1:env=.slice eb 1 ec:=hev
  have hrow:rowAt K6 (some ⟨rg,2,none⟩) [env]:=by
   obtain ⟨_,S7,iv7,_,h7⟩:=h6
   exact z1p h7 (zms) 2 1
  refine ⟨fun _=>?_,[.int .i64 p.params,.int .i64 p.holds,.int .i64 p.regs,.slice pb p.blocks.length pc],rfl,by simp only [ev0,ev,evV,List.cons_append,List.nil_append,List.getD_cons_zero,List.getD_cons_succ,List.map_cons,List.map_nil,iOf,bOf,sOf,pOf,slLen,z04,cmpI,arI,Value.ite_bool,z03,z02,z00,z01];exact z18 h6.sh x3,fun _=>rfl,[env],by rw [hev1];rfl,hrow,fun _=>?_,[.int .i64 10],rfl,e3,?_⟩
  ·simp only [Chk.holds,ev0,ev,evV,List.cons_append,List.nil_append,List.getD_cons_zero,List.getD_cons_succ,List.map_cons,List.map_nil,iOf,bOf,sOf,pOf,slLen,z04,cmpI,arI,Value.ite_bool,z03,z02,z00,z01];exact ⟨x1,by omega,by simp⟩
  ·rw [hev1] at e1 ⊢
   exact ⟨e1,by simp [ev0,ev,evV,List.cons_append,List.nil_append,List.getD_cons_zero,List.getD_cons_succ,List.map_cons,List.map_nil,iOf,bOf,sOf,pOf,slLen,z04,cmpI,arI,Value.ite_bool,z03,z02,z00,z01],by simp [ev0,ev,evV,List.cons_append,List.nil_append,List.getD_cons_zero,List.getD_cons_succ,List.map_cons,List.map_nil,iOf,bOf,sOf,pOf,slLen,z04,cmpI,arI,Value.ite_bool,z03,z02,z00,z01]⟩
  simp only [List.cons_append,List.nil_append]
  refine z0a zap (zz0 (ents:=[10]) (syms:=[]) hp (.slice pb p.blocks.length pc) 10 (by decide) h6 (by omega) (by omega) ⟨by omega,by omega⟩ p4 s5 (z49 _) (by omega)) ?_
  rintro _ K7 ⟨rfl,h7⟩
  rw [←hw] at h7
  refine ⟨_,[],rfl,rfl,rfl,z06,?_⟩
  simp only [List.append_nil]
  have h7':=h7
  obtain ⟨_,S8,iv8,_,h8⟩:=h7
  have hir:=(h8.row (e:=131) (l:=[]++z47 10 10001 w) (v:=iv8) (by simp))
  obtain ⟨ib,ic,hiv⟩:=hir.sl
  refine ⟨[iv8],by rw [hiv];rfl,z1p h8 (zms) 0 1,fun g2=>?_,fun _=>?_⟩
  ·rw [hiv] at g2
   simp [ev0,ev,evV,List.cons_append,List.nil_append,List.getD_cons_zero,List.getD_cons_succ,List.map_cons,List.map_nil,iOf,bOf,sOf,pOf,slLen,z04,cmpI,arI,Value.ite_bool,z03,z02,z00,z01,z47] at g2
  ·exact ⟨_,z05,0,by omega,1,rfl,by kernel_rfl,.inr ⟨rfl,by simpa using h7'⟩⟩
 have hi1:i=1:=by
  simp only [ev0,ev,evV,List.cons_append,List.nil_append,List.getD_cons_zero,List.getD_cons_succ,List.map_cons,List.map_nil,iOf,bOf,sOf,pOf,slLen,z04,cmpI,arI,Value.ite_bool,z03,z02,z00,z01,zdf,List.length_singleton] at g
  omega
 subst hi1
 obtain ⟨h,_⟩ | ⟨_,h6⟩:=h6
 ·omega
 obtain ⟨_,S7,iv7,l7,h7⟩:=h6
 have hir:=(h7.row (e:=131) (l:=z47 10 10001 w) (v:=iv7) (by simp))
 obtain ⟨ib,ic,hiv⟩:=hir.sl
 refine ⟨fun _=>rfl,[iv7],by rw [hiv];rfl,z1p h7 (zms) 0 1,[.slice none 0 0],rfl,z1p h7 (zms) 1 1,?_⟩
 simp only [List.cons_append,List.nil_append]
 refine z0b [.slice none 0 0] z75 (zqn K6) rfl (z2t (z1p h7 (zms) 0 1) z06) fun K8 l8=>?_
 refine ⟨PH.le_trans lS5 (PH.le_trans l7 (PH.le_trans h7.sh l8)),fun h=>by omega,fun _=>⟨iv7,rfl,(hir.slR h7.sh).le l8⟩⟩
end
def z82:List ItemR:=zig++z74++z47 10 10001 40
theorem Z78:decide (errA (asmR z82)=0)=true:=by kernel_rfl
def fiveY:InsX:=⟨z20,0,[],.mk 1 5 [] [],0⟩
def fiveE:EndX:=⟨2,0,[],0,0,0⟩
def fiveP:PrcX:=⟨0,0,1,[⟨[fiveY],fiveE⟩]⟩
theorem zxf (r:Int) (L:Nat→Prop) (n:Nat):z9x fiveE n r L↔r=0:=by
 unfold z9x
 have h1:(fiveE.reads r=true)↔r=0:=by
  show (decide ((0:Int)=r)=true)↔r=0
  rw [zdt]
  exact eq_comm
 have h2:fiveE.leads n=[]:=by simp [EndX.leads,EndX.ways,fiveE]
 rw [h1,h2]
 simp
theorem zte (r:Int):¬z1z fiveP r 0 0:=by
 rintro ⟨b,hb,h⟩
 have:b=⟨[fiveY],fiveE⟩:=(Option.some.inj hb).symm
 subst this
 rcases h with h | ⟨h1,h2⟩
 ·cases h
 ·have:=(zxf r _ _).1 h2
  exact h1 ⟨by decide,this.symm⟩
theorem zqh (r:Int) (h:z1z fiveP r 0 1):r=0:=by
 obtain ⟨b,hb,h⟩:=h
 have:b=⟨[fiveY],fiveE⟩:=(Option.some.inj hb).symm
 subst this
 exact (zxf r _ _).1 h
theorem Z6i:(inL fiveP)[0]?=some []:=by
 have h:liveL fiveP 0 0=[]:=List.eq_nil_iff_forall_not_mem.2 fun r hr=>zte r (liveL_mem.1 hr)
 unfold inL
 show (List.map (fun i=>liveL fiveP i 0) (List.range 1))[0]?=some []
 rw [List.range_succ,List.range_zero]
 simp [h]
theorem Z3b (a b:Int) (h:MeetP fiveP a b):a=b:=by
 rcases h with ⟨h,_⟩ | ⟨f,hf,h⟩
 ·exact absurd (liveL_mem.1 h) (zte a)
 ·have:f=⟨0,-1,liveL fiveP 0 1⟩:=by
   have hf':f∈z2k fiveP 1:=hf
   have e0:z2k fiveP 0=[]:=by simp [z2k]
   rw [zd2 (b:=⟨[fiveY],fiveE⟩) rfl,e0,List.nil_append] at hf'
   have e1:(fiveE.calls)=false:=by decide
   unfold zc1 at hf'
   rw [show ([fiveY]:List InsX).length=0+1 from rfl] at hf'
   rw [zan (x:=fiveY) rfl] at hf'
   simp only [z3h,List.range_zero,List.flatMap_nil,List.nil_append,e1,Bool.false_eq_true,if_false,List.append_nil,zc2] at hf'
   rw [if_neg (show ¬fiveY.op=tieB by decide),if_neg (show ¬fiveY.op=moveB by decide)] at hf'
   exact List.mem_singleton.1 hf'
  subst this
  rcases h with ⟨h1,h2⟩ | ⟨h1,h2⟩
  ·rw [zqh b (liveL_mem.1 h2)];exact h1
  ·rw [zqh a (liveL_mem.1 h2)];exact h1.symm
theorem Z7d (n:Int) (l:List Int) (h:Placed fiveP 24 n l):l=[0]∧n=0:=by
 have hl:=h.len
 have hl1:l.length=1:=hl
 obtain ⟨a,rfl⟩:∃a,l=[a]:=by
  match l,hl1 with
  | [a],_=>exact ⟨a,rfl⟩
 have ha:=h.all 0 a rfl
 obtain ⟨m,_,hm,hle⟩:=h.few 0 a rfl
 have hm0:m=[]:=List.eq_nil_iff_forall_not_mem.2 fun y hy=>by
  obtain ⟨h1,h2⟩:=hm y hy
  exact h1 (Z3b _ _ h2)
 rw [hm0] at hle
 have ha0:a=0:=by simp at hle;omega
 subst ha0
 refine ⟨rfl,?_⟩
 by_cases hn:0 < n
 ·have:=h.used 24 (by omega) (by omega)
  simp at this
 ·have:=h.lo;omega
theorem zij:Least fiveP fiveY fiveE where
 blk:=rfl
 regs:=rfl
 params:=rfl
 op:=rfl
 to:=rfl
 num:=by decide
 kind:=rfl
 reg:=rfl
 fit:=⟨by decide,fun b hb=>by rw [List.mem_singleton.1 hb];decide,by decide⟩
 few:=fun b hb=>by rw [List.mem_singleton.1 hb];decide
 may:=by kernel_rfl
 inl:=Z6i
 one:=Z7d
theorem ziq:z4a [fiveP]=0:=by
 have hc:z2h fiveY.const=true:=by
  have:(fiveY.const.chk 0 0).2=0:=by kernel_rfl
  unfold z2h;rw [this];rfl
 have hi:insOk [fiveP] fiveP fiveY=true:=by
  rw [zf5 rfl,hc];rfl
 have hp:prcOk [fiveP] fiveP=true:=by
  unfold prcOk
  have e:(fiveP.blocks.all fun b=>b.ins.all (insOk [fiveP] fiveP) && finOk fiveP b.e)=true:=by
   show (([fiveY].all (insOk [fiveP] fiveP) && finOk fiveP fiveE) && true)=true
   rw [List.all_cons,hi];rfl
  rw [e];rfl
 unfold z4a
 rw [if_neg (by decide)]
 simp only [List.all_cons,hp]
 rfl
theorem Z3t:(wordX (z1k fiveY.const) []).getD 0=40:=by
 have:z1k fiveY.const=⟨1,5,[]⟩:=by
  have h:(fiveY.const.chk 0 0).2=0:=by kernel_rfl
  unfold z1k
  rw [if_neg (by rw [h];decide)]
  rfl
 rw [this];rfl
theorem Z7j:Tryz.prog.underlying 44=some (.slice 43):=by kernel_rfl
theorem Z3w:ElemOk Tryz.prog 43 (sz PrcX) 48=true:=by kernel_rfl
theorem zzp (n:Int) (H:PH):Gives Tryz.prog zi7 [.int .i64 n] H (.agg #[.int .i64 1,.int .i64 n,txt [],.slice none 0 0]):=by
 refine zg2 [.int .i64 n] (by kernel_rfl) (by kernel_rfl) ?_
 exact ⟨rfl,PH.le_refl _⟩
theorem Z5x (S:PH):CsR S fiveY (inV fiveY (.slice none 0 0) (.slice none 0 0)):=
 ins_iff.2 ⟨_,_,rfl,by decide,by decide,z49 S,by decide,by decide,by decide,z49 S,by decide⟩
theorem Z5z (S:PH):CsR S fiveE (enV fiveE (.slice none 0 0)):=
 end_iff.2 ⟨_,rfl,by decide,by decide,z49 S,by decide,by decide,by decide⟩
theorem zna (S:PH):Tri Tryz.prog zgz #[] S fun e K'=>∃cv,e=.returned (.agg #[cv])∧SlR K' [fiveP] cv∧PH.le S K':=by
 refine ze8 [] (by kernel_rfl) (by kernel_rfl) ?_
 refine z0a zgh (zzp 5 S) ?_
 rintro _ K1 ⟨rfl,l1⟩
 refine ⟨_,[.int .i64 1,.int .i64 5,txt [],.slice none 0 0],rfl,rfl,rfl,z06,?_⟩
 simp only [List.cons_append,List.nil_append]
 refine z0x (α:=InsX) (l:=[fiveY]) (b:=112) [.agg (inV fiveY (.slice none 0 0) (.slice none 0 0)).toArray] Z8q Z73 rfl (by decide) (by decide) (Held.nil l1) (by kernel_rfl) (.cons (Z5x S) .nil) z06 fun v2 K2 h2 _ _=>?_
 obtain ⟨S2,s2,l2,h2⟩:=h2.freeze
 simp only [List.cons_append,List.nil_append]
 refine z0x (α:=BlkX) (l:=[⟨[fiveY],fiveE⟩]) (b:=88) [.agg (v2::enV fiveE (.slice none 0 0)).toArray] Z95 Z6h rfl (by decide) (by decide) h2 (by kernel_rfl) (.cons (blk_iff.2 ⟨_,_,rfl,s2,Z5z S2⟩) .nil) z06 fun v3 K3 h3 _ _=>?_
 obtain ⟨S3,s3,l3,h3⟩:=h3.freeze
 simp only [List.cons_append,List.nil_append]
 refine z0x (α:=PrcX) (l:=[fiveP]) (b:=48) [.agg #[.int .i64 0,.int .i64 0,.int .i64 1,v3]] Z7j Z3w rfl (by decide) (by decide) h3 (by kernel_rfl) (.cons (prc_iff.2 ⟨_,rfl,by decide,by decide,by decide,s3⟩) .nil) z06 fun v4 K4 h4 _ _=>?_
 exact ⟨v4,rfl,(h4.row (zms)).slR h4.sh,PH.le_trans l2 (PH.le_trans l3 h4.sh)⟩
theorem ztp (S:PH):Gives Tryz.prog zfn [] S (.bool true):=by
 refine zda [] (by kernel_rfl) (by kernel_rfl) ?_
 refine z0a z3x (zna S) ?_
 rintro _ K1 ⟨c1,rfl,s1,l1⟩
 obtain ⟨b1,d1,rfl⟩:=s1.sl
 refine ⟨_,[_],rfl,rfl,rfl,z06,?_⟩
 simp only [List.cons_append,List.nil_append]
 refine z0b [.int .i64 2,.int .i64 0] zmw (zqj zij ziq _ K1 s1) rfl z06 fun K2 l2=>?_
 simp only [List.cons_append,List.nil_append]
 refine z0a z3x (zna K2) ?_
 rintro _ K3 ⟨c3,rfl,s3,l3⟩
 obtain ⟨b3,d3,rfl⟩:=s3.sl
 refine ⟨_,[_],rfl,rfl,rfl,z06,?_⟩
 simp only [List.cons_append,List.nil_append]
 refine z0a zp3 (zso zij ziq _ 2 K3 s3 (by decide)) ?_
 rintro _ K4 ⟨l4,_,h4⟩
 obtain ⟨v4,rfl,s4⟩:=h4 (by omega)
 obtain ⟨b4,d4,rfl⟩:=s4.sl
 refine ⟨_,[.slice b4 (z47 10 10001 ((wordX (z1k fiveY.const) []).getD 0)).length d4,.slice none 0 0,.int .i64 0],rfl,rfl,rfl,z06,?_⟩
 rw [Z3t] at s4 ⊢
 simp only [List.cons_append,List.nil_append]
 refine z0a z3x (zna K4) ?_
 rintro _ K5 ⟨c5,rfl,s5,l5⟩
 obtain ⟨b5,d5,rfl⟩:=s5.sl
 refine ⟨_,[_],rfl,rfl,rfl,z06,?_⟩
 simp only [List.cons_append,List.nil_append]
 have hg1:=zso zij ziq _ 1 K5 s5 (by decide)
 refine z0a zp3 hg1 ?_
 rintro _ K6 ⟨l6,h6,_⟩
 obtain rfl:=h6 (by omega)
 refine ⟨_,[.slice none 0 0,.slice none 0 0,.int .i64 250],rfl,rfl,rfl,z06,?_⟩
 simp only [List.cons_append,List.nil_append]
 refine z0b [.int .i64 40,.bool true] zfd (zah ⟨1,5,[]⟩ [] (.slice none 0 0) K6 (z49 _)) rfl z06 fun K7 l7=>?_
 simp only [List.cons_append,List.nil_append]
 refine z0a Z1q (Z10 K7) ?_
 rintro _ K8 ⟨v8,rfl,s8,l8⟩
 obtain ⟨b8,d8,rfl⟩:=s8.sl
 refine ⟨_,[_],rfl,rfl,rfl,z06,?_⟩
 simp only [List.cons_append,List.nil_append]
 refine z0a Z2u (Z2b K8) ?_
 rintro _ K9 ⟨v9,rfl,s9,l9⟩
 obtain ⟨b9,d9,rfl⟩:=s9.sl
 refine ⟨_,[_],rfl,rfl,rfl,z06,?_⟩
 simp only [List.cons_append,List.nil_append]
 have l49:=PH.le_trans l5 (PH.le_trans l6 (PH.le_trans l7 (PH.le_trans l8 l9)))
 refine z0a ze0 (zz9 zig z74 (z47 10 10001 40) 2 10 _ _ _ K9 (s8.le l9) s9 (s4.le l49) (by decide) (by decide) (by decide)) ?_
 rintro _ K10 ⟨cv,mv,rfl,hcv,hmv,l10⟩
 obtain ⟨cb,cd,rfl⟩:=hcv.sl
 obtain ⟨mb,md,rfl⟩:=hmv.sl
 have hbool:decide (errA (asmR (zig++z74++z47 10 10001 40))=0)=true:=Z78
 rw [hbool]
 refine ⟨_,[.slice cb (imgR z82 2 10).code.length cd,.slice mb (memR 2 10).length md,.int .i64 (imgR z82 2 10).words,.bool true],rfl,rfl,rfl,z06,?_⟩
 simp only [List.cons_append,List.nil_append]
 refine z0a zgo (Z3l (imgR z82 2 10) [] 200000 _ _ K10 hcv hmv (by omega)) ?_
 rintro _ K11 ⟨mv',l11,rfl,hmv',hrl,hri⟩
 obtain ⟨mb',md',rfl⟩:=hmv'.sl
 refine ⟨_,haltV (runR (imgR z82 2 10) [] 200000) (.slice mb' (runR (imgR z82 2 10) [] 200000).mem.length md'),rfl,by kernel_rfl,by kernel_rfl,z06,?_,?_⟩
 ·kernel_rfl
 ·exact PH.le_trans l1 (PH.le_trans l2 (PH.le_trans l3 (PH.le_trans l4 (PH.le_trans l49 (PH.le_trans l10 l11)))))
end Go.Proofs.YtfkclejklgoccaaGreat.Vc
namespace Go.Proofs.YtfkclejklgoccaaGreat.Vc
open Go Go.ChangeShapes Go.WideShapes Go.ChangeAt Go.RowKit
theorem zkn (v:ValW) (l:List (List UInt8)) (lv:Value) (H:PH) (hl:SlR H l lv) (hi:InI v.int):Gives Tryz.prog z8d [.agg (valW v).toArray,lv] H (.bool true):=by
 have hg:=zah v l lv H hl
 have hw:=fun (K:PH) (h:PH.le H K)=>Z1p v l lv K (hl.le h) hi
 obtain ⟨b,c,rfl⟩:=hl.sl
 refine z6v (valW v++[.slice b l.length c]) (by kernel_rfl) (by kernel_rfl) ?_
 simp only [List.cons_append,List.nil_append]
 refine z0a zfd hg ?_
 rintro _ K1 ⟨rfl,l1⟩
 refine ⟨_,[.int .i64 ((wordX v l).getD 0),.bool (wordX v l).isSome],rfl,rfl,rfl,z06,?_⟩
 simp only [List.cons_append,List.nil_append]
 refine z0a zfk (hw K1 l1) ?_
 rintro _ K2 ⟨w,rfl,hww,l2⟩
 refine ⟨_,[.int .i64 w,.bool (wordX v l).isSome],rfl,rfl,rfl,z06,?_⟩
 simp only [List.cons_append,List.nil_append]
 refine z0b [.bool true] zec (ztp K2) rfl z06 fun K3 l3=>?_
 have hK:=PH.le_trans l1 (PH.le_trans l2 l3)
 simp only [List.cons_append,List.nil_append]
 generalize hq:wordX v l=q at *
 refine ⟨fun g=>?_,fun g=>?_⟩
 ·simp [ev0,ev,evV,List.cons_append,List.nil_append,List.getD_cons_zero,List.getD_cons_succ,List.map_cons,List.map_nil,iOf,bOf,sOf,pOf,slLen,z04,cmpI,arI,Value.ite_bool,z03,z02,z00,z01] at g
 ·refine ⟨?_,hK⟩
  cases q with
  | none=>simp [ev0,ev,evV,List.cons_append,List.nil_append,List.getD_cons_zero,List.getD_cons_succ,List.map_cons,List.map_nil,iOf,bOf,sOf,pOf,slLen,z04,cmpI,arI,Value.ite_bool,z03,z02,z00,z01]
  | some u=>
   have:=hww u rfl
   subst this
   simp [ev0,ev,evV,List.cons_append,List.nil_append,List.getD_cons_zero,List.getD_cons_succ,List.map_cons,List.map_nil,iOf,bOf,sOf,pOf,slLen,z04,cmpI,arI,Value.ite_bool,z03,z02,z00,z01]
noncomputable def valFields:Array Field:=match Tryz.prog.underlying 23 with
 | some (.struct fs)=>fs
 | _=>#[]
theorem uValJ:Tryz.prog.underlying 23=some (.struct valFields):=by kernel_rfl
theorem valF:valFields.toList.map (fun f=>(f.type,f.offset))=[(3,0),(3,1),(9,2)]:=by kernel_rfl
theorem cValJ:Tryz.prog.cellsOf 23=3:=by kernel_rfl
theorem Z5i {H:Type} {enc:TypeId×Value→H} {w:World} (fuel:Nat) (cs:List Value) (d:DataW H) (ps:List MemPlace) (h:zac enc Tryz.prog w fuel 23 cs d ps) :
  ∃a:ValW,cs=valW a∧InI a.kind∧InI a.int∧a.text.length≤maxLen:=by
 obtain ⟨xs,n,rfl,rfl,hc,hl,hi⟩:=zyn uValJ valF h
 rw [cValJ] at hc
 match xs,hl with
 | [x0,x1,x2],_=>
 match cs,hc with
 | [c0,c1,c2],_=>
 have t0:=hi 0 3 0 x0 rfl rfl
 have t1:=hi 1 3 1 x1 rfl rfl
 have t2:=hi 2 9 2 x2 rfl rfl
 rw [cInt] at t0 t1
 rw [cStr] at t2
 obtain ⟨k,hk,hkw⟩:=zt5 uInt n _ _ _ t0
 obtain ⟨m,hm,hmw⟩:=zt5 uInt n _ _ _ t1
 obtain ⟨s,hs,hsw⟩:=ztl zqy n _ _ _ t2
 obtain ⟨rfl,hk1⟩:=csInt hk
 obtain ⟨rfl,hm1⟩:=csInt hm
 obtain ⟨rfl,hs1⟩:=csTxt hs
 exact ⟨⟨k,m,s⟩,rfl,hk1,hm1,hs1⟩
theorem Z8c {H:Type} {enc:TypeId×Value→H} {w:World} {v:Value} {d:DataW H} {p:List MemPlace} {r:_root_.Go.Reach} {b:Nat} (hval:Value.okWide Tryz.prog w r b 23 v) (h:DataW.Trod enc Tryz.prog w 0 (fun _=>true) true 23 v d p) :
  ∃a:ValW,v=.agg (valW a).toArray∧InI a.kind∧InI a.int∧a.text.length≤maxLen:=by
 obtain ⟨cs,rfl,_⟩:=okWide_struct uValJ hval
 obtain ⟨fuel,h⟩:=h
 obtain ⟨a,h1,h2⟩:=Z5i fuel _ _ _ h
 refine ⟨a,?_,h2⟩
 rw [show valW a=cs.toList from h1.symm]
theorem Z0b:Tryz.prog.underlying 24=some (.slice 9):=by kernel_rfl
theorem Z4t {H:Type} {enc:TypeId×Value→H} {w:World} {v:Value} {d:DataW H} {p:List MemPlace} {r:_root_.Go.Reach} {b:Nat} (hval:Value.okWide Tryz.prog w r b 24 v) (h:DataW.Trod enc Tryz.prog w 0 (fun _=>true) true 24 v d p) :
  ∃l:List (List UInt8),SlR (whole w) l v:=by
 obtain ⟨a,len,cap,rfl⟩:=okWide_slice Z0b hval
 obtain ⟨fuel,h⟩:=h
 obtain ⟨l,v,e,h1,h2⟩:=zy2 (α:=List UInt8) Z0b cStr (fun j _=>ztl zqy j) h
 have:v=.slice a len cap:=by simpa [Value.cells] using e.symm
 subst this
 exact ⟨l,h1⟩
end Go.Proofs.YtfkclejklgoccaaGreat.Vc
