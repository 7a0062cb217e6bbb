import Derived.Test.YtfkclejklgoccaaGreatMm
set_option linter.unusedSimpArgs false
set_option linter.unusedVariables false
set_option maxRecDepth 100000
namespace Go.Proofs.YtfkclejklgoccaaGreat.Vc
open Go
structure Grows (p:PrcX) (sets:Nat→List Int):Prop where
 nodup:∀i,(sets i).Nodup
 live:∀i y,y∈sets i→LiveB p y i
 kept:∀i y,y∈sets i→z2l p y (fun c=>y∈sets c) i 0
def Step (p:PrcX) (sets:Nat→List Int) (i:Nat) (s:List Int):Prop:=s.Nodup∧∀y,y∈s↔z2l p y (fun c=>y∈sets c) i 0
theorem Z2j (p:PrcX):Grows p fun _=>[]:=⟨fun _=>List.nodup_nil,fun _ _ h=>(by cases h),fun _ _ h=>(by cases h)⟩
theorem z0z {l m:List Int} (h:l.Nodup) (hs:∀y∈l,y∈m):l.length≤m.length:=by
 induction l generalizing m with
 | nil=>simp
 | cons a l ih=>
  obtain ⟨h1,h2⟩:=List.nodup_cons.1 h
  have ha:=hs a (zms)
  have hlen:(m.erase a).length+1=m.length:=by
   rw [List.length_erase_of_mem ha]
   have:=List.length_pos_of_mem ha
   omega
  have:=ih (m:=m.erase a) h2 fun y hy=>(List.mem_erase_of_ne (fun e:y=a=>h1 (e ▸ hy))).2 (hs y (zmm _ hy))
  simp only [zlc];omega
theorem zs3 {l m:List Int} (hl:l.Nodup) (hs:∀y∈l,y∈m) (he:m.length=l.length):∀y∈m,y∈l:=by
 intro y hy
 by_cases h:y∈l
 ·exact h
 ·have:=z0z (l:=y::l) (m:=m) (List.nodup_cons.2 ⟨h,hl⟩) fun z hz=>(List.mem_cons.1 hz).elim (fun e=>e ▸ hy) (hs z)
  simp only [zlc] at this;omega
theorem Step.grown {p:PrcX} {sets:Nat→List Int} (hg:Grows p sets) {i:Nat} {s:List Int} (h:Step p sets i s):∀y∈sets i,y∈s:=fun y hy=>(h.2 y).2 (hg.kept i y hy)
def putF (sets:Nat→List Int) (i:Nat) (s:List Int):Nat→List Int:=fun j=>if j=i then s else sets j
theorem Grows.put {p:PrcX} {sets:Nat→List Int} (hg:Grows p sets) {i:Nat} {s:List Int} (h:Step p sets i s):Grows p (putF sets i s):=by
 have hup:∀c y,y∈sets c→y∈putF sets i s c:=fun c y hy=>by
  unfold putF
  split
  ·rename_i e;subst e;exact h.grown hg y hy
  ·exact hy
 refine ⟨fun j=>?_,fun j y hy=>?_,fun j y hy=>?_⟩
 ·unfold putF;split
  ·exact h.1
  ·exact hg.nodup j
 ·unfold putF at hy
  split at hy
  ·rename_i e;subst e
   exact zi2 (z2v (fun c hc=>hg.live c y hc) ((h.2 y).1 hy))
  ·exact hg.live j y hy
 ·unfold putF at hy
  split at hy
  ·rename_i e;subst e
   exact z2v (fun c hc=>hup c y hc) ((h.2 y).1 hy)
  ·exact z2v (fun c hc=>hup c y hc) (hg.kept j y hy)
theorem Grows.all {p:PrcX} {sets:Nat→List Int} (hg:Grows p sets) (h:∀i,i < p.blocks.length→∃s,Step p sets i s∧s.length=(sets i).length) {i:Nat} {y:Int}:y∈sets i↔LiveB p y i:=by
 refine ⟨hg.live i y,fun hl=>hl (fun c=>y∈sets c) fun j hj=>?_⟩
 have hjN:j < p.blocks.length:=by
  obtain ⟨b,hb,_⟩:=hj
  exact (List.getElem?_eq_some_iff.1 hb).1
 obtain ⟨s,hs,he⟩:=h j hjN
 exact zs3 (hg.nodup j) (hs.grown hg) he y ((hs.2 y).2 hj)
theorem Grows.le {p:PrcX} {sets:Nat→List Int} (hg:Grows p sets) (i:Nat):(sets i).length≤p.regl.length:=
 z0z (hg.nodup i) fun y hy=>z5g (zii (hg.live i y hy))
def sumS (sets:Nat→List Int):Nat→Nat
 | 0=>0
 | n+1=>sumS sets n+(sets n).length
theorem zr7 {p:PrcX} {sets:Nat→List Int} (hg:Grows p sets):∀n,sumS sets n≤n * p.regl.length
 | 0=>by simp [sumS]
 | n+1=>by
  have:=zr7 hg n
  have:=hg.le n
  simp only [sumS,Nat.succ_mul];omega
theorem zv6 {sets:Nat→List Int} {i:Nat} {s:List Int}:∀n,i < n→sumS (putF sets i s) n+(sets i).length=sumS sets n+s.length
 | 0,h=>by omega
 | n+1,h=>by
  have key:∀m,m≤i→sumS (putF sets i s) m=sumS sets m:=by
   intro m
   induction m with
   | zero=>intro _;rfl
   | succ m ih=>
    intro hm
    have e:m≠i:=by omega
    simp only [sumS,ih (by omega),putF,if_neg e]
  by_cases e:n=i
  ·subst e
   simp only [sumS,key n (Nat.le_refl _),putF,if_pos]
   omega
  ·have:=zv6 (sets:=sets) (s:=s) n (show i < n by omega)
   have hn:putF sets i s n=sets n:=by unfold putF;rw [if_neg e]
   simp only [sumS,hn];omega
theorem zkr (l:List InsX) (sv:Value) (S:PH) (hs:SlR S l sv):Tri Tryz.prog z5f #[sv] S fun x S'=>∃q:Nat,PH.le S S'∧x=.returned (.func (.func 220) #[] #[.pointer (some ⟨q,0,none⟩)])∧rowAt S' (some ⟨q,0,none⟩) [sv]:=by
 obtain ⟨b,c,rfl⟩:=hs.sl
 refine z4w [.slice b l.length c] (by kernel_rfl) (by kernel_rfl) ?_
 intro q hq
 refine zk4 rfl ?_
 refine ⟨q,PH.le_upd hq,by simp [evV,ev,argEv,List.lookup],⟨_,rfl,fun i v hi=>by
  cases i with
  | zero=>
   simp only [List.getElem?_cons_zero,Option.some.injEq] at hi
   subst hi
   rw [Addr.add_plain,PH.cell_at PH.upd_same]
   rfl
  | succ i=>simp at hi⟩⟩
theorem zt0 {b:List InsX} {j:Nat} {x:InsX} {y:Int} {q:Prop} (hj:j < b.length) (hx:b[b.length - 1 - j]?=some x):thru y (b.drop (b.length - (j+1))) q↔(y∈x.args∨(¬x.fills y∧thru y (b.drop (b.length - j)) q)):=by
 have hi:b.length - 1 - j=b.length - (j+1):=by omega
 rw [hi] at hx
 obtain ⟨hlt,he⟩:=List.getElem?_eq_some_iff.1 hx
 rw [List.drop_eq_getElem_cons hlt,he,show b.length - (j+1)+1=b.length - j by omega]
 rfl
theorem Held.rawBlk {S H:PH} {I:List Itm} {e:TypeId} {xs:List Value} {n r:Nat} (h:Held S H (.raw e 1 xs n (.slice (some ⟨r,0,none⟩) n n)::I)):Held S H (.blk r (.cells xs.toArray e (0,0))::I):=by
 have ho:Own H e 1 (.slice (some ⟨r,0,none⟩) n n) n xs:=h.at_ _ (zms)
 have hr:H r=some (.cells xs.toArray e (0,0)):=by
  rcases ho.2 with ⟨h1,_⟩ | ⟨g,cap,cur,h1,h2,h3,h4,h5,h6⟩
  ·cases h1
  ·cases h1
   rw [Nat.mul_one] at h5 h6
   have:cur=xs.toArray:=by
    rw [←h6,List.take_of_length_le (by rw [Array.length_toList,h5];exact Nat.le_refl _)]
   rw [h2,this]
 have hJ:Held S H [.blk r (.cells xs.toArray e (0,0))]:=⟨h.sh,fun i hi=>by rw [List.mem_singleton.1 hi];exact hr,fun i hi k hk=>by
  rw [List.mem_singleton.1 hi] at hk
  simp only [Itm.ob,Option.some.injEq] at hk
  subst hk
  exact h.off _ (zms) r rfl,List.pairwise_singleton _ _⟩
 exact Held.step (J:=[.raw e 1 xs n (.slice (some ⟨r,0,none⟩) n n)]) (J':=[.blk r (.cells xs.toArray e (0,0))]) h (PH.le_refl _) (fun k o hk _=>hk) (fun k a b=>absurd a b) hJ fun j hj k hk=>by
  rw [List.mem_singleton.1 hj] at hk
  simp only [Itm.ob,Option.some.injEq] at hk
  subst hk
  exact .inr ⟨_,List.mem_singleton.2 rfl,rfl⟩
theorem Z8b:OneOk Tryz.prog 216 8 (.map none):=OneOk.of (by kernel_rfl) rfl
theorem Z9f:Tryz.prog.underlying 217=some (.slice 216):=by kernel_rfl
theorem zn3 {S:PH} {p:PrcX} {bv:Value} (h:SlR S p.blocks bv):∀x∈p.regl,InI x:=by
 intro x hx
 obtain ⟨b,hb,hxb⟩:=List.mem_flatMap.1 hx
 obtain ⟨i,hi⟩:=List.getElem?_of_mem hb
 obtain ⟨_,_,cs,hc,_⟩:=h.get hi
 obtain ⟨iv,es,rfl,his,hes⟩:=blk_iff.1 hc
 obtain ⟨av,rfl,e1,e2,hea,e3,e4,e5⟩:=end_iff.1 hes
 have hargs:∀{l:List Int} {v:Value},SlR S l v→∀y∈l,InI y:=fun hl y hy=>by
  obtain ⟨k,hk⟩:=List.getElem?_of_mem hy
  obtain ⟨_,_,ds,hd,_⟩:=hl.get hk
  exact (csIK hd).2
 unfold BlkX.regs at hxb
 rcases List.mem_append.1 hxb with h1 | h1
 ·obtain ⟨y,hy,hxy⟩:=List.mem_flatMap.1 h1
  obtain ⟨k,hk⟩:=List.getElem?_of_mem hy
  obtain ⟨_,_,ds,hd,_⟩:=his.get hk
  obtain ⟨av2,dv,rfl,_,_,ha,_⟩:=ins_iff.1 hd
  exact hargs ha x hxy
 ·unfold EndX.regs at h1
  rcases List.mem_append.1 h1 with h1 | h1
  ·split at h1
   ·simp at h1;rw [h1];exact e2
   ·cases h1
  ·split at h1
   ·exact hargs hea x h1
   ·cases h1
def InsAt (S0 S:PH) (ims:List Value) (sets:Nat→List Int):Prop:=∀c v,ims[c]?=some v→SetR S v (sets c)∧∀r,v=.map (some r)→S0 r=none
theorem InsAt.le {S0 S S':PH} {ims:List Value} {sets:Nat→List Int} (h:InsAt S0 S ims sets) (hl:PH.le S S'):InsAt S0 S' ims sets:=fun c v hv=>⟨(h c v hv).1.le hl,(h c v hv).2⟩
theorem InsAt.set {S0 S:PH} {ims:List Value} {sets:Nat→List Int} (h:InsAt S0 S ims sets) {i r:Nat} {s:List Int} (hs:SetR S (.map (some r)) s) (h0:S0 r=none):InsAt S0 S (ims.set i (.map (some r))) (putF sets i s):=by
 intro c v hv
 rw [List.getElem?_set] at hv
 unfold putF
 by_cases e:i=c
 ·subst e
  rw [if_pos rfl] at hv
  split at hv
  ·cases hv
   rw [if_pos rfl]
   exact ⟨hs,fun r' h'=>by cases h';exact h0⟩
  ·cases hv
 ·rw [if_neg e] at hv
  rw [if_neg (fun h=>e h.symm)]
  exact h c v hv
theorem zom {α:Type} (l:List α) (i:Nat) (a:α) (h:i < l.length):l.take i++[a]++l.drop (i+1)=l.set i a:=by
 rw [List.set_eq_take_append_cons_drop,if_pos h];simp
theorem Held.freezeSet {S0 S H:PH} {I:List Itm} {r:Nat} {es:Array MapEntry} {clock:Nat} {s:List Int} (h0:PH.le S0 S) (h:Held S H (.blk r (.map es clock)::I)) (hs:SetAt es clock s) :
  ∃S',PH.le S S'∧SetR S' (.map (some r)) s∧S0 r=none∧Held S' H I:=by
 have hr:S r=none:=h.off _ (zms) r rfl
 obtain ⟨h1,h2⟩:=h.freezeB
 exact ⟨_,h1,⟨r,es,clock,rfl,PH.upd_same,hs⟩,PH.none_of_le h0 hr,h2⟩
theorem Iter.congr {P:Program} {gv:Value} {S:PH} {n:Nat} {xs ys:Nat→List Value} (h:∀j,j < n→xs j=ys j) (hi:Iter P gv S n xs):Iter P gv S n ys:=by
 obtain ⟨gf,lb,h1,h2,h3⟩:=hi
 exact ⟨gf,lb,h1,h2,fun l I H W g1 g2 g3 g4 g5=>h3 l I H W g1 g2 g3 (fun j H' W' hj a b m=>by rw [h j hj];exact g4 j H' W' hj a b m) g5⟩
set_option maxHeartbeats 4000000 in
theorem zio (p:PrcX) (bv:Value) (S:PH) (hbv:SlR S p.blocks bv) (hp:p.Fit) (hE:∀b∈p.blocks,b.e.args.length≤20000000) :
  Tri Tryz.prog zts #[.agg (prcVs p bv).toArray] S fun x S'=>∃(fb ib:Nat) (ims:List Value) (sets:Nat→List Int) (Sf:PH),PH.le S Sf∧x=.returned (pAt fb)∧Held Sf S' [flowB fb p bv (.slice (some ⟨ib,0,none⟩) p.blocks.length p.blocks.length),inB ib ims]∧ims.length=p.blocks.length∧InsAt S Sf ims sets ∧
   (∀c,(sets c).Nodup)∧∀c y,c < p.blocks.length→(y∈sets c↔LiveB p y c):=by
 have hN:=hp.n
 obtain ⟨b0,c0,rfl⟩:=hbv.sl
 refine zql (prcVs p (.slice b0 p.blocks.length c0)) (by kernel_rfl) (by kernel_rfl) ?_
 simp only [prcVs]
 refine zc7 (n:=p.blocks.length) Z9f Z8b (by kernel_rfl) (by kernel_rfl) (by simp only [maxLen];omega) (by omega) (Held.nil (PH.le_refl S)) fun ib K1 h1 _=>?_
 have h1:=h1.rawBlk
 refine z28 (vs:=[.int .i64 p.params,.int .i64 p.holds,.int .i64 p.regs,.slice b0 p.blocks.length c0,.slice (some ⟨ib,0,none⟩) p.blocks.length p.blocks.length]) h1 (by kernel_rfl) fun fb K2 _ h2=>?_
 refine ⟨fun _=>rfl,?_⟩
 refine z0t [.slice (some ⟨ib,0,none⟩) p.blocks.length p.blocks.length] (off:=4) (by kernel_rfl) h2 (zms) rfl rfl ?_
 refine ⟨fun n vs K=>∃(k:Nat) (ims:List Value) (S':PH),vs=[nI k]∧k+n=p.blocks.length∧PH.le S S'∧ims.length=p.blocks.length∧Held S' K [flowB fb p (.slice b0 p.blocks.length c0) (.slice (some ⟨ib,0,none⟩) p.blocks.length p.blocks.length),inB ib ims] ∧
  ∀c v,c < k→ims[c]?=some v→SetR S' v []∧∀r,v=.map (some r)→S r=none,
  ⟨p.blocks.length,0,List.replicate p.blocks.length (.map none),S,rfl,by omega,PH.le_refl S,by simp,h2,fun c v h=>by omega⟩,?_⟩
 rintro n vs K _ ⟨k,ims,S1,rfl,hkn,l1,hil,h3,him⟩
 refine ⟨fun g=>?_,fun g=>?_⟩
 ·simp only [evs,evb,zdt] at g
  refine z0t [.slice (some ⟨ib,0,none⟩) p.blocks.length p.blocks.length] (off:=4) (by kernel_rfl) h3 (zms) rfl rfl ?_
  refine z3w fun ro hro=>?_
  have h4:=h3.new hro (.map #[] 0)
  obtain ⟨S5,l5,hset,hS0,h5⟩:=h4.freezeSet l1 zes
  refine ⟨fun _=>?_,?_⟩
  ·simp only [Chk.holds,evs,evb];exact ⟨rfl,by omega,by omega⟩
  refine z0n (off:=k) (vs:=[.map (some ro)]) ?_ (h5.perm (List.Perm.swap _ _ _)) ?_ (by simp [oneC]) (by simp only [zlc,List.length_nil];omega) fun K6 h6=>?_
  ·simp only [evs,evb]
   simp [eltV,pOf,z04,Addr.add_plain]
  ·simp only [evs,evb]
  rw [show ([Value.map (some ro)]).length=1 from rfl,zom ims k _ (by omega)] at h6
  refine ⟨_,z05,n - 1,by omega,k+1,ims.set k (.map (some ro)),S5,?_,by omega,PH.le_trans l1 l5,by simpa using hil,h6.perm (List.Perm.swap _ _ _),fun c v hc hv=>?_⟩
  ·simp only [evs,evb];rw [w64 (by omega) (by omega)];rfl
  ·rw [List.getElem?_set] at hv
   by_cases e:k=c
   ·subst e
    rw [if_pos rfl] at hv
    split at hv
    ·cases hv;exact ⟨hset,fun r h=>by cases h;exact hS0⟩
    ·cases hv
   ·rw [if_neg e] at hv
    obtain ⟨q1,q2⟩:=him c v (by omega) hv
    exact ⟨q1.le l5,q2⟩
 ·simp only [evs,evb,zdf] at g
  have him':InsAt S S1 ims fun _=>[]:=fun c v hv=>him c v (by have:=(List.getElem?_eq_some_iff.1 hv).1;omega) hv
  have hk0:sumS (fun _=>([]:List Int)) p.blocks.length=0:=by
   have:∀n,sumS (fun _=>([]:List Int)) n=0:=fun n=>by induction n with
    | zero=>rfl
    | succ n ih=>simp [sumS,ih]
   exact this _
  refine ⟨fun n vs K'=>∃(again:Bool) (ims:List Value) (sets:Nat→List Int) (S':PH),vs=[.bool again]∧n=p.blocks.length * p.regl.length - sumS sets p.blocks.length+(if again then 1 else 0)∧PH.le S S'∧ims.length=p.blocks.length∧Held S' K' [flowB fb p (.slice b0 p.blocks.length c0) (.slice (some ⟨ib,0,none⟩) p.blocks.length p.blocks.length),inB ib ims]∧InsAt S S' ims sets∧Grows p sets ∧
   (again=false→∀i,i < p.blocks.length→∃s,Step p sets i s∧s.length=(sets i).length),
   ⟨_,true,ims,fun _=>[],S1,rfl,rfl,l1,hil,h3,him',Z2j p,fun h=>by cases h⟩,?_⟩
  rintro n vs K4 _ ⟨again,ims4,sets4,S4,rfl,rfl,l4,hil4,h4,him4,hg4,hst4⟩
  refine ⟨fun ga=>?_,fun ga=>?_⟩
  ·simp only [evs,evb] at ga
   subst ga
   have hsum4:=zr7 hg4 p.blocks.length
   refine ⟨fun m vs K'=>∃(ch:Bool) (j:Nat) (ims':List Value) (sets':Nat→List Int) (S':PH),vs=[.bool ch,.int .i64 ((p.blocks.length:Int) - 1 - j)]∧j+m=p.blocks.length∧PH.le S S'∧ims'.length=p.blocks.length∧Held S' K' [flowB fb p (.slice b0 p.blocks.length c0) (.slice (some ⟨ib,0,none⟩) p.blocks.length p.blocks.length),inB ib ims']∧InsAt S S' ims' sets'∧Grows p sets' ∧
    sumS sets4 p.blocks.length≤sumS sets' p.blocks.length∧(ch=true→sumS sets4 p.blocks.length < sumS sets' p.blocks.length)∧(ch=false→∀i,p.blocks.length≤i+j→i < p.blocks.length→∃s,Step p sets' i s∧s.length=(sets' i).length),
    ⟨p.blocks.length,false,0,ims4,sets4,S4,?_,by omega,l4,hil4,h4,him4,hg4,Nat.le_refl _,fun h=>(by cases h),fun _ i h1 h2=>(by omega)⟩,?_⟩
   ·simp only [evs,evb]
    rw [w64 (by omega) (by omega)]
    simp
   rintro m vs K5 _ ⟨ch,j,ims5,sets5,S5,rfl,hjm,l5,hil5,h5,him5,hg5,hs1,hs2,hs3⟩
   refine ⟨fun gj=>?_,fun gj=>?_⟩
   ·simp only [evs,evb,zdt] at gj
    obtain ⟨i,hij⟩:∃i:Nat,(p.blocks.length:Int) - 1 - j=(i:Int):=⟨p.blocks.length - 1 - j,by omega⟩
    have hi:i < p.blocks.length:=by omega
    obtain ⟨b,hb⟩:∃b,p.blocks[i]?=some b:=⟨_,zge hi⟩
    rw [hij]
    refine ⟨fun vs K'=>∃(ch':Bool) (ims':List Value) (sets':Nat→List Int) (S':PH),vs=[.bool ch']∧PH.le S S'∧ims'.length=p.blocks.length∧Held S' K' [flowB fb p (.slice b0 p.blocks.length c0) (.slice (some ⟨ib,0,none⟩) p.blocks.length p.blocks.length),inB ib ims']∧InsAt S S' ims' sets'∧Grows p sets' ∧
     sumS sets4 p.blocks.length≤sumS sets' p.blocks.length∧(ch'=true→sumS sets4 p.blocks.length < sumS sets' p.blocks.length)∧(ch'=false→∀i,p.blocks.length≤i+(j+1)→i < p.blocks.length→∃s,Step p sets' i s∧s.length=(sets' i).length),?_,?_⟩
    ·rintro vs K6 _ ⟨ch',ims',sets',S',rfl,t1,t2,t3,t4,t5,t6,t7,t8⟩
     refine ⟨_,z05,m - 1,by omega,ch',j+1,ims',sets',S',?_,by omega,t1,t2,t3,t4,t5,t6,t7,t8⟩
     simp only [evs,evb]
     rw [w64 (by omega) (by omega)]
     congr 3;omega
    refine z0a zay (Z0t p _ fb ib ims5 sets5 i b S5 K5 (hbv.le l5) hb hN (Nat.le_trans (hE b (List.mem_of_getElem? hb)) (by omega)) hil5 (fun c v h=>(him5 c v h).1) h5) ?_
    rintro x K6 ⟨S6,ro,es6,cl6,s6,l6,rfl,h6,hs6,hm6⟩
    refine ⟨_,[.map (some ro)],rfl,rfl,rfl,z06,?_⟩
    refine z28 (vs:=[.map none]) h6 (by kernel_rfl) fun sb K7 _ h7=>?_
    refine z0n (off:=0) (vs:=[.map (some ro)]) (by kernel_rfl) h7 (by kernel_rfl) (by simp [oneC]) (by simp) fun K8 h8=>?_
    have h8:Held S6 K8 [bx sb 216 [.map (some ro)],.blk ro (.map es6 cl6),flowB fb p (.slice b0 p.blocks.length c0) (.slice (some ⟨ib,0,none⟩) p.blocks.length p.blocks.length),inB ib ims5]:=h8
    have l56:=PH.le_trans l5 l6
    obtain ⟨q1,_,ces,q2,q3⟩:=(hbv.le l56).get hb
    obtain ⟨iv,esv,rfl,his,hes⟩:=blk_iff.1 q2
    obtain ⟨b2,c2,rfl⟩:=his.sl
    refine ⟨fun _=>?_,[.slice b2 b.ins.length c2],rfl,?_,?_⟩
    ·simp only [Chk.holds,evs,evb];exact ⟨q1,by omega,by omega⟩
    ·simp only [evs,evb];exact z3t (z18 h8.sh q3) 0 1
    refine z0a z2o (h8.pure (R:=fun x S'=>∃q:Nat,x=.returned (.func (.func 220) #[] #[.pointer (some ⟨q,0,none⟩)])∧rowAt S' (some ⟨q,0,none⟩) [.slice b2 b.ins.length c2]) ((zkr b.ins _ S6 his).mono fun x S' ⟨q,t1,t2,t3⟩=>⟨t1,q,t2,t3⟩)) ?_
    rintro x K9 ⟨S9,l9,h9,q,rfl,hq⟩
    refine ⟨_,[.func (.func 220) #[] #[.pointer (some ⟨q,0,none⟩)]],rfl,rfl,rfl,z06,?_⟩
    obtain ⟨cells,hcells⟩:=(his.le l9).fn
    have hc8:∀j',j' < b.ins.length→(cells (b.ins.length - 1 - j')).length=8:=fun j' hj'=>by
     obtain ⟨y,hy⟩:∃y,b.ins[b.ins.length - 1 - j']?=some y:=⟨_,zge (by omega)⟩
     have:=(hcells _ y hy).1
     exact PV.RepRow.length this
    have hbl:=hp.ins b (List.mem_of_getElem? hb)
    refine ⟨S9,b.ins.length,fun j'=>nI (b.ins.length - 1 - j')::cells (b.ins.length - 1 - j'),fun j' H'=>∃(es:Array MapEntry) (cl:Nat) (s:List Int),Held S9 H' [bx sb 216 [.map (some ro)],.blk ro (.map es cl),flowB fb p (.slice b0 p.blocks.length c0) (.slice (some ⟨ib,0,none⟩) p.blocks.length p.blocks.length),inB ib ims5]∧SetAt es cl s∧∀y,y∈s↔thru y (b.ins.drop (b.ins.length - j')) (outS p sets5 b y),h9.sh,?_,?_,?_,?_,?_⟩
    ·refine Iter.congr (fun j' hj'=>?_) (zjo b.ins S9 _ _ hq (his.le l9) (by omega) cells hcells)
     have:=hc8 j' hj'
     simp [z1g,RS.pack,RS.tags,List.take_of_length_le,this]
    ·rintro j' H' ⟨es,cl,s,hh,_⟩;exact hh.sh
    ·exact ⟨es6,cl6,s6,h9,hs6,fun y=>by rw [Nat.sub_zero,List.drop_length];exact hm6 y⟩
    ·rintro j' H' hj' ⟨es,cl,s,hh,hs,hm⟩
     obtain ⟨y,hy⟩:∃y,b.ins[b.ins.length - 1 - j']?=some y:=⟨_,zge (by omega)⟩
     obtain ⟨hyc,_⟩:=hcells _ y hy
     have hyc':=hyc
     obtain ⟨av,dv,hcell,_,_,hya,_,_,_,hyd,_⟩:=ins_iff.1 hyc
     obtain ⟨ab,ac,rfl⟩:=hya.sl
     obtain ⟨db,dc,rfl⟩:=hyd.sl
     simp only [hcell]
     refine ⟨rfl,?_⟩
     refine z0t [.map (some ro)] (off:=0) (by kernel_rfl) hh (zms) rfl rfl ?_
     rw [hcell] at hyc'
     refine z0a zem (Held.call (P:=Tryz.prog) (f:=z9w) (args:=#[.map (some ro),.agg (List.toArray _)]) (J:=[.blk ro (.map es cl)]) (I:=[bx sb 216 [.map (some ro)],flowB fb p (.slice b0 p.blocks.length c0) (.slice (some ⟨ib,0,none⟩) p.blocks.length p.blocks.length),inB ib ims5])
      (R:=fun e S' J'=>S'=S9∧∃es' cl' s',e=.returned (.tuple #[])∧J'=[.blk ro (.map es' cl')]∧SetAt es' cl' s'∧∀z,z∈s'↔(z∈y.args∨(¬y.fills z∧z∈s))) (hh.perm (List.Perm.swap _ _ _))
      (fun K' hK=>(zmo ro es cl s y _ S9 K' hyc' hK hs).mono fun e K'' ⟨es',cl',s',t1,t2,t3,t4⟩=>⟨S9,_,PH.le_refl _,t2,rfl,es',cl',s',t1,rfl,t3,t4⟩)) ?_
     rintro e K'' ⟨S',J',_,hh',rfl,es',cl',s',rfl,rfl,hs',hm'⟩
     refine ⟨_,[],rfl,rfl,rfl,z06,_,z05,es',cl',s',hh'.perm (List.Perm.swap _ _ _),hs',fun z=>?_⟩
     rw [hm',hm,zt0 hj' hy]
    ·rintro H' ⟨es,cl,s,hh,hs,hm⟩
     have hst:Step p sets5 i s:=⟨hs.nodup,fun y=>by
      rw [hm,Nat.sub_self,List.drop_zero]
      exact ⟨fun h=>⟨b,hb,h⟩,fun ⟨b',hb',h⟩=>by rw [hb] at hb';cases hb';exact h⟩⟩
     obtain ⟨mv,hmv⟩:∃mv,ims5[i]?=some mv:=⟨_,zge (by omega)⟩
     have hset:=(him5 i mv hmv).1.le (PH.le_trans l6 l9)
     obtain ⟨rt,est,clt,rfl,hrt,hst'⟩:=hset
     have hsl:=z0z hst.1 fun y hy=>z5g (p:=p) (i:=i) (at_:=0) (z2v (fun c hc=>hg5.live c y hc) ((hst.2 y).1 hy))
     have hsl2:=hg5.le i
     have hreg:=hp.regs
     refine z0t [.map (some ro)] (off:=0) (by kernel_rfl) hh (zms) rfl rfl ?_
     refine z0t [.slice (some ⟨ib,0,none⟩) p.blocks.length p.blocks.length] (off:=4) (by kernel_rfl) hh (zmm _ (zmm _ (zms))) rfl rfl ?_
     have hib:H' ib=some (.cells ims5.toArray 216 (0,0)):=hh.blk (zmm _ (zmm _ (zmm _ (zms))))
     refine ⟨fun _=>?_,[.map (some rt)],rfl,?_,?_⟩
     ·simp only [Chk.holds,evs,evb];exact ⟨rfl,by omega,by omega⟩
     ·simp only [evs,evb];exact zgv (n:=p.blocks.length) hib hmv
     refine zi6 (α:=Int) (m:=encS s) (v:=.map (some ro)) rfl uSetK (by kernel_rfl) ⟨ro,es,cl,rfl,hh.blk (zmm _ (zms)),hs⟩ (by simp [encS];omega) ?_ ?_
     ·intro x hx
      simp only [List.mem_cons,List.not_mem_nil,or_false] at hx
      rcases hx with rfl | rfl
      ·simp only [evs,evb];exact zgv (n:=p.blocks.length) hib hmv
      ·simp only [evs,evb]
       exact zlo (off:=4) (hh.blk (zmm _ (zmm _ (zms)))) 1
     refine zi6 (α:=Int) (m:=encS (sets5 i)) (v:=.map (some rt)) rfl uSetK (by kernel_rfl) ⟨rt,est,clt,rfl,hh.sh _ _ hrt,hst'⟩ (by simp [encS];omega) z06 ?_
     have hSle:PH.le S S9:=PH.le_trans l56 l9
     refine ⟨fun gl=>?_,fun gl=>?_⟩
     ·simp only [evs,evb,zdt] at gl
      have hgt:(sets5 i).length < s.length:=by
       have h1:=z0z (hg5.nodup i) (hst.grown hg5)
       have h2:s.length≠(sets5 i).length:=fun e=>by simp [encS,e] at gl
       omega
      refine z0t [.slice (some ⟨ib,0,none⟩) p.blocks.length p.blocks.length] (off:=4) (by kernel_rfl) hh (zmm _ (zmm _ (zms))) rfl rfl ?_
      refine z0t [.map (some ro)] (off:=0) (by kernel_rfl) hh (zms) rfl rfl ?_
      obtain ⟨S10,l10,hset10,hS0,h10⟩:=Held.freezeSet hSle (hh.perm (List.Perm.swap _ _ _)) hs
      refine ⟨fun _=>?_,?_⟩
      ·simp only [Chk.holds,evs,evb];exact ⟨rfl,by omega,by omega⟩
      refine z0n (off:=i) (vs:=[.map (some ro)]) ?_ (h10.tail.perm (List.Perm.swap _ _ _)) ?_ (by simp [oneC]) (by simp only [zlc,List.length_nil];omega) fun K12 h12=>?_
      ·simp only [evs,evb]
       simp [eltV,pOf,z04,Addr.add_plain]
      ·simp only [evs,evb]
      rw [show ([Value.map (some ro)]).length=1 from rfl,zom ims5 i _ (by omega)] at h12
      have hsum:=zv6 (sets:=sets5) (s:=s) p.blocks.length hi
      exact ⟨_,z05,true,ims5.set i (.map (some ro)),putF sets5 i s,S10,rfl,PH.le_trans hSle l10,by simpa using hil5,h12.perm (List.Perm.swap _ _ _),(him5.le (PH.le_trans (PH.le_trans l6 l9) l10)).set hset10 hS0,hg5.put hst,by omega,fun _=>by omega,fun h=>by cases h⟩
     ·simp only [evs,evb,zdf] at gl
      have heq:s.length=(sets5 i).length:=by
       have:¬((s.length:Int)≠((sets5 i).length:Int)):=by simpa [encS] using gl
       omega
      refine ⟨_,z05,ch,ims5,sets5,S9,rfl,hSle,hil5,hh.tail.tail,him5.le (PH.le_trans l6 l9),hg5,hs1,hs2,fun hc k hk1 hk2=>?_⟩
      by_cases e:k=i
      ·subst e;exact ⟨s,hst,heq⟩
      ·exact hs3 hc k (by omega) hk2
   ·simp only [evs,evb,zdf] at gj
    have hjN:j=p.blocks.length:=by omega
    have hsum5:=zr7 hg5 p.blocks.length
    refine ⟨_,rfl,_,?_,ch,ims5,sets5,S5,rfl,rfl,l5,hil5,h5,him5,hg5,fun hc i hi=>hs3 hc i (by omega) hi⟩
    cases ch with
    | true=>have:=hs2 rfl;simp only [if_true];omega
    | false=>simp only [if_true,Bool.false_eq_true,if_false];omega
  ·simp only [evs,evb] at ga
   subst ga
   refine ⟨fb,ib,ims4,sets4,S4,l4,rfl,h4,hil4,him4,hg4.nodup,fun c y _=>hg4.all (hst4 rfl)⟩
theorem Z34 {p:PrcX} {l:List Int} {c:Nat} (hn:l.Nodup) (hm:∀y,y∈l↔LiveB p y c):sortI l=liveL p c 0:=by
 refine zcm (z6r hn) (zey p c 0) fun x=>?_
 rw [z7k,hm,liveL_mem,zt1]
theorem zyc {p:PrcX} {l:List Int} {c a:Nat} (hn:l.Nodup) (hm:∀y,y∈l↔z1z p y c a):sortI l=liveL p c a:=by
 refine zcm (z6r hn) (zey p c a) fun x=>?_
 rw [z7k,hm,liveL_mem]
theorem zrm {p:PrcX} {l:List Int} (hp:p.Fit) (hn:l.Nodup) (hm:∀y∈l,y∈p.regl):l.length≤20000000:=
 Nat.le_trans (z0z hn hm) hp.regs
set_option maxHeartbeats 1000000 in
theorem zzx (p:PrcX) (bv:Value) (S:PH) (hbv:SlR S p.blocks bv) (hp:p.Fit) (hE:∀b∈p.blocks,b.e.args.length≤20000000) :
  Tri Tryz.prog Z3f #[.agg (prcVs p bv).toArray] S fun x S'=>PH.le S S'∧∃v,x=.returned v∧SlR S' (inL p) v:=by
 have hN:=hp.n
 have hbv0:=hbv
 obtain ⟨b0,c0,rfl⟩:=hbv.sl
 refine zyv (prcVs p (.slice b0 p.blocks.length c0)) (by kernel_rfl) (by kernel_rfl) ?_
 simp only [prcVs]
 refine z0a z9n (zio p (.slice b0 p.blocks.length c0) S hbv hp hE) ?_
 rintro x K1 ⟨fb,ib,ims,sets,Sf,lf,rfl,h1,hil,him,hnd,hmem⟩
 refine ⟨_,[pAt fb],rfl,rfl,rfl,z06,?_⟩
 refine ⟨fun _=>rfl,?_⟩
 refine z0t [.slice (some ⟨ib,0,none⟩) p.blocks.length p.blocks.length] (off:=4) (by kernel_rfl) h1 (zms) rfl rfl ?_
 have h2:=h1.empty (α:=List Int) 29
 refine ⟨fun n vs K=>∃(k:Nat) (v:Value) (S':PH),vs=[v,nI k]∧k+n=p.blocks.length∧PH.le Sf S'∧Held S' K [orow 29 ((List.range k).map fun i=>liveL p i 0) v,flowB fb p (.slice b0 p.blocks.length c0) (.slice (some ⟨ib,0,none⟩) p.blocks.length p.blocks.length),inB ib ims],
  ⟨p.blocks.length,0,.slice none 0 0,Sf,rfl,by omega,PH.le_refl _,by simpa using h2⟩,?_⟩
 rintro n vs K _ ⟨k,v,S1,rfl,hkn,l1,h3⟩
 refine ⟨fun g=>?_,fun g=>?_⟩
 ·simp only [evs,evb,zdt] at g
  have hk:k < p.blocks.length:=by omega
  obtain ⟨mv,hmv⟩:∃mv,ims[k]?=some mv:=⟨_,zge (by omega)⟩
  obtain ⟨rt,est,clt,rfl,hrt,hst⟩:=(him k mv hmv).1
  have hib:K ib=some (.cells ims.toArray 216 (0,0)):=h3.blk (zmm _ (zmm _ (zms)))
  have hreg:∀y∈sets k,y∈p.regl:=fun y hy=>z5g (zii ((hmem k y hk).1 hy))
  refine ⟨fun _=>?_,[.map (some rt)],rfl,?_,?_⟩
  ·simp only [Chk.holds,evs,evb];exact ⟨rfl,by omega,by omega⟩
  ·simp only [evs,evb];exact zgv (n:=p.blocks.length) hib hmv
  refine z0a z3f (zhu rt est clt (sets k) S1 K _ h3 (.inl (l1 _ _ hrt)) hst (fun y hy=>zn3 hbv0 y (hreg y hy)) (Nat.le_trans (zrm hp (hnd k) hreg) (by omega))) ?_
  rintro x K2 ⟨S2,wv,l2,rfl,hwv,h4⟩
  rw [Z34 (hnd k) fun y=>hmem k y hk] at hwv
  obtain ⟨b3,c3,rfl⟩:=hwv.sl
  refine ⟨_,[.slice b3 (liveL p k 0).length c3],rfl,rfl,rfl,z06,?_⟩
  refine z1o (more:=[liveL p k 0]) (b:=24) [.slice b3 (liveL p k 0).length c3] Z03 zsm rfl (by decide) (by decide) h4 (by kernel_rfl) (.cons (zlr hwv) .nil) z06 (fun _=>by kernel_rfl) (fun _=>by kernel_rfl)
   (by simp only [maxLen,zlc,List.length_nil,List.length_map,List.length_range];omega) (by simp only [zlc,List.length_nil,List.length_map,List.length_range];omega) fun u v' S4 K4 l4 h5=>⟨z06,_,z05,n - 1,by omega,k+1,v',S4,?_,by omega,PH.le_trans l1 (PH.le_trans l2 l4),by rw [List.range_succ,List.map_append];exact h5⟩
  simp only [evs,evb]
  rw [w64 (by omega) (by omega)];rfl
 ·simp only [evs,evb,zdf] at g
  have:k=p.blocks.length:=by omega
  subst this
  obtain ⟨S3,s3,l3,h5⟩:=h3.freeze
  exact ⟨PH.le_trans lf (PH.le_trans l1 (PH.le_trans l3 h5.sh)),v,rfl,s3.le h5.sh⟩
set_option maxHeartbeats 1000000 in
theorem zyf (p:PrcX) (bv:Value) (block:Int) (S:PH) (hbv:SlR S p.blocks bv) (hp:p.Fit) (hE:∀b∈p.blocks,b.e.args.length≤20000000) :
  Tri Tryz.prog zug #[.agg (prcVs p bv).toArray,.int .i64 block] S fun x S'=>PH.le S S'∧∃v,x=.returned v∧SlR S' (z2b p block) v:=by
 have hN:=hp.n
 have hbv0:=hbv
 obtain ⟨b0,c0,rfl⟩:=hbv.sl
 refine zqa (prcVs p (.slice b0 p.blocks.length c0)++[.int .i64 block]) (by kernel_rfl) (by kernel_rfl) ?_
 simp only [prcVs,List.cons_append,List.nil_append]
 refine ⟨fun g=>?_,fun g=>?_⟩
 ·simp only [evs,evb] at g
  simp only [Bool.or_eq_true,zdt] at g
  exact ⟨PH.le_refl S,_,rfl,by rw [zwa (by omega)];exact z49 S⟩
 simp only [evs,evb] at g
 simp only [Bool.or_eq_false_iff,zdf] at g
 obtain ⟨i,rfl⟩:∃i:Nat,block=(i:Int):=⟨block.toNat,by omega⟩
 have hi:i < p.blocks.length:=by omega
 obtain ⟨b,hb⟩:∃b,p.blocks[i]?=some b:=⟨_,zge hi⟩
 rw [Z26 hb]
 obtain ⟨q1,_,ces,q2,q3⟩:=hbv.get hb
 obtain ⟨iv,es,rfl,his,hes⟩:=blk_iff.1 q2
 obtain ⟨av,rfl,e1,e2,hea,e3,e4,e5⟩:=end_iff.1 hes
 obtain ⟨b3,c3,rfl⟩:=hea.sl
 refine ⟨fun _=>?_,[.int .i64 b.e.kind,.int .i64 b.e.reg,.slice b3 b.e.args.length c3,.int .i64 b.e.to,.int .i64 b.e.next,.int .i64 b.e.els],rfl,?_,?_⟩
 ·simp only [Chk.holds,evs,evb];exact ⟨q1,by omega,by omega⟩
 ·simp only [evs,evb];exact z3t q3 1 6
 refine z0b [.bool b.e.calls] zjn (zmq b.e _ S hea) rfl z06 fun K1 l1=>⟨fun g1=>?_,fun g1=>?_⟩
 ·simp only [evs,evb] at g1
  simp only [Bool.or_eq_true,Bool.not_eq_true',zdt] at g1
  refine ⟨l1,_,rfl,?_⟩
  have:¬b.crosses p.blocks.length:=by
   rintro ⟨h1,h2,h3⟩
   rw [h1] at g1
   rcases g1 with (g1 | g1) | g1
   ·cases g1
   ·omega
   ·omega
  rw [if_neg this]
  exact z49 K1
 ·simp only [evs,evb] at g1
  simp only [Bool.or_eq_false_iff,Bool.not_eq_false',zdf] at g1
  obtain ⟨⟨g2,g3⟩,g4⟩:=g1
  have hc:b.crosses p.blocks.length:=⟨g2,by omega,by omega⟩
  rw [if_pos hc]
  obtain ⟨m,hm⟩:∃m:Nat,b.e.next=(m:Int):=⟨b.e.next.toNat,by omega⟩
  have hmN:m < p.blocks.length:=by omega
  rw [hm,Int.toNat_natCast]
  refine z0a z9n (zio p (.slice b0 p.blocks.length c0) K1 (hbv.le l1) hp hE) ?_
  rintro x K2 ⟨fb,ib,ims,sets,Sf,lf,rfl,h1,hil,him,hnd,hmem⟩
  obtain ⟨mv,hmv⟩:∃mv,ims[m]?=some mv:=⟨_,zge (by omega)⟩
  have hno:=(him m mv hmv).2
  obtain ⟨rt,est,clt,rfl,hrt,hst⟩:=(him m mv hmv).1
  have hK1:K1 rt=none:=hno rt rfl
  have hib:K2 ib=some (.cells ims.toArray 216 (0,0)):=h1.blk (zmm _ (zms))
  have hreg:∀y∈sets m,y∈p.regl:=fun y hy=>z5g (zii ((hmem m y hmN).1 hy))
  refine ⟨_,[pAt fb],rfl,rfl,rfl,z06,?_⟩
  refine ⟨fun _=>rfl,?_⟩
  refine z0t [.slice (some ⟨ib,0,none⟩) p.blocks.length p.blocks.length] (off:=4) (by kernel_rfl) h1 (zms) rfl rfl ?_
  refine ⟨fun _=>?_,[.map (some rt)],rfl,?_,?_⟩
  ·simp only [Chk.holds,evs,evb];exact ⟨rfl,by omega,by omega⟩
  ·simp only [evs,evb];exact zgv (n:=p.blocks.length) hib hmv
  have hown:Held K1 K2 [.blk rt (.map est clt)]:=⟨PH.le_trans lf h1.sh,fun i hi=>by rw [List.mem_singleton.1 hi];exact h1.sh _ _ hrt,fun i hi g hg=>by
   rw [List.mem_singleton.1 hi] at hg
   simp only [Itm.ob,Option.some.injEq] at hg
   subst hg;exact hK1,List.pairwise_singleton _ _⟩
  refine z0a z3y (zfe rt est clt (sets m) b.e.to K1 K2 hown hst) ?_
  rintro x K3 ⟨es3,cl3,rfl,h3,hs3⟩
  refine ⟨_,[],rfl,rfl,rfl,z06,?_⟩
  have hreg3:∀y∈(sets m).filter (fun y=>decide (y≠b.e.to)),y∈p.regl:=fun y hy=>hreg y (List.mem_filter.1 hy).1
  refine z0a z3f (zhu rt es3 cl3 _ K1 K3 _ h3 (.inr (zms)) hs3 (fun y hy=>zn3 (hbv0.le l1) y (hreg3 y hy)) (Nat.le_trans (zrm hp hs3.nodup hreg3) (by omega))) ?_
  rintro x K4 ⟨S4,wv,l4,rfl,hwv,h4⟩
  have heq:sortI ((sets m).filter fun y=>decide (y≠b.e.to))=(liveL p m 0).filter fun x=>decide (x≠b.e.to):=by
   refine zcm (z6r hs3.nodup) ((zey p m 0).sublist List.filter_sublist) fun x=>?_
   rw [z7k,List.mem_filter,List.mem_filter,hmem m x hmN,liveL_mem,zt1]
  rw [heq] at hwv
  obtain ⟨b6,c6,rfl⟩:=hwv.sl
  exact ⟨_,[_],rfl,rfl,rfl,z06,PH.le_trans l1 (PH.le_trans l4 h4.sh),_,rfl,hwv.le h4.sh⟩
structure RevAt {α:Type} (l m:List α) (i:Nat):Prop where
 len:m.length=l.length
 at_:∀t,t < l.length→m[t]?=if t < i∨l.length≤t+i then l[l.length - 1 - t]? else l[t]?
theorem RevAt.first {α:Type} (l:List α):RevAt l l 0:=⟨rfl,fun t h=>by rw [if_neg (by omega)]⟩
theorem RevAt.step {α:Type} {l m:List α} {i:Nat} {a b:α} (h:RevAt l m i) (hi:2 * i+1 < l.length) (ha:m[i]?=some a) (hb:m[l.length - 1 - i]?=some b):RevAt l ((m.set i b).set (l.length - 1 - i) a) (i+1):=by
 have ha':=h.at_ i (by omega)
 have hb':=h.at_ (l.length - 1 - i) (by omega)
 rw [if_neg (by omega)] at ha' hb'
 refine ⟨by simpa using h.len,fun t ht=>?_⟩
 rw [List.getElem?_set,List.length_set,h.len,List.getElem?_set,h.len]
 by_cases e1:l.length - 1 - i=t
 ·rw [if_pos e1,if_pos (by omega),if_pos (by omega),←ha,ha']
  congr 1;omega
 ·rw [if_neg e1]
  by_cases e2:i=t
  ·rw [if_pos e2,if_pos (by omega),if_pos (by omega),←hb,hb']
   congr 1;omega
  ·rw [if_neg e2,h.at_ t ht]
   by_cases e3:t < i∨l.length≤t+i
   ·rw [if_pos e3,if_pos (by omega)]
   ·rw [if_neg e3,if_neg (by omega)]
theorem RevAt.done {α:Type} {l m:List α} {i:Nat} (h:RevAt l m i) (hi:l.length≤2 * i+1):m=l.reverse:=by
 refine List.ext_getElem? fun t=>?_
 by_cases ht:t < l.length
 ·rw [List.getElem?_reverse ht,h.at_ t ht]
  by_cases e:t < i∨l.length≤t+i
  ·rw [if_pos e]
  ·rw [if_neg e];congr 1;omega
 ·rw [List.getElem?_eq_none (by rw [h.len];omega),List.getElem?_eq_none (by rw [List.length_reverse];omega)]
set_option maxHeartbeats 1000000 in
theorem zzk (l:List (List Int)) (v:Value) (S K:PH) (I:List Itm) (h:Held S K (orow 29 l v::I)) (hl:l.length≤40000000) :
  Tri Tryz.prog z8e #[v] K fun x K'=>x=.returned (.tuple #[])∧Held S K' (orow 29 l.reverse v::I):=by
 obtain ⟨b,c,rfl⟩:=(h.row (zms)).sl
 refine z6y [.slice b l.length c] (by kernel_rfl) (by kernel_rfl) ?_
 refine ⟨fun n vs K'=>∃(i:Nat) (m:List (List Int)),vs=[nI i,.int .i64 ((l.length:Int) - 1 - i)]∧n=l.length - i∧i≤l.length∧RevAt l m i∧Held S K' (orow 29 m (.slice b l.length c)::I),⟨_,0,l,?_,rfl,by omega,RevAt.first l,h⟩,?_⟩
 ·simp only [evs,evb]
  rw [w64 (by omega) (by omega)]
  simp
 rintro n vs K1 _ ⟨i,m,rfl,rfl,hil,hr,h1⟩
 refine ⟨fun g=>?_,fun g=>?_⟩
 ·simp only [evs,evb,zdt] at g
  have hi2:2 * i+1 < l.length:=by omega
  obtain ⟨k,hk⟩:∃k:Nat,(l.length:Int) - 1 - i=(k:Int):=⟨l.length - 1 - i,by omega⟩
  have hk':k=l.length - 1 - i:=by omega
  rw [hk]
  obtain ⟨a,ha⟩:∃a,m[i]?=some a:=⟨_,zge (by rw [hr.len];omega)⟩
  obtain ⟨z,hz⟩:∃z,m[k]?=some z:=⟨_,zge (by rw [hr.len];omega)⟩
  obtain ⟨a1,_,acs,a2,a3⟩:=(h1.row (zms)).get ha
  obtain ⟨z1,_,zcs,z2,z3⟩:=(h1.row (zms)).get hz
  obtain ⟨av,rfl,a4⟩:=csLK a2
  obtain ⟨zv,rfl,z4⟩:=csLK z2
  have a4':=a4
  have z4':=z4
  obtain ⟨ab,ac,rfl⟩:=a4'.sl
  obtain ⟨zb,zc,rfl⟩:=z4'.sl
  refine ⟨fun _=>?_,[.slice zb z.length zc],rfl,?_,fun _=>?_,[.slice ab a.length ac],rfl,?_,?_⟩
  ·simp only [Chk.holds,evs,evb];exact ⟨z1,by omega,by omega⟩
  ·simp only [evs,evb];exact z3
  ·simp only [Chk.holds,evs,evb];exact ⟨a1,by omega,by omega⟩
  ·simp only [evs,evb];exact a3
  refine z1d (i:=i) (a:=a) (a':=z) (us:=[.slice zb z.length zc]) ?_ h1 ha rfl ?_ (by simp [oneC]) (zlr z4) fun K2 h2=>?_
  ·simp only [evs,evb];rfl
  ·simp only [evs,evb]
  have hz':(m.set i z)[k]?=some z:=by
   rw [List.getElem?_set,if_neg (by omega)];exact hz
  refine z1d (i:=k) (a:=z) (a':=a) (us:=[.slice ab a.length ac]) ?_ h2 hz' rfl ?_ (by simp [oneC]) (zlr a4) fun K3 h3=>?_
  ·simp only [evs,evb];rfl
  ·simp only [evs,evb]
  refine ⟨_,z05,l.length - (i+1),by omega,i+1,(m.set i z).set k a,?_,rfl,by omega,?_,h3⟩
  ·simp only [evs,evb]
   rw [w64 (by omega) (by omega),w64 (by omega) (by omega)]
   congr 2
   congr 1
   omega
  ·subst hk';exact hr.step hi2 ha hz
 ·simp only [evs,evb,zdf] at g
  have:=hr.done (by omega)
  subst this
  exact ⟨rfl,h1⟩
noncomputable def backL (p:PrcX) (i n j:Nat):List (List Int):=(List.range j).map fun t=>liveL p i (n - t)
theorem Z48 (p:PrcX) (i:Nat) (b:BlkX):(backL p i b.ins.length b.ins.length).reverse=behL p i b:=by
 unfold backL behL
 refine List.ext_getElem? fun t=>?_
 by_cases ht:t < b.ins.length
 ·rw [List.getElem?_reverse (by simpa using ht),List.length_map,List.length_range,List.getElem?_map,List.getElem?_map,List.getElem?_range (by omega),List.getElem?_range ht]
  simp only [Option.map_some]
  congr 2;omega
 ·rw [List.getElem?_eq_none (by simp;omega),List.getElem?_eq_none (by simp;omega)]
theorem ztb {p:PrcX} {sets:Nat→List Int} (hmem:∀c y,c < p.blocks.length→(y∈sets c↔LiveB p y c)) (b:BlkX) (y:Int):outS p sets b y↔z9x b.e p.blocks.length y (LiveB p y):=by
 unfold outS z9x
 constructor
 ·rintro (h | ⟨h1,c,h2,h3⟩)
  ·exact .inl h
  ·have hc:c < p.blocks.length:=by have:=(List.mem_filter.1 h2).2;simp at this;omega
   exact .inr ⟨h1,c,h2,(hmem c y hc).1 h3⟩
 ·rintro (h | ⟨h1,c,h2,h3⟩)
  ·exact .inl h
  ·have hc:c < p.blocks.length:=by have:=(List.mem_filter.1 h2).2;simp at this;omega
   exact .inr ⟨h1,c,h2,(hmem c y hc).2 h3⟩
theorem Z4i {p:PrcX} {sets:Nat→List Int} (hmem:∀c y,c < p.blocks.length→(y∈sets c↔LiveB p y c)) {i:Nat} {b:BlkX} (hb:p.blocks[i]?=some b) (k:Nat) (y:Int):thru y (b.ins.drop k) (outS p sets b y)↔z1z p y i k:=by
 constructor
 ·exact fun h=>⟨b,hb,zer (ztb hmem b y).1 h⟩
 ·rintro ⟨b',hb',h⟩
  rw [hb] at hb';cases hb'
  exact zer (ztb hmem b y).2 h
set_option maxHeartbeats 4000000 in
theorem zzh (p:PrcX) (bv:Value) (block:Int) (S:PH) (hbv:SlR S p.blocks bv) (hp:p.Fit) (hE:∀b∈p.blocks,b.e.args.length≤20000000) :
  Tri Tryz.prog zul #[.agg (prcVs p bv).toArray,.int .i64 block] S fun x S'=>PH.le S S'∧∃v,x=.returned v∧SlR S' (z83 p block) v:=by
 have hN:=hp.n
 have hbv0:=hbv
 obtain ⟨b0,c0,rfl⟩:=hbv.sl
 refine zok (prcVs p (.slice b0 p.blocks.length c0)++[.int .i64 block]) (by kernel_rfl) (by kernel_rfl) ?_
 simp only [prcVs,List.cons_append,List.nil_append]
 refine ⟨fun g=>?_,fun g=>?_⟩
 ·simp only [evs,evb] at g
  simp only [Bool.or_eq_true,zdt] at g
  refine ⟨PH.le_refl S,_,rfl,?_⟩
  have:z83 p block=[]:=by
   unfold z83
   by_cases h0:block < 0
   ·rw [if_pos h0]
   ·rw [if_neg h0,List.getElem?_eq_none (by omega)]
  rw [this]
  exact z49 S
 simp only [evs,evb] at g
 simp only [Bool.or_eq_false_iff,zdf] at g
 obtain ⟨i,rfl⟩:∃i:Nat,block=(i:Int):=⟨block.toNat,by omega⟩
 have hi:i < p.blocks.length:=by omega
 obtain ⟨b,hb⟩:∃b,p.blocks[i]?=some b:=⟨_,zge hi⟩
 have hbe:z83 p (i:Int)=behL p i b:=by
  unfold z83
  rw [if_neg (by omega),Int.toNat_natCast,hb]
 rw [hbe]
 have hbl:=hp.ins b (List.mem_of_getElem? hb)
 refine z0a z9n (zio p (.slice b0 p.blocks.length c0) S hbv hp hE) ?_
 rintro x K1 ⟨fb,ib,ims,sets,Sf,lf,rfl,h1,hil,him,hnd,hmem⟩
 refine ⟨_,[pAt fb],rfl,rfl,rfl,z06,?_⟩
 refine z0a zay (Z0t p _ fb ib ims sets i b Sf K1 (hbv.le lf) hb hN (Nat.le_trans (hE b (List.mem_of_getElem? hb)) (by omega)) hil (fun c v h=>(him c v h).1) h1) ?_
 rintro x K2 ⟨S2,ro,es2,cl2,s2,l2,rfl,h2,hs2,hm2⟩
 refine ⟨_,[.map (some ro)],rfl,rfl,rfl,z06,?_⟩
 refine z28 (vs:=[.map none]) h2 (by kernel_rfl) fun sb K3 _ h3=>?_
 refine z0n (off:=0) (vs:=[.map (some ro)]) (by kernel_rfl) h3 (by kernel_rfl) (by simp [oneC]) (by simp) fun K4 h4=>?_
 have h4:Held S2 K4 [bx sb 216 [.map (some ro)],.blk ro (.map es2 cl2),flowB fb p (.slice b0 p.blocks.length c0) (.slice (some ⟨ib,0,none⟩) p.blocks.length p.blocks.length),inB ib ims]:=h4
 refine z28 (vs:=[.slice none 0 0]) (h4.sub (J:=[bx sb 216 [.map (some ro)],.blk ro (.map es2 cl2)]) ((List.sublist_append_left [bx sb 216 [.map (some ro)],.blk ro (.map es2 cl2)] _))) (by kernel_rfl) fun ob K5 _ h5=>?_
 have h5:=h5.empty (α:=List Int) 29
 obtain ⟨q1,_,ces,q2,q3⟩:=(hbv.le (PH.le_trans lf l2)).get hb
 obtain ⟨iv,esv,rfl,his,hes⟩:=blk_iff.1 q2
 obtain ⟨b2,c2,rfl⟩:=his.sl
 refine ⟨fun _=>?_,[.slice b2 b.ins.length c2],rfl,?_,?_⟩
 ·simp only [Chk.holds,evs,evb];exact ⟨q1,by omega,by omega⟩
 ·simp only [evs,evb];exact z3t (z18 h5.sh q3) 0 1
 refine z0a z2o (h5.pure (R:=fun x S'=>∃q:Nat,x=.returned (.func (.func 220) #[] #[.pointer (some ⟨q,0,none⟩)])∧rowAt S' (some ⟨q,0,none⟩) [.slice b2 b.ins.length c2]) ((zkr b.ins _ S2 his).mono fun x S' ⟨q,t1,t2,t3⟩=>⟨t1,q,t2,t3⟩)) ?_
 rintro x K9 ⟨S9,l9,h9,q,rfl,hq⟩
 refine ⟨_,[.func (.func 220) #[] #[.pointer (some ⟨q,0,none⟩)]],rfl,rfl,rfl,z06,?_⟩
 obtain ⟨cells,hcells⟩:=(his.le l9).fn
 have hc8:∀j',j' < b.ins.length→(cells (b.ins.length - 1 - j')).length=8:=fun j' hj'=>by
  obtain ⟨y,hy⟩:∃y,b.ins[b.ins.length - 1 - j']?=some y:=⟨_,zge (by omega)⟩
  have:=(hcells _ y hy).1
  exact PV.RepRow.length this
 refine ⟨S9,b.ins.length,fun j'=>nI (b.ins.length - 1 - j')::cells (b.ins.length - 1 - j'),fun j' H'=>∃(es:Array MapEntry) (cl:Nat) (s:List Int) (v:Value) (S':PH),PH.le S9 S'∧Held S' H' [orow 29 (backL p i b.ins.length j') v,bx ob 185 [v],bx sb 216 [.map (some ro)],.blk ro (.map es cl)]∧SetAt es cl s∧∀y,y∈s↔thru y (b.ins.drop (b.ins.length - j')) (outS p sets b y),h9.sh,?_,?_,?_,?_,?_⟩
 ·refine Iter.congr (fun j' hj'=>?_) (zjo b.ins S9 _ _ hq (his.le l9) (by omega) cells hcells)
  have:=hc8 j' hj'
  simp [z1g,RS.pack,RS.tags,List.take_of_length_le,this]
 ·rintro j' H' ⟨es,cl,s,v,S',l',hh,_⟩;exact PH.le_trans l' hh.sh
 ·exact ⟨es2,cl2,s2,.slice none 0 0,S9,PH.le_refl _,by simpa [backL] using h9,hs2,fun y=>by rw [Nat.sub_zero,List.drop_length];exact hm2 y⟩
 ·rintro j' H' hj' ⟨es,cl,s,v,S',l',hh,hs,hm⟩
  obtain ⟨y,hy⟩:∃y,b.ins[b.ins.length - 1 - j']?=some y:=⟨_,zge (by omega)⟩
  obtain ⟨hyc,_⟩:=hcells _ y hy
  have hyc':=hyc
  obtain ⟨av,dv,hcell,_,_,hya,_,_,_,hyd,_⟩:=ins_iff.1 hyc
  obtain ⟨ab,ac,rfl⟩:=hya.sl
  obtain ⟨db,dc,rfl⟩:=hyd.sl
  simp only [hcell]
  rw [hcell] at hyc'
  obtain ⟨vb,vc,rfl⟩:=(hh.row (zms)).sl
  have hml:∀z,z∈s↔z1z p z i (b.ins.length - j'):=fun z=>by rw [hm,Z4i hmem hb]
  have hreg:∀z∈s,z∈p.regl:=fun z hz=>z5g ((hml z).1 hz)
  have hbk:(backL p i b.ins.length j').length=j':=by simp [backL]
  refine ⟨rfl,?_⟩
  refine z0t [.slice vb (backL p i b.ins.length j').length vc] (off:=0) (by kernel_rfl) hh (zmm _ (zms)) rfl rfl ?_
  refine z0t [.map (some ro)] (off:=0) (by kernel_rfl) hh (zmm _ (zmm _ (zms))) rfl rfl ?_
  refine z0a z3f (zhu ro es cl s S' H' _ hh (.inr (by simp)) hs (fun z hz=>zn3 hbv0 z (hreg z hz)) (Nat.le_trans (zrm hp hs.nodup hreg) (by omega))) ?_
  rintro x K10 ⟨S10,wv,l10,rfl,hwv,h10⟩
  rw [zyc hs.nodup hml] at hwv
  obtain ⟨b3,c3,rfl⟩:=hwv.sl
  refine ⟨_,[.slice b3 (liveL p i (b.ins.length - j')).length c3],rfl,rfl,rfl,?_,?_⟩
  ·intro x hx
   rw [List.mem_singleton.1 hx]
   exact z1p h10 (zmm _ (zms)) 0 1
  have hst:backL p i b.ins.length (j'+1)=backL p i b.ins.length j'++[liveL p i (b.ins.length - j')]:=by unfold backL;rw [List.range_succ,List.map_append];rfl
  refine z1o (more:=[liveL p i (b.ins.length - j')]) (b:=24) [.slice b3 (liveL p i (b.ins.length - j')).length c3] Z03 zsm rfl (by decide) (by decide) h10 (by kernel_rfl) (.cons (zlr hwv) .nil) ?_ (fun _=>by kernel_rfl) (fun _=>by kernel_rfl)
   (by rw [hbk];simp only [maxLen,zlc,List.length_nil];omega) (by rw [hbk];simp only [zlc,List.length_nil];omega) fun u v' S11 K11 l11 h11=>⟨z06,?_⟩
  ·intro x hx
   rw [List.mem_singleton.1 hx]
   exact z1p h10 (zmm _ (zms)) 0 1
  rw [←hst] at h11
  obtain ⟨vb',vc',rfl⟩:=(h11.row (zms)).sl
  refine z0n (off:=0) (vs:=[.slice vb' (backL p i b.ins.length (j'+1)).length vc']) (by kernel_rfl) (h11.perm (List.Perm.swap _ _ _)) (by kernel_rfl) (by simp [oneC]) (by simp) fun K12 h12=>?_
  have h12:Held S11 K12 [bx ob 185 [.slice vb' (backL p i b.ins.length (j'+1)).length vc'],orow 29 (backL p i b.ins.length (j'+1)) (.slice vb' (backL p i b.ins.length (j'+1)).length vc'),bx sb 216 [.map (some ro)],.blk ro (.map es cl)]:=h12
  refine z0t [.map (some ro)] (off:=0) (by kernel_rfl) h12 (zmm _ (zmm _ (zms))) rfl rfl ?_
  have hperm:[bx ob 185 [.slice vb' (backL p i b.ins.length (j'+1)).length vc'],orow 29 (backL p i b.ins.length (j'+1)) (.slice vb' (backL p i b.ins.length (j'+1)).length vc'),bx sb 216 [.map (some ro)],.blk ro (.map es cl)].Perm ([.blk ro (.map es cl)]++[orow 29 (backL p i b.ins.length (j'+1)) (.slice vb' (backL p i b.ins.length (j'+1)).length vc'),bx ob 185 [.slice vb' (backL p i b.ins.length (j'+1)).length vc'],bx sb 216 [.map (some ro)]]):=by
   refine (List.Perm.swap _ _ _).trans ?_
   exact (List.perm_append_comm (l₁:=[orow 29 (backL p i b.ins.length (j'+1)) (.slice vb' (backL p i b.ins.length (j'+1)).length vc'),bx ob 185 [.slice vb' (backL p i b.ins.length (j'+1)).length vc'],bx sb 216 [.map (some ro)]]) (l₂:=[.blk ro (.map es cl)]))
  have lS:PH.le S' S11:=PH.le_trans l10 l11
  refine z0a zem (Held.call (P:=Tryz.prog) (f:=z9w) (args:=#[.map (some ro),.agg (List.toArray _)]) (J:=[.blk ro (.map es cl)]) (I:=[orow 29 (backL p i b.ins.length (j'+1)) (.slice vb' (backL p i b.ins.length (j'+1)).length vc'),bx ob 185 [.slice vb' (backL p i b.ins.length (j'+1)).length vc'],bx sb 216 [.map (some ro)]])
   (R:=fun e S'' J'=>S''=S11∧∃es' cl' s',e=.returned (.tuple #[])∧J'=[.blk ro (.map es' cl')]∧SetAt es' cl' s'∧∀z,z∈s'↔(z∈y.args∨(¬y.fills z∧z∈s))) (h12.perm hperm)
   (fun K' hK=>(zmo ro es cl s y _ S11 K' (PV.RepRow.le (PH.le_trans l' lS) hyc') hK hs).mono fun e K'' ⟨es',cl',s',t1,t2,t3,t4⟩=>⟨S11,_,PH.le_refl _,t2,rfl,es',cl',s',t1,rfl,t3,t4⟩)) ?_
  rintro e K'' ⟨S'',J',_,hh',rfl,es',cl',s',rfl,rfl,hs',hm'⟩
  refine ⟨_,[],rfl,rfl,rfl,z06,_,z05,es',cl',s',.slice vb' (backL p i b.ins.length (j'+1)).length vc',S'',PH.le_trans l' lS,hh'.perm ?_,hs',fun z=>?_⟩
  ·exact List.perm_append_comm (l₁:=[.blk ro (.map es' cl')]) (l₂:=[orow 29 (backL p i b.ins.length (j'+1)) (.slice vb' (backL p i b.ins.length (j'+1)).length vc'),bx ob 185 [.slice vb' (backL p i b.ins.length (j'+1)).length vc'],bx sb 216 [.map (some ro)]])
  ·rw [hm',hm,zt0 hj' hy]
 ·rintro H' ⟨es,cl,s,v,S',l',hh,hs,hm⟩
  obtain ⟨vb,vc,rfl⟩:=(hh.row (zms)).sl
  have hbk:(backL p i b.ins.length b.ins.length).length=b.ins.length:=by simp [backL]
  refine z0t [.slice vb (backL p i b.ins.length b.ins.length).length vc] (off:=0) (by kernel_rfl) hh (zmm _ (zms)) rfl rfl ?_
  refine z0a z76 (zzk _ _ S' H' _ hh (by rw [hbk];omega)) ?_
  rintro x K13 ⟨rfl,h13⟩
  refine ⟨_,[],rfl,rfl,rfl,z06,?_⟩
  refine z0t [.slice vb (backL p i b.ins.length b.ins.length).length vc] (off:=0) (by kernel_rfl) h13 (zmm _ (zms)) rfl rfl ?_
  rw [Z48] at h13
  obtain ⟨S14,s14,l14,h14⟩:=h13.freeze
  exact ⟨PH.le_trans lf (PH.le_trans l2 (PH.le_trans l9 (PH.le_trans l' (PH.le_trans l14 h14.sh)))),_,rfl,s14.le h14.sh⟩
structure FX where
 rg:Nat
 rf:Nat
 p:PrcX
 place:List Int
 slots:Int
 labs:List Int
 ents:List Int
 syms:List (List UInt8)
 stack:Int
 bv:Value
 pv:Value
 lv:Value
 ev:Value
 sv:Value
abbrev FX.rest (x:FX) (next:Int):List Value:=[x.sv,x.ev,.int .i64 next,.int .i64 x.stack]
abbrev FX.cells (x:FX) (pushed:Int):List Value:=[pAt x.rg,.int .i64 x.p.params,.int .i64 x.p.holds,.int .i64 x.p.regs,x.bv,x.pv,.int .i64 x.slots,x.lv,.int .i64 pushed]
structure FOk (S:PH) (x:FX):Prop where
 bl:SlR S x.p.blocks x.bv
 pl:SlR S x.place x.pv
 la:SlR S x.labs x.lv
 en:SlR S x.ents x.ev
 sy:SlR S x.syms x.sv
 ply:∀a∈x.place,0≤a∧a≤3000
 sl:0≤x.slots∧x.slots≤3000
 st:0≤x.stack∧x.stack≤131072
def FX.at_ (x:FX) (r:Int):Int:=x.place.getD r.toNat 0
def FX.col (x:FX) (r:Int):Bool:=decide (x.at_ r < 24)
def FX.reg (x:FX) (r:Int):Int:=1+x.at_ r
def FX.slot (x:FX) (pu r:Int):Int:=x.at_ r - 24 - x.slots - pu
structure GnH (S0 K:PH) (x:FX) (pu nx:Int) (l:List ItemR) (k:Nat) (J:List Itm):Prop where
 em:EmH S0 K x.rg 100 (x.rest nx) l k (bx x.rf 142 (x.cells pu)::J)
 n0:0≤nx
 nk:nx+k≤2199023255552
abbrev GnV (v:Value) (S0:PH) (x:FX) (pu nx:Int) (l:List ItemR) (k:Nat) (J:List Itm):Ending→PH→Prop:=fun e K'=>e=.returned v∧GnH S0 K' x pu nx l k J
abbrev GnQ (S0:PH) (x:FX) (pu nx:Int) (l:List ItemR) (k:Nat) (J:List Itm):Ending→PH→Prop:=GnV (.tuple #[]) S0 x pu nx l k J
section
variable {S0 K:PH} {x:FX} {pu nx:Int} {l l':List ItemR} {k k':Nat} {J:List Itm}
theorem GnH.sh (h:GnH S0 K x pu nx l k J):PH.le S0 K:=h.em.sh
theorem GnH.le {K':PH} (h:GnH S0 K x pu nx l k J) (hl:PH.le K K'):GnH S0 K' x pu nx l k J:=⟨h.em.le hl,h.n0,h.nk⟩
theorem GnH.less (h:GnH S0 K x pu nx l k J) (hk:k'≤k):GnH S0 K x pu nx l k' J:=⟨h.em.re (by have:=h.em.1;omega),h.n0,by have:=h.nk;omega⟩
theorem GnH.to (h:GnH S0 K x pu nx l k J) {g:FuncId} {args:Array Value} (t:EmH S0 K x.rg 100 (x.rest nx) l k (bx x.rf 142 (x.cells pu)::J)→Tri Tryz.prog g args K (EmQ S0 x.rg 100 (x.rest nx) l' k' (bx x.rf 142 (x.cells pu)::J))) (hk:k'≤k:=by omega):Tri Tryz.prog g args K (GnQ S0 x pu nx l' k' J):=
 (t h.em).mono fun e K' ⟨h1,h2⟩=>⟨h1,h2,h.n0,by have:=h.nk;omega⟩
theorem GnH.frow (h:GnH S0 K x pu nx l k J) (off n:Nat):rowAt K (some ⟨x.rf,off,none⟩) (((x.cells pu).drop off).take n):=by
 obtain ⟨_,S,iv,_,hh⟩:=h.em
 exact z1p (T:=142) (cs:=x.cells pu) hh (zmm _ (zmm _ (zms))) off n
theorem GnH.grow (h:GnH S0 K x pu nx l k J) (off n:Nat):rowAt K (some ⟨x.rg,off+1,none⟩) (((x.rest nx).drop off).take n):=by
 obtain ⟨_,S,iv,_,hh⟩:=h.em
 have:=z1p hh (zms) (off+1) n
 rwa [List.drop_succ_cons] at this
theorem z29 {P:Program} {X:List PanicEntry→PH→Prop} {β:Type} {E:List Value} {L:LK} {Q:β→List Value→PH→LK→Prop} {H:PH} {f:FuncId} {args:List VE} {g:Fm β} (hok:callB P f=true)
  (hc:Tri P f (args.map (evV E fun _=>0)).toArray H (GnQ S0 x pu nx l k J)) (hk:∀K',GnH S0 K' x pu nx l k J→den P X g E K' L Q):den P X (.call (.fn f) args (.tu []) [] g) E H L Q:=by
 refine z0a hok hc ?_
 rintro e K' ⟨rfl,h⟩
 exact ⟨_,[],rfl,rfl,rfl,z06,by rw [List.append_nil];exact hk K' h⟩
theorem Z7i {P:Program} {X:List PanicEntry→PH→Prop} {β:Type} {E:List Value} {L:LK} {Q:β→List Value→PH→LK→Prop} {H:PH} {f:FuncId} {args:List VE} {g:Fm β} {pend:List (SV×List SV)} {n:Int} (hok:callB P f=true)
  (hc:Tri P f (args.map (evV E fun _=>0)).toArray H (GnV (.int .i64 n) S0 x pu nx l k J)) (hp:∀K',GnH S0 K' x pu nx l k J→z0s E K' pend) (hk:∀K',GnH S0 K' x pu nx l k J→den P X g (E++[.int .i64 n]) K' L Q):den P X (.call (.fn f) args (.sc (.int .i64)) pend g) E H L Q:=by
 refine z0a hok hc ?_
 rintro e K' ⟨rfl,h⟩
 exact ⟨_,[.int .i64 n],rfl,rfl,rfl,hp K' h,hk K' h⟩
def FX.has (x:FX) (r:Int):Prop:=0≤r∧r < x.place.length
theorem FX.at_get (r:Int) (hr:x.has r):∃n:Nat,r=(n:Int)∧x.place[n]?=some (x.at_ r):=by
 obtain ⟨h1,h2⟩:=hr
 refine ⟨r.toNat,by omega,?_⟩
 unfold FX.at_
 rw [zgd,zge (show r.toNat < x.place.length by omega)];rfl
theorem FX.at_le {S:PH} (hx:FOk S x) (r:Int) (hr:x.has r):0≤x.at_ r∧x.at_ r≤3000:=by
 obtain ⟨n,_,h⟩:=FX.at_get r hr
 exact hx.ply _ (List.mem_of_getElem? h)
theorem zic (hx:FOk S0 x) (h:GnH S0 K x pu nx l k J) (r:Int) (hr:x.has r):x.pv=.slice (z04 x.pv) x.place.length (slCap x.pv)∧(z04 x.pv).isSome=true∧rowAt K (pOf (eltV x.pv r 1)) [.int .i64 (x.at_ r)]:=by
 obtain ⟨b,c,hv⟩:=hx.pl.sl
 obtain ⟨n,rfl,hg⟩:=FX.at_get r hr
 obtain ⟨z1,_,cs,z2,z3⟩:=(hx.pl.le h.sh).get hg
 obtain ⟨rfl,_⟩:=csIK z2
 refine ⟨by rw [hv];simp [z04,slCap],z1,z3⟩
theorem zh0 (hx:FOk S0 x) (h:GnH S0 K x pu nx l k J) (r:Int) (hr:x.has r):Gives Tryz.prog zd1 [pAt x.rf,.int .i64 r] K (.bool (x.col r)):=by
 obtain ⟨z0,z1,z3⟩:=zic hx h r hr
 refine zaw [pAt x.rf,.int .i64 r] (by kernel_rfl) (by kernel_rfl) ?_
 refine ⟨fun _=>rfl,[x.pv],by rw [z0];rfl,h.frow 5 1,fun _=>?_,[.int .i64 (x.at_ r)],rfl,z3,rfl,PH.le_refl _⟩
 simp only [Chk.holds,ev0,ev,evV,List.cons_append,List.nil_append,List.getD_cons_zero,List.getD_cons_succ,List.map_cons,List.map_nil,iOf,bOf,sOf,pOf,slLen,z04,cmpI,arI,Value.ite_bool,z03,z02,z00,z01]
 have h2:=hr.2
 rw [z0]
 exact ⟨z1,hr.1,by show r < (x.place.length:Int);exact h2⟩
theorem zsx (hx:FOk S0 x) (h:GnH S0 K x pu nx l k J) (r:Int) (hr:x.has r):Gives Tryz.prog zjw [pAt x.rf,.int .i64 r] K (.int .i64 (x.reg r)):=by
 obtain ⟨z0,z1,z3⟩:=zic hx h r hr
 obtain ⟨q1,q2⟩:=FX.at_le hx r hr
 refine zgj [pAt x.rf,.int .i64 r] (by kernel_rfl) (by kernel_rfl) ?_
 refine ⟨fun _=>rfl,[x.pv],by rw [z0];rfl,h.frow 5 1,fun _=>?_,[.int .i64 (x.at_ r)],rfl,z3,?_,PH.le_refl _⟩
 ·simp only [Chk.holds,ev0,ev,evV,List.cons_append,List.nil_append,List.getD_cons_zero,List.getD_cons_succ,List.map_cons,List.map_nil,iOf,bOf,sOf,pOf,slLen,z04,cmpI,arI,Value.ite_bool,z03,z02,z00,z01]
  have h2:=hr.2
  rw [z0]
  exact ⟨z1,hr.1,by show r < (x.place.length:Int);exact h2⟩
 ·show Ending.returned (.int .i64 (IntKind.i64.wrap (1+x.at_ r)))=_
  rw [w64 (by omega) (by omega)];rfl
theorem zon (hx:FOk S0 x) (h:GnH S0 K x pu nx l k J) (r:Int) (hr:x.has r) (hp:0≤pu∧pu≤100000):Gives Tryz.prog zi1 [pAt x.rf,.int .i64 r] K (.int .i64 (x.slot pu r)):=by
 obtain ⟨z0,z1,z3⟩:=zic hx h r hr
 obtain ⟨q1,q2⟩:=FX.at_le hx r hr
 obtain ⟨s1,s2⟩:=hx.sl
 refine zfc [pAt x.rf,.int .i64 r] (by kernel_rfl) (by kernel_rfl) ?_
 refine ⟨fun _=>rfl,[x.pv],by rw [z0];rfl,h.frow 5 1,fun _=>?_,[.int .i64 (x.at_ r)],rfl,z3,[.int .i64 x.slots],rfl,h.frow 6 1,[.int .i64 pu],rfl,h.frow 8 1,?_,PH.le_refl _⟩
 ·simp only [Chk.holds,ev0,ev,evV,List.cons_append,List.nil_append,List.getD_cons_zero,List.getD_cons_succ,List.map_cons,List.map_nil,iOf,bOf,sOf,pOf,slLen,z04,cmpI,arI,Value.ite_bool,z03,z02,z00,z01]
  have h2:=hr.2
  rw [z0]
  exact ⟨z1,hr.1,by show r < (x.place.length:Int);exact h2⟩
 ·show Ending.returned (.int .i64 (IntKind.i64.wrap (IntKind.i64.wrap (IntKind.i64.wrap (x.at_ r - 24) - x.slots) - pu)))=_
  rw [w64 (n:=x.at_ r - 24) (by omega) (by omega),w64 (n:=x.at_ r - 24 - x.slots) (by omega) (by omega),w64 (by omega) (by omega)];rfl
theorem Z41 (hx:FOk S0 x) (r:Int) (hr:x.has r):InI (x.reg r):=by
 obtain ⟨q1,q2⟩:=FX.at_le hx r hr
 exact inJ (by unfold FX.reg;omega) (by unfold FX.reg;omega)
theorem zzy (hx:FOk S0 x) (r:Int) (hr:x.has r) (hp:0≤pu∧pu≤100000):InI (x.slot pu r):=by
 obtain ⟨q1,q2⟩:=FX.at_le hx r hr
 obtain ⟨s1,s2⟩:=hx.sl
 exact inJ (by unfold FX.slot;omega) (by unfold FX.slot;omega)
def FX.get (x:FX) (r spare:Int):Int:=if x.col r=true then x.reg r else spare
def FX.getL (x:FX) (pu r spare:Int):List ItemR:=if x.col r=true then [] else [⟨0,⟨22,spare,30,0,x.slot pu r⟩,0,0⟩]
def FX.numL (x:FX) (pu r w:Int):List ItemR:=if x.col r=true then [⟨4,⟨20,x.reg r,0,0,0⟩,0,w⟩] else [⟨4,⟨20,26,0,0,0⟩,0,w⟩,⟨0,⟨23,26,30,0,x.slot pu r⟩,0,0⟩]
theorem Z8y (hx:FOk S0 x) (r spare:Int) (hr:x.has r) (hs:InI spare):InI (x.get r spare):=by
 unfold FX.get;split
 ·exact Z41 hx r hr
 ·exact hs
theorem Z9c (hx:FOk S0 x) (hp:0≤pu∧pu≤100000) (r spare:Int) (hr:x.has r) (hs:InI spare) (h:GnH S0 K x pu nx l (k+1) J):Tri Tryz.prog zk2 #[pAt x.rf,.int .i64 r,.int .i64 spare] K (GnV (.int .i64 (x.get r spare)) S0 x pu nx (l++x.getL pu r spare) k J):=by
 refine zh7 [pAt x.rf,.int .i64 r,.int .i64 spare] (by kernel_rfl) (by kernel_rfl) ?_
 refine z0b [.bool (x.col r)] z4y (zh0 hx h r hr) rfl z06 fun K1 l1=>?_
 have h1:=h.le l1
 simp only [List.cons_append,List.nil_append]
 refine ⟨fun g=>?_,fun g=>?_⟩
 ·simp only [ev0,ev,evV,List.cons_append,List.nil_append,List.getD_cons_zero,List.getD_cons_succ,List.map_cons,List.map_nil,iOf,bOf,sOf,pOf,slLen,z04,cmpI,arI,Value.ite_bool,z03,z02,z00,z01] at g
  refine z0b [.int .i64 (x.reg r)] z8i (zsx hx h1 r hr) rfl z06 fun K2 l2=>?_
  refine ⟨by unfold FX.get;rw [if_pos g];rfl,?_⟩
  unfold FX.getL;rw [if_pos g,List.append_nil]
  exact (h1.le l2).less (by omega)
 ·simp only [ev0,ev,evV,List.cons_append,List.nil_append,List.getD_cons_zero,List.getD_cons_succ,List.map_cons,List.map_nil,iOf,bOf,sOf,pOf,slLen,z04,cmpI,arI,Value.ite_bool,z03,z02,z00,z01] at g
  refine ⟨fun _=>rfl,[pAt x.rg],rfl,h1.frow 0 1,fun _=>rfl,?_⟩
  simp only [List.cons_append,List.nil_append]
  refine z0b [.int .i64 (x.slot pu r)] z85 (zon hx h1 r hr hp) rfl (z2t (h1.frow 0 1) z06) fun K2 l2=>?_
  have h2:=h1.le l2
  simp only [List.cons_append,List.nil_append]
  refine z29 z0f (h2.to (z1c spare 30 (x.slot pu r) hs (by decide) (zzy hx r hr hp))) fun K3 h3=>?_
  refine ⟨by unfold FX.get;rw [if_neg (by rw [g];simp)];rfl,?_⟩
  unfold FX.getL;rw [if_neg (by rw [g];simp)]
  exact h3
theorem Z5f (hx:FOk S0 x) (hp:0≤pu∧pu≤100000) (r w:Int) (hr:x.has r) (hs:InI w) (h:GnH S0 K x pu nx l (k+2) J):Tri Tryz.prog zf0 #[pAt x.rf,.int .i64 r,.int .i64 w] K (GnQ S0 x pu nx (l++x.numL pu r w) k J):=by
 refine zd9 [pAt x.rf,.int .i64 r,.int .i64 w] (by kernel_rfl) (by kernel_rfl) ?_
 refine z0b [.bool (x.col r)] z4y (zh0 hx h r hr) rfl z06 fun K1 l1=>?_
 have h1:=h.le l1
 simp only [List.cons_append,List.nil_append]
 refine ⟨fun g=>?_,fun g=>?_⟩
 ·simp only [ev0,ev,evV,List.cons_append,List.nil_append,List.getD_cons_zero,List.getD_cons_succ,List.map_cons,List.map_nil,iOf,bOf,sOf,pOf,slLen,z04,cmpI,arI,Value.ite_bool,z03,z02,z00,z01] at g
  refine ⟨fun _=>rfl,[pAt x.rg],rfl,h1.frow 0 1,fun _=>rfl,?_⟩
  simp only [List.cons_append,List.nil_append]
  refine z0b [.int .i64 (x.reg r)] z8i (zsx hx h1 r hr) rfl (z2t (h1.frow 0 1) z06) fun K2 l2=>?_
  have h2:=h1.le l2
  simp only [List.cons_append,List.nil_append]
  refine z29 z0d (h2.to (z0w (x.reg r) w (Z41 hx r hr) hs)) fun K3 h3=>?_
  refine ⟨rfl,?_⟩
  unfold FX.numL;rw [if_pos g]
  exact h3.less (by omega)
 ·simp only [ev0,ev,evV,List.cons_append,List.nil_append,List.getD_cons_zero,List.getD_cons_succ,List.map_cons,List.map_nil,iOf,bOf,sOf,pOf,slLen,z04,cmpI,arI,Value.ite_bool,z03,z02,z00,z01] at g
  refine ⟨fun _=>rfl,[pAt x.rg],rfl,h1.frow 0 1,fun _=>rfl,?_⟩
  simp only [List.cons_append,List.nil_append]
  refine z29 z0d (h1.to (z0w 26 w (by decide) hs)) fun K2 h2=>?_
  refine ⟨[pAt x.rg],rfl,h2.frow 0 1,fun _=>rfl,?_⟩
  simp only [List.cons_append,List.nil_append]
  refine z0b [.int .i64 (x.slot pu r)] z85 (zon hx h2 r hr hp) rfl (z2t (h2.frow 0 1) z06) fun K3 l3=>?_
  have h3:=h2.le l3
  simp only [List.cons_append,List.nil_append]
  refine z29 z0e (h3.to (z10 26 30 (x.slot pu r) (by decide) (by decide) (zzy hx r hr hp))) fun K4 h4=>?_
  refine ⟨rfl,?_⟩
  unfold FX.numL;rw [if_neg (by rw [g];simp)]
  simpa only [List.append_assoc,List.cons_append,List.nil_append] using h4
def growL (n:Int):List ItemR:=if n=0 then [] else [⟨0,⟨15,30,30,0,n⟩,0,0⟩]
theorem Z7n (n:Int) (hn:InI n) (h:GnH S0 K x pu nx l (k+1) J):Tri Tryz.prog z8p #[pAt x.rf,.int .i64 n] K (GnQ S0 x pu nx (l++growL n) k J):=by
 refine z6d [pAt x.rf,.int .i64 n] (by kernel_rfl) (by kernel_rfl) ?_
 refine ⟨fun g=>?_,fun g=>?_⟩
 ·simp only [ev0,ev,evV,List.cons_append,List.nil_append,List.getD_cons_zero,List.getD_cons_succ,List.map_cons,List.map_nil,iOf,bOf,sOf,pOf,slLen,z04,cmpI,arI,Value.ite_bool,z03,z02,z00,z01,zdt] at g
  refine ⟨fun _=>rfl,[pAt x.rg],rfl,h.frow 0 1,fun _=>rfl,?_⟩
  simp only [List.cons_append,List.nil_append]
  refine z29 z08 (h.to (z0j 15 30 30 n (by decide) (by decide) (by decide) hn)) fun K2 h2=>?_
  refine ⟨rfl,?_⟩
  unfold growL;rw [if_neg g];exact h2
 ·simp only [ev0,ev,evV,List.cons_append,List.nil_append,List.getD_cons_zero,List.getD_cons_succ,List.map_cons,List.map_nil,iOf,bOf,sOf,pOf,slLen,z04,cmpI,arI,Value.ite_bool,z03,z02,z00,z01,zdf] at g
  refine ⟨rfl,?_⟩
  unfold growL;rw [if_pos (by simpa using g),List.append_nil];exact h.less (by omega)
end
instance decFills (x:InsX) (r:Int):Decidable (x.fills r):=by unfold InsX.fills;exact inferInstance
theorem z17 {n m:Nat} {J J':List Value→PH→Prop} {L:LK} (h:(n == m)=false) (hl:L.lookup n=some J):((m,J')::L).lookup n=some J:=by simp [List.lookup,h,hl]
theorem Z89 {p:PrcX} {i:Nat} (hi:i < p.blocks.length):(inL p)[i]?=some (liveL p i 0):=by
 unfold inL
 rw [List.getElem?_map,List.getElem?_range hi];rfl
theorem zvs {p:PrcX} {i k:Nat} {b:BlkX} (hk:k < b.ins.length):(behL p i b)[k]?=some (liveL p i (k+1)):=by
 unfold behL
 rw [List.getElem?_map,List.getElem?_range hk];rfl
theorem Z6d (p:PrcX) (i:Nat) (b:BlkX):(behL p i b).length=b.ins.length:=by simp [behL]
theorem Z0g (l:List UInt8):cmpS .eql ⟨l.toArray⟩ ⟨#[116,105,101]⟩=decide (l=tieB):=by
 show ((⟨l.toArray⟩:ByteArray).toList == (⟨tieB.toArray⟩:ByteArray).toList)=_
 rw [zlg]
theorem InI0:InI 0:=by decide
structure VX where
 kind:Int
 int:Int
 text:List UInt8
deriving DecidableEq,Inhabited
structure TX where
 kind:Int
 parts:List VX
deriving DecidableEq,Inhabited
abbrev HX:=List TX
def VX.pv (v:VX):List PV:=[.int .i64 v.kind,.int .i64 v.int,.str v.text]
instance encVal:Enc VX:=⟨VX.pv,3,fun _=>rfl⟩
structure TR where
 kind:Int
 b:Option Addr
 n:Nat
 c:Nat
def TR.sl (t:TR):Value:=.slice t.b t.n t.c
def TR.pv (t:TR):List PV:=[.int .i64 t.kind,.own t.b t.n t.c]
instance encThing:Enc TR:=⟨TR.pv,2,fun _=>rfl⟩
def isNum (n:Int):Bool:=decide (-1152921504606846976≤n∧n≤1152921504606846975)
def mayV (n:Nat) (v:VX):Bool:=
 if v.kind≠3∧v.text≠[] then false
 else if v.kind=0 then decide (v.int=0∨v.int=1)
 else if v.kind=1 then isNum v.int
 else if v.kind=2 then decide (0≤v.int∧v.int≤255)
 else if v.kind=3 then decide (v.int=0) && z6w v.text
 else if v.kind=4∨v.kind=5∨v.kind=6∨v.kind=7 then decide (v.int=0)
 else if v.kind=8 then decide (0≤v.int∧v.int < (n:Int))
 else false
def z4p (b:Bool):VX:=⟨0,if b then 1 else 0,[]⟩
def vNum (n:Int):VX:=⟨1,n,[]⟩
def vVoid:VX:=⟨5,0,[]⟩
def addX (h:HX) (kind:Int) (parts:List VX):HX×VX:=(h++[⟨kind,parts⟩],⟨8,h.length,[]⟩)
def zl2 (h:HX) (v:VX):Int:=if v.kind≠8 then -1 else (h.getD v.int.toNat default).kind
def Z8f (op:Nat) (x y:Int):VX×Int:=
 let told (n:Int):VX×Int:=if isNum n then (vNum n,0) else (⟨0,0,[]⟩,1)
 match op with
 | 0=>told (x+y)
 | 1=>told (x - y)
 | 2=>told (x * y)
 | 3=>if y=0 then (⟨0,0,[]⟩,2) else told (x.tdiv y)
 | _=>if y=0 then (⟨0,0,[]⟩,2) else told (x.tmod y)
def rowsX:List (List UInt8×List Int):=[([43],[1,1]),
 ([45],[1,1]),
 ([42],[1,1]),
 ([113,117,111,116,105,101,110,116],[1,1]),
 ([114,101,109,97,105,110,100,101,114],[1,1]),
 ([60],[1,1]),
 ([61],[1,1]),
 ([101,113,63],[-1,-1]),
 ([110,117,108,108,63],[-1]),
 ([115,121,109,98,111,108,63],[-1]),
 ([99,104,97,114,63],[-1]),
 ([105,110,116,101,103,101,114,63],[-1]),
 ([98,111,111,108,101,97,110,63],[-1]),
 ([101,111,102,45,111,98,106,101,99,116,63],[-1]),
 ([112,97,105,114,63],[-1]),
 ([118,101,99,116,111,114,63],[-1]),
 ([115,116,114,105,110,103,63],[-1]),
 ([112,114,111,99,101,100,117,114,101,63],[-1]),
 ([99,111,110,115],[-1,-1]),
 ([99,97,114],[10]),
 ([99,100,114],[10]),
 ([115,101,116,45,99,97,114,33],[10,-1]),
 ([115,101,116,45,99,100,114,33],[10,-1]),
 ([109,97,107,101,45,118,101,99,116,111,114],[1,-1]),
 ([109,97,107,101,45,115,116,114,105,110,103],[1,2]),
 ([118,101,99,116,111,114,45,108,101,110,103,116,104],[11]),
 ([115,116,114,105,110,103,45,108,101,110,103,116,104],[12]),
 ([118,101,99,116,111,114,45,114,101,102],[11,1]),
 ([115,116,114,105,110,103,45,114,101,102],[12,1]),
 ([118,101,99,116,111,114,45,115,101,116,33],[11,1,-1]),
 ([115,116,114,105,110,103,45,115,101,116,33],[12,1,2]),
 ([99,104,97,114,45,62,105,110,116,101,103,101,114],[2]),
 ([105,110,116,101,103,101,114,45,62,99,104,97,114],[1]),
 ([37,98,111,120],[-1]),
 ([37,117,110,98,111,120],[13]),
 ([37,115,101,116,45,98,111,120,33],[13,-1]),
 ([118,111,105,100],[]),
 ([37,117,110,115,101,116],[])]
def kOk (h:HX) (k:Int) (v:VX):Bool:=if 10≤k then decide (zl2 h v=k - 10) else if 0≤k then decide (v.kind=k) else true
def vNone:VX:=⟨0,0,[]⟩
def getX (h:HX) (v:VX) (i:Int):VX×Int:=
 let l:=(h.getD v.int.toNat default).parts
 if i < 0∨(l.length:Int)≤i then (vNone,83) else (l.getD i.toNat default,0)
def putX (h:HX) (v:VX) (i:Int) (x:VX):HX×VX×Int:=
 let t:=h.getD v.int.toNat default
 if i < 0∨(t.parts.length:Int)≤i then (h,vNone,83) else (h.set v.int.toNat ⟨t.kind,t.parts.set i.toNat x⟩,vVoid,0)
def Z05 (h:HX) (kind n:Int) (v:VX):HX×VX×Int:=
 if n < 0∨1000 < n then (h,vNone,83) else ((addX h kind (List.replicate n.toNat v)).1,(addX h kind (List.replicate n.toNat v)).2,0)
def za9 (h:HX) (op:Nat) (a b:VX):HX×VX×Int:=
 let r:=Z8f op a.int b.int
 if r.2=1 then (h,vNone,81) else if r.2=2 then (h,vNone,82) else (h,r.1,0)
def actX (h:HX) (s:List UInt8) (args:List VX):HX×VX×Int:=
 let a:=args.getD 0 vNone
 let b:=args.getD 1 vNone
 let c:=args.getD 2 vNone
 let told (v:VX):HX×VX×Int:=(h,v,0)
 if s=[43] then za9 h 0 a b
 else if s=[45] then za9 h 1 a b
 else if s=[42] then za9 h 2 a b
 else if s=[113,117,111,116,105,101,110,116] then za9 h 3 a b
 else if s=[114,101,109,97,105,110,100,101,114] then za9 h 4 a b
 else if s=[60] then told (z4p (decide (a.int < b.int)))
 else if s=[61]∨s=[101,113,63] then told (z4p (decide (a=b)))
 else if s=[110,117,108,108,63] then told (z4p (decide (a.kind=4)))
 else if s=[115,121,109,98,111,108,63] then told (z4p (decide (a.kind=3)))
 else if s=[99,104,97,114,63] then told (z4p (decide (a.kind=2)))
 else if s=[105,110,116,101,103,101,114,63] then told (z4p (decide (a.kind=1)))
 else if s=[98,111,111,108,101,97,110,63] then told (z4p (decide (a.kind=0)))
 else if s=[101,111,102,45,111,98,106,101,99,116,63] then told (z4p (decide (a.kind=6)))
 else if s=[112,97,105,114,63] then told (z4p (decide (zl2 h a=0)))
 else if s=[118,101,99,116,111,114,63] then told (z4p (decide (zl2 h a=1)))
 else if s=[115,116,114,105,110,103,63] then told (z4p (decide (zl2 h a=2)))
 else if s=[112,114,111,99,101,100,117,114,101,63] then told (z4p (decide (zl2 h a=4)))
 else if s=[99,111,110,115] then ((addX h 0 args).1,(addX h 0 args).2,0)
 else if s=[37,98,111,120] then ((addX h 3 args).1,(addX h 3 args).2,0)
 else if s=[109,97,107,101,45,118,101,99,116,111,114] then Z05 h 1 a.int b
 else if s=[109,97,107,101,45,115,116,114,105,110,103] then Z05 h 2 a.int b
 else if s=[118,101,99,116,111,114,45,108,101,110,103,116,104]∨s=[115,116,114,105,110,103,45,108,101,110,103,116,104] then told (vNum (h.getD a.int.toNat default).parts.length)
 else if s=[99,97,114]∨s=[37,117,110,98,111,120] then (h,getX h a 0)
 else if s=[99,100,114] then (h,getX h a 1)
 else if s=[118,101,99,116,111,114,45,114,101,102]∨s=[115,116,114,105,110,103,45,114,101,102] then (h,getX h a b.int)
 else if s=[115,101,116,45,99,97,114,33]∨s=[37,115,101,116,45,98,111,120,33] then putX h a 0 b
 else if s=[115,101,116,45,99,100,114,33] then putX h a 1 b
 else if s=[118,101,99,116,111,114,45,115,101,116,33]∨s=[115,116,114,105,110,103,45,115,101,116,33] then putX h a b.int c
 else if s=[99,104,97,114,45,62,105,110,116,101,103,101,114] then told (vNum a.int)
 else if s=[105,110,116,101,103,101,114,45,62,99,104,97,114] then if a.int < 0∨255 < a.int then (h,vNone,83) else told ⟨2,a.int,[]⟩
 else if s=[37,117,110,115,101,116] then told ⟨7,0,[]⟩
 else told vVoid
def doX (h:HX) (s:List UInt8) (args:List VX):HX×VX×Int:=
 match rowsX.find? fun r=>decide (r.1=s) with
 | none=>(h,vNone,1)
 | some r=>
  if r.2.length≠args.length then (h,vNone,1)
  else if !args.all (mayV h.length) then (h,vNone,1)
  else if !((r.2.zip args).all fun x=>kOk h x.1 x.2) then (h,vNone,80)
  else actX h s args
structure HeapOk (h:HX):Prop where
 may:∀t∈h,∀v∈t.parts,mayV h.length v=true
 kinds:∀t∈h,0≤t.kind∧t.kind≤4
 pair:∀t∈h,t.kind=0→t.parts.length=2
 box:∀t∈h,t.kind=3→t.parts.length=1
 str:∀t∈h,t.kind=2→∀v∈t.parts,v.kind=2
 few:∀t∈h,(t.parts.length:Int)≤1000
structure ActX where
 proc:Int
 regs:List VX
 clo:Int
 block:Int
 at_:Int
 to:Int
deriving DecidableEq,Inhabited
structure CloX where
 thing:Int
 proc:Int
 held:List VX
 kont:Bool
 acts:List ActX
deriving DecidableEq,Inhabited
structure MX where
 h:HX
 clos:List CloX
 acts:List ActX
 input:List UInt8
 out:List UInt8
 winders:VX
 told:VX
 done:Bool
 e:Int
deriving DecidableEq,Inhabited
abbrev CodeX:=List PrcX
def MX.find (m:MX) (v:VX):Option Nat:=m.clos.findIdx? fun c=>decide (v.kind=8) && decide (c.thing=v.int)
def MX.made (m:MX) (c:CloX):MX×VX:=
 let r:=addX m.h 4 []
 ({ m with h:=r.1,clos:=m.clos++[{ c with thing:=r.2.int }] },r.2)
def MX.tell (m:MX) (v:VX):MX:=
 match m.acts.getLast? with
 | none=>{ m with told:=v,done:=true }
 | some a=>{ m with acts:=m.acts.dropLast++[{ a with regs:=a.regs.set a.to.toNat v }] }
def Z94 (p:PrcX) (proc:Int) (k:Nat) (args:List VX):ActX:=
 ⟨proc,(List.range p.regs.toNat).map fun i=>args.getD i ⟨7,0,[]⟩,(k:Int),0,0,0⟩
def prcAt (c:CodeX) (i:Int):PrcX:=c.getD i.toNat ⟨0,0,0,[]⟩
def MX.call (c:CodeX) (m:MX) (v:VX) (args:List VX) (behind:Bool):MX:=
 match m.find v with
 | none=>{ m with e:=90 }
 | some k=>
  let cl:=m.clos.getD k default
  if cl.kont then
   match args with
   | [x]=>({ m with acts:=cl.acts }:MX).tell x
   | _=>{ m with e:=91 }
  else
   let p:=prcAt c cl.proc
   if (args.length:Int)≠p.params then { m with e:=91 }
   else { m with acts:=(if behind then m.acts else m.acts.dropLast)++[Z94 p cl.proc k args] }
def MX.prim (m:MX) (s:List UInt8) (args:List VX):MX×VX:=
 if s=[114,101,97,100,45,117,56] then
  match m.input with
  | []=>(m,⟨6,0,[]⟩)
  | b::l=>({ m with input:=l },⟨1,b.toNat,[]⟩)
 else if s=[119,114,105,116,101,45,117,56] then
  let a:=args.getD 0 vNone
  if a.kind≠1 then ({ m with e:=80 },vVoid)
  else if a.int < 0∨255 < a.int then ({ m with e:=83 },vVoid)
  else ({ m with out:=m.out++[UInt8.ofNat a.int.toNat] },vVoid)
 else if s=[101,114,114,111,114] then ({ m with e:=92 },vVoid)
 else if s=[37,119,105,110,100,101,114,115] then (m,m.winders)
 else if s=[37,119,105,110,100,33] then ({ m with winders:=args.getD 0 vNone },vVoid)
 else
  let r:=doX m.h s args
  ({ m with h:=r.1,e:=r.2.2 },r.2.1)
def MX.last (m:MX) (f:ActX→ActX):MX:=match m.acts.getLast? with
 | none=>m
 | some a=>{ m with acts:=m.acts.dropLast++[f a] }
def regAt (a:ActX) (r:Int):VX:=a.regs.getD r.toNat vNone
def MX.put (m:MX) (r:Int) (v:VX):MX:=m.last fun a=>{ a with regs:=a.regs.set r.toNat v }
def MX.ins (K:Dat→VX) (m:MX) (x:InsX):MX:=
 let a:=m.acts.getLast?.getD default
 let args:=x.args.map (regAt a)
 let told (r:MX×VX):MX:=if r.1.e=0 then r.1.put x.to r.2 else r.1
 if x.op=[99,111,110,115,116] then told (m,K x.const)
 else if x.op=[109,111,118,101] then told (m,args.getD 0 vNone)
 else if x.op=[104,101,108,100] then told (m,(m.clos.getD a.clo.toNat default).held.getD x.num.toNat vNone)
 else if x.op=[99,108,111,115,117,114,101] then told (m.made ⟨0,x.num,args,false,[]⟩)
 else if x.op=tieB then
  match m.find (args.getD 0 vNone) with
  | none=>{ m with e:=80 }
  | some k=>
   let c:=m.clos.getD k default
   if (c.held.length:Int)≤x.num then { m with e:=80 }
   else { m with clos:=m.clos.set k { c with held:=c.held.set x.num.toNat (args.getD 1 vNone) } }
 else told (m.prim x.op args)
def MX.fin (c:CodeX) (m:MX) (x:EndX):MX:=
 let a:=m.acts.getLast?.getD default
 let args:=x.args.map (regAt a)
 let v:=if x.kind=0 then vNone else regAt a x.reg
 let m1:=m.last fun a=>{ a with at_:=0,block:=if x.kind=1∧v=vNone then x.els else x.next,to:=x.to }
 if x.kind=2 then ({ m1 with acts:=m1.acts.dropLast }:MX).tell v
 else if x.kind=3 then m1.call c v args false
 else if x.kind=4 then m1.call c v args true
 else if x.kind=5 then
  let r:=m1.made ⟨0,0,[],true,m1.acts.dropLast⟩
  r.1.call c v [r.2] false
 else if x.kind=6 then
  let r:=m1.made ⟨0,0,[],true,m1.acts⟩
  r.1.call c v [r.2] true
 else m1
def blkAt (p:PrcX) (i:Int):BlkX:=p.blocks.getD i.toNat ⟨[],⟨0,0,[],0,0,0⟩⟩
def MX.step (K:Dat→VX) (c:CodeX) (m:MX):MX:=
 let a:=m.acts.getLast?.getD default
 let b:=blkAt (prcAt c a.proc) a.block
 match b.ins[a.at_.toNat]? with
 | some x=>(m.last fun a=>{ a with at_:=a.at_+1 }).ins K x
 | none=>m.fin c b.e
def MX.go (K:Dat→VX) (c:CodeX):Nat→MX→Nat→MX×Nat
 | fuel,m,n=>if m.e≠0∨m.done=true then (m,n) else match fuel with
  | 0=>({ m with e:=93 },n)
  | fuel+1=>MX.go K c fuel (m.step K c) (n+1)
def MX.first (c:CodeX) (input:List UInt8):MX:=
 let m:MX:=⟨[],[],[],input,[],⟨4,0,[]⟩,vNone,false,0⟩
 let r:=m.made ⟨0,0,[],false,[]⟩
 r.1.call c r.2 [] true
theorem Z0m (l:List VX) (r:Nat) (v:VX) (j:Nat):(l.set r v)[j]?=if r=j∧j < l.length then some v else l[j]?:=by
 rw [List.getElem?_set]
 by_cases e:r=j
 ·subst e
  by_cases h:r < l.length
  ·rw [if_pos rfl,if_pos h,if_pos ⟨rfl,h⟩]
  ·rw [if_pos rfl,if_neg h,if_neg (fun hh=>h hh.2),List.getElem?_eq_none (by omega)]
 ·rw [if_neg e,if_neg (fun h=>e h.1)]
structure AgreeR (L:Int→Prop) (l l':List VX):Prop where
 len:l.length=l'.length
 at_:∀r:Nat,L (r:Int)→l[r]?=l'[r]?
theorem AgreeR.refl (L:Int→Prop) (l:List VX):AgreeR L l l:=⟨rfl,fun _ _=>rfl⟩
theorem AgreeR.less {L L':Int→Prop} {l l':List VX} (h:AgreeR L l l') (hl:∀r,L' r→L r):AgreeR L' l l':=⟨h.len,fun r hr=>h.at_ r (hl _ hr)⟩
theorem AgreeR.reg {L:Int→Prop} {a a':ActX} (h:AgreeR L a.regs a'.regs) {r:Int} (h0:0≤r) (hr:L r):regAt a r=regAt a' r:=by
 unfold regAt
 rw [zgd,zgd,h.at_ r.toNat (by rw [show ((r.toNat:Nat):Int)=r by omega];exact hr)]
theorem AgreeR.set {L L':Int→Prop} {l l':List VX} (h:AgreeR L l l') {t:Int} (h0:0≤t) (v:VX) (hl:∀r,L' r→r=t∨L r):AgreeR L' (l.set t.toNat v) (l'.set t.toNat v):=by
 refine ⟨by simpa using h.len,fun r hr=>?_⟩
 rw [Z0m,Z0m,←h.len]
 by_cases e:t.toNat=r∧r < l.length
 ·rw [if_pos e,if_pos e]
 ·rw [if_neg e,if_neg e]
  rcases hl _ hr with h1 | h1
  ·have e1:t.toNat=r:=by omega
   have e2:¬r < l.length:=fun hh=>e ⟨e1,hh⟩
   rw [List.getElem?_eq_none (by omega),List.getElem?_eq_none (by rw [←h.len];omega)]
  ·exact h.at_ r h1
inductive Reach (K:Dat→VX) (c:CodeX):Nat→MX→MX→Prop
 | zero (m:MX):Reach K c 0 m m
 | step {s:Nat} {m m2:MX}:m.e=0→m.done=false→Reach K c s (m.step K c) m2→Reach K c (s+1) m m2
theorem Reach.trans {K:Dat→VX} {c:CodeX} {s t:Nat} {m m2 m3:MX} (h:Reach K c s m m2) (h2:Reach K c t m2 m3):Reach K c (s+t) m m3:=by
 induction h with
 | zero m=>rw [Nat.zero_add];exact h2
 | @step s m m2 e1 e2 _ ih=>
  rw [show s+1+t=s+t+1 by omega]
  exact .step e1 e2 (ih h2)
structure CloR (W:ActX→ActX→Prop) (x y:CloX):Prop where
 thing:x.thing=y.thing
 proc:x.proc=y.proc
 held:x.held=y.held
 kont:x.kont=y.kont
 acts:All2 W x.acts y.acts
structure CoreR (W:ActX→ActX→Prop) (m m':MX):Prop where
 h:m.h=m'.h
 input:m.input=m'.input
 out:m.out=m'.out
 winders:m.winders=m'.winders
 told:m.told=m'.told
 e:m.e=m'.e
 done:m.done=m'.done
 clos:All2 (CloR W) m.clos m'.clos
theorem CoreR.acts {W:ActX→ActX→Prop} {m m':MX} (h:CoreR W m m') (l l':List ActX):CoreR W { m with acts:=l } { m' with acts:=l' }:=⟨h.h,h.input,h.out,h.winders,h.told,h.e,h.done,h.clos⟩
structure MR (W P:ActX→ActX→Prop) (m m':MX):Prop where
 core:CoreR W m m'
 e0:m.e=0
 d0:m.done=false
 acts:∃ws a ws' a',m.acts=ws++[a]∧m'.acts=ws'++[a']∧All2 W ws ws'∧P a a'
structure CodeOk (c:CodeX):Prop where
 ins:∀p∈c,∀b∈p.blocks,∀x∈b.ins,(∀r∈x.args,0≤r)∧(x.op≠tieB→0≤x.to)
 fin:∀p∈c,∀b∈p.blocks,(∀r∈b.e.args,0≤r)∧0≤b.e.reg∧0≤b.e.to∧(b.e.kind=0∨b.e.kind=1∨b.e.kind=4∨b.e.kind=6→0≤b.e.next∧b.e.next < p.blocks.length)∧(b.e.kind=1→0≤b.e.els∧b.e.els < p.blocks.length)∧0≤b.e.kind∧b.e.kind≤6∧(b.e.args≠[]→b.e.kind=3∨b.e.kind=4)
def z20:List UInt8:=[99,111,110,115,116]
section
variable (c:CodeX) (i bi:Nat) (p:PrcX) (bl:BlkX) (t:Int) (d:Dat)
def offX (a:ActX):Int:=if a.proc.toNat=i∧a.block.toNat=bi then 1 else 0
def needX (a:ActX) (r:Int):Prop:=z1z (prcAt c a.proc) r a.block.toNat a.at_.toNat∨(prcAt c a.proc).blocks[a.block.toNat]?=none
structure RunX (a a':ActX):Prop where
 proc:a'.proc=a.proc
 clo:a.clo=a'.clo
 block:a'.block=a.block
 at0:0≤a.at_
 len:a.at_≤(blkAt (prcAt c a.proc) a.block).ins.length
 at_:a'.at_=a.at_+offX i bi a∨(a.at_=0∧a'.at_=0)
 regs:AgreeR (needX c a) a.regs a'.regs
structure WaitX (a a':ActX):Prop where
 proc:a'.proc=a.proc
 clo:a.clo=a'.clo
 block:a'.block=a.block
 at0:a.at_=0
 at0':a'.at_=0
 to:a'.to=a.to
 to0:0≤a.to
 regs:AgreeR (fun r=>needX c a r∧r≠a.to) a.regs a'.regs
end
section
variable {c:CodeX} {i bi:Nat} {p:PrcX} {bl:BlkX} {t:Int} {d:Dat}
end
def ar0:List (List UInt8):=[[114,101,97,100,45,117,56],[101,114,114,111,114],[118,111,105,100],[37,119,105,110,100,101,114,115],[37,117,110,115,101,116]]
def ar1:List (List UInt8):=[[110,117,108,108,63],[112,97,105,114,63],[118,101,99,116,111,114,63],[115,116,114,105,110,103,63],[115,121,109,98,111,108,63],[99,104,97,114,63],[105,110,116,101,103,101,114,63],[98,111,111,108,101,97,110,63],[112,114,111,99,101,100,117,114,101,63],[101,111,102,45,111,98,106,101,99,116,63],[99,97,114],[99,100,114],[118,101,99,116,111,114,45,108,101,110,103,116,104],[115,116,114,105,110,103,45,108,101,110,103,116,104],[99,104,97,114,45,62,105,110,116,101,103,101,114],[105,110,116,101,103,101,114,45,62,99,104,97,114],[119,114,105,116,101,45,117,56],[37,98,111,120],[37,117,110,98,111,120],[37,119,105,110,100,33],[37,99,97,108,108,99,99]]
def ar2:List (List UInt8):=[[43],[45],[42],[113,117,111,116,105,101,110,116],[114,101,109,97,105,110,100,101,114],[60],[61],[101,113,63],[99,111,110,115],[115,101,116,45,99,97,114,33],[115,101,116,45,99,100,114,33],[109,97,107,101,45,118,101,99,116,111,114],[118,101,99,116,111,114,45,114,101,102],[109,97,107,101,45,115,116,114,105,110,103],[115,116,114,105,110,103,45,114,101,102],[37,115,101,116,45,98,111,120,33]]
def ar3:List (List UInt8):=[[118,101,99,116,111,114,45,115,101,116,33],[115,116,114,105,110,103,45,115,101,116,33]]
def z3o (p:List UInt8):Int:=if ar0.contains p then 0 else if ar1.contains p then 1 else if ar2.contains p then 2 else if ar3.contains p then 3 else -1
def dat0:Dat:=.mk 0 0 [] []
def z3u (d:Dat):Bool:=decide (d.kind=0) && decide (d.int=0) && d.text.isEmpty && d.list.isEmpty
theorem isDat0_iff {d:Dat}:z3u d=true↔d=dat0:=by
 obtain ⟨k,n,t,l⟩:=d
 show (decide (k=0) && decide (n=0) && t.isEmpty && l.isEmpty)=true↔Dat.mk k n t l=.mk 0 0 [] []
 simp [and_assoc]
def z2h (d:Dat):Bool:=decide ((d.chk 0 0).2=0) && (decide (d.kind=0) || decide (d.kind=1) || decide (d.kind=2) || decide (d.kind=4) || (decide (d.kind=5) && d.list.isEmpty))
def movB:List UInt8:=[109,111,118,101]
def hldB:List UInt8:=[104,101,108,100]
def cloB:List UInt8:=[99,108,111,115,117,114,101]
def ccB:List UInt8:=[37,99,97,108,108,99,99]
def z0i (p:PrcX) (l:List Int):Bool:=l.all fun r=>decide (0≤r∧r < p.regs)
def insOk (c:CodeX) (p:PrcX) (x:InsX):Bool:=
 if !z0i p x.args || (!z0i p [x.to] && !decide (x.op=tieB)) then false
 else if x.op=z20 then decide (x.args.length=0) && decide (x.num=0) && z2h x.const
 else if x.op=movB then decide (x.args.length=1) && decide (x.num=0) && z3u x.const
 else if x.op=hldB then decide (x.args.length=0) && decide (0≤x.num) && decide (x.num < p.holds) && z3u x.const
 else if x.op=cloB then decide (1≤x.num) && decide (x.num < c.length) && decide ((x.args.length:Int)=(prcAt c x.num).holds) && z3u x.const
 else if x.op=tieB then decide (x.args.length=2) && decide (0≤x.num) && decide (x.to=0) && z3u x.const
 else if x.op=ccB then false
 else decide (z3o x.op=x.args.length) && decide (x.num=0) && z3u x.const
def finOk (p:PrcX) (e:EndX):Bool:=
 let reg:=z0i p [e.reg]
 let to:=z0i p [e.to]
 let args:=z0i p e.args && decide (e.args.length≤6)
 let none:=e.args.isEmpty
 let next:=decide (0≤e.next) && decide (e.next < p.blocks.length)
 let other:=decide (0≤e.els) && decide (e.els < p.blocks.length)
 if e.kind=0 then next && none && decide (e.reg=0) && decide (e.to=0) && decide (e.els=0)
 else if e.kind=1 then next && other && none && reg && decide (e.to=0)
 else if e.kind=2∨e.kind=5 then reg && none && decide (e.to=0) && decide (e.next=0) && decide (e.els=0)
 else if e.kind=3 then reg && args && decide (e.to=0) && decide (e.next=0) && decide (e.els=0)
 else if e.kind=4 then reg && args && to && next && decide (e.els=0)
 else if e.kind=6 then reg && none && to && next && decide (e.els=0)
 else false
def BlkX.many (b:BlkX):Nat:=1+b.ins.length
def PrcX.many (p:PrcX):Nat:=(p.blocks.map BlkX.many).sum
def manyC (c:CodeX):Nat:=(c.map PrcX.many).sum
def prcOk (c:CodeX) (p:PrcX):Bool:=
 decide (0≤p.params) && decide (p.params≤6) && decide (0≤p.holds) && decide (p.holds≤1000) && decide (p.params≤p.regs) && !p.blocks.isEmpty &&
  p.blocks.all fun b=>b.ins.all (insOk c p) && finOk p b.e
def z39 (c:CodeX):Bool:=(c.any fun p=>decide (2000 < p.regs)) || decide (4096 < manyC c) || decide (300 < c.length)
def z4a (c:CodeX):Int:=
 if z39 c then 151
 else match c with
 | []=>150
 | p::_=>if decide (p.params=0) && decide (p.holds=0) && c.all (prcOk c) then 0 else 150
structure GoodC (c:CodeX):Prop where
 many:manyC c≤4096
 few:c.length≤300
 regs:∀p∈c,p.regs≤2000
 first:∃p l,c=p::l∧p.params=0∧p.holds=0
 prcs:∀p∈c,prcOk c p=true
theorem zrw {α:Type} (f:α→Nat):∀{l:List α} {a:α},a∈l→f a≤(l.map f).sum
 | b::l,a,h=>by
  rw [List.map_cons,List.sum_cons]
  rcases List.mem_cons.1 h with rfl | h
  ·omega
  ·have:=zrw f h;omega
theorem Z0c {α:Type} (f:α→Nat) (h:∀a,1≤f a):∀l:List α,l.length≤(l.map f).sum
 | []=>Nat.zero_le _
 | a::l=>by
  have:=Z0c f h l
  have:=h a
  rw [List.map_cons,List.sum_cons,zlc];omega
theorem zvi {p:PrcX} {b:BlkX} (h:b∈p.blocks):1+b.ins.length≤p.many:=zrw BlkX.many h
theorem zvx {c:CodeX} {p:PrcX} (h:p∈c):p.many≤manyC c:=zrw PrcX.many h
theorem Z57 (p:PrcX):p.blocks.length≤p.many:=Z0c BlkX.many (fun b=>by unfold BlkX.many;omega) p.blocks
structure GoodP (c:CodeX) (p:PrcX):Prop where
 params:0≤p.params∧p.params≤6
 holds:0≤p.holds∧p.holds≤1000
 regs:p.params≤p.regs∧p.regs≤2000
 blocks:0 < p.blocks.length∧p.blocks.length≤4096
 ins:∀b∈p.blocks,b.ins.length≤4096∧∀x∈b.ins,insOk c p x=true
 fin:∀b∈p.blocks,finOk p b.e=true
theorem GoodC.prc {c:CodeX} (h:GoodC c) {p:PrcX} (hp:p∈c):GoodP c p:=by
 have h1:=h.prcs p hp
 simp only [prcOk,zba,zdt,Bool.not_eq_true',List.all_eq_true,List.isEmpty_eq_false_iff] at h1
 have h2:=zvx hp
 have h3:=h.many
 have h4:=h.regs p hp
 have h5:=Z57 p
 refine ⟨by omega,by omega,by omega,⟨List.length_pos_iff.2 h1.1.2,by omega⟩,fun b hb=>⟨?_,(h1.2 b hb).1⟩,fun b hb=>(h1.2 b hb).2⟩
 have:=zvi hb;omega
theorem Z4l {c:CodeX} {i:Int} (h0:0≤i) (h1:i < c.length):prcAt c i∈c∧c[i.toNat]?=some (prcAt c i):=by
 have hlt:i.toNat < c.length:=by omega
 have:prcAt c i=c[i.toNat]:=by
  unfold prcAt
  rw [zgd,zge hlt];rfl
 rw [this]
 exact ⟨List.getElem_mem hlt,zge hlt⟩
theorem regsOk_iff {p:PrcX} {l:List Int}:z0i p l=true↔∀r∈l,0≤r∧r < p.regs:=by
 unfold z0i;rw [List.all_eq_true];simp only [zdt]
structure InsGood (c:CodeX) (p:PrcX) (x:InsX):Prop where
 args:∀r∈x.args,0≤r∧r < p.regs
 to:x.op≠tieB→0≤x.to∧x.to < p.regs
 konst:x.op=z20→z2h x.const=true
 move:x.op=movB→x.args.length=1
 held:x.op=hldB→0≤x.num∧x.num < p.holds
 closure:x.op=cloB→1≤x.num∧x.num < c.length∧(x.args.length:Int)=(prcAt c x.num).holds
 tie:x.op=tieB→x.args.length=2∧0≤x.num
 prim:x.op≠z20→x.op≠movB→x.op≠hldB→x.op≠cloB→x.op≠tieB→z3o x.op=x.args.length
theorem Z12 {c:CodeX} {p:PrcX} {x:InsX} (h:insOk c p x=true):InsGood c p x:=by
 unfold insOk at h
 split at h
 ·cases h
 rename_i h1
 simp only [Bool.or_eq_true,zba,Bool.not_eq_true',zdf,not_or,not_and,Bool.not_eq_false] at h1
 have ha:=regsOk_iff.1 h1.1
 have ht:x.op≠tieB→0≤x.to∧x.to < p.regs:=fun hop=>by
  have:z0i p [x.to]=true:=by
   cases hr:z0i p [x.to] with
   | true=>rfl
   | false=>exact absurd hop (by simpa using h1.2 hr)
  exact regsOk_iff.1 this _ (List.mem_singleton.2 rfl)
 have dd:z20≠movB∧z20≠hldB∧z20≠cloB∧z20≠tieB∧movB≠hldB∧movB≠cloB∧movB≠tieB∧hldB≠cloB∧hldB≠tieB∧cloB≠tieB:=by decide
 obtain ⟨d1,d2,d3,d4,d5,d6,d7,d8,d9,d10⟩:=dd
 by_cases e1:x.op=z20
 ·rw [if_pos e1] at h
  simp only [zba] at h
  exact ⟨ha,ht,fun _=>h.2,fun e=>absurd (e1.symm.trans e) d1,fun e=>absurd (e1.symm.trans e) d2,fun e=>absurd (e1.symm.trans e) d3,fun e=>absurd (e1.symm.trans e) d4,fun e=>absurd e1 e⟩
 rw [if_neg e1] at h
 by_cases e2:x.op=movB
 ·rw [if_pos e2] at h
  simp only [zba,zdt] at h
  exact ⟨ha,ht,fun e=>absurd e e1,fun _=>h.1.1,fun e=>absurd (e2.symm.trans e) d5,fun e=>absurd (e2.symm.trans e) d6,fun e=>absurd (e2.symm.trans e) d7,fun _ e=>absurd e2 e⟩
 rw [if_neg e2] at h
 by_cases e3:x.op=hldB
 ·rw [if_pos e3] at h
  simp only [zba,zdt] at h
  exact ⟨ha,ht,fun e=>absurd e e1,fun e=>absurd e e2,fun _=>⟨h.1.1.2,h.1.2⟩,fun e=>absurd (e3.symm.trans e) d8,fun e=>absurd (e3.symm.trans e) d9,fun _ _ e=>absurd e3 e⟩
 rw [if_neg e3] at h
 by_cases e4:x.op=cloB
 ·rw [if_pos e4] at h
  simp only [zba,zdt] at h
  exact ⟨ha,ht,fun e=>absurd e e1,fun e=>absurd e e2,fun e=>absurd e e3,fun _=>⟨h.1.1.1,h.1.1.2,h.1.2⟩,fun e=>absurd (e4.symm.trans e) d10,fun _ _ _ e=>absurd e4 e⟩
 rw [if_neg e4] at h
 by_cases e5:x.op=tieB
 ·rw [if_pos e5] at h
  simp only [zba,zdt] at h
  exact ⟨ha,ht,fun e=>absurd e e1,fun e=>absurd e e2,fun e=>absurd e e3,fun e=>absurd e e4,fun _=>⟨h.1.1.1,h.1.1.2⟩,fun _ _ _ _ e=>absurd e5 e⟩
 rw [if_neg e5] at h
 split at h
 ·cases h
 simp only [zba,zdt] at h
 exact ⟨ha,ht,fun e=>absurd e e1,fun e=>absurd e e2,fun e=>absurd e e3,fun e=>absurd e e4,fun e=>absurd e e5,fun _ _ _ _ _=>h.1.1⟩
structure FinGood (p:PrcX) (e:EndX):Prop where
 kind:0≤e.kind∧e.kind≤6
 reg:e.kind≠0→0≤e.reg∧e.reg < p.regs
 reg0:0≤e.reg
 to0:0≤e.to
 args:∀r∈e.args,0≤r∧r < p.regs
 few:e.args.length≤6
 argsK:e.args≠[]→e.kind=3∨e.kind=4
 next:e.kind=0∨e.kind=1∨e.kind=4∨e.kind=6→0≤e.next∧e.next < p.blocks.length
 els:e.kind=1→0≤e.els∧e.els < p.blocks.length
 nextA:0≤e.next∧(e.next < p.blocks.length∨e.next=0)
 to:e.kind=4∨e.kind=6→0≤e.to∧e.to < p.regs
theorem Z2f {p:PrcX} {e:EndX} (h:finOk p e=true):FinGood p e:=by
 have r1:∀{r:Int},z0i p [r]=true→0≤r∧r < p.regs:=fun h=>regsOk_iff.1 h _ (List.mem_singleton.2 rfl)
 unfold finOk at h
 simp only at h
 have nil:∀{P:Prop},e.args.isEmpty=true→((∀r∈e.args,0≤r∧r < p.regs)∧e.args.length≤6∧(e.args≠[]→P)):=fun {P} hn=>by
  have:e.args=[]:=List.isEmpty_iff.1 hn
  rw [this];simp
 by_cases k0:e.kind=0
 ·rw [if_pos k0] at h
  simp only [zba,zdt] at h
  obtain ⟨a1,a2,a3⟩:=nil (P:=e.kind=3∨e.kind=4) h.1.1.1.2
  exact ⟨by omega,fun hk=>absurd k0 hk,by omega,by omega,a1,a2,a3,fun _=>h.1.1.1.1,by omega,by omega,by omega⟩
 rw [if_neg k0] at h
 by_cases k1:e.kind=1
 ·rw [if_pos k1] at h
  simp only [zba,zdt] at h
  obtain ⟨a1,a2,a3⟩:=nil (P:=e.kind=3∨e.kind=4) h.1.1.2
  have:=r1 h.1.2
  exact ⟨by omega,fun _=>this,by omega,by omega,a1,a2,a3,fun _=>h.1.1.1.1,fun _=>h.1.1.1.2,by omega,by omega⟩
 rw [if_neg k1] at h
 by_cases k2:e.kind=2∨e.kind=5
 ·rw [if_pos k2] at h
  simp only [zba,zdt] at h
  obtain ⟨a1,a2,a3⟩:=nil (P:=e.kind=3∨e.kind=4) h.1.1.1.2
  have:=r1 h.1.1.1.1
  exact ⟨by omega,fun _=>this,by omega,by omega,a1,a2,a3,by omega,by omega,by omega,by omega⟩
 rw [if_neg k2] at h
 by_cases k3:e.kind=3
 ·rw [if_pos k3] at h
  simp only [zba,zdt] at h
  have:=r1 h.1.1.1.1
  exact ⟨by omega,fun _=>this,by omega,by omega,regsOk_iff.1 h.1.1.1.2.1,h.1.1.1.2.2,fun _=>.inl k3,by omega,by omega,by omega,by omega⟩
 rw [if_neg k3] at h
 by_cases k4:e.kind=4
 ·rw [if_pos k4] at h
  simp only [zba,zdt] at h
  have:=r1 h.1.1.1.1
  have h2:=r1 h.1.1.2
  exact ⟨by omega,fun _=>this,by omega,by omega,regsOk_iff.1 h.1.1.1.2.1,h.1.1.1.2.2,fun _=>.inr k4,fun _=>h.1.2,by omega,by omega,fun _=>h2⟩
 rw [if_neg k4] at h
 by_cases k6:e.kind=6
 ·rw [if_pos k6] at h
  simp only [zba,zdt] at h
  obtain ⟨a1,a2,a3⟩:=nil (P:=e.kind=3∨e.kind=4) h.1.1.1.2
  have:=r1 h.1.1.1.1
  have h2:=r1 h.1.1.2
  exact ⟨by omega,fun _=>this,by omega,by omega,a1,a2,a3,fun _=>h.1.2,by omega,by omega,fun _=>h2⟩
 rw [if_neg k6] at h
 cases h
theorem GoodC.ok {c:CodeX} (h:GoodC c):CodeOk c:=by
 refine ⟨fun p hp b hb x hx=>?_,fun p hp b hb=>?_⟩
 ·have hx:=Z12 (((h.prc hp).ins b hb).2 x hx)
  exact ⟨fun r hr=>(hx.args r hr).1,fun hop=>(hx.to hop).1⟩
 ·have he:=Z2f ((h.prc hp).fin b hb)
  exact ⟨fun r hr=>(he.args r hr).1,he.reg0,he.to0,he.next,he.els,he.kind.1,he.kind.2,he.argsK⟩
theorem zyw (p:List UInt8) (H:PH):Gives Tryz.prog zwy [txt p] H (.int .i64 (z3o p)):=by
 refine zrs [txt p] (by kernel_rfl) (by kernel_rfl) ?_
 refine ⟨fun vs H'=>vs=[.bool (ar0.contains p)]∧H'=H,?_,?_⟩
 ·rintro vs H' _ ⟨rfl,rfl⟩
  refine ⟨fun h=>?_,fun h=>?_⟩
  ·simp only [ev0,ev,evV,List.cons_append,List.nil_append,List.getD_cons_zero,List.getD_cons_succ,List.map_cons,List.map_nil,iOf,bOf,sOf,pOf,slLen,z04,cmpI,arI,Value.ite_bool,z03,z02,z00,z01] at h
   exact ⟨by simp only [ev0,ev,evV,List.cons_append,List.nil_append,List.getD_cons_zero,List.getD_cons_succ,List.map_cons,List.map_nil,iOf,bOf,sOf,pOf,slLen,z04,cmpI,arI,Value.ite_bool,z03,z02,z00,z01,z3o,h];rfl,PH.le_refl _⟩
  simp only [ev0,ev,evV,List.cons_append,List.nil_append,List.getD_cons_zero,List.getD_cons_succ,List.map_cons,List.map_nil,iOf,bOf,sOf,pOf,slLen,z04,cmpI,arI,Value.ite_bool,z03,z02,z00,z01] at h
  refine ⟨fun vs H2=>vs=[.bool (ar1.contains p)]∧H2=H',?_,?_⟩
  ·rintro vs H' _ ⟨rfl,rfl⟩
   refine ⟨fun h2=>?_,fun h2=>?_⟩
   ·simp only [ev0,ev,evV,List.cons_append,List.nil_append,List.getD_cons_zero,List.getD_cons_succ,List.map_cons,List.map_nil,iOf,bOf,sOf,pOf,slLen,z04,cmpI,arI,Value.ite_bool,z03,z02,z00,z01] at h2
    exact ⟨by simp only [ev0,ev,evV,List.cons_append,List.nil_append,List.getD_cons_zero,List.getD_cons_succ,List.map_cons,List.map_nil,iOf,bOf,sOf,pOf,slLen,z04,cmpI,arI,Value.ite_bool,z03,z02,z00,z01,z3o,h,h2];rfl,PH.le_refl _⟩
   simp only [ev0,ev,evV,List.cons_append,List.nil_append,List.getD_cons_zero,List.getD_cons_succ,List.map_cons,List.map_nil,iOf,bOf,sOf,pOf,slLen,z04,cmpI,arI,Value.ite_bool,z03,z02,z00,z01] at h2
   refine ⟨fun vs H3=>vs=[.bool (ar2.contains p)]∧H3=H',?_,?_⟩
   ·rintro vs H' _ ⟨rfl,rfl⟩
    refine ⟨fun h3=>?_,fun h3=>?_⟩
    ·simp only [ev0,ev,evV,List.cons_append,List.nil_append,List.getD_cons_zero,List.getD_cons_succ,List.map_cons,List.map_nil,iOf,bOf,sOf,pOf,slLen,z04,cmpI,arI,Value.ite_bool,z03,z02,z00,z01] at h3
     exact ⟨by simp only [ev0,ev,evV,List.cons_append,List.nil_append,List.getD_cons_zero,List.getD_cons_succ,List.map_cons,List.map_nil,iOf,bOf,sOf,pOf,slLen,z04,cmpI,arI,Value.ite_bool,z03,z02,z00,z01,z3o,h,h2,h3];rfl,PH.le_refl _⟩
    simp only [ev0,ev,evV,List.cons_append,List.nil_append,List.getD_cons_zero,List.getD_cons_succ,List.map_cons,List.map_nil,iOf,bOf,sOf,pOf,slLen,z04,cmpI,arI,Value.ite_bool,z03,z02,z00,z01] at h3
    refine ⟨fun h4=>?_,fun h4=>?_⟩
    ·simp only [ev0,ev,evV,List.cons_append,List.nil_append,List.getD_cons_zero,List.getD_cons_succ,List.map_cons,List.map_nil,iOf,bOf,sOf,pOf,slLen,z04,cmpI,arI,Value.ite_bool,z03,z02,z00,z01,z1b] at h4
     have:ar3.contains p=true:=by simp [ar3] at h4 ⊢;exact h4
     exact ⟨by simp only [ev0,ev,evV,List.cons_append,List.nil_append,List.getD_cons_zero,List.getD_cons_succ,List.map_cons,List.map_nil,iOf,bOf,sOf,pOf,slLen,z04,cmpI,arI,Value.ite_bool,z03,z02,z00,z01,z3o,h,h2,h3,this];rfl,PH.le_refl _⟩
    ·simp only [ev0,ev,evV,List.cons_append,List.nil_append,List.getD_cons_zero,List.getD_cons_succ,List.map_cons,List.map_nil,iOf,bOf,sOf,pOf,slLen,z04,cmpI,arI,Value.ite_bool,z03,z02,z00,z01,z1b] at h4
     have:ar3.contains p=false:=by simp [ar3] at h4 ⊢;exact h4
     exact ⟨by simp only [ev0,ev,evV,List.cons_append,List.nil_append,List.getD_cons_zero,List.getD_cons_succ,List.map_cons,List.map_nil,iOf,bOf,sOf,pOf,slLen,z04,cmpI,arI,Value.ite_bool,z03,z02,z00,z01,z3o,h,h2,h3,this];rfl,PH.le_refl _⟩
   ·repeat' refine And.intro (fun h=>?_) (fun h=>?_)
    all_goals
     refine ⟨_,z05,?_,rfl⟩
     simp only [ev0,ev,evV,List.cons_append,List.nil_append,List.getD_cons_zero,List.getD_cons_succ,List.map_cons,List.map_nil,iOf,bOf,sOf,pOf,slLen,z04,cmpI,arI,Value.ite_bool,z03,z02,z00,z01,z1b,zdt,zdf] at *
     simp_all [ar2]
  ·repeat' refine And.intro (fun h=>?_) (fun h=>?_)
   all_goals
    refine ⟨_,z05,?_,rfl⟩
    simp only [ev0,ev,evV,List.cons_append,List.nil_append,List.getD_cons_zero,List.getD_cons_succ,List.map_cons,List.map_nil,iOf,bOf,sOf,pOf,slLen,z04,cmpI,arI,Value.ite_bool,z03,z02,z00,z01,z1b,zdt,zdf] at *
    simp_all [ar1]
 ·repeat' refine And.intro (fun h=>?_) (fun h=>?_)
  all_goals
   refine ⟨_,z05,?_,rfl⟩
   simp only [ev0,ev,evV,List.cons_append,List.nil_append,List.getD_cons_zero,List.getD_cons_succ,List.map_cons,List.map_nil,iOf,bOf,sOf,pOf,slLen,z04,cmpI,arI,Value.ite_bool,z03,z02,z00,z01,z1b,zdt,zdf] at *
   simp_all [ar0]
def z1k (d:Dat):ValW:=
 if (d.chk 0 0).2≠0 then ⟨0,0,[]⟩
 else if d.kind=0 then ⟨0,d.int,[]⟩
 else if d.kind=1 then ⟨1,d.int,[]⟩
 else if d.kind=2 then ⟨2,d.int,[]⟩
 else if d.kind=4 then ⟨3,0,d.text⟩
 else if d.kind=5∧d.list.isEmpty=true then ⟨4,0,[]⟩
 else ⟨0,0,[]⟩
theorem zl5 (d:Dat) (cs:List Value) (H:PH) (hd:d.Rep H cs):Gives Tryz.prog zxg [.agg cs.toArray] H (.tuple #[.agg (valW (z1k d)).toArray,.bool (z2h d)]):=by
 have hc:=zun d cs H hd
 obtain ⟨sv,rfl,hk,hn,ht,hs⟩:=Dat.Rep_iff.1 hd
 obtain ⟨b,c,rfl⟩:=hs.sl
 refine zqm [.int .i64 d.kind,.int .i64 d.int,txt d.text,.slice b d.list.length c] (by kernel_rfl) (by kernel_rfl) ?_
 refine z0b [.int .i64 (d.chk 0 0).2] zuy hc rfl z06 fun H1 h1=>⟨fun g=>?_,fun g=>?_⟩
 ·simp only [ev0,ev,evV,List.cons_append,List.nil_append,List.getD_cons_zero,List.getD_cons_succ,List.map_cons,List.map_nil,iOf,bOf,sOf,pOf,slLen,z04,cmpI,arI,Value.ite_bool,z03,z02,z00,z01,zdt] at g
  refine ⟨?_,h1⟩
  have e1:z2h d=false:=by unfold z2h;simp [g]
  have e2:z1k d=⟨0,0,[]⟩:=by unfold z1k;rw [if_pos g]
  rw [e1,e2];rfl
 simp only [ev0,ev,evV,List.cons_append,List.nil_append,List.getD_cons_zero,List.getD_cons_succ,List.map_cons,List.map_nil,iOf,bOf,sOf,pOf,slLen,z04,cmpI,arI,Value.ite_bool,z03,z02,z00,z01,zdf,ne_eq,Decidable.not_not] at g
 have e1:z2h d=(decide (d.kind=0) || decide (d.kind=1) || decide (d.kind=2) || decide (d.kind=4) || (decide (d.kind=5) && d.list.isEmpty)):=by
  unfold z2h;rw [g];simp
 have e2:z1k d=if d.kind=0 then ⟨0,d.int,[]⟩ else if d.kind=1 then ⟨1,d.int,[]⟩ else if d.kind=2 then ⟨2,d.int,[]⟩ else if d.kind=4 then ⟨3,0,d.text⟩ else if d.kind=5∧d.list.isEmpty=true then ⟨4,0,[]⟩ else ⟨0,0,[]⟩:=by
  unfold z1k;rw [if_neg (by omega)]
 rw [e1,e2]
 refine ⟨fun vs K=>vs=[]∧K=H1∧d.kind≠0∧d.kind≠1∧d.kind≠2∧d.kind≠4∧¬(d.kind=5∧d.list.isEmpty=true),?_,fun g0=>?_,fun g0=>?_⟩
 ·rintro vs K _ ⟨rfl,rfl,n0,n1,n2,n4,n5⟩
  refine ⟨?_,h1⟩
  rw [if_neg n0,if_neg n1,if_neg n2,if_neg n4,if_neg n5]
  have:(decide (d.kind=0) || decide (d.kind=1) || decide (d.kind=2) || decide (d.kind=4) || (decide (d.kind=5) && d.list.isEmpty))=false:=by
   simp only [n0,n1,n2,n4,decide_false,Bool.false_or,Bool.and_eq_false_iff,zdf,List.isEmpty_eq_false_iff]
   by_cases h5:d.kind=5
   ·exact .inr fun h=>n5 ⟨h5,by rw [h];rfl⟩
   ·exact .inl h5
  rw [this];rfl
 ·simp only [ev0,ev,evV,List.cons_append,List.nil_append,List.getD_cons_zero,List.getD_cons_succ,List.map_cons,List.map_nil,iOf,bOf,sOf,pOf,slLen,z04,cmpI,arI,Value.ite_bool,z03,z02,z00,z01,zdt] at g0
  refine ⟨?_,h1⟩
  rw [if_pos g0];simp only [g0,decide_true,Bool.true_or];rfl
 simp only [ev0,ev,evV,List.cons_append,List.nil_append,List.getD_cons_zero,List.getD_cons_succ,List.map_cons,List.map_nil,iOf,bOf,sOf,pOf,slLen,z04,cmpI,arI,Value.ite_bool,z03,z02,z00,z01,zdf] at g0
 refine ⟨fun g1=>?_,fun g1=>?_⟩
 ·simp only [ev0,ev,evV,List.cons_append,List.nil_append,List.getD_cons_zero,List.getD_cons_succ,List.map_cons,List.map_nil,iOf,bOf,sOf,pOf,slLen,z04,cmpI,arI,Value.ite_bool,z03,z02,z00,z01,zdt] at g1
  refine ⟨?_,h1⟩
  rw [if_neg g0,if_pos g1];simp only [g1,decide_true,Bool.true_or,Bool.or_true];rfl
 simp only [ev0,ev,evV,List.cons_append,List.nil_append,List.getD_cons_zero,List.getD_cons_succ,List.map_cons,List.map_nil,iOf,bOf,sOf,pOf,slLen,z04,cmpI,arI,Value.ite_bool,z03,z02,z00,z01,zdf] at g1
 refine ⟨fun g2=>?_,fun g2=>?_⟩
 ·simp only [ev0,ev,evV,List.cons_append,List.nil_append,List.getD_cons_zero,List.getD_cons_succ,List.map_cons,List.map_nil,iOf,bOf,sOf,pOf,slLen,z04,cmpI,arI,Value.ite_bool,z03,z02,z00,z01,zdt] at g2
  refine ⟨?_,h1⟩
  rw [if_neg g0,if_neg g1,if_pos g2];simp only [g2,decide_true,Bool.true_or,Bool.or_true];rfl
 simp only [ev0,ev,evV,List.cons_append,List.nil_append,List.getD_cons_zero,List.getD_cons_succ,List.map_cons,List.map_nil,iOf,bOf,sOf,pOf,slLen,z04,cmpI,arI,Value.ite_bool,z03,z02,z00,z01,zdf] at g2
 refine ⟨fun g4=>?_,fun g4=>?_⟩
 ·simp only [ev0,ev,evV,List.cons_append,List.nil_append,List.getD_cons_zero,List.getD_cons_succ,List.map_cons,List.map_nil,iOf,bOf,sOf,pOf,slLen,z04,cmpI,arI,Value.ite_bool,z03,z02,z00,z01,zdt] at g4
  refine ⟨?_,h1⟩
  rw [if_neg g0,if_neg g1,if_neg g2,if_pos g4];simp only [g4,decide_true,Bool.true_or,Bool.or_true];rfl
 simp only [ev0,ev,evV,List.cons_append,List.nil_append,List.getD_cons_zero,List.getD_cons_succ,List.map_cons,List.map_nil,iOf,bOf,sOf,pOf,slLen,z04,cmpI,arI,Value.ite_bool,z03,z02,z00,z01,zdf] at g4
 refine ⟨fun g5=>?_,fun g5=>?_⟩
 ·simp only [ev0,ev,evV,List.cons_append,List.nil_append,List.getD_cons_zero,List.getD_cons_succ,List.map_cons,List.map_nil,iOf,bOf,sOf,pOf,slLen,z04,cmpI,arI,Value.ite_bool,z03,z02,z00,z01,zdt] at g5
  refine ⟨fun g6=>?_,fun g6=>?_⟩
  ·simp only [ev0,ev,evV,List.cons_append,List.nil_append,List.getD_cons_zero,List.getD_cons_succ,List.map_cons,List.map_nil,iOf,bOf,sOf,pOf,slLen,z04,cmpI,arI,Value.ite_bool,z03,z02,z00,z01,zdt] at g6
   have hl:d.list=[]:=List.length_eq_zero_iff.1 (by omega)
   refine ⟨?_,h1⟩
   rw [if_neg g0,if_neg g1,if_neg g2,if_neg g4,if_pos ⟨g5,by rw [hl];rfl⟩]
   have:(decide (d.kind=0) || decide (d.kind=1) || decide (d.kind=2) || decide (d.kind=4) || (decide (d.kind=5) && d.list.isEmpty))=true:=by simp [g5,hl]
   rw [this];rfl
  ·simp only [ev0,ev,evV,List.cons_append,List.nil_append,List.getD_cons_zero,List.getD_cons_succ,List.map_cons,List.map_nil,iOf,bOf,sOf,pOf,slLen,z04,cmpI,arI,Value.ite_bool,z03,z02,z00,z01,zdf] at g6
   exact ⟨_,z05,rfl,rfl,g0,g1,g2,g4,fun h=>g6 (by rw [List.isEmpty_iff.1 h.2];rfl)⟩
 ·simp only [ev0,ev,evV,List.cons_append,List.nil_append,List.getD_cons_zero,List.getD_cons_succ,List.map_cons,List.map_nil,iOf,bOf,sOf,pOf,slLen,z04,cmpI,arI,Value.ite_bool,z03,z02,z00,z01,zdf] at g5
  exact ⟨_,z05,rfl,rfl,g0,g1,g2,g4,fun h=>g5 h.1⟩
theorem zrz (d:Dat) (cs:List Value) (H:PH) (hd:d.Rep H cs):Gives Tryz.prog zwq [.agg cs.toArray] H (.bool (z2h d)):=by
 have hc:=zl5 d cs H hd
 obtain ⟨sv,rfl,hk,hn,ht,hs⟩:=Dat.Rep_iff.1 hd
 obtain ⟨b,c,rfl⟩:=hs.sl
 refine zse [.int .i64 d.kind,.int .i64 d.int,txt d.text,.slice b d.list.length c] (by kernel_rfl) (by kernel_rfl) ?_
 refine z0a zjf hc ?_
 rintro e H1 ⟨rfl,h1⟩
 exact ⟨_,valW (z1k d)++[.bool (z2h d)],rfl,rfl,rfl,z06,rfl,h1⟩
theorem zx9 (d:Dat) (cs:List Value) (l:List (List UInt8)) (lv:Value) (H:PH) (hd:d.Rep H cs) (hl:SlR H l lv):Gives Tryz.prog zv8 [.agg cs.toArray,lv] H (.int .i64 ((wordX (z1k d) l).getD 0)):=by
 have hc:=zl5 d cs H hd
 obtain ⟨sv,rfl,hk,hm,ht,hs⟩:=Dat.Rep_iff.1 hd
 obtain ⟨b,c,rfl⟩:=hs.sl
 obtain ⟨b1,c1,rfl⟩:=hl.sl
 refine zqr [.int .i64 d.kind,.int .i64 d.int,txt d.text,.slice b d.list.length c,.slice b1 l.length c1] (by kernel_rfl) (by kernel_rfl) ?_
 refine z0a zjf hc ?_
 rintro e H1 ⟨rfl,h1⟩
 refine ⟨_,valW (z1k d)++[.bool (z2h d)],rfl,rfl,rfl,z06,?_⟩
 simp only [List.cons_append,List.nil_append]
 refine z0b [.int .i64 ((wordX (z1k d) l).getD 0),.bool (wordX (z1k d) l).isSome] zfd (zah (z1k d) l _ H1 (hl.le h1)) rfl z06 fun H2 h2=>⟨rfl,PH.le_trans h1 h2⟩
theorem z31 (p:PrcX) (l:List Int) (bv lv:Value) (H:PH) (hb:SlR H p.blocks bv) (hl:SlR H l lv):Gives Tryz.prog Z3n [.agg (prcVs p bv).toArray,lv] H (.bool (z0i p l)):=by
 obtain ⟨b,c,rfl⟩:=hl.sl
 have hlm:=hl.max
 have hmx:maxLen=9223372036854775807:=rfl
 obtain ⟨b2,c2,rfl⟩:=hb.sl
 refine zy0 (prcVs p (.slice b2 p.blocks.length c2)++[.slice b l.length c]) (by kernel_rfl) (by kernel_rfl) ?_
 simp only [prcVs,List.cons_append,List.nil_append]
 refine ⟨fun n vs K=>∃k:Nat,k+n=l.length∧vs=[.bool false,nI k]∧K=H∧∀r∈l.take k,0≤r∧r < p.regs,⟨l.length,0,by omega,rfl,rfl,by simp⟩,?_⟩
 rintro n vs K _ ⟨k,hkn,rfl,rfl,hall⟩
 simp only [List.cons_append,List.nil_append]
 refine ⟨fun g=>?_,fun g=>?_⟩
 ·simp only [ev0,ev,evV,List.cons_append,List.nil_append,List.getD_cons_zero,List.getD_cons_succ,List.map_cons,List.map_nil,iOf,bOf,sOf,pOf,slLen,z04,cmpI,arI,Value.ite_bool,z03,z02,z00,z01,zdt] at g
  obtain ⟨r,hr⟩:∃r,l[k]?=some r:=⟨_,zge (by omega)⟩
  obtain ⟨z1,_,cs,z2,z3⟩:=hl.get hr
  obtain ⟨rfl,_⟩:=csIK z2
  refine ⟨fun _=>?_,[.int .i64 r],rfl,by simp only [ev0,ev,evV,List.cons_append,List.nil_append,List.getD_cons_zero,List.getD_cons_succ,List.map_cons,List.map_nil,iOf,bOf,sOf,pOf,slLen,z04,cmpI,arI,Value.ite_bool,z03,z02,z00,z01];exact z3,fun g2=>?_,fun g2=>?_⟩
  ·simp only [Chk.holds,ev0,ev,evV,List.cons_append,List.nil_append,List.getD_cons_zero,List.getD_cons_succ,List.map_cons,List.map_nil,iOf,bOf,sOf,pOf,slLen,z04,cmpI,arI,Value.ite_bool,z03,z02,z00,z01];exact ⟨z1,by omega,by omega⟩
  ·simp only [ev0,ev,evV,List.cons_append,List.nil_append,List.getD_cons_zero,List.getD_cons_succ,List.map_cons,List.map_nil,iOf,bOf,sOf,pOf,slLen,z04,cmpI,arI,Value.ite_bool,z03,z02,z00,z01] at g2
   simp only [Bool.or_eq_true,zdt] at g2
   refine ⟨?_,PH.le_refl _⟩
   have:z0i p l=false:=by
    cases hh:z0i p l with
    | false=>rfl
    | true=>have:=regsOk_iff.1 hh r (List.mem_of_getElem? hr);omega
   rw [this];rfl
  ·simp only [ev0,ev,evV,List.cons_append,List.nil_append,List.getD_cons_zero,List.getD_cons_succ,List.map_cons,List.map_nil,iOf,bOf,sOf,pOf,slLen,z04,cmpI,arI,Value.ite_bool,z03,z02,z00,z01] at g2
   simp only [Bool.or_eq_false_iff,zdf] at g2
   refine ⟨_,z05,n - 1,by omega,k+1,by omega,?_,rfl,fun q hq=>?_⟩
   ·simp only [ev0,ev,evV,List.cons_append,List.nil_append,List.getD_cons_zero,List.getD_cons_succ,List.map_cons,List.map_nil,iOf,bOf,sOf,pOf,slLen,z04,cmpI,arI,Value.ite_bool,z03,z02,z00,z01];rw [w64 (by omega) (by omega)];rfl
   ·rw [List.take_add_one,hr] at hq
    rcases List.mem_append.1 hq with hq | hq
    ·exact hall q hq
    ·rw [List.mem_singleton.1 hq];omega
 ·simp only [ev0,ev,evV,List.cons_append,List.nil_append,List.getD_cons_zero,List.getD_cons_succ,List.map_cons,List.map_nil,iOf,bOf,sOf,pOf,slLen,z04,cmpI,arI,Value.ite_bool,z03,z02,z00,z01,zdf] at g
  refine ⟨?_,PH.le_refl _⟩
  rw [List.take_of_length_le (by omega)] at hall
  rw [regsOk_iff.2 hall];rfl
def z6k (p:PrcX) (l:List Int):Bool:=l.all fun r=>decide (0≤r∧r < p.blocks.length)
theorem blksOk_iff {p:PrcX} {l:List Int}:z6k p l=true↔∀r∈l,0≤r∧r < p.blocks.length:=by
 unfold z6k;rw [List.all_eq_true];simp only [zdt]
theorem zjp (p:PrcX) (l:List Int) (bv lv:Value) (H:PH) (hb:SlR H p.blocks bv) (hl:SlR H l lv):Gives Tryz.prog zzs [.agg (prcVs p bv).toArray,lv] H (.bool (z6k p l)):=by
 obtain ⟨b,c,rfl⟩:=hl.sl
 obtain ⟨b2,c2,rfl⟩:=hb.sl
 have hlm:=hl.max
 have hmx:maxLen=9223372036854775807:=rfl
 refine zuv (prcVs p (.slice b2 p.blocks.length c2)++[.slice b l.length c]) (by kernel_rfl) (by kernel_rfl) ?_
 simp only [prcVs,List.cons_append,List.nil_append]
 refine ⟨fun n vs K=>∃k:Nat,k+n=l.length∧vs=[.bool false,nI k]∧K=H∧∀r∈l.take k,0≤r∧r < p.blocks.length,⟨l.length,0,by omega,rfl,rfl,by simp⟩,?_⟩
 rintro n vs K _ ⟨k,hkn,rfl,rfl,hall⟩
 simp only [List.cons_append,List.nil_append]
 refine ⟨fun g=>?_,fun g=>?_⟩
 ·simp only [ev0,ev,evV,List.cons_append,List.nil_append,List.getD_cons_zero,List.getD_cons_succ,List.map_cons,List.map_nil,iOf,bOf,sOf,pOf,slLen,z04,cmpI,arI,Value.ite_bool,z03,z02,z00,z01,zdt] at g
  obtain ⟨r,hr⟩:∃r,l[k]?=some r:=⟨_,zge (by omega)⟩
  obtain ⟨z1,_,cs,z2,z3⟩:=hl.get hr
  obtain ⟨rfl,_⟩:=csIK z2
  refine ⟨fun _=>?_,[.int .i64 r],rfl,by simp only [ev0,ev,evV,List.cons_append,List.nil_append,List.getD_cons_zero,List.getD_cons_succ,List.map_cons,List.map_nil,iOf,bOf,sOf,pOf,slLen,z04,cmpI,arI,Value.ite_bool,z03,z02,z00,z01];exact z3,fun g2=>?_,fun g2=>?_⟩
  ·simp only [Chk.holds,ev0,ev,evV,List.cons_append,List.nil_append,List.getD_cons_zero,List.getD_cons_succ,List.map_cons,List.map_nil,iOf,bOf,sOf,pOf,slLen,z04,cmpI,arI,Value.ite_bool,z03,z02,z00,z01];exact ⟨z1,by omega,by omega⟩
  ·simp only [ev0,ev,evV,List.cons_append,List.nil_append,List.getD_cons_zero,List.getD_cons_succ,List.map_cons,List.map_nil,iOf,bOf,sOf,pOf,slLen,z04,cmpI,arI,Value.ite_bool,z03,z02,z00,z01] at g2
   simp only [Bool.or_eq_true,zdt] at g2
   refine ⟨?_,PH.le_refl _⟩
   have:z6k p l=false:=by
    cases hh:z6k p l with
    | false=>rfl
    | true=>have:=blksOk_iff.1 hh r (List.mem_of_getElem? hr);omega
   rw [this];rfl
  ·simp only [ev0,ev,evV,List.cons_append,List.nil_append,List.getD_cons_zero,List.getD_cons_succ,List.map_cons,List.map_nil,iOf,bOf,sOf,pOf,slLen,z04,cmpI,arI,Value.ite_bool,z03,z02,z00,z01] at g2
   simp only [Bool.or_eq_false_iff,zdf] at g2
   refine ⟨_,z05,n - 1,by omega,k+1,by omega,?_,rfl,fun q hq=>?_⟩
   ·simp only [ev0,ev,evV,List.cons_append,List.nil_append,List.getD_cons_zero,List.getD_cons_succ,List.map_cons,List.map_nil,iOf,bOf,sOf,pOf,slLen,z04,cmpI,arI,Value.ite_bool,z03,z02,z00,z01];rw [w64 (by omega) (by omega)];rfl
   ·rw [List.take_add_one,hr] at hq
    rcases List.mem_append.1 hq with hq | hq
    ·exact hall q hq
    ·rw [List.mem_singleton.1 hq];omega
 ·simp only [ev0,ev,evV,List.cons_append,List.nil_append,List.getD_cons_zero,List.getD_cons_succ,List.map_cons,List.map_nil,iOf,bOf,sOf,pOf,slLen,z04,cmpI,arI,Value.ite_bool,z03,z02,z00,z01,zdf] at g
  refine ⟨?_,PH.le_refl _⟩
  rw [List.take_of_length_le (by omega)] at hall
  rw [blksOk_iff.2 hall];rfl
abbrev inV (y:InsX) (av dv:Value):List Value:=[txt y.op,.int .i64 y.to,av,.int .i64 y.const.kind,.int .i64 y.const.int,txt y.const.text,dv,.int .i64 y.num]
structure InR (S:PH) (y:InsX) (av dv:Value):Prop where
 op:y.op.length≤maxLen
 to:InI y.to
 args:SlR S y.args av
 ck:InI y.const.kind
 ci:InI y.const.int
 ct:y.const.text.length≤maxLen
 cl:SlR S y.const.list dv
 num:InI y.num
theorem InR.le {S S':PH} {y:InsX} {av dv:Value} (h:InR S y av dv) (l:PH.le S S'):InR S' y av dv:=⟨h.op,h.to,h.args.le l,h.ck,h.ci,h.ct,h.cl.le l,h.num⟩
theorem InR.dat {S:PH} {y:InsX} {av dv:Value} (h:InR S y av dv):y.const.Rep S [.int .i64 y.const.kind,.int .i64 y.const.int,txt y.const.text,dv]:=Dat.Rep_iff.2 ⟨dv,rfl,h.ck,h.ci,h.ct,h.cl⟩
theorem Z62 (S:PH):dat0.Rep S [.int .i64 0,.int .i64 0,txt [],.slice none 0 0]:=Dat.Rep_iff.2 ⟨_,rfl,i0J,i0J,Nat.zero_le _,z49 S⟩
theorem Z29 (d:Dat):decide (d=dat0)=z3u d:=by
 cases h:z3u d with
 | true=>exact decide_eq_true (isDat0_iff.1 h)
 | false=>exact decide_eq_false fun e=>by rw [isDat0_iff.2 e] at h;cases h
section
variable {c:CodeX} {p:PrcX} {y:InsX}
theorem zf5 (h:y.op=z20):insOk c p y=((decide (y.args.length=0) && decide (y.num=0) && z0i p [y.to]) && z2h y.const):=by
 unfold insOk
 rw [if_pos h,h,decide_eq_false (show ¬z20=tieB by decide)]
 by_cases ha:y.args.length=0
 ·have:z0i p y.args=true:=by rw [List.length_eq_zero_iff.1 ha];rfl
  rw [this]
  cases z0i p [y.to]<;>cases hq:z2h y.const<;>simp
 ·simp [ha]
theorem Z2x (h:y.op=movB):insOk c p y=(decide (y.args.length=1) && decide (y.num=0) && z0i p [y.to] && z0i p y.args && z3u y.const):=by
 unfold insOk
 rw [h,decide_eq_false (show ¬movB=tieB by decide),if_neg (show ¬movB=z20 by decide),if_pos rfl]
 cases z0i p y.args<;>cases z0i p [y.to]<;>simp
theorem Z2l (h:y.op=hldB):insOk c p y=(decide (y.args.length=0) && (decide (0≤y.num) && decide (y.num < p.holds)) && z0i p [y.to] && z0i p y.args && z3u y.const):=by
 unfold insOk
 rw [h,decide_eq_false (show ¬hldB=tieB by decide),if_neg (show ¬hldB=z20 by decide),if_neg (show ¬hldB=movB by decide),if_pos rfl]
 cases z0i p y.args<;>cases z0i p [y.to]<;>simp [Bool.and_assoc]
theorem zth (h:y.op=cloB):insOk c p y=(decide (1≤y.num) && decide (y.num < c.length) && (decide ((y.args.length:Int)=(prcAt c y.num).holds) && z0i p [y.to] && z0i p y.args && z3u y.const)):=by
 unfold insOk
 rw [h,decide_eq_false (show ¬cloB=tieB by decide),if_neg (show ¬cloB=z20 by decide),if_neg (show ¬cloB=movB by decide),if_neg (show ¬cloB=hldB by decide),if_pos rfl]
 cases z0i p y.args<;>cases z0i p [y.to]<;>simp [Bool.and_assoc]
theorem Z3r (h:y.op=tieB):insOk c p y=(decide (y.args.length=2) && decide (0≤y.num) && decide (y.to=0) && z0i p y.args && z3u y.const):=by
 unfold insOk
 rw [h,decide_eq_true (show tieB=tieB from rfl),if_neg (show ¬tieB=z20 by decide),if_neg (show ¬tieB=movB by decide),if_neg (show ¬tieB=hldB by decide),if_neg (show ¬tieB=cloB by decide),if_pos rfl]
 cases z0i p y.args<;>simp
theorem Z5u (h:y.op=ccB):insOk c p y=false:=by
 unfold insOk
 rw [h,if_neg (show ¬ccB=z20 by decide),if_neg (show ¬ccB=movB by decide),if_neg (show ¬ccB=hldB by decide),if_neg (show ¬ccB=cloB by decide),if_neg (show ¬ccB=tieB by decide),if_pos rfl]
 split<;>rfl
theorem Z1b (h1:y.op≠z20) (h2:y.op≠movB) (h3:y.op≠hldB) (h4:y.op≠cloB) (h5:y.op≠tieB) (h6:y.op≠ccB):insOk c p y=(decide ((y.args.length:Int)=z3o y.op) && decide (y.num=0) && z0i p [y.to] && z0i p y.args && z3u y.const):=by
 unfold insOk
 rw [if_neg h1,if_neg h2,if_neg h3,if_neg h4,if_neg h5,if_neg h6,decide_eq_false h5]
 have:decide (z3o y.op=(y.args.length:Int))=decide ((y.args.length:Int)=z3o y.op):=by
  by_cases h:z3o y.op=(y.args.length:Int)
  ·rw [decide_eq_true h,decide_eq_true h.symm]
  ·rw [decide_eq_false h,decide_eq_false fun e=>h e.symm]
 rw [this]
 cases z0i p y.args<;>cases z0i p [y.to]<;>simp
theorem Z2p (c:CodeX) (p:PrcX) (y:InsX) (cv bv av dv:Value) (H:PH) (hc:SlR H c cv) (hb:SlR H p.blocks bv) (hy:InR H y av dv):Gives Tryz.prog Z6f [.agg #[cv],.agg (prcVs p bv).toArray,.agg (inV y av dv).toArray] H (.bool (insOk c p y)):=by
 obtain ⟨cb,cc,rfl⟩:=hc.sl
 obtain ⟨bb,bc,rfl⟩:=hb.sl
 obtain ⟨ab,ac,hav⟩:=hy.args.sl
 obtain ⟨db,dc,hdv⟩:=hy.cl.sl
 have hcm:=hc.max
 have ham:=hy.args.max
 have hmx:maxLen=9223372036854775807:=rfl
 refine Z1w ([.slice cb c.length cc]++prcVs p (.slice bb p.blocks.length bc)++inV y av dv) (by rw [hav,hdv];kernel_rfl) (by kernel_rfl) ?_
 simp only [prcVs,inV,List.cons_append,List.nil_append]
 refine z0b [.int .i64 (z3o y.op)] zus (zyw y.op H) rfl z06 fun K1 l1=>?_
 simp only [List.cons_append,List.nil_append]
 refine z0x (α:=Int) (l:=[y.to]) (b:=8) [.int .i64 y.to] z0y z0v rfl (by decide) (by decide) (Held.nil l1) (by kernel_rfl) (.cons (z0o hy.to) .nil) z06 fun v2 K2 h2 _ _=>?_
 have l2:=h2.sh
 simp only [List.cons_append,List.nil_append]
 refine z0b [.bool (z0i p [y.to])] z3s (z31 p [y.to] (.slice bb p.blocks.length bc) v2 K2 (hb.le l2) ((h2.row (zms)).slR l2)) rfl z06 fun K3 l3=>?_
 have l03:=PH.le_trans l2 l3
 have hy3:=hy.le l03
 simp only [List.cons_append,List.nil_append]
 refine ⟨fun vs K=>∃(n:Int) (num to:Bool),vs=[.int .i64 n,.bool num,.bool to]∧K=K3∧(decide ((y.args.length:Int)=n) && num && to && z0i p y.args && z3u y.const)=insOk c p y,?_,fun g=>?_,fun g=>?_⟩
 ·rintro vs K _ ⟨n,num,to,rfl,rfl,hins⟩
  simp only [List.cons_append,List.nil_append]
  refine ⟨fun vs K=>vs=[.bool (insOk c p y)]∧PH.le H K,?_,fun g=>?_,fun g=>?_⟩
  ·rintro vs K _ ⟨rfl,hK⟩
   exact ⟨rfl,hK⟩
  ·simp only [ev0,ev,evV,List.cons_append,List.nil_append,List.getD_cons_zero,List.getD_cons_succ,List.map_cons,List.map_nil,iOf,bOf,sOf,pOf,slLen,z04,cmpI,arI,Value.ite_bool,z03,z02,z00,z01] at g
   rw [hav] at g
   simp only [slLen,zba,zdt] at g
   refine z0b [.bool (z0i p y.args)] z3s (z31 p y.args (.slice bb p.blocks.length bc) av K (hb.le l03) hy3.args) rfl z06 fun K4 l4=>?_
   simp only [List.cons_append,List.nil_append]
   refine ⟨fun g2=>?_,fun g2=>?_⟩
   ·simp only [ev0,ev,evV,List.cons_append,List.nil_append,List.getD_cons_zero,List.getD_cons_succ,List.map_cons,List.map_nil,iOf,bOf,sOf,pOf,slLen,z04,cmpI,arI,Value.ite_bool,z03,z02,z00,z01] at g2
    refine z0b [.bool (decide (y.const=dat0))] zjj (zz6 y.const dat0 _ _ K4 (hy3.le l4).dat (Z62 K4)) rfl z06 fun K5 l5=>?_
    refine ⟨_,z05,?_,PH.le_trans l03 (PH.le_trans l4 l5)⟩
    simp only [ev0,ev,evV,List.cons_append,List.nil_append,List.getD_cons_zero,List.getD_cons_succ,List.map_cons,List.map_nil,iOf,bOf,sOf,pOf,slLen,z04,cmpI,arI,Value.ite_bool,z03,z02,z00,z01,Z29]
    rw [←hins,g2];simp [g]
   ·simp only [ev0,ev,evV,List.cons_append,List.nil_append,List.getD_cons_zero,List.getD_cons_succ,List.map_cons,List.map_nil,iOf,bOf,sOf,pOf,slLen,z04,cmpI,arI,Value.ite_bool,z03,z02,z00,z01] at g2
    refine ⟨_,z05,?_,PH.le_trans l03 l4⟩
    rw [←hins,g2];simp only [Bool.and_false,Bool.false_and];rfl
  ·simp only [ev0,ev,evV,List.cons_append,List.nil_append,List.getD_cons_zero,List.getD_cons_succ,List.map_cons,List.map_nil,iOf,bOf,sOf,pOf,slLen,z04,cmpI,arI,Value.ite_bool,z03,z02,z00,z01] at g
   rw [hav] at g
   simp only [slLen] at g
   refine ⟨_,z05,?_,l03⟩
   rw [←hins,g];simp only [Bool.false_and];rfl
 ·simp only [ev0,ev,evV,List.cons_append,List.nil_append,List.getD_cons_zero,List.getD_cons_succ,List.map_cons,List.map_nil,iOf,bOf,sOf,pOf,slLen,z04,cmpI,arI,Value.ite_bool,z03,z02,z00,z01,z1b,zdt] at g
  have hop:y.op=z20:=g
  refine ⟨fun vs K=>vs=[.bool (insOk c p y)]∧PH.le H K,?_,fun g=>?_,fun g=>?_⟩
  ·rintro vs K _ ⟨rfl,hK⟩
   exact ⟨rfl,hK⟩
  ·simp only [ev0,ev,evV,List.cons_append,List.nil_append,List.getD_cons_zero,List.getD_cons_succ,List.map_cons,List.map_nil,iOf,bOf,sOf,pOf,slLen,z04,cmpI,arI,Value.ite_bool,z03,z02,z00,z01] at g
   rw [hav] at g
   simp only [slLen] at g
   refine z0b [.bool (z2h y.const)] ztt (zrz y.const _ K3 hy3.dat) rfl z06 fun K4 l4=>?_
   refine ⟨_,z05,?_,PH.le_trans l03 l4⟩
   simp only [ev0,ev,evV,List.cons_append,List.nil_append,List.getD_cons_zero,List.getD_cons_succ,List.map_cons,List.map_nil,iOf,bOf,sOf,pOf,slLen,z04,cmpI,arI,Value.ite_bool,z03,z02,z00,z01]
   rw [zf5 hop]
   simp only [zba,zdt] at g
   simp [show y.args.length=0 by omega,g]
  ·simp only [ev0,ev,evV,List.cons_append,List.nil_append,List.getD_cons_zero,List.getD_cons_succ,List.map_cons,List.map_nil,iOf,bOf,sOf,pOf,slLen,z04,cmpI,arI,Value.ite_bool,z03,z02,z00,z01] at g
   rw [hav] at g
   simp only [slLen] at g
   refine ⟨_,z05,?_,l03⟩
   rw [zf5 hop]
   have:(decide (y.args.length=0) && decide (y.num=0) && z0i p [y.to])=false:=by rw [←g];simp
   rw [this];rfl
 simp only [ev0,ev,evV,List.cons_append,List.nil_append,List.getD_cons_zero,List.getD_cons_succ,List.map_cons,List.map_nil,iOf,bOf,sOf,pOf,slLen,z04,cmpI,arI,Value.ite_bool,z03,z02,z00,z01,z1b,zdf] at g
 have n1:y.op≠z20:=g
 refine ⟨fun g=>?_,fun g=>?_⟩
 ·simp only [ev0,ev,evV,List.cons_append,List.nil_append,List.getD_cons_zero,List.getD_cons_succ,List.map_cons,List.map_nil,iOf,bOf,sOf,pOf,slLen,z04,cmpI,arI,Value.ite_bool,z03,z02,z00,z01,z1b,zdt] at g
  refine ⟨_,z05,1,decide (y.num=0),z0i p [y.to],by simp only [ev0,ev,evV,List.cons_append,List.nil_append,List.getD_cons_zero,List.getD_cons_succ,List.map_cons,List.map_nil,iOf,bOf,sOf,pOf,slLen,z04,cmpI,arI,Value.ite_bool,z03,z02,z00,z01],rfl,?_⟩
  rw [Z2x g]
  simp [show ((y.args.length:Int)=1)=(y.args.length=1) from propext (by omega)]
 simp only [ev0,ev,evV,List.cons_append,List.nil_append,List.getD_cons_zero,List.getD_cons_succ,List.map_cons,List.map_nil,iOf,bOf,sOf,pOf,slLen,z04,cmpI,arI,Value.ite_bool,z03,z02,z00,z01,z1b,zdf] at g
 have n2:y.op≠movB:=g
 refine ⟨fun g=>?_,fun g=>?_⟩
 ·simp only [ev0,ev,evV,List.cons_append,List.nil_append,List.getD_cons_zero,List.getD_cons_succ,List.map_cons,List.map_nil,iOf,bOf,sOf,pOf,slLen,z04,cmpI,arI,Value.ite_bool,z03,z02,z00,z01,z1b,zdt] at g
  refine ⟨_,z05,0,decide (0≤y.num) && decide (y.num < p.holds),z0i p [y.to],by simp only [ev0,ev,evV,List.cons_append,List.nil_append,List.getD_cons_zero,List.getD_cons_succ,List.map_cons,List.map_nil,iOf,bOf,sOf,pOf,slLen,z04,cmpI,arI,Value.ite_bool,z03,z02,z00,z01,ge_iff_le],rfl,?_⟩
  rw [Z2l g]
  simp [show ((y.args.length:Int)=0)=(y.args.length=0) from propext (by omega)]
 simp only [ev0,ev,evV,List.cons_append,List.nil_append,List.getD_cons_zero,List.getD_cons_succ,List.map_cons,List.map_nil,iOf,bOf,sOf,pOf,slLen,z04,cmpI,arI,Value.ite_bool,z03,z02,z00,z01,z1b,zdf] at g
 have n3:y.op≠hldB:=g
 refine ⟨fun g=>?_,fun g=>?_⟩
 ·simp only [ev0,ev,evV,List.cons_append,List.nil_append,List.getD_cons_zero,List.getD_cons_succ,List.map_cons,List.map_nil,iOf,bOf,sOf,pOf,slLen,z04,cmpI,arI,Value.ite_bool,z03,z02,z00,z01,z1b,zdt] at g
  have hop:y.op=cloB:=g
  refine ⟨fun g=>?_,fun g=>?_⟩
  ·simp only [ev0,ev,evV,List.cons_append,List.nil_append,List.getD_cons_zero,List.getD_cons_succ,List.map_cons,List.map_nil,iOf,bOf,sOf,pOf,slLen,z04,cmpI,arI,Value.ite_bool,z03,z02,z00,z01] at g
   simp only [Bool.or_eq_true,zdt] at g
   refine ⟨?_,l03⟩
   have:insOk c p y=false:=by
    rw [zth hop]
    have:(decide (1≤y.num) && decide (y.num < c.length))=false:=by
     rw [Bool.and_eq_false_iff,zdf,zdf];omega
    rw [this];rfl
   rw [this];rfl
  ·simp only [ev0,ev,evV,List.cons_append,List.nil_append,List.getD_cons_zero,List.getD_cons_succ,List.map_cons,List.map_nil,iOf,bOf,sOf,pOf,slLen,z04,cmpI,arI,Value.ite_bool,z03,z02,z00,z01] at g
   simp only [Bool.or_eq_false_iff,zdf] at g
   obtain ⟨_,hq⟩:=Z4l (c:=c) (i:=y.num) (by omega) (by omega)
   obtain ⟨x1,_,cs,x2,x3⟩:=(hc.le l03).get hq
   obtain ⟨qv,rfl,p1,p2,p3,p4⟩:=prc_iff.1 x2
   rw [show ((y.num.toNat:Nat):Int)=y.num by omega] at x3
   refine ⟨fun _=>?_,[.int .i64 (prcAt c y.num).holds],rfl,?_,_,z05,_,_,_,rfl,rfl,?_⟩
   ·simp only [Chk.holds,ev0,ev,evV,List.cons_append,List.nil_append,List.getD_cons_zero,List.getD_cons_succ,List.map_cons,List.map_nil,iOf,bOf,sOf,pOf,slLen,z04,cmpI,arI,Value.ite_bool,z03,z02,z00,z01];exact ⟨x1,by omega,by omega⟩
   ·simp only [ev0,ev,evV,List.cons_append,List.nil_append,List.getD_cons_zero,List.getD_cons_succ,List.map_cons,List.map_nil,iOf,bOf,sOf,pOf,slLen,z04,cmpI,arI,Value.ite_bool,z03,z02,z00,z01]
    exact z3t x3 1 1
   ·rw [zth hop]
    have:(decide (1≤y.num) && decide (y.num < c.length))=true:=by
     rw [zba,zdt,zdt];omega
    rw [this];simp
 simp only [ev0,ev,evV,List.cons_append,List.nil_append,List.getD_cons_zero,List.getD_cons_succ,List.map_cons,List.map_nil,iOf,bOf,sOf,pOf,slLen,z04,cmpI,arI,Value.ite_bool,z03,z02,z00,z01,z1b,zdf] at g
 have n4:y.op≠cloB:=g
 refine ⟨fun g=>?_,fun g=>?_⟩
 ·simp only [ev0,ev,evV,List.cons_append,List.nil_append,List.getD_cons_zero,List.getD_cons_succ,List.map_cons,List.map_nil,iOf,bOf,sOf,pOf,slLen,z04,cmpI,arI,Value.ite_bool,z03,z02,z00,z01,z1b,zdt] at g
  refine ⟨_,z05,2,decide (0≤y.num),decide (y.to=0),by simp only [ev0,ev,evV,List.cons_append,List.nil_append,List.getD_cons_zero,List.getD_cons_succ,List.map_cons,List.map_nil,iOf,bOf,sOf,pOf,slLen,z04,cmpI,arI,Value.ite_bool,z03,z02,z00,z01,ge_iff_le],rfl,?_⟩
  rw [Z3r g]
  simp [show ((y.args.length:Int)=2)=(y.args.length=2) from propext (by omega)]
 simp only [ev0,ev,evV,List.cons_append,List.nil_append,List.getD_cons_zero,List.getD_cons_succ,List.map_cons,List.map_nil,iOf,bOf,sOf,pOf,slLen,z04,cmpI,arI,Value.ite_bool,z03,z02,z00,z01,z1b,zdf] at g
 have n5:y.op≠tieB:=g
 refine ⟨fun g=>?_,fun g=>?_⟩
 ·simp only [ev0,ev,evV,List.cons_append,List.nil_append,List.getD_cons_zero,List.getD_cons_succ,List.map_cons,List.map_nil,iOf,bOf,sOf,pOf,slLen,z04,cmpI,arI,Value.ite_bool,z03,z02,z00,z01,z1b,zdt] at g
  refine ⟨?_,l03⟩
  rw [Z5u g];rfl
 simp only [ev0,ev,evV,List.cons_append,List.nil_append,List.getD_cons_zero,List.getD_cons_succ,List.map_cons,List.map_nil,iOf,bOf,sOf,pOf,slLen,z04,cmpI,arI,Value.ite_bool,z03,z02,z00,z01,z1b,zdf] at g
 refine ⟨_,z05,z3o y.op,decide (y.num=0),z0i p [y.to],by simp only [ev0,ev,evV,List.cons_append,List.nil_append,List.getD_cons_zero,List.getD_cons_succ,List.map_cons,List.map_nil,iOf,bOf,sOf,pOf,slLen,z04,cmpI,arI,Value.ite_bool,z03,z02,z00,z01],rfl,?_⟩
 rw [Z1b n1 n2 n3 n4 n5 g]
end
abbrev enV (e:EndX) (av:Value):List Value:=[.int .i64 e.kind,.int .i64 e.reg,av,.int .i64 e.to,.int .i64 e.next,.int .i64 e.els]
structure EnR (S:PH) (e:EndX) (av:Value):Prop where
 kind:InI e.kind
 reg:InI e.reg
 args:SlR S e.args av
 to:InI e.to
 next:InI e.next
 els:InI e.els
theorem EnR.le {S S':PH} {e:EndX} {av:Value} (h:EnR S e av) (l:PH.le S S'):EnR S' e av:=⟨h.kind,h.reg,h.args.le l,h.to,h.next,h.els⟩
section
variable {c:CodeX} {p:PrcX} {e:EndX}
theorem blks1 (n:Int):z6k p [n]=(decide (0≤n) && decide (n < p.blocks.length)):=by
 unfold z6k
 rw [List.all_cons,List.all_nil,Bool.and_true,Bool.decide_and]
theorem regs2 (a b:Int):z0i p [a,b]=(z0i p [a] && z0i p [b]):=by
 unfold z0i
 simp only [List.all_cons,List.all_nil,Bool.and_true]
theorem z9k {α:Type} (l:List α):decide ((l.length:Int)=0)=l.isEmpty:=zhs l
theorem Z1f (p:PrcX) (e:EndX) (bv av:Value) (H:PH) (hb:SlR H p.blocks bv) (he:EnR H e av):Gives Tryz.prog Z76 [.agg (prcVs p bv).toArray,.agg (enV e av).toArray] H (.bool (finOk p e)):=by
 obtain ⟨bb,bc,rfl⟩:=hb.sl
 obtain ⟨ab,ac,rfl⟩:=he.args.sl
 have ham:=he.args.max
 have hmx:maxLen=9223372036854775807:=rfl
 refine Z2i (prcVs p (.slice bb p.blocks.length bc)++enV e (.slice ab e.args.length ac)) (by kernel_rfl) (by kernel_rfl) ?_
 simp only [prcVs,enV,List.cons_append,List.nil_append]
 refine ⟨fun vs K=>vs=[.bool (z0i p e.args && decide (e.args.length≤6))]∧PH.le H K,?_,fun g=>?_,fun g=>?_⟩
 rotate_left
 ·simp only [ev0,ev,evV,List.cons_append,List.nil_append,List.getD_cons_zero,List.getD_cons_succ,List.map_cons,List.map_nil,iOf,bOf,sOf,pOf,slLen,z04,cmpI,arI,Value.ite_bool,z03,z02,z00,z01,zdt] at g
  refine z0b [.bool (z0i p e.args)] z3s (z31 p e.args (.slice bb p.blocks.length bc) (.slice ab e.args.length ac) H hb he.args) rfl z06 fun K1 l1=>?_
  refine ⟨_,z05,?_,l1⟩
  rw [decide_eq_true (show e.args.length≤6 by omega),Bool.and_true];rfl
 ·simp only [ev0,ev,evV,List.cons_append,List.nil_append,List.getD_cons_zero,List.getD_cons_succ,List.map_cons,List.map_nil,iOf,bOf,sOf,pOf,slLen,z04,cmpI,arI,Value.ite_bool,z03,z02,z00,z01,zdf] at g
  refine ⟨_,z05,?_,PH.le_refl _⟩
  rw [decide_eq_false (show ¬e.args.length≤6 by omega),Bool.and_false];rfl
 rintro vs K1 _ ⟨rfl,l1⟩
 simp only [List.cons_append,List.nil_append]
 refine z0x (α:=Int) (l:=[e.next]) (b:=8) [.int .i64 e.next] z0y z0v rfl (by decide) (by decide) (Held.nil l1) (by kernel_rfl) (.cons (z0o he.next) .nil) z06 fun v2 K2 h2 _ _=>?_
 have l2:=h2.sh
 simp only [List.cons_append,List.nil_append]
 refine z0b [.bool (z6k p [e.next])] zk5 (zjp p [e.next] (.slice bb p.blocks.length bc) v2 K2 (hb.le l2) ((h2.row (zms)).slR l2)) rfl z06 fun K3 l3=>?_
 have l03:=PH.le_trans l2 l3
 simp only [List.cons_append,List.nil_append]
 generalize hN:z6k p [e.next]=nx
 rw [blks1] at hN
 generalize hA:(z0i p e.args && decide (e.args.length≤6))=ag
 refine ⟨fun g=>?_,fun g=>?_⟩
 ·simp only [ev0,ev,evV,List.cons_append,List.nil_append,List.getD_cons_zero,List.getD_cons_succ,List.map_cons,List.map_nil,iOf,bOf,sOf,pOf,slLen,z04,cmpI,arI,Value.ite_bool,z03,z02,z00,z01,zdt] at g
  refine ⟨?_,l03⟩
  have hfin:finOk p e=(nx && e.args.isEmpty && decide (e.reg=0) && decide (e.to=0) && decide (e.els=0)):=by
   unfold finOk
   simp only [if_pos g,hN]
  simp only [ev0,ev,evV,List.cons_append,List.nil_append,List.getD_cons_zero,List.getD_cons_succ,List.map_cons,List.map_nil,iOf,bOf,sOf,pOf,slLen,z04,cmpI,arI,Value.ite_bool,z03,z02,z00,z01,z9k]
  rw [hfin]
 simp only [ev0,ev,evV,List.cons_append,List.nil_append,List.getD_cons_zero,List.getD_cons_succ,List.map_cons,List.map_nil,iOf,bOf,sOf,pOf,slLen,z04,cmpI,arI,Value.ite_bool,z03,z02,z00,z01,zdf] at g
 have n0:=g
 refine ⟨fun g=>?_,fun g=>?_⟩
 ·simp only [ev0,ev,evV,List.cons_append,List.nil_append,List.getD_cons_zero,List.getD_cons_succ,List.map_cons,List.map_nil,iOf,bOf,sOf,pOf,slLen,z04,cmpI,arI,Value.ite_bool,z03,z02,z00,z01,zdt] at g
  have hfin:finOk p e=(nx && (decide (0≤e.els) && decide (e.els < p.blocks.length)) && e.args.isEmpty && z0i p [e.reg] && decide (e.to=0)):=by
   unfold finOk
   simp only [if_neg n0,if_pos g,hN]
  refine ⟨fun vs K=>vs=[.bool (finOk p e)]∧PH.le H K,?_,fun g2=>?_,fun g2=>?_⟩
  ·rintro vs K _ ⟨rfl,hK⟩
   exact ⟨rfl,hK⟩
  ·simp only [ev0,ev,evV,List.cons_append,List.nil_append,List.getD_cons_zero,List.getD_cons_succ,List.map_cons,List.map_nil,iOf,bOf,sOf,pOf,slLen,z04,cmpI,arI,Value.ite_bool,z03,z02,z00,z01] at g2
   rw [z9k] at g2
   simp only [zba] at g2
   refine z0x (α:=Int) (l:=[e.reg]) (b:=8) [.int .i64 e.reg] z0y z0v rfl (by decide) (by decide) (Held.nil l03) (by kernel_rfl) (.cons (z0o he.reg) .nil) z06 fun v4 K4 h4 _ _=>?_
   have l4:=h4.sh
   simp only [List.cons_append,List.nil_append]
   refine z0b [.bool (z0i p [e.reg])] z3s (z31 p [e.reg] (.slice bb p.blocks.length bc) v4 K4 (hb.le l4) ((h4.row (zms)).slR l4)) rfl z06 fun K5 l5=>?_
   simp only [List.cons_append,List.nil_append]
   refine ⟨fun g3=>?_,fun g3=>?_⟩
   ·simp only [ev0,ev,evV,List.cons_append,List.nil_append,List.getD_cons_zero,List.getD_cons_succ,List.map_cons,List.map_nil,iOf,bOf,sOf,pOf,slLen,z04,cmpI,arI,Value.ite_bool,z03,z02,z00,z01] at g3
    refine z0x (α:=Int) (l:=[e.els]) (b:=8) [.int .i64 e.els] z0y z0v rfl (by decide) (by decide) (Held.nil (PH.le_trans l4 l5)) (by kernel_rfl) (.cons (z0o he.els) .nil) z06 fun v6 K6 h6 _ _=>?_
    have l6:=h6.sh
    simp only [List.cons_append,List.nil_append]
    refine z0b [.bool (z6k p [e.els])] zk5 (zjp p [e.els] (.slice bb p.blocks.length bc) v6 K6 (hb.le l6) ((h6.row (zms)).slR l6)) rfl z06 fun K7 l7=>?_
    refine ⟨_,z05,?_,PH.le_trans l6 l7⟩
    simp only [ev0,ev,evV,List.cons_append,List.nil_append,List.getD_cons_zero,List.getD_cons_succ,List.map_cons,List.map_nil,iOf,bOf,sOf,pOf,slLen,z04,cmpI,arI,Value.ite_bool,z03,z02,z00,z01,blks1]
    rw [hfin,g2.1,g2.2,g3]
    simp
   ·simp only [ev0,ev,evV,List.cons_append,List.nil_append,List.getD_cons_zero,List.getD_cons_succ,List.map_cons,List.map_nil,iOf,bOf,sOf,pOf,slLen,z04,cmpI,arI,Value.ite_bool,z03,z02,z00,z01] at g3
    refine ⟨_,z05,?_,PH.le_trans l4 l5⟩
    rw [hfin,g3,Bool.and_false,Bool.false_and];rfl
  ·simp only [ev0,ev,evV,List.cons_append,List.nil_append,List.getD_cons_zero,List.getD_cons_succ,List.map_cons,List.map_nil,iOf,bOf,sOf,pOf,slLen,z04,cmpI,arI,Value.ite_bool,z03,z02,z00,z01] at g2
   rw [z9k] at g2
   refine ⟨_,z05,?_,l03⟩
   have:finOk p e=false:=by
    rw [hfin]
    rcases Bool.and_eq_false_iff.1 g2 with h | h<;>rw [h]<;>simp
   rw [this];rfl
 simp only [ev0,ev,evV,List.cons_append,List.nil_append,List.getD_cons_zero,List.getD_cons_succ,List.map_cons,List.map_nil,iOf,bOf,sOf,pOf,slLen,z04,cmpI,arI,Value.ite_bool,z03,z02,z00,z01,zdf] at g
 have n1:=g
 refine ⟨fun g=>?_,fun g=>?_⟩
 ·have g':e.kind=2∨e.kind=5:=by
   simp only [ev0,ev,evV,List.cons_append,List.nil_append,List.getD_cons_zero,List.getD_cons_succ,List.map_cons,List.map_nil,iOf,bOf,sOf,pOf,slLen,z04,cmpI,arI,Value.ite_bool,z03,z02,z00,z01] at g
   by_cases h:e.kind=2
   ·exact .inl h
   ·exact .inr (by simpa [h] using g)
  have hfin:finOk p e=(z0i p [e.reg] && e.args.isEmpty && decide (e.to=0) && decide (e.next=0) && decide (e.els=0)):=by
   unfold finOk
   simp only [if_neg n0,if_neg n1,if_pos g']
  refine z0x (α:=Int) (l:=[e.reg]) (b:=8) [.int .i64 e.reg] z0y z0v rfl (by decide) (by decide) (Held.nil l03) (by kernel_rfl) (.cons (z0o he.reg) .nil) z06 fun v4 K4 h4 _ _=>?_
  have l4:=h4.sh
  simp only [List.cons_append,List.nil_append]
  refine z0b [.bool (z0i p [e.reg])] z3s (z31 p [e.reg] (.slice bb p.blocks.length bc) v4 K4 (hb.le l4) ((h4.row (zms)).slR l4)) rfl z06 fun K5 l5=>?_
  refine ⟨?_,PH.le_trans l4 l5⟩
  simp only [ev0,ev,evV,List.cons_append,List.nil_append,List.getD_cons_zero,List.getD_cons_succ,List.map_cons,List.map_nil,iOf,bOf,sOf,pOf,slLen,z04,cmpI,arI,Value.ite_bool,z03,z02,z00,z01,z9k]
  rw [hfin]
 have n25:¬(e.kind=2∨e.kind=5):=by
  simp only [ev0,ev,evV,List.cons_append,List.nil_append,List.getD_cons_zero,List.getD_cons_succ,List.map_cons,List.map_nil,iOf,bOf,sOf,pOf,slLen,z04,cmpI,arI,Value.ite_bool,z03,z02,z00,z01] at g
  by_cases h:e.kind=2
  ·simp [h] at g
  ·simpa [h] using g
 refine ⟨fun g=>?_,fun g=>?_⟩
 ·simp only [ev0,ev,evV,List.cons_append,List.nil_append,List.getD_cons_zero,List.getD_cons_succ,List.map_cons,List.map_nil,iOf,bOf,sOf,pOf,slLen,z04,cmpI,arI,Value.ite_bool,z03,z02,z00,z01,zdt] at g
  have hfin:finOk p e=(z0i p [e.reg] && ag && decide (e.to=0) && decide (e.next=0) && decide (e.els=0)):=by
   unfold finOk
   simp only [if_neg n0,if_neg n1,if_neg n25,if_pos g,hA]
  refine z0x (α:=Int) (l:=[e.reg]) (b:=8) [.int .i64 e.reg] z0y z0v rfl (by decide) (by decide) (Held.nil l03) (by kernel_rfl) (.cons (z0o he.reg) .nil) z06 fun v4 K4 h4 _ _=>?_
  have l4:=h4.sh
  simp only [List.cons_append,List.nil_append]
  refine z0b [.bool (z0i p [e.reg])] z3s (z31 p [e.reg] (.slice bb p.blocks.length bc) v4 K4 (hb.le l4) ((h4.row (zms)).slR l4)) rfl z06 fun K5 l5=>?_
  refine ⟨?_,PH.le_trans l4 l5⟩
  simp only [ev0,ev,evV,List.cons_append,List.nil_append,List.getD_cons_zero,List.getD_cons_succ,List.map_cons,List.map_nil,iOf,bOf,sOf,pOf,slLen,z04,cmpI,arI,Value.ite_bool,z03,z02,z00,z01,z9k]
  rw [hfin]
 simp only [ev0,ev,evV,List.cons_append,List.nil_append,List.getD_cons_zero,List.getD_cons_succ,List.map_cons,List.map_nil,iOf,bOf,sOf,pOf,slLen,z04,cmpI,arI,Value.ite_bool,z03,z02,z00,z01,zdf] at g
 have n3:=g
 refine ⟨fun g=>?_,fun g=>?_⟩
 ·simp only [ev0,ev,evV,List.cons_append,List.nil_append,List.getD_cons_zero,List.getD_cons_succ,List.map_cons,List.map_nil,iOf,bOf,sOf,pOf,slLen,z04,cmpI,arI,Value.ite_bool,z03,z02,z00,z01,zdt] at g
  have hfin:finOk p e=(z0i p [e.reg] && ag && z0i p [e.to] && nx && decide (e.els=0)):=by
   unfold finOk
   simp only [if_neg n0,if_neg n1,if_neg n25,if_neg n3,if_pos g,hA,hN]
  refine z0x (α:=Int) (l:=[e.reg,e.to]) (b:=8) [.int .i64 e.reg,.int .i64 e.to] z0y z0v rfl (by decide) (by decide) (Held.nil l03) (by kernel_rfl) (.cons (z0o he.reg) (.cons (z0o he.to) .nil)) z06 fun v4 K4 h4 _ _=>?_
  have l4:=h4.sh
  simp only [List.cons_append,List.nil_append]
  refine z0b [.bool (z0i p [e.reg,e.to])] z3s (z31 p [e.reg,e.to] (.slice bb p.blocks.length bc) v4 K4 (hb.le l4) ((h4.row (zms)).slR l4)) rfl z06 fun K5 l5=>?_
  refine ⟨?_,PH.le_trans l4 l5⟩
  simp only [ev0,ev,evV,List.cons_append,List.nil_append,List.getD_cons_zero,List.getD_cons_succ,List.map_cons,List.map_nil,iOf,bOf,sOf,pOf,slLen,z04,cmpI,arI,Value.ite_bool,z03,z02,z00,z01,z9k]
  rw [hfin,regs2]
  cases z0i p [e.reg]<;>cases z0i p [e.to]<;>cases ag<;>simp
 simp only [ev0,ev,evV,List.cons_append,List.nil_append,List.getD_cons_zero,List.getD_cons_succ,List.map_cons,List.map_nil,iOf,bOf,sOf,pOf,slLen,z04,cmpI,arI,Value.ite_bool,z03,z02,z00,z01,zdf] at g
 have n4:=g
 refine ⟨fun g=>?_,fun g=>?_⟩
 ·simp only [ev0,ev,evV,List.cons_append,List.nil_append,List.getD_cons_zero,List.getD_cons_succ,List.map_cons,List.map_nil,iOf,bOf,sOf,pOf,slLen,z04,cmpI,arI,Value.ite_bool,z03,z02,z00,z01,zdt] at g
  have hfin:finOk p e=(z0i p [e.reg] && e.args.isEmpty && z0i p [e.to] && nx && decide (e.els=0)):=by
   unfold finOk
   simp only [if_neg n0,if_neg n1,if_neg n25,if_neg n3,if_neg n4,if_pos g,hN]
  refine z0x (α:=Int) (l:=[e.reg,e.to]) (b:=8) [.int .i64 e.reg,.int .i64 e.to] z0y z0v rfl (by decide) (by decide) (Held.nil l03) (by kernel_rfl) (.cons (z0o he.reg) (.cons (z0o he.to) .nil)) z06 fun v4 K4 h4 _ _=>?_
  have l4:=h4.sh
  simp only [List.cons_append,List.nil_append]
  refine z0b [.bool (z0i p [e.reg,e.to])] z3s (z31 p [e.reg,e.to] (.slice bb p.blocks.length bc) v4 K4 (hb.le l4) ((h4.row (zms)).slR l4)) rfl z06 fun K5 l5=>?_
  refine ⟨?_,PH.le_trans l4 l5⟩
  simp only [ev0,ev,evV,List.cons_append,List.nil_append,List.getD_cons_zero,List.getD_cons_succ,List.map_cons,List.map_nil,iOf,bOf,sOf,pOf,slLen,z04,cmpI,arI,Value.ite_bool,z03,z02,z00,z01,z9k]
  rw [hfin,regs2]
  cases z0i p [e.reg]<;>cases z0i p [e.to]<;>cases e.args.isEmpty<;>simp
 simp only [ev0,ev,evV,List.cons_append,List.nil_append,List.getD_cons_zero,List.getD_cons_succ,List.map_cons,List.map_nil,iOf,bOf,sOf,pOf,slLen,z04,cmpI,arI,Value.ite_bool,z03,z02,z00,z01,zdf] at g
 refine ⟨?_,l03⟩
 have:finOk p e=false:=by
  unfold finOk
  simp only [if_neg n0,if_neg n1,if_neg n25,if_neg n3,if_neg n4,if_neg g]
 rw [this];rfl
theorem zyq (c:CodeX) (p:PrcX) (cv bv:Value) (H:PH) (hc:SlR H c cv) (hb:SlR H p.blocks bv):Gives Tryz.prog Z3d [.agg #[cv],.agg (prcVs p bv).toArray] H (.bool (prcOk c p)):=by
 obtain ⟨cb,cc,rfl⟩:=hc.sl
 obtain ⟨bb,bc,rfl⟩:=hb.sl
 have hbm:=hb.max
 have hmx:maxLen=9223372036854775807:=rfl
 have upk:∀{k m:Nat},k < m→m≤maxLen→IntKind.i64.wrap ((k:Int)+1)=((k+1:Nat):Int):=fun h1 h2=>by rw [w64 (by omega) (by omega)];rfl
 refine zyz ([.slice cb c.length cc]++prcVs p (.slice bb p.blocks.length bc)) (by kernel_rfl) (by kernel_rfl) ?_
 simp only [prcVs,List.cons_append,List.nil_append]
 have hP:prcOk c p=((decide (0≤p.params) && decide (p.params≤6) && decide (0≤p.holds) && decide (p.holds≤1000) && decide (p.params≤p.regs) && !p.blocks.isEmpty) && p.blocks.all fun b=>b.ins.all (insOk c p) && finOk p b.e):=rfl
 have bad:∀{b:BlkX},b∈p.blocks→(b.ins.all (insOk c p) && finOk p b.e)=false→prcOk c p=false:=fun {b} hbm hf=>by
  rw [hP]
  have:(p.blocks.all fun b=>b.ins.all (insOk c p) && finOk p b.e)=false:=by
   rw [List.all_eq_false]
   exact ⟨b,hbm,by rw [hf];simp⟩
  rw [this,Bool.and_false]
 refine ⟨fun g=>?_,fun g=>?_⟩
 ·simp only [ev0,ev,evV,List.cons_append,List.nil_append,List.getD_cons_zero,List.getD_cons_succ,List.map_cons,List.map_nil,iOf,bOf,sOf,pOf,slLen,z04,cmpI,arI,Value.ite_bool,z03,z02,z00,z01] at g
  simp only [Bool.or_eq_true,zdt] at g
  refine ⟨?_,PH.le_refl _⟩
  have:(decide (0≤p.params) && decide (p.params≤6) && decide (0≤p.holds) && decide (p.holds≤1000) && decide (p.params≤p.regs) && !p.blocks.isEmpty)=false:=by
   rw [←zhs p.blocks]
   by_cases h:(decide (0≤p.params) && decide (p.params≤6) && decide (0≤p.holds) && decide (p.holds≤1000) && decide (p.params≤p.regs) && !decide ((p.blocks.length:Int)=0))=true
   ·simp only [zba,zdt,Bool.not_eq_true',zdf] at h
    omega
   ·simpa using h
  rw [hP,this,Bool.false_and];rfl
 simp only [ev0,ev,evV,List.cons_append,List.nil_append,List.getD_cons_zero,List.getD_cons_succ,List.map_cons,List.map_nil,iOf,bOf,sOf,pOf,slLen,z04,cmpI,arI,Value.ite_bool,z03,z02,z00,z01] at g
 simp only [Bool.or_eq_false_iff,zdf] at g
 have hok:prcOk c p=p.blocks.all fun b=>b.ins.all (insOk c p) && finOk p b.e:=by
  rw [hP]
  have:(decide (0≤p.params) && decide (p.params≤6) && decide (0≤p.holds) && decide (p.holds≤1000) && decide (p.params≤p.regs) && !p.blocks.isEmpty)=true:=by
   rw [←zhs p.blocks]
   simp only [zba,zdt,Bool.not_eq_true',zdf]
   omega
  rw [this,Bool.true_and]
 refine ⟨fun n vs K=>∃k:Nat,k+n=p.blocks.length∧vs=[.bool false,nI k]∧PH.le H K∧∀b∈p.blocks.take k,(b.ins.all (insOk c p) && finOk p b.e)=true,⟨p.blocks.length,0,by omega,rfl,PH.le_refl _,by simp⟩,?_⟩
 rintro n vs K _ ⟨k,hkn,rfl,hK,hall⟩
 simp only [List.cons_append,List.nil_append]
 refine ⟨fun g2=>?_,fun g2=>?_⟩
 ·simp only [ev0,ev,evV,List.cons_append,List.nil_append,List.getD_cons_zero,List.getD_cons_succ,List.map_cons,List.map_nil,iOf,bOf,sOf,pOf,slLen,z04,cmpI,arI,Value.ite_bool,z03,z02,z00,z01,zdt] at g2
  obtain ⟨b,hbk⟩:∃b,p.blocks[k]?=some b:=⟨_,zge (by omega)⟩
  have hbmem:=List.mem_of_getElem? hbk
  obtain ⟨y1,_,ycs,y2,y3⟩:=(hb.le hK).get hbk
  obtain ⟨iv,es,rfl,i1,i2⟩:=blk_iff.1 y2
  obtain ⟨ib,ic,rfl⟩:=i1.sl
  have him:=i1.max
  obtain ⟨av,rfl,e1,e2,e3,e4,e5,e6⟩:=end_iff.1 i2
  obtain ⟨ab,ac,hav⟩:=e3.sl
  refine ⟨fun _=>?_,[.slice ib b.ins.length ic,.int .i64 b.e.kind,.int .i64 b.e.reg,av,.int .i64 b.e.to,.int .i64 b.e.next,.int .i64 b.e.els],by rw [hav];rfl,by simp only [ev0,ev,evV,List.cons_append,List.nil_append,List.getD_cons_zero,List.getD_cons_succ,List.map_cons,List.map_nil,iOf,bOf,sOf,pOf,slLen,z04,cmpI,arI,Value.ite_bool,z03,z02,z00,z01];exact y3,?_⟩
  ·simp only [Chk.holds,ev0,ev,evV,List.cons_append,List.nil_append,List.getD_cons_zero,List.getD_cons_succ,List.map_cons,List.map_nil,iOf,bOf,sOf,pOf,slLen,z04,cmpI,arI,Value.ite_bool,z03,z02,z00,z01];exact ⟨y1,by omega,by omega⟩
  simp only [List.cons_append,List.nil_append]
  refine ⟨fun m vs K2=>∃j:Nat,j+m=b.ins.length∧vs=[.bool false,nI j]∧PH.le K K2∧∀y∈b.ins.take j,insOk c p y=true,⟨b.ins.length,0,by omega,rfl,PH.le_refl _,by simp⟩,?_⟩
  rintro m vs K2 _ ⟨j,hjm,rfl,hK2,hall2⟩
  simp only [List.cons_append,List.nil_append]
  have hK02:=PH.le_trans hK hK2
  refine ⟨fun g3=>?_,fun g3=>?_⟩
  ·simp only [ev0,ev,evV,List.cons_append,List.nil_append,List.getD_cons_zero,List.getD_cons_succ,List.map_cons,List.map_nil,iOf,bOf,sOf,pOf,slLen,z04,cmpI,arI,Value.ite_bool,z03,z02,z00,z01,zdt] at g3
   obtain ⟨y,hy⟩:∃y,b.ins[j]?=some y:=⟨_,zge (by omega)⟩
   have hymem:=List.mem_of_getElem? hy
   obtain ⟨z1,_,zcs,z2,z3⟩:=(i1.le hK2).get hy
   obtain ⟨wv,dv,rfl,q1,q2,q3,q4,q5,q6,q7,q8⟩:=ins_iff.1 z2
   obtain ⟨wb,wc,hwv⟩:=q3.sl
   obtain ⟨db,dc,hdv⟩:=q7.sl
   refine ⟨fun _=>?_,inV y wv dv,by rw [hwv,hdv];rfl,by simp only [ev0,ev,evV,List.cons_append,List.nil_append,List.getD_cons_zero,List.getD_cons_succ,List.map_cons,List.map_nil,iOf,bOf,sOf,pOf,slLen,z04,cmpI,arI,Value.ite_bool,z03,z02,z00,z01];exact z3,?_⟩
   ·simp only [Chk.holds,ev0,ev,evV,List.cons_append,List.nil_append,List.getD_cons_zero,List.getD_cons_succ,List.map_cons,List.map_nil,iOf,bOf,sOf,pOf,slLen,z04,cmpI,arI,Value.ite_bool,z03,z02,z00,z01];exact ⟨z1,by omega,by omega⟩
   simp only [inV,List.cons_append,List.nil_append]
   refine z0b [.bool (insOk c p y)] Z4f (Z2p c p y (.slice cb c.length cc) (.slice bb p.blocks.length bc) wv dv K2 (hc.le hK02) (hb.le hK02) ⟨q1,q2,q3,q4,q5,q6,q7,q8⟩) rfl z06 fun K3 l3=>?_
   simp only [List.cons_append,List.nil_append]
   refine ⟨fun g4=>?_,fun g4=>?_⟩
   ·simp only [ev0,ev,evV,List.cons_append,List.nil_append,List.getD_cons_zero,List.getD_cons_succ,List.map_cons,List.map_nil,iOf,bOf,sOf,pOf,slLen,z04,cmpI,arI,Value.ite_bool,z03,z02,z00,z01,Bool.not_eq_true'] at g4
    refine ⟨?_,PH.le_trans hK02 l3⟩
    rw [bad hbmem]
    ·rfl
    ·have:b.ins.all (insOk c p)=false:=by
      rw [List.all_eq_false];exact ⟨y,hymem,by rw [g4];simp⟩
     rw [this,Bool.false_and]
   ·simp only [ev0,ev,evV,List.cons_append,List.nil_append,List.getD_cons_zero,List.getD_cons_succ,List.map_cons,List.map_nil,iOf,bOf,sOf,pOf,slLen,z04,cmpI,arI,Value.ite_bool,z03,z02,z00,z01,Bool.not_eq_false'] at g4
    refine ⟨_,z05,m - 1,by omega,j+1,by omega,?_,PH.le_trans hK2 l3,fun q hq=>?_⟩
    ·simp only [ev0,ev,evV,List.cons_append,List.nil_append,List.getD_cons_zero,List.getD_cons_succ,List.map_cons,List.map_nil,iOf,bOf,sOf,pOf,slLen,z04,cmpI,arI,Value.ite_bool,z03,z02,z00,z01,upk (show j < b.ins.length by omega) him]
    ·rw [List.take_add_one,hy] at hq
     rcases List.mem_append.1 hq with hq | hq
     ·exact hall2 q hq
     ·rw [List.mem_singleton.1 hq];exact g4
  ·simp only [ev0,ev,evV,List.cons_append,List.nil_append,List.getD_cons_zero,List.getD_cons_succ,List.map_cons,List.map_nil,iOf,bOf,sOf,pOf,slLen,z04,cmpI,arI,Value.ite_bool,z03,z02,z00,z01,zdf] at g3
   rw [List.take_of_length_le (by omega)] at hall2
   have hi:b.ins.all (insOk c p)=true:=List.all_eq_true.2 hall2
   refine z0b [.bool (finOk p b.e)] Z5a (Z1f p b.e (.slice bb p.blocks.length bc) av K2 (hb.le hK02) ⟨e1,e2,e3.le hK2,e4,e5,e6⟩) rfl z06 fun K3 l3=>?_
   simp only [List.cons_append,List.nil_append]
   refine ⟨fun g4=>?_,fun g4=>?_⟩
   ·simp only [ev0,ev,evV,List.cons_append,List.nil_append,List.getD_cons_zero,List.getD_cons_succ,List.map_cons,List.map_nil,iOf,bOf,sOf,pOf,slLen,z04,cmpI,arI,Value.ite_bool,z03,z02,z00,z01,Bool.not_eq_true'] at g4
    refine ⟨?_,PH.le_trans hK02 l3⟩
    rw [bad hbmem (by rw [g4,Bool.and_false])];rfl
   ·simp only [ev0,ev,evV,List.cons_append,List.nil_append,List.getD_cons_zero,List.getD_cons_succ,List.map_cons,List.map_nil,iOf,bOf,sOf,pOf,slLen,z04,cmpI,arI,Value.ite_bool,z03,z02,z00,z01,Bool.not_eq_false'] at g4
    refine ⟨_,(z1i (by decide)).trans z05,n - 1,by omega,k+1,by omega,?_,PH.le_trans hK02 l3,fun q hq=>?_⟩
    ·simp only [ev0,ev,evV,List.cons_append,List.nil_append,List.getD_cons_zero,List.getD_cons_succ,List.map_cons,List.map_nil,iOf,bOf,sOf,pOf,slLen,z04,cmpI,arI,Value.ite_bool,z03,z02,z00,z01,upk (show k < p.blocks.length by omega) hbm]
    ·rw [List.take_add_one,hbk] at hq
     rcases List.mem_append.1 hq with hq | hq
     ·exact hall q hq
     ·rw [List.mem_singleton.1 hq,hi,g4];rfl
 ·simp only [ev0,ev,evV,List.cons_append,List.nil_append,List.getD_cons_zero,List.getD_cons_succ,List.map_cons,List.map_nil,iOf,bOf,sOf,pOf,slLen,z04,cmpI,arI,Value.ite_bool,z03,z02,z00,z01,zdf] at g2
  rw [List.take_of_length_le (by omega)] at hall
  refine ⟨?_,hK⟩
  rw [hok,List.all_eq_true.2 hall];rfl
end
theorem znf {α:Type} (f:α→Nat):∀(l:List α) (k:Nat),((l.take k).map f).sum≤(l.map f).sum
 | [],k=>by simp
 | a::l,0=>by simp
 | a::l,k+1=>by
  have:=znf f l k
  simp only [List.take_succ_cons,List.map_cons,List.sum_cons];omega
theorem zvo {α:Type} (f:α→Nat) {l:List α} {k:Nat} {a:α} (h:l[k]?=some a):((l.take (k+1)).map f).sum=((l.take k).map f).sum+f a:=by
 rw [List.take_add_one,h];simp
theorem zhv {c:CodeX} (h:z39 c=true):z4a c=151:=by unfold z4a;rw [if_pos h]
theorem zbl {c:CodeX} (h:z39 c=false) (hn:c=[]∨(∃p l,c=p::l∧(p.params≠0∨p.holds≠0))∨∃p∈c,prcOk c p=false):z4a c=150:=by
 unfold z4a
 rw [if_neg (by rw [h];exact Bool.false_ne_true)]
 match c,hn with
 | [],_=>rfl
 | p::l,hn=>
  simp only
  rw [if_neg]
  intro hh
  simp only [zba,zdt,List.all_eq_true] at hh
  rcases hn with hn | ⟨p',l',e,hn⟩ | ⟨q,hq,hn⟩
  ·cases hn
  ·cases e;omega
  ·rw [hh.2 q hq] at hn;cases hn
theorem Z2n {c:CodeX} {p:PrcX} {l:CodeX} (h:z39 c=false) (e:c=p::l) (h1:p.params=0) (h2:p.holds=0) (h3:∀q∈c,prcOk c q=true):z4a c=0:=by
 unfold z4a
 rw [if_neg (by rw [h];exact Bool.false_ne_true)]
 subst e
 simp only
 rw [if_pos]
 simp only [zba,zdt,List.all_eq_true]
 exact ⟨⟨h1,h2⟩,h3⟩
theorem Z5t {c:CodeX} {p:PrcX} (h:p∈c) (hr:2000 < p.regs):z39 c=true:=by
 unfold z39
 simp only [Bool.or_eq_true,List.any_eq_true,zdt]
 exact .inl (.inl ⟨p,h,hr⟩)
theorem Z72 {c:CodeX} (h:4096 < manyC c):z39 c=true:=by
 unfold z39
 simp only [Bool.or_eq_true,List.any_eq_true,zdt]
 exact .inl (.inr h)
theorem Z6n {c:CodeX} (h:300 < c.length):z39 c=true:=by
 unfold z39
 simp only [Bool.or_eq_true,List.any_eq_true,zdt]
 exact .inr h
theorem Z7f {c:CodeX} (h1:∀p∈c,p.regs≤2000) (h2:manyC c≤4096) (h3:c.length≤300):z39 c=false:=by
 unfold z39
 simp only [Bool.or_eq_false_iff,zdf,List.any_eq_false,zdt]
 exact ⟨⟨fun p hp=>by have:=h1 p hp;omega,by omega⟩,by omega⟩
theorem zwe (c:CodeX) (cv:Value) (H:PH) (hc:SlR H c cv) (hfit:∀p∈c,∀b∈p.blocks,b.ins.length≤4611686018427387904):Gives Tryz.prog Z20 [.agg #[cv]] H (.int .i64 (z4a c)):=by
 obtain ⟨cb,cc,rfl⟩:=hc.sl
 have hmx:maxLen=9223372036854775807:=rfl
 have hcm:=hc.max
 refine zv7 [.slice cb c.length cc] (by kernel_rfl) (by kernel_rfl) ?_
 have upk:∀{k m:Nat},k < m→m≤maxLen→IntKind.i64.wrap ((k:Int)+1)=((k+1:Nat):Int):=fun h1 h2=>by rw [w64 (by omega) (by omega)];rfl
 refine ⟨fun n vs K=>∃(i many:Nat),i+n=c.length∧vs=[.int .i64 0,nI many,nI i]∧K=H∧(∀p∈c.take i,p.regs≤2000)∧many≤4096∧many=manyC (c.take i),
  ⟨c.length,0,0,by omega,rfl,rfl,by simp,by omega,rfl⟩,?_⟩
 rintro n vs K _ ⟨i,many,hin,rfl,rfl,hregs,hm1,hm2⟩
 simp only [List.cons_append,List.nil_append]
 refine ⟨fun g=>?_,fun g=>?_⟩
 ·simp only [ev0,ev,evV,List.cons_append,List.nil_append,List.getD_cons_zero,List.getD_cons_succ,List.map_cons,List.map_nil,iOf,bOf,sOf,pOf,slLen,z04,cmpI,arI,Value.ite_bool,z03,z02,z00,z01,zdt] at g
  obtain ⟨p,hp⟩:∃p,c[i]?=some p:=⟨_,zge (by omega)⟩
  have hpm:=List.mem_of_getElem? hp
  obtain ⟨x1,_,cs,x2,x3⟩:=hc.get hp
  obtain ⟨bv,rfl,p1,p2,p3,p4⟩:=prc_iff.1 x2
  obtain ⟨pb,pc,rfl⟩:=p4.sl
  have hbm:=p4.max
  have hsp:=zvo PrcX.many hp
  have hpd:PrcX.many p=(p.blocks.map BlkX.many).sum:=rfl
  refine ⟨fun _=>?_,[.int .i64 p.params,.int .i64 p.holds,.int .i64 p.regs,.slice pb p.blocks.length pc],rfl,?_,?_⟩
  ·simp only [Chk.holds,ev0,ev,evV,List.cons_append,List.nil_append,List.getD_cons_zero,List.getD_cons_succ,List.map_cons,List.map_nil,iOf,bOf,sOf,pOf,slLen,z04,cmpI,arI,Value.ite_bool,z03,z02,z00,z01];exact ⟨x1,by omega,by omega⟩
  ·simp only [ev0,ev,evV,List.cons_append,List.nil_append,List.getD_cons_zero,List.getD_cons_succ,List.map_cons,List.map_nil,iOf,bOf,sOf,pOf,slLen,z04,cmpI,arI,Value.ite_bool,z03,z02,z00,z01];exact x3
  simp only [List.cons_append,List.nil_append]
  refine ⟨fun vs K2=>∃many2:Nat,vs=[nI many2]∧K2=K∧(many2≤4096→many2=manyC (c.take (i+1)))∧(4096 < many2→4096 < manyC c),?_,?_⟩
  ·rintro vs K2 _ ⟨many2,rfl,rfl,hq1,hq2⟩
   simp only [List.cons_append,List.nil_append]
   refine ⟨fun g2=>?_,fun g2=>?_⟩
   ·simp only [ev0,ev,evV,List.cons_append,List.nil_append,List.getD_cons_zero,List.getD_cons_succ,List.map_cons,List.map_nil,iOf,bOf,sOf,pOf,slLen,z04,cmpI,arI,Value.ite_bool,z03,z02,z00,z01] at g2
    simp only [Bool.or_eq_true,zdt] at g2
    have:z4a c=151:=by
     rcases g2 with g2 | g2
     ·exact zhv (Z5t hpm (by omega))
     ·exact zhv (Z72 (hq2 (by omega)))
    rw [this]
    exact ⟨rfl,PH.le_refl _⟩
   ·simp only [ev0,ev,evV,List.cons_append,List.nil_append,List.getD_cons_zero,List.getD_cons_succ,List.map_cons,List.map_nil,iOf,bOf,sOf,pOf,slLen,z04,cmpI,arI,Value.ite_bool,z03,z02,z00,z01] at g2
    simp only [Bool.or_eq_false_iff,zdf] at g2
    refine ⟨_,z05,n - 1,by omega,i+1,many2,by omega,?_,rfl,fun q hq=>?_,by omega,hq1 (by omega)⟩
    ·simp only [ev0,ev,evV,List.cons_append,List.nil_append,List.getD_cons_zero,List.getD_cons_succ,List.map_cons,List.map_nil,iOf,bOf,sOf,pOf,slLen,z04,cmpI,arI,Value.ite_bool,z03,z02,z00,z01,upk (by omega:i < c.length) hcm]
    ·rw [List.take_add_one,hp,List.mem_append] at hq
     rcases hq with hq | hq
     ·exact hregs q hq
     ·rw [List.mem_singleton.1 hq];omega
  refine ⟨fun m vs K2=>∃(k many2:Nat),k+m=p.blocks.length∧vs=[nI many2,nI k]∧K2=K∧many2≤4096∧many2=manyC (c.take i)+((p.blocks.take k).map BlkX.many).sum,
   ⟨p.blocks.length,0,many,by omega,rfl,rfl,hm1,by simpa using hm2⟩,?_⟩
  rintro m vs K2 _ ⟨k,many2,hkm,rfl,rfl,hq1,hq2⟩
  simp only [List.cons_append,List.nil_append]
  refine ⟨fun g3=>?_,fun g3=>?_⟩
  ·simp only [ev0,ev,evV,List.cons_append,List.nil_append,List.getD_cons_zero,List.getD_cons_succ,List.map_cons,List.map_nil,iOf,bOf,sOf,pOf,slLen,z04,cmpI,arI,Value.ite_bool,z03,z02,z00,z01,zdt] at g3
   obtain ⟨b,hb⟩:∃b,p.blocks[k]?=some b:=⟨_,zge (by omega)⟩
   obtain ⟨y1,_,ycs,y2,y3⟩:=p4.get hb
   obtain ⟨iv,es,rfl,i1,i2⟩:=blk_iff.1 y2
   obtain ⟨ib,ic,rfl⟩:=i1.sl
   have him:=i1.max
   obtain ⟨av,rfl,e1,e2,e3,e4,e5,e6⟩:=end_iff.1 i2
   obtain ⟨ab,ac,rfl⟩:=e3.sl
   have h1:=zvi (List.mem_of_getElem? hb)
   have h2:=zvx hpm
   have hs:=zvo BlkX.many hb
   have hbm2:BlkX.many b=1+b.ins.length:=rfl
   have hle:manyC (c.take i)+((p.blocks.take (k+1)).map BlkX.many).sum≤manyC c:=by
    have h1:=znf BlkX.many p.blocks (k+1)
    have h3:=znf PrcX.many c (i+1)
    unfold manyC;omega
   have big:b.ins.length≤9223372036854775807:=by omega
   have small:b.ins.length≤9223372036854700000→IntKind.i64.wrap ((many2:Int)+IntKind.i64.wrap (1+(b.ins.length:Int)))=((many2+1+b.ins.length:Nat):Int):=fun h=>by
    rw [w64 (n:=1+(b.ins.length:Int)) (by omega) (by omega),w64 (by omega) (by omega)];omega
   have hbl:b.ins.length≤9223372036854700000:=by
    have e8:=hfit p hpm b (List.mem_of_getElem? hb)
    omega
   have hw1:=small hbl
   refine ⟨fun _=>?_,[.slice ib b.ins.length ic,.int .i64 b.e.kind,.int .i64 b.e.reg,.slice ab b.e.args.length ac,.int .i64 b.e.to,.int .i64 b.e.next,.int .i64 b.e.els],rfl,by simp only [ev0,ev,evV,List.cons_append,List.nil_append,List.getD_cons_zero,List.getD_cons_succ,List.map_cons,List.map_nil,iOf,bOf,sOf,pOf,slLen,z04,cmpI,arI,Value.ite_bool,z03,z02,z00,z01];exact y3,fun g4=>?_,fun g4=>?_⟩
   ·simp only [Chk.holds,ev0,ev,evV,List.cons_append,List.nil_append,List.getD_cons_zero,List.getD_cons_succ,List.map_cons,List.map_nil,iOf,bOf,sOf,pOf,slLen,z04,cmpI,arI,Value.ite_bool,z03,z02,z00,z01];exact ⟨y1,by omega,by omega⟩
   ·simp only [ev0,ev,evV,List.cons_append,List.nil_append,List.getD_cons_zero,List.getD_cons_succ,List.map_cons,List.map_nil,iOf,bOf,sOf,pOf,slLen,z04,cmpI,arI,Value.ite_bool,z03,z02,z00,z01,hw1,zdt] at g4
    refine ⟨_,(z1i (by decide)).trans z05,many2+1+b.ins.length,by simp only [ev0,ev,evV,List.cons_append,List.nil_append,List.getD_cons_zero,List.getD_cons_succ,List.map_cons,List.map_nil,iOf,bOf,sOf,pOf,slLen,z04,cmpI,arI,Value.ite_bool,z03,z02,z00,z01,hw1],rfl,fun h=>by omega,fun _=>by omega⟩
   ·simp only [ev0,ev,evV,List.cons_append,List.nil_append,List.getD_cons_zero,List.getD_cons_succ,List.map_cons,List.map_nil,iOf,bOf,sOf,pOf,slLen,z04,cmpI,arI,Value.ite_bool,z03,z02,z00,z01,hw1,zdf] at g4
    refine ⟨_,z05,m - 1,by omega,k+1,many2+1+b.ins.length,by omega,?_,rfl,by omega,by omega⟩
    simp only [ev0,ev,evV,List.cons_append,List.nil_append,List.getD_cons_zero,List.getD_cons_succ,List.map_cons,List.map_nil,iOf,bOf,sOf,pOf,slLen,z04,cmpI,arI,Value.ite_bool,z03,z02,z00,z01,hw1,upk (by omega:k < p.blocks.length) hbm]
  ·simp only [ev0,ev,evV,List.cons_append,List.nil_append,List.getD_cons_zero,List.getD_cons_succ,List.map_cons,List.map_nil,iOf,bOf,sOf,pOf,slLen,z04,cmpI,arI,Value.ite_bool,z03,z02,z00,z01,zdf] at g3
   rw [show p.blocks.take k=p.blocks from List.take_of_length_le (by omega)] at hq2
   refine ⟨_,(z1i (by decide)).trans z05,many2,rfl,rfl,fun _=>?_,fun _=>by omega⟩
   unfold manyC at hq2 ⊢;omega
 simp only [ev0,ev,evV,List.cons_append,List.nil_append,List.getD_cons_zero,List.getD_cons_succ,List.map_cons,List.map_nil,iOf,bOf,sOf,pOf,slLen,z04,cmpI,arI,Value.ite_bool,z03,z02,z00,z01,zdf] at g
 rw [List.take_of_length_le (by omega)] at hregs hm2
 refine ⟨fun g2=>?_,fun g2=>?_⟩
 ·simp only [ev0,ev,evV,List.cons_append,List.nil_append,List.getD_cons_zero,List.getD_cons_succ,List.map_cons,List.map_nil,iOf,bOf,sOf,pOf,slLen,z04,cmpI,arI,Value.ite_bool,z03,z02,z00,z01,zdt] at g2
  rw [zhv (Z6n (by omega))]
  exact ⟨rfl,PH.le_refl _⟩
 simp only [ev0,ev,evV,List.cons_append,List.nil_append,List.getD_cons_zero,List.getD_cons_succ,List.map_cons,List.map_nil,iOf,bOf,sOf,pOf,slLen,z04,cmpI,arI,Value.ite_bool,z03,z02,z00,z01,zdf] at g2
 have htm:z39 c=false:=Z7f hregs (by omega) (by omega)
 refine ⟨fun vs K2=>K=K2∧((vs=[.bool true]∧z4a c=150)∨(vs=[.bool false]∧∃p l,c=p::l∧p.params=0∧p.holds=0)),?_,?_⟩
 rotate_left
 ·cases hcl:c with
  | nil=>
   rw [hcl] at htm
   have:=zbl htm (.inl rfl)
   refine ⟨fun hg=>by exfalso;simp [Guard.holds,ev0,ev,evV,List.cons_append,List.nil_append,List.getD_cons_zero,List.getD_cons_succ,List.map_cons,List.map_nil,iOf,bOf,sOf,pOf,slLen,z04,cmpI,arI,Value.ite_bool,z03,z02,z00,z01] at hg,fun hg=>by exfalso;simp [Guard.holds,ev0,ev,evV,List.cons_append,List.nil_append,List.getD_cons_zero,List.getD_cons_succ,List.map_cons,List.map_nil,iOf,bOf,sOf,pOf,slLen,z04,cmpI,arI,Value.ite_bool,z03,z02,z00,z01] at hg,fun _=>⟨_,z05,rfl,.inl ⟨rfl,this⟩⟩,fun g3=>by simp [ev0,ev,evV,List.cons_append,List.nil_append,List.getD_cons_zero,List.getD_cons_succ,List.map_cons,List.map_nil,iOf,bOf,sOf,pOf,slLen,z04,cmpI,arI,Value.ite_bool,z03,z02,z00,z01] at g3⟩
  | cons p l=>
   have hp:c[0]?=some p:=by rw [hcl];rfl
   obtain ⟨x1,xn,cs,x2,x3⟩:=hc.get hp
   obtain ⟨bv,rfl,p1,p2,p3,p4⟩:=prc_iff.1 x2
   obtain ⟨pb,pc,rfl⟩:=p4.sl
   have hl1:(1:Int)≤((p::l).length:Int):=by simp;omega
   rw [hcl] at x1 xn x3 htm
   refine ⟨fun _=>?_,fun _=>?_,fun g3=>?_,fun g3=>⟨[.int .i64 p.params],rfl,?_,fun _=>?_,fun _=>?_,fun g4=>?_,fun g4=>⟨[.int .i64 p.holds],rfl,?_,?_⟩⟩⟩
   ·simp only [Chk.holds,ev0,ev,evV,List.cons_append,List.nil_append,List.getD_cons_zero,List.getD_cons_succ,List.map_cons,List.map_nil,iOf,bOf,sOf,pOf,slLen,z04,cmpI,arI,Value.ite_bool,z03,z02,z00,z01];exact ⟨x1,by omega,by omega⟩
   ·simp only [Chk.holds,ev0,ev,evV,List.cons_append,List.nil_append,List.getD_cons_zero,List.getD_cons_succ,List.map_cons,List.map_nil,iOf,bOf,sOf,pOf,slLen,z04,cmpI,arI,Value.ite_bool,z03,z02,z00,z01];exact xn
   ·simp [ev0,ev,evV,List.cons_append,List.nil_append,List.getD_cons_zero,List.getD_cons_succ,List.map_cons,List.map_nil,iOf,bOf,sOf,pOf,slLen,z04,cmpI,arI,Value.ite_bool,z03,z02,z00,z01] at g3;omega
   ·simp only [ev0,ev,evV,List.cons_append,List.nil_append,List.getD_cons_zero,List.getD_cons_succ,List.map_cons,List.map_nil,iOf,bOf,sOf,pOf,slLen,z04,cmpI,arI,Value.ite_bool,z03,z02,z00,z01];exact z3t x3 0 1
   ·simp only [Chk.holds,ev0,ev,evV,List.cons_append,List.nil_append,List.getD_cons_zero,List.getD_cons_succ,List.map_cons,List.map_nil,iOf,bOf,sOf,pOf,slLen,z04,cmpI,arI,Value.ite_bool,z03,z02,z00,z01];exact ⟨x1,by omega,by omega⟩
   ·simp only [Chk.holds,ev0,ev,evV,List.cons_append,List.nil_append,List.getD_cons_zero,List.getD_cons_succ,List.map_cons,List.map_nil,iOf,bOf,sOf,pOf,slLen,z04,cmpI,arI,Value.ite_bool,z03,z02,z00,z01];exact xn
   ·simp only [ev0,ev,evV,List.cons_append,List.nil_append,List.getD_cons_zero,List.getD_cons_succ,List.map_cons,List.map_nil,iOf,bOf,sOf,pOf,slLen,z04,cmpI,arI,Value.ite_bool,z03,z02,z00,z01,ne_eq,decide_not,Bool.not_eq_true',zdf] at g4
    exact ⟨_,z05,rfl,.inl ⟨rfl,zbl htm (.inr (.inl ⟨p,l,rfl,.inl g4⟩))⟩⟩
   ·simp only [ev0,ev,evV,List.cons_append,List.nil_append,List.getD_cons_zero,List.getD_cons_succ,List.map_cons,List.map_nil,iOf,bOf,sOf,pOf,slLen,z04,cmpI,arI,Value.ite_bool,z03,z02,z00,z01];exact z3t x3 1 1
   ·simp only [ev0,ev,evV,List.cons_append,List.nil_append,List.getD_cons_zero,List.getD_cons_succ,List.map_cons,List.map_nil,iOf,bOf,sOf,pOf,slLen,z04,cmpI,arI,Value.ite_bool,z03,z02,z00,z01,ne_eq,decide_not,Bool.not_eq_false',zdt] at g4
    by_cases e:p.holds=0
    ·exact ⟨_,z05,rfl,.inr ⟨by simp [ev0,ev,evV,List.cons_append,List.nil_append,List.getD_cons_zero,List.getD_cons_succ,List.map_cons,List.map_nil,iOf,bOf,sOf,pOf,slLen,z04,cmpI,arI,Value.ite_bool,z03,z02,z00,z01,e],p,l,rfl,g4,e⟩⟩
    ·exact ⟨_,z05,rfl,.inl ⟨by simp [ev0,ev,evV,List.cons_append,List.nil_append,List.getD_cons_zero,List.getD_cons_succ,List.map_cons,List.map_nil,iOf,bOf,sOf,pOf,slLen,z04,cmpI,arI,Value.ite_bool,z03,z02,z00,z01,e],zbl htm (.inr (.inl ⟨p,l,rfl,.inr e⟩))⟩⟩
 rintro vs K2 _ ⟨rfl,hJ⟩
 rcases hJ with ⟨rfl,hf⟩ | ⟨rfl,p0,l0,hcl,h00,h01⟩
 ·refine ⟨fun _=>?_,fun g3=>by simp [ev0,ev,evV,List.cons_append,List.nil_append,List.getD_cons_zero,List.getD_cons_succ,List.map_cons,List.map_nil,iOf,bOf,sOf,pOf,slLen,z04,cmpI,arI,Value.ite_bool,z03,z02,z00,z01] at g3⟩
  rw [hf];exact ⟨rfl,PH.le_refl _⟩
 refine ⟨fun g3=>by simp [ev0,ev,evV,List.cons_append,List.nil_append,List.getD_cons_zero,List.getD_cons_succ,List.map_cons,List.map_nil,iOf,bOf,sOf,pOf,slLen,z04,cmpI,arI,Value.ite_bool,z03,z02,z00,z01] at g3,fun _=>?_⟩
 simp only [List.cons_append,List.nil_append]
 refine ⟨fun n vs K2=>∃i:Nat,i+n=c.length∧vs=[.int .i64 0,nI i]∧PH.le K K2∧∀p∈c.take i,prcOk c p=true,⟨c.length,0,by omega,rfl,PH.le_refl _,by simp⟩,?_⟩
 rintro n vs K2 _ ⟨i,hin,rfl,lK,hok⟩
 simp only [List.cons_append,List.nil_append]
 refine ⟨fun g3=>?_,fun g3=>?_⟩
 ·simp only [ev0,ev,evV,List.cons_append,List.nil_append,List.getD_cons_zero,List.getD_cons_succ,List.map_cons,List.map_nil,iOf,bOf,sOf,pOf,slLen,z04,cmpI,arI,Value.ite_bool,z03,z02,z00,z01,zdt] at g3
  obtain ⟨p,hp⟩:∃p,c[i]?=some p:=⟨_,zge (by omega)⟩
  have hpm:=List.mem_of_getElem? hp
  obtain ⟨x1,_,cs,x2,x3⟩:=(hc.le lK).get hp
  obtain ⟨bv,rfl,p1,p2,p3,p4⟩:=prc_iff.1 x2
  obtain ⟨pb,pc,rfl⟩:=p4.sl
  refine ⟨fun _=>?_,[.int .i64 p.params,.int .i64 p.holds,.int .i64 p.regs,.slice pb p.blocks.length pc],rfl,by simp only [ev0,ev,evV,List.cons_append,List.nil_append,List.getD_cons_zero,List.getD_cons_succ,List.map_cons,List.map_nil,iOf,bOf,sOf,pOf,slLen,z04,cmpI,arI,Value.ite_bool,z03,z02,z00,z01];exact x3,?_⟩
  ·simp only [Chk.holds,ev0,ev,evV,List.cons_append,List.nil_append,List.getD_cons_zero,List.getD_cons_succ,List.map_cons,List.map_nil,iOf,bOf,sOf,pOf,slLen,z04,cmpI,arI,Value.ite_bool,z03,z02,z00,z01];exact ⟨x1,by omega,by omega⟩
  simp only [List.cons_append,List.nil_append]
  refine z0b [.bool (prcOk c p)] Z1i (zyq c p (.slice cb c.length cc) (.slice pb p.blocks.length pc) K2 (hc.le lK) p4) rfl z06 fun K3 l3=>?_
  simp only [List.cons_append,List.nil_append]
  refine ⟨fun g4=>?_,fun g4=>?_⟩
  ·simp only [ev0,ev,evV,List.cons_append,List.nil_append,List.getD_cons_zero,List.getD_cons_succ,List.map_cons,List.map_nil,iOf,bOf,sOf,pOf,slLen,z04,cmpI,arI,Value.ite_bool,z03,z02,z00,z01,Bool.not_eq_true'] at g4
   refine ⟨?_,PH.le_trans lK l3⟩
   rw [zbl htm (.inr (.inr ⟨p,hpm,g4⟩))];rfl
  ·simp only [ev0,ev,evV,List.cons_append,List.nil_append,List.getD_cons_zero,List.getD_cons_succ,List.map_cons,List.map_nil,iOf,bOf,sOf,pOf,slLen,z04,cmpI,arI,Value.ite_bool,z03,z02,z00,z01,Bool.not_eq_false'] at g4
   refine ⟨_,z05,n - 1,by omega,i+1,by omega,?_,PH.le_trans lK l3,fun q hq=>?_⟩
   ·simp only [ev0,ev,evV,List.cons_append,List.nil_append,List.getD_cons_zero,List.getD_cons_succ,List.map_cons,List.map_nil,iOf,bOf,sOf,pOf,slLen,z04,cmpI,arI,Value.ite_bool,z03,z02,z00,z01,upk (show i < c.length by omega) hcm]
   ·rw [List.take_add_one,hp] at hq
    rcases List.mem_append.1 hq with hq | hq
    ·exact hok q hq
    ·rw [List.mem_singleton.1 hq];exact g4
 ·simp only [ev0,ev,evV,List.cons_append,List.nil_append,List.getD_cons_zero,List.getD_cons_succ,List.map_cons,List.map_nil,iOf,bOf,sOf,pOf,slLen,z04,cmpI,arI,Value.ite_bool,z03,z02,z00,z01,zdf] at g3
  rw [List.take_of_length_le (by omega)] at hok
  refine ⟨?_,lK⟩
  rw [Z2n htm hcl h00 h01 hok];rfl
theorem Z5j (sp:Int) (S:PH):Gives Tryz.prog zuz [.slice none 0 0,.int .i64 sp] S (.tuple #[.slice none 0 0,.int .i64 0]):=by
 refine zpz [.slice none 0 0,.int .i64 sp] (by kernel_rfl) (by kernel_rfl) ?_
 refine ⟨fun g=>?_,fun _=>?_⟩
 ·simp [ev0,ev,evV,List.cons_append,List.nil_append,List.getD_cons_zero,List.getD_cons_succ,List.map_cons,List.map_nil,iOf,bOf,sOf,pOf,slLen,z04,cmpI,arI,Value.ite_bool,z03,z02,z00,z01] at g
 have h0:Held S S []:=Held.nil (PH.le_refl S)
 refine z3w fun m1 hm1=>?_
 have h1:=h0.new hm1 (.map #[] 0)
 simp only [List.cons_append,List.nil_append]
 refine z3w fun m2 hm2=>?_
 have h2:=h1.new hm2 (.map #[] 0)
 simp only [List.cons_append,List.nil_append]
 refine z28 (vs:=[.map (some m1),.map (some m2),.slice none 0 0]) h2 (by kernel_rfl) fun r K3 _ h3=>?_
 simp only [List.cons_append,List.nil_append]
 refine ⟨fun n vs K=>vs=[.slice none 0 0,.int .i64 0,.int .i64 0]∧K=K3,⟨1,rfl,rfl⟩,?_⟩
 rintro n vs K _ ⟨rfl,rfl⟩
 simp only [List.cons_append,List.nil_append]
 refine ⟨fun g=>by simp [ev0,ev,evV,List.cons_append,List.nil_append,List.getD_cons_zero,List.getD_cons_succ,List.map_cons,List.map_nil,iOf,bOf,sOf,pOf,slLen,z04,cmpI,arI,Value.ite_bool,z03,z02,z00,z01] at g,fun _=>?_⟩
 refine ⟨fun n vs K2=>vs=[.int .i64 0]∧K2=K,⟨1,rfl,rfl⟩,?_⟩
 rintro n vs K2 _ ⟨rfl,rfl⟩
 simp only [List.cons_append,List.nil_append]
 refine ⟨fun g=>by simp [ev0,ev,evV,List.cons_append,List.nil_append,List.getD_cons_zero,List.getD_cons_succ,List.map_cons,List.map_nil,iOf,bOf,sOf,pOf,slLen,z04,cmpI,arI,Value.ite_bool,z03,z02,z00,z01] at g,fun _=>?_⟩
 refine ⟨fun n vs K=>vs=[.int .i64 0]∧K=K2,⟨1,rfl,rfl⟩,?_⟩
 rintro n vs K _ ⟨rfl,rfl⟩
 simp only [List.cons_append,List.nil_append]
 refine ⟨fun g=>by simp [ev0,ev,evV,List.cons_append,List.nil_append,List.getD_cons_zero,List.getD_cons_succ,List.map_cons,List.map_nil,iOf,bOf,sOf,pOf,slLen,z04,cmpI,arI,Value.ite_bool,z03,z02,z00,z01] at g,fun _=>?_⟩
 refine ⟨fun n vs K2=>vs=[.int .i64 0]∧K2=K,⟨1,rfl,rfl⟩,?_⟩
 rintro n vs K2 _ ⟨rfl,rfl⟩
 simp only [List.cons_append,List.nil_append]
 refine ⟨fun g=>by simp [ev0,ev,evV,List.cons_append,List.nil_append,List.getD_cons_zero,List.getD_cons_succ,List.map_cons,List.map_nil,iOf,bOf,sOf,pOf,slLen,z04,cmpI,arI,Value.ite_bool,z03,z02,z00,z01] at g,fun _=>?_⟩
 exact ⟨fun _=>rfl,[.slice none 0 0],rfl,z1p h3 (zms) 2 1,rfl,h3.sh⟩
section
variable {S0 K:PH} {x:FX} {pu nx:Int} {l l':List ItemR} {k k':Nat} {J:List Itm}
theorem Z42 (h:GnH S0 K x pu nx l k J):Tri Tryz.prog zhg #[pAt x.rf,.slice none 0 0] K (GnQ S0 x pu nx l k J):=by
 refine zdv [pAt x.rf,.slice none 0 0] (by kernel_rfl) (by kernel_rfl) ?_
 refine z0b [.slice none 0 0,.int .i64 0] zqp (Z5j 26 K) rfl z06 fun K1 l1=>?_
 simp only [List.cons_append,List.nil_append]
 refine ⟨fun n vs K2=>vs=[.int .i64 0]∧K2=K1,⟨1,rfl,rfl⟩,?_⟩
 rintro n vs K2 _ ⟨rfl,rfl⟩
 simp only [List.cons_append,List.nil_append]
 refine ⟨fun g=>by simp [ev0,ev,evV,List.cons_append,List.nil_append,List.getD_cons_zero,List.getD_cons_succ,List.map_cons,List.map_nil,iOf,bOf,sOf,pOf,slLen,z04,cmpI,arI,Value.ite_bool,z03,z02,z00,z01] at g,fun _=>⟨rfl,h.le l1⟩⟩
def FX.constL (x:FX) (pu:Int) (y:InsX):List ItemR:=x.numL pu y.to ((wordX (z1k y.const) x.syms).getD 0)
theorem Z7t (v:ValW) (l:List (List UInt8)) (hv:InI v.int):InI ((wordX v l).getD 0):=by
 have h0:InI 0:=i0J
 unfold wordX
 split
 ·exact h0
 split
 ·split
  ·exact inJ (by simp;omega) (by simp;omega)
  ·exact h0
 split
 ·split
  ·rename_i hw
   have:=isW_iff.1 hw
   exact inJ (by simp;omega) (by simp;omega)
  ·exact h0
 split
 ·split
  ·exact inJ (by simp;omega) (by simp;omega)
  ·exact h0
 split
 ·split
  ·cases hf:l.findIdx? (fun s=>decide (s=v.text)) with
   | none=>exact h0
   | some i=>
    exact z2c _
  ·exact h0
 split
 ·split
  ·rename_i h7 _
   exact inJ (by simp;omega) (by simp;omega)
  ·exact h0
 ·exact h0
theorem zvr (hx:FOk S0 x) (hp:0≤pu∧pu≤100000) (y:InsX) (av dv:Value) (hy:InR S0 y av dv) (hop:y.op=z20) (hr:x.has y.to) (h:GnH S0 K x pu nx l (k+2) J) :
  Tri Tryz.prog zjx #[pAt x.rf,.agg (inV y av dv).toArray] K (GnQ S0 x pu nx (l++x.constL pu y) k J):=by
 obtain ⟨ab,ac,hav⟩:=hy.args.sl
 obtain ⟨db,dc,hdv⟩:=hy.cl.sl
 obtain ⟨sb,sc,hsv⟩:=hx.sy.sl
 refine zhb ([pAt x.rf]++inV y av dv) (by rw [hav,hdv];kernel_rfl) (by kernel_rfl) ?_
 simp only [inV,List.cons_append,List.nil_append]
 refine ⟨fun _=>?_,fun g=>?_⟩
 rotate_left
 ·simp only [ev0,ev,evV,List.cons_append,List.nil_append,List.getD_cons_zero,List.getD_cons_succ,List.map_cons,List.map_nil,iOf,bOf,sOf,pOf,slLen,z04,cmpI,arI,Value.ite_bool,z03,z02,z00,z01,z1b,hop] at g
  exact absurd g (by decide)
 refine ⟨fun _=>rfl,[pAt x.rg],rfl,h.frow 0 1,fun _=>rfl,[x.sv],by rw [hsv];rfl,h.grow 0 1,?_⟩
 simp only [List.cons_append,List.nil_append]
 refine z0b [.int .i64 ((wordX (z1k y.const) x.syms).getD 0)] ztw (zx9 y.const _ x.syms x.sv K (hy.le h.sh).dat (hx.sy.le h.sh)) rfl z06 fun K1 l1=>?_
 have h1:=h.le l1
 simp only [List.cons_append,List.nil_append]
 refine z29 ze5 (Z5f hx hp y.to _ hr (Z7t _ _ ?_) h1) fun K2 h2=>⟨rfl,h2⟩
 unfold z1k
 repeat' split
 all_goals first | exact i0J | exact hy.ci
def FX.retL (x:FX) (pu r:Int):List ItemR:=x.getL pu r 26++[⟨0,⟨15,1,x.get r 26,0,0⟩,0,0⟩]++growL (arI .sub .i64 0 x.slots)++[⟨3,⟨28,0,0,0,0⟩,4,0⟩]
theorem Z1c (hx:FOk S0 x) (hp:0≤pu∧pu≤100000) (b:Int) (e:EndX) (av:Value) (he:EnR S0 e av) (hk:e.kind=2) (hr:x.has e.reg) (h:GnH S0 K x pu nx l (k+4) J) :
  Tri Tryz.prog zjy #[pAt x.rf,.int .i64 b,.agg (enV e av).toArray] K (GnQ S0 x pu nx (l++x.retL pu e.reg) k J):=by
 obtain ⟨ab,ac,hav⟩:=he.args.sl
 obtain ⟨s1,s2⟩:=hx.sl
 refine zhe ([pAt x.rf,.int .i64 b]++enV e av) (by rw [hav];kernel_rfl) (by kernel_rfl) ?_
 simp only [enV,List.cons_append,List.nil_append]
 refine ⟨fun g=>by simp [ev0,ev,evV,List.cons_append,List.nil_append,List.getD_cons_zero,List.getD_cons_succ,List.map_cons,List.map_nil,iOf,bOf,sOf,pOf,slLen,z04,cmpI,arI,Value.ite_bool,z03,z02,z00,z01,hk] at g,fun _=>⟨fun g=>by simp [ev0,ev,evV,List.cons_append,List.nil_append,List.getD_cons_zero,List.getD_cons_succ,List.map_cons,List.map_nil,iOf,bOf,sOf,pOf,slLen,z04,cmpI,arI,Value.ite_bool,z03,z02,z00,z01,hk] at g,fun _=>⟨fun _=>?_,fun g=>by simp [ev0,ev,evV,List.cons_append,List.nil_append,List.getD_cons_zero,List.getD_cons_succ,List.map_cons,List.map_nil,iOf,bOf,sOf,pOf,slLen,z04,cmpI,arI,Value.ite_bool,z03,z02,z00,z01,hk] at g⟩⟩⟩
 refine ⟨fun _=>rfl,[pAt x.rg],rfl,h.frow 0 1,fun _=>rfl,?_⟩
 simp only [List.cons_append,List.nil_append]
 refine Z7i zih (Z9c hx hp e.reg 26 hr (by decide) h) (fun K1 h1=>z2t (h1.frow 0 1) z06) fun K1 h1=>?_
 simp only [List.cons_append,List.nil_append]
 refine z29 z14 (h1.to (z5o 1 (x.get e.reg 26) (by decide) (Z8y hx e.reg 26 hr (by decide)))) fun K2 h2=>?_
 refine ⟨[.int .i64 x.slots],rfl,h2.frow 6 1,?_⟩
 simp only [List.cons_append,List.nil_append]
 have hin:InI (arI .sub .i64 0 x.slots):=by
  show InI (IntKind.i64.wrap (0 - x.slots))
  rw [w64 (by omega) (by omega)];exact inJ (by omega) (by omega)
 refine z29 z80 (Z7n (arI .sub .i64 0 x.slots) hin h2) fun K3 h3=>?_
 refine ⟨[pAt x.rg],rfl,h3.frow 0 1,fun _=>rfl,?_⟩
 simp only [List.cons_append,List.nil_append]
 refine z29 z0r (h3.to (z3n 4 (by decide))) fun K4 h4=>?_
 refine ⟨rfl,?_⟩
 simpa only [FX.retL,List.append_assoc,List.cons_append,List.nil_append] using h4
end
theorem zmt (p:PrcX) (bv:Value) (rf:Nat) (cs:List Value) (slots:Int) (K:PH) (hb:SlR K p.blocks bv) (hbv:(cs.drop 4).take 1=[bv]) (hsl:(cs.drop 6).take 1=[.int .i64 slots]) (hrow:∀off n,rowAt K (some ⟨rf,off,none⟩) ((cs.drop off).take n)) (hi:InI slots) (hno:∀b∈p.blocks,b.e.kind≠4∧b.e.kind≠6) :
    Gives Tryz.prog zia [pAt rf] K (.int .i64 slots):=by
  have hbm:=hb.max
  have hmx:maxLen=9223372036854775807:=rfl
  obtain ⟨bb,bc,rfl⟩:=hb.sl
  refine zfv [pAt rf] (by kernel_rfl) (by kernel_rfl) ?_
  refine ⟨fun _=>rfl,[.slice bb p.blocks.length bc],rfl,by rw [←hbv];exact hrow 4 1,?_⟩
  simp only [List.cons_append,List.nil_append]
  refine ⟨fun n vs K2=>∃i:Nat,i+n=p.blocks.length∧vs=[.int .i64 0,nI i]∧K2=K,⟨p.blocks.length,0,by omega,rfl,rfl⟩,?_⟩
  rintro n vs K2 _ ⟨i,hin,rfl,rfl⟩
  simp only [List.cons_append,List.nil_append]
  refine ⟨fun g=>?_,fun g=>?_⟩
  · simp only [ev0,ev,evV,List.cons_append,List.nil_append,List.getD_cons_zero,List.getD_cons_succ,List.map_cons,List.map_nil,iOf,bOf,sOf,pOf,slLen,z04,cmpI,arI,Value.ite_bool,z03,z02,z00,z01,zdt] at g
    obtain ⟨b,hbk⟩:∃b,p.blocks[i]?=some b:=⟨_,zge (by omega)⟩
    obtain ⟨y1,_,ycs,y2,y3⟩:=hb.get hbk
    obtain ⟨iv,es,rfl,i1,i2⟩:=blk_iff.1 y2
    obtain ⟨ib,ic,rfl⟩:=i1.sl
    obtain ⟨av,rfl,e1,e2,e3,e4,e5,e6⟩:=end_iff.1 i2
    obtain ⟨ab,ac,rfl⟩:=e3.sl
    obtain ⟨n4,n6⟩:=hno b (List.mem_of_getElem? hbk)
    refine ⟨fun vs K3=>vs=[.int .i64 0]∧K3=K2,?_,fun _=>?_,[.slice ib b.ins.length ic,.int .i64 b.e.kind,.int .i64 b.e.reg,.slice ab b.e.args.length ac,.int .i64 b.e.to,.int .i64 b.e.next,.int .i64 b.e.els],rfl,by simp only [ev0,ev,evV,List.cons_append,List.nil_append,List.getD_cons_zero,List.getD_cons_succ,List.map_cons,List.map_nil,iOf,bOf,sOf,pOf,slLen,z04,cmpI,arI,Value.ite_bool,z03,z02,z00,z01];exact y3,fun g2=>?_,fun _=>⟨_,z05,rfl,rfl⟩⟩
    · rintro vs K3 _ ⟨rfl,rfl⟩
      refine ⟨_,z05,n - 1,by omega,i+1,by omega,?_,rfl⟩
      simp only [ev0,ev,evV,List.cons_append,List.nil_append,List.getD_cons_zero,List.getD_cons_succ,List.map_cons,List.map_nil,iOf,bOf,sOf,pOf,slLen,z04,cmpI,arI,Value.ite_bool,z03,z02,z00,z01];rw [w64 (by omega) (by omega)];rfl
    · simp only [Chk.holds,ev0,ev,evV,List.cons_append,List.nil_append,List.getD_cons_zero,List.getD_cons_succ,List.map_cons,List.map_nil,iOf,bOf,sOf,pOf,slLen,z04,cmpI,arI,Value.ite_bool,z03,z02,z00,z01];exact ⟨y1,by omega,by omega⟩
    · simp [ev0,ev,evV,List.cons_append,List.nil_append,List.getD_cons_zero,List.getD_cons_succ,List.map_cons,List.map_nil,iOf,bOf,sOf,pOf,slLen,z04,cmpI,arI,Value.ite_bool,z03,z02,z00,z01,n4,n6] at g2
  · refine ⟨[.int .i64 slots],rfl,by rw [←hsl];exact hrow 6 1,?_,PH.le_refl _⟩
    show Ending.returned (.int .i64 (IntKind.i64.wrap (slots+0)))=_
    obtain ⟨q1,q2⟩:=hi
    rw [w64 (by
                have:IntKind.i64.min=-9223372036854775808:=by decide
                omega) (by
                           have:IntKind.i64.max=9223372036854775807:=by decide
                           omega),Int.add_zero]
def inR (p:PrcX) (r:Int):Bool:=decide (0≤r∧r < p.regs)
def EndX.uses (e:EndX):List Int:=if e.kind=1∨e.kind=2∨e.kind=5 then [e.reg] else if e.kind=3 then e.reg::e.args else if e.kind=4 then e.reg::e.to::e.args else if e.kind=6 then [e.reg,e.to] else []
def InsX.may (p:PrcX) (x:InsX):Bool:=x.args.all (inR p) && (decide (x.op=tieB) || inR p x.to)
def BlkX.may (p:PrcX) (b:BlkX):Bool:=b.ins.all (InsX.may p) && b.e.uses.all (inR p)
def z4u (p:PrcX):Bool:=!(decide (p.regs < 0) || decide (p.regs > 2000) || decide (p.params < 0) || decide (p.params > p.regs) || decide ((p.blocks.length:Int)=0))
def mayP (p:PrcX):Bool:=z4u p && p.blocks.all (BlkX.may p)
theorem zdg {α:Type} (f:α→Bool) {l:List α} {k:Nat} {a:α} (h:l[k]?=some a):(l.take (k+1)).all f=((l.take k).all f && f a):=by
 rw [List.take_add_one,h,List.all_append];simp
theorem z9i (p:PrcX) (l:List Int) (lv bv:Value) (kb pb:Nat) (S K:PH) (o:Bool) (hl:SlR S l lv) (h:Held S K [bx kb 4 [.bool o],bx pb 43 (prcVs p bv)]) :
  Tri Tryz.prog z1t #[lv,pAt kb,pAt pb] K fun x K'=>x=.returned (.tuple #[])∧Held S K' [bx kb 4 [.bool (o && l.all (inR p))],bx pb 43 (prcVs p bv)]:=by
 obtain ⟨b1,c1,rfl⟩:=hl.sl
 have hm:=hl.max
 simp only [maxLen] at hm
 refine zps [.slice b1 l.length c1,pAt kb,pAt pb] (by kernel_rfl) (by kernel_rfl) ?_
 refine ⟨fun n vs K'=>∃k:Nat,vs=[nI k]∧k+n=l.length∧Held S K' [bx kb 4 [.bool (o && (l.take k).all (inR p))],bx pb 43 (prcVs p bv)],⟨l.length,0,rfl,by omega,by simpa using h⟩,?_⟩
 rintro n vs K1 _ ⟨k,rfl,hkn,h1⟩
 refine ⟨fun g=>?_,fun g=>?_⟩
 ·simp only [evs,evb,zdt] at g
  obtain ⟨r,hr⟩:∃r,l[k]?=some r:=⟨_,zge (show k < l.length by omega)⟩
  obtain ⟨r1,_,rcs,r2,r3⟩:=hl.get hr
  obtain ⟨rfl,_⟩:=csIK r2
  refine ⟨fun vs K'=>vs=[]∧Held S K' [bx kb 4 [.bool (o && (l.take (k+1)).all (inR p))],bx pb 43 (prcVs p bv)],?_,fun _=>?_,[.int .i64 r],rfl,?_,?_⟩
  ·rintro vs K' _ ⟨rfl,h2⟩
   refine ⟨_,z05,n - 1,by omega,k+1,?_,by omega,h2⟩
   simp only [evs,evb];rw [w64 (by omega) (by omega)];rfl
  ·simp only [Chk.holds,evs,evb];exact ⟨r1,by omega,by omega⟩
  ·simp only [evs,evb];exact z18 h1.sh r3
  refine z0t [.bool (o && (l.take k).all (inR p))] (off:=0) (by kernel_rfl) h1 (zms) rfl rfl ?_
  refine ⟨fun _=>rfl,fun g2=>?_,fun g2=>?_⟩
  ·simp only [evs,evb] at g2
   have hg:(o && (l.take k).all (inR p))=true∧0≤r:=by
    cases hc:(o && (l.take k).all (inR p)) with
    | true=>rw [hc] at g2;simp only [Bool.true_and,zdt] at g2;exact ⟨rfl,by omega⟩
    | false=>rw [hc] at g2;simp at g2
   refine z0t [.int .i64 p.regs] (off:=2) (by kernel_rfl) h1 (zmm _ (zms)) rfl rfl ?_
   refine z0n (off:=0) (vs:=[.bool (decide (r < p.regs))]) (by kernel_rfl) h1 (by simp only [evs,evb]) (by simp [oneC]) (by simp) fun K2 h2=>?_
   refine ⟨_,z05,rfl,?_⟩
   have:(o && (l.take (k+1)).all (inR p))=decide (r < p.regs):=by
    rw [zdg _ hr,←Bool.and_assoc,hg.1,Bool.true_and]
    unfold inR
    by_cases h:r < p.regs
    ·rw [decide_eq_true h,decide_eq_true ⟨hg.2,h⟩]
    ·rw [decide_eq_false h,decide_eq_false (fun hh=>h hh.2)]
   rw [this];exact h2
  ·simp only [evs,evb] at g2
   refine z0n (off:=0) (vs:=[.bool false]) (by kernel_rfl) h1 (by simp only [evs,evb]) (by simp [oneC]) (by simp) fun K2 h2=>?_
   refine ⟨_,z05,rfl,?_⟩
   have:(o && (l.take (k+1)).all (inR p))=false:=by
    rw [zdg _ hr,←Bool.and_assoc]
    cases hc:(o && (l.take k).all (inR p)) with
    | true=>
     rw [hc] at g2
     simp only [Bool.true_and,zdf] at g2
     rw [Bool.true_and]
     unfold inR
     exact decide_eq_false (fun hh=>g2 (by omega))
    | false=>rfl
   rw [this];exact h2
 ·simp only [evs,evb,zdf] at g
  rw [List.take_of_length_le (by omega)] at h1
  exact ⟨rfl,h1⟩
theorem za4 {e:EndX}:e.uses=if e.kind=1∨e.kind=2∨e.kind=5 then [e.reg] else if e.kind=3 then [e.reg]++e.args else if e.kind=4 then [e.reg,e.to]++e.args else if e.kind=6 then [e.reg,e.to] else []:=rfl
set_option maxHeartbeats 1000000 in
theorem Z5h (p:PrcX) (bv:Value) (H:PH) (hbv:SlR H p.blocks bv) (hp:p.Fit) (hE:∀b∈p.blocks,b.e.args.length≤20000000):Gives Tryz.prog zyx [.agg (prcVs p bv).toArray] H (.bool (mayP p)):=by
 have hN:=hp.n
 obtain ⟨b0,c0,rfl⟩:=hbv.sl
 refine zuo (prcVs p (.slice b0 p.blocks.length c0)) (by kernel_rfl) (by kernel_rfl) ?_
 simp only [prcVs]
 refine z28 (vs:=prcVs p (.slice b0 p.blocks.length c0)) (Held.nil (PH.le_refl H)) (by kernel_rfl) fun pb K1 _ h1=>?_
 simp only [cns]
 have hm1:bx pb 43 (prcVs p (.slice b0 p.blocks.length c0))∈[bx pb 43 (prcVs p (.slice b0 p.blocks.length c0))]:=zms
 refine ⟨fun vs K=>vs=[.bool (!z4u p)]∧K=K1,?_,?_⟩
 rotate_left
 ·refine ⟨fun _=>rfl,?_⟩
  refine z0t [.int .i64 p.regs] (off:=2) (by kernel_rfl) h1 hm1 rfl rfl ?_
  refine ⟨fun g=>?_,fun g=>?_⟩
  ·simp only [evs,evb] at g
   refine ⟨_,z05,?_,rfl⟩
   unfold z4u;rw [g];rfl
  simp only [evs,evb] at g
  refine z0t [.int .i64 p.regs] (off:=2) (by kernel_rfl) h1 hm1 rfl rfl ?_
  refine ⟨fun g2=>?_,fun g2=>?_⟩
  ·simp only [evs,evb] at g2
   refine ⟨_,z05,?_,rfl⟩
   unfold z4u;rw [g,g2];rfl
  simp only [evs,evb] at g2
  refine z0t [.int .i64 p.params] (off:=0) (by kernel_rfl) h1 hm1 rfl rfl ?_
  refine ⟨fun g3=>?_,fun g3=>?_⟩
  ·simp only [evs,evb] at g3
   refine ⟨_,z05,?_,rfl⟩
   unfold z4u;rw [g,g2,g3];rfl
  simp only [evs,evb] at g3
  refine z0t [.int .i64 p.params] (off:=0) (by kernel_rfl) h1 hm1 rfl rfl ?_
  refine z0t [.int .i64 p.regs] (off:=2) (by kernel_rfl) h1 hm1 rfl rfl ?_
  refine ⟨fun g4=>?_,fun g4=>?_⟩
  ·simp only [evs,evb] at g4
   refine ⟨_,z05,?_,rfl⟩
   unfold z4u;rw [g,g2,g3,g4];rfl
  simp only [evs,evb] at g4
  refine z0t [.slice b0 p.blocks.length c0] (off:=3) (by kernel_rfl) h1 hm1 rfl rfl ?_
  refine ⟨_,z05,?_,rfl⟩
  simp only [evs,evb]
  unfold z4u;rw [g,g2,g3,g4,Bool.not_not];rfl
 rintro vs K _ ⟨rfl,rfl⟩
 simp only [cns]
 refine ⟨fun g=>?_,fun g=>?_⟩
 ·simp only [evs,evb] at g
  refine ⟨?_,h1.sh⟩
  have:z4u p=false:=by simpa using g
  unfold mayP;rw [this];rfl
 simp only [evs,evb] at g
 have hh:z4u p=true:=by simpa using g
 refine z28 (vs:=[.bool false]) h1 (by kernel_rfl) fun kb K2 _ h2=>?_
 refine z0n (off:=0) (vs:=[.bool true]) (by kernel_rfl) h2 (by kernel_rfl) (by simp [oneC]) (by simp) fun K3 h3=>?_
 have h3:Held H K3 [bx kb 4 [.bool true],bx pb 43 (prcVs p (.slice b0 p.blocks.length c0))]:=h3
 refine zk4 (f:=z1t) rfl ?_
 have hmf:∀(E:List Value) (a:List (Nat×VE)),a=[(3,VE.sc (.atom 6)),(1,VE.sc (.atom 4))]→E.getD 6 (.bool false)=pAt kb→E.getD 4 (.bool false)=pAt pb→(.func (.func z1t) ((#[]:Array Operand).map (argEv E a)) ((#[(.tmp 3),(.tmp 1)]:Array Operand).map (argEv E a)):Value)=.func (.func z1t) #[] #[pAt kb,pAt pb]:=by
  rintro E a rfl h6 h4
  rw [zgd] at h6 h4
  simp [argEv,evV,ev,List.lookup,h6,h4]
 rw [hmf _ _ rfl rfl rfl]
 simp only [cns]
 refine ⟨fun _=>rfl,?_⟩
 refine z0t [.slice b0 p.blocks.length c0] (off:=3) (by kernel_rfl) h3 (zmm _ (zms)) rfl rfl ?_
 simp only [cns]
 refine ⟨fun n vs K'=>∃k:Nat,vs=[nI k]∧k+n=p.blocks.length∧∃S',PH.le H S'∧Held S' K' [bx kb 4 [.bool ((p.blocks.take k).all (BlkX.may p))],bx pb 43 (prcVs p (.slice b0 p.blocks.length c0))],⟨p.blocks.length,0,rfl,by omega,H,PH.le_refl _,by simpa using h3⟩,?_⟩
 rintro n vs K4 _ ⟨k,rfl,hkn,S4,l4,h4⟩
 simp only [cns]
 refine ⟨fun g=>?_,fun g=>?_⟩
 rotate_left
 ·simp only [evs,evb,zdf] at g
  rw [List.take_of_length_le (by omega)] at h4
  refine z0t [.bool (p.blocks.all (BlkX.may p))] (off:=0) (by kernel_rfl) h4 (zms) rfl rfl ?_
  refine ⟨?_,PH.le_trans l4 h4.sh⟩
  unfold mayP;rw [hh,Bool.true_and];rfl
 simp only [evs,evb,zdt] at g
 have hk:k < p.blocks.length:=by omega
 obtain ⟨b,hb⟩:∃b,p.blocks[k]?=some b:=⟨_,zge hk⟩
 have hbl:=hp.ins b (List.mem_of_getElem? hb)
 have hbe:=hE b (List.mem_of_getElem? hb)
 obtain ⟨q1,_,ces,q2,q3⟩:=(hbv.le l4).get hb
 obtain ⟨iv,es,rfl,his,hes⟩:=blk_iff.1 q2
 obtain ⟨av,rfl,e1,e2,hea,e3,e4,e5⟩:=end_iff.1 hes
 obtain ⟨b2,c2,rfl⟩:=his.sl
 obtain ⟨b3,c3,rfl⟩:=hea.sl
 refine ⟨fun vs K'=>vs=[]∧∃S',PH.le H S'∧Held S' K' [bx kb 4 [.bool ((p.blocks.take (k+1)).all (BlkX.may p))],bx pb 43 (prcVs p (.slice b0 p.blocks.length c0))],?_,fun _=>?_,[.slice b2 b.ins.length c2,.int .i64 b.e.kind,.int .i64 b.e.reg,.slice b3 b.e.args.length c3,.int .i64 b.e.to,.int .i64 b.e.next,.int .i64 b.e.els],rfl,?_,?_⟩
 ·rintro vs K' _ ⟨rfl,S',l',h'⟩
  refine ⟨_,z05,n - 1,by omega,k+1,?_,by omega,S',l',h'⟩
  simp only [evs,evb];rw [w64 (by omega) (by omega)];rfl
 ·simp only [Chk.holds,evs,evb];exact ⟨q1,by omega,by omega⟩
 ·simp only [evs,evb];exact z18 h4.sh q3
 simp only [cns]
 refine ⟨fun n vs K'=>∃j:Nat,vs=[nI j]∧j+n=b.ins.length∧∃S',PH.le S4 S'∧Held S' K' [bx kb 4 [.bool ((p.blocks.take k).all (BlkX.may p) && (b.ins.take j).all (InsX.may p))],bx pb 43 (prcVs p (.slice b0 p.blocks.length c0))],⟨b.ins.length,0,rfl,by omega,S4,PH.le_refl _,by simpa using h4⟩,?_⟩
 rintro n2 vs K5 _ ⟨j,rfl,hjn,S5,l5,h5⟩
 simp only [cns]
 refine ⟨fun g2=>?_,fun g2=>?_⟩
 ·simp only [evs,evb,zdt] at g2
  obtain ⟨x,hx⟩:∃x,b.ins[j]?=some x:=⟨_,zge (show j < b.ins.length by omega)⟩
  obtain ⟨y1,_,ycs,y2,y3⟩:=(his.le l5).get hx
  obtain ⟨arv,dv,rfl,_,x2,hya,_,_,_,hyd,_⟩:=ins_iff.1 y2
  obtain ⟨rb,rc,rfl⟩:=hya.sl
  obtain ⟨db,dc,rfl⟩:=hyd.sl
  refine ⟨fun vs K'=>vs=[]∧∃S',PH.le S4 S'∧Held S' K' [bx kb 4 [.bool ((p.blocks.take k).all (BlkX.may p) && (b.ins.take (j+1)).all (InsX.may p))],bx pb 43 (prcVs p (.slice b0 p.blocks.length c0))],?_,fun _=>?_,[txt x.op,.int .i64 x.to,.slice rb x.args.length rc,.int .i64 x.const.kind,.int .i64 x.const.int,txt x.const.text,.slice db x.const.list.length dc,.int .i64 x.num],rfl,?_,?_⟩
  ·rintro vs K' _ ⟨rfl,S',l',h'⟩
   refine ⟨_,z05,n2 - 1,by omega,j+1,?_,by omega,S',l',h'⟩
   simp only [evs,evb];rw [w64 (by omega) (by omega)];rfl
  ·simp only [Chk.holds,evs,evb];exact ⟨y1,by omega,by omega⟩
  ·simp only [evs,evb];exact z18 h5.sh y3
  simp only [cns]
  refine z87 (f:=z1t) (first:=#[]) (caps:=#[pAt kb,pAt pb]) (by rfl) z34 (z9i p x.args (.slice rb x.args.length rc) (.slice b0 p.blocks.length c0) kb pb S5 K5 _ hya h5) ?_
  rintro e K6 ⟨rfl,h6⟩
  refine ⟨_,[],rfl,rfl,rfl,z06,fun g3=>?_,fun g3=>?_⟩
  ·simp only [evs,evb,zll] at g3
   have hop:x.op≠tieB:=by simpa using g3
   refine z0x (α:=Int) (l:=[x.to]) (b:=8) [.int .i64 x.to] z0y z0v rfl (by decide) (by decide) h6 (by kernel_rfl) (.cons (z0o x2) .nil) z06 fun v7 K7 h7 _ _=>?_
   obtain ⟨S8,s8,l8,h8⟩:=h7.freeze
   obtain ⟨b8,c8,rfl⟩:=s8.sl
   simp only [cns]
   refine z87 (f:=z1t) (first:=#[]) (caps:=#[pAt kb,pAt pb]) (by rfl) z34 (z9i p [x.to] (.slice b8 1 c8) (.slice b0 p.blocks.length c0) kb pb S8 K7 _ s8 h8) ?_
   rintro e K9 ⟨rfl,h9⟩
   refine ⟨_,[],rfl,rfl,rfl,z06,_,z05,rfl,S8,PH.le_trans l5 l8,?_⟩
   have:((p.blocks.take k).all (BlkX.may p) && (b.ins.take (j+1)).all (InsX.may p))=(((p.blocks.take k).all (BlkX.may p) && (b.ins.take j).all (InsX.may p)) && x.args.all (inR p) && ([x.to]:List Int).all (inR p)):=by
    rw [zdg _ hx];unfold InsX.may
    rw [decide_eq_false hop];simp [Bool.and_assoc]
   rw [this];exact h9
  ·simp only [evs,evb,zll] at g3
   have hop:x.op=tieB:=by simpa using g3
   refine ⟨_,z05,rfl,S5,l5,?_⟩
   have:((p.blocks.take k).all (BlkX.may p) && (b.ins.take (j+1)).all (InsX.may p))=(((p.blocks.take k).all (BlkX.may p) && (b.ins.take j).all (InsX.may p)) && x.args.all (inR p)):=by
    rw [zdg _ hx];unfold InsX.may
    rw [decide_eq_true hop];simp [Bool.and_assoc]
   rw [this];exact h6
 simp only [evs,evb,zdf] at g2
 rw [List.take_of_length_le (l:=b.ins) (by omega)] at h5
 have hall:(p.blocks.take (k+1)).all (BlkX.may p)=(((p.blocks.take k).all (BlkX.may p) && b.ins.all (InsX.may p)) && b.e.uses.all (inR p)):=by
  rw [zdg _ hb];unfold BlkX.may;rw [Bool.and_assoc]
 have hea5:=hea.le l5
 refine ⟨fun vs K=>K=K5∧vs=[.bool (decide (b.e.kind=1∨b.e.kind=2∨b.e.kind=5))],?_,fun g=>?_,fun g=>?_⟩
 ·rintro vs K _ ⟨rfl,rfl⟩
  simp only [cns]
  refine ⟨fun g=>?_,fun g=>⟨fun g2=>?_,fun g2=>⟨fun g3=>?_,fun g3=>⟨fun g4=>?_,fun g4=>?_⟩⟩⟩⟩
  ·simp only [evs,evb,zdt] at g
   have hu:b.e.uses=[b.e.reg]:=by rw [za4,if_pos g]
   refine z0x (α:=Int) (l:=[b.e.reg]) (b:=8) [.int .i64 b.e.reg] z0y z0v rfl (by decide) (by decide) h5 (by kernel_rfl) (.cons (z0o e2) .nil) z06 fun v7 K7 h7 _ _=>?_
   obtain ⟨S8,s8,l8,h8⟩:=h7.freeze
   obtain ⟨b8,c8,rfl⟩:=s8.sl
   simp only [cns]
   refine z87 (f:=z1t) (first:=#[]) (caps:=#[pAt kb,pAt pb]) (by rfl) z34 (z9i p [b.e.reg] (.slice b8 1 c8) (.slice b0 p.blocks.length c0) kb pb S8 K7 _ s8 h8) ?_
   rintro e K9 ⟨rfl,h9⟩
   exact ⟨_,[],rfl,rfl,rfl,z06,_,z17 rfl z05,rfl,S8,PH.le_trans l4 (PH.le_trans l5 l8),by rw [hall,hu];exact h9⟩
  ·simp only [evs,evb,zdf] at g
   simp only [evs,evb,zdt] at g2
   have hu:b.e.uses=[b.e.reg]++b.e.args:=by rw [za4,if_neg g,if_pos g2]
   refine z0x (α:=Int) (l:=[b.e.reg]) (b:=8) [.int .i64 b.e.reg] z0y z0v rfl (by decide) (by decide) h5 (by kernel_rfl) (.cons (z0o e2) .nil) z06 fun v6 K6 h6 _ _=>?_
   refine z7b (b:=8) (more:=b.e.args) z0y z0v (by kernel_rfl) (by kernel_rfl) h6 (hea5.srcS h6.sh) (by simp only [maxLen,zlc,List.length_nil];omega) (by simp only [zlc,List.length_nil];omega) fun v7 K7 h7 _=>⟨z06,?_⟩
   obtain ⟨S8,s8,l8,h8⟩:=h7.freeze
   obtain ⟨b8,c8,rfl⟩:=s8.sl
   simp only [cns]
   refine z87 (f:=z1t) (first:=#[]) (caps:=#[pAt kb,pAt pb]) (by rfl) z34 (z9i p ([b.e.reg]++b.e.args) (.slice b8 ([b.e.reg]++b.e.args).length c8) (.slice b0 p.blocks.length c0) kb pb S8 K7 _ s8 h8) ?_
   rintro e K9 ⟨rfl,h9⟩
   exact ⟨_,[],rfl,rfl,rfl,z06,_,z17 rfl z05,rfl,S8,PH.le_trans l4 (PH.le_trans l5 l8),by rw [hall,hu];exact h9⟩
  ·simp only [evs,evb,zdf] at g g2
   simp only [evs,evb,zdt] at g3
   have hu:b.e.uses=[b.e.reg,b.e.to]++b.e.args:=by rw [za4,if_neg g,if_neg g2,if_pos g3]
   refine z0x (α:=Int) (l:=[b.e.reg,b.e.to]) (b:=8) [.int .i64 b.e.reg,.int .i64 b.e.to] z0y z0v rfl (by decide) (by decide) h5 (by kernel_rfl) (.cons (z0o e2) (.cons (z0o e3) .nil)) z06 fun v6 K6 h6 _ _=>?_
   refine z7b (b:=8) (more:=b.e.args) z0y z0v (by kernel_rfl) (by kernel_rfl) h6 (hea5.srcS h6.sh) (by simp only [maxLen,zlc,List.length_nil];omega) (by simp only [zlc,List.length_nil];omega) fun v7 K7 h7 _=>⟨z06,?_⟩
   obtain ⟨S8,s8,l8,h8⟩:=h7.freeze
   obtain ⟨b8,c8,rfl⟩:=s8.sl
   simp only [cns]
   refine z87 (f:=z1t) (first:=#[]) (caps:=#[pAt kb,pAt pb]) (by rfl) z34 (z9i p ([b.e.reg,b.e.to]++b.e.args) (.slice b8 ([b.e.reg,b.e.to]++b.e.args).length c8) (.slice b0 p.blocks.length c0) kb pb S8 K7 _ s8 h8) ?_
   rintro e K9 ⟨rfl,h9⟩
   exact ⟨_,[],rfl,rfl,rfl,z06,_,z17 rfl z05,rfl,S8,PH.le_trans l4 (PH.le_trans l5 l8),by rw [hall,hu];exact h9⟩
  ·simp only [evs,evb,zdf] at g g2 g3
   simp only [evs,evb,zdt] at g4
   have hu:b.e.uses=[b.e.reg,b.e.to]:=by rw [za4,if_neg g,if_neg g2,if_neg g3,if_pos g4]
   refine z0x (α:=Int) (l:=[b.e.reg,b.e.to]) (b:=8) [.int .i64 b.e.reg,.int .i64 b.e.to] z0y z0v rfl (by decide) (by decide) h5 (by kernel_rfl) (.cons (z0o e2) (.cons (z0o e3) .nil)) z06 fun v7 K7 h7 _ _=>?_
   obtain ⟨S8,s8,l8,h8⟩:=h7.freeze
   obtain ⟨b8,c8,rfl⟩:=s8.sl
   simp only [cns]
   refine z87 (f:=z1t) (first:=#[]) (caps:=#[pAt kb,pAt pb]) (by rfl) z34 (z9i p [b.e.reg,b.e.to] (.slice b8 2 c8) (.slice b0 p.blocks.length c0) kb pb S8 K7 _ s8 h8) ?_
   rintro e K9 ⟨rfl,h9⟩
   exact ⟨_,[],rfl,rfl,rfl,z06,_,z17 rfl z05,rfl,S8,PH.le_trans l4 (PH.le_trans l5 l8),by rw [hall,hu];exact h9⟩
  ·simp only [evs,evb,zdf] at g g2 g3 g4
   have hu:b.e.uses=[]:=by rw [za4,if_neg g,if_neg g2,if_neg g3,if_neg g4]
   exact ⟨_,z17 rfl z05,rfl,S5,PH.le_trans l4 l5,by rw [hall,hu,List.all_nil,Bool.and_true];exact h5⟩
 ·simp only [evs,evb,zdt] at g
  refine ⟨_,z05,rfl,?_⟩
  simp [evs,evb,g]
 ·simp only [evs,evb,zdf] at g
  refine ⟨_,z05,rfl,?_⟩
  by_cases h2:b.e.kind=2<;>by_cases h5:b.e.kind=5<;>simp [evs,evb,g,h2,h5]
structure FillX where
 to:Int
 of:Int
 live:List Int
instance encFill:Enc FillX:=⟨fun f=>[.int .i64 f.to,.int .i64 f.of,slp f.live],3,fun _=>rfl⟩
def moveB:List UInt8:=[109,111,118,101]
theorem Z0r (l:List UInt8):cmpS .neq ⟨l.toArray⟩ ⟨#[109,111,118,101]⟩=!decide (l=moveB):=by
 show (!((⟨l.toArray⟩:ByteArray).toList == (⟨moveB.toArray⟩:ByteArray).toList))=_
 rw [zlg]
def lessL (l m:List Int):List Int:=l.filter fun r=>decide (r∉m)
noncomputable def zc2 (p:PrcX) (i j:Nat) (x:InsX):List FillX:=if x.op=tieB then [] else [⟨x.to,-1,if x.op=moveB then lessL (liveL p i (j+1)) x.args else liveL p i (j+1)⟩]
noncomputable def z3h (p:PrcX) (i:Nat) (b:BlkX) (k:Nat):List FillX:=(List.range k).flatMap fun j=>match b.ins[j]? with
 | some x=>zc2 p i j x
 | none=>[]
noncomputable def zc1 (p:PrcX) (i:Nat) (b:BlkX):List FillX:=z3h p i b b.ins.length++if b.e.calls then [⟨b.e.to,-1,z2b p (i:Int)⟩] else []
noncomputable def z2k (p:PrcX) (k:Nat):List FillX:=(List.range k).flatMap fun i=>match p.blocks[i]? with
 | some b=>zc1 p i b
 | none=>[]
noncomputable def Z3i (p:PrcX):List FillX:=z2k p p.blocks.length
theorem zan {p:PrcX} {i j:Nat} {b:BlkX} {x:InsX} (h:b.ins[j]?=some x):z3h p i b (j+1)=z3h p i b j++zc2 p i j x:=by
 unfold z3h;rw [List.range_succ,List.flatMap_append];simp [h]
theorem zd2 {p:PrcX} {k:Nat} {b:BlkX} (h:p.blocks[k]?=some b):z2k p (k+1)=z2k p k++zc1 p k b:=by
 unfold z2k;rw [List.range_succ,List.flatMap_append];simp [h]
theorem zyt {p:PrcX} (hp:p.Fit) (i:Int):(z2b p i).length≤20000000:=by
 unfold z2b
 split
 ·split
  ·exact Nat.le_trans (List.length_filter_le _ _) (zl3 hp _ _)
  ·simp
 ·simp
theorem zta {α:Type}:∀{l:List α} {i:Nat} {x:α},l[i]?=some x→(x::l.eraseIdx i).Perm l
 | [],i,x,h=>by simp at h
 | a::l,0,x,h=>by simp at h;subst h;exact List.Perm.refl _
 | a::l,i+1,x,h=>by
  have:=zta (l:=l) (i:=i) (x:=x) (by simpa using h)
  exact (List.Perm.swap a x _).trans (this.cons a)
theorem zw4 {α:Type} {x:α}:∀{l:List α} {i:Nat},i < l.length→(x::l.eraseIdx i).Perm (l.set i x)
 | [],i,h=>by simp at h
 | a::l,0,h=>by exact List.Perm.refl _
 | a::l,i+1,h=>by
  have:=zw4 (x:=x) (l:=l) (i:=i) (by simpa using h)
  exact (List.Perm.swap a x _).trans (this.cons a)
theorem Held.pick {S H:PH} {I L:List Itm} {x:Itm} {a:Nat} (h:Held S H (I++L)) (hx:L[a]?=some x):Held S H (x::(I++L.eraseIdx a)):=
 h.perm (((List.Perm.append_left I (zta hx).symm)).trans List.perm_middle)
theorem Held.unpick {S H:PH} {I L:List Itm} {x:Itm} {a:Nat} (h:Held S H (x::(I++L.eraseIdx a))) (ha:a < L.length):Held S H (I++L.set a x):=
 h.perm (List.perm_middle.symm.trans (List.Perm.append_left I (zw4 ha)))
theorem Held.blkRow {α:Type} [Enc α] {S H:PH} {I:List Itm} {e:TypeId} {xs:List Value} {r:Nat} {L:List α} (hz:sz α=1) (h:Held S H (.blk r (.cells xs.toArray e (0,0))::I)) (hrep:PV.RepRow S (L.flatMap pv) xs) (hm:L.length≤maxLen) :
  Held S H (orow e L (.slice (some ⟨r,0,none⟩) L.length L.length)::I):=by
 have hb:H r=some (.cells xs.toArray e (0,0)):=h.at_ _ (zms)
 have hl:xs.length=L.length:=by have:=hrep.length;rw [z2q,hz,Nat.mul_one] at this;exact this
 have hR:Row S H e L (.slice (some ⟨r,0,none⟩) L.length L.length):=by
  refine ⟨fun g hg=>?_,xs,⟨by rw [hz,Nat.mul_one];exact hl,.inr ⟨r,L.length,xs.toArray,rfl,hb,Nat.le_refl _,hm,by rw [hz,Nat.mul_one];simpa using hl,?_⟩⟩,hrep⟩
  ·simp only [ob,Option.some.injEq] at hg
   subst hg
   exact h.off _ (zms) r rfl
  ·rw [List.toList_toArray,hz,Nat.mul_one]
   exact List.take_of_length_le (by omega)
 exact Held.step (J:=[.blk r (.cells xs.toArray e (0,0))]) (J':=[orow e L (.slice (some ⟨r,0,none⟩) L.length L.length)]) h (PH.le_refl _) (fun k o hk _=>hk) (fun k a b=>absurd a b) (Row.held h.sh hR) fun j hj k hk=>by
  rw [List.mem_singleton.1 hj] at hk
  simp only [Itm.ob,ob,Option.some.injEq] at hk
  subst hk
  exact .inr ⟨_,List.mem_singleton.2 rfl,rfl⟩
instance encBools:Enc (List Bool):=⟨fun l=>[slp l],1,fun _=>rfl⟩
structure TabIs (R:Nat) (T:List (List Bool)) (M:Nat→Nat→Prop):Prop where
 len:T.length=R
 row:∀(a:Nat) l,T[a]?=some l→l.length=R
 at_:∀(a b:Nat) l,T[a]?=some l→b < R→(l[b]?=some true↔M a b)
theorem TabIs.congr {R:Nat} {T:List (List Bool)} {M M':Nat→Nat→Prop} (h:TabIs R T M) (hm:∀a b,a < R→b < R→(M a b↔M' a b)):TabIs R T M':=
 ⟨h.len,h.row,fun a b l hl hb=>(h.at_ a b l hl hb).trans (hm a b (by have:=(List.getElem?_eq_some_iff.1 hl).1;rw [h.len] at this;exact this) hb)⟩
theorem TabIs.put {R:Nat} {T:List (List Bool)} {M:Nat→Nat→Prop} (h:TabIs R T M) {a b:Nat} {l:List Bool} (hl:T[a]?=some l) (hb:b < R):TabIs R (T.set a (l.set b true)) fun x y=>M x y∨(x=a∧y=b):=by
 have hlr:=h.row a l hl
 have haT:=(List.getElem?_eq_some_iff.1 hl).1
 refine ⟨by simpa using h.len,fun x m hm=>?_,fun x y m hm hy=>?_⟩
 ·rw [List.getElem?_set] at hm
  by_cases e:a=x
  ·rw [if_pos e,if_pos (by omega)] at hm;cases hm;simpa using hlr
  ·rw [if_neg e] at hm;exact h.row x m hm
 ·rw [List.getElem?_set] at hm
  by_cases e:a=x
  ·subst e
   rw [if_pos rfl,if_pos haT] at hm;cases hm
   rw [List.getElem?_set]
   by_cases e2:b=y
   ·subst e2
    rw [if_pos rfl,if_pos (by omega)]
    exact ⟨fun _=>.inr ⟨rfl,rfl⟩,fun _=>rfl⟩
   ·rw [if_neg e2,h.at_ a y l hl hy]
    exact ⟨.inl,fun hh=>hh.elim id fun hh=>absurd hh.2.symm e2⟩
  ·rw [if_neg e] at hm
   rw [h.at_ x y m hm hy]
   exact ⟨.inl,fun hh=>hh.elim id fun hh=>absurd hh.1.symm e⟩
theorem TabIs.none (R:Nat):TabIs R (List.replicate R (List.replicate R false)) fun _ _=>False:=by
 refine ⟨by simp,fun a l h=>?_,fun a b l h hb=>?_⟩
 ·rw [List.getElem?_replicate] at h;split at h
  ·cases h;simp
  ·cases h
 ·rw [List.getElem?_replicate] at h;split at h
  ·cases h
   rw [List.getElem?_replicate,if_pos hb];simp
  ·cases h
section
variable {X:List PanicEntry→PH→Prop} {β:Type} {E:List Value} {L:LK} {K:β→List Value→PH→LK→Prop} {S H:PH} {J:List Itm}
end
def FillX.sym (f:FillX) (a b:Int):Prop:=(a=f.to∧b∈f.live)∨(b=f.to∧a∈f.live)
def MeetP (p:PrcX) (a b:Int):Prop:=(a∈liveL p 0 0∧b∈liveL p 0 0)∨∃f∈Z3i p,f.sym a b
theorem Z6x {p:PrcX} (h:mayP p=true) {r:Int} (hr:r∈p.regl):0≤r∧r < p.regs:=by
 obtain ⟨b,hb,hx⟩:=List.mem_flatMap.1 hr
 unfold mayP at h
 simp only [zba,List.all_eq_true] at h
 have hbm:=h.2 b hb
 unfold BlkX.may at hbm
 simp only [zba,List.all_eq_true] at hbm
 have key:inR p r=true→0≤r∧r < p.regs:=fun h=>by unfold inR at h;exact of_decide_eq_true h
 unfold BlkX.regs at hx
 rcases List.mem_append.1 hx with hx | hx
 ·obtain ⟨y,hy,hxy⟩:=List.mem_flatMap.1 hx
  have:=hbm.1 y hy
  unfold InsX.may at this
  simp only [zba,List.all_eq_true] at this
  exact key (this.1 r hxy)
 ·refine key (hbm.2 r ?_)
  unfold EndX.regs at hx
  unfold EndX.uses
  rcases List.mem_append.1 hx with hx | hx
  ·split at hx
   ·rename_i hrd
    simp at hx;subst hx
    unfold EndX.reads at hrd
    by_cases h1:b.e.kind=1∨b.e.kind=2∨b.e.kind=5
    ·rw [if_pos h1];simp
    ·rw [if_neg h1]
     by_cases h3:b.e.kind=3
     ·rw [if_pos h3];simp
     ·rw [if_neg h3]
      by_cases h4:b.e.kind=4
      ·rw [if_pos h4];simp
      ·rw [if_neg h4]
       by_cases h6:b.e.kind=6
       ·rw [if_pos h6];simp
       ·rw [if_neg (by omega),if_neg (by omega)] at hrd;cases hrd
   ·cases hx
  ·split at hx
   ·rename_i hk
    rw [if_neg (by omega)]
    by_cases h3:b.e.kind=3
    ·rw [if_pos h3];exact zmm _ hx
    ·rw [if_neg h3,if_pos (by omega)];exact zmm _ (zmm _ hx)
   ·cases hx
theorem zdb {p:PrcX} (h:mayP p=true) {r:Int} {i a:Nat} (hr:r∈liveL p i a):0≤r∧r < p.regs:=Z6x h (z5g (liveL_mem.1 hr))
theorem zhq {p:PrcX} (h:mayP p=true) {f:FillX} (hf:f∈Z3i p):(0≤f.to∧f.to < p.regs)∧∀r∈f.live,0≤r∧r < p.regs:=by
 obtain ⟨i,hi,hf⟩:=List.mem_flatMap.1 hf
 cases hb:p.blocks[i]? with
 | none=>rw [hb] at hf;simp at hf
 | some b=>
  rw [hb] at hf
  simp only at hf
  unfold mayP at h
  have h0:=h
  simp only [zba,List.all_eq_true] at h
  have hbm:=h.2 b (List.mem_of_getElem? hb)
  unfold BlkX.may at hbm
  simp only [zba,List.all_eq_true] at hbm
  have key:∀{r},inR p r=true→0≤r∧r < p.regs:=fun h=>by unfold inR at h;exact of_decide_eq_true h
  unfold zc1 at hf
  rcases List.mem_append.1 hf with hf | hf
  ·obtain ⟨j,hj,hf⟩:=List.mem_flatMap.1 hf
   cases hx:b.ins[j]? with
   | none=>rw [hx] at hf;simp at hf
   | some x=>
    rw [hx] at hf
    simp only [zc2] at hf
    split at hf
    ·cases hf
    ·rename_i hop
     have hxm:=hbm.1 x (List.mem_of_getElem? hx)
     unfold InsX.may at hxm
     rw [decide_eq_false hop] at hxm
     simp only [zba,List.all_eq_true,Bool.false_or] at hxm
     rw [List.mem_singleton.1 hf]
     refine ⟨key hxm.2,fun r hr=>?_⟩
     split at hr
     ·exact zdb h0 (List.mem_filter.1 hr).1
     ·exact zdb h0 hr
  ·split at hf
   ·rename_i hc
    rw [List.mem_singleton.1 hf]
    refine ⟨?_,fun r hr=>?_⟩
    ·refine key (hbm.2 _ ?_)
     unfold EndX.calls at hc
     simp only [zdt] at hc
     unfold EndX.uses
     rw [if_neg (by omega),if_neg (by omega)]
     by_cases h4:b.e.kind=4
     ·rw [if_pos h4];simp
     ·rw [if_neg h4,if_pos (by omega)];simp
    ·unfold z2b at hr
     split at hr
     ·split at hr
      ·exact zdb h0 (List.mem_filter.1 hr).1
      ·cases hr
     ·cases hr
   ·cases hf
theorem zxb {p:PrcX} (h:mayP p=true):0≤p.regs∧p.regs≤2000∧0≤p.params∧p.params≤p.regs∧p.blocks≠[]:=by
 unfold mayP z4u at h
 simp only [zba,Bool.not_eq_true',Bool.or_eq_false_iff,zdf] at h
 refine ⟨by omega,by omega,by omega,by omega,fun e=>?_⟩
 rw [e] at h;simp at h
instance encPair:Enc (Int×Int):=⟨fun x=>[.int .i64 x.1,.int .i64 x.2],2,fun _=>rfl⟩
def lexLt (x y:Int×Int):Prop:=x.1 < y.1∨(x.1=y.1∧x.2 < y.2)
structure EdgesOf (p:PrcX) (l:List (Int×Int)):Prop where
 sorted:l.Pairwise lexLt
 mem:∀a b:Int,(a,b)∈l↔0≤a∧a < b∧b < p.regs∧MeetP p a b
def cntB (f:Nat→Bool):Nat→Nat
 | 0=>0
 | n+1=>cntB f n+if f n then 1 else 0
def Z51 (R:Nat) (M:Nat→Nat→Prop) (k:Int) (U:Nat→Bool):Prop:=∀i,i < R→U i=true→∃f:Nat→Bool,(∀j,j < R→f j=true→U j=true∧j≠i∧M i j)∧k≤(cntB f R:Int)
end Go.Proofs.YtfkclejklgoccaaGreat.Vc
