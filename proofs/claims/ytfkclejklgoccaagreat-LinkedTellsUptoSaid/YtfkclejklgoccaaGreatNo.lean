import Derived.Test.YtfkclejklgoccaaGreatNn
set_option linter.unusedSimpArgs false
set_option linter.unusedVariables false
set_option maxRecDepth 100000
namespace Go.Proofs.YtfkclejklgoccaaGreat.Vc
open Go
theorem zQt {a b c:PH}(h:PH.le a b)(k:PH.le b c):PH.le a c:=PH.le_trans h k
theorem zQr(a:PH):PH.le a a:=PH.le_refl a
theorem zmr:∀(s:List Int) (k:Int),getM (encS s) k=if k∈s then some (Value.int .i64 1) else none
 | [],k=>by simp [encS,getM]
 | a::s,k=>by
  have ih:=zmr s k
  rw [encS,List.map_cons,z3t]
  by_cases e:a=k
  ·subst e;simp
  ·rw [if_neg e]
   have:(k∈a::s)↔k∈s:=by rw [zmc];exact ⟨fun h=>h.elim (fun h=>absurd h.symm e) id,.inr⟩
   simp only [this]
   exact ih
def plAt (pl:List Int) (q:Int):Int:=pl.getD q.toNat 0
theorem Zc1 {pl:List Int} {q:Nat} {a:Int} (h:pl[q]?=some a):plAt pl (q:Int)=a:=by
 unfold plAt;rw [Int.toNat_natCast,zgd,h];rfl
theorem zwd {pl:List Int} {q:Nat} (h:q < pl.length):pl[q]?=some (plAt pl (q:Int)):=by
 unfold plAt;rw [Int.toNat_natCast,zgd,zge h];rfl
structure ColOk (N:List (Int×GN)) (R:Nat) (k:Int) (st:List Int) (i:Nat) (pl:List Int) (most:Int):Prop where
 len:pl.length=R
 bef:∀r:Nat,r < R→(r:Int)∉st.reverse.take i→pl[r]?=some (-1)
 aft:∀(r:Nat) a,pl[r]?=some a→(r:Int)∈st.reverse.take i→0≤a∧a < most
 apart:∀(r q:Nat) a,pl[r]?=some a→pl[q]?=some a→0≤a→(q:Int)∉adjN N (r:Int)
 lo:k≤most
 hi:most≤k+R+1
 used:∀s,k≤s→s < most→s∈pl
 tight:k < most→∃(t:Nat) (s:Nat),st[t]?=some (s:Int)∧s < R∧∀u:Nat,u < R→(u:Int)∉st.take t→k≤degN N (st.take t) u
 few:∀(r:Nat) a,pl[r]?=some a→a≤((adjN N (r:Int)).length:Int)
theorem ziv (j:Nat):((List.range j).map Int.ofNat).Nodup:=by
 rw [List.Nodup,List.pairwise_map]
 exact (List.nodup_range (n:=j)).imp fun h e=>h (Int.ofNat.inj e)
theorem Zet {R:Nat} {st:List Int} (hn:st.Nodup) (hl:st.length=R) (hr:∀s:Int,s∈st→0≤s∧s < R) (j:Nat) (hj:j < R):(j:Int)∈st:=by
 refine Classical.byContradiction fun hno=>?_
 have h1:((j:Int)::st).length≤((List.range R).map Int.ofNat).length:=z0w (List.nodup_cons.2 ⟨hno,hn⟩) fun y hy=>by
  rcases zmc.1 hy with rfl | hy
  ·exact zmp.2 ⟨j,List.mem_range.2 hj,rfl⟩
  ·have:=hr y hy
   exact zmp.2 ⟨y.toNat,List.mem_range.2 (by omega),show ((y.toNat:Nat):Int)=y by omega⟩
 rw [zlm,List.length_range,zlc] at h1
 omega
theorem Zbo {N:List (Int×GN)} {R:Nat} {k:Int} {st:List Int} {i:Nat} {pl:List Int} {most:Int} (ok:GraphOk R N) (hk:1≤k) (hn:st.Nodup) (hl:st.length=R) (hr:∀s:Int,s∈st→0≤s∧s < R) (hord:OrdOk N R k st) (h:ColOk N R k st i pl most) {r:Nat} (hri:st.reverse[i]?=some (r:Int)) (hrR:r < R) {j:Nat}
  (hj:∀x:Nat,x < j→∃q∈adjN N (r:Int),plAt pl q=(x:Int)) (hnj:¬∃q∈adjN N (r:Int),plAt pl q=(j:Int)) (hjR:j≤R) :
  ColOk N R k st (i+1) (pl.set r (j:Int)) (if (j:Int)+1 > most then (j:Int)+1 else most):=by
 have hnr:st.reverse.Nodup:=List.pairwise_reverse.2 (hn.imp fun h=>Ne.symm h)
 have hiR:i < R:=by have:=(zgi.1 hri).1;rwa [List.length_reverse,hl] at this
 have htk:∀y,y∈st.reverse.take (i+1)↔y∈st.reverse.take i∨y=(r:Int):=fun y=>by
  rw [List.take_add_one,hri];simp
 have hnot:(r:Int)∉st.reverse.take i:=fun hm=>by
  obtain ⟨a,ha⟩:=List.getElem?_of_mem hm
  rw [List.getElem?_take] at ha
  split at ha
  ·rename_i hai
   have:=(List.getElem?_inj (zgi.1 ha).1 hnr).1 (ha.trans hri.symm)
   omega
  ·cases ha
 have hplr:=h.bef r hrR hnot
 have hlen:=h.len
 have hq:∀q∈adjN N (r:Int),∃qn:Nat,q=(qn:Int)∧qn < R∧qn≠r∧pl[qn]?=some (plAt pl q):=fun q hq=>by
  obtain ⟨_,h1,_,_,h2,h3⟩:=ok.rel _ _ hq
  refine ⟨q.toNat,by omega,by omega,fun e=>h1 (by omega),?_⟩
  have:=zwd (pl:=pl) (q:=q.toNat) (by omega)
  rwa [show ((q.toNat:Nat):Int)=q by omega] at this
 have hset:∀q:Nat,q≠r→(pl.set r (j:Int))[q]?=pl[q]?:=fun q hne=>by rw [List.getElem?_set,if_neg (Ne.symm hne)]
 have hsetr:(pl.set r (j:Int))[r]?=some (j:Int):=by rw [List.getElem?_set,if_pos rfl,if_pos (by omega)]
 refine ⟨by simpa using h.len,fun x hx hxn=>?_,fun x a ha hx=>?_,fun x q a hx hqa ha hadj=>?_,?_,?_,fun s hs1 hs2=>?_,fun hm=>?_,fun x a hx=>?_⟩
 ·rw [htk] at hxn
  rw [hset x (fun e=>hxn (.inr (by rw [e])))]
  exact h.bef x hx fun hh=>hxn (.inl hh)
 ·by_cases e:x=r
  ·subst e
   rw [hsetr] at ha;cases ha
   split<;>omega
  ·rw [hset x e] at ha
   have:=h.aft x a ha (((htk x).1 hx).resolve_right fun hh=>e (by omega))
   split<;>omega
 ·by_cases e:x=r
  ·subst e
   rw [hsetr] at hx;cases hx
   obtain ⟨qn,h1,_,h2,h3⟩:=hq _ hadj
   have:qn=q:=by omega
   subst this
   rw [hset qn h2,h3] at hqa
   exact hnj ⟨_,hadj,Option.some.inj hqa⟩
  ·rw [hset x e] at hx
   by_cases e2:q=r
   ·subst e2
    rw [hsetr] at hqa;cases hqa
    exact hnj ⟨_,(ok.rel _ _ hadj).1,Zc1 hx⟩
   ·rw [hset q e2] at hqa
    exact h.apart x q a hx hqa ha hadj
 ·have:=h.lo;split<;>omega
 ·have:=h.hi;have:=h.lo;split<;>omega
 ·by_cases hsm:s < most
  ·obtain ⟨a,ha⟩:=List.getElem?_of_mem (h.used s hs1 hsm)
   have hne:a≠r:=fun e=>by subst e;rw [hplr] at ha;cases ha;omega
   exact zmg (i:=a) (by rw [hset a hne];exact ha)
  ·have hle:s≤(j:Int):=by split at hs2<;>omega
   by_cases e:s=(j:Int)
   ·subst e;exact zmg hsetr
   ·obtain ⟨q,hqa,hqs⟩:=hj s.toNat (by omega)
    obtain ⟨qn,rfl,_,h2,h3⟩:=hq q hqa
    refine zmg (i:=qn) ?_
    rw [hset qn h2,h3,hqs]
    congr 1;omega
 ·by_cases hkm:k < most
  ·exact h.tight hkm
  ·have hjk:k≤(j:Int):=by have:=h.lo;split at hm<;>omega
   have hst:st[R - 1 - i]?=some (r:Int):=by
    rw [List.getElem?_reverse (by omega)] at hri
    rw [hl] at hri;exact hri
   refine ⟨R - 1 - i,r,hst,hrR,?_⟩
   have hdeg:j≤degN N (st.take (R - 1 - i)) (r:Int):=by
    have h1:((List.range j).map Int.ofNat).length≤(((adjN N (r:Int)).filter fun d=>decide (d∉st.take (R - 1 - i))).map (plAt pl)).length:=z0w (ziv j) fun y hy=>by
     obtain ⟨x,hx,rfl⟩:=zmp.1 hy
     obtain ⟨q,hqa,hqx⟩:=hj x (List.mem_range.1 hx)
     refine zmp.2 ⟨q,zmf.2 ⟨hqa,decide_eq_true fun hin=>?_⟩,hqx⟩
     obtain ⟨qn,rfl,h1,h2,h3⟩:=hq q hqa
     have hmem:(qn:Int)∈st.reverse.take i:=Classical.byContradiction fun hno=>by
      have:=h.bef qn h1 hno
      rw [h3,hqx] at this
      have:=Option.some.inj this
      omega
     rw [List.take_reverse,List.mem_reverse,hl] at hmem
     obtain ⟨a,ha⟩:=List.getElem?_of_mem hmem
     obtain ⟨b,hb⟩:=List.getElem?_of_mem hin
     rw [List.getElem?_drop] at ha
     rw [List.getElem?_take] at hb
     split at hb
     ·have:=(List.getElem?_inj (zgi.1 ha).1 hn).1 (ha.trans hb.symm)
      omega
     ·cases hb
    rw [zlm,List.length_range,zlm] at h1
    exact h1
   rcases hord _ _ hst with h5 | h5
   ·omega
   ·exact h5
 ·by_cases e:x=r
  ·subst e
   rw [hsetr] at hx;cases hx
   have h1:((List.range j).map Int.ofNat).length≤((adjN N (x:Int)).map (plAt pl)).length:=z0w (ziv j) fun y hy=>by
    obtain ⟨z,hz,rfl⟩:=zmp.1 hy
    obtain ⟨q,hqa,hqx⟩:=hj z (List.mem_range.1 hz)
    exact zmp.2 ⟨q,hqa,hqx⟩
   rw [zlm,List.length_range,zlm] at h1
   omega
  ·rw [hset x e] at hx
   exact h.few x a hx
theorem zsk (f:Nat→Bool):∀n,cntB f n=((List.range n).filter f).length
 | 0=>rfl
 | n+1=>by
  rw [List.range_succ,List.filter_append,zla,←zsk f n]
  simp only [cntB,List.filter_cons,List.filter_nil]
  split<;>simp
theorem Z9x {p:PrcX} {N:List (Int×GN)} {R:Nat} {k:Int} {g:List Int} (ok:GraphOk R N) (hrel:∀a b,b∈adjN N a↔a≠b∧MeetP p a b) (h:∀u:Nat,u < R→(u:Int)∉g→k≤degN N g u):Z8s R (fun a b=>MeetP p (a:Int) (b:Int)) k fun i=>decide ((i:Int)∉g):=by
 intro i hi hu
 refine ⟨fun j=>decide ((j:Int)∈adjN N (i:Int)) && decide ((j:Int)∉g),fun j hj hf=>?_,?_⟩
 ·rw [zba,zdt,zdt] at hf
  have:=(hrel _ _).1 hf.1
  exact ⟨decide_eq_true hf.2,fun e=>this.1 (by rw [e]),this.2⟩
 ·have h1:=h i hi (of_decide_eq_true hu)
  rw [zsk]
  have h2:((adjN N (i:Int)).filter fun d=>decide (d∉g)).length≤(((List.range R).filter fun j:Nat=>decide ((j:Int)∈adjN N (i:Int)) && decide ((j:Int)∉g)).map Int.ofNat).length:=z0w ((ok.nd _).filter _) fun d hd=>by
   obtain ⟨h3,h4⟩:=zmf.1 hd
   obtain ⟨_,_,_,_,h5,h6⟩:=ok.rel _ _ h3
   refine zmp.2 ⟨d.toNat,zmf.2 ⟨List.mem_range.2 (by omega),?_⟩,show ((d.toNat:Nat):Int)=d by omega⟩
   rw [show ((d.toNat:Nat):Int)=d by omega,decide_eq_true h3]
   exact h4
  rw [zlm] at h2
  unfold degN at h1
  omega
structure Placed (p:PrcX) (k n:Int) (l:List Int):Prop where
 len:l.length=p.regs.toNat
 lo:0≤n
 hi:n≤2001
 all:∀(r:Nat) a,l[r]?=some a→0≤a∧a - k < n
 apart:∀(r q:Nat) a,l[r]?=some a→l[q]?=some a→r≠q→¬MeetP p (r:Int) (q:Int)
 used:∀s,k≤s→s - k < n→s∈l
 few:∀(r:Nat) a,l[r]?=some a→∃m:List Int,m.Nodup∧(∀y∈m,(r:Int)≠y∧MeetP p (r:Int) y)∧a≤(m.length:Int)
 tight:0 < n→∃U,Z8s p.regs.toNat (fun a b=>MeetP p (a:Int) (b:Int)) k U∧∃i,i < p.regs.toNat∧U i=true
theorem Z8h {p:PrcX} {N:List (Int×GN)} {R:Nat} {k most:Int} {st pl:List Int} (hR:p.regs=(R:Int)) (hR2:R≤2000) (ok:GraphOk R N) (hrel:∀a b,b∈adjN N a↔a≠b∧MeetP p a b) (hn:st.Nodup) (hl:st.length=R) (hr:∀s:Int,s∈st→0≤s∧s < R) (h:ColOk N R k st R pl most):Placed p k (most - k) pl:=by
 have hRt:p.regs.toNat=R:=by omega
 have hall:∀r:Nat,r < R→(r:Int)∈st.reverse.take R:=fun r hr'=>by
  rw [ztl (by rw [List.length_reverse];omega),List.mem_reverse]
  exact Zet hn hl hr r hr'
 have hlo:=h.lo
 have hhi:=h.hi
 have hlt:∀{r:Nat} {a:Int},pl[r]?=some a→r < R:=fun h1=>by have:=(zgi.1 h1).1;rwa [h.len] at this
 refine ⟨by rw [hRt];exact h.len,by omega,by omega,fun r a ha=>?_,fun r q a h1 h2 h3 h4=>?_,fun s hs1 hs2=>h.used s hs1 (by omega),fun r a ha=>⟨adjN N (r:Int),ok.nd _,fun y hy=>(hrel _ _).1 hy,h.few r a ha⟩,fun hm=>?_⟩
 ·have:=h.aft r a ha (hall r (hlt ha));omega
 ·have:=h.aft r a h1 (hall r (hlt h1))
  exact h.apart r q a h1 h2 this.1 ((hrel _ _).2 ⟨fun e=>h3 (by omega),h4⟩)
 ·obtain ⟨t,s,hs,hsR,hu⟩:=h.tight (by omega)
  rw [hRt]
  refine ⟨_,Z9x ok hrel hu,s,hsR,decide_eq_true fun hin=>?_⟩
  obtain ⟨b,hb⟩:=List.getElem?_of_mem hin
  rw [List.getElem?_take] at hb
  split at hb
  ·have:=(List.getElem?_inj (zgi.1 hb).1 hn).1 (hb.trans hs.symm)
   omega
  ·cases hb
theorem Zak {p:PrcX} {a b:Int}:MeetP p a b→MeetP p b a:=by
 rintro (⟨h1,h2⟩ | ⟨f,hf,h | h⟩)
 ·exact .inl ⟨h2,h1⟩
 ·exact .inr ⟨f,hf,.inr h⟩
 ·exact .inr ⟨f,hf,.inl h⟩
theorem Zdj {p:PrcX} (h:mayP p=true) {a b:Int} (hm:MeetP p a b):(0≤a∧a < p.regs)∧0≤b∧b < p.regs:=by
 rcases hm with ⟨h1,h2⟩ | ⟨f,hf,⟨h1,h2⟩ | ⟨h1,h2⟩⟩
 ·exact ⟨ze6 h h1,ze6 h h2⟩
 ·exact ⟨h1 ▸ (zji h hf).1,(zji h hf).2 _ h2⟩
 ·exact ⟨(zji h hf).2 _ h2,h1 ▸ (zji h hf).1⟩
theorem Z7b {p:PrcX} {S:PH} {v:Value} {N:List (Int×GN)} {R:Nat} (hR:p.regs=(R:Int)) (hmay:mayP p=true) (h:GraphR S v N) (hrel:∀a b,relN N a b↔a≠b∧MeetP p a b):GraphOk R N∧∀a b,b∈adjN N a↔a≠b∧MeetP p a b:=by
 have hadj:∀a b,b∈adjN N a↔a≠b∧MeetP p a b:=fun a b=>(Zd6 h.keys a b).trans (hrel a b)
 refine ⟨⟨h.keys,h.adj_nodup,fun c d hd=>?_⟩,hadj⟩
 obtain ⟨h1,h2⟩:=(hadj c d).1 hd
 have h3:=Zdj hmay h2
 exact ⟨(hadj d c).2 ⟨Ne.symm h1,Zak h2⟩,h1,by omega,by omega,by omega,by omega⟩
set_option maxHeartbeats 4000000 in
theorem zx1 (p:PrcX) (k:Int) (bv:Value) (S:PH) (hbv:SlR S p.blocks bv) (hw:p.Fit∧∀b∈p.blocks,b.e.args.length≤20000000) :
  Tri Tryz.prog zxd #[.agg (prcVs p bv).toArray,.int .i64 k] S fun x S'=>PH.le S S'∧(((k < 1∨24 < k)∧x=.returned (.tuple #[.slice none 0 0,.int .i64 0,.int .i64 1]))∨((1≤k∧k≤24)∧mayP p=false∧x=.returned (.tuple #[.slice none 0 0,.int .i64 0,.int .i64 150]))∨((1≤k∧k≤24)∧mayP p=true∧∃l v n,x=.returned (.tuple #[v,.int .i64 n,.int .i64 0])∧SlR S' l v∧Placed p k n l)):=by
 obtain ⟨hp,hE⟩:=hw
 obtain ⟨b0,c0,rfl⟩:=hbv.sl
 refine zt4 (prcVs p (.slice b0 p.blocks.length c0)++[.int .i64 k]) (by kernel_rfl) (by kernel_rfl) ?_
 simp only [prcVs,List.cons_append,List.nil_append]
 refine ⟨fun g=>?_,fun g=>?_⟩
 ·simp only [evs,evb] at g
  simp only [Bool.or_eq_true,zdt] at g
  exact ⟨zQr _,.inl ⟨by omega,rfl⟩⟩
 simp only [evs,evb,zof,zdf] at g
 have hk:1≤k∧k≤24:=by omega
 refine z05 [.bool (mayP p)] Z1y (Z8i p (.slice b0 p.blocks.length c0) S hbv hp hE) rfl z01 fun K1 l1=>⟨fun g=>?_,fun g=>?_⟩
 ·simp only [evs,evb] at g
  have hm:mayP p=false:=by simpa using g
  exact ⟨l1,.inr (.inl ⟨hk,hm,rfl⟩)⟩
 simp only [evs,evb] at g
 have hmay:mayP p=true:=by simpa using g
 obtain ⟨hr0,hr1,_,_,hne⟩:=zzt hmay
 refine z04 zuh (Zae p (.slice b0 p.blocks.length c0) K1 (hbv.le l1) ⟨hp,hE⟩ hmay) ?_
 rintro x K2 ⟨S1,gr,es,cl,N,l2,rfl,h2,gok,rel⟩
 refine ⟨_,[.map (some gr)],rfl,rfl,rfl,z01,?_⟩
 obtain ⟨S3,l3,l3',hg⟩:=Z2u h2 gok
 obtain ⟨R,hRi⟩:∃R:Nat,p.regs=(R:Int):=⟨p.regs.toNat,by omega⟩
 have hR2:R≤2000:=by omega
 obtain ⟨ok,hadj⟩:=Z7b hRi hmay hg rel
 rw [hRi]
 simp only [cns]
 refine z12 (α:=Int) (l:=[(-1:Int)]) (b:=8) [.int .i64 (-1)] z0s z0v rfl (by decide) (by decide) (Held.nil l3') (by kernel_rfl) (.cons (z0k (by unfold InI;omega)) .nil) z01 fun v4 K4 h4 _ _=>?_
 obtain ⟨S4,s4,l4,h4⟩:=h4.freeze
 simp only [cns]
 refine z04 zaw (Z7f R hR2 (-1) v4 K4 (s4.le h4.sh)) ?_
 rintro x K5 ⟨pv5,rfl,h5⟩
 obtain ⟨pb,pc,rfl⟩:∃b c,pv5=.slice b R c:=by have:=(h5.row (zms)).sl;rwa [List.length_replicate] at this
 refine ⟨_,[.slice pb R pc],rfl,rfl,rfl,z01,?_⟩
 have l04:PH.le S K4:=zQt l1 (zQt l2 (zQt l3 (zQt l4 h4.sh)))
 have hg4:GraphR K4 (.map (some gr)) N:=hg.le (zQt l4 h4.sh)
 simp only [cns]
 refine z04 zv1 (h5.pure (R:=fun x S'=>∃(st:List Int) (v:Value),x=.returned v∧SlR S' st.reverse v∧st.Nodup∧st.length=R∧(∀s:Int,s∈st→0≤s∧s < R)∧OrdOk N R k st) (Z9b R hR2 k (.map (some gr)) N K4 hg4 ok)) ?_
 rintro x K6 ⟨S6,l6,h6,st,ov,rfl,hov,hnd,hstl,hrg,hord⟩
 obtain ⟨ob,oc,rfl⟩:∃b c,ov=.slice b R c:=by have:=hov.sl;rwa [List.length_reverse,hstl] at this
 refine ⟨_,[.slice ob R oc],rfl,rfl,rfl,z01,?_⟩
 simp only [cns]
 have hg6:GraphR S6 (.map (some gr)) N:=hg4.le l6
 refine ⟨fun n vs K=>∃(i:Nat) (pl:List Int) (most:Int) (S':PH),vs=[.int .i64 most,nI i]∧i+n=R∧PH.le S6 S'∧Held S' K [orow 3 pl (.slice pb R pc)]∧ColOk N R k st i pl most,
  ⟨R,0,List.replicate R (-1),k,S6,rfl,by omega,zQr _,h6,⟨by simp,fun r hr _=>by rw [List.getElem?_replicate,if_pos hr],fun r a _ h=>by simp at h,fun r q a h1 _ h3=>(by
   rw [List.getElem?_replicate] at h1;split at h1
   ·cases h1;omega
   ·cases h1),by omega,by omega,fun s h1 h2=>by omega,fun h=>by omega,fun r a h1=>(by
   rw [List.getElem?_replicate] at h1;split at h1
   ·cases h1;omega
   ·cases h1)⟩⟩,?_⟩
 rintro n vs K7 _ ⟨i,pl,most,S7,rfl,hin,l7,h7,hcol⟩
 simp only [cns]
 have hm1:=hcol.lo
 have hm2:=hcol.hi
 refine ⟨fun g=>?_,fun g=>?_⟩
 rotate_left
 ·simp only [evs,evb,zdf] at g
  have:i=R:=by omega
  subst this
  obtain ⟨S8,s8,l8,h8⟩:=h7.freeze
  refine ⟨zQt l04 (zQt l6 (zQt l7 (zQt l8 h8.sh))),.inr (.inr ⟨hk,hmay,pl,.slice pb i pc,most - k,?_,s8.le h8.sh,Z8h hRi hR2 ok hadj hnd hstl hrg hcol⟩)⟩
  show Ending.returned (.tuple #[.slice pb i pc,.int .i64 (IntKind.i64.wrap (most - k)),.int .i64 0])=_
  rw [w64 (by omega) (by omega)]
 simp only [evs,evb,zdt] at g
 have hiR:i < R:=by omega
 obtain ⟨r',hr'⟩:∃r,st.reverse[i]?=some r:=⟨_,zge (by rw [List.length_reverse];omega)⟩
 have hrr:=hrg r' (List.mem_reverse.1 (zmg hr'))
 obtain ⟨r,rfl⟩:∃r:Nat,r'=(r:Int):=⟨r'.toNat,by omega⟩
 have hrR:r < R:=by omega
 obtain ⟨t1,_,tcs,t2,t3⟩:=(hov.le (zQt l7 h7.sh)).get hr'
 obtain ⟨rfl,_⟩:=csIK t2
 refine ⟨fun _=>?_,[.int .i64 (r:Int)],rfl,?_,?_⟩
 ·simp only [Chk.holds,evs,evb];exact ⟨t1,by omega,by omega⟩
 ·simp only [evs,evb];exact t3
 refine z1r fun tr htr=>?_
 have h8:=h7.new htr (.map #[] 0)
 simp only [cns]
 obtain ⟨hm,w,hw1,hw2,hw3⟩:=(hg6.le l7).look (r:Int)
 refine z34 (α:=Int) (m:=outM N) (v:=.map (some gr)) (r:Int) (.map none) zad kIntK (by kernel_rfl) (by kernel_rfl) (by kernel_rfl) (MapR.le hm h8.sh) (by rw [hw1];exact hw2) z01 ?_
 rw [hw1]
 obtain ⟨wm,rfl⟩:∃wm,w=.map wm:=by cases w<;>simp [Tag.ok] at hw2;exact ⟨_,rfl⟩
 simp only [cns]
 refine zsy (m:=encS (adjN N (r:Int))) (v:=.map wm) rfl rfl zcm (by kernel_rfl) h8.sh hw3 (fun y hy=>by obtain ⟨z,_,rfl⟩:=zmp.1 hy;rfl) rfl
  (fun done vs K i' o=>∃(es:Array MapEntry) (cl:Nat) (s:List Int),vs=[]∧SetAt es cl s∧(∀y,y∈s↔∃q∈done,plAt pl q=y)∧Held S7 K [.blk i' o,.blk tr (.map es cl),orow 3 pl (.slice pb R pc)])
  (fun i' o hi'=>⟨#[],0,[],rfl,zfl,fun y=>by simp,h8.new hi' o⟩) ?_ ?_ ?_ ?_
 ·rintro done vs K i' o ⟨es,cl,s,rfl,hset,hs,h⟩
  exact ⟨h.blk (zms),h.sh⟩
 ·rintro done vs K i' o o' ⟨es,cl,s,rfl,hset,hs,h⟩
  exact ⟨es,cl,s,rfl,hset,hs,h.put o'⟩
 ·rintro done y wv vs K9 i' o J hy hyd _ ⟨es9,cl9,s,rfl,hset,hs,h9⟩ hJ
  obtain ⟨y',hy',hyy⟩:=zmp.1 hy
  simp only [Prod.mk.injEq] at hyy
  obtain ⟨rfl,rfl⟩:=hyy
  obtain ⟨_,_,_,_,hr3,hr4⟩:=ok.rel _ _ hy'
  obtain ⟨yn,rfl⟩:∃yn:Nat,y'=(yn:Int):=⟨y'.toNat,by omega⟩
  have hgy:=zwd (pl:=pl) (q:=yn) (by rw [hcol.len];omega)
  obtain ⟨u1,_,ucs,u2,u3⟩:=(h9.row (zmm _ (zmm _ (zms)))).get hgy
  obtain ⟨rfl,_⟩:=csIK u2
  simp only [cns]
  refine ⟨fun _=>?_,[.int .i64 (plAt pl (yn:Int))],rfl,?_,?_⟩
  ·simp only [Chk.holds,evs,evb];exact ⟨u1,by omega,by omega⟩
  ·simp only [evs,evb];exact u3
  refine z3r (α:=Int) (m:=encS s) (r:=tr) (es:=es9) (clock:=cl9) (plAt pl (yn:Int)) (.int .i64 1) zcm kIntK (by kernel_rfl) (by kernel_rfl) (by kernel_rfl) (h9.blk (zmm _ (zms))) hset fun es3 cl3 he3=>?_
  rw [zio] at he3
  have h10:=((h9.perm (List.Perm.swap _ _ _)).put (.map es3 cl3)).perm (List.Perm.swap _ _ _)
  refine ⟨_,z00,hJ _ _ ⟨es3,cl3,_,rfl,he3,fun z=>?_,h10⟩⟩
  rw [zj2,hs]
  constructor
  ·rintro (⟨q,hq,h⟩ | rfl)
   ·exact ⟨q,zmm _ hq,h⟩
   ·exact ⟨_,zms,rfl⟩
  ·rintro ⟨q,hq,h⟩
   rcases zmc.1 hq with rfl | hq
   ·exact .inr h.symm
   ·exact .inl ⟨q,hq,h⟩
 ·rintro done vs K9 i' o J hdone _ _ ⟨es9,cl9,s,rfl,hset,hs,h9⟩
  have hdone':∀y,y∈done↔y∈adjN N (r:Int):=fun y=>by
   rw [←hdone,List.map_map]
   simp only [Function.comp_def,List.map_id']
  have hs':∀y,y∈s↔∃q∈adjN N (r:Int),plAt pl q=y:=fun y=>by
   rw [hs]
   exact ⟨fun ⟨q,h1,h2⟩=>⟨q,(hdone' q).1 h1,h2⟩,fun ⟨q,h1,h2⟩=>⟨q,(hdone' q).2 h1,h2⟩⟩
  have hsl:s.length≤R:=by
   have h1:s.length≤((adjN N (r:Int)).map (plAt pl)).length:=z0w hset.nodup fun y hy=>by
    obtain ⟨q,h1,h2⟩:=(hs' y).1 hy
    exact zmp.2 ⟨q,h1,h2⟩
   rw [zlm] at h1
   have h2:=zz0 ok [] (r:Int)
   rw [Z1l] at h2
   omega
  have hjl:∀j:Nat,(∀x:Nat,x < j→(x:Int)∈s)→j≤s.length:=fun j hj=>by
   have h1:((List.range j).map Int.ofNat).length≤s.length:=z0w (ziv j) fun y hy=>by
    obtain ⟨x,hx,rfl⟩:=zmp.1 hy
    exact hj x (List.mem_range.1 hx)
   rwa [zlm,List.length_range] at h1
  simp only [List.cons_append,List.nil_append,zan]
  refine ⟨fun n vs K=>K=K9∧∃j:Nat,vs=[nI j]∧n=s.length - j∧∀x:Nat,x < j→(x:Int)∈s,⟨s.length,rfl,0,rfl,rfl,fun x h=>by omega⟩,?_⟩
  rintro n2 vs K _ ⟨rfl,j,rfl,rfl,hj⟩
  simp only [cns]
  have hjs:=hjl j hj
  have hb9:K tr=some (.map es9 cl9):=h9.blk (zmm _ (zms))
  refine z34 (α:=Int) (m:=encS s) (v:=.map (some tr)) (j:Int) (.int .i64 0) zcm kIntK (by kernel_rfl) (by kernel_rfl) (by kernel_rfl) ⟨tr,es9,cl9,rfl,hb9,hset⟩ (by rw [zmr];split<;>rfl) z01 ?_
  rw [zmr]
  by_cases hin:(j:Int)∈s
  ·rw [if_pos hin]
   simp only [Option.getD_some,List.cons_append,List.nil_append]
   have hj2:=hjl (j+1) fun x hx=>by
    by_cases e:x=j
    ·subst e;exact hin
    ·exact hj x (by omega)
   refine ⟨fun g2=>?_,fun g2=>?_⟩
   ·refine ⟨_,z00,s.length - (j+1),by omega,rfl,j+1,?_,rfl,fun x hx=>?_⟩
    ·simp only [evs,evb];rw [w64 (by omega) (by omega)];rfl
    ·by_cases e:x=j
     ·subst e;exact hin
     ·exact hj x (by omega)
   ·simp [evs,evb] at g2
  ·rw [if_neg hin]
   simp only [Option.getD_none,List.cons_append,List.nil_append]
   refine ⟨fun g2=>?_,fun g2=>?_⟩
   ·simp [evs,evb] at g2
   have hplr:∃c,pl[r]?=some c:=⟨_,zge (by rw [hcol.len];omega)⟩
   obtain ⟨c,hc⟩:=hplr
   have h10:=h9.tail.tail
   obtain ⟨u1,_⟩:=(h10.row (zms)).get hc
   refine ⟨fun _=>?_,?_⟩
   ·simp only [Chk.holds,evs,evb];exact ⟨u1,by omega,by omega⟩
   refine z1n (i:=r) (a:=c) (a':=(j:Int)) (us:=[.int .i64 (j:Int)]) ?_ h10 hc rfl ?_ (by simp [oneC]) (z0k (by unfold InI;omega)) fun K11 h11=>?_
   ·simp only [evs,evb];rfl
   ·simp only [evs,evb]
   have hstep:=Zbo ok hk.1 hnd hstl hrg hord hcol hr' hrR (j:=j) (fun x hx=>(hs' _).1 (hj x hx)) (fun h=>hin ((hs' _).2 h)) (by omega)
   refine ⟨_,z17 rfl (z17 rfl z00),n - 1,by omega,i+1,pl.set r (j:Int),_,S7,?_,by omega,l7,h11,hstep⟩
   simp only [evs,evb]
   rw [w64 (n:=(j:Int)+1) (by omega) (by omega),w64 (n:=(i:Int)+1) (by omega) (by omega)]
   by_cases e:(j:Int)+1 > most
   ·simp [e]
   ·simp [e]
theorem zvv (e v:Int) (hv:arI .add .i64 11 (arI .sub .i64 e 80)=v) (H:PH):Gives Tryz.prog zxp [.int .i64 e] H (.int .i64 v):=by
 subst hv
 refine zsa [.int .i64 e] (by kernel_rfl) (by kernel_rfl) ?_
 exact ⟨rfl,zQr _⟩
def Z5b (p:PrcX):Prop:=∀b∈p.blocks,b.e.kind≠4∧b.e.kind≠6
section
variable {S0 K:PH} {x:FX} {pu nx:Int} {l l':List ItemR} {k k':Nat} {J:List Itm}
theorem Zcd (h:GnH S0 K x pu nx l k J):Tri Tryz.prog z9i #[pAt x.rf,.int .i64 0] K (GnQ S0 x pu nx l k J):=by
 refine z6e [pAt x.rf,.int .i64 0] (by kernel_rfl) (by kernel_rfl) ?_
 exact ⟨fun g=>by simp [evs,arI,zb5] at g,fun _=>⟨rfl,h⟩⟩
def FX.entL0 (x:FX) (lab:Int):List ItemR:=[⟨1,⟨0,0,0,0,0⟩,lab,0⟩,⟨4,⟨20,26,0,0,0⟩,0,x.p.params⟩,⟨2,⟨25,26,28,0,0⟩,22,0⟩]
theorem Z89 (hx:FOk S0 x) (lab:Int) (hl:InI lab) (hpr:InI x.p.params) (hs:x.slots=0) (hno:Z5b x.p) (hfit:x.p.Fit) (hE:∀b∈x.p.blocks,b.e.args.length≤20000000) (hin:(inL x.p)[0]?=some []) (h:GnH S0 K x 0 nx l (k+3) J) :
  Tri Tryz.prog zi1 #[pAt x.rf,.int .i64 lab] K (GnQ S0 x 0 nx (l++x.entL0 lab) k J):=by
 obtain ⟨bb,bc,hbv⟩:=hx.bl.sl
 refine zeu [pAt x.rf,.int .i64 lab] (by kernel_rfl) (by kernel_rfl) ?_
 refine ⟨fun _=>rfl,[pAt x.rg],rfl,h.frow 0 1,fun _=>rfl,?_⟩
 simp only [cns]
 refine z2a z07 (h.to (z0r lab hl)) fun K1 h1=>?_
 refine ⟨[pAt x.rg],rfl,h1.frow 0 1,fun _=>rfl,[.int .i64 x.p.params],rfl,h1.frow 1 1,?_⟩
 simp only [cns]
 refine z2a z08 (h1.to (z0t 26 x.p.params (by decide) hpr)) fun K2 h2=>?_
 refine ⟨[pAt x.rg],rfl,h2.frow 0 1,fun _=>rfl,?_⟩
 simp only [cns]
 refine z05 [.int .i64 22] zua (zvv 91 22 (by kernel_rfl) K2) rfl (z1g (h2.frow 0 1) z01) fun K3 l3=>?_
 have h3:=h2.le l3
 simp only [cns]
 refine z2a z0i (h3.to (If_em 25 26 28 22 (by decide) (by decide) (by decide) (by decide))) fun K4 h4=>?_
 have h4':GnH S0 K4 x 0 nx (l++x.entL0 lab) k J:=by
  simpa only [FX.entL0,zaa,List.cons_append,List.nil_append] using h4
 refine ⟨fun vs K=>vs=[]∧GnH S0 K x 0 nx (l++x.entL0 lab) k J,?_,?_⟩
 rotate_left
 ·refine z05 [.int .i64 0] z8m (zov x.p x.bv x.rf (x.cells 0) 0 K4 (hx.bl.le h4'.sh) rfl (by rw [←hs];rfl) (fun off n=>h4'.frow off n) i0J hno) rfl z01 fun K5 l5=>?_
  simp only [cns]
  refine ⟨fun g=>by simp [evs,arI,zb5] at g,fun _=>⟨_,z00,rfl,h4'.le l5⟩⟩
 rintro vs K5 _ ⟨rfl,h5⟩
 simp only [cns]
 have hsl:rowAt K5 (some ⟨x.rf,6,none⟩) [.int .i64 0]:=by have:=h5.frow 6 1;rw [←hs];exact this
 refine ⟨[.int .i64 0],rfl,hsl,?_⟩
 simp only [cns]
 refine ⟨fun n vs K=>vs=[.int .i64 0]∧K=K5,⟨1,rfl,rfl⟩,?_⟩
 rintro n vs K _ ⟨rfl,rfl⟩
 simp only [cns]
 refine ⟨fun g=>by simp [evs,arI,zb5] at g,fun _=>?_⟩
 refine ⟨[.int .i64 0],rfl,hsl,?_⟩
 simp only [cns]
 refine z2a z7x (Zcd h5) fun K6 h6=>?_
 refine ⟨[.int .i64 x.p.params,.int .i64 x.p.holds,.int .i64 x.p.regs,x.bv],by rw [hbv];rfl,h6.frow 1 4,?_⟩
 simp only [cns]
 refine z04 zto (Z4z x.p x.bv K6 (hx.bl.le h6.sh) hfit hE) ?_
 rintro e K7 ⟨l7,v7,rfl,hv7⟩
 obtain ⟨z1,_,zcs,z2,z3⟩:=hv7.get hin
 obtain ⟨w7,rfl,hw7⟩:=csLK z2
 obtain ⟨vb,vc,rfl⟩:=hv7.sl
 obtain ⟨wb,wc,rfl⟩:=hw7.sl
 have h7:=h6.le l7
 refine ⟨_,[_],rfl,rfl,rfl,z01,fun _=>?_,[_],rfl,z3,?_⟩
 ·simp only [Chk.holds,evs,arI,zb5]
  refine ⟨z1,by omega,?_⟩
  have:=(zgi.1 hin).1
  omega
 simp only [cns]
 refine ⟨fun n vs K=>vs=[.slice none 0 0,.int .i64 0]∧K=K7,⟨1,rfl,rfl⟩,?_⟩
 rintro n vs K _ ⟨rfl,rfl⟩
 simp only [cns]
 refine ⟨fun g=>by simp [evs,arI,zb5] at g,fun _=>?_⟩
 refine z2a zga (Z8d h7) fun K8 h8=>?_
 refine ⟨fun n vs K=>vs=[.int .i64 0]∧K=K8,⟨1,rfl,rfl⟩,?_⟩
 rintro n vs K _ ⟨rfl,rfl⟩
 simp only [cns]
 refine ⟨fun g=>by simp [evs,arI,zb5] at g,fun _=>⟨rfl,h8⟩⟩
end
theorem zva (c:CodeX) (cv:Value) (H:PH) (hc:SlR H c cv) (hno:∀p∈c,∀b∈p.blocks,∀y∈b.ins,y.const.kind≠4):Gives Tryz.prog zxj [.agg #[cv]] H (.slice none 0 0):=by
 obtain ⟨cb,cc,rfl⟩:=hc.sl
 have hmx:maxLen=9223372036854775807:=rfl
 have hcm:=hc.max
 have upk:∀{k m:Nat},k < m→m≤maxLen→IntKind.i64.wrap ((k:Int)+1)=((k+1:Nat):Int):=fun h1 h2=>by rw [w64 (by omega) (by omega)];rfl
 refine zs3 [.slice cb c.length cc] (by kernel_rfl) (by kernel_rfl) ?_
 refine ⟨fun n vs K=>∃i:Nat,i+n=c.length∧vs=[.slice none 0 0,nI i]∧K=H,⟨c.length,0,by omega,rfl,rfl⟩,?_⟩
 rintro n vs K _ ⟨i,hin,rfl,rfl⟩
 simp only [cns]
 refine ⟨fun g=>?_,fun g=>⟨rfl,zQr _⟩⟩
 simp only [evs,arI,zb5,zdt] at g
 obtain ⟨p,hp⟩:∃p,c[i]?=some p:=⟨_,zge (by omega)⟩
 obtain ⟨x1,_,cs,x2,x3⟩:=hc.get hp
 obtain ⟨bv,rfl,p1,p2,p3,p4⟩:=prc_iff.1 x2
 obtain ⟨pb,pc,rfl⟩:=p4.sl
 have hbm:=p4.max
 refine ⟨fun _=>?_,[.int .i64 p.params,.int .i64 p.holds,.int .i64 p.regs,.slice pb p.blocks.length pc],rfl,by simp only [evs,arI,zb5];exact x3,?_⟩
 ·simp only [Chk.holds,evs,arI,zb5];exact ⟨x1,by omega,by omega⟩
 simp only [cns]
 refine ⟨fun m vs K2=>∃j:Nat,j+m=p.blocks.length∧vs=[.slice none 0 0,nI j]∧K2=K,⟨p.blocks.length,0,by omega,rfl,rfl⟩,?_⟩
 rintro m vs K2 _ ⟨j,hjm,rfl,rfl⟩
 simp only [cns]
 refine ⟨fun g=>?_,fun g=>?_⟩
 rotate_left
 ·refine ⟨_,(z4z (by decide)).trans z00,n - 1,by omega,i+1,by omega,?_,rfl⟩
  simp only [evs,arI,zb5,upk (show i < c.length by omega) hcm]
 simp only [evs,arI,zb5,zdt] at g
 obtain ⟨b,hb⟩:∃b,p.blocks[j]?=some b:=⟨_,zge (by omega)⟩
 obtain ⟨y1,_,ycs,y2,y3⟩:=p4.get hb
 obtain ⟨iv,es,rfl,i1,i2⟩:=blk_iff.1 y2
 obtain ⟨ib,ic,rfl⟩:=i1.sl
 have him:=i1.max
 obtain ⟨av,rfl,e1,e2,e3,e4,e5,e6⟩:=end_iff.1 i2
 obtain ⟨ab,ac,rfl⟩:=e3.sl
 refine ⟨fun _=>?_,[.slice ib b.ins.length ic,.int .i64 b.e.kind,.int .i64 b.e.reg,.slice ab b.e.args.length ac,.int .i64 b.e.to,.int .i64 b.e.next,.int .i64 b.e.els],rfl,by simp only [evs,arI,zb5];exact y3,?_⟩
 ·simp only [Chk.holds,evs,arI,zb5];exact ⟨y1,by omega,by omega⟩
 simp only [cns]
 refine ⟨fun q vs K=>∃u:Nat,u+q=b.ins.length∧vs=[.slice none 0 0,nI u]∧K=K2,⟨b.ins.length,0,by omega,rfl,rfl⟩,?_⟩
 rintro q vs K _ ⟨u,huq,rfl,rfl⟩
 simp only [cns]
 refine ⟨fun g=>?_,fun g=>?_⟩
 rotate_left
 ·refine ⟨_,(z4z (by decide)).trans z00,m - 1,by omega,j+1,by omega,?_,rfl⟩
  simp only [evs,arI,zb5,upk (show j < p.blocks.length by omega) hbm]
 simp only [evs,arI,zb5,zdt] at g
 obtain ⟨y,hy⟩:∃y,b.ins[u]?=some y:=⟨_,zge (by omega)⟩
 obtain ⟨z1,_,zcs,z2,z3⟩:=i1.get hy
 obtain ⟨wv,dv,rfl,q1,q2,q3,q4,q5,q6,q7,q8⟩:=ins_iff.1 z2
 obtain ⟨wb,wc,rfl⟩:=q3.sl
 obtain ⟨db,dc,rfl⟩:=q7.sl
 have hk:=hno p (zmg hp) b (zmg hb) y (zmg hy)
 refine ⟨fun vs K3=>vs=[.slice none 0 0]∧K3=K,?_,fun _=>?_,inV y (.slice wb y.args.length wc) (.slice db y.const.list.length dc),rfl,by simp only [evs,arI,zb5];exact z3,?_⟩
 ·rintro vs K3 _ ⟨rfl,rfl⟩
  refine ⟨_,z00,q - 1,by omega,u+1,by omega,?_,rfl⟩
  simp only [evs,arI,zb5,upk (show u < b.ins.length by omega) him]
 ·simp only [Chk.holds,evs,arI,zb5];exact ⟨z1,by omega,by omega⟩
 simp only [inV,List.cons_append,List.nil_append]
 refine ⟨fun vs K3=>vs=[.bool false]∧K3=K,?_,fun g=>by simp [evs,arI,zb5,hk] at g,fun _=>⟨_,z00,rfl,rfl⟩⟩
 rintro vs K3 _ ⟨rfl,rfl⟩
 simp only [cns]
 exact ⟨fun g=>by simp [evs,arI,zb5] at g,fun _=>⟨_,z00,rfl,rfl⟩⟩
theorem Zfd (p:PrcX) (bv:Value) (S:PH) (hbv:SlR S p.blocks bv) (hp:p.Fit) (hE:∀b∈p.blocks,b.e.args.length≤20000000) (hm:mayP p=true) :
  Tri Tryz.prog zl7 #[.agg (prcVs p bv).toArray] S fun e K'=>∃(S':PH) (rf:Nat) (pl:List Int) (pv:Value) (n:Int),e=.returned (pAt rf)∧PH.le S S'∧SlR S' pl pv∧Placed p 24 n pl ∧
   Held S' K' [bx rf 142 [.pointer none,.int .i64 p.params,.int .i64 p.holds,.int .i64 p.regs,bv,pv,.int .i64 n,.slice none 0 0,.int .i64 0]]:=by
 obtain ⟨b0,c0,rfl⟩:=hbv.sl
 refine zhm (prcVs p (.slice b0 p.blocks.length c0)) (by kernel_rfl) (by kernel_rfl) ?_
 simp only [prcVs]
 refine z15 (vs:=[.pointer none,.int .i64 p.params,.int .i64 p.holds,.int .i64 p.regs,.slice b0 p.blocks.length c0,.slice none 0 0,.int .i64 0,.slice none 0 0,.int .i64 0]) (Held.nil (zQr S)) (by kernel_rfl) fun rf K1 _ h1=>?_
 simp only [cns]
 refine z04 zhg (h1.pure (R:=fun x S'=>((24 < (1:Int)∨24 < (24:Int))∧x=.returned (.tuple #[.slice none 0 0,.int .i64 0,.int .i64 1]))∨((1≤(24:Int)∧(24:Int)≤24)∧mayP p=false∧x=.returned (.tuple #[.slice none 0 0,.int .i64 0,.int .i64 150]))∨((1≤(24:Int)∧(24:Int)≤24)∧mayP p=true∧∃l v n,x=.returned (.tuple #[v,.int .i64 n,.int .i64 0])∧SlR S' l v∧Placed p 24 n l)) (zx1 p 24 (.slice b0 p.blocks.length c0) S hbv ⟨hp,hE⟩)) ?_
 rintro e K2 ⟨S2,l2,h2,h | ⟨_,h,_⟩ | ⟨_,_,pl,pv,n,rfl,hpl,hpd⟩⟩
 ·omega
 ·rw [hm] at h;cases h
 obtain ⟨pb,pc,hpv⟩:=hpl.sl
 refine ⟨_,[pv,.int .i64 n,.int .i64 0],rfl,by rw [hpv];rfl,rfl,z01,fun _=>rfl,?_⟩
 simp only [cns]
 refine z0e (off:=5) (vs:=[pv]) rfl h2 (by simp only [evs,arI,zb5]) (by intro u hu;rw [zsi.1 hu,hpv];rfl) (by simp) fun K3 h3=>?_
 refine z0e (off:=6) (vs:=[.int .i64 n]) rfl h3 (by simp only [evs,arI,zb5]) (by simp [oneC]) (by simp) fun K4 h4=>?_
 exact ⟨S2,rf,pl,pv,n,rfl,l2,hpl,hpd,h4⟩
theorem Z0t {S0 K:PH} {rg:Nat} {sv env:Value} {nx stack:Int} {l:List ItemR} {k:Nat} {J:List Itm} (h:EmH S0 K rg 100 [sv,env,.int .i64 nx,.int .i64 stack] l k J) (h0:0≤nx) (h1:nx≤2199023255552) :
  Tri Tryz.prog zg1 #[pAt rg] K fun e K'=>e=.returned (.int .i64 nx)∧EmH S0 K' rg 100 [sv,env,.int .i64 (nx+1),.int .i64 stack] l k J:=by
 refine ze3 [pAt rg] (by kernel_rfl) (by kernel_rfl) ?_
 obtain ⟨hl,S,iv,hS,hh⟩:=h
 have w1:IntKind.i64.wrap (nx+1)=nx+1:=w64 (by omega) (by omega)
 refine ⟨fun _=>rfl,[.int .i64 nx],rfl,z1a hh (zms) 3 1,?_⟩
 simp only [cns]
 refine z0e (off:=3) (vs:=[.int .i64 (nx+1)]) rfl hh (by simp only [evs,arI,zb5,w1]) (by simp [oneC]) (by simp) fun K1 h1=>?_
 refine ⟨[.int .i64 (nx+1)],rfl,z1a h1 (zms) 3 1,?_,hl,S,iv,hS,h1⟩
 show Ending.returned (.int .i64 (IntKind.i64.wrap (nx+1 - 1)))=_
 rw [w64 (by omega) (by omega)];congr 2;omega
theorem zp1 (p:PrcX) (bv:Value) (S K:PH) (J:List Itm) (h:Held S K J) (hbv:SlR S p.blocks bv) (hp:p.Fit) (hE:∀b∈p.blocks,b.e.args.length≤20000000) (hm:mayP p=true) :
  Tri Tryz.prog zl7 #[.agg (prcVs p bv).toArray] K fun e K'=>∃(S':PH) (rf:Nat) (pl:List Int) (pv:Value) (n:Int),e=.returned (pAt rf)∧PH.le S S'∧SlR S' pl pv∧Placed p 24 n pl ∧
   Held S' K' (bx rf 142 [.pointer none,.int .i64 p.params,.int .i64 p.holds,.int .i64 p.regs,bv,pv,.int .i64 n,.slice none 0 0,.int .i64 0]::J):=by
 obtain ⟨b0,c0,rfl⟩:=hbv.sl
 refine zhm (prcVs p (.slice b0 p.blocks.length c0)) (by kernel_rfl) (by kernel_rfl) ?_
 simp only [prcVs]
 refine z15 (vs:=[.pointer none,.int .i64 p.params,.int .i64 p.holds,.int .i64 p.regs,.slice b0 p.blocks.length c0,.slice none 0 0,.int .i64 0,.slice none 0 0,.int .i64 0]) h (by kernel_rfl) fun rf K1 _ h1=>?_
 simp only [cns]
 refine z04 zhg (h1.pure (R:=fun x S'=>((24 < (1:Int)∨24 < (24:Int))∧x=.returned (.tuple #[.slice none 0 0,.int .i64 0,.int .i64 1]))∨((1≤(24:Int)∧(24:Int)≤24)∧mayP p=false∧x=.returned (.tuple #[.slice none 0 0,.int .i64 0,.int .i64 150]))∨((1≤(24:Int)∧(24:Int)≤24)∧mayP p=true∧∃l v n,x=.returned (.tuple #[v,.int .i64 n,.int .i64 0])∧SlR S' l v∧Placed p 24 n l)) (zx1 p 24 (.slice b0 p.blocks.length c0) S hbv ⟨hp,hE⟩)) ?_
 rintro e K2 ⟨S2,l2,h2,h | ⟨_,h,_⟩ | ⟨_,_,pl,pv,n,rfl,hpl,hpd⟩⟩
 ·omega
 ·rw [hm] at h;cases h
 obtain ⟨pb,pc,hpv⟩:=hpl.sl
 refine ⟨_,[pv,.int .i64 n,.int .i64 0],rfl,by rw [hpv];rfl,rfl,z01,fun _=>rfl,?_⟩
 simp only [cns]
 refine z0e (off:=5) (vs:=[pv]) rfl h2 (by simp only [evs,arI,zb5]) (by intro u hu;rw [zsi.1 hu,hpv];rfl) (by simp) fun K3 h3=>?_
 refine z0e (off:=6) (vs:=[.int .i64 n]) rfl h3 (by simp only [evs,arI,zb5]) (by simp [oneC]) (by simp) fun K4 h4=>?_
 exact ⟨S2,rf,pl,pv,n,rfl,l2,hpl,hpd,h4⟩
structure Least (p:PrcX) (y:InsX) (e:EndX):Prop where
 blk:p.blocks=[⟨[y],e⟩]
 regs:p.regs=1
 params:p.params=0
 op:y.op=z1y
 to:y.to=0
 num:y.const.kind≠4
 kind:e.kind=2
 reg:e.reg=0
 fit:p.Fit
 few:∀b∈p.blocks,b.e.args.length≤20000000
 may:mayP p=true
 inl:(inL p)[0]?=some []
 one:∀n l,Placed p 24 n l→l=[0]∧n=0
theorem Least.noCalls {p:PrcX} {y:InsX} {e:EndX} (h:Least p y e):Z5b p:=fun b hb=>by
 rw [h.blk] at hb
 rw [zsi.1 hb]
 simp only [h.kind]
 omega
def z2x (lab nx w:Int):List ItemR:=[⟨1,⟨0,0,0,0,0⟩,lab,0⟩,⟨4,⟨20,26,0,0,0⟩,0,0⟩,⟨2,⟨25,26,28,0,0⟩,22,0⟩,⟨3,⟨28,0,0,0,0⟩,nx,0⟩,⟨1,⟨0,0,0,0,0⟩,nx,0⟩,⟨4,⟨20,1,0,0,0⟩,0,w⟩,⟨0,⟨15,1,1,0,0⟩,0,0⟩,⟨3,⟨28,0,0,0,0⟩,4,0⟩]
theorem Z43 {S0 K:PH} {rg:Nat} {sv env:Value} {nx stack:Int} {l:List ItemR} {k:Nat} {J:List Itm} {p:PrcX} {y:InsX} {e:EndX} {ents:List Int} {syms:List (List UInt8)} (hp:Least p y e) (bv:Value) (lab:Int) (hlab:InI lab)
  (h:EmH S0 K rg 100 [sv,env,.int .i64 nx,.int .i64 stack] l (k+20) J) (h0:0≤nx) (h1:nx≤1099511627776) (hst:0≤stack∧stack≤131072) (hbv:SlR S0 p.blocks bv) (hen:SlR S0 ents env) (hsy:SlR S0 syms sv) (hkk:k≤1099511620000) :
  Tri Tryz.prog zbw #[pAt rg,.agg (prcVs p bv).toArray,.int .i64 lab] K fun x K'=>x=.returned (.tuple #[])∧EmH S0 K' rg 100 [sv,env,.int .i64 (nx+1),.int .i64 stack] (l++z2x lab nx ((wordX (z1k y.const) syms).getD 0)) k J:=by
 obtain ⟨hl,S,iv,hS,hh⟩:=h
 have hbv0:=hbv
 obtain ⟨b0,c0,rfl⟩:=hbv.sl
 have hlen:p.blocks.length=1:=by rw [hp.blk];rfl
 obtain ⟨bv,hbvE⟩:∃bv,bv=Value.slice b0 p.blocks.length c0:=⟨_,rfl⟩
 refine zb3 ([pAt rg]++prcVs p (.slice b0 p.blocks.length c0)++[.int .i64 lab]) (by kernel_rfl) (by kernel_rfl) ?_
 simp only [prcVs,List.cons_append,List.nil_append]
 refine z04 zk4 (zp1 p (.slice b0 p.blocks.length c0) S K _ hh (hbv0.le hS) hp.fit hp.few hp.may) ?_
 rintro _ K1 ⟨S1,rf,pl,pv,n,rfl,l1,hpl,hpd,hh1⟩
 obtain ⟨rfl,rfl⟩:=hp.one _ _ hpd
 refine ⟨_,[pAt rf],rfl,rfl,rfl,z01,fun _=>rfl,?_⟩
 simp only [cns]
 refine z0e (off:=0) (vs:=[pAt rg]) rfl hh1 (by simp only [evs,arI,zb5]) (by simp [oneC]) (by simp) fun K2 hh2=>?_
 have hS1:=zQt hS l1
 refine ⟨fun m vs K=>∃(i:Nat) (lv:Value) (S2:PH) (iv:Value),i+m=1∧vs=[nI i]∧PH.le S1 S2∧Held S2 K (bx rg 100 [iv,sv,env,.int .i64 (nx+i),.int .i64 stack]::orow 131 l iv::bx rf 142 [pAt rg,.int .i64 p.params,.int .i64 p.holds,.int .i64 p.regs,.slice b0 p.blocks.length c0,pv,.int .i64 0,lv,.int .i64 0]::orow 3 ((List.range i).map fun j:Nat=>nx+(j:Int)) lv::J),
  ⟨1,0,.slice none 0 0,S1,iv,rfl,rfl,zQr _,?_⟩,?_⟩
 ·have h3:=hh2.empty (α:=Int) 3
  rw [show nx+((0:Nat):Int)=nx by omega]
  exact h3.perm (by
   refine (List.Perm.swap _ _ _).trans ?_
   refine List.Perm.trans ?_ (List.perm_middle (l₁:=[_,_]) (l₂:=_)).symm
   refine List.Perm.cons _ ?_
   exact (List.perm_middle (l₁:=[_,_]) (l₂:=J)).symm)
 rintro m vs K3 _ ⟨i,lv,S2,iv2,him,rfl,l2,hh3⟩
 have hlr:=(hh3.row (e:=3) (l:=(List.range i).map fun j:Nat=>nx+(j:Int)) (v:=lv) (by simp))
 obtain ⟨lb,lc,hlv⟩:=hlr.sl
 simp only [cns]
 refine ⟨fun g=>?_,fun g=>?_⟩
 ·simp only [evs,arI,zb5,hlen,zdt] at g
  obtain rfl:i=0:=by omega
  have hrf:∀off n,rowAt K3 (some ⟨rf,off,none⟩) ((([pAt rg,.int .i64 p.params,.int .i64 p.holds,.int .i64 p.regs,.slice b0 p.blocks.length c0,pv,.int .i64 0,lv,.int .i64 0]:List Value).drop off).take n):=fun off n=>z1a (T:=142) hh3 (by simp) off n
  refine ⟨[lv],by rw [hlv];rfl,hrf 7 1,?_⟩
  simp only [cns]
  have hem:EmH S1 K3 rg 100 [sv,env,.int .i64 nx,.int .i64 stack] l (k+20) (bx rf 142 [pAt rg,.int .i64 p.params,.int .i64 p.holds,.int .i64 p.regs,.slice b0 p.blocks.length c0,pv,.int .i64 0,lv,.int .i64 0]::orow 3 ([]:List Int) lv::J):=⟨hl,S2,iv2,l2,by simpa using hh3⟩
  refine z04 z68 (Z0t hem h0 (by omega)) ?_
  rintro _ K4 ⟨rfl,_,S4,iv4,l4,hh4⟩
  have hrf4:∀off n,rowAt K4 (some ⟨rf,off,none⟩) ((([pAt rg,.int .i64 p.params,.int .i64 p.holds,.int .i64 p.regs,.slice b0 p.blocks.length c0,pv,.int .i64 0,lv,.int .i64 0]:List Value).drop off).take n):=fun off n=>z1a (T:=142) hh4 (by simp) off n
  refine ⟨_,[.int .i64 nx],rfl,rfl,rfl,z1g (hrf4 7 1) z01,?_⟩
  simp only [cns]
  have hh5:=hh4.perm (List.perm_middle (l₁:=[_,_,_]) (l₂:=J))
  refine z28 (b:=8) (more:=[nx]) [.int .i64 nx] z0s z0v rfl (by decide) (by decide) hh5 (by kernel_rfl) (.cons (z0k (inJ (by omega) (by omega))) .nil) (z1g (hrf4 7 1) z01) (fun w=>by kernel_rfl) (fun w=>by kernel_rfl)
   (by simp [maxLen]) (by simp) fun w5 v5 S5 K5 l5 hh6=>⟨z01,?_⟩
  simp only [cns]
  obtain ⟨b6,c6,hv6⟩:=(hh6.row (e:=3) (zms)).sl
  have hh7:=hh6.perm (List.perm_middle (l₁:=[_,_,_]) (l₂:=J))
  refine z0e (T:=142) (off:=7) (vs:=[v5]) rfl (hh6.perm (List.perm_middle (l₁:=[_,_,_]) (l₂:=J))) (by simp only [evs,arI,zb5]) (by intro u hu;rw [zsi.1 hu,hv6];rfl) (by simp) fun K6 hh8=>?_
  refine ⟨_,z00,0,by omega,1,v5,S5,iv4,rfl,by kernel_rfl,zQt l4 l5,?_⟩
  rw [show (List.range 1).map (fun j:Nat=>nx+(j:Int))=[nx] by rw [List.range_succ,List.range_zero];simp,show nx+((1:Nat):Int)=nx+1 from rfl]
  exact hh8.perm (List.Perm.append_right J (List.perm_append_comm (l₁:=[_,_]) (l₂:=[_,_])))
 simp only [evs,arI,zb5,hlen,zdf] at g
 obtain rfl:i=1:=by omega
 obtain ⟨S3,s3,l3,hh4⟩:=(hh3.perm (List.perm_middle (l₁:=[_,_,_]) (l₂:=J))).freeze
 have hS3:=zQt hS1 (zQt l2 l3)
 have s3':SlR S3 [nx] lv:=by
  have e:(List.range 1).map (fun j:Nat=>nx+(j:Int))=[nx]:=by
   rw [List.range_succ,List.range_zero];simp
  rw [e] at s3;exact s3
 obtain ⟨x,hxE⟩:∃x:FX,x=⟨rg,rf,p,[0],0,[nx],ents,syms,stack,.slice b0 p.blocks.length c0,pv,lv,env,sv⟩:=⟨_,rfl⟩
 have hx:FOk S3 x:=by
  rw [hxE]
  exact ⟨hbv0.le hS3,hpl.le (zQt l2 l3),s3',hen.le hS3,hsy.le hS3,by simp,by simp,hst⟩
 have xrf:x.rf=rf:=by rw [hxE]
 have xrg:x.rg=rg:=by rw [hxE]
 have xp:x.p=p:=by rw [hxE]
 have hg4:GnH S3 K3 x 0 (nx+1) l (k+17) J:=by
  rw [hxE]
  exact ⟨⟨by omega,S3,iv2,zQr _,hh4⟩,by omega,by omega⟩
 have hhas0:x.has 0:=by rw [hxE];exact ⟨by omega,by simp⟩
 have hat0:x.at_ 0=0:=by rw [hxE];rfl
 have hcol:x.col 0=true:=by unfold FX.col;rw [hat0];rfl
 have hreg:x.reg 0=1:=by unfold FX.reg;rw [hat0];rfl
 have fin:∀{K':PH} {l':List ItemR},GnH S3 K' x 0 (nx+1) l' k J→EmH S0 K' rg 100 [sv,env,.int .i64 (nx+1),.int .i64 stack] l' k J:=fun h=>by
  obtain ⟨⟨q1,S4,iv4,q2,q3⟩,_,_⟩:=h
  rw [hxE] at q3
  exact ⟨q1,S4,iv4,zQt hS3 q2,(q3.perm (List.perm_middle (l₁:=[_,_]) (l₂:=J))).tail⟩
 rw [←xrf]
 have hent:=Z89 (k:=k+14) (J:=J) hx lab hlab (by rw [xp,hp.params];exact i0J) (by rw [hxE]) (by rw [xp];exact hp.noCalls) (by rw [xp];exact hp.fit) (by rw [xp];exact hp.few) (by rw [xp];exact hp.inl) hg4
 refine z2a zgg hent fun K4 h4=>?_
 have hlv1:lv=.slice lb 1 lc:=by rw [hlv];simp
 have labR:∀{K':PH},PH.le S3 K'→(z0d lv).isSome=true∧rowAt K' (pOf (eltV lv ((0:Nat):Int) 1)) [.int .i64 nx]:=fun hl=>by
  obtain ⟨z1,_,cs,z2,z3⟩:=(s3'.le hl).get (i:=0) rfl
  obtain ⟨rfl,_⟩:=csIK z2
  exact ⟨z1,z3⟩
 have rowL:∀{K':PH} {l':List ItemR} {k':Nat},GnH S3 K' x 0 (nx+1) l' k' J→rowAt K' (some ⟨x.rf,7,none⟩) [lv]:=fun h=>by
  have:=h.frow 7 1;rw [hxE] at this ⊢;exact this
 refine ⟨[pAt x.rg],rfl,h4.frow 0 1,fun _=>rfl,[lv],by rw [hlv1];rfl,rowL h4,fun _=>?_,[.int .i64 nx],rfl,(labR h4.sh).2,?_⟩
 ·rw [hlv1]
  have:=(labR h4.sh).1
  rw [hlv1] at this
  exact ⟨this,by simp [evs,arI,zb5],by simp [evs,arI,zb5]⟩
 simp only [cns]
 refine z2a z0q (h4.to (k':=k+13) (z3s nx (inJ (by omega) (by omega)))) fun K5 h5=>?_
 obtain ⟨l5,hl5⟩:∃l5,l5=l++x.entL0 lab++[⟨3,⟨28,0,0,0,0⟩,nx,0⟩]:=⟨_,rfl⟩
 rw [←hl5] at h5
 obtain ⟨w,hw⟩:∃w,w=(wordX (z1k y.const) syms).getD 0:=⟨_,rfl⟩
 have hsymX:x.syms=syms:=by rw [hxE]
 have hout:l5++[⟨1,⟨0,0,0,0,0⟩,nx,0⟩]++x.constL 0 y++x.retL 0 e.reg=l++z2x lab nx w:=by
  have e1:x.constL 0 y=[⟨4,⟨20,1,0,0,0⟩,0,w⟩]:=by
   unfold FX.constL FX.numL
   rw [hp.to,if_pos hcol,hreg,hsymX,hw]
  have e2:x.retL 0 e.reg=[⟨0,⟨15,1,1,0,0⟩,0,0⟩,⟨3,⟨28,0,0,0,0⟩,4,0⟩]:=by
   unfold FX.retL FX.getL FX.get
   rw [hp.reg,if_pos hcol,if_pos hcol,hreg]
   have:growL (arI .sub .i64 0 x.slots)=[]:=by rw [hxE];rfl
   rw [this];rfl
  have e3:x.entL0 lab=[⟨1,⟨0,0,0,0,0⟩,lab,0⟩,⟨4,⟨20,26,0,0,0⟩,0,0⟩,⟨2,⟨25,26,28,0,0⟩,22,0⟩]:=by
   unfold FX.entL0;rw [xp,hp.params]
  rw [hl5,e1,e2,e3]
  simp only [z2x,zaa,List.cons_append,List.nil_append]
 rw [←hw]
 refine ⟨fun m vs K=>∃i:Nat,i+m=1∧vs=[nI i]∧((i=0∧GnH S3 K x 0 (nx+1) l5 (k+13) J)∨(i=1∧GnH S3 K x 0 (nx+1) (l++z2x lab nx w) k J)),⟨1,0,rfl,rfl,.inl ⟨rfl,h5⟩⟩,?_⟩
 rintro m vs K6 _ ⟨i,him,rfl,h6⟩
 simp only [cns]
 refine ⟨fun g=>?_,fun g=>?_⟩
 rotate_left
 ·simp only [evs,arI,zb5,hlen,zdf] at g
  rcases h6 with ⟨rfl,_⟩ | ⟨_,h6⟩
  ·omega
  ·exact ⟨rfl,fin h6⟩
 simp only [evs,arI,zb5,hlen,zdt] at g
 obtain rfl:i=0:=by omega
 obtain ⟨_,h6⟩ | ⟨h,_⟩:=h6
 rotate_left
 ·omega
 have hb0:p.blocks[0]?=some ⟨[y],e⟩:=by rw [hp.blk];rfl
 obtain ⟨y1,_,ycs,y2,y3⟩:=(hbv0.le hS3).get hb0
 obtain ⟨iv6,es,rfl,i1,i2⟩:=blk_iff.1 y2
 obtain ⟨ib,ic,rfl⟩:=i1.sl
 obtain ⟨av,rfl,e1,e2,e3,e4,e5,e6⟩:=end_iff.1 i2
 obtain ⟨ab,ac,hav⟩:=e3.sl
 refine ⟨fun _=>?_,[.slice ib 1 ic,.int .i64 e.kind,.int .i64 e.reg,av,.int .i64 e.to,.int .i64 e.next,.int .i64 e.els],by rw [hav];rfl,by simp only [evs,arI,zb5];exact z0u h6.sh y3,?_⟩
 ·simp only [Chk.holds,evs,arI,zb5];exact ⟨y1,by omega,by omega⟩
 simp only [cns]
 refine ⟨[pAt x.rg],rfl,h6.frow 0 1,fun _=>rfl,[lv],by rw [hlv1];rfl,rowL h6,fun _=>?_,[.int .i64 nx],rfl,(labR h6.sh).2,?_⟩
 ·rw [hlv1]
  have:=(labR h6.sh).1
  rw [hlv1] at this
  exact ⟨this,by simp [evs,arI,zb5],by simp [evs,arI,zb5]⟩
 simp only [cns]
 refine z2a z07 (h6.to (k':=k+12) (z0r nx (inJ (by omega) (by omega)))) fun K7 h7=>?_
 refine ⟨fun q vs K=>∃u:Nat,u+q=1∧vs=[nI u]∧((u=0∧GnH S3 K x 0 (nx+1) (l5++[⟨1,⟨0,0,0,0,0⟩,nx,0⟩]) (k+12) J)∨(u=1∧GnH S3 K x 0 (nx+1) (l5++[⟨1,⟨0,0,0,0,0⟩,nx,0⟩]++x.constL 0 y) (k+10) J)),⟨1,0,rfl,rfl,.inl ⟨rfl,h7⟩⟩,?_⟩
 rintro q vs K8 _ ⟨u,huq,rfl,h8⟩
 simp only [cns]
 refine ⟨fun g2=>?_,fun g2=>?_⟩
 ·simp only [evs,arI,zb5,zdt] at g2
  obtain rfl:u=0:=by omega
  obtain ⟨_,h8⟩ | ⟨h,_⟩:=h8
  rotate_left
  ·omega
  obtain ⟨z1,_,zcs,z2,z3⟩:=i1.get (i:=0) rfl
  obtain ⟨wv,dv,rfl,q1,q2,q3,q4,q5,q6,q7,q8⟩:=ins_iff.1 z2
  obtain ⟨wb,wc,hwv⟩:=q3.sl
  obtain ⟨db,dc,hdv⟩:=q7.sl
  refine ⟨fun _=>?_,inV y wv dv,by rw [hwv,hdv];rfl,by simp only [evs,arI,zb5];exact z0u h8.sh z3,?_⟩
  ·simp only [Chk.holds,evs,arI,zb5];exact ⟨z1,by omega,by omega⟩
  simp only [inV,List.cons_append,List.nil_append]
  refine z2a ziy (Z0d (k:=k+10) hx ⟨by omega,by omega⟩ y wv dv ⟨q1,q2,q3,q4,q5,q6,q7,q8⟩ hp.op (by rw [hp.to];exact hhas0) h8) fun K9 h9=>?_
  exact ⟨_,z00,0,by omega,1,rfl,by kernel_rfl,.inr ⟨rfl,h9⟩⟩
 ·simp only [evs,arI,zb5,zdf] at g2
  obtain rfl:u=1:=by omega
  obtain ⟨h,_⟩ | ⟨_,h8⟩:=h8
  ·omega
  refine z2a zj3 (Z76 (k:=k+6) hx ⟨by omega,by omega⟩ ((0:Nat):Int) e av ⟨e1,e2,e3,e4,e5,e6⟩ hp.kind (by rw [hp.reg];exact hhas0) h8) fun K9 h9=>?_
  rw [hout] at h9
  exact ⟨_,(z4z (by decide)).trans z00,0,by omega,1,rfl,by kernel_rfl,.inr ⟨rfl,h9.less (by omega)⟩⟩
theorem zuw (H:PH):Gives Tryz.prog z8p [.slice none 0 0] H (.slice none 0 0):=by
 refine z6o [.slice none 0 0] (by kernel_rfl) (by kernel_rfl) ?_
 exact ⟨fun _=>⟨rfl,zQr _⟩,fun g=>by simp [evs,arI,zb5,z3z] at g⟩
section
variable {p:PrcX} {y:InsX} {e:EndX}
theorem Least.ins4 (hp:Least p y e):∀q∈[p],∀b∈q.blocks,∀z∈b.ins,z.const.kind≠4:=fun q hq b hb z hz=>by
 rw [zsi.1 hq,hp.blk] at hb
 rw [zsi.1 hb] at hz
 rw [zsi.1 hz]
 exact hp.num
theorem Least.short (hp:Least p y e):∀q∈[p],∀b∈q.blocks,b.ins.length≤4611686018427387904:=fun q hq b hb=>by
 rw [zsi.1 hq,hp.blk] at hb
 rw [zsi.1 hb]
 simp
theorem Z7a (hp:Least p y e) (hck:z3l [p]=0) (cv:Value) (S:PH) (hc:SlR S [p] cv):Gives Tryz.prog Z6f [.agg #[cv]] S (.tuple #[.int .i64 2,.int .i64 0]):=by
 have hcv:=zdy [p] cv S hc hp.short
 rw [hck] at hcv
 obtain ⟨cb,cc,rfl⟩:=hc.sl
 refine Z06 [.slice cb [p].length cc] (by kernel_rfl) (by kernel_rfl) ?_
 refine z05 [.int .i64 0] zgr hcv rfl z01 fun K1 l1=>?_
 refine ⟨fun g=>by simp [evs,arI,zb5] at g,fun _=>?_⟩
 refine ⟨fun n vs K=>∃i:Nat,i+n=1∧vs=[.int .i64 0,nI i]∧PH.le S K,⟨1,0,rfl,rfl,l1⟩,?_⟩
 rintro n vs K _ ⟨i,hin,rfl,hK⟩
 simp only [cns]
 refine ⟨fun g=>?_,fun g=>⟨by kernel_rfl,hK⟩⟩
 have hlt:i < 1:=by
  simp only [evs,arI,zb5,zdt,List.length_singleton] at g
  omega
 obtain rfl:i=0:=by omega
 obtain ⟨x1,_,cs,x2,x3⟩:=(hc.le hK).get (i:=0) rfl
 obtain ⟨bv,rfl,p1,p2,p3,p4⟩:=prc_iff.1 x2
 obtain ⟨pb,pc,rfl⟩:=p4.sl
 refine ⟨fun _=>?_,[.int .i64 p.params,.int .i64 p.holds,.int .i64 p.regs,.slice pb p.blocks.length pc],rfl,by simp only [evs,arI,zb5];exact x3,?_⟩
 ·simp only [Chk.holds,evs,arI,zb5];exact ⟨x1,by omega,by simp⟩
 simp only [cns]
 refine z04 zk4 (zp1 p (.slice pb p.blocks.length pc) K K [] (Held.nil (zQr K)) p4 hp.fit hp.few hp.may) ?_
 rintro _ K2 ⟨S2,rf,pl,pv,m,rfl,l2,hpl,hpd,hh⟩
 obtain ⟨rfl,rfl⟩:=hp.one _ _ hpd
 refine ⟨_,[pAt rf],rfl,rfl,rfl,z01,?_⟩
 simp only [cns]
 have hK2:=zQt hK (zQt l2 hh.sh)
 refine z05 [.int .i64 0] z8m (zov p (.slice pb p.blocks.length pc) rf _ 0 K2 (p4.le (zQt l2 hh.sh)) rfl rfl (fun off n=>z1a hh (zms) off n) i0J hp.noCalls) rfl z01 fun K3 l3=>?_
 exact ⟨_,z00,0,by omega,1,rfl,by kernel_rfl,zQt hK2 l3⟩
theorem Z8x (hp:Least p y e) (hck:z3l [p]=0) (cv:Value) (stack:Int) (S:PH) (hc:SlR S [p] cv) (hpr:InI stack):Tri Tryz.prog zwb #[.agg #[cv],.int .i64 stack] S fun x K'=>PH.le S K' ∧
  ((stack < 2∨131072 < stack→x=.returned (.tuple #[.slice none 0 0,.slice none 0 0,.int .i64 250]))∧(2≤stack∧stack≤131072→∃v,x=.returned (.tuple #[v,.slice none 0 0,.int .i64 0])∧SlR K' (z2x 10 10001 ((wordX (z1k y.const) []).getD 0)) v)):=by
 have hrm:=Z7a hp hck cv S hc
 have hsy:=fun (K:PH) (h:PH.le S K)=>zva [p] cv K (hc.le h) hp.ins4
 obtain ⟨cb,cc,rfl⟩:=hc.sl
 refine Z44 [.slice cb [p].length cc,.int .i64 stack] (by kernel_rfl) (by kernel_rfl) ?_
 refine z05 [.int .i64 2,.int .i64 0] Z2a hrm rfl z01 fun K1 l1=>?_
 simp only [cns]
 refine ⟨fun g=>by simp [evs,arI,slLen,z00,iOf,bOf,zb5] at g,fun _=>⟨fun g=>?_,fun g=>?_⟩⟩
 ·simp only [evs,arI,slLen,z00,iOf,bOf,zb5] at g
  simp only [Bool.or_eq_true,zdt] at g
  exact ⟨l1,fun _=>rfl,fun h=>by omega⟩
 simp only [evs,arI,slLen,z00,iOf,bOf,zb5] at g
 simp only [zof,zdf] at g
 refine z05 [.slice none 0 0] zvp (hsy K1 l1) rfl z01 fun K2 l2=>?_
 simp only [cns]
 refine z15 (vs:=[.slice none 0 0,.slice none 0 0,.slice none 0 0,.int .i64 10000,.int .i64 stack]) (Held.nil (zQt l1 l2)) (by kernel_rfl) fun rg K3 _ h3=>?_
 simp only [cns]
 have h3a:Held S K3 [bx rg 100 [.slice none 0 0,.slice none 0 0,.slice none 0 0,.int .i64 10000,.int .i64 stack],orow 131 ([]:List ItemR) (.slice none 0 0),orow 3 ([]:List Int) (.slice none 0 0)]:=
  ((h3.empty (α:=Int) 3).empty (α:=ItemR) 131).perm (List.perm_append_comm (l₁:=[_,_]) (l₂:=[_]))
 refine ⟨fun n vs K=>∃(i:Nat) (env iv:Value) (S2:PH) (es:List Int),i+n=1∧vs=[nI i]∧es=(if i=0 then [] else [10])∧PH.le S S2∧Held S2 K [bx rg 100 [iv,.slice none 0 0,env,.int .i64 (10000+i),.int .i64 stack],orow 131 ([]:List ItemR) iv,orow 3 es env],
  ⟨1,0,.slice none 0 0,.slice none 0 0,S,[],rfl,rfl,rfl,zQr _,by rw [show ((10000:Int)+((0:Nat):Int))=10000 by decide];exact h3a⟩,?_⟩
 rintro n vs K _ ⟨i,env,iv,S2,es,hin,rfl,hes,l3,h4⟩
 have her:=h4.row (e:=3) (l:=es) (v:=env) (by simp)
 obtain ⟨eb,ec,hev⟩:=her.sl
 simp only [cns]
 refine ⟨fun g=>?_,fun g=>?_⟩
 ·have hlt:i < 1:=by
   simp only [evs,arI,slLen,z00,iOf,bOf,zb5,zdt,List.length_singleton] at g
   omega
  obtain rfl:i=0:=by omega
  obtain rfl:es=[]:=hes
  refine ⟨fun vs K=>∃(env iv:Value) (S2:PH),vs=[]∧PH.le S S2∧Held S2 K [bx rg 100 [iv,.slice none 0 0,env,.int .i64 10001,.int .i64 stack],orow 131 ([]:List ItemR) iv,orow 3 [(10:Int)] env],?_,fun _=>rfl,[env],by rw [hev];rfl,z1a h4 (zms) 2 1,?_⟩
  ·rintro vs K5 _ ⟨ev5,iv5,S5,rfl,l5,h5⟩
   exact ⟨_,z00,0,by omega,1,ev5,iv5,S5,[10],rfl,by kernel_rfl,rfl,l5,h5⟩
  simp only [cns]
  have hem:EmH S2 K rg 100 [.slice none 0 0,env,.int .i64 10000,.int .i64 stack] [] 100 [orow 3 ([]:List Int) env]:=⟨by simp,S2,_,zQr _,h4⟩
  refine z04 z68 (Z0t hem (by omega) (by omega)) ?_
  rintro _ K4 ⟨rfl,_,S4,iv4,l4,h5⟩
  refine ⟨_,[.int .i64 10000],rfl,rfl,rfl,z1g (z1a h5 (zms) 2 1) z01,?_⟩
  simp only [cns]
  have h6:=h5.perm (List.perm_append_comm (l₁:=[_,_]) (l₂:=[_]))
  refine z28 (b:=8) (more:=[(10000:Int)]) [.int .i64 10000] z0s z0v rfl (by decide) (by decide) h6 (by kernel_rfl) (.cons (z0k (by decide)) .nil) (z1g (z1a h5 (zms) 2 1) z01) (fun w=>by kernel_rfl) (fun w=>by kernel_rfl)
   (by simp [maxLen]) (by simp) fun w7 v7 S7 K7 l7 h7=>⟨z01,?_⟩
  simp only [cns]
  obtain ⟨b7,c7,hv7⟩:=(h7.row (e:=3) (zms)).sl
  refine z0e (T:=100) (off:=2) (vs:=[v7]) rfl (h7.perm (List.Perm.swap _ _ _)) (by simp only [evs,arI,slLen,z00,iOf,bOf,zb5]) (by intro u hu;rw [zsi.1 hu,hv7];rfl) (by simp) fun K8 h8=>?_
  refine ⟨fun _=>?_,fun g2=>by simp [evs,arI,slLen,z00,iOf,bOf,zb5] at g2⟩
  have h8r:=(h8.row (e:=3) (l:=[(10000:Int)]) (v:=v7) (by simp))
  obtain ⟨z1,_⟩:=(h8r.slR h8.sh).get (i:=0) rfl
  refine ⟨[v7],by rw [hv7];rfl,z1a h8 (zms) 2 1,fun _=>?_,?_⟩
  ·simp only [Chk.holds,evs,arI,slLen,z00,iOf,bOf,zb5]
   rw [hv7] at z1 ⊢
   exact ⟨z1,by omega,by simp⟩
  simp only [cns]
  refine z1n (i:=0) (a:=(10000:Int)) (a':=(10:Int)) (us:=[.int .i64 10]) (by simp only [evs,arI,slLen,z00,iOf,bOf,zb5];rfl) (h8.perm (List.Perm.swap _ _ _)) rfl rfl (by simp only [evs,arI,slLen,z00,iOf,bOf,zb5]) (by simp [oneC]) (z0k (by decide)) fun K9 h9=>?_
  exact ⟨_,z00,v7,iv4,S7,rfl,zQt l3 (zQt l4 l7),h9.perm (by exact (List.Perm.swap _ _ _).trans (List.Perm.cons _ (List.Perm.swap _ _ _)))⟩
 have hi1:i=1:=by
  simp only [evs,arI,slLen,z00,iOf,bOf,zb5,zdf,List.length_singleton] at g
  omega
 subst hi1
 obtain rfl:es=[10]:=hes
 obtain ⟨S5,s5,l5,h5⟩:=(h4.perm (List.perm_append_comm (l₁:=[_,_]) (l₂:=[_]))).freeze
 have lS5:=zQt l3 l5
 have hem:EmH S5 K rg 100 [.slice none 0 0,env,.int .i64 10001,.int .i64 stack] [] (1000+20) []:=⟨by simp,S5,iv,zQr _,h5⟩
 obtain ⟨w,hw⟩:∃w,w=(wordX (z1k y.const) []).getD 0:=⟨_,rfl⟩
 rw [←hw]
 refine ⟨fun n vs K=>∃i:Nat,i+n=1∧vs=[.slice none 0 0,.slice none 0 0,.int .i64 0,nI i]∧((i=0∧EmH S5 K rg 100 [.slice none 0 0,env,.int .i64 10001,.int .i64 stack] [] (1000+20) [])∨(i=1∧EmH S5 K rg 100 [.slice none 0 0,env,.int .i64 10002,.int .i64 stack] (z2x 10 10001 w) 1000 [])),⟨1,0,rfl,rfl,.inl ⟨rfl,hem⟩⟩,?_⟩
 rintro n vs K6 _ ⟨i,hin,rfl,h6⟩
 simp only [cns]
 refine ⟨fun g=>?_,fun g=>?_⟩
 ·have hlt:i < 1:=by
   simp only [evs,arI,slLen,z00,iOf,bOf,zb5,zdt,List.length_singleton] at g
   omega
  obtain rfl:i=0:=by omega
  obtain ⟨_,h6⟩ | ⟨h,_⟩:=h6
  rotate_left
  ·omega
  obtain ⟨x1,_,cs,x2,x3⟩:=(hc.le lS5).get (i:=0) rfl
  obtain ⟨bv,rfl,p1,p2,p3,p4⟩:=prc_iff.1 x2
  obtain ⟨pb,pc,rfl⟩:=p4.sl
  obtain ⟨e1,_,ecs,e2,e3⟩:=(s5.le h6.sh).get (i:=0) rfl
  obtain ⟨rfl,_⟩:=csIK e2
  have hev1:env=.slice eb 1 ec:=hev
  have hrow:rowAt K6 (some ⟨rg,2,none⟩) [env]:=by
   obtain ⟨_,S7,iv7,_,h7⟩:=h6
   exact z1a h7 (zms) 2 1
  refine ⟨fun _=>?_,[.int .i64 p.params,.int .i64 p.holds,.int .i64 p.regs,.slice pb p.blocks.length pc],rfl,by simp only [evs,arI,slLen,z00,iOf,bOf,zb5];exact z0u h6.sh x3,fun _=>rfl,[env],by rw [hev1];rfl,hrow,fun _=>?_,[.int .i64 10],rfl,e3,?_⟩
  ·simp only [Chk.holds,evs,arI,slLen,z00,iOf,bOf,zb5];exact ⟨x1,by omega,by simp⟩
  ·rw [hev1] at e1 ⊢
   exact ⟨e1,by simp [evs,arI,slLen,z00,iOf,bOf,zb5],by simp [evs,arI,slLen,z00,iOf,bOf,zb5]⟩
  simp only [cns]
  refine z04 zbl (Z43 (ents:=[10]) (syms:=[]) hp (.slice pb p.blocks.length pc) 10 (by decide) h6 (by omega) (by omega) ⟨by omega,by omega⟩ p4 s5 (z50 _) (by omega)) ?_
  rintro _ K7 ⟨rfl,h7⟩
  rw [←hw] at h7
  refine ⟨_,[],rfl,rfl,rfl,z01,?_⟩
  simp only [zan]
  have h7':=h7
  obtain ⟨_,S8,iv8,_,h8⟩:=h7
  have hir:=(h8.row (e:=131) (l:=[]++z2x 10 10001 w) (v:=iv8) (by simp))
  obtain ⟨ib,ic,hiv⟩:=hir.sl
  refine ⟨[iv8],by rw [hiv];rfl,z1a h8 (zms) 0 1,fun g2=>?_,fun _=>?_⟩
  ·rw [hiv] at g2
   simp [evs,arI,slLen,z00,iOf,bOf,zb5,z2x] at g2
  ·exact ⟨_,z00,0,by omega,1,rfl,by kernel_rfl,.inr ⟨rfl,by simpa using h7'⟩⟩
 have hi1:i=1:=by
  simp only [evs,arI,slLen,z00,iOf,bOf,zb5,zdf,List.length_singleton] at g
  omega
 subst hi1
 obtain ⟨h,_⟩ | ⟨_,h6⟩:=h6
 ·omega
 obtain ⟨_,S7,iv7,l7,h7⟩:=h6
 have hir:=(h7.row (e:=131) (l:=z2x 10 10001 w) (v:=iv7) (by simp))
 obtain ⟨ib,ic,hiv⟩:=hir.sl
 refine ⟨fun _=>rfl,[iv7],by rw [hiv];rfl,z1a h7 (zms) 0 1,[.slice none 0 0],rfl,z1a h7 (zms) 1 1,?_⟩
 simp only [cns]
 refine z05 [.slice none 0 0] z7h (zuw K6) rfl (z1g (z1a h7 (zms) 0 1) z01) fun K8 l8=>?_
 refine ⟨zQt lS5 (zQt l7 (zQt h7.sh l8)),fun h=>by omega,fun _=>⟨iv7,rfl,(hir.slR h7.sh).le l8⟩⟩
end
def z5e:List ItemR:=rt_codeR++gc_codeR++z2x 10 10001 40
def Z9e (h:HaltR):Bool:=decide (h.state=0) && decide (h.value=0) && decide (h.regs.getD 1 0=40)
theorem Zb0:decide (errA (asmR z5e)=0)=true:=by kernel_rfl
def fiveY:InsX:=⟨z1y,0,[],.mk 1 5 [] [],0⟩
def fiveE:EndX:=⟨2,0,[],0,0,0⟩
def fiveP:PrcX:=⟨0,0,1,[⟨[fiveY],fiveE⟩]⟩
theorem Z20 (r:Int) (L:Nat→Prop) (n:Nat):za9 fiveE n r L↔r=0:=by
 unfold za9
 have h1:(fiveE.reads r=true)↔r=0:=by
  show (decide ((0:Int)=r)=true)↔r=0
  rw [zdt]
  exact eq_comm
 have h2:fiveE.leads n=[]:=by simp [EndX.leads,EndX.ways,fiveE]
 rw [h1,h2]
 simp
theorem zwi (r:Int):¬z1z fiveP r 0 0:=by
 rintro ⟨b,hb,h⟩
 have:b=⟨[fiveY],fiveE⟩:=(Option.some.inj hb).symm
 subst this
 rcases h with h | ⟨h1,h2⟩
 ·cases h
 ·have:=(Z20 r _ _).1 h2
  exact h1 ⟨by decide,this.symm⟩
theorem ztg (r:Int) (h:z1z fiveP r 0 1):r=0:=by
 obtain ⟨b,hb,h⟩:=h
 have:b=⟨[fiveY],fiveE⟩:=(Option.some.inj hb).symm
 subst this
 exact (Z20 r _ _).1 h
theorem Zcu:(inL fiveP)[0]?=some []:=by
 have h:liveL fiveP 0 0=[]:=List.eq_nil_iff_forall_not_mem.2 fun r hr=>zwi r (liveL_mem.1 hr)
 unfold inL
 show (List.map (fun i=>liveL fiveP i 0) (List.range 1))[0]?=some []
 rw [List.range_succ,List.range_zero]
 simp [h]
theorem Z9u (a b:Int) (h:MeetP fiveP a b):a=b:=by
 rcases h with ⟨h,_⟩ | ⟨f,hf,h⟩
 ·exact absurd (liveL_mem.1 h) (zwi a)
 ·have:f=⟨0,-1,liveL fiveP 0 1⟩:=by
   have hf':f∈z2g fiveP 1:=hf
   have e0:z2g fiveP 0=[]:=by simp [z2g]
   rw [ze5 (b:=⟨[fiveY],fiveE⟩) rfl,e0,List.nil_append] at hf'
   have e1:(fiveE.calls)=false:=by decide
   unfold zcp at hf'
   rw [show ([fiveY]:List InsX).length=0+1 from rfl] at hf'
   rw [zbg (x:=fiveY) rfl] at hf'
   simp only [z3g,List.range_zero,List.flatMap_nil,List.nil_append,e1,Bool.false_eq_true,if_false,zan,zcr] at hf'
   rw [if_neg (show ¬fiveY.op=tieB by decide),if_neg (show ¬fiveY.op=moveB by decide)] at hf'
   exact zsi.1 hf'
  subst this
  rcases h with ⟨h1,h2⟩ | ⟨h1,h2⟩
  ·rw [ztg b (liveL_mem.1 h2)];exact h1
  ·rw [ztg a (liveL_mem.1 h2)];exact h1.symm
theorem Zcf (n:Int) (l:List Int) (h:Placed fiveP 24 n l):l=[0]∧n=0:=by
 have hl:=h.len
 have hl1:l.length=1:=hl
 obtain ⟨a,rfl⟩:∃a,l=[a]:=by
  match l,hl1 with
  | [a],_=>exact ⟨a,rfl⟩
 have ha:=h.all 0 a rfl
 obtain ⟨m,_,hm,hle⟩:=h.few 0 a rfl
 have hm0:m=[]:=List.eq_nil_iff_forall_not_mem.2 fun y hy=>by
  obtain ⟨h1,h2⟩:=hm y hy
  exact h1 (Z9u _ _ h2)
 rw [hm0] at hle
 have ha0:a=0:=by simp at hle;omega
 subst ha0
 refine ⟨rfl,?_⟩
 by_cases hn:0 < n
 ·have:=h.used 24 (by omega) (by omega)
  simp at this
 ·have:=h.lo;omega
theorem five_least:Least fiveP fiveY fiveE where
 blk:=rfl
 regs:=rfl
 params:=rfl
 op:=rfl
 to:=rfl
 num:=by decide
 kind:=rfl
 reg:=rfl
 fit:=⟨by decide,fun b hb=>by rw [zsi.1 hb];decide,by decide⟩
 few:=fun b hb=>by rw [zsi.1 hb];decide
 may:=by kernel_rfl
 inl:=Zcu
 one:=Zcf
theorem zjq:z3l [fiveP]=0:=by
 have hc:z2l fiveY.const=true:=by
  have:(fiveY.const.chk 0 0).2=0:=by kernel_rfl
  unfold z2l;rw [this];rfl
 have hi:insOk [fiveP] fiveP fiveY=true:=by
  rw [zg2 rfl,hc];rfl
 have hp:prcOk [fiveP] fiveP=true:=by
  unfold prcOk
  have e:(fiveP.blocks.all fun b=>b.ins.all (insOk [fiveP] fiveP) && finOk fiveP b.e)=true:=by
   show (([fiveY].all (insOk [fiveP] fiveP) && finOk fiveP fiveE) && true)=true
   rw [List.all_cons,hi];rfl
  rw [e];rfl
 unfold z3l
 rw [if_neg (by decide)]
 simp only [List.all_cons,hp]
 rfl
theorem Za6:(wordX (z1k fiveY.const) []).getD 0=40:=by
 have:z1k fiveY.const=⟨1,5,[]⟩:=by
  have h:(fiveY.const.chk 0 0).2=0:=by kernel_rfl
  unfold z1k
  rw [if_neg (by rw [h];decide)]
  rfl
 rw [this];rfl
theorem Zed:Tryz.prog.underlying 44=some (.slice 43):=by kernel_rfl
theorem Z9a:ElemOk Tryz.prog 43 (sz PrcX) 48=true:=by kernel_rfl
theorem Zbl (S:PH):CsR S fiveY (inV fiveY (.slice none 0 0) (.slice none 0 0)):=
 ins_iff.2 ⟨_,_,rfl,by decide,by decide,z50 S,by decide,by decide,by decide,z50 S,by decide⟩
theorem Zbq (S:PH):CsR S fiveE (enV fiveE (.slice none 0 0)):=
 end_iff.2 ⟨_,rfl,by decide,by decide,z50 S,by decide,by decide,by decide⟩
def conX (n:Int):Option Dat:=
 if n=0∨n=1 then some (.mk 0 n [] [])
 else if n=2 then some (.mk 5 0 [] [])
 else if n=3 then some (.mk 4 0 [118,111,105,100] [])
 else if n=4 then some (.mk 4 0 [101,111,102] [])
 else if n=5 then some (.mk 4 0 [117,110,115,101,116] [])
 else if 256≤n∧n≤511 then some (.mk 2 (n - 256) [] [])
 else none
def z3i (w:Int):Bool:=decide (w % 8=2) && decide (256≤w / 8) && decide (w / 8≤511)
def chrX (l:List Int):Option (List UInt8):=if l.all z3i=true then some (l.map fun w=>z3j (w / 8 - 256)) else none
def kidsW (f:Int→Int→Nat→Option Dat×Nat):List (Int×Int)→Nat→List Dat→Option (List Dat)×Nat
 | [],left,acc=>(some acc,left)
 | (w,deep)::l,left,acc=>match f w deep left with
  | (none,m)=>(none,m)
  | (some d,m)=>kidsW f l m (acc++[d])
def thgW (f:Int→Int→Nat→Option Dat×Nat) (mem:List Int) (p:Nat) (deep:Int) (left:Nat):Option Dat×Nat:=
 if mem.getD p 0 / 64 < 0∨(mem.length:Int)≤p+mem.getD p 0 / 64 then (none,left)
 else if mem.getD p 0 / 8 % 8=4 then (some (.mk 4 0 [98,111,120] []),left)
 else if mem.getD p 0 / 8 % 8=5∨mem.getD p 0 / 8 % 8=7 then (some (.mk 4 0 [112,114,111,99,101,100,117,114,101] []),left)
 else if mem.getD p 0 / 8 % 8=3 then ((chrX ((mem.drop (p+1)).take (mem.getD p 0 / 64).toNat)).map fun s=>.mk 3 0 s [],left)
 else if mem.getD p 0 / 8 % 8=2 then (match kidsW f (((mem.drop (p+1)).take (mem.getD p 0 / 64).toNat).map fun w=>(w,deep+1)) left [] with
  | (none,q)=>(none,q)
  | (some r,q)=>(some (.mk 7 0 [] r),q))
 else if mem.getD p 0 / 8 % 8=1∧mem.getD p 0 / 64=2 then (match kidsW f [(mem.getD (p+1) 0,deep+1),(mem.getD (p+2) 0,deep)] left [] with
  | (none,q)=>(none,q)
  | (some r,q)=>(some (makeD (r.take 1) (r.getD 1 (.mk 0 0 [] []))),q))
 else (none,left)
def telW (mem:List Int) (syms:List (List UInt8)):Nat→Int→Int→Nat→Option Dat×Nat
 | 0,_,_,left=>(none,left)
 | k+1,w,deep,left=>
  if left=0∨32 < deep then (none,left)
  else if w % 8=0 then (some (.mk 1 (w / 8) [] []),left - 1)
  else if w % 8=2 then (conX (w / 8),left - 1)
  else if w % 8=3 then (if 0≤w / 8 then (syms[(w / 8).toNat]?).map fun s=>.mk 4 0 s [] else none,left - 1)
  else if w % 8=1∧0≤w / 8∧w / 8 < mem.length∧mem.getD (w / 8).toNat 0 % 8=7 then thgW (telW mem syms k) mem (w / 8).toNat deep (left - 1)
  else (none,left - 1)
def telX (mem:List Int) (syms:List (List UInt8)) (w:Int):Option Dat:=(telW mem syms 201 w 0 200).1
def FewW (left:Nat) (r:Option Dat×Nat):Prop:=r.2≤left∧∀d,r.1=some d→d.cnt+r.2≤left
theorem Zas (a b:Dat):(makeD [a] b).cnt≤1+a.cnt+b.cnt:=by
 unfold makeD
 rw [if_neg (by simp)]
 have hb:=Dat.cnt_eq b
 split
 ·simp only [Dat.cnt,List.cons_append,List.nil_append,Dats.cnt];omega
 ·simp only [Dat.cnt,List.cons_append,List.nil_append,Dats.cnt];omega
theorem Zaf {n:Int} {d:Dat} (h:conX n=some d):d.list=[]:=by
 unfold conX at h
 repeat' split at h
 all_goals first | (cases h;rfl) | cases h
theorem Zcm {d:Dat} (h:d.list=[]):d.cnt=1:=by rw [Dat.cnt_eq,h];rfl
theorem zfi {f:Int→Int→Nat→Option Dat×Nat} (hf:∀w d l,FewW l (f w d l)):∀(l:List (Int×Int)) (left:Nat) (acc:List Dat),
  (kidsW f l left acc).2≤left∧∀m,(kidsW f l left acc).1=some m→m.length=acc.length+l.length∧Dats.cnt m+(kidsW f l left acc).2≤Dats.cnt acc+left
 | [],left,acc=>⟨Nat.le_refl _,fun m h=>by cases h;exact ⟨by simp,Nat.le_refl _⟩⟩
 | (w,deep)::l,left,acc=>by
  obtain ⟨h1,h2⟩:=hf w deep left
  simp only [kidsW]
  generalize hr:f w deep left=r at h1 h2
  obtain ⟨o,q⟩:=r
  cases o with
  | none=>exact ⟨h1,fun m h=>by cases h⟩
  | some d=>
   have h3:=h2 d rfl
   obtain ⟨h4,h5⟩:=zfi hf l q (acc++[d])
   simp only at h1 h3 ⊢
   refine ⟨by omega,fun m hm=>?_⟩
   obtain ⟨h6,h7⟩:=h5 m hm
   rw [Dats.cnt_append] at h7
   simp only [Dats.cnt] at h7
   exact ⟨by rw [h6];simp;omega,by omega⟩
theorem z9u {left:Nat} {d:Dat} (h:d.list=[]) (h0:left≠0):FewW left (some d,left - 1):=
 ⟨by simp,fun x hx=>by cases hx;rw [Zcm h];simp only;omega⟩
theorem Zcb {f:Int→Int→Nat→Option Dat×Nat} (hf:∀w d l,FewW l (f w d l)) (mem:List Int) (p:Nat) (deep:Int) (left:Nat) (h0:left≠0):FewW left (thgW f mem p deep (left - 1)):=by
 unfold thgW
 have none_:FewW left (none,left - 1):=⟨by simp,fun d h=>by cases h⟩
 split
 ·exact none_
 split
 ·exact z9u rfl h0
 split
 ·exact z9u rfl h0
 split
 ·cases chrX _ with
  | none=>exact none_
  | some s=>exact z9u rfl h0
 split
 ·obtain ⟨h1,h2⟩:=zfi hf (((mem.drop (p+1)).take (mem.getD p 0 / 64).toNat).map fun w=>(w,deep+1)) (left - 1) []
  generalize kidsW f _ (left - 1) []=r at h1 h2 ⊢
  obtain ⟨o,q⟩:=r
  cases o with
  | none=>exact ⟨by simp only at h1 ⊢;omega,fun d h=>by cases h⟩
  | some m=>
   obtain ⟨_,h3⟩:=h2 m rfl
   refine ⟨by simp only at h1 ⊢;omega,fun d h=>?_⟩
   cases h
   simp only [Dats.cnt,Dat.cnt] at h3 ⊢
   omega
 split
 ·obtain ⟨h1,h2⟩:=zfi hf [(mem.getD (p+1) 0,deep+1),(mem.getD (p+2) 0,deep)] (left - 1) []
  generalize kidsW f _ (left - 1) []=r at h1 h2 ⊢
  obtain ⟨o,q⟩:=r
  cases o with
  | none=>exact ⟨by simp only at h1 ⊢;omega,fun d h=>by cases h⟩
  | some m=>
   obtain ⟨h4,h3⟩:=h2 m rfl
   refine ⟨by simp only at h1 ⊢;omega,fun d h=>?_⟩
   cases h
   match m,h4 with
   | [a,b],_=>
    have:=Zas a b
    simp only [Dats.cnt] at h3
    show (makeD [a] b).cnt+q≤left
    omega
 ·exact none_
theorem zqo (mem:List Int) (syms:List (List UInt8)):∀k w deep left,FewW left (telW mem syms k w deep left)
 | 0,w,deep,left=>⟨Nat.le_refl _,fun d h=>by cases h⟩
 | k+1,w,deep,left=>by
  rw [telW]
  split
  ·exact ⟨Nat.le_refl _,fun d h=>by cases h⟩
  rename_i h
  have h0:left≠0:=fun e=>h (.inl e)
  have none_:FewW left (none,left - 1):=⟨by simp,fun d h=>by cases h⟩
  split
  ·exact z9u rfl h0
  split
  ·cases hc:conX (w / 8) with
   | none=>exact none_
   | some d=>exact z9u (Zaf hc) h0
  split
  ·split
   ·cases syms[(w / 8).toNat]? with
    | none=>exact none_
    | some s=>exact z9u rfl h0
   ·exact none_
  split
  ·exact Zcb (fun w d l=>zqo mem syms k w d l) mem _ deep left h0
  ·exact none_
abbrev bareV (d:Dat):List Value:=[.int .i64 d.kind,.int .i64 d.int,txt d.text,.slice none 0 0]
theorem Zer (n:Int) (h0:0≤n) (h1:n < 256):arI .and .i64 n 255=n:=by
 obtain ⟨k,rfl⟩:∃k:Nat,n=(k:Int):=⟨n.toNat,by omega⟩
 have hk:k < 256:=by omega
 clear h0 h1
 revert k
 decide +kernel
def DSm (d:Dat):Prop:=InI d.kind∧InI d.int∧d.text.length≤maxLen
theorem dSm {k n:Int} {t:List UInt8} {l:List Dat} (hk:InI k) (hn:InI n) (ht:t.length≤maxLen):DSm (.mk k n t l):=⟨hk,hn,ht⟩
theorem zt2 (n:Int) (hn:InI n) (hlo:-9223372036854775000≤n) (H:PH):Tri Tryz.prog zrp #[.int .i64 n] H fun e K'=>PH.le H K'∧∃d:Dat,d.list=[]∧DSm d∧e=.returned (.tuple #[.agg (bareV d).toArray,.bool (conX n).isSome])∧∀x,conX n=some x→d=x:=by
 obtain ⟨hn0,hn1⟩:=hn
 refine znt [.int .i64 n] (by kernel_rfl) (by kernel_rfl) ?_
 generalize hc:conX n=c
 unfold conX at hc
 refine ⟨fun g=>?_,fun g=>?_⟩
 ·have g':n=0∨n=1:=by
   simp only [evs,arI,zb5] at g
   by_cases h:n=0
   ·exact .inl h
   ·exact .inr (by simpa [h] using g)
  rw [if_pos g'] at hc
  subst hc
  exact ⟨zQr _,.mk 0 n [] [],rfl,dSm (by decide) ⟨hn0,hn1⟩ (by decide),rfl,fun x hx=>Option.some.inj hx⟩
 have g':¬(n=0∨n=1):=by
  simp only [evs,arI,zb5] at g
  by_cases h:n=0
  ·simp [h] at g
  ·simpa [h] using g
 rw [if_neg g'] at hc
 refine ⟨fun g=>?_,fun g=>?_⟩
 ·simp only [evs,arI,zb5,zdt] at g
  rw [if_pos g] at hc
  subst hc
  exact ⟨zQr _,.mk 5 0 [] [],rfl,dSm (by decide) (by decide) (by decide),rfl,fun x hx=>Option.some.inj hx⟩
 simp only [evs,arI,zb5,zdf] at g
 rw [if_neg g] at hc
 refine ⟨fun g=>?_,fun g=>?_⟩
 ·simp only [evs,arI,zb5,zdt] at g
  rw [if_pos g] at hc
  subst hc
  exact ⟨zQr _,.mk 4 0 [118,111,105,100] [],rfl,dSm (by decide) (by decide) (by decide),rfl,fun x hx=>Option.some.inj hx⟩
 simp only [evs,arI,zb5,zdf] at g
 rw [if_neg g] at hc
 refine ⟨fun g=>?_,fun g=>?_⟩
 ·simp only [evs,arI,zb5,zdt] at g
  rw [if_pos g] at hc
  subst hc
  exact ⟨zQr _,.mk 4 0 [101,111,102] [],rfl,dSm (by decide) (by decide) (by decide),rfl,fun x hx=>Option.some.inj hx⟩
 simp only [evs,arI,zb5,zdf] at g
 rw [if_neg g] at hc
 refine ⟨fun g=>?_,fun g=>?_⟩
 ·simp only [evs,arI,zb5,zdt] at g
  rw [if_pos g] at hc
  subst hc
  exact ⟨zQr _,.mk 4 0 [117,110,115,101,116] [],rfl,dSm (by decide) (by decide) (by decide),rfl,fun x hx=>Option.some.inj hx⟩
 simp only [evs,arI,zb5,zdf] at g
 rw [if_neg g] at hc
 have w:IntKind.i64.wrap (n - 256)=n - 256:=w64 (by omega) (by omega)
 refine ⟨zQr _,.mk 2 (arI .and .i64 (arI .sub .i64 n 256) 255) [] [],rfl,dSm (by decide) (by rw [ztz];exact ⟨by omega,by omega⟩) (by decide),?_,fun x hx=>?_⟩
 ·have:(decide (n - 256 ≥ 0) && decide (n - 256 < 256))=c.isSome:=by
   rw [←hc]
   by_cases h:256≤n∧n≤511
   ·rw [if_pos h];simp;omega
   ·rw [if_neg h];simp;omega
  simp only [evs,arI,zb5,partV,Bool.false_eq_true,if_false,if_true,List.headD_cons,w]
  rw [←this];rfl
 ·rw [←hc] at hx
  split at hx
  ·rename_i h
   rw [←Option.some.inj hx,show arI .sub .i64 n 256=n - 256 from w,Zer _ (by omega) (by omega)]
  ·cases hx
theorem and_7 (n:Int):arI .and .i64 n 7=n % 8:=zdm n 3 (by omega)
theorem shr_3 (n:Int):arI .shr .i64 n 3=n / 8:=by
 rw [show (3:Int)=((3:Nat):Int) from rfl,zni n 3 (by omega)]
 unfold shrR
 rw [Int.fdiv_eq_ediv_of_nonneg _ (by decide)];rfl
theorem shr_6 (n:Int):arI .shr .i64 n 6=n / 64:=by
 rw [show (6:Int)=((6:Nat):Int) from rfl,zni n 6 (by omega)]
 unfold shrR
 rw [Int.fdiv_eq_ediv_of_nonneg _ (by decide)];rfl
theorem zpr {n:Int} {d:Dat} (h:conX n=some d):(d.kind=2↔256≤n∧n≤511)∧(d.kind=2→d.int=n - 256):=by
 unfold conX at h
 repeat' split at h
 all_goals first | cases h | skip
 all_goals simp only [Dat.kind,Dat.int]
 all_goals first | omega | (rename_i h;exact ⟨⟨fun _=>h,fun _=>by trivial⟩,fun _=>by trivial⟩)
theorem zpp (w:Int) (d:Dat) (hd:∀x,conX (w / 8)=some x→d=x):(w % 8=2∧(conX (w / 8)).isSome=true∧d.kind=2)↔z3i w=true:=by
 unfold z3i
 cases hc:conX (w / 8) with
 | none=>
  simp only [Option.isSome_none,Bool.false_eq_true,false_and,and_false,false_iff,zba,zdt]
  intro h
  unfold conX at hc
  repeat' split at hc
  all_goals first | omega | cases hc
 | some x=>
  obtain rfl:=hd x hc
  have:=(zpr hc).1
  simp only [Option.isSome_some,true_and,zba,zdt]
  omega
def TelE (r:Option Dat) (e:Ending) (S:PH):Prop:=∃(d:Dat) (cs:List Value),e=.returned (.tuple #[.agg cs.toArray,.bool r.isSome])∧d.Rep S cs∧∀x,r=some x→d=x
theorem z42 (S:PH):TelE none (.returned (.tuple #[.agg #[.int .i64 0,.int .i64 0,txt [],.slice none 0 0],.bool false])) S:=
 ⟨.mk 0 0 [] [],_,rfl,z3f (by decide) (by decide) (by decide),fun x h=>by cases h⟩
theorem z2v {k n:Int} {t:List UInt8} {S:PH} (hk:InI k) (hn:InI n) (ht:t.length≤maxLen):TelE (some (.mk k n t [])) (.returned (.tuple #[.agg #[.int .i64 k,.int .i64 n,txt t,.slice none 0 0],.bool true])) S:=
 ⟨.mk k n t [],_,rfl,z3f hk hn ht,fun x h=>by cases h;rfl⟩
theorem Z4p (H:PH) (b:UInt8):CsR H b [.int .u8 (b.toNat:Int)]:=⟨_,_,rfl,⟨rfl,by
 show (0:Int)≤_∧_≤(255:Int)
 have:=b.toNat_lt
 omega⟩,rfl⟩
theorem Z98 (l:List Int) (v:Value) (H:PH) (hl:SlR H l v) (hby:l.length≤140737488355328):Tri Tryz.prog Z2j #[v] H fun e H'=>PH.le H H'∧TelE ((chrX l).map fun s=>.mk 3 0 s []) e H':=by
 have hmx:maxLen=9223372036854775807:=rfl
 have hm:=hl.max
 obtain ⟨b,c,rfl⟩:=hl.sl
 refine zyl [.slice b l.length c] (by kernel_rfl) (by kernel_rfl) ?_
 have h0:=(Held.nil (zQr H)).empty (α:=UInt8) 5
 refine ⟨fun n vs K=>∃(k:Nat) (u:Value) (S:PH),k+n=l.length∧vs=[.bool false,u,nI k,.int .i64 0,.int .i64 0,txt [],.slice none 0 0]∧PH.le H S∧Held S K [orow 5 ((l.take k).map fun w=>z3j (w / 8 - 256)) u]∧(l.take k).all z3i=true,
  ⟨l.length,0,_,H,by omega,rfl,zQr _,h0,rfl⟩,?_⟩
 rintro n vs K _ ⟨k,u,S,hkn,rfl,ls,h1,hall⟩
 obtain ⟨ub,uc,rfl⟩:=(h1.row (zms)).sl
 simp only [cns]
 refine ⟨fun g=>?_,fun g=>?_⟩
 ·simp only [evs,arI,zb5,zdt] at g
  obtain ⟨w,hw⟩:∃w,l[k]?=some w:=⟨_,zge (by omega)⟩
  obtain ⟨z1,_,cs,z2,z3⟩:=hl.get hw
  obtain ⟨rfl,hwi⟩:=csIK z2
  refine ⟨fun _=>?_,[.int .i64 w],rfl,by simp only [evs,arI,zb5];exact z0u (zQt ls h1.sh) z3,?_⟩
  ·simp only [Chk.holds,evs,arI,zb5];exact ⟨z1,by omega,by omega⟩
  simp only [cns]
  have hw8:InI (w / 8)∧-9223372036854775000≤w / 8:=by obtain ⟨q1,q2⟩:=hwi;exact ⟨⟨by omega,by omega⟩,by omega⟩
  have hc:=zt2 (w / 8) hw8.1 hw8.2
  rw [←shr_3] at hc
  refine z04 zd0 (h1.pure (R:=fun x _=>∃d:Dat,d.list=[]∧DSm d∧x=.returned (.tuple #[.agg (bareV d).toArray,.bool (conX (arI .shr .i64 w 3)).isSome])∧∀y,conX (arI .shr .i64 w 3)=some y→d=y) (hc S)) ?_
  rintro _ K2 ⟨S2,l2,h2,d,hdl,_,rfl,hd⟩
  rw [shr_3] at hd
  refine ⟨_,bareV d++[.bool (conX (w / 8)).isSome],by rw [shr_3];rfl,rfl,rfl,z01,?_⟩
  simp only [bareV,List.cons_append,List.nil_append]
  have hst:=zpp w d hd
  refine ⟨fun g2=>?_,fun g2=>?_⟩
  ·replace g2:(if (if decide (arI .and .i64 w 7≠2)=true then true else !(conX (w / 8)).isSome)=true then true else decide (d.kind≠2))=true:=by
    simp only [evs,arI,zb5] at g2 ⊢
    revert g2
    cases (conX (w / 8)).isSome<;>by_cases hk:d.kind=2<;>by_cases hn:arI .and .i64 w 7=2<;>simp_all [arI]
   rw [and_7] at g2
   have hno:z3i w=false:=by
    cases hq:z3i w with
    | false=>rfl
    | true=>
     obtain ⟨q1,q2,q3⟩:=hst.2 hq
     rw [q2,q1,q3] at g2
     simp at g2
   have hnone:chrX l=none:=by
    unfold chrX
    rw [if_neg]
    intro hh
    have:=zat.1 hh w (zmg hw)
    rw [hno] at this;cases this
   rw [hnone]
   exact ⟨zQt ls (zQt l2 h2.sh),z42 K2⟩
  ·replace g2:(if (if decide (arI .and .i64 w 7≠2)=true then true else !(conX (w / 8)).isSome)=true then true else decide (d.kind≠2))=false:=by
    simp only [evs,arI,zb5] at g2 ⊢
    revert g2
    cases (conX (w / 8)).isSome<;>by_cases hk:d.kind=2<;>by_cases hn:arI .and .i64 w 7=2<;>simp_all [arI]
   rw [and_7] at g2
   have h3:w % 8=2∧(conX (w / 8)).isSome=true∧d.kind=2:=by
    refine ⟨Classical.byContradiction fun h=>by simp [h] at g2,?_,Classical.byContradiction fun h=>by simp [h] at g2⟩
    cases hq:(conX (w / 8)).isSome with
    | true=>rfl
    | false=>rw [hq] at g2;simp at g2
   have hyes:=hst.1 h3
   obtain ⟨x,hx⟩:=Option.isSome_iff_exists.1 h3.2.1
   have hdx:=hd x hx
   have hint:d.int=w / 8 - 256:=by rw [hdx];exact (zpr hx).2 (by rw [←hdx];exact h3.2.2)
   rw [hint]
   refine z28 (b:=1) (more:=[z3j (w / 8 - 256)]) [.int .u8 ((z3j (w / 8 - 256)).toNat:Int)] z5c zin rfl (by decide) (by decide) h2 ?_ (.cons (Z4p _ _) .nil) z01 (fun w=>by kernel_rfl) (fun w=>by kernel_rfl)
    (by simp only [zlm,List.length_take,zlc,zln];omega) (by simp only [zlm,List.length_take,zlc,zln];omega) fun y v7 S7 K7 l7 h7=>⟨z01,?_⟩
   ·rw [←Z85];kernel_rfl
   refine ⟨_,z00,n - 1,by omega,k+1,v7,S7,by omega,?_,zQt ls (zQt l2 l7),?_,?_⟩
   ·have hw:IntKind.i64.wrap ((k:Int)+1)=((k+1:Nat):Int):=by rw [w64 (by omega) (by omega)];rfl
    simp only [evs,arI,zb5,hw]
   ·rw [List.take_add_one,hw,List.map_append];exact h7
   ·rw [List.take_add_one,hw,List.all_append,hall]
    simp [hyes]
 ·simp only [evs,arI,zb5,zdf] at g
  obtain ⟨S2,s2,l2,h2⟩:=h1.freeze
  refine z30 z5c z8g uByte (by kernel_rfl) (s2.le h2.sh) z01 ?_
  have hsome:chrX l=some ((l.take k).map fun w=>z3j (w / 8 - 256)):=by
   rw [ztl (by omega)] at hall ⊢
   unfold chrX;rw [if_pos hall]
  rw [hsome]
  exact ⟨zQt ls (zQt l2 h2.sh),z2v (k:=3) (n:=0) (by decide) (by decide) (by rw [zlm,List.length_take];omega)⟩
def Z9q (mem:List Int) (syms:List (List UInt8)) (mv sv:Value) (tr f:Nat):Prop:=∀(w deep:Int) (left:Nat) (S K:PH),SlR S mem mv→SlR S syms sv→InI w→0≤deep→deep≤33→left≤200→left≤f →
 Held S K [bx tr 125 [mv,sv,.int .i64 (left:Int)]]→Tri Tryz.prog zkx #[pAt tr,.int .i64 w,.int .i64 deep] K fun e K'=>∃(S':PH) (J':List Itm),PH.le S S'∧Held S' K' J' ∧
  (J'=[bx tr 125 [mv,sv,.int .i64 ((telW mem syms f w deep left).2:Int)]]∧TelE (telW mem syms f w deep left).1 e S')
theorem Z25 {mem:List Int} {p n i:Nat}:((mem.drop (p+1)).take n)[i]?=if i < n then mem[p+1+i]? else none:=by
 rw [List.getElem?_take];split
 ·rw [List.getElem?_drop]
 ·rfl
theorem Z4s {w:Int} (h:InI w):-144115188075855872≤w / 64∧w / 64≤144115188075855871:=by obtain ⟨h1,h2⟩:=h;omega
theorem Z4e {α:Type} [Enc α] {H:PH} {l:List α} {v:Value} (h:SlR H l v):l.length≤slCap v:=by
 rcases (SlR.mk_iff.1 h).2 with ⟨rfl,rfl⟩ | ⟨a,c,rfl,h3,_⟩
 ·exact Nat.zero_le _
 ·exact h3
theorem getD_some {mem:List Int} {p:Nat} {w:Int} (h:mem[p]?=some w):mem.getD p 0=w:=by rw [zgd,h];rfl
set_option maxHeartbeats 2000000 in
theorem Z5y {mem:List Int} {syms:List (List UInt8)} {mv sv:Value} {tr f:Nat} (ih:Z9q mem syms mv sv tr f) (hfew:mem.length≤140737488355328) (p:Nat) (hp:p < mem.length) (deep:Int) (left:Nat) (S K:PH) (hm:SlR S mem mv) (hs:SlR S syms sv) (h0:0≤deep) (h1:deep≤32) (h2:left≤200) (h3:left≤f)
  (h:Held S K [bx tr 125 [mv,sv,.int .i64 (left:Int)]]):Tri Tryz.prog zj0 #[pAt tr,.int .i64 (p:Int),.int .i64 deep] K fun e K'=>∃(S':PH) (J':List Itm),PH.le S S'∧Held S' K' J' ∧
  (J'=[bx tr 125 [mv,sv,.int .i64 ((thgW (telW mem syms f) mem p deep left).2:Int)]]∧TelE (thgW (telW mem syms f) mem p deep left).1 e S'):=by
 have hmx:maxLen=9223372036854775807:=rfl
 have hfewW:=zqo mem syms f
 have hkf:=zfi (hfewW)
 obtain ⟨mb,mc,hmv⟩:=hm.sl
 obtain ⟨sb,sc,hsv⟩:=hs.sl
 obtain ⟨hd,hhd⟩:∃w,mem[p]?=some w:=⟨_,zge hp⟩
 have hcut:∀n:Nat,p+1+n≤mem.length→SlR S ((mem.drop (p+1)).take n) (slsV mv ((p+1:Nat):Int) ((p+1+n:Nat):Int) 1):=fun n hn=>by
  have:=hm.cut (a:=p+1) (b:=p+1+n) (by omega) hn
  rwa [List.drop_take,show p+1+n - (p+1)=n by omega] at this
 have rd:∀{S' K':PH} {k:Nat} {w:Int},PH.le S S'→PH.le S' K'→mem[k]?=some w→(z0d mv).isSome=true∧InI w∧rowAt K' (pOf (eltV mv (k:Int) 1)) [.int .i64 w]:=fun hl hl' hk=>by
  obtain ⟨x1,_,cs,x2,x3⟩:=(hm.le hl).get hk
  obtain ⟨rfl,x4⟩:=csIK x2
  exact ⟨x1,x4,z0u hl' x3⟩
 obtain ⟨q1,q2,q3⟩:=rd (zQr S) h.sh hhd
 have hhb:=Z4s q2
 have hcap:=Z4e hm
 generalize hT:thgW (telW mem syms f) mem p deep left=T
 unfold thgW at hT
 rw [getD_some hhd] at hT
 refine zg0 [pAt tr,.int .i64 (p:Int),.int .i64 deep] (by kernel_rfl) (by kernel_rfl) ?_
 have row:∀{S' K':PH} {n:Int} {I:List Itm},Held S' K' (bx tr 125 [mv,sv,.int .i64 n]::I)→rowAt K' (some ⟨tr,0,none⟩) [mv]:=fun hh=>z1a hh (zms) 0 1
 refine ⟨fun _=>rfl,[mv],by rw [hmv];rfl,row h,fun _=>?_,[.int .i64 hd],rfl,by simp only [evs,arI,zb5];exact q3,?_⟩
 ·exact ⟨q1,Int.natCast_nonneg p,by show (p:Int) < (slLen mv:Int);rw [hm.len];omega⟩
 simp only [cns]
 have hout:decide (hd / 64 < 0)=false→((mem.length:Int) - p - 1 < hd / 64↔(mem.length:Int)≤p+hd / 64):=fun _=>by omega
 refine ⟨fun vs K'=>K'=K∧vs=[.bool (decide (hd / 64 < 0∨(mem.length:Int)≤p+hd / 64))],?_,fun g=>?_,fun g=>?_⟩
 rotate_left
 ·replace g:decide (arI .shr .i64 hd 6 < 0)=true:=g
  rw [shr_6,zdt] at g
  exact ⟨_,z00,rfl,by simp [evs,arI,zb5,g]⟩
 ·replace g:decide (arI .shr .i64 hd 6 < 0)=false:=g
  rw [shr_6,zdf] at g
  refine ⟨[mv],by rw [hmv];rfl,row h,_,z00,rfl,?_⟩
  have e1:IntKind.i64.wrap ((mem.length:Int) - p)=mem.length - p:=w64 (by omega) (by omega)
  have e2:IntKind.i64.wrap ((mem.length:Int) - p - 1)=mem.length - p - 1:=w64 (by omega) (by omega)
  have e3:(decide (arI .shr .i64 hd 6 > arI .sub .i64 (arI .sub .i64 (slLen mv:Int) p) 1))=decide (hd / 64 < 0∨(mem.length:Int)≤p+hd / 64):=by
   rw [shr_6,hm.len]
   show decide (hd / 64 > IntKind.i64.wrap (IntKind.i64.wrap ((mem.length:Int) - p) - 1))=_
   rw [e1,e2,decide_eq_decide];omega
  show [Value.bool _]=_
  rw [←e3];rfl
 rintro vs K1 _ ⟨rfl,rfl⟩
 simp only [cns]
 refine ⟨fun g=>?_,fun g=>?_⟩
 ·simp only [evs,arI,zb5,zdt] at g
  rw [if_pos g] at hT
  rw [←hT]
  exact ⟨S,_,zQr _,h,rfl,z42 S⟩
 simp only [evs,arI,zb5,zdf] at g
 rw [if_neg g] at hT
 obtain ⟨n,hn⟩:∃n:Nat,hd / 64=(n:Int):=⟨(hd / 64).toNat,by omega⟩
 have hpn:p+n < mem.length:=by omega
 rw [hn,Int.toNat_natCast] at hT
 have a1:arI .add .i64 (p:Int) 1=((p+1:Nat):Int):=by show IntKind.i64.wrap _=_;rw [w64 (by omega) (by omega)];rfl
 have a2:arI .add .i64 ((p+1:Nat):Int) (n:Int)=((p+1+n:Nat):Int):=by show IntKind.i64.wrap _=_;rw [w64 (by omega) (by omega)];omega
 have a3:arI .shr .i64 hd 6=(n:Int):=by rw [shr_6,hn]
 obtain ⟨wv,hwv⟩:∃wv,wv=slsV mv (arI .add .i64 (p:Int) 1) (arI .add .i64 (arI .add .i64 (p:Int) 1) (arI .shr .i64 hd 6)) 1:=⟨_,rfl⟩
 have hw:SlR S ((mem.drop (p+1)).take n) wv:=by rw [hwv,a1,a3,a2];exact hcut n (by omega)
 have hwl:((mem.drop (p+1)).take n).length=n:=by rw [List.length_take,List.length_drop];omega
 obtain ⟨words,hwords⟩:∃ws,ws=(mem.drop (p+1)).take n:=⟨_,rfl⟩
 rw [←hwords] at hw hwl hT
 have chkW:∀(k:Nat) (w:Int),k < n→words[k]?=some w→(z0d (slsV mv (arI .add .i64 (p:Int) 1) (arI .add .i64 (arI .add .i64 (p:Int) 1) (arI .shr .i64 hd 6)) 1)).isSome=true∧(0:Int)≤(k:Int)∧(k:Int) < (slLen (slsV mv (arI .add .i64 (p:Int) 1) (arI .add .i64 (arI .add .i64 (p:Int) 1) (arI .shr .i64 hd 6)) 1):Int):=fun k w hk hwk=>by
  rw [←hwv,hw.len,hwl]
  exact ⟨(hw.get hwk).1,by omega,by omega⟩
 have rdW:∀{S' K':PH} (k:Nat) (w:Int),PH.le S S'→PH.le S' K'→words[k]?=some w→InI w∧rowAt K' (pOf (eltV (slsV mv (arI .add .i64 (p:Int) 1) (arI .add .i64 (arI .add .i64 (p:Int) 1) (arI .shr .i64 hd 6)) 1) (k:Int) 1)) [.int .i64 w]:=fun k w hl hl' hwk=>by
  rw [←hwv]
  obtain ⟨_,_,cs,z2,z3⟩:=(hw.le hl).get hwk
  obtain ⟨rfl,hwi⟩:=csIK z2
  exact ⟨hwi,z0u hl' z3⟩
 have hwat:∀i,i < n→words[i]?=mem[p+1+i]?:=fun i hi=>by rw [hwords,Z25,if_pos hi]
 refine ⟨[mv],by rw [hmv];rfl,row h,fun _=>?_,?_⟩
 ·show 0≤arI .add .i64 (p:Int) 1∧arI .add .i64 (p:Int) 1≤arI .add .i64 (arI .add .i64 (p:Int) 1) (arI .shr .i64 hd 6)∧arI .add .i64 (arI .add .i64 (p:Int) 1) (arI .shr .i64 hd 6)≤((slCap mv:Nat):Int)
  rw [a1,a3,a2];omega
 simp only [cns]
 refine ⟨fun vs K'=>vs=[]∧∃(S':PH) (q:Nat),PH.le S S'∧Held S' K' [bx tr 125 [mv,sv,.int .i64 (q:Int)]]∧T=(none,q),?_,[mv],by rw [hmv];rfl,row h,fun _=>?_,[.int .i64 hd],rfl,by simp only [evs,arI,zb5];exact q3,?_⟩
 ·rintro vs K' _ ⟨rfl,S',q,l',h',rfl⟩
  exact ⟨S',_,l',h',rfl,z42 S'⟩
 ·exact ⟨q1,Int.natCast_nonneg p,by show (p:Int) < (slLen mv:Int);rw [hm.len];omega⟩
 simp only [cns]
 have kd:arI .and .i64 (arI .shr .i64 hd 3) 7=hd / 8 % 8:=by rw [shr_3,and_7]
 generalize hkd:hd / 8 % 8=kind at hT kd
 refine ⟨fun g4=>?_,fun g4=>?_⟩
 ·replace g4:decide (arI .and .i64 (arI .shr .i64 hd 3) 7=4)=true:=g4
  rw [kd,zdt] at g4
  rw [if_pos g4] at hT
  rw [←hT]
  exact ⟨S,_,zQr _,h,rfl,z2v (k:=4) (n:=0) (t:=[98,111,120]) (by decide) (by decide) (by decide)⟩
 replace g4:decide (arI .and .i64 (arI .shr .i64 hd 3) 7=4)=false:=g4
 rw [kd,zdf] at g4
 rw [if_neg g4] at hT
 refine ⟨fun g5=>?_,fun g5=>?_⟩
 ·replace g5:bOf (if decide (arI .and .i64 (arI .shr .i64 hd 3) 7=5)=true then .bool (decide (arI .and .i64 (arI .shr .i64 hd 3) 7=5)) else .bool (decide (arI .and .i64 (arI .shr .i64 hd 3) 7=7)))=true:=g5
  rw [kd] at g5
  have g5':kind=5∨kind=7:=by
   by_cases e:kind=5
   ·exact .inl e
   ·simp [bOf,e] at g5;exact .inr g5
  rw [if_pos g5'] at hT
  rw [←hT]
  exact ⟨S,_,zQr _,h,rfl,z2v (k:=4) (n:=0) (t:=[112,114,111,99,101,100,117,114,101]) (by decide) (by decide) (by decide)⟩
 replace g5:bOf (if decide (arI .and .i64 (arI .shr .i64 hd 3) 7=5)=true then .bool (decide (arI .and .i64 (arI .shr .i64 hd 3) 7=5)) else .bool (decide (arI .and .i64 (arI .shr .i64 hd 3) 7=7)))=false:=g5
 rw [kd] at g5
 have g5':¬(kind=5∨kind=7):=by
  by_cases e:kind=5
  ·simp [bOf,e] at g5
  ·simpa [bOf,e] using g5
 rw [if_neg g5'] at hT
 refine ⟨fun g6=>?_,fun g6=>?_⟩
 ·replace g6:decide (arI .and .i64 (arI .shr .i64 hd 3) 7=3)=true:=g6
  rw [kd,zdt] at g6
  rw [if_pos g6] at hT
  rw [←hT]
  rw [hwv] at hw
  refine z04 Z0r (h.pure (R:=fun x S'=>TelE ((chrX words).map fun s=>.mk 3 0 s []) x S') (Z98 words _ S hw (by omega))) ?_
  rintro _ K2 ⟨S2,l2,h2,d,cs,rfl,hd2,hx⟩
  obtain ⟨tv,rfl,r1,r2,r3,r4⟩:=Dat.Rep_iff.1 hd2
  obtain ⟨tb,tc,rfl⟩:=SlR.sl r4
  refine ⟨_,[.int .i64 d.kind,.int .i64 d.int,txt d.text,.slice tb d.list.length tc,.bool ((chrX words).map fun s=>Dat.mk 3 0 s []).isSome],rfl,rfl,rfl,z01,?_⟩
  exact ⟨S2,_,l2,h2,rfl,d,_,rfl,hd2,hx⟩
 replace g6:decide (arI .and .i64 (arI .shr .i64 hd 3) 7=3)=false:=g6
 rw [kd,zdf] at g6
 rw [if_neg g6] at hT
 refine ⟨fun g7=>?_,fun g7=>?_⟩
 ·
  replace g7:decide (arI .and .i64 (arI .shr .i64 hd 3) 7=2)=true:=g7
  rw [kd,zdt] at g7
  rw [if_pos g7] at hT
  have h0':=(h.empty (α:=Dat) 32).perm (List.Perm.swap _ _ _)
  refine ⟨fun m vs K'=>∃(k:Nat) (u:Value) (S':PH) (acc:List Dat) (q:Nat),k+m=n∧vs=[.bool false,nI k,.int .i64 7,.int .i64 0,txt [],u,.int .i64 0,.int .i64 0,txt [],.slice none 0 0]∧PH.le S S' ∧
    Held S' K' [bx tr 125 [mv,sv,.int .i64 (q:Int)],orow 32 acc u]∧acc.length=k∧q≤left∧Dats.cnt acc≤200∧Dats.cnt acc+q≤left ∧
    kidsW (telW mem syms f) (words.map fun w=>(w,deep+1)) left []=kidsW (telW mem syms f) ((words.drop k).map fun w=>(w,deep+1)) q acc,
   ⟨n,0,.slice none 0 0,S,[],left,by omega,rfl,zQr _,h0',rfl,Nat.le_refl _,by simp [Dats.cnt],by simp [Dats.cnt],rfl⟩,?_⟩
  rintro m vs K2 _ ⟨k,u,S2,acc,q,hkm,rfl,l2,hh,hal,hql,hcn,hcq,hkids⟩
  obtain ⟨ub,uc,hu⟩:=(hh.row (e:=32) (l:=acc) (v:=u) (by simp)).sl
  simp only [cns]
  have hwn:slLen wv=n:=by rw [hw.len,hwl]
  refine ⟨fun g8=>?_,fun g8=>?_⟩
  ·replace g8:decide ((k:Int) < (slLen wv:Int))=true:=by rw [hwv];exact g8
   rw [hwn,zdt] at g8
   have hkn:k < n:=by omega
   obtain ⟨w,hwk⟩:∃w,words[k]?=some w:=⟨_,zge (by omega)⟩
   obtain ⟨hwi,z3⟩:=rdW k w l2 hh.sh hwk
   have hdr:words.drop k=w::words.drop (k+1):=by
    rw [←List.getElem_cons_drop (by omega:k < words.length),(zgi.1 hwk).2]
   rw [hdr,List.map_cons] at hkids
   simp only [kidsW] at hkids
   refine ⟨fun _=>chkW k w hkn hwk,[.int .i64 w],rfl,z3,?_⟩
   simp only [cns]
   have hd1:arI .add .i64 deep 1=deep+1:=w64 (by omega) (by omega)
   have hcall:=ih w (deep+1) q
   rw [←hd1] at hcall
   refine z04 z37 (hh.call (J:=[bx tr 125 [mv,sv,.int .i64 (q:Int)]]) (R:=fun e S' J'=>J'=[bx tr 125 [mv,sv,.int .i64 ((telW mem syms f w (arI .add .i64 deep 1) q).2:Int)]]∧TelE (telW mem syms f w (arI .add .i64 deep 1) q).1 e S') fun K' hk'=>hcall S2 K' (hm.le l2) (hs.le l2) hwi (by rw [hd1];omega) (by rw [hd1];omega) (by omega) (by omega) hk') ?_
   rw [hd1]
   rintro _ K3 ⟨S3,J3,l3,h3',rfl,d,cs,rfl,hdr3,hx⟩
   have hfw:=hfewW w (deep+1) q
   generalize hR:telW mem syms f w (deep+1) q=R at hkids h3' hx hfw
   obtain ⟨o,q'⟩:=R
   obtain ⟨tv,rfl,r1,r2,r3,r4⟩:=Dat.Rep_iff.1 hdr3
   obtain ⟨tb,tc,rfl⟩:=SlR.sl r4
   refine ⟨_,[.int .i64 d.kind,.int .i64 d.int,txt d.text,.slice tb d.list.length tc,.bool o.isSome],rfl,rfl,rfl,z01,?_⟩
   simp only [cns]
   cases o with
   | none=>
    refine ⟨fun _=>?_,fun g9=>by simp [evs,arI,zb5] at g9⟩
    simp only [hkids] at hT
    rw [←hT]
    exact ⟨S3,_,zQt l2 l3,h3'.sub (by simp),rfl,z42 S3⟩
   | some d'=>
    obtain rfl:=hx d' rfl
    obtain ⟨f1,f2⟩:=hfw
    have f2:=f2 d rfl
    simp only at f1 f2
    have hcd:1≤d.cnt:=by have:=Dat.cnt_eq d;omega
    have hml:=Dats.cnt_le acc
    refine ⟨fun g9=>by simp [evs,arI,zb5] at g9,fun _=>?_⟩
    refine z28 (b:=56) (more:=[d]) [.agg #[.int .i64 d.kind,.int .i64 d.int,txt d.text,.slice tb d.list.length tc]] uDats z4e rfl (by decide) (by decide) (h3'.perm (List.Perm.swap _ _ _)) (by kernel_rfl) (.cons hdr3 .nil) z01 (fun w=>by kernel_rfl) (fun w=>by kernel_rfl)
     (by simp only [zlc,zln];omega) (by simp only [zlc,zln];omega) fun y v7 S7 K7 l7 h7=>⟨z01,?_⟩
    refine ⟨_,z00,m - 1,by omega,k+1,v7,S7,acc++[d],q',by omega,?_,zQt l2 (zQt l3 l7),h7.perm (List.Perm.swap _ _ _),by simp [hal],by omega,?_,?_,hkids⟩
    ·have hw:IntKind.i64.wrap ((k:Int)+1)=((k+1:Nat):Int):=by rw [w64 (by omega) (by omega)];rfl
     simp only [evs,arI,zb5,hw]
    ·rw [Dats.cnt_append];simp only [Dats.cnt];omega
    ·rw [Dats.cnt_append];simp only [Dats.cnt];omega
  ·replace g8:decide ((k:Int) < (slLen wv:Int))=false:=by rw [hwv];exact g8
   rw [hwn,zdf] at g8
   obtain rfl:k=n:=by omega
   rw [List.drop_of_length_le (by omega)] at hkids
   simp only [List.map_nil,kidsW] at hkids
   rw [hkids] at hT
   simp only at hT
   rw [←hT]
   obtain ⟨S3,s3,l3,h3'⟩:=(hh.perm (List.Perm.swap _ _ _)).freeze
   exact ⟨S3,_,zQt l2 l3,h3',rfl,.mk 7 0 [] acc,_,rfl,Dat.Rep_iff.2 ⟨_,rfl,(by decide:InI 7),(by decide:InI 0),Nat.zero_le _,s3⟩,fun x hx=>by cases hx;rfl⟩
 replace g7:decide (arI .and .i64 (arI .shr .i64 hd 3) 7=2)=false:=g7
 rw [kd,zdf] at g7
 rw [if_neg g7] at hT
 refine ⟨fun g8=>?_,fun g8=>?_⟩
 rotate_left
 ·replace g8:decide (arI .and .i64 (arI .shr .i64 hd 3) 7=1)=false:=g8
  rw [kd,zdf] at g8
  rw [if_neg (by omega)] at hT
  exact ⟨_,z00,rfl,S,left,zQr _,h,hT.symm⟩
 replace g8:decide (arI .and .i64 (arI .shr .i64 hd 3) 7=1)=true:=g8
 rw [kd,zdt] at g8
 refine ⟨fun g9=>?_,fun g9=>?_⟩
 ·simp only [ev0,ev,evV,zl6,iOf,bOf,sOf,pOf,slLen,z0d,cmpI,zb5,a3,zdt] at g9
  rw [if_neg (by omega)] at hT
  exact ⟨_,z00,rfl,S,left,zQr _,h,hT.symm⟩
 simp only [ev0,ev,evV,zl6,iOf,bOf,sOf,pOf,slLen,z0d,cmpI,zb5,a3,zdf] at g9
 have hn2:n=2:=by omega
 subst hn2
 rw [if_pos ⟨g8,rfl⟩] at hT
 have hwn:slLen wv=2:=by rw [hw.len,hwl]
 obtain ⟨wa,hwa⟩:∃w,words[0]?=some w:=⟨_,zge (by omega)⟩
 obtain ⟨wb,hwb⟩:∃w,words[1]?=some w:=⟨_,zge (by omega)⟩
 have ma:mem.getD (p+1) 0=wa:=getD_some (by rw [←hwa,hwat 0 (by omega)])
 have mb':mem.getD (p+2) 0=wb:=getD_some (by rw [←hwb,hwat 1 (by omega)])
 rw [ma,mb'] at hT
 simp only [kidsW] at hT
 obtain ⟨hwai,z3⟩:=rdW 0 wa (zQr S) h.sh hwa
 refine ⟨fun _=>chkW 0 wa (by omega) hwa,[.int .i64 wa],rfl,z3,?_⟩
 simp only [cns]
 have hd1:arI .add .i64 deep 1=deep+1:=w64 (by omega) (by omega)
 have hcall:=ih wa (deep+1) left
 rw [←hd1] at hcall
 refine z04 z37 (hcall S K1 hm hs hwai (by rw [hd1];omega) (by rw [hd1];omega) h2 h3 h) ?_
 rw [hd1]
 rintro _ K3 ⟨S3,J3,l3,h3',rfl,d,cs,rfl,hdr3,hx⟩
 have hfw:=hfewW wa (deep+1) left
 generalize hR:telW mem syms f wa (deep+1) left=R at hT h3' hx hfw
 obtain ⟨o,q'⟩:=R
 obtain ⟨tv,rfl,r1,r2,r3,r4⟩:=Dat.Rep_iff.1 hdr3
 obtain ⟨tb,tc,rfl⟩:=SlR.sl r4
 refine ⟨_,[.int .i64 d.kind,.int .i64 d.int,txt d.text,.slice tb d.list.length tc,.bool o.isSome],rfl,rfl,rfl,z01,?_⟩
 simp only [cns]
 cases o with
 | none=>
  refine ⟨fun _=>?_,fun g9=>by simp [evs,arI,zb5] at g9⟩
  exact ⟨_,z00,rfl,S3,q',l3,h3',hT.symm⟩
 | some d'=>
  obtain rfl:=hx d' rfl
  obtain ⟨f1,f2⟩:=hfw
  have f2:=f2 d rfl
  simp only at f1 f2 hT
  refine ⟨fun g9=>by simp [evs,arI,zb5] at g9,fun _=>?_⟩
  obtain ⟨hwbi,z3⟩:=rdW 1 wb l3 h3'.sh hwb
  refine ⟨fun _=>chkW 1 wb (by omega) hwb,[.int .i64 wb],rfl,z3,?_⟩
  simp only [cns]
  refine z04 z37 (ih wb deep q' S3 K3 (hm.le l3) (hs.le l3) hwbi h0 (by omega) (by omega) (by omega) h3') ?_
  rintro _ K4 ⟨S4,J4,l4,h4',rfl,d2,cs,rfl,hdr4,hx⟩
  have hfw:=hfewW wb deep q'
  generalize hR2:telW mem syms f wb deep q'=R at hT h4' hx hfw
  obtain ⟨o,q2⟩:=R
  obtain ⟨tv2,rfl,p1,p2,p3,p4⟩:=Dat.Rep_iff.1 hdr4
  obtain ⟨tb2,tc2,rfl⟩:=SlR.sl p4
  refine ⟨_,[.int .i64 d2.kind,.int .i64 d2.int,txt d2.text,.slice tb2 d2.list.length tc2,.bool o.isSome],rfl,rfl,rfl,z01,?_⟩
  simp only [cns]
  cases o with
  | none=>
   refine ⟨fun _=>?_,fun g9=>by simp [evs,arI,zb5] at g9⟩
   exact ⟨_,z00,rfl,S4,q2,zQt l3 l4,h4',hT.symm⟩
  | some d'=>
   obtain rfl:=hx d' rfl
   obtain ⟨e1,e2⟩:=hfw
   have e2:=e2 d2 rfl
   simp only at e1 e2 hT
   refine ⟨fun g9=>by simp [evs,arI,zb5] at g9,fun _=>?_⟩
   refine z12 (α:=Dat) (l:=[d]) (b:=56) [.agg #[.int .i64 d.kind,.int .i64 d.int,txt d.text,.slice tb d.list.length tc]] uDats z4e rfl (by decide) (by decide) h4' (by kernel_rfl) (.cons (Dat.Rep.le l4 d hdr3) .nil) z01 fun v5 K5 h5 _ _=>?_
   obtain ⟨S5,s5,l5,h5⟩:=h5.freeze
   simp only [cns]
   refine z04 Z0l (h5.pure (R:=fun x S'=>∃cs,x=.returned (.agg cs.toArray)∧(makeD [d] d2).Rep S' cs) ((Z46 [d] d2 v5 _ S5 s5 (Dat.Rep.le l5 d2 hdr4) (by simp only [Dats.cnt];omega) (by omega)).mono fun x S' ⟨cs,q1,q2,q3⟩=>⟨q2,cs,q1,q3⟩)) ?_
   rintro _ K6 ⟨S6,l6,h6,cs,rfl,hd6⟩
   obtain ⟨tv6,rfl,u1,u2,u3,u4⟩:=Dat.Rep_iff.1 hd6
   obtain ⟨tb6,tc6,rfl⟩:=SlR.sl u4
   refine ⟨_,[.int .i64 (makeD [d] d2).kind,.int .i64 (makeD [d] d2).int,txt (makeD [d] d2).text,.slice tb6 (makeD [d] d2).list.length tc6],rfl,rfl,rfl,z01,?_⟩
   rw [←hT]
   exact ⟨S6,_,zQt l3 (zQt l4 (zQt l5 l6)),h6,rfl,makeD [d] d2,_,rfl,hd6,fun x hx=>by cases hx;rfl⟩
theorem zws {mem:List Int} {syms:List (List UInt8)} {f:Nat} {w deep:Int} {left:Nat} (h:¬(left=0∨32 < deep)):telW mem syms (f+1) w deep left=if w % 8=0 then (some (.mk 1 (w / 8) [] []),left - 1)
  else if w % 8=2 then (conX (w / 8),left - 1)
  else if w % 8=3 then (if 0≤w / 8 then (syms[(w / 8).toNat]?).map fun s=>.mk 4 0 s [] else none,left - 1)
  else if w % 8=1∧0≤w / 8∧w / 8 < mem.length∧mem.getD (w / 8).toNat 0 % 8=7 then thgW (telW mem syms f) mem (w / 8).toNat deep (left - 1)
  else (none,left - 1):=by rw [telW,if_neg h]
set_option maxHeartbeats 2000000 in
theorem Z0u {mem:List Int} {syms:List (List UInt8)} {mv sv:Value} {tr:Nat} (hfew:mem.length≤140737488355328):∀f,Z9q mem syms mv sv tr f
 | 0=>by
  intro w deep left S K hm hs hw h0 h1 h2 h3 h
  refine z8d [pAt tr,.int .i64 w,.int .i64 deep] (by kernel_rfl) (by kernel_rfl) ?_
  refine ⟨fun _=>rfl,[.int .i64 (left:Int)],rfl,z1a h (zms) 2 1,fun g=>?_,fun g=>?_⟩
  ·obtain rfl:left=0:=by omega
   exact ⟨S,_,zQr _,h,rfl,z42 S⟩
  ·simp only [evs,arI,zb5] at g
   simp only [zof,zdf] at g
   omega
 | f+1=>by
  have ih:=Z0u (syms:=syms) (sv:=sv) (mv:=mv) (tr:=tr) hfew f
  intro w deep left S K hm hs hw h0 h1 h2 h3 h
  have hmx:maxLen=9223372036854775807:=rfl
  obtain ⟨hw1,hw2⟩:=hw
  obtain ⟨mb,mc,hmv⟩:=hm.sl
  obtain ⟨sb,sc,hsv⟩:=hs.sl
  have hml:=hm.max
  have hsl:=hs.max
  generalize hT:telW mem syms (f+1) w deep left=T
  refine z8d [pAt tr,.int .i64 w,.int .i64 deep] (by kernel_rfl) (by kernel_rfl) ?_
  have row:∀{S' K':PH} {n:Int} {I:List Itm} (a k:Nat),Held S' K' (bx tr 125 [mv,sv,.int .i64 n]::I)→rowAt K' (some ⟨tr,a,none⟩) ((([mv,sv,.int .i64 n]:List Value).drop a).take k):=fun a k hh=>z1a hh (zms) a k
  refine ⟨fun _=>rfl,[.int .i64 (left:Int)],rfl,row 2 1 h,fun g=>?_,fun g=>?_⟩
  ·simp only [evs,arI,zb5] at g
   simp only [Bool.or_eq_true,zdt] at g
   rw [telW,if_pos (by omega)] at hT
   rw [←hT]
   exact ⟨S,_,zQr _,h,rfl,z42 S⟩
  simp only [evs,arI,zb5] at g
  simp only [zof,zdf] at g
  have hl0:left≠0:=by omega
  rw [zws (by omega)] at hT
  simp only [cns]
  have hlw:IntKind.i64.wrap ((left:Int) - 1)=((left - 1:Nat):Int):=by rw [w64 (by omega) (by omega)];omega
  refine ⟨[.int .i64 (left:Int)],rfl,row 2 1 h,?_⟩
  simp only [cns]
  refine z0e (off:=2) (vs:=[.int .i64 ((left - 1:Nat):Int)]) rfl h (by simp only [evs,arI,zb5,hlw]) (by simp [oneC]) (by simp) fun K1 h1'=>?_
  have h1'':Held S K1 [bx tr 125 [mv,sv,.int .i64 ((left - 1:Nat):Int)]]:=h1'
  clear h1'
  refine ⟨fun vs K'=>vs=[]∧K'=K1∧T=(none,left - 1),?_,?_⟩
  ·rintro vs K' _ ⟨rfl,rfl,rfl⟩
   exact ⟨S,_,zQr _,h1'',rfl,z42 S⟩
  have e7:=and_7 w
  have e3:=shr_3 w
  refine ⟨fun g2=>?_,fun g2=>?_⟩
  ·replace g2:decide (arI .and .i64 w 7=0)=true:=g2
   rw [e7,zdt] at g2
   rw [if_pos g2] at hT
   rw [←hT]
   refine ⟨S,_,zQr _,h1'',rfl,?_⟩
   rw [←e3]
   exact z2v (k:=1) (t:=[]) (by decide) (by rw [e3];exact ⟨by omega,by omega⟩) (by decide)
  replace g2:decide (arI .and .i64 w 7=0)=false:=g2
  rw [e7,zdf] at g2
  rw [if_neg g2] at hT
  refine ⟨fun g3=>?_,fun g3=>?_⟩
  ·replace g3:decide (arI .and .i64 w 7=2)=true:=g3
   rw [e7,zdt] at g3
   rw [if_pos g3] at hT
   rw [←hT]
   have hc:=zt2 (w / 8) ⟨by omega,by omega⟩ (by omega) S
   rw [←e3] at hc ⊢
   refine z04 zd0 (h1''.pure (R:=fun x _=>∃d:Dat,d.list=[]∧DSm d∧x=.returned (.tuple #[.agg (bareV d).toArray,.bool (conX (arI .shr .i64 w 3)).isSome])∧∀y,conX (arI .shr .i64 w 3)=some y→d=y) hc) ?_
   rintro _ K2 ⟨S2,l2,h2',d,hdl,hkd,rfl,hd⟩
   refine ⟨_,bareV d++[.bool (conX (arI .shr .i64 w 3)).isSome],rfl,rfl,rfl,z01,?_⟩
   by_cases hsome:(conX (arI .shr .i64 w 3)).isSome=true
   ·obtain ⟨y,hy⟩:=Option.isSome_iff_exists.1 hsome
    obtain rfl:=hd y hy
    have hdr:d.Rep S2 (bareV d):=by
     obtain ⟨k,i,t,l⟩:=d
     simp only [Dat.list] at hdl
     subst hdl
     exact z3f hkd.1 hkd.2.1 hkd.2.2
    exact ⟨S2,_,l2,h2',rfl,d,_,rfl,hdr,fun x hx=>by rw [hy] at hx;cases hx;rfl⟩
   ·have hn:conX (arI .shr .i64 w 3)=none:=by simpa using hsome
    rw [hn]
    refine ⟨S2,_,l2,h2',rfl,.mk d.kind d.int d.text [],bareV d,rfl,z3f hkd.1 hkd.2.1 hkd.2.2,fun x hx=>by cases hx⟩
  replace g3:decide (arI .and .i64 w 7=2)=false:=g3
  rw [e7,zdf] at g3
  rw [if_neg g3] at hT
  refine ⟨fun g4=>?_,fun g4=>?_⟩
  ·replace g4:decide (arI .and .i64 w 7=3)=true:=g4
   rw [e7,zdt] at g4
   rw [if_pos g4] at hT
   refine ⟨fun vs K'=>vs=[.bool (decide (0≤w / 8∧w / 8 < syms.length))]∧K'=K1,?_,fun g5=>?_,fun g5=>?_⟩
   rotate_left
   ·replace g5:decide (arI .shr .i64 w 3 ≥ 0)=true:=g5
    rw [e3,zdt] at g5
    refine ⟨[sv],by rw [hsv];rfl,row 1 1 h1'',_,z00,?_,rfl⟩
    have:decide (arI .shr .i64 w 3 < (slLen sv:Int))=decide (0≤w / 8∧w / 8 < syms.length):=by
     rw [e3,hs.len,decide_eq_decide];omega
    rw [←this];rfl
   ·replace g5:decide (arI .shr .i64 w 3 ≥ 0)=false:=g5
    rw [e3,zdf] at g5
    refine ⟨_,z00,?_,rfl⟩
    have:decide (0≤w / 8∧w / 8 < syms.length)=false:=by rw [zdf];omega
    rw [this];rfl
   rintro vs K' _ ⟨rfl,rfl⟩
   simp only [cns]
   refine ⟨fun g5=>?_,fun g5=>?_⟩
   ·simp only [evs,arI,zb5,zdt] at g5
    obtain ⟨n,hn⟩:∃n:Nat,w / 8=(n:Int):=⟨(w / 8).toNat,by omega⟩
    obtain ⟨s,hsn⟩:∃s,syms[n]?=some s:=⟨_,zge (by omega)⟩
    obtain ⟨z1,_,cs,z2,z3⟩:=hs.get hsn
    obtain ⟨tv,rest,rfl,tq,rfl⟩:=z2
    rw [za0] at tq
    obtain ⟨rfl,htl⟩:=tq
    rw [if_pos (by omega),hn,Int.toNat_natCast,hsn] at hT
    refine ⟨[sv],by rw [hsv];rfl,row 1 1 h1'',fun _=>?_,[txt s],rfl,?_,?_⟩
    ·show (z0d sv).isSome=true∧0≤arI .shr .i64 w 3∧arI .shr .i64 w 3 < (slLen sv:Int)
     rw [e3,hs.len];exact ⟨z1,by omega,by omega⟩
    ·show rowAt K' (pOf (eltV sv (arI .shr .i64 w 3) 1)) _
     rw [e3,hn];exact z0u h1''.sh z3
    rw [←hT]
    exact ⟨S,_,zQr _,h1'',rfl,z2v (k:=4) (n:=0) (by decide) (by decide) htl⟩
   ·simp only [evs,arI,zb5,zdf] at g5
    refine ⟨_,z00,rfl,rfl,?_⟩
    rw [←hT]
    split
    ·rw [List.getElem?_eq_none (by omega)];rfl
    ·rfl
  replace g4:decide (arI .and .i64 w 7=3)=false:=g4
  rw [e7,zdf] at g4
  rw [if_neg g4] at hT
  refine ⟨fun g5=>?_,fun g5=>?_⟩
  rotate_left
  ·replace g5:decide (arI .and .i64 w 7=1)=false:=g5
   rw [e7,zdf] at g5
   rw [if_neg (by omega)] at hT
   exact ⟨_,z00,rfl,rfl,hT.symm⟩
  replace g5:decide (arI .and .i64 w 7=1)=true:=g5
  rw [e7,zdt] at g5
  refine ⟨fun vs K'=>vs=[.bool (decide (0≤w / 8∧w / 8 < mem.length∧mem.getD (w / 8).toNat 0 % 8=7))]∧K'=K1,?_,fun g6=>?_,fun g6=>?_⟩
  rotate_left
  ·replace g6:decide (arI .shr .i64 w 3 ≥ 0)=true:=g6
   rw [e3,zdt] at g6
   obtain ⟨n,hn⟩:∃n:Nat,w / 8=(n:Int):=⟨(w / 8).toNat,by omega⟩
   refine ⟨[mv],by rw [hmv];rfl,row 0 1 h1'',fun g7=>?_,fun g7=>?_⟩
   ·replace g7:decide (arI .shr .i64 w 3 < (slLen mv:Int))=true:=g7
    rw [e3,hm.len,zdt] at g7
    obtain ⟨hd,hhd⟩:∃s,mem[n]?=some s:=⟨_,zge (by omega)⟩
    obtain ⟨z1,_,cs,z2,z3⟩:=hm.get hhd
    obtain ⟨rfl,_⟩:=csIK z2
    refine ⟨[mv],by rw [hmv];rfl,row 0 1 h1'',fun _=>?_,[.int .i64 hd],rfl,?_,_,z00,?_,rfl⟩
    ·show (z0d mv).isSome=true∧0≤arI .shr .i64 w 3∧arI .shr .i64 w 3 < (slLen mv:Int)
     rw [e3,hm.len];exact ⟨z1,by omega,by omega⟩
    ·show rowAt K1 (pOf (eltV mv (arI .shr .i64 w 3) 1)) _
     rw [e3,hn];exact z0u h1''.sh z3
    ·have:decide (arI .and .i64 hd 7=7)=decide (0≤w / 8∧w / 8 < mem.length∧mem.getD (w / 8).toNat 0 % 8=7):=by
      rw [and_7,decide_eq_decide,hn,Int.toNat_natCast,getD_some hhd];omega
     rw [←this];rfl
   ·replace g7:decide (arI .shr .i64 w 3 < (slLen mv:Int))=false:=g7
    rw [e3,hm.len,zdf] at g7
    refine ⟨_,z00,?_,rfl⟩
    have:decide (0≤w / 8∧w / 8 < mem.length∧mem.getD (w / 8).toNat 0 % 8=7)=false:=by rw [zdf];omega
    rw [this];rfl
  ·replace g6:decide (arI .shr .i64 w 3 ≥ 0)=false:=g6
   rw [e3,zdf] at g6
   refine ⟨_,z00,?_,rfl⟩
   have:decide (0≤w / 8∧w / 8 < mem.length∧mem.getD (w / 8).toNat 0 % 8=7)=false:=by rw [zdf];omega
   rw [this];rfl
  rintro vs K' _ ⟨rfl,rfl⟩
  simp only [cns]
  refine ⟨fun g6=>?_,fun g6=>?_⟩
  ·simp only [evs,arI,zb5,zdt] at g6
   rw [if_pos ⟨g5,g6⟩] at hT
   obtain ⟨n,hn⟩:∃n:Nat,w / 8=(n:Int):=⟨(w / 8).toNat,by omega⟩
   rw [hn,Int.toNat_natCast] at hT
   have hth:=Z5y ih hfew n (by omega) deep (left - 1) S K' hm hs h0 (by omega) (by omega) (by omega) h1''
   rw [←hn,←e3] at hth
   refine z04 zih hth ?_
   rw [hT]
   rintro _ K2 ⟨S2,J2,l2,h2',rfl,d,cs,rfl,hdr,hx⟩
   obtain ⟨tv,rfl,r1,r2,r3,r4⟩:=Dat.Rep_iff.1 hdr
   obtain ⟨tb,tc,rfl⟩:=SlR.sl r4
   refine ⟨_,[.int .i64 d.kind,.int .i64 d.int,txt d.text,.slice tb d.list.length tc,.bool T.1.isSome],rfl,rfl,rfl,z01,?_⟩
   exact ⟨S2,_,l2,h2',rfl,d,_,rfl,hdr,hx⟩
  ·simp only [evs,arI,zb5,zdf] at g6
   rw [if_neg (fun h=>g6 h.2)] at hT
   exact ⟨_,z00,rfl,rfl,hT.symm⟩
end Go.Proofs.YtfkclejklgoccaaGreat.Vc
namespace Go.Proofs.YtfkclejklgoccaaGreat.Vc
open Go Go.ChangeShapes Go.WideShapes Go.ChangeAt Go.RowKit
theorem zvo:Tryz.prog.underlying 24=some (.slice 9):=by kernel_rfl
theorem Za8 {H:Type} {enc:TypeId×Value→H} {w:World} {v:Value} {d:DataW H} {p:List MemPlace} {r:_root_.Go.Reach} {b:Nat} (hval:Value.okWide Tryz.prog w r b 24 v) (h:DataW.Trod enc Tryz.prog w 0 (fun _=>true) true 24 v d p) :
  ∃l:List (List UInt8),SlR (whole w) l v:=by
 obtain ⟨a,len,cap,rfl⟩:=okWide_slice zvo hval
 obtain ⟨fuel,h⟩:=h
 obtain ⟨l,v,e,h1,h2⟩:=zos (α:=List UInt8) zvo cStr (fun j _=>Za4 z8g j) h
 have:v=.slice a len cap:=by simpa [Value.cells] using e.symm
 subst this
 exact ⟨l,h1⟩
theorem Zbn:ElemOk Tryz.prog 9 1 16=true:=by kernel_rfl
theorem zzy {H:PH} {l:List UInt8} (h:l.length≤maxLen):CsR H l (txt l).cells.toList:=⟨_,_,rfl,⟨rfl,h⟩,rfl⟩
def names3:List (List UInt8):=[[118,111,105,100],[101,111,102],[117,110,115,101,116]]
def wrdW (syms:List (List UInt8)) (w:Int):Option Dat:=
 if w % 8=0 then some (.mk 1 (w / 8) [] [])
 else if w % 8=2 then conX (w / 8)
 else if w % 8=3 then (if 0≤w / 8 then (syms[(w / 8).toNat]?).map fun s=>.mk 4 0 s [] else none)
 else none
set_option maxHeartbeats 1000000 in
theorem zvy (syms:List (List UInt8)) (sv:Value) (w:Int) (hw:InI w) (H:PH) (hs:SlR H syms sv):Tri Tryz.prog zh0 #[.int .i64 w,sv] H fun e H'=>PH.le H H'∧TelE (wrdW syms w) e H':=by
 obtain ⟨hw1,hw2⟩:=hw
 have hmx:maxLen=9223372036854775807:=rfl
 have hsl:=hs.max
 have hs0:=hs
 obtain ⟨sb,sc,rfl⟩:=hs.sl
 have e7:=and_7 w
 have e3:=shr_3 w
 generalize hT:wrdW syms w=T
 unfold wrdW at hT
 refine zeh [.int .i64 w,.slice sb syms.length sc] (by kernel_rfl) (by kernel_rfl) ?_
 refine Ze6 (l:=names3) (b:=16) (names3.map txt) zvo Zbn rfl (by decide) (by decide) (by kernel_rfl) ?_ z01 fun nv H1 a1 l1 _=>?_
 ·exact .cons (zzy (by decide)) (.cons (zzy (by decide)) (.cons (zzy (by decide)) .nil))
 simp only [cns]
 refine ⟨fun vs K=>vs=[]∧H1=K∧T=none,?_,fun g=>?_,fun g=>?_⟩
 ·rintro vs K _ ⟨rfl,rfl,rfl⟩
  exact ⟨l1,z42 H1⟩
 ·replace g:decide (arI .and .i64 w 7=0)=true:=g
  rw [e7,zdt] at g
  rw [if_pos g] at hT
  rw [←hT,←e3]
  exact ⟨l1,z2v (k:=1) (t:=[]) (by decide) (by rw [e3];exact ⟨by omega,by omega⟩) (by decide)⟩
 replace g:decide (arI .and .i64 w 7=0)=false:=g
 rw [e7,zdf] at g
 rw [if_neg g] at hT
 refine ⟨fun g2=>?_,fun g2=>?_⟩
 ·replace g2:decide (arI .and .i64 w 7=3)=true:=g2
  rw [e7,zdt] at g2
  rw [if_neg (by omega),if_pos g2] at hT
  refine ⟨fun g3=>?_,fun g3=>?_⟩
  ·replace g3:bOf (if decide (arI .shr .i64 w 3 < 0)=true then .bool true else .bool (decide (arI .shr .i64 w 3 ≥ (syms.length:Int))))=true:=g3
   rw [e3] at g3
   have:T=none:=by
    rw [←hT]
    by_cases h0:w / 8 < 0
    ·rw [if_neg (by omega)]
    ·simp [bOf,h0] at g3
     rw [if_pos (by omega),List.getElem?_eq_none (by omega)];rfl
   rw [this]
   exact ⟨l1,z42 H1⟩
  ·replace g3:bOf (if decide (arI .shr .i64 w 3 < 0)=true then .bool true else .bool (decide (arI .shr .i64 w 3 ≥ (syms.length:Int))))=false:=g3
   rw [e3] at g3
   have g4:0≤w / 8∧w / 8 < syms.length:=by
    by_cases h0:w / 8 < 0
    ·simp [bOf,h0] at g3
    ·simp [bOf,h0] at g3;omega
   obtain ⟨n,hn⟩:∃n:Nat,w / 8=(n:Int):=⟨(w / 8).toNat,by omega⟩
   obtain ⟨s,hsn⟩:∃s,syms[n]?=some s:=⟨_,zge (by omega)⟩
   obtain ⟨z1,_,cs,z2,z3⟩:=hs0.get hsn
   obtain ⟨tv,rest,rfl,tq,rfl⟩:=z2
   rw [za0] at tq
   obtain ⟨rfl,htl⟩:=tq
   rw [if_pos (by omega),hn,Int.toNat_natCast,hsn] at hT
   refine ⟨fun _=>?_,[txt s],rfl,?_,?_⟩
   ·show sb.isSome=true∧0≤arI .shr .i64 w 3∧arI .shr .i64 w 3 < (syms.length:Int)
    rw [e3];exact ⟨z1,by omega,by omega⟩
   ·show rowAt H1 (pOf (eltV (.slice sb syms.length sc) (arI .shr .i64 w 3) 1)) _
    rw [e3,hn];exact z0u l1 z3
   rw [←hT]
   exact ⟨l1,z2v (k:=4) (n:=0) (by decide) (by decide) htl⟩
 replace g2:decide (arI .and .i64 w 7=3)=false:=g2
 rw [e7,zdf] at g2
 rw [if_neg g2] at hT
 refine ⟨fun g3=>?_,fun g3=>?_⟩
 rotate_left
 ·replace g3:decide (arI .and .i64 w 7=2)=false:=g3
  rw [e7,zdf] at g3
  rw [if_neg g3] at hT
  exact ⟨_,z00,rfl,rfl,hT.symm⟩
 replace g3:decide (arI .and .i64 w 7=2)=true:=g3
 rw [e7,zdt] at g3
 rw [if_pos g3] at hT
 unfold conX at hT
 have wi:InI (w / 8):=⟨by omega,by omega⟩
 refine ⟨fun g4=>?_,fun g4=>?_⟩
 ·replace g4:bOf (if decide (arI .shr .i64 w 3=0)=true then .bool true else .bool (decide (arI .shr .i64 w 3=1)))=true:=g4
  rw [e3] at g4
  have g5:w / 8=0∨w / 8=1:=by
   by_cases h0:w / 8=0
   ·exact .inl h0
   ·simp [bOf,h0] at g4;exact .inr g4
  rw [if_pos g5] at hT
  rw [←hT,←e3]
  exact ⟨l1,z2v (k:=0) (t:=[]) (by decide) (by rw [e3];exact wi) (by decide)⟩
 replace g4:bOf (if decide (arI .shr .i64 w 3=0)=true then .bool true else .bool (decide (arI .shr .i64 w 3=1)))=false:=g4
 rw [e3] at g4
 have g5:¬(w / 8=0∨w / 8=1):=by
  by_cases h0:w / 8=0
  ·simp [bOf,h0] at g4
  ·simpa [bOf,h0] using g4
 rw [if_neg g5] at hT
 refine ⟨fun g6=>?_,fun g6=>?_⟩
 ·replace g6:decide (arI .shr .i64 w 3=2)=true:=g6
  rw [e3,zdt] at g6
  rw [if_pos g6] at hT
  rw [←hT]
  exact ⟨l1,z2v (k:=5) (n:=0) (t:=[]) (by decide) (by decide) (by decide)⟩
 replace g6:decide (arI .shr .i64 w 3=2)=false:=g6
 rw [e3,zdf] at g6
 rw [if_neg g6] at hT
 refine ⟨fun g7=>?_,fun g7=>?_⟩
 ·replace g7:bOf (if decide (arI .shr .i64 w 3 ≥ 3)=true then .bool (decide (arI .shr .i64 w 3≤5)) else .bool false)=true:=g7
  rw [e3] at g7
  have g8:3≤w / 8∧w / 8≤5:=by
   by_cases h0:3≤w / 8
   ·simp [bOf,h0] at g7;exact ⟨h0,g7⟩
   ·simp [bOf,h0] at g7
  obtain ⟨k,hk,s,hks,hsl,hTs⟩:∃k:Nat,w / 8 - 3=(k:Int)∧∃s,names3[k]?=some s∧s.length≤maxLen∧T=some (.mk 4 0 s []):=by
   rcases (show w / 8=3∨w / 8=4∨w / 8=5 by omega) with h | h | h
   ·exact ⟨0,by omega,_,rfl,by decide,by rw [←hT,if_pos h]⟩
   ·exact ⟨1,by omega,_,rfl,by decide,by rw [←hT,if_neg (by omega),if_pos h]⟩
   ·exact ⟨2,by omega,_,rfl,by decide,by rw [←hT,if_neg (by omega),if_neg (by omega),if_pos h]⟩
  have hsl:=a1.slR
  obtain ⟨nb,nc,rfl⟩:=hsl.sl
  obtain ⟨x1,_,cs,x2,x3⟩:=hsl.get hks
  obtain ⟨tv,rest,rfl,tq,rfl⟩:=x2
  rw [za0] at tq
  obtain ⟨rfl,htl⟩:=tq
  have e4:arI .sub .i64 (arI .shr .i64 w 3) 3=w / 8 - 3:=by rw [e3];exact w64 (by omega) (by omega)
  refine ⟨fun _=>?_,[txt s],rfl,?_,?_⟩
  ·show nb.isSome=true∧0≤arI .sub .i64 (arI .shr .i64 w 3) 3∧arI .sub .i64 (arI .shr .i64 w 3) 3 < ((names3.length:Nat):Int)
   rw [e4];exact ⟨x1,by omega,by show _ < (3:Int);omega⟩
  ·show rowAt H1 (pOf (eltV (.slice nb names3.length nc) (arI .sub .i64 (arI .shr .i64 w 3) 3) 1)) _
   rw [e4,hk];exact x3
  rw [hTs]
  exact ⟨l1,z2v (k:=4) (n:=0) (by decide) (by decide) htl⟩
 replace g7:bOf (if decide (arI .shr .i64 w 3 ≥ 3)=true then .bool (decide (arI .shr .i64 w 3≤5)) else .bool false)=false:=g7
 rw [e3] at g7
 have g8:¬(3≤w / 8∧w / 8≤5):=by
  by_cases h0:3≤w / 8
  ·simp [bOf,h0] at g7;omega
  ·omega
 rw [if_neg (by omega),if_neg (by omega),if_neg (by omega)] at hT
 refine ⟨fun g9=>?_,fun g9=>?_⟩
 ·replace g9:bOf (if decide (arI .shr .i64 w 3 ≥ 256)=true then .bool (decide (arI .shr .i64 w 3≤511)) else .bool false)=true:=g9
  rw [e3] at g9
  have g10:256≤w / 8∧w / 8≤511:=by
   by_cases h0:256≤w / 8
   ·simp [bOf,h0] at g9;exact ⟨h0,g9⟩
   ·simp [bOf,h0] at g9
  rw [if_pos g10] at hT
  have e4:arI .sub .i64 (arI .shr .i64 w 3) 256=w / 8 - 256:=by rw [e3];exact w64 (by omega) (by omega)
  rw [←hT,←e4]
  exact ⟨l1,z2v (k:=2) (t:=[]) (by decide) (by rw [e4];exact ⟨by omega,by omega⟩) (by decide)⟩
 ·replace g9:bOf (if decide (arI .shr .i64 w 3 ≥ 256)=true then .bool (decide (arI .shr .i64 w 3≤511)) else .bool false)=false:=g9
  rw [e3] at g9
  have g10:¬(256≤w / 8∧w / 8≤511):=by
   by_cases h0:256≤w / 8
   ·simp [bOf,h0] at g9;omega
   ·omega
  rw [if_neg g10] at hT
  exact ⟨_,z00,rfl,rfl,hT.symm⟩
def TelR (r:Option Dat×Nat) (e:Ending) (S:PH):Prop:=∃(d:Dat) (cs:List Value),e=.returned (.tuple #[.agg cs.toArray,.int .i64 (200 - (r.2:Int)),.bool r.1.isSome])∧d.Rep S cs∧∀x,r.1=some x→d=x
theorem z7t {q:Nat} {n:Int} (S:PH) (h:n=200 - (q:Int)):TelR (none,q) (.returned (.tuple #[.agg #[.int .i64 0,.int .i64 0,txt [],.slice none 0 0],.int .i64 n,.bool false])) S:=
 ⟨.mk 0 0 [] [],_,by rw [h];rfl,z3f (by decide) (by decide) (by decide),fun x h=>by cases h⟩
theorem zm5 {k i:Int} {t:List UInt8} {q:Nat} {n:Int} {S:PH} (hk:InI k) (hn:InI i) (ht:t.length≤maxLen) (h:n=200 - (q:Int)):TelR (some (.mk k i t []),q) (.returned (.tuple #[.agg #[.int .i64 k,.int .i64 i,txt t,.slice none 0 0],.int .i64 n,.bool true])) S:=
 ⟨.mk k i t [],_,by rw [h];rfl,z3f hk hn ht,fun x h=>by cases h;rfl⟩
def Zd7 (mem:List Int) (syms:List (List UInt8)) (mv sv:Value) (f:Nat):Prop:=∀(w deep:Int) (left:Nat) (H:PH),SlR H mem mv→SlR H syms sv→InI w→0≤deep→deep≤33→left≤200→left≤f →
 Tri Tryz.prog z83 #[mv,.int .i64 w,sv,.int .i64 deep,.int .i64 (200 - (left:Int))] H fun e H'=>PH.le H H'∧TelR (telW mem syms f w deep left) e H'
def downW (kind deep:Int) (k:Nat):Int:=if kind=1∧k=1 then deep else deep+1
theorem Zeb {α:Type} {l:List α} (h:l.length=2):∃a b,l=[a,b]:=by
 match l,h with
 | [a,b],_=>exact ⟨a,b,rfl⟩
set_option maxHeartbeats 4000000 in
theorem Z22 {mem:List Int} {syms:List (List UInt8)} {mv sv:Value} (hfew:mem.length≤140737488355328):∀f,Zd7 mem syms mv sv f
 | 0=>by
  intro w deep left H hm hs hw h0 h1 h2 h3
  obtain ⟨mb,mc,rfl⟩:=hm.sl
  obtain ⟨sb,sc,rfl⟩:=hs.sl
  refine z67 [.slice mb mem.length mc,.int .i64 w,.slice sb syms.length sc,.int .i64 deep,.int .i64 (200 - (left:Int))] (by kernel_rfl) (by kernel_rfl) ?_
  refine ⟨fun g=>⟨zQr _,z7t H rfl⟩,fun g=>?_⟩
  simp only [evs,arI,zb5] at g
  simp only [zof,zdf,ge_iff_le] at g
  omega
 | f+1=>by
  have ih:=Z22 (syms:=syms) (sv:=sv) (mv:=mv) hfew f
  intro w deep left H hm hs hw h0 h1 h2 h3
  have hmx:maxLen=9223372036854775807:=rfl
  have hfewW:=zqo mem syms f
  have hw':=hw
  obtain ⟨hw1,hw2⟩:=hw
  have hml:=hm.max
  have hm0:=hm
  have hs0:=hs
  obtain ⟨mb,mc,hmv⟩:=hm.sl
  obtain ⟨sb,sc,hsv⟩:=hs.sl
  have e7:=and_7 w
  have e3:=shr_3 w
  generalize hT:telW mem syms (f+1) w deep left=T
  subst hmv hsv
  refine z67 [.slice mb mem.length mc,.int .i64 w,.slice sb syms.length sc,.int .i64 deep,.int .i64 (200 - (left:Int))] (by kernel_rfl) (by kernel_rfl) ?_
  refine ⟨fun g=>?_,fun g=>?_⟩
  ·simp only [evs,arI,zb5] at g
   simp only [Bool.or_eq_true,zdt,ge_iff_le,gt_iff_lt] at g
   rw [telW,if_pos (by omega)] at hT
   rw [←hT]
   exact ⟨zQr _,z7t H rfl⟩
  simp only [evs,arI,zb5] at g
  simp only [zof,zdf,ge_iff_le,gt_iff_lt] at g
  rw [zws (by omega)] at hT
  have hlw:arI .add .i64 (200 - (left:Int)) 1=200 - ((left - 1:Nat):Int):=by show IntKind.i64.wrap _=_;rw [w64 (by omega) (by omega)];omega
  refine ⟨fun g2=>?_,fun g2=>?_⟩
  ·simp only [ev0,ev,evV,zl6,iOf,bOf,sOf,pOf,slLen,z0d,cmpI,zb5,e7,zdt] at g2
   have hT':(wrdW syms w,left - 1)=T:=by
    rw [←hT];unfold wrdW
    by_cases c0:w % 8=0
    ·rw [if_pos c0,if_pos c0]
    rw [if_neg c0,if_neg c0]
    by_cases c2:w % 8=2
    ·rw [if_pos c2,if_pos c2]
    rw [if_neg c2,if_neg c2]
    by_cases c3:w % 8=3
    ·rw [if_pos c3,if_pos c3]
    rw [if_neg c3,if_neg c3,if_neg (fun h=>g2 h.1)]
   rw [←hT']
   refine z04 z79 (zvy syms _ w hw' H hs0) ?_
   rintro _ H2 ⟨l2,d,cs,rfl,hdr,hx⟩
   obtain ⟨tv,rfl,r1,r2,r3,r4⟩:=Dat.Rep_iff.1 hdr
   obtain ⟨tb,tc,rfl⟩:=SlR.sl r4
   refine ⟨_,[.int .i64 d.kind,.int .i64 d.int,txt d.text,.slice tb d.list.length tc,.bool (wrdW syms w).isSome],rfl,rfl,rfl,z01,?_⟩
   refine ⟨l2,d,_,?_,hdr,hx⟩
   rw [←hlw];rfl
  simp only [ev0,ev,evV,zl6,iOf,bOf,sOf,pOf,slLen,z0d,cmpI,zb5,e7,zdf] at g2
  have g2:w % 8=1:=Classical.byContradiction g2
  rw [if_neg (by omega),if_neg (by omega),if_neg (by omega)] at hT
  refine ⟨fun vs K=>vs=[.bool (!decide (0≤w / 8∧w / 8 < mem.length∧mem.getD (w / 8).toNat 0 % 8=7))]∧H=K,?_,fun hg=>?_,fun g3=>?_,fun g3=>?_⟩
  rotate_left
  ·have h':bOf (if decide (arI .shr .i64 w 3 < 0)=true then .bool true else .bool (decide (arI .shr .i64 w 3 ≥ (mem.length:Int))))=false:=hg _ (List.mem_singleton_self _)
   rw [e3] at h'
   have h'':0≤w / 8∧w / 8 < mem.length:=by
    by_cases c:w / 8 < 0
    ·simp [bOf,c] at h'
    ·simp [bOf,c] at h';omega
   obtain ⟨n,hn⟩:∃n:Nat,w / 8=(n:Int):=⟨(w / 8).toNat,by omega⟩
   obtain ⟨z1,_⟩:=hm0.get (i:=n) (zge (by omega))
   show mb.isSome=true∧0≤arI .shr .i64 w 3∧arI .shr .i64 w 3 < ((mem.length:Nat):Int)
   rw [e3];exact ⟨z1,by omega,by omega⟩
  ·replace g3:bOf (if decide (arI .shr .i64 w 3 < 0)=true then .bool true else .bool (decide (arI .shr .i64 w 3 ≥ (mem.length:Int))))=true:=g3
   rw [e3] at g3
   have h'':¬(0≤w / 8∧w / 8 < mem.length∧mem.getD (w / 8).toNat 0 % 8=7):=by
    by_cases c:w / 8 < 0
    ·omega
    ·simp [bOf,c] at g3;omega
   exact ⟨_,z00,by rw [decide_eq_false h''];rfl,rfl⟩
  ·replace g3:bOf (if decide (arI .shr .i64 w 3 < 0)=true then .bool true else .bool (decide (arI .shr .i64 w 3 ≥ (mem.length:Int))))=false:=g3
   rw [e3] at g3
   have h'':0≤w / 8∧w / 8 < mem.length:=by
    by_cases c:w / 8 < 0
    ·simp [bOf,c] at g3
    ·simp [bOf,c] at g3;omega
   obtain ⟨n,hn⟩:∃n:Nat,w / 8=(n:Int):=⟨(w / 8).toNat,by omega⟩
   obtain ⟨hd,hhd⟩:∃s,mem[n]?=some s:=⟨_,zge (by omega)⟩
   obtain ⟨z1,_,cs,z2,z3⟩:=hm0.get hhd
   obtain ⟨rfl,_⟩:=csIK z2
   refine ⟨[.int .i64 hd],rfl,?_,_,z00,?_,rfl⟩
   ·show rowAt H (pOf (eltV (.slice mb mem.length mc) (arI .shr .i64 w 3) 1)) _
    rw [e3,hn];exact z3
   ·have:decide (arI .and .i64 hd 7≠7)=!decide (0≤w / 8∧w / 8 < mem.length∧mem.getD (w / 8).toNat 0 % 8=7):=by
     rw [and_7,hn,Int.toNat_natCast,getD_some hhd]
     by_cases c:hd % 8=7
     ·have:(0:Int)≤n∧(n:Int) < mem.length∧hd % 8=7:=⟨by omega,by omega,c⟩
      rw [decide_eq_true this];simp [c]
     ·simp [c]
    rw [←this];simp only [ev0,ev,evV,zl6,iOf,bOf,sOf,pOf,slLen,z0d,cmpI,zb5]
  rintro vs K _ ⟨rfl,rfl⟩
  simp only [cns]
  refine ⟨fun g3=>?_,fun g3=>?_⟩
  ·simp only [ev0,ev,evV,zl6,iOf,bOf,sOf,pOf,slLen,z0d,cmpI,zb5,Bool.not_eq_true',zdf] at g3
   rw [if_neg (fun h=>g3 h.2)] at hT
   rw [←hT]
   exact ⟨zQr _,z7t H hlw⟩
  simp only [ev0,ev,evV,zl6,iOf,bOf,sOf,pOf,slLen,z0d,cmpI,zb5,Bool.not_eq_false',zdt] at g3
  rw [if_pos ⟨g2,g3⟩] at hT
  obtain ⟨p,hp⟩:∃n:Nat,w / 8=(n:Int):=⟨(w / 8).toNat,by omega⟩
  rw [hp,Int.toNat_natCast] at hT
  have hpl:p < mem.length:=by omega
  obtain ⟨hd,hhd⟩:∃s,mem[p]?=some s:=⟨_,zge hpl⟩
  obtain ⟨z1,_,cs,z2,z3⟩:=hm0.get hhd
  obtain ⟨rfl,hhi⟩:=csIK z2
  have hhb:=Z4s hhi
  have rd0:∀K',PH.le H K'→rowAt K' (pOf (eltV (.slice mb mem.length mc) (arI .shr .i64 w 3) 1)) [.int .i64 hd]:=fun K' hl=>by rw [e3,hp];exact z0u hl z3
  refine ⟨fun _=>?_,[.int .i64 hd],rfl,rd0 H (zQr _),[.int .i64 hd],rfl,rd0 H (zQr _),?_⟩
  ·show mb.isSome=true∧0≤arI .shr .i64 w 3∧arI .shr .i64 w 3 < ((mem.length:Nat):Int)
   rw [e3];exact ⟨z1,by omega,by omega⟩
  simp only [cns]
  unfold thgW at hT
  rw [getD_some hhd] at hT
  have kd:arI .and .i64 (arI .shr .i64 hd 3) 7=hd / 8 % 8:=by rw [shr_3,and_7]
  have kdr:0≤hd / 8 % 8∧hd / 8 % 8 < 8:=by omega
  have sz6:=shr_6 hd
  have hadd:arI .add .i64 (w / 8) (hd / 64)=w / 8+hd / 64:=w64 (by omega) (by omega)
  generalize hkd:hd / 8 % 8=kind at hT kd kdr
  generalize hnn:hd / 64=nn at hT sz6 hadd hhb
  refine ⟨fun g4=>?_,fun g4=>?_⟩
  ·simp only [ev0,ev,evV,zl6,iOf,bOf,sOf,pOf,slLen,z0d,cmpI,zb5,kd,sz6,e3,hadd] at g4
   simp only [Bool.or_eq_true,zba,zdt,ge_iff_le,gt_iff_lt] at g4
   have hTn:T=(none,left - 1):=by
    rw [←hT]
    by_cases c:nn < 0∨(mem.length:Int)≤p+nn
    ·rw [if_pos c]
    rw [if_neg c]
    have:kind=1∧nn≠2∨kind=0∨kind=6:=by omega
    rw [if_neg (by omega),if_neg (by omega),if_neg (by omega),if_neg (by omega),if_neg (by omega)]
   rw [hTn]
   exact ⟨zQr _,z7t H hlw⟩
  simp only [ev0,ev,evV,zl6,iOf,bOf,sOf,pOf,slLen,z0d,cmpI,zb5,kd,sz6,e3,hadd] at g4
  simp only [zof,Bool.and_eq_false_iff,zdf,ge_iff_le,gt_iff_lt] at g4
  rw [if_neg (by omega)] at hT
  obtain ⟨n,hn⟩:∃n:Nat,nn=(n:Int):=⟨nn.toNat,by omega⟩
  subst hn
  rw [Int.toNat_natCast] at hT
  have hpn:p+n < mem.length:=by omega
  refine ⟨fun g5=>?_,fun g5=>?_⟩
  ·simp only [ev0,ev,evV,zl6,iOf,bOf,sOf,pOf,slLen,z0d,cmpI,zb5,kd,zdt] at g5
   rw [if_pos g5] at hT
   rw [←hT]
   exact ⟨zQr _,zm5 (k:=4) (i:=0) (t:=[98,111,120]) (by decide) (by decide) (by decide) hlw⟩
  simp only [ev0,ev,evV,zl6,iOf,bOf,sOf,pOf,slLen,z0d,cmpI,zb5,kd,zdf] at g5
  rw [if_neg g5] at hT
  refine ⟨fun g6=>?_,fun g6=>?_⟩
  ·have g6':kind=5∨kind=7:=by
    simp only [ev0,ev,evV,zl6,iOf,bOf,sOf,pOf,slLen,z0d,cmpI,zb5,kd] at g6
    by_cases c:kind=5
    ·exact .inl c
    ·simp [c] at g6;exact .inr g6
   rw [if_pos g6'] at hT
   rw [←hT]
   exact ⟨zQr _,zm5 (k:=4) (i:=0) (t:=[112,114,111,99,101,100,117,114,101]) (by decide) (by decide) (by decide) hlw⟩
  have g6':¬(kind=5∨kind=7):=by
   simp only [ev0,ev,evV,zl6,iOf,bOf,sOf,pOf,slLen,z0d,cmpI,zb5,kd] at g6
   by_cases c:kind=5
   ·simp [c] at g6
   ·simpa [c] using g6
  rw [if_neg g6'] at hT
  have hwat:∀i,i < n→((mem.drop (p+1)).take n)[i]?=mem[p+1+i]?:=fun i hi=>by rw [Z25,if_pos hi]
  have hwl:((mem.drop (p+1)).take n).length=n:=by rw [List.length_take,List.length_drop];omega
  generalize hwords:(mem.drop (p+1)).take n=words at hT hwat hwl
  have hsum:∀k:Nat,k < n→arI .add .i64 (arI .shr .i64 w 3) ((k+1:Nat):Int)=((p+1+k:Nat):Int):=fun k hk=>by
   rw [e3,hp];show IntKind.i64.wrap _=_;rw [w64 (by omega) (by omega)];omega
  have rdk:∀(k:Nat),k < n→∃u,words[k]?=some u∧mem[p+1+k]?=some u∧InI u∧∀K',PH.le H K'→rowAt K' (pOf (eltV (.slice mb mem.length mc) (arI .add .i64 (arI .shr .i64 w 3) ((k+1:Nat):Int)) 1)) [.int .i64 u]:=fun k hk=>by
   obtain ⟨u,hu⟩:∃s,mem[p+1+k]?=some s:=⟨_,zge (by omega)⟩
   obtain ⟨_,_,cs,z2,z3⟩:=hm0.get hu
   obtain ⟨rfl,hui⟩:=csIK z2
   exact ⟨u,by rw [hwat k hk];exact hu,hu,hui,fun K' hl=>by rw [hsum k hk];exact z0u hl z3⟩
  have chkk:∀k:Nat,k < n→mb.isSome=true∧0≤arI .add .i64 (arI .shr .i64 w 3) ((k+1:Nat):Int)∧arI .add .i64 (arI .shr .i64 w 3) ((k+1:Nat):Int) < ((mem.length:Nat):Int):=fun k hk=>by
   rw [hsum k hk];exact ⟨z1,by omega,by omega⟩
  refine ⟨fun g7=>?_,fun g7=>?_⟩
  ·
   simp only [ev0,ev,evV,zl6,iOf,bOf,sOf,pOf,slLen,z0d,cmpI,zb5,kd,zdt] at g7
   rw [if_pos g7] at hT
   refine zlr (α:=UInt8) (b:=1) z5c zin (Held.nil (zQr H)) z01 fun v8 K2 k2 _ _=>?_
   simp only [cns]
   refine ⟨fun m vs K=>∃(k:Nat) (u:Value) (S:PH),k+m=n∧vs=[.int .i64 0,.bool false,u,nI (k+1),.int .i64 0,.int .i64 0,txt [],.slice none 0 0]∧PH.le H S∧Held S K [orow 5 ((words.take k).map fun w=>z3j (w / 8 - 256)) u]∧(words.take k).all z3i=true,
    ⟨n,0,v8,H,by omega,rfl,zQr _,k2,rfl⟩,?_⟩
   rintro m vs K3 _ ⟨k,u,S,hkm,rfl,ls,hh,hall⟩
   obtain ⟨ub,uc,rfl⟩:=(hh.row (zms)).sl
   simp only [cns]
   refine ⟨fun g8=>?_,fun g8=>?_⟩
   ·simp only [ev0,ev,evV,zl6,iOf,bOf,sOf,pOf,slLen,z0d,cmpI,zb5,sz6,zdt] at g8
    have hkn:k < n:=by omega
    obtain ⟨x,hx1,hx2,hxi,hx3⟩:=rdk k hkn
    have hlS:=zQt ls hh.sh
    refine ⟨fun _=>chkk k hkn,[.int .i64 x],rfl,hx3 _ hlS,?_⟩
    simp only [cns]
    refine z04 z79 (hh.pure (R:=fun e S'=>TelE (wrdW syms x) e S') (zvy syms _ x hxi S (hs0.le ls))) ?_
    rintro _ K4 ⟨S4,l4,h4,d,cs,rfl,hdr,hx⟩
    obtain ⟨tv,rfl,r1,r2,r3,r4⟩:=Dat.Rep_iff.1 hdr
    obtain ⟨tb,tc,rfl⟩:=SlR.sl r4
    refine ⟨_,[.int .i64 d.kind,.int .i64 d.int,txt d.text,.slice tb d.list.length tc,.bool (wrdW syms x).isSome],rfl,rfl,rfl,z01,?_⟩
    simp only [cns]
    have hchr:z3i x=true↔x % 8=2∧(wrdW syms x).isSome=true∧d.kind=2:=by
     constructor
     ·intro hc
      have hc8:x % 8=2:=by unfold z3i at hc;simp only [zba,zdt] at hc;omega
      have he:wrdW syms x=conX (x / 8):=by unfold wrdW;rw [if_neg (by omega),if_pos hc8]
      rw [he] at hx ⊢
      exact ⟨hc8,((zpp x d hx).2 hc).2⟩
     ·rintro ⟨hc8,hc⟩
      have he:wrdW syms x=conX (x / 8):=by unfold wrdW;rw [if_neg (by omega),if_pos hc8]
      rw [he] at hx hc
      exact (zpp x d hx).1 ⟨hc8,hc⟩
    refine ⟨fun vs K=>vs=[.bool (!z3i x)]∧K=K4,?_,fun g9=>?_,fun g9=>?_⟩
    rotate_left
    ·have hno:z3i x=false:=by
      cases hq:z3i x with
      | false=>rfl
      | true=>
       obtain ⟨q1,q2,q3⟩:=hchr.1 hq
       simp [ev0,ev,evV,zl6,iOf,bOf,sOf,pOf,slLen,z0d,cmpI,zb5,q2,q3] at g9
     exact ⟨_,z00,by rw [hno];rfl,rfl⟩
    ·have hq2:(wrdW syms x).isSome=true∧d.kind=2:=by
      simp only [ev0,ev,evV,zl6,iOf,bOf,sOf,pOf,slLen,z0d,cmpI,zb5] at g9
      cases hq:(wrdW syms x).isSome with
      | false=>simp [hq] at g9
      | true=>simp [hq] at g9;exact ⟨rfl,g9⟩
     refine ⟨[.int .i64 x],rfl,hx3 _ (zQt ls (zQt l4 h4.sh)),_,z00,?_,rfl⟩
     have:decide (arI .and .i64 x 7≠2)=!z3i x:=by
      rw [and_7]
      by_cases c:x % 8=2
      ·rw [hchr.2 ⟨c,hq2⟩];simp [c]
      ·have:z3i x=false:=by
        cases hq:z3i x with
        | false=>rfl
        | true=>exact absurd (hchr.1 hq).1 c
       rw [this];simp [c]
     rw [←this];simp only [ev0,ev,evV,zl6,iOf,bOf,sOf,pOf,slLen,z0d,cmpI,zb5]
    rintro vs K5 _ ⟨rfl,rfl⟩
    simp only [cns]
    refine ⟨fun g9=>?_,fun g9=>?_⟩
    ·simp only [ev0,ev,evV,zl6,iOf,bOf,sOf,pOf,slLen,z0d,cmpI,zb5,Bool.not_eq_true'] at g9
     have hnone:chrX words=none:=by
      unfold chrX
      rw [if_neg]
      intro hh
      have:=zat.1 hh x (zmg hx1)
      rw [g9] at this;cases this
     rw [hnone] at hT
     rw [←hT]
     exact ⟨zQt ls (zQt l4 h4.sh),z7t K5 hlw⟩
    ·simp only [ev0,ev,evV,zl6,iOf,bOf,sOf,pOf,slLen,z0d,cmpI,zb5,Bool.not_eq_false'] at g9
     obtain ⟨q1,q2,q3⟩:=hchr.1 g9
     obtain ⟨y,hy⟩:=Option.isSome_iff_exists.1 q2
     obtain rfl:=hx y hy
     have he:wrdW syms x=conX (x / 8):=by unfold wrdW;rw [if_neg (by omega),if_pos q1]
     rw [he] at hy
     have hint:d.int=x / 8 - 256:=(zpr hy).2 q3
     rw [hint]
     refine z28 (b:=1) (more:=[z3j (x / 8 - 256)]) [.int .u8 ((z3j (x / 8 - 256)).toNat:Int)] z5c zin rfl (by decide) (by decide) h4 ?_ (.cons (Z4p _ _) .nil) z01 (fun w=>by kernel_rfl) (fun w=>by kernel_rfl)
      (by simp only [zlm,List.length_take,zlc,zln];omega) (by simp only [zlm,List.length_take,zlc,zln];omega) fun y v7 S7 K7 l7 h7=>⟨z01,?_⟩
     ·rw [←Z85];kernel_rfl
     refine ⟨_,z00,m - 1,by omega,k+1,v7,S7,by omega,?_,zQt ls (zQt l4 l7),?_,?_⟩
     ·have hw:IntKind.i64.wrap (((k+1:Nat):Int)+1)=((k+1+1:Nat):Int):=by rw [w64 (by omega) (by omega)];rfl
      simp only [evs,arI,zb5,hw]
     ·rw [List.take_add_one,hx1,List.map_append];exact h7
     ·rw [List.take_add_one,hx1,List.all_append,hall]
      simp [g9]
   ·simp only [ev0,ev,evV,zl6,iOf,bOf,sOf,pOf,slLen,z0d,cmpI,zb5,sz6,zdf] at g8
    obtain ⟨S2,s2,l2,h2'⟩:=hh.freeze
    refine z30 z5c z8g uByte (by kernel_rfl) (s2.le h2'.sh) z01 ?_
    have hsome:chrX words=some ((words.take k).map fun w=>z3j (w / 8 - 256)):=by
     rw [ztl (by omega)] at hall ⊢
     unfold chrX;rw [if_pos hall]
    rw [hsome] at hT
    rw [←hT]
    exact ⟨zQt ls (zQt l2 h2'.sh),zm5 (k:=3) (i:=0) (by decide) (by decide) (by rw [zlm,List.length_take];omega) hlw⟩
  simp only [ev0,ev,evV,zl6,iOf,bOf,sOf,pOf,slLen,z0d,cmpI,zb5,kd,zdf] at g7
  rw [if_neg g7] at hT
  have hk12:kind=2∨kind=1∧n=2:=by omega
  obtain ⟨L,hLl,hLg,hTL⟩:∃L:List (Int×Int),L.length=n∧(∀(k:Nat) (u:Int),k < n→mem[p+1+k]?=some u→L[k]?=some (u,downW kind deep k))∧T=(match kidsW (telW mem syms f) L (left - 1) [] with
    | (none,q)=>(none,q)
    | (some r,q)=>(some (if kind=1 then makeD (r.take 1) (r.getD 1 (.mk 0 0 [] [])) else .mk 7 0 [] r),q)):=by
   rcases hk12 with hk | ⟨hk,hn2⟩
   ·refine ⟨words.map fun w=>(w,deep+1),by rw [zlm,hwl],fun k u hk' hu=>?_,?_⟩
    ·rw [zem,hwat k hk',hu];unfold downW;rw [if_neg (by omega)];rfl
    ·rw [if_pos hk] at hT
     rw [←hT]
     cases kidsW (telW mem syms f) (words.map fun w=>(w,deep+1)) (left - 1) [] with
     | mk o q=>cases o with
      | none=>rfl
      | some r=>simp only [if_neg (show ¬kind=1 by omega)]
   ·subst hn2
    obtain ⟨u0,hu0⟩:∃s,mem[p+1+0]?=some s:=⟨_,zge (by omega)⟩
    obtain ⟨u1,hu1⟩:∃s,mem[p+1+1]?=some s:=⟨_,zge (by omega)⟩
    refine ⟨[(u0,deep+1),(u1,deep)],rfl,fun k u hk' hu=>?_,?_⟩
    ·rcases (show k=0∨k=1 by omega) with rfl | rfl
     ·rw [hu0] at hu;cases hu;unfold downW;rw [if_neg (by omega)];rfl
     ·rw [hu1] at hu;cases hu;unfold downW;rw [if_pos ⟨hk,rfl⟩];rfl
    ·rw [if_neg (by omega),if_pos ⟨hk,rfl⟩,getD_some (show mem[p+1]?=some u0 from hu0),getD_some (show mem[p+2]?=some u1 from hu1)] at hT
     rw [←hT]
     cases kidsW (telW mem syms f) [(u0,deep+1),(u1,deep)] (left - 1) [] with
     | mk o q=>cases o with
      | none=>rfl
      | some r=>simp only [if_pos hk]
  clear hT
  refine zlr (α:=Dat) (b:=56) uDats z4e (Held.nil (zQr H)) z01 fun v8 K2 k2 _ _=>?_
  simp only [cns]
  refine ⟨fun m vs K=>∃(k:Nat) (u:Value) (S:PH) (acc:List Dat) (q:Nat),k+m=n∧vs=[.int .i64 (200 - (q:Int)),.int .i64 0,.bool false,u,nI (k+1),.int .i64 0,.int .i64 0,txt [],.slice none 0 0]∧PH.le H S∧Held S K [orow 32 acc u]∧acc.length=k∧Dats.cnt acc+q≤left - 1 ∧
   kidsW (telW mem syms f) L (left - 1) []=kidsW (telW mem syms f) (L.drop k) q acc,
   ⟨n,0,v8,H,[],left - 1,by omega,by simp only [ev0,ev,evV,zl6,iOf,bOf,sOf,pOf,slLen,z0d,cmpI,zb5,hlw];rfl,zQr _,k2,rfl,by simp [Dats.cnt],rfl⟩,?_⟩
  rintro m vs K3 _ ⟨k,u,S,acc,q,hkm,rfl,ls,hh,hal,hcq,hkids⟩
  obtain ⟨ub,uc,hu⟩:=(hh.row (zms)).sl
  simp only [cns]
  refine ⟨fun g8=>?_,fun g8=>?_⟩
  ·simp only [ev0,ev,evV,zl6,iOf,bOf,sOf,pOf,slLen,z0d,cmpI,zb5,sz6,zdt] at g8
   have hkn:k < n:=by omega
   obtain ⟨x,hx1,hx2,hxi,hx3⟩:=rdk k hkn
   have hLk:=hLg k x hkn hx2
   have hdr:L.drop k=(x,downW kind deep k)::L.drop (k+1):=by
    rw [←List.getElem_cons_drop (by omega:k < L.length),(zgi.1 hLk).2]
   rw [hdr] at hkids
   simp only [kidsW] at hkids
   refine ⟨fun _=>chkk k hkn,[.int .i64 x],rfl,hx3 _ (zQt ls hh.sh),?_⟩
   simp only [cns]
   have hdb:0≤downW kind deep k∧downW kind deep k≤33:=by unfold downW;split<;>omega
   have hd1:arI .add .i64 deep 1=deep+1:=w64 (by omega) (by omega)
   have hdv:∀dv,dv=Value.int .i64 (downW kind deep k)→Tri Tryz.prog z83 #[.slice mb mem.length mc,.int .i64 x,.slice sb syms.length sc,dv,.int .i64 (200 - (q:Int))] K3 fun e H'=>∃S',PH.le S S'∧Held S' H' [orow 32 acc u]∧TelR (telW mem syms f x (downW kind deep k) q) e S':=fun dv hdv=>by
    rw [hdv]
    exact hh.pure (R:=fun e S'=>TelR (telW mem syms f x (downW kind deep k) q) e S') (ih x (downW kind deep k) q S (hm0.le ls) (hs0.le ls) hxi hdb.1 hdb.2 (by omega) (by omega))
   refine z04 z6s (hdv _ ?_) ?_
   ·have hki:decide (((k+1:Nat):Int)=2)=decide (k=1):=by rw [decide_eq_decide];omega
    simp only [ev0,ev,evV,zl6,iOf,bOf,sOf,pOf,slLen,z0d,cmpI,zb5,kd,hd1,hki]
    unfold downW
    by_cases c1:kind=1<;>by_cases c2:k=1<;>simp [c1,c2]
   rintro _ K4 ⟨S4,l4,h4,d,cs,rfl,hdr4,hx⟩
   have hfw:=hfewW x (downW kind deep k) q
   generalize hR:telW mem syms f x (downW kind deep k) q=R at hkids hx hfw
   obtain ⟨o,q'⟩:=R
   obtain ⟨tv,rfl,r1,r2,r3,r4⟩:=Dat.Rep_iff.1 hdr4
   obtain ⟨tb,tc,rfl⟩:=SlR.sl r4
   refine ⟨_,[.int .i64 d.kind,.int .i64 d.int,txt d.text,.slice tb d.list.length tc,.int .i64 (200 - (q':Int)),.bool o.isSome],rfl,rfl,rfl,z01,?_⟩
   simp only [cns]
   cases o with
   | none=>
    refine ⟨fun _=>?_,fun g9=>by simp [evs,arI,zb5] at g9⟩
    simp only at hkids
    rw [hkids] at hTL
    rw [hTL]
    exact ⟨zQt ls (zQt l4 h4.sh),z7t K4 rfl⟩
   | some d'=>
    obtain rfl:=hx d' rfl
    obtain ⟨f1,f2⟩:=hfw
    have f2:=f2 d rfl
    simp only at f1 f2 hkids
    have hcd:1≤d.cnt:=by have:=Dat.cnt_eq d;omega
    have hml:=Dats.cnt_le acc
    refine ⟨fun g9=>by simp [evs,arI,zb5] at g9,fun _=>?_⟩
    refine z28 (b:=56) (more:=[d]) [.agg #[.int .i64 d.kind,.int .i64 d.int,txt d.text,.slice tb d.list.length tc]] uDats z4e rfl (by decide) (by decide) h4 (by kernel_rfl) (.cons hdr4 .nil) z01 (fun w=>by kernel_rfl) (fun w=>by kernel_rfl)
     (by simp only [zlc,zln];omega) (by simp only [zlc,zln];omega) fun y v7 S7 K7 l7 h7=>⟨z01,?_⟩
    refine ⟨_,z00,m - 1,by omega,k+1,v7,S7,acc++[d],q',by omega,?_,zQt ls (zQt l4 l7),h7,by simp [hal],?_,hkids⟩
    ·have hw:IntKind.i64.wrap (((k+1:Nat):Int)+1)=((k+1+1:Nat):Int):=by rw [w64 (by omega) (by omega)];rfl
     simp only [evs,arI,zb5,hw]
    ·rw [Dats.cnt_append];simp only [Dats.cnt];omega
  ·simp only [ev0,ev,evV,zl6,iOf,bOf,sOf,pOf,slLen,z0d,cmpI,zb5,sz6,zdf] at g8
   obtain rfl:k=n:=by omega
   rw [List.drop_of_length_le (by omega)] at hkids
   simp only [kidsW] at hkids
   rw [hkids] at hTL
   simp only at hTL
   obtain ⟨S2,s2,l2,k4⟩:=hh.freeze
   have hle:=zQt ls (zQt l2 k4.sh)
   have hml:=Dats.cnt_le acc
   obtain ⟨ub,uc,rfl⟩:=s2.sl
   refine ⟨fun g10=>?_,fun g10=>?_⟩
   ·simp only [ev0,ev,evV,zl6,iOf,bOf,sOf,pOf,slLen,z0d,cmpI,zb5,kd,zdt] at g10
    rw [if_pos g10] at hTL
    have h2':acc.length=2:=by omega
    obtain ⟨a,b,rfl⟩:=Zeb h2'
    have hTL':T=(some (makeD [a] b),q):=hTL
    simp only [Dats.cnt] at hcq
    have hcap:=Z4e s2
    simp only [slCap,zlc,zln] at hcap
    obtain ⟨y1,_,cs,y2,y3⟩:=s2.get (i:=1) (a:=b) rfl
    obtain ⟨tv,rfl,r1,r2,r3,r4⟩:=Dat.Rep_iff.1 y2
    obtain ⟨tb,tc,rfl⟩:=SlR.sl r4
    have hcut:=s2.cut (a:=0) (b:=1) (by omega) (by simp)
    refine ⟨fun _=>?_,fun _=>?_,[.int .i64 b.kind,.int .i64 b.int,txt b.text,.slice tb b.list.length tc],rfl,?_,?_⟩
    ·simp only [Chk.holds,evs,arI,zb5,slCap];omega
    ·simp only [Chk.holds,evs,arI,zb5];exact ⟨y1,by omega,by simp⟩
    ·simp only [evs,arI,zb5];exact z0u k4.sh y3
    simp only [cns]
    refine z04 zgl (Z3k [a] b _ _ K3 (hcut.le k4.sh) (Dat.Rep.le k4.sh b y2) (by simp only [Dats.cnt];omega) (by omega)) ?_
    rintro x K5 ⟨cs,rfl,l5,hd5⟩
    obtain ⟨sv',rfl,r1',r2',r3',r4'⟩:=Dat.Rep_iff.1 hd5
    obtain ⟨sb',sc',rfl⟩:=SlR.sl r4'
    refine ⟨_,_,rfl,rfl,rfl,z01,?_⟩
    rw [hTL']
    exact ⟨zQt hle l5,_,_,rfl,hd5,fun x hx=>by cases hx;rfl⟩
   ·simp only [ev0,ev,evV,zl6,iOf,bOf,sOf,pOf,slLen,z0d,cmpI,zb5,kd,zdf] at g10
    rw [if_neg g10] at hTL
    rw [hTL]
    exact ⟨hle,.mk 7 0 [] acc,_,rfl,Dat.Rep_iff.2 ⟨_,rfl,(by decide:InI 7),(by decide:InI 0),Nat.zero_le _,s2.le k4.sh⟩,fun x hx=>by cases hx;rfl⟩
theorem zwl (mem:List Int) (syms:List (List UInt8)) (w:Int):(telW mem syms 201 w 0 200).1=telX mem syms w:=rfl
theorem Z6s (mem:List Int) (syms:List (List UInt8)) (mv sv:Value) (w:Int) (H:PH) (hm:SlR H mem mv) (hs:SlR H syms sv) (hw:InI w) (hfew:mem.length≤140737488355328) :
  Tri Tryz.prog zic #[mv,.int .i64 w,sv] H fun e H'=>PH.le H H'∧∃cs,e=.returned (.tuple #[.agg cs.toArray,.bool (telX mem syms w).isSome])∧((telX mem syms w).getD (.mk 0 0 [] [])).Rep H' cs:=by
 have hm0:=hm
 have hs0:=hs
 obtain ⟨mb,mc,rfl⟩:=hm.sl
 obtain ⟨sb,sc,rfl⟩:=hs.sl
 refine zei [.slice mb mem.length mc,.int .i64 w,.slice sb syms.length sc] (by kernel_rfl) (by kernel_rfl) ?_
 refine z04 z6s (Z22 hfew 201 w 0 200 H hm0 hs0 hw (by omega) (by omega) (by omega) (by omega)) ?_
 rintro _ H2 ⟨l2,d,cs,rfl,hdr,hx⟩
 obtain ⟨tv,rfl,r1,r2,r3,r4⟩:=Dat.Rep_iff.1 hdr
 obtain ⟨tb,tc,rfl⟩:=SlR.sl r4
 rw [zwl] at hx ⊢
 refine ⟨_,[.int .i64 d.kind,.int .i64 d.int,txt d.text,.slice tb d.list.length tc,.int .i64 (200 - ((telW mem syms 201 w 0 200).2:Int)),.bool (telX mem syms w).isSome],rfl,rfl,rfl,z01,?_⟩
 generalize telX mem syms w=T at hx ⊢
 cases T with
 | none=>exact ⟨fun _=>⟨l2,_,rfl,z3f (by decide) (by decide) (by decide)⟩,fun g=>by simp [evs,arI,zb5] at g⟩
 | some x=>
  obtain rfl:=hx x rfl
  exact ⟨fun g=>by simp [evs,arI,zb5] at g,fun _=>⟨l2,_,rfl,hdr⟩⟩
theorem zja (mem:List Int) (syms:List (List UInt8)) (mv sv:Value) (w:Int) (H:PH) (hm:SlR H mem mv) (hs:SlR H syms sv) (hw:InI w) (hfew:mem.length≤140737488355328) :
  Tri Tryz.prog Z2r #[mv,.int .i64 w,sv] H fun e H'=>PH.le H H'∧∃cs,e=.returned (.tuple #[.agg cs.toArray,.bool (telX mem syms w).isSome])∧((telX mem syms w).getD (.mk 0 0 [] [])).Rep H' cs:=by
 have hm0:=hm
 have hs0:=hs
 obtain ⟨mb,mc,rfl⟩:=hm.sl
 obtain ⟨sb,sc,rfl⟩:=hs.sl
 refine zxn [.slice mb mem.length mc,.int .i64 w,.slice sb syms.length sc] (by kernel_rfl) (by kernel_rfl) ?_
 refine z15 (vs:=[.slice mb mem.length mc,.slice sb syms.length sc,.int .i64 200]) (Held.nil (zQr H)) (by kernel_rfl) fun tr K1 l1 h1=>?_
 simp only [cns]
 refine z04 z37 (Z0u (tr:=tr) hfew 201 w 0 200 H K1 hm0 hs0 hw (by omega) (by omega) (by omega) (by omega) h1) ?_
 rintro _ H2 ⟨S2,J2,l2,h2,rfl,d,cs,rfl,hdr,hx⟩
 obtain ⟨tv,rfl,r1,r2,r3,r4⟩:=Dat.Rep_iff.1 hdr
 obtain ⟨tb,tc,rfl⟩:=SlR.sl r4
 rw [zwl] at hx ⊢
 refine ⟨_,[.int .i64 d.kind,.int .i64 d.int,txt d.text,.slice tb d.list.length tc,.bool (telX mem syms w).isSome],rfl,rfl,rfl,z01,?_⟩
 have hle:=zQt l2 h2.sh
 generalize telX mem syms w=T at hx ⊢
 cases T with
 | none=>exact ⟨fun _=>⟨hle,_,rfl,z3f (by decide) (by decide) (by decide)⟩,fun g=>by simp [evs,arI,zb5] at g⟩
 | some x=>
  obtain rfl:=hx x rfl
  exact ⟨fun g=>by simp [evs,arI,zb5] at g,fun _=>⟨hle,_,rfl,Dat.Rep.le h2.sh d hdr⟩⟩
instance encItemsW:Enc (List ItemR):=⟨fun l=>[slp l],1,fun _=>rfl⟩
theorem csItemss {H:PH} {l:List ItemR} {cs:List Value}:CsR H l cs↔∃v,cs=[v]∧SlR H l v:=by
 show PV.RepRow H [slp l] cs↔_
 simp only [PV.RepRow]
 constructor
 ·rintro ⟨v,vs,rfl,h,rfl⟩;exact ⟨v,rfl,h⟩
 ·rintro ⟨v,rfl,h⟩;exact ⟨v,[],rfl,h,rfl⟩
theorem Ze5:Tryz.prog.underlying 167=some (.slice 50):=by kernel_rfl
theorem Zaj:ElemOk Tryz.prog 50 1 24=true:=by kernel_rfl
theorem uIntW:Tryz.prog.underlying 3=some (.int .i64):=by kernel_rfl
theorem Zci:ManyOk Tryz.prog 131 64 (itemV ⟨0,ins0,0,0⟩):=ManyOk.of (z:=.agg (itemV ⟨0,ins0,0,0⟩).toArray) (by kernel_rfl) rfl
theorem Z9t (n:Nat) (hn:n≤8000000) (S:PH):Tri Tryz.prog z6b #[.slice none 0 0,.int .i64 (n:Int)] S fun x S'=>∃v,x=.returned v∧Held S S' [orow (α:=ItemR) 131 [] v]:=by
 have hw:IntKind.i64.wrap ((n:Int) - IntKind.i64.wrap (((0:Nat):Int) - ((0:Nat):Int)))=(n:Int):=by
  rw [show (((0:Nat):Int) - ((0:Nat):Int))=0 by omega,show IntKind.i64.wrap 0=0 by decide,w64 (by omega) (by omega)];omega
 refine z5j [.slice none 0 0,.int .i64 (n:Int)] (by kernel_rfl) (by kernel_rfl) ?_
 refine ⟨fun vs H'=>vs=[]∧H'=S,?_,⟨fun g=>?_,fun _=>⟨_,z00,rfl,rfl⟩⟩⟩
 ·rintro vs H1 _ ⟨rfl,rfl⟩
  refine ⟨fun vs H'=>∃v k,vs=[v,.int .i64 k]∧Held H1 H' [orow (α:=ItemR) 131 [] v],?_,⟨fun g=>?_,fun g=>?_⟩⟩
  ·rintro vs H2 _ ⟨v,k,rfl,h2⟩
   exact ⟨v,rfl,h2⟩
  ·simp only [evs,arI,zb5,slCap,zdt,hw] at g
   refine ⟨fun _=>?_,?_⟩
   ·simp only [Chk.holds,evs,arI,zb5,slCap];omega
   refine Z65 (α:=ItemR) (b:=64) (n:=n) rfl (by simp) Z8k uIntW Zci rfl (congrArg (Value.int .i64) hw) (by simp only [maxLen];omega) (by omega) (by omega) (Held.nil (zQr H1)) fun r cap H2 hc h2 _=>?_
   refine ⟨fun _=>?_,_,z00,_,_,rfl,?_⟩
   ·simp only [Chk.holds,evs,arI,zb5,slCap];omega
   ·have:slsV (.slice (some ⟨r,0,none⟩) n cap) 0 0 8=.slice (some ⟨r,0,none⟩) 0 cap:=by
     have hcap:cap≠0:=by
      intro e0
      rw [e0] at hc
      have:n=0:=Nat.le_zero.1 hc
      rw [this] at g
      exact absurd g (by decide)
     unfold slsV
     rw [if_neg (show ¬slCap (.slice (some ⟨r,0,none⟩) n cap)=(0:Int).toNat from hcap)]
     rfl
    have e:ev0 ([Value.slice none 0 0,Value.int .i64 (n:Int)]++[]++[.slice (some ⟨r,0,none⟩) n cap]) (.sls (.atom 2) (.int .i64 0) (.len (.atom 0)) 8)=.slice (some ⟨r,0,none⟩) 0 cap:=this
    exact e ▸ h2
  ·refine ⟨_,z00,_,_,rfl,Held.empty (Held.nil (zQr H1)) _⟩
 ·simp only [evs,arI,zb5,zdt] at g
  omega
theorem zbz {ls:List (List ItemR)} {k:Nat} {a:List ItemR} (h:ls[k]?=some a):(ls.take (k+1)).flatten=(ls.take k).flatten++a:=by
 rw [List.take_add_one,h,List.flatten_append];simp
theorem Z0h (ls:List (List ItemR)) (k:Nat):(ls.take k).flatten.length≤ls.flatten.length:=by
 have:=congrArg List.length (List.flatten_append (L₁:=ls.take k) (L₂:=ls.drop k))
 rw [List.take_append_drop,zla] at this
 omega
theorem Z3u (ls:List (List ItemR)) (v:Value) (S:PH) (h:SlR S ls v) (hb:ls.flatten.length≤4000000):Tri Tryz.prog z5b #[v] S fun x S'=>PH.le S S'∧∃w,x=.returned w∧SlR S' ls.flatten w:=by
 obtain ⟨b,c,rfl⟩:=h.sl
 have hm:=h.max
 simp only [maxLen] at hm
 refine z55 [.slice b ls.length c] (by kernel_rfl) (by kernel_rfl) ?_
 refine ⟨fun n vs H'=>∃k:Nat,vs=[.int .i64 ((ls.take k).flatten.length:Int),.int .i64 k]∧k+n=ls.length∧PH.le S H',⟨ls.length,0,rfl,by omega,zQr S⟩,?_⟩
 rintro n vs H1 _ ⟨k,rfl,hkn,l1⟩
 refine ⟨fun g=>?_,fun g=>?_⟩
 ·simp only [evs,arI,zb5,zdt] at g
  obtain ⟨a,ha⟩:∃a,ls[k]?=some a:=⟨_,zge (show k < ls.length by omega)⟩
  obtain ⟨g1,_,ces,g2,g3⟩:=(h.le l1).get ha
  obtain ⟨w,rfl,sw⟩:=csItemss.1 g2
  obtain ⟨wb,wc,rfl⟩:=sw.sl
  have hfl:=Z0h ls (k+1)
  rw [zbz ha,zla] at hfl
  have hw:IntKind.i64.wrap (((ls.take k).flatten.length:Int)+(a.length:Int))=(((ls.take (k+1)).flatten.length:Nat):Int):=by
   rw [zbz ha,zla,w64 (by omega) (by omega)];omega
  refine ⟨fun vs H'=>vs=[.int .i64 ((ls.take (k+1)).flatten.length:Int)]∧PH.le S H',?_,fun _=>?_,[.slice wb a.length wc],rfl,by simp only [evs,arI,zb5];exact g3,fun g4=>?_,fun _=>⟨_,z00,?_,l1⟩⟩
  ·rintro vs H2 _ ⟨rfl,l2⟩
   refine ⟨_,z00,n - 1,by omega,k+1,?_,by omega,l2⟩
   simp only [evs,arI,zb5];rw [w64 (by omega) (by omega)];rfl
  ·simp only [Chk.holds,evs,arI,zb5];exact ⟨g1,by omega,by omega⟩
  ·simp only [evs,arI,zb5,zdt,hw] at g4
   omega
  ·simp only [evs,arI,zb5,hw]
 ·simp only [evs,arI,zb5,zdf] at g
  obtain rfl:k=ls.length:=by omega
  rw [List.take_length]
  refine z04 (by kernel_rfl) (Z9t ls.flatten.length (by omega) H1) ?_
  rintro x H2 ⟨v2,rfl,h2⟩
  obtain ⟨b2,c2,hv2⟩:=(h2.row (zms)).sl
  refine ⟨_,[v2],rfl,by rw [hv2];rfl,rfl,z01,?_⟩
  refine ⟨fun n vs H'=>∃(k:Nat) (w:Value) (S':PH),vs=[w,.int .i64 k]∧k+n=ls.length∧PH.le S S'∧Held S' H' [orow 131 (ls.take k).flatten w],⟨ls.length,0,v2,H1,rfl,by omega,l1,h2⟩,?_⟩
  rintro n vs H3 _ ⟨k,w,S3,rfl,hkn3,l3,h3⟩
  obtain ⟨wb,wc,rfl⟩:=(h3.row (zms)).sl
  refine ⟨fun g=>?_,fun g=>?_⟩
  ·simp only [evs,arI,zb5,zdt] at g
   obtain ⟨a,ha⟩:∃a,ls[k]?=some a:=⟨_,zge (show k < ls.length by omega)⟩
   obtain ⟨g1,_,ces,g2,g3⟩:=(h.le (zQt l3 h3.sh)).get ha
   obtain ⟨w2,rfl,sw⟩:=csItemss.1 g2
   have sw':SlR S3 a w2:=by
    obtain ⟨_,_,ces',g2',g3'⟩:=(h.le l3).get ha
    obtain ⟨w2',rfl,sw'⟩:=csItemss.1 g2'
    have e1:=z0u h3.sh g3'
    have:w2'=w2:=by
     obtain ⟨a1,p1,q1⟩:=e1
     obtain ⟨a2,p2,q2⟩:=g3
     rw [p1] at p2;cases p2
     have r1:=q1 0 w2' rfl
     have r2:=q2 0 w2 rfl
     rw [r1] at r2;exact Option.some.inj r2
    rw [←this];exact sw'
   obtain ⟨ab,ac,rfl⟩:=sw.sl
   have hfl:=Z0h ls (k+1)
   rw [zbz ha,zla] at hfl
   refine ⟨fun _=>?_,[.slice ab a.length ac],rfl,by simp only [evs,arI,zb5];exact g3,?_⟩
   ·simp only [Chk.holds,evs,arI,zb5];exact ⟨g1,by omega,by omega⟩
   refine za4 (b:=64) (more:=a) Z8k Zbm (by kernel_rfl) (by kernel_rfl) h3 (sw'.srcS h3.sh) (by simp only [maxLen];omega) (by omega) fun v4 H4 h4 _=>⟨z01,_,z00,n - 1,by omega,k+1,v4,S3,?_,by omega,l3,by rw [zbz ha];exact h4⟩
   simp only [evs,arI,zb5];rw [w64 (by omega) (by omega)];rfl
  ·simp only [evs,arI,zb5,zdf] at g
   obtain rfl:k=ls.length:=by omega
   rw [List.take_length] at h3
   obtain ⟨S4,s4,l4,h4⟩:=h3.freeze
   exact ⟨zQt l3 (zQt l4 h4.sh),_,rfl,by have:=s4.le h4.sh;rw [List.take_length];exact this⟩
theorem Ze4 {p:Prop} [Decidable p] {a b:Int×MaR} {n:Nat} (ha:a.2.mem.length=n) (hb:b.2.mem.length=n):(if p then a else b).2.mem.length=n:=by split<;>assumption
theorem Z4n (m:MaR) (x:InsR):(stR m x).2.mem.length=m.mem.length:=by
 unfold stR
 repeat' (first | exact rfl | apply Ze4)
 all_goals simp [MaR.put,MaR.goes]
theorem Z5f (code:List W32):∀(k:Nat) (m:MaR),(goR code k m).2.mem.length=m.mem.length
 | 0,m=>rfl
 | k+1,m=>by
  rw [goR]
  split
  ·rfl
  ·split
   ·rfl
   ·split
    ·rw [Z5f code k,Z4n]
    ·rw [Z4n]
theorem Zbp (i:ImgR) (input:List UInt8) (steps:Int):(runR i input steps).mem.length≤1048576:=by
 unfold runR
 split
 ·simp [noImg]
 ·rename_i h
  show (goR i.code steps.toNat (z4i i input)).2.mem.length≤_
  rw [Z5f]
  unfold zmd at h
  simp only [Bool.or_eq_true,zdt] at h
  simp only [z4i,zla,List.length_replicate]
  omega
structure OutR where
 err:Int
 out:List UInt8
 shown:Dat
 whole:Bool
 steps:Int
def outR (h:HaltR) (syms:List (List UInt8)):OutR:=
 if h.state=6 then ⟨93,h.out,.mk 0 0 [] [],false,h.steps⟩
 else if h.state=0 then (if h.value=0 then ⟨0,h.out,(telX h.mem syms (h.regs.getD 1 0)).getD (.mk 0 0 [] []),(telX h.mem syms (h.regs.getD 1 0)).isSome,h.steps⟩ else ⟨h.value,h.out,.mk 0 0 [] [],false,h.steps⟩)
 else ⟨252,h.out,.mk 0 0 [] [],false,h.steps⟩
def OutAt (o:OutR) (e:Ending) (S:PH):Prop:=∃dv,e=.returned (.agg #[.int .i64 o.err,txt o.out,.int .i64 o.shown.kind,.int .i64 o.shown.int,txt o.shown.text,dv,.bool o.whole,.int .i64 o.steps])∧o.shown.Rep S [.int .i64 o.shown.kind,.int .i64 o.shown.int,txt o.shown.text,dv]
theorem Z6o {err:Int} {out:List UInt8} {steps:Int} {S:PH}:OutAt ⟨err,out,.mk 0 0 [] [],false,steps⟩ (.returned (.agg #[.int .i64 err,txt out,.int .i64 0,.int .i64 0,txt [],.slice none 0 0,.bool false,.int .i64 steps])) S:=
 ⟨_,rfl,z3f (by decide) (by decide) (by decide)⟩
abbrev z4g (l:List ItemR):List ItemR:=rt_codeR++gc_codeR++l
def ImgAt (l:List ItemR) (syms:List (List UInt8)) (stack size:Int) (e:Ending) (S:PH):Prop:=∃cv mv sv,e=.returned (.tuple #[.agg #[cv,mv,.int .i64 (32+stack+2 * size)],sv,.int .i64 0])∧SlR S (codeA (asmR (z4g l))) cv∧SlR S (memR stack size) mv∧SlR S syms sv
theorem uMemJ:Tryz.prog.underlying 29=some (.slice 3):=by kernel_rfl
theorem Zc0:rt_codeR.length+gc_codeR.length≤1000:=Nat.le_of_ble_eq_true (by kernel_rfl)
set_option maxHeartbeats 1000000 in
theorem Z87 (c:CodeX) (cv:Value) (stack size:Int) (l:List ItemR) (syms:List (List UInt8)) (S:PH) (hc:SlR S c cv) (hck:z3l c=0) (hfit:∀p∈c,∀b∈p.blocks,b.ins.length≤4611686018427387904) (hst:0≤stack∧stack≤131072) (hsz:0≤size∧size≤131072)
  (hgen:∀K,PH.le S K→Tri Tryz.prog zwb #[.agg #[cv],.int .i64 stack] K fun x K'=>PH.le K K'∧∃v sv,x=.returned (.tuple #[v,sv,.int .i64 0])∧SlR K' l v∧SlR K' syms sv) (hlen:l.length≤1000000) (hasm:errA (asmR (z4g l))=0) :
  Tri Tryz.prog z5i #[.agg #[cv],.int .i64 stack,.int .i64 size] S fun e K'=>PH.le S K'∧ImgAt l syms stack size e K':=by
 have hcv:=zdy c cv S hc hfit
 rw [hck] at hcv
 obtain ⟨cb,cc,rfl⟩:=hc.sl
 have hrg:=Zc0
 refine zhd [.slice cb c.length cc,.int .i64 stack,.int .i64 size] (by kernel_rfl) (by kernel_rfl) ?_
 refine z05 [.int .i64 0] zgr hcv rfl z01 fun K1 l1=>?_
 simp only [cns]
 refine ⟨fun g=>by simp [evs,arI,zb5] at g,fun _=>⟨fun g=>?_,fun _=>?_⟩⟩
 ·simp only [evs,arI,zb5] at g
  simp only [Bool.or_eq_true,zdt] at g
  omega
 refine z04 Z61 (hgen K1 l1) ?_
 rintro _ K2 ⟨l2,v,sv,rfl,hv,hs⟩
 obtain ⟨vb,vc,rfl⟩:=hv.sl
 obtain ⟨sb,sc,rfl⟩:=hs.sl
 refine ⟨_,[.slice vb l.length vc,.slice sb syms.length sc,.int .i64 0],rfl,rfl,rfl,z01,?_⟩
 simp only [cns]
 refine ⟨fun g=>by simp [evs,arI,zb5] at g,fun _=>?_⟩
 refine z04 Z6e (Z6u K2) ?_
 rintro _ K3 ⟨v3,rfl,s3,l3⟩
 obtain ⟨b3,d3,hv3⟩:=s3.sl
 refine ⟨_,[v3],rfl,by rw [hv3];rfl,rfl,z01,?_⟩
 simp only [cns]
 refine z04 Z6n (Z7g K3) ?_
 rintro _ K4 ⟨v4,rfl,s4,l4⟩
 obtain ⟨b4,d4,hv4⟩:=s4.sl
 refine ⟨_,[v4],rfl,by rw [hv4];rfl,rfl,z01,?_⟩
 simp only [cns]
 have l24:=zQt l3 l4
 refine z12 (α:=List ItemR) (l:=[rt_codeR,gc_codeR,l]) (b:=24) [v3,v4,.slice vb l.length vc] Ze5 Zaj rfl (by decide) (by decide) (Held.nil (zQr K4)) (by kernel_rfl) ?_ z01 fun v5 K5 h5 _ _=>?_
 ·refine .cons (csItemss.2 ⟨v3,?_,s3.le l4⟩) (.cons (csItemss.2 ⟨v4,?_,s4⟩) (.cons (csItemss.2 ⟨_,rfl,hv.le l24⟩) .nil))
  ·rw [hv3];rfl
  ·rw [hv4];rfl
 obtain ⟨S5,s5,l5,h5⟩:=h5.freeze
 simp only [cns]
 have hfl:[rt_codeR,gc_codeR,l].flatten=z4g l:=by simp [z4g]
 refine z04 z5a (Z3u [rt_codeR,gc_codeR,l] v5 K5 (s5.le h5.sh) (by rw [hfl];simp only [z4g,zla];omega)) ?_
 rw [hfl]
 rintro _ K6 ⟨l6,v6,rfl,s6⟩
 obtain ⟨b6,d6,hv6⟩:=s6.sl
 refine ⟨_,[v6],rfl,by rw [hv6];rfl,rfl,z01,?_⟩
 simp only [cns]
 refine z04 zsx (Z1z (z4g l) v6 K6 s6) ?_
 rw [hasm]
 rintro _ K7 ⟨w1,w2,rfl,t1,t2,l7⟩
 obtain ⟨b7,d7,hw1⟩:=t1.sl
 obtain ⟨b8,d8,hw2⟩:=t2.sl
 refine ⟨_,[w1,w2,.int .i64 0],rfl,by rw [hw1,hw2];rfl,rfl,z01,?_⟩
 simp only [cns]
 refine ⟨fun g=>by simp [evs,arI,zb5] at g,fun _=>?_⟩
 have hnil:=Held.nil (zQr K7)
 have a1:arI .add .i64 32 stack=32+stack:=w64 (by omega) (by omega)
 have a2:arI .add .i64 (32+stack) size=32+stack+size:=w64 (by omega) (by omega)
 have a3:arI .mul .i64 2 size=2 * size:=w64 (by omega) (by omega)
 have a4:arI .add .i64 (32+stack) (2 * size)=32+stack+2 * size:=w64 (by omega) (by omega)
 refine z1p (α:=Int) (b:=8) (n:=32) 0 rfl (fun S=>z7k) z0s zah (by kernel_rfl) (by kernel_rfl) (by decide) (by decide) hnil fun mv K8 h8 l8=>?_
 simp only [cns]
 obtain ⟨mb,mc,rfl⟩:=(h8.row (e:=3) (zms)).sl
 have hb:=((h8.row (e:=3) (zms)).slR h8.sh).get (i:=0) (a:=0) rfl
 obtain ⟨z1,_⟩:=hb
 have chk:∀{E:List Value} {s i:SV} {k:Int},ev0 E s=.slice mb (List.replicate 32 (0:Int)).length mc→ev0 E i=.int .i64 k→0≤k→k < 32→Chk.holds E (.inSl s i):=fun h1 h2 h3 h4=>by
  simp only [Chk.holds,h1,h2]
  exact ⟨z1,h3,by simp [slLen,iOf];omega⟩
 refine ⟨fun _=>chk rfl rfl (by decide) (by decide),?_⟩
 refine z1n (i:=28) (a:=0) (a':=32+stack) (us:=[.int .i64 (arI .add .i64 32 stack)]) (by kernel_rfl) h8 rfl rfl (by kernel_rfl) (by simp [oneC]) (by rw [a1];exact z0k (by unfold InI;omega)) fun K9 h9=>?_
 refine ⟨fun _=>chk rfl rfl (by decide) (by decide),?_⟩
 refine z1n (i:=29) (a:=0) (a':=32+stack+size) (us:=[.int .i64 (arI .add .i64 (arI .add .i64 32 stack) size)]) (by kernel_rfl) h9 rfl rfl (by kernel_rfl) (by simp [oneC]) (by rw [a1,a2];exact z0k (by unfold InI;omega)) fun Ka ha=>?_
 refine ⟨fun _=>chk rfl rfl (by decide) (by decide),?_⟩
 refine z1n (i:=30) (a:=0) (a':=32+stack+size) (us:=[.int .i64 (arI .add .i64 (arI .add .i64 32 stack) size)]) (by kernel_rfl) ha rfl rfl (by kernel_rfl) (by simp [oneC]) (by rw [a1,a2];exact z0k (by unfold InI;omega)) fun Kb hb=>?_
 refine ⟨fun _=>chk rfl rfl (by decide) (by decide),?_⟩
 refine z1n (i:=31) (a:=0) (a':=32+stack+2 * size) (us:=[.int .i64 (arI .add .i64 (arI .add .i64 32 stack) (arI .mul .i64 2 size))]) (by kernel_rfl) hb rfl rfl (by kernel_rfl) (by simp [oneC]) (by rw [a1,a3,a4];exact z0k (by unfold InI;omega)) fun Kc hc'=>?_
 obtain ⟨Sd,t3,t4,t5⟩:=hc'.freeze
 have l27:=zQt l24 (zQt l5 (zQt h5.sh (zQt l6 l7)))
 have l7e:=zQt t4 t5.sh
 refine ⟨zQt l1 (zQt l2 (zQt l27 l7e)),w1,.slice mb (List.replicate 32 (0:Int)).length mc,.slice sb syms.length sc,?_,t1.le l7e,t3.le t5.sh,hs.le (zQt l27 l7e)⟩
 have e1:32+stack+2 * size=arI .add .i64 (arI .add .i64 32 stack) (arI .mul .i64 2 size):=by rw [a1,a3,a4]
 rw [e1]
 show Ending.returned _=Ending.returned _
 kernel_rfl
theorem Z2o (c:CodeX) (cv:Value) (stack size:Int) (S:PH) (hc:SlR S c cv) (hck:z3l c=0) (hfit:∀p∈c,∀b∈p.blocks,b.ins.length≤4611686018427387904) (hsz:size < 0∨131072 < size) :
  Gives Tryz.prog z5i [.agg #[cv],.int .i64 stack,.int .i64 size] S (.tuple #[.agg #[.slice none 0 0,.slice none 0 0,.int .i64 0],.slice none 0 0,.int .i64 251]):=by
 have hcv:=zdy c cv S hc hfit
 rw [hck] at hcv
 obtain ⟨cb,cc,rfl⟩:=hc.sl
 refine zhd [.slice cb c.length cc,.int .i64 stack,.int .i64 size] (by kernel_rfl) (by kernel_rfl) ?_
 refine z05 [.int .i64 0] zgr hcv rfl z01 fun K1 l1=>?_
 simp only [cns]
 refine ⟨fun g=>by simp [evs,arI,zb5] at g,fun _=>⟨fun g=>⟨rfl,l1⟩,fun g=>?_⟩⟩
 simp only [evs,arI,zb5] at g
 simp only [zof,zdf] at g
 omega
theorem Zdl {l:List Int} (h:l.length=32):∃a0 a1 a2 a3 a4 a5 a6 a7 a8 a9 b0 b1 b2 b3 b4 b5 b6 b7 b8 b9 c0 c1 c2 c3 c4 c5 c6 c7 c8 c9 d0 d1,l=[a0,a1,a2,a3,a4,a5,a6,a7,a8,a9,b0,b1,b2,b3,b4,b5,b6,b7,b8,b9,c0,c1,c2,c3,c4,c5,c6,c7,c8,c9,d0,d1]:=by
 match l,h with
 | [a0,a1,a2,a3,a4,a5,a6,a7,a8,a9,b0,b1,b2,b3,b4,b5,b6,b7,b8,b9,c0,c1,c2,c3,c4,c5,c6,c7,c8,c9,d0,d1],_=>exact ⟨_,_,_,_,_,_,_,_,_,_,_,_,_,_,_,_,_,_,_,_,_,_,_,_,_,_,_,_,_,_,_,_,rfl⟩
set_option maxHeartbeats 1000000 in
theorem Z50 (l:List ItemR) (syms:List (List UInt8)) (cv:Value) (stack size:Int) (input:List UInt8) (steps:Int) (S:PH) (hst:0≤stack∧stack≤131072) (hsz:0≤size∧size≤131072) (h0:0≤steps) (h1:steps≤1099511627776) (hcv:∃b n c,cv=.slice b n c)
  (hb:Tri Tryz.prog z5i #[.agg #[cv],.int .i64 stack,.int .i64 size] S fun e K'=>PH.le S K'∧ImgAt l syms stack size e K') :
  Tri Tryz.prog zsd #[.agg #[cv],.int .i64 stack,.int .i64 size,txt input,.int .i64 steps] S fun e K'=>PH.le S K'∧OutAt (outR (runR (imgR (z4g l) stack size) input steps) syms) e K':=by
 obtain ⟨cb,cn,cc,rfl⟩:=hcv
 refine zm7 [.slice cb cn cc,.int .i64 stack,.int .i64 size,txt input,.int .i64 steps] (by kernel_rfl) (by kernel_rfl) ?_
 refine ⟨fun g=>?_,fun _=>?_⟩
 ·simp only [evs,arI,zb5,zdt] at g
  omega
 refine z04 zko hb ?_
 rintro _ K1 ⟨l1,kv,mv,sv,rfl,s1,s2,s3⟩
 obtain ⟨b1,d1,hkv⟩:=s1.sl
 obtain ⟨b2,d2,hmv⟩:=s2.sl
 obtain ⟨b3,d3,hsv⟩:=s3.sl
 refine ⟨_,[kv,mv,.int .i64 (32+stack+2 * size),sv,.int .i64 0],rfl,by rw [hkv,hmv,hsv];rfl,rfl,z01,?_⟩
 simp only [cns]
 refine ⟨fun g=>by simp [evs,arI,zb5] at g,fun _=>?_⟩
 refine z04 Z2x (Zd9 (imgR (z4g l) stack size) input steps kv mv K1 s1 s2 h1 (by intro h;have:=congrArg List.length h;simp [imgR,memR] at this)) ?_
 have hml:=Zbp (imgR (z4g l) stack size) input steps
 generalize runR (imgR (z4g l) stack size) input steps=h at hml
 obtain ⟨o,ho⟩:∃o,o=outR h syms:=⟨_,rfl⟩
 rw [←ho]
 rintro _ K2 ⟨mv',l2,rfl,hm',hrl,hri⟩
 obtain ⟨a0,a1,a2,a3,a4,a5,a6,a7,a8,a9,b0,b1',b2',b3',b4,b5,b6,b7,b8,b9,c0,c1,c2,c3,c4,c5,c6,c7,c8,c9,e0,e1,hreg⟩:=Zdl hrl
 obtain ⟨mb,mc,hmv'⟩:=hm'.sl
 obtain ⟨st,va,ou,sp,pc,rg,me⟩:=h
 simp only at hreg hm' hml hri hmv'
 subst hreg
 unfold outR at ho
 refine ⟨_,haltV ⟨st,va,ou,sp,pc,_,me⟩ mv',rfl,by rw [hmv'];rfl,rfl,z01,?_⟩
 simp only [haltV,List.map_cons,List.map_nil,List.cons_append,List.nil_append]
 have hle:=zQt l1 l2
 have none_:∀K:PH,Dat.Rep K (.mk 0 0 [] []) [.int .i64 0,.int .i64 0,txt [],.slice none 0 0]:=fun K=>z3f (by decide) (by decide) (by decide)
 refine ⟨fun vs K=>PH.le S K∧∃dv,vs=[.int .i64 o.err,txt o.out,.int .i64 o.shown.kind,.int .i64 o.shown.int,txt o.shown.text,dv,.bool o.whole,.int .i64 o.steps]∧o.shown.Rep K [.int .i64 o.shown.kind,.int .i64 o.shown.int,txt o.shown.text,dv],?_,fun g=>?_,fun g=>?_⟩
 ·rintro vs K _ ⟨hl,dv,rfl,hd⟩
  exact ⟨hl,dv,rfl,hd⟩
 ·simp only [evs,arI,zb5,zdt] at g
  simp only at ho
  rw [if_pos g] at ho
  subst ho
  exact ⟨_,z00,hle,_,rfl,none_ K2⟩
 simp only [evs,arI,zb5,zdf] at g
 simp only at ho
 rw [if_neg g] at ho
 refine ⟨fun g2=>?_,fun g2=>?_⟩
 rotate_left
 ·simp only [evs,arI,zb5,zdf] at g2
  rw [if_neg g2] at ho
  subst ho
  exact ⟨_,z00,hle,_,rfl,none_ K2⟩
 simp only [evs,arI,zb5,zdt] at g2
 rw [if_pos g2] at ho
 refine ⟨fun g3=>?_,fun g3=>?_⟩
 rotate_left
 ·simp only [evs,arI,zb5,zdf] at g3
  rw [if_neg g3] at ho
  subst ho
  exact ⟨_,z00,hle,_,rfl,none_ K2⟩
 simp only [evs,arI,zb5,zdt] at g3
 rw [if_pos g3] at ho
 refine z04 zdp (zja me syms mv' sv a1 K2 hm' (s3.le l2) (hri a1 (by simp)) (by omega)) ?_
 rintro _ K3 ⟨l3,cs,rfl,hd⟩
 obtain ⟨tv,rfl,r1,r2,r3,r4⟩:=Dat.Rep_iff.1 hd
 obtain ⟨tb,tc,rfl⟩:=SlR.sl r4
 simp only [List.getD_cons_succ,List.getD_cons_zero] at ho
 generalize hsh:(telX me syms a1).getD (.mk 0 0 [] [])=sh at hd r1 r2 r3 r4 ho
 generalize hwh:(telX me syms a1).isSome=wh at ho
 refine ⟨_,[.int .i64 sh.kind,.int .i64 sh.int,txt sh.text,.slice tb sh.list.length tc,.bool wh],rfl,rfl,rfl,z01,?_⟩
 simp only [cns]
 subst ho
 refine ⟨_,z00,zQt hle l3,.slice tb sh.list.length tc,?_,hd⟩
 rw [←g3];rfl
theorem Z0k {S:PH} {d:Dat} {dv:Value} (h:d.Rep S [.int .i64 d.kind,.int .i64 d.int,txt d.text,dv]):∃b c,dv=.slice b d.list.length c:=by
 obtain ⟨tv,e,_,_,_,r4⟩:=Dat.Rep_iff.1 h
 simp only [List.cons.injEq,and_true,true_and] at e
 rw [e]
 exact SlR.sl r4
theorem Zcn (cv:Value) (stack size e:Int) (input:List UInt8) (steps:Int) (S:PH) (h0:0≤steps) (he:e≠0) (hcv:∃b n c,cv=.slice b n c)
  (hb:Gives Tryz.prog z5i [.agg #[cv],.int .i64 stack,.int .i64 size] S (.tuple #[.agg #[.slice none 0 0,.slice none 0 0,.int .i64 0],.slice none 0 0,.int .i64 e])) :
  Tri Tryz.prog zsd #[.agg #[cv],.int .i64 stack,.int .i64 size,txt input,.int .i64 steps] S fun x K'=>PH.le S K'∧OutAt ⟨e,[],.mk 0 0 [] [],false,0⟩ x K':=by
 obtain ⟨cb,cn,cc,rfl⟩:=hcv
 refine zm7 [.slice cb cn cc,.int .i64 stack,.int .i64 size,txt input,.int .i64 steps] (by kernel_rfl) (by kernel_rfl) ?_
 refine ⟨fun g=>?_,fun _=>?_⟩
 ·simp only [evs,arI,zb5,zdt] at g
  omega
 refine z05 [.slice none 0 0,.slice none 0 0,.int .i64 0,.slice none 0 0,.int .i64 e] zko hb rfl z01 fun K1 l1=>?_
 simp only [cns]
 refine ⟨fun g=>⟨l1,Z6o⟩,fun g=>?_⟩
 simp only [evs,arI,zb5,zdf] at g
 exact absurd (by simpa using g) he
theorem zol (n:Int) (H:PH):Gives Tryz.prog zj1 [.int .i64 n] H (.agg #[.int .i64 1,.int .i64 n,txt [],.slice none 0 0]):=by
 refine zgc [.int .i64 n] (by kernel_rfl) (by kernel_rfl) ?_
 exact ⟨rfl,zQr _⟩
theorem Z74:Z9e (runR (imgR z5e 50 10) [] 100000)=true:=by kernel_rfl
theorem Z31:(fun h:HaltR=>decide (h.state=0) && decide (h.value=95)) (runR (imgR z5e 50 1) [] 100000)=true:=by kernel_rfl
theorem Zd2 (mem:List Int):telX mem [] 40=some (.mk 1 5 [] []):=by
 unfold telX
 rw [telW,if_neg (by decide),if_pos (by decide)];rfl
theorem Zcp:telX [87,8,18] [] 1=some (.mk 7 0 [] [.mk 1 1 [] []]):=by kernel_rfl
theorem Za3:∃out steps,outR (runR (imgR (z4g (z2x 10 10001 40)) 50 10) [] 100000) []=⟨0,out,.mk 1 5 [] [],true,steps⟩:=by
 have h:=Z74
 show ∃out steps,outR (runR (imgR z5e 50 10) [] 100000) []=_
 generalize runR (imgR z5e 50 10) [] 100000=r at h
 unfold Z9e at h
 simp only [zba,zdt] at h
 obtain ⟨⟨h1,h2⟩,h3⟩:=h
 refine ⟨r.out,r.steps,?_⟩
 unfold outR
 rw [if_neg (by omega),if_pos h1,if_pos h2,h3,Zd2];rfl
theorem Z5v:∃out steps,outR (runR (imgR (z4g (z2x 10 10001 40)) 50 1) [] 100000) []=⟨95,out,.mk 0 0 [] [],false,steps⟩:=by
 have h:=Z31
 show ∃out steps,outR (runR (imgR z5e 50 1) [] 100000) []=_
 generalize runR (imgR z5e 50 1) [] 100000=r at h
 simp only [zba,zdt] at h
 obtain ⟨h1,h2⟩:=h
 refine ⟨r.out,r.steps,?_⟩
 unfold outR
 rw [if_neg (by omega),if_pos h1,if_neg (by omega),h2]
theorem Z6p:errA (asmR (z4g (z2x 10 10001 40)))=0:=of_decide_eq_true Zb0
theorem zqw (cv:Value) (S:PH) (hc:SlR S [fiveP] cv) (size:Int) (hsz:0≤size∧size≤131072):Tri Tryz.prog z5i #[.agg #[cv],.int .i64 50,.int .i64 size] S fun e K'=>PH.le S K'∧ImgAt (z2x 10 10001 40) [] 50 size e K':=by
 refine Z87 [fiveP] cv 50 size (z2x 10 10001 40) [] S hc zjq five_least.short (by decide) hsz (fun K hK=>?_) (by decide) Z6p
 refine (Z8x five_least zjq cv 50 K (hc.le hK) (by decide)).mono ?_
 rintro x K' ⟨l',_,h⟩
 obtain ⟨v,rfl,hv⟩:=h (by omega)
 rw [Za6] at hv
 exact ⟨l',v,.slice none 0 0,rfl,hv,SlR.mk_iff.2 ⟨by simp [maxLen],.inl ⟨rfl,rfl⟩⟩⟩
set_option maxHeartbeats 1000000 in
theorem zyr (S:PH):Gives Tryz.prog zg9 [] S (.bool true):=by
 refine zdg [] (by kernel_rfl) (by kernel_rfl) ?_
 refine z05 [.int .i64 1,.int .i64 5,txt [],.slice none 0 0] z8b (zol 5 S) rfl z01 fun K1 l1=>?_
 simp only [cns]
 refine z12 (α:=InsX) (l:=[fiveY]) (b:=112) [.agg (inV fiveY (.slice none 0 0) (.slice none 0 0)).toArray] Zfb Zcv rfl (by decide) (by decide) (Held.nil l1) (by kernel_rfl) (.cons (Zbl S) .nil) z01 fun v2 K2 h2 _ _=>?_
 obtain ⟨S2,s2,l2,h2⟩:=h2.freeze
 simp only [cns]
 refine z12 (α:=BlkX) (l:=[⟨[fiveY],fiveE⟩]) (b:=88) [.agg (v2::enV fiveE (.slice none 0 0)).toArray] Zfa Zd5 rfl (by decide) (by decide) h2 (by kernel_rfl) (.cons (blk_iff.2 ⟨_,_,rfl,s2,Zbq S2⟩) .nil) z01 fun v3 K3 h3 _ _=>?_
 obtain ⟨S3,s3,l3,h3⟩:=h3.freeze
 simp only [cns]
 refine z12 (α:=PrcX) (l:=[fiveP]) (b:=48) [.agg #[.int .i64 0,.int .i64 0,.int .i64 1,v3]] Zed Z9a rfl (by decide) (by decide) h3 (by kernel_rfl) (.cons (prc_iff.2 ⟨_,rfl,by decide,by decide,by decide,s3⟩) .nil) z01 fun v4 K4 h4 _ _=>?_
 obtain ⟨S4,s4,l4,h4⟩:=h4.freeze
 simp only [cns]
 have c4:SlR K4 [fiveP] v4:=s4.le h4.sh
 have lS4:PH.le S K4:=zQt l2 (zQt l3 (zQt l4 h4.sh))
 obtain ⟨b4,d4,hv4⟩:=c4.sl
 obtain ⟨oA,sA,hA⟩:=Za3
 obtain ⟨oB,sB,hB⟩:=Z5v
 have hsl:∃b n c,v4=.slice b n c:=⟨_,_,_,hv4⟩
 refine z04 zgq (Z50 (z2x 10 10001 40) [] v4 50 10 [] 100000 K4 (by decide) (by decide) (by decide) (by decide) hsl (zqw v4 K4 c4 10 (by decide))) ?_
 rw [hA]
 rintro _ K5 ⟨l5,dv,rfl,hd⟩
 obtain ⟨tb,tc,rfl⟩:=Z0k hd
 refine ⟨_,[.int .i64 0,txt oA,.int .i64 1,.int .i64 5,txt [],.slice tb 0 tc,.bool true,.int .i64 sA],rfl,rfl,rfl,z01,?_⟩
 simp only [cns]
 refine z04 zgq (Z50 (z2x 10 10001 40) [] v4 50 1 [] 100000 K5 (by decide) (by decide) (by decide) (by decide) hsl (zqw v4 K5 (c4.le l5) 1 (by decide))) ?_
 rw [hB]
 rintro _ K6 ⟨l6,dv,rfl,hd6⟩
 obtain ⟨tb6,tc6,rfl⟩:=Z0k hd6
 refine ⟨_,[.int .i64 95,txt oB,.int .i64 0,.int .i64 0,txt [],.slice tb6 0 tc6,.bool false,.int .i64 sB],rfl,rfl,rfl,z01,?_⟩
 simp only [cns]
 have l46:=zQt l5 l6
 refine z12 (α:=Int) (l:=[87,8,18]) (b:=8) [.int .i64 87,.int .i64 8,.int .i64 18] z0s z0v rfl (by decide) (by decide) (Held.nil (zQr K6)) (by kernel_rfl) (.cons (z0k (by decide)) (.cons (z0k (by decide)) (.cons (z0k (by decide)) .nil))) z01 fun v7 K7 h7 _ _=>?_
 obtain ⟨S7,s7,l7,h7⟩:=h7.freeze
 simp only [cns]
 have hl7:=zQt l7 h7.sh
 have hT:=zja [87,8,18] [] v7 (.slice none 0 0) 1 K7 (s7.le h7.sh) (SlR.mk_iff.2 ⟨by simp [maxLen],.inl ⟨rfl,rfl⟩⟩) (by decide) (by decide)
 rw [Zcp] at hT
 refine z04 zdp hT ?_
 rintro _ K8 ⟨l8,cs,rfl,hd8⟩
 obtain ⟨tv,rfl,r1,r2,r3,r4⟩:=Dat.Rep_iff.1 hd8
 obtain ⟨tb8,tc8,rfl⟩:=SlR.sl r4
 refine ⟨_,[.int .i64 7,.int .i64 0,txt [],.slice tb8 1 tc8,.bool true],rfl,rfl,rfl,z01,?_⟩
 simp only [cns]
 have l48:=zQt l46 (zQt hl7 l8)
 refine z04 zgq (Zcn v4 50 (-1) 251 [] 1000 K8 (by decide) (by decide) hsl (Z2o [fiveP] v4 50 (-1) K8 (c4.le l48) zjq five_least.short (by decide))) ?_
 rintro _ K9 ⟨l9,dv,rfl,hd9⟩
 obtain ⟨tb9,tc9,rfl⟩:=Z0k hd9
 refine ⟨_,[.int .i64 251,txt [],.int .i64 0,.int .i64 0,txt [],.slice tb9 0 tc9,.bool false,.int .i64 0],rfl,rfl,rfl,z01,?_⟩
 simp only [cns]
 have lS9:=zQt lS4 (zQt l48 l9)
 refine ⟨fun vs K=>PH.le S K∧vs=[.bool true],?_,fun g=>?_,fun g=>by simp [evs,arI,zb5] at g⟩
 ·rintro vs K _ ⟨hl,rfl⟩
  exact ⟨rfl,hl⟩
 refine z05 [.int .i64 1,.int .i64 5,txt [],.slice none 0 0] z8b (zol 5 K9) rfl z01 fun Ka la=>?_
 simp only [cns]
 have l5a:=zQt (zQt l6 (zQt hl7 (zQt l8 l9))) la
 have hsame:=zrj (.mk 1 5 [] []) (.mk 1 5 [] []) _ _ Ka (Dat.Rep.le l5a _ hd) (z3f (k:=1) (n:=5) (t:=[]) (by decide) (by decide) (by decide))
 refine z05 [.bool true] z48 (by rw [decide_eq_true rfl] at hsame;exact hsame) rfl z01 fun Kb lb=>?_
 simp only [cns]
 exact ⟨_,z00,zQt lS9 (zQt la lb),by kernel_rfl⟩
theorem zr4 (mem:List Int) (w:Int) (syms:List (List UInt8)) (mv sv:Value) (H:PH) (hm:SlR H mem mv) (hs:SlR H syms sv) (hw:InI w) (hfew:mem.length≤140737488355328):Gives Tryz.prog zab [mv,.int .i64 w,sv] H (.bool true):=by
 have h1:=zja mem syms mv sv w H hm hs hw hfew
 have h2:=fun (K:PH) (h:PH.le H K)=>Z6s mem syms mv sv w K (hm.le h) (hs.le h) hw hfew
 obtain ⟨mb,mc,rfl⟩:=hm.sl
 obtain ⟨sb,sc,rfl⟩:=hs.sl
 refine z91 [.slice mb mem.length mc,.int .i64 w,.slice sb syms.length sc] (by kernel_rfl) (by kernel_rfl) ?_
 generalize telX mem syms w=T at h1 h2
 refine z04 zdp h1 ?_
 rintro _ K1 ⟨l1,cs,rfl,hd1⟩
 generalize T.getD (.mk 0 0 [] [])=d at hd1 h2
 obtain ⟨tv,rfl,r1,r2,r3,r4⟩:=Dat.Rep_iff.1 hd1
 obtain ⟨tb,tc,rfl⟩:=SlR.sl r4
 refine ⟨_,[.int .i64 d.kind,.int .i64 d.int,txt d.text,.slice tb d.list.length tc,.bool T.isSome],rfl,rfl,rfl,z01,?_⟩
 simp only [cns]
 refine z04 zfr (h2 K1 l1) ?_
 rintro _ K2 ⟨l2,cs,rfl,hd2⟩
 obtain ⟨tv2,rfl,q1,q2,q3,q4⟩:=Dat.Rep_iff.1 hd2
 obtain ⟨tb2,tc2,rfl⟩:=SlR.sl q4
 refine ⟨_,[.int .i64 d.kind,.int .i64 d.int,txt d.text,.slice tb2 d.list.length tc2,.bool T.isSome],rfl,rfl,rfl,z01,?_⟩
 simp only [cns]
 refine ⟨fun vs K=>PH.le H K∧vs=[.bool true],?_,?_⟩
 ·rintro vs K _ ⟨hl,rfl⟩
  exact ⟨rfl,hl⟩
 refine z05 [.bool true] zej (zyr K2) rfl z01 fun K3 l3=>?_
 simp only [cns]
 refine ⟨fun g=>?_,fun g=>?_⟩
 ·have hsame:=zrj d d _ _ K3 (Dat.Rep.le (zQt l2 l3) _ hd1) (Dat.Rep.le l3 _ hd2)
  refine z05 [.bool true] z48 (by rw [decide_eq_true rfl] at hsame;exact hsame) rfl z01 fun K4 l4=>?_
  exact ⟨_,z00,zQt l1 (zQt l2 (zQt l3 l4)),by kernel_rfl⟩
 ·simp [evs,arI,zb5] at g
end Go.Proofs.YtfkclejklgoccaaGreat.Vc
namespace Go.Proofs.YtfkclejklgoccaaGreat.Vc
open Go Go.ChangeShapes Go.WideShapes Go.ChangeAt Go.RowKit
theorem Za2 (l:List Int):sumWt (fun _:Int=>1) l=l.length:=by
 induction l with
 | nil=>rfl
 | cons a l ih=>simp only [sumWt,ih,zlc];omega
theorem Z9m {H:Type} {enc:TypeId×Value→H} {w:World} {v:Value} {d:DataW H} {p:List MemPlace} {r:_root_.Go.Reach} {b:Nat} (hval:Value.okWide Tryz.prog w r b 29 v) (h:DataW.Trod enc Tryz.prog w 0 (fun _=>true) true 29 v d p) :
  ∃l:List Int,SlR (whole w) l v∧l.length+1≤Rows.uptoBulk d:=by
 obtain ⟨a,len,cap,rfl⟩:=okWide_slice uMemJ hval
 obtain ⟨fuel,h⟩:=h
 obtain ⟨l,v,e,h1,h2⟩:=zos (α:=Int) uMemJ cInt (fun j _=>Zam uInt j) h
 have:v=.slice a len cap:=by simpa [Value.cells] using e.symm
 subst this
 exact ⟨l,h1,by rw [←Za2];exact h2⟩
end Go.Proofs.YtfkclejklgoccaaGreat.Vc
