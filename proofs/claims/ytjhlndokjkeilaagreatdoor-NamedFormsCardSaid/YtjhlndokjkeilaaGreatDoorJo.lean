import Derived.Test.YtjhlndokjkeilaaGreatDoorJn
set_option linter.unusedSimpArgs false
set_option linter.unusedVariables false
set_option maxRecDepth 100000
namespace Go.Proofs.YtjhlndokjkeilaaGreatDoor.Vc
open Go
def Keep (m m':AX):Prop:=(HeapOk m.h→HeapOk m'.h)∧m'.steps=m.steps∧m'.most=m.most
theorem z0k {m m':AX} (h1:m'.h=m.h) (h2:m'.steps=m.steps) (h3:m'.most=m.most):Keep m m':=⟨fun h=>h1 ▸ h,h2,h3⟩
theorem Keep.trans {a b c:AX} (h:Keep a b) (k:Keep b c):Keep a c:=⟨fun x=>k.1 (h.1 x),k.2.1.trans h.2.1,k.2.2.trans h.2.2⟩
theorem zz4 (m:AX) (p:PrX):Keep m (m.proc p).1:=⟨fun h=>(zw0 h (by decide) (by simp) (by decide) (by decide) (by decide) (by simp)).1,rfl,rfl⟩
theorem zym {m m':AX} {v:VX} {args:List VX} (h:m.call v args=some m'):Keep m m':=by
 unfold AX.call at h
 split at h
 ·cases h
 split at h
 ·simp only [Option.some.injEq] at h;subst h;exact z0k rfl rfl rfl
 simp only at h
 split at h
 ·split at h
  ·cases h
  ·split at h
   ·simp only [Option.some.injEq] at h;subst h;exact z0k rfl rfl rfl
   ·simp only [Option.some.injEq] at h;subst h;exact z0k rfl rfl rfl
 split at h
 ·simp only [Option.some.injEq] at h;subst h;exact z0k rfl rfl rfl
 split at h
 ·cases h
 ·obtain ⟨b,_,rfl⟩:=Option.map_eq_some_iff.1 h
  exact z0k rfl rfl rfl
theorem zyr {m m':AX} {p:List UInt8} {args:List VX} (h:m.prim p args=some m'):Keep m m':=by
 unfold AX.prim at h
 split at h
 ·split at h
  ·simp only [Option.some.injEq] at h;subst h;exact z0k rfl rfl rfl
  ·simp only [Option.some.injEq] at h;subst h;exact z0k rfl rfl rfl
 split at h
 ·obtain ⟨b,_,rfl⟩:=Option.map_eq_some_iff.1 h
  split
  ·exact z0k rfl rfl rfl
  ·split
   ·exact z0k rfl rfl rfl
   ·exact z0k rfl rfl rfl
 split at h
 ·simp only [Option.some.injEq] at h;subst h;exact z0k rfl rfl rfl
 split at h
 ·simp only [Option.some.injEq] at h;subst h;exact z0k rfl rfl rfl
 split at h
 ·obtain ⟨b,_,rfl⟩:=Option.map_eq_some_iff.1 h
  exact z0k rfl rfl rfl
 split at h
 ·cases h
 ·simp only [Option.some.injEq] at h;subst h
  exact ⟨fun hh=>(zyt hh p args).1,rfl,rfl⟩
def Keep1 (m m':AX):Prop:=(HeapOk m.h→HeapOk m'.h)∧(m.steps≤m.most→m'.steps≤m'.most)∧m'.most=m.most
theorem Keep.one {m m':AX} (h:Keep m m'):Keep1 m m':=⟨h.1,fun x=>by rw [h.2.1,h.2.2];exact x,h.2.2⟩
theorem zyl {m m':AX} {e:Xp} {env:List VarX} (h:m.eval e env=some m'):Keep1 m m':=by
 unfold AX.eval at h
 by_cases hne:m.steps=m.most
 ·rw [if_pos hne] at h
  simp only [Option.some.injEq] at h;subst h;exact (z0k rfl rfl rfl).one
 rw [if_neg hne] at h
 by_cases hbig:1000000 < e.kids.length∨1000000 < e.names.length∨4294967296 < env.length
 ·rw [if_pos hbig] at h;cases h
 rw [if_neg hbig] at h
 have kk:∀m2:AX,Keep { m with steps:=m.steps+1 } m2→Keep1 m m2:=fun m2 k=>⟨k.1,fun hs=>by rw [k.2.1,k.2.2];show m.steps+1≤m.most;omega,k.2.2⟩
 obtain ⟨q,hq⟩:∃q:AX,{ m with steps:=m.steps+1 }=q:=⟨_,rfl⟩
 rw [hq] at kk
 simp only [hq] at h
 by_cases k0:e.kind=0
 ·rw [if_pos k0] at h
  simp only [Option.some.injEq] at h;subst h;exact kk _ (z0k rfl rfl rfl)
 rw [if_neg k0] at h
 by_cases k1:e.kind=1
 ·rw [if_pos k1] at h
  obtain ⟨b,_,rfl⟩:=Option.map_eq_some_iff.1 h
  exact kk _ (z0k rfl rfl rfl)
 rw [if_neg k1] at h
 by_cases k2:e.kind=2
 ·rw [if_pos k2] at h
  obtain ⟨b,_,rfl⟩:=Option.map_eq_some_iff.1 h
  exact kk _ (z0k rfl rfl rfl)
 rw [if_neg k2] at h
 by_cases k3:e.kind=3
 ·rw [if_pos k3] at h
  obtain ⟨b,_,rfl⟩:=Option.map_eq_some_iff.1 h
  exact kk _ (z0k rfl rfl rfl)
 rw [if_neg k3] at h
 by_cases k4:e.kind=4
 ·rw [if_pos k4] at h
  obtain ⟨b,_,rfl⟩:=Option.map_eq_some_iff.1 h
  exact kk _ (z0k rfl rfl rfl)
 rw [if_neg k4] at h
 by_cases k5:e.kind=5
 ·rw [if_pos k5] at h
  simp only [Option.some.injEq] at h;subst h
  exact kk _ ((zz4 q ⟨0,e,env,false,[],[]⟩).trans (z0k rfl rfl rfl))
 rw [if_neg k5] at h
 by_cases k6:e.kind=6
 ·rw [if_pos k6] at h
  simp only [Option.some.injEq] at h;subst h;exact kk _ (z0k rfl rfl rfl)
 rw [if_neg k6] at h
 by_cases k7:e.kind=7
 ·rw [if_pos k7] at h
  simp only [Option.some.injEq] at h;subst h;exact kk _ (z0k rfl rfl rfl)
 rw [if_neg k7] at h
 by_cases k8:e.kind=8
 ·rw [if_pos k8] at h
  by_cases hz:e.kids.length=0
  ·rw [if_pos hz] at h;cases h
  ·rw [if_neg hz] at h
   simp only [Option.some.injEq] at h;subst h;exact kk _ (z0k rfl rfl rfl)
 rw [if_neg k8] at h
 by_cases k9:e.kind=9∨e.kind=10
 ·rw [if_pos k9] at h
  unfold AX.recA at h
  cases hk:e.kids[e.names.length]? with
  | none=>rw [hk] at h;cases h
  | some b=>
   rw [hk] at h
   simp only [Option.some.injEq] at h;subst h;exact kk _ (z0k rfl rfl rfl)
 ·rw [if_neg k9] at h
  simp only [Option.some.injEq] at h;subst h;exact kk _ (z0k rfl rfl rfl)
theorem z7t {m:AX} {n:Nat} {r:AX×List VX} (h:m.pop n=some r):Keep m r.1:=by
 unfold AX.pop at h
 split at h
 ·simp only [Option.some.injEq] at h;subst h;exact z0k rfl rfl rfl
 ·cases h
theorem zzf {m m':AX} (h:m.next=some m'):Keep1 m m':=by
 unfold AX.next at h
 split at h
 ·split at h
  ·cases h
  ·rename_i t _
   have k0:∀m2:AX,Keep1 { m with todo:=m.todo.dropLast } m2→Keep1 m m2:=fun m2 k=>k
   refine k0 _ ?_
   generalize ({ m with todo:=m.todo.dropLast }:AX)=q at h
   unfold AX.act at h
   split at h
   ·exact zyl h
   split at h
   ·obtain ⟨r,hr,rfl⟩:=Option.map_eq_some_iff.1 h
    exact (z7t hr).one
   split at h
   ·obtain ⟨r,hr,h2⟩:=Option.bind_eq_some_iff.1 h
    obtain ⟨k,_,rfl⟩:=Option.map_eq_some_iff.1 h2
    exact ((z7t hr).trans (z0k rfl rfl rfl)).one
   split at h
   ·obtain ⟨r,hr,h2⟩:=Option.bind_eq_some_iff.1 h
    obtain ⟨k,_,rfl⟩:=Option.map_eq_some_iff.1 h2
    exact ((z7t hr).trans (z0k rfl rfl rfl)).one
   split at h
   ·split at h
    ·cases h
    ·obtain ⟨r,hr,h2⟩:=Option.bind_eq_some_iff.1 h
     exact ((z7t hr).trans (zym h2)).one
   split at h
   ·obtain ⟨r,hr,h2⟩:=Option.bind_eq_some_iff.1 h
    exact ((z7t hr).trans (zyr h2)).one
   split at h
   ·split at h
    ·cases h
    ·obtain ⟨r,hr,h2⟩:=Option.bind_eq_some_iff.1 h
     obtain ⟨k,_,rfl⟩:=Option.map_eq_some_iff.1 h2
     exact ((z7t hr).trans (z0k rfl rfl rfl)).one
   split at h
   ·obtain ⟨r,hr,h2⟩:=Option.bind_eq_some_iff.1 h
    obtain ⟨k,_,rfl⟩:=Option.map_eq_some_iff.1 h2
    exact ((z7t hr).trans (z0k rfl rfl rfl)).one
   ·simp only [Option.some.injEq] at h;subst h;exact (z0k rfl rfl rfl).one
 ·cases h
theorem zqw {E:List Value} {H:PH} {p:SV} {ss:List SV} {pend:List (SV×List SV)} (h:rowAt H (pOf (ev0 E p)) (ss.map (ev0 E))) (t:z0m E H pend):z0m E H ((p,ss)::pend):=fun x hx=>by
 rcases List.mem_cons.1 hx with rfl | hx
 ·exact h
 ·exact t x hx
def runA (N:Nat) (e:Xp) (input:List UInt8) (steps:Int):Option OutX:=
 if steps < 0∨1000000 < steps then some ⟨1,[],dat0,false,0⟩
 else if (e.chk false 0 0).2≠0∨e.fr []≠[] then some ⟨94,[],dat0,false,0⟩
 else (AX.go N (AX.first e input steps.toNat)).bind AX.told
theorem zie (l:List (List UInt8)):(freeS l).length=0↔l=[]:=by
 constructor
 ·intro h
  cases l with
  | nil=>rfl
  | cons a l=>
   have h1:a∈freeS (a::l):=mem_freeS.2 (zms)
   rw [List.length_eq_zero_iff.1 h] at h1;cases h1
 ·rintro rfl
  rw [List.length_eq_zero_iff]
  apply List.eq_nil_iff_forall_not_mem.2
  intro a h
  rw [mem_freeS] at h;cases h
def ma0 (input:List UInt8) (N:Nat):MA:=⟨[],.slice none 0 0,[],.slice none 0 0,[],.slice none 0 0,input,[],.slice none 0 0,⟨4,0,[]⟩,0,N,[],.slice none 0 0,[],.slice none 0 0,0⟩
theorem Z33 (n:Nat) (m:AX):AX.go n m=if m.e≠0∨m.todo.isEmpty=true then some m else match n with
  | 0=>none
  | n+1=>match m.next with
   | none=>none
   | some m'=>AX.go n m':=by
 cases n<;>rfl
theorem zs4 (N:Nat) (e:Xp) (es:List Value) (input:List UInt8) (steps:Int) (H:PH) (he:e.Rep H es) (hst:InI steps) (o:OutX) (ho:runA N e input steps=some o) :
  Tri Tryz.prog zib #[.agg es.toArray,txt input,.int .i64 steps] H fun x H'=>PH.le H H'∧∃cs,x=.returned (.agg cs.toArray)∧o.Rep H' cs:=by
 have he':=he
 obtain ⟨nb,db,kb,nc,dc,kc,rfl,hx⟩:=Xp.Rep.open he
 refine zfm (exVs e nb db kb nc dc kc++[txt input,.int .i64 steps]) (by kernel_rfl) (by kernel_rfl) ?_
 simp only [List.cons_append,List.nil_append]
 unfold runA at ho
 refine ⟨fun g=>?_,fun g=>?_⟩
 ·have g':steps < 0∨1000000 < steps:=by simpa [ev0,ev,evV,List.cons_append,List.nil_append,List.getD_cons_zero,List.getD_cons_succ,List.map_cons,List.map_nil,iOf,bOf,sOf,pOf,slLen,z04,cmpI,arI,Value.ite_bool,z01,z02,z00,z03] using g
  rw [if_pos g'] at ho
  simp only [Option.some.injEq] at ho
  subst ho
  exact ⟨PH.le_refl _,_,rfl,zso 1 _⟩
 have g':¬(steps < 0∨1000000 < steps):=by
  simp [ev0,ev,evV,List.cons_append,List.nil_append,List.getD_cons_zero,List.getD_cons_succ,List.map_cons,List.map_nil,iOf,bOf,sOf,pOf,slLen,z04,cmpI,arI,Value.ite_bool,z01,z02,z00,z03] at g
  omega
 rw [if_neg g'] at ho
 refine ⟨fun vs K=>PH.le H K∧vs=[.bool (decide ((e.chk false 0 0).2≠0∨e.fr []≠[]))],?_,?_⟩
 rotate_left
 ·refine z07 [.int .i64 (e.chk false 0 0).2] z3e (za3 e _ H he') rfl z05 fun H1 l1=>⟨fun g2=>?_,fun g2=>?_⟩
  ·simp only [ev0,ev,evV,List.cons_append,List.nil_append,List.getD_cons_zero,List.getD_cons_succ,List.map_cons,List.map_nil,iOf,bOf,sOf,pOf,slLen,z04,cmpI,arI,Value.ite_bool,z01,z02,z00,z03,ne_eq,decide_not,Bool.not_eq_true',zdf] at g2
   exact ⟨_,z06,l1,by simp [ev0,ev,evV,List.cons_append,List.nil_append,List.getD_cons_zero,List.getD_cons_succ,List.map_cons,List.map_nil,iOf,bOf,sOf,pOf,slLen,z04,cmpI,arI,Value.ite_bool,z01,z02,z00,z03,g2]⟩
  ·simp only [ev0,ev,evV,List.cons_append,List.nil_append,List.getD_cons_zero,List.getD_cons_succ,List.map_cons,List.map_nil,iOf,bOf,sOf,pOf,slLen,z04,cmpI,arI,Value.ite_bool,z01,z02,z00,z03,ne_eq,decide_not,Bool.not_eq_false',zdt] at g2
   have hb:=z3l g2
   have hz:=z4n g2
   simp only [List.cons_append,List.nil_append]
   refine z08 z1n (zaw e _ H1 (Xp.Rep.le l1 e he') (by omega) (by omega)) ?_
   rintro x H2 ⟨l2,v,rfl,hv⟩
   obtain ⟨b,c,rfl⟩:=hv.sl
   refine ⟨_,[.slice b (freeS (e.fr [])).length c],rfl,rfl,rfl,z05,?_⟩
   refine ⟨_,z06,PH.le_trans l1 l2,?_⟩
   have hfs:=zie (e.fr [])
   simp only [ev0,ev,evV,List.cons_append,List.nil_append,List.getD_cons_zero,List.getD_cons_succ,List.map_cons,List.map_nil,iOf,bOf,sOf,pOf,slLen,z04,cmpI,arI,Value.ite_bool,z01,z02,z00,z03]
   congr 2
   refine decide_eq_decide.2 ?_
   constructor
   ·intro h;right;intro h2;rw [hfs.2 h2] at h;simp at h
   ·rintro (h | h)
    ·exact absurd g2 h
    ·have:¬(freeS (e.fr [])).length=0:=fun h2=>h (hfs.1 h2)
     omega
 rintro vs K _ ⟨lK,rfl⟩
 simp only [List.cons_append,List.nil_append]
 refine ⟨fun g2=>?_,fun g2=>?_⟩
 ·simp only [ev0,ev,evV,List.cons_append,List.nil_append,List.getD_cons_zero,List.getD_cons_succ,List.map_cons,List.map_nil,iOf,bOf,sOf,pOf,slLen,z04,cmpI,arI,Value.ite_bool,z01,z02,z00,z03,zdt] at g2
  rw [if_pos g2] at ho
  simp only [Option.some.injEq] at ho
  subst ho
  exact ⟨lK,_,rfl,zso 94 _⟩
 simp only [ev0,ev,evV,List.cons_append,List.nil_append,List.getD_cons_zero,List.getD_cons_succ,List.map_cons,List.map_nil,iOf,bOf,sOf,pOf,slLen,z04,cmpI,arI,Value.ite_bool,z01,z02,z00,z03,zdf] at g2
 rw [if_neg g2] at ho
 obtain ⟨M,hM⟩:∃M:Nat,steps=(M:Int):=⟨steps.toNat,by omega⟩
 subst hM
 rw [Int.toNat_natCast] at ho
 have hM6:M≤1000000:=by omega
 obtain ⟨mE,hgo,htold⟩:=Option.bind_eq_some_iff.1 ho
 have hxK:=exvLe lK hx
 have h0:Held K K []:=Held.nil (PH.le_refl _)
 refine zan (vs:=[.slice none 0 0]) h0 (by simp only [List.map_cons,List.map_nil,ev0,ev,evV,List.cons_append,List.nil_append,List.getD_cons_zero,List.getD_cons_succ,List.map_cons,List.map_nil,iOf,bOf,sOf,pOf,slLen,z04,cmpI,arI,Value.ite_bool,z01,z02,z00,z03];rfl) fun hr H2 l2 h2=>?_
 simp only [List.cons_append,List.nil_append]
 refine zan (vs:=(ma0 input M).cs hr) h2 (by simp only [List.map_cons,List.map_nil,ev0,ev,evV,List.cons_append,List.nil_append,List.getD_cons_zero,List.getD_cons_succ,List.map_cons,List.map_nil,iOf,bOf,sOf,pOf,slLen,z04,cmpI,arI,Value.ite_bool,z01,z02,z00,z03];rfl) fun mr H3 l3 h3=>?_
 simp only [List.cons_append,List.nil_append]
 have h4:Held K H3 (machA mr hr (ma0 input M) []):=by
  have h5:=(((((h3.swap.empty (α:=TR) 125).swap.to2).empty (α:=UInt8) 5).empty (α:=PrX) 116).empty (α:=VX) 73).empty (α:=VX) 73 |>.empty (α:=TdX) 82
  exact h5.to5
 have f4:AFit (ma0 input M):=fitX (by decide) (by decide) (by simp)
 refine z08 z0a (z28 (e:=e) (env:=[]) (eb:=none) (ec:=0) h4 f4 hxK (zlg K) (by show (0:Nat)≤_;omega)) ?_
 rintro x K5 ⟨S5,s5,l5,h5,f5,hx5,rfl⟩
 refine ⟨_,[],rfl,rfl,rfl,z05,?_⟩
 simp only [List.append_nil]
 have hfirst:s5.x=AX.first e input M:=by rw [hx5];rfl
 refine ⟨fun n vs K6=>∃(S6:PH) (s6:MA),vs=[]∧PH.le K S6∧Held S6 K6 (machA mr hr s6 [])∧AFit s6∧HeapOk s6.x.h∧s6.x.steps≤s6.x.most∧s6.x.most=M∧AX.go n s6.x=some mE,⟨N,S5,s5,rfl,l5,h5,f5,?_,?_,?_,?_⟩,?_⟩
 ·rw [hfirst];refine ⟨?_,?_,?_,?_,?_,?_⟩<;>intro t ht<;>cases ht
 ·rw [hfirst];exact Nat.zero_le _
 ·rw [hfirst];rfl
 ·rw [hfirst];exact hgo
 rintro n vs K6 _ ⟨S6,s6,rfl,l6,h6,f6,hh6,hs6,hm6,hgo6⟩
 simp only [List.append_nil]
 rw [Z33] at hgo6
 refine ⟨fun vs K'=>K6=K'∧vs=[.bool (decide (s6.e=0∧s6.todo≠[]))],?_,?_⟩
 rotate_left
 ·refine ⟨fun _=>by simp [Chk.holds,ev0,ev,evV,List.cons_append,List.nil_append,List.getD_cons_zero,List.getD_cons_succ,List.map_cons,List.map_nil,iOf,bOf,sOf,pOf,slLen,z04,cmpI,arI,Value.ite_bool,z01,z02,z00,z03],[.int .i64 s6.e],rfl,by simp only [ev0,ev,evV,List.cons_append,List.nil_append,List.getD_cons_zero,List.getD_cons_succ,List.map_cons,List.map_nil,iOf,bOf,sOf,pOf,slLen,z04,cmpI,arI,Value.ite_bool,z01,z02,z00,z03];exact mA_ld h6 rfl,fun g3=>?_,fun g3=>?_⟩
  ·simp only [ev0,ev,evV,List.cons_append,List.nil_append,List.getD_cons_zero,List.getD_cons_succ,List.map_cons,List.map_nil,iOf,bOf,sOf,pOf,slLen,z04,cmpI,arI,Value.ite_bool,z01,z02,z00,z03,zdt] at g3
   obtain ⟨b,c,htv⟩:=zrv h6
   refine ⟨[.slice b s6.todo.length c],rfl,by simp only [ev0,ev,evV,List.cons_append,List.nil_append,List.getD_cons_zero,List.getD_cons_succ,List.map_cons,List.map_nil,iOf,bOf,sOf,pOf,slLen,z04,cmpI,arI,Value.ite_bool,z01,z02,z00,z03];rw [←htv];exact mA_ld h6 rfl,_,z06,rfl,?_⟩
   simp only [ev0,ev,evV,List.cons_append,List.nil_append,List.getD_cons_zero,List.getD_cons_succ,List.map_cons,List.map_nil,iOf,bOf,sOf,pOf,slLen,z04,cmpI,arI,Value.ite_bool,z01,z02,z00,z03]
   congr 2
   refine decide_eq_decide.2 ?_
   constructor
   ·intro h;refine ⟨g3,fun h2=>?_⟩;rw [h2] at h;simp at h
   ·rintro ⟨_,h⟩
    have:=List.length_pos_iff.2 h
    omega
  ·simp only [ev0,ev,evV,List.cons_append,List.nil_append,List.getD_cons_zero,List.getD_cons_succ,List.map_cons,List.map_nil,iOf,bOf,sOf,pOf,slLen,z04,cmpI,arI,Value.ite_bool,z01,z02,z00,z03,zdf] at g3
   exact ⟨_,z06,rfl,by simp [ev0,ev,evV,List.cons_append,List.nil_append,List.getD_cons_zero,List.getD_cons_succ,List.map_cons,List.map_nil,iOf,bOf,sOf,pOf,slLen,z04,cmpI,arI,Value.ite_bool,z01,z02,z00,z03,g3]⟩
 rintro vs K' _ ⟨rfl,rfl⟩
 simp only [List.cons_append,List.nil_append]
 refine ⟨fun g3=>?_,fun g3=>?_⟩
 ·simp only [ev0,ev,evV,List.cons_append,List.nil_append,List.getD_cons_zero,List.getD_cons_succ,List.map_cons,List.map_nil,iOf,bOf,sOf,pOf,slLen,z04,cmpI,arI,Value.ite_bool,z01,z02,z00,z03,zdt] at g3
  have hne:¬(s6.x.e≠0∨s6.x.todo.isEmpty=true):=by
   rintro (h | h)
   ·exact h g3.1
   ·exact g3.2 (List.isEmpty_iff.1 h)
  rw [if_neg hne] at hgo6
  cases n with
  | zero=>cases hgo6
  | succ n=>
  simp only at hgo6
  cases hnx:s6.x.next with
  | none=>rw [hnx] at hgo6;cases hgo6
  | some m7=>
  rw [hnx] at hgo6
  simp only at hgo6
  have hk:=zzf hnx
  refine z08 z8l (zze h6 f6 hh6 (by have:s6.steps≤s6.x.most:=hs6;omega) hnx) ?_
  rintro x K7 ⟨S7,s7,l7,h7,f7,hx7,rfl⟩
  refine ⟨_,[],rfl,rfl,rfl,z05,?_⟩
  refine ⟨_,z06,n,by omega,S7,s7,by simp only [ev0,ev,evV,List.cons_append,List.nil_append,List.getD_cons_zero,List.getD_cons_succ,List.map_cons,List.map_nil,iOf,bOf,sOf,pOf,slLen,z04,cmpI,arI,Value.ite_bool,z01,z02,z00,z03],PH.le_trans l6 l7,h7,f7,?_,?_,?_,?_⟩
  ·rw [hx7];exact hk.1 hh6
  ·rw [hx7];exact hk.2.1 hs6
  ·rw [hx7,hk.2.2];exact hm6
  ·rw [hx7];exact hgo6
 simp only [ev0,ev,evV,List.cons_append,List.nil_append,List.getD_cons_zero,List.getD_cons_succ,List.map_cons,List.map_nil,iOf,bOf,sOf,pOf,slLen,z04,cmpI,arI,Value.ite_bool,z01,z02,z00,z03,zdf] at g3
 have hend:s6.x.e≠0∨s6.x.todo.isEmpty=true:=by
  rcases Classical.em (s6.x.e=0) with h | h
  ·right
   rw [List.isEmpty_iff]
   rcases Classical.em (s6.x.todo=[]) with h2 | h2
   ·exact h2
   ·exact absurd ⟨h,h2⟩ g3
  ·exact .inl h
 rw [if_pos hend] at hgo6
 simp only [Option.some.injEq] at hgo6
 subst hgo6
 clear hgo ho hend g3 hm6 hs6 hfirst hx5 h5 f5 h4 f4 h3 h2 h0
 have r13:rowAt K6 (some ⟨mr,12,none⟩) [.int .i64 s6.e]:=mA_ld h6 rfl
 have r5:rowAt K6 (some ⟨mr,4,none⟩) [s6.ov]:=mA_ld h6 rfl
 have r8:rowAt K6 (some ⟨mr,8,none⟩) [nI s6.steps]:=mA_ld h6 rfl
 have r1:rowAt K6 (some ⟨mr,0,none⟩) [pAt hr]:=mA_ld h6 rfl
 have r11:rowAt K6 (some ⟨mr,11,none⟩) [s6.vv]:=mA_ld h6 rfl
 have rO:SlR K6 s6.out s6.ov:=(h6.to5.row (zms)).slR h6.sh
 have rV:SlR K6 s6.vals s6.vv:=(h6.to2.row (zms)).slR h6.sh
 have rH:=zvz h6
 obtain ⟨ob,oc,hov⟩:=zzk h6
 rw [hov] at r5 rO
 obtain ⟨vb,vc,hvv⟩:=zsb h6
 rw [hvv] at r11 rV
 have hHK:PH.le H K6:=PH.le_trans lK (PH.le_trans l6 h6.sh)
 have hK:Held K6 K6 []:=Held.nil (PH.le_refl _)
 have hOK:HeapOk (hpX s6.L):=hh6
 unfold AX.told at htold
 clear h6
 have hoe:o.err=s6.e∧o.out=s6.out∧o.steps=s6.steps:=by
  split at htold
  ·obtain ⟨v,_,rfl⟩:=Option.map_eq_some_iff.1 htold
   exact ⟨rfl,rfl,rfl⟩
  ·simp only [Option.some.injEq] at htold
   subst htold
   exact ⟨rfl,rfl,rfl⟩
 refine ⟨fun vs K'=>∃r,vs=[pAt r]∧Held K6 K' [bx r 56 [.int .i64 s6.e,txt s6.out,.int .i64 0,.int .i64 0,txt [],.slice none 0 0,.bool false,nI s6.steps]],?_,?_⟩
 rotate_left
 ·refine ⟨fun _=>by simp [Chk.holds,ev0,ev,evV,List.cons_append,List.nil_append,List.getD_cons_zero,List.getD_cons_succ,List.map_cons,List.map_nil,iOf,bOf,sOf,pOf,slLen,z04,cmpI,arI,Value.ite_bool,z01,z02,z00,z03],[.int .i64 s6.e],rfl,by simp only [ev0,ev,evV,List.cons_append,List.nil_append,List.getD_cons_zero,List.getD_cons_succ,List.map_cons,List.map_nil,iOf,bOf,sOf,pOf,slLen,z04,cmpI,arI,Value.ite_bool,z01,z02,z00,z03];exact r13,[.slice ob s6.out.length oc],rfl,by simp only [ev0,ev,evV,List.cons_append,List.nil_append,List.getD_cons_zero,List.getD_cons_succ,List.map_cons,List.map_nil,iOf,bOf,sOf,pOf,slLen,z04,cmpI,arI,Value.ite_bool,z01,z02,z00,z03];exact r5,[nI s6.steps],rfl,by simp only [ev0,ev,evV,List.cons_append,List.nil_append,List.getD_cons_zero,List.getD_cons_succ,List.map_cons,List.map_nil,iOf,bOf,sOf,pOf,slLen,z04,cmpI,arI,Value.ite_bool,z01,z02,z00,z03];exact r8,?_,?_⟩
  ·refine zbu zgy zcp uByte (by kernel_rfl) rO (zqw (by simp only [ev0,ev,evV,List.cons_append,List.nil_append,List.getD_cons_zero,List.getD_cons_succ,List.map_cons,List.map_nil,iOf,bOf,sOf,pOf,slLen,z04,cmpI,arI,Value.ite_bool,z01,z02,z00,z03];exact r8) (z1x (by simp only [ev0,ev,evV,List.cons_append,List.nil_append,List.getD_cons_zero,List.getD_cons_succ,List.map_cons,List.map_nil,iOf,bOf,sOf,pOf,slLen,z04,cmpI,arI,Value.ite_bool,z01,z02,z00,z03];exact r13))) ?_
   simp only [List.cons_append,List.nil_append]
   refine zan (vs:=[.int .i64 0,txt [],.int .i64 0,.int .i64 0,txt [],.slice none 0 0,.bool false,.int .i64 0]) hK (by simp only [List.map_cons,List.map_nil,ev0,ev,evV,List.cons_append,List.nil_append,List.getD_cons_zero,List.getD_cons_succ,List.map_cons,List.map_nil,iOf,bOf,sOf,pOf,slLen,z04,cmpI,arI,Value.ite_bool,z01,z02,z00,z03];rfl) fun r K8 l8 h8=>?_
   simp only [List.cons_append,List.nil_append]
   refine z0t (off:=0) (vs:=[.int .i64 s6.e,txt s6.out,.int .i64 0,.int .i64 0,txt [],.slice none 0 0,.bool false,nI s6.steps]) (by simp only [ev0,ev,evV,List.cons_append,List.nil_append,List.getD_cons_zero,List.getD_cons_succ,List.map_cons,List.map_nil,iOf,bOf,sOf,pOf,slLen,z04,cmpI,arI,Value.ite_bool,z01,z02,z00,z03]) h8 (by simp only [List.map_cons,List.map_nil,ev0,ev,evV,List.cons_append,List.nil_append,List.getD_cons_zero,List.getD_cons_succ,List.map_cons,List.map_nil,iOf,bOf,sOf,pOf,slLen,z04,cmpI,arI,Value.ite_bool,z01,z02,z00,z03];rfl) (by
    intro u hu
    simp only [List.mem_cons,List.not_mem_nil,or_false] at hu
    rcases hu with rfl | rfl | rfl | rfl | rfl | rfl | rfl | rfl<;>rfl) (by simp) fun K9 h9=>?_
   exact ⟨_,z06,r,rfl,h9⟩
  ·refine zan (vs:=[.int .i64 0,txt [],.int .i64 0,.int .i64 0,txt [],.slice none 0 0,.bool false,.int .i64 0]) hK (by simp only [List.map_cons,List.map_nil,ev0,ev,evV,List.cons_append,List.nil_append,List.getD_cons_zero,List.getD_cons_succ,List.map_cons,List.map_nil,iOf,bOf,sOf,pOf,slLen,z04,cmpI,arI,Value.ite_bool,z01,z02,z00,z03];rfl) fun r K8 l8 h8=>?_
   simp only [List.cons_append,List.nil_append]
   refine zbu zgy zcp uByte (by kernel_rfl) (rO.le l8) (zqw (by simp only [ev0,ev,evV,List.cons_append,List.nil_append,List.getD_cons_zero,List.getD_cons_succ,List.map_cons,List.map_nil,iOf,bOf,sOf,pOf,slLen,z04,cmpI,arI,Value.ite_bool,z01,z02,z00,z03];exact z0b l8 r8) (z1x (by simp only [ev0,ev,evV,List.cons_append,List.nil_append,List.getD_cons_zero,List.getD_cons_succ,List.map_cons,List.map_nil,iOf,bOf,sOf,pOf,slLen,z04,cmpI,arI,Value.ite_bool,z01,z02,z00,z03];exact z0b l8 r13))) ?_
   simp only [List.cons_append,List.nil_append]
   refine z0t (off:=0) (vs:=[.int .i64 s6.e,txt s6.out,.int .i64 0,.int .i64 0,txt [],.slice none 0 0,.bool false,nI s6.steps]) (by simp only [ev0,ev,evV,List.cons_append,List.nil_append,List.getD_cons_zero,List.getD_cons_succ,List.map_cons,List.map_nil,iOf,bOf,sOf,pOf,slLen,z04,cmpI,arI,Value.ite_bool,z01,z02,z00,z03]) h8 (by simp only [List.map_cons,List.map_nil,ev0,ev,evV,List.cons_append,List.nil_append,List.getD_cons_zero,List.getD_cons_succ,List.map_cons,List.map_nil,iOf,bOf,sOf,pOf,slLen,z04,cmpI,arI,Value.ite_bool,z01,z02,z00,z03];rfl) (by
    intro u hu
    simp only [List.mem_cons,List.not_mem_nil,or_false] at hu
    rcases hu with rfl | rfl | rfl | rfl | rfl | rfl | rfl | rfl<;>rfl) (by simp) fun K9 h9=>?_
   exact ⟨_,z06,r,rfl,h9⟩
 rintro vs K2 _ ⟨r,rfl,h8⟩
 simp only [List.cons_append,List.nil_append]
 refine ⟨fun vs K'=>vs=[]∧∃(S8:PH) (dk dn:Int) (dt:List UInt8) (dv:Value),PH.le K6 S8∧Held S8 K' [bx r 56 [.int .i64 s6.e,txt s6.out,.int .i64 dk,.int .i64 dn,txt dt,dv,.bool o.whole,nI s6.steps]]∧o.shown.Rep S8 [.int .i64 dk,.int .i64 dn,txt dt,dv],?_,fun _=>by simp [Chk.holds,ev0,ev,evV,List.cons_append,List.nil_append,List.getD_cons_zero,List.getD_cons_succ,List.map_cons,List.map_nil,iOf,bOf,sOf,pOf,slLen,z04,cmpI,arI,Value.ite_bool,z01,z02,z00,z03],[.int .i64 s6.e],rfl,by simp only [ev0,ev,evV,List.cons_append,List.nil_append,List.getD_cons_zero,List.getD_cons_succ,List.map_cons,List.map_nil,iOf,bOf,sOf,pOf,slLen,z04,cmpI,arI,Value.ite_bool,z01,z02,z00,z03];exact z0b h8.sh r13,fun g3=>?_,fun g3=>?_⟩
 rotate_left
 ·simp only [ev0,ev,evV,List.cons_append,List.nil_append,List.getD_cons_zero,List.getD_cons_succ,List.map_cons,List.map_nil,iOf,bOf,sOf,pOf,slLen,z04,cmpI,arI,Value.ite_bool,z01,z02,z00,z03,zdt] at g3
  rw [if_pos (show s6.x.e=0 from g3)] at htold
  obtain ⟨v,hv,rfl⟩:=Option.map_eq_some_iff.1 htold
  replace hv:s6.vals[0]?=some v:=hv
  obtain ⟨y1,_,ycs,y2,y3⟩:=rV.get hv
  obtain ⟨rfl,yf⟩:=z2j y2
  have hv0:=(List.getElem?_eq_some_iff.1 hv).1
  refine ⟨[pAt hr],rfl,by simp only [ev0,ev,evV,List.cons_append,List.nil_append,List.getD_cons_zero,List.getD_cons_succ,List.map_cons,List.map_nil,iOf,bOf,sOf,pOf,slLen,z04,cmpI,arI,Value.ite_bool,z01,z02,z00,z03];exact z0b h8.sh r1,[.slice vb s6.vals.length vc],rfl,by simp only [ev0,ev,evV,List.cons_append,List.nil_append,List.getD_cons_zero,List.getD_cons_succ,List.map_cons,List.map_nil,iOf,bOf,sOf,pOf,slLen,z04,cmpI,arI,Value.ite_bool,z01,z02,z00,z03];exact z0b h8.sh r11,fun _=>?_,valVs v,rfl,by simp only [ev0,ev,evV,List.cons_append,List.nil_append,List.getD_cons_zero,List.getD_cons_succ,List.map_cons,List.map_nil,iOf,bOf,sOf,pOf,slLen,z04,cmpI,arI,Value.ite_bool,z01,z02,z00,z03];exact z0b h8.sh y3,?_⟩
  ·simp only [Chk.holds,ev0,ev,evV,List.cons_append,List.nil_append,List.getD_cons_zero,List.getD_cons_succ,List.map_cons,List.map_nil,iOf,bOf,sOf,pOf,slLen,z04,cmpI,arI,Value.ite_bool,z01,z02,z00,z03];exact ⟨y1,by omega,by omega⟩
  simp only [List.cons_append,List.nil_append]
  generalize hTV:tellV (hpX s6.L) v=TV
  have hcall:=h8.pure (R:=fun x S'=>∃cs,x=.returned (.tuple #[.agg cs.toArray,.bool (tellV (hpX s6.L) v).2])∧(tellV (hpX s6.L) v).1.Rep S' cs) (zyb (hpX s6.L) hr hOK v yf K6 rH)
  have hxt:tellV s6.x.h v=TV:=hTV
  rw [hTV] at hcall
  refine z08 za4 hcall ?_
  rintro e9 K9 ⟨S9,l9,h9,cs,rfl,hd⟩
  obtain ⟨d,okk⟩:=TV
  obtain ⟨sv,rfl,d1,d2,d3,d4⟩:=Dat.Rep_iff.1 hd
  obtain ⟨sb,sc,rfl⟩:=SlR.sl d4
  refine ⟨_,[.int .i64 d.kind,.int .i64 d.int,txt d.text,.slice sb d.list.length sc,.bool okk],rfl,rfl,rfl,z05,fun _=>by simp [Chk.holds,ev0,ev,evV,List.cons_append,List.nil_append,List.getD_cons_zero,List.getD_cons_succ,List.map_cons,List.map_nil,iOf,bOf,sOf,pOf,slLen,z04,cmpI,arI,Value.ite_bool,z01,z02,z00,z03],?_⟩
  simp only [List.cons_append,List.nil_append]
  refine z0t (off:=2) (vs:=[.int .i64 d.kind,.int .i64 d.int,txt d.text,.slice sb d.list.length sc]) (by simp only [ev0,ev,evV,List.cons_append,List.nil_append,List.getD_cons_zero,List.getD_cons_succ,List.map_cons,List.map_nil,iOf,bOf,sOf,pOf,slLen,z04,cmpI,arI,Value.ite_bool,z01,z02,z00,z03];rfl) h9 (by simp only [List.map_cons,List.map_nil,ev0,ev,evV,List.cons_append,List.nil_append,List.getD_cons_zero,List.getD_cons_succ,List.map_cons,List.map_nil,iOf,bOf,sOf,pOf,slLen,z04,cmpI,arI,Value.ite_bool,z01,z02,z00,z03]) (by
   intro u hu
   simp only [List.mem_cons,List.not_mem_nil,or_false] at hu
   rcases hu with rfl | rfl | rfl | rfl<;>rfl) (by simp) fun K10 h10=>?_
  refine z0t (off:=6) (vs:=[.bool okk]) (by simp only [ev0,ev,evV,List.cons_append,List.nil_append,List.getD_cons_zero,List.getD_cons_succ,List.map_cons,List.map_nil,iOf,bOf,sOf,pOf,slLen,z04,cmpI,arI,Value.ite_bool,z01,z02,z00,z03];rfl) h10 (by simp only [List.map_cons,List.map_nil,ev0,ev,evV,List.cons_append,List.nil_append,List.getD_cons_zero,List.getD_cons_succ,List.map_cons,List.map_nil,iOf,bOf,sOf,pOf,slLen,z04,cmpI,arI,Value.ite_bool,z01,z02,z00,z03]) (by
   intro u hu
   rw [List.mem_singleton.1 hu];rfl) (by simp) fun K11 h11=>?_
  refine ⟨_,z06,rfl,S9,d.kind,d.int,d.text,.slice sb d.list.length sc,l9,?_,?_⟩
  ·simp only [hxt];exact h11
  ·simp only [hxt];exact hd
 ·simp only [ev0,ev,evV,List.cons_append,List.nil_append,List.getD_cons_zero,List.getD_cons_succ,List.map_cons,List.map_nil,iOf,bOf,sOf,pOf,slLen,z04,cmpI,arI,Value.ite_bool,z01,z02,z00,z03,zdf] at g3
  rw [if_neg (show ¬s6.x.e=0 from g3)] at htold
  simp only [Option.some.injEq] at htold
  subst htold
  exact ⟨_,z06,rfl,K6,0,0,[],.slice none 0 0,PH.le_refl _,h8,z31 (k:=0) (n:=0) (t:=[]) (by decide) (by decide) (by decide)⟩
 rintro vs K3 _ ⟨rfl,S8,dk,dn,dt,dv,l8,h9,hd⟩
 obtain ⟨dvv,e1,d1,d2,d3,d4⟩:=Dat.Rep_iff.1 hd
 obtain ⟨sb,sc,hdv⟩:=SlR.sl d4
 have hdv':dv=.slice sb o.shown.list.length sc:=by
  have:dv=dvv:=by simpa using congrArg (fun l:List Value=>l.getD 3 (.bool false)) e1
  rw [this,hdv]
 simp only [List.append_nil]
 refine zxe (off:=0) [.int .i64 s6.e,txt s6.out,.int .i64 dk,.int .i64 dn,txt dt,dv,.bool o.whole,nI s6.steps] (by simp only [ev0,ev,evV,List.cons_append,List.nil_append,List.getD_cons_zero,List.getD_cons_succ,List.map_cons,List.map_nil,iOf,bOf,sOf,pOf,slLen,z04,cmpI,arI,Value.ite_bool,z01,z02,z00,z03]) h9 (zms) rfl (by rw [hdv'];rfl) ?_
 simp only [List.cons_append,List.nil_append]
 refine ⟨PH.le_trans hHK (PH.le_trans l8 h9.sh),_,rfl,?_⟩
 refine ⟨[.int .i64 dk,.int .i64 dn,txt dt,dv],?_,Dat.Rep.le h9.sh _ hd⟩
 rw [hoe.1,hoe.2.1,hoe.2.2]
 rfl
theorem zsp:∀(e:Xp) (cs:List Value) (H:PH),e.Rep H cs→e.size≤1000000→Gives Tryz.prog zh6 [.agg cs.toArray] H (.int .i64 (e.size:Int)):=by
 refine Xp.ind fun e ih cs H he hz=>?_
 have he':=he
 obtain ⟨nb,db,kb,nc,dc,kc,rfl,hx⟩:=Xp.Rep.open he
 have hk:=hx.kids.max
 simp only [maxLen] at hk
 have hse:=Xp.size_eq e
 refine zee (exVs e nb db kb nc dc kc) (by kernel_rfl) (by kernel_rfl) ?_
 refine ⟨fun n vs H'=>∃k:Nat,vs=[.int .i64 ((1+Xps.size (e.kids.take k):Nat):Int),.int .i64 k]∧k+n=e.kids.length∧PH.le H H',⟨e.kids.length,0,by simp [Xps.size,ev0,ev,evV,List.cons_append,List.nil_append,List.getD_cons_zero,List.getD_cons_succ,List.map_cons,List.map_nil,iOf,bOf,sOf,pOf,slLen,z04,cmpI,arI,Value.ite_bool,z01,z02,z00,z03],by omega,PH.le_refl _⟩,?_⟩
 rintro n vs H2 _ ⟨k,rfl,hkn,l2⟩
 refine ⟨fun g1=>?_,fun g1=>?_⟩
 ·simp only [ev0,ev,evV,List.cons_append,List.nil_append,List.getD_cons_zero,List.getD_cons_succ,List.map_cons,List.map_nil,iOf,bOf,sOf,pOf,slLen,z04,cmpI,arI,Value.ite_bool,z01,z02,z00,z03,zdt] at g1
  obtain ⟨a,ha⟩:∃a,e.kids[k]?=some a:=⟨_,zge (show k < e.kids.length by omega)⟩
  obtain ⟨q1,_,ces,g2,g3⟩:=(hx.kids.le l2).get ha
  have hmem:=List.mem_of_getElem? ha
  have htags:=Xp.Rep.tags g2
  have g2':=g2
  obtain ⟨nb',db',kb',nc',dc',kc',rfl,_⟩:=Xp.Rep.open g2'
  have hsa:=Xps.size_at ha
  have hst:Xps.size (e.kids.take (k+1))=Xps.size (e.kids.take k)+a.size:=by
   rw [List.take_add_one,ha,Xps.size_append];simp [Xps.size]
  refine ⟨fun _=>?_,_,htags,by simp only [ev0,ev,evV,List.cons_append,List.nil_append,List.getD_cons_zero,List.getD_cons_succ,List.map_cons,List.map_nil,iOf,bOf,sOf,pOf,slLen,z04,cmpI,arI,Value.ite_bool,z01,z02,z00,z03];exact g3,?_⟩
  ·simp only [Chk.holds,ev0,ev,evV,List.cons_append,List.nil_append,List.getD_cons_zero,List.getD_cons_succ,List.map_cons,List.map_nil,iOf,bOf,sOf,pOf,slLen,z04,cmpI,arI,Value.ite_bool,z01,z02,z00,z03];exact ⟨q1,by omega,by omega⟩
  refine z07 [.int .i64 (a.size:Int)] z6s (ih a hmem _ H2 g2 (by omega)) rfl z05 fun H3 l3=>?_
  refine ⟨_,z06,n - 1,by omega,k+1,?_,by omega,PH.le_trans l2 l3⟩
  simp only [ev0,ev,evV,List.cons_append,List.nil_append,List.getD_cons_zero,List.getD_cons_succ,List.map_cons,List.map_nil,iOf,bOf,sOf,pOf,slLen,z04,cmpI,arI,Value.ite_bool,z01,z02,z00,z03]
  rw [w64 (by omega) (by omega),w64 (by omega) (by omega),hst]
  congr 2
  congr 1
  omega
 ·simp only [ev0,ev,evV,List.cons_append,List.nil_append,List.getD_cons_zero,List.getD_cons_succ,List.map_cons,List.map_nil,iOf,bOf,sOf,pOf,slLen,z04,cmpI,arI,Value.ite_bool,z01,z02,z00,z03,zdf] at g1
  refine ⟨?_,l2⟩
  rw [List.take_of_length_le (by omega)]
  simp only [ev0,ev,evV,List.cons_append,List.nil_append,List.getD_cons_zero,List.getD_cons_succ,List.map_cons,List.map_nil,iOf,bOf,sOf,pOf,slLen,z04,cmpI,arI,Value.ite_bool,z01,z02,z00,z03,hse]
end Go.Proofs.YtjhlndokjkeilaaGreatDoor.Vc
namespace Go.Proofs.YtjhlndokjkeilaaGreatDoor.Vc
open Go Go.Sort
theorem Xps.nam_append (U:List (List UInt8)):∀(l m:List Xp) (c n:Nat),Xps.nam U c (l++m) n=((Xps.nam U c l n).1++(Xps.nam U (c - l.length) m (Xps.nam U c l n).2.2).1,(Xps.nam U c l n).2.1++(Xps.nam U (c - l.length) m (Xps.nam U c l n).2.2).2.1,(Xps.nam U (c - l.length) m (Xps.nam U c l n).2.2).2.2)
 | [],m,c,n=>by rw [Xps.nam_nil];simp
 | e::l,m,0,n=>by
  rw [List.cons_append,Xps.nam_zero,Xps.nam_zero,Xps.nam_append U l m 0]
  simp
 | e::l,m,c+1,n=>by
  have hs:c+1 - (e::l).length=c - l.length:=by simp
  rw [hs,List.cons_append]
  cases h:simX e with
  | true=>rw [Xps.nam_sim U h,Xps.nam_sim U h,Xps.nam_append U l m c];simp
  | false=>rw [Xps.nam_new U h,Xps.nam_new U h,Xps.nam_append U l m c];simp
theorem Xps.nam_snoc0 (U:List (List UInt8)) {l:List Xp} {i:Nat} {a:Xp} (h:l[i]?=some a) {c:Nat} (hc:c≤i) (n:Nat):Xps.nam U c (l.take (i+1)) n=((Xps.nam U c (l.take i) n).1++[(a.nam U (Xps.nam U c (l.take i) n).2.2).1],(Xps.nam U c (l.take i) n).2.1,(a.nam U (Xps.nam U c (l.take i) n).2.2).2):=by
 have hi:=(List.getElem?_eq_some_iff.1 h).1
 rw [List.take_add_one,h,Xps.nam_append]
 have:c - (l.take i).length=0:=by rw [List.length_take];omega
 rw [this]
 simp only [Option.toList_some,Xps.nam_zero,Xps.nam_nil,List.append_nil]
theorem Xps.nam_snocS (U:List (List UInt8)) {l:List Xp} {i:Nat} {a:Xp} (h:l[i]?=some a) {c:Nat} (hc:i < c) (n:Nat) (hs:simX a=true):Xps.nam U c (l.take (i+1)) n=((Xps.nam U c (l.take i) n).1++[a],(Xps.nam U c (l.take i) n).2):=by
 have hi:=(List.getElem?_eq_some_iff.1 h).1
 rw [List.take_add_one,h,Xps.nam_append]
 obtain ⟨k,hk⟩:∃k,c - (l.take i).length=k+1:=⟨c - i - 1,by rw [List.length_take];omega⟩
 rw [hk]
 simp only [Option.toList_some,Xps.nam_sim U hs,Xps.nam_nil,List.append_nil]
theorem Xps.nam_snocN (U:List (List UInt8)) {l:List Xp} {i:Nat} {a:Xp} (h:l[i]?=some a) {c:Nat} (hc:i < c) (n:Nat) (hs:simX a=false):Xps.nam U c (l.take (i+1)) n=((Xps.nam U c (l.take i) n).1++[refX (nwL (frN U (Xps.nam U c (l.take i) n).2.2))],(Xps.nam U c (l.take i) n).2.1++[(nwL (frN U (Xps.nam U c (l.take i) n).2.2),(a.nam U (frN U (Xps.nam U c (l.take i) n).2.2+1)).1)],(a.nam U (frN U (Xps.nam U c (l.take i) n).2.2+1)).2):=by
 have hi:=(List.getElem?_eq_some_iff.1 h).1
 rw [List.take_add_one,h,Xps.nam_append]
 obtain ⟨k,hk⟩:∃k,c - (l.take i).length=k+1:=⟨c - i - 1,by rw [List.length_take];omega⟩
 rw [hk]
 simp only [Option.toList_some,Xps.nam_new U hs,Xps.nam_nil]
abbrev nmB (nr ub n:Nat):Itm:=bx nr 46 [.map (some ub),nI n]
abbrev nmM (ub:Nat) (es:Array MapEntry) (clock:Nat):Itm:=.blk ub (.map es clock)
structure NmOk (U:List (List UInt8)) (es:Array MapEntry) (clock:Nat):Prop where
 ents:∃m,EntsR es.toList clock m∧UsedM m U
theorem zu8 {S K:PH} {nr ub n:Nat} {es:Array MapEntry} {clock:Nat} {U:List (List UInt8)} (hT:Tab S) (h:Held S K [nmB nr ub n,nmM ub es clock]) (hm:NmOk U es clock) (hb:n+U.length < 900000000000000000) :
  Tri Tryz.prog zki #[pAt nr] K fun x K'=>x=.returned (txt (nwL (frN U n)))∧Held S K' [nmB nr ub (frN U n+1),nmM ub es clock]:=by
 have hf:=z5d U n
 obtain ⟨mu,hE,hU⟩:=hm.ents
 refine ziz [pAt nr] (by kernel_rfl) (by kernel_rfl) ?_
 refine ⟨fun f vs H'=>∃k:Nat,vs=[txt []]∧n≤k∧k+f=frN U n∧frN U k=frN U n∧Held S H' [nmB nr ub k,nmM ub es clock],⟨frN U n - n,n,rfl,Nat.le_refl _,by omega,rfl,h⟩,?_⟩
 rintro f vs H1 _ ⟨k,rfl,hnk,hkf,hfk,h1⟩
 have hw64:IntKind.i64.wrap ((k:Int)+1)=((k+1:Nat):Int):=by rw [w64 (by omega) (by omega)];omega
 have hl1:∀{K':PH} {j:Nat},Held S K' [nmB nr ub j,nmM ub es clock]→rowAt K' (some ⟨nr,1,none⟩) [nI j]:=fun h'=>zhv h' (zms) 1 1
 have hl0:∀{K':PH} {j:Nat},Held S K' [nmB nr ub j,nmM ub es clock]→rowAt K' (some ⟨nr,0,none⟩) [.map (some ub)]:=fun h'=>zhv h' (zms) 0 1
 refine ⟨fun _=>by simp [Chk.holds,ev0,ev,evV,List.cons_append,List.nil_append,List.getD_cons_zero,List.getD_cons_succ,List.map_cons,List.map_nil,iOf,bOf,sOf,pOf,slLen,z04,cmpI,arI,Value.ite_bool,z01,z02,z00,z03],[nI k],rfl,by simp only [ev0,ev,evV,List.cons_append,List.nil_append,List.getD_cons_zero,List.getD_cons_succ,List.map_cons,List.map_nil,iOf,bOf,sOf,pOf,slLen,z04,cmpI,arI,Value.ite_bool,z01,z02,z00,z03];exact hl1 h1,?_⟩
 simp only [List.cons_append,List.nil_append]
 refine z08 Z29 (Z11 k (by omega) H1 (hT.le h1.sh)) ?_
 rintro e H' ⟨rfl,rfl⟩
 have h18:=zd8 (k:=k) (by omega)
 refine ⟨_,[_],rfl,rfl,rfl,z05,fun _=>?_,[nI k],rfl,by simp only [ev0,ev,evV,List.cons_append,List.nil_append,List.getD_cons_zero,List.getD_cons_succ,List.map_cons,List.map_nil,iOf,bOf,sOf,pOf,slLen,z04,cmpI,arI,Value.ite_bool,z01,z02,z00,z03];exact hl1 h1,?_⟩
 ·have hmax:IntKind.i64.max=9223372036854775807:=rfl
  simp only [Chk.holds,ev0,ev,evV,List.cons_append,List.nil_append,List.getD_cons_zero,List.getD_cons_succ,List.map_cons,List.map_nil,iOf,bOf,sOf,pOf,slLen,z04,cmpI,arI,Value.ite_bool,z01,z02,z00,z03,z0s,hmax,zlc,List.length_nil];omega
 simp only [List.cons_append,List.nil_append]
 refine z0t (off:=1) (vs:=[nI (k+1)]) (by simp only [ev0,ev,evV,List.cons_append,List.nil_append,List.getD_cons_zero,List.getD_cons_succ,List.map_cons,List.map_nil,iOf,bOf,sOf,pOf,slLen,z04,cmpI,arI,Value.ite_bool,z01,z02,z00,z03];rfl) h1 (by simp only [List.map_cons,List.map_nil,ev0,ev,evV,List.cons_append,List.nil_append,List.getD_cons_zero,List.getD_cons_succ,List.map_cons,List.map_nil,iOf,bOf,sOf,pOf,slLen,z04,cmpI,arI,Value.ite_bool,z01,z02,z00,z03,hw64]) (by
  intro u hu
  rw [List.mem_singleton.1 hu];rfl) (by simp) fun K2 h2=>?_
 replace h2:Held S K2 [nmB nr ub (k+1),nmM ub es clock]:=h2
 refine ⟨[.map (some ub)],rfl,by simp only [ev0,ev,evV,List.cons_append,List.nil_append,List.getD_cons_zero,List.getD_cons_succ,List.map_cons,List.map_nil,iOf,bOf,sOf,pOf,slLen,z04,cmpI,arI,Value.ite_bool,z01,z02,z00,z03];exact hl0 h2,?_⟩
 simp only [List.cons_append,List.nil_append]
 have hub:K2 ub=some (.map es clock):=h2.blk (zmm _ (zms))
 have hub2:MapR K2 (.map (some ub)) mu:=⟨ub,es,clock,rfl,hub,hE⟩
 have hg:=hU (nwL k)
 refine zwx (nwL k) (.int .i64 0) zsc kdStr zInt rfl (by simp only [argEv,List.lookup,ev0,ev,evV,List.cons_append,List.nil_append,List.getD_cons_zero,List.getD_cons_succ,List.map_cons,List.map_nil,iOf,bOf,sOf,pOf,slLen,z04,cmpI,arI,Value.ite_bool,z01,z02,z00,z03];simp [ev0,ev,evV,List.cons_append,List.nil_append,List.getD_cons_zero,List.getD_cons_succ,List.map_cons,List.map_nil,iOf,bOf,sOf,pOf,slLen,z04,cmpI,arI,Value.ite_bool,z01,z02,z00,z03,zvl];rfl) hub2 (by rw [hg];rfl) z05 ?_
 rw [hg]
 by_cases hin:nwL k∈U
 ·rw [if_pos hin]
  refine ⟨fun h=>absurd h (by simp [ev0,ev,evV,List.cons_append,List.nil_append,List.getD_cons_zero,List.getD_cons_succ,List.map_cons,List.map_nil,iOf,bOf,sOf,pOf,slLen,z04,cmpI,arI,Value.ite_bool]),fun _=>?_⟩
  have hsk:=Z06 hin
  have hgt:k < frN U n:=by
   have h1:=z5d U (k+1)
   omega
  exact ⟨_,z06,f - 1,by omega,k+1,rfl,by omega,by omega,by omega,h2⟩
 ·rw [if_neg hin]
  have hk:=Z1u hin
  have hkn:frN U n=k:=by omega
  refine ⟨fun _=>⟨?_,?_⟩,fun h=>absurd h (by simp [ev0,ev,evV,List.cons_append,List.nil_append,List.getD_cons_zero,List.getD_cons_succ,List.map_cons,List.map_nil,iOf,bOf,sOf,pOf,slLen,z04,cmpI,arI,Value.ite_bool])⟩
  ·rw [hkn];simp only [ev0,ev,evV,List.cons_append,List.nil_append,List.getD_cons_zero,List.getD_cons_succ,List.map_cons,List.map_nil,iOf,bOf,sOf,pOf,slLen,z04,cmpI,arI,Value.ite_bool,z01,z02,z00,z03,zvl];rfl
  ·rw [hkn];exact h2
def Z34 (e:Xp):Prop:=∀(cs:List Value) (S H:PH) (wr ub:Nat) (T:TypeId) (nx:Value) (es:Array MapEntry) (clock:Nat) (m:List (List UInt8×Value)),PH.le S H→S ub=none→e.Rep S cs→H wr=some (.cells #[.map (some ub),nx] T (0,0))→H ub=some (.map es clock)→EntsR es.toList clock m →
 Tri Tryz.prog zll #[.pointer (some ⟨wr,0,none⟩),.agg cs.toArray] H fun x H'=>x=.returned (.tuple #[])∧∃es' clock',H'=H.upd ub (.map es' clock')∧EntsR es'.toList clock' (putsM m e.note)
theorem zxg:∀e,Z34 e:=by
 refine Xp.ind fun e ih cs S H wr ub T nx es clock m hS hub he hwr hu hm=>?_
 obtain ⟨nb,db,kb,nc,dc,kc,rfl,hx⟩:=Xp.Rep.open he
 have hn:=hx.names.max
 have hk:=hx.kids.max
 simp only [maxLen] at hn hk
 have hne:wr≠ub:=fun h=>by rw [h,hu] at hwr;cases hwr
 refine zjs (.pointer (some ⟨wr,0,none⟩)::exVs e nb db kb nc dc kc) (by kernel_rfl) (by kernel_rfl) ?_
 have hw:∀o,(H.upd ub o) wr=some (.cells #[.map (some ub),nx] T (0,0)):=fun o=>by rw [PH.upd_other hne];exact hwr
 have hup:∀H' es' clock',H'=H.upd ub (.map es' clock')→H' wr=some (.cells #[.map (some ub),nx] T (0,0))∧H' ub=some (.map es' clock')∧PH.le S H':=fun H' es' clock' h=>by
  subst h;exact ⟨hw _,PH.upd_same,zye hS hub _⟩
 refine ⟨fun _=>rfl,[.map (some ub)],rfl,zxu hwr,?_⟩
 refine zjf e.name (.int .i64 1) zsc kdStr rfl rfl rfl hu hm fun es1 clock1 m1=>?_
 refine ⟨fun n vs H'=>∃k:Nat,vs=[.int .i64 k]∧k+n=e.names.length∧∃es' clock',H'=H.upd ub (.map es' clock')∧EntsR es'.toList clock' (putsM m (e.name::e.names.take k)),⟨e.names.length,0,rfl,by omega,es1,clock1,rfl,m1⟩,?_⟩
 rintro n vs H2 _ ⟨k,rfl,hkn,es2,clock2,h2,m2⟩
 obtain ⟨q1,q2,q3⟩:=hup _ _ _ h2
 refine ⟨fun g=>?_,fun g=>?_⟩
 ·simp only [ev0,ev,evV,List.cons_append,List.nil_append,List.getD_cons_zero,List.getD_cons_succ,List.map_cons,List.map_nil,iOf,bOf,sOf,pOf,slLen,z04,cmpI,arI,Value.ite_bool,z01,z02,z00,z03,zdt] at g
  obtain ⟨a,ha⟩:∃a,e.names[k]?=some a:=⟨_,zge (show k < e.names.length by omega)⟩
  obtain ⟨g1,_,ces,g2,g3⟩:=(hx.names.le q3).get ha
  obtain ⟨rfl,_⟩:=z5m g2
  refine ⟨fun _=>?_,[txt a],rfl,by simp only [ev0,ev,evV,List.cons_append,List.nil_append,List.getD_cons_zero,List.getD_cons_succ,List.map_cons,List.map_nil,iOf,bOf,sOf,pOf,slLen,z04,cmpI,arI,Value.ite_bool,z01,z02,z00,z03];exact g3,[.map (some ub)],rfl,zxu q1,?_⟩
  ·simp only [Chk.holds,ev0,ev,evV,List.cons_append,List.nil_append,List.getD_cons_zero,List.getD_cons_succ,List.map_cons,List.map_nil,iOf,bOf,sOf,pOf,slLen,z04,cmpI,arI,Value.ite_bool,z01,z02,z00,z03];exact ⟨g1,by omega,by omega⟩
  refine zjf a (.int .i64 1) zsc kdStr rfl rfl rfl q2 m2 fun es3 clock3 m3=>?_
  refine ⟨_,z06,n - 1,by omega,k+1,?_,by omega,es3,clock3,?_,?_⟩
  ·simp only [ev0,ev,evV,List.cons_append,List.nil_append,List.getD_cons_zero,List.getD_cons_succ,List.map_cons,List.map_nil,iOf,bOf,sOf,pOf,slLen,z04,cmpI,arI,Value.ite_bool,z01,z02,z00,z03];rw [w64 (by omega) (by omega)];rfl
  ·rw [h2,PH.upd_upd]
  ·rw [List.take_add_one,ha,←List.cons_append,zka];exact m3
 ·simp only [ev0,ev,evV,List.cons_append,List.nil_append,List.getD_cons_zero,List.getD_cons_succ,List.map_cons,List.map_nil,iOf,bOf,sOf,pOf,slLen,z04,cmpI,arI,Value.ite_bool,z01,z02,z00,z03,zdf] at g
  rw [List.take_of_length_le (by omega)] at m2
  refine ⟨fun n vs H'=>∃k:Nat,vs=[.int .i64 k]∧k+n=e.kids.length∧∃es' clock',H'=H.upd ub (.map es' clock')∧EntsR es'.toList clock' (putsM m (e.name::(e.names++Xps.note (e.kids.take k)))),⟨e.kids.length,0,rfl,by omega,es2,clock2,h2,by simpa [Xps.note] using m2⟩,?_⟩
  rintro n2 vs H3 _ ⟨k2,rfl,hkn2,es3,clock3,h3,m3⟩
  obtain ⟨q1,q2,q3⟩:=hup _ _ _ h3
  refine ⟨fun g=>?_,fun g=>?_⟩
  ·simp only [ev0,ev,evV,List.cons_append,List.nil_append,List.getD_cons_zero,List.getD_cons_succ,List.map_cons,List.map_nil,iOf,bOf,sOf,pOf,slLen,z04,cmpI,arI,Value.ite_bool,z01,z02,z00,z03,zdt] at g
   obtain ⟨a,ha⟩:∃a,e.kids[k2]?=some a:=⟨_,zge (show k2 < e.kids.length by omega)⟩
   obtain ⟨g1,_,ces,g2,g3⟩:=(hx.kids).get ha
   have htags:=Xp.Rep.tags g2
   have hcall:=ih a (List.mem_of_getElem? ha) ces S H3 wr ub T nx es3 clock3 _ q3 hub g2 q1 q2 m3
   obtain ⟨nb',db',kb',nc',dc',kc',rfl,_⟩:=Xp.Rep.open g2
   refine ⟨fun _=>?_,_,htags,by simp only [ev0,ev,evV,List.cons_append,List.nil_append,List.getD_cons_zero,List.getD_cons_succ,List.map_cons,List.map_nil,iOf,bOf,sOf,pOf,slLen,z04,cmpI,arI,Value.ite_bool,z01,z02,z00,z03];exact z0b q3 g3,?_⟩
   ·simp only [Chk.holds,ev0,ev,evV,List.cons_append,List.nil_append,List.getD_cons_zero,List.getD_cons_succ,List.map_cons,List.map_nil,iOf,bOf,sOf,pOf,slLen,z04,cmpI,arI,Value.ite_bool,z01,z02,z00,z03];exact ⟨g1,by omega,by omega⟩
   refine z08 zad hcall ?_
   rintro x H4 ⟨rfl,es4,clock4,rfl,m4⟩
   refine ⟨_,[],rfl,rfl,rfl,z05,?_⟩
   refine ⟨_,z06,n2 - 1,by omega,k2+1,?_,by omega,es4,clock4,?_,?_⟩
   ·simp only [ev0,ev,evV,List.cons_append,List.nil_append,List.getD_cons_zero,List.getD_cons_succ,List.map_cons,List.map_nil,iOf,bOf,sOf,pOf,slLen,z04,cmpI,arI,Value.ite_bool,z01,z02,z00,z03,List.append_nil];rw [w64 (by omega) (by omega)];rfl
   ·rw [h3,PH.upd_upd]
   ·have hall:Xps.note (e.kids.take (k2+1))=Xps.note (e.kids.take k2)++a.note:=by
     rw [List.take_add_one,ha,Xps.note_append];simp [Xps.note]
    rw [hall,←List.append_assoc,←List.cons_append,zka];exact m4
  ·simp only [ev0,ev,evV,List.cons_append,List.nil_append,List.getD_cons_zero,List.getD_cons_succ,List.map_cons,List.map_nil,iOf,bOf,sOf,pOf,slLen,z04,cmpI,arI,Value.ite_bool,z01,z02,z00,z03,zdf] at g
   rw [List.take_of_length_le (by omega)] at m3
   refine ⟨rfl,es3,clock3,h3,?_⟩
   rw [Xp.note_eq];exact m3
theorem zva (s:List UInt8) (H:PH):Gives Tryz.prog zwp [txt s] H (.agg #[.int .i64 1,txt s,.slice none 0 0,.int .i64 0,.int .i64 0,txt [],.slice none 0 0,.slice none 0 0]):=
 zti [txt s] (by kernel_rfl) (by kernel_rfl) ⟨rfl,PH.le_refl _⟩
theorem Z0s {S:PH} {s:List UInt8} (h:s.length≤maxLen):(refX s).Rep S [.int .i64 1,txt s,.slice none 0 0,.int .i64 0,.int .i64 0,txt [],.slice none 0 0,.slice none 0 0]:=
 Xp.Rep_iff.2 ⟨.slice none 0 0,.slice none 0 0,.slice none 0 0,rfl,(show InI 1 by decide),h,SlR.mk_iff.2 ⟨Nat.zero_le _,.inl ⟨rfl,rfl⟩⟩,z31 (k:=0) (n:=0) (t:=[]) (by decide) (by decide) (by decide),SlR.mk_iff.2 ⟨Nat.zero_le _,.inl ⟨rfl,rfl⟩⟩⟩
theorem zpe (e:Xp) (cs:List Value) (H:PH) (he:e.Rep H cs):Gives Tryz.prog zto [.agg cs.toArray] H (.bool (simX e)):=by
 obtain ⟨nb,db,kb,nc,dc,kc,rfl,hx⟩:=Xp.Rep.open he
 refine zps (exVs e nb db kb nc dc kc) (by kernel_rfl) (by kernel_rfl) ⟨?_,PH.le_refl _⟩
 unfold simX
 by_cases h0:e.kind=0<;>by_cases h1:e.kind=1<;>simp [ev0,ev,evV,List.cons_append,List.nil_append,List.getD_cons_zero,List.getD_cons_succ,List.map_cons,List.map_nil,iOf,bOf,sOf,pOf,slLen,z04,cmpI,arI,Value.ite_bool,z01,z02,z00,z03,h0,h1]
theorem zxt (s:List UInt8) (i b:Xp) (S:PH) {nv iv:Value} {bs:List Value} (hn:SlR S [s] nv) (hi:SlR S [i] iv) (hb:b.Rep S bs):Tri Tryz.prog zxb #[nv,iv,.agg bs.toArray] S fun x S'=>PH.le S S'∧XRet S' (letX s i b) x:=by
 obtain ⟨nb,nc,rfl⟩:=hn.sl
 obtain ⟨ib,ic,rfl⟩:=hi.sl
 have hb':=hb
 obtain ⟨xnb,xdb,xkb,xnc,xdc,xkc,rfl,hx⟩:=Xp.Rep.open hb
 refine zte ([.slice nb 1 nc,.slice ib 1 ic]++exVs b xnb xdb xkb xnc xdc xkc) (by kernel_rfl) (by kernel_rfl) ?_
 simp only [List.cons_append,List.nil_append]
 refine ⟨fun g=>by simp [ev0,ev,evV,List.cons_append,List.nil_append,List.getD_cons_zero,List.getD_cons_succ,List.map_cons,List.map_nil,iOf,bOf,sOf,pOf,slLen,z04,cmpI,arI,Value.ite_bool,z01,z02,z00,z03] at g,fun _=>?_⟩
 have h0:Held S S []:=Held.nil (PH.le_refl _)
 have fin:∀{S3 K':PH} {v:Value} {I:List Itm},PH.le S S3→Held S3 K' (orow 28 [i,b] v::I)→∃S',PH.le S S'∧PH.le S' K'∧XRet S' (letX s i b) (.returned (.agg #[.int .i64 8,txt [],.slice nb 1 nc,.int .i64 0,.int .i64 0,txt [],.slice none 0 0,v])):=fun {S3 K' v I} l3 h=>by
  obtain ⟨S',h1,h2,h3⟩:=h.freeze
  have l:=PH.le_trans l3 h2
  refine ⟨S',l,h3.sh,[.int .i64 8,txt [],.slice nb 1 nc,.int .i64 0,.int .i64 0,txt [],.slice none 0 0,v],rfl,?_⟩
  exact Xp.Rep_iff.2 ⟨.slice nb 1 nc,.slice none 0 0,v,rfl,(show InI 8 by decide),by simp [letX,Xp.name],hn.le l,z31 (k:=0) (n:=0) (t:=[]) (by decide) (by decide) (by decide),h1⟩
 refine ⟨fun vs K'=>∃v,vs=[.int .i64 8,txt [],.slice nb 1 nc,.int .i64 0,.int .i64 0,txt [],.slice none 0 0,v]∧∃S',PH.le S S'∧PH.le S' K'∧XRet S' (letX s i b) (.returned (.agg #[.int .i64 8,txt [],.slice nb 1 nc,.int .i64 0,.int .i64 0,txt [],.slice none 0 0,v])),?_,?_,?_⟩
 ·rintro vs K' _ ⟨v,rfl,S',l1,l2,es,he,hr⟩
  refine ⟨PH.le_trans l1 l2,es,?_,Xp.Rep.le l2 _ hr⟩
  rw [←he];rfl
 ·refine z1g (α:=Xp) (b:=128) z2b z1f h0 z05 fun v1 K1 h1 _ _=>?_
  simp only [List.cons_append,List.nil_append]
  refine ⟨?_,?_⟩
  ·refine z1k (b:=128) (more:=[i]) z2b z1f (by kernel_rfl) (by kernel_rfl) h1 (hi.srcS h1.sh) (by simp only [maxLen,List.length_nil,zlc];omega) (by simp only [List.length_nil,zlc];omega) fun v2 K2 h2 _=>⟨z05,?_⟩
   rw [List.nil_append] at h2
   simp only [List.cons_append,List.nil_append]
   refine z15 (more:=[b]) (b:=128) [.agg (exVs b xnb xdb xkb xnc xdc xkc).toArray] z2b z1f rfl (by decide) (by decide) h2 (by kernel_rfl) (.cons (Xp.Rep.le (PH.le_refl _) b hb') .nil) z05 (fun _=>by kernel_rfl) (fun _=>by kernel_rfl)
    (by simp only [maxLen,zlc,List.length_nil];omega) (by simp only [zlc,List.length_nil];omega) fun u v3 S3 K3 l3 h3=>⟨z05,?_⟩
   exact ⟨_,z06,v3,by simp only [ev0,ev,evV,List.cons_append,List.nil_append,List.getD_cons_zero,List.getD_cons_succ,List.map_cons,List.map_nil,iOf,bOf,sOf,pOf,slLen,z04,cmpI,arI,Value.ite_bool,z01,z02,z00,z03];rfl,fin l3 h3⟩
  ·refine znj (l:=[b]) (b:=128) [.agg (exVs b xnb xdb xkb xnc xdc xkc).toArray] z2b z1f rfl (by decide) (by decide) h1 (by kernel_rfl) (.cons hb' .nil) z05 fun v2 K2 h2 _ _=>?_
   simp only [List.cons_append,List.nil_append]
   have h2':=h2.swap
   refine z1k (b:=128) (v:=v1) (more:=[i]) z2b z1f (by kernel_rfl) (by kernel_rfl) h2' (hi.srcS h2.sh) (by simp only [maxLen,List.length_nil,zlc];omega) (by simp only [List.length_nil,zlc];omega) fun v3 K3 h3 _=>⟨z05,?_⟩
   rw [List.nil_append] at h3
   simp only [List.cons_append,List.nil_append]
   refine z1k (b:=128) (v:=v3) (more:=[b]) z2b z1f (by kernel_rfl) (w:=v2) (by kernel_rfl) h3 (h3.row (zmm _ (zms))).srcS (by simp only [maxLen,List.length_nil,zlc];omega) (by simp only [List.length_nil,zlc];omega) fun v4 K4 h4 _=>⟨z05,?_⟩
   exact ⟨_,z06,v4,by simp only [ev0,ev,evV,List.cons_append,List.nil_append,List.getD_cons_zero,List.getD_cons_succ,List.map_cons,List.map_nil,iOf,bOf,sOf,pOf,slLen,z04,cmpI,arI,Value.ite_bool,z01,z02,z00,z03];rfl,fin (PH.le_refl _) h4⟩
 ·refine znj (l:=[b]) (b:=128) [.agg (exVs b xnb xdb xkb xnc xdc xkc).toArray] z2b z1f rfl (by decide) (by decide) h0 (by kernel_rfl) (.cons hb' .nil) z05 fun v1 K1 h1 _ _=>?_
  simp only [List.cons_append,List.nil_append]
  refine z1g (α:=Xp) (b:=128) z2b z1f h1 z05 fun v2 K2 h2 _ _=>?_
  simp only [List.cons_append,List.nil_append]
  refine z1k (b:=128) (v:=v2) (more:=[i]) z2b z1f (by kernel_rfl) (by kernel_rfl) h2 (hi.srcS h2.sh) (by simp only [maxLen,List.length_nil,zlc];omega) (by simp only [List.length_nil,zlc];omega) fun v3 K3 h3 _=>⟨z05,?_⟩
  rw [List.nil_append] at h3
  simp only [List.cons_append,List.nil_append]
  refine z1k (b:=128) (v:=v3) (more:=[b]) z2b z1f (by kernel_rfl) (w:=v1) (by kernel_rfl) h3 (h3.row (zmm _ (zms))).srcS (by simp only [maxLen,List.length_nil,zlc];omega) (by simp only [List.length_nil,zlc];omega) fun v4 K4 h4 _=>⟨z05,?_⟩
  exact ⟨_,z06,v4,by simp only [ev0,ev,evV,List.cons_append,List.nil_append,List.getD_cons_zero,List.getD_cons_succ,List.map_cons,List.map_nil,iOf,bOf,sOf,pOf,slLen,z04,cmpI,arI,Value.ite_bool,z01,z02,z00,z03];rfl,fin (PH.le_refl _) h4⟩
end Go.Proofs.YtjhlndokjkeilaaGreatDoor.Vc
namespace Go.Proofs.YtjhlndokjkeilaaGreatDoor.Vc
open Go Go.Sort
theorem zwd {α:Type} [Enc α] {P:Program} {X:List PanicEntry→PH→Prop} {β:Type} {E:List Value} {H S:PH} {L:LK} {K:β→List Value→PH→LK→Prop} {I:List Itm} {e:TypeId} {l:List α} {v:Value} {T ty ty2:TypeId} {n b:Nat} {ps:Array (Nat×Operand)} {args args2:List (Nat×VE)} {pend pend2:List (SV×List SV)} {x y:Operand} {k:Fm β} {more:List α} (vs:List Value)
  (hT:P.underlying T=some (.slice e)) (he:ElemOk P e (sz α) b=true) (hn:more.length=n) (h0:n * sz α≠0) (hle:n * sz α≤2 ^ 24)
  (h:Held S H (orow e l v::I)) (hps:ps.toList.map (fun x=>(x.1,argEv E args x.2))=idxs 0 vs) (hvs:All2 (fun a v'=>CsR S a v'.cells.toList) more vs) (hp:z0m E H pend)
  (hx:∀u,argEv (E++[u]) args2 x=v) (hy:∀u,argEv (E++[u]) args2 y=u) (h63:l.length+more.length≤maxLen) (hby:(l.length+more.length) * b≤140737488355328)
  (hk:∀u v' S' H',PH.le S S'→Held S' H' (orow e (l++more) v'::I)→(∀k o,H k=some o→some k≠ob v→H' k=some o)→z0m (E++[u]) H' pend2∧den P X k (E++[u]++[v']) H' L K) :
  den P X (.sem (.buildSlice T n ps) ty args (.sc .sl) pend (.sem (.call ⟨.builtin .append,#[x,y],#[T,T]⟩) ty2 args2 (.sc .sl) pend2 k)) E H L K:=by
 refine zj0 (l:=more) vs hT he hn h0 hle h.sh hps hvs hp fun u S1 H1 hx1 hs1 hp1=>?_
 have h1:=h.ext hx1
 exact z1k hT he (hx u) (hy u) h1 (hs1.srcS h1.sh) h63 hby fun v' H2 h2 w=>hk u v' S1 H2 hx1.s h2 fun k o hk hne=>w.keep k o (hx1.h k o hk) hne
theorem Z1g {α:Type} [Enc α] {S H H':PH} {e:TypeId} {l:List α} {v:Value} {i:Nat} {a:α} {cs:List Value} (h:Row S H e l v) (hi:l[i]?=some a) (hk:∀k o,ob v=some k→H k=some o→H' k=some o) (hc:rowAt H (pOf (eltV v (i:Int) (sz α))) cs):rowAt H' (pOf (eltV v (i:Int) (sz α))) cs:=by
 obtain ⟨xs,h1,h2⟩:=h.own
 rcases h1.2 with ⟨rfl,hz⟩ | ⟨g,cap,cur,rfl,h3,h4,h5,h6,h7⟩
 ·have:l=[]:=List.length_eq_zero_iff.1 hz
  subst this;simp at hi
 ·obtain ⟨ad,e1,e2⟩:=hc
  refine ⟨ad,e1,fun j u hj=>?_⟩
  have h8:=e2 j u hj
  have had:(ad.add j).block=g:=by
   simp only [eltV,pOf,z04,Option.map_some,Option.some.injEq] at e1
   rw [←e1,Addr.add_add,Addr.add_plain]
  unfold PH.cell? at h8 ⊢
  rw [had] at h8 ⊢
  rw [h3] at h8
  rw [hk g _ rfl h3];exact h8
theorem Z2g {S:PH} {l:List UInt8} (h:l.length≤maxLen):CsR S l [txt l]:=by
 show PV.RepRow S [.str l] [txt l]
 simp only [PV.RepRow,zdr]
 exact ⟨_,_,rfl,⟨rfl,h⟩,rfl⟩
def NmTo (nr ub:Nat) (es:Array MapEntry) (clock:Nat) (S:PH) (r:Xp×Nat) (x:Ending) (K':PH):Prop:=∃S',PH.le S S'∧Held S' K' [nmB nr ub r.2,nmM ub es clock]∧XRet S' r.1 x
def zz9 (U:List (List UInt8)) (e:Xp):Prop:=∀(cs:List Value) (S K:PH) (nr ub n:Nat) (es:Array MapEntry) (clock:Nat),Tab S→Held S K [nmB nr ub n,nmM ub es clock]→NmOk U es clock→e.Rep S cs→n+e.size * (U.length+1) < 900000000000000000→e.okF true→e.size≤4096 →
 Tri Tryz.prog z3x #[pAt nr,.agg cs.toArray] K (NmTo nr ub es clock S (e.nam U n))
theorem zim (U:List (List UInt8)) {l:List Xp} (hok:∀e∈l,e.okF true) (c n i:Nat):n≤(Xps.nam U c (l.take i) n).2.2∧(Xps.nam U c (l.take i) n).2.2≤n+Xps.size (l.take i) * (U.length+1):=by
 have:=Xps.okF_nam U (l.take i) (fun e _=>Xp.okF_nam U e) (fun e he=>hok e (List.take_subset _ _ he)) c n
 exact ⟨this.1,this.2.1⟩
theorem zw3 {k:Nat} (h:k < 1000000000000000000):(nwL k).length≤maxLen:=by
 have h1:=zd8 h
 unfold nwL
 simp only [maxLen,zla,zlc,List.length_nil];omega
section
variable {U:List (List UInt8)}
theorem zmq (e:Xp) (c:Nat) (ih:∀a∈e.kids,zz9 U a) (cs:List Value) (S K:PH) (nr ub n:Nat) (es:Array MapEntry) (clock:Nat) (hT:Tab S) (h:Held S K [nmB nr ub n,nmM ub es clock]) (hm:NmOk U es clock) (he:e.Rep S cs) (hb:n+e.size * (U.length+1) < 900000000000000000) (hok:e.okF true) (hz:e.size≤4096) (hc:c≤e.kids.length) :
  Tri Tryz.prog zl6 #[pAt nr,.agg cs.toArray,.int .i64 (c:Int)] K (NmTo nr ub es clock S (wrapX (Xps.nam U c e.kids n).2.1 (.mk e.kind e.name e.names e.const (Xps.nam U c e.kids n).1),(Xps.nam U c e.kids n).2.2)):=by
 obtain ⟨nb,db,kb,nc,dc,kc,rfl,hx⟩:=Xp.Rep.open he
 obtain ⟨hf0,hok'⟩:=(Xp.okF_eq e).1 hok
 have hsz:=Xp.size_eq e
 have hk6:e.kids.length≤1048576:=by have:=Xps.size_len e.kids;omega
 refine zit (pAt nr::(exVs e nb db kb nc dc kc++[.int .i64 (c:Int)])) (by kernel_rfl) (by kernel_rfl) ?_
 refine z1g (α:=Xp) (b:=128) z2b z1f h z05 fun v1 K1 h1 _ _=>?_
 simp only [List.cons_append,List.nil_append]
 refine z1k (b:=128) (more:=e.kids) z2b z1f (by kernel_rfl) (by kernel_rfl) h1 (hx.kids.srcS h1.sh) (by simp only [maxLen,List.length_nil];omega) (by simp only [List.length_nil];omega) fun kv K2 h2 _=>⟨z05,?_⟩
 rw [List.nil_append] at h2
 simp only [List.cons_append,List.nil_append]
 obtain ⟨lb,lc,hkv⟩:=(h2.row (zms)).sl
 refine ⟨fun m vs K3=>∃(i:Nat) (S3:PH) (nv iv:Value),i+m=c∧vs=[nv,iv,nI i]∧PH.le S S3∧Held S3 K3 ((orow 28 ((Xps.nam U c (e.kids.take i) n).1++e.kids.drop i) kv::orow 9 ((Xps.nam U c (e.kids.take i) n).2.1.map Prod.fst) nv::orow 28 ((Xps.nam U c (e.kids.take i) n).2.1.map Prod.snd) iv::[nmB nr ub (Xps.nam U c (e.kids.take i) n).2.2,nmM ub es clock])),⟨c,0,S,.slice none 0 0,.slice none 0 0,by omega,rfl,PH.le_refl _,?_⟩,?_⟩
 ·rw [List.take_zero,Xps.nam_nil]
  exact ((h2.empty (α:=Xp) 28).empty (α:=List UInt8) 9).to2
 rintro m vs K3 _ ⟨i,S3,nv,iv,him,rfl,l3,h3⟩
 obtain ⟨r,hr⟩:∃r,r=Xps.nam U c (e.kids.take i) n:=⟨_,rfl⟩
 rw [←hr] at h3
 have hrl:r.1.length=i:=by rw [hr,Xps.nam_len,List.length_take];omega
 have hrb:=zim U hok' c n i
 rw [←hr] at hrb
 have hrn:=Xps.nam_bindsLen U (e.kids.take i) c n
 rw [←hr,List.length_take] at hrn
 have hkl:(r.1++e.kids.drop i).length=e.kids.length:=by rw [zla,hrl,List.length_drop];omega
 obtain ⟨nvb,nvc,hnv⟩:=(h3.swap.row (zms)).sl
 obtain ⟨ivb,ivc,hiv⟩:=(h3.to2.row (zms)).sl
 rw [List.length_map] at hnv hiv
 simp only [List.cons_append,List.nil_append]
 have hsum:Xps.size (e.kids.take i)≤Xps.size e.kids:=by
  have:=Xps.size_append (e.kids.take i) (e.kids.drop i)
  rw [List.take_append_drop] at this;omega
 have hmul:=Nat.mul_le_mul_right (U.length+1) hsum
 have hse:e.size * (U.length+1)=(U.length+1)+Xps.size e.kids * (U.length+1):=by rw [hsz,Nat.add_mul,Nat.one_mul]
 refine ⟨fun g=>?_,fun g=>?_⟩
 ·simp only [ev0,ev,evV,List.cons_append,List.nil_append,List.getD_cons_zero,List.getD_cons_succ,List.map_cons,List.map_nil,iOf,bOf,sOf,pOf,slLen,z04,cmpI,arI,Value.ite_bool,z01,z02,z00,z03,zdt] at g
  have hic:i < c:=by omega
  obtain ⟨a,ha⟩:∃a,e.kids[i]?=some a:=⟨_,zge (by omega)⟩
  have ham:=List.mem_of_getElem? ha
  have haok:=hok' a ham
  have hsa:=Xps.size_at ha
  have hmul2:=Nat.mul_le_mul_right (U.length+1) hsa
  rw [Nat.add_mul] at hmul2
  have hka:(r.1++e.kids.drop i)[i]?=some a:=by
   rw [List.getElem?_append_right (by omega),hrl,Nat.sub_self,List.getElem?_drop,Nat.add_zero];exact ha
  have hks:∀b:Xp,(r.1++e.kids.drop i).set i b=(r.1++[b])++e.kids.drop (i+1):=fun b=>by
   have hd:e.kids.drop i=a::e.kids.drop (i+1):=by
    obtain ⟨hl,hv⟩:=List.getElem?_eq_some_iff.1 ha
    rw [List.drop_eq_getElem_cons hl,hv]
   rw [List.set_append_right _ _ (by omega),hrl,Nat.sub_self,hd,List.set_cons_zero]
   simp
  obtain ⟨x1,_,xs,x2,x3⟩:=(h3.row (zms)).get hka
  have x2':=x2
  obtain ⟨anb,adb,akb,anc,adc,akc,rfl,hxa⟩:=Xp.Rep.open x2'
  rw [hkv] at x1 x3
  refine ⟨fun vs K4=>∃(S4:PH) (nv4 iv4:Value),vs=[nv4,iv4]∧PH.le S S4∧Held S4 K4 ((orow 28 ((Xps.nam U c (e.kids.take (i+1)) n).1++e.kids.drop (i+1)) kv::orow 9 ((Xps.nam U c (e.kids.take (i+1)) n).2.1.map Prod.fst) nv4::orow 28 ((Xps.nam U c (e.kids.take (i+1)) n).2.1.map Prod.snd) iv4::[nmB nr ub (Xps.nam U c (e.kids.take (i+1)) n).2.2,nmM ub es clock])),?_,fun _=>?_,exVs a anb adb akb anc adc akc,rfl,by simp only [ev0,ev,evV,List.cons_append,List.nil_append,List.getD_cons_zero,List.getD_cons_succ,List.map_cons,List.map_nil,iOf,bOf,sOf,pOf,slLen,z04,cmpI,arI,Value.ite_bool,z01,z02,z00,z03];rw [hkv];exact x3,?_⟩
  ·rintro vs K4 _ ⟨S4,nv4,iv4,rfl,l4,h4⟩
   exact ⟨_,z06,m - 1,by omega,i+1,S4,nv4,iv4,by omega,by simp only [ev0,ev,evV,List.cons_append,List.nil_append,List.getD_cons_zero,List.getD_cons_succ,List.map_cons,List.map_nil,iOf,bOf,sOf,pOf,slLen,z04,cmpI,arI,Value.ite_bool,z01,z02,z00,z03,up9 (by omega:i < 9223372036854775807)],l4,h4⟩
  ·simp only [Chk.holds,ev0,ev,evV,List.cons_append,List.nil_append,List.getD_cons_zero,List.getD_cons_succ,List.map_cons,List.map_nil,iOf,bOf,sOf,pOf,slLen,z04,cmpI,arI,Value.ite_bool,z01,z02,z00,z03];rw [hkv];exact ⟨x1,by omega,by simp only;omega⟩
  simp only [List.cons_append,List.nil_append]
  refine z07 [.bool (simX a)] zrc (zpe a _ K3 (Xp.Rep.le h3.sh a x2)) rfl z05 fun K4 l4=>?_
  have h4:=h3.le l4
  simp only [List.cons_append,List.nil_append]
  cases hs:simX a with
  | true=>
   refine ⟨fun g2=>by simp [ev0,ev,evV,List.cons_append,List.nil_append,List.getD_cons_zero,List.getD_cons_succ,List.map_cons,List.map_nil,iOf,bOf,sOf,pOf,slLen,z04,cmpI,arI,Value.ite_bool,z01,z02,z00,z03] at g2,fun _=>?_⟩
   refine ⟨_,z06,S3,nv,iv,rfl,l3,?_⟩
   rw [Xps.nam_snocS U ha hic n hs,←hr]
   have:(r.1++[a])++e.kids.drop (i+1)=r.1++e.kids.drop i:=by
    obtain ⟨hl,hv⟩:=List.getElem?_eq_some_iff.1 ha
    rw [List.drop_eq_getElem_cons hl,hv];simp
   dsimp only
   rw [this];exact h4
  | false=>
   refine ⟨fun _=>?_,fun g2=>by simp [ev0,ev,evV,List.cons_append,List.nil_append,List.getD_cons_zero,List.getD_cons_succ,List.map_cons,List.map_nil,iOf,bOf,sOf,pOf,slLen,z04,cmpI,arI,Value.ite_bool,z01,z02,z00,z03] at g2⟩
   have hN:r.2.2+U.length < 900000000000000000:=by omega
   have hfr:=z5d U r.2.2
   have hfr18:frN U r.2.2 < 1000000000000000000:=by omega
   have hcall:=Held.call (J:=[nmB nr ub r.2.2,nmM ub es clock]) (I:=[orow 28 (r.1++e.kids.drop i) kv,orow 9 (r.2.1.map Prod.fst) nv,orow 28 (r.2.1.map Prod.snd) iv]) (R:=fun x _ J'=>x=.returned (txt (nwL (frN U r.2.2)))∧J'=[nmB nr ub (frN U r.2.2+1),nmM ub es clock]) (h4.perm (List.perm_append_comm (l₁:=[_,_,_]) (l₂:=[_,_]))) fun K' hK'=>(zu8 (hT.le l3) hK' hm hN).mono fun x K'' hx'=>⟨S3,_,PH.le_refl _,hx'.2,hx'.1,rfl⟩
   refine z08 zjw hcall ?_
   rintro x K5 ⟨S5,J5,l5,h5,rfl,rfl⟩
   refine ⟨_,[txt (nwL (frN U r.2.2))],rfl,rfl,rfl,z05,?_⟩
   have h5':=h5.perm (List.perm_append_comm (l₁:=[_,_]) (l₂:=[_,_,_]))
   replace h5':Held S5 K5 (orow 28 (r.1++e.kids.drop i) kv::orow 9 (r.2.1.map Prod.fst) nv::orow 28 (r.2.1.map Prod.snd) iv::[nmB nr ub (frN U r.2.2+1),nmM ub es clock]):=h5'
   obtain ⟨_,_,zs,z2,z3⟩:=(h5'.row (zms)).get hka
   obtain ⟨bnb,bdb,bkb,bnc,bdc,bkc,rfl,hxb⟩:=Xp.Rep.open z2
   rw [hkv] at z3
   refine ⟨exVs a bnb bdb bkb bnc bdc bkc,rfl,by simp only [ev0,ev,evV,List.cons_append,List.nil_append,List.getD_cons_zero,List.getD_cons_succ,List.map_cons,List.map_nil,iOf,bOf,sOf,pOf,slLen,z04,cmpI,arI,Value.ite_bool,z01,z02,z00,z03];rw [hkv];exact z3,?_⟩
   simp only [List.cons_append,List.nil_append]
   have hrow5:=h5'.row (zms)
   have z3':rowAt K5 (pOf (eltV kv (i:Int) 8)) (exVs a bnb bdb bkb bnc bdc bkc):=by rw [hkv];exact z3
   have hwid:IntKind.i64.wrap (i:Int)=(i:Int):=w64 (by omega) (by omega)
   refine zwd (b:=16) (more:=[nwL (frN U r.2.2)]) [txt (nwL (frN U r.2.2))] uTxts z54 rfl (by decide) (by decide) h5'.swap (by kernel_rfl) (.cons (Z2g (zw3 hfr18)) .nil) (z1x (by simp only [List.map_cons,List.map_nil,ev0,ev,evV,List.cons_append,List.nil_append,List.getD_cons_zero,List.getD_cons_succ,List.map_cons,List.map_nil,iOf,bOf,sOf,pOf,slLen,z04,cmpI,arI,Value.ite_bool,z01,z02,z00,z03];exact z3')) (fun u=>by kernel_rfl) (fun u=>by kernel_rfl)
    (by simp only [maxLen,List.length_map,zlc,List.length_nil];omega) (by simp only [List.length_map,zlc,List.length_nil];omega) fun u6 v6 S6 K6 l6 h6 k6=>?_
   have hne56:ob kv≠ob nv∨ob kv=none:=by
    cases hob:ob kv with
    | none=>exact .inr rfl
    | some g=>
     left
     intro hh
     have hnd:=h5'.nd
     rw [List.pairwise_cons] at hnd
     exact hnd.1 _ (zms) g hob hh.symm
   have z6:rowAt K6 (pOf (eltV kv (i:Int) 8)) (exVs a bnb bdb bkb bnc bdc bkc):=Z1g hrow5 hka (fun k o hob hk=>k6 k o hk (by
    rcases hne56 with hh | hh
    ·rw [←hob];exact hh
    ·rw [hh] at hob;cases hob)) z3'
   refine ⟨z1x (by simp only [List.map_cons,List.map_nil,ev0,ev,evV,List.cons_append,List.nil_append,List.getD_cons_zero,List.getD_cons_succ,List.map_cons,List.map_nil,iOf,bOf,sOf,pOf,slLen,z04,cmpI,arI,Value.ite_bool,z01,z02,z00,z03];exact z6),?_⟩
   simp only [List.cons_append,List.nil_append]
   have hszn:frN U r.2.2+1+a.size * (U.length+1) < 900000000000000000:=by omega
   have l36:=PH.le_trans l3 (PH.le_trans l5 l6)
   have hcall:=Held.call (J:=[nmB nr ub (frN U r.2.2+1),nmM ub es clock]) (I:=[orow 9 (r.2.1.map Prod.fst++[nwL (frN U r.2.2)]) v6,orow 28 (r.1++e.kids.drop i) kv,orow 28 (r.2.1.map Prod.snd) iv]) (R:=fun x S' J'=>J'=[nmB nr ub (a.nam U (frN U r.2.2+1)).2,nmM ub es clock]∧XRet S' (a.nam U (frN U r.2.2+1)).1 x) (h6.perm (List.perm_append_comm (l₁:=[_,_,_]) (l₂:=[_,_]))) fun K' hK'=>(ih a ham _ S6 K' nr ub (frN U r.2.2+1) es clock (hT.le l36) hK' hm (exvLe l6 hxb).rep hszn haok (by omega)).mono fun x K'' hx'=>by
    obtain ⟨S',q1,q2,q3⟩:=hx'
    exact ⟨S',_,q1,q2,rfl,q3⟩
   refine z08 z3o hcall ?_
   rintro x K7 ⟨S7,J7,l7,h7,rfl,es7,rfl,hr7⟩
   have ht7:=Xp.Rep.tags hr7
   have hr7':=hr7
   obtain ⟨cnb,cdb,ckb,cnc,cdc,ckc,rfl,hxc⟩:=Xp.Rep.open hr7'
   refine ⟨_,exVs (a.nam U (frN U r.2.2+1)).1 cnb cdb ckb cnc cdc ckc,rfl,ht7,rfl,z05,?_⟩
   simp only [List.cons_append,List.nil_append]
   have h7':Held S7 K7 (orow 28 (r.2.1.map Prod.snd) iv::nmB nr ub (a.nam U (frN U r.2.2+1)).2::nmM ub es clock::orow 9 (r.2.1.map Prod.fst++[nwL (frN U r.2.2)]) v6::orow 28 (r.1++e.kids.drop i) kv::[]):=h7.to4
   refine z15 (more:=[(a.nam U (frN U r.2.2+1)).1]) (b:=128) [.agg (exVs (a.nam U (frN U r.2.2+1)).1 cnb cdb ckb cnc cdc ckc).toArray] z2b z1f rfl (by decide) (by decide) h7' (by kernel_rfl) (.cons hr7 .nil) z05 (fun _=>by kernel_rfl) (fun _=>by kernel_rfl)
    (by simp only [maxLen,List.length_map,zlc,List.length_nil];omega) (by simp only [List.length_map,zlc,List.length_nil];omega) fun u8 v8 S8 K8 l8 h8=>⟨z05,?_⟩
   simp only [List.cons_append,List.nil_append]
   refine z07 [.int .i64 1,txt (nwL (frN U r.2.2)),.slice none 0 0,.int .i64 0,.int .i64 0,txt [],.slice none 0 0,.slice none 0 0] zum (zva (nwL (frN U r.2.2)) K8) rfl z05 fun K9 l9=>?_
   simp only [List.cons_append,List.nil_append]
   have h9:=(h8.le l9).to4
   refine zf9 (i:=i) (a:=a) (a':=refX (nwL (frN U r.2.2))) (us:=[.int .i64 1,txt (nwL (frN U r.2.2)),.slice none 0 0,.int .i64 0,.int .i64 0,txt [],.slice none 0 0,.slice none 0 0]) (by simp only [ev0,ev,evV,List.cons_append,List.nil_append,List.getD_cons_zero,List.getD_cons_succ,List.map_cons,List.map_nil,iOf,bOf,sOf,pOf,slLen,z04,cmpI,arI,Value.ite_bool,z01,z02,z00,z03];rfl) h9 hka rfl (by simp only [List.map_cons,List.map_nil,ev0,ev,evV,List.cons_append,List.nil_append,List.getD_cons_zero,List.getD_cons_succ,List.map_cons,List.map_nil,iOf,bOf,sOf,pOf,slLen,z04,cmpI,arI,Value.ite_bool,z01,z02,z00,z03]) (by
    intro u hu
    simp only [List.mem_cons,List.not_mem_nil,or_false] at hu
    rcases hu with rfl | rfl | rfl | rfl | rfl | rfl | rfl | rfl<;>rfl) (Z0s (zw3 hfr18)) fun K10 h10=>?_
   refine ⟨_,z06,S8,v6,v8,by simp only [ev0,ev,evV,List.cons_append,List.nil_append,List.getD_cons_zero,List.getD_cons_succ,List.map_cons,List.map_nil,iOf,bOf,sOf,pOf,slLen,z04,cmpI,arI,Value.ite_bool,z01,z02,z00,z03],PH.le_trans l3 (PH.le_trans l5 (PH.le_trans l6 (PH.le_trans l7 l8))),?_⟩
   rw [Xps.nam_snocN U ha hic n hs,←hr]
   rw [hks] at h10
   simp only [List.map_append,List.map_cons,List.map_nil]
   exact h10.perm (List.Perm.cons _ ((List.perm_middle (l₁:=[_,_,_]) (l₂:=[])).trans (List.Perm.cons _ (List.Perm.refl _))))
 ·simp only [ev0,ev,evV,List.cons_append,List.nil_append,List.getD_cons_zero,List.getD_cons_succ,List.map_cons,List.map_nil,iOf,bOf,sOf,pOf,slLen,z04,cmpI,arI,Value.ite_bool,z01,z02,z00,z03,zdf] at g
  have hic:i=c:=by omega
  subst hic
  rw [hr] at h3
  clear hrn hkl hnv hiv hrb hrl hsum hmul
  clear hr r
  refine ⟨fun m vs K4=>∃(j:Nat) (S4:PH),j+m=e.kids.length∧i≤j∧vs=[nI j]∧PH.le S S4∧Held S4 K4 (orow 28 ((Xps.nam U i (e.kids.take j) n).1++e.kids.drop j) kv::orow 9 ((Xps.nam U i (e.kids.take j) n).2.1.map Prod.fst) nv::orow 28 ((Xps.nam U i (e.kids.take j) n).2.1.map Prod.snd) iv::[nmB nr ub (Xps.nam U i (e.kids.take j) n).2.2,nmM ub es clock]),⟨e.kids.length - i,i,S3,by omega,Nat.le_refl _,by simp only [ev0,ev,evV,List.cons_append,List.nil_append,List.getD_cons_zero,List.getD_cons_succ,List.map_cons,List.map_nil,iOf,bOf,sOf,pOf,slLen,z04,cmpI,arI,Value.ite_bool,z01,z02,z00,z03],l3,h3⟩,?_⟩
  rintro m2 vs K4 _ ⟨j,S4,hjm,hij,rfl,l4,h4⟩
  simp only [List.cons_append,List.nil_append]
  obtain ⟨r,hr⟩:∃r,r=Xps.nam U i (e.kids.take j) n:=⟨_,rfl⟩
  rw [←hr] at h4
  have hrl:r.1.length=j:=by rw [hr,Xps.nam_len,List.length_take];omega
  have hrb:=zim U hok' i n j
  rw [←hr] at hrb
  have hsum:Xps.size (e.kids.take j)≤Xps.size e.kids:=by
   have:=Xps.size_append (e.kids.take j) (e.kids.drop j)
   rw [List.take_append_drop] at this;omega
  have hmul:=Nat.mul_le_mul_right (U.length+1) hsum
  refine ⟨fun g2=>?_,fun g2=>?_⟩
  ·have hjl:j < e.kids.length:=by
    rw [hkv] at g2;simp only [ev0,ev,evV,List.cons_append,List.nil_append,List.getD_cons_zero,List.getD_cons_succ,List.map_cons,List.map_nil,iOf,bOf,sOf,pOf,slLen,z04,cmpI,arI,Value.ite_bool,z01,z02,z00,z03,zdt] at g2;omega
   obtain ⟨a,ha⟩:∃a,e.kids[j]?=some a:=⟨_,zge hjl⟩
   have ham:=List.mem_of_getElem? ha
   have haok:=hok' a ham
   have hsa:=Xps.size_at ha
   have hmul2:=Nat.mul_le_mul_right (U.length+1) hsa
   rw [Nat.add_mul] at hmul2
   have hka:(r.1++e.kids.drop j)[j]?=some a:=by
    rw [List.getElem?_append_right (by omega),hrl,Nat.sub_self,List.getElem?_drop,Nat.add_zero];exact ha
   have hks:∀b:Xp,(r.1++e.kids.drop j).set j b=(r.1++[b])++e.kids.drop (j+1):=fun b=>by
    have hd:e.kids.drop j=a::e.kids.drop (j+1):=by
     obtain ⟨hl,hv⟩:=List.getElem?_eq_some_iff.1 ha
     rw [List.drop_eq_getElem_cons hl,hv]
    rw [List.set_append_right _ _ (by omega),hrl,Nat.sub_self,hd,List.set_cons_zero]
    simp
   obtain ⟨x1,_,xs,x2,x3⟩:=(h4.row (zms)).get hka
   have x2':=x2
   obtain ⟨anb,adb,akb,anc,adc,akc,rfl,hxa⟩:=Xp.Rep.open x2'
   rw [hkv] at x1 x3
   refine ⟨fun _=>?_,exVs a anb adb akb anc adc akc,rfl,by simp only [ev0,ev,evV,List.cons_append,List.nil_append,List.getD_cons_zero,List.getD_cons_succ,List.map_cons,List.map_nil,iOf,bOf,sOf,pOf,slLen,z04,cmpI,arI,Value.ite_bool,z01,z02,z00,z03];rw [hkv];exact x3,?_⟩
   ·simp only [Chk.holds,ev0,ev,evV,List.cons_append,List.nil_append,List.getD_cons_zero,List.getD_cons_succ,List.map_cons,List.map_nil,iOf,bOf,sOf,pOf,slLen,z04,cmpI,arI,Value.ite_bool,z01,z02,z00,z03];rw [hkv];exact ⟨x1,by omega,by simp only;omega⟩
   simp only [List.cons_append,List.nil_append]
   have hcall:=Held.call (J:=[nmB nr ub r.2.2,nmM ub es clock]) (I:=[orow 28 (r.1++e.kids.drop j) kv,orow 9 (r.2.1.map Prod.fst) nv,orow 28 (r.2.1.map Prod.snd) iv]) (R:=fun x S' J'=>J'=[nmB nr ub (a.nam U r.2.2).2,nmM ub es clock]∧XRet S' (a.nam U r.2.2).1 x) (h4.perm (List.perm_append_comm (l₁:=[_,_,_]) (l₂:=[_,_]))) fun K' hK'=>(ih a ham _ S4 K' nr ub r.2.2 es clock (hT.le l4) hK' hm x2 (by omega) haok (by omega)).mono fun x K'' hx'=>by
    obtain ⟨S',q1,q2,q3⟩:=hx'
    exact ⟨S',_,q1,q2,rfl,q3⟩
   refine z08 z3o hcall ?_
   rintro x K7 ⟨S7,J7,l7,h7,rfl,es7,rfl,hr7⟩
   have ht7:=Xp.Rep.tags hr7
   have hr7':=hr7
   obtain ⟨cnb,cdb,ckb,cnc,cdc,ckc,rfl,hxc⟩:=Xp.Rep.open hr7'
   refine ⟨_,exVs (a.nam U r.2.2).1 cnb cdb ckb cnc cdc ckc,rfl,ht7,rfl,z05,?_⟩
   simp only [List.cons_append,List.nil_append]
   have h7':Held S7 K7 (orow 28 (r.1++e.kids.drop j) kv::orow 9 (r.2.1.map Prod.fst) nv::orow 28 (r.2.1.map Prod.snd) iv::[nmB nr ub (a.nam U r.2.2).2,nmM ub es clock]):=h7.perm (List.perm_append_comm (l₁:=[_,_]) (l₂:=[_,_,_]))
   refine zf9 (i:=j) (a:=a) (a':=(a.nam U r.2.2).1) (us:=exVs (a.nam U r.2.2).1 cnb cdb ckb cnc cdc ckc) (by simp only [ev0,ev,evV,List.cons_append,List.nil_append,List.getD_cons_zero,List.getD_cons_succ,List.map_cons,List.map_nil,iOf,bOf,sOf,pOf,slLen,z04,cmpI,arI,Value.ite_bool,z01,z02,z00,z03];rfl) h7' hka rfl (by simp only [List.map_cons,List.map_nil,ev0,ev,evV,List.cons_append,List.nil_append,List.getD_cons_zero,List.getD_cons_succ,List.map_cons,List.map_nil,iOf,bOf,sOf,pOf,slLen,z04,cmpI,arI,Value.ite_bool,z01,z02,z00,z03]) (by
    intro u hu
    simp only [List.mem_cons,List.not_mem_nil,or_false] at hu
    rcases hu with rfl | rfl | rfl | rfl | rfl | rfl | rfl | rfl<;>rfl) hr7 fun K10 h10=>?_
   refine ⟨_,z06,m2 - 1,by omega,j+1,S7,by omega,by omega,by simp only [ev0,ev,evV,List.cons_append,List.nil_append,List.getD_cons_zero,List.getD_cons_succ,List.map_cons,List.map_nil,iOf,bOf,sOf,pOf,slLen,z04,cmpI,arI,Value.ite_bool,z01,z02,z00,z03,up9 (by omega:j < 9223372036854775807)],PH.le_trans l4 l7,?_⟩
   rw [Xps.nam_snoc0 U ha hij n,←hr]
   rw [hks] at h10
   exact h10
  have hjl:j=e.kids.length:=by
   rw [hkv] at g2;simp only [ev0,ev,evV,List.cons_append,List.nil_append,List.getD_cons_zero,List.getD_cons_succ,List.map_cons,List.map_nil,iOf,bOf,sOf,pOf,slLen,z04,cmpI,arI,Value.ite_bool,z01,z02,z00,z03,zdf] at g2;omega
  subst hjl
  rw [List.take_length] at hr
  rw [List.drop_length,List.append_nil] at h4
  obtain ⟨bs,hbs⟩:∃bs,bs=r.2.1:=⟨_,rfl⟩
  rw [←hbs] at h4
  have hbl:bs.length≤1048576:=by
   rw [hbs,hr]
   have:=(Xps.nam_bindsLen U e.kids i n).2
   omega
  obtain ⟨S5,k5,l5,h5⟩:=h4.freeze
  obtain ⟨S6,k6,l6,h6⟩:=h5.freeze
  obtain ⟨S7,k7,l7,h7⟩:=h6.freeze
  have l47:=PH.le_trans l4 (PH.le_trans l5 (PH.le_trans l6 l7))
  have k67:=k6.le l7
  have k57:=k5.le (PH.le_trans l6 l7)
  obtain ⟨nvb,nvc,rfl⟩:=k67.sl
  obtain ⟨ivb,ivc,rfl⟩:=k7.sl
  have hx7:=exvLe l47 hx
  obtain ⟨body,hbody⟩:∃body:Xp,body=.mk e.kind e.name e.names e.const r.1:=⟨_,rfl⟩
  have hbr:body.Rep S7 [.int .i64 e.kind,txt e.name,.slice nb e.names.length nc,.int .i64 e.const.kind,.int .i64 e.const.int,txt e.const.text,.slice db e.const.list.length dc,kv]:=by
   rw [hbody]
   exact Xp.Rep_iff.2 ⟨_,_,_,rfl,hx7.kind,hx7.name,hx7.names,hx7.const,k57⟩
  have hgoal:(Xps.nam U i e.kids n)=r:=hr.symm
  rw [hgoal,←hbs,←hbody]
  have hcapn:(bs.map Prod.fst).length≤nvc:=by
   rcases (SlR.mk_iff.1 k67).2 with ⟨e1,e2⟩ | ⟨a,c,e1,e2,_⟩
   ·rw [e2];exact Nat.zero_le _
   ·cases e1;exact e2
  have hcapi:(bs.map Prod.snd).length≤ivc:=by
   rcases (SlR.mk_iff.1 k7).2 with ⟨e1,e2⟩ | ⟨a,c,e1,e2,_⟩
   ·rw [e2];exact Nat.zero_le _
   ·cases e1;exact e2
  rw [List.length_map] at hcapn hcapi
  refine ⟨fun m vs K8=>∃(S8:PH) (ws:List Value),vs=.int .i64 ((m:Int) - 1)::ws∧m≤bs.length∧PH.le S7 S8∧Held S8 K8 [nmB nr ub r.2.2,nmM ub es clock]∧(wrapX (bs.drop m) body).Rep S8 ws,⟨bs.length,S7,[.int .i64 e.kind,txt e.name,.slice nb e.names.length nc,.int .i64 e.const.kind,.int .i64 e.const.int,txt e.const.text,.slice db e.const.list.length dc,kv],?_,Nat.le_refl _,PH.le_refl _,h7,?_⟩,?_⟩
  rotate_left
  ·rw [List.drop_length];exact hbr
  ·rintro m vs K8 _ ⟨S8,ws,rfl,hmb,l8,h8,hw8⟩
   have hw8':=hw8
   obtain ⟨cnb,cdb,ckb,cnc,cdc,ckc,rfl,hxc⟩:=Xp.Rep.open hw8'
   obtain ⟨W,hW⟩:∃W,W=wrapX (bs.drop m) body:=⟨_,rfl⟩
   rw [←hW] at hw8 hxc ⊢
   simp only [List.cons_append,List.nil_append]
   refine ⟨fun g3=>?_,fun g3=>?_⟩
   ·simp only [ev0,ev,evV,List.cons_append,List.nil_append,List.getD_cons_zero,List.getD_cons_succ,List.map_cons,List.map_nil,iOf,bOf,sOf,pOf,slLen,z04,cmpI,arI,Value.ite_bool,z01,z02,z00,z03,zdt] at g3
    obtain ⟨k,rfl⟩:∃k,m=k+1:=⟨m - 1,by omega⟩
    have hk1:(((k+1:Nat):Int) - 1)=(k:Int):=by omega
    rw [hk1]
    obtain ⟨x,hxb⟩:∃x,bs[k]?=some x:=⟨_,zge (by omega)⟩
    have hw1:IntKind.i64.wrap ((k:Int)+1)=((k+1:Nat):Int):=up9 (by omega)
    have cutN:=(k67.le l8).cut (a:=k) (b:=k+1) (by omega) (by rw [List.length_map];omega)
    have cutI:=(k7.le l8).cut (a:=k) (b:=k+1) (by omega) (by rw [List.length_map];omega)
    have one:∀{γ:Type} {l:List γ} {y:γ},l[k]?=some y→(l.take (k+1)).drop k=[y]:=fun {γ l y} hy=>by
     have hl:=(List.getElem?_eq_some_iff.1 hy).1
     rw [List.take_add_one,hy,List.drop_append,List.length_take,Nat.min_eq_left (by omega),Nat.sub_self,List.drop_of_length_le (by rw [List.length_take];omega)];rfl
    rw [one (by rw [List.getElem?_map,hxb];rfl)] at cutN cutI
    refine ⟨fun _=>?_,fun _=>?_,?_⟩
    ·simp only [Chk.holds,ev0,ev,evV,List.cons_append,List.nil_append,List.getD_cons_zero,List.getD_cons_succ,List.map_cons,List.map_nil,iOf,bOf,sOf,pOf,slLen,z04,cmpI,arI,Value.ite_bool,z01,z02,z00,z03,hw1,slCap,List.length_map];omega
    ·simp only [Chk.holds,ev0,ev,evV,List.cons_append,List.nil_append,List.getD_cons_zero,List.getD_cons_succ,List.map_cons,List.map_nil,iOf,bOf,sOf,pOf,slLen,z04,cmpI,arI,Value.ite_bool,z01,z02,z00,z03,hw1,slCap,List.length_map];omega
    refine z08 zv7 (R:=fun x' K'=>∃S',PH.le S8 S'∧Held S' K' [nmB nr ub r.2.2,nmM ub es clock]∧XRet S' (letX x.1 x.2 W) x') ?_ ?_
    ·have:=h8.pure (zxt x.1 x.2 W S8 cutN cutI hw8)
     rw [←hw1] at this
     exact this
    rintro x' K9 ⟨S9,l9,h9,es9,rfl,hr9⟩
    have ht9:=Xp.Rep.tags hr9
    have hr9':=hr9
    obtain ⟨dnb,ddb,dkb,dnc,ddc,dkc,rfl,hxd⟩:=Xp.Rep.open hr9'
    refine ⟨_,exVs (letX x.1 x.2 W) dnb ddb dkb dnc ddc dkc,rfl,ht9,rfl,z05,?_⟩
    refine ⟨_,z06,k,by omega,S9,exVs (letX x.1 x.2 W) dnb ddb dkb dnc ddc dkc,?_,by omega,PH.le_trans l8 l9,h9,?_⟩
    ·simp only [ev0,ev,evV,List.cons_append,List.nil_append,List.getD_cons_zero,List.getD_cons_succ,List.map_cons,List.map_nil,iOf,bOf,sOf,pOf,slLen,z04,cmpI,arI,Value.ite_bool,z01,z02,z00,z03,down9 (by omega:k < 9223372036854775807)]
    ·have hd:bs.drop k=x::bs.drop (k+1):=by
      obtain ⟨hl,hv⟩:=List.getElem?_eq_some_iff.1 hxb
      rw [List.drop_eq_getElem_cons hl,hv]
     rw [hd]
     show (letX x.1 x.2 (wrapX (bs.drop (k+1)) body)).Rep S9 _
     rw [←hW];exact hr9
   ·simp only [ev0,ev,evV,List.cons_append,List.nil_append,List.getD_cons_zero,List.getD_cons_succ,List.map_cons,List.map_nil,iOf,bOf,sOf,pOf,slLen,z04,cmpI,arI,Value.ite_bool,z01,z02,z00,z03,zdf] at g3
    have hm0:m=0:=by omega
    subst hm0
    rw [List.drop_zero] at hW
    refine ⟨S8,PH.le_trans l47 l8,h8,exVs W cnb cdb ckb cnc cdc ckc,?_,?_⟩
    ·simp only [ev0,ev,evV,List.cons_append,List.nil_append,List.getD_cons_zero,List.getD_cons_succ,List.map_cons,List.map_nil,iOf,bOf,sOf,pOf,slLen,z04,cmpI,arI,Value.ite_bool,z01,z02,z00,z03]
    ·rw [←hW];exact hw8
  ·simp only [ev0,ev,evV,List.cons_append,List.nil_append,List.getD_cons_zero,List.getD_cons_succ,List.map_cons,List.map_nil,iOf,bOf,sOf,pOf,slLen,z04,cmpI,arI,Value.ite_bool,z01,z02,z00,z03,List.length_map,down9 (by omega:bs.length < 9223372036854775807)]
end
end Go.Proofs.YtjhlndokjkeilaaGreatDoor.Vc
namespace Go.Proofs.YtjhlndokjkeilaaGreatDoor.Vc
open Go Go.Sort
theorem zrg {P:Program} {X:List PanicEntry→PH→Prop} {β:Type} {E:List Value} {H:PH} {L:LK} {K:β→List Value→PH→LK→Prop} {fn:Fn} {first caps:Array Operand} {ty:TypeId} {args:List (Nat×VE)} {k:Fm β} {f:FuncId} {F C:Array Value} (hf:fn=.func f) (h1:first.map (argEv E args)=F) (h2:caps.map (argEv E args)=C) (hk:den P X k (E++[.func (.func f) F C]) H L K) :
  den P X (.sem (.makeFunc fn first caps) ty args (.sc .any) [] k) E H L K:=by
 subst h1 h2
 exact zs8 hf hk
theorem zdl (U:List (List UInt8)):∀(l:List Xp) (n:Nat),mapS (fun n e=>Xp.nam U e n) n l=((Xps.nam U 0 l n).1,(Xps.nam U 0 l n).2.2)
 | [],n=>by rw [Xps.nam_nil];rfl
 | e::l,n=>by rw [Xps.nam_zero];simp only [mapS,zdl U l]
theorem zpo {S:PH} {e:Xp} {x:Ending} (h:XRet S e x):∃nb db kb nc dc kc,x=.returned (.agg (exVs e nb db kb nc dc kc).toArray)∧e.Rep S (exVs e nb db kb nc dc kc):=by
 obtain ⟨es,rfl,hr⟩:=h
 have hr':=hr
 obtain ⟨nb,db,kb,nc,dc,kc,rfl,_⟩:=Xp.Rep.open hr'
 exact ⟨nb,db,kb,nc,dc,kc,rfl,hr⟩
theorem zx9 (U:List (List UInt8)):∀e,zz9 U e:=by
 refine Xp.ind fun e ih cs S K nr ub n es clock hT h hm he hb hok hz=>?_
 have he':=he
 obtain ⟨nb,db,kb,nc,dc,kc,rfl,hx⟩:=Xp.Rep.open he
 obtain ⟨hf0,hok'⟩:=(Xp.okF_eq e).1 hok
 have hform:=zdh hf0
 refine zju (pAt nr::exVs e nb db kb nc dc kc) (by kernel_rfl) (by kernel_rfl) ?_
 have fin:∀{x:Ending} {K':PH},NmTo nr ub es clock S (e.nam U n) x K'→∃v vs,x=.returned v∧z0c [.int .i64,.str,.sl,.int .i64,.int .i64,.str,.sl,.sl] vs=true∧v=.agg vs.toArray∧∃S' ,PH.le S S'∧Held S' K' [nmB nr ub (e.nam U n).2,nmM ub es clock]∧(e.nam U n).1.Rep S' vs∧∃w0 w1 w2 w3 w4 w5 w6 w7,vs=[w0,w1,w2,w3,w4,w5,w6,w7]:=fun h=>by
  obtain ⟨S',l,hh,hq⟩:=h
  obtain ⟨nb,db,kb,nc,dc,kc,rfl,hq2⟩:=zpo hq
  exact ⟨_,_,rfl,Xp.Rep.tags hq2,rfl,S',l,hh,hq2,_,_,_,_,_,_,_,_,rfl⟩
 refine ⟨fun g=>?_,fun g=>?_⟩
 ·have hk:e.kind=6∨e.kind=7:=by
   by_cases k6:e.kind=6
   ·exact .inl k6
   ·right;simp [ev0,ev,evV,List.cons_append,List.nil_append,List.getD_cons_zero,List.getD_cons_succ,List.map_cons,List.map_nil,iOf,bOf,sOf,pOf,slLen,z04,cmpI,arI,Value.ite_bool,z01,z02,z00,z03,k6] at g;exact g
  have hs:someN e.kind e.kids.length=e.kids.length:=by unfold someN;rw [if_pos hk]
  have h7:=zoj hform hk
  refine z08 z9u (zmq e e.kids.length (fun a ha=>ih a ha) _ S K nr ub n es clock hT h hm he' hb hok hz (Nat.le_refl _)) ?_
  rintro x K2 h2
  have hn:(wrapX (Xps.nam U e.kids.length e.kids n).2.1 (.mk e.kind e.name e.names e.const (Xps.nam U e.kids.length e.kids n).1),(Xps.nam U e.kids.length e.kids n).2.2)=e.nam U n:=by rw [Xp.nam_eq,hs]
  rw [hn] at h2
  obtain ⟨v,vs,rfl,ht,rfl,S',l,hh,hr,w0,w1,w2,w3,w4,w5,w6,w7,rfl⟩:=fin h2
  exact ⟨_,_,rfl,ht,rfl,z05,S',l,hh,_,rfl,hr⟩
 have hk6:¬(e.kind=6∨e.kind=7):=by
  rintro (hk | hk)
  ·simp [ev0,ev,evV,List.cons_append,List.nil_append,List.getD_cons_zero,List.getD_cons_succ,List.map_cons,List.map_nil,iOf,bOf,sOf,pOf,slLen,z04,cmpI,arI,Value.ite_bool,z01,z02,z00,z03,hk] at g
  ·simp [ev0,ev,evV,List.cons_append,List.nil_append,List.getD_cons_zero,List.getD_cons_succ,List.map_cons,List.map_nil,iOf,bOf,sOf,pOf,slLen,z04,cmpI,arI,Value.ite_bool,z01,z02,z00,z03,hk] at g
 refine ⟨fun g3=>?_,fun g3=>?_⟩
 ·simp only [ev0,ev,evV,List.cons_append,List.nil_append,List.getD_cons_zero,List.getD_cons_succ,List.map_cons,List.map_nil,iOf,bOf,sOf,pOf,slLen,z04,cmpI,arI,Value.ite_bool,z01,z02,z00,z03,zdt] at g3
  have hs:someN e.kind e.kids.length=1:=by unfold someN;rw [if_neg hk6,if_pos g3]
  have hk3:e.kids.length=3:=by
   unfold z0o at hform
   rw [if_neg (by omega)] at hform
   simp only [zba] at hform
   obtain ⟨_,hf⟩:=hform
   rw [if_neg (by omega),if_neg (by omega),if_pos g3] at hf
   simp only [zba,zdt] at hf
   exact hf.2
  refine z08 z9u (zmq e 1 (fun a ha=>ih a ha) _ S K nr ub n es clock hT h hm he' hb hok hz (by omega)) ?_
  rintro x K2 h2
  have hn:(wrapX (Xps.nam U 1 e.kids n).2.1 (.mk e.kind e.name e.names e.const (Xps.nam U 1 e.kids n).1),(Xps.nam U 1 e.kids n).2.2)=e.nam U n:=by rw [Xp.nam_eq,hs]
  rw [hn] at h2
  obtain ⟨v,vs,rfl,ht,rfl,S',l,hh,hr,w0,w1,w2,w3,w4,w5,w6,w7,rfl⟩:=fin h2
  exact ⟨_,_,rfl,ht,rfl,z05,S',l,hh,_,rfl,hr⟩
 ·simp only [ev0,ev,evV,List.cons_append,List.nil_append,List.getD_cons_zero,List.getD_cons_succ,List.map_cons,List.map_nil,iOf,bOf,sOf,pOf,slLen,z04,cmpI,arI,Value.ite_bool,z01,z02,z00,z03,zdf] at g3
  have hs:someN e.kind e.kids.length=0:=zbw (by omega)
  have hkl:e.kids.length≤1048576:=by have:=Xps.size_len e.kids;have:=Xp.size_eq e;omega
  refine zrg (f:=z3x) (F:=#[pAt nr]) (C:=#[]) rfl (by kernel_rfl) (by kernel_rfl) ?_
  have hmap:Tri Tryz.prog ziq #[.agg (exVs e nb db kb nc dc kc).toArray,.func (.func z3x) #[pAt nr] #[]] K fun x K'=>∃S' J',PH.le S S'∧Held S' K' J'∧J'=[nmB nr ub (mapS (fun n x=>Xp.nam U x n) n e.kids).2,nmM ub es clock]∧XRet S' (.mk e.kind e.name e.names e.const (mapS (fun n x=>Xp.nam U x n) n e.kids).1) x:=by
   refine zw7 (fun n x=>Xp.nam U x n) (fun n Js=>Js=[nmB nr ub n,nmM ub es clock]) n e _ S K _ (g:=z3x) (first:=#[pAt nr]) (caps:=#[]) z3o h rfl he' hkl ?_
   intro j k hj S' K' Js cs l' h' hJs hk
   subst hJs
   have hmem:=List.mem_of_getElem? hj
   have h1:=Xps.size_at hj
   have h2:=zim U hok' 0 n j
   rw [zdl] at h' ⊢
   have hmul:=Nat.mul_le_mul_right (U.length+1) h1
   rw [Nat.add_mul] at hmul
   have hse:e.size * (U.length+1)=(U.length+1)+Xps.size e.kids * (U.length+1):=by rw [Xp.size_eq e,Nat.add_mul,Nat.one_mul]
   refine (ih k hmem cs S' K' nr ub _ es clock (hT.le l') h' hm hk (by dsimp only;omega) (hok' k hmem) (by have:=Xp.size_eq e;omega)).mono ?_
   rintro x K'' ⟨S'',q1,q2,q3⟩
   exact ⟨S'',_,q1,q2,rfl,q3⟩
  refine z08 zmb hmap ?_
  rintro x K2 ⟨S2,J2,l2,h2,rfl,hr2⟩
  obtain ⟨anb,adb,akb,anc,adc,akc,rfl,r2⟩:=zpo hr2
  have ht:=Xp.Rep.tags r2
  refine ⟨_,_,rfl,ht,rfl,z05,S2,l2,?_,_,rfl,?_⟩
  ·rw [Xp.nam_eq,hs]
   rw [zdl] at h2;exact h2
  ·rw [Xp.nam_eq,hs,Xps.nam_binds0]
   rw [zdl] at r2
   rw [zdl];exact r2
theorem zwu (e:Xp) (cs:List Value) (H:PH) (he:e.Rep H cs):Gives Tryz.prog z97 [.agg cs.toArray] H (.bool (badK e.kind)):=by
 obtain ⟨nb,db,kb,nc,dc,kc,rfl,hx⟩:=Xp.Rep.open he
 refine zpk (exVs e nb db kb nc dc kc) (by kernel_rfl) (by kernel_rfl) ⟨?_,PH.le_refl _⟩
 simp only [ev0,ev,evV,List.cons_append,List.nil_append,List.getD_cons_zero,List.getD_cons_succ,List.map_cons,List.map_nil,iOf,bOf,sOf,pOf,slLen,z04,cmpI,arI,Value.ite_bool,z01,z02,z00,z03,badK]
theorem zxm:∀(e:Xp) (cs:List Value) (H:PH),e.Rep H cs→Gives Tryz.prog zwn [.agg cs.toArray,.func (.func z97) #[] #[]] H (.bool (e.any badK)):=by
 refine Xp.ind fun e ih cs H he=>?_
 have he':=he
 obtain ⟨nb,db,kb,nc,dc,kc,rfl,hx⟩:=Xp.Rep.open he
 have hk:=hx.kids.max
 simp only [maxLen] at hk
 refine ztx (exVs e nb db kb nc dc kc++[.func (.func z97) #[] #[]]) (by kernel_rfl) (by kernel_rfl) ?_
 rw [Xp.any_eq]
 refine zqs (f:=z97) (first:=#[]) (caps:=#[]) (by rfl) zr1 (zwu e _ H he') ?_
 rintro x H1 ⟨rfl,l1⟩
 refine ⟨_,[.bool (badK e.kind)],rfl,rfl,rfl,z05,?_⟩
 refine ⟨fun g=>?_,fun g=>?_⟩
 ·simp only [ev0,ev,evV,List.cons_append,List.nil_append,List.getD_cons_zero,List.getD_cons_succ,List.map_cons,List.map_nil,iOf,bOf,sOf,pOf,slLen,z04,cmpI,arI,Value.ite_bool,z01,z02,z00,z03] at g
  refine ⟨?_,l1⟩
  rw [g];rfl
 simp only [ev0,ev,evV,List.cons_append,List.nil_append,List.getD_cons_zero,List.getD_cons_succ,List.map_cons,List.map_nil,iOf,bOf,sOf,pOf,slLen,z04,cmpI,arI,Value.ite_bool,z01,z02,z00,z03] at g
 refine ⟨fun n vs H'=>∃k:Nat,vs=[.bool false,.int .i64 k]∧k+n=e.kids.length∧(badK e.kind || Xps.any badK e.kids)=Xps.any badK (e.kids.drop k)∧PH.le H H',⟨e.kids.length,0,rfl,by omega,by rw [g,List.drop_zero];rfl,l1⟩,?_⟩
 rintro n vs H2 _ ⟨k,rfl,hkn,hz,l2⟩
 refine ⟨fun g1=>?_,fun g1=>?_⟩
 ·simp only [ev0,ev,evV,List.cons_append,List.nil_append,List.getD_cons_zero,List.getD_cons_succ,List.map_cons,List.map_nil,iOf,bOf,sOf,pOf,slLen,z04,cmpI,arI,Value.ite_bool,z01,z02,z00,z03,zdt] at g1
  obtain ⟨a,ha⟩:∃a,e.kids[k]?=some a:=⟨_,zge (show k < e.kids.length by omega)⟩
  obtain ⟨q1,_,ces,g2,g3⟩:=(hx.kids.le l2).get ha
  have hmem:=List.mem_of_getElem? ha
  have htags:=Xp.Rep.tags g2
  have g2':=g2
  obtain ⟨nb',db',kb',nc',dc',kc',rfl,_⟩:=Xp.Rep.open g2'
  have hd:e.kids.drop k=a::e.kids.drop (k+1):=by
   obtain ⟨hl,hv⟩:=List.getElem?_eq_some_iff.1 ha
   rw [List.drop_eq_getElem_cons hl,hv]
  refine ⟨fun _=>?_,_,htags,by simp only [ev0,ev,evV,List.cons_append,List.nil_append,List.getD_cons_zero,List.getD_cons_succ,List.map_cons,List.map_nil,iOf,bOf,sOf,pOf,slLen,z04,cmpI,arI,Value.ite_bool,z01,z02,z00,z03];exact g3,?_⟩
  ·simp only [Chk.holds,ev0,ev,evV,List.cons_append,List.nil_append,List.getD_cons_zero,List.getD_cons_succ,List.map_cons,List.map_nil,iOf,bOf,sOf,pOf,slLen,z04,cmpI,arI,Value.ite_bool,z01,z02,z00,z03];exact ⟨q1,by omega,by omega⟩
  refine z07 [.bool (a.any badK)] zlw (ih a hmem _ H2 g2) rfl z05 fun H3 l3=>⟨fun g4=>?_,fun g4=>?_⟩
  ·simp only [ev0,ev,evV,List.cons_append,List.nil_append,List.getD_cons_zero,List.getD_cons_succ,List.map_cons,List.map_nil,iOf,bOf,sOf,pOf,slLen,z04,cmpI,arI,Value.ite_bool,z01,z02,z00,z03] at g4
   refine ⟨?_,PH.le_trans l2 l3⟩
   rw [hz,hd];simp only [Xps.any,g4,Bool.true_or];rfl
  ·simp only [ev0,ev,evV,List.cons_append,List.nil_append,List.getD_cons_zero,List.getD_cons_succ,List.map_cons,List.map_nil,iOf,bOf,sOf,pOf,slLen,z04,cmpI,arI,Value.ite_bool,z01,z02,z00,z03] at g4
   refine ⟨_,z06,n - 1,by omega,k+1,?_,by omega,?_,PH.le_trans l2 l3⟩
   ·simp only [ev0,ev,evV,List.cons_append,List.nil_append,List.getD_cons_zero,List.getD_cons_succ,List.map_cons,List.map_nil,iOf,bOf,sOf,pOf,slLen,z04,cmpI,arI,Value.ite_bool,z01,z02,z00,z03];rw [w64 (by omega) (by omega)];rfl
   ·rw [hz,hd];simp only [Xps.any,g4,Bool.false_or]
 ·simp only [ev0,ev,evV,List.cons_append,List.nil_append,List.getD_cons_zero,List.getD_cons_succ,List.map_cons,List.map_nil,iOf,bOf,sOf,pOf,slLen,z04,cmpI,arI,Value.ite_bool,z01,z02,z00,z03,zdf] at g1
  refine ⟨?_,l2⟩
  rw [hz,List.drop_of_length_le (by omega)];rfl
def anfX (e:Xp):Xp×Int:=if (e.chk true 0 0).2≠0∨e.any badK=true then (exZ,100) else if ((namX e).chk true 0 0).2=0 then (namX e,0) else (exZ,101)
def NRet (e:Xp) (x:Ending) (S:PH):Prop:=∃es:List Value,es.length=8∧x=.returned (.tuple #[.agg es.toArray,.int .i64 (anfX e).2])∧(anfX e).1.Rep S es
theorem zw5 (S:PH):exZ.Rep S [.int .i64 0,txt [],.slice none 0 0,.int .i64 0,.int .i64 0,txt [],.slice none 0 0,.slice none 0 0]:=zne S
theorem zmx {e:Xp} (h:(e.chk true 0 0).2≠0∨e.any badK=true):anfX e=(exZ,100):=by unfold anfX;rw [if_pos h]
theorem zqm {e:Xp} (h:¬((e.chk true 0 0).2≠0∨e.any badK=true)):anfX e=if ((namX e).chk true 0 0).2=0 then (namX e,0) else (exZ,101):=by unfold anfX;rw [if_neg h]
theorem zj5 (e:Xp) (cs:List Value) (S:PH) (hT:Tab S) (he:e.Rep S cs):Tri Tryz.prog zwr #[.agg cs.toArray] S fun x S'=>PH.le S S'∧NRet e x S':=by
 have he':=he
 obtain ⟨nb,db,kb,nc,dc,kc,rfl,hx⟩:=Xp.Rep.open he
 refine zu2 (exVs e nb db kb nc dc kc) (by kernel_rfl) (by kernel_rfl) ?_
 refine ⟨fun vs S'=>vs=[.bool (decide ((e.chk true 0 0).2≠0∨e.any badK=true))]∧PH.le S S',?_,?_⟩
 rotate_left
 ·refine z07 [.int .i64 (e.chk true 0 0).2] zjg (zjj e _ S he') rfl z05 fun H1 l1=>⟨fun g=>?_,fun g=>?_⟩
  ·simp only [ev0,ev,evV,List.cons_append,List.nil_append,List.getD_cons_zero,List.getD_cons_succ,List.map_cons,List.map_nil,iOf,bOf,sOf,pOf,slLen,z04,cmpI,arI,Value.ite_bool,z01,z02,z00,z03,ne_eq,decide_not,Bool.not_eq_true',zdf] at g
   exact ⟨_,z06,by simp [ev0,ev,evV,List.cons_append,List.nil_append,List.getD_cons_zero,List.getD_cons_succ,List.map_cons,List.map_nil,iOf,bOf,sOf,pOf,slLen,z04,cmpI,arI,Value.ite_bool,z01,z02,z00,z03,g],l1⟩
  ·simp only [ev0,ev,evV,List.cons_append,List.nil_append,List.getD_cons_zero,List.getD_cons_succ,List.map_cons,List.map_nil,iOf,bOf,sOf,pOf,slLen,z04,cmpI,arI,Value.ite_bool,z01,z02,z00,z03,ne_eq,decide_not,Bool.not_eq_false',zdt] at g
   refine z07 [.bool (e.any badK)] zlw (zxm e _ H1 (Xp.Rep.le l1 e he')) rfl z05 fun H2 l2=>⟨_,z06,?_,PH.le_trans l1 l2⟩
   simp only [ev0,ev,evV,List.cons_append,List.nil_append,List.getD_cons_zero,List.getD_cons_succ,List.map_cons,List.map_nil,iOf,bOf,sOf,pOf,slLen,z04,cmpI,arI,Value.ite_bool,z01,z02,z00,z03]
   cases h:e.any badK<;>simp [g]
 rintro vs S1 _ ⟨rfl,l1⟩
 refine ⟨fun g=>?_,fun g=>?_⟩
 ·simp only [ev0,ev,evV,List.cons_append,List.nil_append,List.getD_cons_zero,List.getD_cons_succ,List.map_cons,List.map_nil,iOf,bOf,sOf,pOf,slLen,z04,cmpI,arI,Value.ite_bool,z01,z02,z00,z03,zdt] at g
  refine ⟨l1,_,rfl,?_,by rw [zmx g];exact zw5 S1⟩
  rw [zmx g];rfl
 simp only [ev0,ev,evV,List.cons_append,List.nil_append,List.getD_cons_zero,List.getD_cons_succ,List.map_cons,List.map_nil,iOf,bOf,sOf,pOf,slLen,z04,cmpI,arI,Value.ite_bool,z01,z02,z00,z03,zdf] at g
 have hc:(e.chk true 0 0).2=0:=Classical.byContradiction fun h=>g (.inl h)
 have hz:=z4n hc
 have hok:=(Xp.chk_ok true e 0 0 hc).1
 have hbn:=z3l hc
 have hnl:=ztw e
 have hmul:e.size * (e.note.length+1)≤4096 * 40000:=Nat.mul_le_mul hz (by omega)
 have he1:=exvLe l1 hx
 simp only [List.cons_append,List.nil_append]
 have h0:Held S1 S1 []:=Held.nil (PH.le_refl _)
 refine zuw fun ub hub=>?_
 have h1:=h0.new hub (.map #[] 0)
 simp only [List.cons_append,List.nil_append]
 refine zan (vs:=[.map (some ub),.int .i64 0]) h1 (by simp only [List.map_cons,List.map_nil,ev0,ev,evV,List.cons_append,List.nil_append,List.getD_cons_zero,List.getD_cons_succ,List.map_cons,List.map_nil,iOf,bOf,sOf,pOf,slLen,z04,cmpI,arI,Value.ite_bool,z01,z02,z00,z03]) fun nr K3 l3 h3=>?_
 simp only [List.cons_append,List.nil_append]
 have hnr:K3 nr=some (.cells #[.map (some ub),.int .i64 0] 46 (0,0)):=h3.blk (zms)
 have hub3:K3 ub=some (.map #[] 0):=h3.blk (zmm _ (zms))
 have hS1ub:S1 ub=none:=h3.off _ (zmm _ (zms)) ub rfl
 refine z08 zad (zxg e _ S1 K3 nr ub _ _ #[] 0 [] h3.sh hS1ub he1.rep hnr hub3 EntsR.empty) ?_
 rintro x K4 ⟨rfl,es4,clock4,rfl,m4⟩
 refine ⟨_,[],rfl,rfl,rfl,z05,?_⟩
 simp only [List.append_nil]
 have h4:Held S1 (K3.upd ub (.map es4 clock4)) [nmB nr ub 0,nmM ub es4 clock4]:=(h3.swap.put (.map es4 clock4)).swap
 have hNm:NmOk e.note es4 clock4:=⟨_,m4,fun s=>by
  rw [zqx]
  by_cases hs:s∈e.note
  ·rw [if_pos hs,if_pos hs];rfl
  ·rw [if_neg hs,if_neg hs];rfl⟩
 refine z08 z3o (zx9 e.note e _ S1 _ nr ub 0 es4 clock4 (hT.le l1) h4 hNm he1.rep (by omega) hok hz) ?_
 rintro x K5 ⟨S5,l5,h5,hq⟩
 obtain ⟨anb,adb,akb,anc,adc,akc,rfl,r5⟩:=zpo hq
 have ht5:=Xp.Rep.tags r5
 refine ⟨_,exVs (namX e) anb adb akb anc adc akc,rfl,ht5,rfl,z05,?_⟩
 simp only [List.cons_append,List.nil_append]
 refine z08 zth (h5.pure (Z1f (namX e) _ S5 r5)) ?_
 rintro x K6 ⟨S6,l6,h6,es6,hl6,rfl,r6⟩
 have hax:anfX e=if ((namX e).chk true 0 0).2=0 then (namX e,0) else (exZ,101):=zqm g
 have ha2:(anfX e).2=if ((namX e).chk true 0 0).2=0 then 0 else 101:=by rw [hax];split<;>rfl
 have ha1:(anfX e).1=if ((namX e).chk true 0 0).2=0 then namX e else exZ:=by rw [hax];split<;>rfl
 have r6':(anfX e).1.Rep S6 es6:=by rw [ha1];exact r6
 rw [←ha2]
 match es6,hl6 with
 | [w0,w1,w2,w3,w4,w5,w6,w7],_=>
  have ht6:=Xp.Rep.tags r6'
  refine ⟨_,[w0,w1,w2,w3,w4,w5,w6,w7,.int .i64 (anfX e).2],rfl,?_,rfl,z05,?_⟩
  ·have:=zb7 (us:=[.int .i64]) (F:=[.int .i64 (anfX e).2]) ht6 rfl
   exact this
  ·exact ⟨PH.le_trans l1 (PH.le_trans l5 (PH.le_trans l6 h6.sh)),[w0,w1,w2,w3,w4,w5,w6,w7],rfl,rfl,Xp.Rep.le h6.sh _ r6'⟩
theorem zq5 (e:Xp) (cs:List Value) (H:PH) (he:e.Rep H cs):Gives Tryz.prog zel [.agg cs.toArray] H (.bool (simX e)):=by
 obtain ⟨nb,db,kb,nc,dc,kc,rfl,hx⟩:=Xp.Rep.open he
 refine zc8 (exVs e nb db kb nc dc kc) (by kernel_rfl) (by kernel_rfl) ⟨?_,PH.le_refl _⟩
 unfold simX
 by_cases h0:e.kind=0<;>by_cases h1:e.kind=1<;>simp [ev0,ev,evV,List.cons_append,List.nil_append,List.getD_cons_zero,List.getD_cons_succ,List.map_cons,List.map_nil,iOf,bOf,sOf,pOf,slLen,z04,cmpI,arI,Value.ite_bool,z01,z02,z00,z03,h0,h1]
theorem zjc:∀(e:Xp) (cs:List Value) (H:PH),e.Rep H cs→Gives Tryz.prog zg5 [.agg cs.toArray] H (.bool e.namedB):=by
 refine Xp.ind fun e ih cs H he=>?_
 obtain ⟨nb,db,kb,nc,dc,kc,rfl,hx⟩:=Xp.Rep.open he
 have hk:=hx.kids.max
 simp only [maxLen] at hk
 refine ze4 (exVs e nb db kb nc dc kc) (by kernel_rfl) (by kernel_rfl) ?_
 rw [Xp.namedB_eq]
 obtain ⟨c,hc⟩:∃c,c=someN e.kind e.kids.length:=⟨_,rfl⟩
 rw [←hc]
 refine ⟨fun n vs H'=>∃k:Nat,vs=[.bool false,.int .i64 k]∧k+n=e.kids.length∧Xps.namedB c e.kids=Xps.namedB (c - k) (e.kids.drop k)∧PH.le H H',⟨e.kids.length,0,rfl,by omega,rfl,PH.le_refl _⟩,?_⟩
 rintro n vs H2 _ ⟨k,rfl,hkn,hz,l2⟩
 refine ⟨fun g1=>?_,fun g1=>?_⟩
 ·simp only [ev0,ev,evV,List.cons_append,List.nil_append,List.getD_cons_zero,List.getD_cons_succ,List.map_cons,List.map_nil,iOf,bOf,sOf,pOf,slLen,z04,cmpI,arI,Value.ite_bool,z01,z02,z00,z03,zdt] at g1
  obtain ⟨a,ha⟩:∃a,e.kids[k]?=some a:=⟨_,zge (show k < e.kids.length by omega)⟩
  obtain ⟨q1,_,ces,g2,g3⟩:=(hx.kids.le l2).get ha
  have hmem:=List.mem_of_getElem? ha
  have htags:=Xp.Rep.tags g2
  have g2':=g2
  obtain ⟨nb',db',kb',nc',dc',kc',rfl,_⟩:=Xp.Rep.open g2'
  have hd:e.kids.drop k=a::e.kids.drop (k+1):=by
   obtain ⟨hl,hv⟩:=List.getElem?_eq_some_iff.1 ha
   rw [List.drop_eq_getElem_cons hl,hv]
  have hst:Xps.namedB c e.kids=((decide (c - k=0) || simX a) && a.namedB && Xps.namedB (c - (k+1)) (e.kids.drop (k+1))):=by
   rw [hz,hd];simp only [Xps.namedB,Nat.sub_sub]
  have hmust:(c - k≠0)↔(e.kind=6∨e.kind=7)∨(e.kind=3∧k=0):=by
   rw [hc];unfold someN
   by_cases h6:e.kind=6∨e.kind=7
   ·rw [if_pos h6]
    constructor
    ·exact fun _=>.inl h6
    ·intro _;omega
   ·rw [if_neg h6]
    by_cases h3:e.kind=3
    ·rw [if_pos h3];constructor
     ·intro h;exact .inr ⟨h3,by omega⟩
     ·rintro (h | h)
      ·exact absurd h h6
      ·omega
    ·rw [if_neg h3];constructor
     ·intro h;omega
     ·rintro (h | h)
      ·exact absurd h h6
      ·exact absurd h.1 h3
  obtain ⟨ok,hok⟩:∃ok:Bool,ok=((decide (c - k=0) || simX a) && a.namedB):=⟨_,rfl⟩
  rw [←hok] at hst
  refine ⟨fun vs K=>vs=[.bool (!ok)]∧PH.le H K,?_,fun _=>?_,fun g4=>?_,fun g4=>?_⟩
  ·rintro vs K _ ⟨rfl,l3⟩
   refine ⟨fun g5=>?_,fun g5=>?_⟩
   ·simp only [ev0,ev,evV,List.cons_append,List.nil_append,List.getD_cons_zero,List.getD_cons_succ,List.map_cons,List.map_nil,iOf,bOf,sOf,pOf,slLen,z04,cmpI,arI,Value.ite_bool,z01,z02,z00,z03,Bool.not_eq_true'] at g5
    refine ⟨?_,l3⟩
    rw [hst,g5];rfl
   ·simp only [ev0,ev,evV,List.cons_append,List.nil_append,List.getD_cons_zero,List.getD_cons_succ,List.map_cons,List.map_nil,iOf,bOf,sOf,pOf,slLen,z04,cmpI,arI,Value.ite_bool,z01,z02,z00,z03,Bool.not_eq_false'] at g5
    refine ⟨_,z06,n - 1,by omega,k+1,?_,by omega,?_,l3⟩
    ·simp only [ev0,ev,evV,List.cons_append,List.nil_append,List.getD_cons_zero,List.getD_cons_succ,List.map_cons,List.map_nil,iOf,bOf,sOf,pOf,slLen,z04,cmpI,arI,Value.ite_bool,z01,z02,z00,z03];rw [w64 (by omega) (by omega)];rfl
    ·rw [hst,g5,Bool.true_and]
  ·simp only [Chk.holds,ev0,ev,evV,List.cons_append,List.nil_append,List.getD_cons_zero,List.getD_cons_succ,List.map_cons,List.map_nil,iOf,bOf,sOf,pOf,slLen,z04,cmpI,arI,Value.ite_bool,z01,z02,z00,z03];exact ⟨q1,by omega,by omega⟩
  ·have hmt:c - k≠0:=by
    rw [hmust]
    simp [ev0,ev,evV,List.cons_append,List.nil_append,List.getD_cons_zero,List.getD_cons_succ,List.map_cons,List.map_nil,iOf,bOf,sOf,pOf,slLen,z04,cmpI,arI,Value.ite_bool,z01,z02,z00,z03] at g4
    omega
   have hok2:ok=(simX a && a.namedB):=by rw [hok,decide_eq_false hmt,Bool.false_or]
   refine ⟨_,htags,by simp only [ev0,ev,evV,List.cons_append,List.nil_append,List.getD_cons_zero,List.getD_cons_succ,List.map_cons,List.map_nil,iOf,bOf,sOf,pOf,slLen,z04,cmpI,arI,Value.ite_bool,z01,z02,z00,z03];exact g3,?_⟩
   simp only [List.cons_append,List.nil_append]
   refine z07 [.bool (simX a)] zcx (zq5 a _ H2 g2) rfl z05 fun H3 l3=>?_
   refine ⟨fun _=>?_,fun g5=>?_,fun g5=>?_⟩
   ·simp only [Chk.holds,ev0,ev,evV,List.cons_append,List.nil_append,List.getD_cons_zero,List.getD_cons_succ,List.map_cons,List.map_nil,iOf,bOf,sOf,pOf,slLen,z04,cmpI,arI,Value.ite_bool,z01,z02,z00,z03];exact ⟨q1,by omega,by omega⟩
   ·simp only [ev0,ev,evV,List.cons_append,List.nil_append,List.getD_cons_zero,List.getD_cons_succ,List.map_cons,List.map_nil,iOf,bOf,sOf,pOf,slLen,z04,cmpI,arI,Value.ite_bool,z01,z02,z00,z03,Bool.not_eq_true'] at g5
    refine ⟨_,z06,?_,PH.le_trans l2 l3⟩
    rw [hok2,g5];rfl
   ·simp only [ev0,ev,evV,List.cons_append,List.nil_append,List.getD_cons_zero,List.getD_cons_succ,List.map_cons,List.map_nil,iOf,bOf,sOf,pOf,slLen,z04,cmpI,arI,Value.ite_bool,z01,z02,z00,z03,Bool.not_eq_false'] at g5
    refine ⟨_,htags,by simp only [ev0,ev,evV,List.cons_append,List.nil_append,List.getD_cons_zero,List.getD_cons_succ,List.map_cons,List.map_nil,iOf,bOf,sOf,pOf,slLen,z04,cmpI,arI,Value.ite_bool,z01,z02,z00,z03];exact z0b l3 g3,?_⟩
    simp only [List.cons_append,List.nil_append]
    refine z07 [.bool a.namedB] z29 (ih a hmem _ H3 (Xp.Rep.le l3 a g2)) rfl z05 fun H4 l4=>⟨_,z06,?_,PH.le_trans l2 (PH.le_trans l3 l4)⟩
    rw [hok2,g5];simp only [ev0,ev,evV,List.cons_append,List.nil_append,List.getD_cons_zero,List.getD_cons_succ,List.map_cons,List.map_nil,iOf,bOf,sOf,pOf,slLen,z04,cmpI,arI,Value.ite_bool,z01,z02,z00,z03,Bool.true_and]
  ·have hmt:c - k=0:=by
    refine Classical.byContradiction fun h=>?_
    have:=hmust.1 h
    simp [ev0,ev,evV,List.cons_append,List.nil_append,List.getD_cons_zero,List.getD_cons_succ,List.map_cons,List.map_nil,iOf,bOf,sOf,pOf,slLen,z04,cmpI,arI,Value.ite_bool,z01,z02,z00,z03] at g4
    omega
   have hok2:ok=a.namedB:=by rw [hok,decide_eq_true hmt,Bool.true_or,Bool.true_and]
   refine ⟨fun _=>?_,_,htags,by simp only [ev0,ev,evV,List.cons_append,List.nil_append,List.getD_cons_zero,List.getD_cons_succ,List.map_cons,List.map_nil,iOf,bOf,sOf,pOf,slLen,z04,cmpI,arI,Value.ite_bool,z01,z02,z00,z03];exact g3,?_⟩
   ·simp only [Chk.holds,ev0,ev,evV,List.cons_append,List.nil_append,List.getD_cons_zero,List.getD_cons_succ,List.map_cons,List.map_nil,iOf,bOf,sOf,pOf,slLen,z04,cmpI,arI,Value.ite_bool,z01,z02,z00,z03];exact ⟨q1,by omega,by omega⟩
   simp only [List.cons_append,List.nil_append]
   refine z07 [.bool a.namedB] z29 (ih a hmem _ H2 g2) rfl z05 fun H4 l4=>⟨_,z06,?_,PH.le_trans l2 l4⟩
   rw [hok2];simp only [ev0,ev,evV,List.cons_append,List.nil_append,List.getD_cons_zero,List.getD_cons_succ,List.map_cons,List.map_nil,iOf,bOf,sOf,pOf,slLen,z04,cmpI,arI,Value.ite_bool,z01,z02,z00,z03]
 ·simp only [ev0,ev,evV,List.cons_append,List.nil_append,List.getD_cons_zero,List.getD_cons_succ,List.map_cons,List.map_nil,iOf,bOf,sOf,pOf,slLen,z04,cmpI,arI,Value.ite_bool,z01,z02,z00,z03,zdf] at g1
  refine ⟨?_,l2⟩
  rw [hz,List.drop_of_length_le (by omega)];rfl
theorem Z0a {l:List Xp} {k:Nat} {a:Xp} (h:l[k]?=some a):Xps.dep (l.take (k+1))=max (Xps.dep (l.take k)) a.dep:=by
 rw [List.take_add_one,h]
 have:∀l:List Xp,Xps.dep (l++[a])=max (Xps.dep l) a.dep:=fun l=>by
  induction l with
  | nil=>simp [Xps.dep]
  | cons b l ih=>simp only [List.cons_append,Xps.dep,ih];omega
 exact this _
theorem Z1c:∀e:Xp,e.dep≤e.size:=by
 refine Xp.ind fun e ih=>?_
 rw [Xp.dep_eq,Xp.size_eq]
 have:Xps.dep e.kids≤Xps.size e.kids:=Xps.dep_le.2 fun a ha=>by
  obtain ⟨i,hi⟩:=List.getElem?_of_mem ha
  have h1:=ih a ha
  have h2:=Xps.size_at hi
  omega
 omega
theorem zsg:∀(e:Xp) (cs:List Value) (H:PH),e.Rep H cs→e.size≤1000000→Gives Tryz.prog zhw [.agg cs.toArray] H (.int .i64 (e.dep:Int)):=by
 refine Xp.ind fun e ih cs H he hz=>?_
 obtain ⟨nb,db,kb,nc,dc,kc,rfl,hx⟩:=Xp.Rep.open he
 have hk:=hx.kids.max
 simp only [maxLen] at hk
 have hse:=Xp.size_eq e
 have hde:=Xp.dep_eq e
 have hds:=Z1c e
 refine zf1 (exVs e nb db kb nc dc kc) (by kernel_rfl) (by kernel_rfl) ?_
 refine ⟨fun n vs H'=>∃k:Nat,vs=[.int .i64 ((Xps.dep (e.kids.take k):Nat):Int),.int .i64 k]∧k+n=e.kids.length∧PH.le H H',⟨e.kids.length,0,by simp [Xps.dep,ev0,ev,evV,List.cons_append,List.nil_append,List.getD_cons_zero,List.getD_cons_succ,List.map_cons,List.map_nil,iOf,bOf,sOf,pOf,slLen,z04,cmpI,arI,Value.ite_bool,z01,z02,z00,z03],by omega,PH.le_refl _⟩,?_⟩
 rintro n vs H2 _ ⟨k,rfl,hkn,l2⟩
 refine ⟨fun g1=>?_,fun g1=>?_⟩
 ·simp only [ev0,ev,evV,List.cons_append,List.nil_append,List.getD_cons_zero,List.getD_cons_succ,List.map_cons,List.map_nil,iOf,bOf,sOf,pOf,slLen,z04,cmpI,arI,Value.ite_bool,z01,z02,z00,z03,zdt] at g1
  obtain ⟨a,ha⟩:∃a,e.kids[k]?=some a:=⟨_,zge (show k < e.kids.length by omega)⟩
  obtain ⟨q1,_,ces,g2,g3⟩:=(hx.kids.le l2).get ha
  have hmem:=List.mem_of_getElem? ha
  have htags:=Xp.Rep.tags g2
  have g2':=g2
  obtain ⟨nb',db',kb',nc',dc',kc',rfl,_⟩:=Xp.Rep.open g2'
  have hsa:=Xps.size_at ha
  refine ⟨fun _=>?_,_,htags,by simp only [ev0,ev,evV,List.cons_append,List.nil_append,List.getD_cons_zero,List.getD_cons_succ,List.map_cons,List.map_nil,iOf,bOf,sOf,pOf,slLen,z04,cmpI,arI,Value.ite_bool,z01,z02,z00,z03];exact g3,?_⟩
  ·simp only [Chk.holds,ev0,ev,evV,List.cons_append,List.nil_append,List.getD_cons_zero,List.getD_cons_succ,List.map_cons,List.map_nil,iOf,bOf,sOf,pOf,slLen,z04,cmpI,arI,Value.ite_bool,z01,z02,z00,z03];exact ⟨q1,by omega,by omega⟩
  refine z07 [.int .i64 (a.dep:Int)] z7h (ih a hmem _ H2 g2 (by omega)) rfl z05 fun H3 l3=>?_
  refine ⟨_,z06,n - 1,by omega,k+1,?_,by omega,PH.le_trans l2 l3⟩
  rw [Z0a ha]
  simp only [ev0,ev,evV,List.cons_append,List.nil_append,List.getD_cons_zero,List.getD_cons_succ,List.map_cons,List.map_nil,iOf,bOf,sOf,pOf,slLen,z04,cmpI,arI,Value.ite_bool,z01,z02,z00,z03]
  rw [w64 (by omega) (by omega)]
  by_cases hgt:(Xps.dep (e.kids.take k):Int) < (a.dep:Int)
  ·simp [hgt];omega
  ·simp [hgt];omega
 ·simp only [ev0,ev,evV,List.cons_append,List.nil_append,List.getD_cons_zero,List.getD_cons_succ,List.map_cons,List.map_nil,iOf,bOf,sOf,pOf,slLen,z04,cmpI,arI,Value.ite_bool,z01,z02,z00,z03,zdf] at g1
  refine ⟨?_,l2⟩
  rw [List.take_of_length_le (by omega)]
  simp only [ev0,ev,evV,List.cons_append,List.nil_append,List.getD_cons_zero,List.getD_cons_succ,List.map_cons,List.map_nil,iOf,bOf,sOf,pOf,slLen,z04,cmpI,arI,Value.ite_bool,z01,z02,z00,z03,hde]
  rw [w64 (by omega) (by omega)];rfl
theorem zr8 (e:Xp) (cs:List Value) (H:PH) (he:e.Rep H cs) (hz:e.size≤1000000):Gives Tryz.prog zfy [.agg cs.toArray] H (.bool (zax e)):=by
 have he':=he
 obtain ⟨nb,db,kb,nc,dc,kc,rfl,hx⟩:=Xp.Rep.open he
 refine zd4 (exVs e nb db kb nc dc kc) (by kernel_rfl) (by kernel_rfl) ?_
 refine ⟨fun vs H'=>vs=[.bool (zax e)]∧PH.le H H',?_,?_⟩
 ·rintro vs K _ ⟨rfl,l⟩;exact ⟨rfl,l⟩
 refine z07 [.int .i64 (e.size:Int)] z6s (zsp e _ H he' hz) rfl z05 fun H1 l1=>⟨fun g=>?_,fun g=>?_⟩
 ·simp only [ev0,ev,evV,List.cons_append,List.nil_append,List.getD_cons_zero,List.getD_cons_succ,List.map_cons,List.map_nil,iOf,bOf,sOf,pOf,slLen,z04,cmpI,arI,Value.ite_bool,z01,z02,z00,z03,zdt] at g
  refine z07 [.int .i64 (e.dep:Int)] z7h (zsg e _ H1 (Xp.Rep.le l1 e he') hz) rfl z05 fun H2 l2=>⟨_,z06,?_,PH.le_trans l1 l2⟩
  have:e.size≤400:=by omega
  unfold zax
  rw [decide_eq_true this]
  simp only [ev0,ev,evV,List.cons_append,List.nil_append,List.getD_cons_zero,List.getD_cons_succ,List.map_cons,List.map_nil,iOf,bOf,sOf,pOf,slLen,z04,cmpI,arI,Value.ite_bool,z01,z02,z00,z03,Bool.true_and]
  congr 2
  exact decide_eq_decide.2 (by omega)
 ·simp only [ev0,ev,evV,List.cons_append,List.nil_append,List.getD_cons_zero,List.getD_cons_succ,List.map_cons,List.map_nil,iOf,bOf,sOf,pOf,slLen,z04,cmpI,arI,Value.ite_bool,z01,z02,z00,z03,zdf] at g
  refine ⟨_,z06,?_,l1⟩
  have:¬e.size≤400:=by omega
  unfold zax
  rw [decide_eq_false this];rfl
theorem zse (e:Xp) (cs:List Value) (H:PH) (he:e.Rep H cs) (hc:(e.chk false 0 0).2=0) (hfr:e.fr []=[]) (v:Value) (hv:∃b n c,v=.slice b n c):Gives Tryz.prog zem [.agg cs.toArray,v] H (.agg cs.toArray):=by
 have he':=he
 obtain ⟨nb,db,kb,nc,dc,kc,rfl,hx⟩:=Xp.Rep.open he
 obtain ⟨vb,vn,vc,rfl⟩:=hv
 have hb:=z3l hc
 have hz:=z4n hc
 refine zcg (exVs e nb db kb nc dc kc++[.slice vb vn vc]) (by kernel_rfl) (by kernel_rfl) ?_
 simp only [List.cons_append,List.nil_append]
 refine z08 z1n (zaw e _ H he' (by omega) (by omega)) ?_
 rintro x H2 ⟨l2,v,rfl,hv⟩
 have h0:=(zie (e.fr [])).2 hfr
 obtain ⟨b,c,rfl⟩:=hv.sl
 refine ⟨_,[.slice b (freeS (e.fr [])).length c],rfl,rfl,rfl,z05,fun _=>?_,fun g=>?_⟩
 ·exact ⟨rfl,l2⟩
 ·simp [ev0,ev,evV,List.cons_append,List.nil_append,List.getD_cons_zero,List.getD_cons_succ,List.map_cons,List.map_nil,iOf,bOf,sOf,pOf,slLen,z04,cmpI,arI,Value.ite_bool,z01,z02,z00,z03,h0] at g
def Z2z (p q:OutX):Prop:=p.err=q.err∧p.out=q.out∧p.whole=q.whole∧p.shown=q.shown
theorem zzm {H:PH} {o:OutX} {cs:List Value} (h:o.Rep H cs):∃b c,cs=[.int .i64 o.err,txt o.out,.int .i64 o.shown.kind,.int .i64 o.shown.int,txt o.shown.text,.slice b o.shown.list.length c,.bool o.whole,nI o.steps]:=by
 obtain ⟨ds,rfl,hd⟩:=h
 obtain ⟨sv,rfl,_,_,_,hs⟩:=Dat.Rep_iff.1 hd
 obtain ⟨b1,c1,rfl⟩:=hs.sl
 exact ⟨b1,c1,rfl⟩
theorem Z35 {H H':PH} (l:PH.le H H') {o:OutX} {cs:List Value} (h:o.Rep H cs):o.Rep H' cs:=by
 obtain ⟨ds,rfl,hd⟩:=h
 exact ⟨ds,rfl,Dat.Rep.le l _ hd⟩
theorem zu9 (a b:Xp) (ca cb:List Value) (H:PH) (ha:a.Rep H ca) (hb:b.Rep H cb) (hc:(a.chk false 0 0).2=0) (hfr:a.fr []=[]) (input:List UInt8) (N:Nat) (p:OutX) (hp:runA N a input 1500=some p) (hpe:InI p.err) (hps:p.steps≤1500)
  (hq:p.err=93∨p.err=94∨∃M q,runA M b input ((4 * p.steps+4:Nat):Int)=some q∧Z2z p q) :
  Gives Tryz.prog zgn [.agg ca.toArray,.agg cb.toArray,.slice none 0 0,txt input,.int .i64 4,.int .i64 4] H (.bool true):=by
 have ha':=ha
 have hb':=hb
 obtain ⟨nb,db,kb,nc,dc,kc,rfl,hx⟩:=Xp.Rep.open ha
 obtain ⟨mb,eb,jb,mc,ec,jc,rfl,hy⟩:=Xp.Rep.open hb
 have hbn:=z3l hc
 have hz:=z4n hc
 refine zea (exVs a nb db kb nc dc kc++exVs b mb eb jb mc ec jc++[.slice none 0 0,txt input,.int .i64 4,.int .i64 4]) (by kernel_rfl) (by kernel_rfl) ?_
 simp only [List.cons_append,List.nil_append]
 refine z07 (exVs a nb db kb nc dc kc) zcs (zse a _ H ha' hc hfr (.slice none 0 0) ⟨_,_,_,rfl⟩) rfl z05 fun H1 l1=>?_
 simp only [List.cons_append,List.nil_append]
 refine ⟨fun vs H'=>vs=exVs b mb eb jb mc ec jc∧PH.le H H',?_,?_⟩
 rotate_left
 ·refine z08 z1n (zaw a _ H1 (Xp.Rep.le l1 a ha') (by omega) (by omega)) ?_
  rintro x H2 ⟨l2,v,rfl,hv⟩
  have h0:=(zie (a.fr [])).2 hfr
  obtain ⟨b5,c5,rfl⟩:=hv.sl
  refine ⟨_,[.slice b5 (freeS (a.fr [])).length c5],rfl,rfl,rfl,z05,fun g=>?_,fun g=>?_⟩
  ·simp [ev0,ev,evV,List.cons_append,List.nil_append,List.getD_cons_zero,List.getD_cons_succ,List.map_cons,List.map_nil,iOf,bOf,sOf,pOf,slLen,z04,cmpI,arI,Value.ite_bool,z01,z02,z00,z03,h0] at g
  ·exact ⟨_,z06,by simp only [ev0,ev,evV,List.cons_append,List.nil_append,List.getD_cons_zero,List.getD_cons_succ,List.map_cons,List.map_nil,iOf,bOf,sOf,pOf,slLen,z04,cmpI,arI,Value.ite_bool,z01,z02,z00,z03],PH.le_trans l1 l2⟩
 rintro vs H2 _ ⟨rfl,l2⟩
 simp only [List.cons_append,List.nil_append]
 refine z08 z8a (zs4 N a _ input 1500 H2 (Xp.Rep.le l2 a ha') (by decide) p hp) ?_
 rintro x H3 ⟨l3,cs3,rfl,h3⟩
 have h3':=h3
 obtain ⟨b3,c3,rfl⟩:=zzm h3'
 refine ⟨_,[.int .i64 p.err,txt p.out,.int .i64 p.shown.kind,.int .i64 p.shown.int,txt p.shown.text,.slice b3 p.shown.list.length c3,.bool p.whole,nI p.steps],rfl,rfl,rfl,z05,fun g=>?_,fun g=>?_⟩
 ·exact ⟨rfl,PH.le_trans l2 l3⟩
 simp only [List.cons_append,List.nil_append]
 have g':¬(p.err=93∨p.err=94):=by
  rintro (h | h)<;>simp [ev0,ev,evV,List.cons_append,List.nil_append,List.getD_cons_zero,List.getD_cons_succ,List.map_cons,List.map_nil,iOf,bOf,sOf,pOf,slLen,z04,cmpI,arI,Value.ite_bool,z01,z02,z00,z03,h] at g
 rcases hq with hq | hq | ⟨M,q,hq,hal⟩
 ·exact absurd (.inl hq) g'
 ·exact absurd (.inr hq) g'
 have hw1:IntKind.i64.wrap (4 * (p.steps:Int))=((4 * p.steps:Nat):Int):=by rw [w64 (by omega) (by omega)];omega
 have hw2:IntKind.i64.wrap (((4 * p.steps:Nat):Int)+4)=((4 * p.steps+4:Nat):Int):=by rw [w64 (by omega) (by omega)];omega
 have hrun:=zs4 M b _ input ((4 * p.steps+4:Nat):Int) H3 (Xp.Rep.le (PH.le_trans l2 l3) b hb') (by unfold InI;omega) q hq
 rw [←hw2,←hw1] at hrun
 refine z08 z8a hrun ?_
 rintro x H4 ⟨l4,cs4,rfl,h4⟩
 have h4':=h4
 obtain ⟨b4,c4,rfl⟩:=zzm h4'
 refine ⟨_,[.int .i64 q.err,txt q.out,.int .i64 q.shown.kind,.int .i64 q.shown.int,txt q.shown.text,.slice b4 q.shown.list.length c4,.bool q.whole,nI q.steps],rfl,rfl,rfl,z05,?_⟩
 simp only [List.cons_append,List.nil_append]
 refine z07 [.bool true] zey (zvh p q _ _ H4 (Z35 l4 h3) h4 hal) rfl z05 fun H5 l5=>?_
 exact ⟨rfl,PH.le_trans l2 (PH.le_trans l3 (PH.le_trans l4 l5))⟩
def numE (k:Int):Xp:=.mk 0 [] [] (.mk 1 k [] []) []
def prmE (p:List UInt8) (l:List Xp):Xp:=.mk 7 p [] dat0 l
def mulE:Xp:=prmE [42] [numE 2,numE 3]
def fxE3:Xp:=prmE [43] [numE 1,mulE]
def fxN3:Xp:=letX [110,46,48] mulE (prmE [43] [numE 1,refX [110,46,48]])
def setE3:Xp:=.mk 2 [120] [] dat0 [numE 1]
theorem Z2l:anfX fxE3=(fxN3,0):=by kernel_rfl
theorem Z2d:anfX setE3=(exZ,100):=by kernel_rfl
theorem zzz:fxN3.namedB=true:=by kernel_rfl
theorem Z1r:(fxE3.chk false 0 0).2=0:=by kernel_rfl
theorem Z36:fxE3.fr []=[]:=by kernel_rfl
theorem Z16:runA 40 fxE3 [] 1500=some ⟨0,[],.mk 1 7 [] [],true,5⟩:=by kernel_rfl
theorem Z03:runA 40 fxN3 [] 24=some ⟨0,[],.mk 1 7 [] [],true,7⟩:=by kernel_rfl
theorem zab (k:Int) (H:PH):Gives Tryz.prog zix [.int .i64 k] H (.agg #[.int .i64 0,txt [],.slice none 0 0,.int .i64 1,.int .i64 k,txt [],.slice none 0 0,.slice none 0 0]):=
 zg2 [.int .i64 k] (by kernel_rfl) (by kernel_rfl) ⟨rfl,PH.le_refl _⟩
theorem zk6 (p:List UInt8) (b:Option Addr) (n c:Nat) (H:PH):Gives Tryz.prog zhl [txt p,.slice b n c] H (.agg #[.int .i64 7,txt p,.slice none 0 0,.int .i64 0,.int .i64 0,txt [],.slice none 0 0,.slice b n c]):=
 zez [txt p,.slice b n c] (by kernel_rfl) (by kernel_rfl) ⟨rfl,PH.le_refl _⟩
theorem zih {S:PH} {k:Int} (h:InI k):(numE k).Rep S [.int .i64 0,txt [],.slice none 0 0,.int .i64 1,.int .i64 k,txt [],.slice none 0 0,.slice none 0 0]:=
 Xp.Rep_iff.2 ⟨.slice none 0 0,.slice none 0 0,.slice none 0 0,rfl,(show InI 0 by decide),by simp [numE,Xp.name],SlR.mk_iff.2 ⟨Nat.zero_le _,.inl ⟨rfl,rfl⟩⟩,z31 (k:=1) (n:=k) (t:=[]) (by decide) h (by decide),SlR.mk_iff.2 ⟨Nat.zero_le _,.inl ⟨rfl,rfl⟩⟩⟩
theorem zsy {S:PH} {p:List UInt8} {l:List Xp} {v:Value} (hp:p.length≤maxLen) (h:SlR S l v):(prmE p l).Rep S [.int .i64 7,txt p,.slice none 0 0,.int .i64 0,.int .i64 0,txt [],.slice none 0 0,v]:=
 Xp.Rep_iff.2 ⟨.slice none 0 0,.slice none 0 0,v,rfl,(show InI 7 by decide),hp,SlR.mk_iff.2 ⟨Nat.zero_le _,.inl ⟨rfl,rfl⟩⟩,z31 (k:=0) (n:=0) (t:=[]) (by decide) (by decide) (by decide),h⟩
theorem zkd {X:List PanicEntry→PH→Prop} {β:Type} {E:List Value} {H S:PH} {L:LK} {K:β→List Value→PH→LK→Prop} {ty:TypeId} {n:Nat} {ps:Array (Nat×Operand)} {args:List (Nat×VE)} {k:Fm β} {l:List Xp} (vs:List Value) (hS:PH.le S H) (hn:l.length=n) (h0:0 < n) (hle:n≤8)
  (hps:ps.toList.map (fun x=>(x.1,argEv E args x.2))=idxs 0 vs) (hvs:All2 (fun a v=>CsR S a v.cells.toList) l vs)
  (hk:∀S' H' b c,PH.le S S'→PH.le S' H'→PH.le H H'→SlR S' l (.slice b n c)→den Tryz.prog X k (E++[.slice b n c]) H' L K):den Tryz.prog X (.sem (.buildSlice 26 n ps) ty args (.sc .sl) [] k) E H L K:=by
 have h8:sz Xp=8:=rfl
 refine znj (α:=Xp) (b:=128) vs z2b z1f hn (by rw [h8];omega) (by rw [h8];omega) (Held.nil hS) hps hvs z05 fun v H' h l _=>?_
 obtain ⟨S',h1,h2,h3⟩:=h.freeze
 obtain ⟨b,c,rfl⟩:=h1.sl
 rw [hn] at h1 ⊢
 exact hk S' H' b c h2 h3.sh l h1
theorem zr6 (H:PH) (hT:Tab H):Gives Tryz.prog zgt [] H (.bool true):=by
 refine zdd [] (by kernel_rfl) (by kernel_rfl) ?_
 have N:List Value:=[]
 refine z07 [.int .i64 0,txt [],.slice none 0 0,.int .i64 1,.int .i64 1,txt [],.slice none 0 0,.slice none 0 0] z2m (zab 1 H) rfl z05 fun H1 l1=>?_
 refine z07 [.int .i64 0,txt [],.slice none 0 0,.int .i64 1,.int .i64 2,txt [],.slice none 0 0,.slice none 0 0] z2m (zab 2 H1) rfl z05 fun H2 l2=>?_
 refine z07 [.int .i64 0,txt [],.slice none 0 0,.int .i64 1,.int .i64 3,txt [],.slice none 0 0,.slice none 0 0] z2m (zab 3 H2) rfl z05 fun H3 l3=>?_
 simp only [List.cons_append,List.nil_append]
 refine zkd (S:=H3) (l:=[numE 2,numE 3]) [.agg #[.int .i64 0,txt [],.slice none 0 0,.int .i64 1,.int .i64 2,txt [],.slice none 0 0,.slice none 0 0],.agg #[.int .i64 0,txt [],.slice none 0 0,.int .i64 1,.int .i64 3,txt [],.slice none 0 0,.slice none 0 0]] (PH.le_refl _) rfl (by omega) (by omega) (by kernel_rfl) (.cons (zih (by decide)) (.cons (zih (by decide)) .nil)) fun S4 H4 b4 c4 l34 l4 l34' s4=>?_
 refine z07 [.int .i64 7,txt [42],.slice none 0 0,.int .i64 0,.int .i64 0,txt [],.slice none 0 0,.slice b4 2 c4] z6w (zk6 [42] b4 2 c4 H4) rfl z05 fun H5 l5=>?_
 simp only [List.cons_append,List.nil_append]
 have r5:mulE.Rep H5 [.int .i64 7,txt [42],.slice none 0 0,.int .i64 0,.int .i64 0,txt [],.slice none 0 0,.slice b4 2 c4]:=zsy (by decide) (s4.le (PH.le_trans l4 l5))
 refine zkd (S:=H5) (l:=[numE 1,mulE]) [.agg #[.int .i64 0,txt [],.slice none 0 0,.int .i64 1,.int .i64 1,txt [],.slice none 0 0,.slice none 0 0],.agg #[.int .i64 7,txt [42],.slice none 0 0,.int .i64 0,.int .i64 0,txt [],.slice none 0 0,.slice b4 2 c4]] (PH.le_refl _) rfl (by omega) (by omega) (by kernel_rfl) (.cons (zih (by decide)) (.cons r5 .nil)) fun S6 H6 b6 c6 l56 l6 l56' s6=>?_
 refine z07 [.int .i64 7,txt [43],.slice none 0 0,.int .i64 0,.int .i64 0,txt [],.slice none 0 0,.slice b6 2 c6] z6w (zk6 [43] b6 2 c6 H6) rfl z05 fun H7 l7=>?_
 simp only [List.cons_append,List.nil_append]
 have r7:fxE3.Rep H7 [.int .i64 7,txt [43],.slice none 0 0,.int .i64 0,.int .i64 0,txt [],.slice none 0 0,.slice b6 2 c6]:=zsy (by decide) (s6.le (PH.le_trans l6 l7))
 have l07:PH.le H H7:=PH.le_trans l1 (PH.le_trans l2 (PH.le_trans l3 (PH.le_trans l34' (PH.le_trans l5 (PH.le_trans l56' l7)))))
 refine z08 zg6 (zj5 fxE3 _ H7 (hT.le l07) r7) ?_
 rintro x H8 ⟨l8,es8,hl8,rfl,r8⟩
 rw [Z2l] at r8 ⊢
 have r8':=r8
 obtain ⟨anb,adb,akb,anc,adc,akc,rfl,_⟩:=Xp.Rep.open r8'
 refine ⟨_,exVs fxN3 anb adb akb anc adc akc++[.int .i64 0],rfl,rfl,rfl,z05,?_⟩
 simp only [List.cons_append,List.nil_append]
 refine z07 [.int .i64 0,txt [],.slice none 0 0,.int .i64 1,.int .i64 1,txt [],.slice none 0 0,.slice none 0 0] z2m (zab 1 H8) rfl z05 fun H9 l9=>?_
 simp only [List.cons_append,List.nil_append]
 refine zkd (S:=H9) (l:=[numE 1]) [.agg #[.int .i64 0,txt [],.slice none 0 0,.int .i64 1,.int .i64 1,txt [],.slice none 0 0,.slice none 0 0]] (PH.le_refl _) rfl (by omega) (by omega) (by kernel_rfl) (.cons (zih (by decide)) .nil) fun S10 H10 b10 c10 l910 l10 l910' s10=>?_
 simp only [List.cons_append,List.nil_append]
 have r10:setE3.Rep H10 [.int .i64 2,txt [120],.slice none 0 0,.int .i64 0,.int .i64 0,txt [],.slice none 0 0,.slice b10 1 c10]:=
  Xp.Rep_iff.2 ⟨.slice none 0 0,.slice none 0 0,_,rfl,(show InI 2 by decide),by simp [setE3,Xp.name,maxLen],SlR.mk_iff.2 ⟨Nat.zero_le _,.inl ⟨rfl,rfl⟩⟩,z31 (k:=0) (n:=0) (t:=[]) (by decide) (by decide) (by decide),s10.le l10⟩
 have l010:PH.le H H10:=PH.le_trans l07 (PH.le_trans l8 (PH.le_trans l9 l910'))
 refine z08 zg6 (zj5 setE3 _ H10 (hT.le l010) r10) ?_
 rintro x H11 ⟨l11,es11,hl11,rfl,r11⟩
 rw [Z2d] at r11 ⊢
 have r11':=r11
 obtain ⟨bnb,bdb,bkb,bnc,bdc,bkc,rfl,_⟩:=Xp.Rep.open r11'
 refine ⟨_,exVs exZ bnb bdb bkb bnc bdc bkc++[.int .i64 100],rfl,rfl,rfl,z05,?_⟩
 simp only [List.cons_append,List.nil_append]
 have l811:PH.le H8 H11:=PH.le_trans l9 (PH.le_trans l910' l11)
 refine ⟨fun vs K=>vs=[.bool true]∧PH.le H K,?_,fun _=>?_,fun g=>by simp [ev0,ev,evV,List.cons_append,List.nil_append,List.getD_cons_zero,List.getD_cons_succ,List.map_cons,List.map_nil,iOf,bOf,sOf,pOf,slLen,z04,cmpI,arI,Value.ite_bool,z01,z02,z00,z03] at g⟩
 ·rintro vs K _ ⟨rfl,l⟩;exact ⟨rfl,l⟩
 refine z07 [.bool true] z29 (zzz ▸ zjc fxN3 _ H11 (Xp.Rep.le l811 _ r8)) rfl z05 fun H12 l12=>⟨fun _=>?_,fun g=>by simp [ev0,ev,evV,List.cons_append,List.nil_append,List.getD_cons_zero,List.getD_cons_succ,List.map_cons,List.map_nil,iOf,bOf,sOf,pOf,slLen,z04,cmpI,arI,Value.ite_bool,z01,z02,z00,z03] at g⟩
 simp only [List.cons_append,List.nil_append]
 have l812:=PH.le_trans l811 l12
 refine z07 [.bool true] zes (zu9 fxE3 fxN3 _ _ H12 (Xp.Rep.le (PH.le_trans l8 l812) _ r7) (Xp.Rep.le l812 _ r8) Z1r Z36 [] 40 _ Z16 (by decide) (by decide) (.inr (.inr ⟨40,_,Z03,rfl,rfl,rfl,rfl⟩))) rfl z05 fun H13 l13=>?_
 exact ⟨_,z06,by simp [ev0,ev,evV,List.cons_append,List.nil_append,List.getD_cons_zero,List.getD_cons_succ,List.map_cons,List.map_nil,iOf,bOf,sOf,pOf,slLen,z04,cmpI,arI,Value.ite_bool,z01,z02,z00,z03],PH.le_trans l010 (PH.le_trans l11 (PH.le_trans l12 l13))⟩
theorem zpb (e:Xp):e.any badK=(e.any (fun k=>decide (k=9)) || e.any (fun k=>decide (k=2))):=by
 have:badK=fun k=>(decide (k=9) || decide (k=2)):=by funext k;rfl
 rw [this]
 exact Xp.any_or (fun k=>decide (k=9)) (fun k=>decide (k=2)) e
theorem zmn (e:Xp):((e.chk false 0 0).2≠0∨e.any badK=true)↔((e.chk true 0 0).2≠0∨e.any badK=true):=by
 have:=znh e
 constructor
 ·rintro (h | h)
  ·exact .inl fun h2=>h (this.2 h2)
  ·exact .inr h
 ·rintro (h | h)
  ·exact .inl fun h2=>h (this.1 h2)
  ·exact .inr h
theorem ztb (e:Xp) (cs co:List Value) (H:PH) (he:e.Rep H cs) (ho:(anfX e).1.Rep H co):Gives Tryz.prog zh0 [.agg cs.toArray,.agg co.toArray,.int .i64 (anfX e).2] H (.bool true):=by
 have he':=he
 have ho':=ho
 obtain ⟨nb,db,kb,nc,dc,kc,rfl,hx⟩:=Xp.Rep.open he
 obtain ⟨mb,eb,jb,mc,ec,jc,rfl,hy⟩:=Xp.Rep.open ho
 refine zeu (exVs e nb db kb nc dc kc++exVs (anfX e).1 mb eb jb mc ec jc++[.int .i64 (anfX e).2]) (by kernel_rfl) (by kernel_rfl) ?_
 simp only [List.cons_append,List.nil_append]
 refine ⟨fun vs H'=>vs=[.bool (decide ((e.chk false 0 0).2≠0∨e.any badK=true))]∧PH.le H H',?_,?_⟩
 rotate_left
 ·refine z07 [.int .i64 (e.chk false 0 0).2] z3e (za3 e _ H he') rfl z05 fun H1 l1=>⟨fun g=>?_,fun g=>?_⟩
  ·simp only [ev0,ev,evV,List.cons_append,List.nil_append,List.getD_cons_zero,List.getD_cons_succ,List.map_cons,List.map_nil,iOf,bOf,sOf,pOf,slLen,z04,cmpI,arI,Value.ite_bool,z01,z02,z00,z03,ne_eq,decide_not,Bool.not_eq_true',zdf] at g
   exact ⟨_,z06,by simp [ev0,ev,evV,List.cons_append,List.nil_append,List.getD_cons_zero,List.getD_cons_succ,List.map_cons,List.map_nil,iOf,bOf,sOf,pOf,slLen,z04,cmpI,arI,Value.ite_bool,z01,z02,z00,z03,g],l1⟩
  ·simp only [ev0,ev,evV,List.cons_append,List.nil_append,List.getD_cons_zero,List.getD_cons_succ,List.map_cons,List.map_nil,iOf,bOf,sOf,pOf,slLen,z04,cmpI,arI,Value.ite_bool,z01,z02,z00,z03,ne_eq,decide_not,Bool.not_eq_false',zdt] at g
   simp only [List.cons_append,List.nil_append]
   refine z07 [.bool (e.any fun k=>decide (k=9))] z1y (zaa 9 e _ H1 (Xp.Rep.le l1 e he')) rfl z05 fun H2 l2=>⟨fun g2=>?_,fun g2=>?_⟩
   ·simp only [ev0,ev,evV,List.cons_append,List.nil_append,List.getD_cons_zero,List.getD_cons_succ,List.map_cons,List.map_nil,iOf,bOf,sOf,pOf,slLen,z04,cmpI,arI,Value.ite_bool,z01,z02,z00,z03] at g2
    refine ⟨_,z06,?_,PH.le_trans l1 l2⟩
    rw [zpb,g2];simp [ev0,ev,evV,List.cons_append,List.nil_append,List.getD_cons_zero,List.getD_cons_succ,List.map_cons,List.map_nil,iOf,bOf,sOf,pOf,slLen,z04,cmpI,arI,Value.ite_bool,z01,z02,z00,z03]
   ·simp only [ev0,ev,evV,List.cons_append,List.nil_append,List.getD_cons_zero,List.getD_cons_succ,List.map_cons,List.map_nil,iOf,bOf,sOf,pOf,slLen,z04,cmpI,arI,Value.ite_bool,z01,z02,z00,z03] at g2
    simp only [List.cons_append,List.nil_append]
    refine z07 [.bool (e.any fun k=>decide (k=2))] z1y (zaa 2 e _ H2 (Xp.Rep.le (PH.le_trans l1 l2) e he')) rfl z05 fun H3 l3=>⟨_,z06,?_,PH.le_trans l1 (PH.le_trans l2 l3)⟩
    rw [zpb,g2,Bool.false_or]
    simp only [ev0,ev,evV,List.cons_append,List.nil_append,List.getD_cons_zero,List.getD_cons_succ,List.map_cons,List.map_nil,iOf,bOf,sOf,pOf,slLen,z04,cmpI,arI,Value.ite_bool,z01,z02,z00,z03]
    cases h:e.any (fun k=>decide (k=2))<;>simp [g]
 rintro vs H1 _ ⟨rfl,l1⟩
 simp only [List.cons_append,List.nil_append]
 have exZr:exZ.Rep H1 [.int .i64 0,txt [],.slice none 0 0,.int .i64 0,.int .i64 0,txt [],.slice none 0 0,.slice none 0 0]:=zw5 H1
 refine ⟨fun g=>?_,fun g=>?_⟩
 ·simp only [ev0,ev,evV,List.cons_append,List.nil_append,List.getD_cons_zero,List.getD_cons_succ,List.map_cons,List.map_nil,iOf,bOf,sOf,pOf,slLen,z04,cmpI,arI,Value.ite_bool,z01,z02,z00,z03,zdt] at g
  have hax:=zmx ((zmn e).1 g)
  have h2:(anfX e).2=100:=by rw [hax]
  have h1:(anfX e).1=exZ:=by rw [hax]
  refine ⟨fun vs H'=>vs=[.bool true]∧PH.le H H',?_,fun g2=>?_,fun g2=>?_⟩
  ·rintro vs K _ ⟨rfl,l⟩;exact ⟨rfl,l⟩
  ·refine z07 [.bool (decide ((anfX e).1=exZ))] z3s (zlz (anfX e).1 exZ _ _ H1 (Xp.Rep.le l1 _ ho') exZr) rfl z05 fun H2 l2=>⟨_,z06,?_,PH.le_trans l1 l2⟩
   simp [ev0,ev,evV,List.cons_append,List.nil_append,List.getD_cons_zero,List.getD_cons_succ,List.map_cons,List.map_nil,iOf,bOf,sOf,pOf,slLen,z04,cmpI,arI,Value.ite_bool,z01,z02,z00,z03,h1]
  ·simp [ev0,ev,evV,List.cons_append,List.nil_append,List.getD_cons_zero,List.getD_cons_succ,List.map_cons,List.map_nil,iOf,bOf,sOf,pOf,slLen,z04,cmpI,arI,Value.ite_bool,z01,z02,z00,z03,h2] at g2
 simp only [ev0,ev,evV,List.cons_append,List.nil_append,List.getD_cons_zero,List.getD_cons_succ,List.map_cons,List.map_nil,iOf,bOf,sOf,pOf,slLen,z04,cmpI,arI,Value.ite_bool,z01,z02,z00,z03,zdf] at g
 have hc:(e.chk false 0 0).2=0:=Classical.byContradiction fun h=>g (.inl h)
 have hcT:=(znh e).1 hc
 have hany:e.any badK=false:=Bool.eq_false_iff.2 fun h=>g (.inr h)
 have hax:=zqm (fun h=>g ((zmn e).2 h))
 have hz:=z4n hc
 by_cases hok:((namX e).chk true 0 0).2=0
 ·rw [if_pos hok] at hax
  have h2:(anfX e).2=0:=by rw [hax]
  have h1:(anfX e).1=namX e:=by rw [hax]
  refine ⟨fun g2=>by simp [ev0,ev,evV,List.cons_append,List.nil_append,List.getD_cons_zero,List.getD_cons_succ,List.map_cons,List.map_nil,iOf,bOf,sOf,pOf,slLen,z04,cmpI,arI,Value.ite_bool,z01,z02,z00,z03,h2] at g2,fun _=>?_⟩
  have hokF:=(znh (namX e)).2 hok
  have hbn:=z3l hok
  have hzn:=z4n hok
  have hbe:=z3l hc
  have hna:=Z2f hany
  rw [zpb,Bool.or_eq_false_iff] at hna
  rw [h1] at ho' hy ⊢
  refine ⟨fun vs H'=>vs=[.bool true]∧PH.le H H',?_,?_⟩
  ·rintro vs K _ ⟨rfl,l⟩;exact ⟨rfl,l⟩
  refine z07 [.int .i64 ((namX e).chk false 0 0).2] z3e (za3 (namX e) _ H1 (Xp.Rep.le l1 _ ho')) rfl z05 fun H2 l2=>⟨fun _=>?_,fun g2=>by simp [ev0,ev,evV,List.cons_append,List.nil_append,List.getD_cons_zero,List.getD_cons_succ,List.map_cons,List.map_nil,iOf,bOf,sOf,pOf,slLen,z04,cmpI,arI,Value.ite_bool,z01,z02,z00,z03,hokF] at g2⟩
  simp only [List.cons_append,List.nil_append]
  refine z07 [.bool ((namX e).any fun k=>decide (k=9))] z1y (zaa 9 (namX e) _ H2 (Xp.Rep.le (PH.le_trans l1 l2) _ ho')) rfl z05 fun H3 l3=>⟨fun _=>?_,fun g2=>by simp [ev0,ev,evV,List.cons_append,List.nil_append,List.getD_cons_zero,List.getD_cons_succ,List.map_cons,List.map_nil,iOf,bOf,sOf,pOf,slLen,z04,cmpI,arI,Value.ite_bool,z01,z02,z00,z03,hna.1] at g2⟩
  simp only [List.cons_append,List.nil_append]
  have l13:=PH.le_trans l1 (PH.le_trans l2 l3)
  refine z07 [.bool ((namX e).any fun k=>decide (k=2))] z1y (zaa 2 (namX e) _ H3 (Xp.Rep.le l13 _ ho')) rfl z05 fun H4 l4=>⟨fun _=>?_,fun g2=>by simp [ev0,ev,evV,List.cons_append,List.nil_append,List.getD_cons_zero,List.getD_cons_succ,List.map_cons,List.map_nil,iOf,bOf,sOf,pOf,slLen,z04,cmpI,arI,Value.ite_bool,z01,z02,z00,z03,hna.2] at g2⟩
  simp only [List.cons_append,List.nil_append]
  have l14:=PH.le_trans l13 l4
  refine z07 [.bool (namX e).namedB] z29 (zjc (namX e) _ H4 (Xp.Rep.le l14 _ ho')) rfl z05 fun H5 l5=>⟨fun _=>?_,fun g2=>by simp [ev0,ev,evV,List.cons_append,List.nil_append,List.getD_cons_zero,List.getD_cons_succ,List.map_cons,List.map_nil,iOf,bOf,sOf,pOf,slLen,z04,cmpI,arI,Value.ite_bool,z01,z02,z00,z03,zzq hcT] at g2⟩
  simp only [List.cons_append,List.nil_append]
  have l15:=PH.le_trans l14 l5
  refine z08 z1n (zaw (namX e) _ H5 (Xp.Rep.le l15 _ ho') (by omega) (by omega)) ?_
  rintro x H6 ⟨l6,v6,rfl,hv6⟩
  obtain ⟨b6,c6,hs6⟩:=hv6.sl
  refine ⟨_,[v6],rfl,by rw [hs6];rfl,rfl,z05,?_⟩
  simp only [List.cons_append,List.nil_append]
  refine z08 z1n (zaw e _ H6 (Xp.Rep.le (PH.le_trans l15 l6) _ he') (by omega) (by omega)) ?_
  rintro x H7 ⟨l7,v7,rfl,hv7⟩
  obtain ⟨b7,c7,hs7⟩:=hv7.sl
  refine ⟨_,[v7],rfl,by rw [hs7];rfl,rfl,z05,?_⟩
  simp only [List.cons_append,List.nil_append]
  refine z07 [.bool (decide (freeS ((namX e).fr [])=freeS (e.fr [])))] z4g (zfg _ _ v6 v7 H7 (hv6.le l7) hv7) rfl z05 fun H8 l8=>⟨_,z06,?_,PH.le_trans l15 (PH.le_trans l6 (PH.le_trans l7 l8))⟩
  simp [ev0,ev,evV,List.cons_append,List.nil_append,List.getD_cons_zero,List.getD_cons_succ,List.map_cons,List.map_nil,iOf,bOf,sOf,pOf,slLen,z04,cmpI,arI,Value.ite_bool,z01,z02,z00,z03,zuj e]
 ·rw [if_neg hok] at hax
  have h2:(anfX e).2=101:=by rw [hax]
  have h1:(anfX e).1=exZ:=by rw [hax]
  have hns:zax e=false:=Bool.eq_false_iff.2 fun h=>hok (zxy hcT h)
  refine ⟨fun _=>?_,fun g2=>by simp [ev0,ev,evV,List.cons_append,List.nil_append,List.getD_cons_zero,List.getD_cons_succ,List.map_cons,List.map_nil,iOf,bOf,sOf,pOf,slLen,z04,cmpI,arI,Value.ite_bool,z01,z02,z00,z03,h2] at g2⟩
  refine ⟨fun vs H'=>vs=[.bool true]∧PH.le H H',?_,fun _=>?_,fun g2=>by simp [ev0,ev,evV,List.cons_append,List.nil_append,List.getD_cons_zero,List.getD_cons_succ,List.map_cons,List.map_nil,iOf,bOf,sOf,pOf,slLen,z04,cmpI,arI,Value.ite_bool,z01,z02,z00,z03,h2] at g2⟩
  ·rintro vs K _ ⟨rfl,l⟩;exact ⟨rfl,l⟩
  refine z07 [.bool (decide ((anfX e).1=exZ))] z3s (zlz (anfX e).1 exZ _ _ H1 (Xp.Rep.le l1 _ ho') exZr) rfl z05 fun H2 l2=>⟨fun _=>?_,fun g2=>by simp [ev0,ev,evV,List.cons_append,List.nil_append,List.getD_cons_zero,List.getD_cons_succ,List.map_cons,List.map_nil,iOf,bOf,sOf,pOf,slLen,z04,cmpI,arI,Value.ite_bool,z01,z02,z00,z03,h1] at g2⟩
  simp only [List.cons_append,List.nil_append]
  refine z07 [.bool (zax e)] zf0 (zr8 e _ H2 (Xp.Rep.le (PH.le_trans l1 l2) e he') (by omega)) rfl z05 fun H3 l3=>⟨_,z06,?_,PH.le_trans l1 (PH.le_trans l2 l3)⟩
  simp [ev0,ev,evV,List.cons_append,List.nil_append,List.getD_cons_zero,List.getD_cons_succ,List.map_cons,List.map_nil,iOf,bOf,sOf,pOf,slLen,z04,cmpI,arI,Value.ite_bool,z01,z02,z00,z03,hns]
theorem zp4 (e:Xp) (cs:List Value) (H:PH) (he:e.Rep H cs) (hT:Tab H):Gives Tryz.prog zar [.agg cs.toArray] H (.bool true):=by
 have he':=he
 obtain ⟨nb,db,kb,nc,dc,kc,rfl,hx⟩:=Xp.Rep.open he
 refine z9r (exVs e nb db kb nc dc kc) (by kernel_rfl) (by kernel_rfl) ?_
 refine z08 zg6 (zj5 e _ H hT he') ?_
 rintro x H1 ⟨l1,es1,hl1,rfl,r1⟩
 have r1':=r1
 obtain ⟨mb,eb,jb,mc,ec,jc,rfl,_⟩:=Xp.Rep.open r1'
 refine ⟨_,exVs (anfX e).1 mb eb jb mc ec jc++[.int .i64 (anfX e).2],rfl,rfl,rfl,z05,?_⟩
 simp only [List.cons_append,List.nil_append]
 refine ⟨fun vs H'=>vs=[.bool true]∧PH.le H H',?_,?_⟩
 ·rintro vs K _ ⟨rfl,l⟩;exact ⟨rfl,l⟩
 refine z07 [.bool true] zeq (zr6 H1 (hT.le l1)) rfl z05 fun H2 l2=>⟨fun _=>?_,fun g=>by simp [ev0,ev,evV,List.cons_append,List.nil_append,List.getD_cons_zero,List.getD_cons_succ,List.map_cons,List.map_nil,iOf,bOf,sOf,pOf,slLen,z04,cmpI,arI,Value.ite_bool,z01,z02,z00,z03] at g⟩
 simp only [List.cons_append,List.nil_append]
 refine z07 [.bool true] zfo (ztb e _ _ H2 (Xp.Rep.le (PH.le_trans l1 l2) e he') (Xp.Rep.le l2 _ r1)) rfl z05 fun H3 l3=>⟨_,z06,by simp only [ev0,ev,evV,List.cons_append,List.nil_append,List.getD_cons_zero,List.getD_cons_succ,List.map_cons,List.map_nil,iOf,bOf,sOf,pOf,slLen,z04,cmpI,arI,Value.ite_bool,z01,z02,z00,z03],PH.le_trans l1 (PH.le_trans l2 l3)⟩
end Go.Proofs.YtjhlndokjkeilaaGreatDoor.Vc
