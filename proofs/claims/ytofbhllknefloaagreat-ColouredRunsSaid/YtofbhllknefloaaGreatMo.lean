import Derived.Test.YtofbhllknefloaaGreatMn
set_option linter.unusedSimpArgs false
set_option linter.unusedVariables false
set_option maxRecDepth 100000
namespace Go.Proofs.YtofbhllknefloaaGreat.Vc
open Go
theorem zbg (p:PrcX) (l:List Int) (lv bv:Value) (kb pb:Nat) (S K:PH) (o:Bool) (hl:SlR S l lv) (h:Held S K [bx kb 4 [.bool o],bx pb 30 (prcVs p bv)]) :
  Tri Tryz.prog z1q #[lv,pAt kb,pAt pb] K fun x K'=>x=.returned (.tuple #[])∧Held S K' [bx kb 4 [.bool (o && l.all (inR p))],bx pb 30 (prcVs p bv)]:=by
 obtain ⟨b1,c1,rfl⟩:=hl.sl
 have hm:=hl.max
 simp only [maxLen] at hm
 refine zqi [.slice b1 l.length c1,pAt kb,pAt pb] (by kernel_rfl) (by kernel_rfl) ?_
 refine ⟨fun n vs K'=>∃k:Nat,vs=[nI k]∧k+n=l.length∧Held S K' [bx kb 4 [.bool (o && (l.take k).all (inR p))],bx pb 30 (prcVs p bv)],⟨l.length,0,rfl,by omega,by simpa using h⟩,?_⟩
 rintro n vs K1 _ ⟨k,rfl,hkn,h1⟩
 refine ⟨fun g=>?_,fun g=>?_⟩
 ·simp only [evs,evb,zdt] at g
  obtain ⟨r,hr⟩:∃r,l[k]?=some r:=⟨_,zge (show k < l.length by omega)⟩
  obtain ⟨r1,_,rcs,r2,r3⟩:=hl.get hr
  obtain ⟨rfl,_⟩:=csIK r2
  refine ⟨fun vs K'=>vs=[]∧Held S K' [bx kb 4 [.bool (o && (l.take (k+1)).all (inR p))],bx pb 30 (prcVs p bv)],?_,fun _=>?_,[.int .i64 r],rfl,?_,?_⟩
  ·rintro vs K' _ ⟨rfl,h2⟩
   refine ⟨_,z00,n - 1,by omega,k+1,?_,by omega,h2⟩
   simp only [evs,evb];rw [w64 (by omega) (by omega)];rfl
  ·simp only [Chk.holds,evs,evb];exact ⟨r1,by omega,by omega⟩
  ·simp only [evs,evb];exact z06 h1.sh r3
  refine z0n [.bool (o && (l.take k).all (inR p))] (off:=0) (by kernel_rfl) h1 (zms) rfl rfl ?_
  refine ⟨fun _=>rfl,fun g2=>?_,fun g2=>?_⟩
  ·simp only [evs,evb] at g2
   have hg:(o && (l.take k).all (inR p))=true∧0≤r:=by
    cases hc:(o && (l.take k).all (inR p)) with
    | true=>rw [hc] at g2;simp only [Bool.true_and,zdt] at g2;exact ⟨rfl,by omega⟩
    | false=>rw [hc] at g2;simp at g2
   refine z0n [.int .i64 p.regs] (off:=2) (by kernel_rfl) h1 (zmm _ (zms)) rfl rfl ?_
   refine z0j (off:=0) (vs:=[.bool (decide (r < p.regs))]) (by kernel_rfl) h1 (by simp only [evs,evb]) (by simp [oneC]) (by simp) fun K2 h2=>?_
   refine ⟨_,z00,rfl,?_⟩
   have:(o && (l.take (k+1)).all (inR p))=decide (r < p.regs):=by
    rw [z8i _ hr,←Bool.and_assoc,hg.1,Bool.true_and]
    unfold inR
    by_cases h:r < p.regs
    ·rw [decide_eq_true h,decide_eq_true ⟨hg.2,h⟩]
    ·rw [decide_eq_false h,decide_eq_false (fun hh=>h hh.2)]
   rw [this];exact h2
  ·simp only [evs,evb] at g2
   refine z0j (off:=0) (vs:=[.bool false]) (by kernel_rfl) h1 (by simp only [evs,evb]) (by simp [oneC]) (by simp) fun K2 h2=>?_
   refine ⟨_,z00,rfl,?_⟩
   have:(o && (l.take (k+1)).all (inR p))=false:=by
    rw [z8i _ hr,←Bool.and_assoc]
    cases hc:(o && (l.take k).all (inR p)) with
    | true=>
     rw [hc] at g2
     simp only [Bool.true_and,zdf] at g2
     rw [Bool.true_and]
     unfold inR
     exact decide_eq_false (fun hh=>g2 (by omega))
    | false=>rfl
   rw [this];exact h2
 ·simp only [evs,evb,zdf] at g
  rw [List.take_of_length_le (by omega)] at h1
  exact ⟨rfl,h1⟩
theorem zc8 {e:EndX}:e.uses=if e.kind=1∨e.kind=2∨e.kind=5 then [e.reg] else if e.kind=3 then [e.reg]++e.args else if e.kind=4 then [e.reg,e.to]++e.args else if e.kind=6 then [e.reg,e.to] else []:=rfl
set_option maxHeartbeats 1000000 in
theorem zrv (p:PrcX) (bv:Value) (H:PH) (hbv:SlR H p.blocks bv) (hp:p.Fit) (hE:∀b∈p.blocks,b.e.args.length≤20000000):Gives Tryz.prog zx9 [.agg (prcVs p bv).toArray] H (.bool (mayP p)):=by
 have hN:=hp.n
 obtain ⟨b0,c0,rfl⟩:=hbv.sl
 refine zt5 (prcVs p (.slice b0 p.blocks.length c0)) (by kernel_rfl) (by kernel_rfl) ?_
 simp only [prcVs]
 refine z34 (vs:=prcVs p (.slice b0 p.blocks.length c0)) (Held.nil (PH.le_refl H)) (by kernel_rfl) fun pb K1 _ h1=>?_
 simp only [cns]
 have hm1:bx pb 30 (prcVs p (.slice b0 p.blocks.length c0))∈[bx pb 30 (prcVs p (.slice b0 p.blocks.length c0))]:=zms
 refine ⟨fun vs K=>vs=[.bool (!z4p p)]∧K=K1,?_,?_⟩
 rotate_left
 ·refine ⟨fun _=>rfl,?_⟩
  refine z0n [.int .i64 p.regs] (off:=2) (by kernel_rfl) h1 hm1 rfl rfl ?_
  refine ⟨fun g=>?_,fun g=>?_⟩
  ·simp only [evs,evb] at g
   refine ⟨_,z00,?_,rfl⟩
   unfold z4p;rw [g];rfl
  simp only [evs,evb] at g
  refine z0n [.int .i64 p.regs] (off:=2) (by kernel_rfl) h1 hm1 rfl rfl ?_
  refine ⟨fun g2=>?_,fun g2=>?_⟩
  ·simp only [evs,evb] at g2
   refine ⟨_,z00,?_,rfl⟩
   unfold z4p;rw [g,g2];rfl
  simp only [evs,evb] at g2
  refine z0n [.int .i64 p.params] (off:=0) (by kernel_rfl) h1 hm1 rfl rfl ?_
  refine ⟨fun g3=>?_,fun g3=>?_⟩
  ·simp only [evs,evb] at g3
   refine ⟨_,z00,?_,rfl⟩
   unfold z4p;rw [g,g2,g3];rfl
  simp only [evs,evb] at g3
  refine z0n [.int .i64 p.params] (off:=0) (by kernel_rfl) h1 hm1 rfl rfl ?_
  refine z0n [.int .i64 p.regs] (off:=2) (by kernel_rfl) h1 hm1 rfl rfl ?_
  refine ⟨fun g4=>?_,fun g4=>?_⟩
  ·simp only [evs,evb] at g4
   refine ⟨_,z00,?_,rfl⟩
   unfold z4p;rw [g,g2,g3,g4];rfl
  simp only [evs,evb] at g4
  refine z0n [.slice b0 p.blocks.length c0] (off:=3) (by kernel_rfl) h1 hm1 rfl rfl ?_
  refine ⟨_,z00,?_,rfl⟩
  simp only [evs,evb]
  unfold z4p;rw [g,g2,g3,g4,Bool.not_not];rfl
 rintro vs K _ ⟨rfl,rfl⟩
 simp only [cns]
 refine ⟨fun g=>?_,fun g=>?_⟩
 ·simp only [evs,evb] at g
  refine ⟨?_,h1.sh⟩
  have:z4p p=false:=by simpa using g
  unfold mayP;rw [this];rfl
 simp only [evs,evb] at g
 have hh:z4p p=true:=by simpa using g
 refine z34 (vs:=[.bool false]) h1 (by kernel_rfl) fun kb K2 _ h2=>?_
 refine z0j (off:=0) (vs:=[.bool true]) (by kernel_rfl) h2 (by kernel_rfl) (by simp [oneC]) (by simp) fun K3 h3=>?_
 have h3:Held H K3 [bx kb 4 [.bool true],bx pb 30 (prcVs p (.slice b0 p.blocks.length c0))]:=h3
 refine zlo (f:=z1q) rfl ?_
 have hmf:∀(E:List Value) (a:List (Nat×VE)),a=[(3,VE.sc (.atom 6)),(1,VE.sc (.atom 4))]→E.getD 6 (.bool false)=pAt kb→E.getD 4 (.bool false)=pAt pb→(.func (.func z1q) ((#[]:Array Operand).map (argEv E a)) ((#[(.tmp 3),(.tmp 1)]:Array Operand).map (argEv E a)):Value)=.func (.func z1q) #[] #[pAt kb,pAt pb]:=by
  rintro E a rfl h6 h4
  rw [zgd] at h6 h4
  simp [argEv,evV,ev,List.lookup,h6,h4]
 rw [hmf _ _ rfl rfl rfl]
 simp only [cns]
 refine ⟨fun _=>rfl,?_⟩
 refine z0n [.slice b0 p.blocks.length c0] (off:=3) (by kernel_rfl) h3 (zmm _ (zms)) rfl rfl ?_
 simp only [cns]
 refine ⟨fun n vs K'=>∃k:Nat,vs=[nI k]∧k+n=p.blocks.length∧∃S',PH.le H S'∧Held S' K' [bx kb 4 [.bool ((p.blocks.take k).all (BlkX.may p))],bx pb 30 (prcVs p (.slice b0 p.blocks.length c0))],⟨p.blocks.length,0,rfl,by omega,H,PH.le_refl _,by simpa using h3⟩,?_⟩
 rintro n vs K4 _ ⟨k,rfl,hkn,S4,l4,h4⟩
 simp only [cns]
 refine ⟨fun g=>?_,fun g=>?_⟩
 rotate_left
 ·simp only [evs,evb,zdf] at g
  rw [List.take_of_length_le (by omega)] at h4
  refine z0n [.bool (p.blocks.all (BlkX.may p))] (off:=0) (by kernel_rfl) h4 (zms) rfl rfl ?_
  refine ⟨?_,PH.le_trans l4 h4.sh⟩
  unfold mayP;rw [hh,Bool.true_and];rfl
 simp only [evs,evb,zdt] at g
 have hk:k < p.blocks.length:=by omega
 obtain ⟨b,hb⟩:∃b,p.blocks[k]?=some b:=⟨_,zge hk⟩
 have hbl:=hp.ins b (List.mem_of_getElem? hb)
 have hbe:=hE b (List.mem_of_getElem? hb)
 obtain ⟨q1,_,ces,q2,q3⟩:=(hbv.le l4).get hb
 obtain ⟨iv,es,rfl,his,hes⟩:=blk_iff.1 q2
 obtain ⟨av,rfl,e1,e2,hea,e3,e4,e5⟩:=end_iff.1 hes
 obtain ⟨b2,c2,rfl⟩:=his.sl
 obtain ⟨b3,c3,rfl⟩:=hea.sl
 refine ⟨fun vs K'=>vs=[]∧∃S',PH.le H S'∧Held S' K' [bx kb 4 [.bool ((p.blocks.take (k+1)).all (BlkX.may p))],bx pb 30 (prcVs p (.slice b0 p.blocks.length c0))],?_,fun _=>?_,[.slice b2 b.ins.length c2,.int .i64 b.e.kind,.int .i64 b.e.reg,.slice b3 b.e.args.length c3,.int .i64 b.e.to,.int .i64 b.e.next,.int .i64 b.e.els],rfl,?_,?_⟩
 ·rintro vs K' _ ⟨rfl,S',l',h'⟩
  refine ⟨_,z00,n - 1,by omega,k+1,?_,by omega,S',l',h'⟩
  simp only [evs,evb];rw [w64 (by omega) (by omega)];rfl
 ·simp only [Chk.holds,evs,evb];exact ⟨q1,by omega,by omega⟩
 ·simp only [evs,evb];exact z06 h4.sh q3
 simp only [cns]
 refine ⟨fun n vs K'=>∃j:Nat,vs=[nI j]∧j+n=b.ins.length∧∃S',PH.le S4 S'∧Held S' K' [bx kb 4 [.bool ((p.blocks.take k).all (BlkX.may p) && (b.ins.take j).all (InsX.may p))],bx pb 30 (prcVs p (.slice b0 p.blocks.length c0))],⟨b.ins.length,0,rfl,by omega,S4,PH.le_refl _,by simpa using h4⟩,?_⟩
 rintro n2 vs K5 _ ⟨j,rfl,hjn,S5,l5,h5⟩
 simp only [cns]
 refine ⟨fun g2=>?_,fun g2=>?_⟩
 ·simp only [evs,evb,zdt] at g2
  obtain ⟨x,hx⟩:∃x,b.ins[j]?=some x:=⟨_,zge (show j < b.ins.length by omega)⟩
  obtain ⟨y1,_,ycs,y2,y3⟩:=(his.le l5).get hx
  obtain ⟨arv,dv,rfl,_,x2,hya,_,_,_,hyd,_⟩:=ins_iff.1 y2
  obtain ⟨rb,rc,rfl⟩:=hya.sl
  obtain ⟨db,dc,rfl⟩:=hyd.sl
  refine ⟨fun vs K'=>vs=[]∧∃S',PH.le S4 S'∧Held S' K' [bx kb 4 [.bool ((p.blocks.take k).all (BlkX.may p) && (b.ins.take (j+1)).all (InsX.may p))],bx pb 30 (prcVs p (.slice b0 p.blocks.length c0))],?_,fun _=>?_,[txt x.op,.int .i64 x.to,.slice rb x.args.length rc,.int .i64 x.const.kind,.int .i64 x.const.int,txt x.const.text,.slice db x.const.list.length dc,.int .i64 x.num],rfl,?_,?_⟩
  ·rintro vs K' _ ⟨rfl,S',l',h'⟩
   refine ⟨_,z00,n2 - 1,by omega,j+1,?_,by omega,S',l',h'⟩
   simp only [evs,evb];rw [w64 (by omega) (by omega)];rfl
  ·simp only [Chk.holds,evs,evb];exact ⟨y1,by omega,by omega⟩
  ·simp only [evs,evb];exact z06 h5.sh y3
  simp only [cns]
  refine z93 (f:=z1q) (first:=#[]) (caps:=#[pAt kb,pAt pb]) (by rfl) z38 (zbg p x.args (.slice rb x.args.length rc) (.slice b0 p.blocks.length c0) kb pb S5 K5 _ hya h5) ?_
  rintro e K6 ⟨rfl,h6⟩
  refine ⟨_,[],rfl,rfl,rfl,z01,fun g3=>?_,fun g3=>?_⟩
  ·simp only [evs,evb,z9e] at g3
   have hop:x.op≠tieB:=by simpa using g3
   refine z1o (α:=Int) (l:=[x.to]) (b:=8) [.int .i64 x.to] z0q z0i rfl (by decide) (by decide) h6 (by kernel_rfl) (.cons (z0o x2) .nil) z01 fun v7 K7 h7 _ _=>?_
   obtain ⟨S8,s8,l8,h8⟩:=h7.freeze
   obtain ⟨b8,c8,rfl⟩:=s8.sl
   simp only [cns]
   refine z93 (f:=z1q) (first:=#[]) (caps:=#[pAt kb,pAt pb]) (by rfl) z38 (zbg p [x.to] (.slice b8 1 c8) (.slice b0 p.blocks.length c0) kb pb S8 K7 _ s8 h8) ?_
   rintro e K9 ⟨rfl,h9⟩
   refine ⟨_,[],rfl,rfl,rfl,z01,_,z00,rfl,S8,PH.le_trans l5 l8,?_⟩
   have:((p.blocks.take k).all (BlkX.may p) && (b.ins.take (j+1)).all (InsX.may p))=(((p.blocks.take k).all (BlkX.may p) && (b.ins.take j).all (InsX.may p)) && x.args.all (inR p) && ([x.to]:List Int).all (inR p)):=by
    rw [z8i _ hx];unfold InsX.may
    rw [decide_eq_false hop];simp [Bool.and_assoc]
   rw [this];exact h9
  ·simp only [evs,evb,z9e] at g3
   have hop:x.op=tieB:=by simpa using g3
   refine ⟨_,z00,rfl,S5,l5,?_⟩
   have:((p.blocks.take k).all (BlkX.may p) && (b.ins.take (j+1)).all (InsX.may p))=(((p.blocks.take k).all (BlkX.may p) && (b.ins.take j).all (InsX.may p)) && x.args.all (inR p)):=by
    rw [z8i _ hx];unfold InsX.may
    rw [decide_eq_true hop];simp [Bool.and_assoc]
   rw [this];exact h6
 simp only [evs,evb,zdf] at g2
 rw [List.take_of_length_le (l:=b.ins) (by omega)] at h5
 have hall:(p.blocks.take (k+1)).all (BlkX.may p)=(((p.blocks.take k).all (BlkX.may p) && b.ins.all (InsX.may p)) && b.e.uses.all (inR p)):=by
  rw [z8i _ hb];unfold BlkX.may;rw [Bool.and_assoc]
 have hea5:=hea.le l5
 refine ⟨fun vs K=>K=K5∧vs=[.bool (decide (b.e.kind=1∨b.e.kind=2∨b.e.kind=5))],?_,fun g=>?_,fun g=>?_⟩
 ·rintro vs K _ ⟨rfl,rfl⟩
  simp only [cns]
  refine ⟨fun g=>?_,fun g=>⟨fun g2=>?_,fun g2=>⟨fun g3=>?_,fun g3=>⟨fun g4=>?_,fun g4=>?_⟩⟩⟩⟩
  ·simp only [evs,evb,zdt] at g
   have hu:b.e.uses=[b.e.reg]:=by rw [zc8,if_pos g]
   refine z1o (α:=Int) (l:=[b.e.reg]) (b:=8) [.int .i64 b.e.reg] z0q z0i rfl (by decide) (by decide) h5 (by kernel_rfl) (.cons (z0o e2) .nil) z01 fun v7 K7 h7 _ _=>?_
   obtain ⟨S8,s8,l8,h8⟩:=h7.freeze
   obtain ⟨b8,c8,rfl⟩:=s8.sl
   simp only [cns]
   refine z93 (f:=z1q) (first:=#[]) (caps:=#[pAt kb,pAt pb]) (by rfl) z38 (zbg p [b.e.reg] (.slice b8 1 c8) (.slice b0 p.blocks.length c0) kb pb S8 K7 _ s8 h8) ?_
   rintro e K9 ⟨rfl,h9⟩
   exact ⟨_,[],rfl,rfl,rfl,z01,_,z0s rfl z00,rfl,S8,PH.le_trans l4 (PH.le_trans l5 l8),by rw [hall,hu];exact h9⟩
  ·simp only [evs,evb,zdf] at g
   simp only [evs,evb,zdt] at g2
   have hu:b.e.uses=[b.e.reg]++b.e.args:=by rw [zc8,if_neg g,if_pos g2]
   refine z1o (α:=Int) (l:=[b.e.reg]) (b:=8) [.int .i64 b.e.reg] z0q z0i rfl (by decide) (by decide) h5 (by kernel_rfl) (.cons (z0o e2) .nil) z01 fun v6 K6 h6 _ _=>?_
   refine z8s (b:=8) (more:=b.e.args) z0q z0i (by kernel_rfl) (by kernel_rfl) h6 (hea5.srcS h6.sh) (by simp only [maxLen,zlc,List.length_nil];omega) (by simp only [zlc,List.length_nil];omega) fun v7 K7 h7 _=>⟨z01,?_⟩
   obtain ⟨S8,s8,l8,h8⟩:=h7.freeze
   obtain ⟨b8,c8,rfl⟩:=s8.sl
   simp only [cns]
   refine z93 (f:=z1q) (first:=#[]) (caps:=#[pAt kb,pAt pb]) (by rfl) z38 (zbg p ([b.e.reg]++b.e.args) (.slice b8 ([b.e.reg]++b.e.args).length c8) (.slice b0 p.blocks.length c0) kb pb S8 K7 _ s8 h8) ?_
   rintro e K9 ⟨rfl,h9⟩
   exact ⟨_,[],rfl,rfl,rfl,z01,_,z0s rfl z00,rfl,S8,PH.le_trans l4 (PH.le_trans l5 l8),by rw [hall,hu];exact h9⟩
  ·simp only [evs,evb,zdf] at g g2
   simp only [evs,evb,zdt] at g3
   have hu:b.e.uses=[b.e.reg,b.e.to]++b.e.args:=by rw [zc8,if_neg g,if_neg g2,if_pos g3]
   refine z1o (α:=Int) (l:=[b.e.reg,b.e.to]) (b:=8) [.int .i64 b.e.reg,.int .i64 b.e.to] z0q z0i rfl (by decide) (by decide) h5 (by kernel_rfl) (.cons (z0o e2) (.cons (z0o e3) .nil)) z01 fun v6 K6 h6 _ _=>?_
   refine z8s (b:=8) (more:=b.e.args) z0q z0i (by kernel_rfl) (by kernel_rfl) h6 (hea5.srcS h6.sh) (by simp only [maxLen,zlc,List.length_nil];omega) (by simp only [zlc,List.length_nil];omega) fun v7 K7 h7 _=>⟨z01,?_⟩
   obtain ⟨S8,s8,l8,h8⟩:=h7.freeze
   obtain ⟨b8,c8,rfl⟩:=s8.sl
   simp only [cns]
   refine z93 (f:=z1q) (first:=#[]) (caps:=#[pAt kb,pAt pb]) (by rfl) z38 (zbg p ([b.e.reg,b.e.to]++b.e.args) (.slice b8 ([b.e.reg,b.e.to]++b.e.args).length c8) (.slice b0 p.blocks.length c0) kb pb S8 K7 _ s8 h8) ?_
   rintro e K9 ⟨rfl,h9⟩
   exact ⟨_,[],rfl,rfl,rfl,z01,_,z0s rfl z00,rfl,S8,PH.le_trans l4 (PH.le_trans l5 l8),by rw [hall,hu];exact h9⟩
  ·simp only [evs,evb,zdf] at g g2 g3
   simp only [evs,evb,zdt] at g4
   have hu:b.e.uses=[b.e.reg,b.e.to]:=by rw [zc8,if_neg g,if_neg g2,if_neg g3,if_pos g4]
   refine z1o (α:=Int) (l:=[b.e.reg,b.e.to]) (b:=8) [.int .i64 b.e.reg,.int .i64 b.e.to] z0q z0i rfl (by decide) (by decide) h5 (by kernel_rfl) (.cons (z0o e2) (.cons (z0o e3) .nil)) z01 fun v7 K7 h7 _ _=>?_
   obtain ⟨S8,s8,l8,h8⟩:=h7.freeze
   obtain ⟨b8,c8,rfl⟩:=s8.sl
   simp only [cns]
   refine z93 (f:=z1q) (first:=#[]) (caps:=#[pAt kb,pAt pb]) (by rfl) z38 (zbg p [b.e.reg,b.e.to] (.slice b8 2 c8) (.slice b0 p.blocks.length c0) kb pb S8 K7 _ s8 h8) ?_
   rintro e K9 ⟨rfl,h9⟩
   exact ⟨_,[],rfl,rfl,rfl,z01,_,z0s rfl z00,rfl,S8,PH.le_trans l4 (PH.le_trans l5 l8),by rw [hall,hu];exact h9⟩
  ·simp only [evs,evb,zdf] at g g2 g3 g4
   have hu:b.e.uses=[]:=by rw [zc8,if_neg g,if_neg g2,if_neg g3,if_neg g4]
   exact ⟨_,z0s rfl z00,rfl,S5,PH.le_trans l4 l5,by rw [hall,hu,List.all_nil,Bool.and_true];exact h5⟩
 ·simp only [evs,evb,zdt] at g
  refine ⟨_,z00,rfl,?_⟩
  simp [evs,evb,g]
 ·simp only [evs,evb,zdf] at g
  refine ⟨_,z00,rfl,?_⟩
  by_cases h2:b.e.kind=2<;>by_cases h5:b.e.kind=5<;>simp [evs,evb,g,h2,h5]
structure FillX where
 to:Int
 of:Int
 live:List Int
instance encFill:Enc FillX:=⟨fun f=>[.int .i64 f.to,.int .i64 f.of,slp f.live],3,fun _=>rfl⟩
def moveB:List UInt8:=[109,111,118,101]
theorem zxw (l:List UInt8):cmpS .neq ⟨l.toArray⟩ ⟨#[109,111,118,101]⟩=!decide (l=moveB):=by
 show (!((⟨l.toArray⟩:ByteArray).toList == (⟨moveB.toArray⟩:ByteArray).toList))=_
 rw [zl8]
def lessL (l m:List Int):List Int:=l.filter fun r=>decide (r∉m)
noncomputable def zb5 (p:PrcX) (i j:Nat) (x:InsX):List FillX:=if x.op=tieB then [] else [⟨x.to,-1,if x.op=moveB then lessL (liveL p i (j+1)) x.args else liveL p i (j+1)⟩]
noncomputable def z2j (p:PrcX) (i:Nat) (b:BlkX) (k:Nat):List FillX:=(List.range k).flatMap fun j=>match b.ins[j]? with
 | some x=>zb5 p i j x
 | none=>[]
noncomputable def zek (p:PrcX) (i:Nat) (b:BlkX):List FillX:=z2j p i b b.ins.length++if b.e.calls then [⟨b.e.to,-1,z1w p (i:Int)⟩] else []
noncomputable def z3b (p:PrcX) (k:Nat):List FillX:=(List.range k).flatMap fun i=>match p.blocks[i]? with
 | some b=>zek p i b
 | none=>[]
noncomputable def zl9 (p:PrcX):List FillX:=z3b p p.blocks.length
theorem z5d {p:PrcX} {i j:Nat} {b:BlkX} {x:InsX} (h:b.ins[j]?=some x):z2j p i b (j+1)=z2j p i b j++zb5 p i j x:=by
 unfold z2j;rw [List.range_succ,List.flatMap_append];simp [h]
theorem zlj {p:PrcX} {k:Nat} {b:BlkX} (h:p.blocks[k]?=some b):z3b p (k+1)=z3b p k++zek p k b:=by
 unfold z3b;rw [List.range_succ,List.flatMap_append];simp [h]
theorem zwk {p:PrcX} (hp:p.Fit) (i:Int):(z1w p i).length≤20000000:=by
 unfold z1w
 split
 ·split
  ·exact Nat.le_trans (List.length_filter_le _ _) (zh0 hp _ _)
  ·simp
 ·simp
theorem zsa {α:Type}:∀{l:List α} {i:Nat} {x:α},l[i]?=some x→(x::l.eraseIdx i).Perm l
 | [],i,x,h=>by simp at h
 | a::l,0,x,h=>by simp at h;subst h;exact List.Perm.refl _
 | a::l,i+1,x,h=>by
  have:=zsa (l:=l) (i:=i) (x:=x) (by simpa using h)
  exact (List.Perm.swap a x _).trans (this.cons a)
theorem zvl {α:Type} {x:α}:∀{l:List α} {i:Nat},i < l.length→(x::l.eraseIdx i).Perm (l.set i x)
 | [],i,h=>by simp at h
 | a::l,0,h=>by exact List.Perm.refl _
 | a::l,i+1,h=>by
  have:=zvl (x:=x) (l:=l) (i:=i) (by simpa using h)
  exact (List.Perm.swap a x _).trans (this.cons a)
theorem Held.pick {S H:PH} {I L:List Itm} {x:Itm} {a:Nat} (h:Held S H (I++L)) (hx:L[a]?=some x):Held S H (x::(I++L.eraseIdx a)):=
 h.perm (((List.Perm.append_left I (zsa hx).symm)).trans List.perm_middle)
theorem Held.unpick {S H:PH} {I L:List Itm} {x:Itm} {a:Nat} (h:Held S H (x::(I++L.eraseIdx a))) (ha:a < L.length):Held S H (I++L.set a x):=
 h.perm (List.perm_middle.symm.trans (List.Perm.append_left I (zvl ha)))
theorem Held.blkRow {α:Type} [Enc α] {S H:PH} {I:List Itm} {e:TypeId} {xs:List Value} {r:Nat} {L:List α} (hz:sz α=1) (h:Held S H (.blk r (.cells xs.toArray e (0,0))::I)) (hrep:PV.RepRow S (L.flatMap pv) xs) (hm:L.length≤maxLen) :
  Held S H (orow e L (.slice (some ⟨r,0,none⟩) L.length L.length)::I):=by
 have hb:H r=some (.cells xs.toArray e (0,0)):=h.at_ _ (zms)
 have hl:xs.length=L.length:=by have:=hrep.length;rw [z2o,hz,Nat.mul_one] at this;exact this
 have hR:Row S H e L (.slice (some ⟨r,0,none⟩) L.length L.length):=by
  refine ⟨fun g hg=>?_,xs,⟨by rw [hz,Nat.mul_one];exact hl,.inr ⟨r,L.length,xs.toArray,rfl,hb,Nat.le_refl _,hm,by rw [hz,Nat.mul_one];simpa using hl,?_⟩⟩,hrep⟩
  ·simp only [ob,Option.some.injEq] at hg
   subst hg
   exact h.off _ (zms) r rfl
  ·rw [List.toList_toArray,hz,Nat.mul_one]
   exact List.take_of_length_le (by omega)
 exact Held.step (J:=[.blk r (.cells xs.toArray e (0,0))]) (J':=[orow e L (.slice (some ⟨r,0,none⟩) L.length L.length)]) h (PH.le_refl _) (fun k o hk _=>hk) (fun k a b=>absurd a b) (Row.held h.sh hR) fun j hj k hk=>by
  rw [List.mem_singleton.1 hj] at hk
  simp only [Itm.ob,ob,Option.some.injEq] at hk
  subst hk
  exact .inr ⟨_,List.mem_singleton.2 rfl,rfl⟩
instance encBools:Enc (List Bool):=⟨fun l=>[slp l],1,fun _=>rfl⟩
structure TabIs (R:Nat) (T:List (List Bool)) (M:Nat→Nat→Prop):Prop where
 len:T.length=R
 row:∀(a:Nat) l,T[a]?=some l→l.length=R
 at_:∀(a b:Nat) l,T[a]?=some l→b < R→(l[b]?=some true↔M a b)
theorem TabIs.congr {R:Nat} {T:List (List Bool)} {M M':Nat→Nat→Prop} (h:TabIs R T M) (hm:∀a b,a < R→b < R→(M a b↔M' a b)):TabIs R T M':=
 ⟨h.len,h.row,fun a b l hl hb=>(h.at_ a b l hl hb).trans (hm a b (by have:=(List.getElem?_eq_some_iff.1 hl).1;rw [h.len] at this;exact this) hb)⟩
theorem TabIs.put {R:Nat} {T:List (List Bool)} {M:Nat→Nat→Prop} (h:TabIs R T M) {a b:Nat} {l:List Bool} (hl:T[a]?=some l) (hb:b < R):TabIs R (T.set a (l.set b true)) fun x y=>M x y∨(x=a∧y=b):=by
 have hlr:=h.row a l hl
 have haT:=(List.getElem?_eq_some_iff.1 hl).1
 refine ⟨by simpa using h.len,fun x m hm=>?_,fun x y m hm hy=>?_⟩
 ·rw [List.getElem?_set] at hm
  by_cases e:a=x
  ·rw [if_pos e,if_pos (by omega)] at hm;cases hm;simpa using hlr
  ·rw [if_neg e] at hm;exact h.row x m hm
 ·rw [List.getElem?_set] at hm
  by_cases e:a=x
  ·subst e
   rw [if_pos rfl,if_pos haT] at hm;cases hm
   rw [List.getElem?_set]
   by_cases e2:b=y
   ·subst e2
    rw [if_pos rfl,if_pos (by omega)]
    exact ⟨fun _=>.inr ⟨rfl,rfl⟩,fun _=>rfl⟩
   ·rw [if_neg e2,h.at_ a y l hl hy]
    exact ⟨.inl,fun hh=>hh.elim id fun hh=>absurd hh.2.symm e2⟩
  ·rw [if_neg e] at hm
   rw [h.at_ x y m hm hy]
   exact ⟨.inl,fun hh=>hh.elim id fun hh=>absurd hh.1.symm e⟩
theorem TabIs.none (R:Nat):TabIs R (List.replicate R (List.replicate R false)) fun _ _=>False:=by
 refine ⟨by simp,fun a l h=>?_,fun a b l h hb=>?_⟩
 ·rw [List.getElem?_replicate] at h;split at h
  ·cases h;simp
  ·cases h
 ·rw [List.getElem?_replicate] at h;split at h
  ·cases h
   rw [List.getElem?_replicate,if_pos hb];simp
  ·cases h
section
variable {X:List PanicEntry→PH→Prop} {β:Type} {E:List Value} {L:LK} {K:β→List Value→PH→LK→Prop} {S H:PH} {J:List Itm}
end
def FillX.sym (f:FillX) (a b:Int):Prop:=(a=f.to∧b∈f.live)∨(b=f.to∧a∈f.live)
def MeetP (p:PrcX) (a b:Int):Prop:=(a∈liveL p 0 0∧b∈liveL p 0 0)∨∃f∈zl9 p,f.sym a b
theorem Z3w {p:PrcX} (h:mayP p=true) {r:Int} (hr:r∈p.regl):0≤r∧r < p.regs:=by
 obtain ⟨b,hb,hx⟩:=List.mem_flatMap.1 hr
 unfold mayP at h
 simp only [zba,List.all_eq_true] at h
 have hbm:=h.2 b hb
 unfold BlkX.may at hbm
 simp only [zba,List.all_eq_true] at hbm
 have key:inR p r=true→0≤r∧r < p.regs:=fun h=>by unfold inR at h;exact of_decide_eq_true h
 unfold BlkX.regs at hx
 rcases List.mem_append.1 hx with hx | hx
 ·obtain ⟨y,hy,hxy⟩:=List.mem_flatMap.1 hx
  have:=hbm.1 y hy
  unfold InsX.may at this
  simp only [zba,List.all_eq_true] at this
  exact key (this.1 r hxy)
 ·refine key (hbm.2 r ?_)
  unfold EndX.regs at hx
  unfold EndX.uses
  rcases List.mem_append.1 hx with hx | hx
  ·split at hx
   ·rename_i hrd
    simp at hx;subst hx
    unfold EndX.reads at hrd
    by_cases h1:b.e.kind=1∨b.e.kind=2∨b.e.kind=5
    ·rw [if_pos h1];simp
    ·rw [if_neg h1]
     by_cases h3:b.e.kind=3
     ·rw [if_pos h3];simp
     ·rw [if_neg h3]
      by_cases h4:b.e.kind=4
      ·rw [if_pos h4];simp
      ·rw [if_neg h4]
       by_cases h6:b.e.kind=6
       ·rw [if_pos h6];simp
       ·rw [if_neg (by omega),if_neg (by omega)] at hrd;cases hrd
   ·cases hx
  ·split at hx
   ·rename_i hk
    rw [if_neg (by omega)]
    by_cases h3:b.e.kind=3
    ·rw [if_pos h3];exact zmm _ hx
    ·rw [if_neg h3,if_pos (by omega)];exact zmm _ (zmm _ hx)
   ·cases hx
theorem zeo {p:PrcX} (h:mayP p=true) {r:Int} {i a:Nat} (hr:r∈liveL p i a):0≤r∧r < p.regs:=Z3w h (z4z (liveL_mem.1 hr))
theorem zka {p:PrcX} (h:mayP p=true) {f:FillX} (hf:f∈zl9 p):(0≤f.to∧f.to < p.regs)∧∀r∈f.live,0≤r∧r < p.regs:=by
 obtain ⟨i,hi,hf⟩:=List.mem_flatMap.1 hf
 cases hb:p.blocks[i]? with
 | none=>rw [hb] at hf;simp at hf
 | some b=>
  rw [hb] at hf
  simp only at hf
  unfold mayP at h
  have h0:=h
  simp only [zba,List.all_eq_true] at h
  have hbm:=h.2 b (List.mem_of_getElem? hb)
  unfold BlkX.may at hbm
  simp only [zba,List.all_eq_true] at hbm
  have key:∀{r},inR p r=true→0≤r∧r < p.regs:=fun h=>by unfold inR at h;exact of_decide_eq_true h
  unfold zek at hf
  rcases List.mem_append.1 hf with hf | hf
  ·obtain ⟨j,hj,hf⟩:=List.mem_flatMap.1 hf
   cases hx:b.ins[j]? with
   | none=>rw [hx] at hf;simp at hf
   | some x=>
    rw [hx] at hf
    simp only [zb5] at hf
    split at hf
    ·cases hf
    ·rename_i hop
     have hxm:=hbm.1 x (List.mem_of_getElem? hx)
     unfold InsX.may at hxm
     rw [decide_eq_false hop] at hxm
     simp only [zba,List.all_eq_true,Bool.false_or] at hxm
     rw [List.mem_singleton.1 hf]
     refine ⟨key hxm.2,fun r hr=>?_⟩
     split at hr
     ·exact zeo h0 (List.mem_filter.1 hr).1
     ·exact zeo h0 hr
  ·split at hf
   ·rename_i hc
    rw [List.mem_singleton.1 hf]
    refine ⟨?_,fun r hr=>?_⟩
    ·refine key (hbm.2 _ ?_)
     unfold EndX.calls at hc
     simp only [zdt] at hc
     unfold EndX.uses
     rw [if_neg (by omega),if_neg (by omega)]
     by_cases h4:b.e.kind=4
     ·rw [if_pos h4];simp
     ·rw [if_neg h4,if_pos (by omega)];simp
    ·unfold z1w at hr
     split at hr
     ·split at hr
      ·exact zeo h0 (List.mem_filter.1 hr).1
      ·cases hr
     ·cases hr
   ·cases hf
theorem zor {p:PrcX} (h:mayP p=true):0≤p.regs∧p.regs≤2000∧0≤p.params∧p.params≤p.regs∧p.blocks≠[]:=by
 unfold mayP z4p at h
 simp only [zba,Bool.not_eq_true',Bool.or_eq_false_iff,zdf] at h
 refine ⟨by omega,by omega,by omega,by omega,fun e=>?_⟩
 rw [e] at h;simp at h
instance encPair:Enc (Int×Int):=⟨fun x=>[.int .i64 x.1,.int .i64 x.2],2,fun _=>rfl⟩
theorem pair_iff {H:PH} {x:Int×Int} {cs:List Value}:CsR H x cs↔cs=[.int .i64 x.1,.int .i64 x.2]∧InI x.1∧InI x.2:=by
 show PV.RepRow H [_,_] cs↔_
 simp only [PV.RepRow,repI_iff]
 constructor
 ·rintro ⟨v1,_,rfl,⟨rfl,h1⟩,v2,_,rfl,⟨rfl,h2⟩,rfl⟩
  exact ⟨rfl,h1,h2⟩
 ·rintro ⟨rfl,h1,h2⟩
  exact ⟨_,_,rfl,⟨rfl,h1⟩,_,_,rfl,⟨rfl,h2⟩,rfl⟩
theorem Z5e:Tryz.prog.underlying 45=some (.slice 49):=by kernel_rfl
theorem Z27:ElemOk Tryz.prog 49 2 16=true:=by kernel_rfl
def lexLt (x y:Int×Int):Prop:=x.1 < y.1∨(x.1=y.1∧x.2 < y.2)
theorem Z06:∀{l m:List (Int×Int)},l.Pairwise lexLt→m.Pairwise lexLt→(∀x,x∈l↔x∈m)→l=m
 | [],[],_,_,_=>rfl
 | [],b::m,_,_,h=>absurd ((h b).2 (zms)) (by simp)
 | a::l,[],_,_,h=>absurd ((h a).1 (zms)) (by simp)
 | a::l,b::m,hl,hm,h=>by
  obtain ⟨l1,l2⟩:=List.pairwise_cons.1 hl
  obtain ⟨m1,m2⟩:=List.pairwise_cons.1 hm
  have asym:∀x y:Int×Int,lexLt x y→lexLt y x→False:=fun x y h1 h2=>by unfold lexLt at h1 h2;omega
  have irr:∀x:Int×Int,¬lexLt x x:=fun x h=>asym x x h h
  have hab:a=b:=by
   rcases List.mem_cons.1 ((h a).1 (zms)) with e | ha
   ·exact e
   ·rcases List.mem_cons.1 ((h b).2 (zms)) with e | hb
    ·exact e.symm
    ·exact (asym _ _ (m1 a ha) (l1 b hb)).elim
  subst hab
  congr 1
  refine Z06 l2 m2 fun x=>?_
  constructor
  ·intro hx
   rcases List.mem_cons.1 ((h x).1 (zmm _ hx)) with e | h1
   ·subst e;exact (irr _ (l1 x hx)).elim
   ·exact h1
  ·intro hx
   rcases List.mem_cons.1 ((h x).2 (zmm _ hx)) with e | h1
   ·subst e;exact (irr _ (m1 x hx)).elim
   ·exact h1
structure EdgesOf (p:PrcX) (l:List (Int×Int)):Prop where
 sorted:l.Pairwise lexLt
 mem:∀a b:Int,(a,b)∈l↔0≤a∧a < b∧b < p.regs∧MeetP p a b
def cntB (f:Nat→Bool):Nat→Nat
 | 0=>0
 | n+1=>cntB f n+if f n then 1 else 0
def Z16 (R:Nat) (M:Nat→Nat→Prop) (k:Int) (U:Nat→Bool):Prop:=∀i,i < R→U i=true→∃f:Nat→Bool,(∀j,j < R→f j=true→U j=true∧j≠i∧M i j)∧k≤(cntB f R:Int)
section
variable {P:Program} {Φ:Next→PH→Prop} {Ψ:Value→PH→Prop} {H:PH} {ρ:Operand→Value}
theorem zyi {T ty:TypeId} {x y:Operand}:wpS P (execOp ρ (bare (.index T x y) ty)) Φ Ψ H=wpS P (Instr.index T (ρ x) (ρ y)) (fun v H'=>Φ (.value v) H') Ψ H:=by
 simp only [execOp,bare,z04,z0d]
theorem zyz {X:List PanicEntry→PH→Prop} {β:Type} {E:List Value} {L:LK} {K:β→List Value→PH→LK→Prop} {T ty e e2:TypeId} {n m z:Nat} {x y:Operand} {args:List (Nat×VE)} {tags:List Tag} {k:Fm β} {cs:Array Value} {kk:IntKind} {j:Nat} (vs:List Value)
  (hT:P.underlying T=some (.array n e)) (he:P.underlying e=some (.array m e2)) (hiz:(P.info? e).map (·.size)=some z) (hx:argEv E args x=.agg cs) (hy:argEv E args y=.int kk (j:Int)) (hj:j < n) (hvs:(cs.extract (j * z) (j * z+z)).toList=vs) (ht:z08 tags vs=true)
  (hk:den P X k (E++vs) H L K):den P X (.sem (.index T x y) ty args (.ag tags) [] k) E H L K:=by
 obtain ⟨i,hi,hz⟩:=Option.map_eq_some_iff.1 hiz
 show wpS P (execOp (argEv E args) (bare _ ty)) _ _ H
 rw [zyi,hx,hy]
 unfold Instr.index asIntOf
 simp only [z04,z0d,z09 hT]
 have hjn:(0:Int)≤(j:Int)∧(j:Int) < (n:Int):=⟨by omega,by omega⟩
 rw [if_pos hjn]
 simp only [z04,z33 hi,Int.toNat_natCast,hz]
 unfold part isAgg
 simp only [z04,z09 he,z0d,if_true,z33 hi,hz]
 refine ⟨vs,ht,?_,z01,hk⟩
 show Value.agg _=Value.agg _
 rw [←hvs]
end
structure GN where
 ref:Nat
 es:Array MapEntry
 cl:Nat
 s:List Int
abbrev outM (N:List (Int×GN)):List (Int×Value):=N.map fun x=>(x.1,.map (some x.2.ref))
abbrev grB (gr:Nat) (es:Array MapEntry) (cl:Nat):List Itm:=[.blk gr (.map es cl)]
abbrev grI (N:List (Int×GN)):List Itm:=N.map fun x=>.blk x.2.ref (.map x.2.es x.2.cl)
structure GrOk (es:Array MapEntry) (cl:Nat) (N:List (Int×GN)):Prop where
 outer:EntsR (α:=Int) es.toList cl (outM N)
 inner:∀(j:Nat) x,N[j]?=some x→SetAt x.2.es x.2.cl x.2.s
def relN (N:List (Int×GN)) (c d:Int):Prop:=∃x∈N,x.1=c∧d∈x.2.s
theorem zm5 {es:Array MapEntry} {cl:Nat} {N:List (Int×GN)} (h:GrOk es cl N):(N.map (·.1)).Nodup:=by
 have:=h.outer.keys
 rwa [List.map_map] at this
theorem zfw:∀{N:List (Int×GN)} {j:Nat} {x:Int×GN},(N.map (·.1)).Nodup→N[j]?=some x→getM (outM N) x.1=some (.map (some x.2.ref))
 | [],j,x,_,h=>by simp at h
 | y::N,0,x,hn,h=>by
  simp at h;subst h
  rw [outM,List.map_cons,zli,if_pos rfl]
 | y::N,j+1,x,hn,h=>by
  have h':N[j]?=some x:=by simpa using h
  simp only [List.map_cons,List.nodup_cons] at hn
  have hne:¬y.1=x.1:=fun e=>hn.1 (e ▸ List.mem_map.2 ⟨x,List.mem_of_getElem? h',rfl⟩)
  rw [outM,List.map_cons,zli,if_neg hne]
  exact zfw hn.2 h'
theorem zln {N:List (Int×GN)} {k:Int} (h:∀x∈N,x.1≠k):getM (outM N) k=none:=by
 rw [getM_none,List.map_map]
 intro hk
 obtain ⟨x,hx,e⟩:=List.mem_map.1 hk
 exact h x hx e
theorem z9h:Tryz.prog.underlying 64=some (.map 3 67):=by kernel_rfl
theorem zbp:Tryz.prog.underlying 67=some (.map 3 3):=by kernel_rfl
theorem Z31 {N:List (Int×GN)} {j:Nat} {x:Int×GN} {es:Array MapEntry} {cl:Nat} {s:List Int} (hx:N[j]?=some x):outM (N.set j (x.1,⟨x.2.ref,es,cl,s⟩))=outM N:=by
 refine List.ext_getElem? fun t=>?_
 rw [List.getElem?_map,List.getElem?_map,List.getElem?_set]
 by_cases e:j=t
 ·subst e
  have hj:=(List.getElem?_eq_some_iff.1 hx).1
  rw [if_pos rfl,if_pos hj,hx];rfl
 ·rw [if_neg e]
theorem Z5g {N:List (Int×GN)} {j:Nat} {x:Int×GN} {es:Array MapEntry} {cl:Nat} {s:List Int} (hx:N[j]?=some x):(grI N).set j (.blk x.2.ref (.map es cl))=grI (N.set j (x.1,⟨x.2.ref,es,cl,s⟩)):=by
 refine List.ext_getElem? fun t=>?_
 rw [List.getElem?_set,List.getElem?_map,List.getElem?_map,List.getElem?_set,List.length_map]
 by_cases e:j=t
 ·subst e
  have hj:=(List.getElem?_eq_some_iff.1 hx).1
  rw [if_pos rfl,if_pos hj,if_pos rfl,if_pos hj];rfl
 ·rw [if_neg e,if_neg e]
theorem Z3o {N:List (Int×GN)} {j:Nat} {x:Int×GN} {es:Array MapEntry} {cl:Nat} {s:List Int} {k:Int} (hn:(N.map (·.1)).Nodup) (hx:N[j]?=some x) (hs:∀y,y∈s↔y∈x.2.s∨y=k) (c d:Int):relN (N.set j (x.1,⟨x.2.ref,es,cl,s⟩)) c d↔relN N c d∨(c=x.1∧d=k):=by
 have hj:=(List.getElem?_eq_some_iff.1 hx).1
 unfold relN
 constructor
 ·rintro ⟨y,hy,h1,h2⟩
  rcases List.mem_or_eq_of_mem_set hy with h | h
  ·exact .inl ⟨y,h,h1,h2⟩
  ·subst h
   rcases (hs d).1 h2 with h3 | h3
   ·exact .inl ⟨x,List.mem_of_getElem? hx,h1,h3⟩
   ·exact .inr ⟨h1.symm,h3⟩
 ·rintro (⟨y,hy,h1,h2⟩ | ⟨h1,h2⟩)
  ·obtain ⟨t,ht⟩:=List.getElem?_of_mem hy
   by_cases e:j=t
   ·subst e
    rw [hx] at ht;cases ht
    exact ⟨(x.1,⟨x.2.ref,es,cl,s⟩),List.mem_of_getElem? (i:=j) (by rw [List.getElem?_set,if_pos rfl,if_pos hj]),h1,(hs d).2 (.inl h2)⟩
   ·exact ⟨y,List.mem_of_getElem? (i:=t) (by rw [List.getElem?_set,if_neg e];exact ht),h1,h2⟩
  ·exact ⟨(x.1,⟨x.2.ref,es,cl,s⟩),List.mem_of_getElem? (i:=j) (by rw [List.getElem?_set,if_pos rfl,if_pos hj]),h1.symm,(hs d).2 (.inr h2)⟩
set_option maxHeartbeats 2000000 in
theorem zoi (gr:Nat) (es:Array MapEntry) (cl:Nat) (N:List (Int×GN)) (a b:Int) (S K:PH) (h:Held S K (grB gr es cl++grI N)) (hg:GrOk es cl N) :
  Tri Tryz.prog zf9 #[.map (some gr),.int .i64 a,.int .i64 b] K fun x K'=>∃es' cl' N',x=.returned (.tuple #[])∧Held S K' (grB gr es' cl'++grI N')∧GrOk es' cl' N'∧∀c d,relN N' c d↔relN N c d∨(a≠b∧((c=a∧d=b)∨(c=b∧d=a))):=by
 refine zco [.map (some gr),.int .i64 a,.int .i64 b] (by kernel_rfl) (by kernel_rfl) ?_
 refine ⟨fun g=>?_,fun g=>?_⟩
 ·simp only [evs,evb,zdt] at g
  have hab:a=b:=by simpa using g
  exact ⟨es,cl,N,rfl,h,hg,fun c d=>⟨.inl,fun hh=>hh.elim id fun hh=>absurd hab hh.1⟩⟩
 simp only [evs,evb] at g
 have hab:a≠b:=by simpa using g
 refine ⟨fun n vs K'=>∃(i:Nat) (es':Array MapEntry) (cl':Nat) (N':List (Int×GN)),vs=[nI i]∧i+n=2∧Held S K' (grB gr es' cl'++grI N')∧GrOk es' cl' N'∧∀c d,relN N' c d↔relN N c d∨(1≤i∧c=a∧d=b)∨(2≤i∧c=b∧d=a),
  ⟨2,0,es,cl,N,rfl,rfl,h,hg,fun c d=>by simp⟩,?_⟩
 rintro n vs K1 _ ⟨i,es1,cl1,N1,rfl,hin,h1,hg1,hr1⟩
 simp only [cns]
 refine ⟨fun g1=>?_,fun g1=>?_⟩
 rotate_left
 ·simp only [evs,evb,zdf] at g1
  have:i=2:=by omega
  subst this
  refine ⟨es1,cl1,N1,rfl,h1,hg1,fun c d=>?_⟩
  rw [hr1]
  constructor
  ·rintro (h | ⟨_,h⟩ | ⟨_,h⟩)
   ·exact .inl h
   ·exact .inr ⟨hab,.inl h⟩
   ·exact .inr ⟨hab,.inr h⟩
  ·rintro (h | ⟨_,h | h⟩)
   ·exact .inl h
   ·exact .inr (.inl ⟨by omega,h⟩)
   ·exact .inr (.inr ⟨by omega,h⟩)
 simp only [evs,evb,zdt] at g1
 have hi2:i < 2:=by omega
 obtain ⟨k,w,hkw,hstep⟩:∃k w:Int,(k=(if i=0 then a else b)∧w=(if i=0 then b else a))∧∀c d:Int,((1≤i∧c=a∧d=b)∨(2≤i∧c=b∧d=a)∨(c=k∧d=w))↔((1≤i+1∧c=a∧d=b)∨(2≤i+1∧c=b∧d=a)):=by
  refine ⟨_,_,⟨rfl,rfl⟩,fun c d=>?_⟩
  by_cases e:i=0
  ·rw [if_pos e,if_pos e];subst e;simp
  ·have:i=1:=by omega
   subst this;simp
 refine zyz (kk:=.i64) (e:=49) (e2:=3) (n:=2) (m:=2) (z:=2) (cs:=#[.int .i64 a,.int .i64 b,.int .i64 b,.int .i64 a]) (j:=i) [.int .i64 k,.int .i64 w] (by kernel_rfl) (by kernel_rfl) (by kernel_rfl) (by kernel_rfl) (by kernel_rfl) hi2 ?_ rfl ?_
 ·obtain ⟨rfl,rfl⟩:=hkw
  by_cases e:i=0
  ·rw [if_pos e,if_pos e];subst e;rfl
  ·have:i=1:=by omega
   subst this;rfl
 simp only [cns]
 refine ⟨fun vs K'=>vs=[]∧∃(es':Array MapEntry) (cl':Nat) (N':List (Int×GN)),Held S K' (grB gr es' cl'++grI N')∧GrOk es' cl' N'∧(∀c d,relN N' c d↔relN N1 c d)∧∃(j:Nat) (x:Int×GN),N'[j]?=some x∧x.1=k,?_,?_⟩
 ·rintro vs K2 _ ⟨rfl,es2,cl2,N2,h2,hg2,hr2,j,x,hx,hxk⟩
  have hn2:=zm5 hg2
  have hget:=zfw hn2 hx
  rw [hxk] at hget
  have hb2:K2 gr=some (.map es2 cl2):=h2.blk (zms)
  refine z56 (α:=Int) (m:=outM N2) (v:=.map (some gr)) k (.map none) z9h kIntK (by kernel_rfl) (by kernel_rfl) (by kernel_rfl) ⟨gr,es2,cl2,rfl,hb2,hg2.outer⟩ (by rw [hget];rfl) z01 ?_
  rw [hget]
  simp only [Option.getD_some,List.cons_append,List.nil_append]
  have h3:=h2.pick (show (grI N2)[j]?=some (.blk x.2.ref (.map x.2.es x.2.cl)) by rw [grI,List.getElem?_map,hx];rfl)
  refine z5k (α:=Int) (m:=encS x.2.s) (r:=x.2.ref) (es:=x.2.es) (clock:=x.2.cl) w (.int .i64 1) zbp kIntK (by kernel_rfl) (by kernel_rfl) (by kernel_rfl) (h3.blk (zms)) (hg2.inner j x hx) fun es3 cl3 he3=>?_
  rw [zkk] at he3
  have h4:=(h3.put (.map es3 cl3)).unpick (by rw [grI,List.length_map];exact (List.getElem?_eq_some_iff.1 hx).1)
  rw [Z5g (s:=addS x.2.s w) hx] at h4
  have hjl:=(List.getElem?_eq_some_iff.1 hx).1
  refine ⟨_,z00,n - 1,by omega,i+1,es2,cl2,_,?_,by omega,h4,⟨by rw [Z31 hx];exact hg2.outer,fun t y hy=>?_⟩,fun c d=>?_⟩
  ·simp only [evs,evb];rw [w64 (by omega) (by omega)];rfl
  ·rw [List.getElem?_set] at hy
   by_cases e:j=t
   ·rw [if_pos e,if_pos hjl] at hy;cases hy;exact he3
   ·rw [if_neg e] at hy;exact hg2.inner t y hy
  ·rw [Z3o (k:=w) hn2 hx (fun y=>zk6 _ _ _),hr2,hr1,hxk,or_assoc,←hstep]
   simp only [or_assoc]
 ·have hb1:K1 gr=some (.map es1 cl1):=h1.blk (zms)
  have hn1:=zm5 hg1
  by_cases hin:∃x∈N1,x.1=k
  ·obtain ⟨x,hx,hxk⟩:=hin
   obtain ⟨j,hj⟩:=List.getElem?_of_mem hx
   have hget:=zfw hn1 hj
   rw [hxk] at hget
   refine z56 (α:=Int) (m:=outM N1) (v:=.map (some gr)) k (.map none) z9h kIntK (by kernel_rfl) (by kernel_rfl) (by kernel_rfl) ⟨gr,es1,cl1,rfl,hb1,hg1.outer⟩ (by rw [hget];rfl) z01 ?_
   rw [hget]
   simp only [Option.getD_some,List.cons_append,List.nil_append]
   refine ⟨fun g2=>?_,fun g2=>?_⟩
   ·simp [evV,ev0,ev,z5e,bOf] at g2
   ·exact ⟨_,z00,rfl,es1,cl1,N1,h1,hg1,fun c d=>Iff.rfl,j,x,hj,hxk⟩
  ·have hno:∀x∈N1,x.1≠k:=fun x hx e=>hin ⟨x,hx,e⟩
   have hget:=zln hno
   refine z56 (α:=Int) (m:=outM N1) (v:=.map (some gr)) k (.map none) z9h kIntK (by kernel_rfl) (by kernel_rfl) (by kernel_rfl) ⟨gr,es1,cl1,rfl,hb1,hg1.outer⟩ (by rw [hget];rfl) z01 ?_
   rw [hget]
   simp only [Option.getD_none,List.cons_append,List.nil_append]
   refine ⟨fun g2=>?_,fun g2=>?_⟩
   ·refine z8g fun r hr=>?_
    have h2:=h1.new hr (.map #[] 0)
    simp only [cns]
    refine z5k (α:=Int) (m:=outM N1) (r:=gr) (es:=es1) (clock:=cl1) k (.map (some r)) z9h kIntK (by kernel_rfl) (by kernel_rfl) (by kernel_rfl) (h2.blk (zmm _ (zms))) hg1.outer fun es3 cl3 he3=>?_
    have hput:putM (outM N1) k (.map (some r))=outM (N1++[(k,⟨r,#[],0,[]⟩)]):=by
     unfold putM
     rw [hget,if_neg (by simp),outM,outM,List.map_append];rfl
    rw [hput] at he3
    have h3:=((h2.perm (List.Perm.swap _ _ _)).put (.map es3 cl3))
    have h3':Held S _ (grB gr es3 cl3++grI (N1++[(k,⟨r,#[],0,[]⟩)])):=h3.perm (by
     have e:grI (N1++[(k,⟨r,#[],0,[]⟩)])=grI N1++[Itm.blk r (.map #[] 0)]:=by rw [grI,grI,List.map_append];rfl
     rw [e]
     exact List.Perm.cons _ (List.perm_append_comm (l₁:=[Itm.blk r (.map #[] 0)]) (l₂:=grI N1)))
    refine ⟨_,z00,rfl,es3,cl3,_,h3',⟨he3,fun t y hy=>?_⟩,fun c d=>?_,N1.length,(k,⟨r,#[],0,[]⟩),by simp,rfl⟩
    ·by_cases ht:t < N1.length
     ·rw [List.getElem?_append_left ht] at hy;exact hg1.inner t y hy
     ·rw [List.getElem?_append_right (by omega)] at hy
      have:y=(k,⟨r,#[],0,[]⟩):=by
       cases hd:t - N1.length with
       | zero=>rw [hd] at hy;simp at hy;exact hy.symm
       | succ m=>rw [hd] at hy;simp at hy
      subst this;exact zh2
    ·unfold relN
     constructor
     ·rintro ⟨y,hy,h4,h5⟩
      rcases List.mem_append.1 hy with hy | hy
      ·exact ⟨y,hy,h4,h5⟩
      ·rw [List.mem_singleton.1 hy] at h5;cases h5
     ·rintro ⟨y,hy,h4,h5⟩
      exact ⟨y,List.mem_append_left _ hy,h4,h5⟩
   ·simp [evV,ev0,ev,z5e,bOf] at g2
theorem zw0 (l:List Int) (n:Int) (v:Value) (H:PH) (hl:SlR H l v) (hll:l.length≤40000000):∃i:Int,Gives Tryz.prog zdn [v,.int .i64 n] H (.int .i64 i)∧(i ≥ 0↔n∈l):=by
 by_cases hn:n∈l
 ·obtain ⟨j,hj,hfirst⟩:∃j:Nat,l[j]?=some n∧∀t:Nat,t < j→l[t]?≠some n:=by
   obtain ⟨t,ht⟩:=List.getElem?_of_mem hn
   have key:∀t:Nat,l[t]?=some n→∃j:Nat,l[j]?=some n∧∀s:Nat,s < j→l[s]?≠some n:=by
    intro t
    induction t using Nat.strongRecOn with
    | ind t ih=>
     intro ht
     by_cases h:∃s:Nat,s < t∧l[s]?=some n
     ·obtain ⟨s,hs,hsn⟩:=h;exact ih s hs hsn
     ·exact ⟨t,ht,fun s hs hsn=>h ⟨s,hs,hsn⟩⟩
   exact key t ht
  refine ⟨(j:Int),?_,⟨fun _=>hn,fun _=>by omega⟩⟩
  obtain ⟨b1,c1,rfl⟩:=hl.sl
  refine z4v [.slice b1 l.length c1,.int .i64 n] (by kernel_rfl) (by kernel_rfl) ?_
  have hjl:=(List.getElem?_eq_some_iff.1 hj).1
  refine ⟨fun m vs K=>∃(z:Int) (k:Nat),vs=[.int .i64 z,nI k]∧k+m=l.length∧k≤j∧K=H,⟨l.length,0,0,rfl,by omega,by omega,rfl⟩,?_⟩
  rintro m vs K _ ⟨z,k,rfl,hkm,hkj,rfl⟩
  refine ⟨fun g=>?_,fun g=>?_⟩
  ·simp only [evs,evb,zdt] at g
   obtain ⟨a,ha⟩:∃a,l[k]?=some a:=⟨_,zge (by omega)⟩
   obtain ⟨r1,_,rcs,r2,r3⟩:=hl.get ha
   obtain ⟨rfl,_⟩:=csIK r2
   refine ⟨fun _=>?_,[.int .i64 a],rfl,?_,fun g2=>?_,fun g2=>?_⟩
   ·simp only [Chk.holds,evs,evb];exact ⟨r1,by omega,by omega⟩
   ·simp only [evs,evb];exact r3
   ·simp only [evs,evb] at g2
    have hna:n=a:=by simpa using g2
    subst hna
    have:k=j:=by
     rcases Nat.lt_or_ge k j with h | h
     ·exact absurd ha (hfirst k h)
     ·omega
    subst this
    exact ⟨rfl,PH.le_refl _⟩
   ·simp only [evs,evb] at g2
    have hna:n≠a:=by simpa using g2
    refine ⟨_,z00,m - 1,by omega,z,k+1,?_,by omega,?_,rfl⟩
    ·simp only [evs,evb];rw [w64 (by omega) (by omega)];rfl
    ·rcases Nat.lt_or_ge k j with h | h
     ·omega
     ·have:k=j:=by omega
      subst this
      rw [hj] at ha;cases ha;exact absurd rfl hna
  ·simp only [evs,evb,zdf] at g
   omega
 ·refine ⟨-1,?_,⟨fun h=>by omega,fun h=>absurd h hn⟩⟩
  obtain ⟨b1,c1,rfl⟩:=hl.sl
  refine z4v [.slice b1 l.length c1,.int .i64 n] (by kernel_rfl) (by kernel_rfl) ?_
  refine ⟨fun m vs K=>∃(z:Int) (k:Nat),vs=[.int .i64 z,nI k]∧k+m=l.length∧K=H,⟨l.length,0,0,rfl,by omega,rfl⟩,?_⟩
  rintro m vs K _ ⟨z,k,rfl,hkm,rfl⟩
  refine ⟨fun g=>?_,fun g=>⟨rfl,PH.le_refl _⟩⟩
  simp only [evs,evb,zdt] at g
  obtain ⟨a,ha⟩:∃a,l[k]?=some a:=⟨_,zge (by omega)⟩
  obtain ⟨r1,_,rcs,r2,r3⟩:=hl.get ha
  obtain ⟨rfl,_⟩:=csIK r2
  refine ⟨fun _=>?_,[.int .i64 a],rfl,?_,fun g2=>?_,fun g2=>?_⟩
  ·simp only [Chk.holds,evs,evb];exact ⟨r1,by omega,by omega⟩
  ·simp only [evs,evb];exact r3
  ·simp only [evs,evb] at g2
   have hna:n=a:=by simpa using g2
   exact absurd (hna ▸ List.mem_of_getElem? ha) hn
  ·refine ⟨_,z00,m - 1,by omega,z,k+1,?_,by omega,rfl⟩
   simp only [evs,evb];rw [w64 (by omega) (by omega)];rfl
theorem zrn (l:List Int) (n:Int) (v:Value) (H:PH) (hl:SlR H l v) (hll:l.length≤40000000):Gives Tryz.prog zb6 [v,.int .i64 n] H (.bool (decide (n∈l))):=by
 obtain ⟨i,h1,h2⟩:=zw0 l n v H hl hll
 obtain ⟨b1,c1,rfl⟩:=hl.sl
 refine z9v [.slice b1 l.length c1,.int .i64 n] (by kernel_rfl) (by kernel_rfl) ?_
 refine z05 [.int .i64 i] zd2 h1 rfl z01 fun K1 l1=>⟨?_,l1⟩
 simp only [evs,evb]
 congr 2
 by_cases h:n∈l
 ·rw [decide_eq_true h,decide_eq_true (h2.2 h)]
 ·rw [decide_eq_false h,decide_eq_false (fun hh=>h (h2.1 hh))]
theorem zok {N N':List (Int×GN)} {a b:Int} {Q Q':Int→Int→Prop} (h:∀c d,relN N' c d↔relN N c d∨(a≠b∧((c=a∧d=b)∨(c=b∧d=a)))) (hq:∀c d,relN N c d↔c≠d∧Q c d) (hq':∀c d,Q' c d↔Q c d∨(c=a∧d=b)∨(c=b∧d=a)) (c d:Int):relN N' c d↔c≠d∧Q' c d:=by
 rw [h,hq,hq']
 constructor
 ·rintro (⟨h1,h2⟩ | ⟨h1,h2 | h2⟩)
  ·exact ⟨h1,.inl h2⟩
  ·exact ⟨by rw [h2.1,h2.2];exact h1,.inr (.inl h2)⟩
  ·exact ⟨by rw [h2.1,h2.2];exact Ne.symm h1,.inr (.inr h2)⟩
 ·rintro ⟨h1,h2 | h2 | h2⟩
  ·exact .inl ⟨h1,h2⟩
  ·exact .inr ⟨by rw [←h2.1,←h2.2];exact h1,.inl h2⟩
  ·exact .inr ⟨by rw [←h2.1,←h2.2];exact Ne.symm h1,.inr h2⟩
def symL (t:Int) (l:List Int) (c d:Int):Prop:=(c=t∧d∈l)∨(d=t∧c∈l)
theorem zs3 {t r:Int} {l:List Int} {j:Nat} (h:l[j]?=some r) (c d:Int):symL t (l.take (j+1)) c d↔symL t (l.take j) c d∨(c=t∧d=r)∨(c=r∧d=t):=by
 unfold symL
 rw [List.take_add_one,h]
 simp only [Option.toList_some,List.mem_append,List.mem_singleton]
 constructor
 ·rintro (⟨h1,h2 | h2⟩ | ⟨h1,h2 | h2⟩)
  ·exact .inl (.inl ⟨h1,h2⟩)
  ·exact .inr (.inl ⟨h1,h2⟩)
  ·exact .inl (.inr ⟨h1,h2⟩)
  ·exact .inr (.inr ⟨h2,h1⟩)
 ·rintro ((⟨h1,h2⟩ | ⟨h1,h2⟩) | ⟨h1,h2⟩ | ⟨h1,h2⟩)
  ·exact .inl ⟨h1,.inl h2⟩
  ·exact .inr ⟨h1,.inl h2⟩
  ·exact .inl ⟨h1,.inr h2⟩
  ·exact .inr ⟨h2,.inr h1⟩
noncomputable def selL (x:InsX) (l:List Int):List Int:=if x.op=moveB then lessL l x.args else l
theorem zrw {x:InsX} {l:List Int} {j:Nat} {r:Int} (h:l[j]?=some r):selL x (l.take (j+1))=selL x (l.take j)++if x.op=moveB∧r∈x.args then [] else [r]:=by
 unfold selL lessL
 rw [List.take_add_one,h]
 by_cases hm:x.op=moveB
 ·rw [if_pos hm,if_pos hm]
  simp only [Option.toList_some,List.filter_append]
  congr 1
  by_cases hr:r∈x.args
  ·rw [if_pos ⟨hm,hr⟩];simp [List.filter_cons,hr]
  ·rw [if_neg (fun hh=>hr hh.2)];simp [List.filter_cons,hr]
 ·rw [if_neg hm,if_neg hm,if_neg (fun hh=>hm hh.1)];rfl
set_option maxHeartbeats 4000000 in
theorem zsd (p:PrcX) (bv:Value) (S:PH) (hbv:SlR S p.blocks bv) (hw:p.Fit∧∀b∈p.blocks,b.e.args.length≤20000000) (hmay:mayP p=true) :
  Tri Tryz.prog zti #[.agg (prcVs p bv).toArray] S fun x S'=>∃S1 gr es cl N,PH.le S S1∧x=.returned (.map (some gr))∧Held S1 S' (grB gr es cl++grI N)∧GrOk es cl N∧∀a b,relN N a b↔a≠b∧MeetP p a b:=by
 obtain ⟨hp,hE⟩:=hw
 have hN:=hp.n
 obtain ⟨hr0,hr1,_,_,hne⟩:=zor hmay
 have hb0:0 < p.blocks.length:=List.length_pos_iff.2 hne
 obtain ⟨b0,c0,rfl⟩:=hbv.sl
 refine zqq (prcVs p (.slice b0 p.blocks.length c0)) (by kernel_rfl) (by kernel_rfl) ?_
 simp only [prcVs]
 refine z8g fun gr hgr=>?_
 have h1:=(Held.nil (PH.le_refl S)).new hgr (.map #[] 0)
 refine z02 zzk (h1.pure (R:=fun x S'=>∃v,x=.returned v∧SlR S' (inL p) v) (Z4x p (.slice b0 p.blocks.length c0) S hbv hp hE)) ?_
 rintro x K2 ⟨S2,l2,h2,iv,rfl,hiv⟩
 obtain ⟨b2,c2,rfl⟩:∃b c,iv=.slice b p.blocks.length c:=by rw [←Z55 p];exact hiv.sl
 refine ⟨_,[.slice b2 p.blocks.length c2],rfl,rfl,rfl,z01,?_⟩
 simp only [cns]
 obtain ⟨a1,_,acs,a2,a3⟩:=hiv.get (Z4y (p:=p) (i:=0) hb0)
 obtain ⟨av,rfl,a4⟩:=csLK a2
 obtain ⟨ab,ac,rfl⟩:=a4.sl
 have hlen0:=zh0 hp 0 0
 have ham:=a4.max
 have g0:∀{K:PH},PH.le S2 K→rowAt K (pOf (eltV (.slice b2 p.blocks.length c2) 0 1)) [.slice ab (liveL p 0 0).length ac]:=fun h=>z06 h a3
 refine ⟨fun _=>?_,[.slice ab (liveL p 0 0).length ac],rfl,?_,?_⟩
 ·simp only [Chk.holds,evs,evb];exact ⟨a1,by omega,by omega⟩
 ·simp only [evs,evb];exact g0 h2.sh
 simp only [cns]
 refine ⟨fun n vs K=>∃(i:Nat) (es:Array MapEntry) (cl:Nat) (N:List (Int×GN)),vs=[nI i]∧i+n=(liveL p 0 0).length∧Held S2 K (grB gr es cl++grI N)∧GrOk es cl N∧∀c d,relN N c d↔c≠d∧(c∈(liveL p 0 0).take i∧d∈(liveL p 0 0).take i),
  ⟨(liveL p 0 0).length,0,#[],0,[],rfl,by omega,h2,⟨EntsR.empty,fun j x h=>by simp at h⟩,fun c d=>by simp [relN]⟩,?_⟩
 rintro n vs K3 _ ⟨i,es3,cl3,N3,rfl,hin,h3,ok3,r3⟩
 simp only [cns]
 refine ⟨fun g=>?_,fun g=>?_⟩
 ·simp only [evs,evb,zdt] at g
  obtain ⟨x,hx⟩:∃x,(liveL p 0 0)[i]?=some x:=⟨_,zge (show i < (liveL p 0 0).length by omega)⟩
  obtain ⟨x1,_,xcs,x2,x3⟩:=(a4.le h3.sh).get hx
  obtain ⟨rfl,_⟩:=csIK x2
  have hcut:=a4.cut (Nat.zero_le i) (show i≤(liveL p 0 0).length by omega)
  rw [List.drop_zero] at hcut
  have hctl:((liveL p 0 0).take i).length=i:=by rw [List.length_take];omega
  refine ⟨fun _=>?_,[.int .i64 x],rfl,?_,[.slice ab (liveL p 0 0).length ac],rfl,?_,fun _=>?_,?_⟩
  ·simp only [Chk.holds,evs,evb];exact ⟨x1,by omega,by omega⟩
  ·simp only [evs,evb];exact x3
  ·simp only [evs,evb];exact g0 h3.sh
  ·have hcap:=(SlR.mk_iff.1 a4)
   have:(liveL p 0 0).length≤ac:=by
    rcases hcap.2 with ⟨h,h'⟩ | ⟨ad,c,h,h',_⟩
    ·rw [h'] at hx;simp at hx
    ·cases h;exact h'
   simp only [Chk.holds,evs,evb,slCap];omega
  simp only [cns]
  refine ⟨fun n vs K=>∃(j:Nat) (es:Array MapEntry) (cl:Nat) (N:List (Int×GN)),vs=[nI j]∧j+n=i∧Held S2 K (grB gr es cl++grI N)∧GrOk es cl N∧∀c d,relN N c d↔c≠d∧((c∈(liveL p 0 0).take i∧d∈(liveL p 0 0).take i)∨symL x ((liveL p 0 0).take j) c d),
   ⟨i,0,es3,cl3,N3,rfl,by omega,h3,ok3,fun c d=>by rw [r3];simp [symL]⟩,?_⟩
  rintro n4 vs K4 _ ⟨j,es4,cl4,N4,rfl,hjn,h4,ok4,r4⟩
  simp only [cns]
  refine ⟨fun g4=>?_,fun g4=>?_⟩
  ·have hji:j < i:=by
    simp only [evs,evb,slsV,zdt] at g4
    omega
   obtain ⟨y,hy⟩:∃y,(liveL p 0 0)[j]?=some y:=⟨_,zge (show j < (liveL p 0 0).length by omega)⟩
   have hy2:((liveL p 0 0).take i)[j]?=some y:=by rw [List.getElem?_take,if_pos hji];exact hy
   obtain ⟨y1,_,ycs,y2,y3⟩:=(hcut.le h4.sh).get hy2
   obtain ⟨rfl,_⟩:=csIK y2
   refine ⟨fun _=>?_,[.int .i64 y],rfl,?_,?_⟩
   ·simp only [Chk.holds,evs,evb]
    refine ⟨y1,by omega,?_⟩
    simp only [slsV,slLen];omega
   ·simp only [evs,evb];exact y3
   refine z02 z31 (zoi gr es4 cl4 N4 x y S2 K4 h4 ok4) ?_
   rintro e K5 ⟨es5,cl5,N5,rfl,h5,ok5,r5⟩
   refine ⟨_,[],rfl,rfl,rfl,z01,_,z00,n4 - 1,by omega,j+1,es5,cl5,N5,?_,by omega,h5,ok5,zok r5 r4 fun c d=>?_⟩
   ·simp only [evs,evb];rw [w64 (by omega) (by omega)];rfl
   ·rw [zs3 hy,or_assoc]
  ·have hji:j=i:=by
    simp only [evs,evb,slsV,zdf] at g4
    omega
   subst hji
   refine ⟨_,z0s rfl z00,n - 1,by omega,j+1,es4,cl4,N4,?_,by omega,h4,ok4,fun c d=>?_⟩
   ·simp only [evs,evb];rw [w64 (by omega) (by omega)];rfl
   ·rw [r4,List.take_add_one,hx]
    simp only [Option.toList_some,List.mem_append,List.mem_singleton,symL]
    constructor
    ·rintro ⟨h1,⟨h2,h3⟩ | ⟨h2,h3⟩ | ⟨h2,h3⟩⟩
     ·exact ⟨h1,.inl h2,.inl h3⟩
     ·exact ⟨h1,.inr h2,.inl h3⟩
     ·exact ⟨h1,.inl h3,.inr h2⟩
    ·rintro ⟨h1,h2 | h2,h3 | h3⟩
     ·exact ⟨h1,.inl ⟨h2,h3⟩⟩
     ·exact ⟨h1,.inr (.inr ⟨h3,h2⟩)⟩
     ·exact ⟨h1,.inr (.inl ⟨h2,h3⟩)⟩
     ·exact absurd (h2.trans h3.symm) h1
 simp only [evs,evb,zdf] at g
 rw [List.take_of_length_le (by omega)] at r3
 have hbv2:=hbv.le l2
 refine ⟨fun n vs K=>∃(k:Nat) (es:Array MapEntry) (cl:Nat) (N:List (Int×GN)) (S':PH),vs=[nI k]∧k+n=p.blocks.length∧PH.le S2 S'∧Held S' K (grB gr es cl++grI N)∧GrOk es cl N∧∀c d,relN N c d↔c≠d∧((c∈liveL p 0 0∧d∈liveL p 0 0)∨∃f∈z3b p k,f.sym c d),
  ⟨p.blocks.length,0,es3,cl3,N3,S2,rfl,by omega,PH.le_refl _,h3,ok3,fun c d=>by rw [r3];simp [z3b]⟩,?_⟩
 rintro n5 vs K5 _ ⟨k,es5,cl5,N5,S5,rfl,hkn,le5,h5,ok5,r5⟩
 simp only [cns]
 refine ⟨fun g5=>?_,fun g5=>?_⟩
 rotate_left
 ·simp only [evs,evb,zdf] at g5
  have:k=p.blocks.length:=by omega
  subst this
  exact ⟨S5,gr,es5,cl5,N5,PH.le_trans l2 le5,rfl,h5,ok5,r5⟩
 simp only [evs,evb,zdt] at g5
 have hk:k < p.blocks.length:=by omega
 obtain ⟨b,hb⟩:∃b,p.blocks[k]?=some b:=⟨_,zge hk⟩
 have hbl:=hp.ins b (List.mem_of_getElem? hb)
 obtain ⟨q1,_,ces,q2,q3⟩:=(hbv2.le le5).get hb
 obtain ⟨iv,es,rfl,his,hes⟩:=blk_iff.1 q2
 obtain ⟨ev,rfl,e1,e2,hea,e3,e4,e5⟩:=end_iff.1 hes
 obtain ⟨bi,ci,rfl⟩:=his.sl
 obtain ⟨be,ce,rfl⟩:=hea.sl
 have hbe:z8x p (k:Int)=behL p k b:=by
  unfold z8x
  rw [if_neg (by omega),Int.toNat_natCast,hb]
 refine ⟨fun vs K'=>vs=[]∧∃(es:Array MapEntry) (cl:Nat) (N:List (Int×GN)) (S':PH),PH.le S5 S'∧Held S' K' (grB gr es cl++grI N)∧GrOk es cl N∧∀c d,relN N c d↔c≠d∧((c∈liveL p 0 0∧d∈liveL p 0 0)∨∃f∈z3b p (k+1),f.sym c d),?_,fun _=>?_,[.slice bi b.ins.length ci,.int .i64 b.e.kind,.int .i64 b.e.reg,.slice be b.e.args.length ce,.int .i64 b.e.to,.int .i64 b.e.next,.int .i64 b.e.els],rfl,?_,?_⟩
 ·rintro vs K' _ ⟨rfl,es',cl',N',S',l',h',ok',r'⟩
  refine ⟨_,z00,n5 - 1,by omega,k+1,es',cl',N',S',?_,by omega,PH.le_trans le5 l',h',ok',r'⟩
  simp only [evs,evb];rw [w64 (by omega) (by omega)];rfl
 ·simp only [Chk.holds,evs,evb];exact ⟨q1,by omega,by omega⟩
 ·simp only [evs,evb];exact z06 h5.sh q3
 simp only [cns]
 refine z02 zrt (h5.pure (R:=fun x S'=>∃v,x=.returned v∧SlR S' (z8x p (k:Int)) v) (zx1 p (.slice b0 p.blocks.length c0) (k:Int) S5 (hbv2.le le5) hp hE)) ?_
 rintro x K6 ⟨S6,l6,h6,wv,rfl,hwv⟩
 rw [hbe] at hwv
 obtain ⟨b6,c6,rfl⟩:∃b' c,wv=.slice b' b.ins.length c:=by rw [←Z2v p k b];exact hwv.sl
 refine ⟨_,[.slice b6 b.ins.length c6],rfl,rfl,rfl,z01,?_⟩
 simp only [cns]
 refine ⟨fun n vs K=>∃(i:Nat) (es:Array MapEntry) (cl:Nat) (N:List (Int×GN)),vs=[nI i]∧i+n=b.ins.length∧Held S6 K (grB gr es cl++grI N)∧GrOk es cl N∧∀c d,relN N c d↔c≠d∧(((c∈liveL p 0 0∧d∈liveL p 0 0)∨∃f∈z3b p k,f.sym c d)∨∃f∈z2j p k b i,f.sym c d),
  ⟨b.ins.length,0,es5,cl5,N5,rfl,by omega,h6,ok5,fun c d=>by rw [r5];simp [z2j]⟩,?_⟩
 rintro n7 vs K7 _ ⟨i,es7,cl7,N7,rfl,hin7,h7,ok7,r7⟩
 simp only [cns]
 refine ⟨fun g7=>?_,fun g7=>?_⟩
 ·simp only [evs,evb,zdt] at g7
  have hib:i < b.ins.length:=by omega
  obtain ⟨x,hx⟩:∃x,b.ins[i]?=some x:=⟨_,zge hib⟩
  obtain ⟨z1,_,zcs,z2,z3⟩:=(hwv.le h7.sh).get (zuc (p:=p) (i:=k) hib)
  obtain ⟨zv,rfl,z4⟩:=csLK z2
  obtain ⟨zb,zc,rfl⟩:=z4.sl
  have hl2:=zh0 hp k (i+1)
  have hisK:=(his.le l6).le h7.sh
  obtain ⟨y1,_,ycs,y2,y3⟩:=hisK.get hx
  obtain ⟨arv,dv,rfl,_,x2,hya,_,_,_,hyd,_⟩:=ins_iff.1 y2
  obtain ⟨rb,rc,rfl⟩:=hya.sl
  obtain ⟨db,dc,rfl⟩:=hyd.sl
  have hargs:x.args.length≤40000000:=by
   have h1:=zvj hb
   have h2:=congrArg List.length (z9t InsX.args hx)
   have h3:=zag InsX.args b.ins (i+1)
   have h4:=hp.regs
   have h5:b.regs.length=(b.ins.flatMap InsX.args).length+b.e.regs.length:=by unfold BlkX.regs;rw [zla]
   rw [zla] at h2
   omega
  refine ⟨fun vs K'=>vs=[]∧∃(es:Array MapEntry) (cl:Nat) (N:List (Int×GN)),Held S6 K' (grB gr es cl++grI N)∧GrOk es cl N∧∀c d,relN N c d↔c≠d∧(((c∈liveL p 0 0∧d∈liveL p 0 0)∨∃f∈z3b p k,f.sym c d)∨∃f∈z2j p k b (i+1),f.sym c d),?_,fun _=>?_,[.slice zb (liveL p k (i+1)).length zc],rfl,?_,fun _=>?_,[txt x.op,.int .i64 x.to,.slice rb x.args.length rc,.int .i64 x.const.kind,.int .i64 x.const.int,txt x.const.text,.slice db x.const.list.length dc,.int .i64 x.num],rfl,?_,fun g8=>?_,fun g8=>?_⟩
  ·rintro vs K' _ ⟨rfl,es',cl',N',h',ok',r'⟩
   refine ⟨_,z00,n7 - 1,by omega,i+1,es',cl',N',?_,by omega,h',ok',r'⟩
   simp only [evs,evb];rw [w64 (by omega) (by omega)];rfl
  ·simp only [Chk.holds,evs,evb];exact ⟨z1,by omega,by omega⟩
  ·simp only [evs,evb];exact z3
  ·simp only [Chk.holds,evs,evb];exact ⟨y1,by omega,by omega⟩
  ·simp only [evs,evb];exact y3
  ·simp only [evs,evb,zxq] at g8
   have hop:x.op=tieB:=by simpa using g8
   exact ⟨_,z00,rfl,es7,cl7,N7,h7,ok7,fun c d=>by rw [z5d hx,zb5,if_pos hop,List.append_nil];exact r7 c d⟩
  simp only [evs,evb,zxq] at g8
  have hop:x.op≠tieB:=by simpa using g8
  simp only [cns]
  refine ⟨fun n vs K=>∃(j:Nat) (es:Array MapEntry) (cl:Nat) (N:List (Int×GN)),vs=[nI j]∧j+n=(liveL p k (i+1)).length∧PH.le K7 K7∧Held S6 K (grB gr es cl++grI N)∧GrOk es cl N∧∀c d,relN N c d↔c≠d∧((((c∈liveL p 0 0∧d∈liveL p 0 0)∨∃f∈z3b p k,f.sym c d)∨∃f∈z2j p k b i,f.sym c d)∨symL x.to (selL x ((liveL p k (i+1)).take j)) c d),
   ⟨(liveL p k (i+1)).length,0,es7,cl7,N7,rfl,by omega,PH.le_refl _,h7,ok7,fun c d=>by rw [r7];simp [symL,selL,lessL]⟩,?_⟩
  rintro n8 vs K8 _ ⟨j,es8,cl8,N8,rfl,hjn,_,h8,ok8,r8⟩
  simp only [cns]
  obtain ⟨zz1,_,zzcs,zz2,zz3⟩:=hwv.get (zuc (p:=p) (i:=k) hib)
  obtain ⟨zzv,rfl,zz4⟩:=csLK zz2
  obtain ⟨zzb,zzc,rfl⟩:=zz4.sl
  have hsame:(Value.slice zzb (liveL p k (i+1)).length zzc)=.slice zb (liveL p k (i+1)).length zc:=by
   obtain ⟨ad1,e1,f1⟩:=z3
   obtain ⟨ad2,e2,f2⟩:=z06 h7.sh zz3
   rw [e1] at e2;cases e2
   have h1:=f1 0 _ rfl
   have h2:=f2 0 _ rfl
   rw [h1] at h2;exact (Option.some.inj h2).symm
  rw [hsame] at zz4
  refine ⟨fun g9=>?_,fun g9=>?_⟩
  ·simp only [evs,evb,zdt] at g9
   obtain ⟨r,hr⟩:∃r,(liveL p k (i+1))[j]?=some r:=⟨_,zge (show j < (liveL p k (i+1)).length by omega)⟩
   obtain ⟨w1,_,wcs,w2,w3⟩:=(zz4.le h8.sh).get hr
   obtain ⟨rfl,_⟩:=csIK w2
   have hyaK:SlR K8 x.args (.slice rb x.args.length rc):=by
    obtain ⟨u1,_,ucs,u2,u3⟩:=(his.le l6).get hx
    obtain ⟨arv2,dv2,rfl,_,_,hya2,_⟩:=ins_iff.1 u2
    obtain ⟨rb2,rc2,rfl⟩:=hya2.sl
    have hs2:(Value.slice rb2 x.args.length rc2)=.slice rb x.args.length rc:=by
     obtain ⟨ad1,e1,f1⟩:=y3
     obtain ⟨ad2,e2,f2⟩:=z06 h7.sh u3
     rw [e1] at e2;cases e2
     have h1:=f1 2 _ rfl
     have h2:=f2 2 _ rfl
     rw [h1] at h2;exact (Option.some.inj h2).symm
    rw [hs2] at hya2
    exact hya2.le h8.sh
   refine ⟨fun vs K'=>vs=[]∧∃(es:Array MapEntry) (cl:Nat) (N:List (Int×GN)),Held S6 K' (grB gr es cl++grI N)∧GrOk es cl N∧∀c d,relN N c d↔c≠d∧((((c∈liveL p 0 0∧d∈liveL p 0 0)∨∃f∈z3b p k,f.sym c d)∨∃f∈z2j p k b i,f.sym c d)∨symL x.to (selL x ((liveL p k (i+1)).take (j+1))) c d),?_,fun _=>?_,[.int .i64 r],rfl,?_,?_⟩
   ·rintro vs K' _ ⟨rfl,es',cl',N',h',ok',r'⟩
    refine ⟨_,z00,n8 - 1,by omega,j+1,es',cl',N',?_,by omega,PH.le_refl _,h',ok',r'⟩
    simp only [evs,evb];rw [w64 (by omega) (by omega)];rfl
   ·simp only [Chk.holds,evs,evb];exact ⟨w1,by omega,by omega⟩
   ·simp only [evs,evb];exact w3
   simp only [cns]
   refine ⟨fun vs K'=>vs=[.bool (!decide (x.op=moveB∧r∈x.args))]∧Held S6 K' (grB gr es8 cl8++grI N8),?_,fun g10=>?_,fun g10=>?_⟩
   ·rintro vs K9 _ ⟨rfl,h9⟩
    refine ⟨fun g11=>?_,fun g11=>?_⟩
    ·simp only [evs,evb] at g11
     have hsel:¬(x.op=moveB∧r∈x.args):=fun hh=>by rw [decide_eq_true hh] at g11;cases g11
     refine z02 z31 (zoi gr es8 cl8 N8 x.to r S6 K9 h9 ok8) ?_
     rintro e K10 ⟨es10,cl10,N10,rfl,h10,ok10,r10⟩
     refine ⟨_,[],rfl,rfl,rfl,z01,_,z00,rfl,es10,cl10,N10,h10,ok10,zok r10 r8 fun c d=>?_⟩
     rw [zrw hr,if_neg hsel]
     unfold symL
     simp only [List.mem_append,List.mem_singleton]
     constructor
     ·rintro (h | ⟨h1,h2 | h2⟩ | ⟨h1,h2 | h2⟩)
      ·exact .inl (.inl h)
      ·exact .inl (.inr (.inl ⟨h1,h2⟩))
      ·exact .inr (.inl ⟨h1,h2⟩)
      ·exact .inl (.inr (.inr ⟨h1,h2⟩))
      ·exact .inr (.inr ⟨h2,h1⟩)
     ·rintro ((h | ⟨h1,h2⟩ | ⟨h1,h2⟩) | ⟨h1,h2⟩ | ⟨h1,h2⟩)
      ·exact .inl h
      ·exact .inr (.inl ⟨h1,.inl h2⟩)
      ·exact .inr (.inr ⟨h1,.inl h2⟩)
      ·exact .inr (.inl ⟨h1,.inr h2⟩)
      ·exact .inr (.inr ⟨h2,.inr h1⟩)
    ·simp only [evs,evb] at g11
     have hsel:x.op=moveB∧r∈x.args:=Decidable.byContradiction fun hh=>by rw [decide_eq_false hh] at g11;cases g11
     exact ⟨_,z00,rfl,es8,cl8,N8,h9,ok8,fun c d=>by rw [zrw hr,if_pos hsel,List.append_nil];exact r8 c d⟩
   ·simp only [evs,evb,zxw] at g10
    have hmv:x.op≠moveB:=by simpa using g10
    refine ⟨_,z00,?_,h8⟩
    simp only [evs,evb]
    rw [decide_eq_false (fun hh=>hmv hh.1)];rfl
   ·simp only [evs,evb,zxw] at g10
    have hmv:x.op=moveB:=by simpa using g10
    refine z05 [.bool (decide (r∈x.args))] zat (zrn x.args r _ K8 hyaK hargs) rfl z01 fun K9 l9=>?_
    refine ⟨_,z00,?_,h8.le l9⟩
    simp only [evs,evb]
    by_cases h:r∈x.args
    ·rw [decide_eq_true h,decide_eq_true (⟨hmv,h⟩:x.op=moveB∧r∈x.args)]
    ·rw [decide_eq_false h,decide_eq_false (fun hh=>h hh.2)]
  ·simp only [evs,evb,zdf] at g9
   rw [List.take_of_length_le (by omega)] at r8
   refine ⟨_,z0s rfl z00,rfl,es8,cl8,N8,h8,ok8,fun c d=>?_⟩
   rw [r8,z5d hx,zb5,if_neg hop]
   constructor
   ·rintro ⟨h1,(h | ⟨f,hf,hs⟩) | h⟩
    ·exact ⟨h1,.inl h⟩
    ·exact ⟨h1,.inr ⟨f,List.mem_append_left _ hf,hs⟩⟩
    ·exact ⟨h1,.inr ⟨_,List.mem_append_right _ (List.mem_singleton.2 rfl),h⟩⟩
   ·rintro ⟨h1,h | ⟨f,hf,hs⟩⟩
    ·exact ⟨h1,.inl (.inl h)⟩
    ·rcases List.mem_append.1 hf with hf | hf
     ·exact ⟨h1,.inl (.inr ⟨f,hf,hs⟩)⟩
     ·rw [List.mem_singleton.1 hf] at hs
      exact ⟨h1,.inr hs⟩
 simp only [evs,evb,zdf] at g7
 have:i=b.ins.length:=by omega
 subst this
 refine ⟨fun g8=>?_,fun g8=>?_⟩
 ·simp only [evs,evb] at g8
  have hc:b.e.calls=true:=by
   unfold EndX.calls
   simp only [Bool.or_eq_true,zdt] at g8
   exact decide_eq_true g8
  refine z02 zri (h7.pure (R:=fun x S'=>∃v,x=.returned v∧SlR S' (z1w p (k:Int)) v) (zxc p (.slice b0 p.blocks.length c0) (k:Int) S6 (hbv2.le (PH.le_trans le5 l6)) hp hE)) ?_
  rintro x K8 ⟨S8,l8,h8,av8,rfl,hav8⟩
  obtain ⟨b8,c8,rfl⟩:=hav8.sl
  have hal:=zwk hp (k:Int)
  refine ⟨_,[.slice b8 (z1w p (k:Int)).length c8],rfl,rfl,rfl,z01,?_⟩
  simp only [cns]
  refine ⟨fun n vs K=>∃(j:Nat) (es:Array MapEntry) (cl:Nat) (N:List (Int×GN)),vs=[nI j]∧j+n=(z1w p (k:Int)).length∧Held S8 K (grB gr es cl++grI N)∧GrOk es cl N∧∀c d,relN N c d↔c≠d∧((((c∈liveL p 0 0∧d∈liveL p 0 0)∨∃f∈z3b p k,f.sym c d)∨∃f∈z2j p k b b.ins.length,f.sym c d)∨symL b.e.to ((z1w p (k:Int)).take j) c d),
   ⟨(z1w p (k:Int)).length,0,es7,cl7,N7,rfl,by omega,h8,ok7,fun c d=>by rw [r7];simp [symL]⟩,?_⟩
  rintro n9 vs K9 _ ⟨j,es9,cl9,N9,rfl,hjn,h9,ok9,r9⟩
  simp only [cns]
  refine ⟨fun g9=>?_,fun g9=>?_⟩
  ·simp only [evs,evb,zdt] at g9
   obtain ⟨r,hr⟩:∃r,(z1w p (k:Int))[j]?=some r:=⟨_,zge (show j < (z1w p (k:Int)).length by omega)⟩
   obtain ⟨w1,_,wcs,w2,w3⟩:=(hav8.le h9.sh).get hr
   obtain ⟨rfl,_⟩:=csIK w2
   refine ⟨fun _=>?_,[.int .i64 r],rfl,?_,?_⟩
   ·simp only [Chk.holds,evs,evb];exact ⟨w1,by omega,by omega⟩
   ·simp only [evs,evb];exact w3
   refine z02 z31 (zoi gr es9 cl9 N9 b.e.to r S8 K9 h9 ok9) ?_
   rintro e K10 ⟨es10,cl10,N10,rfl,h10,ok10,r10⟩
   refine ⟨_,[],rfl,rfl,rfl,z01,_,z00,n9 - 1,by omega,j+1,es10,cl10,N10,?_,by omega,h10,ok10,zok r10 r9 fun c d=>?_⟩
   ·simp only [evs,evb];rw [w64 (by omega) (by omega)];rfl
   ·rw [zs3 hr];simp only [or_assoc]
  ·simp only [evs,evb,zdf] at g9
   rw [List.take_of_length_le (by omega)] at r9
   refine ⟨_,z0s rfl (z0s rfl z00),rfl,es9,cl9,N9,S8,PH.le_trans l6 l8,h9,ok9,fun c d=>?_⟩
   rw [r9,zlj hb,zek,if_pos hc]
   constructor
   ·rintro ⟨h1,((h | ⟨f,hf,hs⟩) | ⟨f,hf,hs⟩) | h⟩
    ·exact ⟨h1,.inl h⟩
    ·exact ⟨h1,.inr ⟨f,List.mem_append_left _ hf,hs⟩⟩
    ·exact ⟨h1,.inr ⟨f,List.mem_append_right _ (List.mem_append_left _ hf),hs⟩⟩
    ·exact ⟨h1,.inr ⟨_,List.mem_append_right _ (List.mem_append_right _ (List.mem_singleton.2 rfl)),h⟩⟩
   ·rintro ⟨h1,h | ⟨f,hf,hs⟩⟩
    ·exact ⟨h1,.inl (.inl (.inl h))⟩
    ·rcases List.mem_append.1 hf with hf | hf
     ·exact ⟨h1,.inl (.inl (.inr ⟨f,hf,hs⟩))⟩
     ·rcases List.mem_append.1 hf with hf | hf
      ·exact ⟨h1,.inl (.inr ⟨f,hf,hs⟩)⟩
      ·rw [List.mem_singleton.1 hf] at hs
       exact ⟨h1,.inr hs⟩
 ·simp only [evs,evb] at g8
  have hc:¬b.e.calls=true:=by
   unfold EndX.calls
   simp only [Bool.or_eq_false_iff,zdf] at g8
   simp only [zdt]
   omega
  refine ⟨_,z0s rfl z00,rfl,es7,cl7,N7,S6,l6,h7,ok7,fun c d=>?_⟩
  rw [r7,zlj hb,zek,if_neg hc,List.append_nil]
  constructor
  ·rintro ⟨h1,(h | ⟨f,hf,hs⟩) | ⟨f,hf,hs⟩⟩
   ·exact ⟨h1,.inl h⟩
   ·exact ⟨h1,.inr ⟨f,List.mem_append_left _ hf,hs⟩⟩
   ·exact ⟨h1,.inr ⟨f,List.mem_append_right _ hf,hs⟩⟩
  ·rintro ⟨h1,h | ⟨f,hf,hs⟩⟩
   ·exact ⟨h1,.inl (.inl h)⟩
   ·rcases List.mem_append.1 hf with hf | hf
    ·exact ⟨h1,.inl (.inr ⟨f,hf,hs⟩)⟩
    ·exact ⟨h1,.inr ⟨f,hf,hs⟩⟩
def MapS (S:PH) (v:Value) (m:List (Int×Value)):Prop:=(∃r es clock,v=.map (some r)∧S r=some (.map es clock)∧EntsR (α:=Int) es.toList clock m)∨(v=.map none∧m=[])
theorem MapS.le {S S':PH} {v:Value} {m:List (Int×Value)} (h:MapS S v m) (hl:PH.le S S'):MapS S' v m:=
 h.imp (fun ⟨r,es,clock,h1,h2,h3⟩=>⟨r,es,clock,h1,hl _ _ h2,h3⟩) id
section
variable {P:Program} {X:List PanicEntry→PH→Prop} {β:Type} {E:List Value} {L:LK} {K:β→List Value→PH→LK→Prop} {H S:PH}
theorem Z3x {t kt et ty:TypeId} {x:Operand} {ts:Array TypeId} {args:List (Nat×VE)} {k:Fm β} {m:List (Int×Value)} {v:Value} (hts:ts[0]?=some t) (ht:P.underlying t=some (.map kt et))
  (hx:argEv E args x=v) (hS:PH.le S H) (h:MapS S v m) (hb:(m.length:Int)≤9223372036854775807)
  (hk:den P X k (E++[.int .i64 m.length]) H L K):den P X (.sem (.call ⟨.builtin .len,#[x],ts⟩) ty args (.sc (.int .i64)) [] k) E H L K:=by
 rcases h with ⟨r,es,clock,h1,h2,h3⟩ | ⟨h1,h2⟩
 ·exact zjv (α:=Int) (m:=m) hts ht hx ⟨r,es,clock,h1,hS _ _ h2,h3⟩ hb z01 hk
 ·subst h2
  show wpS P (execOp (argEv E args) (bare _ ty)) _ _ H
  rw [zui,hx,h1]
  unfold Builtin.len_
  simp only [hts,List.getElem?_toArray,List.getElem?_cons_zero,z04,z09 ht]
  exact ⟨[.int .i64 0],rfl,rfl,z01,hk⟩
theorem Z3h (E F:List Value) (u:Value):(E++[u]++F).getD E.length (.bool false)=u:=by
 rw [zgd,List.append_assoc,List.getElem?_append_right (Nat.le_refl _)];simp
theorem zmb (E F:List Value) (u:Value) (t:Nat):argEv (E++[u]++F) [(t,.sc (.atom E.length))] (.tmp t)=u:=by
 have h1:([(t,VE.sc (.atom E.length))]:List (Nat×VE)).lookup t=some (.sc (.atom E.length)):=by simp [List.lookup]
 show (match ([(t,VE.sc (.atom E.length))]:List (Nat×VE)).lookup t with | some v=>evV (E++[u]++F) (fun _=>0) v | none=>undef)=u
 rw [h1]
 exact Z3h E F u
theorem zed {T kt et ty ty2 ty3:TypeId} {x:Operand} {args:List (Nat×VE)} {id jid t:Nat} {tags:List Tag} {init:List SV} {t2:Tag} {body after:Fm β} {m:List (Int×Value)} {v:Value} {q mm:Nat} (hq:q=E.length) (hmm:mm=E.length+1+tags.length) (ht:P.underlying T=some (.map kt et))
  (hx:argEv E args x=v) (hS:PH.le S H) (h:MapS S v m) (htag:∀y∈m,t2.ok y.2=true) (hjid:(jid == id)=false) (Inv:List Int→List Value→PH→Nat→Obj→Prop)
  (h0:∀i o,H i=none→Inv [] (init.map (ev0 (E++[Value.pointer (some ⟨i,0,none⟩)]))) (H.upd i o) i o)
  (hcell:∀done vs H' i o,Inv done vs H' i o→H' i=some o∧PH.le S H') (hput:∀done vs H' i o o',Inv done vs H' i o→Inv done vs (H'.upd i o') i o')
  (hstep:∀done y w vs H' i o J,(y,w)∈m→y∉done→z08 tags vs=true→Inv done vs H' i o→(∀vs' H'',Inv (y::done) vs' H'' i o→J vs' H'') →
   den P X body (E++[Value.pointer (some ⟨i,0,none⟩)]++vs++[.bool true]++[.int .i64 y,w]) H' ((id,J)::L) K)
  (hend:∀done vs H' i o J,(∀y,y∈m.map (·.1)↔y∈done)→done.Nodup→z08 tags vs=true→Inv done vs H' i o→den P X after (E++[Value.pointer (some ⟨i,0,none⟩)]++vs++[.bool false]) H' ((id,J)::L) K) :
  den P X (.sem (.range T x) ty args (.sc .ptr) [] (.loop id tags init (.join jid [.bool] (.ite (.atom mm) (.sem (.entry (.tmp t)) ty2 [(t,.sc (.atom q))] (.tu [(false,[.int .i64]),(false,[t2])]) [] body) after)
   (.alt (.next (.tmp t) false) ty3 [(t,.sc (.atom q))] (.tu [(false,[.bool])]) (.tu [(false,[.bool]),(false,[.int .i64]),(false,[t2])]) (.next jid [.atom mm]) (.next jid [.atom mm]))))) E H L K:=by
 subst hq hmm
 have hat:∀(i:Nat) (vs F:List Value) (u:Value),z08 tags vs=true→ev0 (E++[Value.pointer (some ⟨i,0,none⟩)]++vs++(u::F)) (.atom (E.length+1+tags.length))=u:=by
  intro i vs F u hvs
  have hl:=z12 hvs
  show (E++[Value.pointer (some ⟨i,0,none⟩)]++vs++(u::F)).getD _ _=u
  rw [zgd,List.getElem?_append_right (by simp;omega)]
  have:E.length+1+tags.length - (E++[Value.pointer (some ⟨i,0,none⟩)]++vs).length=0:=by simp;omega
  rw [this];rfl
 rcases h with ⟨r,es,clock,rfl,hr,hents⟩ | ⟨rfl,rfl⟩
 ·refine zma (r:=r) (es:=es) (clock:=clock) ht hx (hS _ _ hr) (fun _ _=>z01) fun i hi=>?_
  have hinit:=h0 i (.mapIter (some r) clock #[] clock) hi
  have hl0:leftM es #[]=es.toList:=by unfold leftM;simp
  have hkeys:es.toList.map (·.key)=m.map fun x=>Value.int .i64 x.1:=by
   have:=congrArg (List.map Prod.fst) hents.ents
   simp only [List.map_map,Function.comp_def] at this
   exact this
  have hent:∀e∈es.toList,∃y w,(y,w)∈m∧e.key=.int .i64 y∧e.val=w:=by
   intro e he
   have h1:(e.key,e.val)∈es.toList.map (fun e=>(e.key,e.val)):=List.mem_map.2 ⟨e,he,rfl⟩
   rw [hents.ents] at h1
   obtain ⟨z,hz,hze⟩:=List.mem_map.1 h1
   simp only [Prod.mk.injEq] at hze
   exact ⟨z.1,z.2,hz,hze.1.symm,hze.2.symm⟩
  have hhas:∀y∈m.map (·.1),∃e∈es.toList,e.key=.int .i64 y:=by
   intro y hy
   obtain ⟨z,hz,rfl⟩:=List.mem_map.1 hy
   have h1:(Value.int .i64 z.1)∈es.toList.map (·.key):=by rw [hkeys];exact List.mem_map.2 ⟨z,hz,rfl⟩
   obtain ⟨e,he,hee⟩:=List.mem_map.1 h1
   exact ⟨e,he,hee⟩
  have huniq:∀e∈es.toList,∀e'∈es.toList,e.key=e'.key→e=e':=by
   intro e he e' he' hk
   obtain ⟨a,ha⟩:=List.getElem?_of_mem he
   obtain ⟨b,hb⟩:=List.getElem?_of_mem he'
   obtain ⟨y,w,hyw,hky,_⟩:=hent e he
   have hta:(m.map (·.1))[a]?=some y:=by
    have:=congrArg (fun l=>l[a]?) hkeys
    simp only [List.getElem?_map,ha,Option.map_some,hky] at this
    rw [List.getElem?_map]
    cases hx:m[a]? with
    | none=>rw [hx] at this;cases this
    | some z=>rw [hx] at this;simp at this;rw [this];rfl
   have htb:(m.map (·.1))[b]?=some y:=by
    have:=congrArg (fun l=>l[b]?) hkeys
    simp only [List.getElem?_map,hb,Option.map_some,←hk,hky] at this
    rw [List.getElem?_map]
    cases hx:m[b]? with
    | none=>rw [hx] at this;cases this
    | some z=>rw [hx] at this;simp at this;rw [this];rfl
   have hab:=(List.getElem?_inj (List.getElem?_eq_some_iff.1 hta).1 hents.keys).1 (hta.trans htb.symm)
   subst hab
   rw [ha] at hb;exact Option.some.inj hb
  refine ⟨fun n vs H'=>∃(seen:Array Nat) (done:List Int),n=(leftM es seen).length∧done.Nodup∧(∀y,y∈done↔y∈m.map (·.1)∧∀e∈leftM es seen,e.key≠.int .i64 y)∧Inv done vs H' i (.mapIter (some r) clock seen clock),⟨_,#[],[],rfl,List.nodup_nil,fun y=>?_,hinit⟩,?_⟩
  ·rw [hl0]
   simp only [List.not_mem_nil,false_iff,not_and]
   intro hy hno
   obtain ⟨e,he,hk⟩:=hhas y hy
   exact hno e he hk
  rintro n vs H' hvs ⟨seen,done,rfl,hnd,hdone,hinv⟩
  obtain ⟨hc,hSH⟩:=hcell _ _ _ _ _ hinv
  refine ⟨fun us H''=>∃b:Bool,us=[.bool b]∧((b=false∧leftM es seen=[]∧H''=H')∨(b=true∧∃e∈leftM es seen,Inv done vs H'' i (.mapIter (some r) clock (seen.push e.born) clock))),?_,?_⟩
  ·rintro us H'' _ ⟨b,rfl,hcase⟩
   refine ⟨fun g=>?_,fun g=>?_⟩
   ·rw [hat i vs [] _ hvs] at g
    have hb:b=true:=g
    subst hb
    rcases hcase with ⟨h,_⟩ | ⟨_,e,he,h2⟩
    ·cases h
    have hee:e∈es.toList:=(List.mem_filter.1 he).1
    obtain ⟨y,w,hyw,hek,hev⟩:=hent e hee
    obtain ⟨p1,p2⟩:=zgy hents he
    obtain ⟨hc2,hS2⟩:=hcell _ _ _ _ _ h2
    refine zlm (i:=i) (r:=r) (es:=es) (clock:=clock) (seen:=seen) (m:=m) (e:=e) ?_ hc2 (hS2 _ _ hr) hents hee (by rw [hek,hev];exact ⟨rfl,htag _ hyw⟩) ?_
    ·rw [List.append_assoc,zmb]
    rw [hek,hev]
    have hynd:y∉done:=fun hy=>((hdone y).1 hy).2 e he hek
    refine hstep done y w vs H'' i _ _ hyw hynd hvs h2 fun vs' H3 h3=>⟨_,p1,seen.push e.born,y::done,rfl,List.nodup_cons.2 ⟨hynd,hnd⟩,fun z=>?_,h3⟩
    rw [List.mem_cons,hdone]
    constructor
    ·rintro (rfl | ⟨h4,h5⟩)
     ·refine ⟨List.mem_map.2 ⟨_,hyw,rfl⟩,fun e' he' hk'=>?_⟩
      have he2:=(p2 e').2 (.inr he')
      have:=huniq e' (List.mem_filter.1 he2).1 e hee (hk'.trans hek.symm)
      subst this
      have hno:=(List.mem_filter.1 he').2
      simp at hno
     ·exact ⟨h4,fun e' he'=>h5 e' ((p2 e').2 (.inr he'))⟩
    ·rintro ⟨h4,h5⟩
     by_cases hz:z=y
     ·exact .inl hz
     ·refine .inr ⟨h4,fun e' he' hk'=>?_⟩
      rcases (p2 e').1 he' with rfl | h6
      ·rw [hek] at hk';cases hk';exact hz rfl
      ·exact h5 e' h6 hk'
   ·rw [hat i vs [] _ hvs] at g
    have hb:b=false:=g
    subst hb
    rcases hcase with ⟨_,hnil,rfl⟩ | ⟨h,_⟩
    ·refine hend done vs H'' i _ _ (fun y=>?_) hnd hvs hinv
     rw [hdone,hnil];simp
    ·cases h
  ·refine zon (i:=i) (r:=r) (es:=es) (clock:=clock) (seen:=seen) (m:=m) ?_ hc (hSH _ _ hr) hents (fun e he=>?_) (fun hnil=>?_) fun e he=>?_
   ·rw [zmb]
   ·obtain ⟨y,w,hyw,hek,hev⟩:=hent e he
    rw [hek,hev];exact ⟨rfl,htag _ hyw⟩
   ·refine ⟨_,z00,false,?_,.inl ⟨rfl,hnil,rfl⟩⟩
    rw [List.map_cons,List.map_nil,hat i vs [] _ hvs]
   ·refine ⟨_,z00,true,?_,.inr ⟨rfl,e,he,hput _ _ _ _ _ _ hinv⟩⟩
    rw [List.map_cons,List.map_nil,hat i vs _ _ hvs]
 ·show wpS P (execOp (argEv E args) (bare _ ty)) _ _ H
  rw [zpb,hx]
  unfold Instr.range
  simp only [z04,z09 ht,z2c]
  intro i hi
  have hinit:=h0 i (.mapIter none 0 #[] 0) hi
  refine ⟨[.pointer (some ⟨i,0,none⟩)],rfl,rfl,z01,?_⟩
  refine ⟨fun n vs H'=>Inv [] vs H' i (.mapIter none 0 #[] 0),⟨0,hinit⟩,?_⟩
  intro n vs H' hvs hinv
  obtain ⟨hc,hSH⟩:=hcell _ _ _ _ _ hinv
  refine ⟨fun us H''=>us=[.bool false]∧H''=H',?_,?_⟩
  ·rintro us H'' _ ⟨rfl,rfl⟩
   refine ⟨fun g=>?_,fun g=>?_⟩
   ·rw [hat i vs [] _ hvs] at g;cases g
   ·exact hend [] vs H'' i _ _ (fun y=>by simp) List.nodup_nil hvs hinv
  ·show wpS P (execOp (argEv _ _) (bare _ ty3)) _ _ H'
   rw [zs1,zmb]
   unfold Instr.next
   simp only [z04,z2c]
   refine ⟨_,hc,rfl,?_⟩
   refine .inl ⟨[.bool false],rfl,rfl,_,z00,?_,rfl⟩
   rw [List.map_cons,List.map_nil,hat i vs [] _ hvs]
end
theorem zq9:∀(L:List (Nat×Obj)) {S H:PH} {I:List Itm},Held S H ((L.map fun x=>Itm.blk x.1 x.2)++I)→∃S',PH.le S S'∧Held S' H I∧∀x∈L,S' x.1=some x.2
 | [],S,H,I,h=>⟨S,PH.le_refl _,h,fun x hx=>by cases hx⟩
 | a::L,S,H,I,h=>by
  have h':Held S H (.blk a.1 a.2::((L.map fun x=>Itm.blk x.1 x.2)++I)):=h
  obtain ⟨l1,h1⟩:=h'.freezeB
  obtain ⟨S2,l2,h2,h3⟩:=zq9 L h1
  refine ⟨S2,PH.le_trans l1 l2,h2,fun x hx=>?_⟩
  rcases List.mem_cons.1 hx with rfl | hx
  ·exact l2 _ _ PH.upd_same
  ·exact h3 x hx
structure GraphR (S:PH) (v:Value) (N:List (Int×GN)):Prop where
 at_:∃gr es cl,v=.map (some gr)∧S gr=some (.map es cl)∧GrOk es cl N
 in_:∀x∈N,S x.2.ref=some (.map x.2.es x.2.cl)
theorem GraphR.le {S S':PH} {v:Value} {N:List (Int×GN)} (h:GraphR S v N) (hl:PH.le S S'):GraphR S' v N:=by
 obtain ⟨gr,es,cl,h1,h2,h3⟩:=h.at_
 exact ⟨⟨gr,es,cl,h1,hl _ _ h2,h3⟩,fun x hx=>hl _ _ (h.in_ x hx)⟩
theorem znj {S H:PH} {gr:Nat} {es:Array MapEntry} {cl:Nat} {N:List (Int×GN)} (h:Held S H (grB gr es cl++grI N)) (ok:GrOk es cl N):∃S',PH.le S S'∧PH.le S' H∧GraphR S' (.map (some gr)) N:=by
 have e:grB gr es cl++grI N=(((gr,Obj.map es cl)::N.map fun x=>(x.2.ref,Obj.map x.2.es x.2.cl)).map fun x=>Itm.blk x.1 x.2)++[]:=by
  simp [grB,grI,Function.comp_def]
 rw [e] at h
 obtain ⟨S',l1,h1,h2⟩:=zq9 _ h
 exact ⟨S',l1,h1.sh,⟨gr,es,cl,rfl,h2 _ (zms),ok⟩,fun x hx=>h2 (x.2.ref,_) (zmm _ (List.mem_map.2 ⟨x,hx,rfl⟩))⟩
def adjN (N:List (Int×GN)) (c:Int):List Int:=match N.find? fun x=>decide (x.1=c) with
 | some x=>x.2.s
 | none=>[]
theorem zmr {N:List (Int×GN)} (hn:(N.map (·.1)).Nodup) (c:Int):(∃(j:Nat) (x:Int×GN),N[j]?=some x∧x.1=c∧adjN N c=x.2.s)∨((∀x∈N,x.1≠c)∧adjN N c=[]):=by
 unfold adjN
 cases hf:N.find? fun x=>decide (x.1=c) with
 | none=>
  rw [List.find?_eq_none] at hf
  exact .inr ⟨fun x hx e=>hf x hx (decide_eq_true e),rfl⟩
 | some x=>
  obtain ⟨j,hj⟩:=List.getElem?_of_mem (List.mem_of_find?_eq_some hf)
  have hd:=List.find?_some hf
  exact .inl ⟨j,x,hj,by simpa using hd,rfl⟩
theorem Z4t {N:List (Int×GN)} (hn:(N.map (·.1)).Nodup) (c d:Int):d∈adjN N c↔relN N c d:=by
 rcases zmr hn c with ⟨j,x,hj,hx,he⟩ | ⟨hno,he⟩
 ·rw [he]
  constructor
  ·exact fun h=>⟨x,List.mem_of_getElem? hj,hx,h⟩
  ·rintro ⟨y,hy,h1,h2⟩
   obtain ⟨t,ht⟩:=List.getElem?_of_mem hy
   have h3:(N.map (·.1))[j]?=some c:=by rw [List.getElem?_map,hj,←hx];rfl
   have h4:(N.map (·.1))[t]?=some c:=by rw [List.getElem?_map,ht,←h1];rfl
   have:=(List.getElem?_inj (List.getElem?_eq_some_iff.1 h3).1 hn).1 (h3.trans h4.symm)
   subst this
   rw [hj] at ht;cases ht;exact h2
 ·rw [he]
  constructor
  ·intro h;cases h
  ·rintro ⟨y,hy,h1,_⟩;exact absurd h1 (hno y hy)
theorem GraphR.keys {S:PH} {v:Value} {N:List (Int×GN)} (h:GraphR S v N):(N.map (·.1)).Nodup:=by
 obtain ⟨gr,es,cl,_,_,h3⟩:=h.at_;exact zm5 h3
theorem GraphR.adj_nodup {S:PH} {v:Value} {N:List (Int×GN)} (h:GraphR S v N) (c:Int):(adjN N c).Nodup:=by
 obtain ⟨gr,es,cl,_,_,h3⟩:=h.at_
 rcases zmr h.keys c with ⟨j,x,hj,hx,he⟩ | ⟨hno,he⟩
 ·rw [he];exact (h3.inner j x hj).nodup
 ·rw [he];exact List.nodup_nil
theorem GraphR.look {S:PH} {v:Value} {N:List (Int×GN)} (h:GraphR S v N) (c:Int):MapR S v (outM N)∧∃w,(getM (outM N) c).getD (.map none)=w∧Tag.ok .map w=true∧MapS S w (encS (adjN N c)):=by
 obtain ⟨gr,es,cl,rfl,h2,h3⟩:=h.at_
 refine ⟨⟨gr,es,cl,rfl,h2,h3.outer⟩,?_⟩
 rcases zmr h.keys c with ⟨j,x,hj,hx,he⟩ | ⟨hno,he⟩
 ·have:=zfw h.keys hj
  rw [hx] at this
  rw [this,he]
  exact ⟨_,rfl,rfl,.inl ⟨x.2.ref,x.2.es,x.2.cl,rfl,h.in_ x (List.mem_of_getElem? hj),h3.inner j x hj⟩⟩
 ·rw [zln hno,he]
  exact ⟨_,rfl,rfl,.inr ⟨rfl,rfl⟩⟩
set_option maxHeartbeats 1000000 in
theorem zu9 (l:List Int) (v:Value) (S K:PH) (I:List Itm) (h:Held S K (orow 3 l v::I)) (hl:l.length≤40000000) :
  Tri Tryz.prog zch #[v] K fun x K'=>x=.returned (.tuple #[])∧Held S K' (orow 3 l.reverse v::I):=by
 obtain ⟨b,c,rfl⟩:=(h.row (zms)).sl
 refine zar [.slice b l.length c] (by kernel_rfl) (by kernel_rfl) ?_
 refine ⟨fun n vs K'=>∃(i:Nat) (m:List Int),vs=[nI i,.int .i64 ((l.length:Int) - 1 - i)]∧n=l.length - i∧i≤l.length∧RevAt l m i∧Held S K' (orow 3 m (.slice b l.length c)::I),⟨_,0,l,?_,rfl,by omega,RevAt.first l,h⟩,?_⟩
 ·simp only [evs,evb]
  rw [w64 (by omega) (by omega)]
  simp
 rintro n vs K1 _ ⟨i,m,rfl,rfl,hil,hr,h1⟩
 refine ⟨fun g=>?_,fun g=>?_⟩
 ·simp only [evs,evb,zdt] at g
  have hi2:2 * i+1 < l.length:=by omega
  obtain ⟨k,hk⟩:∃k:Nat,(l.length:Int) - 1 - i=(k:Int):=⟨l.length - 1 - i,by omega⟩
  have hk':k=l.length - 1 - i:=by omega
  rw [hk]
  obtain ⟨a,ha⟩:∃a,m[i]?=some a:=⟨_,zge (by rw [hr.len];omega)⟩
  obtain ⟨z,hz⟩:∃z,m[k]?=some z:=⟨_,zge (by rw [hr.len];omega)⟩
  obtain ⟨a1,_,acs,a2,a3⟩:=(h1.row (zms)).get ha
  obtain ⟨z1,_,zcs,z2,z3⟩:=(h1.row (zms)).get hz
  obtain ⟨rfl,a4⟩:=csIK a2
  obtain ⟨rfl,z4⟩:=csIK z2
  refine ⟨fun _=>?_,[.int .i64 z],rfl,?_,fun _=>?_,[.int .i64 a],rfl,?_,?_⟩
  ·simp only [Chk.holds,evs,evb];exact ⟨z1,by omega,by omega⟩
  ·simp only [evs,evb];exact z3
  ·simp only [Chk.holds,evs,evb];exact ⟨a1,by omega,by omega⟩
  ·simp only [evs,evb];exact a3
  refine z1t (i:=i) (a:=a) (a':=z) (us:=[.int .i64 z]) ?_ h1 ha rfl ?_ (by simp [oneC]) (z0o z4) fun K2 h2=>?_
  ·simp only [evs,evb];rfl
  ·simp only [evs,evb]
  have hz':(m.set i z)[k]?=some z:=by
   rw [List.getElem?_set,if_neg (by omega)];exact hz
  refine z1t (i:=k) (a:=z) (a':=a) (us:=[.int .i64 a]) ?_ h2 hz' rfl ?_ (by simp [oneC]) (z0o a4) fun K3 h3=>?_
  ·simp only [evs,evb];rfl
  ·simp only [evs,evb]
  refine ⟨_,z00,l.length - (i+1),by omega,i+1,(m.set i z).set k a,?_,rfl,by omega,?_,h3⟩
  ·simp only [evs,evb]
   rw [w64 (by omega) (by omega),w64 (by omega) (by omega)]
   congr 2
   congr 1
   omega
  ·subst hk';exact hr.step hi2 ha hz
 ·simp only [evs,evb,zdf] at g
  have:=hr.done (by omega)
  subst this
  exact ⟨rfl,h1⟩
def mulA:SV:=match z43 with
 | .leaf (.tu [(_,[a]),_])=>a
 | _=>.int .u64 1
def mulB:SV:=match z43 with
 | .leaf (.tu [_,(_,[b])])=>b
 | _=>.int .u64 1
theorem Z5j:((List.range 2001).all fun R=>decide (iOf (ev [.int .u64 1,.int .u64 (R:Int)] (fun _=>0) mulA)=0) && decide (iOf (ev [.int .u64 1,.int .u64 (R:Int)] (fun _=>0) mulB)=(R:Int)))=true:=by decide +kernel
section
variable {P:Program} {Φ:Next→PH→Prop} {Ψ:Value→PH→Prop} {H S:PH} {ρ:Operand→Value} {I:List Itm}
theorem Z2a {x y:Operand} {ts:Array TypeId} {ty:TypeId}:wpS P (execOp ρ (bare (.call ⟨.builtin .copy,#[x,y],ts⟩) ty)) Φ Ψ H=wpS P (Builtin.copy_ ts ty #[ρ x,ρ y]) (fun v H'=>Φ (.value v) H') Ψ H:=by
 simp only [execOp,bare,resolve,z04,z0d]
 simp only [invoke,List.map_toArray,List.map_cons,List.map_nil,builtin,z04,z0d]
variable {X:List PanicEntry→PH→Prop} {β:Type} {E:List Value} {L:LK} {K:β→List Value→PH→LK→Prop}
theorem zst {T ty e:TypeId} {ts:Array TypeId} {x y:Operand} {args:List (Nat×VE)} {k:Fm β} {r d dl dc sl sc m:Nat} {sa:Addr} {BT:TypeId} {cs:List Value} (vs:List Value) (hts:ts[0]?=some T) (hT:P.underlying T=some (.slice e)) (hiz:(P.info? e).map (·.size)=some 1)
  (hx:argEv E args x=.slice (some ⟨r,d,none⟩) dl dc) (hy:argEv E args y=.slice (some sa) sl sc) (h:Held S H (bx r BT cs::I)) (hm:m=min sl dl) (hvs:vs.length=m) (hread:∀i v,vs[i]?=some v→H.cell? (sa.add i)=some v) (hfit:d+m≤cs.length) (h1:∀v∈vs,oneC v=true) (hml:(m:Int)≤9223372036854775807)
  (hk:∀H',Held S H' (bx r BT (cs.take d++vs++cs.drop (d+m))::I)→den P X k (E++[.int .i64 m]) H' L K):den P X (.sem (.call ⟨.builtin .copy,#[x,y],ts⟩) ty args (.sc (.int .i64)) [] k) E H L K:=by
 obtain ⟨i,hi,hz⟩:=Option.map_eq_some_iff.1 hiz
 show wpS P (execOp (argEv E args) (bare _ ty)) _ _ H
 rw [Z2a,hx,hy]
 unfold Builtin.copy_
 simp only [hts,List.getElem?_toArray,List.getElem?_cons_zero,List.getElem?_cons_succ,z04,z09 hT]
 show wpS P (Builtin.lenOf (.slice (some sa) sl sc)) _ _ H
 show wpS P (sizeOf e) _ _ H
 rw [z33 hi,hz]
 show wpS P (loadCells sa (Nat.min sl dl * 1)) _ _ H
 have hmm:Nat.min sl dl * 1=m:=by rw [Nat.mul_one,hm]
 rw [hmm]
 refine zd1 hvs hread ?_
 show wpS P (storeCells ⟨r,d,none⟩ vs.toArray.toList) _ _ H
 rw [List.toList_toArray]
 refine z1r vs d 0 cs.toArray H (h.blk (zms)) (by simp [hvs]<;>omega) h1 ?_
 have h2:=h.put (.cells (cs.take d++vs++cs.drop (d+vs.length)).toArray BT (0,0))
 have e2:z11 cs.toArray (d+0) vs=(cs.take d++vs++cs.drop (d+vs.length)).toArray:=by
  unfold z11;simp
 rw [e2]
 rw [hvs] at h2
 rw [hvs]
 refine ⟨[.int .i64 m],rfl,?_,z01,hk _ h2⟩
 show goInt (Nat.min sl dl)=_
 rw [show Nat.min sl dl=m from hm.symm];rfl
end
theorem zw2 (R:Nat) (hR:R≤2000) (H:PH):Gives Tryz.prog znd [.int .u64 1,.int .u64 (R:Int)] H (.tuple #[.int .u64 0,.int .u64 (R:Int)]):=by
 refine zl7 [.int .u64 1,.int .u64 (R:Int)] (by kernel_rfl) (by kernel_rfl) ?_
 have h:=List.all_eq_true.1 Z5j R (List.mem_range.2 (by omega))
 rw [zba,zdt,zdt] at h
 obtain ⟨h1,h2⟩:=h
 refine ⟨?_,PH.le_refl _⟩
 show Ending.returned (.tuple #[.int .u64 (iOf (ev [.int .u64 1,.int .u64 (R:Int)] (fun _=>0) mulA)),.int .u64 (iOf (ev [.int .u64 1,.int .u64 (R:Int)] (fun _=>0) mulB))])=_
 rw [h1,h2]
theorem Z0p (R:Nat) (hR:R≤2000) (H:PH):Gives Tryz.prog zpc [.int .u64 1,.int .u64 (R:Int)] H (.tuple #[.int .u64 0,.int .u64 (R:Int)]):=by
 refine zna [.int .u64 1,.int .u64 (R:Int)] (by kernel_rfl) (by kernel_rfl) ?_
 exact z05 [.int .u64 0,.int .u64 (R:Int)] zlu (zw2 R hR H) rfl z01 fun K l=>⟨rfl,l⟩
theorem zr0:OneOk Tryz.prog 3 8 (.int .i64 0):=OneOk.of (by kernel_rfl) rfl
theorem zyb (n m R:Nat) (u z:Value) (h:n+m≤R):(List.replicate n u++List.replicate (R - n) z).take n++List.replicate m u++(List.replicate n u++List.replicate (R - n) z).drop (n+m)=List.replicate (n+m) u++List.replicate (R - (n+m)) z:=by
 rw [List.take_left' (by simp),List.drop_append,List.length_replicate,Nat.add_sub_cancel_left,List.drop_of_length_le (by simp),List.nil_append,List.drop_replicate,←List.replicate_append_replicate]
 congr 2;omega
set_option maxHeartbeats 1000000 in
theorem zyq (R:Nat) (hR:R≤2000) (a:Int) (lv:Value) (S:PH) (hl:SlR S [a] lv) :
  Tri Tryz.prog zd0 #[lv,.int .i64 (R:Int)] S fun x K=>∃v,x=.returned v∧Held S K [orow 3 (List.replicate R a) v]:=by
 have hl0:=hl
 obtain ⟨b1,c1,rfl⟩:=hl.sl
 obtain ⟨ad,had⟩:∃ad,b1=some ad:=by
  rcases (SlR.mk_iff.1 hl).2 with ⟨_,h⟩ | ⟨ad,c,h,_⟩
  ·cases h
  ·cases h;exact ⟨ad,rfl⟩
 subst had
 obtain ⟨_,_,acs,q2,q3⟩:=hl0.get (i:=0) (a:=a) rfl
 obtain ⟨rfl,hai⟩:=csIK q2
 have hcell:S.cell? ad=some (.int .i64 a):=by
  obtain ⟨ad2,e1,f1⟩:=q3
  have h0:=f1 0 _ rfl
  have:ad2=ad:=by simp [eltV,pOf,z0v,Addr.add_zero] at e1;exact e1.symm
  subst this
  simpa [Addr.add_zero] using h0
 refine zbk [.slice (some ad) 1 c1,.int .i64 (R:Int)] (by kernel_rfl) (by kernel_rfl) ?_
 refine ⟨fun vs K=>vs=[]∧K=S,?_,fun g=>?_,fun g=>⟨_,z00,rfl,rfl⟩⟩
 rotate_left
 ·simp only [evs,evb,zdt] at g;omega
 rintro vs K _ ⟨rfl,rfl⟩
 have hw1:IntKind.u64.wrap (1:Int)=1:=rfl
 have hw2:IntKind.u64.wrap (R:Int)=(R:Int):=by
  simp only [IntKind.wrap,IntKind.bits,IntKind.signed];simp;omega
 refine z05 [.int .u64 0,.int .u64 (R:Int)] zoc ?_ rfl z01 fun K1 l1=>?_
 ·have:=Z0p R hR K
  simp only [evs,evb,zlc,List.length_nil]
  rw [hw2]
  exact this
 simp only [cns]
 refine ⟨fun vs K'=>vs=[]∧K'=K1,?_,fun g=>?_,fun g=>⟨_,z00,rfl,rfl⟩⟩
 rotate_left
 ·simp only [evs,evb] at g
  simp only [Bool.or_eq_true,zdt] at g
  omega
 rintro vs K' _ ⟨rfl,rfl⟩
 have hw3:IntKind.i64.wrap (R:Int)=(R:Int):=by rw [w64 (by omega) (by omega)]
 simp only [List.cons_append,List.nil_append,List.append_nil]
 refine zfb (n:=R) z0q zr0 (by show Value.int .i64 (IntKind.i64.wrap (R:Int))=_;rw [hw3]) (by show Value.int .i64 (IntKind.i64.wrap (R:Int))=_;rw [hw3]) (by simp only [maxLen];omega) (by omega) (Held.nil l1) fun r K2 h2 _=>?_
 have h2:=h2.rawBlk
 simp only [cns]
 have hm:min 1 R≤R:=Nat.min_le_right _ _
 refine zst (BT:=3) (m:=min 1 R) (sl:=1) (dl:=R) (d:=0) (sa:=ad) (sc:=c1) (dc:=R) (List.replicate (min 1 R) (.int .i64 a)) rfl z0q (by kernel_rfl) (by kernel_rfl) (by kernel_rfl) h2 rfl (by simp) (fun i v hv=>?_) (by simp;omega) (fun v hv=>by rw [(List.mem_replicate.1 hv).2];rfl) (by omega) fun K3 h3=>?_
 ·rw [List.getElem?_replicate] at hv
  split at hv
  ·rename_i hi
   have:i=0:=by omega
   subst this
   cases hv
   rw [Addr.add_zero]
   exact PH.cell_le h2.sh hcell
  ·cases hv
 have h3:Held K K3 [bx r 3 (List.replicate (min 1 R) (Value.int .i64 a)++List.replicate (R - min 1 R) (Value.int .i64 0))]:=by
  have e:=zyb 0 (min 1 R) R (Value.int .i64 a) (Value.int .i64 0) (by omega)
  simp only [List.replicate_zero,List.nil_append,Nat.zero_add,Nat.sub_zero] at e
  rw [Nat.zero_add,e] at h3
  exact h3
 simp only [cns]
 refine ⟨fun n vs K'=>∃j:Nat,vs=[nI j]∧n=R - j∧j≤R∧(j=0→R=0)∧Held K K' [bx r 3 (List.replicate j (Value.int .i64 a)++List.replicate (R - j) (Value.int .i64 0))],⟨_,min 1 R,rfl,rfl,hm,by omega,h3⟩,?_⟩
 rintro n vs K4 _ ⟨j,rfl,rfl,hjR,hj0,h4⟩
 simp only [cns]
 refine ⟨fun g=>?_,fun g=>?_⟩
 ·simp only [evs,evb,zdt] at g
  have hjl:j < R:=by omega
  refine ⟨fun _=>?_,fun _=>?_,?_⟩
  ·simp only [Chk.holds,evs,evb,slCap];omega
  ·simp only [Chk.holds,evs,evb,slCap];omega
  have hd:slsV (.slice (some ⟨r,0,none⟩) R R) (j:Int) (R:Int) 1=.slice (some ⟨r,j,none⟩) (R - j) (R - j):=by
   simp only [slsV,slCap,z0v,Int.toNat_natCast,Nat.mul_one]
   rw [if_neg (by omega)];simp [Addr.add_plain]
  have hs:slsV (.slice (some ⟨r,0,none⟩) R R) 0 (j:Int) 1=.slice (some ⟨r,0,none⟩) j R:=by
   show Value.slice (if R=0 then some ⟨r,0,none⟩ else some (Addr.add ⟨r,0,none⟩ 0)) ((j:Int).toNat - 0) (R - 0)=_
   rw [if_neg (show ¬R=0 by omega),Addr.add_plain,Int.toNat_natCast];rfl
  refine zst (BT:=3) (m:=min j (R - j)) (sl:=j) (dl:=R - j) (d:=j) (sa:=⟨r,0,none⟩) (sc:=R) (dc:=R - j) (List.replicate (min j (R - j)) (.int .i64 a)) rfl z0q (by kernel_rfl) ?_ ?_ h4 rfl (by simp) (fun i v hv=>?_) (by simp;omega) (fun v hv=>by rw [(List.mem_replicate.1 hv).2];rfl) (by omega) fun K5 h5=>?_
  ·exact hd
  ·exact hs
  ·rw [List.getElem?_replicate] at hv
   split at hv
   ·rename_i hi
    cases hv
    have hb:=h4.blk (zms)
    rw [Addr.add_plain,PH.cell_at hb,Nat.zero_add]
    simp only [List.getElem?_toArray]
    rw [List.getElem?_append_left (by simp;omega),List.getElem?_replicate,if_pos (by omega)]
   ·cases hv
  rw [zyb j (min j (R - j)) R _ _ (by omega)] at h5
  refine ⟨_,z00,R - (j+min j (R - j)),by omega,j+min j (R - j),?_,rfl,by omega,by omega,h5⟩
  simp only [evs,evb];rw [w64 (by omega) (by omega)];congr 2
 ·simp only [evs,evb,zdf] at g
  have:j=R:=by omega
  subst this
  rw [Nat.sub_self,List.replicate_zero,List.append_nil] at h4
  have hrow:PV.RepRow K ((List.replicate j a).flatMap pv) (List.replicate j (Value.int .i64 a)):=by
   have:=zhz (S:=K) (l:=List.replicate j a) fun x hx=>by rw [(List.mem_replicate.1 hx).2];exact hai
   rwa [List.map_replicate] at this
  have h5:=Held.blkRow (α:=Int) (L:=List.replicate j a) rfl h4 hrow (by simp only [List.length_replicate,maxLen];omega)
  rw [List.length_replicate] at h5
  exact ⟨_,rfl,h5⟩
structure GraphOk (R:Nat) (N:List (Int×GN)):Prop where
 keys:(N.map (·.1)).Nodup
 nd:∀c,(adjN N c).Nodup
 rel:∀c d,d∈adjN N c→c∈adjN N d∧c≠d∧0≤c∧c < R∧0≤d∧d < R
def degN (N:List (Int×GN)) (gone:List Int) (u:Int):Nat:=((adjN N u).filter fun d=>decide (d∉gone)).length
theorem zve {R:Nat} {N:List (Int×GN)} (h:GraphOk R N) (g:List Int) (u:Int):degN N g u≤R:=by
 have h1:(adjN N u).length≤((List.range R).map Int.ofNat).length:=z0k (h.nd u) fun d hd=>by
  have:=h.rel u d hd
  exact List.mem_map.2 ⟨d.toNat,List.mem_range.2 (by omega),show ((d.toNat:Nat):Int)=d by omega⟩
 rw [List.length_map,List.length_range] at h1
 exact Nat.le_trans (List.length_filter_le _ _) h1
theorem zvi (N:List (Int×GN)) (u:Int):degN N [] u=(adjN N u).length:=by
 unfold degN;rw [List.filter_eq_self.2];intro d _;simp
theorem zvy {l:List Int} (hn:l.Nodup) (g:List Int) (b:Int) (hb:b∉g):(l.filter fun d=>decide (d∉g++[b])).length=(l.filter fun d=>decide (d∉g)).length - (if b∈l then 1 else 0):=by
 induction l with
 | nil=>simp
 | cons a l ih=>
  obtain ⟨h1,h2⟩:=List.nodup_cons.1 hn
  have ih:=ih h2
  rw [List.filter_cons,List.filter_cons]
  by_cases e:a=b
  ·subst e
   rw [if_neg h1,Nat.sub_zero] at ih
   rw [if_neg (by simp),if_pos (by simpa using hb),if_pos (zms),ih,zlc,Nat.add_sub_cancel]
  ·have hiff:(b∈a::l)↔b∈l:=by rw [List.mem_cons];exact ⟨fun h=>h.elim (fun h=>absurd h.symm e) id,.inr⟩
   have hif:(if b∈a::l then 1 else 0)=(if b∈l then 1 else 0):=by simp only [hiff]
   rw [hif]
   by_cases hg:a∈g
   ·rw [if_neg (by simp [hg]),if_neg (by simp [hg]),ih]
   ·rw [if_pos (by simp [hg,e]),if_pos (by simp [hg]),zlc,zlc,ih]
    by_cases hbl:b∈l
    ·have hpos:0 < (l.filter fun d=>decide (d∉g)).length:=List.length_pos_iff.2 fun hnil=>by
      have:b∈l.filter fun d=>decide (d∉g):=List.mem_filter.2 ⟨hbl,by simpa using hb⟩
      rw [hnil] at this;cases this
     rw [if_pos hbl];omega
    ·rw [if_neg hbl];omega
theorem Z4l {R:Nat} {N:List (Int×GN)} (h:GraphOk R N) {g:List Int} {b u:Int} (hb:b∉g):degN N (g++[b]) u=degN N g u - (if b∈adjN N u then 1 else 0):=zvy (h.nd u) g b hb
theorem zxj {N:List (Int×GN)} {g:List Int} {b u:Int} (hb:b∉g) (hu:b∈adjN N u):0 < degN N g u:=by
 unfold degN
 refine List.length_pos_iff.2 fun hnil=>?_
 have:b∈(adjN N u).filter fun d=>decide (d∉g):=List.mem_filter.2 ⟨hu,by simpa using hb⟩
 rw [hnil] at this;cases this
def OrdOk (N:List (Int×GN)) (R:Nat) (k:Int) (st:List Int):Prop:=∀(t:Nat) s,st[t]?=some s→(degN N (st.take t) s:Int) < k∨∀u:Nat,u < R→(u:Int)∉st.take t→k≤degN N (st.take t) u
theorem Z1h {R:Nat} {st:List Int} (hn:st.Nodup) (hr:∀s∈st,0≤s∧s < R) (hl:st.length < R):∃j:Nat,j < R∧(j:Int)∉st:=by
 refine Classical.byContradiction fun hno=>?_
 have hall:∀j:Nat,j < R→(j:Int)∈st:=fun j hj=>Classical.byContradiction fun h=>hno ⟨j,hj,h⟩
 have h1:((List.range R).map Int.ofNat).length≤st.length:=z0k (by
  rw [List.Nodup,List.pairwise_map]
  exact (List.nodup_range (n:=R)).imp fun h e=>h (Int.ofNat.inj e)) fun y hy=>by
   obtain ⟨i,hi,rfl⟩:=List.mem_map.1 hy
   exact hall i (List.mem_range.1 hi)
 rw [List.length_map,List.length_range] at h1
 omega
set_option maxHeartbeats 4000000 in
theorem Z13 (R:Nat) (hR:R≤2000) (k:Int) (gv:Value) (N:List (Int×GN)) (S:PH) (hg:GraphR S gv N) (ok:GraphOk R N) :
  Tri Tryz.prog ztj #[gv,.int .i64 (R:Int),.int .i64 k] S fun x S'=>PH.le S S'∧∃st v,x=.returned v∧SlR S' st.reverse v∧st.Nodup∧st.length=R∧(∀s:Int,s∈st→0≤s∧s < R)∧OrdOk N R k st:=by
 obtain ⟨gr,ges,gcl,rfl,_,_⟩:=hg.at_
 refine zqu [.map (some gr),.int .i64 (R:Int),.int .i64 k] (by kernel_rfl) (by kernel_rfl) ?_
 refine ⟨fun vs K=>∃dv nv,vs=[dv,nv]∧Held S K [orow 3 (List.replicate R (0:Int)) dv,orow 4 (List.replicate R false) nv],?_,?_,?_⟩
 rotate_left
 ·refine zc6 (α:=Int) (n:=R) 0 rfl (fun S=>z0o InI0) z0q zr0 (by kernel_rfl) (by kernel_rfl) (by simp only [maxLen];omega) (by omega) (Held.nil (PH.le_refl S)) fun v1 K1 h1 _=>?_
  refine zc6 (α:=Bool) (n:=R) false rfl (fun S=>zji) zr5 zp3 (by kernel_rfl) (by kernel_rfl) (by simp only [maxLen];omega) (by omega) h1 fun v2 K2 h2 _=>?_
  exact ⟨_,z00,v1,v2,rfl,h2.perm (List.Perm.swap _ _ _)⟩
 ·refine zc6 (α:=Bool) (n:=R) false rfl (fun S=>zji) zr5 zp3 (by kernel_rfl) (by kernel_rfl) (by simp only [maxLen];omega) (by omega) (Held.nil (PH.le_refl S)) fun v1 K1 h1 _=>?_
  refine zc6 (α:=Int) (n:=R) 0 rfl (fun S=>z0o InI0) z0q zr0 (by kernel_rfl) (by kernel_rfl) (by simp only [maxLen];omega) (by omega) h1 fun v2 K2 h2 _=>?_
  exact ⟨_,z00,v2,v1,rfl,h2⟩
 rintro vs K1 _ ⟨dv,nv,rfl,h1⟩
 obtain ⟨db,dc,rfl⟩:∃b c,dv=.slice b R c:=by have:=(h1.row (zms)).sl;rwa [List.length_replicate] at this
 obtain ⟨nb,nc,rfl⟩:∃b c,nv=.slice b R c:=by have:=(h1.row (zmm _ (zms))).sl;rwa [List.length_replicate] at this
 simp only [cns]
 refine ⟨fun n vs K=>∃(i:Nat) (l:List Int),vs=[nI i]∧i+n=R∧l.length=R∧Held S K [orow 3 l (.slice db R dc),orow 4 (List.replicate R false) (.slice nb R nc)]∧∀j,j < i→l[j]?=some (degN N [] (j:Int):Int),
  ⟨R,0,_,rfl,by omega,by simp,h1,fun j h=>by omega⟩,?_⟩
 rintro n vs K2 _ ⟨i,l,rfl,hin,hl,h2,hd⟩
 simp only [cns]
 refine ⟨fun g=>?_,fun g=>?_⟩
 ·simp only [evs,evb,zdt] at g
  obtain ⟨hm,w,hw1,hw2,hw3⟩:=(hg.le h2.sh).look (i:Int)
  refine z56 (α:=Int) (m:=outM N) (v:=.map (some gr)) (i:Int) (.map none) z9h kIntK (by kernel_rfl) (by kernel_rfl) (by kernel_rfl) hm (by rw [hw1];exact hw2) z01 ?_
  rw [hw1]
  obtain ⟨wm,rfl⟩:∃wm,w=.map wm:=by cases w<;>simp [Tag.ok] at hw2;exact ⟨_,rfl⟩
  have hdl:=zve ok [] (i:Int)
  have hdn:=zvi N (i:Int)
  simp only [cns]
  refine Z3x (m:=encS (adjN N (i:Int))) (v:=.map wm) rfl zbp (by kernel_rfl) (PH.le_refl K2) hw3 (by simp [encS];omega) ?_
  obtain ⟨c,hc⟩:∃c,l[i]?=some c:=⟨_,zge (by omega)⟩
  obtain ⟨t1,_⟩:=(h2.row (zms)).get hc
  refine ⟨fun _=>?_,?_⟩
  ·simp only [Chk.holds,evs,evb];exact ⟨t1,by omega,by omega⟩
  have hlen:(encS (adjN N (i:Int))).length=degN N [] (i:Int):=by rw [hdn];simp [encS]
  rw [hlen]
  refine z1t (i:=i) (a:=c) (a':=(degN N [] (i:Int):Int)) (us:=[.int .i64 (degN N [] (i:Int):Int)]) ?_ h2 hc rfl ?_ (by simp [oneC]) (z0o (by unfold InI;omega)) fun K3 h3=>?_
  ·simp only [evs,evb];rfl
  ·simp only [evs,evb]
  refine ⟨_,z00,n - 1,by omega,i+1,l.set i _,?_,by omega,by simpa using hl,h3,fun j hj=>?_⟩
  ·simp only [evs,evb];rw [w64 (by omega) (by omega)];rfl
  ·rw [List.getElem?_set]
   by_cases e:i=j
   ·subst e;rw [if_pos rfl,if_pos (by omega)]
   ·rw [if_neg e];exact hd j (by omega)
 simp only [evs,evb,zdf] at g
 have hiR:i=R:=by omega
 subst hiR
 have h2e:=(h2.empty (α:=Int) 3)
 refine ⟨fun n vs K=>∃(st:List Int) (sv:Value) (l:List Int) (gn:List Bool) (S':PH),vs=[sv]∧n=i - st.length∧PH.le S S'∧Held S' K [orow 3 st sv,orow 3 l (.slice db i dc),orow 4 gn (.slice nb i nc)]∧st.Nodup∧(∀s:Int,s∈st→0≤s∧s < i)∧st.length≤i∧OrdOk N i k st∧l.length=i∧(∀j,j < i→l[j]?=some (degN N st (j:Int):Int))∧gn.length=i∧∀j,j < i→gn[j]?=some (decide ((j:Int)∈st)),
  ⟨i,[],.slice none 0 0,l,List.replicate i false,S,rfl,rfl,PH.le_refl S,h2e,List.nodup_nil,fun s h=>(by cases h),by simp,fun t s h=>(by simp at h),hl,hd,by simp,fun j hj=>by rw [List.getElem?_replicate,if_pos hj];simp⟩,?_⟩
 rintro n vs K3 _ ⟨st,sv,l3,gn,S3,rfl,rfl,le3,h3,hnd,hrg,hstl,hord,hl3,hd3,hgl,hgn⟩
 obtain ⟨sb,sc,rfl⟩:=(h3.row (zms)).sl
 simp only [cns]
 refine ⟨fun g=>?_,fun g=>?_⟩
 rotate_left
 ·simp only [evs,evb,zdf] at g
  have hsl:st.length=i:=by omega
  refine z02 zbj (zu9 st _ S3 K3 _ h3 (by omega)) ?_
  rintro x K4 ⟨rfl,h4⟩
  refine ⟨_,[],rfl,rfl,rfl,z01,?_⟩
  obtain ⟨S5,s5,l5,h5⟩:=h4.freeze
  exact ⟨PH.le_trans le3 (PH.le_trans l5 h5.sh),st,_,rfl,s5.le h5.sh,hnd,hsl,hrg,hord⟩
 simp only [evs,evb,zdt] at g
 have hsl:st.length < i:=by omega
 obtain ⟨j0,hj0,hj0n⟩:=Z1h hnd hrg hsl
 have hdeg:∀j,degN N st j≤i:=fun j=>zve ok st j
 have rdD:∀j,j < i→(z0v (.slice db i dc)).isSome=true∧rowAt K3 (pOf (eltV (.slice db i dc) (j:Int) 1)) [.int .i64 (degN N st (j:Int):Int)]:=fun j hj=>by
  obtain ⟨t1,_,tcs,t2,t3⟩:=(h3.row (zmm _ (zms))).get (hd3 j hj)
  obtain ⟨rfl,_⟩:=csIK t2
  exact ⟨t1,t3⟩
 have rdG:∀j,j < i→(z0v (.slice nb i nc)).isSome=true∧rowAt K3 (pOf (eltV (.slice nb i nc) (j:Int) 1)) [.bool (decide ((j:Int)∈st))]:=fun j hj=>by
  obtain ⟨t1,_,tcs,t2,t3⟩:=(h3.row (zmm _ (zmm _ (zms)))).get (hgn j hj)
  rw [csBK t2] at t3
  exact ⟨t1,t3⟩
 refine ⟨fun vs K=>K=K3∧∃best:Nat,vs=[nI best]∧best < i∧(best:Int)∉st∧((degN N st (best:Int):Int) < k∨∀u:Nat,u < i→(u:Int)∉st→k≤degN N st u),?_,?_⟩
 rotate_left
 ·
  refine ⟨fun n vs K=>K=K3∧∃(best:Int) (r:Nat),vs=[.int .i64 best,nI r]∧r+n=i∧((best=-1∧∀j:Nat,j < r→(j:Int)∈st)∨(0≤best∧best < r∧best∉st))∧∀u:Nat,u < r→(u:Int)∉st→k≤degN N st u,
   ⟨i,rfl,-1,0,rfl,by omega,.inl ⟨rfl,fun j h=>by omega⟩,fun u h=>by omega⟩,?_⟩
  rintro n vs K _ ⟨rfl,best,r,rfl,hrn,hbest,hall⟩
  simp only [cns]
  refine ⟨fun g2=>?_,fun g2=>?_⟩
  rotate_left
  ·simp only [evs,evb,zdf] at g2
   have hri:r=i:=by omega
   subst hri
   rcases hbest with ⟨_,hb⟩ | ⟨hb1,hb2,hb3⟩
   ·exact absurd (hb j0 hj0) hj0n
   ·obtain ⟨bn,rfl⟩:∃bn:Nat,best=(bn:Int):=⟨best.toNat,by omega⟩
    exact ⟨_,z0s rfl z00,rfl,bn,rfl,by omega,hb3,.inr hall⟩
  simp only [evs,evb,zdt] at g2
  have hri:r < i:=by omega
  obtain ⟨g3,g4⟩:=rdG r hri
  obtain ⟨d3,d4⟩:=rdD r hri
  have hdr:=hdeg (r:Int)
  refine ⟨fun vs K'=>K'=K∧∃best':Int,vs=[.int .i64 best']∧((best'=-1∧∀j:Nat,j < r+1→(j:Int)∈st)∨(0≤best'∧best' < (r+1:Nat)∧best'∉st))∧∀u:Nat,u < r+1→(u:Int)∉st→k≤degN N st u,?_,fun _=>?_,[.bool (decide ((r:Int)∈st))],rfl,?_,fun g5=>?_,fun g5=>?_⟩
  ·rintro vs K' _ ⟨rfl,best',rfl,hb',hall'⟩
   refine ⟨_,z00,n - 1,by omega,rfl,best',r+1,?_,by omega,hb',hall'⟩
   simp only [evs,evb];rw [w64 (by omega) (by omega)];rfl
  ·simp only [Chk.holds,evs,evb];exact ⟨g3,by omega,by omega⟩
  ·simp only [evs,evb];exact g4
  ·simp only [evs,evb,zdt] at g5
   refine ⟨_,z00,rfl,best,rfl,?_,fun u hu hn=>?_⟩
   ·rcases hbest with ⟨h1,h2⟩ | ⟨h1,h2,h3⟩
    ·refine .inl ⟨h1,fun j hj=>?_⟩
     by_cases e:j=r
     ·subst e;exact g5
     ·exact h2 j (by omega)
    ·exact .inr ⟨h1,by omega,h3⟩
   ·by_cases e:u=r
    ·subst e;exact absurd g5 hn
    ·exact hall u (by omega) hn
  simp only [evs,evb,zdf] at g5
  simp only [cns]
  refine ⟨fun _=>?_,[.int .i64 (degN N st (r:Int):Int)],rfl,?_,fun g6=>?_,fun g6=>?_⟩
  ·simp only [Chk.holds,evs,evb];exact ⟨d3,by omega,by omega⟩
  ·simp only [evs,evb];exact d4
  ·simp only [evs,evb,zdt] at g6
   exact ⟨_,z0s rfl (z0s rfl z00),rfl,r,rfl,hri,g5,.inl g6⟩
  simp only [evs,evb,zdf] at g6
  simp only [cns]
  have hall':∀u:Nat,u < r+1→(u:Int)∉st→k≤degN N st u:=fun u hu hn=>by
   by_cases e:u=r
   ·subst e;omega
   ·exact hall u (by omega) hn
  refine ⟨fun vs K'=>K'=K∧∃t:Bool,vs=[.bool t]∧(best < 0→t=true),?_,fun g7=>?_,fun g7=>?_,fun g7=>?_⟩
  ·rintro vs K' _ ⟨rfl,t,rfl,ht⟩
   refine ⟨_,z00,rfl,if t then (r:Int) else best,?_,?_,hall'⟩
   ·simp only [evs,evb];cases t<;>rfl
   ·cases t with
    | true=>exact .inr ⟨by simp,by simp;omega,g5⟩
    | false=>
     simp only [Bool.false_eq_true,if_false]
     rcases hbest with ⟨h1,h2⟩ | ⟨h1,h2,h3⟩
     ·have:=ht (by omega);cases this
     ·exact .inr ⟨h1,by omega,h3⟩
  ·rcases hbest with ⟨h1,h2⟩ | ⟨h1,h2,h3⟩
   ·have:=g7 ((.cmp .lss (.atom 7) (.int .i64 0)),false) (zms)
    subst h1
    simp [ev] at this
    simp [evs,evb] at this
   ·simp only [Chk.holds,evs,evb];exact ⟨d3,by omega,by omega⟩
  ·exact ⟨_,z00,rfl,true,rfl,fun _=>rfl⟩
  ·simp only [evs,evb,zdf] at g7
   rcases hbest with ⟨h1,h2⟩ | ⟨h1,h2,h3⟩
   ·omega
   obtain ⟨bn,rfl⟩:∃bn:Nat,best=(bn:Int):=⟨best.toNat,by omega⟩
   obtain ⟨e3,e4⟩:=rdD bn (by omega)
   refine ⟨[.int .i64 (degN N st (r:Int):Int)],rfl,?_,[.int .i64 (degN N st (bn:Int):Int)],rfl,?_,_,z00,rfl,_,rfl,fun h=>by omega⟩
   ·simp only [evs,evb];exact d4
   ·simp only [evs,evb];exact e4
 rintro vs K _ ⟨rfl,best,rfl,hbi,hbn,hbd⟩
 simp only [cns]
 obtain ⟨g3,g4⟩:=rdG best hbi
 refine ⟨fun _=>?_,?_⟩
 ·simp only [Chk.holds,evs,evb];exact ⟨g3,by omega,by omega⟩
 have hp1:[orow 3 st (.slice sb st.length sc),orow 3 l3 (.slice db i dc),orow 4 gn (.slice nb i nc)].Perm [orow 4 gn (.slice nb i nc),orow 3 st (.slice sb st.length sc),orow 3 l3 (.slice db i dc)]:=
  List.perm_append_comm (l₁:=[orow 3 st (.slice sb st.length sc),orow 3 l3 (.slice db i dc)]) (l₂:=[orow 4 gn (.slice nb i nc)])
 refine z1t (i:=best) (a':=true) (us:=[.bool true]) ?_ (h3.perm hp1) (hgn best hbi) rfl ?_ (by simp [oneC]) zji fun K4 h4=>?_
 ·simp only [evs,evb];rfl
 ·simp only [evs,evb]
 refine z0m (more:=[(best:Int)]) (b:=8) [.int .i64 (best:Int)] z0q z0i rfl (by decide) (by decide) (h4.perm (List.Perm.swap _ _ _)) (by kernel_rfl) (.cons (z0o (by unfold InI;omega)) .nil) z01 (fun _=>by kernel_rfl) (fun _=>by kernel_rfl)
  (by simp only [maxLen,zlc,List.length_nil];omega) (by simp only [zlc,List.length_nil];omega) fun u v5 S5 K5 l5 h5=>⟨z01,?_⟩
 obtain ⟨sb5,sc5,rfl⟩:=(h5.row (zms)).sl
 simp only [cns]
 have le5:=PH.le_trans le3 l5
 obtain ⟨hm,w,hw1,hw2,hw3⟩:=(hg.le le5).look (best:Int)
 refine z56 (α:=Int) (m:=outM N) (v:=.map (some gr)) (best:Int) (.map none) z9h kIntK (by kernel_rfl) (by kernel_rfl) (by kernel_rfl) (MapR.le hm h5.sh) (by rw [hw1];exact hw2) z01 ?_
 rw [hw1]
 obtain ⟨wm,rfl⟩:∃wm,w=.map wm:=by cases w<;>simp [Tag.ok] at hw2;exact ⟨_,rfl⟩
 simp only [cns]
 have hst5:(st++[(best:Int)]).length=st.length+1:=by simp
 refine zed (m:=encS (adjN N (best:Int))) (v:=.map wm) rfl rfl zbp (by kernel_rfl) h5.sh hw3 (fun y hy=>by obtain ⟨z,_,rfl⟩:=List.mem_map.1 hy;rfl) rfl
  (fun done vs K i' o=>∃l:List Int,vs=[]∧l.length=i∧Held S5 K [.blk i' o,orow 3 l (.slice db i dc),orow 3 (st++[(best:Int)]) (.slice sb5 (st++[(best:Int)]).length sc5),orow 4 (gn.set best true) (.slice nb i nc)]∧∀j,j < i→l[j]?=some ((degN N st (j:Int):Int) - (if (j:Int)∈done then 1 else 0)))
  (fun i' o hi'=>⟨l3,rfl,hl3,?_,fun j hj=>by rw [hd3 j hj];simp⟩) ?_ ?_ ?_ ?_
 ·refine (h5.new hi' o).perm (List.Perm.cons _ ?_)
  exact (List.perm_append_comm (l₁:=[orow 3 (st++[(best:Int)]) (.slice sb5 (st++[(best:Int)]).length sc5),orow 4 (gn.set best true) (.slice nb i nc)]) (l₂:=[orow 3 l3 (.slice db i dc)]))
 ·rintro done vs K i' o ⟨l,rfl,hl,h,_⟩
  exact ⟨h.blk (zms),h.sh⟩
 ·rintro done vs K i' o o' ⟨l,rfl,hl,h,hd⟩
  exact ⟨l,rfl,hl,h.put o',hd⟩
 ·rintro done y wv vs K6 i' o J hy hyd _ ⟨l,rfl,hl6,h6,hd6⟩ hJ
  obtain ⟨y',hy',hyy⟩:=List.mem_map.1 hy
  simp only [Prod.mk.injEq] at hyy
  obtain ⟨rfl,rfl⟩:=hyy
  obtain ⟨hr1,hr2,_,_,hr3,hr4⟩:=ok.rel _ _ hy'
  obtain ⟨yn,rfl⟩:∃yn:Nat,y'=(yn:Int):=⟨y'.toNat,by omega⟩
  have hyi:yn < i:=by omega
  have hgy:=hd6 yn hyi
  rw [if_neg hyd,Int.sub_zero] at hgy
  obtain ⟨t1,_,tcs,t2,t3⟩:=(h6.row (zmm _ (zms))).get hgy
  obtain ⟨rfl,_⟩:=csIK t2
  simp only [cns]
  have hpos:=zxj (N:=N) (g:=st) hbn hr1
  have hdy:=hdeg (yn:Int)
  refine ⟨fun _=>?_,[.int .i64 (degN N st (yn:Int):Int)],rfl,?_,?_⟩
  ·simp only [Chk.holds,evs,evb];exact ⟨t1,by omega,by omega⟩
  ·simp only [evs,evb];exact t3
  refine z1t (i:=yn) (a':=(degN N st (yn:Int):Int) - 1) (us:=[.int .i64 ((degN N st (yn:Int):Int) - 1)]) ?_ (h6.perm (List.Perm.swap _ _ _)) hgy rfl ?_ (by simp [oneC]) (z0o (by unfold InI;omega)) fun K7 h7=>?_
  ·simp only [evs,evb];rfl
  ·simp only [evs,evb];rw [w64 (by omega) (by omega)]
  refine ⟨_,z00,hJ _ _ ⟨l.set yn _,rfl,by simpa using hl6,h7.perm (List.Perm.swap _ _ _),fun j hj=>?_⟩⟩
  rw [List.getElem?_set]
  by_cases e:yn=j
  ·subst e;rw [if_pos rfl,if_pos (by omega),if_pos (zms)]
  ·rw [if_neg e,hd6 j hj]
   have h1:((j:Int)∈(yn:Int)::done)↔(j:Int)∈done:=by rw [List.mem_cons];exact ⟨fun h=>h.elim (fun h=>absurd (Int.ofNat_inj.1 h).symm e) id,.inr⟩
   simp only [h1]
 ·rintro done vs K6 i' o J hdone _ _ ⟨l,rfl,hl6,h6,hd6⟩
  have hdone':∀y,y∈done↔y∈adjN N (best:Int):=fun y=>by
   rw [←hdone,List.map_map]
   simp only [Function.comp_def,List.map_id']
  refine ⟨_,z0s rfl z00,i - (st.length+1),by omega,st++[(best:Int)],_,l,gn.set best true,S5,rfl,by rw [hst5],le5,h6.tail.perm (List.Perm.swap _ _ _),?_,?_,by omega,?_,hl6,fun j hj=>?_,by simpa using hgl,fun j hj=>?_⟩
  ·rw [List.nodup_append]
   exact ⟨hnd,by simp,fun a ha b hb=>by simp at hb;subst hb;exact fun e=>hbn (e ▸ ha)⟩
  ·intro s hs
   rcases List.mem_append.1 hs with hs | hs
   ·exact hrg s hs
   ·rw [List.mem_singleton.1 hs];omega
  ·intro t s hts
   by_cases ht:t < st.length
   ·rw [List.getElem?_append_left ht] at hts
    rw [List.take_append_of_le_length (by omega)]
    exact hord t s hts
   ·have:t=st.length:=by
     have:=(List.getElem?_eq_some_iff.1 hts).1
     omega
    subst this
    rw [List.getElem?_append_right (Nat.le_refl _),Nat.sub_self] at hts
    simp at hts;subst hts
    rw [List.take_left']
    ·exact hbd
    ·rfl
  ·rw [hd6 j hj,Z4l ok hbn]
   have hiff:(j:Int)∈done↔(best:Int)∈adjN N (j:Int):=by
    rw [hdone']
    exact ⟨fun h=>(ok.rel _ _ h).1,fun h=>(ok.rel _ _ h).1⟩
   by_cases h:(j:Int)∈done
   ·have hpos:=zxj (N:=N) (g:=st) hbn (hiff.1 h)
    rw [if_pos h,if_pos (hiff.1 h)]
    congr 1;omega
   ·rw [if_neg h,if_neg (fun hh=>h (hiff.2 hh))];simp
  ·rw [List.getElem?_set]
   by_cases e:best=j
   ·subst e;rw [if_pos rfl,if_pos (by omega)];simp
   ·rw [if_neg e,hgn j hj]
    congr 2
    simp only [List.mem_append,List.mem_singleton,eq_iff_iff]
    exact ⟨.inl,fun h=>h.elim id fun h=>absurd (Int.ofNat_inj.1 h).symm e⟩
theorem zmc:∀(s:List Int) (k:Int),getM (encS s) k=if k∈s then some (Value.int .i64 1) else none
 | [],k=>by simp [encS,getM]
 | a::s,k=>by
  have ih:=zmc s k
  rw [encS,List.map_cons,zli]
  by_cases e:a=k
  ·subst e;simp
  ·rw [if_neg e]
   have:(k∈a::s)↔k∈s:=by rw [List.mem_cons];exact ⟨fun h=>h.elim (fun h=>absurd h.symm e) id,.inr⟩
   simp only [this]
   exact ih
def plAt (pl:List Int) (q:Int):Int:=pl.getD q.toNat 0
theorem Z47 {pl:List Int} {q:Nat} {a:Int} (h:pl[q]?=some a):plAt pl (q:Int)=a:=by
 unfold plAt;rw [Int.toNat_natCast,zgd,h];rfl
theorem zsc {pl:List Int} {q:Nat} (h:q < pl.length):pl[q]?=some (plAt pl (q:Int)):=by
 unfold plAt;rw [Int.toNat_natCast,zgd,zge h];rfl
structure ColOk (N:List (Int×GN)) (R:Nat) (k:Int) (st:List Int) (i:Nat) (pl:List Int) (most:Int):Prop where
 len:pl.length=R
 bef:∀r:Nat,r < R→(r:Int)∉st.reverse.take i→pl[r]?=some (-1)
 aft:∀(r:Nat) a,pl[r]?=some a→(r:Int)∈st.reverse.take i→0≤a∧a < most
 apart:∀(r q:Nat) a,pl[r]?=some a→pl[q]?=some a→0≤a→(q:Int)∉adjN N (r:Int)
 lo:k≤most
 hi:most≤k+R+1
 used:∀s,k≤s→s < most→s∈pl
 tight:k < most→∃(t:Nat) (s:Nat),st[t]?=some (s:Int)∧s < R∧∀u:Nat,u < R→(u:Int)∉st.take t→k≤degN N (st.take t) u
 few:∀(r:Nat) a,pl[r]?=some a→a≤((adjN N (r:Int)).length:Int)
theorem zk0 (j:Nat):((List.range j).map Int.ofNat).Nodup:=by
 rw [List.Nodup,List.pairwise_map]
 exact (List.nodup_range (n:=j)).imp fun h e=>h (Int.ofNat.inj e)
theorem Z6q {R:Nat} {st:List Int} (hn:st.Nodup) (hl:st.length=R) (hr:∀s:Int,s∈st→0≤s∧s < R) (j:Nat) (hj:j < R):(j:Int)∈st:=by
 refine Classical.byContradiction fun hno=>?_
 have h1:((j:Int)::st).length≤((List.range R).map Int.ofNat).length:=z0k (List.nodup_cons.2 ⟨hno,hn⟩) fun y hy=>by
  rcases List.mem_cons.1 hy with rfl | hy
  ·exact List.mem_map.2 ⟨j,List.mem_range.2 hj,rfl⟩
  ·have:=hr y hy
   exact List.mem_map.2 ⟨y.toNat,List.mem_range.2 (by omega),show ((y.toNat:Nat):Int)=y by omega⟩
 rw [List.length_map,List.length_range,zlc] at h1
 omega
theorem Z3g {N:List (Int×GN)} {R:Nat} {k:Int} {st:List Int} {i:Nat} {pl:List Int} {most:Int} (ok:GraphOk R N) (hk:1≤k) (hn:st.Nodup) (hl:st.length=R) (hr:∀s:Int,s∈st→0≤s∧s < R) (hord:OrdOk N R k st) (h:ColOk N R k st i pl most) {r:Nat} (hri:st.reverse[i]?=some (r:Int)) (hrR:r < R) {j:Nat}
  (hj:∀x:Nat,x < j→∃q∈adjN N (r:Int),plAt pl q=(x:Int)) (hnj:¬∃q∈adjN N (r:Int),plAt pl q=(j:Int)) (hjR:j≤R) :
  ColOk N R k st (i+1) (pl.set r (j:Int)) (if (j:Int)+1 > most then (j:Int)+1 else most):=by
 have hnr:st.reverse.Nodup:=List.pairwise_reverse.2 (hn.imp fun h=>Ne.symm h)
 have hiR:i < R:=by have:=(List.getElem?_eq_some_iff.1 hri).1;rwa [List.length_reverse,hl] at this
 have htk:∀y,y∈st.reverse.take (i+1)↔y∈st.reverse.take i∨y=(r:Int):=fun y=>by
  rw [List.take_add_one,hri];simp
 have hnot:(r:Int)∉st.reverse.take i:=fun hm=>by
  obtain ⟨a,ha⟩:=List.getElem?_of_mem hm
  rw [List.getElem?_take] at ha
  split at ha
  ·rename_i hai
   have:=(List.getElem?_inj (List.getElem?_eq_some_iff.1 ha).1 hnr).1 (ha.trans hri.symm)
   omega
  ·cases ha
 have hplr:=h.bef r hrR hnot
 have hlen:=h.len
 have hq:∀q∈adjN N (r:Int),∃qn:Nat,q=(qn:Int)∧qn < R∧qn≠r∧pl[qn]?=some (plAt pl q):=fun q hq=>by
  obtain ⟨_,h1,_,_,h2,h3⟩:=ok.rel _ _ hq
  refine ⟨q.toNat,by omega,by omega,fun e=>h1 (by omega),?_⟩
  have:=zsc (pl:=pl) (q:=q.toNat) (by omega)
  rwa [show ((q.toNat:Nat):Int)=q by omega] at this
 have hset:∀q:Nat,q≠r→(pl.set r (j:Int))[q]?=pl[q]?:=fun q hne=>by rw [List.getElem?_set,if_neg (Ne.symm hne)]
 have hsetr:(pl.set r (j:Int))[r]?=some (j:Int):=by rw [List.getElem?_set,if_pos rfl,if_pos (by omega)]
 refine ⟨by simpa using h.len,fun x hx hxn=>?_,fun x a ha hx=>?_,fun x q a hx hqa ha hadj=>?_,?_,?_,fun s hs1 hs2=>?_,fun hm=>?_,fun x a hx=>?_⟩
 ·rw [htk] at hxn
  rw [hset x (fun e=>hxn (.inr (by rw [e])))]
  exact h.bef x hx fun hh=>hxn (.inl hh)
 ·by_cases e:x=r
  ·subst e
   rw [hsetr] at ha;cases ha
   split<;>omega
  ·rw [hset x e] at ha
   have:=h.aft x a ha (((htk x).1 hx).resolve_right fun hh=>e (by omega))
   split<;>omega
 ·by_cases e:x=r
  ·subst e
   rw [hsetr] at hx;cases hx
   obtain ⟨qn,h1,_,h2,h3⟩:=hq _ hadj
   have:qn=q:=by omega
   subst this
   rw [hset qn h2,h3] at hqa
   exact hnj ⟨_,hadj,Option.some.inj hqa⟩
  ·rw [hset x e] at hx
   by_cases e2:q=r
   ·subst e2
    rw [hsetr] at hqa;cases hqa
    exact hnj ⟨_,(ok.rel _ _ hadj).1,Z47 hx⟩
   ·rw [hset q e2] at hqa
    exact h.apart x q a hx hqa ha hadj
 ·have:=h.lo;split<;>omega
 ·have:=h.hi;have:=h.lo;split<;>omega
 ·by_cases hsm:s < most
  ·obtain ⟨a,ha⟩:=List.getElem?_of_mem (h.used s hs1 hsm)
   have hne:a≠r:=fun e=>by subst e;rw [hplr] at ha;cases ha;omega
   exact List.mem_of_getElem? (i:=a) (by rw [hset a hne];exact ha)
  ·have hle:s≤(j:Int):=by split at hs2<;>omega
   by_cases e:s=(j:Int)
   ·subst e;exact List.mem_of_getElem? hsetr
   ·obtain ⟨q,hqa,hqs⟩:=hj s.toNat (by omega)
    obtain ⟨qn,rfl,_,h2,h3⟩:=hq q hqa
    refine List.mem_of_getElem? (i:=qn) ?_
    rw [hset qn h2,h3,hqs]
    congr 1;omega
 ·by_cases hkm:k < most
  ·exact h.tight hkm
  ·have hjk:k≤(j:Int):=by have:=h.lo;split at hm<;>omega
   have hst:st[R - 1 - i]?=some (r:Int):=by
    rw [List.getElem?_reverse (by omega)] at hri
    rw [hl] at hri;exact hri
   refine ⟨R - 1 - i,r,hst,hrR,?_⟩
   have hdeg:j≤degN N (st.take (R - 1 - i)) (r:Int):=by
    have h1:((List.range j).map Int.ofNat).length≤(((adjN N (r:Int)).filter fun d=>decide (d∉st.take (R - 1 - i))).map (plAt pl)).length:=z0k (zk0 j) fun y hy=>by
     obtain ⟨x,hx,rfl⟩:=List.mem_map.1 hy
     obtain ⟨q,hqa,hqx⟩:=hj x (List.mem_range.1 hx)
     refine List.mem_map.2 ⟨q,List.mem_filter.2 ⟨hqa,decide_eq_true fun hin=>?_⟩,hqx⟩
     obtain ⟨qn,rfl,h1,h2,h3⟩:=hq q hqa
     have hmem:(qn:Int)∈st.reverse.take i:=Classical.byContradiction fun hno=>by
      have:=h.bef qn h1 hno
      rw [h3,hqx] at this
      have:=Option.some.inj this
      omega
     rw [List.take_reverse,List.mem_reverse,hl] at hmem
     obtain ⟨a,ha⟩:=List.getElem?_of_mem hmem
     obtain ⟨b,hb⟩:=List.getElem?_of_mem hin
     rw [List.getElem?_drop] at ha
     rw [List.getElem?_take] at hb
     split at hb
     ·have:=(List.getElem?_inj (List.getElem?_eq_some_iff.1 ha).1 hn).1 (ha.trans hb.symm)
      omega
     ·cases hb
    rw [List.length_map,List.length_range,List.length_map] at h1
    exact h1
   rcases hord _ _ hst with h5 | h5
   ·omega
   ·exact h5
 ·by_cases e:x=r
  ·subst e
   rw [hsetr] at hx;cases hx
   have h1:((List.range j).map Int.ofNat).length≤((adjN N (x:Int)).map (plAt pl)).length:=z0k (zk0 j) fun y hy=>by
    obtain ⟨z,hz,rfl⟩:=List.mem_map.1 hy
    obtain ⟨q,hqa,hqx⟩:=hj z (List.mem_range.1 hz)
    exact List.mem_map.2 ⟨q,hqa,hqx⟩
   rw [List.length_map,List.length_range,List.length_map] at h1
   omega
  ·rw [hset x e] at hx
   exact h.few x a hx
theorem zqk (f:Nat→Bool):∀n,cntB f n=((List.range n).filter f).length
 | 0=>rfl
 | n+1=>by
  rw [List.range_succ,List.filter_append,zla,←zqk f n]
  simp only [cntB,List.filter_cons,List.filter_nil]
  split<;>simp
theorem zzw {p:PrcX} {N:List (Int×GN)} {R:Nat} {k:Int} {g:List Int} (ok:GraphOk R N) (hrel:∀a b,b∈adjN N a↔a≠b∧MeetP p a b) (h:∀u:Nat,u < R→(u:Int)∉g→k≤degN N g u):Z16 R (fun a b=>MeetP p (a:Int) (b:Int)) k fun i=>decide ((i:Int)∉g):=by
 intro i hi hu
 refine ⟨fun j=>decide ((j:Int)∈adjN N (i:Int)) && decide ((j:Int)∉g),fun j hj hf=>?_,?_⟩
 ·rw [zba,zdt,zdt] at hf
  have:=(hrel _ _).1 hf.1
  exact ⟨decide_eq_true hf.2,fun e=>this.1 (by rw [e]),this.2⟩
 ·have h1:=h i hi (of_decide_eq_true hu)
  rw [zqk]
  have h2:((adjN N (i:Int)).filter fun d=>decide (d∉g)).length≤(((List.range R).filter fun j:Nat=>decide ((j:Int)∈adjN N (i:Int)) && decide ((j:Int)∉g)).map Int.ofNat).length:=z0k ((ok.nd _).filter _) fun d hd=>by
   obtain ⟨h3,h4⟩:=List.mem_filter.1 hd
   obtain ⟨_,_,_,_,h5,h6⟩:=ok.rel _ _ h3
   refine List.mem_map.2 ⟨d.toNat,List.mem_filter.2 ⟨List.mem_range.2 (by omega),?_⟩,show ((d.toNat:Nat):Int)=d by omega⟩
   rw [show ((d.toNat:Nat):Int)=d by omega,decide_eq_true h3]
   exact h4
  rw [List.length_map] at h2
  unfold degN at h1
  omega
structure Placed (p:PrcX) (k n:Int) (l:List Int):Prop where
 len:l.length=p.regs.toNat
 lo:0≤n
 hi:n≤2001
 all:∀(r:Nat) a,l[r]?=some a→0≤a∧a - k < n
 apart:∀(r q:Nat) a,l[r]?=some a→l[q]?=some a→r≠q→¬MeetP p (r:Int) (q:Int)
 used:∀s,k≤s→s - k < n→s∈l
 few:∀(r:Nat) a,l[r]?=some a→∃m:List Int,m.Nodup∧(∀y∈m,(r:Int)≠y∧MeetP p (r:Int) y)∧a≤(m.length:Int)
 tight:0 < n→∃U,Z16 p.regs.toNat (fun a b=>MeetP p (a:Int) (b:Int)) k U∧∃i,i < p.regs.toNat∧U i=true
theorem Z2e {p:PrcX} {N:List (Int×GN)} {R:Nat} {k most:Int} {st pl:List Int} (hR:p.regs=(R:Int)) (hR2:R≤2000) (ok:GraphOk R N) (hrel:∀a b,b∈adjN N a↔a≠b∧MeetP p a b) (hn:st.Nodup) (hl:st.length=R) (hr:∀s:Int,s∈st→0≤s∧s < R) (h:ColOk N R k st R pl most):Placed p k (most - k) pl:=by
 have hRt:p.regs.toNat=R:=by omega
 have hall:∀r:Nat,r < R→(r:Int)∈st.reverse.take R:=fun r hr'=>by
  rw [List.take_of_length_le (by rw [List.length_reverse];omega),List.mem_reverse]
  exact Z6q hn hl hr r hr'
 have hlo:=h.lo
 have hhi:=h.hi
 have hlt:∀{r:Nat} {a:Int},pl[r]?=some a→r < R:=fun h1=>by have:=(List.getElem?_eq_some_iff.1 h1).1;rwa [h.len] at this
 refine ⟨by rw [hRt];exact h.len,by omega,by omega,fun r a ha=>?_,fun r q a h1 h2 h3 h4=>?_,fun s hs1 hs2=>h.used s hs1 (by omega),fun r a ha=>⟨adjN N (r:Int),ok.nd _,fun y hy=>(hrel _ _).1 hy,h.few r a ha⟩,fun hm=>?_⟩
 ·have:=h.aft r a ha (hall r (hlt ha));omega
 ·have:=h.aft r a h1 (hall r (hlt h1))
  exact h.apart r q a h1 h2 this.1 ((hrel _ _).2 ⟨fun e=>h3 (by omega),h4⟩)
 ·obtain ⟨t,s,hs,hsR,hu⟩:=h.tight (by omega)
  rw [hRt]
  refine ⟨_,zzw ok hrel hu,s,hsR,decide_eq_true fun hin=>?_⟩
  obtain ⟨b,hb⟩:=List.getElem?_of_mem hin
  rw [List.getElem?_take] at hb
  split at hb
  ·have:=(List.getElem?_inj (List.getElem?_eq_some_iff.1 hb).1 hn).1 (hb.trans hs.symm)
   omega
  ·cases hb
theorem Z21 {p:PrcX} {a b:Int}:MeetP p a b→MeetP p b a:=by
 rintro (⟨h1,h2⟩ | ⟨f,hf,h | h⟩)
 ·exact .inl ⟨h2,h1⟩
 ·exact .inr ⟨f,hf,.inr h⟩
 ·exact .inr ⟨f,hf,.inl h⟩
theorem zxe {p:PrcX} (h:mayP p=true) {a b:Int} (hm:MeetP p a b):(0≤a∧a < p.regs)∧0≤b∧b < p.regs:=by
 rcases hm with ⟨h1,h2⟩ | ⟨f,hf,⟨h1,h2⟩ | ⟨h1,h2⟩⟩
 ·exact ⟨zeo h h1,zeo h h2⟩
 ·exact ⟨h1 ▸ (zka h hf).1,(zka h hf).2 _ h2⟩
 ·exact ⟨(zka h hf).2 _ h2,h1 ▸ (zka h hf).1⟩
theorem zpk {p:PrcX} {S:PH} {v:Value} {N:List (Int×GN)} {R:Nat} (hR:p.regs=(R:Int)) (hmay:mayP p=true) (h:GraphR S v N) (hrel:∀a b,relN N a b↔a≠b∧MeetP p a b):GraphOk R N∧∀a b,b∈adjN N a↔a≠b∧MeetP p a b:=by
 have hadj:∀a b,b∈adjN N a↔a≠b∧MeetP p a b:=fun a b=>(Z4t h.keys a b).trans (hrel a b)
 refine ⟨⟨h.keys,h.adj_nodup,fun c d hd=>?_⟩,hadj⟩
 obtain ⟨h1,h2⟩:=(hadj c d).1 hd
 have h3:=zxe hmay h2
 exact ⟨(hadj d c).2 ⟨Ne.symm h1,Z21 h2⟩,h1,by omega,by omega,by omega,by omega⟩
structure VX where
 kind:Int
 int:Int
 text:List UInt8
deriving DecidableEq,Inhabited
structure TX where
 kind:Int
 parts:List VX
deriving DecidableEq,Inhabited
abbrev HX:=List TX
def VX.pv (v:VX):List PV:=[.int .i64 v.kind,.int .i64 v.int,.str v.text]
instance encVal:Enc VX:=⟨VX.pv,3,fun _=>rfl⟩
theorem val_iff {H:PH} {v:VX} {cs:List Value}:CsR H v cs↔cs=[.int .i64 v.kind,.int .i64 v.int,txt v.text]∧InI v.kind∧InI v.int∧v.text.length≤maxLen:=by
 show PV.RepRow H (VX.pv v) cs↔_
 simp only [VX.pv,PV.RepRow,repI_iff,zfq]
 constructor
 ·rintro ⟨v1,_,rfl,⟨rfl,h1⟩,v2,_,rfl,⟨rfl,h2⟩,v3,_,rfl,⟨rfl,h3⟩,rfl⟩
  exact ⟨rfl,h1,h2,h3⟩
 ·rintro ⟨rfl,h1,h2,h3⟩
  exact ⟨_,_,rfl,⟨rfl,h1⟩,_,_,rfl,⟨rfl,h2⟩,_,_,rfl,⟨rfl,h3⟩,rfl⟩
structure TR where
 kind:Int
 b:Option Addr
 n:Nat
 c:Nat
def TR.sl (t:TR):Value:=.slice t.b t.n t.c
def TR.pv (t:TR):List PV:=[.int .i64 t.kind,.own t.b t.n t.c]
instance encThing:Enc TR:=⟨TR.pv,2,fun _=>rfl⟩
theorem thing_iff {H:PH} {t:TR} {cs:List Value}:CsR H t cs↔cs=[.int .i64 t.kind,t.sl]∧InI t.kind:=by
 show PV.RepRow H (TR.pv t) cs↔_
 simp only [TR.pv,PV.RepRow,repI_iff,PV.Rep]
 constructor
 ·rintro ⟨v1,_,rfl,⟨rfl,h1⟩,v2,_,rfl,rfl,rfl⟩
  exact ⟨rfl,h1⟩
 ·rintro ⟨rfl,h1⟩
  exact ⟨_,_,rfl,⟨rfl,h1⟩,_,_,rfl,rfl,rfl⟩
def isNum (n:Int):Bool:=decide (-1152921504606846976≤n∧n≤1152921504606846975)
def mayV (n:Nat) (v:VX):Bool:=
 if v.kind≠3∧v.text≠[] then false
 else if v.kind=0 then decide (v.int=0∨v.int=1)
 else if v.kind=1 then isNum v.int
 else if v.kind=2 then decide (0≤v.int∧v.int≤255)
 else if v.kind=3 then decide (v.int=0) && z5b v.text
 else if v.kind=4∨v.kind=5∨v.kind=6∨v.kind=7 then decide (v.int=0)
 else if v.kind=8 then decide (0≤v.int∧v.int < (n:Int))
 else false
def z0c (b:Bool):VX:=⟨0,if b then 1 else 0,[]⟩
def vNum (n:Int):VX:=⟨1,n,[]⟩
def vVoid:VX:=⟨5,0,[]⟩
def addX (h:HX) (kind:Int) (parts:List VX):HX×VX:=(h++[⟨kind,parts⟩],⟨8,h.length,[]⟩)
def z0z (h:HX) (v:VX):Int:=if v.kind≠8 then -1 else (h.getD v.int.toNat default).kind
def z2v (op:Nat) (x y:Int):VX×Int:=
 let told (n:Int):VX×Int:=if isNum n then (vNum n,0) else (⟨0,0,[]⟩,1)
 match op with
 | 0=>told (x+y)
 | 1=>told (x - y)
 | 2=>told (x * y)
 | 3=>if y=0 then (⟨0,0,[]⟩,2) else told (x.tdiv y)
 | _=>if y=0 then (⟨0,0,[]⟩,2) else told (x.tmod y)
def rowsX:List (List UInt8×List Int):=[([43],[1,1]),
 ([45],[1,1]),
 ([42],[1,1]),
 ([113,117,111,116,105,101,110,116],[1,1]),
 ([114,101,109,97,105,110,100,101,114],[1,1]),
 ([60],[1,1]),
 ([61],[1,1]),
 ([101,113,63],[-1,-1]),
 ([110,117,108,108,63],[-1]),
 ([115,121,109,98,111,108,63],[-1]),
 ([99,104,97,114,63],[-1]),
 ([105,110,116,101,103,101,114,63],[-1]),
 ([98,111,111,108,101,97,110,63],[-1]),
 ([101,111,102,45,111,98,106,101,99,116,63],[-1]),
 ([112,97,105,114,63],[-1]),
 ([118,101,99,116,111,114,63],[-1]),
 ([115,116,114,105,110,103,63],[-1]),
 ([112,114,111,99,101,100,117,114,101,63],[-1]),
 ([99,111,110,115],[-1,-1]),
 ([99,97,114],[10]),
 ([99,100,114],[10]),
 ([115,101,116,45,99,97,114,33],[10,-1]),
 ([115,101,116,45,99,100,114,33],[10,-1]),
 ([109,97,107,101,45,118,101,99,116,111,114],[1,-1]),
 ([109,97,107,101,45,115,116,114,105,110,103],[1,2]),
 ([118,101,99,116,111,114,45,108,101,110,103,116,104],[11]),
 ([115,116,114,105,110,103,45,108,101,110,103,116,104],[12]),
 ([118,101,99,116,111,114,45,114,101,102],[11,1]),
 ([115,116,114,105,110,103,45,114,101,102],[12,1]),
 ([118,101,99,116,111,114,45,115,101,116,33],[11,1,-1]),
 ([115,116,114,105,110,103,45,115,101,116,33],[12,1,2]),
 ([99,104,97,114,45,62,105,110,116,101,103,101,114],[2]),
 ([105,110,116,101,103,101,114,45,62,99,104,97,114],[1]),
 ([37,98,111,120],[-1]),
 ([37,117,110,98,111,120],[13]),
 ([37,115,101,116,45,98,111,120,33],[13,-1]),
 ([118,111,105,100],[]),
 ([37,117,110,115,101,116],[])]
def kOk (h:HX) (k:Int) (v:VX):Bool:=if 10≤k then decide (z0z h v=k - 10) else if 0≤k then decide (v.kind=k) else true
def vNone:VX:=⟨0,0,[]⟩
def getX (h:HX) (v:VX) (i:Int):VX×Int:=
 let l:=(h.getD v.int.toNat default).parts
 if i < 0∨(l.length:Int)≤i then (vNone,83) else (l.getD i.toNat default,0)
def putX (h:HX) (v:VX) (i:Int) (x:VX):HX×VX×Int:=
 let t:=h.getD v.int.toNat default
 if i < 0∨(t.parts.length:Int)≤i then (h,vNone,83) else (h.set v.int.toNat ⟨t.kind,t.parts.set i.toNat x⟩,vVoid,0)
def z1i (h:HX) (kind n:Int) (v:VX):HX×VX×Int:=
 if n < 0∨1000 < n then (h,vNone,83) else ((addX h kind (List.replicate n.toNat v)).1,(addX h kind (List.replicate n.toNat v)).2,0)
def z0b (h:HX) (op:Nat) (a b:VX):HX×VX×Int:=
 let r:=z2v op a.int b.int
 if r.2=1 then (h,vNone,81) else if r.2=2 then (h,vNone,82) else (h,r.1,0)
def actX (h:HX) (s:List UInt8) (args:List VX):HX×VX×Int:=
 let a:=args.getD 0 vNone
 let b:=args.getD 1 vNone
 let c:=args.getD 2 vNone
 let told (v:VX):HX×VX×Int:=(h,v,0)
 if s=[43] then z0b h 0 a b
 else if s=[45] then z0b h 1 a b
 else if s=[42] then z0b h 2 a b
 else if s=[113,117,111,116,105,101,110,116] then z0b h 3 a b
 else if s=[114,101,109,97,105,110,100,101,114] then z0b h 4 a b
 else if s=[60] then told (z0c (decide (a.int < b.int)))
 else if s=[61]∨s=[101,113,63] then told (z0c (decide (a=b)))
 else if s=[110,117,108,108,63] then told (z0c (decide (a.kind=4)))
 else if s=[115,121,109,98,111,108,63] then told (z0c (decide (a.kind=3)))
 else if s=[99,104,97,114,63] then told (z0c (decide (a.kind=2)))
 else if s=[105,110,116,101,103,101,114,63] then told (z0c (decide (a.kind=1)))
 else if s=[98,111,111,108,101,97,110,63] then told (z0c (decide (a.kind=0)))
 else if s=[101,111,102,45,111,98,106,101,99,116,63] then told (z0c (decide (a.kind=6)))
 else if s=[112,97,105,114,63] then told (z0c (decide (z0z h a=0)))
 else if s=[118,101,99,116,111,114,63] then told (z0c (decide (z0z h a=1)))
 else if s=[115,116,114,105,110,103,63] then told (z0c (decide (z0z h a=2)))
 else if s=[112,114,111,99,101,100,117,114,101,63] then told (z0c (decide (z0z h a=4)))
 else if s=[99,111,110,115] then ((addX h 0 args).1,(addX h 0 args).2,0)
 else if s=[37,98,111,120] then ((addX h 3 args).1,(addX h 3 args).2,0)
 else if s=[109,97,107,101,45,118,101,99,116,111,114] then z1i h 1 a.int b
 else if s=[109,97,107,101,45,115,116,114,105,110,103] then z1i h 2 a.int b
 else if s=[118,101,99,116,111,114,45,108,101,110,103,116,104]∨s=[115,116,114,105,110,103,45,108,101,110,103,116,104] then told (vNum (h.getD a.int.toNat default).parts.length)
 else if s=[99,97,114]∨s=[37,117,110,98,111,120] then (h,getX h a 0)
 else if s=[99,100,114] then (h,getX h a 1)
 else if s=[118,101,99,116,111,114,45,114,101,102]∨s=[115,116,114,105,110,103,45,114,101,102] then (h,getX h a b.int)
 else if s=[115,101,116,45,99,97,114,33]∨s=[37,115,101,116,45,98,111,120,33] then putX h a 0 b
 else if s=[115,101,116,45,99,100,114,33] then putX h a 1 b
 else if s=[118,101,99,116,111,114,45,115,101,116,33]∨s=[115,116,114,105,110,103,45,115,101,116,33] then putX h a b.int c
 else if s=[99,104,97,114,45,62,105,110,116,101,103,101,114] then told (vNum a.int)
 else if s=[105,110,116,101,103,101,114,45,62,99,104,97,114] then if a.int < 0∨255 < a.int then (h,vNone,83) else told ⟨2,a.int,[]⟩
 else if s=[37,117,110,115,101,116] then told ⟨7,0,[]⟩
 else told vVoid
def doX (h:HX) (s:List UInt8) (args:List VX):HX×VX×Int:=
 match rowsX.find? fun r=>decide (r.1=s) with
 | none=>(h,vNone,1)
 | some r=>
  if r.2.length≠args.length then (h,vNone,1)
  else if !args.all (mayV h.length) then (h,vNone,1)
  else if !((r.2.zip args).all fun x=>kOk h x.1 x.2) then (h,vNone,80)
  else actX h s args
structure HeapOk (h:HX):Prop where
 may:∀t∈h,∀v∈t.parts,mayV h.length v=true
 kinds:∀t∈h,0≤t.kind∧t.kind≤4
 pair:∀t∈h,t.kind=0→t.parts.length=2
 box:∀t∈h,t.kind=3→t.parts.length=1
 str:∀t∈h,t.kind=2→∀v∈t.parts,v.kind=2
 few:∀t∈h,(t.parts.length:Int)≤1000
theorem zu4 {n m:Nat} (hnm:n≤m) {v:VX} (h:mayV n v=true):mayV m v=true:=by
 unfold mayV at *
 split at h
 ·cases h
 ·rename_i h0
  rw [if_neg h0]
  split at h
  ·rename_i h1;rw [if_pos h1];exact h
  ·rename_i h1;rw [if_neg h1]
   split at h
   ·rename_i h2;rw [if_pos h2];exact h
   ·rename_i h2;rw [if_neg h2]
    split at h
    ·rename_i h3;rw [if_pos h3];exact h
    ·rename_i h3;rw [if_neg h3]
     split at h
     ·rename_i h4;rw [if_pos h4];exact h
     ·rename_i h4;rw [if_neg h4]
      split at h
      ·rename_i h5;rw [if_pos h5];exact h
      ·rename_i h5;rw [if_neg h5]
       split at h
       ·rename_i h6
        rw [if_pos h6]
        have:=of_decide_eq_true h
        exact decide_eq_true (by omega)
       ·cases h
theorem zxy {h:HX} (ok:HeapOk h) {kind:Int} {parts:List VX} (hk:0≤kind∧kind≤4) (hp:∀v∈parts,mayV h.length v=true) (h0:kind=0→parts.length=2) (h3:kind=3→parts.length=1) (h2:kind=2→∀v∈parts,v.kind=2) (hf:(parts.length:Int)≤1000):HeapOk (addX h kind parts).1∧mayV (addX h kind parts).1.length (addX h kind parts).2=true:=by
 have hl:(addX h kind parts).1.length=h.length+1:=by simp [addX]
 have hmem:∀t,t∈(addX h kind parts).1→t∈h∨t=⟨kind,parts⟩:=fun t ht=>by simpa [addX] using ht
 refine ⟨⟨fun t ht v hv=>?_,fun t ht=>?_,fun t ht e=>?_,fun t ht e=>?_,fun t ht e=>?_,fun t ht=>?_⟩,?_⟩
 ·rw [hl]
  rcases hmem t ht with h | rfl
  ·exact zu4 (Nat.le_succ _) (ok.may t h v hv)
  ·exact zu4 (Nat.le_succ _) (hp v hv)
 ·rcases hmem t ht with h | rfl
  ·exact ok.kinds t h
  ·exact hk
 ·rcases hmem t ht with h | rfl
  ·exact ok.pair t h e
  ·exact h0 e
 ·rcases hmem t ht with h | rfl
  ·exact ok.box t h e
  ·exact h3 e
 ·rcases hmem t ht with h | rfl
  ·exact ok.str t h e
  ·exact h2 e
 ·rcases hmem t ht with h | rfl
  ·exact ok.few t h
  ·exact hf
 ·rw [hl]
  show mayV (h.length+1) ⟨8,(h.length:Int),[]⟩=true
  unfold mayV
  simp
  omega
def GoodX (h:HX) (x:HX×VX×Int):Prop:=HeapOk x.1∧h.length≤x.1.length∧mayV x.1.length x.2.1=true
theorem z3f (n:Nat):mayV n vNone=true:=by simp [mayV,vNone]
theorem zuv (n:Nat):mayV n vVoid=true:=by simp [mayV,vVoid]
theorem z20 (n:Nat) (b:Bool):mayV n (z0c b)=true:=by cases b<;>simp [mayV,z0c]
theorem zn1 {n:Nat} {i:Int} (h:isNum i=true):mayV n (vNum i)=true:=by simp [mayV,vNum,h]
theorem z0g {h:HX} (ok:HeapOk h) {v:VX} (hv:mayV h.length v=true) (e:Int):GoodX h (h,v,e):=⟨ok,Nat.le_refl _,hv⟩
theorem zoj {h:HX} (ok:HeapOk h) {kind:Int} {parts:List VX} (hk:0≤kind∧kind≤4) (hp:∀v∈parts,mayV h.length v=true) (h0:kind=0→parts.length=2) (h3:kind=3→parts.length=1) (h2:kind=2→∀v∈parts,v.kind=2) (hf:(parts.length:Int)≤1000) (e:Int):GoodX h ((addX h kind parts).1,(addX h kind parts).2,e):=by
 obtain ⟨h4,h5⟩:=zxy ok hk hp h0 h3 h2 hf
 exact ⟨h4,by simp [addX],h5⟩
theorem zfx {h:HX} (ok:HeapOk h) (v:VX) (i:Int):GoodX h (h,getX h v i):=by
 unfold getX
 simp only
 split
 ·exact z0g ok (z3f _) _
 ·rename_i hi
  refine z0g ok ?_ _
  have hlt:i.toNat < (h.getD v.int.toNat default).parts.length:=by omega
  rw [zgd,zge hlt]
  have hin:h.getD v.int.toNat default∈h:=by
   rw [zgd]
   cases hx:h[v.int.toNat]? with
   | none=>
    rw [zgd,hx] at hlt
    exact absurd hlt (by simp [show (default:TX).parts=[] from rfl])
   | some t=>exact List.mem_of_getElem? hx
  exact ok.may _ hin _ (List.getElem_mem hlt)
theorem znw {h:HX} (ok:HeapOk h) {kind n:Int} {v:VX} (hk:kind=1∨kind=2) (hv:mayV h.length v=true) (h2:kind=2→v.kind=2):GoodX h (z1i h kind n v):=by
 unfold z1i
 split
 ·exact z0g ok (z3f _) _
 ·refine zoj ok (by omega) (fun x hx=>by rw [(List.mem_replicate.1 hx).2];exact hv) (by omega) (by omega) (fun e x hx=>by rw [(List.mem_replicate.1 hx).2];exact h2 e) (by rw [List.length_replicate];omega) _
theorem zeu {h:HX} (ok:HeapOk h) (v:VX) (i:Int) {x:VX} (hx:mayV h.length x=true) (h2:(h.getD v.int.toNat default).kind=2→x.kind=2):GoodX h (putX h v i x):=by
 unfold putX
 simp only
 split
 ·exact z0g ok (z3f _) _
 ·have hset:∀t∈h.set v.int.toNat ⟨(h.getD v.int.toNat default).kind,(h.getD v.int.toNat default).parts.set i.toNat x⟩,t∈h∨(t=⟨(h.getD v.int.toNat default).kind,(h.getD v.int.toNat default).parts.set i.toNat x⟩∧h.getD v.int.toNat default∈h):=fun t ht=>by
   obtain ⟨j,hj⟩:=List.getElem?_of_mem ht
   rw [List.getElem?_set] at hj
   split at hj
   ·split at hj
    ·rename_i _ hlt
     refine .inr ⟨(Option.some.inj hj).symm,?_⟩
     rw [zgd,zge hlt]
     exact List.getElem_mem hlt
    ·cases hj
   ·exact .inl (List.mem_of_getElem? hj)
  refine ⟨⟨fun t ht u hu=>?_,fun t ht=>?_,fun t ht e=>?_,fun t ht e=>?_,fun t ht e u hu=>?_,fun t ht=>?_⟩,by simp,zuv _⟩
  ·simp only [List.length_set]
   rcases hset t ht with h | ⟨rfl,hin⟩
   ·exact ok.may t h u hu
   ·rcases List.mem_or_eq_of_mem_set hu with h | rfl
    ·exact ok.may _ hin u h
    ·exact hx
  ·rcases hset t ht with h' | ⟨rfl,hin⟩
   ·exact ok.kinds t h'
   ·exact ok.kinds (h.getD v.int.toNat default) hin
  ·rcases hset t ht with h | ⟨rfl,hin⟩
   ·exact ok.pair t h e
   ·simpa using ok.pair _ hin e
  ·rcases hset t ht with h | ⟨rfl,hin⟩
   ·exact ok.box t h e
   ·simpa using ok.box _ hin e
  ·rcases hset t ht with h | ⟨rfl,hin⟩
   ·exact ok.str t h e u hu
   ·rcases List.mem_or_eq_of_mem_set hu with h | rfl
    ·exact ok.str _ hin e u h
    ·exact h2 e
  ·rcases hset t ht with h | ⟨rfl,hin⟩
   ·exact ok.few t h
   ·simpa using ok.few _ hin
theorem z5c {h:HX} (ok:HeapOk h) (op:Nat) (a b:VX):GoodX h (z0b h op a b):=by
 have key:∀n:Int,GoodX h (let r:=(if isNum n then (vNum n,(0:Int)) else (⟨0,0,[]⟩,1));if r.2=1 then (h,vNone,81) else if r.2=2 then (h,vNone,82) else (h,r.1,0)):=fun n=>by
  by_cases hn:isNum n=true
  ·simp only [hn,if_true]
   exact z0g ok (zn1 hn) _
  ·simp only [hn,if_false]
   exact z0g ok (z3f _) _
 unfold z0b z2v
 match op with
 | 0=>exact key _
 | 1=>exact key _
 | 2=>exact key _
 | 3=>
  simp only
  split
  ·exact z0g ok (z3f _) _
  ·exact key _
 | n+4=>
  simp only
  split
  ·exact z0g ok (z3f _) _
  ·exact key _
theorem Z4v {h:HX} (ok:HeapOk h) {s:List UInt8} {ks:List Int} (hr:(s,ks)∈rowsX) {args:List VX} (hl:ks.length=args.length) (hm:∀v∈args,mayV h.length v=true) (hk:∀k v,(k,v)∈ks.zip args→kOk h k v=true):GoodX h (actX h s args):=by
 have hlen:∀a:VX,isNum ((h.getD a.int.toNat default).parts.length:Int)=true:=fun a=>by
  have:((h.getD a.int.toNat default).parts.length:Int)≤1000:=by
   rw [zgd]
   cases hx:h[a.int.toNat]? with
   | none=>exact (by decide:((default:TX).parts.length:Int)≤1000)
   | some t=>exact ok.few t (List.mem_of_getElem? hx)
  exact decide_eq_true (by omega)
 have hnot:∀{P:Prop} (a:VX) (k:Int),k=10∨k=11∨k=13→kOk h k a=true→(h.getD a.int.toNat default).kind=2→P:=fun {P} a k hk h1 h2=>by
  unfold kOk z0z at h1
  rw [if_pos (by omega)] at h1
  have h3:=of_decide_eq_true h1
  split at h3
  ·exact (show False by omega).elim
  ·exact (show False by omega).elim
 have hchr:∀a:VX,kOk h 2 a=true→mayV h.length a=true→isNum a.int=true:=fun a h1 h2=>by
  have h3:a.kind=2:=by simpa [kOk] using h1
  unfold mayV at h2
  rw [h3] at h2
  split at h2
  ·cases h2
  ·simp at h2
   exact decide_eq_true (by omega)
 have one:∀{l:List VX},1=l.length→∃a,l=[a]:=fun {l} h=>by
  match l,h with
  | [a],_=>exact ⟨a,rfl⟩
 have two:∀{l:List VX},2=l.length→∃a b,l=[a,b]:=fun {l} h=>by
  match l,h with
  | [a,b],_=>exact ⟨a,b,rfl⟩
 have three:∀{l:List VX},3=l.length→∃a b c,l=[a,b,c]:=fun {l} h=>by
  match l,h with
  | [a,b,c],_=>exact ⟨a,b,c,rfl⟩
 simp only [rowsX,List.mem_cons,Prod.mk.injEq,List.not_mem_nil,or_false] at hr
 rcases hr with ⟨rfl,rfl⟩ | ⟨rfl,rfl⟩ | ⟨rfl,rfl⟩ | ⟨rfl,rfl⟩ | ⟨rfl,rfl⟩ | ⟨rfl,rfl⟩ | ⟨rfl,rfl⟩ | ⟨rfl,rfl⟩ | ⟨rfl,rfl⟩ | ⟨rfl,rfl⟩ | ⟨rfl,rfl⟩ | ⟨rfl,rfl⟩ | ⟨rfl,rfl⟩ | ⟨rfl,rfl⟩ | ⟨rfl,rfl⟩ | ⟨rfl,rfl⟩ | ⟨rfl,rfl⟩ | ⟨rfl,rfl⟩ | ⟨rfl,rfl⟩ | ⟨rfl,rfl⟩ | ⟨rfl,rfl⟩ | ⟨rfl,rfl⟩ | ⟨rfl,rfl⟩ | ⟨rfl,rfl⟩ | ⟨rfl,rfl⟩ | ⟨rfl,rfl⟩ | ⟨rfl,rfl⟩ | ⟨rfl,rfl⟩ | ⟨rfl,rfl⟩ | ⟨rfl,rfl⟩ | ⟨rfl,rfl⟩ | ⟨rfl,rfl⟩ | ⟨rfl,rfl⟩ | ⟨rfl,rfl⟩ | ⟨rfl,rfl⟩ | ⟨rfl,rfl⟩ | ⟨rfl,rfl⟩ | ⟨rfl,rfl⟩
 ·obtain ⟨a,b,rfl⟩:=two hl
  rw [show actX h [43] [a,b]=z0b h 0 a b from by kernel_rfl]
  exact z5c ok 0 a b
 ·obtain ⟨a,b,rfl⟩:=two hl
  rw [show actX h [45] [a,b]=z0b h 1 a b from by kernel_rfl]
  exact z5c ok 1 a b
 ·obtain ⟨a,b,rfl⟩:=two hl
  rw [show actX h [42] [a,b]=z0b h 2 a b from by kernel_rfl]
  exact z5c ok 2 a b
 ·obtain ⟨a,b,rfl⟩:=two hl
  rw [show actX h [113,117,111,116,105,101,110,116] [a,b]=z0b h 3 a b from by kernel_rfl]
  exact z5c ok 3 a b
 ·obtain ⟨a,b,rfl⟩:=two hl
  rw [show actX h [114,101,109,97,105,110,100,101,114] [a,b]=z0b h 4 a b from by kernel_rfl]
  exact z5c ok 4 a b
 ·obtain ⟨a,b,rfl⟩:=two hl
  rw [show actX h [60] [a,b]=(h,z0c (decide (a.int < b.int)),0) from by kernel_rfl]
  exact z0g ok (z20 _ _) _
 ·obtain ⟨a,b,rfl⟩:=two hl
  rw [show actX h [61] [a,b]=(h,z0c (decide (a=b)),0) from by kernel_rfl]
  exact z0g ok (z20 _ _) _
 ·obtain ⟨a,b,rfl⟩:=two hl
  rw [show actX h [101,113,63] [a,b]=(h,z0c (decide (a=b)),0) from by kernel_rfl]
  exact z0g ok (z20 _ _) _
 ·obtain ⟨a,rfl⟩:=one hl
  rw [show actX h [110,117,108,108,63] [a]=(h,z0c (decide (a.kind=4)),0) from by kernel_rfl]
  exact z0g ok (z20 _ _) _
 ·obtain ⟨a,rfl⟩:=one hl
  rw [show actX h [115,121,109,98,111,108,63] [a]=(h,z0c (decide (a.kind=3)),0) from by kernel_rfl]
  exact z0g ok (z20 _ _) _
 ·obtain ⟨a,rfl⟩:=one hl
  rw [show actX h [99,104,97,114,63] [a]=(h,z0c (decide (a.kind=2)),0) from by kernel_rfl]
  exact z0g ok (z20 _ _) _
 ·obtain ⟨a,rfl⟩:=one hl
  rw [show actX h [105,110,116,101,103,101,114,63] [a]=(h,z0c (decide (a.kind=1)),0) from by kernel_rfl]
  exact z0g ok (z20 _ _) _
 ·obtain ⟨a,rfl⟩:=one hl
  rw [show actX h [98,111,111,108,101,97,110,63] [a]=(h,z0c (decide (a.kind=0)),0) from by kernel_rfl]
  exact z0g ok (z20 _ _) _
 ·obtain ⟨a,rfl⟩:=one hl
  rw [show actX h [101,111,102,45,111,98,106,101,99,116,63] [a]=(h,z0c (decide (a.kind=6)),0) from by kernel_rfl]
  exact z0g ok (z20 _ _) _
 ·obtain ⟨a,rfl⟩:=one hl
  rw [show actX h [112,97,105,114,63] [a]=(h,z0c (decide (z0z h a=0)),0) from by kernel_rfl]
  exact z0g ok (z20 _ _) _
 ·obtain ⟨a,rfl⟩:=one hl
  rw [show actX h [118,101,99,116,111,114,63] [a]=(h,z0c (decide (z0z h a=1)),0) from by kernel_rfl]
  exact z0g ok (z20 _ _) _
 ·obtain ⟨a,rfl⟩:=one hl
  rw [show actX h [115,116,114,105,110,103,63] [a]=(h,z0c (decide (z0z h a=2)),0) from by kernel_rfl]
  exact z0g ok (z20 _ _) _
 ·obtain ⟨a,rfl⟩:=one hl
  rw [show actX h [112,114,111,99,101,100,117,114,101,63] [a]=(h,z0c (decide (z0z h a=4)),0) from by kernel_rfl]
  exact z0g ok (z20 _ _) _
 ·obtain ⟨a,b,rfl⟩:=two hl
  rw [show actX h [99,111,110,115] [a,b]=((addX h 0 [a,b]).1,(addX h 0 [a,b]).2,0) from by kernel_rfl]
  exact zoj ok (by omega) hm (fun _=>rfl) (by omega) (by omega) (by simp) _
 ·obtain ⟨a,rfl⟩:=one hl
  rw [show actX h [99,97,114] [a]=(h,getX h a 0) from by kernel_rfl]
  exact zfx ok a 0
 ·obtain ⟨a,rfl⟩:=one hl
  rw [show actX h [99,100,114] [a]=(h,getX h a 1) from by kernel_rfl]
  exact zfx ok a 1
 ·obtain ⟨a,b,rfl⟩:=two hl
  rw [show actX h [115,101,116,45,99,97,114,33] [a,b]=putX h a 0 b from by kernel_rfl]
  exact zeu ok a 0 (hm b (by simp)) (hnot a 10 (by omega) (hk 10 a (by simp)))
 ·obtain ⟨a,b,rfl⟩:=two hl
  rw [show actX h [115,101,116,45,99,100,114,33] [a,b]=putX h a 1 b from by kernel_rfl]
  exact zeu ok a 1 (hm b (by simp)) (hnot a 10 (by omega) (hk 10 a (by simp)))
 ·obtain ⟨a,b,rfl⟩:=two hl
  rw [show actX h [109,97,107,101,45,118,101,99,116,111,114] [a,b]=z1i h 1 a.int b from by kernel_rfl]
  exact znw ok (.inl rfl) (hm b (by simp)) (by omega)
 ·obtain ⟨a,b,rfl⟩:=two hl
  rw [show actX h [109,97,107,101,45,115,116,114,105,110,103] [a,b]=z1i h 2 a.int b from by kernel_rfl]
  exact znw ok (.inr rfl) (hm b (by simp)) (fun _=>by simpa [kOk] using (hk 2 b (by simp)))
 ·obtain ⟨a,rfl⟩:=one hl
  rw [show actX h [118,101,99,116,111,114,45,108,101,110,103,116,104] [a]=(h,vNum (h.getD a.int.toNat default).parts.length,0) from by kernel_rfl]
  exact z0g ok (zn1 (hlen a)) _
 ·obtain ⟨a,rfl⟩:=one hl
  rw [show actX h [115,116,114,105,110,103,45,108,101,110,103,116,104] [a]=(h,vNum (h.getD a.int.toNat default).parts.length,0) from by kernel_rfl]
  exact z0g ok (zn1 (hlen a)) _
 ·obtain ⟨a,b,rfl⟩:=two hl
  rw [show actX h [118,101,99,116,111,114,45,114,101,102] [a,b]=(h,getX h a b.int) from by kernel_rfl]
  exact zfx ok a b.int
 ·obtain ⟨a,b,rfl⟩:=two hl
  rw [show actX h [115,116,114,105,110,103,45,114,101,102] [a,b]=(h,getX h a b.int) from by kernel_rfl]
  exact zfx ok a b.int
 ·obtain ⟨a,b,c,rfl⟩:=three hl
  rw [show actX h [118,101,99,116,111,114,45,115,101,116,33] [a,b,c]=putX h a b.int c from by kernel_rfl]
  exact zeu ok a b.int (hm c (by simp)) (hnot a 11 (by omega) (hk 11 a (by simp)))
 ·obtain ⟨a,b,c,rfl⟩:=three hl
  rw [show actX h [115,116,114,105,110,103,45,115,101,116,33] [a,b,c]=putX h a b.int c from by kernel_rfl]
  exact zeu ok a b.int (hm c (by simp)) (fun _=>by simpa [kOk] using (hk 2 c (by simp)))
 ·obtain ⟨a,rfl⟩:=one hl
  rw [show actX h [99,104,97,114,45,62,105,110,116,101,103,101,114] [a]=(h,vNum a.int,0) from by kernel_rfl]
  exact z0g ok (zn1 (hchr a (hk 2 a (by simp)) (hm a (by simp)))) _
 ·obtain ⟨a,rfl⟩:=one hl
  rw [show actX h [105,110,116,101,103,101,114,45,62,99,104,97,114] [a]=(if a.int < 0∨255 < a.int then (h,vNone,83) else (h,⟨2,a.int,[]⟩,0)) from by kernel_rfl]
  split
  ·exact z0g ok (z3f _) _
  ·exact z0g ok (by simp [mayV];omega) _
 ·obtain ⟨a,rfl⟩:=one hl
  rw [show actX h [37,98,111,120] [a]=((addX h 3 [a]).1,(addX h 3 [a]).2,0) from by kernel_rfl]
  exact zoj ok (by omega) hm (by omega) (fun _=>rfl) (by omega) (by simp) _
 ·obtain ⟨a,rfl⟩:=one hl
  rw [show actX h [37,117,110,98,111,120] [a]=(h,getX h a 0) from by kernel_rfl]
  exact zfx ok a 0
 ·obtain ⟨a,b,rfl⟩:=two hl
  rw [show actX h [37,115,101,116,45,98,111,120,33] [a,b]=putX h a 0 b from by kernel_rfl]
  exact zeu ok a 0 (hm b (by simp)) (hnot a 13 (by omega) (hk 13 a (by simp)))
 ·obtain rfl:args=[]:=List.length_eq_zero_iff.1 hl.symm
  rw [show actX h [118,111,105,100] []=(h,vVoid,0) from by kernel_rfl]
  exact z0g ok (zuv _) _
 ·obtain rfl:args=[]:=List.length_eq_zero_iff.1 hl.symm
  rw [show actX h [37,117,110,115,101,116] []=(h,⟨7,0,[]⟩,0) from by kernel_rfl]
  exact z0g ok (by simp [mayV]) _
theorem zzy {h:HX} (ok:HeapOk h) (s:List UInt8) (args:List VX):GoodX h (doX h s args):=by
 unfold doX
 split
 ·exact z0g ok (z3f _) _
 ·rename_i r hr
  split
  ·exact z0g ok (z3f _) _
  ·rename_i hl
   split
   ·exact z0g ok (z3f _) _
   ·rename_i hm
    split
    ·exact z0g ok (z3f _) _
    ·rename_i hk
     have hs:r.1=s:=by simpa using List.find?_some hr
     have hmem:(s,r.2)∈rowsX:=hs ▸ List.mem_of_find?_eq_some hr
     have hm':args.all (mayV h.length)=true:=by simpa using hm
     have hk':((r.2.zip args).all fun x=>kOk h x.1 x.2)=true:=by simpa using hk
     exact Z4v ok hmem (Decidable.not_not.1 hl) (List.all_eq_true.1 hm') fun k v hkv=>List.all_eq_true.1 hk' (k,v) hkv
structure ActX where
 proc:Int
 regs:List VX
 clo:Int
 block:Int
 at_:Int
 to:Int
deriving DecidableEq,Inhabited
structure CloX where
 thing:Int
 proc:Int
 held:List VX
 kont:Bool
 acts:List ActX
deriving DecidableEq,Inhabited
structure MX where
 h:HX
 clos:List CloX
 acts:List ActX
 input:List UInt8
 out:List UInt8
 winders:VX
 told:VX
 done:Bool
 e:Int
deriving DecidableEq,Inhabited
abbrev CodeX:=List PrcX
def MX.find (m:MX) (v:VX):Option Nat:=m.clos.findIdx? fun c=>decide (v.kind=8) && decide (c.thing=v.int)
def MX.made (m:MX) (c:CloX):MX×VX:=
 let r:=addX m.h 4 []
 ({ m with h:=r.1,clos:=m.clos++[{ c with thing:=r.2.int }] },r.2)
def MX.tell (m:MX) (v:VX):MX:=
 match m.acts.getLast? with
 | none=>{ m with told:=v,done:=true }
 | some a=>{ m with acts:=m.acts.dropLast++[{ a with regs:=a.regs.set a.to.toNat v }] }
def z10 (p:PrcX) (proc:Int) (k:Nat) (args:List VX):ActX:=
 ⟨proc,(List.range p.regs.toNat).map fun i=>args.getD i ⟨7,0,[]⟩,(k:Int),0,0,0⟩
def prcAt (c:CodeX) (i:Int):PrcX:=c.getD i.toNat ⟨0,0,0,[]⟩
def MX.call (c:CodeX) (m:MX) (v:VX) (args:List VX) (behind:Bool):MX:=
 match m.find v with
 | none=>{ m with e:=90 }
 | some k=>
  let cl:=m.clos.getD k default
  if cl.kont then
   match args with
   | [x]=>({ m with acts:=cl.acts }:MX).tell x
   | _=>{ m with e:=91 }
  else
   let p:=prcAt c cl.proc
   if (args.length:Int)≠p.params then { m with e:=91 }
   else { m with acts:=(if behind then m.acts else m.acts.dropLast)++[z10 p cl.proc k args] }
def MX.prim (m:MX) (s:List UInt8) (args:List VX):MX×VX:=
 if s=[114,101,97,100,45,117,56] then
  match m.input with
  | []=>(m,⟨6,0,[]⟩)
  | b::l=>({ m with input:=l },⟨1,b.toNat,[]⟩)
 else if s=[119,114,105,116,101,45,117,56] then
  let a:=args.getD 0 vNone
  if a.kind≠1 then ({ m with e:=80 },vVoid)
  else if a.int < 0∨255 < a.int then ({ m with e:=83 },vVoid)
  else ({ m with out:=m.out++[UInt8.ofNat a.int.toNat] },vVoid)
 else if s=[101,114,114,111,114] then ({ m with e:=92 },vVoid)
 else if s=[37,119,105,110,100,101,114,115] then (m,m.winders)
 else if s=[37,119,105,110,100,33] then ({ m with winders:=args.getD 0 vNone },vVoid)
 else
  let r:=doX m.h s args
  ({ m with h:=r.1,e:=r.2.2 },r.2.1)
def MX.last (m:MX) (f:ActX→ActX):MX:=match m.acts.getLast? with
 | none=>m
 | some a=>{ m with acts:=m.acts.dropLast++[f a] }
def regAt (a:ActX) (r:Int):VX:=a.regs.getD r.toNat vNone
def MX.put (m:MX) (r:Int) (v:VX):MX:=m.last fun a=>{ a with regs:=a.regs.set r.toNat v }
def MX.ins (K:Dat→VX) (m:MX) (x:InsX):MX:=
 let a:=m.acts.getLast?.getD default
 let args:=x.args.map (regAt a)
 let told (r:MX×VX):MX:=if r.1.e=0 then r.1.put x.to r.2 else r.1
 if x.op=[99,111,110,115,116] then told (m,K x.const)
 else if x.op=[109,111,118,101] then told (m,args.getD 0 vNone)
 else if x.op=[104,101,108,100] then told (m,(m.clos.getD a.clo.toNat default).held.getD x.num.toNat vNone)
 else if x.op=[99,108,111,115,117,114,101] then told (m.made ⟨0,x.num,args,false,[]⟩)
 else if x.op=tieB then
  match m.find (args.getD 0 vNone) with
  | none=>{ m with e:=80 }
  | some k=>
   let c:=m.clos.getD k default
   if (c.held.length:Int)≤x.num then { m with e:=80 }
   else { m with clos:=m.clos.set k { c with held:=c.held.set x.num.toNat (args.getD 1 vNone) } }
 else told (m.prim x.op args)
def MX.fin (c:CodeX) (m:MX) (x:EndX):MX:=
 let a:=m.acts.getLast?.getD default
 let args:=x.args.map (regAt a)
 let v:=if x.kind=0 then vNone else regAt a x.reg
 let m1:=m.last fun a=>{ a with at_:=0,block:=if x.kind=1∧v=vNone then x.els else x.next,to:=x.to }
 if x.kind=2 then ({ m1 with acts:=m1.acts.dropLast }:MX).tell v
 else if x.kind=3 then m1.call c v args false
 else if x.kind=4 then m1.call c v args true
 else if x.kind=5 then
  let r:=m1.made ⟨0,0,[],true,m1.acts.dropLast⟩
  r.1.call c v [r.2] false
 else if x.kind=6 then
  let r:=m1.made ⟨0,0,[],true,m1.acts⟩
  r.1.call c v [r.2] true
 else m1
def blkAt (p:PrcX) (i:Int):BlkX:=p.blocks.getD i.toNat ⟨[],⟨0,0,[],0,0,0⟩⟩
def MX.step (K:Dat→VX) (c:CodeX) (m:MX):MX:=
 let a:=m.acts.getLast?.getD default
 let b:=blkAt (prcAt c a.proc) a.block
 match b.ins[a.at_.toNat]? with
 | some x=>(m.last fun a=>{ a with at_:=a.at_+1 }).ins K x
 | none=>m.fin c b.e
def MX.go (K:Dat→VX) (c:CodeX):Nat→MX→Nat→MX×Nat
 | fuel,m,n=>if m.e≠0∨m.done=true then (m,n) else match fuel with
  | 0=>({ m with e:=93 },n)
  | fuel+1=>MX.go K c fuel (m.step K c) (n+1)
def MX.first (c:CodeX) (input:List UInt8):MX:=
 let m:MX:=⟨[],[],[],input,[],⟨4,0,[]⟩,vNone,false,0⟩
 let r:=m.made ⟨0,0,[],false,[]⟩
 r.1.call c r.2 [] true
theorem zbe (l:List VX) (r:Nat) (v:VX) (j:Nat):(l.set r v)[j]?=if r=j∧j < l.length then some v else l[j]?:=by
 rw [List.getElem?_set]
 by_cases e:r=j
 ·subst e
  by_cases h:r < l.length
  ·rw [if_pos rfl,if_pos h,if_pos ⟨rfl,h⟩]
  ·rw [if_pos rfl,if_neg h,if_neg (fun hh=>h hh.2),List.getElem?_eq_none (by omega)]
 ·rw [if_neg e,if_neg (fun h=>e h.1)]
structure AgreeR (L:Int→Prop) (l l':List VX):Prop where
 len:l.length=l'.length
 at_:∀r:Nat,L (r:Int)→l[r]?=l'[r]?
theorem AgreeR.refl (L:Int→Prop) (l:List VX):AgreeR L l l:=⟨rfl,fun _ _=>rfl⟩
theorem AgreeR.less {L L':Int→Prop} {l l':List VX} (h:AgreeR L l l') (hl:∀r,L' r→L r):AgreeR L' l l':=⟨h.len,fun r hr=>h.at_ r (hl _ hr)⟩
theorem AgreeR.reg {L:Int→Prop} {a a':ActX} (h:AgreeR L a.regs a'.regs) {r:Int} (h0:0≤r) (hr:L r):regAt a r=regAt a' r:=by
 unfold regAt
 rw [zgd,zgd,h.at_ r.toNat (by rw [show ((r.toNat:Nat):Int)=r by omega];exact hr)]
theorem AgreeR.set {L L':Int→Prop} {l l':List VX} (h:AgreeR L l l') {t:Int} (h0:0≤t) (v:VX) (hl:∀r,L' r→r=t∨L r):AgreeR L' (l.set t.toNat v) (l'.set t.toNat v):=by
 refine ⟨by simpa using h.len,fun r hr=>?_⟩
 rw [zbe,zbe,←h.len]
 by_cases e:t.toNat=r∧r < l.length
 ·rw [if_pos e,if_pos e]
 ·rw [if_neg e,if_neg e]
  rcases hl _ hr with h1 | h1
  ·have e1:t.toNat=r:=by omega
   have e2:¬r < l.length:=fun hh=>e ⟨e1,hh⟩
   rw [List.getElem?_eq_none (by omega),List.getElem?_eq_none (by rw [←h.len];omega)]
  ·exact h.at_ r h1
theorem Z3j {p:PrcX} {r:Int} {i k:Nat} {b:BlkX} {x:InsX} (hb:p.blocks[i]?=some b) (hx:b.ins[k]?=some x):z0p p r i k↔r∈x.args∨(¬x.fills r∧z0p p r i (k+1)):=by
 have hk:=(List.getElem?_eq_some_iff.1 hx).1
 have hg:=(List.getElem?_eq_some_iff.1 hx).2
 have hd:b.ins.drop k=x::b.ins.drop (k+1):=by rw [List.drop_eq_getElem_cons hk,hg]
 constructor
 ·rintro ⟨c,hc,h⟩
  rw [hb] at hc;cases hc
  rw [hd] at h
  exact h.imp id fun h=>⟨h.1,b,hb,h.2⟩
 ·intro h
  refine ⟨b,hb,?_⟩
  rw [hd]
  rcases h with h | ⟨h1,c,hc,h2⟩
  ·exact .inl h
  ·rw [hb] at hc;cases hc
   exact .inr ⟨h1,h2⟩
theorem Z3z {p:PrcX} {r:Int} {i:Nat} {b:BlkX} (hb:p.blocks[i]?=some b):z0p p r i b.ins.length↔b.e.reads r=true∨(¬(b.e.calls=true∧b.e.to=r)∧∃j:Nat,(j:Int)∈b.e.leads p.blocks.length∧z0p p r j 0):=by
 have h1:z0p p r i b.ins.length↔z6o b.e p.blocks.length r (LiveB p r):=by
  constructor
  ·rintro ⟨c,hc,h⟩
   rw [hb] at hc;cases hc
   rw [List.drop_of_length_le (Nat.le_refl _)] at h
   exact h
  ·intro h
   refine ⟨b,hb,?_⟩
   rw [List.drop_of_length_le (Nat.le_refl _)]
   exact h
 rw [h1]
 unfold z6o
 exact ⟨fun h=>h.imp id fun ⟨h2,j,h3,h4⟩=>⟨h2,j,h3,liveB_iff.1 h4⟩,fun h=>h.imp id fun ⟨h2,j,h3,h4⟩=>⟨h2,j,h3,liveB_iff.2 h4⟩⟩
inductive Reach (K:Dat→VX) (c:CodeX):Nat→MX→MX→Prop
 | zero (m:MX):Reach K c 0 m m
 | step {s:Nat} {m m2:MX}:m.e=0→m.done=false→Reach K c s (m.step K c) m2→Reach K c (s+1) m m2
theorem Reach.trans {K:Dat→VX} {c:CodeX} {s t:Nat} {m m2 m3:MX} (h:Reach K c s m m2) (h2:Reach K c t m2 m3):Reach K c (s+t) m m3:=by
 induction h with
 | zero m=>rw [Nat.zero_add];exact h2
 | @step s m m2 e1 e2 _ ih=>
  rw [show s+1+t=s+t+1 by omega]
  exact .step e1 e2 (ih h2)
theorem zxk {K:Dat→VX} {c:CodeX} {fuel:Nat} {m:MX} {n:Nat} (h:m.e≠0∨m.done=true):MX.go K c fuel m n=(m,n):=by
 unfold MX.go;rw [if_pos h]
theorem zy1 {K:Dat→VX} {c:CodeX} {fuel:Nat} {m:MX} {n:Nat} (h1:m.e=0) (h2:m.done=false):MX.go K c (fuel+1) m n=MX.go K c fuel (m.step K c) (n+1):=by
 conv=>lhs;unfold MX.go
 rw [if_neg (by rw [h1,h2];simp)]
theorem Z32 {K:Dat→VX} {c:CodeX} {s:Nat} {m m2:MX} (h:Reach K c s m m2) (fuel n:Nat):MX.go K c (fuel+s) m n=MX.go K c fuel m2 (n+s):=by
 induction h generalizing n with
 | zero m=>rfl
 | @step s m m2 e1 e2 _ ih=>
  rw [←Nat.add_assoc,zy1 e1 e2,ih]
  rw [show n+1+s=n+(s+1) by omega]
theorem zug {K:Dat→VX} {c:CodeX}:∀(fuel:Nat) (m:MX) (n:Nat),n≤(MX.go K c fuel m n).2
 | 0,m,n=>by unfold MX.go;split<;>exact Nat.le_refl _
 | fuel+1,m,n=>by
  unfold MX.go
  split
  ·exact Nat.le_refl _
  ·exact Nat.le_trans (Nat.le_succ n) (zug fuel _ (n+1))
def TermX (m m':MX):Prop:=m.e=m'.e∧m.out=m'.out∧(m.e=0→m.h=m'.h∧m.told=m'.told)
theorem Z5q {K:Dat→VX} {c c':CodeX} {R:MX→MX→Prop} {S:Nat} (hlive:∀m m',R m m'→m.e=0∧m.done=false)
  (hstep:∀m m',R m m'→∃s m1',s≤S∧Reach K c' s m' m1'∧((((m.step K c).e≠0∨(m.step K c).done=true)∧(m1'.e≠0∨m1'.done=true)∧TermX (m.step K c) m1')∨R (m.step K c) m1')) :
  ∀(fuel:Nat) (m m':MX) (n n' fuel':Nat),R m m'→(MX.go K c fuel m n).1.e≠93→S * ((MX.go K c fuel m n).2 - n)≤fuel'→TermX (MX.go K c fuel m n).1 (MX.go K c' fuel' m' n').1:=by
 intro fuel
 induction fuel with
 | zero=>
  intro m m' n n' fuel' hR he _
  obtain ⟨h1,h2⟩:=hlive m m' hR
  exfalso
  apply he
  unfold MX.go
  rw [if_neg (by rw [h1,h2];simp)]
 | succ fuel ih=>
  intro m m' n n' fuel' hR he hf
  obtain ⟨h1,h2⟩:=hlive m m' hR
  rw [zy1 h1 h2] at he hf ⊢
  obtain ⟨s,m1',hs,hr,hcase⟩:=hstep m m' hR
  have hcnt:=zug (K:=K) (c:=c) fuel (m.step K c) (n+1)
  have hmul:S+S * ((MX.go K c fuel (m.step K c) (n+1)).2 - (n+1))≤fuel':=by
   have e:(MX.go K c fuel (m.step K c) (n+1)).2 - n=((MX.go K c fuel (m.step K c) (n+1)).2 - (n+1))+1:=by omega
   rw [e,Nat.mul_add,Nat.mul_one] at hf
   omega
  obtain ⟨f2,rfl⟩:∃f2,fuel'=f2+s:=⟨fuel' - s,by omega⟩
  rw [Z32 hr]
  rcases hcase with ⟨h3,h4,h5⟩ | h3
  ·rw [zxk h3,zxk h4]
   exact h5
  ·exact ih _ _ _ _ _ h3 he (by omega)
structure CloR (W:ActX→ActX→Prop) (x y:CloX):Prop where
 thing:x.thing=y.thing
 proc:x.proc=y.proc
 held:x.held=y.held
 kont:x.kont=y.kont
 acts:All2 W x.acts y.acts
theorem zs7 {W:ActX→ActX→Prop} (f:Int→Bool):∀{l l':List CloX},All2 (CloR W) l l'→(l.findIdx? fun c=>f c.thing)=l'.findIdx? fun c=>f c.thing
 | _,_,.nil=>rfl
 | _,_,.cons h t=>by
  rw [List.findIdx?_cons,List.findIdx?_cons,h.thing,zs7 f t]
theorem zbm {α β:Type} {R:α→β→Prop}:∀{l:List α} {l':List β},All2 R l l'→∀{i:Nat} {a:α},l[i]?=some a→∃b,l'[i]?=some b∧R a b
 | _,_,.nil,i,a,h=>by simp at h
 | _,_,.cons h t,0,a,e=>by simp at e;subst e;exact ⟨_,rfl,h⟩
 | _,_,.cons h t,i+1,a,e=>by
  obtain ⟨b,h1,h2⟩:=zbm t (i:=i) (by simpa using e)
  exact ⟨b,by simpa using h1,h2⟩
theorem zox {α β:Type} {R:α→β→Prop}:∀{l:List α} {l':List β},All2 R l l'→∀{i:Nat} {a:α} {b:β},R a b→All2 R (l.set i a) (l'.set i b)
 | _,_,.nil,_,_,_,_=>.nil
 | _,_,.cons h t,0,_,_,r=>.cons r t
 | _,_,.cons h t,i+1,_,_,r=>.cons h (zox t r)
theorem zbz {α β:Type} {R:α→β→Prop}:∀{l:List α} {l':List β} {m:List α} {m':List β},All2 R l l'→All2 R m m'→All2 R (l++m) (l'++m')
 | _,_,_,_,.nil,h=>h
 | _,_,_,_,.cons a t,h=>.cons a (zbz t h)
theorem zi3 {α β:Type} {R:α→β→Prop}:∀{l:List α} {l':List β},All2 R l l'→l.length=l'.length
 | _,_,.nil=>rfl
 | _,_,.cons _ t=>by simp [zi3 t]
structure CoreR (W:ActX→ActX→Prop) (m m':MX):Prop where
 h:m.h=m'.h
 input:m.input=m'.input
 out:m.out=m'.out
 winders:m.winders=m'.winders
 told:m.told=m'.told
 e:m.e=m'.e
 done:m.done=m'.done
 clos:All2 (CloR W) m.clos m'.clos
theorem CoreR.acts {W:ActX→ActX→Prop} {m m':MX} (h:CoreR W m m') (l l':List ActX):CoreR W { m with acts:=l } { m' with acts:=l' }:=⟨h.h,h.input,h.out,h.winders,h.told,h.e,h.done,h.clos⟩
structure MR (W P:ActX→ActX→Prop) (m m':MX):Prop where
 core:CoreR W m m'
 e0:m.e=0
 d0:m.done=false
 acts:∃ws a ws' a',m.acts=ws++[a]∧m'.acts=ws'++[a']∧All2 W ws ws'∧P a a'
def EndX2 (m m':MX):Prop:=(m.e≠0∨m.done=true)∧(m'.e≠0∨m'.done=true)∧TermX m m'
theorem z2d {α:Type} (l:List α) (a:α):(l++[a]).getLast?=some a:=by simp
theorem zsm {W:ActX→ActX→Prop}:∀{l l':List ActX},All2 W l l'→(l=[]∧l'=[])∨∃ws a ws' a',l=ws++[a]∧l'=ws'++[a']∧All2 W ws ws'∧W a a'
 | _,_,.nil=>.inl ⟨rfl,rfl⟩
 | _,_,.cons (a:=a) (b:=b) h t=>by
  rcases zsm t with ⟨rfl,rfl⟩ | ⟨ws,x,ws',x',rfl,rfl,h1,h2⟩
  ·exact .inr ⟨[],a,[],b,rfl,rfl,.nil,h⟩
  ·exact .inr ⟨a::ws,x,b::ws',x',rfl,rfl,.cons h h1,h2⟩
theorem zvm {W P:ActX→ActX→Prop} {m m':MX} (hc:CoreR W m m') (he:m.e=0) (hd:m.done=false) (ha:All2 W m.acts m'.acts) (v:VX)
  (hW:∀a a',W a a'→P { a with regs:=a.regs.set a.to.toNat v } { a' with regs:=a'.regs.set a'.to.toNat v }):EndX2 (m.tell v) (m'.tell v)∨MR W P (m.tell v) (m'.tell v):=by
 rcases zsm ha with ⟨h1,h2⟩ | ⟨ws,a,ws',a',h1,h2,h3,h4⟩
 ·refine .inl ?_
  have e1:m.tell v={ m with told:=v,done:=true }:=by unfold MX.tell;rw [h1];rfl
  have e2:m'.tell v={ m' with told:=v,done:=true }:=by unfold MX.tell;rw [h2];rfl
  rw [e1,e2]
  exact ⟨.inr rfl,.inr rfl,hc.e,hc.out,fun _=>⟨hc.h,rfl⟩⟩
 ·refine .inr ?_
  have e1:m.tell v={ m with acts:=ws++[{ a with regs:=a.regs.set a.to.toNat v }] }:=by unfold MX.tell;rw [h1,z2d];simp
  have e2:m'.tell v={ m' with acts:=ws'++[{ a' with regs:=a'.regs.set a'.to.toNat v }] }:=by unfold MX.tell;rw [h2,z2d];simp
  rw [e1,e2]
  exact ⟨hc.acts _ _,he,hd,ws,_,ws',_,rfl,rfl,h3,hW a a' h4⟩
theorem zow {W:ActX→ActX→Prop} {m m':MX} (hc:CoreR W m m') (v:VX):m.find v=m'.find v:=by
 unfold MX.find
 exact zs7 (fun t=>decide (v.kind=8) && decide (t=v.int)) hc.clos
theorem zut {W P N:ActX→ActX→Prop} {c c':CodeX} {m m':MX} (hc:CoreR W m m') (he:m.e=0) (hd:m.done=false) (v:VX) (args:List VX) (behind:Bool)
  (ha:All2 W (if behind then m.acts else m.acts.dropLast) (if behind then m'.acts else m'.acts.dropLast))
  (hW:∀a a' x,W a a'→P { a with regs:=a.regs.set a.to.toNat x } { a' with regs:=a'.regs.set a'.to.toNat x })
  (hp:∀i:Int,(prcAt c i).params=(prcAt c' i).params) (hN:∀(i:Int) (k:Nat),(args.length:Int)=(prcAt c i).params→N (z10 (prcAt c i) i k args) (z10 (prcAt c' i) i k args)) :
  EndX2 (m.call c v args behind) (m'.call c' v args behind)∨MR W P (m.call c v args behind) (m'.call c' v args behind)∨MR W N (m.call c v args behind) (m'.call c' v args behind):=by
 have hf:=zow hc v
 have hend:∀z:Int,z≠0→EndX2 { m with e:=z } { m' with e:=z }:=fun z hz=>⟨.inl hz,.inl hz,rfl,hc.out,fun h=>absurd h hz⟩
 unfold MX.call
 rw [←hf]
 cases hk:m.find v with
 | none=>exact .inl (hend 90 (by omega))
 | some k=>
  simp only
  have hkl:∃x,m.clos[k]?=some x:=by
   unfold MX.find at hk
   have:=List.findIdx?_eq_some_iff_getElem.1 hk
   obtain ⟨h1,_⟩:=this
   exact ⟨_,zge h1⟩
  obtain ⟨x,hx⟩:=hkl
  obtain ⟨y,hy,hxy⟩:=zbm hc.clos hx
  have gx:m.clos.getD k default=x:=by rw [zgd,hx];rfl
  have gy:m'.clos.getD k default=y:=by rw [zgd,hy];rfl
  rw [gx,gy,←hxy.kont,←hxy.proc]
  by_cases hkt:x.kont=true
  ·rw [if_pos hkt,if_pos hkt]
   match args with
   | []=>exact .inl (hend 91 (by omega))
   | [z]=>
    rcases zvm (P:=P) (hc.acts x.acts y.acts) he hd hxy.acts z fun a a' h=>hW a a' z h with h | h
    ·exact .inl h
    ·exact .inr (.inl h)
   | _::_::_=>exact .inl (hend 91 (by omega))
  ·rw [if_neg hkt,if_neg hkt,←hp]
   by_cases hl:(args.length:Int)≠(prcAt c x.proc).params
   ·rw [if_pos hl,if_pos hl]
    exact .inl (hend 91 (by omega))
   ·rw [if_neg hl,if_neg hl]
    exact .inr (.inr ⟨hc.acts _ _,he,hd,_,_,_,_,rfl,rfl,ha,hN _ _ (Decidable.not_not.1 hl)⟩)
theorem zuh {W:ActX→ActX→Prop} {m m':MX} (hc:CoreR W m m') (s:List UInt8) (args:List VX) :
  CoreR W (m.prim s args).1 (m'.prim s args).1∧(m.prim s args).2=(m'.prim s args).2∧(m.prim s args).1.acts=m.acts∧(m'.prim s args).1.acts=m'.acts∧(m.prim s args).1.done=m.done∧(m'.prim s args).1.done=m'.done:=by
 obtain ⟨h,cl,ac,inp,out,wi,to,dn,e⟩:=m
 obtain ⟨h',cl',ac',inp',out',wi',to',dn',e'⟩:=m'
 obtain ⟨h1,h2,h3,h4,h5,h6,h7,h8⟩:=hc
 simp only at h1 h2 h3 h4 h5 h6 h7 h8
 subst h1 h2 h3 h4 h5 h6 h7
 unfold MX.prim
 split
 ·cases inp with
  | nil=>exact ⟨⟨rfl,rfl,rfl,rfl,rfl,rfl,rfl,h8⟩,rfl,rfl,rfl,rfl,rfl⟩
  | cons b l=>exact ⟨⟨rfl,rfl,rfl,rfl,rfl,rfl,rfl,h8⟩,rfl,rfl,rfl,rfl,rfl⟩
 ·split
  ·simp only
   split
   ·exact ⟨⟨rfl,rfl,rfl,rfl,rfl,rfl,rfl,h8⟩,rfl,rfl,rfl,rfl,rfl⟩
   ·split
    ·exact ⟨⟨rfl,rfl,rfl,rfl,rfl,rfl,rfl,h8⟩,rfl,rfl,rfl,rfl,rfl⟩
    ·exact ⟨⟨rfl,rfl,rfl,rfl,rfl,rfl,rfl,h8⟩,rfl,rfl,rfl,rfl,rfl⟩
  ·split
   ·exact ⟨⟨rfl,rfl,rfl,rfl,rfl,rfl,rfl,h8⟩,rfl,rfl,rfl,rfl,rfl⟩
   ·split
    ·exact ⟨⟨rfl,rfl,rfl,rfl,rfl,rfl,rfl,h8⟩,rfl,rfl,rfl,rfl,rfl⟩
    ·split
     ·exact ⟨⟨rfl,rfl,rfl,rfl,rfl,rfl,rfl,h8⟩,rfl,rfl,rfl,rfl,rfl⟩
     ·exact ⟨⟨rfl,rfl,rfl,rfl,rfl,rfl,rfl,h8⟩,rfl,rfl,rfl,rfl,rfl⟩
theorem zf0 {W:ActX→ActX→Prop} {m m':MX} (hc:CoreR W m m') {x y:CloX} (hp:x.proc=y.proc) (hh:x.held=y.held) (hk:x.kont=y.kont) (ha:All2 W x.acts y.acts) :
  CoreR W (m.made x).1 (m'.made y).1∧(m.made x).2=(m'.made y).2∧(m.made x).1.acts=m.acts∧(m'.made y).1.acts=m'.acts∧(m.made x).1.done=m.done∧(m.made x).1.e=m.e:=by
 obtain ⟨h1,h2,h3,h4,h5,h6,h7,h8⟩:=hc
 unfold MX.made
 rw [←h1]
 exact ⟨⟨rfl,h2,h3,h4,h5,h6,h7,zbz h8 (.cons ⟨rfl,hp,hh,hk,ha⟩ .nil)⟩,rfl,rfl,rfl,rfl,rfl⟩
theorem zxd {W P:ActX→ActX→Prop} {m m':MX} {ws ws':List ActX} {a a':ActX} (hc:CoreR W m m') (he:m.e=0) (hd:m.done=false) (h1:m.acts=ws++[a]) (h2:m'.acts=ws'++[a']) (hw:All2 W ws ws') {r r':Int} {v:VX}
  (hP:P { a with regs:=a.regs.set r.toNat v } { a' with regs:=a'.regs.set r'.toNat v }):MR W P (m.put r v) (m'.put r' v):=by
 have e1:m.put r v={ m with acts:=ws++[{ a with regs:=a.regs.set r.toNat v }] }:=by unfold MX.put MX.last;rw [h1,z2d];simp
 have e2:m'.put r' v={ m' with acts:=ws'++[{ a' with regs:=a'.regs.set r'.toNat v }] }:=by unfold MX.put MX.last;rw [h2,z2d];simp
 rw [e1,e2]
 exact ⟨hc.acts _ _,he,hd,ws,_,ws',_,rfl,rfl,hw,hP⟩
theorem Z5a {W P:ActX→ActX→Prop} {K:Dat→VX} {m m':MX} {ws ws':List ActX} {a a':ActX} {x x':InsX} (hc:CoreR W m m') (he:m.e=0) (hd:m.done=false) (h1:m.acts=ws++[a]) (h2:m'.acts=ws'++[a']) (hw:All2 W ws ws') (hclo:a.clo=a'.clo)
  (ho:x'.op=x.op) (hcn:x'.const=x.const) (hn:x'.num=x.num) (hargs:x'.args.map (regAt a')=x.args.map (regAt a))
  (hP:x.op≠tieB→∀v,P { a with regs:=a.regs.set x.to.toNat v } { a' with regs:=a'.regs.set x'.to.toNat v }) (hT:x.op=tieB→P a a') :
  EndX2 (m.ins K x) (m'.ins K x')∨MR W P (m.ins K x) (m'.ins K x'):=by
 have g1:m.acts.getLast?.getD default=a:=by rw [h1,z2d];rfl
 have g2:m'.acts.getLast?.getD default=a':=by rw [h2,z2d];rfl
 have he':m'.e=0:=by rw [←hc.e];exact he
 have told:x.op≠tieB→∀(n n':MX) (v v':VX),CoreR W n n'→n.done=false→n.acts=m.acts→n'.acts=m'.acts→v=v'→EndX2 (if n.e=0 then n.put x.to v else n) (if n'.e=0 then n'.put x'.to v' else n')∨MR W P (if n.e=0 then n.put x.to v else n) (if n'.e=0 then n'.put x'.to v' else n'):=fun hop n n' v v' hcc hdd ha1 ha2 hv=>by
  subst hv
  by_cases hz:n.e=0
  ·rw [if_pos hz,if_pos (by rw [←hcc.e];exact hz)]
   exact .inr (zxd hcc hz hdd (ha1.trans h1) (ha2.trans h2) hw (hP hop v))
  ·rw [if_neg hz,if_neg (by rw [←hcc.e];exact hz)]
   exact .inl ⟨.inl hz,.inl (by rw [←hcc.e];exact hz),hcc.e,hcc.out,fun h=>absurd h hz⟩
 have held:(m.clos.getD a.clo.toNat default).held=(m'.clos.getD a'.clo.toNat default).held:=by
  rw [←hclo,zgd,zgd]
  cases hx:m.clos[a.clo.toNat]? with
  | none=>
   have hl:=zi3 hc.clos
   have:m'.clos[a.clo.toNat]?=none:=by
    rw [List.getElem?_eq_none_iff] at hx ⊢
    omega
   rw [this]
  | some y=>
   obtain ⟨z,hz,hyz⟩:=zbm hc.clos hx
   rw [hz]
   exact hyz.held
 have hend:∀z:Int,z≠0→EndX2 { m with e:=z } { m' with e:=z }:=fun z hz=>⟨.inl hz,.inl hz,rfl,hc.out,fun h=>absurd h hz⟩
 unfold MX.ins
 simp only [g1,g2,ho,hcn,hn,hargs]
 by_cases c1:x.op=[99,111,110,115,116]
 ·rw [if_pos c1,if_pos c1]
  exact told (by rw [c1];decide) m m' _ _ hc hd rfl rfl rfl
 rw [if_neg c1,if_neg c1]
 by_cases c2:x.op=[109,111,118,101]
 ·rw [if_pos c2,if_pos c2]
  exact told (by rw [c2];decide) m m' _ _ hc hd rfl rfl rfl
 rw [if_neg c2,if_neg c2]
 by_cases c3:x.op=[104,101,108,100]
 ·rw [if_pos c3,if_pos c3]
  exact told (by rw [c3];decide) m m' _ _ hc hd rfl rfl (by rw [held])
 rw [if_neg c3,if_neg c3]
 by_cases c4:x.op=[99,108,111,115,117,114,101]
 ·rw [if_pos c4,if_pos c4]
  obtain ⟨k1,k2,k3,k4,k5,k6⟩:=zf0 hc (x:=⟨0,x.num,x.args.map (regAt a),false,[]⟩) (y:=⟨0,x.num,x.args.map (regAt a),false,[]⟩) rfl rfl rfl .nil
  exact told (by rw [c4];decide) _ _ _ _ k1 (k5.trans hd) k3 k4 k2
 rw [if_neg c4,if_neg c4]
 by_cases c5:x.op=tieB
 ·rw [if_pos c5,if_pos c5,←zow hc]
  cases hk:m.find ((x.args.map (regAt a)).getD 0 vNone) with
  | none=>exact .inl (hend 80 (by omega))
  | some k=>
   simp only
   have hkl:∃y,m.clos[k]?=some y:=by
    unfold MX.find at hk
    obtain ⟨h1,_⟩:=List.findIdx?_eq_some_iff_getElem.1 hk
    exact ⟨_,zge h1⟩
   obtain ⟨y,hy⟩:=hkl
   obtain ⟨z,hz,hyz⟩:=zbm hc.clos hy
   have gy:m.clos.getD k default=y:=by rw [zgd,hy];rfl
   have gz:m'.clos.getD k default=z:=by rw [zgd,hz];rfl
   rw [gy,gz,←hyz.held]
   by_cases hl:(y.held.length:Int)≤x.num
   ·rw [if_pos hl,if_pos hl]
    exact .inl (hend 80 (by omega))
   ·rw [if_neg hl,if_neg hl]
    exact .inr ⟨⟨hc.h,hc.input,hc.out,hc.winders,hc.told,hc.e,hc.done,zox hc.clos ⟨hyz.thing,hyz.proc,rfl,hyz.kont,hyz.acts⟩⟩,he,hd,ws,a,ws',a',h1,h2,hw,hT c5⟩
 rw [if_neg c5,if_neg c5]
 obtain ⟨k1,k2,k3,k4,k5,k6⟩:=zuh hc x.op (x.args.map (regAt a))
 exact told c5 _ _ _ _ k1 (k5.trans hd) k3 k4 k2
theorem z2w {m:MX} {ws:List ActX} {a:ActX} (h:m.acts=ws++[a]) (f:ActX→ActX):m.last f={ m with acts:=ws++[f a] }:=by
 unfold MX.last;rw [h,z2d];simp
def z27 (x:EndX) (v:VX) (a:ActX):ActX:={ a with at_:=0,block:=if x.kind=1∧v=vNone then x.els else x.next,to:=x.to }
theorem zy6 {W P N:ActX→ActX→Prop} {c c':CodeX} {m m':MX} {ws ws':List ActX} {a a':ActX} {x x':EndX} (hc:CoreR W m m') (he:m.e=0) (hd:m.done=false) (h1:m.acts=ws++[a]) (h2:m'.acts=ws'++[a']) (hw:All2 W ws ws')
  (hk:x'.kind=x.kind) (hargs:x'.args.map (regAt a')=x.args.map (regAt a)) (hreg:x.kind≠0→regAt a' x'.reg=regAt a x.reg)
  (hgo:x.kind≠2→x.kind≠3→x.kind≠4→x.kind≠5→x.kind≠6→P (z27 x (if x.kind=0 then vNone else regAt a x.reg) a) (z27 x' (if x.kind=0 then vNone else regAt a x.reg) a'))
  (hwait:x.kind=4∨x.kind=6→W (z27 x (regAt a x.reg) a) (z27 x' (regAt a x.reg) a'))
  (hW:∀a a' v,W a a'→P { a with regs:=a.regs.set a.to.toNat v } { a' with regs:=a'.regs.set a'.to.toNat v })
  (hp:∀i:Int,(prcAt c i).params=(prcAt c' i).params) (hN:∀(i:Int) (k:Nat) (args:List VX),(args.length:Int)=(prcAt c i).params→N (z10 (prcAt c i) i k args) (z10 (prcAt c' i) i k args)) :
  EndX2 (m.fin c x) (m'.fin c' x')∨MR W P (m.fin c x) (m'.fin c' x')∨MR W N (m.fin c x) (m'.fin c' x'):=by
 have g1:m.acts.getLast?.getD default=a:=by rw [h1,z2d];rfl
 have g2:m'.acts.getLast?.getD default=a':=by rw [h2,z2d];rfl
 have hv:(if x'.kind=0 then vNone else regAt a' x'.reg)=(if x.kind=0 then vNone else regAt a x.reg):=by
  rw [hk]
  by_cases h0:x.kind=0
  ·rw [if_pos h0,if_pos h0]
  ·rw [if_neg h0,if_neg h0,hreg h0]
 unfold MX.fin
 simp only [g1,g2,hargs,hv,z2w h1,z2w h2]
 obtain ⟨v,hvv⟩:∃v,v=(if x.kind=0 then vNone else regAt a x.reg):=⟨_,rfl⟩
 rw [←hvv] at hgo ⊢
 have hvk:x.kind≠0→v=regAt a x.reg:=fun h=>by rw [hvv,if_neg h]
 show EndX2 _ _∨_
 have d1:(ws++[z27 x v a]).dropLast=ws:=by simp
 have d2:(ws'++[z27 x' v a']).dropLast=ws':=by simp
 have hc1:CoreR W { m with acts:=ws++[z27 x v a] } { m' with acts:=ws'++[z27 x' v a'] }:=hc.acts _ _
 have hcall:∀(n n':MX) (args:List VX) (behind:Bool),CoreR W n n'→n.e=0→n.done=false→n.acts=ws++[z27 x v a]→n'.acts=ws'++[z27 x' v a']→(behind=true→W (z27 x v a) (z27 x' v a'))→EndX2 (n.call c v args behind) (n'.call c' v args behind)∨MR W P (n.call c v args behind) (n'.call c' v args behind)∨MR W N (n.call c v args behind) (n'.call c' v args behind):=fun n n' args behind k1 k2 k3 k4 k5 k6=>by
  refine zut k1 k2 k3 v args behind ?_ (fun a a' z h=>hW a a' z h) hp fun i k h=>hN i k args h
  rw [k4,k5]
  cases behind with
  | true=>exact zbz hw (.cons (k6 rfl) .nil)
  | false=>simp only [Bool.false_eq_true,if_false,d1,d2];exact hw
 have hE:∀y:EndX,∀b:ActX,({ b with at_:=0,block:=if y.kind=1∧v=vNone then y.els else y.next,to:=y.to }:ActX)=z27 y v b:=fun y b=>rfl
 simp only [hE]
 rw [hk]
 by_cases k2:x.kind=2
 ·rw [if_pos k2,if_pos k2]
  simp only [d1,d2]
  rcases zvm (P:=P) (hc.acts ws ws') he hd hw v fun a a' h=>hW a a' v h with h | h
  ·exact .inl h
  ·exact .inr (.inl h)
 rw [if_neg k2,if_neg k2]
 by_cases k3:x.kind=3
 ·rw [if_pos k3,if_pos k3]
  exact hcall _ _ _ false hc1 he hd rfl rfl (fun h=>by cases h)
 rw [if_neg k3,if_neg k3]
 by_cases k4:x.kind=4
 ·rw [if_pos k4,if_pos k4]
  exact hcall _ _ _ true hc1 he hd rfl rfl (fun _=>by rw [hvk (by omega)];exact hwait (.inl k4))
 rw [if_neg k4,if_neg k4]
 by_cases k5:x.kind=5
 ·rw [if_pos k5,if_pos k5]
  simp only [d1,d2]
  obtain ⟨m1,m2,m3,m4,m5,m6⟩:=zf0 hc1 (x:=⟨0,0,[],true,ws⟩) (y:=⟨0,0,[],true,ws'⟩) rfl rfl rfl hw
  rw [←m2]
  exact hcall _ _ _ false m1 (m6.trans he) (m5.trans hd) m3 m4 (fun h=>by cases h)
 rw [if_neg k5,if_neg k5]
 by_cases k6:x.kind=6
 ·rw [if_pos k6,if_pos k6]
  have hww:=hwait (.inr k6)
  rw [←hvk (by omega)] at hww
  obtain ⟨m1,m2,m3,m4,m5,m6⟩:=zf0 hc1 (x:=⟨0,0,[],true,ws++[z27 x v a]⟩) (y:=⟨0,0,[],true,ws'++[z27 x' v a']⟩) rfl rfl rfl (zbz hw (.cons hww .nil))
  rw [←m2]
  exact hcall _ _ _ true m1 (m6.trans he) (m5.trans hd) m3 m4 (fun _=>hww)
 rw [if_neg k6,if_neg k6]
 exact .inr (.inl ⟨hc1,he,hd,ws,_,ws',_,rfl,rfl,hw,hgo k2 k3 k4 k5 k6⟩)
structure CodeOk (c:CodeX):Prop where
 ins:∀p∈c,∀b∈p.blocks,∀x∈b.ins,(∀r∈x.args,0≤r)∧(x.op≠tieB→0≤x.to)
 fin:∀p∈c,∀b∈p.blocks,(∀r∈b.e.args,0≤r)∧0≤b.e.reg∧0≤b.e.to∧(b.e.kind=0∨b.e.kind=1∨b.e.kind=4∨b.e.kind=6→0≤b.e.next∧b.e.next < p.blocks.length)∧(b.e.kind=1→0≤b.e.els∧b.e.els < p.blocks.length)∧0≤b.e.kind∧b.e.kind≤6∧(b.e.args≠[]→b.e.kind=3∨b.e.kind=4)
def z6a:List UInt8:=[99,111,110,115,116]
section
variable (c:CodeX) (i bi:Nat) (p:PrcX) (bl:BlkX) (t:Int) (d:Dat)
def offX (a:ActX):Int:=if a.proc.toNat=i∧a.block.toNat=bi then 1 else 0
def needX (a:ActX) (r:Int):Prop:=z0p (prcAt c a.proc) r a.block.toNat a.at_.toNat∨(prcAt c a.proc).blocks[a.block.toNat]?=none
structure RunX (a a':ActX):Prop where
 proc:a'.proc=a.proc
 clo:a.clo=a'.clo
 block:a'.block=a.block
 at0:0≤a.at_
 len:a.at_≤(blkAt (prcAt c a.proc) a.block).ins.length
 at_:a'.at_=a.at_+offX i bi a∨(a.at_=0∧a'.at_=0)
 regs:AgreeR (needX c a) a.regs a'.regs
structure WaitX (a a':ActX):Prop where
 proc:a'.proc=a.proc
 clo:a.clo=a'.clo
 block:a'.block=a.block
 at0:a.at_=0
 at0':a'.at_=0
 to:a'.to=a.to
 to0:0≤a.to
 regs:AgreeR (fun r=>needX c a r∧r≠a.to) a.regs a'.regs
end
section
variable {c:CodeX} {i bi:Nat} {p:PrcX} {bl:BlkX} {t:Int} {d:Dat}
end
theorem Z2h {e:EndX} (h:1≤e.kind∧e.kind≤6):e.reads e.reg=true:=by
 unfold EndX.reads
 by_cases h1:e.kind=1∨e.kind=2∨e.kind=5∨e.kind=6
 ·rw [if_pos h1];simp
 ·rw [if_neg h1,if_pos (by omega)];simp
theorem Z24 {e:EndX} (h:e.kind=3∨e.kind=4) {r:Int} (hr:r∈e.args):e.reads r=true:=by
 unfold EndX.reads
 rw [if_neg (by omega),if_pos (by omega)]
 simp [hr]
section
variable {K:Dat→VX} {c:CodeX} {i bi:Nat} {p:PrcX} {bl:BlkX} {t:Int} {d:Dat}
end
def ar0:List (List UInt8):=[[114,101,97,100,45,117,56],[101,114,114,111,114],[118,111,105,100],[37,119,105,110,100,101,114,115],[37,117,110,115,101,116]]
def ar1:List (List UInt8):=[[110,117,108,108,63],[112,97,105,114,63],[118,101,99,116,111,114,63],[115,116,114,105,110,103,63],[115,121,109,98,111,108,63],[99,104,97,114,63],[105,110,116,101,103,101,114,63],[98,111,111,108,101,97,110,63],[112,114,111,99,101,100,117,114,101,63],[101,111,102,45,111,98,106,101,99,116,63],[99,97,114],[99,100,114],[118,101,99,116,111,114,45,108,101,110,103,116,104],[115,116,114,105,110,103,45,108,101,110,103,116,104],[99,104,97,114,45,62,105,110,116,101,103,101,114],[105,110,116,101,103,101,114,45,62,99,104,97,114],[119,114,105,116,101,45,117,56],[37,98,111,120],[37,117,110,98,111,120],[37,119,105,110,100,33],[37,99,97,108,108,99,99]]
def ar2:List (List UInt8):=[[43],[45],[42],[113,117,111,116,105,101,110,116],[114,101,109,97,105,110,100,101,114],[60],[61],[101,113,63],[99,111,110,115],[115,101,116,45,99,97,114,33],[115,101,116,45,99,100,114,33],[109,97,107,101,45,118,101,99,116,111,114],[118,101,99,116,111,114,45,114,101,102],[109,97,107,101,45,115,116,114,105,110,103],[115,116,114,105,110,103,45,114,101,102],[37,115,101,116,45,98,111,120,33]]
def ar3:List (List UInt8):=[[118,101,99,116,111,114,45,115,101,116,33],[115,116,114,105,110,103,45,115,101,116,33]]
def z30 (p:List UInt8):Int:=if ar0.contains p then 0 else if ar1.contains p then 1 else if ar2.contains p then 2 else if ar3.contains p then 3 else -1
def dat0:Dat:=.mk 0 0 [] []
def z3v (d:Dat):Bool:=decide (d.kind=0) && decide (d.int=0) && d.text.isEmpty && d.list.isEmpty
theorem isDat0_iff {d:Dat}:z3v d=true↔d=dat0:=by
 obtain ⟨k,n,t,l⟩:=d
 show (decide (k=0) && decide (n=0) && t.isEmpty && l.isEmpty)=true↔Dat.mk k n t l=.mk 0 0 [] []
 simp [and_assoc]
def z6l (d:Dat):Bool:=decide ((d.chk 0 0).2=0) && (decide (d.kind=0) || decide (d.kind=1) || decide (d.kind=2) || decide (d.kind=4) || (decide (d.kind=5) && d.list.isEmpty))
theorem zu6 (d:Dat) (cs:List Value) (H:PH) (hd:d.Rep H cs):Gives Tryz.prog zhf [.agg cs.toArray] H (.bool (z6l d)):=by
 have hc:=zl2 d cs H hd
 obtain ⟨sv,rfl,hk,hn,ht,hs⟩:=Dat.Rep_iff.1 hd
 obtain ⟨b,c,rfl⟩:=hs.sl
 refine zfd [.int .i64 d.kind,.int .i64 d.int,txt d.text,.slice b d.list.length c] (by kernel_rfl) (by kernel_rfl) ?_
 refine z05 [.int .i64 (d.chk 0 0).2] z6w hc rfl z01 fun H1 h1=>⟨fun g=>⟨?_,h1⟩,fun g=>⟨?_,h1⟩⟩
 ·simp only [evs,evb,zdt] at g
  have:z6l d=false:=by unfold z6l;simp [g]
  simp only [evs,evb,this]
 ·simp only [evs,evb,zdf,ne_eq,Decidable.not_not] at g
  simp only [evs,evb]
  congr 2
  unfold z6l
  rw [←z58]
  simp only [g,decide_true,Bool.true_and]
def ar1a:List (List UInt8):=ar1.take 10
def ar1b:List (List UInt8):=ar1.drop 10
def ar2a:List (List UInt8):=ar2.take 11
def ar2b:List (List UInt8):=ar2.drop 11
theorem zef (p:List UInt8):ar1.contains p=(ar1a.contains p || ar1b.contains p):=by
 conv=>lhs;rw [show ar1=ar1a++ar1b from (List.take_append_drop 10 ar1).symm]
 rw [List.contains_append]
theorem zmq (p:List UInt8):ar2.contains p=(ar2a.contains p || ar2b.contains p):=by
 conv=>lhs;rw [show ar2=ar2a++ar2b from (List.take_append_drop 11 ar2).symm]
 rw [List.contains_append]
theorem zv0 (p:List UInt8) (H:PH):Gives Tryz.prog zib [txt p] H (.int .i64 (z30 p)):=by
 refine zfc [txt p] (by kernel_rfl) (by kernel_rfl) ?_
 refine ⟨fun vs H'=>vs=[.bool (ar0.contains p)]∧H'=H,?_,?_⟩
 ·rintro vs H' _ ⟨rfl,rfl⟩
  refine ⟨fun h=>?_,fun h=>?_⟩
  ·simp only [evs,evb] at h
   exact ⟨by simp only [evs,evb,z30,h];rfl,PH.le_refl _⟩
  simp only [evs,evb] at h
  refine ⟨fun vs H2=>vs=[.bool (ar1a.contains p)]∧H2=H',?_,?_⟩
  ·rintro vs H' _ ⟨rfl,rfl⟩
   refine ⟨fun h2=>?_,fun h2=>?_⟩
   ·simp only [evs,evb] at h2
    exact ⟨by simp only [evs,evb,z30,h,zef,h2];rfl,PH.le_refl _⟩
   simp only [evs,evb] at h2
   refine ⟨fun vs H2=>vs=[.bool (ar1b.contains p)]∧H2=H',?_,?_⟩
   ·rintro vs H' _ ⟨rfl,rfl⟩
    refine ⟨fun h3=>?_,fun h3=>?_⟩
    ·simp only [evs,evb] at h3
     exact ⟨by simp only [evs,evb,z30,h,zef,h2,h3];rfl,PH.le_refl _⟩
    simp only [evs,evb] at h3
    refine ⟨fun vs H3=>vs=[.bool (ar2a.contains p)]∧H3=H',?_,?_⟩
    ·rintro vs H' _ ⟨rfl,rfl⟩
     refine ⟨fun h4=>?_,fun h4=>?_⟩
     ·simp only [evs,evb] at h4
      exact ⟨by simp only [evs,evb,z30,h,zef,h2,h3,zmq,h4];rfl,PH.le_refl _⟩
     simp only [evs,evb] at h4
     refine ⟨fun vs H3=>vs=[.bool (ar2b.contains p)]∧H3=H',?_,?_⟩
     ·rintro vs H' _ ⟨rfl,rfl⟩
      refine ⟨fun h5=>?_,fun h5=>?_⟩
      ·simp only [evs,evb] at h5
       exact ⟨by simp only [evs,evb,z30,h,zef,h2,h3,zmq,h4,h5];rfl,PH.le_refl _⟩
      simp only [evs,evb] at h5
      refine ⟨fun h6=>?_,fun h6=>?_⟩
      ·simp only [evs,evb,z03] at h6
       have:ar3.contains p=true:=by simp [ar3] at h6 ⊢;exact h6
       exact ⟨by simp only [evs,evb,z30,h,zef,h2,h3,zmq,h4,h5,this];rfl,PH.le_refl _⟩
      ·simp only [evs,evb,z03] at h6
       have:ar3.contains p=false:=by simp [ar3] at h6 ⊢;exact h6
       exact ⟨by simp only [evs,evb,z30,h,zef,h2,h3,zmq,h4,h5,this];rfl,PH.le_refl _⟩
     ·repeat' refine And.intro (fun h=>?_) (fun h=>?_)
      all_goals
       refine ⟨_,z00,?_,rfl⟩
       simp only [evs,evb,z03,zdt,zdf] at *
       simp_all [ar2b,ar2]
    ·repeat' refine And.intro (fun h=>?_) (fun h=>?_)
     all_goals
      refine ⟨_,z00,?_,rfl⟩
      simp only [evs,evb,z03,zdt,zdf] at *
      simp_all [ar2a,ar2]
   ·repeat' refine And.intro (fun h=>?_) (fun h=>?_)
    all_goals
     refine ⟨_,z00,?_,rfl⟩
     simp only [evs,evb,z03,zdt,zdf] at *
     simp_all [ar1b,ar1]
  ·repeat' refine And.intro (fun h=>?_) (fun h=>?_)
   all_goals
    refine ⟨_,z00,?_,rfl⟩
    simp only [evs,evb,z03,zdt,zdf] at *
    simp_all [ar1a,ar1]
 ·repeat' refine And.intro (fun h=>?_) (fun h=>?_)
  all_goals
   refine ⟨_,z00,?_,rfl⟩
   simp only [evs,evb,z03,zdt,zdf] at *
   simp_all [ar0]
def movB:List UInt8:=[109,111,118,101]
def hldB:List UInt8:=[104,101,108,100]
def cloB:List UInt8:=[99,108,111,115,117,114,101]
def ccB:List UInt8:=[37,99,97,108,108,99,99]
def z0u (p:PrcX) (l:List Int):Bool:=l.all fun r=>decide (0≤r∧r < p.regs)
def insOk (c:CodeX) (p:PrcX) (x:InsX):Bool:=
 if !z0u p x.args || (!z0u p [x.to] && !decide (x.op=tieB)) then false
 else if x.op=z6a then decide (x.args.length=0) && decide (x.num=0) && z6l x.const
 else if x.op=movB then decide (x.args.length=1) && decide (x.num=0) && z3v x.const
 else if x.op=hldB then decide (x.args.length=0) && decide (0≤x.num) && decide (x.num < p.holds) && z3v x.const
 else if x.op=cloB then decide (1≤x.num) && decide (x.num < c.length) && decide ((x.args.length:Int)=(prcAt c x.num).holds) && z3v x.const
 else if x.op=tieB then decide (x.args.length=2) && decide (0≤x.num) && decide (x.to=0) && z3v x.const
 else if x.op=ccB then false
 else decide (z30 x.op=x.args.length) && decide (x.num=0) && z3v x.const
def finOk (p:PrcX) (e:EndX):Bool:=
 let reg:=z0u p [e.reg]
 let to:=z0u p [e.to]
 let args:=z0u p e.args && decide (e.args.length≤6)
 let none:=e.args.isEmpty
 let next:=decide (0≤e.next) && decide (e.next < p.blocks.length)
 let other:=decide (0≤e.els) && decide (e.els < p.blocks.length)
 if e.kind=0 then next && none && decide (e.reg=0) && decide (e.to=0) && decide (e.els=0)
 else if e.kind=1 then next && other && none && reg && decide (e.to=0)
 else if e.kind=2∨e.kind=5 then reg && none && decide (e.to=0) && decide (e.next=0) && decide (e.els=0)
 else if e.kind=3 then reg && args && decide (e.to=0) && decide (e.next=0) && decide (e.els=0)
 else if e.kind=4 then reg && args && to && next && decide (e.els=0)
 else if e.kind=6 then reg && none && to && next && decide (e.els=0)
 else false
def BlkX.many (b:BlkX):Nat:=1+b.ins.length
def PrcX.many (p:PrcX):Nat:=(p.blocks.map BlkX.many).sum
def manyC (c:CodeX):Nat:=(c.map PrcX.many).sum
def prcOk (c:CodeX) (p:PrcX):Bool:=
 decide (0≤p.params) && decide (p.params≤6) && decide (0≤p.holds) && decide (p.holds≤1000) && decide (p.params≤p.regs) && !p.blocks.isEmpty &&
  p.blocks.all fun b=>b.ins.all (insOk c p) && finOk p b.e
def z1z (c:CodeX):Bool:=(c.any fun p=>decide (2000 < p.regs)) || decide (4096 < manyC c) || decide (300 < c.length)
def z16 (c:CodeX):Int:=
 if z1z c then 151
 else match c with
 | []=>150
 | p::_=>if decide (p.params=0) && decide (p.holds=0) && c.all (prcOk c) then 0 else 150
structure GoodC (c:CodeX):Prop where
 many:manyC c≤4096
 few:c.length≤300
 regs:∀p∈c,p.regs≤2000
 first:∃p l,c=p::l∧p.params=0∧p.holds=0
 prcs:∀p∈c,prcOk c p=true
theorem zbx {c:CodeX} (h:z16 c=0):GoodC c:=by
 unfold z16 at h
 by_cases hm:z1z c=true
 ·rw [if_pos hm] at h;omega
 rw [if_neg hm] at h
 simp only [z1z,Bool.or_eq_true,List.any_eq_true,zdt,not_or,not_exists,not_and] at hm
 match c,h with
 | [],h=>simp at h
 | p::l,h=>
  simp only at h
  split at h
  ·rename_i hh
   simp only [zba,zdt,List.all_eq_true] at hh
   exact ⟨by omega,by omega,fun p hp=>by have:=hm.1.1 p hp;omega,⟨p,l,rfl,hh.1⟩,hh.2⟩
  ·omega
theorem zra {α:Type} (f:α→Nat):∀{l:List α} {a:α},a∈l→f a≤(l.map f).sum
 | b::l,a,h=>by
  rw [List.map_cons,List.sum_cons]
  rcases List.mem_cons.1 h with rfl | h
  ·omega
  ·have:=zra f h;omega
theorem zy9 {α:Type} (f:α→Nat) (h:∀a,1≤f a):∀l:List α,l.length≤(l.map f).sum
 | []=>Nat.zero_le _
 | a::l=>by
  have:=zy9 f h l
  have:=h a
  rw [List.map_cons,List.sum_cons,zlc];omega
theorem zu3 {p:PrcX} {b:BlkX} (h:b∈p.blocks):1+b.ins.length≤p.many:=zra BlkX.many h
theorem zoe {c:CodeX} {p:PrcX} (h:p∈c):p.many≤manyC c:=zra PrcX.many h
theorem Z0k (p:PrcX):p.blocks.length≤p.many:=zy9 BlkX.many (fun b=>by unfold BlkX.many;omega) p.blocks
structure GoodP (c:CodeX) (p:PrcX):Prop where
 params:0≤p.params∧p.params≤6
 holds:0≤p.holds∧p.holds≤1000
 regs:p.params≤p.regs∧p.regs≤2000
 blocks:0 < p.blocks.length∧p.blocks.length≤4096
 ins:∀b∈p.blocks,b.ins.length≤4096∧∀x∈b.ins,insOk c p x=true
 fin:∀b∈p.blocks,finOk p b.e=true
theorem GoodC.prc {c:CodeX} (h:GoodC c) {p:PrcX} (hp:p∈c):GoodP c p:=by
 have h1:=h.prcs p hp
 simp only [prcOk,zba,zdt,Bool.not_eq_true',List.all_eq_true,List.isEmpty_eq_false_iff] at h1
 have h2:=zoe hp
 have h3:=h.many
 have h4:=h.regs p hp
 have h5:=Z0k p
 refine ⟨by omega,by omega,by omega,⟨List.length_pos_iff.2 h1.1.2,by omega⟩,fun b hb=>⟨?_,(h1.2 b hb).1⟩,fun b hb=>(h1.2 b hb).2⟩
 have:=zu3 hb;omega
theorem z1n {c:CodeX} {i:Int} (h0:0≤i) (h1:i < c.length):prcAt c i∈c∧c[i.toNat]?=some (prcAt c i):=by
 have hlt:i.toNat < c.length:=by omega
 have:prcAt c i=c[i.toNat]:=by
  unfold prcAt
  rw [zgd,zge hlt];rfl
 rw [this]
 exact ⟨List.getElem_mem hlt,zge hlt⟩
theorem zha {p:PrcX} {i:Int} (h0:0≤i) (h1:i < p.blocks.length):blkAt p i∈p.blocks∧p.blocks[i.toNat]?=some (blkAt p i):=by
 have hlt:i.toNat < p.blocks.length:=by omega
 have:blkAt p i=p.blocks[i.toNat]:=by
  unfold blkAt
  rw [zgd,zge hlt];rfl
 rw [this]
 exact ⟨List.getElem_mem hlt,zge hlt⟩
theorem regsOk_iff {p:PrcX} {l:List Int}:z0u p l=true↔∀r∈l,0≤r∧r < p.regs:=by
 unfold z0u;rw [List.all_eq_true];simp only [zdt]
structure InsGood (c:CodeX) (p:PrcX) (x:InsX):Prop where
 args:∀r∈x.args,0≤r∧r < p.regs
 to:x.op≠tieB→0≤x.to∧x.to < p.regs
 konst:x.op=z6a→z6l x.const=true
 move:x.op=movB→x.args.length=1
 held:x.op=hldB→0≤x.num∧x.num < p.holds
 closure:x.op=cloB→1≤x.num∧x.num < c.length∧(x.args.length:Int)=(prcAt c x.num).holds
 tie:x.op=tieB→x.args.length=2∧0≤x.num
 prim:x.op≠z6a→x.op≠movB→x.op≠hldB→x.op≠cloB→x.op≠tieB→z30 x.op=x.args.length
theorem z3w {c:CodeX} {p:PrcX} {x:InsX} (h:insOk c p x=true):InsGood c p x:=by
 unfold insOk at h
 split at h
 ·cases h
 rename_i h1
 simp only [Bool.or_eq_true,zba,Bool.not_eq_true',zdf,not_or,not_and,Bool.not_eq_false] at h1
 have ha:=regsOk_iff.1 h1.1
 have ht:x.op≠tieB→0≤x.to∧x.to < p.regs:=fun hop=>by
  have:z0u p [x.to]=true:=by
   cases hr:z0u p [x.to] with
   | true=>rfl
   | false=>exact absurd hop (by simpa using h1.2 hr)
  exact regsOk_iff.1 this _ (List.mem_singleton.2 rfl)
 have dd:z6a≠movB∧z6a≠hldB∧z6a≠cloB∧z6a≠tieB∧movB≠hldB∧movB≠cloB∧movB≠tieB∧hldB≠cloB∧hldB≠tieB∧cloB≠tieB:=by decide
 obtain ⟨d1,d2,d3,d4,d5,d6,d7,d8,d9,d10⟩:=dd
 by_cases e1:x.op=z6a
 ·rw [if_pos e1] at h
  simp only [zba] at h
  exact ⟨ha,ht,fun _=>h.2,fun e=>absurd (e1.symm.trans e) d1,fun e=>absurd (e1.symm.trans e) d2,fun e=>absurd (e1.symm.trans e) d3,fun e=>absurd (e1.symm.trans e) d4,fun e=>absurd e1 e⟩
 rw [if_neg e1] at h
 by_cases e2:x.op=movB
 ·rw [if_pos e2] at h
  simp only [zba,zdt] at h
  exact ⟨ha,ht,fun e=>absurd e e1,fun _=>h.1.1,fun e=>absurd (e2.symm.trans e) d5,fun e=>absurd (e2.symm.trans e) d6,fun e=>absurd (e2.symm.trans e) d7,fun _ e=>absurd e2 e⟩
 rw [if_neg e2] at h
 by_cases e3:x.op=hldB
 ·rw [if_pos e3] at h
  simp only [zba,zdt] at h
  exact ⟨ha,ht,fun e=>absurd e e1,fun e=>absurd e e2,fun _=>⟨h.1.1.2,h.1.2⟩,fun e=>absurd (e3.symm.trans e) d8,fun e=>absurd (e3.symm.trans e) d9,fun _ _ e=>absurd e3 e⟩
 rw [if_neg e3] at h
 by_cases e4:x.op=cloB
 ·rw [if_pos e4] at h
  simp only [zba,zdt] at h
  exact ⟨ha,ht,fun e=>absurd e e1,fun e=>absurd e e2,fun e=>absurd e e3,fun _=>⟨h.1.1.1,h.1.1.2,h.1.2⟩,fun e=>absurd (e4.symm.trans e) d10,fun _ _ _ e=>absurd e4 e⟩
 rw [if_neg e4] at h
 by_cases e5:x.op=tieB
 ·rw [if_pos e5] at h
  simp only [zba,zdt] at h
  exact ⟨ha,ht,fun e=>absurd e e1,fun e=>absurd e e2,fun e=>absurd e e3,fun e=>absurd e e4,fun _=>⟨h.1.1.1,h.1.1.2⟩,fun _ _ _ _ e=>absurd e5 e⟩
 rw [if_neg e5] at h
 split at h
 ·cases h
 simp only [zba,zdt] at h
 exact ⟨ha,ht,fun e=>absurd e e1,fun e=>absurd e e2,fun e=>absurd e e3,fun e=>absurd e e4,fun e=>absurd e e5,fun _ _ _ _ _=>h.1.1⟩
structure FinGood (p:PrcX) (e:EndX):Prop where
 kind:0≤e.kind∧e.kind≤6
 reg:e.kind≠0→0≤e.reg∧e.reg < p.regs
 reg0:0≤e.reg
 to0:0≤e.to
 args:∀r∈e.args,0≤r∧r < p.regs
 few:e.args.length≤6
 argsK:e.args≠[]→e.kind=3∨e.kind=4
 next:e.kind=0∨e.kind=1∨e.kind=4∨e.kind=6→0≤e.next∧e.next < p.blocks.length
 els:e.kind=1→0≤e.els∧e.els < p.blocks.length
 nextA:0≤e.next∧(e.next < p.blocks.length∨e.next=0)
 to:e.kind=4∨e.kind=6→0≤e.to∧e.to < p.regs
theorem z2n {p:PrcX} {e:EndX} (h:finOk p e=true):FinGood p e:=by
 have r1:∀{r:Int},z0u p [r]=true→0≤r∧r < p.regs:=fun h=>regsOk_iff.1 h _ (List.mem_singleton.2 rfl)
 unfold finOk at h
 simp only at h
 have nil:∀{P:Prop},e.args.isEmpty=true→((∀r∈e.args,0≤r∧r < p.regs)∧e.args.length≤6∧(e.args≠[]→P)):=fun {P} hn=>by
  have:e.args=[]:=List.isEmpty_iff.1 hn
  rw [this];simp
 by_cases k0:e.kind=0
 ·rw [if_pos k0] at h
  simp only [zba,zdt] at h
  obtain ⟨a1,a2,a3⟩:=nil (P:=e.kind=3∨e.kind=4) h.1.1.1.2
  exact ⟨by omega,fun hk=>absurd k0 hk,by omega,by omega,a1,a2,a3,fun _=>h.1.1.1.1,by omega,by omega,by omega⟩
 rw [if_neg k0] at h
 by_cases k1:e.kind=1
 ·rw [if_pos k1] at h
  simp only [zba,zdt] at h
  obtain ⟨a1,a2,a3⟩:=nil (P:=e.kind=3∨e.kind=4) h.1.1.2
  have:=r1 h.1.2
  exact ⟨by omega,fun _=>this,by omega,by omega,a1,a2,a3,fun _=>h.1.1.1.1,fun _=>h.1.1.1.2,by omega,by omega⟩
 rw [if_neg k1] at h
 by_cases k2:e.kind=2∨e.kind=5
 ·rw [if_pos k2] at h
  simp only [zba,zdt] at h
  obtain ⟨a1,a2,a3⟩:=nil (P:=e.kind=3∨e.kind=4) h.1.1.1.2
  have:=r1 h.1.1.1.1
  exact ⟨by omega,fun _=>this,by omega,by omega,a1,a2,a3,by omega,by omega,by omega,by omega⟩
 rw [if_neg k2] at h
 by_cases k3:e.kind=3
 ·rw [if_pos k3] at h
  simp only [zba,zdt] at h
  have:=r1 h.1.1.1.1
  exact ⟨by omega,fun _=>this,by omega,by omega,regsOk_iff.1 h.1.1.1.2.1,h.1.1.1.2.2,fun _=>.inl k3,by omega,by omega,by omega,by omega⟩
 rw [if_neg k3] at h
 by_cases k4:e.kind=4
 ·rw [if_pos k4] at h
  simp only [zba,zdt] at h
  have:=r1 h.1.1.1.1
  have h2:=r1 h.1.1.2
  exact ⟨by omega,fun _=>this,by omega,by omega,regsOk_iff.1 h.1.1.1.2.1,h.1.1.1.2.2,fun _=>.inr k4,fun _=>h.1.2,by omega,by omega,fun _=>h2⟩
 rw [if_neg k4] at h
 by_cases k6:e.kind=6
 ·rw [if_pos k6] at h
  simp only [zba,zdt] at h
  obtain ⟨a1,a2,a3⟩:=nil (P:=e.kind=3∨e.kind=4) h.1.1.1.2
  have:=r1 h.1.1.1.1
  have h2:=r1 h.1.1.2
  exact ⟨by omega,fun _=>this,by omega,by omega,a1,a2,a3,fun _=>h.1.2,by omega,by omega,fun _=>h2⟩
 rw [if_neg k6] at h
 cases h
theorem GoodC.ok {c:CodeX} (h:GoodC c):CodeOk c:=by
 refine ⟨fun p hp b hb x hx=>?_,fun p hp b hb=>?_⟩
 ·have hx:=z3w (((h.prc hp).ins b hb).2 x hx)
  exact ⟨fun r hr=>(hx.args r hr).1,fun hop=>(hx.to hop).1⟩
 ·have he:=z2n ((h.prc hp).fin b hb)
  exact ⟨fun r hr=>(he.args r hr).1,he.reg0,he.to0,he.next,he.els,he.kind.1,he.kind.2,he.argsK⟩
structure ActOk (c:CodeX) (cl:List CloX) (a:ActX):Prop where
 proc:0≤a.proc∧a.proc < c.length
 regs:(a.regs.length:Int)=(prcAt c a.proc).regs
 clo0:0≤a.clo
 clo:∃x,cl[a.clo.toNat]?=some x∧x.kont=false∧x.proc=a.proc
 blk:0≤a.block∧a.block < (prcAt c a.proc).blocks.length
 at_:0≤a.at_∧a.at_≤(blkAt (prcAt c a.proc) a.block).ins.length
def z8e (a:ActX):Prop:=0≤a.to∧a.to < a.regs.length
structure CloOk (c:CodeX) (cl:List CloX) (n:Nat) (x:CloX):Prop where
 kont:x.kont=true→∀a∈x.acts,ActOk c cl a∧z8e a
 fn:x.kont=false→(0≤x.proc∧x.proc < c.length)∧(x.held.length:Int)=(prcAt c x.proc).holds
 few:x.acts.length≤n
def CloLe (cl cl':List CloX):Prop:=∀(i:Nat) (x:CloX),cl[i]?=some x→∃x':CloX,cl'[i]?=some x'∧x'.kont=x.kont∧x'.proc=x.proc
structure CoreOk (c:CodeX) (n:Nat) (m:MX):Prop where
 heap:HeapOk m.h
 hn:m.h.length≤n
 cn:m.clos.length≤n
 on:m.out.length≤n
 clos:∀x∈m.clos,CloOk c m.clos n x
structure ActsOk (c:CodeX) (n:Nat) (m:MX):Prop where
 an:m.acts.length≤n
 acts:∀a∈m.acts,ActOk c m.clos a
structure RunOk (c:CodeX) (n:Nat) (m:MX):Prop where
 core:CoreOk c n m
 acts:ActsOk c n m
 last:m.acts≠[]
 wait:∀a∈m.acts.dropLast,z8e a
def StepOk (c:CodeX) (n:Nat) (m:MX):Prop:=CoreOk c n m∧(m.e=0→m.done=false→RunOk c n m)
section
variable {c:CodeX} {n:Nat} {m:MX}
theorem CloLe.refl (cl:List CloX):CloLe cl cl:=fun _ x h=>⟨x,h,rfl,rfl⟩
theorem CloLe.add (cl:List CloX) (y:CloX):CloLe cl (cl++[y]):=fun i x h=>⟨x,by rw [List.getElem?_append_left (List.getElem?_eq_some_iff.1 h).1];exact h,rfl,rfl⟩
theorem CloLe.set {cl:List CloX} {k:Nat} {y:CloX} (hk:∀x,cl[k]?=some x→y.kont=x.kont∧y.proc=x.proc):CloLe cl (cl.set k y):=fun i x h=>by
 rw [List.getElem?_set]
 by_cases e:k=i
 ·subst e
  rw [if_pos rfl,if_pos (List.getElem?_eq_some_iff.1 h).1]
  exact ⟨y,rfl,hk x h⟩
 ·rw [if_neg e];exact ⟨x,h,rfl,rfl⟩
theorem ActOk.mono {cl cl':List CloX} {a:ActX} (h:ActOk c cl a) (hl:CloLe cl cl'):ActOk c cl' a:=by
 obtain ⟨x,h1,h2,h3⟩:=h.clo
 obtain ⟨x',h4,h5,h6⟩:=hl _ x h1
 exact ⟨h.proc,h.regs,h.clo0,⟨x',h4,h5.trans h2,h6.trans h3⟩,h.blk,h.at_⟩
theorem CloOk.mono {cl cl':List CloX} {n':Nat} {x:CloX} (h:CloOk c cl n x) (hl:CloLe cl cl') (hn:n≤n'):CloOk c cl' n' x:=
 ⟨fun hk a ha=>⟨(h.kont hk a ha).1.mono hl,(h.kont hk a ha).2⟩,h.fn,Nat.le_trans h.few hn⟩
theorem CoreOk.more {n':Nat} (h:CoreOk c n m) (hn:n≤n'):CoreOk c n' m:=⟨h.heap,Nat.le_trans h.hn hn,Nat.le_trans h.cn hn,Nat.le_trans h.on hn,fun x hx=>(h.clos x hx).mono (CloLe.refl _) hn⟩
theorem ActsOk.more {n':Nat} (h:ActsOk c n m) (hn:n≤n'):ActsOk c n' m:=⟨Nat.le_trans h.an hn,h.acts⟩
theorem RunOk.more {n':Nat} (h:RunOk c n m) (hn:n≤n'):RunOk c n' m:=⟨h.core.more hn,h.acts.more hn,h.last,h.wait⟩
theorem StepOk.of_run (h:RunOk c n m):StepOk c n m:=⟨h.core,fun _ _=>h⟩
theorem StepOk.of_end (h:CoreOk c n m) (he:m.e≠0∨m.done=true):StepOk c n m:=⟨h,fun h1 h2=>by
 rcases he with he | he
 ·exact absurd h1 he
 ·rw [he] at h2;cases h2⟩
theorem CoreOk.same {m':MX} (h:CoreOk c n m) (h1:m'.h=m.h) (h2:m'.clos=m.clos) (h3:m'.out.length≤n):CoreOk c n m':=by
 refine ⟨by rw [h1];exact h.heap,by rw [h1];exact h.hn,by rw [h2];exact h.cn,h3,?_⟩
 rw [h2];exact h.clos
theorem zaz (h:CoreOk c n m) {x:CloX} (hx:∀i,CloOk c (m.clos++[{ x with thing:=i }]) (n+1) { x with thing:=i }):CoreOk c (n+1) (m.made x).1∧CloLe m.clos (m.made x).1.clos:=by
 have hle:=CloLe.add m.clos { x with thing:=(addX m.h 4 []).2.int }
 refine ⟨⟨?_,?_,?_,?_,?_⟩,hle⟩
 ·exact (zxy h.heap (by omega) (fun v hv=>by cases hv) (by omega) (by omega) (by omega) (by simp)).1
 ·show (addX m.h 4 []).1.length≤n+1
  have:=h.hn
  simp only [addX,zla,zlc,List.length_nil];omega
 ·show (m.clos++[_]).length≤n+1
  have:=h.cn
  simp only [zla,zlc,List.length_nil];omega
 ·exact Nat.le_succ_of_le h.on
 ·intro y hy
  rcases List.mem_append.1 (show y∈m.clos++[_] from hy) with hy | hy
  ·exact (h.clos y hy).mono hle (Nat.le_succ n)
  ·rw [List.mem_singleton.1 hy];exact hx _
theorem zmk {α:Type} {l:List α} {a:α} (h:a∈l.dropLast):a∈l:=List.dropLast_subset l h
theorem zeh {α:Type} {l:List α} (h:l≠[]):∃ws a,l=ws++[a]:=⟨l.dropLast,l.getLast h,(List.dropLast_concat_getLast h).symm⟩
theorem zy7 (h:CoreOk c n m) (ha:ActsOk c n m) (hw:∀a∈m.acts,z8e a) (v:VX):StepOk c n (m.tell v):=by
 by_cases hn:m.acts=[]
 ·have:m.tell v={ m with told:=v,done:=true }:=by unfold MX.tell;rw [hn];rfl
  rw [this]
  exact .of_end (h.same rfl rfl h.on) (.inr rfl)
 ·obtain ⟨ws,a,hs⟩:=zeh hn
  have:m.tell v={ m with acts:=ws++[{ a with regs:=a.regs.set a.to.toNat v }] }:=by unfold MX.tell;rw [hs];simp
  rw [this]
  refine .of_run ⟨h.same rfl rfl h.on,⟨?_,?_⟩,by simp,?_⟩
  ·have:=ha.an;rw [hs] at this;simpa using this
  ·intro b hb
   rcases List.mem_append.1 (show b∈ws++[_] from hb) with hb | hb
   ·exact ha.acts b (by rw [hs];exact List.mem_append_left _ hb)
   ·rw [List.mem_singleton.1 hb]
    have h1:=ha.acts a (by rw [hs];simp)
    exact ⟨h1.proc,by rw [←h1.regs];simp,h1.clo0,h1.clo,h1.blk,h1.at_⟩
  ·intro b hb
   have:b∈ws:=by simpa using hb
   exact hw b (by rw [hs];exact List.mem_append_left _ this)
theorem zme {v:VX} {k:Nat} (h:m.find v=some k):∃x,m.clos[k]?=some x:=by
 unfold MX.find at h
 rw [List.findIdx?_eq_some_iff_getElem] at h
 obtain ⟨h1,_⟩:=h
 exact ⟨_,zge h1⟩
theorem zhp (p:PrcX) (proc:Int) (k:Nat) (args:List VX) (h:0≤p.regs):((z10 p proc k args).regs.length:Int)=p.regs:=by
 show (((List.range p.regs.toNat).map _).length:Int)=_
 rw [List.length_map,List.length_range];omega
theorem zj0 (g:GoodC c) (h:CoreOk c n m) (ha:ActsOk c n m) (v:VX) (args:List VX) (behind:Bool) (hw:∀a∈(if behind then m.acts else m.acts.dropLast),z8e a):StepOk c (n+1) (m.call c v args behind):=by
 have e90:(90:Int)≠0:=by decide
 have e91:(91:Int)≠0:=by decide
 unfold MX.call
 cases hf:m.find v with
 | none=>exact .of_end ((h.more (Nat.le_succ n)).same rfl rfl (Nat.le_succ_of_le h.on)) (.inl e90)
 | some k=>
  obtain ⟨x,hx⟩:=zme hf
  have hgd:m.clos.getD k default=x:=by rw [zgd,hx];rfl
  simp only [hgd]
  have hxo:=h.clos x (List.mem_of_getElem? hx)
  cases hk:x.kont with
  | true=>
   simp only [if_true]
   have key:∀y,StepOk c (n+1) (({ m with acts:=x.acts }:MX).tell y):=fun y=>
    zy7 (m:={ m with acts:=x.acts }) ((h.more (Nat.le_succ n)).same rfl rfl (Nat.le_succ_of_le h.on)) ⟨Nat.le_succ_of_le hxo.few,fun a ha'=>(hxo.kont hk a ha').1⟩ (fun a ha'=>(hxo.kont hk a ha').2) y
   split
   ·exact key _
   ·exact .of_end ((h.more (Nat.le_succ n)).same rfl rfl (Nat.le_succ_of_le h.on)) (.inl e91)
  | false=>
   simp only [Bool.false_eq_true,if_false]
   split
   ·exact .of_end ((h.more (Nat.le_succ n)).same rfl rfl (Nat.le_succ_of_le h.on)) (.inl e91)
   ·obtain ⟨hp,_⟩:=hxo.fn hk
    obtain ⟨hp1,_⟩:=z1n hp.1 hp.2
    have gp:=g.prc hp1
    have hin:∀a∈(if behind then m.acts else m.acts.dropLast),a∈m.acts:=fun a ha'=>by
     cases behind with
     | true=>exact ha'
     | false=>exact zmk ha'
    have hlen:(if behind then m.acts else m.acts.dropLast).length≤n:=by
     have:=ha.an
     cases behind with
     | true=>exact this
     | false=>simp;omega
    refine .of_run ⟨(h.more (Nat.le_succ n)).same rfl rfl (Nat.le_succ_of_le h.on),⟨?_,?_⟩,by simp,?_⟩
    ·show (_++[_]).length≤n+1
     simp only [zla,zlc,List.length_nil];omega
    ·intro a ha'
     rcases List.mem_append.1 (show a∈_++[_] from ha') with ha' | ha'
     ·exact ha.acts a (hin a ha')
     ·rw [List.mem_singleton.1 ha']
      refine ⟨hp,zhp _ _ _ _ (by have:=gp.params;have:=gp.regs;omega),by show (0:Int)≤(k:Int);omega,⟨x,by show m.clos[((k:Int)).toNat]?=_;rw [Int.toNat_natCast];exact hx,hk,rfl⟩,⟨by show (0:Int)≤0;omega,by show (0:Int) < _;have:=gp.blocks.1;exact Int.ofNat_lt.2 this⟩,by show (0:Int)≤0;omega,by show (0:Int)≤_;omega⟩
    ·intro a ha'
     have:a∈(if behind then m.acts else m.acts.dropLast):=by
      have h2:a∈((if behind then m.acts else m.acts.dropLast)++[z10 (prcAt c x.proc) x.proc k args]).dropLast:=ha'
      simpa using h2
     exact hw a this
theorem zqp (h:RunOk c n m) (r:Int) (v:VX):RunOk c n (m.put r v):=by
 obtain ⟨ws,a,hs⟩:=zeh h.last
 have:m.put r v={ m with acts:=ws++[{ a with regs:=a.regs.set r.toNat v }] }:=z2w hs _
 rw [this]
 refine ⟨h.core.same rfl rfl h.core.on,⟨?_,?_⟩,by simp,?_⟩
 ·have:=h.acts.an;rw [hs] at this;simpa using this
 ·intro b hb
  rcases List.mem_append.1 (show b∈ws++[_] from hb) with hb | hb
  ·exact h.acts.acts b (by rw [hs];exact List.mem_append_left _ hb)
  ·rw [List.mem_singleton.1 hb]
   have h1:=h.acts.acts a (by rw [hs];simp)
   exact ⟨h1.proc,by rw [←h1.regs];simp,h1.clo0,h1.clo,h1.blk,h1.at_⟩
 ·intro b hb
  have:b∈ws:=by simpa using hb
  exact h.wait b (by rw [hs];simpa using this)
theorem RunOk.same {m':MX} (h:RunOk c n m) (hc:CoreOk c n m') (h2:m'.clos=m.clos) (h3:m'.acts=m.acts):RunOk c n m':=
 ⟨hc,⟨by rw [h3];exact h.acts.an,by rw [h2,h3];exact h.acts.acts⟩,by rw [h3];exact h.last,by rw [h3];exact h.wait⟩
theorem RunOk.grown {n':Nat} {m':MX} (h:RunOk c n m) (hn:n≤n') (hc:CoreOk c n' m') (h2:CloLe m.clos m'.clos) (h3:m'.acts=m.acts):RunOk c n' m':=
 ⟨hc,⟨by rw [h3];exact Nat.le_trans h.acts.an hn,by rw [h3];exact fun a ha=>(h.acts.acts a ha).mono h2⟩,by rw [h3];exact h.last,by rw [h3];exact h.wait⟩
theorem CoreOk.heaps {m':MX} (h:CoreOk c n m) (h1:HeapOk m'.h) (h1':m'.h.length≤n+1) (h2:m'.clos=m.clos) (h3:m'.out.length≤n+1):CoreOk c (n+1) m':=by
 refine ⟨h1,h1',by rw [h2];exact Nat.le_succ_of_le h.cn,h3,?_⟩
 rw [h2];exact fun x hx=>(h.clos x hx).mono (CloLe.refl _) (Nat.le_succ n)
theorem Z38 (h:HX) (s:List UInt8) (args:List VX):(actX h s args).1.length≤h.length+1:=by
 have a1:∀k l,(addX h k l).1.length≤h.length+1:=fun k l=>by simp [addX]
 have a2:∀op a b,(z0b h op a b).1.length≤h.length+1:=fun op a b=>by
  unfold z0b;simp only
  split
  ·simp
  ·split<;>simp
 have a3:∀k i v,(z1i h k i v).1.length≤h.length+1:=fun k i v=>by
  unfold z1i
  split
  ·simp
  ·exact a1 _ _
 have a4:∀v i x,(putX h v i x).1.length≤h.length+1:=fun v i x=>by
  unfold putX;simp only
  split
  ·simp
  ·simp
 have a5:h.length≤h.length+1:=Nat.le_succ _
 have key:∀(p:Prop) [Decidable p] (x y:HX×VX×Int),x.1.length≤h.length+1→y.1.length≤h.length+1→(if p then x else y).1.length≤h.length+1:=fun p _ x y hx hy=>by
  by_cases hp:p
  ·rw [if_pos hp];exact hx
  ·rw [if_neg hp];exact hy
 unfold actX
 simp only
 repeat' (first | exact a5 | exact a2 _ _ _ | exact a1 _ _ | exact a3 _ _ _ | exact a4 _ _ _ | apply key)
theorem zy4 (h:HX) (s:List UInt8) (args:List VX):(doX h s args).1.length≤h.length+1:=by
 unfold doX
 repeat' split
 all_goals first | exact Z38 _ _ _ | exact Nat.le_succ _
theorem Z5i (h:CoreOk c n m) (s:List UInt8) (args:List VX):CoreOk c (n+1) (m.prim s args).1∧(m.prim s args).1.clos=m.clos∧(m.prim s args).1.acts=m.acts∧(m.prim s args).1.done=m.done:=by
 have h0:=h.more (Nat.le_succ n)
 have ho:=h.on
 unfold MX.prim
 simp only
 split
 ·split
  ·exact ⟨h0,rfl,rfl,rfl⟩
  ·exact ⟨h0.same rfl rfl (by show m.out.length≤n+1;omega),rfl,rfl,rfl⟩
 split
 ·split
  ·exact ⟨h0.same rfl rfl (by show m.out.length≤n+1;omega),rfl,rfl,rfl⟩
  split
  ·exact ⟨h0.same rfl rfl (by show m.out.length≤n+1;omega),rfl,rfl,rfl⟩
  ·exact ⟨h0.same rfl rfl (by show (m.out++[_]).length≤n+1;simp;omega),rfl,rfl,rfl⟩
 split
 ·exact ⟨h0.same rfl rfl (by show m.out.length≤n+1;omega),rfl,rfl,rfl⟩
 split
 ·exact ⟨h0,rfl,rfl,rfl⟩
 split
 ·exact ⟨h0.same rfl rfl (by show m.out.length≤n+1;omega),rfl,rfl,rfl⟩
 ·obtain ⟨g1,g2,_⟩:=zzy h.heap s args
  have g3:=zy4 m.h s args
  have:=h.hn
  exact ⟨h.heaps g1 (by show (doX m.h s args).1.length≤n+1;omega) rfl (by show m.out.length≤n+1;omega),rfl,rfl,rfl⟩
end
section
variable {K:Dat→VX} {c:CodeX} {n:Nat} {m:MX}
theorem zjm (h:CoreOk c (n+1) m) (hr:m.e=0→RunOk c (n+1) m) (r:Int) (v:VX):StepOk c (n+1) (if m.e=0 then m.put r v else m):=by
 split
 ·rename_i he
  exact .of_run (zqp (hr he) r v)
 ·rename_i he
  exact .of_end h (.inl he)
theorem z29 {ws:List ActX} {a:ActX} (hs:m.acts=ws++[a]):m.acts.getLast?.getD default=a:=by rw [hs,z2d];rfl
theorem Z5w (g:GoodC c) (h:RunOk c n m) (he:m.e=0) (hd:m.done=false) {ws:List ActX} {a:ActX} (hs:m.acts=ws++[a]) {x:InsX} (hx:InsGood c (prcAt c a.proc) x):StepOk c (n+1) (m.ins K x):=by
 have h1:=h.more (Nat.le_succ n)
 have hla:=z29 hs
 have e80:(80:Int)≠0:=by decide
 unfold MX.ins
 simp only [hla]
 split
 ·first | exact zjm (m:=m) h1.core (fun _=>h1) _ _ | exact .of_run (zqp h1 _ _)
 split
 ·first | exact zjm (m:=m) h1.core (fun _=>h1) _ _ | exact .of_run (zqp h1 _ _)
 split
 ·first | exact zjm (m:=m) h1.core (fun _=>h1) _ _ | exact .of_run (zqp h1 _ _)
 split
 ·rename_i e
  obtain ⟨c1,c2,c3⟩:=hx.closure e
  have hmade:=zaz h.core (x:=⟨0,x.num,x.args.map (regAt a),false,[]⟩) fun i=>⟨fun hk=>(by cases hk),fun _=>⟨⟨by show 0≤x.num;omega,c2⟩,by show ((x.args.map (regAt a)).length:Int)=_;rw [List.length_map];exact c3⟩,Nat.zero_le _⟩
  exact zjm (m:=(m.made ⟨0,x.num,x.args.map (regAt a),false,[]⟩).1) hmade.1 (fun _=>h.grown (Nat.le_succ n) hmade.1 hmade.2 rfl) _ _
 split
 ·split
  ·exact .of_end (h1.core.same rfl rfl (by have:=h.core.on;show m.out.length≤n+1;omega)) (.inl e80)
  ·rename_i k hk
   obtain ⟨y,hy⟩:=zme hk
   have hgd:m.clos.getD k default=y:=by rw [zgd,hy];rfl
   simp only [hgd]
   split
   ·exact .of_end (h1.core.same rfl rfl (by have:=h.core.on;show m.out.length≤n+1;omega)) (.inl e80)
   ·have hle:CloLe m.clos (m.clos.set k { y with held:=y.held.set x.num.toNat ((x.args.map (regAt a)).getD 1 vNone) }):=
     CloLe.set fun z hz=>by rw [hy] at hz;cases hz;exact ⟨rfl,rfl⟩
    have hco:CoreOk c (n+1) { m with clos:=m.clos.set k { y with held:=y.held.set x.num.toNat ((x.args.map (regAt a)).getD 1 vNone) } }:=by
     refine ⟨h1.core.heap,h1.core.hn,by show (m.clos.set k _).length≤n+1;rw [List.length_set];exact h1.core.cn,h1.core.on,fun z hz=>?_⟩
     rcases List.mem_or_eq_of_mem_set (show z∈m.clos.set k _ from hz) with hz | rfl
     ·exact (h1.core.clos z hz).mono hle (Nat.le_refl _)
     ·have hyo:=h1.core.clos y (List.mem_of_getElem? hy)
      refine ⟨fun hk' b hb=>⟨(hyo.kont hk' b hb).1.mono hle,(hyo.kont hk' b hb).2⟩,fun hk'=>⟨(hyo.fn hk').1,?_⟩,hyo.few⟩
      show ((y.held.set _ _).length:Int)=_
      rw [List.length_set];exact (hyo.fn hk').2
    exact .of_run (h.grown (Nat.le_succ n) hco hle rfl)
 ·obtain ⟨p1,p2,p3,p4⟩:=Z5i h.core x.op (x.args.map (regAt a))
  exact zjm (m:=(m.prim x.op (x.args.map (regAt a))).1) p1 (fun _=>h.grown (Nat.le_succ n) p1 (by rw [p2];exact CloLe.refl _) p3) _ _
theorem Z62 (g:GoodC c) (h:RunOk c n m) {ws:List ActX} {a:ActX} (hs:m.acts=ws++[a]) {e:EndX} (hx:FinGood (prcAt c a.proc) e):StepOk c (n+2) (m.fin c e):=by
 have hla:=z29 hs
 have hao:=h.acts.acts a (by rw [hs];simp)
 obtain ⟨hpm,_⟩:=z1n hao.proc.1 hao.proc.2
 have hpos:=(g.prc hpm).blocks.1
 unfold MX.fin
 simp only [hla]
 rw [z2w hs]
 have key:∀v:VX,∀B:Int,B=(if e.kind=1∧v=vNone then e.els else e.next)→StepOk c (n+2)
   (let m1:MX:={ m with acts:=ws++[{ a with at_:=0,block:=B,to:=e.to }] }
   if e.kind=2 then ({ m1 with acts:=m1.acts.dropLast }:MX).tell v
   else if e.kind=3 then m1.call c v (e.args.map (regAt a)) false
   else if e.kind=4 then m1.call c v (e.args.map (regAt a)) true
   else if e.kind=5 then
    let r:=m1.made ⟨0,0,[],true,m1.acts.dropLast⟩
    r.1.call c v [r.2] false
   else if e.kind=6 then
    let r:=m1.made ⟨0,0,[],true,m1.acts⟩
    r.1.call c v [r.2] true
   else m1):=by
  intro v B hB
  have hBr:0≤B∧B < (prcAt c a.proc).blocks.length:=by
   rw [hB]
   split
   ·rename_i hk
    exact hx.els hk.1
   ·have:=hx.nextA;omega
  have hc1:CoreOk c n { m with acts:=ws++[{ a with at_:=0,block:=B,to:=e.to }] }:=h.core.same rfl rfl h.core.on
  have hao':ActOk c m.clos { a with at_:=0,block:=B,to:=e.to }:=⟨hao.proc,hao.regs,hao.clo0,hao.clo,hBr,by show (0:Int)≤0;omega,by show (0:Int)≤_;omega⟩
  have ha1:ActsOk c n { m with acts:=ws++[{ a with at_:=0,block:=B,to:=e.to }] }:=by
   refine ⟨by have:=h.acts.an;rw [hs] at this;simpa using this,fun b hb=>?_⟩
   rcases List.mem_append.1 (show b∈ws++[_] from hb) with hb | hb
   ·exact h.acts.acts b (by rw [hs];exact List.mem_append_left _ hb)
   ·rw [List.mem_singleton.1 hb];exact hao'
  have hws:∀b∈ws,z8e b:=fun b hb=>h.wait b (by rw [hs];simpa using hb)
  have hdl:({ m with acts:=ws++[{ a with at_:=0,block:=B,to:=e.to }] }:MX).acts.dropLast=ws:=by simp
  have hall:e.kind=4∨e.kind=6→∀b∈({ m with acts:=ws++[{ a with at_:=0,block:=B,to:=e.to }] }:MX).acts,z8e b:=fun hk b hb=>by
   rcases List.mem_append.1 (show b∈ws++[_] from hb) with hb | hb
   ·exact hws b hb
   ·rw [List.mem_singleton.1 hb]
    have:=hx.to hk
    refine ⟨this.1,?_⟩
    show e.to < (a.regs.length:Int)
    rw [hao.regs];exact this.2
  simp only
  split
  ·refine StepOk_more (n:=n) (n':=n+2) (zy7 (m:={ m with acts:=({ m with acts:=ws++[{ a with at_:=0,block:=B,to:=e.to }] }:MX).acts.dropLast }) (h.core.same rfl rfl h.core.on) ⟨?_,fun b hb=>?_⟩ (fun b hb=>?_) v) (by omega)
   ·have:=ha1.an;simp at this ⊢;omega
   ·exact ha1.acts b (zmk hb)
   ·exact hws b (by rw [←hdl];exact hb)
  split
  ·exact StepOk_more (zj0 g hc1 ha1 v _ false (by rw [if_neg (by simp),hdl];exact hws)) (by omega)
  split
  ·rename_i hk
   exact StepOk_more (zj0 g hc1 ha1 v _ true (by rw [if_pos rfl];exact hall (.inl hk))) (by omega)
  split
  ·obtain ⟨k1,k2⟩:=zaz hc1 (x:=⟨0,0,[],true,ws⟩) fun i=>⟨fun _ b hb=>⟨(h.acts.acts b (by rw [hs];exact List.mem_append_left _ hb)).mono (CloLe.add _ _),hws b hb⟩,fun hk=>(by cases hk),by have:=h.acts.an;rw [hs] at this;simp at this;show ws.length≤n+1;omega⟩
   rw [hdl]
   refine zj0 g k1 ⟨Nat.le_succ_of_le ha1.an,fun b hb=>(ha1.acts b hb).mono k2⟩ v _ false ?_
   rw [if_neg (by simp)]
   intro b hb
   have:b∈ws:=by rw [←hdl];exact hb
   exact hws b this
  split
  ·rename_i hk
   obtain ⟨k1,k2⟩:=zaz hc1 (x:=⟨0,0,[],true,ws++[{ a with at_:=0,block:=B,to:=e.to }]⟩) fun i=>⟨fun _ b hb=>⟨(ha1.acts b hb).mono (CloLe.add _ _),hall (.inr hk) b hb⟩,fun hk=>(by cases hk),Nat.le_succ_of_le ha1.an⟩
   refine zj0 g k1 ⟨Nat.le_succ_of_le ha1.an,fun b hb=>(ha1.acts b hb).mono k2⟩ v _ true ?_
   rw [if_pos rfl]
   exact fun b hb=>hall (.inr hk) b hb
  ·exact .of_run ⟨hc1.more (by omega),ha1.more (by omega),by simp,by rw [hdl];exact hws⟩
 generalize (if e.kind=0 then vNone else regAt a e.reg)=v
 exact key v _ rfl
where
 StepOk_more {c:CodeX} {n n':Nat} {m:MX} (h:StepOk c n m) (hn:n≤n'):StepOk c n' m:=⟨h.1.more hn,fun a b=>(h.2 a b).more hn⟩
theorem zrl (g:GoodC c) (h:RunOk c n m) (he:m.e=0) (hd:m.done=false):StepOk c (n+2) (m.step K c):=by
 obtain ⟨ws,a,hs⟩:=zeh h.last
 have hla:=z29 hs
 have hao:=h.acts.acts a (by rw [hs];simp)
 obtain ⟨hpm,_⟩:=z1n hao.proc.1 hao.proc.2
 have gp:=g.prc hpm
 obtain ⟨hbm,_⟩:=zha hao.blk.1 hao.blk.2
 unfold MX.step
 simp only [hla]
 split
 ·rename_i x hx
  have hlt:=(List.getElem?_eq_some_iff.1 hx).1
  rw [z2w hs]
  have hr:RunOk c n { m with acts:=ws++[{ a with at_:=a.at_+1 }] }:=by
   refine ⟨h.core.same rfl rfl h.core.on,⟨by have:=h.acts.an;rw [hs] at this;simpa using this,fun b hb=>?_⟩,by simp,fun b hb=>?_⟩
   ·rcases List.mem_append.1 (show b∈ws++[_] from hb) with hb | hb
    ·exact h.acts.acts b (by rw [hs];exact List.mem_append_left _ hb)
    ·rw [List.mem_singleton.1 hb]
     have:=hao.at_
     exact ⟨hao.proc,hao.regs,hao.clo0,hao.clo,hao.blk,by show 0≤a.at_+1;omega,by show a.at_+1≤(((blkAt (prcAt c a.proc) a.block).ins.length:Nat):Int);omega⟩
   ·have:b∈ws:=by simpa using hb
    exact h.wait b (by rw [hs];simpa using this)
  have:=Z5w (K:=K) g hr he hd rfl (z3w ((gp.ins _ hbm).2 x (List.mem_of_getElem? hx)))
  exact ⟨this.1.more (by omega),fun p q=>(this.2 p q).more (by omega)⟩
 ·exact Z62 g h hs (z2n (gp.fin _ hbm))
theorem zvn (g:GoodC c) (input:List UInt8):StepOk c 2 (MX.first c input):=by
 have h0:CoreOk c 0 (⟨[],[],[],input,[],⟨4,0,[]⟩,vNone,false,0⟩:MX):=by
  refine ⟨⟨?_,?_,?_,?_,?_,?_⟩,Nat.le_refl _,Nat.le_refl _,Nat.le_refl _,?_⟩<;>intro t ht<;>cases ht
 obtain ⟨p,l,hc,hp,hh⟩:=g.first
 obtain ⟨k1,k2⟩:=zaz h0 (x:=⟨0,0,[],false,[]⟩) fun i=>⟨fun hk=>(by cases hk),fun _=>⟨⟨by show (0:Int)≤0;omega,by show (0:Int) < _;rw [hc,zlc];omega⟩,by
  show (0:Int)=(prcAt c 0).holds
  rw [hc]
  show (0:Int)=p.holds
  exact hh.symm⟩,Nat.zero_le _⟩
 have hno:∀a,a∉(MX.made (⟨[],[],[],input,[],⟨4,0,[]⟩,vNone,false,0⟩:MX) ⟨0,0,[],false,[]⟩).1.acts:=fun a ha=>by
  have:a∈([]:List ActX):=ha
  cases this
 have:=zj0 g k1 ⟨Nat.zero_le _,fun a ha=>absurd ha (hno a)⟩ (MX.made (⟨[],[],[],input,[],⟨4,0,[]⟩,vNone,false,0⟩:MX) ⟨0,0,[],false,[]⟩).2 [] true (by
  rw [if_pos rfl]
  exact fun a ha=>absurd ha (hno a))
 exact this
end
end Go.Proofs.YtofbhllknefloaaGreat.Vc
