import Derived.Test.YtfkclejklgoccaaGreatNn
import Derived.OpenShut
set_option linter.unusedSimpArgs false
set_option linter.unusedVariables false
set_option maxRecDepth 100000
set_option maxHeartbeats 2000000
namespace Go.Proofs.YtfkclejklgoccaaGreat.Vc
open Go
theorem z96(p:PrcX)(pcs:List Value)(l:List Int)(lv:Value)(H:PH)(hp:CsR H p pcs)(hl:SlR H l lv):Gives zP 107 [.agg pcs.toArray,lv] H (.bool (z0a p l)):=by
 obtain⟨bv,rfl,p1,p2,p3,p4⟩:=prc_iff.1 hp;obtain⟨pb,pc,rfl⟩:=p4.sl;obtain⟨lb,lc,rfl⟩:=hl.sl;have hmx:maxLen=9223372036854775807:=rfl;have hlm:=hl.max;refine qr zl7 [vi p.params,vi p.holds,vi p.regs,.slice pb p.blocks.length pc,.slice lb l.length lc] ?_;refine⟨fun n vs K=>∃k:Nat,k+n=l.length∧vs=[.bool false,nI k]∧K=H∧z0a p (l.take k)=true,⟨l.length,0,om,rfl,rfl,rfl⟩,?_⟩;rintro n vs K _ ⟨k,hkn,rfl,rfl,hok⟩;refine⟨fun g=>?_,fun g=>?_⟩
 .simp only[wz,zdt]at g;obtain⟨r,hr⟩:∃r,l[k]?=some r:=⟨_,zge om⟩;obtain⟨x1,_,cs,x2,x3⟩:=hl.get hr;obtain⟨rfl,_⟩:=csIK x2;refine⟨fun vs K2=>vs=[.bool (decide (r<0∨p.regs≤r))]∧K=K2,?_,fun _=>?_,[vi r],rfl,by simp only[wz];exact x3,fun g2=>?_,fun g2=>?_⟩
  .rintro vs K2 _ ⟨rfl,rfl⟩;refine⟨fun g2=>?_,fun g2=>?_⟩
   .simp only[wz,zdt]at g2;have:z0a p l=false:=by
     unfold z0a;rw[List.all_eq_false];exact⟨r,zmg hr,by simp;omega⟩
    rw[this];exact⟨rfl,wy _⟩
   .simp only[wz,zdf]at g2;refine⟨_,z00,n-1,om,k+1,om,?_,rfl,?_⟩
    .have hw:IntKind.i64.wrap ((k:Int)+1)=((k+1:Nat):Int):=by rw[w64 om om];rfl
     simp only[wz,hw]
    .unfold z0a at hok⊢;rw[qZ,hr,List.all_append,hok];simp;omega
  .simp only[Chk.holds,wz];exact⟨x1,om,om⟩
  .simp only[wz,zdt]at g2;exact⟨_,z00,by simp[wz,g2],rfl⟩
  .simp only[wz,zdf]at g2;refine⟨[vi r],rfl,by simp only[wz];exact x3,_,z00,?_,rfl⟩;simp[wz,g2]
 .simp only[wz,zdf]at g;rw[ztl om]at hok;rw[hok];exact⟨rfl,wy _⟩
theorem Z4a{X:List PanicEntry→PH→Prop}{β:Type}{E:List Value}{H:PH}{L:LK}{K:β→List Value→PH→LK→Prop}{ty:TypeId}{ps:Array (Nat×Operand)}{args:List (Nat×VE)}{k:Fm β}{r:Int}(hr:InI r)(hps:ps.toList.map (fun x=>(x.1,argEv E args x.2))=idxs 0 [vi r])
  (hk:∀v H',PH.le H H'→SlR H' [r] v→den zP X k (E++[v]) H' L K):den zP X (.sem (.buildSlice 29 1 ps) ty args (.sc .sl) [] k) E H L K:=
 Zol (l:=[r]) (b:=8) [vi r] z0j z0s rfl dC dC hps (.cons (z0e hr) .nil) z01 fun v H' a l _=>hk v H' l a.slR
theorem Zmv:tieB=[116,105,101]:=rfl
theorem Zcx(c:CodeX)(cv:Value)(p:PrcX)(pcs:List Value)(x:InsX)(xs:List Value)(H:PH)(hc:SlR H c cv)(hp:CsR H p pcs)(hx:CsR H x xs):
  Gives zP 71 [.agg #[cv],.agg pcs.toArray,.agg xs.toArray] H (.bool (insOk c p x)):=by
 obtain⟨bv,rfl,p1,p2,p3,p4⟩:=prc_iff.1 hp;obtain⟨pb,pc,rfl⟩:=p4.sl;obtain⟨argsv,dv,rfl,ix1,ix2,ix3,ix4,ix5,ix6,ix7,ix8⟩:=ins_iff.1 hx;obtain⟨arb,arc,rfl⟩:=ix3.sl;obtain⟨dvb,dvc,rfl⟩:=ix7.sl;obtain⟨cb,cc,rfl⟩:=hc.sl;have hd:x.const.Rep H [vi x.const.kind,vi x.const.int,txt x.const.text,.slice dvb x.const.list.length dvc]:=Dat.Rep_iff.2 ⟨_,rfl,ix4,ix5,ix6,ix7⟩;refine qr zo7 [.slice cb c.length cc,vi p.params,vi p.holds,vi p.regs,.slice pb p.blocks.length pc,txt x.op,vi x.to,.slice arb x.args.length arc,vi x.const.kind,vi x.const.int,txt x.const.text,.slice dvb x.const.list.length dvc,vi x.num] ?_;refine⟨fun vs K=>vs=[.bool (!z0a p x.args||(!z0a p [x.to] && !decide (x.op=tieB)))]∧PH.le H K,?_,?_⟩;rotate_left
 .refine z02 [.bool (z0a p x.args)] (qb 107) (z96 p _ x.args _ H hp ix3) rfl z01 fun H1 l1=>⟨fun g=>?_,fun g=>?_⟩
  .simp only[wz,qy]at g;exact⟨_,z00,by simp[wz,g],l1⟩
  .simp only[wz,qR]at g;refine Z4a ix2 kr fun v H2 l2 h2=>?_;refine z02 [.bool (z0a p [x.to])] (qb 107) (z96 p _ [x.to] v H2 (CsR.le (wx l1 l2) hp) h2) rfl z01 fun H3 l3=>⟨_,z00,?_,wx l1 (wx l2 l3)⟩;simp[wz,z2r,g,Zmv];cases z0a p [x.to]
   .simp only[Bool.not_false,Bool.true_and];exact congrArg _ (decide_eq_decide.2 Iff.rfl)
   .rfl
 rintro vs K _ ⟨rfl,lK⟩;simp only[cns];have hdK:=Dat.Rep.le lK x.const hd;refine⟨fun g=>?_,fun g=>?_⟩
 .simp only[wz]at g;refine⟨?_,lK⟩;unfold insOk;rw[qj g];simp only[wz]
 simp only[wz]at g;have hI:insOk c p x=if x.op=z14 then decide (x.args.length=0)&&decide (x.num=0)&&z1n x.const
  else if x.op=movB then decide (x.args.length=1)&&decide (x.num=0)&&z2k x.const
  else if x.op=hldB then decide (x.args.length=0)&&decide (0≤x.num)&&decide (x.num<p.holds)&&z2k x.const
  else if x.op=cloB then decide (1≤x.num)&&decide (x.num<c.length)&&decide ((x.args.length:Int)=(prcAt c x.num).holds)&&z2k x.const
  else if x.op=tieB then decide (x.args.length=2)&&decide (0≤x.num)&&decide (x.to=0)&&z2k x.const
  else if x.op=ccB then false
  else decide (z1g x.op=x.args.length)&&decide (x.num=0)&&z2k x.const:=by
  unfold insOk;rw[qc (by rw[g];exact qk)]
 rw[hI];have leaf0:Dat.Rep K dat0 [vi 0,vi 0,txt [],.slice none 0 0]:=z6d (k:=0) (n:=0) (t:=[]) dC dC dC;refine z02 [.bool (decide (x.const=dat0))] (qb 23) (Z33 x.const dat0 _ _ K hdK leaf0) rfl z01 fun K1 l1=>?_;rw[Z2b];simp only[cns];have lK1:=wx lK l1;refine⟨fun g2=>?_,fun g2=>?_⟩
 .simp only[wz,z06,zdt]at g2;rw[qj (show x.op=z14 from g2)];refine⟨fun vs K2=>vs=[.bool (decide (x.args.length=0)&&decide (x.num=0)&&z1n x.const)]∧PH.le K1 K2,?_,fun g3=>?_,fun g3=>?_⟩
  .rintro vs K2 _ ⟨rfl,l2⟩;exact⟨by simp only[wz],wx lK1 l2⟩
  .simp only[wz]at g3;simp only[zba,zdt]at g3;refine z02 [.bool (z1n x.const)] (qb 108) (Zcl x.const _ K1 (Dat.Rep.le l1 x.const hdK)) rfl z01 fun K2 l2=>⟨_,z00,?_,l2⟩;have h0:x.args.length=0:=om;simp[wz,h0,g3.2]
  .simp only[wz]at g3;refine⟨_,z00,?_,wy _⟩;have:(decide (x.args.length=0)&&decide (x.num=0))=false:=by
    simp only[wl,zdf]at g3⊢;omega
   rw[this];rfl
 simp only[wz,z06,zdf]at g2;rw[qc (show ¬x.op=z14 from g2)];have e1:∀n:Nat,decide ((x.args.length:Int)=(n:Int))=decide (x.args.length=n):=fun n=>by rw[decide_eq_decide];omega
 refine⟨fun g3=>?_,fun g3=>?_⟩
 .simp only[wz,z06,zdt]at g3;rw[qj (show x.op=movB from g3)];refine⟨?_,lK1⟩;have:=e1 1;simp only[wz,←this];rfl
 simp only[wz,z06,zdf]at g3;rw[qc (show ¬x.op=movB from g3)];refine⟨fun g4=>?_,fun g4=>?_⟩
 .simp only[wz,z06,zdt]at g4;rw[qj (show x.op=hldB from g4)];refine⟨?_,lK1⟩;have:=e1 0;simp only[wz,←this,ge_iff_le];rfl
 simp only[wz,z06,zdf]at g4;rw[qc (show ¬x.op=hldB from g4)];refine⟨fun g5=>?_,fun g5=>?_⟩
 .simp only[wz,z06,zdt]at g5;rw[qj (show x.op=cloB from g5)];refine⟨fun vs K2=>vs=[.bool (decide (1≤x.num)&&decide (x.num<c.length)&&decide ((x.args.length:Int)=(prcAt c x.num).holds)&&z2k x.const)]∧PH.le K1 K2,?_,?_⟩
  .rintro vs K2 _ ⟨rfl,l2⟩;exact⟨by simp only[wz],wx lK1 l2⟩
  by_cases hb:1≤x.num∧x.num<c.length
  .obtain⟨m1,m2⟩:=zv2 (by omega:0≤x.num) hb.2;obtain⟨y1,yn,ycs,y2,y3⟩:=hc.get m2;obtain⟨bv',rfl,_⟩:=prc_iff.1 y2;have hj:((x.num.toNat:Nat):Int)=x.num:=Int.toNat_of_nonneg om;rw[hj]at y3 yn;refine⟨fun _=>?_,fun _=>?_,fun g6=>?_,fun g6=>?_⟩
   .simp only[Chk.holds,wz];exact⟨y1,om,om⟩
   .simp only[Chk.holds,wz];exact yn
   .refine⟨[vi (prcAt c x.num).holds],rfl,?_,_,z00,?_,wy _⟩
    .simp only[wz];exact z0p lK1 (z2y y3 1 1)
    .simp[wz,hb.1,hb.2]
   .simp only[wz]at g6;simp[hb.1,hb.2]at g6
  .refine⟨fun hg=>?_,fun hg=>?_,fun g6=>?_,fun g6=>?_⟩
   .exfalso;simp[Guard.holds,wz]at hg;omega
   .exfalso;simp[Guard.holds,wz]at hg;omega
   .exfalso;simp only[wz]at g6;simp at g6;omega
   .refine⟨_,z00,?_,wy _⟩;have:(decide (1≤x.num)&&decide (x.num<c.length))=false:=by
     simp only[wl,zdf];omega
    rw[this];rfl
 simp only[wz,z06,zdf]at g5;rw[qc (show ¬x.op=cloB from g5)];refine⟨fun g6=>?_,fun g6=>?_⟩
 .simp only[wz,z06,zdt]at g6;rw[qj (show x.op=tieB from g6)];refine⟨?_,lK1⟩;have:=e1 2;simp only[wz,←this,ge_iff_le];rfl
 simp only[wz,z06,zdf]at g6;rw[qc (show ¬x.op=tieB from g6)];refine⟨fun g7=>?_,fun g7=>?_⟩
 .simp only[wz,z06,zdt]at g7;rw[qj (show x.op=ccB from g7)];exact⟨rfl,lK1⟩
 simp only[wz,z06,zdf]at g7;rw[qc (show ¬x.op=ccB from g7)];refine z02 [vi (z1g x.op)] (qb 109) (Z9y x.op K1) rfl z01 fun K2 l2=>⟨?_,wx lK1 l2⟩;simp only[wz]
theorem Zah(p:PrcX)(pcs:List Value)(e:EndX)(es:List Value)(H:PH)(hp:CsR H p pcs)(he:CsR H e es):Gives zP 72 [.agg pcs.toArray,.agg es.toArray] H (.bool (finOk p e)):=by
 obtain⟨bv,rfl,p1,p2,p3,p4⟩:=prc_iff.1 hp;obtain⟨pb,pc,rfl⟩:=p4.sl;obtain⟨argsv,rfl,ex1,ex2,ex3,ex4,ex5,ex6⟩:=end_iff.1 he;obtain⟨arb,arc,rfl⟩:=ex3.sl;refine qr znj [vi p.params,vi p.holds,vi p.regs,.slice pb p.blocks.length pc,vi e.kind,vi e.reg,.slice arb e.args.length arc,vi e.to,vi e.next,vi e.els] ?_;refine Z4a ex2 kr fun v H1 l1 h1=>?_;refine z02 [.bool (z0a p [e.reg])] (qb 107) (z96 p _ [e.reg] v H1 (CsR.le l1 hp) h1) rfl z01 fun H2 l2=>?_;refine Z4a ex4 kr fun v2 H3 l3 h3=>?_;have l13:=wx l1 (wx l2 l3);refine z02 [.bool (z0a p [e.to])] (qb 107) (z96 p _ [e.to] v2 H3 (CsR.le l13 hp) h3) rfl z01 fun H4 l4=>?_;have l14:=wx l13 l4;refine z02 [.bool (z0a p e.args)] (qb 107) (z96 p _ e.args _ H4 (CsR.le l14 hp) (ex3.le l14)) rfl z01 fun H5 l5=>?_;have l15:=wx l14 l5;simp only[cns];have hem:e.args.isEmpty=decide ((e.args.length:Int)=0):=by
  rw[Bool.eq_iff_iff,List.isEmpty_iff,zdt];constructor
  .intro h;rw[h];rfl
  .intro h;exact qU.1 om
 have hfw:decide (e.args.length≤6)=decide ((e.args.length:Int)≤6):=by rw[decide_eq_decide];omega
 generalize hF:finOk p e=F;unfold finOk at hF;simp only[hem,hfw]at hF;refine⟨fun g=>?_,fun g=>?_⟩
 .simp only[wz,zdt]at g;rw[qj g]at hF;refine⟨?_,l15⟩;rw[←hF];simp only[wz,ge_iff_le]
 simp only[wz,zdf]at g;rw[qc g]at hF;refine⟨fun g=>?_,fun g=>?_⟩
 .simp only[wz,zdt]at g;rw[qj g]at hF;refine⟨?_,l15⟩;rw[←hF];simp only[wz,ge_iff_le]
 simp only[wz,zdf]at g;rw[qc g]at hF;refine⟨fun g=>?_,fun g=>?_⟩
 .have g:e.kind=2∨e.kind=5:=by
   simp only[wz]at g;by_cases h2:e.kind=2
   .exact .inl h2
   .simp only[h2,decide_false,qp,if_false,zdt]at g;exact .inr g
  rw[qj g]at hF;refine⟨?_,l15⟩;rw[←hF];simp only[wz,ge_iff_le]
 have g:¬(e.kind=2∨e.kind=5):=by
  simp only[wz]at g;by_cases h2:e.kind=2
  .simp[h2]at g
  .simpa[h2]using g
 rw[qc g]at hF;refine⟨fun g=>?_,fun g=>?_⟩
 .simp only[wz,zdt]at g;rw[qj g]at hF;refine⟨?_,l15⟩;rw[←hF];simp only[wz,ge_iff_le]
 simp only[wz,zdf]at g;rw[qc g]at hF;refine⟨fun g=>?_,fun g=>?_⟩
 .simp only[wz,zdt]at g;rw[qj g]at hF;refine⟨?_,l15⟩;rw[←hF];simp only[wz,ge_iff_le]
 simp only[wz,zdf]at g;rw[qc g]at hF;refine⟨fun g=>?_,fun g=>?_⟩
 .simp only[wz,zdt]at g;rw[qj g]at hF;refine⟨?_,l15⟩;rw[←hF];simp only[wz,ge_iff_le]
 simp only[wz,zdf]at g;rw[qc g]at hF;rw[←hF];exact⟨rfl,l15⟩
theorem Z88(c:CodeX)(cv:Value)(H:PH)(hc:SlR H c cv):Gives zP 25 [.agg #[cv]] H (vi (z0u c)):=by
 obtain⟨cb,cc,rfl⟩:=hc.sl;have hmx:maxLen=9223372036854775807:=rfl;have hcm:=hc.max;refine qr zil [.slice cb c.length cc] ?_;have upk:∀{k m:Nat},k<m→m≤maxLen→IntKind.i64.wrap ((k:Int)+1)=((k+1:Nat):Int):=fun h1 h2=>by rw[w64 om om];rfl
 refine ⟨fun n vs K=>∃(i many:Nat),i+n=c.length∧vs=[vi 0,nI many,nI i]∧K=H∧(∀p∈c.take i,p.regs≤2000)∧many≤8193∧(many≤4096→many=manyC (c.take i))∧(4096 < many→4096 < manyC c),
  ⟨c.length,0,0,om,rfl,rfl,sM,om,fun _=>rfl,om⟩,?_⟩
 rintro n vs K _ ⟨i,many,hin,rfl,rfl,hregs,hm1,hm2,hm3⟩;simp only[cns];refine⟨fun g=>?_,fun g=>?_⟩
 .simp only[wz,zdt]at g;obtain⟨p,hp⟩:∃p,c[i]?=some p:=⟨_,zge om⟩;have hpm:=zmg hp;obtain⟨x1,_,cs,x2,x3⟩:=hc.get hp;obtain⟨bv,rfl,p1,p2,p3,p4⟩:=prc_iff.1 x2;obtain⟨pb,pc,rfl⟩:=p4.sl;have hbm:=p4.max;refine⟨fun _=>?_,[vi p.params,vi p.holds,vi p.regs,.slice pb p.blocks.length pc],rfl,?_,?_⟩
  .simp only[Chk.holds,wz];exact⟨x1,om,om⟩
  .simp only[wz];exact x3
  simp only[cns];refine⟨fun g2=>?_,fun g2=>?_⟩
  .simp only[wz,zdt]at g2;rw[z80 (Z93 hpm om)];exact⟨rfl,wy _⟩
  simp only[wz,zdf]at g2;refine ⟨fun m vs K2=>∃(k many:Nat),k+m=p.blocks.length∧vs=[vi 0,nI many,nI k]∧K2=K∧many≤8193∧(many≤4096→many=manyC (c.take i)+((p.blocks.take k).map BlkX.many).sum)∧(4096 < many→4096 < manyC c),
   ⟨p.blocks.length,0,many,om,rfl,rfl,hm1,fun h=>by simpa using hm2 h,hm3⟩,?_⟩
  rintro m vs K2 _ ⟨k,many2,hkm,rfl,rfl,hq1,hq2,hq3⟩;simp only[cns];refine⟨fun g3=>?_,fun g3=>?_⟩
  .simp only[wz]at g3;simp only[zba,zdt]at g3;obtain⟨b,hb⟩:∃b,p.blocks[k]?=some b:=⟨_,zge om⟩;obtain⟨y1,_,ycs,y2,y3⟩:=p4.get hb;obtain⟨iv,es,rfl,i1,i2⟩:=blk_iff.1 y2;obtain⟨ib,ic,rfl⟩:=i1.sl;have hiv:rowAt K2 (pOf (eltV (.slice pb p.blocks.length pc) (k:Int) 7) |>.map (·.add 0)) [.slice ib b.ins.length ic]:=z2y y3 0 1;refine⟨fun _=>?_,[.slice ib b.ins.length ic],rfl,by simp only[wz];exact hiv,fun g4=>?_,fun g4=>⟨[.slice ib b.ins.length ic],rfl,by simp only[wz];exact hiv,?_⟩⟩
   .simp only[Chk.holds,wz];exact⟨y1,om,om⟩
   .simp only[wz,zdt]at g4;have h1:=zys (zmg hb);have h2:=zqy hpm;rw[z80 (zy9 om)];exact⟨rfl,wy _⟩
   .simp only[wz,zdf]at g4;have hw1:IntKind.i64.wrap (IntKind.i64.wrap ((many2:Int)+1)+(b.ins.length:Int))=((many2+1+b.ins.length:Nat):Int):=by
     rw[w64 (n:=(many2:Int)+1) om om,w64 om om];omega
    have hs:=zi0 BlkX.many hb;have hbm2:BlkX.many b=1+b.ins.length:=rfl;have h0:=hq2 om;have hle:manyC (c.take i)+((p.blocks.take (k+1)).map BlkX.many).sum≤manyC c:=by
     have h1:=zjg BlkX.many p.blocks (k+1);have h2:=zi0 PrcX.many hp;have h3:=zjg PrcX.many c (i+1);have h4:PrcX.many p=(p.blocks.map BlkX.many).sum:=rfl;unfold manyC;omega
    refine⟨_,z00,m-1,om,k+1,many2+1+b.ins.length,om,?_,rfl,om,fun _=>om,fun _=>om⟩;simp only[wz,hw1,upk (by omega:k<p.blocks.length) hbm]
  .simp only[wz]at g3;simp only[wl,zdf]at g3;refine⟨_,(z2g dC).trans z00,n-1,om,i+1,many2,om,?_,rfl,?_,hq1,fun h=>?_,hq3⟩
   .simp only[wz,upk (by omega:i<c.length) hcm]
   .intro q hq;rw[qZ,hp,zma]at hq;rcases hq with hq|hq
    .exact hregs q hq
    .rw[zsi.1 hq];omega
   .have h2:=zi0 PrcX.many hp;have h4:PrcX.many p=(p.blocks.map BlkX.many).sum:=rfl;have h5:=hq2 h;rw[show p.blocks.take k=p.blocks from ztl om]at h5;unfold manyC at h5⊢;omega
 simp only[wz,zdf]at g;rw[ztl om]at hregs hm2;refine⟨fun g2=>?_,fun g2=>?_⟩
 .simp only[wz]at g2;simp only[qu,zdt]at g2;have:z2l c=true:=by
   rcases g2 with g2|g2
   .exact zy9 (hm3 om)
   .exact Z9v om
  rw[z80 this];exact⟨rfl,wy _⟩
 simp only[wz]at g2;simp only[zof,zdf]at g2;have htm:z2l c=false:=Zf8 hregs (by have:=hm2 om;omega) om;refine⟨fun vs K2=>K=K2∧((vs=[.bool true]∧z0u c=150)∨(vs=[.bool false]∧∃p l,c=p::l∧p.params=0∧p.holds=0)),?_,?_⟩;rotate_left
 .cases hcl:c with
  |nil=>
   rw[hcl]at htm;have:=z4z htm (.inl rfl);refine⟨fun hg=>by exfalso;simp[Guard.holds,wz]at hg,fun hg=>by exfalso;simp[Guard.holds,wz]at hg,fun _=>⟨_,z00,rfl,.inl ⟨rfl,this⟩⟩,fun g3=>by simp[wz]at g3⟩
  |cons p l=>
   have hp:c[0]?=some p:=by rw[hcl];rfl
   obtain⟨x1,xn,cs,x2,x3⟩:=hc.get hp;obtain⟨bv,rfl,p1,p2,p3,p4⟩:=prc_iff.1 x2;obtain⟨pb,pc,rfl⟩:=p4.sl;have hl1:(1:Int)≤((p::l).length:Int):=by simp;omega
   rw[hcl]at x1 xn x3 htm;refine⟨fun _=>?_,fun _=>?_,fun g3=>?_,fun g3=>⟨[vi p.params],rfl,?_,fun _=>?_,fun _=>?_,fun g4=>?_,fun g4=>⟨[vi p.holds],rfl,?_,?_⟩⟩⟩
   .simp only[Chk.holds,wz];exact⟨x1,om,om⟩
   .simp only[Chk.holds,wz];exact xn
   .simp[wz]at g3;omega
   .simp only[wz];exact z2y x3 0 1
   .simp only[Chk.holds,wz];exact⟨x1,om,om⟩
   .simp only[Chk.holds,wz];exact xn
   .simp only[wz,ne_eq,decide_not,qy,zdf]at g4;exact⟨_,z00,rfl,.inl ⟨rfl,z4z htm (.inr (.inl ⟨p,l,rfl,.inl g4⟩))⟩⟩
   .simp only[wz];exact z2y x3 1 1
   .simp only[wz,ne_eq,decide_not,qR,zdt]at g4;by_cases e:p.holds=0
    .exact⟨_,z00,rfl,.inr ⟨by simp[wz,e],p,l,rfl,g4,e⟩⟩
    .exact⟨_,z00,rfl,.inl ⟨by simp[wz,e],z4z htm (.inr (.inl ⟨p,l,rfl,.inr e⟩))⟩⟩
 rintro vs K2 _ ⟨rfl,hJ⟩;rcases hJ with⟨rfl,hf⟩|⟨rfl,p0,l0,hcl,h00,h01⟩
 .refine⟨fun _=>?_,fun g3=>by simp[wz]at g3⟩;rw[hf];exact⟨rfl,wy _⟩
 refine⟨fun g3=>by simp[wz]at g3,fun _=>?_⟩;simp only[cns];refine⟨fun n vs K2=>∃i:Nat,i+n=c.length∧vs=[vi 0,nI i]∧PH.le K K2∧∀p∈c.take i,prcOk c p=true,⟨c.length,0,om,rfl,wy _,sM⟩,?_⟩;rintro n vs K2 _ ⟨i,hin,rfl,lK,hok⟩;simp only[cns];refine⟨fun g3=>?_,fun g3=>?_⟩
 .simp only[wz,zdt]at g3;obtain⟨p,hp⟩:∃p,c[i]?=some p:=⟨_,zge om⟩;have hpm:=zmg hp;obtain⟨x1,_,cs,x2,x3⟩:=hc.get hp;have x2':=x2;obtain⟨bv,rfl,p1,p2,p3,p4⟩:=prc_iff.1 x2;obtain⟨pb,pc,rfl⟩:=p4.sl;have hbm:=p4.max;have bad:∀{K3:PH},PH.le K K3→prcOk c p=false→Ending.returned (Value.int .i64 150)=Ending.returned (Value.int .i64 (z0u c))∧PH.le K K3:=fun l hb=>⟨by rw[z4z htm (.inr (.inr ⟨p,hpm,hb⟩))],l⟩;refine⟨fun _=>?_,[vi p.params,vi p.holds,vi p.regs,.slice pb p.blocks.length pc],rfl,?_,?_⟩
  .simp only[Chk.holds,wz];exact⟨x1,om,om⟩
  .simp only[wz];exact z0p lK x3
  simp only[cns];refine⟨fun g4=>?_,fun g4=>?_⟩
  .simp only[wz]at g4;simp only[qu,zdt]at g4;refine bad lK ?_;unfold prcOk;have:(decide (0≤p.params)&&decide (p.params≤6)&&decide (0≤p.holds)&&decide (p.holds≤1000)&&decide (p.params≤p.regs) && !p.blocks.isEmpty)=false:=by
    cases hh:(decide (0≤p.params)&&decide (p.params≤6)&&decide (0≤p.holds)&&decide (p.holds≤1000)&&decide (p.params≤p.regs) && !p.blocks.isEmpty)with
    |false=>rfl
    |true=>
     exfalso;simp only[zba,zdt,qy,List.isEmpty_eq_false_iff]at hh;have:=List.length_pos_iff.2 hh.2;omega
   rw[this];rfl
  simp only[wz]at g4;simp only[zof,zdf]at g4;have hpre:prcOk c p=p.blocks.all fun b=>b.ins.all (insOk c p)&&finOk p b.e:=by
   unfold prcOk;have:(decide (0≤p.params)&&decide (p.params≤6)&&decide (0≤p.holds)&&decide (p.holds≤1000)&&decide (p.params≤p.regs) && !p.blocks.isEmpty)=true:=by
    simp only[zba,zdt,qy,List.isEmpty_eq_false_iff];have:p.blocks≠[]:=fun e=>by rw[e]at g4;simp at g4
    exact⟨⟨⟨⟨⟨om,om⟩,om⟩,om⟩,om⟩,this⟩
   rw[this];rfl
  refine⟨fun m vs K3=>∃k:Nat,k+m=p.blocks.length∧vs=[vi 0,nI k]∧PH.le K K3∧∀b∈p.blocks.take k,(b.ins.all (insOk c p)&&finOk p b.e)=true,⟨p.blocks.length,0,om,rfl,lK,sM⟩,?_⟩;rintro m vs K3 _ ⟨k,hkm,rfl,lK3,hbok⟩;simp only[cns];refine⟨fun g5=>?_,fun g5=>?_⟩
  .simp only[wz,zdt]at g5;obtain⟨b,hb⟩:∃b,p.blocks[k]?=some b:=⟨_,zge om⟩;have hbmem:=zmg hb;obtain⟨y1,_,ycs,y2,y3⟩:=p4.get hb;obtain⟨iv,es,rfl,i1,i2⟩:=blk_iff.1 y2;obtain⟨ib,ic,rfl⟩:=i1.sl;have i2':=i2;obtain⟨eav,rfl,_,_,e3,_⟩:=end_iff.1 i2;obtain⟨eb,ec,rfl⟩:=e3.sl;have him:=i1.max;have bad2:∀{K4:PH},PH.le K K4→(b.ins.all (insOk c p) && finOk p b.e)=false→Ending.returned (Value.int .i64 150)=Ending.returned (Value.int .i64 (z0u c))∧PH.le K K4:=fun l hb2=>bad l (by
    rw[hpre,List.all_eq_false];exact⟨b,hbmem,by rw[hb2];exact qk⟩)
   refine⟨fun _=>?_,[.slice ib b.ins.length ic,vi b.e.kind,vi b.e.reg,.slice eb b.e.args.length ec,vi b.e.to,vi b.e.next,vi b.e.els],rfl,?_,?_⟩
   .simp only[Chk.holds,wz];exact⟨y1,om,om⟩
   .simp only[wz];exact z0p lK3 y3
   simp only[cns];refine⟨fun q vs K4=>∃j:Nat,j+q=b.ins.length∧vs=[vi 0,nI j]∧PH.le K K4∧∀x∈b.ins.take j,insOk c p x=true,⟨b.ins.length,0,om,rfl,lK3,sM⟩,?_⟩;rintro q vs K4 _ ⟨j,hjq,rfl,lK4,hiok⟩;simp only[cns];refine⟨fun g6=>?_,fun g6=>?_⟩
   .simp only[wz,zdt]at g6;obtain⟨x,hx⟩:∃x,b.ins[j]?=some x:=⟨_,zge om⟩;obtain⟨z1,_,zcs,z2,z3⟩:=i1.get hx;have z2':=z2;obtain⟨argsv,dv,rfl,_,_,ix3,_,_,_,ix7,_⟩:=ins_iff.1 z2;obtain⟨arb,arc,rfl⟩:=ix3.sl;obtain⟨dvb,dvc,rfl⟩:=ix7.sl;refine⟨fun _=>?_,[txt x.op,vi x.to,.slice arb x.args.length arc,vi x.const.kind,vi x.const.int,txt x.const.text,.slice dvb x.const.list.length dvc,vi x.num],rfl,?_,?_⟩
    .simp only[Chk.holds,wz];exact⟨z1,om,om⟩
    .simp only[wz];exact z0p lK4 z3
    simp only[cns];refine z02 [.bool (insOk c p x)] (qb 71) (Zcx c _ p _ x _ K4 (hc.le lK4) (CsR.le lK4 x2') (CsR.le lK4 z2')) rfl z01 fun K5 l5=>⟨fun g7=>?_,fun g7=>?_⟩
    .simp only[wz,qy]at g7;refine bad2 (wx lK4 l5) ?_;have:b.ins.all (insOk c p)=false:=by
      rw[List.all_eq_false];exact⟨x,zmg hx,by rw[g7];exact qk⟩
     rw[this];rfl
    .simp only[wz,qR]at g7;refine⟨_,z00,q-1,om,j+1,om,?_,wx lK4 l5,fun y hy=>?_⟩
     .simp only[wz,upk (by omega:j<b.ins.length) him]
     .rw[qZ,hx,zma]at hy;rcases hy with hy|hy
      .exact hiok y hy
      .rw[zsi.1 hy];exact g7
   .simp only[wz,zdf]at g6;rw[ztl om]at hiok;have hia:b.ins.all (insOk c p)=true:=zat.2 hiok;refine z02 [.bool (finOk p b.e)] (qb 72) (Zah p _ b.e _ K4 (CsR.le lK4 x2') (CsR.le lK4 i2')) rfl z01 fun K5 l5=>⟨fun g7=>?_,fun g7=>?_⟩
    .simp only[wz,qy]at g7;exact bad2 (wx lK4 l5) (by rw[hia,g7];rfl)
    .simp only[wz,qR]at g7;refine⟨_,(z2g dC).trans z00,m-1,om,k+1,om,?_,wx lK4 l5,fun y hy=>?_⟩
     .simp only[wz,upk (by omega:k<p.blocks.length) hbm]
     .rw[qZ,hb,zma]at hy;rcases hy with hy|hy
      .exact hbok y hy
      .rw[zsi.1 hy,hia,g7];rfl
  .simp only[wz,zdf]at g5;rw[ztl om]at hbok;refine⟨_,(z2g dC).trans z00,n-1,om,i+1,om,?_,lK3,fun y hy=>?_⟩
   .simp only[wz,upk (by omega:i<c.length) hcm]
   .rw[qZ,hp,zma]at hy;rcases hy with hy|hy
    .exact hok y hy
    .rw[zsi.1 hy,hpre];exact zat.2 hbok
 .simp only[wz,zdf]at g3;rw[ztl om]at hok;rw[Z10 htm hcl h00 h01 hok];exact⟨rfl,lK⟩
theorem Zgu:liveL fiveP 0 0=[]:=List.eq_nil_iff_forall_not_mem.2 fun r hr=>Zj1 r (liveL_mem.1 hr)
theorem Zkl:roomC [fiveP]=2:=kr
theorem Znt:(fxP fiveP [10] [] 50 10001).funL 10 10002=za5 10 10001 40:=by
 unfold FX.funL FX.entL;rw[show liveL (fxP fiveP [10] [] 50 10001).p 0 0=[]from Zgu]
 kernel_rfl
theorem Zly:genC [fiveP] 50=.inr (za5 10 10001 40):=by
 unfold genC;rw[qc (by rw[zr3];decide),qc (by rw[Zkl];decide)];rw[show genF (entsC [fiveP]) (gsC [fiveP]) 50 0 (10000+([fiveP].length:Int)) [] [fiveP]=(if 64536<([]++(fxP fiveP [10] [] 50 10001).funL 10 10002).length then none else some ([]++(fxP fiveP [10] [] 50 10001).funL 10 10002))from by kernel_rfl];rw[Znt]
 kernel_rfl
theorem zqt:∀p∈[fiveP],∀b∈p.blocks,b.ins.length≤4611686018427387904:=fun p hp b hb=>by
 rw[zsi.1 hp]at hb;rw[zsi.1 hb];decide
theorem Zgm:errA (asmR (z45 (za5 10 10001 40)))=0:=qY Zn5
theorem Z24(cv:Value)(S:PH)(hc:SlR S [fiveP] cv)(size:Int)(hsz:0≤size∧size≤131072):Tri zP 24 #[.agg #[cv],vi 50,vi size] S fun e K'=>PH.le S K'∧ImgAt (za5 10 10001 40) [] 50 size e K':=by
 refine Z6t [fiveP] cv 50 size (.inr (za5 10 10001 40)) [] S hc zr3 zqt hsz fun K hK=>?_;refine(Z4g [fiveP] cv 50 K (hc.le hK) zqt dC).mono ?_;rintro x K' ⟨l',h,_⟩;rw[Zly]at h;obtain⟨v,sv,rfl,hv,hs,_⟩:=h;exact⟨l',dC,dC,Zgm,v,sv,rfl,hv,hs⟩
theorem Z9u{S:PH}{d:Dat}{dv:Value}(h:d.Rep S [vi d.kind,vi d.int,txt d.text,dv]):∃b c,dv=.slice b d.list.length c:=by
 obtain⟨tv,e,_,_,_,r4⟩:=Dat.Rep_iff.1 h;simp only[List.cons.injEq,and_true,true_and]at e;rw[e];exact SlR.sl r4
theorem Zms(cv:Value)(stack size e:Int)(input:List UInt8)(steps:Int)(S:PH)(h0:0≤steps)(he:e≠0)(hcv:∃b n c,cv=.slice b n c)
  (hb:Gives zP 24 [.agg #[cv],vi stack,vi size] S (.tuple #[.agg #[.slice none 0 0,.slice none 0 0,vi 0],.slice none 0 0,vi e])) :
  Tri zP 31 #[.agg #[cv],vi stack,vi size,txt input,vi steps] S fun x K'=>PH.le S K'∧OutAt ⟨e,[],.mk 0 0 [] [],false,0⟩ x K':=by
 obtain⟨cb,cn,cc,rfl⟩:=hcv;refine qr zvn [.slice cb cn cc,vi stack,vi size,txt input,vi steps] ?_;refine⟨fun g=>?_,fun _=>?_⟩
 .simp only[wz,arI,zdt]at g;omega
 refine z02 [.slice none 0 0,.slice none 0 0,vi 0,.slice none 0 0,vi e] (qb 24) hb rfl z01 fun K1 l1=>?_;simp only[cns];refine⟨fun g=>⟨l1,Zha⟩,fun g=>?_⟩;simp only[wz,arI,zdf]at g;exact absurd (by simpa using g) he
theorem zx8(n:Int)(H:PH):Gives zP 69 [vi n] H (.agg #[vi 1,vi n,txt [],.slice none 0 0]):=by
 refine qr zml [vi n] ?_;exact⟨rfl,wy _⟩
theorem Zij:Zl5 (runR (imgR z7l 50 10) [] 100000)=true:=kr
theorem Zdc:(fun h:HaltR=>decide (h.state=0)&&decide (h.value=95)) (runR (imgR z7l 50 1) [] 100000)=true:=kr
theorem Zm9(mem:List Int):telX mem [] 40=some (.mk 1 5 [] []):=by
 unfold telX;rw[telW,qc dC,qj dC];rfl
theorem Zmr:telX [87,8,18] [] 1=some (.mk 7 0 [] [.mk 1 1 [] []]):=kr
theorem Zkk:∃out steps,outR (runR (imgR (z45 (za5 10 10001 40)) 50 10) [] 100000) []=⟨0,out,.mk 1 5 [] [],true,steps⟩:=by
 have h:=Zij;show ∃out steps,outR (runR (imgR z7l 50 10) [] 100000) []=_;generalize runR (imgR z7l 50 10) [] 100000=r at h;unfold Zl5 at h;simp only[zba,zdt]at h;obtain⟨⟨h1,h2⟩,h3⟩:=h;refine⟨r.out,r.steps,?_⟩;unfold outR;rw[qc om,qj h1,qj h2,h3,Zm9];rfl
theorem Zi7:∃out steps,outR (runR (imgR (z45 (za5 10 10001 40)) 50 1) [] 100000) []=⟨95,out,.mk 0 0 [] [],false,steps⟩:=by
 have h:=Zdc;show ∃out steps,outR (runR (imgR z7l 50 1) [] 100000) []=_;generalize runR (imgR z7l 50 1) [] 100000=r at h;simp only[zba,zdt]at h;obtain⟨h1,h2⟩:=h;refine⟨r.out,r.steps,?_⟩;unfold outR;rw[qc om,qj h1,qc om,h2]
theorem Z74(S:PH):Gives zP 22 [] S (.bool true):=by
 refine qr zj1 [] ?_;refine z02 [vi 1,vi 5,txt [],.slice none 0 0] (qb 69) (zx8 5 S) rfl z01 fun K1 l1=>?_;simp only[cns];refine z0z (α:=InsX) (l:=[fiveY]) (b:=112) [.agg (inV fiveY (.slice none 0 0) (.slice none 0 0)).toArray] Zis Zmj rfl dC dC (Held.nil l1) kr (.cons (Znb S) .nil) z01 fun v2 K2 h2 _ _=>?_;obtain⟨S2,s2,l2,h2⟩:=h2.freeze;simp only[cns];refine z0z (α:=BlkX) (l:=[⟨[fiveY],fiveE⟩]) (b:=88) [.agg (v2::enV fiveE (.slice none 0 0)).toArray] Zlj Zma rfl dC dC h2 kr (.cons (blk_iff.2 ⟨_,_,rfl,s2,Zo4 S2⟩) .nil) z01 fun v3 K3 h3 _ _=>?_;obtain⟨S3,s3,l3,h3⟩:=h3.freeze;simp only[cns];refine z0z (α:=PrcX) (l:=[fiveP]) (b:=48) [.agg #[vi 0,vi 0,vi 1,v3]] Zez Zkj rfl dC dC h3 kr (.cons (prc_iff.2 ⟨_,rfl,dC,dC,dC,s3⟩) .nil) z01 fun v4 K4 h4 _ _=>?_;obtain⟨S4,s4,l4,h4⟩:=h4.freeze;simp only[cns];have c4:SlR K4 [fiveP] v4:=s4.le h4.sh;have lS4:PH.le S K4:=wx l2 (wx l3 (wx l4 h4.sh));obtain⟨b4,d4,hv4⟩:=c4.sl;obtain⟨oA,sA,hA⟩:=Zkk;obtain⟨oB,sB,hB⟩:=Zi7;have hsl:∃b n c,v4=.slice b n c:=⟨_,_,_,hv4⟩;refine z03 (qb 31) (Zf3 (za5 10 10001 40) [] v4 50 10 [] 100000 K4 dC dC dC dC hsl (Z24 v4 K4 c4 10 dC)) ?_;rw[hA];rintro _ K5 ⟨l5,dv,rfl,hd⟩;obtain⟨tb,tc,rfl⟩:=Z9u hd;refine⟨_,[vi 0,txt oA,vi 1,vi 5,txt [],.slice tb 0 tc,.bool true,vi sA],rfl,rfl,rfl,z01,?_⟩;simp only[cns];refine z03 (qb 31) (Zf3 (za5 10 10001 40) [] v4 50 1 [] 100000 K5 dC dC dC dC hsl (Z24 v4 K5 (c4.le l5) 1 dC)) ?_;rw[hB];rintro _ K6 ⟨l6,dv,rfl,hd6⟩;obtain⟨tb6,tc6,rfl⟩:=Z9u hd6;refine⟨_,[vi 95,txt oB,vi 0,vi 0,txt [],.slice tb6 0 tc6,.bool false,vi sB],rfl,rfl,rfl,z01,?_⟩;simp only[cns];have l46:=wx l5 l6;refine z0z (α:=Int) (l:=[87,8,18]) (b:=8) [vi 87,vi 8,vi 18] z0j z0s rfl dC dC (Held.nil (wy K6)) kr (.cons (z0e dC) (.cons (z0e dC) (.cons (z0e dC) .nil))) z01 fun v7 K7 h7 _ _=>?_;obtain⟨S7,s7,l7,h7⟩:=h7.freeze;simp only[cns];have hl7:=wx l7 h7.sh;have hT:=Z2p [87,8,18] [] v7 (.slice none 0 0) 1 K7 (s7.le h7.sh) (SlR.mk_iff.2 ⟨by simp[maxLen],.inl ⟨rfl,rfl⟩⟩) dC dC;rw[Zmr]at hT;refine z03 (qb 20) hT ?_;rintro _ K8 ⟨l8,cs,rfl,hd8⟩;obtain⟨tv,rfl,r1,r2,r3,r4⟩:=Dat.Rep_iff.1 hd8;obtain⟨tb8,tc8,rfl⟩:=SlR.sl r4;refine⟨_,[vi 7,vi 0,txt [],.slice tb8 1 tc8,.bool true],rfl,rfl,rfl,z01,?_⟩;simp only[cns];have l48:=wx l46 (wx hl7 l8);refine z03 (qb 31) (Zms v4 50 (-1) 251 [] 1000 K8 dC dC hsl (zy1 [fiveP] v4 50 (-1) K8 (c4.le l48) zr3 zqt dC)) ?_;rintro _ K9 ⟨l9,dv,rfl,hd9⟩;obtain⟨tb9,tc9,rfl⟩:=Z9u hd9;refine⟨_,[vi 251,txt [],vi 0,vi 0,txt [],.slice tb9 0 tc9,.bool false,vi 0],rfl,rfl,rfl,z01,?_⟩;simp only[cns];have lS9:=wx lS4 (wx l48 l9);refine⟨fun vs K=>PH.le S K∧vs=[.bool true],?_,fun g=>?_,fun g=>by simp[wz,arI]at g⟩
 .rintro vs K _ ⟨hl,rfl⟩;exact⟨rfl,hl⟩
 refine z02 [vi 1,vi 5,txt [],.slice none 0 0] (qb 69) (zx8 5 K9) rfl z01 fun Ka la=>?_;simp only[cns];have l5a:=wx (wx l6 (wx hl7 (wx l8 l9))) la;have hsame:=Z33 (.mk 1 5 [] []) (.mk 1 5 [] []) _ _ Ka (Dat.Rep.le l5a _ hd) (z6d (k:=1) (n:=5) (t:=[]) dC dC dC);refine z02 [.bool true] (qb 23) (by rw[qW rfl]at hsame;exact hsame) rfl z01 fun Kb lb=>?_;simp only[cns];exact⟨_,z00,wx lS9 (wx la lb),kr⟩
def z5m(c:CodeX)(stack size:Int)(e:Ending)(K:PH):Prop:=
 if z0u c≠0 then e=zey (z0u c)
 else if size<0∨131072<size then e=zey 251
 else match genC c stack with
  | .inl n=>e=zey n
  | .inr l=>ImgAt l (gsC c) stack size e K
theorem Zbm{c:CodeX}{stack n:Int}(hck:z0u c=0)(h:genC c stack=.inl n):n≠0:=by
 unfold genC at h;rw[qc om]at h;split at h
 .have:=Sum.inl.inj h;omega
 .cases hF:genF (entsC c) (gsC c) stack 0 (10000+(c.length:Int)) [] c with
  |none=>rw[hF]at h;have:=Sum.inl.inj h;omega
  |some l=>rw[hF]at h;cases h
theorem Zmu(c:CodeX):2≤roomC c:=by
 have:∀(l:List PrcX)(m:Int),0≤m→0≤l.foldl z4i m:=by
  intro l
  induction l with
  |nil=>intro m h;exact h
  |cons p l ih=>
   intro m h;rw[List.foldl_cons];refine ih _ ?_;unfold z4i;split<;>omega
 have h1:=this c 0 om;unfold roomC;omega
theorem Z1a{c:CodeX}{stack:Int}{l:List ItemR}(h:genC c stack=.inr l):0≤stack∧stack≤131072:=by
 have:=Zmu c;unfold genC at h;split at h
 .cases h
 split at h
 .cases h
 .omega
theorem Zhw(c:CodeX)(cv:Value)(stack size:Int)(S:PH)(hc:SlR S c cv)(hfit:∀p∈c,∀b∈p.blocks,b.ins.length≤4611686018427387904)(hpr:InI stack):
  Tri zP 24 #[.agg #[cv],vi stack,vi size] S fun e K'=>PH.le S K'∧z5m c stack size e K':=by
 by_cases hck:z0u c=0
 case pos=>
  have gc:=zek hck;by_cases hsz:size<0∨131072<size
  .refine(zy1 c cv stack size S hc hck hfit hsz).mono fun e K h=>⟨h.2,?_⟩;unfold z5m;rw[qc om,qj hsz];exact h.1
  have hB:∀e K,z5m c stack size e K=match genC c stack with
   | .inl n=>e=zey n
   | .inr l=>ImgAt l (gsC c) stack size e K:=fun e K=>by
   unfold z5m;rw[qc om,qc hsz]
  refine(Z6t c cv stack size (genC c stack) (gsC c) S hc hck hfit om fun K hK=>(Z4g c cv stack K (hc.le hK) hfit hpr).mono fun x K'⟨h1,h2,h3⟩=>⟨h1,?_⟩).mono fun e K h=>⟨h.1,by rw[hB];exact h.2⟩;cases hg:genC c stack with
  |inl n=>rw[hg]at h2;exact⟨Zbm hck hg,h2⟩
  |inr l=>
   rw[hg]at h2;obtain⟨v,sv,rfl,hv,hs,hlen⟩:=h2;exact⟨Z1a hg,om,Z8v gc (h3 hck) hg,v,sv,rfl,hv,hs⟩
 case neg=>
  have hcv:=zcx c cv S hc hfit;obtain⟨cb,cc,rfl⟩:=hc.sl;refine qr zdv [.slice cb c.length cc,vi stack,vi size] ?_;refine z02 [vi (z0u c)] (qb 38) hcv rfl z01 fun K1 l1=>?_;simp only[cns];refine⟨fun g=>⟨l1,?_⟩,fun g=>?_⟩
  .unfold z5m;rw[qj hck];rfl
  .simp only[wz]at g;exact absurd (by simpa using g) hck
theorem Zed(l:List W32)(va vb:Value)(H:PH)(hl:SlR H l va)(hm:SlR H l vb):Gives zP 28 [va,vb] H (.bool true):=by
 obtain⟨b1,c1,rfl⟩:=hl.sl;obtain⟨b2,c2,rfl⟩:=hm.sl;have m1:=hl.max;simp only[maxLen]at m1;refine qr zlr [.slice b1 l.length c1,.slice b2 l.length c2] ?_;refine⟨fun h=>?_,fun h=>?_⟩
 .simp[wz]at h
 refine⟨fun j vs H'=>∃k:Nat,vs=[.bool false,vi k]∧k+j=l.length∧PH.le H H',⟨l.length,0,rfl,om,wy H⟩,?_⟩;rintro j vs H' _ ⟨k,rfl,hkn,hle⟩;refine⟨fun h=>?_,fun h=>⟨rfl,hle⟩⟩;simp only[wz,zdt]at h;obtain⟨a,ha⟩:∃a,l[k]?=some a:=⟨_,zge (show k<l.length by omega)⟩;obtain⟨g1,_,ces,g2,g3⟩:=(hl.le hle).get ha;obtain⟨q1,_,des,q2,q3⟩:=(hm.le hle).get ha;obtain⟨rfl,_⟩:=w32_iff.1 g2;obtain⟨rfl,_⟩:=w32_iff.1 q2;refine⟨fun _=>?_,[.int .u32 a.n],rfl,?_,fun _=>?_,[.int .u32 a.n],rfl,?_,fun h2=>?_,fun h2=>?_⟩
 .simp only[Chk.holds,wz];exact⟨g1,om,om⟩
 .simp only[wz];exact g3
 .simp only[Chk.holds,wz];exact⟨q1,om,om⟩
 .simp only[wz];exact q3
 .simp[wz]at h2
 .refine⟨_,z00,j-1,om,k+1,?_,om,hle⟩;simp only[wz];rw[w64 om om];rfl
theorem Zi1(l:List (List UInt8))(va vb:Value)(H:PH)(hl:SlR H l va)(hm:SlR H l vb):Gives zP 30 [va,vb] H (.bool true):=by
 obtain⟨b1,c1,rfl⟩:=hl.sl;obtain⟨b2,c2,rfl⟩:=hm.sl;have m1:=hl.max;simp only[maxLen]at m1;refine qr zdp [.slice b1 l.length c1,.slice b2 l.length c2] ?_;refine⟨fun h=>?_,fun h=>?_⟩
 .simp[wz]at h
 refine⟨fun j vs H'=>∃k:Nat,vs=[.bool false,vi k]∧k+j=l.length∧PH.le H H',⟨l.length,0,rfl,om,wy H⟩,?_⟩;rintro j vs H' _ ⟨k,rfl,hkn,hle⟩;refine⟨fun h=>?_,fun h=>⟨rfl,hle⟩⟩;simp only[wz,zdt]at h;obtain⟨a,ha⟩:∃a,l[k]?=some a:=⟨_,zge (show k<l.length by omega)⟩;obtain⟨g1,_,ces,g2,g3⟩:=(hl.le hle).get ha;obtain⟨q1,_,des,q2,q3⟩:=(hm.le hle).get ha;obtain⟨rfl,_⟩:=csTxG g2;obtain⟨rfl,_⟩:=csTxG q2;refine⟨fun _=>?_,[txt a],rfl,?_,fun _=>?_,[txt a],rfl,?_,fun h2=>?_,fun h2=>?_⟩
 .simp only[Chk.holds,wz];exact⟨g1,om,om⟩
 .simp only[wz];exact g3
 .simp only[Chk.holds,wz];exact⟨q1,om,om⟩
 .simp only[wz];exact q3
 .simp only[wz,z2r,zdt,ne_eq,not_true_eq_false]at h2
 .refine⟨_,z00,j-1,om,k+1,?_,om,hle⟩;simp only[wz];rw[w64 om om];rfl
theorem zzo(c:CodeX)(cv:Value)(stack size:Int)(S:PH)(hc:SlR S c cv)(hfit:∀p∈c,∀b∈p.blocks,b.ins.length≤4611686018427387904)(hpr:InI stack)(hsi:InI size):
  Gives zP 7 [.agg #[cv],vi stack,vi size] S (.bool true):=by
 have hB:=Zhw c cv stack size S hc hfit hpr;have hC:=fun(K:PH)(h:PH.le S K)=>Z88 c cv K (hc.le h);have hG:=fun(K:PH)(h:PH.le S K)=>Z4g c cv stack K (hc.le h) hfit hpr;obtain⟨cb,cc,rfl⟩:=hc.sl;have hrg:=zy8;refine qr zbz [.slice cb c.length cc,vi stack,vi size] ?_;refine z03 (qb 24) hB ?_;rintro e K1 ⟨l1,hat⟩;obtain⟨wv,mv,nw,sv,er,rfl,hat',hwv,hmv,hsv⟩:∃wv mv nw sv er,e=.returned (.tuple #[.agg #[wv,mv,vi nw],sv,vi er])∧z5m c stack size (.returned (.tuple #[.agg #[wv,mv,vi nw],sv,vi er])) K1∧(∃b n k,wv=.slice b n k)∧(∃b n k,mv=.slice b n k)∧(∃b n k,sv=.slice b n k):=by
  have none:∀n,e=zey n→∃wv mv nw sv er,e=.returned (.tuple #[.agg #[wv,mv,vi nw],sv,vi er])∧z5m c stack size (.returned (.tuple #[.agg #[wv,mv,vi nw],sv,vi er])) K1∧(∃b n k,wv=.slice b n k)∧(∃b n k,mv=.slice b n k)∧(∃b n k,sv=.slice b n k):=fun n h=>by
   subst h;exact⟨_,_,_,_,_,rfl,hat,⟨_,_,_,rfl⟩,⟨_,_,_,rfl⟩,⟨_,_,_,rfl⟩⟩
  have hat0:=hat;unfold z5m at hat;split at hat
  .exact none _ hat
  split at hat
  .exact none _ hat
  cases hg:genC c stack with
  |inl n=>rw[hg]at hat;exact none _ hat
  |inr l=>
   rw[hg]at hat;obtain⟨w,m,s,rfl,h1,h2,h3⟩:=hat;obtain⟨b1,k1,q1⟩:=h1.sl;obtain⟨b2,k2,q2⟩:=h2.sl;obtain⟨b3,k3,q3⟩:=h3.sl;exact⟨_,_,_,_,_,rfl,hat0,⟨_,_,_,q1⟩,⟨_,_,_,q2⟩,⟨_,_,_,q3⟩⟩
 clear hat;obtain⟨wb,wn,wk,rfl⟩:=hwv;obtain⟨mb,mn,mk,rfl⟩:=hmv;obtain⟨sb,sn,sk,rfl⟩:=hsv;refine⟨_,[.slice wb wn wk,.slice mb mn mk,vi nw,.slice sb sn sk,vi er],rfl,rfl,rfl,z01,?_⟩;simp only[cns];refine z02 [vi (z0u c)] (qb 25) (hC K1 l1) rfl z01 fun K2 l2=>?_;simp only[cns];refine z02 [.bool true] (qb 22) (Z74 K2) rfl z01 fun K3 l3=>?_;simp only[cns];refine⟨fun g=>by simp[wz]at g,fun _=>?_⟩;have l03:=wx l1 (wx l2 l3);have noi:∀n,(Ending.returned (.tuple #[.agg #[.slice wb wn wk,.slice mb mn mk,vi nw],.slice sb sn sk,vi er]):Ending)=zey n→wb=none∧wn=0∧wk=0∧mb=none∧mn=0∧mk=0∧nw=0∧sb=none∧sn=0∧sk=0∧er=n:=fun n h=>by
  simp only[zey,Ending.returned.injEq,Value.tuple.injEq,Value.agg.injEq,Array.mk.injEq,List.cons.injEq,Value.slice.injEq,Value.int.injEq,and_true,true_and]at h;obtain⟨⟨⟨h1,h2,h3⟩,⟨h4,h5,h6⟩,h7⟩,⟨h8,h9,ha⟩,hb⟩:=h;exact⟨h1,h2,h3,h4,h5,h6,h7,h8,h9,ha,hb⟩
 refine⟨fun g=>?_,fun g=>?_⟩
 ·
  refine⟨?_,l03⟩;by_cases hck:z0u c=0
  .have hs:size<0∨131072<size:=by
    simp only[wz,hck]at g;simp only[qu,zdt]at g;rcases g with(g|g)|g
    .simp at g
    .exact .inl g
    .exact .inr g
   unfold z5m at hat';rw[qc om,qj hs]at hat';obtain⟨rfl,rfl,rfl,rfl,rfl,rfl,rfl,rfl,rfl,rfl,rfl⟩:=noi _ hat';simp only[wz,hck];rfl
  .unfold z5m at hat';rw[qj hck]at hat';obtain⟨rfl,rfl,rfl,rfl,rfl,rfl,rfl,rfl,rfl,rfl,h⟩:=noi _ hat';subst h;simp only[wz];simp[hck,iOf]
 have hg0:z0u c=0∧0≤size∧size≤131072:=by
  simp only[wz]at g;simp only[zof,zdf]at g;refine⟨?_,om,om⟩;have:=g.1.1;simpa using this
 obtain⟨hck,hs0,hs1⟩:=hg0;refine z03 (qb 15) (hG K3 l03) ?_;rintro _ K4 ⟨l4,hGa,hpk⟩;unfold z5m at hat';rw[qc om,qc om]at hat';cases hgc:genC c stack with
 |inl n=>
  rw[hgc]at hGa hat';obtain rfl:=hGa;have hn:=Zbm hck hgc;obtain⟨rfl,rfl,rfl,rfl,rfl,rfl,rfl,rfl,rfl,rfl,rfl⟩:=noi _ hat';refine⟨_,[.slice none 0 0,.slice none 0 0,vi er],rfl,rfl,rfl,z01,?_⟩;simp only[cns];refine⟨fun _=>?_,fun g=>?_⟩;rotate_left
  .simp only[wz]at g;simp[hn]at g
  refine⟨fun vs K=>vs=[.bool true]∧PH.le S K,?_,fun _=>?_,fun g=>?_⟩
  .rintro vs K _ ⟨rfl,h⟩;exact⟨rfl,h⟩
  .exact⟨_,z00,kr,wx l03 l4⟩
  .simp[wz]at g
 |inr l=>
 rw[hgc]at hGa hat';obtain⟨v,sv4,rfl,hv,hs4,hlen⟩:=hGa;obtain⟨w0,m0,s0,he,hw0,hm0,hs0'⟩:=hat';simp only[Ending.returned.injEq,Value.tuple.injEq,Value.agg.injEq,Array.mk.injEq,List.cons.injEq,Value.int.injEq,and_true,true_and]at he;obtain⟨⟨rfl,rfl,hnw⟩,rfl,rfl⟩:=he;have hst:=Z1a hgc;have gc:=zek hck;have hasm:=Z8v gc (hpk hck) hgc;have hv0:=hv;have hs40:=hs4;obtain⟨vb,vk,rfl⟩:=hv.sl;obtain⟨ub,uk,rfl⟩:=hs4.sl;refine⟨_,[.slice vb l.length vk,.slice ub (gsC c).length uk,vi 0],rfl,rfl,rfl,z01,?_⟩;simp only[cns];refine⟨fun g=>by simp[wz]at g,fun _=>?_⟩;refine zm5 (α:=ItemR) (b:=64) zqf zjm (Held.nil (wy K4)) z01 fun v5 K5 h5 _ _=>?_;simp only[cns];refine z03 (qb 17) (h5.pure (R:=fun e S'=>∃v,e=.returned v∧SlR S' rt_codeR v) ((Z1y K4).mono fun e K⟨v,h1,h2,h3⟩=>⟨h3,v,h1,h2⟩)) ?_;rintro _ K6 ⟨S6,l6,h6,v6,rfl,s6⟩;obtain⟨b6,d6,hv6⟩:=s6.sl;refine⟨_,[v6],rfl,by rw[hv6];rfl,rfl,z01,?_⟩;simp only[cns];refine z47 (b:=64) (more:=rt_codeR) zqf zjm kr kr h6 (s6.srcS h6.sh) (by simp only[maxLen,zln];omega) (by simp only[zln];omega) fun v7 K7 h7 _=>⟨z01,?_⟩;simp only[cns];refine z03 (qb 18) (h7.pure (R:=fun e S'=>∃v,e=.returned v∧SlR S' gc_codeR v) ((Z0d S6).mono fun e K⟨v,h1,h2,h3⟩=>⟨h3,v,h1,h2⟩)) ?_;rintro _ K8 ⟨S8,l8,h8,v8,rfl,s8⟩;obtain⟨b8,d8,hv8⟩:=s8.sl;refine⟨_,[v8],rfl,by rw[hv8];rfl,rfl,z01,?_⟩;simp only[cns];refine z47 (b:=64) (more:=gc_codeR) zqf zjm kr kr h8 (s8.srcS h8.sh) (by simp only[maxLen,zla,zln];omega) (by simp only[zla,zln];omega) fun v9 K9 h9 _=>⟨z01,?_⟩;simp only[cns];refine z47 (b:=64) (more:=l) zqf zjm kr kr h9 ((hv0.le (wx l6 l8)).srcS h9.sh) (by simp only[zla,maxLen,zln];omega) (by simp only[zla,zln];omega) fun va Ka ha _=>⟨z01,?_⟩;simp only[cns];obtain⟨Sb,tb,lb,hb⟩:=ha.freeze;have l4a:PH.le K4 Ka:=wx l6 (wx l8 (wx lb hb.sh));refine z03 (qb 27) (zvs (z45 l) va Ka (tb.le hb.sh)) ?_;rw[hasm];rintro _ Kc ⟨w1,w2,rfl,t1,t2,lc⟩;obtain⟨b1,d1,hw1⟩:=t1.sl;obtain⟨b2,d2,hw2⟩:=t2.sl;refine⟨_,[w1,w2,vi 0],rfl,by rw[hw1,hw2];rfl,rfl,z01,?_⟩;simp only[cns];have hnil:=Held.nil (wy Kc);have a1:arI .add .i64 32 stack=32+stack:=w64 om om;have a2:arI .add .i64 (32+stack) size=32+stack+size:=w64 om om;have a3:arI .mul .i64 2 size=2*size:=w64 om om;have a4:arI .add .i64 (32+stack) (2*size)=32+stack+2*size:=w64 om om;refine z1v (α:=Int) (b:=8) (n:=32) 0 rfl (fun S=>z7n) z0j zb4 kr kr dC dC hnil fun xv Kd hd ld=>?_;simp only[cns];obtain⟨xb,xc,rfl⟩:=(hd.row (e:=3) (zms)).sl;have hz:=((hd.row (e:=3) (zms)).slR hd.sh).get (i:=0) (a:=0) rfl;obtain⟨z1,_⟩:=hz;have chk:∀{E:List Value} {s i:SV} {k:Int},ev0 E s=.slice xb (List.replicate 32 (0:Int)).length xc→ev0 E i=.int .i64 k→0≤k→k<32→Chk.holds E (.inSl s i):=fun h1 h2 h3 h4=>by
  simp only[Chk.holds,h1,h2];exact⟨z1,h3,by simp[slLen,iOf];omega⟩
 refine⟨fun _=>chk rfl rfl dC dC,?_⟩;refine z1a (i:=28) (a:=0) (a':=32+stack) (us:=[vi (arI .add .i64 32 stack)]) kr hd rfl rfl kr (by simp[oneC]) (by rw[a1];exact z0e (by unfold InI;omega)) fun Ke he=>?_;refine⟨fun _=>chk rfl rfl dC dC,?_⟩;refine z1a (i:=29) (a:=0) (a':=32+stack+size) (us:=[vi (arI .add .i64 (arI .add .i64 32 stack) size)]) kr he rfl rfl kr (by simp[oneC]) (by rw[a1,a2];exact z0e (by unfold InI;omega)) fun Kf hf=>?_;refine⟨fun _=>chk rfl rfl dC dC,?_⟩;refine z1a (i:=30) (a:=0) (a':=32+stack+size) (us:=[vi (arI .add .i64 (arI .add .i64 32 stack) size)]) kr hf rfl rfl kr (by simp[oneC]) (by rw[a1,a2];exact z0e (by unfold InI;omega)) fun Kg hg=>?_;refine⟨fun _=>chk rfl rfl dC dC,?_⟩;refine z1a (i:=31) (a:=0) (a':=32+stack+2*size) (us:=[vi (arI .add .i64 (arI .add .i64 32 stack) (arI .mul .i64 2 size))]) kr hg rfl rfl kr (by simp[oneC]) (by rw[a1,a3,a4];exact z0e (by unfold InI;omega)) fun Kh hh=>?_;obtain⟨Sd,t3,t4,t5⟩:=hh.freeze;have lch:=wx t4 t5.sh;have l1h:PH.le K1 Kh:=wx (wx l2 l3) (wx l4 (wx l4a (wx lc lch)));have t3':SlR Sd (memR stack size) (.slice xb (List.replicate 32 (0:Int)).length xc):=t3;refine⟨fun vs K=>vs=[.bool true]∧PH.le S K,?_,fun _=>?_,fun g=>?_⟩
 .rintro vs K _ ⟨rfl,h⟩;exact⟨rfl,h⟩
 rotate_left
 .simp[wz]at g
 refine z02 [.bool true] (qb 28) (Zed _ _ _ Kh (hw0.le l1h) (t1.le lch)) rfl z01 fun Ki li=>?_;simp only[cns];refine⟨fun _=>?_,fun g=>by simp[wz]at g⟩;have hsm:=Z9q (memR stack size) (memR stack size) _ _ Ki (hm0.le (wx l1h li)) (t3'.le (wx t5.sh li));rw[qW rfl]at hsm;refine z02 [.bool true] (qb 29) hsm rfl z01 fun Kj lj=>?_;simp only[cns];have l1j:=wx l1h (wx li lj);refine⟨fun _=>?_,fun g=>?_⟩
 .refine z02 [.bool true] (qb 30) (Zi1 (gsC c) _ _ Kj (hs0'.le l1j) (hs40.le (wx l4a (wx lc (wx lch (wx li lj)))))) rfl z01 fun Kk lk=>?_;exact⟨_,z00,rfl,wx l1 (wx l1j lk)⟩
 .exfalso;have e5:arI .add .i64 (arI .add .i64 32 stack) (arI .mul .i64 2 size)=32+stack+2*size:=by rw[a1,a3,a4]
  subst hnw;simp only[wz]at g;rw[show IntKind.i64.wrap (IntKind.i64.wrap (32+stack)+IntKind.i64.wrap (2*size))=32+stack+2*size from e5]at g;simp[bOf]at g
open Go Go.ChangeShapes Go.WideShapes Go.ChangeAt Go.RowKit
noncomputable def codeFields:Array Field:=match Tryz.prog.underlying 46 with
 |some (.struct fs)=>fs
 |_=>#[]
theorem Ziq:Tryz.prog.underlying 46=some (.struct codeFields):=kr
theorem codeF:codeFields.toList.map (fun f=>(f.type,f.offset))=[(44,0)]:=kr
theorem Zqn:Tryz.prog.cellsOf 46=1:=kr
theorem Zoy:Tryz.prog.cellsOf 44=1:=kr
theorem Zgd{H:Type}{enc:TypeId×Value→H}{w:World}{fuel:Nat}{cs:List Value}{d:DataW H}{ps:List MemPlace}(h:zff enc zP w fuel 46 cs d ps):
  ∃(c:CodeX)(cv:Value),cs=[cv]∧SlR (whole w) c cv∧sumWt PrcX.wt c+1≤Rows.uptoBulk d:=by
 obtain⟨ys,k,rfl,e0,hc0,hl0,hi0⟩:=z6u Ziq codeF h;rw[Zqn]at hc0
 match ys,hl0 with
 | [y0],_=>
 match cs,hc0 with
 | [c0],_=>
 have u0:=hi0 0 44 0 y0 rfl rfl;rw[Zoy]at u0;simp only[List.drop_zero,List.take_succ_cons,List.take_zero]at u0;obtain⟨l,v,hlv,hls,hw⟩:=z6w (α:=PrcX) (wt:=PrcX.wt) Zez cPrcC (fun j hj=>Zk3 j) u0;have hv:c0=v:=by simpa using hlv
 subst hv;refine⟨l,c0,rfl,hls,?_⟩;subst e0;simp only[Rows.uptoBulk,Rows.uptoBulkAll,q9,List.map_nil];omega
theorem Zoi{H:Type}{enc:TypeId×Value→H}{w:World}{v:Value}{d:DataW H}{p:List MemPlace}{r:_root_.Go.Reach}{b:Nat}(hval:Value.okWide zP w r b 46 v)(h:DataW.Trod enc zP w 0 (fun _=>true) true 46 v d p):
  ∃(c:CodeX)(cv:Value),v=.agg #[cv]∧SlR (whole w) c cv∧sumWt PrcX.wt c+1≤Rows.uptoBulk d:=by
 obtain⟨cs,rfl,_⟩:=okWide_struct Ziq hval;obtain⟨fuel,h⟩:=h;obtain⟨c,cv,h1,h2,h3⟩:=Zgd h;refine⟨c,cv,?_,h2,h3⟩;have h1:cs.toList=[cv]:=h1;obtain⟨l⟩:=cs;have h1:l=[cv]:=h1;rw[h1]
theorem Zge{c:CodeX}{n:Nat}(h:sumWt PrcX.wt c+1≤n)(hn:n≤4611686018427387904):∀p∈c,∀b∈p.blocks,b.ins.length≤4611686018427387904:=fun p hp b hb=>by
 have h1:=zv6 PrcX.wt hp;have h2:=zv6 BlkX.wt hb;have h3:=Z0b InsX.wt (fun a=>by unfold InsX.wt;omega) b.ins;have h4:p.wt=1+1+1+(sumWt BlkX.wt p.blocks+1):=rfl;have h5:b.wt=sumWt InsX.wt b.ins+1+b.e.wt:=rfl;omega
