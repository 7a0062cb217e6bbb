import Derived.Test.YtjhlndokjkeilaaGreatDoorMo
set_option linter.unusedSimpArgs false
set_option linter.unusedVariables false
set_option maxRecDepth 100000
namespace Go.Proofs.YtjhlndokjkeilaaGreatDoor.Vc
open Go Go.Sort
theorem zs0 {P:Program} {X:List PanicEntry→PH→Prop} {β:Type} {E:List Value} {H:PH} {L:LK} {K:β→List Value→PH→LK→Prop} {fn:Fn} {first caps:Array Operand} {ty:TypeId} {args:List (Nat×VE)} {k:Fm β} {f:FuncId} {F C:Array Value} (hf:fn=.func f) (h1:first.map (argEv E args)=F) (h2:caps.map (argEv E args)=C) (hk:den P X k (E++[.func (.func f) F C]) H L K) :
  den P X (.sem (.makeFunc fn first caps) ty args (.sc .any) [] k) E H L K:=by
 subst h1 h2
 exact zsn hf hk
theorem zdz (U:List (List UInt8)):∀(l:List Xp) (n:Nat),mapS (fun n e=>Xp.nam U e n) n l=((Xps.nam U 0 l n).1,(Xps.nam U 0 l n).2.2)
 | [],n=>by rw [Xps.nam_nil];rfl
 | e::l,n=>by rw [Xps.nam_zero];simp only [mapS,zdz U l]
theorem zq2 {S:PH} {e:Xp} {x:Ending} (h:XRet S e x):∃nb db kb nc dc kc,x=.returned (.agg (exVs e nb db kb nc dc kc).toArray)∧e.Rep S (exVs e nb db kb nc dc kc):=by
 obtain ⟨es,rfl,hr⟩:=h
 have hr':=hr
 obtain ⟨nb,db,kb,nc,dc,kc,rfl,_⟩:=Xp.Rep.open hr'
 exact ⟨nb,db,kb,nc,dc,kc,rfl,hr⟩
theorem zyg (U:List (List UInt8)):∀e,Z0m U e:=by
 refine Xp.ind fun e ih cs S K nr ub n es clock hT h hm he hb hok hz=>?_
 have he':=he
 obtain ⟨nb,db,kb,nc,dc,kc,rfl,hx⟩:=Xp.Rep.open he
 obtain ⟨hf0,hok'⟩:=(Xp.okF_eq e).1 hok
 have hform:=zef hf0
 refine zkf (pAt nr::exVs e nb db kb nc dc kc) (by kernel_rfl) (by kernel_rfl) ?_
 have fin:∀{x:Ending} {K':PH},NmTo nr ub es clock S (e.nam U n) x K'→∃v vs,x=.returned v∧z0c [.int .i64,.str,.sl,.int .i64,.int .i64,.str,.sl,.sl] vs=true∧v=.agg vs.toArray∧∃S' ,PH.le S S'∧Held S' K' [nmB nr ub (e.nam U n).2,nmM ub es clock]∧(e.nam U n).1.Rep S' vs∧∃w0 w1 w2 w3 w4 w5 w6 w7,vs=[w0,w1,w2,w3,w4,w5,w6,w7]:=fun h=>by
  obtain ⟨S',l,hh,hq⟩:=h
  obtain ⟨nb,db,kb,nc,dc,kc,rfl,hq2⟩:=zq2 hq
  exact ⟨_,_,rfl,Xp.Rep.tags hq2,rfl,S',l,hh,hq2,_,_,_,_,_,_,_,_,rfl⟩
 refine ⟨fun g=>?_,fun g=>?_⟩
 ·have hk:e.kind=6∨e.kind=7:=by
   by_cases k6:e.kind=6
   ·exact .inl k6
   ·right;simp [ev0,ev,evV,List.cons_append,List.nil_append,List.getD_cons_zero,List.getD_cons_succ,List.map_cons,List.map_nil,iOf,bOf,sOf,pOf,slLen,z04,cmpI,arI,Value.ite_bool,z01,z03,z00,z02,k6] at g;exact g
  have hs:someN e.kind e.kids.length=e.kids.length:=by unfold someN;rw [if_pos hk]
  have h7:=zpq hform hk
  refine z08 zab (zmj e e.kids.length (fun a ha=>ih a ha) _ S K nr ub n es clock hT h hm he' hb hok hz (Nat.le_refl _)) ?_
  rintro x K2 h2
  have hn:(wrapX (Xps.nam U e.kids.length e.kids n).2.1 (.mk e.kind e.name e.names e.const (Xps.nam U e.kids.length e.kids n).1),(Xps.nam U e.kids.length e.kids n).2.2)=e.nam U n:=by rw [Xp.nam_eq,hs]
  rw [hn] at h2
  obtain ⟨v,vs,rfl,ht,rfl,S',l,hh,hr,w0,w1,w2,w3,w4,w5,w6,w7,rfl⟩:=fin h2
  exact ⟨_,_,rfl,ht,rfl,z05,S',l,hh,_,rfl,hr⟩
 have hk6:¬(e.kind=6∨e.kind=7):=by
  rintro (hk | hk)
  ·simp [ev0,ev,evV,List.cons_append,List.nil_append,List.getD_cons_zero,List.getD_cons_succ,List.map_cons,List.map_nil,iOf,bOf,sOf,pOf,slLen,z04,cmpI,arI,Value.ite_bool,z01,z03,z00,z02,hk] at g
  ·simp [ev0,ev,evV,List.cons_append,List.nil_append,List.getD_cons_zero,List.getD_cons_succ,List.map_cons,List.map_nil,iOf,bOf,sOf,pOf,slLen,z04,cmpI,arI,Value.ite_bool,z01,z03,z00,z02,hk] at g
 refine ⟨fun g3=>?_,fun g3=>?_⟩
 ·simp only [ev0,ev,evV,List.cons_append,List.nil_append,List.getD_cons_zero,List.getD_cons_succ,List.map_cons,List.map_nil,iOf,bOf,sOf,pOf,slLen,z04,cmpI,arI,Value.ite_bool,z01,z03,z00,z02,zdt] at g3
  have hs:someN e.kind e.kids.length=1:=by unfold someN;rw [if_neg hk6,if_pos g3]
  have hk3:e.kids.length=3:=by
   unfold z0i at hform
   rw [if_neg (by omega)] at hform
   simp only [zba] at hform
   obtain ⟨_,hf⟩:=hform
   rw [if_neg (by omega),if_neg (by omega),if_pos g3] at hf
   simp only [zba,zdt] at hf
   exact hf.2
  refine z08 zab (zmj e 1 (fun a ha=>ih a ha) _ S K nr ub n es clock hT h hm he' hb hok hz (by omega)) ?_
  rintro x K2 h2
  have hn:(wrapX (Xps.nam U 1 e.kids n).2.1 (.mk e.kind e.name e.names e.const (Xps.nam U 1 e.kids n).1),(Xps.nam U 1 e.kids n).2.2)=e.nam U n:=by rw [Xp.nam_eq,hs]
  rw [hn] at h2
  obtain ⟨v,vs,rfl,ht,rfl,S',l,hh,hr,w0,w1,w2,w3,w4,w5,w6,w7,rfl⟩:=fin h2
  exact ⟨_,_,rfl,ht,rfl,z05,S',l,hh,_,rfl,hr⟩
 ·simp only [ev0,ev,evV,List.cons_append,List.nil_append,List.getD_cons_zero,List.getD_cons_succ,List.map_cons,List.map_nil,iOf,bOf,sOf,pOf,slLen,z04,cmpI,arI,Value.ite_bool,z01,z03,z00,z02,zdf] at g3
  have hs:someN e.kind e.kids.length=0:=zcq (by omega)
  have hkl:e.kids.length≤1048576:=by have:=Xps.size_len e.kids;have:=Xp.size_eq e;omega
  refine zs0 (f:=z45) (F:=#[pAt nr]) (C:=#[]) rfl (by kernel_rfl) (by kernel_rfl) ?_
  have hmap:Tri Tryz.prog zji #[.agg (exVs e nb db kb nc dc kc).toArray,.func (.func z45) #[pAt nr] #[]] K fun x K'=>∃S' J',PH.le S S'∧Held S' K' J'∧J'=[nmB nr ub (mapS (fun n x=>Xp.nam U x n) n e.kids).2,nmM ub es clock]∧XRet S' (.mk e.kind e.name e.names e.const (mapS (fun n x=>Xp.nam U x n) n e.kids).1) x:=by
   refine zx4 (fun n x=>Xp.nam U x n) (fun n Js=>Js=[nmB nr ub n,nmM ub es clock]) n e _ S K _ (g:=z45) (first:=#[pAt nr]) (caps:=#[]) z3u h rfl he' hkl ?_
   intro j k hj S' K' Js cs l' h' hJs hk
   subst hJs
   have hmem:=List.mem_of_getElem? hj
   have h1:=Xps.size_at hj
   have h2:=ziu U hok' 0 n j
   rw [zdz] at h' ⊢
   have hmul:=Nat.mul_le_mul_right (U.length+1) h1
   rw [Nat.add_mul] at hmul
   have hse:e.size * (U.length+1)=(U.length+1)+Xps.size e.kids * (U.length+1):=by rw [Xp.size_eq e,Nat.add_mul,Nat.one_mul]
   refine (ih k hmem cs S' K' nr ub _ es clock (hT.le l') h' hm hk (by dsimp only;omega) (hok' k hmem) (by have:=Xp.size_eq e;omega)).mono ?_
   rintro x K'' ⟨S'',q1,q2,q3⟩
   exact ⟨S'',_,q1,q2,rfl,q3⟩
  refine z08 zmp hmap ?_
  rintro x K2 ⟨S2,J2,l2,h2,rfl,hr2⟩
  obtain ⟨anb,adb,akb,anc,adc,akc,rfl,r2⟩:=zq2 hr2
  have ht:=Xp.Rep.tags r2
  refine ⟨_,_,rfl,ht,rfl,z05,S2,l2,?_,_,rfl,?_⟩
  ·rw [Xp.nam_eq,hs]
   rw [zdz] at h2;exact h2
  ·rw [Xp.nam_eq,hs,Xps.nam_binds0]
   rw [zdz] at r2
   rw [zdz];exact r2
theorem zyf (e:Xp) (cs:List Value) (H:PH) (he:e.Rep H cs):Gives Tryz.prog z9m [.agg cs.toArray] H (.bool (badK e.kind)):=by
 obtain ⟨nb,db,kb,nc,dc,kc,rfl,hx⟩:=Xp.Rep.open he
 refine zqs (exVs e nb db kb nc dc kc) (by kernel_rfl) (by kernel_rfl) ⟨?_,PH.le_refl _⟩
 simp only [ev0,ev,evV,List.cons_append,List.nil_append,List.getD_cons_zero,List.getD_cons_succ,List.map_cons,List.map_nil,iOf,bOf,sOf,pOf,slLen,z04,cmpI,arI,Value.ite_bool,z01,z03,z00,z02,badK]
theorem zxq:∀(e:Xp) (cs:List Value) (H:PH),e.Rep H cs→Gives Tryz.prog zxo [.agg cs.toArray,.func (.func z9m) #[] #[]] H (.bool (e.any badK)):=by
 refine Xp.ind fun e ih cs H he=>?_
 have he':=he
 obtain ⟨nb,db,kb,nc,dc,kc,rfl,hx⟩:=Xp.Rep.open he
 have hk:=hx.kids.max
 simp only [maxLen] at hk
 refine zux (exVs e nb db kb nc dc kc++[.func (.func z9m) #[] #[]]) (by kernel_rfl) (by kernel_rfl) ?_
 rw [Xp.any_eq]
 refine zr3 (f:=z9m) (first:=#[]) (caps:=#[]) (by rfl) zsh (zyf e _ H he') ?_
 rintro x H1 ⟨rfl,l1⟩
 refine ⟨_,[.bool (badK e.kind)],rfl,rfl,rfl,z05,?_⟩
 refine ⟨fun g=>?_,fun g=>?_⟩
 ·simp only [ev0,ev,evV,List.cons_append,List.nil_append,List.getD_cons_zero,List.getD_cons_succ,List.map_cons,List.map_nil,iOf,bOf,sOf,pOf,slLen,z04,cmpI,arI,Value.ite_bool,z01,z03,z00,z02] at g
  refine ⟨?_,l1⟩
  rw [g];rfl
 simp only [ev0,ev,evV,List.cons_append,List.nil_append,List.getD_cons_zero,List.getD_cons_succ,List.map_cons,List.map_nil,iOf,bOf,sOf,pOf,slLen,z04,cmpI,arI,Value.ite_bool,z01,z03,z00,z02] at g
 refine ⟨fun n vs H'=>∃k:Nat,vs=[.bool false,.int .i64 k]∧k+n=e.kids.length∧(badK e.kind || Xps.any badK e.kids)=Xps.any badK (e.kids.drop k)∧PH.le H H',⟨e.kids.length,0,rfl,by omega,by rw [g,List.drop_zero];rfl,l1⟩,?_⟩
 rintro n vs H2 _ ⟨k,rfl,hkn,hz,l2⟩
 refine ⟨fun g1=>?_,fun g1=>?_⟩
 ·simp only [ev0,ev,evV,List.cons_append,List.nil_append,List.getD_cons_zero,List.getD_cons_succ,List.map_cons,List.map_nil,iOf,bOf,sOf,pOf,slLen,z04,cmpI,arI,Value.ite_bool,z01,z03,z00,z02,zdt] at g1
  obtain ⟨a,ha⟩:∃a,e.kids[k]?=some a:=⟨_,zge (show k < e.kids.length by omega)⟩
  obtain ⟨q1,_,ces,g2,g3⟩:=(hx.kids.le l2).get ha
  have hmem:=List.mem_of_getElem? ha
  have htags:=Xp.Rep.tags g2
  have g2':=g2
  obtain ⟨nb',db',kb',nc',dc',kc',rfl,_⟩:=Xp.Rep.open g2'
  have hd:e.kids.drop k=a::e.kids.drop (k+1):=by
   obtain ⟨hl,hv⟩:=List.getElem?_eq_some_iff.1 ha
   rw [List.drop_eq_getElem_cons hl,hv]
  refine ⟨fun _=>?_,_,htags,by simp only [ev0,ev,evV,List.cons_append,List.nil_append,List.getD_cons_zero,List.getD_cons_succ,List.map_cons,List.map_nil,iOf,bOf,sOf,pOf,slLen,z04,cmpI,arI,Value.ite_bool,z01,z03,z00,z02];exact g3,?_⟩
  ·simp only [Chk.holds,ev0,ev,evV,List.cons_append,List.nil_append,List.getD_cons_zero,List.getD_cons_succ,List.map_cons,List.map_nil,iOf,bOf,sOf,pOf,slLen,z04,cmpI,arI,Value.ite_bool,z01,z03,z00,z02];exact ⟨q1,by omega,by omega⟩
  refine z07 [.bool (a.any badK)] zni (ih a hmem _ H2 g2) rfl z05 fun H3 l3=>⟨fun g4=>?_,fun g4=>?_⟩
  ·simp only [ev0,ev,evV,List.cons_append,List.nil_append,List.getD_cons_zero,List.getD_cons_succ,List.map_cons,List.map_nil,iOf,bOf,sOf,pOf,slLen,z04,cmpI,arI,Value.ite_bool,z01,z03,z00,z02] at g4
   refine ⟨?_,PH.le_trans l2 l3⟩
   rw [hz,hd];simp only [Xps.any,g4,Bool.true_or];rfl
  ·simp only [ev0,ev,evV,List.cons_append,List.nil_append,List.getD_cons_zero,List.getD_cons_succ,List.map_cons,List.map_nil,iOf,bOf,sOf,pOf,slLen,z04,cmpI,arI,Value.ite_bool,z01,z03,z00,z02] at g4
   refine ⟨_,z06,n - 1,by omega,k+1,?_,by omega,?_,PH.le_trans l2 l3⟩
   ·simp only [ev0,ev,evV,List.cons_append,List.nil_append,List.getD_cons_zero,List.getD_cons_succ,List.map_cons,List.map_nil,iOf,bOf,sOf,pOf,slLen,z04,cmpI,arI,Value.ite_bool,z01,z03,z00,z02];rw [w64 (by omega) (by omega)];rfl
   ·rw [hz,hd];simp only [Xps.any,g4,Bool.false_or]
 ·simp only [ev0,ev,evV,List.cons_append,List.nil_append,List.getD_cons_zero,List.getD_cons_succ,List.map_cons,List.map_nil,iOf,bOf,sOf,pOf,slLen,z04,cmpI,arI,Value.ite_bool,z01,z03,z00,z02,zdf] at g1
  refine ⟨?_,l2⟩
  rw [hz,List.drop_of_length_le (by omega)];rfl
def anfX (e:Xp):Xp×Int:=if (e.chk true 0 0).2≠0∨e.any badK=true then (exZ,100) else if ((namX e).chk true 0 0).2=0 then (namX e,0) else (exZ,101)
def NRet (e:Xp) (x:Ending) (S:PH):Prop:=∃es:List Value,es.length=8∧x=.returned (.tuple #[.agg es.toArray,.int .i64 (anfX e).2])∧(anfX e).1.Rep S es
theorem zx1 (S:PH):exZ.Rep S [.int .i64 0,txt [],.slice none 0 0,.int .i64 0,.int .i64 0,txt [],.slice none 0 0,.slice none 0 0]:=znv S
theorem zo1 {e:Xp} (h:(e.chk true 0 0).2≠0∨e.any badK=true):anfX e=(exZ,100):=by unfold anfX;rw [if_pos h]
theorem zlj {e:Xp} (h:¬((e.chk true 0 0).2≠0∨e.any badK=true)):anfX e=if ((namX e).chk true 0 0).2=0 then (namX e,0) else (exZ,101):=by unfold anfX;rw [if_neg h]
theorem zjh (e:Xp) (cs:List Value) (S:PH) (hT:Tab S) (he:e.Rep S cs):Tri Tryz.prog zy7 #[.agg cs.toArray] S fun x S'=>PH.le S S'∧NRet e x S':=by
 have he':=he
 obtain ⟨nb,db,kb,nc,dc,kc,rfl,hx⟩:=Xp.Rep.open he
 refine zsw (exVs e nb db kb nc dc kc) (by kernel_rfl) (by kernel_rfl) ?_
 refine ⟨fun vs S'=>vs=[.bool (decide ((e.chk true 0 0).2≠0∨e.any badK=true))]∧PH.le S S',?_,?_⟩
 rotate_left
 ·refine z07 [.int .i64 (e.chk true 0 0).2] zk2 (zjz e _ S he') rfl z05 fun H1 l1=>⟨fun g=>?_,fun g=>?_⟩
  ·simp only [ev0,ev,evV,List.cons_append,List.nil_append,List.getD_cons_zero,List.getD_cons_succ,List.map_cons,List.map_nil,iOf,bOf,sOf,pOf,slLen,z04,cmpI,arI,Value.ite_bool,z01,z03,z00,z02,ne_eq,decide_not,Bool.not_eq_true',zdf] at g
   exact ⟨_,z06,by simp [ev0,ev,evV,List.cons_append,List.nil_append,List.getD_cons_zero,List.getD_cons_succ,List.map_cons,List.map_nil,iOf,bOf,sOf,pOf,slLen,z04,cmpI,arI,Value.ite_bool,z01,z03,z00,z02,g],l1⟩
  ·simp only [ev0,ev,evV,List.cons_append,List.nil_append,List.getD_cons_zero,List.getD_cons_succ,List.map_cons,List.map_nil,iOf,bOf,sOf,pOf,slLen,z04,cmpI,arI,Value.ite_bool,z01,z03,z00,z02,ne_eq,decide_not,Bool.not_eq_false',zdt] at g
   refine z07 [.bool (e.any badK)] zni (zxq e _ H1 (Xp.Rep.le l1 e he')) rfl z05 fun H2 l2=>⟨_,z06,?_,PH.le_trans l1 l2⟩
   simp only [ev0,ev,evV,List.cons_append,List.nil_append,List.getD_cons_zero,List.getD_cons_succ,List.map_cons,List.map_nil,iOf,bOf,sOf,pOf,slLen,z04,cmpI,arI,Value.ite_bool,z01,z03,z00,z02]
   cases h:e.any badK<;>simp [g]
 rintro vs S1 _ ⟨rfl,l1⟩
 refine ⟨fun g=>?_,fun g=>?_⟩
 ·simp only [ev0,ev,evV,List.cons_append,List.nil_append,List.getD_cons_zero,List.getD_cons_succ,List.map_cons,List.map_nil,iOf,bOf,sOf,pOf,slLen,z04,cmpI,arI,Value.ite_bool,z01,z03,z00,z02,zdt] at g
  refine ⟨l1,_,rfl,?_,by rw [zo1 g];exact zx1 S1⟩
  rw [zo1 g];rfl
 simp only [ev0,ev,evV,List.cons_append,List.nil_append,List.getD_cons_zero,List.getD_cons_succ,List.map_cons,List.map_nil,iOf,bOf,sOf,pOf,slLen,z04,cmpI,arI,Value.ite_bool,z01,z03,z00,z02,zdf] at g
 have hc:(e.chk true 0 0).2=0:=Classical.byContradiction fun h=>g (.inl h)
 have hz:=z4t hc
 have hok:=(Xp.chk_ok true e 0 0 hc).1
 have hbn:=z3q hc
 have hnl:=ztu e
 have hmul:e.size * (e.note.length+1)≤4096 * 40000:=Nat.mul_le_mul hz (by omega)
 have he1:=exvLe l1 hx
 simp only [List.cons_append,List.nil_append]
 have h0:Held S1 S1 []:=Held.nil (PH.le_refl _)
 refine zvi fun ub hub=>?_
 have h1:=h0.new hub (.map #[] 0)
 simp only [List.cons_append,List.nil_append]
 refine zbk (vs:=[.map (some ub),.int .i64 0]) h1 (by simp only [List.map_cons,List.map_nil,ev0,ev,evV,List.cons_append,List.nil_append,List.getD_cons_zero,List.getD_cons_succ,List.map_cons,List.map_nil,iOf,bOf,sOf,pOf,slLen,z04,cmpI,arI,Value.ite_bool,z01,z03,z00,z02]) fun nr K3 l3 h3=>?_
 simp only [List.cons_append,List.nil_append]
 have hnr:K3 nr=some (.cells #[.map (some ub),.int .i64 0] 46 (0,0)):=h3.blk (zms)
 have hub3:K3 ub=some (.map #[] 0):=h3.blk (zmm _ (zms))
 have hS1ub:S1 ub=none:=h3.off _ (zmm _ (zms)) ub rfl
 refine z08 zbg (zxe e _ S1 K3 nr ub _ _ #[] 0 [] h3.sh hS1ub he1.rep hnr hub3 EntsR.empty) ?_
 rintro x K4 ⟨rfl,es4,clock4,rfl,m4⟩
 refine ⟨_,[],rfl,rfl,rfl,z05,?_⟩
 simp only [List.append_nil]
 have h4:Held S1 (K3.upd ub (.map es4 clock4)) [nmB nr ub 0,nmM ub es4 clock4]:=(h3.swap.put (.map es4 clock4)).swap
 have hNm:NmOk e.note es4 clock4:=⟨_,m4,fun s=>by
  rw [zr4]
  by_cases hs:s∈e.note
  ·rw [if_pos hs,if_pos hs];rfl
  ·rw [if_neg hs,if_neg hs];rfl⟩
 refine z08 z3u (zyg e.note e _ S1 _ nr ub 0 es4 clock4 (hT.le l1) h4 hNm he1.rep (by omega) hok hz) ?_
 rintro x K5 ⟨S5,l5,h5,hq⟩
 obtain ⟨anb,adb,akb,anc,adc,akc,rfl,r5⟩:=zq2 hq
 have ht5:=Xp.Rep.tags r5
 refine ⟨_,exVs (namX e) anb adb akb anc adc akc,rfl,ht5,rfl,z05,?_⟩
 simp only [List.cons_append,List.nil_append]
 refine z08 zt3 (h5.pure (Z2i (namX e) _ S5 r5)) ?_
 rintro x K6 ⟨S6,l6,h6,es6,hl6,rfl,r6⟩
 have hax:anfX e=if ((namX e).chk true 0 0).2=0 then (namX e,0) else (exZ,101):=zlj g
 have ha2:(anfX e).2=if ((namX e).chk true 0 0).2=0 then 0 else 101:=by rw [hax];split<;>rfl
 have ha1:(anfX e).1=if ((namX e).chk true 0 0).2=0 then namX e else exZ:=by rw [hax];split<;>rfl
 have r6':(anfX e).1.Rep S6 es6:=by rw [ha1];exact r6
 rw [←ha2]
 match es6,hl6 with
 | [w0,w1,w2,w3,w4,w5,w6,w7],_=>
  have ht6:=Xp.Rep.tags r6'
  refine ⟨_,[w0,w1,w2,w3,w4,w5,w6,w7,.int .i64 (anfX e).2],rfl,?_,rfl,z05,?_⟩
  ·have:=z7z (us:=[.int .i64]) (F:=[.int .i64 (anfX e).2]) ht6 rfl
   exact this
  ·exact ⟨PH.le_trans l1 (PH.le_trans l5 (PH.le_trans l6 h6.sh)),[w0,w1,w2,w3,w4,w5,w6,w7],rfl,rfl,Xp.Rep.le h6.sh _ r6'⟩
theorem zpw (e:Xp) (cs:List Value) (H:PH) (he:e.Rep H cs):Gives Tryz.prog zfm [.agg cs.toArray] H (.bool (simX e)):=by
 obtain ⟨nb,db,kb,nc,dc,kc,rfl,hx⟩:=Xp.Rep.open he
 refine zcv (exVs e nb db kb nc dc kc) (by kernel_rfl) (by kernel_rfl) ⟨?_,PH.le_refl _⟩
 unfold simX
 by_cases h0:e.kind=0<;>by_cases h1:e.kind=1<;>simp [ev0,ev,evV,List.cons_append,List.nil_append,List.getD_cons_zero,List.getD_cons_succ,List.map_cons,List.map_nil,iOf,bOf,sOf,pOf,slLen,z04,cmpI,arI,Value.ite_bool,z01,z03,z00,z02,h0,h1]
theorem zk6:∀(e:Xp) (cs:List Value) (H:PH),e.Rep H cs→Gives Tryz.prog zg5 [.agg cs.toArray] H (.bool e.namedB):=by
 refine Xp.ind fun e ih cs H he=>?_
 obtain ⟨nb,db,kb,nc,dc,kc,rfl,hx⟩:=Xp.Rep.open he
 have hk:=hx.kids.max
 simp only [maxLen] at hk
 refine zdq (exVs e nb db kb nc dc kc) (by kernel_rfl) (by kernel_rfl) ?_
 rw [Xp.namedB_eq]
 obtain ⟨c,hc⟩:∃c,c=someN e.kind e.kids.length:=⟨_,rfl⟩
 rw [←hc]
 refine ⟨fun n vs H'=>∃k:Nat,vs=[.bool false,.int .i64 k]∧k+n=e.kids.length∧Xps.namedB c e.kids=Xps.namedB (c - k) (e.kids.drop k)∧PH.le H H',⟨e.kids.length,0,rfl,by omega,rfl,PH.le_refl _⟩,?_⟩
 rintro n vs H2 _ ⟨k,rfl,hkn,hz,l2⟩
 refine ⟨fun g1=>?_,fun g1=>?_⟩
 ·simp only [ev0,ev,evV,List.cons_append,List.nil_append,List.getD_cons_zero,List.getD_cons_succ,List.map_cons,List.map_nil,iOf,bOf,sOf,pOf,slLen,z04,cmpI,arI,Value.ite_bool,z01,z03,z00,z02,zdt] at g1
  obtain ⟨a,ha⟩:∃a,e.kids[k]?=some a:=⟨_,zge (show k < e.kids.length by omega)⟩
  obtain ⟨q1,_,ces,g2,g3⟩:=(hx.kids.le l2).get ha
  have hmem:=List.mem_of_getElem? ha
  have htags:=Xp.Rep.tags g2
  have g2':=g2
  obtain ⟨nb',db',kb',nc',dc',kc',rfl,_⟩:=Xp.Rep.open g2'
  have hd:e.kids.drop k=a::e.kids.drop (k+1):=by
   obtain ⟨hl,hv⟩:=List.getElem?_eq_some_iff.1 ha
   rw [List.drop_eq_getElem_cons hl,hv]
  have hst:Xps.namedB c e.kids=((decide (c - k=0) || simX a) && a.namedB && Xps.namedB (c - (k+1)) (e.kids.drop (k+1))):=by
   rw [hz,hd];simp only [Xps.namedB,Nat.sub_sub]
  have hmust:(c - k≠0)↔(e.kind=6∨e.kind=7)∨(e.kind=3∧k=0):=by
   rw [hc];unfold someN
   by_cases h6:e.kind=6∨e.kind=7
   ·rw [if_pos h6]
    constructor
    ·exact fun _=>.inl h6
    ·intro _;omega
   ·rw [if_neg h6]
    by_cases h3:e.kind=3
    ·rw [if_pos h3];constructor
     ·intro h;exact .inr ⟨h3,by omega⟩
     ·rintro (h | h)
      ·exact absurd h h6
      ·omega
    ·rw [if_neg h3];constructor
     ·intro h;omega
     ·rintro (h | h)
      ·exact absurd h h6
      ·exact absurd h.1 h3
  obtain ⟨ok,hok⟩:∃ok:Bool,ok=((decide (c - k=0) || simX a) && a.namedB):=⟨_,rfl⟩
  rw [←hok] at hst
  refine ⟨fun vs K=>vs=[.bool (!ok)]∧PH.le H K,?_,fun _=>?_,fun g4=>?_,fun g4=>?_⟩
  ·rintro vs K _ ⟨rfl,l3⟩
   refine ⟨fun g5=>?_,fun g5=>?_⟩
   ·simp only [ev0,ev,evV,List.cons_append,List.nil_append,List.getD_cons_zero,List.getD_cons_succ,List.map_cons,List.map_nil,iOf,bOf,sOf,pOf,slLen,z04,cmpI,arI,Value.ite_bool,z01,z03,z00,z02,Bool.not_eq_true'] at g5
    refine ⟨?_,l3⟩
    rw [hst,g5];rfl
   ·simp only [ev0,ev,evV,List.cons_append,List.nil_append,List.getD_cons_zero,List.getD_cons_succ,List.map_cons,List.map_nil,iOf,bOf,sOf,pOf,slLen,z04,cmpI,arI,Value.ite_bool,z01,z03,z00,z02,Bool.not_eq_false'] at g5
    refine ⟨_,z06,n - 1,by omega,k+1,?_,by omega,?_,l3⟩
    ·simp only [ev0,ev,evV,List.cons_append,List.nil_append,List.getD_cons_zero,List.getD_cons_succ,List.map_cons,List.map_nil,iOf,bOf,sOf,pOf,slLen,z04,cmpI,arI,Value.ite_bool,z01,z03,z00,z02];rw [w64 (by omega) (by omega)];rfl
    ·rw [hst,g5,Bool.true_and]
  ·simp only [Chk.holds,ev0,ev,evV,List.cons_append,List.nil_append,List.getD_cons_zero,List.getD_cons_succ,List.map_cons,List.map_nil,iOf,bOf,sOf,pOf,slLen,z04,cmpI,arI,Value.ite_bool,z01,z03,z00,z02];exact ⟨q1,by omega,by omega⟩
  ·have hmt:c - k≠0:=by
    rw [hmust]
    simp [ev0,ev,evV,List.cons_append,List.nil_append,List.getD_cons_zero,List.getD_cons_succ,List.map_cons,List.map_nil,iOf,bOf,sOf,pOf,slLen,z04,cmpI,arI,Value.ite_bool,z01,z03,z00,z02] at g4
    omega
   have hok2:ok=(simX a && a.namedB):=by rw [hok,decide_eq_false hmt,Bool.false_or]
   refine ⟨_,htags,by simp only [ev0,ev,evV,List.cons_append,List.nil_append,List.getD_cons_zero,List.getD_cons_succ,List.map_cons,List.map_nil,iOf,bOf,sOf,pOf,slLen,z04,cmpI,arI,Value.ite_bool,z01,z03,z00,z02];exact g3,?_⟩
   simp only [List.cons_append,List.nil_append]
   refine z07 [.bool (simX a)] zet (zpw a _ H2 g2) rfl z05 fun H3 l3=>?_
   refine ⟨fun _=>?_,fun g5=>?_,fun g5=>?_⟩
   ·simp only [Chk.holds,ev0,ev,evV,List.cons_append,List.nil_append,List.getD_cons_zero,List.getD_cons_succ,List.map_cons,List.map_nil,iOf,bOf,sOf,pOf,slLen,z04,cmpI,arI,Value.ite_bool,z01,z03,z00,z02];exact ⟨q1,by omega,by omega⟩
   ·simp only [ev0,ev,evV,List.cons_append,List.nil_append,List.getD_cons_zero,List.getD_cons_succ,List.map_cons,List.map_nil,iOf,bOf,sOf,pOf,slLen,z04,cmpI,arI,Value.ite_bool,z01,z03,z00,z02,Bool.not_eq_true'] at g5
    refine ⟨_,z06,?_,PH.le_trans l2 l3⟩
    rw [hok2,g5];rfl
   ·simp only [ev0,ev,evV,List.cons_append,List.nil_append,List.getD_cons_zero,List.getD_cons_succ,List.map_cons,List.map_nil,iOf,bOf,sOf,pOf,slLen,z04,cmpI,arI,Value.ite_bool,z01,z03,z00,z02,Bool.not_eq_false'] at g5
    refine ⟨_,htags,by simp only [ev0,ev,evV,List.cons_append,List.nil_append,List.getD_cons_zero,List.getD_cons_succ,List.map_cons,List.map_nil,iOf,bOf,sOf,pOf,slLen,z04,cmpI,arI,Value.ite_bool,z01,z03,z00,z02];exact z0b l3 g3,?_⟩
    simp only [List.cons_append,List.nil_append]
    refine z07 [.bool a.namedB] z2f (ih a hmem _ H3 (Xp.Rep.le l3 a g2)) rfl z05 fun H4 l4=>⟨_,z06,?_,PH.le_trans l2 (PH.le_trans l3 l4)⟩
    rw [hok2,g5];simp only [ev0,ev,evV,List.cons_append,List.nil_append,List.getD_cons_zero,List.getD_cons_succ,List.map_cons,List.map_nil,iOf,bOf,sOf,pOf,slLen,z04,cmpI,arI,Value.ite_bool,z01,z03,z00,z02,Bool.true_and]
  ·have hmt:c - k=0:=by
    refine Classical.byContradiction fun h=>?_
    have:=hmust.1 h
    simp [ev0,ev,evV,List.cons_append,List.nil_append,List.getD_cons_zero,List.getD_cons_succ,List.map_cons,List.map_nil,iOf,bOf,sOf,pOf,slLen,z04,cmpI,arI,Value.ite_bool,z01,z03,z00,z02] at g4
    omega
   have hok2:ok=a.namedB:=by rw [hok,decide_eq_true hmt,Bool.true_or,Bool.true_and]
   refine ⟨fun _=>?_,_,htags,by simp only [ev0,ev,evV,List.cons_append,List.nil_append,List.getD_cons_zero,List.getD_cons_succ,List.map_cons,List.map_nil,iOf,bOf,sOf,pOf,slLen,z04,cmpI,arI,Value.ite_bool,z01,z03,z00,z02];exact g3,?_⟩
   ·simp only [Chk.holds,ev0,ev,evV,List.cons_append,List.nil_append,List.getD_cons_zero,List.getD_cons_succ,List.map_cons,List.map_nil,iOf,bOf,sOf,pOf,slLen,z04,cmpI,arI,Value.ite_bool,z01,z03,z00,z02];exact ⟨q1,by omega,by omega⟩
   simp only [List.cons_append,List.nil_append]
   refine z07 [.bool a.namedB] z2f (ih a hmem _ H2 g2) rfl z05 fun H4 l4=>⟨_,z06,?_,PH.le_trans l2 l4⟩
   rw [hok2];simp only [ev0,ev,evV,List.cons_append,List.nil_append,List.getD_cons_zero,List.getD_cons_succ,List.map_cons,List.map_nil,iOf,bOf,sOf,pOf,slLen,z04,cmpI,arI,Value.ite_bool,z01,z03,z00,z02]
 ·simp only [ev0,ev,evV,List.cons_append,List.nil_append,List.getD_cons_zero,List.getD_cons_succ,List.map_cons,List.map_nil,iOf,bOf,sOf,pOf,slLen,z04,cmpI,arI,Value.ite_bool,z01,z03,z00,z02,zdf] at g1
  refine ⟨?_,l2⟩
  rw [hz,List.drop_of_length_le (by omega)];rfl
theorem Z33 {l:List Xp} {k:Nat} {a:Xp} (h:l[k]?=some a):Xps.dep (l.take (k+1))=max (Xps.dep (l.take k)) a.dep:=by
 rw [List.take_add_one,h]
 have:∀l:List Xp,Xps.dep (l++[a])=max (Xps.dep l) a.dep:=fun l=>by
  induction l with
  | nil=>simp [Xps.dep]
  | cons b l ih=>simp only [List.cons_append,Xps.dep,ih];omega
 exact this _
theorem Z34:∀e:Xp,e.dep≤e.size:=by
 refine Xp.ind fun e ih=>?_
 rw [Xp.dep_eq,Xp.size_eq]
 have:Xps.dep e.kids≤Xps.size e.kids:=Xps.dep_le.2 fun a ha=>by
  obtain ⟨i,hi⟩:=List.getElem?_of_mem ha
  have h1:=ih a ha
  have h2:=Xps.size_at hi
  omega
 omega
theorem zta:∀(e:Xp) (cs:List Value) (H:PH),e.Rep H cs→e.size≤1000000→Gives Tryz.prog zio [.agg cs.toArray] H (.int .i64 (e.dep:Int)):=by
 refine Xp.ind fun e ih cs H he hz=>?_
 obtain ⟨nb,db,kb,nc,dc,kc,rfl,hx⟩:=Xp.Rep.open he
 have hk:=hx.kids.max
 simp only [maxLen] at hk
 have hse:=Xp.size_eq e
 have hde:=Xp.dep_eq e
 have hds:=Z34 e
 refine zfg (exVs e nb db kb nc dc kc) (by kernel_rfl) (by kernel_rfl) ?_
 refine ⟨fun n vs H'=>∃k:Nat,vs=[.int .i64 ((Xps.dep (e.kids.take k):Nat):Int),.int .i64 k]∧k+n=e.kids.length∧PH.le H H',⟨e.kids.length,0,by simp [Xps.dep,ev0,ev,evV,List.cons_append,List.nil_append,List.getD_cons_zero,List.getD_cons_succ,List.map_cons,List.map_nil,iOf,bOf,sOf,pOf,slLen,z04,cmpI,arI,Value.ite_bool,z01,z03,z00,z02],by omega,PH.le_refl _⟩,?_⟩
 rintro n vs H2 _ ⟨k,rfl,hkn,l2⟩
 refine ⟨fun g1=>?_,fun g1=>?_⟩
 ·simp only [ev0,ev,evV,List.cons_append,List.nil_append,List.getD_cons_zero,List.getD_cons_succ,List.map_cons,List.map_nil,iOf,bOf,sOf,pOf,slLen,z04,cmpI,arI,Value.ite_bool,z01,z03,z00,z02,zdt] at g1
  obtain ⟨a,ha⟩:∃a,e.kids[k]?=some a:=⟨_,zge (show k < e.kids.length by omega)⟩
  obtain ⟨q1,_,ces,g2,g3⟩:=(hx.kids.le l2).get ha
  have hmem:=List.mem_of_getElem? ha
  have htags:=Xp.Rep.tags g2
  have g2':=g2
  obtain ⟨nb',db',kb',nc',dc',kc',rfl,_⟩:=Xp.Rep.open g2'
  have hsa:=Xps.size_at ha
  refine ⟨fun _=>?_,_,htags,by simp only [ev0,ev,evV,List.cons_append,List.nil_append,List.getD_cons_zero,List.getD_cons_succ,List.map_cons,List.map_nil,iOf,bOf,sOf,pOf,slLen,z04,cmpI,arI,Value.ite_bool,z01,z03,z00,z02];exact g3,?_⟩
  ·simp only [Chk.holds,ev0,ev,evV,List.cons_append,List.nil_append,List.getD_cons_zero,List.getD_cons_succ,List.map_cons,List.map_nil,iOf,bOf,sOf,pOf,slLen,z04,cmpI,arI,Value.ite_bool,z01,z03,z00,z02];exact ⟨q1,by omega,by omega⟩
  refine z07 [.int .i64 (a.dep:Int)] z7u (ih a hmem _ H2 g2 (by omega)) rfl z05 fun H3 l3=>?_
  refine ⟨_,z06,n - 1,by omega,k+1,?_,by omega,PH.le_trans l2 l3⟩
  rw [Z33 ha]
  simp only [ev0,ev,evV,List.cons_append,List.nil_append,List.getD_cons_zero,List.getD_cons_succ,List.map_cons,List.map_nil,iOf,bOf,sOf,pOf,slLen,z04,cmpI,arI,Value.ite_bool,z01,z03,z00,z02]
  rw [w64 (by omega) (by omega)]
  by_cases hgt:(Xps.dep (e.kids.take k):Int) < (a.dep:Int)
  ·simp [hgt];omega
  ·simp [hgt];omega
 ·simp only [ev0,ev,evV,List.cons_append,List.nil_append,List.getD_cons_zero,List.getD_cons_succ,List.map_cons,List.map_nil,iOf,bOf,sOf,pOf,slLen,z04,cmpI,arI,Value.ite_bool,z01,z03,z00,z02,zdf] at g1
  refine ⟨?_,l2⟩
  rw [List.take_of_length_le (by omega)]
  simp only [ev0,ev,evV,List.cons_append,List.nil_append,List.getD_cons_zero,List.getD_cons_succ,List.map_cons,List.map_nil,iOf,bOf,sOf,pOf,slLen,z04,cmpI,arI,Value.ite_bool,z01,z03,z00,z02,hde]
  rw [w64 (by omega) (by omega)];rfl
theorem zju (e:Xp) (cs:List Value) (H:PH) (he:e.Rep H cs) (hz:e.size≤1000000):Gives Tryz.prog zh9 [.agg cs.toArray] H (.bool (z75 e)):=by
 have he':=he
 obtain ⟨nb,db,kb,nc,dc,kc,rfl,hx⟩:=Xp.Rep.open he
 refine zds (exVs e nb db kb nc dc kc) (by kernel_rfl) (by kernel_rfl) ?_
 refine ⟨fun vs H'=>vs=[.bool (z75 e)]∧PH.le H H',?_,?_⟩
 ·rintro vs K _ ⟨rfl,l⟩;exact ⟨rfl,l⟩
 refine z07 [.int .i64 (e.size:Int)] z7d (zt9 e _ H he' hz) rfl z05 fun H1 l1=>⟨fun g=>?_,fun g=>?_⟩
 ·simp only [ev0,ev,evV,List.cons_append,List.nil_append,List.getD_cons_zero,List.getD_cons_succ,List.map_cons,List.map_nil,iOf,bOf,sOf,pOf,slLen,z04,cmpI,arI,Value.ite_bool,z01,z03,z00,z02,zdt] at g
  refine z07 [.int .i64 (e.dep:Int)] z7u (zta e _ H1 (Xp.Rep.le l1 e he') hz) rfl z05 fun H2 l2=>⟨_,z06,?_,PH.le_trans l1 l2⟩
  have:e.size≤400:=by omega
  unfold z75
  rw [decide_eq_true this]
  simp only [ev0,ev,evV,List.cons_append,List.nil_append,List.getD_cons_zero,List.getD_cons_succ,List.map_cons,List.map_nil,iOf,bOf,sOf,pOf,slLen,z04,cmpI,arI,Value.ite_bool,z01,z03,z00,z02,Bool.true_and]
  congr 2
  exact decide_eq_decide.2 (by omega)
 ·simp only [ev0,ev,evV,List.cons_append,List.nil_append,List.getD_cons_zero,List.getD_cons_succ,List.map_cons,List.map_nil,iOf,bOf,sOf,pOf,slLen,z04,cmpI,arI,Value.ite_bool,z01,z03,z00,z02,zdf] at g
  refine ⟨_,z06,?_,l1⟩
  have:¬e.size≤400:=by omega
  unfold z75
  rw [decide_eq_false this];rfl
theorem zu6 (e:Xp) (cs:List Value) (H:PH) (he:e.Rep H cs) (hc:(e.chk false 0 0).2=0) (hfr:e.fr []=[]) (v:Value) (hv:∃b n c,v=.slice b n c):Gives Tryz.prog zf9 [.agg cs.toArray,v] H (.agg cs.toArray):=by
 have he':=he
 obtain ⟨nb,db,kb,nc,dc,kc,rfl,hx⟩:=Xp.Rep.open he
 obtain ⟨vb,vn,vc,rfl⟩:=hv
 have hb:=z3q hc
 have hz:=z4t hc
 refine zd1 (exVs e nb db kb nc dc kc++[.slice vb vn vc]) (by kernel_rfl) (by kernel_rfl) ?_
 simp only [List.cons_append,List.nil_append]
 refine z08 z1s (zax e _ H he' (by omega) (by omega)) ?_
 rintro x H2 ⟨l2,v,rfl,hv⟩
 have h0:=(zjl (e.fr [])).2 hfr
 obtain ⟨b,c,rfl⟩:=hv.sl
 refine ⟨_,[.slice b (freeS (e.fr [])).length c],rfl,rfl,rfl,z05,fun _=>?_,fun g=>?_⟩
 ·exact ⟨rfl,l2⟩
 ·simp [ev0,ev,evV,List.cons_append,List.nil_append,List.getD_cons_zero,List.getD_cons_succ,List.map_cons,List.map_nil,iOf,bOf,sOf,pOf,slLen,z04,cmpI,arI,Value.ite_bool,z01,z03,z00,z02,h0] at g
def Z04 (p q:OutX):Prop:=p.err=q.err∧p.out=q.out∧p.whole=q.whole∧p.shown=q.shown
theorem zz1 {H:PH} {o:OutX} {cs:List Value} (h:o.Rep H cs):∃b c,cs=[.int .i64 o.err,txt o.out,.int .i64 o.shown.kind,.int .i64 o.shown.int,txt o.shown.text,.slice b o.shown.list.length c,.bool o.whole,nI o.steps]:=by
 obtain ⟨ds,rfl,hd⟩:=h
 obtain ⟨sv,rfl,_,_,_,hs⟩:=Dat.Rep_iff.1 hd
 obtain ⟨b1,c1,rfl⟩:=hs.sl
 exact ⟨b1,c1,rfl⟩
theorem Z4s {H H':PH} (l:PH.le H H') {o:OutX} {cs:List Value} (h:o.Rep H cs):o.Rep H' cs:=by
 obtain ⟨ds,rfl,hd⟩:=h
 exact ⟨ds,rfl,Dat.Rep.le l _ hd⟩
theorem znb (a b:Xp) (ca cb:List Value) (H:PH) (ha:a.Rep H ca) (hb:b.Rep H cb) (hc:(a.chk false 0 0).2=0) (hfr:a.fr []=[]) (input:List UInt8) (N:Nat) (p:OutX) (hp:runA N a input 1500=some p) (hpe:InI p.err) (hps:p.steps≤1500)
  (hq:p.err=93∨p.err=94∨∃M q,runA M b input ((4 * p.steps+4:Nat):Int)=some q∧Z04 p q) :
  Gives Tryz.prog zgl [.agg ca.toArray,.agg cb.toArray,.slice none 0 0,txt input,.int .i64 4,.int .i64 4] H (.bool true):=by
 have ha':=ha
 have hb':=hb
 obtain ⟨nb,db,kb,nc,dc,kc,rfl,hx⟩:=Xp.Rep.open ha
 obtain ⟨mb,eb,jb,mc,ec,jc,rfl,hy⟩:=Xp.Rep.open hb
 have hbn:=z3q hc
 have hz:=z4t hc
 refine ze4 (exVs a nb db kb nc dc kc++exVs b mb eb jb mc ec jc++[.slice none 0 0,txt input,.int .i64 4,.int .i64 4]) (by kernel_rfl) (by kernel_rfl) ?_
 simp only [List.cons_append,List.nil_append]
 refine z07 (exVs a nb db kb nc dc kc) zdy (zu6 a _ H ha' hc hfr (.slice none 0 0) ⟨_,_,_,rfl⟩) rfl z05 fun H1 l1=>?_
 simp only [List.cons_append,List.nil_append]
 refine ⟨fun vs H'=>vs=exVs b mb eb jb mc ec jc∧PH.le H H',?_,?_⟩
 rotate_left
 ·refine z08 z1s (zax a _ H1 (Xp.Rep.le l1 a ha') (by omega) (by omega)) ?_
  rintro x H2 ⟨l2,v,rfl,hv⟩
  have h0:=(zjl (a.fr [])).2 hfr
  obtain ⟨b5,c5,rfl⟩:=hv.sl
  refine ⟨_,[.slice b5 (freeS (a.fr [])).length c5],rfl,rfl,rfl,z05,fun g=>?_,fun g=>?_⟩
  ·simp [ev0,ev,evV,List.cons_append,List.nil_append,List.getD_cons_zero,List.getD_cons_succ,List.map_cons,List.map_nil,iOf,bOf,sOf,pOf,slLen,z04,cmpI,arI,Value.ite_bool,z01,z03,z00,z02,h0] at g
  ·exact ⟨_,z06,by simp only [ev0,ev,evV,List.cons_append,List.nil_append,List.getD_cons_zero,List.getD_cons_succ,List.map_cons,List.map_nil,iOf,bOf,sOf,pOf,slLen,z04,cmpI,arI,Value.ite_bool,z01,z03,z00,z02],PH.le_trans l1 l2⟩
 rintro vs H2 _ ⟨rfl,l2⟩
 simp only [List.cons_append,List.nil_append]
 refine z08 z8k (zue N a _ input 1500 H2 (Xp.Rep.le l2 a ha') (by decide) p hp) ?_
 rintro x H3 ⟨l3,cs3,rfl,h3⟩
 have h3':=h3
 obtain ⟨b3,c3,rfl⟩:=zz1 h3'
 refine ⟨_,[.int .i64 p.err,txt p.out,.int .i64 p.shown.kind,.int .i64 p.shown.int,txt p.shown.text,.slice b3 p.shown.list.length c3,.bool p.whole,nI p.steps],rfl,rfl,rfl,z05,fun g=>?_,fun g=>?_⟩
 ·exact ⟨rfl,PH.le_trans l2 l3⟩
 simp only [List.cons_append,List.nil_append]
 have g':¬(p.err=93∨p.err=94):=by
  rintro (h | h)<;>simp [ev0,ev,evV,List.cons_append,List.nil_append,List.getD_cons_zero,List.getD_cons_succ,List.map_cons,List.map_nil,iOf,bOf,sOf,pOf,slLen,z04,cmpI,arI,Value.ite_bool,z01,z03,z00,z02,h] at g
 rcases hq with hq | hq | ⟨M,q,hq,hal⟩
 ·exact absurd (.inl hq) g'
 ·exact absurd (.inr hq) g'
 have hw1:IntKind.i64.wrap (4 * (p.steps:Int))=((4 * p.steps:Nat):Int):=by rw [w64 (by omega) (by omega)];omega
 have hw2:IntKind.i64.wrap (((4 * p.steps:Nat):Int)+4)=((4 * p.steps+4:Nat):Int):=by rw [w64 (by omega) (by omega)];omega
 have hrun:=zue M b _ input ((4 * p.steps+4:Nat):Int) H3 (Xp.Rep.le (PH.le_trans l2 l3) b hb') (by unfold InI;omega) q hq
 rw [←hw2,←hw1] at hrun
 refine z08 z8k hrun ?_
 rintro x H4 ⟨l4,cs4,rfl,h4⟩
 have h4':=h4
 obtain ⟨b4,c4,rfl⟩:=zz1 h4'
 refine ⟨_,[.int .i64 q.err,txt q.out,.int .i64 q.shown.kind,.int .i64 q.shown.int,txt q.shown.text,.slice b4 q.shown.list.length c4,.bool q.whole,nI q.steps],rfl,rfl,rfl,z05,?_⟩
 simp only [List.cons_append,List.nil_append]
 refine z07 [.bool true] zf8 (zvl p q _ _ H4 (Z4s l4 h3) h4 hal) rfl z05 fun H5 l5=>?_
 exact ⟨rfl,PH.le_trans l2 (PH.le_trans l3 (PH.le_trans l4 l5))⟩
def numE (k:Int):Xp:=.mk 0 [] [] (.mk 1 k [] []) []
def prmE (p:List UInt8) (l:List Xp):Xp:=.mk 7 p [] dat0 l
def mulE:Xp:=prmE [42] [numE 2,numE 3]
def fxE3:Xp:=prmE [43] [numE 1,mulE]
def fxN3:Xp:=letX [110,46,48] mulE (prmE [43] [numE 1,refX [110,46,48]])
def setE3:Xp:=.mk 2 [120] [] dat0 [numE 1]
theorem Z3c:anfX fxE3=(fxN3,0):=by kernel_rfl
theorem Z3x:anfX setE3=(exZ,100):=by kernel_rfl
theorem zzv:fxN3.namedB=true:=by kernel_rfl
theorem Z3t:(fxE3.chk false 0 0).2=0:=by kernel_rfl
theorem Z4d:fxE3.fr []=[]:=by kernel_rfl
theorem Z2d:runA 40 fxE3 [] 1500=some ⟨0,[],.mk 1 7 [] [],true,5⟩:=by kernel_rfl
theorem Z1v:runA 40 fxN3 [] 24=some ⟨0,[],.mk 1 7 [] [],true,7⟩:=by kernel_rfl
theorem z3z (k:Int) (H:PH):Gives Tryz.prog zj0 [.int .i64 k] H (.agg #[.int .i64 0,txt [],.slice none 0 0,.int .i64 1,.int .i64 k,txt [],.slice none 0 0,.slice none 0 0]):=
 zgc [.int .i64 k] (by kernel_rfl) (by kernel_rfl) ⟨rfl,PH.le_refl _⟩
theorem z49 (p:List UInt8) (b:Option Addr) (n c:Nat) (H:PH):Gives Tryz.prog zhi [txt p,.slice b n c] H (.agg #[.int .i64 7,txt p,.slice none 0 0,.int .i64 0,.int .i64 0,txt [],.slice none 0 0,.slice b n c]):=
 zfa [txt p,.slice b n c] (by kernel_rfl) (by kernel_rfl) ⟨rfl,PH.le_refl _⟩
theorem z83 {S:PH} {k:Int} (h:InI k):(numE k).Rep S [.int .i64 0,txt [],.slice none 0 0,.int .i64 1,.int .i64 k,txt [],.slice none 0 0,.slice none 0 0]:=
 Xp.Rep_iff.2 ⟨.slice none 0 0,.slice none 0 0,.slice none 0 0,rfl,(show InI 0 by decide),by simp [numE,Xp.name],SlR.mk_iff.2 ⟨Nat.zero_le _,.inl ⟨rfl,rfl⟩⟩,z2u (k:=1) (n:=k) (t:=[]) (by decide) h (by decide),SlR.mk_iff.2 ⟨Nat.zero_le _,.inl ⟨rfl,rfl⟩⟩⟩
theorem zaq {S:PH} {p:List UInt8} {l:List Xp} {v:Value} (hp:p.length≤maxLen) (h:SlR S l v):(prmE p l).Rep S [.int .i64 7,txt p,.slice none 0 0,.int .i64 0,.int .i64 0,txt [],.slice none 0 0,v]:=
 Xp.Rep_iff.2 ⟨.slice none 0 0,.slice none 0 0,v,rfl,(show InI 7 by decide),hp,SlR.mk_iff.2 ⟨Nat.zero_le _,.inl ⟨rfl,rfl⟩⟩,z2u (k:=0) (n:=0) (t:=[]) (by decide) (by decide) (by decide),h⟩
theorem z4m {X:List PanicEntry→PH→Prop} {β:Type} {E:List Value} {H S:PH} {L:LK} {K:β→List Value→PH→LK→Prop} {ty:TypeId} {n:Nat} {ps:Array (Nat×Operand)} {args:List (Nat×VE)} {k:Fm β} {l:List Xp} (vs:List Value) (hS:PH.le S H) (hn:l.length=n) (h0:0 < n) (hle:n≤8)
  (hps:ps.toList.map (fun x=>(x.1,argEv E args x.2))=idxs 0 vs) (hvs:All2 (fun a v=>CsR S a v.cells.toList) l vs)
  (hk:∀S' H' b c,PH.le S S'→PH.le S' H'→PH.le H H'→SlR S' l (.slice b n c)→den Tryz.prog X k (E++[.slice b n c]) H' L K):den Tryz.prog X (.sem (.buildSlice 26 n ps) ty args (.sc .sl) [] k) E H L K:=by
 have h8:sz Xp=8:=rfl
 refine zns (α:=Xp) (b:=128) vs z2i z1j hn (by rw [h8];omega) (by rw [h8];omega) (Held.nil hS) hps hvs z05 fun v H' h l _=>?_
 obtain ⟨S',h1,h2,h3⟩:=h.freeze
 obtain ⟨b,c,rfl⟩:=h1.sl
 rw [hn] at h1 ⊢
 exact hk S' H' b c h2 h3.sh l h1
theorem zk0 (H:PH) (hT:Tab H):Gives Tryz.prog zgj [] H (.bool true):=by
 refine zeu [] (by kernel_rfl) (by kernel_rfl) ?_
 have N:List Value:=[]
 refine z07 [.int .i64 0,txt [],.slice none 0 0,.int .i64 1,.int .i64 1,txt [],.slice none 0 0,.slice none 0 0] z13 (z3z 1 H) rfl z05 fun H1 l1=>?_
 refine z07 [.int .i64 0,txt [],.slice none 0 0,.int .i64 1,.int .i64 2,txt [],.slice none 0 0,.slice none 0 0] z13 (z3z 2 H1) rfl z05 fun H2 l2=>?_
 refine z07 [.int .i64 0,txt [],.slice none 0 0,.int .i64 1,.int .i64 3,txt [],.slice none 0 0,.slice none 0 0] z13 (z3z 3 H2) rfl z05 fun H3 l3=>?_
 simp only [List.cons_append,List.nil_append]
 refine z4m (S:=H3) (l:=[numE 2,numE 3]) [.agg #[.int .i64 0,txt [],.slice none 0 0,.int .i64 1,.int .i64 2,txt [],.slice none 0 0,.slice none 0 0],.agg #[.int .i64 0,txt [],.slice none 0 0,.int .i64 1,.int .i64 3,txt [],.slice none 0 0,.slice none 0 0]] (PH.le_refl _) rfl (by omega) (by omega) (by kernel_rfl) (.cons (z83 (by decide)) (.cons (z83 (by decide)) .nil)) fun S4 H4 b4 c4 l34 l4 l34' s4=>?_
 refine z07 [.int .i64 7,txt [42],.slice none 0 0,.int .i64 0,.int .i64 0,txt [],.slice none 0 0,.slice b4 2 c4] z1g (z49 [42] b4 2 c4 H4) rfl z05 fun H5 l5=>?_
 simp only [List.cons_append,List.nil_append]
 have r5:mulE.Rep H5 [.int .i64 7,txt [42],.slice none 0 0,.int .i64 0,.int .i64 0,txt [],.slice none 0 0,.slice b4 2 c4]:=zaq (by decide) (s4.le (PH.le_trans l4 l5))
 refine z4m (S:=H5) (l:=[numE 1,mulE]) [.agg #[.int .i64 0,txt [],.slice none 0 0,.int .i64 1,.int .i64 1,txt [],.slice none 0 0,.slice none 0 0],.agg #[.int .i64 7,txt [42],.slice none 0 0,.int .i64 0,.int .i64 0,txt [],.slice none 0 0,.slice b4 2 c4]] (PH.le_refl _) rfl (by omega) (by omega) (by kernel_rfl) (.cons (z83 (by decide)) (.cons r5 .nil)) fun S6 H6 b6 c6 l56 l6 l56' s6=>?_
 refine z07 [.int .i64 7,txt [43],.slice none 0 0,.int .i64 0,.int .i64 0,txt [],.slice none 0 0,.slice b6 2 c6] z1g (z49 [43] b6 2 c6 H6) rfl z05 fun H7 l7=>?_
 simp only [List.cons_append,List.nil_append]
 have r7:fxE3.Rep H7 [.int .i64 7,txt [43],.slice none 0 0,.int .i64 0,.int .i64 0,txt [],.slice none 0 0,.slice b6 2 c6]:=zaq (by decide) (s6.le (PH.le_trans l6 l7))
 have l07:PH.le H H7:=PH.le_trans l1 (PH.le_trans l2 (PH.le_trans l3 (PH.le_trans l34' (PH.le_trans l5 (PH.le_trans l56' l7)))))
 refine z08 zh4 (zjh fxE3 _ H7 (hT.le l07) r7) ?_
 rintro x H8 ⟨l8,es8,hl8,rfl,r8⟩
 rw [Z3c] at r8 ⊢
 have r8':=r8
 obtain ⟨anb,adb,akb,anc,adc,akc,rfl,_⟩:=Xp.Rep.open r8'
 refine ⟨_,exVs fxN3 anb adb akb anc adc akc++[.int .i64 0],rfl,rfl,rfl,z05,?_⟩
 simp only [List.cons_append,List.nil_append]
 refine z07 [.int .i64 0,txt [],.slice none 0 0,.int .i64 1,.int .i64 1,txt [],.slice none 0 0,.slice none 0 0] z13 (z3z 1 H8) rfl z05 fun H9 l9=>?_
 simp only [List.cons_append,List.nil_append]
 refine z4m (S:=H9) (l:=[numE 1]) [.agg #[.int .i64 0,txt [],.slice none 0 0,.int .i64 1,.int .i64 1,txt [],.slice none 0 0,.slice none 0 0]] (PH.le_refl _) rfl (by omega) (by omega) (by kernel_rfl) (.cons (z83 (by decide)) .nil) fun S10 H10 b10 c10 l910 l10 l910' s10=>?_
 simp only [List.cons_append,List.nil_append]
 have r10:setE3.Rep H10 [.int .i64 2,txt [120],.slice none 0 0,.int .i64 0,.int .i64 0,txt [],.slice none 0 0,.slice b10 1 c10]:=
  Xp.Rep_iff.2 ⟨.slice none 0 0,.slice none 0 0,_,rfl,(show InI 2 by decide),by simp [setE3,Xp.name,maxLen],SlR.mk_iff.2 ⟨Nat.zero_le _,.inl ⟨rfl,rfl⟩⟩,z2u (k:=0) (n:=0) (t:=[]) (by decide) (by decide) (by decide),s10.le l10⟩
 have l010:PH.le H H10:=PH.le_trans l07 (PH.le_trans l8 (PH.le_trans l9 l910'))
 refine z08 zh4 (zjh setE3 _ H10 (hT.le l010) r10) ?_
 rintro x H11 ⟨l11,es11,hl11,rfl,r11⟩
 rw [Z3x] at r11 ⊢
 have r11':=r11
 obtain ⟨bnb,bdb,bkb,bnc,bdc,bkc,rfl,_⟩:=Xp.Rep.open r11'
 refine ⟨_,exVs exZ bnb bdb bkb bnc bdc bkc++[.int .i64 100],rfl,rfl,rfl,z05,?_⟩
 simp only [List.cons_append,List.nil_append]
 have l811:PH.le H8 H11:=PH.le_trans l9 (PH.le_trans l910' l11)
 refine ⟨fun vs K=>vs=[.bool true]∧PH.le H K,?_,fun _=>?_,fun g=>by simp [ev0,ev,evV,List.cons_append,List.nil_append,List.getD_cons_zero,List.getD_cons_succ,List.map_cons,List.map_nil,iOf,bOf,sOf,pOf,slLen,z04,cmpI,arI,Value.ite_bool,z01,z03,z00,z02] at g⟩
 ·rintro vs K _ ⟨rfl,l⟩;exact ⟨rfl,l⟩
 refine z07 [.bool true] z2f (zzv ▸ zk6 fxN3 _ H11 (Xp.Rep.le l811 _ r8)) rfl z05 fun H12 l12=>⟨fun _=>?_,fun g=>by simp [ev0,ev,evV,List.cons_append,List.nil_append,List.getD_cons_zero,List.getD_cons_succ,List.map_cons,List.map_nil,iOf,bOf,sOf,pOf,slLen,z04,cmpI,arI,Value.ite_bool,z01,z03,z00,z02] at g⟩
 simp only [List.cons_append,List.nil_append]
 have l812:=PH.le_trans l811 l12
 refine z07 [.bool true] z6d (znb fxE3 fxN3 _ _ H12 (Xp.Rep.le (PH.le_trans l8 l812) _ r7) (Xp.Rep.le l812 _ r8) Z3t Z4d [] 40 _ Z2d (by decide) (by decide) (.inr (.inr ⟨40,_,Z1v,rfl,rfl,rfl,rfl⟩))) rfl z05 fun H13 l13=>?_
 exact ⟨_,z06,by simp [ev0,ev,evV,List.cons_append,List.nil_append,List.getD_cons_zero,List.getD_cons_succ,List.map_cons,List.map_nil,iOf,bOf,sOf,pOf,slLen,z04,cmpI,arI,Value.ite_bool,z01,z03,z00,z02],PH.le_trans l010 (PH.le_trans l11 (PH.le_trans l12 l13))⟩
theorem zqa (e:Xp):e.any badK=(e.any (fun k=>decide (k=9)) || e.any (fun k=>decide (k=2))):=by
 have:badK=fun k=>(decide (k=9) || decide (k=2)):=by funext k;rfl
 rw [this]
 exact Xp.any_or (fun k=>decide (k=9)) (fun k=>decide (k=2)) e
theorem zn3 (e:Xp):((e.chk false 0 0).2≠0∨e.any badK=true)↔((e.chk true 0 0).2≠0∨e.any badK=true):=by
 have:=zae e
 constructor
 ·rintro (h | h)
  ·exact .inl fun h2=>h (this.2 h2)
  ·exact .inr h
 ·rintro (h | h)
  ·exact .inl fun h2=>h (this.1 h2)
  ·exact .inr h
theorem zu7 (e:Xp) (cs co:List Value) (H:PH) (he:e.Rep H cs) (ho:(anfX e).1.Rep H co):Gives Tryz.prog zhm [.agg cs.toArray,.agg co.toArray,.int .i64 (anfX e).2] H (.bool true):=by
 have he':=he
 have ho':=ho
 obtain ⟨nb,db,kb,nc,dc,kc,rfl,hx⟩:=Xp.Rep.open he
 obtain ⟨mb,eb,jb,mc,ec,jc,rfl,hy⟩:=Xp.Rep.open ho
 refine zfo (exVs e nb db kb nc dc kc++exVs (anfX e).1 mb eb jb mc ec jc++[.int .i64 (anfX e).2]) (by kernel_rfl) (by kernel_rfl) ?_
 simp only [List.cons_append,List.nil_append]
 refine ⟨fun vs H'=>vs=[.bool (decide ((e.chk false 0 0).2≠0∨e.any badK=true))]∧PH.le H H',?_,?_⟩
 rotate_left
 ·refine z07 [.int .i64 (e.chk false 0 0).2] z3j (zam e _ H he') rfl z05 fun H1 l1=>⟨fun g=>?_,fun g=>?_⟩
  ·simp only [ev0,ev,evV,List.cons_append,List.nil_append,List.getD_cons_zero,List.getD_cons_succ,List.map_cons,List.map_nil,iOf,bOf,sOf,pOf,slLen,z04,cmpI,arI,Value.ite_bool,z01,z03,z00,z02,ne_eq,decide_not,Bool.not_eq_true',zdf] at g
   exact ⟨_,z06,by simp [ev0,ev,evV,List.cons_append,List.nil_append,List.getD_cons_zero,List.getD_cons_succ,List.map_cons,List.map_nil,iOf,bOf,sOf,pOf,slLen,z04,cmpI,arI,Value.ite_bool,z01,z03,z00,z02,g],l1⟩
  ·simp only [ev0,ev,evV,List.cons_append,List.nil_append,List.getD_cons_zero,List.getD_cons_succ,List.map_cons,List.map_nil,iOf,bOf,sOf,pOf,slLen,z04,cmpI,arI,Value.ite_bool,z01,z03,z00,z02,ne_eq,decide_not,Bool.not_eq_false',zdt] at g
   simp only [List.cons_append,List.nil_append]
   refine z07 [.bool (e.any fun k=>decide (k=9))] z1w (zav 9 e _ H1 (Xp.Rep.le l1 e he')) rfl z05 fun H2 l2=>⟨fun g2=>?_,fun g2=>?_⟩
   ·simp only [ev0,ev,evV,List.cons_append,List.nil_append,List.getD_cons_zero,List.getD_cons_succ,List.map_cons,List.map_nil,iOf,bOf,sOf,pOf,slLen,z04,cmpI,arI,Value.ite_bool,z01,z03,z00,z02] at g2
    refine ⟨_,z06,?_,PH.le_trans l1 l2⟩
    rw [zqa,g2];simp [ev0,ev,evV,List.cons_append,List.nil_append,List.getD_cons_zero,List.getD_cons_succ,List.map_cons,List.map_nil,iOf,bOf,sOf,pOf,slLen,z04,cmpI,arI,Value.ite_bool,z01,z03,z00,z02]
   ·simp only [ev0,ev,evV,List.cons_append,List.nil_append,List.getD_cons_zero,List.getD_cons_succ,List.map_cons,List.map_nil,iOf,bOf,sOf,pOf,slLen,z04,cmpI,arI,Value.ite_bool,z01,z03,z00,z02] at g2
    simp only [List.cons_append,List.nil_append]
    refine z07 [.bool (e.any fun k=>decide (k=2))] z1w (zav 2 e _ H2 (Xp.Rep.le (PH.le_trans l1 l2) e he')) rfl z05 fun H3 l3=>⟨_,z06,?_,PH.le_trans l1 (PH.le_trans l2 l3)⟩
    rw [zqa,g2,Bool.false_or]
    simp only [ev0,ev,evV,List.cons_append,List.nil_append,List.getD_cons_zero,List.getD_cons_succ,List.map_cons,List.map_nil,iOf,bOf,sOf,pOf,slLen,z04,cmpI,arI,Value.ite_bool,z01,z03,z00,z02]
    cases h:e.any (fun k=>decide (k=2))<;>simp [g]
 rintro vs H1 _ ⟨rfl,l1⟩
 simp only [List.cons_append,List.nil_append]
 have exZr:exZ.Rep H1 [.int .i64 0,txt [],.slice none 0 0,.int .i64 0,.int .i64 0,txt [],.slice none 0 0,.slice none 0 0]:=zx1 H1
 refine ⟨fun g=>?_,fun g=>?_⟩
 ·simp only [ev0,ev,evV,List.cons_append,List.nil_append,List.getD_cons_zero,List.getD_cons_succ,List.map_cons,List.map_nil,iOf,bOf,sOf,pOf,slLen,z04,cmpI,arI,Value.ite_bool,z01,z03,z00,z02,zdt] at g
  have hax:=zo1 ((zn3 e).1 g)
  have h2:(anfX e).2=100:=by rw [hax]
  have h1:(anfX e).1=exZ:=by rw [hax]
  refine ⟨fun vs H'=>vs=[.bool true]∧PH.le H H',?_,fun g2=>?_,fun g2=>?_⟩
  ·rintro vs K _ ⟨rfl,l⟩;exact ⟨rfl,l⟩
  ·refine z07 [.bool (decide ((anfX e).1=exZ))] z3y (znj (anfX e).1 exZ _ _ H1 (Xp.Rep.le l1 _ ho') exZr) rfl z05 fun H2 l2=>⟨_,z06,?_,PH.le_trans l1 l2⟩
   simp [ev0,ev,evV,List.cons_append,List.nil_append,List.getD_cons_zero,List.getD_cons_succ,List.map_cons,List.map_nil,iOf,bOf,sOf,pOf,slLen,z04,cmpI,arI,Value.ite_bool,z01,z03,z00,z02,h1]
  ·simp [ev0,ev,evV,List.cons_append,List.nil_append,List.getD_cons_zero,List.getD_cons_succ,List.map_cons,List.map_nil,iOf,bOf,sOf,pOf,slLen,z04,cmpI,arI,Value.ite_bool,z01,z03,z00,z02,h2] at g2
 simp only [ev0,ev,evV,List.cons_append,List.nil_append,List.getD_cons_zero,List.getD_cons_succ,List.map_cons,List.map_nil,iOf,bOf,sOf,pOf,slLen,z04,cmpI,arI,Value.ite_bool,z01,z03,z00,z02,zdf] at g
 have hc:(e.chk false 0 0).2=0:=Classical.byContradiction fun h=>g (.inl h)
 have hcT:=(zae e).1 hc
 have hany:e.any badK=false:=Bool.eq_false_iff.2 fun h=>g (.inr h)
 have hax:=zlj (fun h=>g ((zn3 e).2 h))
 have hz:=z4t hc
 by_cases hok:((namX e).chk true 0 0).2=0
 ·rw [if_pos hok] at hax
  have h2:(anfX e).2=0:=by rw [hax]
  have h1:(anfX e).1=namX e:=by rw [hax]
  refine ⟨fun g2=>by simp [ev0,ev,evV,List.cons_append,List.nil_append,List.getD_cons_zero,List.getD_cons_succ,List.map_cons,List.map_nil,iOf,bOf,sOf,pOf,slLen,z04,cmpI,arI,Value.ite_bool,z01,z03,z00,z02,h2] at g2,fun _=>?_⟩
  have hokF:=(zae (namX e)).2 hok
  have hbn:=z3q hok
  have hzn:=z4t hok
  have hbe:=z3q hc
  have hna:=Z3a hany
  rw [zqa,Bool.or_eq_false_iff] at hna
  rw [h1] at ho' hy ⊢
  refine ⟨fun vs H'=>vs=[.bool true]∧PH.le H H',?_,?_⟩
  ·rintro vs K _ ⟨rfl,l⟩;exact ⟨rfl,l⟩
  refine z07 [.int .i64 ((namX e).chk false 0 0).2] z3j (zam (namX e) _ H1 (Xp.Rep.le l1 _ ho')) rfl z05 fun H2 l2=>⟨fun _=>?_,fun g2=>by simp [ev0,ev,evV,List.cons_append,List.nil_append,List.getD_cons_zero,List.getD_cons_succ,List.map_cons,List.map_nil,iOf,bOf,sOf,pOf,slLen,z04,cmpI,arI,Value.ite_bool,z01,z03,z00,z02,hokF] at g2⟩
  simp only [List.cons_append,List.nil_append]
  refine z07 [.bool ((namX e).any fun k=>decide (k=9))] z1w (zav 9 (namX e) _ H2 (Xp.Rep.le (PH.le_trans l1 l2) _ ho')) rfl z05 fun H3 l3=>⟨fun _=>?_,fun g2=>by simp [ev0,ev,evV,List.cons_append,List.nil_append,List.getD_cons_zero,List.getD_cons_succ,List.map_cons,List.map_nil,iOf,bOf,sOf,pOf,slLen,z04,cmpI,arI,Value.ite_bool,z01,z03,z00,z02,hna.1] at g2⟩
  simp only [List.cons_append,List.nil_append]
  have l13:=PH.le_trans l1 (PH.le_trans l2 l3)
  refine z07 [.bool ((namX e).any fun k=>decide (k=2))] z1w (zav 2 (namX e) _ H3 (Xp.Rep.le l13 _ ho')) rfl z05 fun H4 l4=>⟨fun _=>?_,fun g2=>by simp [ev0,ev,evV,List.cons_append,List.nil_append,List.getD_cons_zero,List.getD_cons_succ,List.map_cons,List.map_nil,iOf,bOf,sOf,pOf,slLen,z04,cmpI,arI,Value.ite_bool,z01,z03,z00,z02,hna.2] at g2⟩
  simp only [List.cons_append,List.nil_append]
  have l14:=PH.le_trans l13 l4
  refine z07 [.bool (namX e).namedB] z2f (zk6 (namX e) _ H4 (Xp.Rep.le l14 _ ho')) rfl z05 fun H5 l5=>⟨fun _=>?_,fun g2=>by simp [ev0,ev,evV,List.cons_append,List.nil_append,List.getD_cons_zero,List.getD_cons_succ,List.map_cons,List.map_nil,iOf,bOf,sOf,pOf,slLen,z04,cmpI,arI,Value.ite_bool,z01,z03,z00,z02,zzy hcT] at g2⟩
  simp only [List.cons_append,List.nil_append]
  have l15:=PH.le_trans l14 l5
  refine z08 z1s (zax (namX e) _ H5 (Xp.Rep.le l15 _ ho') (by omega) (by omega)) ?_
  rintro x H6 ⟨l6,v6,rfl,hv6⟩
  obtain ⟨b6,c6,hs6⟩:=hv6.sl
  refine ⟨_,[v6],rfl,by rw [hs6];rfl,rfl,z05,?_⟩
  simp only [List.cons_append,List.nil_append]
  refine z08 z1s (zax e _ H6 (Xp.Rep.le (PH.le_trans l15 l6) _ he') (by omega) (by omega)) ?_
  rintro x H7 ⟨l7,v7,rfl,hv7⟩
  obtain ⟨b7,c7,hs7⟩:=hv7.sl
  refine ⟨_,[v7],rfl,by rw [hs7];rfl,rfl,z05,?_⟩
  simp only [List.cons_append,List.nil_append]
  refine z07 [.bool (decide (freeS ((namX e).fr [])=freeS (e.fr [])))] z4k (zfy _ _ v6 v7 H7 (hv6.le l7) hv7) rfl z05 fun H8 l8=>⟨_,z06,?_,PH.le_trans l15 (PH.le_trans l6 (PH.le_trans l7 l8))⟩
  simp [ev0,ev,evV,List.cons_append,List.nil_append,List.getD_cons_zero,List.getD_cons_succ,List.map_cons,List.map_nil,iOf,bOf,sOf,pOf,slLen,z04,cmpI,arI,Value.ite_bool,z01,z03,z00,z02,zv5 e]
 ·rw [if_neg hok] at hax
  have h2:(anfX e).2=101:=by rw [hax]
  have h1:(anfX e).1=exZ:=by rw [hax]
  have hns:z75 e=false:=Bool.eq_false_iff.2 fun h=>hok (zrd hcT h)
  refine ⟨fun _=>?_,fun g2=>by simp [ev0,ev,evV,List.cons_append,List.nil_append,List.getD_cons_zero,List.getD_cons_succ,List.map_cons,List.map_nil,iOf,bOf,sOf,pOf,slLen,z04,cmpI,arI,Value.ite_bool,z01,z03,z00,z02,h2] at g2⟩
  refine ⟨fun vs H'=>vs=[.bool true]∧PH.le H H',?_,fun _=>?_,fun g2=>by simp [ev0,ev,evV,List.cons_append,List.nil_append,List.getD_cons_zero,List.getD_cons_succ,List.map_cons,List.map_nil,iOf,bOf,sOf,pOf,slLen,z04,cmpI,arI,Value.ite_bool,z01,z03,z00,z02,h2] at g2⟩
  ·rintro vs K _ ⟨rfl,l⟩;exact ⟨rfl,l⟩
  refine z07 [.bool (decide ((anfX e).1=exZ))] z3y (znj (anfX e).1 exZ _ _ H1 (Xp.Rep.le l1 _ ho') exZr) rfl z05 fun H2 l2=>⟨fun _=>?_,fun g2=>by simp [ev0,ev,evV,List.cons_append,List.nil_append,List.getD_cons_zero,List.getD_cons_succ,List.map_cons,List.map_nil,iOf,bOf,sOf,pOf,slLen,z04,cmpI,arI,Value.ite_bool,z01,z03,z00,z02,h1] at g2⟩
  simp only [List.cons_append,List.nil_append]
  refine z07 [.bool (z75 e)] z6p (zju e _ H2 (Xp.Rep.le (PH.le_trans l1 l2) e he') (by omega)) rfl z05 fun H3 l3=>⟨_,z06,?_,PH.le_trans l1 (PH.le_trans l2 l3)⟩
  simp [ev0,ev,evV,List.cons_append,List.nil_append,List.getD_cons_zero,List.getD_cons_succ,List.map_cons,List.map_nil,iOf,bOf,sOf,pOf,slLen,z04,cmpI,arI,Value.ite_bool,z01,z03,z00,z02,hns]
def AX.nx:Nat→AX→Option AX
 | 0,m=>some m
 | k+1,m=>if m.e≠0∨m.todo.isEmpty=true then none else (m.next).bind (AX.nx k)
theorem Z12:∀(j k:Nat) (m:AX),AX.nx (j+k) m=(AX.nx j m).bind (AX.nx k)
 | 0,k,m=>by rw [Nat.zero_add];rfl
 | j+1,k,m=>by
  rw [Nat.succ_add]
  simp only [AX.nx]
  split
  ·rfl
  ·rw [Option.bind_assoc]
   congr 1
   funext m'
   exact Z12 j k m'
theorem go_nx:∀(k n:Nat) (m m':AX),AX.nx k m=some m'→AX.go (k+n) m=AX.go n m'
 | 0,n,m,m',h=>by
  simp only [AX.nx,Option.some.injEq] at h
  subst h;rw [Nat.zero_add]
 | k+1,n,m,m',h=>by
  simp only [AX.nx] at h
  split at h
  ·cases h
  ·rename_i hne
   obtain ⟨m1,h1,h2⟩:=Option.bind_eq_some_iff.1 h
   rw [Nat.succ_add,zti,if_neg hne]
   simp only [h1]
   exact go_nx k n m1 m' h2
def To (m m':AX):Prop:=∃k,AX.nx k m=some m'
theorem To.refl (m:AX):To m m:=⟨0,rfl⟩
theorem To.trans {a b c:AX} (h:To a b) (k:To b c):To a c:=by
 obtain ⟨i,hi⟩:=h
 obtain ⟨j,hj⟩:=k
 exact ⟨i+j,by rw [Z12,hi];exact hj⟩
theorem To.one {a b:AX} (he:a.e=0) (ht:a.todo≠[]) (h:a.next=some b):To a b:=by
 refine ⟨1,?_⟩
 simp only [AX.nx]
 rw [if_neg]
 ·rw [h];rfl
 ·rintro (h1 | h1)
  ·exact h1 he
  ·exact ht (List.isEmpty_iff.1 h1)
def AX.more (m:AX) (s:Nat) (o:List UInt8) (w:List VX) (A:HX) (C:List VX) (T:List TdX):AX:=
 { m with steps:=m.steps+s,out:=m.out++o,vals:=m.vals++w,h:=m.h++A,cells:=m.cells++C,todo:=m.todo++T }
theorem z3n (m:AX) (s s':Nat) (o o':List UInt8) (w w':List VX) (A A':HX) (C C':List VX) (T T':List TdX):(m.more s o w A C T).more s' o' w' A' C' T'=m.more (s+s') (o++o') (w++w') (A++A') (C++C') (T++T'):=by
 unfold AX.more;simp only [List.append_assoc,Nat.add_assoc]
theorem z23 (m:AX) (s:Nat) (o:List UInt8) (w:List VX) (A:HX) (C:List VX) (T T':List TdX):(m.more s o w A C T).push T'=m.more s o w A C (T++T'):=by
 unfold AX.more AX.push;simp only [List.append_assoc]
def Rm (m:AX) (r:Nat):Prop:=m.h.length+r≤1000000∧m.cells.length+r≤1000000∧m.procs.length+r≤1000000∧m.out.length+r≤1000000∧m.todo.length+r≤1000000∧m.vals.length+r≤1000000
theorem z8q {m:AX} {r d:Nat} (h:Rm m (r+d)) {s:Nat} {o:List UInt8} {w:List VX} {A:HX} {C:List VX} {T:List TdX} (h1:o.length≤d) (h2:w.length≤d) (h3:A.length≤d) (h4:C.length≤d) (h5:T.length≤d):Rm (m.more s o w A C T) r:=by
 unfold Rm AX.more at *
 simp only [zla]
 omega
theorem Z4r {m:AX} (h:Rm m 0):m.few=true:=by
 unfold Rm at h
 unfold AX.few
 simp only [zba,zdt]
 omega
theorem zzj {m:AX} {s:Nat} {o:List UInt8} {w:List VX} {A:HX} {C:List VX} {T:List TdX} {t:TdX} (h:Rm (m.more s o w A C (T++[t])) 0):(m.more s o w A C (T++[t])).next=(m.more s o w A C T).act t:=by
 unfold AX.next
 rw [if_pos (Z4r h)]
 have h1:(m.more s o w A C (T++[t])).todo.getLast?=some t:=by unfold AX.more;simp only [←List.append_assoc,List.getLast?_concat]
 have h2:({ (m.more s o w A C (T++[t])) with todo:=(m.more s o w A C (T++[t])).todo.dropLast }:AX)=m.more s o w A C T:=by
  unfold AX.more;simp only [←List.append_assoc,List.dropLast_concat]
 rw [h1]
 simp only
 rw [h2]
theorem z0r {m m':AX} {s:Nat} {o:List UInt8} {w:List VX} {A:HX} {C:List VX} {T:List TdX} {t:TdX} {r:Nat} (hr:Rm m r) (h1:o.length≤r) (h2:w.length≤r) (h3:A.length≤r) (h4:C.length≤r) (h5:T.length+1≤r) (he:m.e=0) (h:(m.more s o w A C T).act t=some m'):To (m.more s o w A C (T++[t])) m':=by
 refine To.one he (by unfold AX.more;simp) ?_
 rw [zzj (z8q (r:=0) (d:=r) (by rw [Nat.zero_add];exact hr) h1 h2 h3 h4 (by rw [zla];exact h5))]
 exact h
section
variable {m:AX} {s:Nat} {o:List UInt8} {w:List VX} {A:HX} {C:List VX} {T:List TdX}
def numV (k:Int):VX:=⟨1,k,[]⟩
theorem zz8 {k:Int} (h:0≤k∧k≤255):z2w (.mk 1 k [] [])=numV k:=by
 have hc:(Dat.chk (.mk 1 k [] []) 0 0).2=0:=by
  have:∀n:Fin 256,(Dat.chk (.mk 1 (n.1:Int) [] []) 0 0).2=0:=by decide +kernel
  have h2:=this ⟨k.toNat,by omega⟩
  simp only [Int.toNat_of_nonneg h.1] at h2
  exact h2
 unfold z2w
 rw [if_neg (by rw [hc];exact fun h=>h rfl)]
 rfl
theorem zew {e:Xp} {env:List VarX} (hs:m.steps+s≠m.most) (hk:e.kids.length≤1000000) (hn:e.names.length≤1000000) (he:env.length≤4294967296) {m':AX}
  (h:(if e.kind=0 then some ((m.more (s+1) o w A C T).tell (z2w e.const))
 else if e.kind=1 then (z7j (m.cells++C) (cellX env e.name)).map fun k=>(m.more (s+1) o w A C T).tell ((m.cells++C).getD k default)
 else if e.kind=3 then e.kids[0]?.map fun a=>(m.more (s+1) o w A C T).push [⟨3,e,env,0⟩,tdE a env]
 else if e.kind=7 then some ((m.more (s+1) o w A C T).push (⟨5,e,[],0⟩::allT e.kids env))
 else if e.kind=8 then (if e.kids.length=0 then none else some ((m.more (s+1) o w A C T).push (⟨6,e,env,0⟩::allT e.kids.dropLast env)))
 else none)=some m'):(m.more s o w A C T).act (tdE e env)=some m':=by
 have hm1:({ (m.more s o w A C T) with steps:=(m.more s o w A C T).steps+1 }:AX)=m.more (s+1) o w A C T:=rfl
 show (m.more s o w A C T).eval e env=some m'
 unfold AX.eval
 rw [if_neg (show ¬(m.more s o w A C T).steps=(m.more s o w A C T).most from hs),if_neg (by omega)]
 simp only [hm1]
 by_cases k0:e.kind=0
 ·rw [if_pos k0] at h ⊢;exact h
 rw [if_neg k0] at h ⊢
 by_cases k1:e.kind=1
 ·rw [if_pos k1] at h ⊢;exact h
 rw [if_neg k1] at h ⊢
 by_cases k3:e.kind=3
 ·rw [if_pos k3] at h
  rw [if_neg (by omega),if_pos k3];exact h
 rw [if_neg k3] at h
 by_cases k7:e.kind=7
 ·rw [if_pos k7] at h
  rw [if_neg (by omega),if_neg (by omega),if_neg (by omega),if_neg (by omega),if_neg (by omega),if_pos k7];exact h
 rw [if_neg k7] at h
 by_cases k8:e.kind=8
 ·rw [if_pos k8] at h
  rw [if_neg (by omega),if_neg (by omega),if_neg (by omega),if_neg (by omega),if_neg (by omega),if_neg (by omega),if_pos k8];exact h
 rw [if_neg k8] at h
 cases h
end
def wB:List UInt8:=[119,114,105,116,101,45,117,56]
def eqB:List UInt8:=[101,113,63]
def carB:List UInt8:=[99,97,114]
def consB:List UInt8:=[99,111,110,115]
def wrE (b:UInt8):Xp:=prmE wB [numE (b.toNat:Int)]
def ifE (a b c:Xp):Xp:=.mk 3 [] [] dat0 [a,b,c]
theorem Z3u (m:AX) (e:Xp) (env:List VarX) (k:Int):m.act ⟨6,e,env,k⟩=if 1000000 < e.names.length∨4294967296 < env.length then none else (m.pop e.names.length).bind fun r=>e.kids[e.names.length]?.map fun b=>
  let q:=r.1.bind env e.names r.2
  q.1.push [tdE b q.2]:=rfl
theorem Z3l (m:AX) (e:Xp) (env:List VarX) (k:Int):m.act ⟨3,e,env,k⟩=(m.pop 1).bind fun r=>(if r.2.getD 0 default=vNone then e.kids[2]? else e.kids[1]?).map fun k=>r.1.push [tdE k env]:=rfl
theorem Z3r (m:AX) (e:Xp) (env:List VarX) (k:Int):m.act ⟨5,e,env,k⟩=(m.pop e.kids.length).bind fun r=>r.1.prim e.name r.2:=rfl
section
variable {m:AX} {s:Nat} {o:List UInt8} {w:List VX} {A:HX} {C:List VX} {T:List TdX} {env:List VarX}
theorem zm3 {k:Int} (h:0≤k∧k≤255) (hs:m.steps+s≠m.most) (he:env.length≤4294967296):(m.more s o w A C T).act (tdE (numE k) env)=some (m.more (s+1) o (w++[numV k]) A C T):=by
 refine zew hs (by simp [numE,Xp.kids]) (by simp [numE,Xp.names]) he ?_
 rw [if_pos (show (numE k).kind=0 from rfl)]
 show some ((m.more (s+1) o w A C T).tell (z2w (.mk 1 k [] [])))=_
 rw [zz8 h]
 unfold AX.tell AX.more
 simp only [List.append_assoc]
theorem zlz {x:List UInt8} {k:Nat} {v:VX} (hc:cellX env x=(k:Int)) (hv:(m.cells++C)[k]?=some v) (hs:m.steps+s≠m.most) (he:env.length≤4294967296):(m.more s o w A C T).act (tdE (refX x) env)=some (m.more (s+1) o (w++[v]) A C T):=by
 refine zew hs (by simp [refX,Xp.kids]) (by simp [refX,Xp.names]) he ?_
 rw [if_neg (show ¬(refX x).kind=0 from by show ¬(1:Int)=0;decide),if_pos (show (refX x).kind=1 from rfl)]
 have hp:z7j (m.cells++C) (cellX env (refX x).name)=some k:=by
  show z7j (m.cells++C) (cellX env x)=some k
  have:=(List.getElem?_eq_some_iff.1 hv).1
  unfold z7j
  rw [hc,if_pos ⟨by omega,by omega⟩];simp
 rw [hp]
 simp only [Option.map_some]
 rw [show (m.cells++C).getD k default=v by rw [zgd,hv];rfl]
 unfold AX.tell AX.more
 simp only [List.append_assoc]
theorem zag {p:List UInt8} {l:List Xp} (hl:l.length≤1000000) (hs:m.steps+s≠m.most) (he:env.length≤4294967296):(m.more s o w A C T).act (tdE (prmE p l) env)=some (m.more (s+1) o w A C (T++(⟨5,prmE p l,[],0⟩::allT l env))):=by
 refine zew hs (show (prmE p l).kids.length≤1000000 from hl) (by simp [prmE,Xp.names]) he ?_
 rw [if_neg (show ¬(prmE p l).kind=0 from by show ¬(7:Int)=0;decide),if_neg (show ¬(prmE p l).kind=1 from by show ¬(7:Int)=1;decide),if_neg (show ¬(prmE p l).kind=3 from by show ¬(7:Int)=3;decide),if_pos (show (prmE p l).kind=7 from rfl),z23]
 rfl
theorem Z17 {a b c:Xp} (hs:m.steps+s≠m.most) (he:env.length≤4294967296):(m.more s o w A C T).act (tdE (ifE a b c) env)=some (m.more (s+1) o w A C (T++[⟨3,ifE a b c,env,0⟩,tdE a env])):=by
 refine zew hs (by simp [ifE,Xp.kids]) (by simp [ifE,Xp.names]) he ?_
 rw [if_neg (show ¬(ifE a b c).kind=0 from by show ¬(3:Int)=0;decide),if_neg (show ¬(ifE a b c).kind=1 from by show ¬(3:Int)=1;decide),if_pos (show (ifE a b c).kind=3 from rfl)]
 simp only [ifE,Xp.kids,List.getElem?_cons_zero,Option.map_some,z23]
theorem zii {x:List UInt8} {i b:Xp} (hs:m.steps+s≠m.most) (he:env.length≤4294967296):(m.more s o w A C T).act (tdE (letX x i b) env)=some (m.more (s+1) o w A C (T++[⟨6,letX x i b,env,0⟩,tdE i env])):=by
 refine zew hs (by simp [letX,Xp.kids]) (by simp [letX,Xp.names]) he ?_
 rw [if_neg (show ¬(letX x i b).kind=0 from by show ¬(8:Int)=0;decide),if_neg (show ¬(letX x i b).kind=1 from by show ¬(8:Int)=1;decide),if_neg (show ¬(letX x i b).kind=3 from by show ¬(8:Int)=3;decide),if_neg (show ¬(letX x i b).kind=7 from by show ¬(8:Int)=7;decide),if_pos (show (letX x i b).kind=8 from rfl),if_neg (show ¬(letX x i b).kids.length=0 from by show ¬(2:Nat)=0;decide),z23]
 rfl
theorem znp {v:List VX}:(m.more s o (w++v) A C T).pop v.length=some (m.more s o w A C T,v):=by
 have hl:(m.more s o (w++v) A C T).vals=(m.vals++w)++v:=by unfold AX.more;simp only [List.append_assoc]
 have h2:(m.more s o (w++v) A C T).vals.length - v.length=(m.vals++w).length:=by rw [hl,zla];omega
 unfold AX.pop
 rw [if_pos (by rw [hl,zla];omega),h2,hl,List.take_left,List.drop_left]
 rfl
theorem zaz {x:List UInt8} {i b:Xp} {v:VX} (he:env.length≤4294967296):(m.more s o (w++[v]) A C T).act ⟨6,letX x i b,env,0⟩=some (m.more s o w A (C++[v]) (T++[tdE b (env++[⟨x,(m.cells.length+C.length:Nat)⟩])])):=by
 rw [Z3u,if_neg (show ¬(1000000 < (letX x i b).names.length∨4294967296 < env.length) from by
  show ¬(1000000 < 1∨4294967296 < env.length);omega)]
 show ((m.more s o (w++[v]) A C T).pop [v].length).bind _=_
 rw [znp]
 show some _=_
 unfold AX.bind AX.more AX.push
 simp only [letX,Xp.names,bindE,List.append_assoc,zla]
 rfl
theorem zt1 {a b c:Xp} {v:VX} (hv:v≠vNone):(m.more s o (w++[v]) A C T).act ⟨3,ifE a b c,env,0⟩=some (m.more s o w A C (T++[tdE b env])):=by
 rw [Z3l]
 show ((m.more s o (w++[v]) A C T).pop [v].length).bind _=_
 rw [znp]
 simp only [Option.bind_some,List.getD_cons_zero,if_neg hv,ifE,Xp.kids,List.getElem?_cons_succ,List.getElem?_cons_zero,Option.map_some,z23]
theorem zaj {p:List UInt8} {l:List Xp} {v:List VX} (hl:l.length=v.length) {m':AX} (h:(m.more s o w A C T).prim p v=some m'):(m.more s o (w++v) A C T).act ⟨5,prmE p l,[],0⟩=some m':=by
 rw [Z3r]
 have:(prmE p l).kids.length=v.length:=hl
 rw [this,znp]
 exact h
theorem zxj {b:UInt8}:(m.more s o w A C T).prim wB [numV (b.toNat:Int)]=some (m.more s (o++[b]) (w++[vVoid]) A C T):=by
 have hb:=b.toNat_lt
 unfold AX.prim
 rw [if_neg (by decide),if_pos (by decide)]
 have h1:¬(numV (b.toNat:Int)).kind≠1:=fun h=>h rfl
 have h2:¬((numV (b.toNat:Int)).int < 0∨255 < (numV (b.toNat:Int)).int):=by
  show ¬((b.toNat:Int) < 0∨255 < (b.toNat:Int));omega
 simp only [List.getElem?_cons_zero,Option.map_some,if_neg h1,if_neg h2]
 have h3:UInt8.ofNat (numV (b.toNat:Int)).int.toNat=b:=by
  show UInt8.ofNat (b.toNat:Int).toNat=b
  rw [Int.toNat_natCast,UInt8.ofNat_toNat]
 rw [h3]
 unfold AX.tell AX.more
 simp only [List.append_assoc]
theorem zbc {p:List UInt8} {v:List VX} {x:VX} (hp:p≠[114,101,97,100,45,117,56]∧p≠[119,114,105,116,101,45,117,56]∧p≠[101,114,114,111,114]∧p≠[37,119,105,110,100,101,114,115]∧p≠[37,119,105,110,100,33]∧p≠[37,99,97,108,108,99,99]) (he:m.e=0) (A':HX)
  (hd:doX (m.h++A) p v=(m.h++A',x,0)):(m.more s o w A C T).prim p v=some (m.more s o (w++[x]) A' C T):=by
 obtain ⟨h1,h2,h3,h4,h5,h6⟩:=hp
 unfold AX.prim
 rw [if_neg h1,if_neg h2,if_neg h3,if_neg h4,if_neg h5,if_neg h6]
 have:doX (m.more s o w A C T).h p v=(m.h++A',x,0):=hd
 simp only [this]
 unfold AX.tell AX.more
 simp only [List.append_assoc,he]
end
theorem z9d (env:List VarX) (x:List UInt8) (k:Int):cellX (env++[⟨x,k⟩]) x=k:=by
 unfold cellX cellF
 rw [List.foldl_append]
 simp
theorem zxn (env:List VarX) {x y:List UInt8} (k:Int) (h:y≠x):cellX (env++[⟨y,k⟩]) x=cellX env x:=by
 unfold cellX cellF
 rw [List.foldl_append]
 simp [h]
theorem do_eq {h:HX} {v:VX} (hv:mayV h.length v=true) (hn:v≠vVoid):doX h eqB [vVoid,v]=(h,zij,0):=by
 have hr:rowsX.find? (fun r=>decide (r.1=eqB))=some (eqB,[-1,-1]):=by decide +kernel
 unfold doX
 rw [hr]
 simp only [zlc,List.length_nil,ne_eq,not_true_eq_false,if_false,List.all_cons,List.all_nil,ze2,hv,Bool.and_self,Bool.not_true,Bool.false_eq_true,List.zip_cons_cons,List.zip_nil_right]
 have hk:∀v:VX,kOk h (-1) v=true:=fun v=>by unfold kOk;rfl
 rw [hk,hk]
 have hne:¬vVoid=v:=fun e=>hn e.symm
 show (if (!(true && true))=true then _ else actX h eqB [vVoid,v])=_
 unfold actX
 simp only [List.getD_cons_zero,List.getD_cons_succ]
 rw [if_neg (by decide),if_neg (by decide),if_neg (by decide),if_neg (by decide),if_neg (by decide),if_neg (by decide),if_neg (by decide),if_pos (by decide)]
 simp only [decide_eq_false hne,z0g,zij]
 rfl
theorem zx5 {h:HX} {v:VX} (hv:mayV h.length v=true):doX h consB [vVoid,v]=(h++[⟨0,[vVoid,v]⟩],⟨8,h.length,[]⟩,0):=by
 have hr:rowsX.find? (fun r=>decide (r.1=consB))=some (consB,[-1,-1]):=by decide +kernel
 unfold doX
 rw [hr]
 simp only [zlc,List.length_nil,ne_eq,not_true_eq_false,if_false,List.all_cons,List.all_nil,ze2,hv,Bool.and_self,Bool.not_true,Bool.false_eq_true,List.zip_cons_cons,List.zip_nil_right]
 have hk:∀v:VX,kOk h (-1) v=true:=fun v=>by unfold kOk;rfl
 rw [hk,hk]
 show (if (!(true && true))=true then _ else actX h consB [vVoid,v])=_
 unfold actX
 simp only [List.getD_cons_zero,List.getD_cons_succ]
 rw [if_neg (by decide),if_neg (by decide),if_neg (by decide),if_neg (by decide),if_neg (by decide),if_neg (by decide),if_neg (by decide),if_neg (by decide),if_neg (by decide),if_neg (by decide),if_neg (by decide),if_neg (by decide),if_neg (by decide),if_neg (by decide),if_neg (by decide),if_neg (by decide),if_neg (by decide),if_neg (by decide),if_pos (by decide)]
 rfl
theorem zzm {h:HX} {v:VX}:doX (h++[⟨0,[vVoid,v]⟩]) carB [⟨8,h.length,[]⟩]=(h++[⟨0,[vVoid,v]⟩],vVoid,0):=by
 have hr:rowsX.find? (fun r=>decide (r.1=carB))=some (carB,[10]):=by decide +kernel
 have hg:(h++[(⟨0,[vVoid,v]⟩:TX)]).getD (Int.toNat (h.length:Int)) default=⟨0,[vVoid,v]⟩:=by
  rw [Int.toNat_natCast,zgd];simp
 have hm:mayV (h++[(⟨0,[vVoid,v]⟩:TX)]).length ⟨8,h.length,[]⟩=true:=by
  unfold mayV
  simp
  omega
 unfold doX
 rw [hr]
 simp only [zlc,List.length_nil,ne_eq,not_true_eq_false,if_false,List.all_cons,List.all_nil,hm,Bool.and_self,Bool.not_true,Bool.false_eq_true,List.zip_cons_cons,List.zip_nil_right]
 have hk:kOk (h++[(⟨0,[vVoid,v]⟩:TX)]) 10 ⟨8,h.length,[]⟩=true:=by
  unfold kOk z0s
  rw [if_pos (by decide),if_neg (by simp)]
  simp only [hg]
  decide
 rw [hk]
 show (if (!(true && true))=true then _ else actX _ carB [_])=_
 unfold actX
 simp only [List.getD_cons_zero,List.getD_cons_succ]
 rw [if_neg (by decide),if_neg (by decide),if_neg (by decide),if_neg (by decide),if_neg (by decide),if_neg (by decide),if_neg (by decide),if_neg (by decide),if_neg (by decide),if_neg (by decide),if_neg (by decide),if_neg (by decide),if_neg (by decide),if_neg (by decide),if_neg (by decide),if_neg (by decide),if_neg (by decide),if_neg (by decide),if_neg (by decide),if_neg (by decide),if_neg (by decide),if_neg (by decide),if_neg (by decide),if_pos (by decide)]
 unfold getX
 simp only [hg]
 rfl
def ordE (h:Nat):List UInt8→Xp
 | []=>numE 0
 | b::l=>if h=0 then prmE eqB [wrE b,ordE h l] else if h=1 then prmE carB [prmE consB [wrE b,ordE h l]] else ifE (wrE b) (ordE h l) (numE 1)
def valO (h:Nat):List UInt8→VX
 | []=>numV 0
 | _::l=>if h=0 then zij else if h=1 then vVoid else valO h l
def thO (h:Nat):List UInt8→HX
 | []=>[]
 | _::l=>if h=1 then thO h l++[⟨0,[vVoid,valO h l]⟩] else thO h l
def stE (h:Nat):List UInt8→Nat
 | []=>1
 | _::l=>(if h=1 then 4 else 3)+stE h l
theorem zep (h n:Nat):∀l,mayV n (valO h l)=true
 | []=>rfl
 | _::l=>by
  unfold valO
  split
  ·rfl
  ·split
   ·exact ze2 n
   ·exact zep h n l
theorem zqy:∀l,valO 0 l≠vVoid
 | []=>by decide
 | _::l=>by unfold valO;rw [if_pos rfl];decide
theorem zhj (h:Nat):∀l,(thO h l).length≤l.length
 | []=>Nat.le_refl _
 | _::l=>by
  have:=zhj h l
  unfold thO
  split<;>simp only [zla,zlc,List.length_nil]<;>omega
theorem z3l (m:AX) (T:List TdX):m.push T=m.more 0 [] [] [] [] T:=by unfold AX.more AX.push;simp
theorem rm_le {m:AX} {r d:Nat} (h:Rm m r) (hd:d≤r):Rm m d:=by unfold Rm at *;omega
theorem ev_wr (b:UInt8) (m:AX) (env:List VarX) (he:m.e=0) (hr:Rm m 5) (hn:env.length≤1000000) (hs:m.steps+2≤m.most):To (m.push [tdE (wrE b) env]) (m.more 2 [b] [vVoid] [] [] []):=by
 have hb:=b.toNat_lt
 rw [z3l]
 refine (z0r (T:=[]) hr (by simp) (by simp) (by simp) (by simp) (by simp) he (zag (by simp) (by omega) (by omega))).trans ?_
 refine (z0r (T:=[⟨5,wrE b,[],0⟩]) hr (by simp) (by simp) (by simp) (by simp) (by simp) he (zm3 (by omega) (by omega) (by omega))).trans ?_
 exact z0r (T:=[]) hr (by simp) (by simp) (by simp) (by simp) (by simp) he (zaj (l:=[numE (b.toNat:Int)]) rfl zxj)
theorem zhk (b:UInt8) {m:AX} {s:Nat} {o:List UInt8} {w:List VX} {A:HX} {C:List VX} {T:List TdX} {env:List VarX} {r:Nat} (hr:Rm m r) (h1:o.length+5≤r) (h2:w.length+5≤r) (h3:A.length+5≤r) (h4:C.length+5≤r) (h5:T.length+5≤r) (he:m.e=0) (hn:env.length≤1000000) (hs:m.steps+s+2≤m.most) :
  To (m.more s o w A C (T++[tdE (wrE b) env])) (m.more (s+2) (o++[b]) (w++[vVoid]) A C T):=by
 have h:=ev_wr b (m.more s o w A C T) env he (z8q (r:=5) (d:=r - 5) (by rw [Nat.add_sub_cancel' (by omega)];exact hr) (by omega) (by omega) (by omega) (by omega) (by omega)) hn hs
 rw [z23,z3n] at h
 simpa using h
theorem zzo (h:Nat):∀(l:List UInt8) (m:AX) (env:List VarX),m.e=0→Rm m (10 * l.length+10)→env.length≤1000000→m.steps+stE h l≤m.most→To (m.push [tdE (ordE h l) env]) (m.more (stE h l) l [valO h l] (thO h l) [] [])
 | [],m,env,he,hr,hn,hs=>by
  rw [z3l]
  simp only [stE] at hs
  exact z0r (T:=[]) hr (by simp) (by simp) (by simp) (by simp) (by simp) he (zm3 (k:=0) (by omega) (by omega) (by omega))
 | b::l,m,env,he,hr,hn,hs=>by
  have hl:=zhj h l
  simp only [zlc] at hr
  have hr':Rm m (10 * l.length+20):=rm_le hr (by omega)
  have ih:=fun (s:Nat) (o:List UInt8) (w:List VX) (T:List TdX) (h1:o.length≤10) (h2:w.length≤10) (h5:T.length≤10) (h6:m.steps+s+stE h l≤m.most)=>zzo h l (m.more s o w [] [] T) env he (z8q (r:=10 * l.length+10) (d:=10) hr' h1 h2 (by simp) (by simp) h5) hn h6
  rw [z3l]
  by_cases h0:h=0
  ·subst h0
   simp only [stE,if_neg (show ¬(0:Nat)=1 by decide)] at hs
   simp only [ordE,if_pos,valO,thO,stE,if_neg (show ¬(0:Nat)=1 by decide)]
   refine (z0r (T:=[]) hr' (by simp) (by simp) (by simp) (by simp) (by simp) he (zag (by simp) (by omega) (by omega))).trans ?_
   refine (zhk b (T:=[⟨5,prmE eqB [wrE b,ordE 0 l],[],0⟩,tdE (ordE 0 l) env]) hr' (by simp) (by simp) (by simp) (by simp) (by simp) he hn (by omega)).trans ?_
   have h1:=ih 3 [b] [vVoid] [⟨5,prmE eqB [wrE b,ordE 0 l],[],0⟩] (by simp) (by simp) (by simp) (by omega)
   rw [z23,z3n] at h1
   refine To.trans ?_ (h1.trans ?_)
   ·exact To.refl _
   refine To.trans (z0r (w:=[vVoid]++[valO 0 l]) (T:=[]) (r:=10 * l.length+20) hr' (by simp;omega) (by simp) (by simp;omega) (by simp) (by simp) he (zaj (w:=[]) (v:=[vVoid,valO 0 l]) (l:=[wrE b,ordE 0 l]) rfl (zbc (x:=zij) (by decide) he _ (do_eq (zep 0 _ l) (zqy l))))) ?_
   exact To.refl _
  by_cases h1:h=1
  ·subst h1
   simp only [stE,if_pos] at hs
   simp only [ordE,if_neg (show ¬(1:Nat)=0 by decide),if_pos,valO,thO,stE]
   refine (z0r (T:=[]) hr' (by simp) (by simp) (by simp) (by simp) (by simp) he (zag (by simp) (by omega) (by omega))).trans ?_
   refine (z0r (T:=[⟨5,prmE carB [prmE consB [wrE b,ordE 1 l]],[],0⟩]) hr' (by simp) (by simp) (by simp) (by simp) (by simp) he (zag (by simp) (by omega) (by omega))).trans ?_
   refine (zhk b (T:=[⟨5,prmE carB [prmE consB [wrE b,ordE 1 l]],[],0⟩,⟨5,prmE consB [wrE b,ordE 1 l],[],0⟩,tdE (ordE 1 l) env]) hr' (by simp) (by simp) (by simp) (by simp) (by simp) he hn (by omega)).trans ?_
   have h1:=ih 4 [b] [vVoid] [⟨5,prmE carB [prmE consB [wrE b,ordE 1 l]],[],0⟩,⟨5,prmE consB [wrE b,ordE 1 l],[],0⟩] (by simp) (by simp) (by simp) (by omega)
   rw [z23,z3n] at h1
   have h2:To (m.more (4+stE 1 l) ([b]++l) ([]++[vVoid,valO 1 l]) (thO 1 l) [] ([⟨5,prmE carB [prmE consB [wrE b,ordE 1 l]],[],0⟩]++[⟨5,prmE consB [wrE b,ordE 1 l],[],0⟩])) (m.more (4+stE 1 l) ([b]++l) ([]++[⟨8,(m.h++thO 1 l).length,[]⟩]) (thO 1 l++[⟨0,[vVoid,valO 1 l]⟩]) [] [⟨5,prmE carB [prmE consB [wrE b,ordE 1 l]],[],0⟩]):=
    z0r (r:=10 * l.length+20) hr' (by simp;omega) (by simp) (by omega) (by simp) (by simp) he (zaj (w:=[]) (v:=[vVoid,valO 1 l]) (l:=[wrE b,ordE 1 l]) rfl (zbc (x:=⟨8,(m.h++thO 1 l).length,[]⟩) (by decide) he (thO 1 l++[⟨0,[vVoid,valO 1 l]⟩]) (by rw [←List.append_assoc];exact zx5 (zep 1 _ l))))
   have h3:To (m.more (4+stE 1 l) ([b]++l) ([]++[⟨8,(m.h++thO 1 l).length,[]⟩]) (thO 1 l++[⟨0,[vVoid,valO 1 l]⟩]) [] ([]++[⟨5,prmE carB [prmE consB [wrE b,ordE 1 l]],[],0⟩])) (m.more (4+stE 1 l) ([b]++l) ([]++[vVoid]) (thO 1 l++[⟨0,[vVoid,valO 1 l]⟩]) [] []):=
    z0r (r:=10 * l.length+20) hr' (by simp;omega) (by simp) (by simp;omega) (by simp) (by simp) he (zaj (w:=[]) (v:=[⟨8,(m.h++thO 1 l).length,[]⟩]) (l:=[prmE consB [wrE b,ordE 1 l]]) rfl (zbc (x:=vVoid) (by decide) he (thO 1 l++[⟨0,[vVoid,valO 1 l]⟩]) (by rw [←List.append_assoc];exact zzm)))
   simp only [List.append_nil,List.nil_append,List.cons_append] at h1 h2 h3 ⊢
   exact h1.trans (h2.trans h3)
  ·simp only [stE,if_neg h1] at hs
   simp only [ordE,if_neg h0,if_neg h1,valO,thO,stE]
   refine (z0r (T:=[]) hr' (by simp) (by simp) (by simp) (by simp) (by simp) he (Z17 (by omega) (by omega))).trans ?_
   refine (zhk b (T:=[⟨3,ifE (wrE b) (ordE h l) (numE 1),env,0⟩]) hr' (by simp) (by simp) (by simp) (by simp) (by simp) he hn (by omega)).trans ?_
   refine (z0r (w:=[]++[vVoid]) (T:=[]) hr' (by simp) (by simp) (by simp) (by simp) (by simp) he (zt1 (by decide))).trans ?_
   have h1:=ih 3 [b] [] [] (by simp) (by simp) (by simp) (by omega)
   rw [z23,z3n] at h1
   refine To.trans (To.refl _) (h1.trans ?_)
   exact To.refl _
def nmd (p x y:List UInt8) (l:List UInt8) (e:Xp):Xp:=if l=[] then prmE p [refX x,numE 0] else letX y e (prmE p [refX x,refX y])
def ordN (h:Nat):List UInt8→Nat→Xp
 | [],_=>numE 0
 | b::l,k=>if h=0 then letX (nwL k) (wrE b) (nmd eqB (nwL k) (nwL (k+1)) l (ordN h l (k+2)))
  else if h=1 then letX (nwL k) (letX (nwL (k+1)) (wrE b) (nmd consB (nwL (k+1)) (nwL (k+2)) l (ordN h l (k+3)))) (prmE carB [refX (nwL k)])
  else letX (nwL k) (wrE b) (ifE (refX (nwL k)) (ordN h l (k+1)) (numE 1))
theorem zwy (U:List (List UInt8)) (k:Int) (n:Nat):(numE k).nam U n=(numE k,n):=by
 rw [Xp.nam_eq]
 simp only [numE,Xp.kids,Xps.nam_nil,wrapX,Xp.kind,Xp.name,Xp.names,Xp.const]
theorem zuz {U:List (List UInt8)} {l:List Xp} {n:Nat} (e:Xp) (h:simX e=true):Xps.nam U 1 (e::l) n=(e::(Xps.nam U 0 l n).1,(Xps.nam U 0 l n).2):=Xps.nam_sim (c:=0) _ h
theorem znq {U:List (List UInt8)} {l:List Xp} {n:Nat} (e:Xp) (h:simX e=false):Xps.nam U 1 (e::l) n=(refX (nwL (frN U n))::(Xps.nam U 0 l (Xp.nam U e (frN U n+1)).2).1,(nwL (frN U n),(Xp.nam U e (frN U n+1)).1)::(Xps.nam U 0 l (Xp.nam U e (frN U n+1)).2).2.1,(Xps.nam U 0 l (Xp.nam U e (frN U n+1)).2).2.2):=Xps.nam_new (c:=0) _ h
theorem Z26 {U:List (List UInt8)} {l:List Xp} {n:Nat} (e:Xp) (h:simX e=false):Xps.nam U 2 (e::l) n=(refX (nwL (frN U n))::(Xps.nam U 1 l (Xp.nam U e (frN U n+1)).2).1,(nwL (frN U n),(Xp.nam U e (frN U n+1)).1)::(Xps.nam U 1 l (Xp.nam U e (frN U n+1)).2).2.1,(Xps.nam U 1 l (Xp.nam U e (frN U n+1)).2).2.2):=Xps.nam_new (c:=1) _ h
theorem Z1f (U:List (List UInt8)) (b:UInt8) (n:Nat):(wrE b).nam U n=(wrE b,n):=by
 have hs:someN (7:Int) 1=1:=by decide
 rw [Xp.nam_eq]
 simp only [wrE,prmE,Xp.kids,Xp.kind,Xp.name,Xp.names,Xp.const,zlc,List.length_nil,Nat.zero_add,hs]
 rw [zuz (numE b.toNat) rfl,Xps.nam_nil]
 simp only [wrapX]
theorem Z39 (h:Nat):∀l,simX (ordE h l)=decide (l=[])
 | []=>by unfold ordE;rfl
 | b::l=>by
  unfold ordE
  split
  ·rfl
  ·split<;>rfl
theorem zwo {U:List (List UInt8)} (hU:∀i,nwL i∉U) {p:List UInt8} {b:UInt8} {h k:Nat} {l:List UInt8} {e:Xp} (hl:l≠[]→((ordE h l).nam U (k+2)).1=e):((prmE p [wrE b,ordE h l]).nam U k).1=letX (nwL k) (wrE b) (nmd p (nwL k) (nwL (k+1)) l e):=by
 have hs:someN (7:Int) 2=2:=by decide
 rw [Xp.nam_eq]
 simp only [prmE,Xp.kids,Xp.kind,Xp.name,Xp.names,Xp.const,zlc,List.length_nil,Nat.zero_add,hs]
 rw [Z26 (wrE b) rfl]
 simp only [zht (hU _),Z1f]
 unfold nmd
 by_cases hn:l=[]
 ·subst hn
  rw [if_pos rfl,zuz (ordE h []) rfl,Xps.nam_nil]
  simp only [wrapX,prmE,ordE]
 ·rw [if_neg hn,znq (ordE h l) (by rw [Z39,decide_eq_false hn]),Xps.nam_nil]
  simp only [zht (hU _),hl hn,wrapX,prmE]
theorem zm6 {U:List (List UInt8)} (hU:∀i,nwL i∉U) (h:Nat):∀(l:List UInt8) (k:Nat),((ordE h l).nam U k).1=ordN h l k
 | [],k=>by simp only [ordE,ordN,zwy]
 | b::l,k=>by
  by_cases h0:h=0
  ·simp only [ordE,ordN,if_pos h0]
   exact zwo hU fun _=>zm6 hU h l (k+2)
  by_cases h1:h=1
  ·simp only [ordE,ordN,if_neg h0,if_pos h1]
   have hs:someN (7:Int) 1=1:=by decide
   have h2:((prmE consB [wrE b,ordE h l]).nam U (k+1)).1=_:=zwo hU fun _=>zm6 hU h l (k+1+2)
   have h3:(prmE carB [prmE consB [wrE b,ordE h l]]).kids=[prmE consB [wrE b,ordE h l]]:=rfl
   have h4:(prmE carB [prmE consB [wrE b,ordE h l]]).kind=7:=rfl
   rw [Xp.nam_eq,h3,h4]
   simp only [zlc,List.length_nil,Nat.zero_add,hs]
   rw [znq (prmE consB [wrE b,ordE h l]) rfl,Xps.nam_nil]
   simp only [zht (hU _),h2,wrapX]
   rfl
  ·simp only [ordE,ordN,if_neg h0,if_neg h1]
   have hs:someN (3:Int) 3=1:=by decide
   rw [Xp.nam_eq]
   simp only [ifE,Xp.kids,Xp.kind,Xp.name,Xp.names,Xp.const,zlc,List.length_nil,Nat.zero_add,hs]
   rw [znq (wrE b) rfl,Xps.nam_zero,Xps.nam_zero,Xps.nam_nil]
   simp only [zht (hU _),Z1f,zm6 hU h l,zwy,wrapX]
theorem Z08 {p x:List UInt8} {last:Xp} {v v2:VX} {k:Nat} {N:HX} {m:AX} {env:List VarX} (he:m.e=0) (hr:Rm m 10) (hn:env.length≤1000000) (hs:m.steps+3≤m.most)
  (hp:p≠[114,101,97,100,45,117,56]∧p≠[119,114,105,116,101,45,117,56]∧p≠[101,114,114,111,114]∧p≠[37,119,105,110,100,101,114,115]∧p≠[37,119,105,110,100,33]∧p≠[37,99,97,108,108,99,99])
  (hc:cellX env x=(k:Int)) (hv:m.cells[k]?=some vVoid)
  (hl:∀(s:Nat) (w:List VX) (T:List TdX),m.steps+s≠m.most→(m.more s [] w [] [] T).act (tdE last env)=some (m.more (s+1) [] (w++[v2]) [] [] T))
  (hd:doX m.h p [vVoid,v2]=(m.h++N,v,0)):To (m.push [tdE (prmE p [refX x,last]) env]) (m.more 3 [] [v] N [] []):=by
 rw [z3l]
 have a1:To (m.more 0 [] [] [] [] ([]++[tdE (prmE p [refX x,last]) env])) (m.more 1 [] [] [] [] ([]++(⟨5,prmE p [refX x,last],[],0⟩::allT [refX x,last] env))):=
  z0r (r:=10) hr (by simp) (by simp) (by simp) (by simp) (by simp) he (zag (by simp) (by omega) (by omega))
 have a2:To (m.more 1 [] [] [] [] ([⟨5,prmE p [refX x,last],[],0⟩,tdE last env]++[tdE (refX x) env])) (m.more 2 [] ([]++[vVoid]) [] [] [⟨5,prmE p [refX x,last],[],0⟩,tdE last env]):=
  z0r (r:=10) hr (by simp) (by simp) (by simp) (by simp) (by simp) he (zlz hc (by rw [List.append_nil];exact hv) (by omega) (by omega))
 have a3:To (m.more 2 [] [vVoid] [] [] ([⟨5,prmE p [refX x,last],[],0⟩]++[tdE last env])) (m.more 3 [] ([vVoid]++[v2]) [] [] [⟨5,prmE p [refX x,last],[],0⟩]):=
  z0r (r:=10) hr (by simp) (by simp) (by simp) (by simp) (by simp) he (hl 2 [vVoid] _ (by omega))
 have a4:To (m.more 3 [] ([]++[vVoid,v2]) [] [] ([]++[⟨5,prmE p [refX x,last],[],0⟩])) (m.more 3 [] ([]++[v]) N [] []):=
  z0r (r:=10) hr (by simp) (by simp) (by simp) (by simp) (by simp) he (zaj (w:=[]) (v:=[vVoid,v2]) (l:=[refX x,last]) rfl (zbc hp he N (by rw [List.append_nil];exact hd)))
 exact a1.trans (a2.trans (a3.trans a4))
def EvAt (h:Nat) (l:List UInt8) (e:Xp):Prop:=∀(m:AX) (env:List VarX),m.e=0→Rm m (20 * l.length+20)→env.length+3 * l.length≤1000000→m.steps+4 * stE h l≤m.most→∃s C,s≤4 * stE h l∧C.length≤3 * l.length∧To (m.push [tdE e env]) (m.more s l [valO h l] (thO h l) C [])
theorem Z0c {h:Nat} {l:List UInt8} {e':Xp} (IH:EvAt h l e') {p x y:List UInt8} (hxy:y≠x) {v:VX} {k:Nat} {N:HX} {m:AX} {env:List VarX} (he:m.e=0) (hr:Rm m (20 * l.length+30)) (hn:env.length+3 * l.length+1≤1000000) (hs:m.steps+4 * stE h l+4≤m.most)
  (hp:p≠[114,101,97,100,45,117,56]∧p≠[119,114,105,116,101,45,117,56]∧p≠[101,114,114,111,114]∧p≠[37,119,105,110,100,101,114,115]∧p≠[37,119,105,110,100,33]∧p≠[37,99,97,108,108,99,99])
  (hc:cellX env x=(k:Int)) (hv:m.cells[k]?=some vVoid) (hd:doX (m.h++thO h l) p [vVoid,valO h l]=((m.h++thO h l)++N,v,0)) :
  ∃s C,s≤4 * stE h l+4∧C.length≤3 * l.length+1∧To (m.push [tdE (nmd p x y l e') env]) (m.more s l [v] (thO h l++N) C []):=by
 unfold nmd
 by_cases hl:l=[]
 ·subst hl
  simp only [thO,List.append_nil] at hd
  rw [if_pos rfl]
  refine ⟨3,[],by omega,by simp,?_⟩
  exact Z08 he (rm_le hr (by omega)) (by simp at hn;omega) (by simp only [stE] at hs;omega) hp hc hv (fun s w T hst=>zm3 (k:=0) (by omega) hst (by simp at hn;omega)) hd
 rw [if_neg hl]
 have hhl:=zhj h l
 obtain ⟨s,C,h1,h2,h3⟩:=IH (m.more 1 [] [] [] [] [⟨6,letX y e' (prmE p [refX x,refX y]),env,0⟩]) env he (z8q (r:=20 * l.length+20) (d:=10) hr (by simp) (by simp) (by simp) (by simp) (by simp)) (by omega) (by show m.steps+1+_≤m.most;omega)
 rw [z23,z3n] at h3
 refine ⟨1+s+3,C++[valO h l],by omega,by simp;omega,?_⟩
 rw [z3l]
 have a1:To (m.more 0 [] [] [] [] ([]++[tdE (letX y e' (prmE p [refX x,refX y])) env])) (m.more 1 [] [] [] [] ([]++[⟨6,letX y e' (prmE p [refX x,refX y]),env,0⟩,tdE e' env])):=
  z0r hr (by simp) (by simp) (by simp) (by simp) (by simp) he (zii (by omega) (by omega))
 have a3:To (m.more (1+s) l ([]++[valO h l]) (thO h l) C ([]++[⟨6,letX y e' (prmE p [refX x,refX y]),env,0⟩])) (m.more (1+s) l [] (thO h l) (C++[valO h l]) ([]++[tdE (prmE p [refX x,refX y]) (env++[⟨y,(m.cells.length+C.length:Nat)⟩])])):=
  z0r hr (by omega) (by simp) (by omega) (by omega) (by simp) he (zaz (by omega))
 have hm2:To ((m.more (1+s) l [] (thO h l) (C++[valO h l]) []).push [tdE (prmE p [refX x,refX y]) (env++[⟨y,(m.cells.length+C.length:Nat)⟩])]) ((m.more (1+s) l [] (thO h l) (C++[valO h l]) []).more 3 [] [v] N [] []):=by
  refine Z08 (v2:=valO h l) (k:=k) he (z8q (r:=10) (d:=20 * l.length+20) (rm_le hr (by omega)) (by omega) (by simp) (by omega) (by simp;omega) (by simp)) (by simp;omega) (by show m.steps+(1+s)+3≤m.most;omega) hp (by rw [zxn _ _ hxy];exact hc) ?_ ?_ hd
  ·show (m.cells++(C++[valO h l]))[k]?=some vVoid
   rw [List.getElem?_append_left (List.getElem?_eq_some_iff.1 hv).1];exact hv
  ·intro s' w T hst
   refine zlz (k:=m.cells.length+C.length) (z9d _ _ _) ?_ hst (by simp;omega)
   show ((m.cells++(C++[valO h l]))++[])[m.cells.length+C.length]?=_
   rw [List.append_nil,←List.append_assoc,List.getElem?_append_right (by simp),zla,Nat.sub_self];rfl
 rw [z23,z3n] at hm2
 simp only [List.append_nil,List.nil_append,List.cons_append] at a1 h3 a3 hm2 ⊢
 exact a1.trans (h3.trans (a3.trans hm2))
theorem zzc {i j:Nat} (h:i≠j):nwL i≠nwL j:=fun e=>h (zwi e)
theorem zm4 (h:Nat):∀(l:List UInt8) (k:Nat),EvAt h l (ordN h l k)
 | [],k=>fun m env he hr hn hs=>⟨1,[],by simp only [stE];omega,by simp,by
  rw [z3l]
  simp only [stE] at hs
  exact z0r (T:=[]) hr (by simp) (by simp) (by simp) (by simp) (by simp) he (zm3 (k:=0) (by omega) (by omega) (by omega))⟩
 | b::l,k=>fun m env he hr hn hs=>by
  have hhl:=zhj h l
  simp only [zlc] at hr hn
  have hr':Rm m (20 * l.length+40):=rm_le hr (by omega)
  by_cases h0:h=0
  ·subst h0
   simp only [stE,if_neg (show ¬(0:Nat)=1 by decide)] at hs
   simp only [ordN,if_pos,valO,thO,stE,if_neg (show ¬(0:Nat)=1 by decide),zlc]
   obtain ⟨B,hB⟩:∃B,B=nmd eqB (nwL k) (nwL (k+1)) l (ordN 0 l (k+2)):=⟨_,rfl⟩
   obtain ⟨s,C,g1,g2,g3⟩:=Z0c (zm4 0 l (k+2)) (p:=eqB) (x:=nwL k) (y:=nwL (k+1)) (zzc (by omega)) (v:=zij) (k:=m.cells.length) (N:=[]) (m:=m.more 3 [b] [] [] [vVoid] []) (env:=env++[⟨nwL k,(m.cells.length+0:Nat)⟩]) he
    (z8q (r:=20 * l.length+30) (d:=10) hr' (by simp) (by simp) (by simp) (by simp) (by simp)) (by simp;omega) (by show m.steps+3+_+4≤m.most;omega) (by decide) (z9d _ _ _)
    (by show (m.cells++[vVoid])[m.cells.length]?=_;simp)
    (by show doX (m.h++[]++thO 0 l) eqB _=(m.h++[]++thO 0 l++[],zij,0);rw [List.append_nil,List.append_nil];exact do_eq (zep 0 _ l) (zqy l))
   rw [←hB] at g3 ⊢
   rw [z23,z3n] at g3
   refine ⟨3+s,[vVoid]++C,by omega,by simp;omega,?_⟩
   rw [z3l]
   have a1:To (m.more 0 [] [] [] [] ([]++[tdE (letX (nwL k) (wrE b) B) env])) (m.more 1 [] [] [] [] ([]++[⟨6,letX (nwL k) (wrE b) B,env,0⟩,tdE (wrE b) env])):=
    z0r hr' (by simp) (by simp) (by simp) (by simp) (by simp) he (zii (by omega) (by omega))
   have a2:To (m.more 1 [] [] [] [] ([⟨6,letX (nwL k) (wrE b) B,env,0⟩]++[tdE (wrE b) env])) (m.more 3 ([]++[b]) ([]++[vVoid]) [] [] [⟨6,letX (nwL k) (wrE b) B,env,0⟩]):=
    zhk b hr' (by simp) (by simp) (by simp) (by simp) (by simp) he (by omega) (by omega)
   have a3:To (m.more 3 [b] ([]++[vVoid]) [] [] ([]++[⟨6,letX (nwL k) (wrE b) B,env,0⟩])) (m.more 3 [b] [] [] ([]++[vVoid]) ([]++[tdE B (env++[⟨nwL k,(m.cells.length+0:Nat)⟩])])):=
    z0r hr' (by simp) (by simp) (by simp) (by simp) (by simp) he (zaz (by omega))
   simp only [List.append_nil,List.nil_append,List.cons_append] at a1 a2 a3 g3 ⊢
   exact a1.trans (a2.trans (a3.trans g3))
  by_cases h1:h=1
  ·subst h1
   simp only [stE,if_pos] at hs
   simp only [ordN,if_neg (show ¬(1:Nat)=0 by decide),if_pos,valO,thO,stE,zlc]
   obtain ⟨B,hB⟩:∃B,B=nmd consB (nwL (k+1)) (nwL (k+2)) l (ordN 1 l (k+3)):=⟨_,rfl⟩
   obtain ⟨D,hD⟩:∃D,D=letX (nwL k) (letX (nwL (k+1)) (wrE b) B) (prmE carB [refX (nwL k)]):=⟨_,rfl⟩
   obtain ⟨s,C,g1,g2,g3⟩:=Z0c (zm4 1 l (k+3)) (p:=consB) (x:=nwL (k+1)) (y:=nwL (k+2)) (zzc (by omega)) (v:=⟨8,(m.h++thO 1 l).length,[]⟩) (k:=m.cells.length) (N:=[⟨0,[vVoid,valO 1 l]⟩]) (m:=m.more 4 [b] [] [] [vVoid] [⟨6,D,env,0⟩]) (env:=env++[⟨nwL (k+1),(m.cells.length+0:Nat)⟩]) he
    (z8q (r:=20 * l.length+30) (d:=10) hr' (by simp) (by simp) (by simp) (by simp) (by simp)) (by simp;omega) (by show m.steps+4+_+4≤m.most;omega) (by decide) (z9d _ _ _)
    (by show (m.cells++[vVoid])[m.cells.length]?=_;simp)
    (by show doX (m.h++[]++thO 1 l) consB _=(m.h++[]++thO 1 l++[⟨0,[vVoid,valO 1 l]⟩],⟨8,(m.h++thO 1 l).length,[]⟩,0);rw [List.append_nil];exact zx5 (zep 1 _ l))
   rw [←hB] at g3 ⊢
   rw [←hD]
   rw [z23,z3n] at g3
   obtain ⟨P,hP⟩:∃P:VX,P=⟨8,(m.h++thO 1 l).length,[]⟩:=⟨_,rfl⟩
   rw [←hP] at g3
   refine ⟨4+s+2,([vVoid]++C)++[P],by omega,by simp;omega,?_⟩
   rw [z3l]
   have a0:To (m.more 0 [] [] [] [] ([]++[tdE D env])) (m.more 1 [] [] [] [] ([]++[⟨6,D,env,0⟩,tdE (letX (nwL (k+1)) (wrE b) B) env])):=by
    rw [hD]
    exact z0r hr' (by simp) (by simp) (by simp) (by simp) (by simp) he (zii (by omega) (by omega))
   have a1:To (m.more 1 [] [] [] [] ([⟨6,D,env,0⟩]++[tdE (letX (nwL (k+1)) (wrE b) B) env])) (m.more 2 [] [] [] [] ([⟨6,D,env,0⟩]++[⟨6,letX (nwL (k+1)) (wrE b) B,env,0⟩,tdE (wrE b) env])):=
    z0r hr' (by simp) (by simp) (by simp) (by simp) (by simp) he (zii (by omega) (by omega))
   have a2:To (m.more 2 [] [] [] [] ([⟨6,D,env,0⟩,⟨6,letX (nwL (k+1)) (wrE b) B,env,0⟩]++[tdE (wrE b) env])) (m.more 4 ([]++[b]) ([]++[vVoid]) [] [] [⟨6,D,env,0⟩,⟨6,letX (nwL (k+1)) (wrE b) B,env,0⟩]):=
    zhk b hr' (by simp) (by simp) (by simp) (by simp) (by simp) he (by omega) (by omega)
   have a3:To (m.more 4 [b] ([]++[vVoid]) [] [] ([⟨6,D,env,0⟩]++[⟨6,letX (nwL (k+1)) (wrE b) B,env,0⟩])) (m.more 4 [b] [] [] ([]++[vVoid]) ([⟨6,D,env,0⟩]++[tdE B (env++[⟨nwL (k+1),(m.cells.length+0:Nat)⟩])])):=
    z0r hr' (by simp) (by simp) (by simp) (by simp) (by simp) he (zaz (by omega))
   have a4:To (m.more (4+s) ([b]++l) ([]++[P]) (thO 1 l++[⟨0,[vVoid,valO 1 l]⟩]) ([vVoid]++C) ([]++[⟨6,D,env,0⟩])) (m.more (4+s) ([b]++l) [] (thO 1 l++[⟨0,[vVoid,valO 1 l]⟩]) (([vVoid]++C)++[P]) ([]++[tdE (prmE carB [refX (nwL k)]) (env++[⟨nwL k,(m.cells.length+([vVoid]++C).length:Nat)⟩])])):=by
    rw [hD]
    exact z0r hr' (by simp;omega) (by simp) (by simp;omega) (by simp;omega) (by simp) he (zaz (by omega))
   have a5:To (m.more (4+s) ([b]++l) [] (thO 1 l++[⟨0,[vVoid,valO 1 l]⟩]) (([vVoid]++C)++[P]) ([]++[tdE (prmE carB [refX (nwL k)]) (env++[⟨nwL k,(m.cells.length+([vVoid]++C).length:Nat)⟩])])) (m.more (4+s+1) ([b]++l) [] (thO 1 l++[⟨0,[vVoid,valO 1 l]⟩]) (([vVoid]++C)++[P]) ([]++[⟨5,prmE carB [refX (nwL k)],[],0⟩,tdE (refX (nwL k)) (env++[⟨nwL k,(m.cells.length+([vVoid]++C).length:Nat)⟩])])):=
    z0r hr' (by simp;omega) (by simp) (by simp;omega) (by simp;omega) (by simp) he (zag (by simp) (by omega) (by simp;omega))
   have a6:To (m.more (4+s+1) ([b]++l) [] (thO 1 l++[⟨0,[vVoid,valO 1 l]⟩]) (([vVoid]++C)++[P]) ([⟨5,prmE carB [refX (nwL k)],[],0⟩]++[tdE (refX (nwL k)) (env++[⟨nwL k,(m.cells.length+([vVoid]++C).length:Nat)⟩])])) (m.more (4+s+2) ([b]++l) ([]++[P]) (thO 1 l++[⟨0,[vVoid,valO 1 l]⟩]) (([vVoid]++C)++[P]) [⟨5,prmE carB [refX (nwL k)],[],0⟩]):=
    z0r hr' (by simp;omega) (by simp) (by simp;omega) (by simp;omega) (by simp) he (zlz (k:=m.cells.length+([vVoid]++C).length) (z9d _ _ _) (by rw [←List.append_assoc,←zla];exact List.getElem?_concat_length) (by omega) (by simp;omega))
   have a7:To (m.more (4+s+2) ([b]++l) ([]++[P]) (thO 1 l++[⟨0,[vVoid,valO 1 l]⟩]) (([vVoid]++C)++[P]) ([]++[⟨5,prmE carB [refX (nwL k)],[],0⟩])) (m.more (4+s+2) ([b]++l) ([]++[vVoid]) (thO 1 l++[⟨0,[vVoid,valO 1 l]⟩]) (([vVoid]++C)++[P]) []):=
    z0r hr' (by simp;omega) (by simp) (by simp;omega) (by simp;omega) (by simp) he (zaj (w:=[]) (v:=[P]) (l:=[refX (nwL k)]) rfl (zbc (x:=vVoid) (by decide) he (thO 1 l++[⟨0,[vVoid,valO 1 l]⟩]) (by rw [←List.append_assoc,hP];exact zzm)))
   simp only [List.append_nil,List.nil_append,List.cons_append] at a0 a1 a2 a3 a4 a5 a6 a7 g3 ⊢
   exact a0.trans (a1.trans (a2.trans (a3.trans (g3.trans (a4.trans (a5.trans (a6.trans a7)))))))
  ·simp only [stE,if_neg h1] at hs
   simp only [ordN,if_neg h0,if_neg h1,valO,thO,stE,zlc]
   obtain ⟨B,hB⟩:∃B,B=ifE (refX (nwL k)) (ordN h l (k+1)) (numE 1):=⟨_,rfl⟩
   obtain ⟨s,C,g1,g2,g3⟩:=zm4 h l (k+1) (m.more 5 [b] [] [] [vVoid] []) (env++[⟨nwL k,(m.cells.length+0:Nat)⟩]) he (z8q (r:=20 * l.length+20) (d:=20) hr' (by simp) (by simp) (by simp) (by simp) (by simp)) (by simp;omega) (by show m.steps+5+_≤m.most;omega)
   rw [←hB]
   rw [z23,z3n] at g3
   refine ⟨5+s,[vVoid]++C,by omega,by simp;omega,?_⟩
   rw [z3l]
   have a1:To (m.more 0 [] [] [] [] ([]++[tdE (letX (nwL k) (wrE b) B) env])) (m.more 1 [] [] [] [] ([]++[⟨6,letX (nwL k) (wrE b) B,env,0⟩,tdE (wrE b) env])):=
    z0r hr' (by simp) (by simp) (by simp) (by simp) (by simp) he (zii (by omega) (by omega))
   have a2:To (m.more 1 [] [] [] [] ([⟨6,letX (nwL k) (wrE b) B,env,0⟩]++[tdE (wrE b) env])) (m.more 3 ([]++[b]) ([]++[vVoid]) [] [] [⟨6,letX (nwL k) (wrE b) B,env,0⟩]):=
    zhk b hr' (by simp) (by simp) (by simp) (by simp) (by simp) he (by omega) (by omega)
   have a3:To (m.more 3 [b] ([]++[vVoid]) [] [] ([]++[⟨6,letX (nwL k) (wrE b) B,env,0⟩])) (m.more 3 [b] [] [] ([]++[vVoid]) ([]++[tdE B (env++[⟨nwL k,(m.cells.length+0:Nat)⟩])])):=
    z0r hr' (by simp) (by simp) (by simp) (by simp) (by simp) he (zaz (by omega))
   have a4:To (m.more 3 [b] [] [] [vVoid] ([]++[tdE B (env++[⟨nwL k,(m.cells.length+0:Nat)⟩])])) (m.more 4 [b] [] [] [vVoid] ([]++[⟨3,B,env++[⟨nwL k,(m.cells.length+0:Nat)⟩],0⟩,tdE (refX (nwL k)) (env++[⟨nwL k,(m.cells.length+0:Nat)⟩])])):=by
    rw [hB]
    exact z0r hr' (by simp) (by simp) (by simp) (by simp) (by simp) he (Z17 (by omega) (by simp;omega))
   have a5:To (m.more 4 [b] [] [] [vVoid] ([⟨3,B,env++[⟨nwL k,(m.cells.length+0:Nat)⟩],0⟩]++[tdE (refX (nwL k)) (env++[⟨nwL k,(m.cells.length+0:Nat)⟩])])) (m.more 5 [b] ([]++[vVoid]) [] [vVoid] [⟨3,B,env++[⟨nwL k,(m.cells.length+0:Nat)⟩],0⟩]):=
    z0r hr' (by simp) (by simp) (by simp) (by simp) (by simp) he (zlz (k:=m.cells.length+0) (z9d _ _ _) (by simp) (by omega) (by simp;omega))
   have a6:To (m.more 5 [b] ([]++[vVoid]) [] [vVoid] ([]++[⟨3,B,env++[⟨nwL k,(m.cells.length+0:Nat)⟩],0⟩])) (m.more 5 [b] [] [] [vVoid] ([]++[tdE (ordN h l (k+1)) (env++[⟨nwL k,(m.cells.length+0:Nat)⟩])])):=by
    rw [hB]
    exact z0r hr' (by simp) (by simp) (by simp) (by simp) (by simp) he (zt1 (by decide))
   simp only [List.append_nil,List.nil_append,List.cons_append] at a1 a2 a3 a4 a5 a6 g3 ⊢
   exact a1.trans (a2.trans (a3.trans (a4.trans (a5.trans (a6.trans g3)))))
theorem Z2y {k:Int} (h:0≤k∧k≤255):z0i (numE k)=true:=by
 have hc:z1r (.mk 1 k [] [])=true:=by
  have:∀n:Fin 256,z1r (.mk 1 (n.1:Int) [] [])=true:=by decide +kernel
  have h2:=this ⟨k.toNat,by omega⟩
  simp only [Int.toNat_of_nonneg h.1] at h2
  exact h2
 unfold z0i
 rw [if_pos (show (numE k).kind=0 from rfl)]
 show (true && true && true && z1r (.mk 1 k [] []))=true
 rw [hc];rfl
theorem Z2r {p:List UInt8} {l:List Xp} (h:z0y p=l.length):z0i (prmE p l)=true:=by
 unfold z0i
 simp [prmE,Xp.kind,Xp.name,Xp.names,Xp.kids,Xp.const,z36,dat0,Dat.kind,Dat.int,Dat.text,Dat.list,z1n,z2d,h]
theorem Z46 (a b c:Xp):z0i (ifE a b c)=true:=by
 unfold z0i
 simp [ifE,Xp.kind,Xp.name,Xp.names,Xp.kids,Xp.const,z36,dat0,Dat.kind,Dat.int,Dat.text,Dat.list,z1n,z2d]
theorem zuw {k:Int} (h:0≤k∧k≤255):(numE k).okF true:=
 (Xp.okF_eq _).2 ⟨z9f (Z2y h) (by show (0:Int)≠4;decide),fun x hx=>by cases hx⟩
theorem zp4 {p:List UInt8} {l:List Xp} (h:z0y p=l.length) (hl:∀x∈l,x.okF true):(prmE p l).okF true:=
 (Xp.okF_eq _).2 ⟨z9f (Z2r h) (by show (7:Int)≠4;decide),hl⟩
theorem wr_ok (b:UInt8):(wrE b).okF true:=zp4 (by show z0y wB=((1:Nat):Int);decide +kernel) fun x hx=>by
 obtain rfl:=List.mem_singleton.1 hx
 have:=b.toNat_lt
 exact zuw (by omega)
theorem Z0w (h:Nat):∀l,(ordE h l).okF true
 | []=>zuw (by decide)
 | b::l=>by
  have h1:=wr_ok b
  have h2:=Z0w h l
  have h12:∀x∈[wrE b,ordE h l],x.okF true:=fun x hx=>by
   rcases List.mem_cons.1 hx with rfl | hx
   ·exact h1
   ·obtain rfl:=List.mem_singleton.1 hx;exact h2
  simp only [ordE]
  split
  ·exact zp4 (by show z0y eqB=(2:Nat);decide +kernel) h12
  ·split
   ·refine zp4 (by show z0y carB=(1:Nat);decide +kernel) fun x hx=>?_
    obtain rfl:=List.mem_singleton.1 hx
    exact zp4 (by show z0y consB=(2:Nat);decide +kernel) h12
   ·refine (Xp.okF_eq _).2 ⟨z9f (Z46 _ _ _) (by show (3:Int)≠4;decide),fun x hx=>?_⟩
    have hx':x∈[wrE b,ordE h l,numE 1]:=hx
    simp only [List.mem_cons,List.not_mem_nil,or_false] at hx'
    rcases hx' with rfl | rfl | rfl
    ·exact h1
    ·exact h2
    ·exact zuw (by decide)
theorem Z43 (b:UInt8):(wrE b).size=2∧(wrE b).dep=2∧(wrE b).any badK=false∧(wrE b).fr []=[]:=by
 refine ⟨?_,?_,?_,?_⟩<;>rfl
theorem zb7 (h:Nat):∀l:List UInt8,(ordE h l).size≤4 * l.length+1∧(ordE h l).dep≤2 * l.length+2∧(ordE h l).any badK=false∧(ordE h l).fr []=[]∧∀s∈(ordE h l).note,s.head?≠some 110
 | []=>⟨by show (1:Nat)≤_;omega,by show (1:Nat)≤_;omega,rfl,rfl,fun s hs=>by
   have hs':s∈[([]:List UInt8)]:=hs
   obtain rfl:=List.mem_singleton.1 hs';decide⟩
 | b::l=>by
  obtain ⟨g1,g2,g3,g4,g5⟩:=zb7 h l
  obtain ⟨w1,w2,w3,w4⟩:=Z43 b
  have wn:∀s∈(wrE b).note,s.head?≠some 110:=fun s hs=>by
   have hs':s∈[wB,[]]:=hs
   simp only [List.mem_cons,List.not_mem_nil,or_false] at hs'
   rcases hs' with rfl | rfl<;>decide
  simp only [ordE,zlc]
  by_cases h0:h=0
  ·simp only [if_pos h0]
   refine ⟨?_,?_,?_,?_,?_⟩
   ·rw [Xp.size_eq];simp only [prmE,Xp.kids,Xps.size,w1];omega
   ·rw [Xp.dep_eq];simp only [prmE,Xp.kids,Xps.dep,w2];omega
   ·rw [Xp.any_eq];simp only [prmE,Xp.kids,Xp.kind,Xps.any,w3,g3];rfl
   ·show (wrE b).fr []++((ordE h l).fr []++[])=[]
    rw [w4,g4];rfl
   ·intro s hs
    have hs':s∈eqB::([]++((wrE b).note++((ordE h l).note++[]))):=hs
    simp only [List.mem_cons,List.mem_append,List.not_mem_nil,or_false,false_or] at hs'
    rcases hs' with rfl | hs' | hs'
    ·decide
    ·exact wn s hs'
    ·exact g5 s hs'
  simp only [if_neg h0]
  by_cases h1:h=1
  ·simp only [if_pos h1]
   refine ⟨?_,?_,?_,?_,?_⟩
   ·rw [Xp.size_eq];simp only [prmE,Xp.kids,Xps.size];rw [Xp.size_eq];simp only [Xp.kids,Xps.size,w1];omega
   ·rw [Xp.dep_eq];simp only [prmE,Xp.kids,Xps.dep];rw [Xp.dep_eq];simp only [Xp.kids,Xps.dep,w2];omega
   ·rw [Xp.any_eq];simp only [prmE,Xp.kids,Xp.kind,Xps.any];rw [Xp.any_eq];simp only [Xp.kids,Xp.kind,Xps.any,w3,g3];rfl
   ·show ((wrE b).fr []++((ordE h l).fr []++[]))++[]=[]
    rw [w4,g4];rfl
   ·intro s hs
    have hs':s∈carB::([]++((consB::([]++((wrE b).note++((ordE h l).note++[]))))++[])):=hs
    simp only [List.mem_cons,List.mem_append,List.not_mem_nil,or_false,false_or] at hs'
    rcases hs' with rfl | rfl | hs' | hs'
    ·decide
    ·decide
    ·exact wn s hs'
    ·exact g5 s hs'
  ·simp only [if_neg h1]
   refine ⟨?_,?_,?_,?_,?_⟩
   ·rw [Xp.size_eq];simp only [ifE,Xp.kids,Xps.size,w1];show 1+(2+(_+(1+0)))≤_;omega
   ·rw [Xp.dep_eq];simp only [ifE,Xp.kids,Xps.dep,w2];have:(numE 1).dep=1:=rfl;omega
   ·rw [Xp.any_eq];simp only [ifE,Xp.kids,Xp.kind,Xps.any,w3,g3];rfl
   ·show (wrE b).fr []++((ordE h l).fr []++([]++[]))=[]
    rw [w4,g4];rfl
   ·intro s hs
    have hs':s∈[]::([]++((wrE b).note++((ordE h l).note++([[]]++[])))):=hs
    simp only [List.mem_cons,List.mem_append,List.not_mem_nil,or_false,false_or] at hs'
    rcases hs' with rfl | hs' | hs' | rfl
    ·decide
    ·exact wn s hs'
    ·exact g5 s hs'
    ·decide
theorem Z13 (h:Nat):∀l,stE h l≤4 * l.length+1
 | []=>Nat.le_refl _
 | b::l=>by
  have:=Z13 h l
  simp only [stE,zlc]
  split<;>omega
theorem zwj (h:Nat) {l:List UInt8} (hl:l.length≤24):((ordE h l).chk true 0 0).2=0:=by
 have hf:=zb7 h l
 have:=Xp.chk_of (ordE h l) (Z0w h l) 0 0 (by omega) (by omega)
 rw [this]
theorem zri (h:Nat) (l:List UInt8):namX (ordE h l)=ordN h l 0:=by
 refine zm6 (fun i hi=>?_) h l 0
 exact (zb7 h l).2.2.2.2 _ hi rfl
theorem zwg {e:Xp} {N:Nat} {m':AX} (hc:(e.chk false 0 0).2=0) (hf:e.fr []=[]) (hN:N≤1000000) (h:To (AX.first e [] N) m') (he:m'.e=0) (ht:m'.todo=[]) {v:VX} (hv:m'.vals[0]?=some v):∃M,runA M e [] (N:Int)=some ⟨0,m'.out,(tellV m'.h v).1,(tellV m'.h v).2,m'.steps⟩:=by
 obtain ⟨k,hk⟩:=h
 refine ⟨k,?_⟩
 unfold runA
 rw [if_neg (by omega),if_neg (by rintro (h | h);exact h hc;exact h hf),Int.toNat_natCast]
 have h1:AX.go k (AX.first e [] N)=AX.go 0 m':=go_nx k 0 _ _ hk
 rw [h1,zti,if_pos (.inr (by rw [ht];rfl))]
 show AX.told m'=_
 unfold AX.told
 rw [if_pos he,hv,he]
 rfl
theorem Z1s (h:Nat) {l:List UInt8} (hl:l.length≤24) (hok:((ordN h l 0).chk false 0 0).2=0) (hfr:(ordN h l 0).fr []=[]) :
  ∃M p,runA M (ordE h l) [] 1500=some p∧p.err=0∧p.steps≤1500∧∃M' q,runA M' (ordN h l 0) [] ((4 * p.steps+4:Nat):Int)=some q∧Z04 p q:=by
 have hf:=zb7 h l
 have hst:=Z13 h l
 have hth:=zhj h l
 have hr:∀n,Rm (AX.mk [] [] [] [] [] ⟨4,0,[]⟩ 0 n [] [] 0) (20 * l.length+20):=fun n=>by
  unfold Rm;simp;omega
 have h1:To (AX.first (ordE h l) [] 1500) _:=zzo h l (AX.mk [] [] [] [] [] ⟨4,0,[]⟩ 0 1500 [] [] 0) [] rfl (rm_le (hr _) (by omega)) (by simp) (by show 0+stE h l≤1500;omega)
 obtain ⟨M,hM⟩:=zwg (v:=valO h l) ((zae _).2 (zwj h hl)) hf.2.2.2.1 (by omega) h1 rfl rfl rfl
 refine ⟨M,_,hM,rfl,?_,?_⟩
 ·show 0+stE h l≤1500;omega
 obtain ⟨s,C,c1,c2,c3⟩:=zm4 h l 0 (AX.mk [] [] [] [] [] ⟨4,0,[]⟩ 0 (4 * (0+stE h l)+4) [] [] 0) [] rfl (hr _) (by simp;omega) (by show 0+4 * stE h l≤4 * (0+stE h l)+4;omega)
 have h2:To (AX.first (ordN h l 0) [] (4 * (0+stE h l)+4)) _:=c3
 obtain ⟨M',hM'⟩:=zwg (v:=valO h l) hok hfr (by omega) h2 rfl rfl rfl
 exact ⟨M',_,hM',rfl,rfl,rfl,rfl⟩
end Go.Proofs.YtjhlndokjkeilaaGreatDoor.Vc
namespace Go.Proofs.YtjhlndokjkeilaaGreatDoor.Vc
open Go Go.ChangeShapes Go.WideShapes Go.ChangeAt Go.RowKit
theorem zwq:Tryz.prog.underlying 36=some (.slice 5):=by kernel_rfl
theorem Z4l:Tryz.prog.underlying 5=some (.int .u8):=by kernel_rfl
theorem Z4o:Tryz.prog.cellsOf 5=1:=by kernel_rfl
theorem Z01 {H:Type} {enc:TypeId×Value→H} {w:World} {v:Value} {d:DataW H} {p:List MemPlace} {r:Reach} {b:Nat} (hval:Value.okWide Tryz.prog w r b 36 v) (h:DataW.Trod enc Tryz.prog w 0 (fun _=>true) true 36 v d p) :
  ∃l:List UInt8,SlR (whole w) l v∧sumWt (fun _:UInt8=>1) l+1≤Rows.uptoBulk d:=by
 obtain ⟨a,len,cap,rfl⟩:=okWide_slice zwq hval
 obtain ⟨fuel,h⟩:=h
 obtain ⟨l,v,e,h1,h2⟩:=zv4 (α:=UInt8) zwq Z4o (fun j _=>zy2 Z4l j) h
 have:v=.slice a len cap:=by simpa [Value.cells] using e.symm
 subst this
 exact ⟨l,h1,h2⟩
theorem Z22 {H:Type} {enc:TypeId×Value→H} {w:World} {v:Value} {d:DataW H} {p:List MemPlace} {r:Reach} {b:Nat} (hval:Value.okWide Tryz.prog w r b 3 v) (h:DataW.Trod enc Tryz.prog w 0 (fun _=>true) true 3 v d p) :
  ∃n:Int,v=.int .i64 n∧InI n:=by
 obtain ⟨n,rfl,rfl,rfl,hw⟩:=open_int (k:=.i64) (by kernel_rfl) hval h
 refine ⟨n,rfl,?_⟩
 simpa [Lit.wf,IntKind.min,IntKind.max,IntKind.bits,IntKind.signed,InI] using hw
theorem rem3 (a:Int):∃k:Nat,k < 3∧arI .rem .i64 (arI .add .i64 (arI .rem .i64 a 3) 3) 3=(k:Int):=by
 have h1:=Int.tmod_lt_of_pos a (b:=3) (by omega)
 have h2:=Int.lt_tmod_of_pos a (b:=3) (by omega)
 have h3:arI .add .i64 (arI .rem .i64 a 3) 3=a.tmod 3+3:=by
  show IntKind.i64.wrap (a.tmod 3+3)=_
  exact w64 (by omega) (by omega)
 rw [h3]
 show ∃k:Nat,k < 3∧(a.tmod 3+3).tmod 3=(k:Int)
 have h4:=Int.tmod_nonneg 3 (show 0≤a.tmod 3+3 by omega)
 have h5:=Int.tmod_lt_of_pos (a.tmod 3+3) (b:=3) (by omega)
 exact ⟨((a.tmod 3+3).tmod 3).toNat,by omega,by omega⟩
theorem nilR {α:Type} [Enc α] {S:PH}:SlR (α:=α) S [] (.slice none 0 0):=SlR.mk_iff.2 ⟨Nat.zero_le _,.inl ⟨rfl,rfl⟩⟩
theorem zqo (l:List UInt8) (how:Int) (v:Value) (H:PH) (hv:SlR H l v) (hT:Tab H):Gives Tryz.prog zbh [v,.int .i64 how] H (.bool true):=by
 obtain ⟨lb,lc,rfl⟩:=hv.sl
 have hmx:=hv.max
 simp only [maxLen] at hmx
 refine za7 [.slice lb l.length lc,.int .i64 how] (by kernel_rfl) (by kernel_rfl) ?_
 refine z07 [.bool true] z65 (zk0 H hT) rfl z05 fun H1 l1=>?_
 simp only [List.cons_append,List.nil_append]
 refine ⟨fun g=>?_,fun g=>?_⟩
 ·exact z07 [.bool true] z65 (zk0 H1 (hT.le l1)) rfl z05 fun H2 l2=>⟨rfl,PH.le_trans l1 l2⟩
 have hl24:l.length≤24:=by
  simp [ev0,ev,evV,List.cons_append,List.nil_append,List.getD_cons_zero,List.getD_cons_succ,List.map_cons,List.map_nil,iOf,bOf,sOf,pOf,slLen,z04,cmpI,arI,Value.ite_bool,z01,z03,z00,z02] at g;omega
 refine z07 [.int .i64 0,txt [],.slice none 0 0,.int .i64 1,.int .i64 0,txt [],.slice none 0 0,.slice none 0 0] z13 (z3z 0 H1) rfl z05 fun H2 l2=>?_
 simp only [List.cons_append,List.nil_append]
 obtain ⟨h,hh3,ej⟩:=rem3 how
 refine ⟨fun n vs H'=>∃w0 w1 w2 w3 w4 w5 w6 w7,vs=[.int .i64 ((n:Int) - 1),w0,w1,w2,w3,w4,w5,w6,w7]∧n≤l.length∧PH.le H H'∧(ordE h (l.drop n)).Rep H' [w0,w1,w2,w3,w4,w5,w6,w7],⟨l.length,.int .i64 0,txt [],.slice none 0 0,.int .i64 1,.int .i64 0,txt [],.slice none 0 0,.slice none 0 0,?_,Nat.le_refl _,PH.le_trans l1 l2,?_⟩,?_⟩
 ·simp only [ev0,ev,evV,List.cons_append,List.nil_append,List.getD_cons_zero,List.getD_cons_succ,List.map_cons,List.map_nil,iOf,bOf,sOf,pOf,slLen,z04,cmpI,arI,Value.ite_bool,z01,z03,z00,z02];rw [w64 (by omega) (by omega)]
 ·rw [List.drop_length];exact z83 (by decide)
 rintro n vs H3 _ ⟨w0,w1,w2,w3,w4,w5,w6,w7,rfl,hn,l3,r3⟩
 simp only [List.cons_append,List.nil_append]
 refine ⟨fun g1=>?_,fun g1=>?_⟩
 ·simp only [ev0,ev,evV,List.cons_append,List.nil_append,List.getD_cons_zero,List.getD_cons_succ,List.map_cons,List.map_nil,iOf,bOf,sOf,pOf,slLen,z04,cmpI,arI,Value.ite_bool,z01,z03,z00,z02,zdt] at g1
  obtain ⟨i,rfl⟩:∃i,n=i+1:=⟨n - 1,by omega⟩
  have hi1:(((i+1:Nat):Int) - 1)=(i:Int):=by omega
  simp only [hi1]
  obtain ⟨b,hb⟩:∃b,l[i]?=some b:=⟨_,zge (show i < l.length by omega)⟩
  obtain ⟨q1,_,ces,q2,q3⟩:=(SlR.le l3 hv).get hb
  obtain ⟨_,_,rfl,⟨rfl,_⟩,rfl⟩:=q2
  have hd:l.drop i=b::l.drop (i+1):=by
   obtain ⟨hl,hv⟩:=List.getElem?_eq_some_iff.1 hb
   rw [List.drop_eq_getElem_cons hl,hv]
  have hb8:=b.toNat_lt
  have hwb:IntKind.i64.wrap (b.toNat:Int)=(b.toNat:Int):=w64 (by omega) (by omega)
  refine ⟨fun vs K=>∃u0 u1 u2 u3 u4 u5 u6 u7,vs=[u0,u1,u2,u3,u4,u5,u6,u7]∧PH.le H K∧(ordE h (l.drop i)).Rep K [u0,u1,u2,u3,u4,u5,u6,u7],?_,?_⟩
  ·rintro vs K _ ⟨u0,u1,u2,u3,u4,u5,u6,u7,rfl,lK,rK⟩
   refine ⟨_,z06,i,by omega,u0,u1,u2,u3,u4,u5,u6,u7,?_,by omega,lK,rK⟩
   simp only [ev0,ev,evV,List.cons_append,List.nil_append,List.getD_cons_zero,List.getD_cons_succ,List.map_cons,List.map_nil,iOf,bOf,sOf,pOf,slLen,z04,cmpI,arI,Value.ite_bool,z01,z03,z00,z02];rw [w64 (by omega) (by omega)]
  refine ⟨fun _=>?_,[.int .u8 (b.toNat:Int)],rfl,by simp only [ev0,ev,evV,List.cons_append,List.nil_append,List.getD_cons_zero,List.getD_cons_succ,List.map_cons,List.map_nil,iOf,bOf,sOf,pOf,slLen,z04,cmpI,arI,Value.ite_bool,z01,z03,z00,z02];exact q3,?_⟩
  ·simp only [Chk.holds,ev0,ev,evV,List.cons_append,List.nil_append,List.getD_cons_zero,List.getD_cons_succ,List.map_cons,List.map_nil,iOf,bOf,sOf,pOf,slLen,z04,cmpI,arI,Value.ite_bool,z01,z03,z00,z02];exact ⟨q1,by omega,by omega⟩
  simp only [List.cons_append,List.nil_append]
  refine z07 [.int .i64 0,txt [],.slice none 0 0,.int .i64 1,.int .i64 (b.toNat:Int),txt [],.slice none 0 0,.slice none 0 0] z13 (by simp only [ev0,ev,evV,List.cons_append,List.nil_append,List.getD_cons_zero,List.getD_cons_succ,List.map_cons,List.map_nil,iOf,bOf,sOf,pOf,slLen,z04,cmpI,arI,Value.ite_bool,z01,z03,z00,z02];rw [hwb];exact z3z (b.toNat:Int) H3) rfl z05 fun H4 l4=>?_
  simp only [List.cons_append,List.nil_append]
  refine z4m (S:=H4) (l:=[numE (b.toNat:Int)]) [.agg #[.int .i64 0,txt [],.slice none 0 0,.int .i64 1,.int .i64 (b.toNat:Int),txt [],.slice none 0 0,.slice none 0 0]] (PH.le_refl _) rfl (by omega) (by omega) (by kernel_rfl) (.cons (z83 (by unfold InI;omega)) .nil) fun S5 H5 b5 c5 l45 l5 l45' s5=>?_
  simp only [List.cons_append,List.nil_append]
  refine z07 [.int .i64 7,txt wB,.slice none 0 0,.int .i64 0,.int .i64 0,txt [],.slice none 0 0,.slice b5 1 c5] z1g (z49 wB b5 1 c5 H5) rfl z05 fun H6 l6=>?_
  simp only [List.cons_append,List.nil_append]
  have l36:PH.le H3 H6:=PH.le_trans l4 (PH.le_trans l45' l6)
  have l06:PH.le H H6:=PH.le_trans l3 l36
  have rw6:(wrE b).Rep H6 [.int .i64 7,txt wB,.slice none 0 0,.int .i64 0,.int .i64 0,txt [],.slice none 0 0,.slice b5 1 c5]:=zaq (by decide) (s5.le (PH.le_trans l5 l6))
  have r6:(ordE h (l.drop (i+1))).Rep H6 [w0,w1,w2,w3,w4,w5,w6,w7]:=Xp.Rep.le l36 _ r3
  refine ⟨fun g2=>?_,fun g2=>?_⟩
  ·have g2':(arI .rem .i64 (arI .add .i64 (arI .rem .i64 how 3) 3) 3 == 0)=true:=g2
   rw [ej] at g2'
   have h0:h=0:=by simpa using g2'
   refine z4m (S:=H6) (l:=[wrE b,ordE h (l.drop (i+1))]) [.agg #[.int .i64 7,txt wB,.slice none 0 0,.int .i64 0,.int .i64 0,txt [],.slice none 0 0,.slice b5 1 c5],.agg #[w0,w1,w2,w3,w4,w5,w6,w7]] (PH.le_refl _) rfl (by omega) (by omega) (by kernel_rfl) (.cons rw6 (.cons r6 .nil)) fun S7 H7 b7 c7 l67 l7 l67' s7=>?_
   simp only [List.cons_append,List.nil_append]
   refine z07 [.int .i64 7,txt eqB,.slice none 0 0,.int .i64 0,.int .i64 0,txt [],.slice none 0 0,.slice b7 2 c7] z1g (z49 eqB b7 2 c7 H7) rfl z05 fun H8 l8=>?_
   simp only [List.cons_append,List.nil_append]
   refine ⟨_,z06,.int .i64 7,txt eqB,.slice none 0 0,.int .i64 0,.int .i64 0,txt [],.slice none 0 0,.slice b7 2 c7,by simp only [ev0,ev,evV,List.cons_append,List.nil_append,List.getD_cons_zero,List.getD_cons_succ,List.map_cons,List.map_nil,iOf,bOf,sOf,pOf,slLen,z04,cmpI,arI,Value.ite_bool,z01,z03,z00,z02],PH.le_trans l06 (PH.le_trans l67' l8),?_⟩
   rw [hd,ordE,if_pos h0]
   exact zaq (by decide) (s7.le (PH.le_trans l7 l8))
  have h0:h≠0:=by
   have g2':(arI .rem .i64 (arI .add .i64 (arI .rem .i64 how 3) 3) 3 == 0)=false:=g2
   rw [ej] at g2'
   intro h;subst h;simp at g2'
  refine ⟨fun g3=>?_,fun g3=>?_⟩
  ·have g3':(arI .rem .i64 (arI .add .i64 (arI .rem .i64 how 3) 3) 3 == 1)=true:=g3
   rw [ej] at g3'
   have h1:h=1:=by have:=of_decide_eq_true (by simpa using g3':decide ((h:Int)=1)=true);omega
   refine z4m (S:=H6) (l:=[wrE b,ordE h (l.drop (i+1))]) [.agg #[.int .i64 7,txt wB,.slice none 0 0,.int .i64 0,.int .i64 0,txt [],.slice none 0 0,.slice b5 1 c5],.agg #[w0,w1,w2,w3,w4,w5,w6,w7]] (PH.le_refl _) rfl (by omega) (by omega) (by kernel_rfl) (.cons rw6 (.cons r6 .nil)) fun S7 H7 b7 c7 l67 l7 l67' s7=>?_
   simp only [List.cons_append,List.nil_append]
   refine z07 [.int .i64 7,txt consB,.slice none 0 0,.int .i64 0,.int .i64 0,txt [],.slice none 0 0,.slice b7 2 c7] z1g (z49 consB b7 2 c7 H7) rfl z05 fun H8 l8=>?_
   simp only [List.cons_append,List.nil_append]
   have r8:(prmE consB [wrE b,ordE h (l.drop (i+1))]).Rep H8 [.int .i64 7,txt consB,.slice none 0 0,.int .i64 0,.int .i64 0,txt [],.slice none 0 0,.slice b7 2 c7]:=zaq (by decide) (s7.le (PH.le_trans l7 l8))
   refine z4m (S:=H8) (l:=[prmE consB [wrE b,ordE h (l.drop (i+1))]]) [.agg #[.int .i64 7,txt consB,.slice none 0 0,.int .i64 0,.int .i64 0,txt [],.slice none 0 0,.slice b7 2 c7]] (PH.le_refl _) rfl (by omega) (by omega) (by kernel_rfl) (.cons r8 .nil) fun S9 H9 b9 c9 l89 l9 l89' s9=>?_
   simp only [List.cons_append,List.nil_append]
   refine z07 [.int .i64 7,txt carB,.slice none 0 0,.int .i64 0,.int .i64 0,txt [],.slice none 0 0,.slice b9 1 c9] z1g (z49 carB b9 1 c9 H9) rfl z05 fun H10 l10=>?_
   simp only [List.cons_append,List.nil_append]
   refine ⟨_,z06,.int .i64 7,txt carB,.slice none 0 0,.int .i64 0,.int .i64 0,txt [],.slice none 0 0,.slice b9 1 c9,by simp only [ev0,ev,evV,List.cons_append,List.nil_append,List.getD_cons_zero,List.getD_cons_succ,List.map_cons,List.map_nil,iOf,bOf,sOf,pOf,slLen,z04,cmpI,arI,Value.ite_bool,z01,z03,z00,z02],PH.le_trans l06 (PH.le_trans l67' (PH.le_trans l8 (PH.le_trans l89' l10))),?_⟩
   rw [hd,ordE,if_neg h0,if_pos h1]
   exact zaq (by decide) (s9.le (PH.le_trans l9 l10))
  have h1:h≠1:=by
   have g3':(arI .rem .i64 (arI .add .i64 (arI .rem .i64 how 3) 3) 3 == 1)=false:=g3
   rw [ej] at g3'
   intro h;subst h;simp at g3'
  refine ⟨fun _=>?_,fun g4=>?_⟩
  rotate_left
  ·have g4':(arI .rem .i64 (arI .add .i64 (arI .rem .i64 how 3) 3) 3 == 2)=false:=g4
   rw [ej,show h=2 by omega] at g4'
   simp at g4'
  refine z07 [.int .i64 0,txt [],.slice none 0 0,.int .i64 1,.int .i64 1,txt [],.slice none 0 0,.slice none 0 0] z13 (z3z 1 H6) rfl z05 fun H7 l7=>?_
  simp only [List.cons_append,List.nil_append]
  refine z4m (S:=H7) (l:=[wrE b,ordE h (l.drop (i+1)),numE 1]) [.agg #[.int .i64 7,txt wB,.slice none 0 0,.int .i64 0,.int .i64 0,txt [],.slice none 0 0,.slice b5 1 c5],.agg #[w0,w1,w2,w3,w4,w5,w6,w7],.agg #[.int .i64 0,txt [],.slice none 0 0,.int .i64 1,.int .i64 1,txt [],.slice none 0 0,.slice none 0 0]] (PH.le_refl _) rfl (by omega) (by omega) (by kernel_rfl) (.cons (Xp.Rep.le l7 _ rw6) (.cons (Xp.Rep.le l7 _ r6) (.cons (z83 (by decide)) .nil))) fun S8 H8 b8 c8 l78 l8 l78' s8=>?_
  simp only [List.cons_append,List.nil_append]
  refine ⟨_,z06,.int .i64 3,txt [],.slice none 0 0,.int .i64 0,.int .i64 0,txt [],.slice none 0 0,.slice b8 3 c8,rfl,PH.le_trans l06 (PH.le_trans l7 l78'),?_⟩
  rw [hd,ordE,if_neg h0,if_neg h1]
  exact Xp.Rep_iff.2 ⟨.slice none 0 0,.slice none 0 0,_,rfl,(show InI 3 by decide),by simp [ifE,Xp.name],nilR,z2u (k:=0) (n:=0) (t:=[]) (by decide) (by decide) (by decide),s8.le l8⟩
 simp only [ev0,ev,evV,List.cons_append,List.nil_append,List.getD_cons_zero,List.getD_cons_succ,List.map_cons,List.map_nil,iOf,bOf,sOf,pOf,slLen,z04,cmpI,arI,Value.ite_bool,z01,z03,z00,z02,zdf] at g1
 obtain rfl:n=0:=by omega
 rw [List.drop_zero] at r3
 have hf:=zb7 h l
 have hcT:=zwj h hl24
 have hc:=(zae _).2 hcT
 refine z08 zh4 (zjh (ordE h l) _ H3 (hT.le l3) r3) ?_
 rintro x H4 ⟨l4,es4,hl4,rfl,r4⟩
 have l04:=PH.le_trans l3 l4
 have hgood:¬(((ordE h l).chk true 0 0).2≠0∨(ordE h l).any badK=true):=by
  rintro (h | h)
  ·exact h hcT
  ·rw [hf.2.2.1] at h;cases h
 have hax:=zlj hgood
 match es4,hl4 with
 | [u0,u1,u2,u3,u4,u5,u6,u7],_=>
 refine ⟨_,[u0,u1,u2,u3,u4,u5,u6,u7,.int .i64 (anfX (ordE h l)).2],rfl,?_,rfl,z05,?_⟩
 ·have:=z7z (us:=[.int .i64]) (F:=[.int .i64 (anfX (ordE h l)).2]) (Xp.Rep.tags r4) rfl
  exact this
 simp only [List.cons_append,List.nil_append]
 by_cases hok:((namX (ordE h l)).chk true 0 0).2=0
 ·rw [if_pos hok] at hax
  have h2:(anfX (ordE h l)).2=0:=by rw [hax]
  have h1:(anfX (ordE h l)).1=namX (ordE h l):=by rw [hax]
  refine ⟨fun g2=>by simp [ev0,ev,evV,List.cons_append,List.nil_append,List.getD_cons_zero,List.getD_cons_succ,List.map_cons,List.map_nil,iOf,bOf,sOf,pOf,slLen,z04,cmpI,arI,Value.ite_bool,z01,z03,z00,z02,h2] at g2,fun _=>?_⟩
  refine ⟨fun vs H'=>vs=[.bool true]∧PH.le H H',?_,?_⟩
  ·rintro vs K _ ⟨rfl,l⟩;exact ⟨rfl,l⟩
  refine z07 [.bool true] zgu (zu7 (ordE h l) _ _ H4 (Xp.Rep.le l4 _ r3) r4) rfl z05 fun H5 l5=>⟨fun _=>?_,fun g2=>by simp [ev0,ev,evV,List.cons_append,List.nil_append,List.getD_cons_zero,List.getD_cons_succ,List.map_cons,List.map_nil,iOf,bOf,sOf,pOf,slLen,z04,cmpI,arI,Value.ite_bool,z01,z03,z00,z02] at g2⟩
  simp only [List.cons_append,List.nil_append]
  rw [h1] at r4
  have hfr:(namX (ordE h l)).fr []=[]:=by
   rw [List.eq_nil_iff_forall_not_mem]
   intro s hs
   rw [show namX (ordE h l)=((ordE h l).nam (ordE h l).note 0).1 from rfl,zuc (fun _ hs=>hs) 0,hf.2.2.2.1] at hs
   cases hs
  have hokF:=(zae _).2 hok
  rw [zri] at hfr hokF
  obtain ⟨M,p,hp,hpe,hps,M',q,hq,hal⟩:=Z1s h hl24 hokF hfr
  rw [←zri] at hq
  refine z07 [.bool true] z6d (znb (ordE h l) (namX (ordE h l)) _ _ H5 (Xp.Rep.le (PH.le_trans l4 l5) _ r3) (Xp.Rep.le l5 _ r4) hc hf.2.2.2.1 [] M p hp (by rw [hpe];decide) hps (.inr (.inr ⟨M',q,hq,hal⟩))) rfl z05 fun H6 l6=>?_
  exact ⟨_,z06,by simp [ev0,ev,evV,List.cons_append,List.nil_append,List.getD_cons_zero,List.getD_cons_succ,List.map_cons,List.map_nil,iOf,bOf,sOf,pOf,slLen,z04,cmpI,arI,Value.ite_bool,z01,z03,z00,z02],PH.le_trans l04 (PH.le_trans l5 l6)⟩
 ·rw [if_neg hok] at hax
  have h2:(anfX (ordE h l)).2=101:=by rw [hax]
  have hns:z75 (ordE h l)=false:=Bool.eq_false_iff.2 fun h=>hok (zrd hcT h)
  refine ⟨fun _=>?_,fun g2=>by simp [ev0,ev,evV,List.cons_append,List.nil_append,List.getD_cons_zero,List.getD_cons_succ,List.map_cons,List.map_nil,iOf,bOf,sOf,pOf,slLen,z04,cmpI,arI,Value.ite_bool,z01,z03,z00,z02,h2] at g2⟩
  refine ⟨fun vs H'=>vs=[.bool true]∧PH.le H H',?_,fun _=>?_,fun g2=>by simp [ev0,ev,evV,List.cons_append,List.nil_append,List.getD_cons_zero,List.getD_cons_succ,List.map_cons,List.map_nil,iOf,bOf,sOf,pOf,slLen,z04,cmpI,arI,Value.ite_bool,z01,z03,z00,z02,h2] at g2⟩
  ·rintro vs K _ ⟨rfl,l⟩;exact ⟨rfl,l⟩
  refine z07 [.bool (z75 (ordE h l))] z6p (zju (ordE h l) _ H4 (Xp.Rep.le l4 _ r3) (by omega)) rfl z05 fun H5 l5=>⟨_,z06,?_,PH.le_trans l04 l5⟩
  simp [ev0,ev,evV,List.cons_append,List.nil_append,List.getD_cons_zero,List.getD_cons_succ,List.map_cons,List.map_nil,iOf,bOf,sOf,pOf,slLen,z04,cmpI,arI,Value.ite_bool,z01,z03,z00,z02,hns]
end Go.Proofs.YtjhlndokjkeilaaGreatDoor.Vc
