import Derived.Test.YtfkclejklgoccaaGreatPl
set_option linter.unusedSimpArgs false
set_option linter.unusedVariables false
set_option maxRecDepth 100000
set_option maxHeartbeats 4000000
namespace Go.Proofs.YtfkclejklgoccaaGreat.Vc
open Go
section
variable {P:Program}{D:Prot}{H0:PH}{w0:World}{X:List PanicEntry→PH→Prop}
theorem Zk0{m:Nat}{o:Oper}{a:Act}{w:World}{K K':Act→World→Prop}{Q Q':Exit→Act→World→Prop}(hK:∀a w,K a w→K' a w)(hP:∀ch a w,Q (.panic ch) a w→Q' (.panic ch) a w)(hO:¬LetsOut Q)(h:o.wp P a w K Q):o.wpIn Fence.wide m P a w K' Q':=by
 refine⟨fun _ _=>trivial,?_⟩;show o.uponIn _ _ _ _ _ _ ((o.semAt none a.eval).run P w);rw[Oper.semAt_none];unfold Oper.wp at h;generalize(execOp a.eval o).run P w=res at h⊢;cases res with
 |ok x w'=>
  cases x
  case enter f args=>
   refine⟨fun h=>absurd h (by simp[Fence.wide]),callsIn_wide.2 (Calls.mono h fun e w'' he=>?_)⟩;cases e with
   |returned v=>exact hK _ _ he
   |panicked ch=>exact hP _ _ _ he
   |outgrown=>exact absurd he hO
  case row rw args=>
   refine⟨fun h=>absurd h (by simp[Fence.wide]),?_⟩;intro c cs _;obtain⟨v,w1,r,s⟩:=h c cs;exact⟨v,w1,hK _ _ r,stepsIn_wide.2 s⟩
  all_goals first|exact hK _ _ h|exact h.elim
 |halt x w'=>cases x<;>first|exact hP _ _ _ h|exact h
theorem zvp{m:Nat}{ops:Array Oper}{Q Q':Exit→Act→World→Prop}{post:List Oper}(hO:¬LetsOut Q)(hN:∀a w,Q .normal a w→wpListIn Fence.wide m P ops Q' post a w)(hP:∀ch a w,Q (.panic ch) a w→Q' (.panic ch) a w):
  ∀(os:List Oper)(a:Act)(w:World),wpList P ops Q os a w→wpListIn Fence.wide m P ops Q' (os++post) a w
 | [],a,w,h=>hN a w h
 |o::os,a,w,h=>by
  rw[List.cons_append];unfold wpList at h;unfold wpListIn;split at h
  .rename_i hw;rw[qj hw];rcases h with h|h
   .exact Zk0 (fun a w h=>zvp hO hN hP os a w h) hP hO h
   .exact absurd h.2 hO
  .rename_i hw;rw[qc hw];exact⟨fun _ _=>trivial,zvp hO hN hP os _ w h⟩
theorem Ze7{m:Nat}{id:Nat}{ops:Array Oper}{pre post:List Oper}{st:St}{E:List Value}{r:Nat→Nat}{H:PH}{a:Act}{w:World}{L:LK}{K:St→List Value→PH→LK→Prop}{Q:Exit→Act→World→Prop}(hs:ops.toList=pre++post)(hm:∀o∈pre,D.may o)
  (hR:Rel D H0 w0 st E r H a w) (hden:den P X (z5r P [] ops 400 pre st) E H L K) (hK:∀st' F r' H' a' w',Rel D H0 w0 st' (E++F) r' H' a' w'→K st' (E++F) H' L→wpListIn Fence.wide m P ops Q post a' w')
  (hX:∀ch a' w',PanOf H0 w0 X ch w'→D.ok a'→Q (.panic ch) a' w'):(Code.region id ops false).wpIn Fence.wide m P Q a w:=by
 refine wpIn_region_list ?_;rw[hs];refine zvp (Q:=QX D H0 w0 X fun a w=>wpListIn Fence.wide m P ops Q post a w) zw6 (fun a w h=>h) (fun ch a w h=>hX ch a w h.1 h.2) pre a w ?_;exact zqi 400 pre hm st E r H a w _ hR hden (fun st' F r' H' a' w' _ h2 h3=>hK st' F r' H' a' w' h2 h3) fun ch a' w' h1 h2=>⟨h1,h2⟩
theorem zvo{m:Nat}{c:Code}{st:St}{E:List Value}{r:Nat→Nat}{H:PH}{a:Act}{w:World}{L:LK}{K:Ex×St→List Value→PH→LK→Prop}{Q:Exit→Act→World→Prop}(hm:∀o∈z5x c,D.may o)
  (hR:Rel D H0 w0 st E r H a w) (hden:den P X (execC P {} c st) E H L K)
  (hK:∀e st' F r' H' L' a' w',Rel D H0 w0 st' (E++F) r' H' a' w'→K (e,st') (E++F) H' L'→Q (exOf e) a' w') (hX:∀ch a' w',PanOf H0 w0 X ch w'→D.ok a'→Q (.panic ch) a' w'):c.wpIn Fence.wide m P Q a w:=
 z87 (ro:=none) (op:={}) rfl (fun _ g ps asg b=>Z73 rfl g ps asg b) (zkh P _) c hm m st E r H a w L K Q hR hden (fun e st' F r' H' L' a' w' h1 _ _ h4=>hK e st' F r' H' L' a' w' h1 h4) hX
end
def bkFr(e3:VE):List Ent:=[⟨[],.sc (.atom 0)⟩,⟨[],.sc (.atom 1)⟩,⟨[],.junk⟩,⟨[],e3⟩]++List.replicate 15 ⟨[],.junk⟩
def bkS0:St:={ fr:=bkFr .junk,bx:=[],nb:=0,nl:=0,tags:=[.any,.ptr],asu:=[],kn:=[],its:=[] }
def bkS1:St:={ fr:=bkFr (.sc (.atom 2)),bx:=[],nb:=0,nl:=0,tags:=[.any,.ptr,.int .i64],asu:=[],kn:=[],its:=[] }
def lastE:Fm (Ex×St)→St
 | .leaf x=>x.2
 | .load _ _ k=>lastE k
 | .chk _ _ k=>lastE k
 |_=>bkS0
def lastS:Fm St→St
 | .leaf x=>x
 | .load _ _ k=>lastS k
 | .chk _ _ k=>lastS k
 |_=>bkS0
noncomputable def bkB:Code×Code×Code×Nat×Array Oper:=match Tryz.f220.body with
 |some (.seq r0 (.block _ (.loop (.seq (.seq r1 _) (.seq (.block _ (.seq (.region i ops _) _)) r2)))))=>(r0,r1,r2,i,ops)
 |_=>(.skip,.skip,.skip,0,#[])
theorem Zn3:Tryz.f220.body=some (.seq bkB.1 (.block 0 (.loop (.seq (.seq bkB.2.1 (.cond (.tmp 8) .skip (.exit 0))) (.seq (.block 1 (.seq (.region bkB.2.2.2.1 bkB.2.2.2.2 false) (.cond (.tmp 18) .ret .skip))) bkB.2.2.1))))):=kr
abbrev Zmc:List Tag:=[.str,.int .i64,.sl,.int .i64,.int .i64,.str,.sl,.int .i64]
noncomputable def bkSA:St:=lastE (execC zP {} bkB.1 bkS0)
noncomputable def bkSB:St:=lastE (execC zP {} bkB.2.1 bkS1)
noncomputable def bkSC:St:=lastS (z5r zP [] bkB.2.2.2.2 400 (bkB.2.2.2.2.toList.take 6) bkS1)
noncomputable def bkSD:St:=lastE (execC zP {} bkB.2.2.1 bkS1)
theorem Znn:execC zP {} bkB.1 bkS0=.load (.atom 1) [.sl] (.leaf (.normal,bkSA)):=kr
theorem Zme:execC zP {} bkB.2.1 bkS1=.leaf (.normal,bkSB):=kr
theorem Zni:z5r zP [] bkB.2.2.2.2 400 (bkB.2.2.2.2.toList.take 6) bkS1=.load (.atom 1) [.sl] (.chk [] (.inSl (.atom 3) (.atom 2)) (.load (.elt (.atom 3) (.atom 2) 8) Zmc (.leaf bkSC))):=kr
theorem Znq:execC zP {} bkB.2.2.1 bkS1=.leaf (.normal,bkSD):=kr
theorem Zn9:bkSA.fr[0]?=some ⟨[],.sc (.atom 0)⟩∧bkSA.fr[1]?=some ⟨[],.sc (.atom 1)⟩∧bkSA.fr[3]?=some ⟨[],.sc (.ar .sub .i64 (.len (.atom 2)) (.int .i64 1))⟩∧bkSA.fr.length=19:=⟨kr,kr,kr,kr⟩
theorem Znk:bkSB.fr[0]?=some ⟨[],.sc (.atom 0)⟩∧bkSB.fr[1]?=some ⟨[],.sc (.atom 1)⟩∧bkSB.fr[3]?=some ⟨[],.sc (.atom 2)⟩∧bkSB.fr[8]?=some ⟨[],.sc (.cmp .geq (.atom 2) (.int .i64 0))⟩∧bkSB.fr.length=19:=⟨kr,kr,kr,kr,kr⟩
theorem Zna:bkSC.fr[0]?=some ⟨[],.sc (.atom 0)⟩∧bkSC.fr[1]?=some ⟨[],.sc (.atom 1)⟩∧bkSC.fr[3]?=some ⟨[],.sc (.atom 2)⟩∧bkSC.fr[11]?=some ⟨[],.sc (.atom 0)⟩∧bkSC.fr[12]?=some ⟨[],.sc (.atom 2)⟩∧bkSC.fr[16]?=some ⟨[],.ag [.atom 4,.atom 5,.atom 6,.atom 7,.atom 8,.atom 9,.atom 10,.atom 11]⟩∧bkSC.fr.length=19:=⟨kr,kr,kr,kr,kr,kr,kr⟩
theorem Zmx:bkSD.fr[0]?=some ⟨[],.sc (.atom 0)⟩∧bkSD.fr[1]?=some ⟨[],.sc (.atom 1)⟩∧bkSD.fr[3]?=some ⟨[],.sc (.ar .sub .i64 (.atom 2) (.int .i64 1))⟩∧bkSD.fr.length=19:=⟨kr,kr,kr,kr⟩
noncomputable def bkO7 : Oper := (bkB.2.2.2.2.toList.drop 6).headD { dst := none, op := .nilCheck (.tmp 0), type := 0, pos := "", after := #[], guard := none }
noncomputable def bkO8 : Oper := (bkB.2.2.2.2.toList.drop 7).headD { dst := none, op := .nilCheck (.tmp 0), type := 0, pos := "", after := #[], guard := none }
noncomputable def bkTs:Array TypeId:=match bkO7.op with
 | .call c=>c.argTypes
 |_=>#[]
theorem Zf0:bkB.2.2.2.2.toList=bkB.2.2.2.2.toList.take 6++[bkO7,bkO8]:=kr
theorem bkO7_op:bkO7.op=.call { callee:=.value (.tmp 11),args:=#[.tmp 12,.tmp 16],argTypes:=bkTs }∧bkO7.dst=some 17∧bkO7.guard=none:=⟨kr,kr,kr⟩
theorem bkO8_op:bkO8.dst=some 18∧bkO8.guard=none:=⟨kr,kr⟩
theorem Z4j{a:Act}{d t:Nat}{v:Value}(h:t≠d):(a.put (some d) v).tmps.getD t undef=a.tmps.getD t undef:=by
 simp only[Act.put,Array.getD_eq_getD_getElem?,Array.getElem?_setIfInBounds,qc (Ne.symm h)]
theorem Z8c{a:Act}{d:Nat}{v:Value}(h:d<a.tmps.size):(a.put (some d) v).tmps.getD d undef=v:=by
 simp[Act.put,Array.getD_eq_getD_getElem?,h]
theorem zas{a:Act}{t:Nat}:a.eval (.tmp t)=a.tmps.getD t undef:=rfl
theorem zt8{e3:VE}{t:Nat}{e:Ent}(he:(bkFr e3)[t]?=some e)(hj:e.v=.junk→False):(t=0∧e=⟨[],.sc (.atom 0)⟩)∨(t=1∧e=⟨[],.sc (.atom 1)⟩)∨(t=3∧e=⟨[],e3⟩):=by
 unfold bkFr at he;rcases t with _|_|_|_|t
 .simp at he;exact .inl ⟨rfl,he.symm⟩
 .simp at he;exact .inr (.inl ⟨rfl,he.symm⟩)
 .simp at he;rw[←he]at hj;exact absurd rfl (fun h=>hj h)
 .simp at he;exact .inr (.inr ⟨rfl,he.symm⟩)
 .simp only[cns,List.getElem?_cons_succ,List.getElem?_replicate]at he;split at he
  .cases he;exact absurd rfl (fun h=>hj h)
  .cases he
theorem Zmp{H:PH}{w:World}{a:Act}{y pv:Value}(hv:Vis H w)(hs:a.tmps.size=19)(hd:a.defers=[])(h0:a.tmps.getD 0 undef=y)(h1:a.tmps.getD 1 undef=pv)(hy:Tag.any.ok y=true)(hp:Tag.ptr.ok pv=true):Rel (.plain []) H w bkS0 [y,pv] (fun _=>0) H a w:=by
 refine { adv:=.refl hv,tags:=by simp[bkS0,z07,hy,hp],size:=hs,df:=hd,wk:=trivial,fr:=?_,bx:=fun _ h=>(by cases h),inj:=fun _ h=>(by cases h),nd:=List.nodup_nil,asu:=fun _ h=>(by cases h),kn:=fun _ h=>(by cases h) };intro t e he hj;have hg:e.g=[]:=by rcases zt8 he hj with⟨_,rfl⟩|⟨_,rfl⟩|⟨_,rfl⟩<;>rfl
 rw[hg];refine⟨fun _=>?_,fun h=>absurd (fun x hx=>by cases hx) h⟩;rcases zt8 he hj with⟨rfl,rfl⟩|⟨rfl,rfl⟩|⟨rfl,rfl⟩
 .rw[h0];rfl
 .rw[h1];rfl
 .exact absurd rfl (fun h=>hj h)
theorem Z0f{H:PH}{w:World}{a:Act}{y pv:Value}{i:Int}(hv:Vis H w)(hs:a.tmps.size=19)(hd:a.defers=[])(h0:a.tmps.getD 0 undef=y)(h1:a.tmps.getD 1 undef=pv)(h3:a.tmps.getD 3 undef=.int .i64 i)(hy:Tag.any.ok y=true)(hp:Tag.ptr.ok pv=true):Rel (.plain []) H w bkS1 [y,pv,.int .i64 i] (fun _=>0) H a w:=by
 refine { adv:=.refl hv,tags:=?_,size:=hs,df:=hd,wk:=trivial,fr:=?_,bx:=fun _ h=>(by cases h),inj:=fun _ h=>(by cases h),nd:=List.nodup_nil,asu:=fun _ h=>(by cases h),kn:=fun _ h=>(by cases h) }
 .show(Tag.any.ok y&&(Tag.ptr.ok pv&&((Tag.int .i64).ok (.int .i64 i)&&true)))=true;rw[hy,hp];rfl
 intro t e he hj;have hg:e.g=[]:=by rcases zt8 he hj with⟨_,rfl⟩|⟨_,rfl⟩|⟨_,rfl⟩<;>rfl
 rw[hg];refine⟨fun _=>?_,fun h=>absurd (fun x hx=>by cases hx) h⟩;rcases zt8 he hj with⟨rfl,rfl⟩|⟨rfl,rfl⟩|⟨rfl,rfl⟩
 .rw[h0];rfl
 .rw[h1];rfl
 .rw[h3];rfl
theorem z3v{D:Prot}{H0:PH}{w0:World}{st:St}{E:List Value}{r:Nat→Nat}{H:PH}{a:Act}{w:World}(hR:Rel D H0 w0 st E r H a w){t:Nat}{ve:VE}(he:st.fr[t]?=some ⟨[],ve⟩)(hj:ve=.junk→False):a.tmps.getD t undef=evV E r ve:=
 (hR.fr t _ he hj).1 fun x hx=>by cases hx
noncomputable def bkT8:TypeId:=match bkO8.op with
 | .unOp _ t _=>t
 |_=>0
theorem Zj2:bkO8.op=.unOp .not bkT8 (.tmp 17):=kr
theorem Ziq{ρ:Operand→Value}{w:World}(h:ρ (.tmp 17)=.bool true):(execOp ρ bkO8).run zP w=.ok (.value (.bool false)) w:=by
 rw[zst,Zj2];simp[execOp,bare,h,Op.unary,Sem.run_bind,Result.andThen]
theorem Ziy{ρ:Operand→Value}{w:World}{l:Nat}{x y:Value}{fn:FuncId}{tmps:Array Value}{asg body:Code}(h11:ρ (.tmp 11)=.func (.yield l) #[] #[])(h12:ρ (.tmp 12)=x)(h16:ρ (.tmp 16)=y)(hy:(Instr.yield l #[x,y]).run zP w=.ok (.round l fn tmps asg body) w):
  (execOp ρ bkO7).run zP w=.ok (.round l fn tmps asg body) w:=by
 rw[zst,bkO7_op.1];simp[execOp,bare,resolve,h11,h12,h16,invoke,go_sem,hy]
theorem SlR.fn{α:Type}[Enc α]{H:PH}{l:List α}{v:Value}(h:SlR H l v):∃f:Nat→List Value,∀i a,l[i]?=some a→CsR H a (f i)∧rowAt H (pOf (eltV v (i:Int) (sz α))) (f i):=by
 have:∀i:Nat,∃cs:List Value,∀a,l[i]?=some a→CsR H a cs∧rowAt H (pOf (eltV v (i:Int) (sz α))) cs:=by
  intro i;cases hi:l[i]? with
  |none=>exact⟨[],fun a h=>by cases h⟩
  |some a=>
   obtain⟨_,_,cs,h1,h2⟩:=h.get hi;exact⟨cs,fun a' h'=>by cases h';exact⟨h1,h2⟩⟩
 exact⟨fun i=>(this i).choose,fun i=>(this i).choose_spec⟩
theorem zr0(l:List InsX)(S:PH)(ad:Option Addr)(sv:Value)(hp:rowAt S ad [sv])(hs:SlR S l sv)(hl:l.length≤40000000)(cells:Nat→List Value)(hc:∀i a,l[i]?=some a→CsR S a (cells i)∧rowAt S (pOf (eltV sv (i:Int) 8)) (cells i)):
  Iter zP (.func (.func 220) #[] #[.pointer ad]) S l.length (fun j=>[vi ((l.length-1-j:Nat):Int),.agg (cells (l.length-1-j)).toArray]):=by
 have hcb:callB zP 220=true:=kr;obtain⟨sb,sc,rfl⟩:=hs.sl;refine⟨_,_,rfl,zkd hcb,fun lr I H W hSH hmono hv hround h0=>(callsIn_wide (n:=0)).1 ?_⟩;refine callsIn_of_wp Tryz.func220 Zn3 trivial ?_;have hnt:Tryz.f220.ntmps=19:=kr;rw[hnt];obtain⟨y,hy⟩:∃y,y=Value.func (.yield lr) #[] #[]:=⟨_,rfl⟩;rw[←hy];have hyt:Tag.any.ok y=true:=by rw[hy];rfl
 refine wpIn_seq ?_;refine zvo (D:=.plain []) (X:=fun _ _=>False) (L:=[]) (K:=fun x E' H' _=>x=(.normal,bkSA)∧H'=H∧E'=[y,.pointer ad,.slice sb l.length sc]) (fun o _=>Prot.plain_may [] o) (Zmp (pv:=.pointer ad) hv sM rfl sM sM hyt rfl) ?_ ?_ (fun ch a' w' h=>by obtain⟨_,_,h⟩:=h;exact h.elim)
 .rw[Znn];exact⟨[_],rfl,z0v hSH hp,rfl,rfl,rfl⟩
 rintro e st' F r' H' L' a1 W1 hR1 ⟨h1,rfl,hE⟩;cases h1;obtain⟨f0,f1,f3,f4⟩:=Zn9;have t0:=z3v hR1 f0 (fun h=>by cases h);have t1:=z3v hR1 f1 (fun h=>by cases h);have t3:=z3v hR1 f3 (fun h=>by cases h);have hsz:=hR1.size;rw[hE]at t0 t1 t3;rw[f4]at hsz;have hadv1:Adv H' W H' W1:=hR1.adv;have hdf1:a1.defers=[]:=hR1.df;show(Code.block 0 _).wpIn _ _ _ _ _ _;refine wpIn_block ?_;refine wpIn_loop (fun a w=>∃(j:Nat)(Hj:PH),j≤l.length∧a.tmps.size=19∧a.defers=[]∧a.tmps.getD 0 undef=y∧a.tmps.getD 1 undef=.pointer ad∧a.tmps.getD 3 undef=.int .i64 ((l.length:Int)-1-j)∧Adv H' W Hj w∧I j Hj) (fun a _=>match a.tmps.getD 3 undef with | .int _ n=>(n+1).toNat|_=>0) ?_ ?_
 .refine⟨0,H',Nat.zero_le _,hsz,hdf1,t0,t1,?_,hadv1,h0⟩;rw[t3];simp only[wy];rw[w64 om om];simp
 rintro a w ⟨j,Hj,hj,q1,q2,q3,q4,q5,q6,q7⟩;have hSj:=hmono j Hj q7;have hRa:=Z0f q6.vis q1 q2 q3 q4 q5 hyt rfl;refine wpIn_seq (wpIn_seq ?_);refine zvo (D:=.plain []) (X:=fun _ _=>False) (L:=[]) (K:=fun x E' H' _=>x=(.normal,bkSB)∧H'=Hj∧E'=[y,.pointer ad,vi ((l.length:Int)-1-j)]) (fun o _=>Prot.plain_may [] o) hRa ?_ ?_ (fun ch a' w' h=>by obtain⟨_,_,h⟩:=h;exact h.elim)
 .rw[Zme];exact⟨rfl,rfl,rfl⟩
 rintro e st' F r2 H2 L2 a2 w2 hR2 ⟨h1,rfl,hE2⟩;cases h1;obtain⟨f0,f1,f3,f8,f4⟩:=Znk;have u0:=z3v hR2 f0 (fun h=>by cases h);have u1:=z3v hR2 f1 (fun h=>by cases h);have u3:=z3v hR2 f3 (fun h=>by cases h);have u8:=z3v hR2 f8 (fun h=>by cases h);have hsz2:=hR2.size;rw[hE2]at u0 u1 u3 u8;rw[f4]at hsz2;have hadv2:Adv H' W H2 w2:=q6.trans hR2.adv;have hdf2:a2.defers=[]:=hR2.df;have hc8:a2.eval (.tmp 8)=.bool (decide ((l.length:Int)-1-j≥0)):=by
  rw[zas,u8];simp only[wy]
 show(Code.cond _ _ _).wpIn _ _ _ _ _ _;by_cases hjl:j<l.length
 .have hc8':a2.eval (.tmp 8)=.bool true:=by rw[hc8,qX om]
  refine wpIn_cond_true hc8' (wpIn_skip ?_);show(Code.seq _ _).wpIn _ _ _ _ _ _;obtain⟨idx,hidx⟩:∃idx:Nat,idx=l.length-1-j:=⟨_,rfl⟩;have hi3:((l.length:Int)-1-j)=(idx:Int):=om;have hil:idx<l.length:=om;obtain⟨x,hx⟩:∃x,l[idx]?=some x:=⟨_,zge hil⟩;obtain⟨hcr,hcrow⟩:=hc idx x hx;obtain⟨z1,_⟩:=hs.get hx;obtain⟨av,dv,hcell,y1,y2,ya,y4,y5,y6,yd,y8⟩:=ins_iff.1 hcr;obtain⟨ab,ac,rfl⟩:=ya.sl;obtain⟨db,dc,rfl⟩:=yd.sl;have hR2':=Z0f (i:=(idx:Int)) hadv2.vis hsz2 hdf2 u0 u1 (by rw[u3];simp only[wy];rw[hi3]) hyt (rfl:Tag.ptr.ok (.pointer ad)=true);refine wpIn_seq (wpIn_block (wpIn_seq ?_));refine Ze7 (D:=.plain []) (X:=fun _ _=>False) (L:=[]) (K:=fun st E' H' _=>st=bkSC∧H'=H2∧E'=[y,.pointer ad,vi (idx:Int),.slice sb l.length sc]++cells idx) Zf0 (fun o _=>Prot.plain_may [] o) hR2' ?_ ?_ (fun ch a' w' h=>by obtain⟨_,_,h⟩:=h;exact h.elim)
  .rw[Zni];refine⟨[_],rfl,z0v hSj hp,fun _=>?_,cells idx,by rw[hcell];rfl,?_,rfl,rfl,rfl⟩
   .simp only[Chk.holds,wy];exact⟨z1,om,om⟩
   .simp only[wy];exact z0v hSj hcrow
  rintro st' F3 r3 H3 a3 w3 hR3 ⟨rfl,rfl,hE3⟩;obtain⟨g0,g1,g3,g11,g12,g16,g4⟩:=Zna;have s0:=z3v hR3 g0 (fun h=>by cases h);have s1:=z3v hR3 g1 (fun h=>by cases h);have s3:=z3v hR3 g3 (fun h=>by cases h);have s11:=z3v hR3 g11 (fun h=>by cases h);have s12:=z3v hR3 g12 (fun h=>by cases h);have s16:=z3v hR3 g16 (fun h=>by cases h);have hsz3:=hR3.size;rw[hE3]at s0 s1 s3 s11 s12 s16;rw[g4]at hsz3;have hadv3:Adv H' W H3 w3:=hadv2.trans hR3.adv;have hdf3:a3.defers=[]:=hR3.df;have e16:a3.eval (.tmp 16)=.agg (cells idx).toArray:=by
   rw[zas,s16,hcell];rfl
  refine wpListIn_plain bkO7_op.2.2 fun K hK=>?_;refine⟨fun _ _=>trivial,?_⟩;show Oper.uponIn _ _ _ _ _ _ _ ((bkO7.semAt none a3.eval).run _ w3);obtain⟨fn,tmps,asg,body,hyl,hrd⟩:=hround j H3 w3 hjl q7 hadv3 0;have hyl:(Instr.yield lr #[vi (idx:Int),.agg (cells idx).toArray]).run zP w3=.ok (.round lr fn tmps asg body) w3:=by rw[hidx];exact hyl
  rw[Oper.semAt_none,Ziy (l:=lr) (x:=.int .i64 (idx:Int)) (y:=.agg (cells idx).toArray) (by rw[zas,s11,←hy];rfl) (by rw[zas,s12];rfl) e16 hyl];refine⟨fun h=>absurd h (by simp[Fence.wide]),?_⟩;refine RoundIn.mono (show RoundIn Fence.wide _ _ _ _ _ _ _ _ _ from hrd) ?_;rintro e W4 ⟨rfl,H4,hadv4,hI4⟩;refine hK _ _ ?_;rw[bkO7_op.2.1];have hsz17:17<a3.tmps.size:=by rw[hsz3];decide
  refine wpListIn_plain bkO8_op.2 fun K2 hK2=>?_;refine⟨fun _ _=>trivial,?_⟩;show Oper.uponIn _ _ _ _ _ _ _ ((bkO8.semAt none _).run _ W4);rw[Oper.semAt_none,Ziq (by rw[zas];exact Z8c hsz17)];show K2 _ W4;refine hK2 _ _ ?_;rw[bkO8_op.1];obtain⟨a5,ha5⟩:∃a5,a5=(a3.put (some 17) (.bool true)).put (some 18) (.bool false):=⟨_,rfl⟩;have hsz4:(a3.put (some 17) (.bool true)).tmps.size=19:=by simp[Act.put,hsz3]
  have hsz5:a5.tmps.size=19:=by rw[ha5];simp[Act.put,hsz3]
  have hg5:∀t,t≠17→t≠18→a5.tmps.getD t undef=a3.tmps.getD t undef:=fun t h1 h2=>by rw[ha5,Z4j h2,Z4j h1]
  have h18:a5.eval (.tmp 18)=.bool false:=by rw[zas,ha5];exact Z8c (by rw[hsz4];decide)
  rw[←ha5];show(Code.cond _ _ _).wpIn _ _ _ _ _ _;refine wpIn_cond_false h18 (wpIn_skip ?_);show Code.wpIn _ _ _ bkB.2.2.1 _ _ _;have hdf5:a5.defers=[]:=by rw[ha5];exact hdf3
  have hR5:=Z0f (i:=(idx:Int)) hadv4.vis hsz5 hdf5 ((hg5 0 dC dC).trans s0) ((hg5 1 dC dC).trans s1) ((hg5 3 dC dC).trans s3) hyt (rfl:Tag.ptr.ok (.pointer ad)=true);refine zvo (D:=.plain []) (X:=fun _ _=>False) (L:=[]) (K:=fun x E' H' _=>x=(.normal,bkSD)∧H'=H4∧E'=[y,.pointer ad,vi (idx:Int)]) (fun o _=>Prot.plain_may [] o) hR5 ?_ ?_ (fun ch a' w' h=>by obtain⟨_,_,h⟩:=h;exact h.elim)
  .rw[Znq];exact⟨rfl,rfl,rfl⟩
  rintro e st' F6 r6 H6 L6 a6 w6 hR6 ⟨h1,rfl,hE6⟩;cases h1;obtain⟨m0,m1,m3,m4⟩:=Zmx;have v0:=z3v hR6 m0 (fun h=>by cases h);have v1:=z3v hR6 m1 (fun h=>by cases h);have v3:=z3v hR6 m3 (fun h=>by cases h);have hsz6:=hR6.size;rw[hE6]at v0 v1 v3;rw[m4]at hsz6;have hv3:a6.tmps.getD 3 undef=.int .i64 ((l.length:Int)-1-(j+1:Nat)):=by
   rw[v3];simp only[wy];rw[w64 om om];congr 1;omega
  refine⟨⟨j+1,H6,om,hsz6,hR6.df,v0,v1,hv3,(hadv3.trans hadv4).trans hR6.adv,hI4⟩,?_⟩;rw[hv3,q5];simp only[];omega
 .have hc8':a2.eval (.tmp 8)=.bool false:=by rw[hc8,qY om]
  refine wpIn_cond_false hc8' (wpIn_exit ?_);have hjn:j=l.length:=om;simp only[Exit.then,Exit.inBlock,↓reduceIte];refine⟨hdf2,.tuple #[],?_,⟨_,rfl⟩,H2,hadv2,hjn▸q7⟩;have hres:Tryz.f220.results=#[]:=kr;simp[results,hres]
abbrev encS(s:List Int):List (Int×Value):=s.map fun k=>(k,vi 1)
abbrev SetAt(es:Array MapEntry)(clock:Nat)(s:List Int):Prop:=EntsR (α:=Int) es.toList clock (encS s)
theorem SetAt.nodup{es:Array MapEntry}{clock:Nat}{s:List Int}(h:SetAt es clock s):s.Nodup:=by
 have:=h.keys;rw[List.map_map]at this;have e:((fun x:Int×Value=>x.1) ∘ fun k:Int=>(k,(Value.int .i64 1)))=id:=rfl;rw[e,List.map_id]at this;exact this
theorem Zil(s:List Int)(k:Int):(getM (encS s) k).isSome=decide (k∈s):=by
 unfold getM encS;rw[Option.isSome_map];by_cases h:k∈s
 .rw[qX h];refine List.find?_isSome.2 ⟨(k,vi 1),zmp.2 ⟨k,h,rfl⟩,sM⟩
 .rw[qY h,Option.isSome_eq_false_iff,Option.isNone_iff_eq_none,List.find?_eq_none];intro x hx;obtain⟨y,hy,rfl⟩:=zmp.1 hx;simp only[zdt];exact fun e=>h (e▸hy)
def addS(s:List Int)(k:Int):List Int:=if k∈s then s else s++[k]
theorem zpt(s:List Int)(k:Int):putM (encS s) k (vi 1)=encS (addS s k):=by
 unfold putM addS;rw[Zil];by_cases h:k∈s
 .rw[qj (by rw[qX h]),qj h];unfold encS;rw[List.map_map];refine qO fun x _=>?_;by_cases e:x=k<;>simp[e]
 .rw[qc (by rw[qY h];exact qk),qc h];simp[encS]
theorem zpo(s:List Int)(k y:Int):y∈addS s k↔y∈s∨y=k:=by
 unfold addS;split
 .rename_i h;exact⟨.inl,fun hy=>hy.elim id fun e=>e▸h⟩
 .simp
theorem Zj4(s:List Int)(k:Int):delM (encS s) k=encS (s.filter fun y=>decide (y≠k)):=by
 unfold delM encS;rw[List.filter_map];rfl
theorem zk6:SetAt (#[]:Array MapEntry) 0 []:=EntsR.empty
theorem uSetK:Tryz.prog.underlying 216=some (.map 3 3):=kr
theorem kIntK:Tryz.prog.underlying 3=some (Key.kd Int):=kr
theorem SetAt.entry{es:Array MapEntry}{clock:Nat}{s:List Int}(h:SetAt es clock s){e:MapEntry}(he:e∈es.toList):∃k∈s,e.key=.int .i64 k∧e.val=.int .i64 1:=by
 have h1:(e.key,e.val)∈es.toList.map (fun e=>(e.key,e.val)):=zmp.2 ⟨e,he,rfl⟩;rw[h.ents]at h1;obtain⟨x,hx,hxe⟩:=zmp.1 h1;obtain⟨k,hk,rfl⟩:=zmp.1 hx;simp only[Prod.mk.injEq]at hxe;exact⟨k,hk,hxe.1.symm,hxe.2.symm⟩
theorem SetAt.has{es:Array MapEntry}{clock:Nat}{s:List Int}(h:SetAt es clock s){k:Int}(hk:k∈s):∃e∈es.toList,e.key=.int .i64 k:=by
 have h1:((vi k:Value),(vi 1:Value))∈(encS s).map fun x=>(Key.kv x.1,x.2):=zmp.2 ⟨(k,vi 1),zmp.2 ⟨k,hk,rfl⟩,rfl⟩;rw[←h.ents]at h1;obtain⟨e,he,hee⟩:=zmp.1 h1;simp only[Prod.mk.injEq]at hee;exact⟨e,he,hee.1⟩
theorem zyy(r:Nat)(es:Array MapEntry)(clock:Nat)(s l:List Int)(lv:Value)(S K:PH)(hl:SlR S l lv)(h:Held S K [.blk r (.map es clock)])(hs:SetAt es clock s):
  Tri zP 218 #[.map (some r),lv] K fun x K'=>∃es' clock' s',x=.returned (.tuple #[])∧Held S K' [.blk r (.map es' clock')]∧SetAt es' clock' s'∧∀y,y∈s'↔y∈s∨y∈l:=by
 obtain⟨b,c,rfl⟩:=hl.sl;have hm:=hl.max;simp only[maxLen]at hm;refine qr zl1 [.map (some r),.slice b l.length c] ?_;refine⟨fun n vs K'=>∃(k:Nat)(es':Array MapEntry)(clock':Nat)(s':List Int),vs=[nI k]∧k+n=l.length∧Held S K' [.blk r (.map es' clock')]∧SetAt es' clock' s'∧∀y,y∈s'↔y∈s∨y∈l.take k,⟨l.length,0,es,clock,s,rfl,om,h,hs,fun y=>sM⟩,?_⟩;rintro n vs K1 _ ⟨k,es1,clock1,s1,rfl,hkn,h1,hs1,hm1⟩;refine⟨fun g=>?_,fun g=>?_⟩
 .simp only[wy,zdt]at g;obtain⟨a,ha⟩:∃a,l[k]?=some a:=⟨_,zge (show k<l.length by omega)⟩;obtain⟨q1,_,ces,q2,q3⟩:=(hl.le h1.sh).get ha;obtain⟨rfl,hai⟩:=csIK q2;refine⟨fun _=>?_,[vi a],rfl,?_,?_⟩
  .simp only[Chk.holds,wy];exact⟨q1,om,om⟩
  .simp only[wy];exact q3
  refine z1y (α:=Int) (m:=encS s1) (r:=r) (es:=es1) (clock:=clock1) a (vi 1) uSetK kIntK kr kr kr (h1.blk (zms)) hs1 fun es2 clock2 he2=>?_;rw[zpt]at he2;refine⟨_,z00,n-1,om,k+1,es2,clock2,addS s1 a,?_,om,h1.put _,he2,fun y=>?_⟩
  .simp only[wy];rw[w64 om om];rfl
  .rw[zpo,hm1,q9,ha];simp only[Option.toList_some,zma,zsi,or_assoc]
 .simp only[wy,zdf]at g;rw[ztl om]at hm1;exact⟨es1,clock1,s1,rfl,h1,hs1,hm1⟩
theorem zmh(r:Nat)(es:Array MapEntry)(clock:Nat)(s:List Int)(a:Int)(S K:PH)(h:Held S K [.blk r (.map es clock)])(hs:SetAt es clock s):
  Tri zP 177 #[.map (some r),vi a] K fun x K'=>∃es' clock',x=.returned (.tuple #[])∧Held S K' [.blk r (.map es' clock')]∧SetAt es' clock' (s.filter fun y=>decide (y≠a)):=by
 refine qr zjf [.map (some r),vi a] ?_;refine zq4 (α:=Int) (m:=encS s) (r:=r) (es:=es) (clock:=clock) a rfl uSetK kIntK kr kr (h.blk (zms)) hs fun es2 clock2 he2=>?_;rw[Zj4]at he2;exact⟨es2,clock2,rfl,h.put _,he2⟩
def SetR(H:PH)(v:Value)(s:List Int):Prop:=∃r es clock,v=.map (some r)∧H r=some (.map es clock)∧SetAt es clock s
theorem SetR.le{H H':PH}{v:Value}{s:List Int}(h:SetR H v s)(hl:PH.le H H'):SetR H' v s:=by
 obtain⟨r,es,clock,h1,h2,h3⟩:=h;exact⟨r,es,clock,h1,hl _ _ h2,h3⟩
theorem Z99(r:Nat)(es:Array MapEntry)(clock:Nat)(s t:List Int)(tv:Value)(S K:PH)(ht:SetR S tv t)(h:Held S K [.blk r (.map es clock)])(hs:SetAt es clock s):
  Tri zP 217 #[.map (some r),tv] K fun x K'=>∃es' clock' s',x=.returned (.tuple #[])∧Held S K' [.blk r (.map es' clock')]∧SetAt es' clock' s'∧∀y,y∈s'↔y∈s∨y∈t:=by
 obtain⟨rt,est,clt,rfl,hrt,hst⟩:=ht;refine qr zjt [.map (some r),.map (some rt)] ?_;refine zt5 (r:=rt) (es:=est) (clock:=clt) uSetK kr (h.sh _ _ hrt) (fun _ _=>z01) fun i hi=>?_;have h0:=h.new hi (.mapIter (some rt) clt #[] clt);have hl0:leftM est #[]=est.toList:=by unfold leftM;simp
 refine ⟨fun n vs K'=>∃(seen:Array Nat) (es':Array MapEntry) (clock':Nat) (s':List Int),vs=[]∧n=(leftM est seen).length∧Held S K' [.blk i (.mapIter (some rt) clt seen clt),.blk r (.map es' clock')]∧SetAt es' clock' s'∧∀y,y∈s'↔y∈s∨(y∈t∧∀e∈leftM est seen,e.key≠.int .i64 y),
  ⟨_,#[],es,clock,s,rfl,rfl,h0,hs,fun y=>?_⟩,?_⟩
 .constructor
  .exact .inl
  .rintro(h|⟨h1,h2⟩)
   .exact h
   .obtain⟨e,he,hk⟩:=hst.has h1;exact absurd hk (h2 e (by rw[hl0];exact he))
 rintro n vs K1 _ ⟨seen,es1,clock1,s1,rfl,rfl,h1,hs1,hm1⟩;refine⟨fun vs K'=>∃b:Bool,vs=[.bool b]∧((b=false∧leftM est seen=[]∧Held S K' [.blk i (.mapIter (some rt) clt seen clt),.blk r (.map es1 clock1)])∨(b=true∧∃e∈leftM est seen,Held S K' [.blk i (.mapIter (some rt) clt (seen.push e.born) clt),.blk r (.map es1 clock1)])),?_,?_⟩
 .rintro vs K2 _ ⟨b,rfl,hcase⟩;refine⟨fun g=>?_,fun g=>?_⟩
  .simp only[wy]at g;subst g;rcases hcase with⟨h,_⟩|⟨_,e,he,h2⟩
   .cases h
   have hee:e∈est.toList:=(zmf.1 he).1;obtain⟨k,hk,hek,hev⟩:=hst.entry hee;refine zs9 (i:=i) (r:=rt) (es:=est) (clock:=clt) (seen:=seen) (m:=encS t) (e:=e) kr (h2.blk (zms)) (h2.sh _ _ hrt) hst hee (by rw[hek,hev];exact⟨rfl,rfl⟩) ?_;rw[hek,hev];refine z1y (α:=Int) (m:=encS s1) (r:=r) (es:=es1) (clock:=clock1) k (vi 1) uSetK kIntK kr kr kr (h2.blk (zmm _ (zms))) hs1 fun es2 clock2 he2=>?_;rw[zpt]at he2;obtain⟨p1,p2⟩:=zka hst he;refine⟨_,z00,_,p1,seen.push e.born,es2,clock2,addS s1 k,rfl,rfl,((h2.perm (qq _ _ _)).put _).perm (qq _ _ _),he2,fun y=>?_⟩;rw[zpo,hm1];constructor
   .rintro((h|⟨h3,h4⟩)|h)
    .exact .inl h
    .exact .inr ⟨h3,fun e' he'=>h4 e' ((p2 e').2 (.inr he'))⟩
    .subst h;refine .inr ⟨hk,fun e' he' hke=>?_⟩;have he'l:e'∈leftM est seen:=(p2 e').2 (.inr he');have he'e:e'∈est.toList:=(zmf.1 he'l).1;obtain⟨a,ha⟩:=qJ he'e;obtain⟨b,hb⟩:=qJ hee;have hkeys:(est.toList.map (·.key))=t.map fun k=>Value.int .i64 k:=by
      have:=congrArg (List.map Prod.fst) hst.ents;simp only[List.map_map,Function.comp_def,encS]at this;exact this
     have hta:t[a]?=some y:=by
      have:=congrArg (fun l=>l[a]?) hkeys;simp only[zem,ha,Option.map_some,hke]at this;cases hx:t[a]? with
      |none=>rw[hx]at this;cases this
      |some z=>rw[hx]at this;simp at this;rw[this]
     have htb:t[b]?=some y:=by
      have:=congrArg (fun l=>l[b]?) hkeys;simp only[zem,hb,Option.map_some,hek]at this;cases hx:t[b]? with
      |none=>rw[hx]at this;cases this
      |some z=>rw[hx]at this;simp at this;rw[this]
     have hab:=(List.getElem?_inj (zgi.1 hta).1 hst.nodup).1 (hta.trans htb.symm);subst hab;rw[ha]at hb;cases hb;have hno:=(zmf.1 he').2;simp at hno
   .rintro(h|⟨h3,h4⟩)
    .exact .inl (.inl h)
    .by_cases hyk:y=k
     .exact .inr hyk
     .refine .inl (.inr ⟨h3,fun e' he' hke=>?_⟩);rcases(p2 e').1 he' with rfl|h5
      .rw[hek]at hke;cases hke;exact hyk rfl
      .exact h4 e' h5 hke
  .simp only[wy]at g;subst g;rcases hcase with⟨_,hnil,h2⟩|⟨h,_⟩
   .refine⟨es1,clock1,s1,rfl,h2.tail,hs1,fun y=>?_⟩;rw[hm1,hnil];simp
   .cases h
 .refine zvu (i:=i) (r:=rt) (es:=est) (clock:=clt) (seen:=seen) (m:=encS t) kr (h1.blk (zms)) (h1.sh _ _ hrt) hst (fun e he=>?_) (fun hnil=>?_) fun e he=>?_
  .obtain⟨k,hk,hek,hev⟩:=hst.entry he;rw[hek,hev];exact⟨rfl,rfl⟩
  .exact⟨_,z00,false,rfl,.inl ⟨rfl,hnil,h1⟩⟩
  .exact⟨_,z00,true,rfl,.inr ⟨rfl,e,he,h1.put _⟩⟩
theorem Z7h{S:PH}:∀{l:List Int} {xs:List Value},PV.RepRow S (l.flatMap pv) xs→xs=l.map (Value.int .i64)∧∀x∈l,InI x
 | [],xs,h=>by simp only[List.flatMap_nil,PV.RepRow]at h;subst h;exact⟨rfl,fun x hx=>by cases hx⟩
 |a::l,xs,h=>by
  have h':PV.RepRow S (.int .i64 a::l.flatMap pv) xs:=h;rw[PV.RepRow]at h';obtain⟨v,vs,rfl,h1,h2⟩:=h';obtain⟨rfl,hi⟩:=repI_iff.1 h1;obtain⟨rfl,h3⟩:=Z7h h2;exact⟨rfl,fun x hx=>(zmc.1 hx).elim (fun e=>e▸hi) (h3 x)⟩
theorem zl3{S:PH}:∀{l:List Int},(∀x∈l,InI x)→PV.RepRow S (l.flatMap pv) (l.map (Value.int .i64))
 | [],_=>by simp[PV.RepRow]
 |a::l,h=>by
  show PV.RepRow S (.int .i64 a::l.flatMap pv) _;rw[PV.RepRow];exact⟨_,_,rfl,repI_iff.2 ⟨rfl,h a (zms)⟩,zl3 fun x hx=>h x (zmm _ hx)⟩
abbrev sortI(l:List Int):List Int:=l.mergeSort fun x y=>decide (x≤y)
theorem zao(l:List Int)(x:Int):x∈sortI l↔x∈l:=List.mem_mergeSort
theorem z9r{l:List Int}(h:l.Nodup):(sortI l).Pairwise (· < ·):=by
 have h1:(sortI l).Pairwise fun x y=>decide (x≤y)=true:=List.pairwise_mergeSort (fun a b c h1 h2=>by simp at *;omega) (fun a b=>by simp;omega) l;have h2:(sortI l).Nodup:=(List.mergeSort_perm l _).nodup_iff.2 h;exact(h1.and h2).imp fun{a b}⟨h3,h4⟩=>by simp at h3;omega
theorem Zjz{K:PH}{w:World}(hv:Vis K w)(os:Array Obj):Adv K w K (Sort.grow w os):=by
 refine⟨by simp[Sort.grow],fun k o hk=>?_,fun k hk hn=>⟨?_,hn⟩,rfl,rfl,rfl⟩
 .show(w.heap++os)[k]?=some o;rw[Array.getElem?_append_left (hv.lt hk)];exact hv k o hk
 .show(w.heap++os)[k]?=w.heap[k]?;rw[Array.getElem?_append_left hk]
theorem Z3d{l:List Int}{cur:Array Value}(h:l.length≤cur.size):(Sort.putCells (Value.int .i64) 0 l.toArray cur).toList.take l.length=l.map (Value.int .i64):=by
 refine List.ext_getElem? fun i=>?_;rw[List.getElem?_take,zem];by_cases hi:i<l.length
 .rw[qj hi,Array.getElem?_toList];unfold Sort.putCells;rw[Array.getElem?_mapIdx];have hc:i<cur.size:=om;simp[hc,hi]
 .rw[qc hi,wu om];rfl
theorem Ze3(l:List Int)(v:Value)(S K:PH)(I:List Itm)(h:Held S K (orow 3 l v::I))(hl:l.length≤40000000):
  Tri zP 207 #[v] K fun x K'=>x=.returned (.tuple #[])∧Held S K' (orow 3 (sortI l) v::I):=by
 intro w hv;have hr:=h.row (zms);obtain⟨xs,ho,hrow⟩:=hr.own;obtain⟨rfl,hin⟩:=Z7h hrow;rcases ho.2 with⟨rfl,hn⟩|⟨g,cap,cur,rfl,hg,h2,h3,h4,h5⟩
 .have:l=[]:=qV.1 hn;subst this;refine(Tryz.slices_Sort_int_none none 0 w).mono ?_;rintro e w' ⟨rfl,rfl⟩;exact⟨K,.refl hv,rfl,by simpa[sortI]using h⟩
 .have hsz:sz Int=1:=rfl;rw[hsz,Nat.mul_one]at h4 h5;have hw:=hv _ _ hg;have hcur:∀j,j<l.length→cur[j]?=some (vi (l[j]!)):=fun j hj=>by
   have:=congrArg (fun x=>x[j]?) h5;simp only[List.getElem?_take,qj hj,zem,Array.getElem?_toList]at this;rw[this,zge hj];simp[hj]
  have hH:Sort.Holds (Value.int .i64) w g 0 l.toArray:=by
   intro j hj;simp only[List.size_toArray]at hj;refine⟨?_,?_⟩
   .unfold World.cell?;simp only[hw,wo];simpa using hcur j hj
   .unfold World.frozen?;simp[hw]
  refine(Tryz.slices_Sort_int g 0 cap l w hH (hv.lt hg) om).mono ?_;rintro e w' ⟨rfl,n,os,rfl⟩;obtain⟨cur',hcur'⟩:∃c,c=Sort.putCells (Value.int .i64) 0 (sortI l).toArray cur:=⟨_,rfl⟩;have hadv:Adv K w (K.upd g (.cells cur' 3 (0,0))) (Sort.putRow (Value.int .i64) (Sort.ahead w n) g 0 (sortI l).toArray):=by
   refine Adv.put (w':=Sort.putRow (Value.int .i64) (Sort.ahead w n) g 0 (sortI l).toArray) hv hg ?_ ?_ rfl rfl rfl
   .simp[Sort.putRow,Sort.mapBlock,Sort.ahead]
   .intro k;show(w.heap.modify g _)[k]?=_;rw[Array.getElem?_modify];by_cases e:k=g
    .subst e;rw[qj rfl,qj rfl,hw,hcur'];rfl
    .rw[qc e,qc (Ne.symm e)]
  refine⟨_,hadv.trans (Zjz hadv.vis os),rfl,?_⟩;have hSg:S g=none:=hr.off g rfl;have hlen:(sortI l).length=l.length:=List.length_mergeSort l;have hle:PH.le S (K.upd g (.cells cur' 3 (0,0))):=fun k o hk=>by
   rw[PH.upd_other (fun e=>by rw[e,hSg]at hk;cases hk)];exact h.sh k o hk
  refine h.went ⟨hr.off,(sortI l).map (Value.int .i64),⟨by rw[zlm,hsz,Nat.mul_one],.inr ⟨g,cap,cur',by rw[hlen],PH.upd_same,by rw[hlen];exact h2,h3,?_,?_⟩⟩,zl3 fun x hx=>hin x ((zao l x).1 hx)⟩ hle ⟨fun k o hk hn=>?_,fun k hk=>.inl hk⟩
  .rw[hcur',hsz,Nat.mul_one,←h4];simp[Sort.putCells]
  .rw[hcur',hsz,Nat.mul_one];exact Z3d (by rw[hlen];omega)
  .rw[PH.upd_other (fun e=>hn (by rw[e];rfl))];exact hk
theorem Zgh{est:Array MapEntry}{clt:Nat}{t:List Int}(hst:SetAt est clt t){seen:Array Nat}{e:MapEntry}(he:e∈leftM est seen){k:Int}(hk:k∈t)(hek:e.key=.int .i64 k)(y:Int):
  (y∈t∧∀e'∈leftM est (seen.push e.born),e'.key≠.int .i64 y)↔((y∈t∧∀e'∈leftM est seen,e'.key≠.int .i64 y)∨y=k):=by
 have hee:e∈est.toList:=(zmf.1 he).1;obtain⟨p1,p2⟩:=zka hst he;constructor
 .rintro⟨h3,h4⟩;by_cases hyk:y=k
  .exact .inr hyk
  .refine .inl ⟨h3,fun e' he' hke=>?_⟩;rcases(p2 e').1 he' with rfl|h5
   .rw[hek]at hke;cases hke;exact hyk rfl
   .exact h4 e' h5 hke
 .rintro(⟨h3,h4⟩|rfl)
  .exact⟨h3,fun e' he'=>h4 e' ((p2 e').2 (.inr he'))⟩
  .refine⟨hk,fun e' he' hke=>?_⟩;have he'l:e'∈leftM est seen:=(p2 e').2 (.inr he');have he'e:e'∈est.toList:=(zmf.1 he'l).1;obtain⟨a,ha⟩:=qJ he'e;obtain⟨b,hb⟩:=qJ hee;have hkeys:(est.toList.map (·.key))=t.map fun k=>Value.int .i64 k:=by
    have:=congrArg (List.map Prod.fst) hst.ents;simp only[List.map_map,Function.comp_def,encS]at this;exact this
   have hta:t[a]?=some y:=by
    have:=congrArg (fun l=>l[a]?) hkeys;simp only[zem,ha,Option.map_some,hke]at this;cases hx:t[a]? with
    |none=>rw[hx]at this;cases this
    |some z=>rw[hx]at this;simp at this;rw[this]
   have htb:t[b]?=some y:=by
    have:=congrArg (fun l=>l[b]?) hkeys;simp only[zem,hb,Option.map_some,hek]at this;cases hx:t[b]? with
    |none=>rw[hx]at this;cases this
    |some z=>rw[hx]at this;simp at this;rw[this]
   have hab:=(List.getElem?_inj (zgi.1 hta).1 hst.nodup).1 (hta.trans htb.symm);subst hab;rw[ha]at hb;cases hb;have hno:=(zmf.1 he').2;simp at hno
theorem zow(r:Nat)(es:Array MapEntry)(clock:Nat)(s:List Int)(S K:PH)(I:List Itm)(h:Held S K I)(hr:S r=some (.map es clock)∨Itm.blk r (.map es clock)∈I)(hs:SetAt es clock s)(hi:∀x∈s,InI x)(hl:s.length≤40000000):
  Tri zP 178 #[.map (some r)] K fun x K'=>∃S' v,PH.le S S'∧x=.returned v∧SlR S' (sortI s) v∧Held S' K' I:=by
 have hrd:∀{S' K':PH} {J:List Itm},PH.le S S'→Held S' K' (J++I)→K' r=some (.map es clock):=fun hS h'=>hr.elim (fun h1=>h'.sh _ _ (hS _ _ h1)) fun h1=>h'.blk (wq _ h1);refine qr zga [.map (some r)] ?_;refine zt5 (r:=r) (es:=es) (clock:=clock) uSetK kr (hrd (J:=[]) (wx S) h) (fun _ _=>z01) fun i hin=>?_;have h0:=(Held.empty (α:=Int) (h.new hin (.mapIter (some r) clock #[] clock)) 3).perm (qq _ _ _);have hl0:leftM es #[]=es.toList:=by unfold leftM;simp
 have hlen:es.toList.length=s.length:=by have:=hs.len;simpa[encS]using this
 refine ⟨fun n vs K'=>∃(seen:Array Nat) (out:List Int) (v:Value) (S':PH),vs=[v]∧n=(leftM es seen).length∧PH.le S S'∧Held S' K' (.blk i (.mapIter (some r) clock seen clock)::orow 3 out v::I)∧out.Nodup∧(∀y,y∈out↔(y∈s∧∀e∈leftM es seen,e.key≠.int .i64 y))∧out.length+(leftM es seen).length≤s.length,
  ⟨_,#[],[],.slice none 0 0,S,rfl,rfl,wx S,h0,List.nodup_nil,fun y=>?_,by rw[hl0,hlen];simp⟩,?_⟩
 .simp only[List.not_mem_nil,false_iff,not_and];intro hy hno;obtain⟨e,he,hk⟩:=hs.has hy;exact hno e (by rw[hl0];exact he) hk
 rintro n vs K1 _ ⟨seen,out,v,S1,rfl,rfl,l1,h1,hnd,hm1,hln⟩;refine⟨fun vs K'=>∃b:Bool,vs=[.bool b]∧((b=false∧leftM es seen=[]∧Held S1 K' (.blk i (.mapIter (some r) clock seen clock)::orow 3 out v::I))∨(b=true∧∃e∈leftM es seen,Held S1 K' (.blk i (.mapIter (some r) clock (seen.push e.born) clock)::orow 3 out v::I))),?_,?_⟩
 .rintro vs K2 _ ⟨b,rfl,hcase⟩;refine⟨fun g=>?_,fun g=>?_⟩
  .simp only[wy]at g;subst g;rcases hcase with⟨h,_⟩|⟨_,e,he,h2⟩
   .cases h
   have hee:e∈es.toList:=(zmf.1 he).1;obtain⟨k,hk,hek,hev⟩:=hs.entry hee;refine zs9 (i:=i) (r:=r) (es:=es) (clock:=clock) (seen:=seen) (m:=encS s) (e:=e) kr (h2.blk (zms)) (hrd (J:=[_,_]) l1 h2) hs hee (by rw[hek,hev];exact⟨rfl,rfl⟩) ?_;rw[hek,hev];obtain⟨p1,p2⟩:=zka hs he;have hkn:k∉out:=fun hko=>((hm1 k).1 hko).2 e he hek;refine z0t (more:=[k]) (b:=8) [vi k] z0g z0e rfl dC dC (h2.perm (qq _ _ _)) kr (.cons (z09 (hi k hk)) .nil) z01 (fun _=>kr) (fun _=>kr)
    (by simp only[maxLen,zlc,zln];omega) (by simp only[zlc,zln];omega) fun u v' S4 K4 l4 h4=>⟨z01,_,z00,_,p1,seen.push e.born,out++[k],v',S4,rfl,rfl,ww l1 l4,h4.perm (qq _ _ _),?_,fun y=>?_,?_⟩
   .rw[List.nodup_append];exact⟨hnd,sM,fun a ha b hb=>by simp at hb;subst hb;exact fun e=>hkn (e▸ha)⟩
   .rw[zma,hm1,Zgh hs he hk hek y];simp
   .simp only[zla,zlc,zln];omega
  .simp only[wy]at g;subst g;rcases hcase with⟨_,hnil,h2⟩|⟨h,_⟩
   .refine z02 kr (Ze3 out v S1 K2 I h2.tail om) ?_;rintro x K3 ⟨rfl,h3⟩;refine⟨_,[],rfl,rfl,rfl,z01,?_⟩;have heq:sortI out=sortI s:=by
     refine zd6 (z9r hnd) (z9r hs.nodup) fun x=>?_;rw[zao,zao,hm1,hnil];simp
    rw[heq]at h3;obtain⟨S5,s5,l5,h5⟩:=h3.freeze;exact⟨S5,v,ww l1 l5,rfl,s5,h5⟩
   .cases h
 .refine zvu (i:=i) (r:=r) (es:=es) (clock:=clock) (seen:=seen) (m:=encS s) kr (h1.blk (zms)) (hrd (J:=[_,_]) l1 h1) hs (fun e he=>?_) (fun hnil=>?_) fun e he=>?_
  .obtain⟨k,hk,hek,hev⟩:=hs.entry he;rw[hek,hev];exact⟨rfl,rfl⟩
  .exact⟨_,z00,false,rfl,.inl ⟨rfl,hnil,h1⟩⟩
  .exact⟨_,z00,true,rfl,.inr ⟨rfl,e,he,h1.put _⟩⟩
theorem zu7(e:EndX)(av:Value)(H:PH)(ha:SlR H e.args av):Gives zP 175 [.agg (endVs e av).toArray] H (.bool e.calls):=by
 obtain⟨b,c,rfl⟩:=ha.sl;refine qr Z17 (endVs e (.slice b e.args.length c)) ?_;refine⟨?_,wx _⟩;simp only[endVs,wy,EndX.calls];congr 2;by_cases h4:e.kind=4<;>by_cases h6:e.kind=6<;>simp[h4,h6]
theorem Zf2(e:EndX)(av:Value)(S:PH)(ha:SlR S e.args av)(hn:InI e.next)(he:InI e.els):
  Tri zP 216 #[.agg (endVs e av).toArray] S fun x S'=>PH.le S S'∧∃v,x=.returned v∧SlR S' e.ways v:=by
 obtain⟨b,c,rfl⟩:=ha.sl;refine qr zzi (endVs e (.slice b e.args.length c)) ?_;simp only[endVs];refine⟨fun vs H'=>vs=[.bool (decide (e.kind=0∨e.kind=4∨e.kind=6))]∧H'=S,?_,fun g=>?_,fun g=>?_⟩
 .rintro vs H' _ ⟨rfl,rfl⟩;refine⟨fun g=>?_,fun g=>⟨fun g2=>?_,fun g2=>?_⟩⟩
  .simp only[wy,zdt]at g;have hw:e.ways=[e.next]:=by
    unfold EndX.ways;rw[qj om,qc om];rfl
   rw[hw];refine z0k (α:=Int) (l:=[e.next]) (b:=8) [vi e.next] z0g z0e rfl dC dC (Held.nil (wx H')) kr (.cons (z09 hn) .nil) z01 fun v K2 h2 _ _=>?_;obtain⟨S3,s3,l3,h3⟩:=h2.freeze;exact⟨ww l3 h3.sh,v,rfl,s3.le h3.sh⟩
  .simp only[wy,zdt]at g2;have hw:e.ways=[e.next,e.els]:=by
    unfold EndX.ways;rw[qj om,qj om];rfl
   rw[hw];refine z0k (α:=Int) (l:=[e.next,e.els]) (b:=8) [vi e.next,vi e.els] z0g z0e rfl dC dC (Held.nil (wx H')) kr (.cons (z09 hn) (.cons (z09 he) .nil)) z01 fun v K2 h2 _ _=>?_;obtain⟨S3,s3,l3,h3⟩:=h2.freeze;exact⟨ww l3 h3.sh,v,rfl,s3.le h3.sh⟩
  .simp only[wy,zdf]at g g2;have hw:e.ways=[]:=by
    unfold EndX.ways;rw[qc om,qc om];rfl
   rw[hw];exact⟨wx _,_,rfl,z15 _⟩
 .simp only[wy,zdt]at g;refine⟨_,z00,?_,rfl⟩;simp[wy,g]
 .simp only[wy,zdf]at g;refine⟨_,z00,?_,rfl⟩;by_cases h4:e.kind=4<;>by_cases h6:e.kind=6<;>simp[wy,g,h4,h6]
def EndX.rds(e:EndX):List Int:=if e.kind=1∨e.kind=2∨e.kind=5∨e.kind=6 then[e.reg]else if e.kind=3∨e.kind=4 then e.reg::e.args else[]
theorem Zkp(e:EndX)(r:Int):r∈e.rds↔e.reads r=true:=by
 unfold EndX.rds EndX.reads;split
 .simp;exact⟨fun h=>h.symm,fun h=>h.symm⟩
 .split
  .simp only[zmc,qu,zdt];exact⟨fun h=>h.imp (fun h=>h.symm) id,fun h=>h.imp (fun h=>h.symm) id⟩
  .simp
theorem Zhs(e:EndX)(av:Value)(S:PH)(ha:SlR S e.args av)(hr:InI e.reg)(hl:e.args.length≤40000000):
  Tri zP 219 #[.agg (endVs e av).toArray] S fun x S'=>PH.le S S'∧∃v,x=.returned v∧SlR S' e.rds v:=by
 obtain⟨b,c,rfl⟩:=ha.sl;refine qr Z10 (endVs e (.slice b e.args.length c)) ?_;simp only[endVs];refine⟨fun vs H'=>vs=[.bool (decide (e.kind=1∨e.kind=2∨e.kind=5∨e.kind=6))]∧H'=S,?_,fun g=>?_,fun g=>⟨fun g2=>?_,fun g2=>?_⟩⟩
 .rintro vs H' _ ⟨rfl,rfl⟩;refine⟨fun g=>?_,fun g=>⟨fun g2=>?_,fun g2=>?_⟩⟩
  .simp only[wy,zdt]at g;have hw:e.rds=[e.reg]:=by unfold EndX.rds;rw[qj g]
   rw[hw];refine z0k (α:=Int) (l:=[e.reg]) (b:=8) [vi e.reg] z0g z0e rfl dC dC (Held.nil (wx H')) kr (.cons (z09 hr) .nil) z01 fun v K2 h2 _ _=>?_;obtain⟨S3,s3,l3,h3⟩:=h2.freeze;exact⟨ww l3 h3.sh,v,rfl,s3.le h3.sh⟩
  .simp only[wy,zdf]at g;have hk:e.kind=3∨e.kind=4:=by
    by_cases h3:e.kind=3
    .exact .inl h3
    .by_cases h4:e.kind=4
     .exact .inr h4
     .simp[wy,h3,h4]at g2
   have hw:e.rds=[e.reg]++e.args:=by unfold EndX.rds;rw[qc g,qj hk];rfl
   rw[hw];refine z0k (α:=Int) (l:=[e.reg]) (b:=8) [vi e.reg] z0g z0e rfl dC dC (Held.nil (wx H')) kr (.cons (z09 hr) .nil) z01 fun v K2 h2 _ _=>?_;refine z6k (b:=8) (more:=e.args) z0g z0e kr kr h2 (ha.srcS h2.sh) (by simp only[maxLen,zlc,zln];omega) (by simp only[zlc,zln];omega) fun v3 K3 h3 _=>⟨z01,?_⟩;obtain⟨S4,s4,l4,h4⟩:=h3.freeze;exact⟨ww l4 h4.sh,v3,rfl,s4.le h4.sh⟩
  .simp only[wy,zdf]at g;have hk:¬(e.kind=3∨e.kind=4):=by
    rintro(h3|h3)<;>simp[wy,h3]at g2
   have hw:e.rds=[]:=by unfold EndX.rds;rw[qc g,qc hk]
   rw[hw];exact⟨wx _,_,rfl,z15 _⟩
 .simp only[wy,zdt]at g;refine⟨_,z00,?_,rfl⟩;simp[wy,g]
 .simp only[wy,zdt]at g2;refine⟨_,z00,?_,rfl⟩;simp[wy,g2]
 .simp only[wy,zdf]at g g2;refine⟨_,z00,?_,rfl⟩;by_cases h5:e.kind=5<;>by_cases h6:e.kind=6<;>simp[wy,g,g2,h5,h6]
theorem zu5(r:Nat)(es:Array MapEntry)(clock:Nat)(s:List Int)(x:InsX)(cs:List Value)(S K:PH)(hx:CsR S x cs)(h:Held S K [.blk r (.map es clock)])(hs:SetAt es clock s):
  Tri zP 202 #[.map (some r),.agg cs.toArray] K fun e K'=>∃es' clock' s',e=.returned (.tuple #[])∧Held S K' [.blk r (.map es' clock')]∧SetAt es' clock' s'∧∀y,y∈s'↔(y∈x.args∨(¬x.fills y∧y∈s)):=by
 obtain⟨av,dv,rfl,y1,y2,ya,y4,y5,y6,yd,y8⟩:=ins_iff.1 hx;obtain⟨ab,ac,rfl⟩:=ya.sl;obtain⟨db,dc,rfl⟩:=yd.sl;refine qr zv0 [.map (some r),txt x.op,vi x.to,.slice ab x.args.length ac,vi x.const.kind,vi x.const.int,txt x.const.text,.slice db x.const.list.length dc,vi x.num] ?_;refine⟨fun vs K'=>vs=[]∧∃es' clock' s',Held S K' [.blk r (.map es' clock')]∧SetAt es' clock' s'∧∀y,y∈s'↔(¬x.fills y∧y∈s),?_,fun g=>?_,fun g=>?_⟩
 .rintro vs K2 _ ⟨rfl,es2,clock2,s2,h2,hs2,hm2⟩;refine z02 (qb 218) (zyy r es2 clock2 s2 x.args _ S K2 ya h2 hs2) ?_;rintro e K3 ⟨es3,clock3,s3,rfl,h3,hs3,hm3⟩;refine⟨_,[],rfl,rfl,rfl,z01,es3,clock3,s3,rfl,h3,hs3,fun y=>?_⟩;rw[hm3,hm2];exact Or.comm
 .simp only[wy,ztf]at g;have hop:x.op≠tieB:=by simpa using g
  refine z02 (qb 177) (zmh r es clock s x.to S K h hs) ?_;rintro e K3 ⟨es3,clock3,rfl,h3,hs3⟩;refine⟨_,[],rfl,rfl,rfl,z01,_,z00,rfl,es3,clock3,_,h3,hs3,fun y=>?_⟩;rw[zmf];simp only[zdt,InsX.fills];constructor
  .rintro⟨h1,h2⟩;exact⟨fun hf=>h2 hf.2.symm,h1⟩
  .rintro⟨h1,h2⟩;exact⟨h2,fun e=>h1 ⟨hop,e.symm⟩⟩
 .simp only[wy,ztf]at g;have hop:x.op=tieB:=by simpa using g
  refine⟨_,z00,rfl,es,clock,s,h,hs,fun y=>?_⟩;exact⟨fun hy=>⟨fun hf=>hf.1 hop,hy⟩,fun hy=>hy.2⟩
abbrev flowB(fb:Nat)(p:PrcX)(bv:Value)(inv:Value):Itm:=.blk fb (.cells [vi p.params,vi p.holds,vi p.regs,bv,inv].toArray 219 (0,0))
abbrev inB(ib:Nat)(ims:List Value):Itm:=.blk ib (.cells ims.toArray 216 (0,0))
theorem zti{K:PH}{b off:Nat}{cs:List Value}{e:TypeId}{f:Nat×Nat}(h:K b=some (.cells cs.toArray e f))(n:Nat):rowAt K (some ⟨b,off,none⟩) ((cs.drop off).take n):=by
 refine⟨_,rfl,fun i v hi=>?_⟩;rw[Addr.add_plain,PH.cell_at h];rw[List.getElem?_take]at hi;split at hi
 .rw[List.getElem?_drop]at hi;simpa using hi
 .cases hi
theorem zo8{K:PH}{ib n c:Nat}{ims:List Value}{e:TypeId}{f:Nat×Nat}{v:Value}(h:K ib=some (.cells ims.toArray e f))(hv:ims[c]?=some v):rowAt K (pOf (eltV (.slice (some ⟨ib,0,none⟩) n n) (c:Int) 1)) [v]:=by
 have h1:=zti (off:=c) h 1;have h2:(ims.drop c).take 1=[v]:=by
  obtain⟨hc,he⟩:=zgi.1 hv;rw[List.drop_eq_getElem_cons hc,he];rfl
 rw[h2]at h1;have:pOf (eltV (.slice (some ⟨ib,0,none⟩) n n) (c:Int) 1)=some ⟨ib,c,none⟩:=by simp[eltV,pOf,z0b,Addr.add_plain]
 rw[this];exact h1
def outS(p:PrcX)(sets:Nat→List Int)(b:BlkX)(y:Int):Prop:=b.e.reads y=true∨(¬(b.e.calls=true∧b.e.to=y)∧∃c:Nat,(c:Int)∈b.e.leads p.blocks.length∧y∈sets c)
theorem Zbs(p:PrcX)(bv:Value)(fb ib:Nat)(ims:List Value)(sets:Nat→List Int)(i:Nat)(b:BlkX)(S K:PH)(hbv:SlR S p.blocks bv)(hb:p.blocks[i]?=some b)(hN:p.blocks.length≤20000000)(hrl:b.e.args.length≤40000000)(hil:ims.length=p.blocks.length)(him:∀c v,ims[c]?=some v→SetR S v (sets c))
  (h:Held S K [flowB fb p bv (.slice (some ⟨ib,0,none⟩) p.blocks.length p.blocks.length),inB ib ims]) :
  Tri zP 200 #[.pointer (some ⟨fb,0,none⟩),nI i] K fun x K'=>∃S' ro es clock s,PH.le S S'∧x=.returned (.map (some ro))∧Held S' K' [.blk ro (.map es clock),flowB fb p bv (.slice (some ⟨ib,0,none⟩) p.blocks.length p.blocks.length),inB ib ims]∧SetAt es clock s∧∀y,y∈s↔outS p sets b y:=by
 obtain⟨b0,c0,rfl⟩:=hbv.sl;have hi:i<p.blocks.length:=(zgi.1 hb).1;refine qr zrz [.pointer (some ⟨fb,0,none⟩),nI i] ?_;have hfl:∀{S' K':PH} {J:List Itm},Held S' K' (J++[flowB fb p (.slice b0 p.blocks.length c0) (.slice (some ⟨ib,0,none⟩) p.blocks.length p.blocks.length),inB ib ims])→rowAt K' (some ⟨fb,3,none⟩) [.slice b0 p.blocks.length c0]∧rowAt K' (some ⟨fb,4,none⟩) [.slice (some ⟨ib,0,none⟩) p.blocks.length p.blocks.length]∧K' ib=some (.cells ims.toArray 216 (0,0)):=fun h'=>
  ⟨zti (h'.blk (wq _ (zms))) 1,zti (h'.blk (wq _ (zms))) 1,h'.blk (wq _ (zmm _ (zms)))⟩
 obtain⟨q1,_,ces,q2,q3⟩:=hbv.get hb;obtain⟨iv,es0,rfl,his,hes⟩:=blk_iff.1 q2;obtain⟨av,rfl,e1,e2,hea,e3,e4,e5⟩:=end_iff.1 hes;obtain⟨b3,c3,rfl⟩:=hea.sl;refine⟨fun _=>rfl,[.slice b0 p.blocks.length c0],rfl,?_,fun _=>?_,[vi b.e.kind,vi b.e.reg,.slice b3 b.e.args.length c3,vi b.e.to,vi b.e.next,vi b.e.els],rfl,?_,?_⟩
 .exact(hfl (J:=[]) h).1
 .simp only[Chk.holds,wy];exact⟨q1,om,om⟩
 .simp only[wy];exact z54 (z0v h.sh q3) 1 6
 refine z5g fun ro hro=>?_;have h1:=h.new hro (.map #[] 0);refine z02 (qb 216) (h1.pure (R:=fun x S'=>∃v,x=.returned v∧SlR S' b.e.ways v) (Zf2 b.e _ S hea e4 e5)) ?_;rintro x K2 ⟨S2,l2,h2,lv,rfl,hlv⟩;obtain⟨b5,c5,rfl⟩:=hlv.sl;refine⟨_,[.slice b5 b.e.ways.length c5],rfl,rfl,rfl,z01,?_⟩;have hwl:=Zjf b.e;refine ⟨fun n vs K'=>∃(k:Nat) (es:Array MapEntry) (clock:Nat) (s:List Int),vs=[nI k]∧k+n=b.e.ways.length∧Held S2 K' [.blk ro (.map es clock),flowB fb p (.slice b0 p.blocks.length c0) (.slice (some ⟨ib,0,none⟩) p.blocks.length p.blocks.length),inB ib ims]∧SetAt es clock s∧∀y,y∈s↔∃c:Nat,(c:Int)∈b.e.ways.take k∧c < p.blocks.length∧y∈sets c,
  ⟨b.e.ways.length,0,#[],0,[],rfl,om,h2,zk6,fun y=>sM⟩,?_⟩
 rintro n vs K3 _ ⟨k,es,clock,s,rfl,hkn,h3,hs3,hm3⟩;refine⟨fun g=>?_,fun g=>?_⟩
 .simp only[wy,zdt]at g;obtain⟨a,ha⟩:∃a,b.e.ways[k]?=some a:=⟨_,zge (show k<b.e.ways.length by omega)⟩;have hst:b.e.ways.take (k+1)=b.e.ways.take k++[a]:=by rw[q9,ha];rfl
  obtain⟨w1,_,wes,w2,w3⟩:=(hlv.le h3.sh).get ha;obtain⟨rfl,hai⟩:=csIK w2;obtain⟨r1,r2,r3⟩:=hfl (J:=[_]) h3;refine⟨fun vs K'=>vs=[]∧∃(es':Array MapEntry)(clock':Nat)(s':List Int),Held S2 K' [.blk ro (.map es' clock'),flowB fb p (.slice b0 p.blocks.length c0) (.slice (some ⟨ib,0,none⟩) p.blocks.length p.blocks.length),inB ib ims]∧SetAt es' clock' s'∧∀y,y∈s'↔∃c:Nat,(c:Int)∈b.e.ways.take (k+1)∧c<p.blocks.length∧y∈sets c,?_,fun _=>?_,[vi a],rfl,?_,?_⟩
  .rintro vs K4 _ ⟨rfl,es4,clock4,s4,h4,hs4,hm4⟩;refine⟨_,z00,n-1,om,k+1,es4,clock4,s4,?_,om,h4,hs4,hm4⟩;simp only[wy];rw[w64 om om];rfl
  .simp only[Chk.holds,wy];exact⟨w1,om,om⟩
  .simp only[wy];exact w3
  refine⟨fun vs K'=>vs=[.bool (decide (0≤a∧a<(p.blocks.length:Int)))]∧K'=K3,?_,fun g2=>?_,fun g2=>?_⟩
  .rintro vs K4 _ ⟨rfl,rfl⟩;refine⟨fun g2=>?_,fun g2=>?_⟩
   .simp only[wy,zdt]at g2;obtain⟨c,rfl⟩:∃c:Nat,a=(c:Int):=⟨a.toNat,om⟩;have hcN:c<ims.length:=om;obtain⟨mv,hmv⟩:∃mv,ims[c]?=some mv:=⟨_,zge hcN⟩;have hset:=(him c mv hmv).le l2;have hset':=hset;obtain⟨rt,est,clt,rfl,_,_⟩:=hset';refine⟨[.slice (some ⟨ib,0,none⟩) p.blocks.length p.blocks.length],rfl,r2,fun _=>?_,[.map (some rt)],rfl,?_,?_⟩
    .simp only[Chk.holds,wy];exact⟨rfl,om,om⟩
    .simp only[wy];exact zo8 (n:=p.blocks.length) r3 hmv
    refine z02 (qb 217) (Held.call (P:=zP) (f:=217) (args:=#[.map (some ro),.map (some rt)]) (J:=[.blk ro (.map es clock)]) (I:=[flowB fb p (.slice b0 p.blocks.length c0) (.slice (some ⟨ib,0,none⟩) p.blocks.length p.blocks.length),inB ib ims])
     (R:=fun x S' J'=>S'=S2∧∃es' clock' s',x=.returned (.tuple #[])∧J'=[.blk ro (.map es' clock')]∧SetAt es' clock' s'∧∀y,y∈s'↔y∈s∨y∈sets c) h3
     (fun K' hK=>(Z99 ro es clock s (sets c) _ S2 K' hset hK hs3).mono fun x K''⟨es',clock',s',q1,q2,q3,q4⟩=>⟨S2,_,wx _,q2,rfl,es',clock',s',q1,rfl,q3,q4⟩)) ?_
    rintro x K5 ⟨S5,J5,_,h5,rfl,es5,clock5,s5,rfl,rfl,hs5,hm5⟩;refine⟨_,[],rfl,rfl,rfl,z01,_,z00,rfl,es5,clock5,s5,h5,hs5,fun y=>?_⟩;rw[hm5,hm3,hst];constructor
    .rintro(⟨d,h1,h2,h3⟩|h)
     .exact⟨d,List.mem_append_left _ h1,h2,h3⟩
     .exact⟨c,sM,om,h⟩
    .rintro⟨d,h1,h2,h3⟩;rcases zma.1 h1 with h1|h1
     .exact .inl ⟨d,h1,h2,h3⟩
     .have:d=c:=by simp at h1;omega
      subst this;exact .inr h3
   .simp only[wy,zdf]at g2;refine⟨_,z00,rfl,es,clock,s,h3,hs3,fun y=>?_⟩;rw[hm3,hst];constructor
    .rintro⟨d,h1,h2,h3⟩;exact⟨d,List.mem_append_left _ h1,h2,h3⟩
    .rintro⟨d,h1,h2,h3⟩;rcases zma.1 h1 with h1|h1
     .exact⟨d,h1,h2,h3⟩
     .exact absurd (by simp at h1;omega) g2
  .simp only[wy,zdt]at g2;refine⟨[.slice (some ⟨ib,0,none⟩) p.blocks.length p.blocks.length],rfl,r2,_,z00,?_,rfl⟩;simp only[wy];by_cases hc:a<(p.blocks.length:Int)<;>simp[hc]<;>omega
  .simp only[wy,zdf]at g2;refine⟨_,z00,?_,rfl⟩;simp only[wy];rw[qY (fun h=>g2 om)]
 .simp only[wy,zdf]at g;rw[ztl om]at hm3;have hea3:=hea.le l2;refine⟨fun vs K'=>vs=[]∧∃(es':Array MapEntry)(clock':Nat)(s':List Int),Held S2 K' [.blk ro (.map es' clock'),flowB fb p (.slice b0 p.blocks.length c0) (.slice (some ⟨ib,0,none⟩) p.blocks.length p.blocks.length),inB ib ims]∧SetAt es' clock' s'∧∀y,y∈s'↔(¬(b.e.calls=true∧b.e.to=y)∧y∈s),?_,?_⟩
  .rintro vs K4 _ ⟨rfl,es4,clock4,s4,h4,hs4,hm4⟩;refine z02 (qb 219) (h4.pure (R:=fun x S'=>∃v,x=.returned v∧SlR S' b.e.rds v) (Zhs b.e _ S2 hea3 e2 hrl)) ?_;rintro x K5 ⟨S5,l5,h5,rv,rfl,hrv⟩;obtain⟨b6,c6,rfl⟩:=hrv.sl;refine⟨_,[.slice b6 b.e.rds.length c6],rfl,rfl,rfl,z01,?_⟩;refine z02 (qb 218) (Held.call (P:=zP) (f:=218) (args:=#[.map (some ro),.slice b6 b.e.rds.length c6]) (J:=[.blk ro (.map es4 clock4)]) (I:=[flowB fb p (.slice b0 p.blocks.length c0) (.slice (some ⟨ib,0,none⟩) p.blocks.length p.blocks.length),inB ib ims])
    (R:=fun x S' J'=>S'=S5∧∃es' clock' s',x=.returned (.tuple #[])∧J'=[.blk ro (.map es' clock')]∧SetAt es' clock' s'∧∀y,y∈s'↔y∈s4∨y∈b.e.rds) h5
    (fun K' hK=>(zyy ro es4 clock4 s4 b.e.rds _ S5 K' hrv hK hs4).mono fun x K''⟨es',clock',s',q1,q2,q3,q4⟩=>⟨S5,_,wx _,q2,rfl,es',clock',s',q1,rfl,q3,q4⟩)) ?_
   rintro x K6 ⟨S6,J6,_,h6,rfl,es6,clock6,s6,rfl,rfl,hs6,hm6⟩;refine⟨_,[],rfl,rfl,rfl,z01,S6,ro,es6,clock6,s6,ww l2 l5,rfl,h6,hs6,fun y=>?_⟩;rw[hm6,hm4,hm3,Zkp];unfold outS;constructor
   .rintro(⟨h1,c,h2,h3,h4⟩|h)
    .exact .inr ⟨h1,c,zmf.2 ⟨h2,by simp;omega⟩,h4⟩
    .exact .inl h
   .rintro(h|⟨h1,c,h2,h3⟩)
    .exact .inr h
    .obtain⟨h4,h5⟩:=zmf.1 h2;exact .inl ⟨h1,c,h4,by simp at h5;omega,h3⟩
  .refine z03 [.bool b.e.calls] (qb 175) (zu7 b.e _ K3 (hea3.le h3.sh)) rfl z01 fun K4 l4=>⟨fun g2=>?_,fun g2=>?_⟩
   .simp only[wy]at g2;refine z02 (qb 177) (Held.call (P:=zP) (f:=177) (args:=#[.map (some ro),vi b.e.to]) (J:=[.blk ro (.map es clock)]) (I:=[flowB fb p (.slice b0 p.blocks.length c0) (.slice (some ⟨ib,0,none⟩) p.blocks.length p.blocks.length),inB ib ims])
     (R:=fun x S' J'=>S'=S2∧∃es' clock',x=.returned (.tuple #[])∧J'=[.blk ro (.map es' clock')]∧SetAt es' clock' (s.filter fun y=>decide (y≠b.e.to))) (h3.le l4)
     (fun K' hK=>(zmh ro es clock s b.e.to S2 K' hK hs3).mono fun x K''⟨es',clock',q1,q2,q3⟩=>⟨S2,_,wx _,q2,rfl,es',clock',q1,rfl,q3⟩)) ?_
    rintro x K6 ⟨S6,J6,_,h6,rfl,es6,clock6,rfl,rfl,hs6⟩;refine⟨_,[],rfl,rfl,rfl,z01,_,z00,rfl,es6,clock6,_,h6,hs6,fun y=>?_⟩;rw[zmf];simp only[zdt];exact⟨fun⟨h1,h2⟩=>⟨fun⟨_,e⟩=>h2 e.symm,h1⟩,fun⟨h1,h2⟩=>⟨h2,fun e=>h1 ⟨g2,e.symm⟩⟩⟩
   .simp only[wy]at g2;refine⟨_,z00,rfl,es,clock,s,h3.le l4,hs3,fun y=>?_⟩;exact⟨fun h=>⟨fun⟨h1,_⟩=>by(rw[g2]at h1;cases h1),h⟩,fun h=>h.2⟩
structure Grows(p:PrcX)(sets:Nat→List Int):Prop where
 nodup:∀i,(sets i).Nodup
 live:∀i y,y∈sets i→LiveB p y i
 kept:∀i y,y∈sets i→z86 p y (fun c=>y∈sets c) i 0
def Step(p:PrcX)(sets:Nat→List Int)(i:Nat)(s:List Int):Prop:=s.Nodup∧∀y,y∈s↔z86 p y (fun c=>y∈sets c) i 0
theorem Zej(p:PrcX):Grows p fun _=>[]:=⟨fun _=>List.nodup_nil,fun _ _ h=>(by cases h),fun _ _ h=>(by cases h)⟩
theorem z0n{l m:List Int}(h:l.Nodup)(hs:∀y∈l,y∈m):l.length≤m.length:=by
 induction l generalizing m with
 |nil=>simp
 |cons a l ih=>
  obtain⟨h1,h2⟩:=List.nodup_cons.1 h;have ha:=hs a (zms);have hlen:(m.erase a).length+1=m.length:=by
   rw[List.length_erase_of_mem ha];have:=List.length_pos_of_mem ha;omega
  have:=ih (m:=m.erase a) h2 fun y hy=>(List.mem_erase_of_ne (fun e:y=a=>h1 (e▸hy))).2 (hs y (zmm _ hy));simp only[zlc];omega
theorem zz8{l m:List Int}(hl:l.Nodup)(hs:∀y∈l,y∈m)(he:m.length=l.length):∀y∈m,y∈l:=by
 intro y hy;by_cases h:y∈l
 .exact h
 .have:=z0n (l:=y::l) (m:=m) (List.nodup_cons.2 ⟨h,hl⟩) fun z hz=>(zmc.1 hz).elim (fun e=>e▸hy) (hs z);simp only[zlc]at this;omega
theorem Step.grown{p:PrcX}{sets:Nat→List Int}(hg:Grows p sets){i:Nat}{s:List Int}(h:Step p sets i s):∀y∈sets i,y∈s:=fun y hy=>(h.2 y).2 (hg.kept i y hy)
def putF(sets:Nat→List Int)(i:Nat)(s:List Int):Nat→List Int:=fun j=>if j=i then s else sets j
theorem Grows.put{p:PrcX}{sets:Nat→List Int}(hg:Grows p sets){i:Nat}{s:List Int}(h:Step p sets i s):Grows p (putF sets i s):=by
 have hup:∀c y,y∈sets c→y∈putF sets i s c:=fun c y hy=>by
  unfold putF;split
  .rename_i e;subst e;exact h.grown hg y hy
  .exact hy
 refine⟨fun j=>?_,fun j y hy=>?_,fun j y hy=>?_⟩
 .unfold putF;split
  .exact h.1
  .exact hg.nodup j
 .unfold putF at hy;split at hy
  .rename_i e;subst e;exact zhz (z2u (fun c hc=>hg.live c y hc) ((h.2 y).1 hy))
  .exact hg.live j y hy
 .unfold putF at hy;split at hy
  .rename_i e;subst e;exact z2u (fun c hc=>hup c y hc) ((h.2 y).1 hy)
  .exact z2u (fun c hc=>hup c y hc) (hg.kept j y hy)
theorem Grows.all{p:PrcX}{sets:Nat→List Int}(hg:Grows p sets)(h:∀i,i<p.blocks.length→∃s,Step p sets i s∧s.length=(sets i).length){i:Nat}{y:Int}:y∈sets i↔LiveB p y i:=by
 refine⟨hg.live i y,fun hl=>hl (fun c=>y∈sets c) fun j hj=>?_⟩;have hjN:j<p.blocks.length:=by
  obtain⟨b,hb,_⟩:=hj;exact(zgi.1 hb).1
 obtain⟨s,hs,he⟩:=h j hjN;exact zz8 (hg.nodup j) (hs.grown hg) he y ((hs.2 y).2 hj)
theorem Grows.le{p:PrcX}{sets:Nat→List Int}(hg:Grows p sets)(i:Nat):(sets i).length≤p.regl.length:=
 z0n (hg.nodup i) fun y hy=>z51 (zh8 (hg.live i y hy))
def sumS(sets:Nat→List Int):Nat→Nat
 |0=>0
 |n+1=>sumS sets n+(sets n).length
theorem Z1j{p:PrcX}{sets:Nat→List Int}(hg:Grows p sets):∀n,sumS sets n≤n*p.regl.length
 |0=>by simp[sumS]
 |n+1=>by
  have:=Z1j hg n;have:=hg.le n;simp only[sumS,Nat.succ_mul];omega
theorem Z6v{sets:Nat→List Int}{i:Nat}{s:List Int}:∀n,i<n→sumS (putF sets i s) n+(sets i).length=sumS sets n+s.length
 |0,h=>om
 |n+1,h=>by
  have key:∀m,m≤i→sumS (putF sets i s) m=sumS sets m:=by
   intro m
   induction m with
   |zero=>intro _;rfl
   |succ m ih=>
    intro hm;have e:m≠i:=om;simp only[sumS,ih om,putF,qc e]
  by_cases e:n=i
  .subst e;simp only[sumS,key n (we _),putF,qj];omega
  .have:=Z6v (sets:=sets) (s:=s) n (show i<n by omega);have hn:putF sets i s n=sets n:=by unfold putF;rw[qc e]
   simp only[sumS,hn];omega
theorem zsk(l:List InsX)(sv:Value)(S:PH)(hs:SlR S l sv):Tri zP 201 #[sv] S fun x S'=>∃q:Nat,PH.le S S'∧x=.returned (.func (.func 220) #[] #[.pointer (some ⟨q,0,none⟩)])∧rowAt S' (some ⟨q,0,none⟩) [sv]:=by
 obtain⟨b,c,rfl⟩:=hs.sl;refine qr z6z [.slice b l.length c] ?_;intro q hq;refine z7z rfl ?_;refine ⟨q,PH.le_upd hq,by simp [evV,ev,argEv,List.lookup],⟨_,rfl,fun i v hi=>by
  cases i with
  |zero=>
   simp only[List.getElem?_cons_zero,qG]at hi;subst hi;rw[Addr.add_plain,PH.cell_at PH.upd_same];rfl
  |succ i=>simp at hi⟩⟩
theorem Z2w{b:List InsX}{j:Nat}{x:InsX}{y:Int}{q:Prop}(hj:j<b.length)(hx:b[b.length-1-j]?=some x):thru y (b.drop (b.length-(j+1))) q↔(y∈x.args∨(¬x.fills y∧thru y (b.drop (b.length-j)) q)):=by
 have hi:b.length-1-j=b.length-(j+1):=om;rw[hi]at hx;obtain⟨hlt,he⟩:=zgi.1 hx;rw[List.drop_eq_getElem_cons hlt,he,show b.length-(j+1)+1=b.length-j by omega];rfl
theorem Held.rawBlk{S H:PH}{I:List Itm}{e:TypeId}{xs:List Value}{n r:Nat}(h:Held S H (.raw e 1 xs n (.slice (some ⟨r,0,none⟩) n n)::I)):Held S H (.blk r (.cells xs.toArray e (0,0))::I):=by
 have ho:Own H e 1 (.slice (some ⟨r,0,none⟩) n n) n xs:=h.at_ _ (zms);have hr:H r=some (.cells xs.toArray e (0,0)):=by
  rcases ho.2 with⟨h1,_⟩|⟨g,cap,cur,h1,h2,h3,h4,h5,h6⟩
  .cases h1
  .cases h1;rw[Nat.mul_one]at h5 h6;have:cur=xs.toArray:=by
    rw[←h6,ztl (by rw[Array.length_toList,h5];exact we _)]
   rw[h2,this]
 have hJ:Held S H [.blk r (.cells xs.toArray e (0,0))]:=⟨h.sh,fun i hi=>by rw [zsi.1 hi];exact hr,fun i hi k hk=>by
  rw[zsi.1 hi]at hk;simp only[Itm.ob,qG]at hk;subst hk;exact h.off _ (zms) r rfl,List.pairwise_singleton _ _⟩
 exact Held.step (J:=[.raw e 1 xs n (.slice (some ⟨r,0,none⟩) n n)]) (J':=[.blk r (.cells xs.toArray e (0,0))]) h (wx _) (fun k o hk _=>hk) (fun k a b=>absurd a b) hJ fun j hj k hk=>by
  rw[zsi.1 hj]at hk;simp only[Itm.ob,qG]at hk;subst hk;exact .inr ⟨_,zsi.2 rfl,rfl⟩
theorem Zmj:OneOk zP 216 8 (.map none):=OneOk.of kr rfl
theorem Zns:Tryz.prog.underlying 217=some (.slice 216):=kr
theorem zv2{S:PH}{p:PrcX}{bv:Value}(h:SlR S p.blocks bv):∀x∈p.regl,InI x:=by
 intro x hx;obtain⟨b,hb,hxb⟩:=List.mem_flatMap.1 hx;obtain⟨i,hi⟩:=qJ hb;obtain⟨_,_,cs,hc,_⟩:=h.get hi;obtain⟨iv,es,rfl,his,hes⟩:=blk_iff.1 hc;obtain⟨av,rfl,e1,e2,hea,e3,e4,e5⟩:=end_iff.1 hes;have hargs:∀{l:List Int} {v:Value},SlR S l v→∀y∈l,InI y:=fun hl y hy=>by
  obtain⟨k,hk⟩:=qJ hy;obtain⟨_,_,ds,hd,_⟩:=hl.get hk;exact(csIK hd).2
 unfold BlkX.regs at hxb;rcases zma.1 hxb with h1|h1
 .obtain⟨y,hy,hxy⟩:=List.mem_flatMap.1 h1;obtain⟨k,hk⟩:=qJ hy;obtain⟨_,_,ds,hd,_⟩:=his.get hk;obtain⟨av2,dv,rfl,_,_,ha,_⟩:=ins_iff.1 hd;exact hargs ha x hxy
 .unfold EndX.regs at h1;rcases zma.1 h1 with h1|h1
  .split at h1
   .simp at h1;rw[h1];exact e2
   .cases h1
  .split at h1
   .exact hargs hea x h1
   .cases h1
def InsAt(S0 S:PH)(ims:List Value)(sets:Nat→List Int):Prop:=∀c v,ims[c]?=some v→SetR S v (sets c)∧∀r,v=.map (some r)→S0 r=none
theorem InsAt.le{S0 S S':PH}{ims:List Value}{sets:Nat→List Int}(h:InsAt S0 S ims sets)(hl:PH.le S S'):InsAt S0 S' ims sets:=fun c v hv=>⟨(h c v hv).1.le hl,(h c v hv).2⟩
theorem InsAt.set{S0 S:PH}{ims:List Value}{sets:Nat→List Int}(h:InsAt S0 S ims sets){i r:Nat}{s:List Int}(hs:SetR S (.map (some r)) s)(h0:S0 r=none):InsAt S0 S (ims.set i (.map (some r))) (putF sets i s):=by
 intro c v hv;rw[List.getElem?_set]at hv;unfold putF;by_cases e:i=c
 .subst e;rw[qj rfl]at hv;split at hv
  .cases hv;rw[qj rfl];exact⟨hs,fun r' h'=>by cases h';exact h0⟩
  .cases hv
 .rw[qc e]at hv;rw[qc (fun h=>e h.symm)];exact h c v hv
theorem zwf{α:Type}(l:List α)(i:Nat)(a:α)(h:i<l.length):l.take i++[a]++l.drop (i+1)=l.set i a:=by
 rw[List.set_eq_take_append_cons_drop,qj h];simp
theorem Held.freezeSet{S0 S H:PH}{I:List Itm}{r:Nat}{es:Array MapEntry}{clock:Nat}{s:List Int}(h0:PH.le S0 S)(h:Held S H (.blk r (.map es clock)::I))(hs:SetAt es clock s):
  ∃S',PH.le S S'∧SetR S' (.map (some r)) s∧S0 r=none∧Held S' H I:=by
 have hr:S r=none:=h.off _ (zms) r rfl;obtain⟨h1,h2⟩:=h.freezeB;exact⟨_,h1,⟨r,es,clock,rfl,PH.upd_same,hs⟩,PH.none_of_le h0 hr,h2⟩
theorem Iter.congr{P:Program}{gv:Value}{S:PH}{n:Nat}{xs ys:Nat→List Value}(h:∀j,j<n→xs j=ys j)(hi:Iter P gv S n xs):Iter P gv S n ys:=by
 obtain⟨gf,lb,h1,h2,h3⟩:=hi;exact⟨gf,lb,h1,h2,fun l I H W g1 g2 g3 g4 g5=>h3 l I H W g1 g2 g3 (fun j H' W' hj a b m=>by rw[h j hj];exact g4 j H' W' hj a b m) g5⟩
theorem zpm(p:PrcX)(bv:Value)(S:PH)(hbv:SlR S p.blocks bv)(hp:p.Fit)(hE:∀b∈p.blocks,b.e.args.length≤20000000):
  Tri zP 176 #[.agg (prcVs p bv).toArray] S fun x S'=>∃(fb ib:Nat)(ims:List Value)(sets:Nat→List Int)(Sf:PH),PH.le S Sf∧x=.returned (pAt fb)∧Held Sf S' [flowB fb p bv (.slice (some ⟨ib,0,none⟩) p.blocks.length p.blocks.length),inB ib ims]∧ims.length=p.blocks.length∧InsAt S Sf ims sets ∧
   (∀c,(sets c).Nodup)∧∀c y,c<p.blocks.length→(y∈sets c↔LiveB p y c):=by
 have hN:=hp.n;obtain⟨b0,c0,rfl⟩:=hbv.sl;refine zxc (prcVs p (.slice b0 p.blocks.length c0)) kr kr ?_;simp only[prcVs];refine zhy (n:=p.blocks.length) Zns Zmj kr kr (by simp only[maxLen];omega) om (Held.nil (wx S)) fun ib K1 h1 _=>?_;have h1:=h1.rawBlk;refine z31 (vs:=[vi p.params,vi p.holds,vi p.regs,.slice b0 p.blocks.length c0,.slice (some ⟨ib,0,none⟩) p.blocks.length p.blocks.length]) h1 kr fun fb K2 _ h2=>?_;refine⟨fun _=>rfl,?_⟩;refine z0p [.slice (some ⟨ib,0,none⟩) p.blocks.length p.blocks.length] (off:=4) kr h2 (zms) rfl rfl ?_;refine ⟨fun n vs K=>∃(k:Nat) (ims:List Value) (S':PH),vs=[nI k]∧k+n=p.blocks.length∧PH.le S S'∧ims.length=p.blocks.length∧Held S' K [flowB fb p (.slice b0 p.blocks.length c0) (.slice (some ⟨ib,0,none⟩) p.blocks.length p.blocks.length),inB ib ims] ∧
  ∀c v,c<k→ims[c]?=some v→SetR S' v []∧∀r,v=.map (some r)→S r=none,
  ⟨p.blocks.length,0,List.replicate p.blocks.length (.map none),S,rfl,om,wx S,sM,h2,fun c v h=>om⟩,?_⟩
 rintro n vs K _ ⟨k,ims,S1,rfl,hkn,l1,hil,h3,him⟩;refine⟨fun g=>?_,fun g=>?_⟩
 .simp only[wy,zdt]at g;refine z0p [.slice (some ⟨ib,0,none⟩) p.blocks.length p.blocks.length] (off:=4) kr h3 (zms) rfl rfl ?_;refine z5g fun ro hro=>?_;have h4:=h3.new hro (.map #[] 0);obtain⟨S5,l5,hset,hS0,h5⟩:=h4.freezeSet l1 zk6;refine⟨fun _=>?_,?_⟩
  .simp only[Chk.holds,wy];exact⟨rfl,om,om⟩
  refine z06 (off:=k) (vs:=[.map (some ro)]) ?_ (h5.perm (qq _ _ _)) ?_ (by simp[oneC]) (by simp only[zlc,zln];omega) fun K6 h6=>?_
  .simp only[wy];simp[eltV,pOf,z0b,Addr.add_plain]
  .simp only[wy]
  rw[show([Value.map (some ro)]).length=1 from rfl,zwf ims k _ om]at h6;refine⟨_,z00,n-1,om,k+1,ims.set k (.map (some ro)),S5,?_,om,ww l1 l5,by simpa using hil,h6.perm (qq _ _ _),fun c v hc hv=>?_⟩
  .simp only[wy];rw[w64 om om];rfl
  .rw[List.getElem?_set]at hv;by_cases e:k=c
   .subst e;rw[qj rfl]at hv;split at hv
    .cases hv;exact⟨hset,fun r h=>by cases h;exact hS0⟩
    .cases hv
   .rw[qc e]at hv;obtain⟨q1,q2⟩:=him c v om hv;exact⟨q1.le l5,q2⟩
 .simp only[wy,zdf]at g;have him':InsAt S S1 ims fun _=>[]:=fun c v hv=>him c v (by have:=(zgi.1 hv).1;omega) hv;have hk0:sumS (fun _=>([]:List Int)) p.blocks.length=0:=by
   have:∀n,sumS (fun _=>([]:List Int)) n=0:=fun n=>by induction n with
    |zero=>rfl
    |succ n ih=>simp[sumS,ih]
   exact this _
  refine ⟨fun n vs K'=>∃(again:Bool) (ims:List Value) (sets:Nat→List Int) (S':PH),vs=[.bool again]∧n=p.blocks.length * p.regl.length - sumS sets p.blocks.length+(if again then 1 else 0)∧PH.le S S'∧ims.length=p.blocks.length∧Held S' K' [flowB fb p (.slice b0 p.blocks.length c0) (.slice (some ⟨ib,0,none⟩) p.blocks.length p.blocks.length),inB ib ims]∧InsAt S S' ims sets∧Grows p sets ∧
   (again=false→∀i,i<p.blocks.length→∃s,Step p sets i s∧s.length=(sets i).length),
   ⟨_,true,ims,fun _=>[],S1,rfl,rfl,l1,hil,h3,him',Zej p,fun h=>by cases h⟩,?_⟩
  rintro n vs K4 _ ⟨again,ims4,sets4,S4,rfl,rfl,l4,hil4,h4,him4,hg4,hst4⟩;refine⟨fun ga=>?_,fun ga=>?_⟩
  .simp only[wy]at ga;subst ga;have hsum4:=Z1j hg4 p.blocks.length;refine ⟨fun m vs K'=>∃(ch:Bool) (j:Nat) (ims':List Value) (sets':Nat→List Int) (S':PH),vs=[.bool ch,vi ((p.blocks.length:Int) - 1 - j)]∧j+m=p.blocks.length∧PH.le S S'∧ims'.length=p.blocks.length∧Held S' K' [flowB fb p (.slice b0 p.blocks.length c0) (.slice (some ⟨ib,0,none⟩) p.blocks.length p.blocks.length),inB ib ims']∧InsAt S S' ims' sets'∧Grows p sets' ∧
    sumS sets4 p.blocks.length≤sumS sets' p.blocks.length∧(ch=true→sumS sets4 p.blocks.length<sumS sets' p.blocks.length)∧(ch=false→∀i,p.blocks.length≤i+j→i<p.blocks.length→∃s,Step p sets' i s∧s.length=(sets' i).length),
    ⟨p.blocks.length,false,0,ims4,sets4,S4,?_,om,l4,hil4,h4,him4,hg4,we _,fun h=>(by cases h),fun _ i h1 h2=>(om)⟩,?_⟩
   .simp only[wy];rw[w64 om om];simp
   rintro m vs K5 _ ⟨ch,j,ims5,sets5,S5,rfl,hjm,l5,hil5,h5,him5,hg5,hs1,hs2,hs3⟩;refine⟨fun gj=>?_,fun gj=>?_⟩
   .simp only[wy,zdt]at gj;obtain⟨i,hij⟩:∃i:Nat,(p.blocks.length:Int)-1-j=(i:Int):=⟨p.blocks.length-1-j,om⟩;have hi:i<p.blocks.length:=om;obtain⟨b,hb⟩:∃b,p.blocks[i]?=some b:=⟨_,zge hi⟩;rw[hij];refine ⟨fun vs K'=>∃(ch':Bool) (ims':List Value) (sets':Nat→List Int) (S':PH),vs=[.bool ch']∧PH.le S S'∧ims'.length=p.blocks.length∧Held S' K' [flowB fb p (.slice b0 p.blocks.length c0) (.slice (some ⟨ib,0,none⟩) p.blocks.length p.blocks.length),inB ib ims']∧InsAt S S' ims' sets'∧Grows p sets' ∧
     sumS sets4 p.blocks.length≤sumS sets' p.blocks.length∧(ch'=true→sumS sets4 p.blocks.length<sumS sets' p.blocks.length)∧(ch'=false→∀i,p.blocks.length≤i+(j+1)→i<p.blocks.length→∃s,Step p sets' i s∧s.length=(sets' i).length),?_,?_⟩
    .rintro vs K6 _ ⟨ch',ims',sets',S',rfl,t1,t2,t3,t4,t5,t6,t7,t8⟩;refine⟨_,z00,m-1,om,ch',j+1,ims',sets',S',?_,om,t1,t2,t3,t4,t5,t6,t7,t8⟩;simp only[wy];rw[w64 om om];congr 3;omega
    refine z02 (qb 200) (Zbs p _ fb ib ims5 sets5 i b S5 K5 (hbv.le l5) hb hN (Nat.le_trans (hE b (zmg hb)) om) hil5 (fun c v h=>(him5 c v h).1) h5) ?_;rintro x K6 ⟨S6,ro,es6,cl6,s6,l6,rfl,h6,hs6,hm6⟩;refine⟨_,[.map (some ro)],rfl,rfl,rfl,z01,?_⟩;refine z31 (vs:=[.map none]) h6 kr fun sb K7 _ h7=>?_;refine z06 (off:=0) (vs:=[.map (some ro)]) kr h7 kr (by simp[oneC]) sM fun K8 h8=>?_;have h8:Held S6 K8 [bx sb 216 [.map (some ro)],.blk ro (.map es6 cl6),flowB fb p (.slice b0 p.blocks.length c0) (.slice (some ⟨ib,0,none⟩) p.blocks.length p.blocks.length),inB ib ims5]:=h8;have l56:=ww l5 l6;obtain⟨q1,_,ces,q2,q3⟩:=(hbv.le l56).get hb;obtain⟨iv,esv,rfl,his,hes⟩:=blk_iff.1 q2;obtain⟨b2,c2,rfl⟩:=his.sl;refine⟨fun _=>?_,[.slice b2 b.ins.length c2],rfl,?_,?_⟩
    .simp only[Chk.holds,wy];exact⟨q1,om,om⟩
    .simp only[wy];exact z54 (z0v h8.sh q3) 0 1
    refine z02 (qb 201) (h8.pure (R:=fun x S'=>∃q:Nat,x=.returned (.func (.func 220) #[] #[.pointer (some ⟨q,0,none⟩)])∧rowAt S' (some ⟨q,0,none⟩) [.slice b2 b.ins.length c2]) ((zsk b.ins _ S6 his).mono fun x S'⟨q,t1,t2,t3⟩=>⟨t1,q,t2,t3⟩)) ?_;rintro x K9 ⟨S9,l9,h9,q,rfl,hq⟩;refine⟨_,[.func (.func 220) #[] #[.pointer (some ⟨q,0,none⟩)]],rfl,rfl,rfl,z01,?_⟩;obtain⟨cells,hcells⟩:=(his.le l9).fn;have hc8:∀j',j'<b.ins.length→(cells (b.ins.length-1-j')).length=8:=fun j' hj'=>by
     obtain⟨y,hy⟩:∃y,b.ins[b.ins.length-1-j']?=some y:=⟨_,zge om⟩;have:=(hcells _ y hy).1;exact PV.RepRow.length this
    have hbl:=hp.ins b (zmg hb);refine⟨S9,b.ins.length,fun j'=>nI (b.ins.length-1-j')::cells (b.ins.length-1-j'),fun j' H'=>∃(es:Array MapEntry)(cl:Nat)(s:List Int),Held S9 H' [bx sb 216 [.map (some ro)],.blk ro (.map es cl),flowB fb p (.slice b0 p.blocks.length c0) (.slice (some ⟨ib,0,none⟩) p.blocks.length p.blocks.length),inB ib ims5]∧SetAt es cl s∧∀y,y∈s↔thru y (b.ins.drop (b.ins.length-j')) (outS p sets5 b y),h9.sh,?_,?_,?_,?_,?_⟩
    .refine Iter.congr (fun j' hj'=>?_) (zr0 b.ins S9 _ _ hq (his.le l9) om cells hcells);have:=hc8 j' hj';simp[z19,RS.pack,RS.tags,ztl,this]
    .rintro j' H' ⟨es,cl,s,hh,_⟩;exact hh.sh
    .exact⟨es6,cl6,s6,h9,hs6,fun y=>by rw[Nat.sub_zero,List.drop_length];exact hm6 y⟩
    .rintro j' H' hj' ⟨es,cl,s,hh,hs,hm⟩;obtain⟨y,hy⟩:∃y,b.ins[b.ins.length-1-j']?=some y:=⟨_,zge om⟩;obtain⟨hyc,_⟩:=hcells _ y hy;have hyc':=hyc;obtain⟨av,dv,hcell,_,_,hya,_,_,_,hyd,_⟩:=ins_iff.1 hyc;obtain⟨ab,ac,rfl⟩:=hya.sl;obtain⟨db,dc,rfl⟩:=hyd.sl;simp only[hcell];refine⟨rfl,?_⟩;refine z0p [.map (some ro)] (off:=0) kr hh (zms) rfl rfl ?_;rw[hcell]at hyc';refine z02 (qb 202) (Held.call (P:=zP) (f:=202) (args:=#[.map (some ro),.agg (List.toArray _)]) (J:=[.blk ro (.map es cl)]) (I:=[bx sb 216 [.map (some ro)],flowB fb p (.slice b0 p.blocks.length c0) (.slice (some ⟨ib,0,none⟩) p.blocks.length p.blocks.length),inB ib ims5])
      (R:=fun e S' J'=>S'=S9∧∃es' cl' s',e=.returned (.tuple #[])∧J'=[.blk ro (.map es' cl')]∧SetAt es' cl' s'∧∀z,z∈s'↔(z∈y.args∨(¬y.fills z∧z∈s))) (hh.perm (qq _ _ _))
      (fun K' hK=>(zu5 ro es cl s y _ S9 K' hyc' hK hs).mono fun e K''⟨es',cl',s',t1,t2,t3,t4⟩=>⟨S9,_,wx _,t2,rfl,es',cl',s',t1,rfl,t3,t4⟩)) ?_
     rintro e K'' ⟨S',J',_,hh',rfl,es',cl',s',rfl,rfl,hs',hm'⟩;refine⟨_,[],rfl,rfl,rfl,z01,_,z00,es',cl',s',hh'.perm (qq _ _ _),hs',fun z=>?_⟩;rw[hm',hm,Z2w hj' hy]
    .rintro H' ⟨es,cl,s,hh,hs,hm⟩;have hst:Step p sets5 i s:=⟨hs.nodup,fun y=>by
      rw[hm,Nat.sub_self,List.drop_zero];exact⟨fun h=>⟨b,hb,h⟩,fun⟨b',hb',h⟩=>by rw[hb]at hb';cases hb';exact h⟩⟩
     obtain⟨mv,hmv⟩:∃mv,ims5[i]?=some mv:=⟨_,zge om⟩;have hset:=(him5 i mv hmv).1.le (ww l6 l9);obtain⟨rt,est,clt,rfl,hrt,hst'⟩:=hset;have hsl:=z0n hst.1 fun y hy=>z51 (p:=p) (i:=i) (at_:=0) (z2u (fun c hc=>hg5.live c y hc) ((hst.2 y).1 hy));have hsl2:=hg5.le i;have hreg:=hp.regs;refine z0p [.map (some ro)] (off:=0) kr hh (zms) rfl rfl ?_;refine z0p [.slice (some ⟨ib,0,none⟩) p.blocks.length p.blocks.length] (off:=4) kr hh (zmm _ (zmm _ (zms))) rfl rfl ?_;have hib:H' ib=some (.cells ims5.toArray 216 (0,0)):=hh.blk (zmm _ (zmm _ (zmm _ (zms))));refine⟨fun _=>?_,[.map (some rt)],rfl,?_,?_⟩
     .simp only[Chk.holds,wy];exact⟨rfl,om,om⟩
     .simp only[wy];exact zo8 (n:=p.blocks.length) hib hmv
     refine zoh (α:=Int) (m:=encS s) (v:=.map (some ro)) rfl uSetK kr ⟨ro,es,cl,rfl,hh.blk (zmm _ (zms)),hs⟩ (by simp[encS];omega) ?_ ?_
     .intro x hx;simp only[zmc,List.not_mem_nil,or_false]at hx;rcases hx with rfl|rfl
      .simp only[wy];exact zo8 (n:=p.blocks.length) hib hmv
      .simp only[wy];exact zti (off:=4) (hh.blk (zmm _ (zmm _ (zms)))) 1
     refine zoh (α:=Int) (m:=encS (sets5 i)) (v:=.map (some rt)) rfl uSetK kr ⟨rt,est,clt,rfl,hh.sh _ _ hrt,hst'⟩ (by simp[encS];omega) z01 ?_;have hSle:PH.le S S9:=ww l56 l9;refine⟨fun gl=>?_,fun gl=>?_⟩
     .simp only[wy,zdt]at gl;have hgt:(sets5 i).length<s.length:=by
       have h1:=z0n (hg5.nodup i) (hst.grown hg5);have h2:s.length≠(sets5 i).length:=fun e=>by simp[encS,e]at gl
       omega
      refine z0p [.slice (some ⟨ib,0,none⟩) p.blocks.length p.blocks.length] (off:=4) kr hh (zmm _ (zmm _ (zms))) rfl rfl ?_;refine z0p [.map (some ro)] (off:=0) kr hh (zms) rfl rfl ?_;obtain⟨S10,l10,hset10,hS0,h10⟩:=Held.freezeSet hSle (hh.perm (qq _ _ _)) hs;refine⟨fun _=>?_,?_⟩
      .simp only[Chk.holds,wy];exact⟨rfl,om,om⟩
      refine z06 (off:=i) (vs:=[.map (some ro)]) ?_ (h10.tail.perm (qq _ _ _)) ?_ (by simp[oneC]) (by simp only[zlc,zln];omega) fun K12 h12=>?_
      .simp only[wy];simp[eltV,pOf,z0b,Addr.add_plain]
      .simp only[wy]
      rw[show([Value.map (some ro)]).length=1 from rfl,zwf ims5 i _ om]at h12;have hsum:=Z6v (sets:=sets5) (s:=s) p.blocks.length hi;exact⟨_,z00,true,ims5.set i (.map (some ro)),putF sets5 i s,S10,rfl,ww hSle l10,by simpa using hil5,h12.perm (qq _ _ _),(him5.le (ww (ww l6 l9) l10)).set hset10 hS0,hg5.put hst,om,fun _=>om,fun h=>by cases h⟩
     .simp only[wy,zdf]at gl;have heq:s.length=(sets5 i).length:=by
       have:¬((s.length:Int)≠((sets5 i).length:Int)):=by simpa[encS]using gl
       omega
      refine⟨_,z00,ch,ims5,sets5,S9,rfl,hSle,hil5,hh.tail.tail,him5.le (ww l6 l9),hg5,hs1,hs2,fun hc k hk1 hk2=>?_⟩;by_cases e:k=i
      .subst e;exact⟨s,hst,heq⟩
      .exact hs3 hc k om hk2
   .simp only[wy,zdf]at gj;have hjN:j=p.blocks.length:=om;have hsum5:=Z1j hg5 p.blocks.length;refine⟨_,rfl,_,?_,ch,ims5,sets5,S5,rfl,rfl,l5,hil5,h5,him5,hg5,fun hc i hi=>hs3 hc i om hi⟩;cases ch with
    |true=>have:=hs2 rfl;simp only[if_true];omega
    |false=>simp only[if_true,qp,if_false];omega
  .simp only[wy]at ga;subst ga;refine⟨fb,ib,ims4,sets4,S4,l4,rfl,h4,hil4,him4,hg4.nodup,fun c y _=>hg4.all (hst4 rfl)⟩
theorem Zfa{p:PrcX}{l:List Int}{c:Nat}(hn:l.Nodup)(hm:∀y,y∈l↔LiveB p y c):sortI l=liveL p c 0:=by
 refine zd6 (z9r hn) (z93 p c 0) fun x=>?_;rw[zao,hm,liveL_mem,Z2v]
theorem Z8u{p:PrcX}{l:List Int}{c a:Nat}(hn:l.Nodup)(hm:∀y,y∈l↔z3u p y c a):sortI l=liveL p c a:=by
 refine zd6 (z9r hn) (z93 p c a) fun x=>?_;rw[zao,hm,liveL_mem]
theorem zzf{p:PrcX}{l:List Int}(hp:p.Fit)(hn:l.Nodup)(hm:∀y∈l,y∈p.regl):l.length≤20000000:=
 Nat.le_trans (z0n hn hm) hp.regs
theorem Zc7(p:PrcX)(bv:Value)(S:PH)(hbv:SlR S p.blocks bv)(hp:p.Fit)(hE:∀b∈p.blocks,b.e.args.length≤20000000):
  Tri zP 129 #[.agg (prcVs p bv).toArray] S fun x S'=>PH.le S S'∧∃v,x=.returned v∧SlR S' (inL p) v:=by
 have hN:=hp.n;have hbv0:=hbv;obtain⟨b0,c0,rfl⟩:=hbv.sl;refine qr Z9i (prcVs p (.slice b0 p.blocks.length c0)) ?_;simp only[prcVs];refine z02 (qb 176) (zpm p (.slice b0 p.blocks.length c0) S hbv hp hE) ?_;rintro x K1 ⟨fb,ib,ims,sets,Sf,lf,rfl,h1,hil,him,hnd,hmem⟩;refine⟨_,[pAt fb],rfl,rfl,rfl,z01,?_⟩;refine⟨fun _=>rfl,?_⟩;refine z0p [.slice (some ⟨ib,0,none⟩) p.blocks.length p.blocks.length] (off:=4) kr h1 (zms) rfl rfl ?_;have h2:=h1.empty (α:=List Int) 29;refine ⟨fun n vs K=>∃(k:Nat) (v:Value) (S':PH),vs=[v,nI k]∧k+n=p.blocks.length∧PH.le Sf S'∧Held S' K [orow 29 ((List.range k).map fun i=>liveL p i 0) v,flowB fb p (.slice b0 p.blocks.length c0) (.slice (some ⟨ib,0,none⟩) p.blocks.length p.blocks.length),inB ib ims],
  ⟨p.blocks.length,0,.slice none 0 0,Sf,rfl,om,wx _,by simpa using h2⟩,?_⟩
 rintro n vs K _ ⟨k,v,S1,rfl,hkn,l1,h3⟩;refine⟨fun g=>?_,fun g=>?_⟩
 .simp only[wy,zdt]at g;have hk:k<p.blocks.length:=om;obtain⟨mv,hmv⟩:∃mv,ims[k]?=some mv:=⟨_,zge om⟩;obtain⟨rt,est,clt,rfl,hrt,hst⟩:=(him k mv hmv).1;have hib:K ib=some (.cells ims.toArray 216 (0,0)):=h3.blk (zmm _ (zmm _ (zms)));have hreg:∀y∈sets k,y∈p.regl:=fun y hy=>z51 (zh8 ((hmem k y hk).1 hy));refine⟨fun _=>?_,[.map (some rt)],rfl,?_,?_⟩
  .simp only[Chk.holds,wy];exact⟨rfl,om,om⟩
  .simp only[wy];exact zo8 (n:=p.blocks.length) hib hmv
  refine z02 (qb 178) (zow rt est clt (sets k) S1 K _ h3 (.inl (l1 _ _ hrt)) hst (fun y hy=>zv2 hbv0 y (hreg y hy)) (Nat.le_trans (zzf hp (hnd k) hreg) om)) ?_;rintro x K2 ⟨S2,wv,l2,rfl,hwv,h4⟩;rw[Zfa (hnd k) fun y=>hmem k y hk]at hwv;obtain⟨b3,c3,rfl⟩:=hwv.sl;refine⟨_,[.slice b3 (liveL p k 0).length c3],rfl,rfl,rfl,z01,?_⟩;refine z0t (more:=[liveL p k 0]) (b:=24) [.slice b3 (liveL p k 0).length c3] Zc4 Z2d rfl dC dC h4 kr (.cons (zth hwv) .nil) z01 (fun _=>kr) (fun _=>kr)
   (by simp only[maxLen,zlc,zln,zlm,wh];omega) (by simp only[zlc,zln,zlm,wh];omega) fun u v' S4 K4 l4 h5=>⟨z01,_,z00,n-1,om,k+1,v',S4,?_,om,ww l1 (ww l2 l4),by rw[List.range_succ,List.map_append];exact h5⟩
  simp only[wy];rw[w64 om om];rfl
 .simp only[wy,zdf]at g;have:k=p.blocks.length:=om;subst this;obtain⟨S3,s3,l3,h5⟩:=h3.freeze;exact⟨ww lf (ww l1 (ww l3 h5.sh)),v,rfl,s3.le h5.sh⟩
theorem zu4(p:PrcX)(bv:Value)(block:Int)(S:PH)(hbv:SlR S p.blocks bv)(hp:p.Fit)(hE:∀b∈p.blocks,b.e.args.length≤20000000):
  Tri zP 125 #[.agg (prcVs p bv).toArray,vi block] S fun x S'=>PH.le S S'∧∃v,x=.returned v∧SlR S' (z0y p block) v:=by
 have hN:=hp.n;have hbv0:=hbv;obtain⟨b0,c0,rfl⟩:=hbv.sl;refine qr zwm (prcVs p (.slice b0 p.blocks.length c0)++[vi block]) ?_;simp only[prcVs,cns];refine⟨fun g=>?_,fun g=>?_⟩
 .simp only[wy]at g;simp only[qu,zdt]at g;exact⟨wx S,_,rfl,by rw[Z86 om];exact z15 S⟩
 simp only[wy]at g;simp only[zof,zdf]at g;obtain⟨i,rfl⟩:∃i:Nat,block=(i:Int):=⟨block.toNat,om⟩;have hi:i<p.blocks.length:=om;obtain⟨b,hb⟩:∃b,p.blocks[i]?=some b:=⟨_,zge hi⟩;rw[Zdh hb];obtain⟨q1,_,ces,q2,q3⟩:=hbv.get hb;obtain⟨iv,es,rfl,his,hes⟩:=blk_iff.1 q2;obtain⟨av,rfl,e1,e2,hea,e3,e4,e5⟩:=end_iff.1 hes;obtain⟨b3,c3,rfl⟩:=hea.sl;refine⟨fun _=>?_,[vi b.e.kind,vi b.e.reg,.slice b3 b.e.args.length c3,vi b.e.to,vi b.e.next,vi b.e.els],rfl,?_,?_⟩
 .simp only[Chk.holds,wy];exact⟨q1,om,om⟩
 .simp only[wy];exact z54 q3 1 6
 refine z03 [.bool b.e.calls] (qb 175) (zu7 b.e _ S hea) rfl z01 fun K1 l1=>⟨fun g1=>?_,fun g1=>?_⟩
 .simp only[wy]at g1;simp only[qu,qy,zdt]at g1;refine⟨l1,_,rfl,?_⟩;have:¬b.crosses p.blocks.length:=by
   rintro⟨h1,h2,h3⟩;rw[h1]at g1;rcases g1 with(g1|g1)|g1
   .cases g1
   .omega
   .omega
  rw[qc this];exact z15 K1
 .simp only[wy]at g1;simp only[zof,qU,zdf]at g1;obtain⟨⟨g2,g3⟩,g4⟩:=g1;have hc:b.crosses p.blocks.length:=⟨g2,om,om⟩;rw[qj hc];obtain⟨m,hm⟩:∃m:Nat,b.e.next=(m:Int):=⟨b.e.next.toNat,om⟩;have hmN:m<p.blocks.length:=om;rw[hm,qN];refine z02 (qb 176) (zpm p (.slice b0 p.blocks.length c0) K1 (hbv.le l1) hp hE) ?_;rintro x K2 ⟨fb,ib,ims,sets,Sf,lf,rfl,h1,hil,him,hnd,hmem⟩;obtain⟨mv,hmv⟩:∃mv,ims[m]?=some mv:=⟨_,zge om⟩;have hno:=(him m mv hmv).2;obtain⟨rt,est,clt,rfl,hrt,hst⟩:=(him m mv hmv).1;have hK1:K1 rt=none:=hno rt rfl;have hib:K2 ib=some (.cells ims.toArray 216 (0,0)):=h1.blk (zmm _ (zms));have hreg:∀y∈sets m,y∈p.regl:=fun y hy=>z51 (zh8 ((hmem m y hmN).1 hy));refine⟨_,[pAt fb],rfl,rfl,rfl,z01,?_⟩;refine⟨fun _=>rfl,?_⟩;refine z0p [.slice (some ⟨ib,0,none⟩) p.blocks.length p.blocks.length] (off:=4) kr h1 (zms) rfl rfl ?_;refine⟨fun _=>?_,[.map (some rt)],rfl,?_,?_⟩
  .simp only[Chk.holds,wy];exact⟨rfl,om,om⟩
  .simp only[wy];exact zo8 (n:=p.blocks.length) hib hmv
  have hown:Held K1 K2 [.blk rt (.map est clt)]:=⟨ww lf h1.sh,fun i hi=>by rw [zsi.1 hi];exact h1.sh _ _ hrt,fun i hi g hg=>by
   rw[zsi.1 hi]at hg;simp only[Itm.ob,qG]at hg;subst hg;exact hK1,List.pairwise_singleton _ _⟩
  refine z02 (qb 177) (zmh rt est clt (sets m) b.e.to K1 K2 hown hst) ?_;rintro x K3 ⟨es3,cl3,rfl,h3,hs3⟩;refine⟨_,[],rfl,rfl,rfl,z01,?_⟩;have hreg3:∀y∈(sets m).filter (fun y=>decide (y≠b.e.to)),y∈p.regl:=fun y hy=>hreg y (zmf.1 hy).1;refine z02 (qb 178) (zow rt es3 cl3 _ K1 K3 _ h3 (.inr (zms)) hs3 (fun y hy=>zv2 (hbv0.le l1) y (hreg3 y hy)) (Nat.le_trans (zzf hp hs3.nodup hreg3) om)) ?_;rintro x K4 ⟨S4,wv,l4,rfl,hwv,h4⟩;have heq:sortI ((sets m).filter fun y=>decide (y≠b.e.to))=(liveL p m 0).filter fun x=>decide (x≠b.e.to):=by
   refine zd6 (z9r hs3.nodup) ((z93 p m 0).sublist List.filter_sublist) fun x=>?_;rw[zao,zmf,zmf,hmem m x hmN,liveL_mem,Z2v]
  rw[heq]at hwv;obtain⟨b6,c6,rfl⟩:=hwv.sl;exact⟨_,[_],rfl,rfl,rfl,z01,ww l1 (ww l4 h4.sh),_,rfl,hwv.le h4.sh⟩
structure RevAt{α:Type}(l m:List α)(i:Nat):Prop where
 len:m.length=l.length
 at_:∀t,t<l.length→m[t]?=if t<i∨l.length≤t+i then l[l.length-1-t]? else l[t]?
theorem RevAt.first{α:Type}(l:List α):RevAt l l 0:=⟨rfl,fun t h=>by rw[qc om]⟩
theorem RevAt.step{α:Type}{l m:List α}{i:Nat}{a b:α}(h:RevAt l m i)(hi:2*i+1<l.length)(ha:m[i]?=some a)(hb:m[l.length-1-i]?=some b):RevAt l ((m.set i b).set (l.length-1-i) a) (i+1):=by
 have ha':=h.at_ i om;have hb':=h.at_ (l.length-1-i) om;rw[qc om]at ha' hb';refine⟨by simpa using h.len,fun t ht=>?_⟩;rw[List.getElem?_set,List.length_set,h.len,List.getElem?_set,h.len];by_cases e1:l.length-1-i=t
 .rw[qj e1,qj om,qj om,←ha,ha'];congr 1;omega
 .rw[qc e1];by_cases e2:i=t
  .rw[qj e2,qj om,qj om,←hb,hb'];congr 1;omega
  .rw[qc e2,h.at_ t ht];by_cases e3:t<i∨l.length≤t+i
   .rw[qj e3,qj om]
   .rw[qc e3,qc om]
theorem RevAt.done{α:Type}{l m:List α}{i:Nat}(h:RevAt l m i)(hi:l.length≤2*i+1):m=l.reverse:=by
 refine List.ext_getElem? fun t=>?_;by_cases ht:t<l.length
 .rw[List.getElem?_reverse ht,h.at_ t ht];by_cases e:t<i∨l.length≤t+i
  .rw[qj e]
  .rw[qc e];congr 1;omega
 .rw[wu (by rw[h.len];omega),wu (by rw[List.length_reverse];omega)]
theorem Z8y(l:List (List Int))(v:Value)(S K:PH)(I:List Itm)(h:Held S K (orow 29 l v::I))(hl:l.length≤40000000):
  Tri zP 203 #[v] K fun x K'=>x=.returned (.tuple #[])∧Held S K' (orow 29 l.reverse v::I):=by
 obtain⟨b,c,rfl⟩:=(h.row (zms)).sl;refine qr z91 [.slice b l.length c] ?_;refine⟨fun n vs K'=>∃(i:Nat) (m:List (List Int)),vs=[nI i,vi ((l.length:Int)-1-i)]∧n=l.length-i∧i≤l.length∧RevAt l m i∧Held S K' (orow 29 m (.slice b l.length c)::I),⟨_,0,l,?_,rfl,om,RevAt.first l,h⟩,?_⟩
 .simp only[wy];rw[w64 om om];simp
 rintro n vs K1 _ ⟨i,m,rfl,rfl,hil,hr,h1⟩;refine⟨fun g=>?_,fun g=>?_⟩
 .simp only[wy,zdt]at g;have hi2:2*i+1<l.length:=om;obtain⟨k,hk⟩:∃k:Nat,(l.length:Int)-1-i=(k:Int):=⟨l.length-1-i,om⟩;have hk':k=l.length-1-i:=om;rw[hk];obtain⟨a,ha⟩:∃a,m[i]?=some a:=⟨_,zge (by rw[hr.len];omega)⟩;obtain⟨z,hz⟩:∃z,m[k]?=some z:=⟨_,zge (by rw[hr.len];omega)⟩;obtain⟨a1,_,acs,a2,a3⟩:=(h1.row (zms)).get ha;obtain⟨z1,_,zcs,z2,z3⟩:=(h1.row (zms)).get hz;obtain⟨av,rfl,a4⟩:=csLK a2;obtain⟨zv,rfl,z4⟩:=csLK z2;have a4':=a4;have z4':=z4;obtain⟨ab,ac,rfl⟩:=a4'.sl;obtain⟨zb,zc,rfl⟩:=z4'.sl;refine⟨fun _=>?_,[.slice zb z.length zc],rfl,?_,fun _=>?_,[.slice ab a.length ac],rfl,?_,?_⟩
  .simp only[Chk.holds,wy];exact⟨z1,om,om⟩
  .simp only[wy];exact z3
  .simp only[Chk.holds,wy];exact⟨a1,om,om⟩
  .simp only[wy];exact a3
  refine z1i (i:=i) (a:=a) (a':=z) (us:=[.slice zb z.length zc]) ?_ h1 ha rfl ?_ (by simp[oneC]) (zth z4) fun K2 h2=>?_
  .simp only[wy];rfl
  .simp only[wy]
  have hz':(m.set i z)[k]?=some z:=by
   rw[List.getElem?_set,qc om];exact hz
  refine z1i (i:=k) (a:=z) (a':=a) (us:=[.slice ab a.length ac]) ?_ h2 hz' rfl ?_ (by simp[oneC]) (zth a4) fun K3 h3=>?_
  .simp only[wy];rfl
  .simp only[wy]
  refine⟨_,z00,l.length-(i+1),om,i+1,(m.set i z).set k a,?_,rfl,om,?_,h3⟩
  .simp only[wy];rw[w64 om om,w64 om om];congr 2;congr 1;omega
  .subst hk';exact hr.step hi2 ha hz
 .simp only[wy,zdf]at g;have:=hr.done om;subst this;exact⟨rfl,h1⟩
noncomputable def backL(p:PrcX)(i n j:Nat):List (List Int):=(List.range j).map fun t=>liveL p i (n-t)
theorem Zg5(p:PrcX)(i:Nat)(b:BlkX):(backL p i b.ins.length b.ins.length).reverse=behL p i b:=by
 unfold backL behL;refine List.ext_getElem? fun t=>?_;by_cases ht:t<b.ins.length
 .rw[List.getElem?_reverse (by simpa using ht),zlm,wh,zem,zem,List.getElem?_range om,List.getElem?_range ht];simp only[Option.map_some];congr 2;omega
 .rw[wu (by simp;omega),wu (by simp;omega)]
theorem Z1u{p:PrcX}{sets:Nat→List Int}(hmem:∀c y,c<p.blocks.length→(y∈sets c↔LiveB p y c))(b:BlkX)(y:Int):outS p sets b y↔zb2 b.e p.blocks.length y (LiveB p y):=by
 unfold outS zb2;constructor
 .rintro(h|⟨h1,c,h2,h3⟩)
  .exact .inl h
  .have hc:c<p.blocks.length:=by have:=(zmf.1 h2).2;simp at this;omega
   exact .inr ⟨h1,c,h2,(hmem c y hc).1 h3⟩
 .rintro(h|⟨h1,c,h2,h3⟩)
  .exact .inl h
  .have hc:c<p.blocks.length:=by have:=(zmf.1 h2).2;simp at this;omega
   exact .inr ⟨h1,c,h2,(hmem c y hc).2 h3⟩
theorem Zhn{p:PrcX}{sets:Nat→List Int}(hmem:∀c y,c<p.blocks.length→(y∈sets c↔LiveB p y c)){i:Nat}{b:BlkX}(hb:p.blocks[i]?=some b)(k:Nat)(y:Int):thru y (b.ins.drop k) (outS p sets b y)↔z3u p y i k:=by
 constructor
 .exact fun h=>⟨b,hb,zbg (Z1u hmem b y).1 h⟩
 .rintro⟨b',hb',h⟩;rw[hb]at hb';cases hb';exact zbg (Z1u hmem b y).2 h
theorem Z9g(p:PrcX)(bv:Value)(block:Int)(S:PH)(hbv:SlR S p.blocks bv)(hp:p.Fit)(hE:∀b∈p.blocks,b.e.args.length≤20000000):
  Tri zP 171 #[.agg (prcVs p bv).toArray,vi block] S fun x S'=>PH.le S S'∧∃v,x=.returned v∧SlR S' (zb0 p block) v:=by
 have hN:=hp.n;have hbv0:=hbv;obtain⟨b0,c0,rfl⟩:=hbv.sl;refine zxp (prcVs p (.slice b0 p.blocks.length c0)++[vi block]) kr kr ?_;simp only[prcVs,cns];refine⟨fun g=>?_,fun g=>?_⟩
 .simp only[wy]at g;simp only[qu,zdt]at g;refine⟨wx S,_,rfl,?_⟩;have:zb0 p block=[]:=by
   unfold zb0;by_cases h0:block<0
   .rw[qj h0]
   .rw[qc h0,wu om]
  rw[this];exact z15 S
 simp only[wy]at g;simp only[zof,zdf]at g;obtain⟨i,rfl⟩:∃i:Nat,block=(i:Int):=⟨block.toNat,om⟩;have hi:i<p.blocks.length:=om;obtain⟨b,hb⟩:∃b,p.blocks[i]?=some b:=⟨_,zge hi⟩;have hbe:zb0 p (i:Int)=behL p i b:=by
  unfold zb0;rw[qc om,qN,hb]
 rw[hbe];have hbl:=hp.ins b (zmg hb);refine z02 (qb 176) (zpm p (.slice b0 p.blocks.length c0) S hbv hp hE) ?_;rintro x K1 ⟨fb,ib,ims,sets,Sf,lf,rfl,h1,hil,him,hnd,hmem⟩;refine⟨_,[pAt fb],rfl,rfl,rfl,z01,?_⟩;refine z02 (qb 200) (Zbs p _ fb ib ims sets i b Sf K1 (hbv.le lf) hb hN (Nat.le_trans (hE b (zmg hb)) om) hil (fun c v h=>(him c v h).1) h1) ?_;rintro x K2 ⟨S2,ro,es2,cl2,s2,l2,rfl,h2,hs2,hm2⟩;refine⟨_,[.map (some ro)],rfl,rfl,rfl,z01,?_⟩;refine z31 (vs:=[.map none]) h2 kr fun sb K3 _ h3=>?_;refine z06 (off:=0) (vs:=[.map (some ro)]) kr h3 kr (by simp[oneC]) sM fun K4 h4=>?_;have h4:Held S2 K4 [bx sb 216 [.map (some ro)],.blk ro (.map es2 cl2),flowB fb p (.slice b0 p.blocks.length c0) (.slice (some ⟨ib,0,none⟩) p.blocks.length p.blocks.length),inB ib ims]:=h4;refine z31 (vs:=[.slice none 0 0]) (h4.sub (J:=[bx sb 216 [.map (some ro)],.blk ro (.map es2 cl2)]) ((List.sublist_append_left [bx sb 216 [.map (some ro)],.blk ro (.map es2 cl2)] _))) kr fun ob K5 _ h5=>?_;have h5:=h5.empty (α:=List Int) 29;obtain⟨q1,_,ces,q2,q3⟩:=(hbv.le (ww lf l2)).get hb;obtain⟨iv,esv,rfl,his,hes⟩:=blk_iff.1 q2;obtain⟨b2,c2,rfl⟩:=his.sl;refine⟨fun _=>?_,[.slice b2 b.ins.length c2],rfl,?_,?_⟩
 .simp only[Chk.holds,wy];exact⟨q1,om,om⟩
 .simp only[wy];exact z54 (z0v h5.sh q3) 0 1
 refine z02 (qb 201) (h5.pure (R:=fun x S'=>∃q:Nat,x=.returned (.func (.func 220) #[] #[.pointer (some ⟨q,0,none⟩)])∧rowAt S' (some ⟨q,0,none⟩) [.slice b2 b.ins.length c2]) ((zsk b.ins _ S2 his).mono fun x S'⟨q,t1,t2,t3⟩=>⟨t1,q,t2,t3⟩)) ?_;rintro x K9 ⟨S9,l9,h9,q,rfl,hq⟩;refine⟨_,[.func (.func 220) #[] #[.pointer (some ⟨q,0,none⟩)]],rfl,rfl,rfl,z01,?_⟩;obtain⟨cells,hcells⟩:=(his.le l9).fn;have hc8:∀j',j'<b.ins.length→(cells (b.ins.length-1-j')).length=8:=fun j' hj'=>by
  obtain⟨y,hy⟩:∃y,b.ins[b.ins.length-1-j']?=some y:=⟨_,zge om⟩;have:=(hcells _ y hy).1;exact PV.RepRow.length this
 refine⟨S9,b.ins.length,fun j'=>nI (b.ins.length-1-j')::cells (b.ins.length-1-j'),fun j' H'=>∃(es:Array MapEntry)(cl:Nat)(s:List Int)(v:Value)(S':PH),PH.le S9 S'∧Held S' H' [orow 29 (backL p i b.ins.length j') v,bx ob 185 [v],bx sb 216 [.map (some ro)],.blk ro (.map es cl)]∧SetAt es cl s∧∀y,y∈s↔thru y (b.ins.drop (b.ins.length-j')) (outS p sets b y),h9.sh,?_,?_,?_,?_,?_⟩
 .refine Iter.congr (fun j' hj'=>?_) (zr0 b.ins S9 _ _ hq (his.le l9) om cells hcells);have:=hc8 j' hj';simp[z19,RS.pack,RS.tags,ztl,this]
 .rintro j' H' ⟨es,cl,s,v,S',l',hh,_⟩;exact ww l' hh.sh
 .exact⟨es2,cl2,s2,.slice none 0 0,S9,wx _,by simpa[backL]using h9,hs2,fun y=>by rw[Nat.sub_zero,List.drop_length];exact hm2 y⟩
 .rintro j' H' hj' ⟨es,cl,s,v,S',l',hh,hs,hm⟩;obtain⟨y,hy⟩:∃y,b.ins[b.ins.length-1-j']?=some y:=⟨_,zge om⟩;obtain⟨hyc,_⟩:=hcells _ y hy;have hyc':=hyc;obtain⟨av,dv,hcell,_,_,hya,_,_,_,hyd,_⟩:=ins_iff.1 hyc;obtain⟨ab,ac,rfl⟩:=hya.sl;obtain⟨db,dc,rfl⟩:=hyd.sl;simp only[hcell];rw[hcell]at hyc';obtain⟨vb,vc,rfl⟩:=(hh.row (zms)).sl;have hml:∀z,z∈s↔z3u p z i (b.ins.length-j'):=fun z=>by rw[hm,Zhn hmem hb]
  have hreg:∀z∈s,z∈p.regl:=fun z hz=>z51 ((hml z).1 hz);have hbk:(backL p i b.ins.length j').length=j':=by simp[backL]
  refine⟨rfl,?_⟩;refine z0p [.slice vb (backL p i b.ins.length j').length vc] (off:=0) kr hh (zmm _ (zms)) rfl rfl ?_;refine z0p [.map (some ro)] (off:=0) kr hh (zmm _ (zmm _ (zms))) rfl rfl ?_;refine z02 (qb 178) (zow ro es cl s S' H' _ hh (.inr sM) hs (fun z hz=>zv2 hbv0 z (hreg z hz)) (Nat.le_trans (zzf hp hs.nodup hreg) om)) ?_;rintro x K10 ⟨S10,wv,l10,rfl,hwv,h10⟩;rw[Z8u hs.nodup hml]at hwv;obtain⟨b3,c3,rfl⟩:=hwv.sl;refine⟨_,[.slice b3 (liveL p i (b.ins.length-j')).length c3],rfl,rfl,rfl,?_,?_⟩
  .intro x hx;rw[zsi.1 hx];exact z0r h10 (zmm _ (zms)) 0 1
  have hst:backL p i b.ins.length (j'+1)=backL p i b.ins.length j'++[liveL p i (b.ins.length-j')]:=by unfold backL;rw[List.range_succ,List.map_append];rfl
  refine z0t (more:=[liveL p i (b.ins.length-j')]) (b:=24) [.slice b3 (liveL p i (b.ins.length-j')).length c3] Zc4 Z2d rfl dC dC h10 kr (.cons (zth hwv) .nil) ?_ (fun _=>kr) (fun _=>kr)
   (by rw[hbk];simp only[maxLen,zlc,zln];omega) (by rw[hbk];simp only[zlc,zln];omega) fun u v' S11 K11 l11 h11=>⟨z01,?_⟩
  .intro x hx;rw[zsi.1 hx];exact z0r h10 (zmm _ (zms)) 0 1
  rw[←hst]at h11;obtain⟨vb',vc',rfl⟩:=(h11.row (zms)).sl;refine z06 (off:=0) (vs:=[.slice vb' (backL p i b.ins.length (j'+1)).length vc']) kr (h11.perm (qq _ _ _)) kr (by simp[oneC]) sM fun K12 h12=>?_;have h12:Held S11 K12 [bx ob 185 [.slice vb' (backL p i b.ins.length (j'+1)).length vc'],orow 29 (backL p i b.ins.length (j'+1)) (.slice vb' (backL p i b.ins.length (j'+1)).length vc'),bx sb 216 [.map (some ro)],.blk ro (.map es cl)]:=h12;refine z0p [.map (some ro)] (off:=0) kr h12 (zmm _ (zmm _ (zms))) rfl rfl ?_;have hperm:[bx ob 185 [.slice vb' (backL p i b.ins.length (j'+1)).length vc'],orow 29 (backL p i b.ins.length (j'+1)) (.slice vb' (backL p i b.ins.length (j'+1)).length vc'),bx sb 216 [.map (some ro)],.blk ro (.map es cl)].Perm ([.blk ro (.map es cl)]++[orow 29 (backL p i b.ins.length (j'+1)) (.slice vb' (backL p i b.ins.length (j'+1)).length vc'),bx ob 185 [.slice vb' (backL p i b.ins.length (j'+1)).length vc'],bx sb 216 [.map (some ro)]]):=by
   refine(qq _ _ _).trans ?_;exact(List.perm_append_comm (l₁:=[orow 29 (backL p i b.ins.length (j'+1)) (.slice vb' (backL p i b.ins.length (j'+1)).length vc'),bx ob 185 [.slice vb' (backL p i b.ins.length (j'+1)).length vc'],bx sb 216 [.map (some ro)]]) (l₂:=[.blk ro (.map es cl)]))
  have lS:PH.le S' S11:=ww l10 l11;refine z02 (qb 202) (Held.call (P:=zP) (f:=202) (args:=#[.map (some ro),.agg (List.toArray _)]) (J:=[.blk ro (.map es cl)]) (I:=[orow 29 (backL p i b.ins.length (j'+1)) (.slice vb' (backL p i b.ins.length (j'+1)).length vc'),bx ob 185 [.slice vb' (backL p i b.ins.length (j'+1)).length vc'],bx sb 216 [.map (some ro)]])
   (R:=fun e S'' J'=>S''=S11∧∃es' cl' s',e=.returned (.tuple #[])∧J'=[.blk ro (.map es' cl')]∧SetAt es' cl' s'∧∀z,z∈s'↔(z∈y.args∨(¬y.fills z∧z∈s))) (h12.perm hperm)
   (fun K' hK=>(zu5 ro es cl s y _ S11 K' (PV.RepRow.le (ww l' lS) hyc') hK hs).mono fun e K''⟨es',cl',s',t1,t2,t3,t4⟩=>⟨S11,_,wx _,t2,rfl,es',cl',s',t1,rfl,t3,t4⟩)) ?_
  rintro e K'' ⟨S'',J',_,hh',rfl,es',cl',s',rfl,rfl,hs',hm'⟩;refine⟨_,[],rfl,rfl,rfl,z01,_,z00,es',cl',s',.slice vb' (backL p i b.ins.length (j'+1)).length vc',S'',ww l' lS,hh'.perm ?_,hs',fun z=>?_⟩
  .exact List.perm_append_comm (l₁:=[.blk ro (.map es' cl')]) (l₂:=[orow 29 (backL p i b.ins.length (j'+1)) (.slice vb' (backL p i b.ins.length (j'+1)).length vc'),bx ob 185 [.slice vb' (backL p i b.ins.length (j'+1)).length vc'],bx sb 216 [.map (some ro)]])
  .rw[hm',hm,Z2w hj' hy]
 .rintro H' ⟨es,cl,s,v,S',l',hh,hs,hm⟩;obtain⟨vb,vc,rfl⟩:=(hh.row (zms)).sl;have hbk:(backL p i b.ins.length b.ins.length).length=b.ins.length:=by simp[backL]
  refine z0p [.slice vb (backL p i b.ins.length b.ins.length).length vc] (off:=0) kr hh (zmm _ (zms)) rfl rfl ?_;refine z02 (qb 203) (Z8y _ _ S' H' _ hh (by rw[hbk];omega)) ?_;rintro x K13 ⟨rfl,h13⟩;refine⟨_,[],rfl,rfl,rfl,z01,?_⟩;refine z0p [.slice vb (backL p i b.ins.length b.ins.length).length vc] (off:=0) kr h13 (zmm _ (zms)) rfl rfl ?_;rw[Zg5]at h13;obtain⟨S14,s14,l14,h14⟩:=h13.freeze;exact⟨ww lf (ww l2 (ww l9 (ww l' (ww l14 h14.sh)))),_,rfl,s14.le h14.sh⟩
structure FX where
 rg:Nat
 rf:Nat
 p:PrcX
 place:List Int
 slots:Int
 labs:List Int
 ents:List Int
 syms:List (List UInt8)
 stack:Int
 bv:Value
 pv:Value
 lv:Value
 ev:Value
 sv:Value
abbrev FX.rest(x:FX)(next:Int):List Value:=[x.sv,x.ev,vi next,vi x.stack]
abbrev FX.cells(x:FX)(pushed:Int):List Value:=[pAt x.rg,vi x.p.params,vi x.p.holds,vi x.p.regs,x.bv,x.pv,vi x.slots,x.lv,vi pushed]
structure FOk(S:PH)(x:FX):Prop where
 bl:SlR S x.p.blocks x.bv
 pl:SlR S x.place x.pv
 la:SlR S x.labs x.lv
 en:SlR S x.ents x.ev
 sy:SlR S x.syms x.sv
 ply:∀a∈x.place,0≤a∧a≤3000
 sl:0≤x.slots∧x.slots≤3000
 st:0≤x.stack∧x.stack≤131072
def FX.at_(x:FX)(r:Int):Int:=x.place.getD r.toNat 0
def FX.col(x:FX)(r:Int):Bool:=decide (x.at_ r<24)
def FX.reg(x:FX)(r:Int):Int:=1+x.at_ r
def FX.slot(x:FX)(pu r:Int):Int:=x.at_ r-24-x.slots-pu
structure GnH(S0 K:PH)(x:FX)(pu nx:Int)(l:List ItemR)(k:Nat)(J:List Itm):Prop where
 em:EmH S0 K x.rg 100 (x.rest nx) l k (bx x.rf 142 (x.cells pu)::J)
 n0:0≤nx
 nk:nx+k≤2199023255552
abbrev GnV(v:Value)(S0:PH)(x:FX)(pu nx:Int)(l:List ItemR)(k:Nat)(J:List Itm):Ending→PH→Prop:=fun e K'=>e=.returned v∧GnH S0 K' x pu nx l k J
abbrev GnQ(S0:PH)(x:FX)(pu nx:Int)(l:List ItemR)(k:Nat)(J:List Itm):Ending→PH→Prop:=GnV (.tuple #[]) S0 x pu nx l k J
section
variable {S0 K:PH}{x:FX}{pu nx:Int}{l l':List ItemR}{k k':Nat}{J:List Itm}
theorem GnH.sh(h:GnH S0 K x pu nx l k J):PH.le S0 K:=h.em.sh
theorem GnH.le{K':PH}(h:GnH S0 K x pu nx l k J)(hl:PH.le K K'):GnH S0 K' x pu nx l k J:=⟨h.em.le hl,h.n0,h.nk⟩
theorem GnH.less(h:GnH S0 K x pu nx l k J)(hk:k'≤k):GnH S0 K x pu nx l k' J:=⟨h.em.re (by have:=h.em.1;omega),h.n0,by have:=h.nk;omega⟩
theorem GnH.to(h:GnH S0 K x pu nx l k J){g:FuncId}{args:Array Value}(t:EmH S0 K x.rg 100 (x.rest nx) l k (bx x.rf 142 (x.cells pu)::J)→Tri zP g args K (EmQ S0 x.rg 100 (x.rest nx) l' k' (bx x.rf 142 (x.cells pu)::J)))(hk:k'≤k:=by omega):Tri zP g args K (GnQ S0 x pu nx l' k' J):=
 (t h.em).mono fun e K'⟨h1,h2⟩=>⟨h1,h2,h.n0,by have:=h.nk;omega⟩
theorem GnH.frow(h:GnH S0 K x pu nx l k J)(off n:Nat):rowAt K (some ⟨x.rf,off,none⟩) (((x.cells pu).drop off).take n):=by
 obtain⟨_,S,iv,_,hh⟩:=h.em;exact z0r (T:=142) (cs:=x.cells pu) hh (zmm _ (zmm _ (zms))) off n
theorem GnH.grow(h:GnH S0 K x pu nx l k J)(off n:Nat):rowAt K (some ⟨x.rg,off+1,none⟩) (((x.rest nx).drop off).take n):=by
 obtain⟨_,S,iv,_,hh⟩:=h.em;have:=z0r hh (zms) (off+1) n;rwa[List.drop_succ_cons]at this
theorem z05{P:Program}{X:List PanicEntry→PH→Prop}{β:Type}{E:List Value}{L:LK}{Q:β→List Value→PH→LK→Prop}{H:PH}{f:FuncId}{args:List VE}{g:Fm β}(hok:callB P f=true)
  (hc:Tri P f (args.map (evV E fun _=>0)).toArray H (GnQ S0 x pu nx l k J)) (hk:∀K',GnH S0 K' x pu nx l k J→den P X g E K' L Q):den P X (.call (.fn f) args (.tu []) [] g) E H L Q:=by
 refine z02 hok hc ?_;rintro e K' ⟨rfl,h⟩;exact⟨_,[],rfl,rfl,rfl,z01,by rw[zan];exact hk K' h⟩
theorem z2y{P:Program}{X:List PanicEntry→PH→Prop}{β:Type}{E:List Value}{L:LK}{Q:β→List Value→PH→LK→Prop}{H:PH}{f:FuncId}{args:List VE}{g:Fm β}{pend:List (SV×List SV)}{n:Int}(hok:callB P f=true)
  (hc:Tri P f (args.map (evV E fun _=>0)).toArray H (GnV (vi n) S0 x pu nx l k J)) (hp:∀K',GnH S0 K' x pu nx l k J→z0s E K' pend) (hk:∀K',GnH S0 K' x pu nx l k J→den P X g (E++[vi n]) K' L Q):den P X (.call (.fn f) args (.sc (.int .i64)) pend g) E H L Q:=by
 refine z02 hok hc ?_;rintro e K' ⟨rfl,h⟩;exact⟨_,[vi n],rfl,rfl,rfl,hp K' h,hk K' h⟩
def FX.has(x:FX)(r:Int):Prop:=0≤r∧r<x.place.length
theorem FX.at_get(r:Int)(hr:x.has r):∃n:Nat,r=(n:Int)∧x.place[n]?=some (x.at_ r):=by
 obtain⟨h1,h2⟩:=hr;refine⟨r.toNat,om,?_⟩;unfold FX.at_;rw[zgd,zge (show r.toNat<x.place.length by omega)];rfl
theorem FX.at_le{S:PH}(hx:FOk S x)(r:Int)(hr:x.has r):0≤x.at_ r∧x.at_ r≤3000:=by
 obtain⟨n,_,h⟩:=FX.at_get r hr;exact hx.ply _ (zmg h)
theorem zop(hx:FOk S0 x)(h:GnH S0 K x pu nx l k J)(r:Int)(hr:x.has r):x.pv=.slice (z0b x.pv) x.place.length (slCap x.pv)∧(z0b x.pv).isSome=true∧rowAt K (pOf (eltV x.pv r 1)) [vi (x.at_ r)]:=by
 obtain⟨b,c,hv⟩:=hx.pl.sl;obtain⟨n,rfl,hg⟩:=FX.at_get r hr;obtain⟨z1,_,cs,z2,z3⟩:=(hx.pl.le h.sh).get hg;obtain⟨rfl,_⟩:=csIK z2;refine⟨by rw[hv];simp[z0b,slCap],z1,z3⟩
theorem z48(hx:FOk S0 x)(h:GnH S0 K x pu nx l k J)(r:Int)(hr:x.has r):Gives zP 126 [pAt x.rf,vi r] K (.bool (x.col r)):=by
 obtain⟨z0,z1,z3⟩:=zop hx h r hr;refine qr z6q [pAt x.rf,vi r] ?_;refine⟨fun _=>rfl,[x.pv],by rw[z0];rfl,h.frow 5 1,fun _=>?_,[vi (x.at_ r)],rfl,z3,rfl,wx _⟩;simp only[Chk.holds,wy,arI];have h2:=hr.2;rw[z0];exact⟨z1,hr.1,by show r<(x.place.length:Int);exact h2⟩
theorem zab(hx:FOk S0 x)(h:GnH S0 K x pu nx l k J)(r:Int)(hr:x.has r):Gives zP 130 [pAt x.rf,vi r] K (vi (x.reg r)):=by
 obtain⟨z0,z1,z3⟩:=zop hx h r hr;obtain⟨q1,q2⟩:=FX.at_le hx r hr;refine qr zn9 [pAt x.rf,vi r] ?_;refine⟨fun _=>rfl,[x.pv],by rw[z0];rfl,h.frow 5 1,fun _=>?_,[vi (x.at_ r)],rfl,z3,?_,wx _⟩
 .simp only[Chk.holds,wy,arI];have h2:=hr.2;rw[z0];exact⟨z1,hr.1,by show r<(x.place.length:Int);exact h2⟩
 .show Ending.returned (vi (IntKind.i64.wrap (1+x.at_ r)))=_;rw[w64 om om];rfl
theorem zch(hx:FOk S0 x)(h:GnH S0 K x pu nx l k J)(r:Int)(hr:x.has r)(hp:0≤pu∧pu≤100000):Gives zP 131 [pAt x.rf,vi r] K (vi (x.slot pu r)):=by
 obtain⟨z0,z1,z3⟩:=zop hx h r hr;obtain⟨q1,q2⟩:=FX.at_le hx r hr;obtain⟨s1,s2⟩:=hx.sl;refine qr zm3 [pAt x.rf,vi r] ?_;refine⟨fun _=>rfl,[x.pv],by rw[z0];rfl,h.frow 5 1,fun _=>?_,[vi (x.at_ r)],rfl,z3,[vi x.slots],rfl,h.frow 6 1,[vi pu],rfl,h.frow 8 1,?_,wx _⟩
 .simp only[Chk.holds,wy,arI];have h2:=hr.2;rw[z0];exact⟨z1,hr.1,by show r<(x.place.length:Int);exact h2⟩
 .show Ending.returned (vi (IntKind.i64.wrap (IntKind.i64.wrap (IntKind.i64.wrap (x.at_ r-24)-x.slots)-pu)))=_;rw[w64 (n:=x.at_ r-24) om om,w64 (n:=x.at_ r-24-x.slots) om om,w64 om om];rfl
theorem zik(hx:FOk S0 x)(r:Int)(hr:x.has r):InI (x.reg r):=by
 obtain⟨q1,q2⟩:=FX.at_le hx r hr;exact inJ (by unfold FX.reg;omega) (by unfold FX.reg;omega)
theorem zns(hx:FOk S0 x)(r:Int)(hr:x.has r)(hp:0≤pu∧pu≤100000):InI (x.slot pu r):=by
 obtain⟨q1,q2⟩:=FX.at_le hx r hr;obtain⟨s1,s2⟩:=hx.sl;exact inJ (by unfold FX.slot;omega) (by unfold FX.slot;omega)
def FX.get(x:FX)(r spare:Int):Int:=if x.col r=true then x.reg r else spare
def FX.getL(x:FX)(pu r spare:Int):List ItemR:=if x.col r=true then[]else[⟨0,⟨22,spare,30,0,x.slot pu r⟩,0,0⟩]
def FX.setL(x:FX)(pu r from_:Int):List ItemR:=if x.col r=true then[⟨0,⟨15,x.reg r,from_,0,0⟩,0,0⟩]else[⟨0,⟨23,from_,30,0,x.slot pu r⟩,0,0⟩]
def FX.numL(x:FX)(pu r w:Int):List ItemR:=if x.col r=true then[⟨4,⟨20,x.reg r,0,0,0⟩,0,w⟩]else[⟨4,⟨20,26,0,0,0⟩,0,w⟩,⟨0,⟨23,26,30,0,x.slot pu r⟩,0,0⟩]
theorem zsc(hx:FOk S0 x)(r spare:Int)(hr:x.has r)(hs:InI spare):InI (x.get r spare):=by
 unfold FX.get;split
 .exact zik hx r hr
 .exact hs
theorem zob(hx:FOk S0 x)(hp:0≤pu∧pu≤100000)(r spare:Int)(hr:x.has r)(hs:InI spare)(h:GnH S0 K x pu nx l (k+1) J):Tri zP 136 #[pAt x.rf,vi r,vi spare] K (GnV (vi (x.get r spare)) S0 x pu nx (l++x.getL pu r spare) k J):=by
 refine qr zn7 [pAt x.rf,vi r,vi spare] ?_;refine z03 [.bool (x.col r)] (qb 126) (z48 hx h r hr) rfl z01 fun K1 l1=>?_;have h1:=h.le l1;simp only[cns];refine⟨fun g=>?_,fun g=>?_⟩
 .simp only[wy,arI]at g;refine z03 [vi (x.reg r)] (qb 130) (zab hx h1 r hr) rfl z01 fun K2 l2=>?_;refine⟨by unfold FX.get;rw[qj g];rfl,?_⟩;unfold FX.getL;rw[qj g,zan];exact(h1.le l2).less om
 .simp only[wy,arI]at g;refine⟨fun _=>rfl,[pAt x.rg],rfl,h1.frow 0 1,fun _=>rfl,?_⟩;simp only[cns];refine z03 [vi (x.slot pu r)] (qb 131) (zch hx h1 r hr hp) rfl (z0w (h1.frow 0 1) z01) fun K2 l2=>?_;have h2:=h1.le l2;simp only[cns];refine z05 (qb 55) (h2.to (znu spare 30 (x.slot pu r) hs dC (zns hx r hr hp))) fun K3 h3=>?_;refine⟨by unfold FX.get;rw[qc (by rw[g];simp)];rfl,?_⟩;unfold FX.getL;rw[qc (by rw[g];simp)];exact h3
theorem zxq(hx:FOk S0 x)(hp:0≤pu∧pu≤100000)(r from_:Int)(hr:x.has r)(hs:InI from_)(h:GnH S0 K x pu nx l (k+1) J):Tri zP 135 #[pAt x.rf,vi r,vi from_] K (GnQ S0 x pu nx (l++x.setL pu r from_) k J):=by
 refine qr znt [pAt x.rf,vi r,vi from_] ?_;refine z03 [.bool (x.col r)] (qb 126) (z48 hx h r hr) rfl z01 fun K1 l1=>?_;have h1:=h.le l1;simp only[cns];refine⟨fun g=>?_,fun g=>?_⟩
 .simp only[wy,arI]at g;refine⟨fun _=>rfl,[pAt x.rg],rfl,h1.frow 0 1,fun _=>rfl,?_⟩;simp only[cns];refine z03 [vi (x.reg r)] (qb 130) (zab hx h1 r hr) rfl (z0w (h1.frow 0 1) z01) fun K2 l2=>?_;have h2:=h1.le l2;simp only[cns];refine z05 (qb 56) (h2.to (zn4 (x.reg r) from_ (zik hx r hr) hs)) fun K3 h3=>?_;refine⟨rfl,?_⟩;unfold FX.setL;rw[qj g];exact h3
 .simp only[wy,arI]at g;refine⟨fun _=>rfl,[pAt x.rg],rfl,h1.frow 0 1,fun _=>rfl,?_⟩;simp only[cns];refine z03 [vi (x.slot pu r)] (qb 131) (zch hx h1 r hr hp) rfl (z0w (h1.frow 0 1) z01) fun K2 l2=>?_;have h2:=h1.le l2;simp only[cns];refine z05 (qb 54) (h2.to (z5h from_ 30 (x.slot pu r) hs dC (zns hx r hr hp))) fun K3 h3=>?_;refine⟨rfl,?_⟩;unfold FX.setL;rw[qc (by rw[g];simp)];exact h3
theorem zso(hx:FOk S0 x)(hp:0≤pu∧pu≤100000)(r w:Int)(hr:x.has r)(hs:InI w)(h:GnH S0 K x pu nx l (k+2) J):Tri zP 133 #[pAt x.rf,vi r,vi w] K (GnQ S0 x pu nx (l++x.numL pu r w) k J):=by
 refine qr zhx [pAt x.rf,vi r,vi w] ?_;refine z03 [.bool (x.col r)] (qb 126) (z48 hx h r hr) rfl z01 fun K1 l1=>?_;have h1:=h.le l1;simp only[cns];refine⟨fun g=>?_,fun g=>?_⟩
 .simp only[wy,arI]at g;refine⟨fun _=>rfl,[pAt x.rg],rfl,h1.frow 0 1,fun _=>rfl,?_⟩;simp only[cns];refine z03 [vi (x.reg r)] (qb 130) (zab hx h1 r hr) rfl (z0w (h1.frow 0 1) z01) fun K2 l2=>?_;have h2:=h1.le l2;simp only[cns];refine z05 (qb 57) (h2.to (z1r (x.reg r) w (zik hx r hr) hs)) fun K3 h3=>?_;refine⟨rfl,?_⟩;unfold FX.numL;rw[qj g];exact h3.less om
 .simp only[wy,arI]at g;refine⟨fun _=>rfl,[pAt x.rg],rfl,h1.frow 0 1,fun _=>rfl,?_⟩;simp only[cns];refine z05 (qb 57) (h1.to (z1r 26 w dC hs)) fun K2 h2=>?_;refine⟨[pAt x.rg],rfl,h2.frow 0 1,fun _=>rfl,?_⟩;simp only[cns];refine z03 [vi (x.slot pu r)] (qb 131) (zch hx h2 r hr hp) rfl (z0w (h2.frow 0 1) z01) fun K3 l3=>?_;have h3:=h2.le l3;simp only[cns];refine z05 (qb 54) (h3.to (z5h 26 30 (x.slot pu r) dC dC (zns hx r hr hp))) fun K4 h4=>?_;refine⟨rfl,?_⟩;unfold FX.numL;rw[qc (by rw[g];simp)];simpa only[zaa,cns]using h4
theorem z4h(h:GnH S0 K x pu nx l (k+1) J):Tri zP 42 #[pAt x.rg] K (GnV (vi nx) S0 x pu (nx+1) l k J):=by
 refine qr z7u [pAt x.rg] ?_;have hn0:=h.n0;have hnk:=h.nk;refine⟨fun _=>rfl,[vi nx],rfl,h.grow 2 1,?_⟩;simp only[cns];obtain⟨⟨hl,S,iv,hS,hh⟩,_,_⟩:=h;have w1:IntKind.i64.wrap (nx+1)=nx+1:=w64 om om;refine z06 (off:=3) (vs:=[vi (nx+1)]) rfl hh (by simp only[wy,arI,w1]) (by simp[oneC]) sM fun K1 h1=>?_;have h2:GnH S0 K1 x pu (nx+1) l k J:=⟨⟨om,S,iv,hS,h1⟩,om,om⟩;refine⟨[vi (nx+1)],rfl,h2.grow 2 1,?_,h2⟩;show Ending.returned (vi (IntKind.i64.wrap (nx+1-1)))=_;rw[w64 om om];congr 2;omega
def growL(n:Int):List ItemR:=if n=0 then[]else[⟨0,⟨15,30,30,0,n⟩,0,0⟩]
theorem znx(n:Int)(hn:InI n)(h:GnH S0 K x pu nx l (k+1) J):Tri zP 128 #[pAt x.rf,vi n] K (GnQ S0 x pu nx (l++growL n) k J):=by
 refine qr zlo [pAt x.rf,vi n] ?_;refine⟨fun g=>?_,fun g=>?_⟩
 .simp only[wy,arI,zdt]at g;refine⟨fun _=>rfl,[pAt x.rg],rfl,h.frow 0 1,fun _=>rfl,?_⟩;simp only[cns];refine z05 (qb 97) (h.to (z24 15 30 30 n dC dC dC hn)) fun K2 h2=>?_;refine⟨rfl,?_⟩;unfold growL;rw[qc g];exact h2
 .simp only[wy,arI,zdf]at g;refine⟨rfl,?_⟩;unfold growL;rw[qj (by simpa using g),zan];exact h.less om
end
theorem z1e{n m:Nat}{J J':List Value→PH→Prop}{L:LK}(h:(n==m)=false)(hl:L.lookup n=some J):((m,J')::L).lookup n=some J:=by simp[List.lookup,h,hl]
theorem Zm7{p:PrcX}{i:Nat}(hi:i<p.blocks.length):(inL p)[i]?=some (liveL p i 0):=by
 unfold inL;rw[zem,List.getElem?_range hi];rfl
theorem Z4r{p:PrcX}{i k:Nat}{b:BlkX}(hk:k<b.ins.length):(behL p i b)[k]?=some (liveL p i (k+1)):=by
 unfold behL;rw[zem,List.getElem?_range hk];rfl
theorem Zj0(p:PrcX)(i:Nat)(b:BlkX):(behL p i b).length=b.ins.length:=by simp[behL]
theorem Zbm(l:List UInt8):cmpS .eql ⟨l.toArray⟩ ⟨#[116,105,101]⟩=decide (l=tieB):=by
 show((⟨l.toArray⟩:ByteArray).toList==(⟨tieB.toArray⟩:ByteArray).toList)=_;rw[zs4]
theorem InI0:InI 0:=dC
abbrev CodeX:=List PrcX
def prcAt(c:CodeX)(i:Int):PrcX:=c.getD i.toNat ⟨0,0,0,[]⟩
def constB:List UInt8:=[99,111,110,115,116]
section
variable (c:CodeX)(i bi:Nat)(p:PrcX)(bl:BlkX)(t:Int)(d:Dat)
end
section
variable {c:CodeX}{i bi:Nat}{p:PrcX}{bl:BlkX}{t:Int}{d:Dat}
end
def ar0:List (List UInt8):=[[114,101,97,100,45,117,56],[101,114,114,111,114],[118,111,105,100],[37,119,105,110,100,101,114,115],[37,117,110,115,101,116]]
def ar1:List (List UInt8):=[[110,117,108,108,63],[112,97,105,114,63],[118,101,99,116,111,114,63],[115,116,114,105,110,103,63],[115,121,109,98,111,108,63],[99,104,97,114,63],[105,110,116,101,103,101,114,63],[98,111,111,108,101,97,110,63],[112,114,111,99,101,100,117,114,101,63],[101,111,102,45,111,98,106,101,99,116,63],[99,97,114],[99,100,114],[118,101,99,116,111,114,45,108,101,110,103,116,104],[115,116,114,105,110,103,45,108,101,110,103,116,104],[99,104,97,114,45,62,105,110,116,101,103,101,114],[105,110,116,101,103,101,114,45,62,99,104,97,114],[119,114,105,116,101,45,117,56],[37,98,111,120],[37,117,110,98,111,120],[37,119,105,110,100,33],[37,99,97,108,108,99,99]]
def ar2:List (List UInt8):=[[43],[45],[42],[113,117,111,116,105,101,110,116],[114,101,109,97,105,110,100,101,114],[60],[61],[101,113,63],[99,111,110,115],[115,101,116,45,99,97,114,33],[115,101,116,45,99,100,114,33],[109,97,107,101,45,118,101,99,116,111,114],[118,101,99,116,111,114,45,114,101,102],[109,97,107,101,45,115,116,114,105,110,103],[115,116,114,105,110,103,45,114,101,102],[37,115,101,116,45,98,111,120,33]]
def ar3:List (List UInt8):=[[118,101,99,116,111,114,45,115,101,116,33],[115,116,114,105,110,103,45,115,101,116,33]]
def z33(p:List UInt8):Int:=if ar0.contains p then 0 else if ar1.contains p then 1 else if ar2.contains p then 2 else if ar3.contains p then 3 else -1
def dat0:Dat:=.mk 0 0 [] []
def z4o(d:Dat):Bool:=decide (d.kind=0)&&decide (d.int=0)&&d.text.isEmpty&&d.list.isEmpty
theorem isDat0_iff{d:Dat}:z4o d=true↔d=dat0:=by
 obtain⟨k,n,t,l⟩:=d;show(decide (k=0)&&decide (n=0)&&t.isEmpty&&l.isEmpty)=true↔Dat.mk k n t l=.mk 0 0 [] [];simp[and_assoc]
def z2b(d:Dat):Bool:=decide ((d.chk 0 0).2=0)&&(decide (d.kind=0)||decide (d.kind=1)||decide (d.kind=2)||decide (d.kind=4)||(decide (d.kind=5)&&d.list.isEmpty))
def movB:List UInt8:=[109,111,118,101]
def hldB:List UInt8:=[104,101,108,100]
def cloB:List UInt8:=[99,108,111,115,117,114,101]
def ccB:List UInt8:=[37,99,97,108,108,99,99]
def z0a(p:PrcX)(l:List Int):Bool:=l.all fun r=>decide (0≤r∧r<p.regs)
def insOk(c:CodeX)(p:PrcX)(x:InsX):Bool:=
 if !z0a p x.args||(!z0a p [x.to] && !decide (x.op=tieB))then false
 else if x.op=constB then decide (x.args.length=0)&&decide (x.num=0)&&z2b x.const
 else if x.op=movB then decide (x.args.length=1)&&decide (x.num=0)&&z4o x.const
 else if x.op=hldB then decide (x.args.length=0)&&decide (0≤x.num)&&decide (x.num<p.holds)&&z4o x.const
 else if x.op=cloB then decide (1≤x.num)&&decide (x.num<c.length)&&decide ((x.args.length:Int)=(prcAt c x.num).holds)&&z4o x.const
 else if x.op=tieB then decide (x.args.length=2)&&decide (0≤x.num)&&decide (x.to=0)&&z4o x.const
 else if x.op=ccB then false
 else decide (z33 x.op=x.args.length)&&decide (x.num=0)&&z4o x.const
def finOk(p:PrcX)(e:EndX):Bool:=
 let reg:=z0a p [e.reg]
 let to:=z0a p [e.to]
 let args:=z0a p e.args&&decide (e.args.length≤6)
 let none:=e.args.isEmpty
 let next:=decide (0≤e.next)&&decide (e.next<p.blocks.length)
 let other:=decide (0≤e.els)&&decide (e.els<p.blocks.length)
 if e.kind=0 then next&&none&&decide (e.reg=0)&&decide (e.to=0)&&decide (e.els=0)
 else if e.kind=1 then next&&other&&none&&reg&&decide (e.to=0)
 else if e.kind=2∨e.kind=5 then reg&&none&&decide (e.to=0)&&decide (e.next=0)&&decide (e.els=0)
 else if e.kind=3 then reg&&args&&decide (e.to=0)&&decide (e.next=0)&&decide (e.els=0)
 else if e.kind=4 then reg&&args&&to&&next&&decide (e.els=0)
 else if e.kind=6 then reg&&none&&to&&next&&decide (e.els=0)
 else false
def BlkX.many(b:BlkX):Nat:=1+b.ins.length
def PrcX.many(p:PrcX):Nat:=(p.blocks.map BlkX.many).sum
def manyC(c:CodeX):Nat:=(c.map PrcX.many).sum
def prcOk(c:CodeX)(p:PrcX):Bool:=
 decide (0≤p.params)&&decide (p.params≤6)&&decide (0≤p.holds)&&decide (p.holds≤1000)&&decide (p.params≤p.regs) && !p.blocks.isEmpty &&
  p.blocks.all fun b=>b.ins.all (insOk c p)&&finOk p b.e
def z2p(c:CodeX):Bool:=(c.any fun p=>decide (2000<p.regs))||decide (4096<manyC c)||decide (300<c.length)
def z1h(c:CodeX):Int:=
 if z2p c then 151
 else match c with
 | []=>150
 |p::_=>if decide (p.params=0)&&decide (p.holds=0)&&c.all (prcOk c)then 0 else 150
structure GoodC(c:CodeX):Prop where
 many:manyC c≤4096
 few:c.length≤300
 regs:∀p∈c,p.regs≤2000
 first:∃p l,c=p::l∧p.params=0∧p.holds=0
 prcs:∀p∈c,prcOk c p=true
theorem zdy{c:CodeX}(h:z1h c=0):GoodC c:=by
 unfold z1h at h;by_cases hm:z2p c=true
 .rw[qj hm]at h;omega
 rw[qc hm]at h;simp only[z2p,qu,wl,zdt,not_or,not_exists,not_and]at hm
 match c,h with
 | [],h=>simp at h
 |p::l,h=>
  simp only at h;split at h
  .rename_i hh;simp only[zba,zdt,zat]at hh;exact⟨om,om,fun p hp=>by have:=hm.1.1 p hp;omega,⟨p,l,rfl,hh.1⟩,hh.2⟩
  .omega
theorem Z1b{α:Type}(f:α→Nat):∀{l:List α} {a:α},a∈l→f a≤(l.map f).sum
 |b::l,a,h=>by
  rw[wa,List.sum_cons];rcases zmc.1 h with rfl|h
  .omega
  .have:=Z1b f h;omega
theorem Z0j{α:Type}(f:α→Nat)(h:∀a,1≤f a):∀l:List α,l.length≤(l.map f).sum
 | []=>Nat.zero_le _
 |a::l=>by
  have:=Z0j f h l;have:=h a;rw[wa,List.sum_cons,zlc];omega
theorem Z56{p:PrcX}{b:BlkX}(h:b∈p.blocks):1+b.ins.length≤p.many:=Z1b BlkX.many h
theorem zvb{c:CodeX}{p:PrcX}(h:p∈c):p.many≤manyC c:=Z1b PrcX.many h
theorem Zh8(p:PrcX):p.blocks.length≤p.many:=Z0j BlkX.many (fun b=>by unfold BlkX.many;omega) p.blocks
structure GoodP(c:CodeX)(p:PrcX):Prop where
 params:0≤p.params∧p.params≤6
 holds:0≤p.holds∧p.holds≤1000
 regs:p.params≤p.regs∧p.regs≤2000
 blocks:0<p.blocks.length∧p.blocks.length≤4096
 ins:∀b∈p.blocks,b.ins.length≤4096∧∀x∈b.ins,insOk c p x=true
 fin:∀b∈p.blocks,finOk p b.e=true
theorem GoodC.prc{c:CodeX}(h:GoodC c){p:PrcX}(hp:p∈c):GoodP c p:=by
 have h1:=h.prcs p hp;simp only[prcOk,zba,zdt,qy,zat,List.isEmpty_eq_false_iff]at h1;have h2:=zvb hp;have h3:=h.many;have h4:=h.regs p hp;have h5:=Zh8 p;refine⟨om,om,om,⟨List.length_pos_iff.2 h1.1.2,om⟩,fun b hb=>⟨?_,(h1.2 b hb).1⟩,fun b hb=>(h1.2 b hb).2⟩;have:=Z56 hb;omega
theorem Z1z{c:CodeX}{i:Int}(h0:0≤i)(h1:i<c.length):prcAt c i∈c∧c[i.toNat]?=some (prcAt c i):=by
 have hlt:i.toNat<c.length:=om;have:prcAt c i=c[i.toNat]:=by
  unfold prcAt;rw[zgd,zge hlt];rfl
 rw[this];exact⟨List.getElem_mem hlt,zge hlt⟩
theorem regsOk_iff{p:PrcX}{l:List Int}:z0a p l=true↔∀r∈l,0≤r∧r<p.regs:=by
 unfold z0a;rw[zat];simp only[zdt]
structure InsGood(c:CodeX)(p:PrcX)(x:InsX):Prop where
 args:∀r∈x.args,0≤r∧r<p.regs
 to:x.op≠tieB→0≤x.to∧x.to<p.regs
 konst:x.op=constB→z2b x.const=true
 move:x.op=movB→x.args.length=1
 held:x.op=hldB→0≤x.num∧x.num<p.holds
 closure:x.op=cloB→1≤x.num∧x.num<c.length∧(x.args.length:Int)=(prcAt c x.num).holds
 tie:x.op=tieB→x.args.length=2∧0≤x.num
 prim:x.op≠constB→x.op≠movB→x.op≠hldB→x.op≠cloB→x.op≠tieB→z33 x.op=x.args.length
theorem z83{c:CodeX}{p:PrcX}{x:InsX}(h:insOk c p x=true):InsGood c p x:=by
 unfold insOk at h;split at h
 .cases h
 rename_i h1;simp only[qu,zba,qy,zdf,not_or,not_and,Bool.not_eq_false]at h1;have ha:=regsOk_iff.1 h1.1;have ht:x.op≠tieB→0≤x.to∧x.to<p.regs:=fun hop=>by
  have:z0a p [x.to]=true:=by
   cases hr:z0a p [x.to]with
   |true=>rfl
   |false=>exact absurd hop (by simpa using h1.2 hr)
  exact regsOk_iff.1 this _ (zsi.2 rfl)
 have dd:constB≠movB∧constB≠hldB∧constB≠cloB∧constB≠tieB∧movB≠hldB∧movB≠cloB∧movB≠tieB∧hldB≠cloB∧hldB≠tieB∧cloB≠tieB:=dC;obtain⟨d1,d2,d3,d4,d5,d6,d7,d8,d9,d10⟩:=dd;by_cases e1:x.op=constB
 .rw[qj e1]at h;simp only[zba]at h;exact⟨ha,ht,fun _=>h.2,fun e=>absurd (e1.symm.trans e) d1,fun e=>absurd (e1.symm.trans e) d2,fun e=>absurd (e1.symm.trans e) d3,fun e=>absurd (e1.symm.trans e) d4,fun e=>absurd e1 e⟩
 rw[qc e1]at h;by_cases e2:x.op=movB
 .rw[qj e2]at h;simp only[zba,zdt]at h;exact⟨ha,ht,fun e=>absurd e e1,fun _=>h.1.1,fun e=>absurd (e2.symm.trans e) d5,fun e=>absurd (e2.symm.trans e) d6,fun e=>absurd (e2.symm.trans e) d7,fun _ e=>absurd e2 e⟩
 rw[qc e2]at h;by_cases e3:x.op=hldB
 .rw[qj e3]at h;simp only[zba,zdt]at h;exact⟨ha,ht,fun e=>absurd e e1,fun e=>absurd e e2,fun _=>⟨h.1.1.2,h.1.2⟩,fun e=>absurd (e3.symm.trans e) d8,fun e=>absurd (e3.symm.trans e) d9,fun _ _ e=>absurd e3 e⟩
 rw[qc e3]at h;by_cases e4:x.op=cloB
 .rw[qj e4]at h;simp only[zba,zdt]at h;exact⟨ha,ht,fun e=>absurd e e1,fun e=>absurd e e2,fun e=>absurd e e3,fun _=>⟨h.1.1.1,h.1.1.2,h.1.2⟩,fun e=>absurd (e4.symm.trans e) d10,fun _ _ _ e=>absurd e4 e⟩
 rw[qc e4]at h;by_cases e5:x.op=tieB
 .rw[qj e5]at h;simp only[zba,zdt]at h;exact⟨ha,ht,fun e=>absurd e e1,fun e=>absurd e e2,fun e=>absurd e e3,fun e=>absurd e e4,fun _=>⟨h.1.1.1,h.1.1.2⟩,fun _ _ _ _ e=>absurd e5 e⟩
 rw[qc e5]at h;split at h
 .cases h
 simp only[zba,zdt]at h;exact⟨ha,ht,fun e=>absurd e e1,fun e=>absurd e e2,fun e=>absurd e e3,fun e=>absurd e e4,fun e=>absurd e e5,fun _ _ _ _ _=>h.1.1⟩
structure FinGood(p:PrcX)(e:EndX):Prop where
 kind:0≤e.kind∧e.kind≤6
 reg:e.kind≠0→0≤e.reg∧e.reg<p.regs
 reg0:0≤e.reg
 to0:0≤e.to
 args:∀r∈e.args,0≤r∧r<p.regs
 few:e.args.length≤6
 argsK:e.args≠[]→e.kind=3∨e.kind=4
 next:e.kind=0∨e.kind=1∨e.kind=4∨e.kind=6→0≤e.next∧e.next<p.blocks.length
 els:e.kind=1→0≤e.els∧e.els<p.blocks.length
 nextA:0≤e.next∧(e.next<p.blocks.length∨e.next=0)
 to:e.kind=4∨e.kind=6→0≤e.to∧e.to<p.regs
theorem z81{p:PrcX}{e:EndX}(h:finOk p e=true):FinGood p e:=by
 have r1:∀{r:Int},z0a p [r]=true→0≤r∧r<p.regs:=fun h=>regsOk_iff.1 h _ (zsi.2 rfl);unfold finOk at h;simp only at h;have nil:∀{P:Prop},e.args.isEmpty=true→((∀r∈e.args,0≤r∧r<p.regs)∧e.args.length≤6∧(e.args≠[]→P)):=fun{P}hn=>by
  have:e.args=[]:=List.isEmpty_iff.1 hn;rw[this];simp
 by_cases k0:e.kind=0
 .rw[qj k0]at h;simp only[zba,zdt]at h;obtain⟨a1,a2,a3⟩:=nil (P:=e.kind=3∨e.kind=4) h.1.1.1.2;exact⟨om,fun hk=>absurd k0 hk,om,om,a1,a2,a3,fun _=>h.1.1.1.1,om,om,om⟩
 rw[qc k0]at h;by_cases k1:e.kind=1
 .rw[qj k1]at h;simp only[zba,zdt]at h;obtain⟨a1,a2,a3⟩:=nil (P:=e.kind=3∨e.kind=4) h.1.1.2;have:=r1 h.1.2;exact⟨om,fun _=>this,om,om,a1,a2,a3,fun _=>h.1.1.1.1,fun _=>h.1.1.1.2,om,om⟩
 rw[qc k1]at h;by_cases k2:e.kind=2∨e.kind=5
 .rw[qj k2]at h;simp only[zba,zdt]at h;obtain⟨a1,a2,a3⟩:=nil (P:=e.kind=3∨e.kind=4) h.1.1.1.2;have:=r1 h.1.1.1.1;exact⟨om,fun _=>this,om,om,a1,a2,a3,om,om,om,om⟩
 rw[qc k2]at h;by_cases k3:e.kind=3
 .rw[qj k3]at h;simp only[zba,zdt]at h;have:=r1 h.1.1.1.1;exact⟨om,fun _=>this,om,om,regsOk_iff.1 h.1.1.1.2.1,h.1.1.1.2.2,fun _=>.inl k3,om,om,om,om⟩
 rw[qc k3]at h;by_cases k4:e.kind=4
 .rw[qj k4]at h;simp only[zba,zdt]at h;have:=r1 h.1.1.1.1;have h2:=r1 h.1.1.2;exact⟨om,fun _=>this,om,om,regsOk_iff.1 h.1.1.1.2.1,h.1.1.1.2.2,fun _=>.inr k4,fun _=>h.1.2,om,om,fun _=>h2⟩
 rw[qc k4]at h;by_cases k6:e.kind=6
 .rw[qj k6]at h;simp only[zba,zdt]at h;obtain⟨a1,a2,a3⟩:=nil (P:=e.kind=3∨e.kind=4) h.1.1.1.2;have:=r1 h.1.1.1.1;have h2:=r1 h.1.1.2;exact⟨om,fun _=>this,om,om,a1,a2,a3,fun _=>h.1.2,om,om,fun _=>h2⟩
 rw[qc k6]at h;cases h
theorem Z98(p:List UInt8)(H:PH):Gives zP 164 [txt p] H (vi (z33 p)):=by
 refine qr Z04 [txt p] ?_;refine⟨fun vs H'=>vs=[.bool (ar0.contains p)]∧H'=H,?_,?_⟩
 .rintro vs H' _ ⟨rfl,rfl⟩;refine⟨fun h=>?_,fun h=>?_⟩
  .simp only[wy,arI]at h;exact⟨by simp only[wy,arI,z33,h];rfl,wx _⟩
  simp only[wy,arI]at h;refine⟨fun vs H2=>vs=[.bool (ar1.contains p)]∧H2=H',?_,?_⟩
  .rintro vs H' _ ⟨rfl,rfl⟩;refine⟨fun h2=>?_,fun h2=>?_⟩
   .simp only[wy,arI]at h2;exact⟨by simp only[wy,arI,z33,h,h2];rfl,wx _⟩
   simp only[wy,arI]at h2;refine⟨fun vs H3=>vs=[.bool (ar2.contains p)]∧H3=H',?_,?_⟩
   .rintro vs H' _ ⟨rfl,rfl⟩;refine⟨fun h3=>?_,fun h3=>?_⟩
    .simp only[wy,arI]at h3;exact⟨by simp only[wy,arI,z33,h,h2,h3];rfl,wx _⟩
    simp only[wy,arI]at h3;refine⟨fun h4=>?_,fun h4=>?_⟩
    .simp only[wy,arI,z0m]at h4;have:ar3.contains p=true:=by simp[ar3]at h4⊢;exact h4
     exact⟨by simp only[wy,arI,z33,h,h2,h3,this];rfl,wx _⟩
    .simp only[wy,arI,z0m]at h4;have:ar3.contains p=false:=by simp[ar3]at h4⊢;exact h4
     exact⟨by simp only[wy,arI,z33,h,h2,h3,this];rfl,wx _⟩
   .repeat' refine And.intro (fun h=>?_) (fun h=>?_)
    all_goals
     refine⟨_,z00,?_,rfl⟩;simp only[wy,arI,z0m,zdt,zdf]at *;simp_all[ar2]
  .repeat' refine And.intro (fun h=>?_) (fun h=>?_)
   all_goals
    refine⟨_,z00,?_,rfl⟩;simp only[wy,arI,z0m,zdt,zdf]at *;simp_all[ar1]
 .repeat' refine And.intro (fun h=>?_) (fun h=>?_)
  all_goals
   refine⟨_,z00,?_,rfl⟩;simp only[wy,arI,z0m,zdt,zdf]at *;simp_all[ar0]
def z2o(d:Dat):ValW:=
 if(d.chk 0 0).2≠0 then⟨0,0,[]⟩
 else if d.kind=0 then⟨0,d.int,[]⟩
 else if d.kind=1 then⟨1,d.int,[]⟩
 else if d.kind=2 then⟨2,d.int,[]⟩
 else if d.kind=4 then⟨3,0,d.text⟩
 else if d.kind=5∧d.list.isEmpty=true then⟨4,0,[]⟩
 else⟨0,0,[]⟩
theorem zry(d:Dat)(cs:List Value)(H:PH)(hd:d.Rep H cs):Gives zP 180 [.agg cs.toArray] H (.tuple #[.agg (valW (z2o d)).toArray,.bool (z2b d)]):=by
 have hc:=Z47 d cs H hd;obtain⟨sv,rfl,hk,hn,ht,hs⟩:=Dat.Rep_iff.1 hd;obtain⟨b,c,rfl⟩:=hs.sl;refine qr zzd [vi d.kind,vi d.int,txt d.text,.slice b d.list.length c] ?_;refine z03 [vi (d.chk 0 0).2] (qb 209) hc rfl z01 fun H1 h1=>⟨fun g=>?_,fun g=>?_⟩
 .simp only[wy,arI,zdt]at g;refine⟨?_,h1⟩;have e1:z2b d=false:=by unfold z2b;simp[g]
  have e2:z2o d=⟨0,0,[]⟩:=by unfold z2o;rw[qj g]
  rw[e1,e2];rfl
 simp only[wy,arI,zdf,ne_eq,Decidable.not_not]at g;have e1:z2b d=(decide (d.kind=0)||decide (d.kind=1)||decide (d.kind=2)||decide (d.kind=4)||(decide (d.kind=5)&&d.list.isEmpty)):=by
  unfold z2b;rw[g];simp
 have e2:z2o d=if d.kind=0 then⟨0,d.int,[]⟩else if d.kind=1 then⟨1,d.int,[]⟩else if d.kind=2 then⟨2,d.int,[]⟩else if d.kind=4 then⟨3,0,d.text⟩else if d.kind=5∧d.list.isEmpty=true then⟨4,0,[]⟩else⟨0,0,[]⟩:=by
  unfold z2o;rw[qc om]
 rw[e1,e2];refine⟨fun vs K=>vs=[]∧K=H1∧d.kind≠0∧d.kind≠1∧d.kind≠2∧d.kind≠4∧¬(d.kind=5∧d.list.isEmpty=true),?_,fun g0=>?_,fun g0=>?_⟩
 .rintro vs K _ ⟨rfl,rfl,n0,n1,n2,n4,n5⟩;refine⟨?_,h1⟩;rw[qc n0,qc n1,qc n2,qc n4,qc n5];have:(decide (d.kind=0)||decide (d.kind=1)||decide (d.kind=2)||decide (d.kind=4)||(decide (d.kind=5)&&d.list.isEmpty))=false:=by
   simp only[n0,n1,n2,n4,decide_false,Bool.false_or,wj,zdf,List.isEmpty_eq_false_iff];by_cases h5:d.kind=5
   .exact .inr fun h=>n5 ⟨h5,by rw[h];rfl⟩
   .exact .inl h5
  rw[this];rfl
 .simp only[wy,arI,zdt]at g0;refine⟨?_,h1⟩;rw[qj g0];simp only[g0,decide_true,Bool.true_or];rfl
 simp only[wy,arI,zdf]at g0;refine⟨fun g1=>?_,fun g1=>?_⟩
 .simp only[wy,arI,zdt]at g1;refine⟨?_,h1⟩;rw[qc g0,qj g1];simp only[g1,decide_true,Bool.true_or,Bool.or_true];rfl
 simp only[wy,arI,zdf]at g1;refine⟨fun g2=>?_,fun g2=>?_⟩
 .simp only[wy,arI,zdt]at g2;refine⟨?_,h1⟩;rw[qc g0,qc g1,qj g2];simp only[g2,decide_true,Bool.true_or,Bool.or_true];rfl
 simp only[wy,arI,zdf]at g2;refine⟨fun g4=>?_,fun g4=>?_⟩
 .simp only[wy,arI,zdt]at g4;refine⟨?_,h1⟩;rw[qc g0,qc g1,qc g2,qj g4];simp only[g4,decide_true,Bool.true_or,Bool.or_true];rfl
 simp only[wy,arI,zdf]at g4;refine⟨fun g5=>?_,fun g5=>?_⟩
 .simp only[wy,arI,zdt]at g5;refine⟨fun g6=>?_,fun g6=>?_⟩
  .simp only[wy,arI,zdt]at g6;have hl:d.list=[]:=qV.1 om;refine⟨?_,h1⟩;rw[qc g0,qc g1,qc g2,qc g4,qj ⟨g5,by rw[hl];rfl⟩];have:(decide (d.kind=0)||decide (d.kind=1)||decide (d.kind=2)||decide (d.kind=4)||(decide (d.kind=5)&&d.list.isEmpty))=true:=by simp[g5,hl]
   rw[this];rfl
  .simp only[wy,arI,zdf]at g6;exact⟨_,z00,rfl,rfl,g0,g1,g2,g4,fun h=>g6 (by rw[List.isEmpty_iff.1 h.2];rfl)⟩
 .simp only[wy,arI,zdf]at g5;exact⟨_,z00,rfl,rfl,g0,g1,g2,g4,fun h=>g5 h.1⟩
theorem Z0u(d:Dat)(cs:List Value)(H:PH)(hd:d.Rep H cs):Gives zP 166 [.agg cs.toArray] H (.bool (z2b d)):=by
 have hc:=zry d cs H hd;obtain⟨sv,rfl,hk,hn,ht,hs⟩:=Dat.Rep_iff.1 hd;obtain⟨b,c,rfl⟩:=hs.sl;refine qr Z0z [vi d.kind,vi d.int,txt d.text,.slice b d.list.length c] ?_;refine z02 (qb 180) hc ?_;rintro e H1 ⟨rfl,h1⟩;exact⟨_,valW (z2o d)++[.bool (z2b d)],rfl,rfl,rfl,z01,rfl,h1⟩
theorem Z67(d:Dat)(cs:List Value)(l:List (List UInt8))(lv:Value)(H:PH)(hd:d.Rep H cs)(hl:SlR H l lv):Gives zP 134 [.agg cs.toArray,lv] H (vi ((wordX (z2o d) l).getD 0)):=by
 have hc:=zry d cs H hd;obtain⟨sv,rfl,hk,hm,ht,hs⟩:=Dat.Rep_iff.1 hd;obtain⟨b,c,rfl⟩:=hs.sl;obtain⟨b1,c1,rfl⟩:=hl.sl;refine qr Z01 [vi d.kind,vi d.int,txt d.text,.slice b d.list.length c,.slice b1 l.length c1] ?_;refine z02 (qb 180) hc ?_;rintro e H1 ⟨rfl,h1⟩;refine⟨_,valW (z2o d)++[.bool (z2b d)],rfl,rfl,rfl,z01,?_⟩;simp only[cns];refine z03 [vi ((wordX (z2o d) l).getD 0),.bool (wordX (z2o d) l).isSome] (qb 10) (zqn (z2o d) l _ H1 (hl.le h1)) rfl z01 fun H2 h2=>⟨rfl,ww h1 h2⟩
theorem z43(p:PrcX)(l:List Int)(bv lv:Value)(H:PH)(hb:SlR H p.blocks bv)(hl:SlR H l lv):Gives zP 165 [.agg (prcVs p bv).toArray,lv] H (.bool (z0a p l)):=by
 obtain⟨b,c,rfl⟩:=hl.sl;have hlm:=hl.max;have hmx:maxLen=9223372036854775807:=rfl;obtain⟨b2,c2,rfl⟩:=hb.sl;refine qr Z8o (prcVs p (.slice b2 p.blocks.length c2)++[.slice b l.length c]) ?_;simp only[prcVs,cns];refine⟨fun n vs K=>∃k:Nat,k+n=l.length∧vs=[.bool false,nI k]∧K=H∧∀r∈l.take k,0≤r∧r<p.regs,⟨l.length,0,om,rfl,rfl,sM⟩,?_⟩;rintro n vs K _ ⟨k,hkn,rfl,rfl,hall⟩;simp only[cns];refine⟨fun g=>?_,fun g=>?_⟩
 .simp only[wy,arI,zdt]at g;obtain⟨r,hr⟩:∃r,l[k]?=some r:=⟨_,zge om⟩;obtain⟨z1,_,cs,z2,z3⟩:=hl.get hr;obtain⟨rfl,_⟩:=csIK z2;refine⟨fun _=>?_,[vi r],rfl,by simp only[wy,arI];exact z3,fun g2=>?_,fun g2=>?_⟩
  .simp only[Chk.holds,wy,arI];exact⟨z1,om,om⟩
  .simp only[wy,arI]at g2;simp only[qu,zdt]at g2;refine⟨?_,wx _⟩;have:z0a p l=false:=by
    cases hh:z0a p l with
    |false=>rfl
    |true=>have:=regsOk_iff.1 hh r (zmg hr);omega
   rw[this];rfl
  .simp only[wy,arI]at g2;simp only[zof,zdf]at g2;refine⟨_,z00,n-1,om,k+1,om,?_,rfl,fun q hq=>?_⟩
   .simp only[wy,arI];rw[w64 om om];rfl
   .rw[q9,hr]at hq;rcases zma.1 hq with hq|hq
    .exact hall q hq
    .rw[zsi.1 hq];omega
 .simp only[wy,arI,zdf]at g;refine⟨?_,wx _⟩;rw[ztl om]at hall;rw[regsOk_iff.2 hall];rfl
def z8x(p:PrcX)(l:List Int):Bool:=l.all fun r=>decide (0≤r∧r<p.blocks.length)
theorem blksOk_iff{p:PrcX}{l:List Int}:z8x p l=true↔∀r∈l,0≤r∧r<p.blocks.length:=by
 unfold z8x;rw[zat];simp only[zdt]
theorem zqb(p:PrcX)(l:List Int)(bv lv:Value)(H:PH)(hb:SlR H p.blocks bv)(hl:SlR H l lv):Gives zP 168 [.agg (prcVs p bv).toArray,lv] H (.bool (z8x p l)):=by
 obtain⟨b,c,rfl⟩:=hl.sl;obtain⟨b2,c2,rfl⟩:=hb.sl;have hlm:=hl.max;have hmx:maxLen=9223372036854775807:=rfl;refine qr Z3a (prcVs p (.slice b2 p.blocks.length c2)++[.slice b l.length c]) ?_;simp only[prcVs,cns];refine⟨fun n vs K=>∃k:Nat,k+n=l.length∧vs=[.bool false,nI k]∧K=H∧∀r∈l.take k,0≤r∧r<p.blocks.length,⟨l.length,0,om,rfl,rfl,sM⟩,?_⟩;rintro n vs K _ ⟨k,hkn,rfl,rfl,hall⟩;simp only[cns];refine⟨fun g=>?_,fun g=>?_⟩
 .simp only[wy,arI,zdt]at g;obtain⟨r,hr⟩:∃r,l[k]?=some r:=⟨_,zge om⟩;obtain⟨z1,_,cs,z2,z3⟩:=hl.get hr;obtain⟨rfl,_⟩:=csIK z2;refine⟨fun _=>?_,[vi r],rfl,by simp only[wy,arI];exact z3,fun g2=>?_,fun g2=>?_⟩
  .simp only[Chk.holds,wy,arI];exact⟨z1,om,om⟩
  .simp only[wy,arI]at g2;simp only[qu,zdt]at g2;refine⟨?_,wx _⟩;have:z8x p l=false:=by
    cases hh:z8x p l with
    |false=>rfl
    |true=>have:=blksOk_iff.1 hh r (zmg hr);omega
   rw[this];rfl
  .simp only[wy,arI]at g2;simp only[zof,zdf]at g2;refine⟨_,z00,n-1,om,k+1,om,?_,rfl,fun q hq=>?_⟩
   .simp only[wy,arI];rw[w64 om om];rfl
   .rw[q9,hr]at hq;rcases zma.1 hq with hq|hq
    .exact hall q hq
    .rw[zsi.1 hq];omega
 .simp only[wy,arI,zdf]at g;refine⟨?_,wx _⟩;rw[ztl om]at hall;rw[blksOk_iff.2 hall];rfl
abbrev inV(y:InsX)(av dv:Value):List Value:=[txt y.op,vi y.to,av,vi y.const.kind,vi y.const.int,txt y.const.text,dv,vi y.num]
structure InR(S:PH)(y:InsX)(av dv:Value):Prop where
 op:y.op.length≤maxLen
 to:InI y.to
 args:SlR S y.args av
 ck:InI y.const.kind
 ci:InI y.const.int
 ct:y.const.text.length≤maxLen
 cl:SlR S y.const.list dv
 num:InI y.num
theorem InR.le{S S':PH}{y:InsX}{av dv:Value}(h:InR S y av dv)(l:PH.le S S'):InR S' y av dv:=⟨h.op,h.to,h.args.le l,h.ck,h.ci,h.ct,h.cl.le l,h.num⟩
theorem InR.dat{S:PH}{y:InsX}{av dv:Value}(h:InR S y av dv):y.const.Rep S [vi y.const.kind,vi y.const.int,txt y.const.text,dv]:=Dat.Rep_iff.2 ⟨dv,rfl,h.ck,h.ci,h.ct,h.cl⟩
theorem Zix(S:PH):dat0.Rep S [vi 0,vi 0,txt [],.slice none 0 0]:=Dat.Rep_iff.2 ⟨_,rfl,i0J,i0J,Nat.zero_le _,z15 S⟩
theorem Zdg(d:Dat):decide (d=dat0)=z4o d:=by
 cases h:z4o d with
 |true=>exact qX (isDat0_iff.1 h)
 |false=>exact qY fun e=>by rw[isDat0_iff.2 e]at h;cases h
section
variable {c:CodeX}{p:PrcX}{y:InsX}
theorem zku(h:y.op=constB):insOk c p y=((decide (y.args.length=0)&&decide (y.num=0)&&z0a p [y.to])&&z2b y.const):=by
 unfold insOk;rw[qj h,h,qY (show ¬constB=tieB by decide)];by_cases ha:y.args.length=0
 .have:z0a p y.args=true:=by rw[qV.1 ha];rfl
  rw[this];cases z0a p [y.to]<;>cases hq:z2b y.const<;>simp
 .simp[ha]
theorem Zdw(h:y.op=movB):insOk c p y=(decide (y.args.length=1)&&decide (y.num=0)&&z0a p [y.to]&&z0a p y.args&&z4o y.const):=by
 unfold insOk;rw[h,qY (show ¬movB=tieB by decide),qc (show ¬movB=constB by decide),qj rfl];cases z0a p y.args<;>cases z0a p [y.to]<;>simp
theorem Zeh(h:y.op=hldB):insOk c p y=(decide (y.args.length=0)&&(decide (0≤y.num)&&decide (y.num<p.holds))&&z0a p [y.to]&&z0a p y.args&&z4o y.const):=by
 unfold insOk;rw[h,qY (show ¬hldB=tieB by decide),qc (show ¬hldB=constB by decide),qc (show ¬hldB=movB by decide),qj rfl];cases z0a p y.args<;>cases z0a p [y.to]<;>simp[Bool.and_assoc]
theorem Z25(h:y.op=cloB):insOk c p y=(decide (1≤y.num)&&decide (y.num<c.length)&&(decide ((y.args.length:Int)=(prcAt c y.num).holds)&&z0a p [y.to]&&z0a p y.args&&z4o y.const)):=by
 unfold insOk;rw[h,qY (show ¬cloB=tieB by decide),qc (show ¬cloB=constB by decide),qc (show ¬cloB=movB by decide),qc (show ¬cloB=hldB by decide),qj rfl];cases z0a p y.args<;>cases z0a p [y.to]<;>simp[Bool.and_assoc]
theorem Zfg(h:y.op=tieB):insOk c p y=(decide (y.args.length=2)&&decide (0≤y.num)&&decide (y.to=0)&&z0a p y.args&&z4o y.const):=by
 unfold insOk;rw[h,qX (show tieB=tieB from rfl),qc (show ¬tieB=constB by decide),qc (show ¬tieB=movB by decide),qc (show ¬tieB=hldB by decide),qc (show ¬tieB=cloB by decide),qj rfl];cases z0a p y.args<;>simp
theorem Z6l(h:y.op=ccB):insOk c p y=false:=by
 unfold insOk;rw[h,qc (show ¬ccB=constB by decide),qc (show ¬ccB=movB by decide),qc (show ¬ccB=hldB by decide),qc (show ¬ccB=cloB by decide),qc (show ¬ccB=tieB by decide),qj rfl];split<;>rfl
theorem Zcl(h1:y.op≠constB)(h2:y.op≠movB)(h3:y.op≠hldB)(h4:y.op≠cloB)(h5:y.op≠tieB)(h6:y.op≠ccB):insOk c p y=(decide ((y.args.length:Int)=z33 y.op)&&decide (y.num=0)&&z0a p [y.to]&&z0a p y.args&&z4o y.const):=by
 unfold insOk;rw[qc h1,qc h2,qc h3,qc h4,qc h5,qc h6,qY h5];have:decide (z33 y.op=(y.args.length:Int))=decide ((y.args.length:Int)=z33 y.op):=by
  by_cases h:z33 y.op=(y.args.length:Int)
  .rw[qX h,qX h.symm]
  .rw[qY h,qY fun e=>h e.symm]
 rw[this];cases z0a p y.args<;>cases z0a p [y.to]<;>simp
theorem Zcr(c:CodeX)(p:PrcX)(y:InsX)(cv bv av dv:Value)(H:PH)(hc:SlR H c cv)(hb:SlR H p.blocks bv)(hy:InR H y av dv):Gives zP 119 [.agg #[cv],.agg (prcVs p bv).toArray,.agg (inV y av dv).toArray] H (.bool (insOk c p y)):=by
 obtain⟨cb,cc,rfl⟩:=hc.sl;obtain⟨bb,bc,rfl⟩:=hb.sl;obtain⟨ab,ac,hav⟩:=hy.args.sl;obtain⟨db,dc,hdv⟩:=hy.cl.sl;have hcm:=hc.max;have ham:=hy.args.max;have hmx:maxLen=9223372036854775807:=rfl;refine qr Zcz ([.slice cb c.length cc]++prcVs p (.slice bb p.blocks.length bc)++inV y av dv) ?_ (by rw[hav,hdv];kernel_rfl) kr;simp only[prcVs,inV,cns];refine z03 [vi (z33 y.op)] (qb 164) (Z98 y.op H) rfl z01 fun K1 l1=>?_;simp only[cns];refine z0k (α:=Int) (l:=[y.to]) (b:=8) [vi y.to] z0g z0e rfl dC dC (Held.nil l1) kr (.cons (z09 hy.to) .nil) z01 fun v2 K2 h2 _ _=>?_;have l2:=h2.sh;simp only[cns];refine z03 [.bool (z0a p [y.to])] (qb 165) (z43 p [y.to] (.slice bb p.blocks.length bc) v2 K2 (hb.le l2) ((h2.row (zms)).slR l2)) rfl z01 fun K3 l3=>?_;have l03:=ww l2 l3;have hy3:=hy.le l03;simp only[cns];refine⟨fun vs K=>∃(n:Int)(num to:Bool),vs=[vi n,.bool num,.bool to]∧K=K3∧(decide ((y.args.length:Int)=n)&&num&&to&&z0a p y.args&&z4o y.const)=insOk c p y,?_,fun g=>?_,fun g=>?_⟩
 .rintro vs K _ ⟨n,num,to,rfl,rfl,hins⟩;simp only[cns];refine⟨fun vs K=>vs=[.bool (insOk c p y)]∧PH.le H K,?_,fun g=>?_,fun g=>?_⟩
  .rintro vs K _ ⟨rfl,hK⟩;exact⟨rfl,hK⟩
  .simp only[evs,arI,slLen,z0b,iOf,bOf,zb5]at g;rw[hav]at g;simp only[slLen,zba,zdt]at g;refine z03 [.bool (z0a p y.args)] (qb 165) (z43 p y.args (.slice bb p.blocks.length bc) av K (hb.le l03) hy3.args) rfl z01 fun K4 l4=>?_;simp only[cns];refine⟨fun g2=>?_,fun g2=>?_⟩
   .simp only[evs,arI,slLen,z0b,iOf,bOf,zb5]at g2;refine z03 [.bool (decide (y.const=dat0))] (qb 167) (Z93 y.const dat0 _ _ K4 (hy3.le l4).dat (Zix K4)) rfl z01 fun K5 l5=>?_;refine⟨_,z00,?_,ww l03 (ww l4 l5)⟩;simp only[evs,arI,slLen,z0b,iOf,bOf,zb5,Zdg];rw[←hins,g2];simp[g]
   .simp only[evs,arI,slLen,z0b,iOf,bOf,zb5]at g2;refine⟨_,z00,?_,ww l03 l4⟩;rw[←hins,g2];simp only[Bool.and_false,Bool.false_and];rfl
  .simp only[evs,arI,slLen,z0b,iOf,bOf,zb5]at g;rw[hav]at g;simp only[slLen]at g;refine⟨_,z00,?_,l03⟩;rw[←hins,g];simp only[Bool.false_and];rfl
 .simp only[evs,arI,slLen,z0b,iOf,bOf,zb5,z0m,zdt]at g;have hop:y.op=constB:=g;refine⟨fun vs K=>vs=[.bool (insOk c p y)]∧PH.le H K,?_,fun g=>?_,fun g=>?_⟩
  .rintro vs K _ ⟨rfl,hK⟩;exact⟨rfl,hK⟩
  .simp only[evs,arI,slLen,z0b,iOf,bOf,zb5]at g;rw[hav]at g;simp only[slLen]at g;refine z03 [.bool (z2b y.const)] (qb 166) (Z0u y.const _ K3 hy3.dat) rfl z01 fun K4 l4=>?_;refine⟨_,z00,?_,ww l03 l4⟩;simp only[evs,arI,slLen,z0b,iOf,bOf,zb5];rw[zku hop];simp only[zba,zdt]at g;simp[show y.args.length=0 by omega,g]
  .simp only[evs,arI,slLen,z0b,iOf,bOf,zb5]at g;rw[hav]at g;simp only[slLen]at g;refine⟨_,z00,?_,l03⟩;rw[zku hop];have:(decide (y.args.length=0)&&decide (y.num=0)&&z0a p [y.to])=false:=by rw[←g];simp
   rw[this];rfl
 simp only[evs,arI,slLen,z0b,iOf,bOf,zb5,z0m,zdf]at g;have n1:y.op≠constB:=g;refine⟨fun g=>?_,fun g=>?_⟩
 .simp only[evs,arI,slLen,z0b,iOf,bOf,zb5,z0m,zdt]at g;refine⟨_,z00,1,decide (y.num=0),z0a p [y.to],by simp only[evs,arI,slLen,z0b,iOf,bOf,zb5],rfl,?_⟩;rw[Zdw g];simp[show((y.args.length:Int)=1)=(y.args.length=1)from propext om]
 simp only[evs,arI,slLen,z0b,iOf,bOf,zb5,z0m,zdf]at g;have n2:y.op≠movB:=g;refine⟨fun g=>?_,fun g=>?_⟩
 .simp only[evs,arI,slLen,z0b,iOf,bOf,zb5,z0m,zdt]at g;refine⟨_,z00,0,decide (0≤y.num)&&decide (y.num<p.holds),z0a p [y.to],by simp only[evs,arI,slLen,z0b,iOf,bOf,zb5,ge_iff_le],rfl,?_⟩;rw[Zeh g];simp[show((y.args.length:Int)=0)=(y.args.length=0)from propext om]
 simp only[evs,arI,slLen,z0b,iOf,bOf,zb5,z0m,zdf]at g;have n3:y.op≠hldB:=g;refine⟨fun g=>?_,fun g=>?_⟩
 .simp only[evs,arI,slLen,z0b,iOf,bOf,zb5,z0m,zdt]at g;have hop:y.op=cloB:=g;refine⟨fun g=>?_,fun g=>?_⟩
  .simp only[evs,arI,slLen,z0b,iOf,bOf,zb5]at g;simp only[qu,zdt]at g;refine⟨?_,l03⟩;have:insOk c p y=false:=by
    rw[Z25 hop];have:(decide (1≤y.num)&&decide (y.num<c.length))=false:=by
     rw[wj,zdf,zdf];omega
    rw[this];rfl
   rw[this];rfl
  .simp only[evs,arI,slLen,z0b,iOf,bOf,zb5]at g;simp only[zof,zdf]at g;obtain⟨_,hq⟩:=Z1z (c:=c) (i:=y.num) om om;obtain⟨x1,_,cs,x2,x3⟩:=(hc.le l03).get hq;obtain⟨qv,rfl,p1,p2,p3,p4⟩:=prc_iff.1 x2;rw[show((y.num.toNat:Nat):Int)=y.num by omega]at x3;refine⟨fun _=>?_,[vi (prcAt c y.num).holds],rfl,?_,_,z00,_,_,_,rfl,rfl,?_⟩
   .simp only[Chk.holds,evs,arI,slLen,z0b,iOf,bOf,zb5];exact⟨x1,om,om⟩
   .simp only[evs,arI,slLen,z0b,iOf,bOf,zb5];exact z54 x3 1 1
   .rw[Z25 hop];have:(decide (1≤y.num)&&decide (y.num<c.length))=true:=by
     rw[zba,zdt,zdt];omega
    rw[this];simp
 simp only[evs,arI,slLen,z0b,iOf,bOf,zb5,z0m,zdf]at g;have n4:y.op≠cloB:=g;refine⟨fun g=>?_,fun g=>?_⟩
 .simp only[evs,arI,slLen,z0b,iOf,bOf,zb5,z0m,zdt]at g;refine⟨_,z00,2,decide (0≤y.num),decide (y.to=0),by simp only[evs,arI,slLen,z0b,iOf,bOf,zb5,ge_iff_le],rfl,?_⟩;rw[Zfg g];simp[show((y.args.length:Int)=2)=(y.args.length=2)from propext om]
 simp only[evs,arI,slLen,z0b,iOf,bOf,zb5,z0m,zdf]at g;have n5:y.op≠tieB:=g;refine⟨fun g=>?_,fun g=>?_⟩
 .simp only[evs,arI,slLen,z0b,iOf,bOf,zb5,z0m,zdt]at g;refine⟨?_,l03⟩;rw[Z6l g];rfl
 simp only[evs,arI,slLen,z0b,iOf,bOf,zb5,z0m,zdf]at g;refine⟨_,z00,z33 y.op,decide (y.num=0),z0a p [y.to],by simp only[evs,arI,slLen,z0b,iOf,bOf,zb5],rfl,?_⟩;rw[Zcl n1 n2 n3 n4 n5 g]
end
abbrev enV(e:EndX)(av:Value):List Value:=[vi e.kind,vi e.reg,av,vi e.to,vi e.next,vi e.els]
structure EnR(S:PH)(e:EndX)(av:Value):Prop where
 kind:InI e.kind
 reg:InI e.reg
 args:SlR S e.args av
 to:InI e.to
 next:InI e.next
 els:InI e.els
section
variable {c:CodeX}{p:PrcX}{e:EndX}
theorem blks1(n:Int):z8x p [n]=(decide (0≤n)&&decide (n<p.blocks.length)):=by
 unfold z8x;rw[List.all_cons,List.all_nil,Bool.and_true,Bool.decide_and]
theorem regs2(a b:Int):z0a p [a,b]=(z0a p [a]&&z0a p [b]):=by
 unfold z0a;simp only[List.all_cons,List.all_nil,Bool.and_true]
theorem zdh{α:Type}(l:List α):decide ((l.length:Int)=0)=l.isEmpty:=zoj l
theorem Zee(p:PrcX)(e:EndX)(bv av:Value)(H:PH)(hb:SlR H p.blocks bv)(he:EnR H e av):Gives zP 120 [.agg (prcVs p bv).toArray,.agg (enV e av).toArray] H (.bool (finOk p e)):=by
 obtain⟨bb,bc,rfl⟩:=hb.sl;obtain⟨ab,ac,rfl⟩:=he.args.sl;have ham:=he.args.max;have hmx:maxLen=9223372036854775807:=rfl;refine qr Zem (prcVs p (.slice bb p.blocks.length bc)++enV e (.slice ab e.args.length ac)) ?_;simp only[prcVs,enV,cns];refine⟨fun vs K=>vs=[.bool (z0a p e.args&&decide (e.args.length≤6))]∧PH.le H K,?_,fun g=>?_,fun g=>?_⟩;rotate_left
 .simp only[wy,arI,zdt]at g;refine z03 [.bool (z0a p e.args)] (qb 165) (z43 p e.args (.slice bb p.blocks.length bc) (.slice ab e.args.length ac) H hb he.args) rfl z01 fun K1 l1=>?_;refine⟨_,z00,?_,l1⟩;rw[qX (show e.args.length≤6 by omega),Bool.and_true];rfl
 .simp only[wy,arI,zdf]at g;refine⟨_,z00,?_,wx _⟩;rw[qY (show ¬e.args.length≤6 by omega),Bool.and_false];rfl
 rintro vs K1 _ ⟨rfl,l1⟩;simp only[cns];refine z0k (α:=Int) (l:=[e.next]) (b:=8) [vi e.next] z0g z0e rfl dC dC (Held.nil l1) kr (.cons (z09 he.next) .nil) z01 fun v2 K2 h2 _ _=>?_;have l2:=h2.sh;simp only[cns];refine z03 [.bool (z8x p [e.next])] (qb 168) (zqb p [e.next] (.slice bb p.blocks.length bc) v2 K2 (hb.le l2) ((h2.row (zms)).slR l2)) rfl z01 fun K3 l3=>?_;have l03:=ww l2 l3;simp only[cns];generalize hN:z8x p [e.next]=nx;rw[blks1]at hN;generalize hA:(z0a p e.args&&decide (e.args.length≤6))=ag;refine⟨fun g=>?_,fun g=>?_⟩
 .simp only[wy,arI,zdt]at g;refine⟨?_,l03⟩;have hfin:finOk p e=(nx&&e.args.isEmpty&&decide (e.reg=0)&&decide (e.to=0)&&decide (e.els=0)):=by
   unfold finOk;simp only[qj g,hN]
  simp only[wy,arI,zdh];rw[hfin]
 simp only[wy,arI,zdf]at g;have n0:=g;refine⟨fun g=>?_,fun g=>?_⟩
 .simp only[wy,arI,zdt]at g;have hfin:finOk p e=(nx&&(decide (0≤e.els)&&decide (e.els<p.blocks.length))&&e.args.isEmpty&&z0a p [e.reg]&&decide (e.to=0)):=by
   unfold finOk;simp only[qc n0,qj g,hN]
  refine⟨fun vs K=>vs=[.bool (finOk p e)]∧PH.le H K,?_,fun g2=>?_,fun g2=>?_⟩
  .rintro vs K _ ⟨rfl,hK⟩;exact⟨rfl,hK⟩
  .simp only[wy,arI]at g2;rw[zdh]at g2;simp only[zba]at g2;refine z0k (α:=Int) (l:=[e.reg]) (b:=8) [vi e.reg] z0g z0e rfl dC dC (Held.nil l03) kr (.cons (z09 he.reg) .nil) z01 fun v4 K4 h4 _ _=>?_;have l4:=h4.sh;simp only[cns];refine z03 [.bool (z0a p [e.reg])] (qb 165) (z43 p [e.reg] (.slice bb p.blocks.length bc) v4 K4 (hb.le l4) ((h4.row (zms)).slR l4)) rfl z01 fun K5 l5=>?_;simp only[cns];refine⟨fun g3=>?_,fun g3=>?_⟩
   .simp only[wy,arI]at g3;refine z0k (α:=Int) (l:=[e.els]) (b:=8) [vi e.els] z0g z0e rfl dC dC (Held.nil (ww l4 l5)) kr (.cons (z09 he.els) .nil) z01 fun v6 K6 h6 _ _=>?_;have l6:=h6.sh;simp only[cns];refine z03 [.bool (z8x p [e.els])] (qb 168) (zqb p [e.els] (.slice bb p.blocks.length bc) v6 K6 (hb.le l6) ((h6.row (zms)).slR l6)) rfl z01 fun K7 l7=>?_;refine⟨_,z00,?_,ww l6 l7⟩;simp only[wy,arI,blks1];rw[hfin,g2.1,g2.2,g3];simp
   .simp only[wy,arI]at g3;refine⟨_,z00,?_,ww l4 l5⟩;rw[hfin,g3,Bool.and_false,Bool.false_and];rfl
  .simp only[wy,arI]at g2;rw[zdh]at g2;refine⟨_,z00,?_,l03⟩;have:finOk p e=false:=by
    rw[hfin];rcases wj.1 g2 with h|h<;>rw[h]<;>simp
   rw[this];rfl
 simp only[wy,arI,zdf]at g;have n1:=g;refine⟨fun g=>?_,fun g=>?_⟩
 .have g':e.kind=2∨e.kind=5:=by
   simp only[wy,arI]at g;by_cases h:e.kind=2
   .exact .inl h
   .exact .inr (by simpa[h]using g)
  have hfin:finOk p e=(z0a p [e.reg]&&e.args.isEmpty&&decide (e.to=0)&&decide (e.next=0)&&decide (e.els=0)):=by
   unfold finOk;simp only[qc n0,qc n1,qj g']
  refine z0k (α:=Int) (l:=[e.reg]) (b:=8) [vi e.reg] z0g z0e rfl dC dC (Held.nil l03) kr (.cons (z09 he.reg) .nil) z01 fun v4 K4 h4 _ _=>?_;have l4:=h4.sh;simp only[cns];refine z03 [.bool (z0a p [e.reg])] (qb 165) (z43 p [e.reg] (.slice bb p.blocks.length bc) v4 K4 (hb.le l4) ((h4.row (zms)).slR l4)) rfl z01 fun K5 l5=>?_;refine⟨?_,ww l4 l5⟩;simp only[wy,arI,zdh];rw[hfin]
 have n25:¬(e.kind=2∨e.kind=5):=by
  simp only[wy,arI]at g;by_cases h:e.kind=2
  .simp[h]at g
  .simpa[h]using g
 refine⟨fun g=>?_,fun g=>?_⟩
 .simp only[wy,arI,zdt]at g;have hfin:finOk p e=(z0a p [e.reg]&&ag&&decide (e.to=0)&&decide (e.next=0)&&decide (e.els=0)):=by
   unfold finOk;simp only[qc n0,qc n1,qc n25,qj g,hA]
  refine z0k (α:=Int) (l:=[e.reg]) (b:=8) [vi e.reg] z0g z0e rfl dC dC (Held.nil l03) kr (.cons (z09 he.reg) .nil) z01 fun v4 K4 h4 _ _=>?_;have l4:=h4.sh;simp only[cns];refine z03 [.bool (z0a p [e.reg])] (qb 165) (z43 p [e.reg] (.slice bb p.blocks.length bc) v4 K4 (hb.le l4) ((h4.row (zms)).slR l4)) rfl z01 fun K5 l5=>?_;refine⟨?_,ww l4 l5⟩;simp only[wy,arI,zdh];rw[hfin]
 simp only[wy,arI,zdf]at g;have n3:=g;refine⟨fun g=>?_,fun g=>?_⟩
 .simp only[wy,arI,zdt]at g;have hfin:finOk p e=(z0a p [e.reg]&&ag&&z0a p [e.to]&&nx&&decide (e.els=0)):=by
   unfold finOk;simp only[qc n0,qc n1,qc n25,qc n3,qj g,hA,hN]
  refine z0k (α:=Int) (l:=[e.reg,e.to]) (b:=8) [vi e.reg,vi e.to] z0g z0e rfl dC dC (Held.nil l03) kr (.cons (z09 he.reg) (.cons (z09 he.to) .nil)) z01 fun v4 K4 h4 _ _=>?_;have l4:=h4.sh;simp only[cns];refine z03 [.bool (z0a p [e.reg,e.to])] (qb 165) (z43 p [e.reg,e.to] (.slice bb p.blocks.length bc) v4 K4 (hb.le l4) ((h4.row (zms)).slR l4)) rfl z01 fun K5 l5=>?_;refine⟨?_,ww l4 l5⟩;simp only[wy,arI,zdh];rw[hfin,regs2];cases z0a p [e.reg]<;>cases z0a p [e.to]<;>cases ag<;>simp
 simp only[wy,arI,zdf]at g;have n4:=g;refine⟨fun g=>?_,fun g=>?_⟩
 .simp only[wy,arI,zdt]at g;have hfin:finOk p e=(z0a p [e.reg]&&e.args.isEmpty&&z0a p [e.to]&&nx&&decide (e.els=0)):=by
   unfold finOk;simp only[qc n0,qc n1,qc n25,qc n3,qc n4,qj g,hN]
  refine z0k (α:=Int) (l:=[e.reg,e.to]) (b:=8) [vi e.reg,vi e.to] z0g z0e rfl dC dC (Held.nil l03) kr (.cons (z09 he.reg) (.cons (z09 he.to) .nil)) z01 fun v4 K4 h4 _ _=>?_;have l4:=h4.sh;simp only[cns];refine z03 [.bool (z0a p [e.reg,e.to])] (qb 165) (z43 p [e.reg,e.to] (.slice bb p.blocks.length bc) v4 K4 (hb.le l4) ((h4.row (zms)).slR l4)) rfl z01 fun K5 l5=>?_;refine⟨?_,ww l4 l5⟩;simp only[wy,arI,zdh];rw[hfin,regs2];cases z0a p [e.reg]<;>cases z0a p [e.to]<;>cases e.args.isEmpty<;>simp
 simp only[wy,arI,zdf]at g;refine⟨?_,l03⟩;have:finOk p e=false:=by
  unfold finOk;simp only[qc n0,qc n1,qc n25,qc n3,qc n4,qc g]
 rw[this];rfl
theorem Za2(c:CodeX)(p:PrcX)(cv bv:Value)(H:PH)(hc:SlR H c cv)(hb:SlR H p.blocks bv):Gives zP 80 [.agg #[cv],.agg (prcVs p bv).toArray] H (.bool (prcOk c p)):=by
 obtain⟨cb,cc,rfl⟩:=hc.sl;obtain⟨bb,bc,rfl⟩:=hb.sl;have hbm:=hb.max;have hmx:maxLen=9223372036854775807:=rfl;have upk:∀{k m:Nat},k<m→m≤maxLen→IntKind.i64.wrap ((k:Int)+1)=((k+1:Nat):Int):=fun h1 h2=>by rw[w64 om om];rfl
 refine qr Zam ([.slice cb c.length cc]++prcVs p (.slice bb p.blocks.length bc)) ?_;simp only[prcVs,cns];have hP:prcOk c p=((decide (0≤p.params)&&decide (p.params≤6)&&decide (0≤p.holds)&&decide (p.holds≤1000)&&decide (p.params≤p.regs) && !p.blocks.isEmpty)&&p.blocks.all fun b=>b.ins.all (insOk c p)&&finOk p b.e):=rfl;have bad:∀{b:BlkX},b∈p.blocks→(b.ins.all (insOk c p)&&finOk p b.e)=false→prcOk c p=false:=fun{b}hbm hf=>by
  rw[hP];have:(p.blocks.all fun b=>b.ins.all (insOk c p)&&finOk p b.e)=false:=by
   rw[List.all_eq_false];exact⟨b,hbm,by rw[hf];simp⟩
  rw[this,Bool.and_false]
 refine⟨fun g=>?_,fun g=>?_⟩
 .simp only[wy,arI]at g;simp only[qu,zdt]at g;refine⟨?_,wx _⟩;have:(decide (0≤p.params)&&decide (p.params≤6)&&decide (0≤p.holds)&&decide (p.holds≤1000)&&decide (p.params≤p.regs) && !p.blocks.isEmpty)=false:=by
   rw[←zoj p.blocks];by_cases h:(decide (0≤p.params)&&decide (p.params≤6)&&decide (0≤p.holds)&&decide (p.holds≤1000)&&decide (p.params≤p.regs) && !decide ((p.blocks.length:Int)=0))=true
   .simp only[zba,zdt,qy,zdf]at h;omega
   .simpa using h
  rw[hP,this,Bool.false_and];rfl
 simp only[wy,arI]at g;simp only[zof,zdf]at g;have hok:prcOk c p=p.blocks.all fun b=>b.ins.all (insOk c p)&&finOk p b.e:=by
  rw[hP];have:(decide (0≤p.params)&&decide (p.params≤6)&&decide (0≤p.holds)&&decide (p.holds≤1000)&&decide (p.params≤p.regs) && !p.blocks.isEmpty)=true:=by
   rw[←zoj p.blocks];simp only[zba,zdt,qy,zdf];omega
  rw[this,Bool.true_and]
 refine⟨fun n vs K=>∃k:Nat,k+n=p.blocks.length∧vs=[.bool false,nI k]∧PH.le H K∧∀b∈p.blocks.take k,(b.ins.all (insOk c p)&&finOk p b.e)=true,⟨p.blocks.length,0,om,rfl,wx _,sM⟩,?_⟩;rintro n vs K _ ⟨k,hkn,rfl,hK,hall⟩;simp only[cns];refine⟨fun g2=>?_,fun g2=>?_⟩
 .simp only[wy,arI,zdt]at g2;obtain⟨b,hbk⟩:∃b,p.blocks[k]?=some b:=⟨_,zge om⟩;have hbmem:=zmg hbk;obtain⟨y1,_,ycs,y2,y3⟩:=(hb.le hK).get hbk;obtain⟨iv,es,rfl,i1,i2⟩:=blk_iff.1 y2;obtain⟨ib,ic,rfl⟩:=i1.sl;have him:=i1.max;obtain⟨av,rfl,e1,e2,e3,e4,e5,e6⟩:=end_iff.1 i2;obtain⟨ab,ac,hav⟩:=e3.sl;refine⟨fun _=>?_,[.slice ib b.ins.length ic,vi b.e.kind,vi b.e.reg,av,vi b.e.to,vi b.e.next,vi b.e.els],by rw[hav];rfl,by simp only[wy,arI];exact y3,?_⟩
  .simp only[Chk.holds,wy,arI];exact⟨y1,om,om⟩
  simp only[cns];refine⟨fun m vs K2=>∃j:Nat,j+m=b.ins.length∧vs=[.bool false,nI j]∧PH.le K K2∧∀y∈b.ins.take j,insOk c p y=true,⟨b.ins.length,0,om,rfl,wx _,sM⟩,?_⟩;rintro m vs K2 _ ⟨j,hjm,rfl,hK2,hall2⟩;simp only[cns];have hK02:=ww hK hK2;refine⟨fun g3=>?_,fun g3=>?_⟩
  .simp only[wy,arI,zdt]at g3;obtain⟨y,hy⟩:∃y,b.ins[j]?=some y:=⟨_,zge om⟩;have hymem:=zmg hy;obtain⟨z1,_,zcs,z2,z3⟩:=(i1.le hK2).get hy;obtain⟨wv,dv,rfl,q1,q2,q3,q4,q5,q6,q7,q8⟩:=ins_iff.1 z2;obtain⟨wb,wc,hwv⟩:=q3.sl;obtain⟨db,dc,hdv⟩:=q7.sl;refine⟨fun _=>?_,inV y wv dv,by rw[hwv,hdv];rfl,by simp only[wy,arI];exact z3,?_⟩
   .simp only[Chk.holds,wy,arI];exact⟨z1,om,om⟩
   simp only[inV,cns];refine z03 [.bool (insOk c p y)] (qb 119) (Zcr c p y (.slice cb c.length cc) (.slice bb p.blocks.length bc) wv dv K2 (hc.le hK02) (hb.le hK02) ⟨q1,q2,q3,q4,q5,q6,q7,q8⟩) rfl z01 fun K3 l3=>?_;simp only[cns];refine⟨fun g4=>?_,fun g4=>?_⟩
   .simp only[wy,arI,qy]at g4;refine⟨?_,ww hK02 l3⟩;rw[bad hbmem]
    .rfl
    .have:b.ins.all (insOk c p)=false:=by
      rw[List.all_eq_false];exact⟨y,hymem,by rw[g4];simp⟩
     rw[this,Bool.false_and]
   .simp only[wy,arI,qU]at g4;refine⟨_,z00,m-1,om,j+1,om,?_,ww hK2 l3,fun q hq=>?_⟩
    .simp only[wy,arI,upk (show j<b.ins.length by omega) him]
    .rw[q9,hy]at hq;rcases zma.1 hq with hq|hq
     .exact hall2 q hq
     .rw[zsi.1 hq];exact g4
  .simp only[wy,arI,zdf]at g3;rw[ztl om]at hall2;have hi:b.ins.all (insOk c p)=true:=zat.2 hall2;refine z03 [.bool (finOk p b.e)] (qb 120) (Zee p b.e (.slice bb p.blocks.length bc) av K2 (hb.le hK02) ⟨e1,e2,e3.le hK2,e4,e5,e6⟩) rfl z01 fun K3 l3=>?_;simp only[cns];refine⟨fun g4=>?_,fun g4=>?_⟩
   .simp only[wy,arI,qy]at g4;refine⟨?_,ww hK02 l3⟩;rw[bad hbmem (by rw[g4,Bool.and_false])];rfl
   .simp only[wy,arI,qU]at g4;refine⟨_,(z1f dC).trans z00,n-1,om,k+1,om,?_,ww hK02 l3,fun q hq=>?_⟩
    .simp only[wy,arI,upk (show k<p.blocks.length by omega) hbm]
    .rw[q9,hbk]at hq;rcases zma.1 hq with hq|hq
     .exact hall q hq
     .rw[zsi.1 hq,hi,g4];rfl
 .simp only[wy,arI,zdf]at g2;rw[ztl om]at hall;refine⟨?_,hK⟩;rw[hok,zat.2 hall];rfl
end
theorem zw8{α:Type}(f:α→Nat):∀(l:List α)(k:Nat),((l.take k).map f).sum≤(l.map f).sum
 | [],k=>sM
 |a::l,0=>sM
 |a::l,k+1=>by
  have:=zw8 f l k;simp only[List.take_succ_cons,wa,List.sum_cons];omega
theorem Z5a{α:Type}(f:α→Nat){l:List α}{k:Nat}{a:α}(h:l[k]?=some a):((l.take (k+1)).map f).sum=((l.take k).map f).sum+f a:=by
 rw[q9,h];simp
theorem zpf{c:CodeX}(h:z2p c=true):z1h c=151:=by unfold z1h;rw[qj h]
theorem zfo{c:CodeX}(h:z2p c=false)(hn:c=[]∨(∃p l,c=p::l∧(p.params≠0∨p.holds≠0))∨∃p∈c,prcOk c p=false):z1h c=150:=by
 unfold z1h;rw[qc (by rw[h];exact qk)]
 match c,hn with
 | [],_=>rfl
 |p::l,hn=>
  simp only;rw[qc];intro hh;simp only[zba,zdt,zat]at hh;rcases hn with hn|⟨p',l',e,hn⟩|⟨q,hq,hn⟩
  .cases hn
  .cases e;omega
  .rw[hh.2 q hq]at hn;cases hn
theorem Zd7{c:CodeX}{p:PrcX}{l:CodeX}(h:z2p c=false)(e:c=p::l)(h1:p.params=0)(h2:p.holds=0)(h3:∀q∈c,prcOk c q=true):z1h c=0:=by
 unfold z1h;rw[qc (by rw[h];exact qk)];subst e;simp only;rw[qj];simp only[zba,zdt,zat];exact⟨⟨h1,h2⟩,h3⟩
theorem Zkj{c:CodeX}{p:PrcX}(h:p∈c)(hr:2000<p.regs):z2p c=true:=by
 unfold z2p;simp only[qu,wl,zdt];exact .inl (.inl ⟨p,h,hr⟩)
theorem Zj7{c:CodeX}(h:4096<manyC c):z2p c=true:=by
 unfold z2p;simp only[qu,wl,zdt];exact .inl (.inr h)
theorem Zj8{c:CodeX}(h:300<c.length):z2p c=true:=by
 unfold z2p;simp only[qu,wl,zdt];exact .inr h
theorem Zkr{c:CodeX}(h1:∀p∈c,p.regs≤2000)(h2:manyC c≤4096)(h3:c.length≤300):z2p c=false:=by
 unfold z2p;simp only[zof,zdf,List.any_eq_false,zdt];exact⟨⟨fun p hp=>by have:=h1 p hp;omega,om⟩,om⟩
theorem Z5x(c:CodeX)(cv:Value)(H:PH)(hc:SlR H c cv)(hfit:∀p∈c,∀b∈p.blocks,b.ins.length≤4611686018427387904):Gives zP 38 [.agg #[cv]] H (vi (z1h c)):=by
 obtain⟨cb,cc,rfl⟩:=hc.sl;have hmx:maxLen=9223372036854775807:=rfl;have hcm:=hc.max;refine qr Z57 [.slice cb c.length cc] ?_;have upk:∀{k m:Nat},k<m→m≤maxLen→IntKind.i64.wrap ((k:Int)+1)=((k+1:Nat):Int):=fun h1 h2=>by rw[w64 om om];rfl
 refine ⟨fun n vs K=>∃(i many:Nat),i+n=c.length∧vs=[vi 0,nI many,nI i]∧K=H∧(∀p∈c.take i,p.regs≤2000)∧many≤4096∧many=manyC (c.take i),
  ⟨c.length,0,0,om,rfl,rfl,sM,om,rfl⟩,?_⟩
 rintro n vs K _ ⟨i,many,hin,rfl,rfl,hregs,hm1,hm2⟩;simp only[cns];refine⟨fun g=>?_,fun g=>?_⟩
 .simp only[wy,arI,zdt]at g;obtain⟨p,hp⟩:∃p,c[i]?=some p:=⟨_,zge om⟩;have hpm:=zmg hp;obtain⟨x1,_,cs,x2,x3⟩:=hc.get hp;obtain⟨bv,rfl,p1,p2,p3,p4⟩:=prc_iff.1 x2;obtain⟨pb,pc,rfl⟩:=p4.sl;have hbm:=p4.max;have hsp:=Z5a PrcX.many hp;have hpd:PrcX.many p=(p.blocks.map BlkX.many).sum:=rfl;refine⟨fun _=>?_,[vi p.params,vi p.holds,vi p.regs,.slice pb p.blocks.length pc],rfl,?_,?_⟩
  .simp only[Chk.holds,wy,arI];exact⟨x1,om,om⟩
  .simp only[wy,arI];exact x3
  simp only[cns];refine⟨fun vs K2=>∃many2:Nat,vs=[nI many2]∧K2=K∧(many2≤4096→many2=manyC (c.take (i+1)))∧(4096<many2→4096<manyC c),?_,?_⟩
  .rintro vs K2 _ ⟨many2,rfl,rfl,hq1,hq2⟩;simp only[cns];refine⟨fun g2=>?_,fun g2=>?_⟩
   .simp only[wy,arI]at g2;simp only[qu,zdt]at g2;have:z1h c=151:=by
     rcases g2 with g2|g2
     .exact zpf (Zkj hpm om)
     .exact zpf (Zj7 (hq2 om))
    rw[this];exact⟨rfl,wx _⟩
   .simp only[wy,arI]at g2;simp only[zof,zdf]at g2;refine⟨_,z00,n-1,om,i+1,many2,om,?_,rfl,fun q hq=>?_,om,hq1 om⟩
    .simp only[wy,arI,upk (by omega:i<c.length) hcm]
    .rw[q9,hp,zma]at hq;rcases hq with hq|hq
     .exact hregs q hq
     .rw[zsi.1 hq];omega
  refine ⟨fun m vs K2=>∃(k many2:Nat),k+m=p.blocks.length∧vs=[nI many2,nI k]∧K2=K∧many2≤4096∧many2=manyC (c.take i)+((p.blocks.take k).map BlkX.many).sum,
   ⟨p.blocks.length,0,many,om,rfl,rfl,hm1,by simpa using hm2⟩,?_⟩
  rintro m vs K2 _ ⟨k,many2,hkm,rfl,rfl,hq1,hq2⟩;simp only[cns];refine⟨fun g3=>?_,fun g3=>?_⟩
  .simp only[wy,arI,zdt]at g3;obtain⟨b,hb⟩:∃b,p.blocks[k]?=some b:=⟨_,zge om⟩;obtain⟨y1,_,ycs,y2,y3⟩:=p4.get hb;obtain⟨iv,es,rfl,i1,i2⟩:=blk_iff.1 y2;obtain⟨ib,ic,rfl⟩:=i1.sl;have him:=i1.max;obtain⟨av,rfl,e1,e2,e3,e4,e5,e6⟩:=end_iff.1 i2;obtain⟨ab,ac,rfl⟩:=e3.sl;have h1:=Z56 (zmg hb);have h2:=zvb hpm;have hs:=Z5a BlkX.many hb;have hbm2:BlkX.many b=1+b.ins.length:=rfl;have hle:manyC (c.take i)+((p.blocks.take (k+1)).map BlkX.many).sum≤manyC c:=by
    have h1:=zw8 BlkX.many p.blocks (k+1);have h3:=zw8 PrcX.many c (i+1);unfold manyC;omega
   have big:b.ins.length≤9223372036854775807:=om;have small:b.ins.length≤9223372036854700000→IntKind.i64.wrap ((many2:Int)+IntKind.i64.wrap (1+(b.ins.length:Int)))=((many2+1+b.ins.length:Nat):Int):=fun h=>by
    rw[w64 (n:=1+(b.ins.length:Int)) om om,w64 om om];omega
   have hbl:b.ins.length≤9223372036854700000:=by
    have e8:=hfit p hpm b (zmg hb);omega
   have hw1:=small hbl;refine⟨fun _=>?_,[.slice ib b.ins.length ic,vi b.e.kind,vi b.e.reg,.slice ab b.e.args.length ac,vi b.e.to,vi b.e.next,vi b.e.els],rfl,by simp only[wy,arI];exact y3,fun g4=>?_,fun g4=>?_⟩
   .simp only[Chk.holds,wy,arI];exact⟨y1,om,om⟩
   .simp only[wy,arI,hw1,zdt]at g4;refine⟨_,(z1f dC).trans z00,many2+1+b.ins.length,by simp only[wy,arI,hw1],rfl,fun h=>om,fun _=>om⟩
   .simp only[wy,arI,hw1,zdf]at g4;refine⟨_,z00,m-1,om,k+1,many2+1+b.ins.length,om,?_,rfl,om,om⟩;simp only[wy,arI,hw1,upk (by omega:k<p.blocks.length) hbm]
  .simp only[wy,arI,zdf]at g3;rw[show p.blocks.take k=p.blocks from ztl om]at hq2;refine⟨_,(z1f dC).trans z00,many2,rfl,rfl,fun _=>?_,fun _=>om⟩;unfold manyC at hq2⊢;omega
 simp only[wy,arI,zdf]at g;rw[ztl om]at hregs hm2;refine⟨fun g2=>?_,fun g2=>?_⟩
 .simp only[wy,arI,zdt]at g2;rw[zpf (Zj8 om)];exact⟨rfl,wx _⟩
 simp only[wy,arI,zdf]at g2;have htm:z2p c=false:=Zkr hregs om om;refine⟨fun vs K2=>K=K2∧((vs=[.bool true]∧z1h c=150)∨(vs=[.bool false]∧∃p l,c=p::l∧p.params=0∧p.holds=0)),?_,?_⟩;rotate_left
 .cases hcl:c with
  |nil=>
   rw[hcl]at htm;have:=zfo htm (.inl rfl);refine⟨fun hg=>by exfalso;simp[Guard.holds,wy,arI]at hg,fun hg=>by exfalso;simp[Guard.holds,wy,arI]at hg,fun _=>⟨_,z00,rfl,.inl ⟨rfl,this⟩⟩,fun g3=>by simp[wy,arI]at g3⟩
  |cons p l=>
   have hp:c[0]?=some p:=by rw[hcl];rfl
   obtain⟨x1,xn,cs,x2,x3⟩:=hc.get hp;obtain⟨bv,rfl,p1,p2,p3,p4⟩:=prc_iff.1 x2;obtain⟨pb,pc,rfl⟩:=p4.sl;have hl1:(1:Int)≤((p::l).length:Int):=by simp;omega
   rw[hcl]at x1 xn x3 htm;refine⟨fun _=>?_,fun _=>?_,fun g3=>?_,fun g3=>⟨[vi p.params],rfl,?_,fun _=>?_,fun _=>?_,fun g4=>?_,fun g4=>⟨[vi p.holds],rfl,?_,?_⟩⟩⟩
   .simp only[Chk.holds,wy,arI];exact⟨x1,om,om⟩
   .simp only[Chk.holds,wy,arI];exact xn
   .simp[wy,arI]at g3;omega
   .simp only[wy,arI];exact z54 x3 0 1
   .simp only[Chk.holds,wy,arI];exact⟨x1,om,om⟩
   .simp only[Chk.holds,wy,arI];exact xn
   .simp only[wy,arI,ne_eq,decide_not,qy,zdf]at g4;exact⟨_,z00,rfl,.inl ⟨rfl,zfo htm (.inr (.inl ⟨p,l,rfl,.inl g4⟩))⟩⟩
   .simp only[wy,arI];exact z54 x3 1 1
   .simp only[wy,arI,ne_eq,decide_not,qU,zdt]at g4;by_cases e:p.holds=0
    .exact⟨_,z00,rfl,.inr ⟨by simp[wy,arI,e],p,l,rfl,g4,e⟩⟩
    .exact⟨_,z00,rfl,.inl ⟨by simp[wy,arI,e],zfo htm (.inr (.inl ⟨p,l,rfl,.inr e⟩))⟩⟩
 rintro vs K2 _ ⟨rfl,hJ⟩;rcases hJ with⟨rfl,hf⟩|⟨rfl,p0,l0,hcl,h00,h01⟩
 .refine⟨fun _=>?_,fun g3=>by simp[wy,arI]at g3⟩;rw[hf];exact⟨rfl,wx _⟩
 refine⟨fun g3=>by simp[wy,arI]at g3,fun _=>?_⟩;simp only[cns];refine⟨fun n vs K2=>∃i:Nat,i+n=c.length∧vs=[vi 0,nI i]∧PH.le K K2∧∀p∈c.take i,prcOk c p=true,⟨c.length,0,om,rfl,wx _,sM⟩,?_⟩;rintro n vs K2 _ ⟨i,hin,rfl,lK,hok⟩;simp only[cns];refine⟨fun g3=>?_,fun g3=>?_⟩
 .simp only[wy,arI,zdt]at g3;obtain⟨p,hp⟩:∃p,c[i]?=some p:=⟨_,zge om⟩;have hpm:=zmg hp;obtain⟨x1,_,cs,x2,x3⟩:=(hc.le lK).get hp;obtain⟨bv,rfl,p1,p2,p3,p4⟩:=prc_iff.1 x2;obtain⟨pb,pc,rfl⟩:=p4.sl;refine⟨fun _=>?_,[vi p.params,vi p.holds,vi p.regs,.slice pb p.blocks.length pc],rfl,by simp only[wy,arI];exact x3,?_⟩
  .simp only[Chk.holds,wy,arI];exact⟨x1,om,om⟩
  simp only[cns];refine z03 [.bool (prcOk c p)] (qb 80) (Za2 c p (.slice cb c.length cc) (.slice pb p.blocks.length pc) K2 (hc.le lK) p4) rfl z01 fun K3 l3=>?_;simp only[cns];refine⟨fun g4=>?_,fun g4=>?_⟩
  .simp only[wy,arI,qy]at g4;refine⟨?_,ww lK l3⟩;rw[zfo htm (.inr (.inr ⟨p,hpm,g4⟩))];rfl
  .simp only[wy,arI,qU]at g4;refine⟨_,z00,n-1,om,i+1,om,?_,ww lK l3,fun q hq=>?_⟩
   .simp only[wy,arI,upk (show i<c.length by omega) hcm]
   .rw[q9,hp]at hq;rcases zma.1 hq with hq|hq
    .exact hok q hq
    .rw[zsi.1 hq];exact g4
 .simp only[wy,arI,zdf]at g3;rw[ztl om]at hok;refine⟨?_,lK⟩;rw[Zd7 htm hcl h00 h01 hok];rfl
section
variable {S0 K:PH}{x:FX}{pu nx:Int}{l l':List ItemR}{k k':Nat}{J:List Itm}
def FX.constL(x:FX)(pu:Int)(y:InsX):List ItemR:=x.numL pu y.to ((wordX (z2o y.const) x.syms).getD 0)
theorem Zln(v:ValW)(l:List (List UInt8))(hv:InI v.int):InI ((wordX v l).getD 0):=by
 have h0:InI 0:=i0J;unfold wordX;split
 .exact h0
 split
 .split
  .exact inJ (by simp;omega) (by simp;omega)
  .exact h0
 split
 .split
  .rename_i hw;have:=isW_iff.1 hw;exact inJ (by simp;omega) (by simp;omega)
  .exact h0
 split
 .split
  .exact inJ (by simp;omega) (by simp;omega)
  .exact h0
 split
 .split
  .cases hf:l.findIdx? (fun s=>decide (s=v.text))with
   |none=>exact h0
   |some i=>
    exact z2g _
  .exact h0
 split
 .split
  .rename_i h7 _;exact inJ (by simp;omega) (by simp;omega)
  .exact h0
 .exact h0
theorem Z61(hx:FOk S0 x)(hp:0≤pu∧pu≤100000)(y:InsX)(av dv:Value)(hy:InR S0 y av dv)(hop:y.op=constB)(hr:x.has y.to)(h:GnH S0 K x pu nx l (k+2) J):
  Tri zP 85 #[pAt x.rf,.agg (inV y av dv).toArray] K (GnQ S0 x pu nx (l++x.constL pu y) k J):=by
 obtain⟨ab,ac,hav⟩:=hy.args.sl;obtain⟨db,dc,hdv⟩:=hy.cl.sl;obtain⟨sb,sc,hsv⟩:=hx.sy.sl;refine qr zbi ([pAt x.rf]++inV y av dv) ?_ (by rw[hav,hdv];kernel_rfl) kr;simp only[inV,cns];refine⟨fun _=>?_,fun g=>?_⟩;rotate_left
 .simp only[wy,arI,z0m,hop]at g;exact absurd g dC
 refine⟨fun _=>rfl,[pAt x.rg],rfl,h.frow 0 1,fun _=>rfl,[x.sv],by rw[hsv];rfl,h.grow 0 1,?_⟩;simp only[cns];refine z03 [vi ((wordX (z2o y.const) x.syms).getD 0)] (qb 134) (Z67 y.const _ x.syms x.sv K (hy.le h.sh).dat (hx.sy.le h.sh)) rfl z01 fun K1 l1=>?_;have h1:=h.le l1;simp only[cns];refine z05 (qb 133) (zso hx hp y.to _ hr (Zln _ _ ?_) h1) fun K2 h2=>⟨rfl,h2⟩;unfold z2o
 repeat' split
 all_goals first|exact i0J|exact hy.ci
def FX.retL(x:FX)(pu r:Int):List ItemR:=x.getL pu r 26++[⟨0,⟨15,1,x.get r 26,0,0⟩,0,0⟩]++growL (arI .sub .i64 0 x.slots)++[⟨3,⟨28,0,0,0,0⟩,4,0⟩]
theorem Zd4(hx:FOk S0 x)(hp:0≤pu∧pu≤100000)(b:Int)(e:EndX)(av:Value)(he:EnR S0 e av)(hk:e.kind=2)(hr:x.has e.reg)(h:GnH S0 K x pu nx l (k+4) J):
  Tri zP 86 #[pAt x.rf,vi b,.agg (enV e av).toArray] K (GnQ S0 x pu nx (l++x.retL pu e.reg) k J):=by
 obtain⟨ab,ac,hav⟩:=he.args.sl;obtain⟨s1,s2⟩:=hx.sl;refine qr zak ([pAt x.rf,vi b]++enV e av) ?_ (by rw[hav];kernel_rfl) kr;simp only[enV,cns];refine⟨fun g=>by simp[wy,arI,hk]at g,fun _=>⟨fun g=>by simp[wy,arI,hk]at g,fun _=>⟨fun _=>?_,fun g=>by simp[wy,arI,hk]at g⟩⟩⟩;refine⟨fun _=>rfl,[pAt x.rg],rfl,h.frow 0 1,fun _=>rfl,?_⟩;simp only[cns];refine z2y (qb 136) (zob hx hp e.reg 26 hr dC h) (fun K1 h1=>z0w (h1.frow 0 1) z01) fun K1 h1=>?_;simp only[cns];refine z05 (qb 56) (h1.to (zn4 1 (x.get e.reg 26) dC (zsc hx e.reg 26 hr dC))) fun K2 h2=>?_;refine⟨[vi x.slots],rfl,h2.frow 6 1,?_⟩;simp only[cns];have hin:InI (arI .sub .i64 0 x.slots):=by
  show InI (IntKind.i64.wrap (0-x.slots));rw[w64 om om];exact inJ om om
 refine z05 (qb 128) (znx (arI .sub .i64 0 x.slots) hin h2) fun K3 h3=>?_;refine⟨[pAt x.rg],rfl,h3.frow 0 1,fun _=>rfl,?_⟩;simp only[cns];refine z05 (qb 60) (h3.to (z6v 4 dC)) fun K4 h4=>?_;refine⟨rfl,?_⟩;simpa only[FX.retL,zaa,cns]using h4
end
def inR(p:PrcX)(r:Int):Bool:=decide (0≤r∧r<p.regs)
def EndX.uses(e:EndX):List Int:=if e.kind=1∨e.kind=2∨e.kind=5 then[e.reg]else if e.kind=3 then e.reg::e.args else if e.kind=4 then e.reg::e.to::e.args else if e.kind=6 then[e.reg,e.to]else[]
def InsX.may(p:PrcX)(x:InsX):Bool:=x.args.all (inR p)&&(decide (x.op=tieB)||inR p x.to)
def BlkX.may(p:PrcX)(b:BlkX):Bool:=b.ins.all (InsX.may p)&&b.e.uses.all (inR p)
def z5v(p:PrcX):Bool:=!(decide (p.regs<0)||decide (p.regs>2000)||decide (p.params<0)||decide (p.params>p.regs)||decide ((p.blocks.length:Int)=0))
def mayP(p:PrcX):Bool:=z5v p&&p.blocks.all (BlkX.may p)
theorem zh7{α:Type}(f:α→Bool){l:List α}{k:Nat}{a:α}(h:l[k]?=some a):(l.take (k+1)).all f=((l.take k).all f&&f a):=by
 rw[q9,h,List.all_append];simp
theorem zdm(p:PrcX)(l:List Int)(lv bv:Value)(kb pb:Nat)(S K:PH)(o:Bool)(hl:SlR S l lv)(h:Held S K [bx kb 4 [.bool o],bx pb 43 (prcVs p bv)]):
  Tri zP 169 #[lv,pAt kb,pAt pb] K fun x K'=>x=.returned (.tuple #[])∧Held S K' [bx kb 4 [.bool (o&&l.all (inR p))],bx pb 43 (prcVs p bv)]:=by
 obtain⟨b1,c1,rfl⟩:=hl.sl;have hm:=hl.max;simp only[maxLen]at hm;refine zx2 [.slice b1 l.length c1,pAt kb,pAt pb] kr kr ?_;refine⟨fun n vs K'=>∃k:Nat,vs=[nI k]∧k+n=l.length∧Held S K' [bx kb 4 [.bool (o&&(l.take k).all (inR p))],bx pb 43 (prcVs p bv)],⟨l.length,0,rfl,om,by simpa using h⟩,?_⟩;rintro n vs K1 _ ⟨k,rfl,hkn,h1⟩;refine⟨fun g=>?_,fun g=>?_⟩
 .simp only[wy,zdt]at g;obtain⟨r,hr⟩:∃r,l[k]?=some r:=⟨_,zge (show k<l.length by omega)⟩;obtain⟨r1,_,rcs,r2,r3⟩:=hl.get hr;obtain⟨rfl,_⟩:=csIK r2;refine⟨fun vs K'=>vs=[]∧Held S K' [bx kb 4 [.bool (o&&(l.take (k+1)).all (inR p))],bx pb 43 (prcVs p bv)],?_,fun _=>?_,[vi r],rfl,?_,?_⟩
  .rintro vs K' _ ⟨rfl,h2⟩;refine⟨_,z00,n-1,om,k+1,?_,om,h2⟩;simp only[wy];rw[w64 om om];rfl
  .simp only[Chk.holds,wy];exact⟨r1,om,om⟩
  .simp only[wy];exact z0v h1.sh r3
  refine z0p [.bool (o&&(l.take k).all (inR p))] (off:=0) kr h1 (zms) rfl rfl ?_;refine⟨fun _=>rfl,fun g2=>?_,fun g2=>?_⟩
  .simp only[wy]at g2;have hg:(o&&(l.take k).all (inR p))=true∧0≤r:=by
    cases hc:(o&&(l.take k).all (inR p))with
    |true=>rw[hc]at g2;simp only[Bool.true_and,zdt]at g2;exact⟨rfl,om⟩
    |false=>rw[hc]at g2;simp at g2
   refine z0p [vi p.regs] (off:=2) kr h1 (zmm _ (zms)) rfl rfl ?_;refine z06 (off:=0) (vs:=[.bool (decide (r<p.regs))]) kr h1 (by simp only[wy]) (by simp[oneC]) sM fun K2 h2=>?_;refine⟨_,z00,rfl,?_⟩;have:(o&&(l.take (k+1)).all (inR p))=decide (r<p.regs):=by
    rw[zh7 _ hr,←Bool.and_assoc,hg.1,Bool.true_and];unfold inR;by_cases h:r<p.regs
    .rw[qX h,qX ⟨hg.2,h⟩]
    .rw[qY h,qY (fun hh=>h hh.2)]
   rw[this];exact h2
  .simp only[wy]at g2;refine z06 (off:=0) (vs:=[.bool false]) kr h1 (by simp only[wy]) (by simp[oneC]) sM fun K2 h2=>?_;refine⟨_,z00,rfl,?_⟩;have:(o&&(l.take (k+1)).all (inR p))=false:=by
    rw[zh7 _ hr,←Bool.and_assoc];cases hc:(o&&(l.take k).all (inR p))with
    |true=>
     rw[hc]at g2;simp only[Bool.true_and,zdf]at g2;rw[Bool.true_and];unfold inR;exact qY (fun hh=>g2 om)
    |false=>rfl
   rw[this];exact h2
 .simp only[wy,zdf]at g;rw[ztl om]at h1;exact⟨rfl,h1⟩
theorem ze2{e:EndX}:e.uses=if e.kind=1∨e.kind=2∨e.kind=5 then[e.reg]else if e.kind=3 then[e.reg]++e.args else if e.kind=4 then[e.reg,e.to]++e.args else if e.kind=6 then[e.reg,e.to]else[]:=rfl
theorem Zhw(p:PrcX)(bv:Value)(H:PH)(hbv:SlR H p.blocks bv)(hp:p.Fit)(hE:∀b∈p.blocks,b.e.args.length≤20000000):Gives zP 121 [.agg (prcVs p bv).toArray] H (.bool (mayP p)):=by
 have hN:=hp.n;obtain⟨b0,c0,rfl⟩:=hbv.sl;refine qr Z3m (prcVs p (.slice b0 p.blocks.length c0)) ?_;simp only[prcVs];refine z31 (vs:=prcVs p (.slice b0 p.blocks.length c0)) (Held.nil (wx H)) kr fun pb K1 _ h1=>?_;simp only[cns];have hm1:bx pb 43 (prcVs p (.slice b0 p.blocks.length c0))∈[bx pb 43 (prcVs p (.slice b0 p.blocks.length c0))]:=zms;refine⟨fun vs K=>vs=[.bool (!z5v p)]∧K=K1,?_,?_⟩;rotate_left
 .refine⟨fun _=>rfl,?_⟩;refine z0p [vi p.regs] (off:=2) kr h1 hm1 rfl rfl ?_;refine⟨fun g=>?_,fun g=>?_⟩
  .simp only[wy]at g;refine⟨_,z00,?_,rfl⟩;unfold z5v;rw[g];rfl
  simp only[wy]at g;refine z0p [vi p.regs] (off:=2) kr h1 hm1 rfl rfl ?_;refine⟨fun g2=>?_,fun g2=>?_⟩
  .simp only[wy]at g2;refine⟨_,z00,?_,rfl⟩;unfold z5v;rw[g,g2];rfl
  simp only[wy]at g2;refine z0p [vi p.params] (off:=0) kr h1 hm1 rfl rfl ?_;refine⟨fun g3=>?_,fun g3=>?_⟩
  .simp only[wy]at g3;refine⟨_,z00,?_,rfl⟩;unfold z5v;rw[g,g2,g3];rfl
  simp only[wy]at g3;refine z0p [vi p.params] (off:=0) kr h1 hm1 rfl rfl ?_;refine z0p [vi p.regs] (off:=2) kr h1 hm1 rfl rfl ?_;refine⟨fun g4=>?_,fun g4=>?_⟩
  .simp only[wy]at g4;refine⟨_,z00,?_,rfl⟩;unfold z5v;rw[g,g2,g3,g4];rfl
  simp only[wy]at g4;refine z0p [.slice b0 p.blocks.length c0] (off:=3) kr h1 hm1 rfl rfl ?_;refine⟨_,z00,?_,rfl⟩;simp only[wy];unfold z5v;rw[g,g2,g3,g4,Bool.not_not];rfl
 rintro vs K _ ⟨rfl,rfl⟩;simp only[cns];refine⟨fun g=>?_,fun g=>?_⟩
 .simp only[wy]at g;refine⟨?_,h1.sh⟩;have:z5v p=false:=by simpa using g
  unfold mayP;rw[this];rfl
 simp only[wy]at g;have hh:z5v p=true:=by simpa using g
 refine z31 (vs:=[.bool false]) h1 kr fun kb K2 _ h2=>?_;refine z06 (off:=0) (vs:=[.bool true]) kr h2 kr (by simp[oneC]) sM fun K3 h3=>?_;have h3:Held H K3 [bx kb 4 [.bool true],bx pb 43 (prcVs p (.slice b0 p.blocks.length c0))]:=h3;refine z7z (f:=169) rfl ?_;have hmf:∀(E:List Value) (a:List (Nat×VE)),a=[(3,VE.sc (.atom 6)),(1,VE.sc (.atom 4))]→E.getD 6 (.bool false)=pAt kb→E.getD 4 (.bool false)=pAt pb→(.func (.func 169) ((#[]:Array Operand).map (argEv E a)) ((#[(.tmp 3),(.tmp 1)]:Array Operand).map (argEv E a)):Value)=.func (.func 169) #[] #[pAt kb,pAt pb]:=by
  rintro E a rfl h6 h4;rw[zgd]at h6 h4;simp[argEv,evV,ev,List.lookup,h6,h4]
 rw[hmf _ _ rfl rfl rfl];simp only[cns];refine⟨fun _=>rfl,?_⟩;refine z0p [.slice b0 p.blocks.length c0] (off:=3) kr h3 (zmm _ (zms)) rfl rfl ?_;simp only[cns];refine⟨fun n vs K'=>∃k:Nat,vs=[nI k]∧k+n=p.blocks.length∧∃S',PH.le H S'∧Held S' K' [bx kb 4 [.bool ((p.blocks.take k).all (BlkX.may p))],bx pb 43 (prcVs p (.slice b0 p.blocks.length c0))],⟨p.blocks.length,0,rfl,om,H,wx _,by simpa using h3⟩,?_⟩;rintro n vs K4 _ ⟨k,rfl,hkn,S4,l4,h4⟩;simp only[cns];refine⟨fun g=>?_,fun g=>?_⟩;rotate_left
 .simp only[wy,zdf]at g;rw[ztl om]at h4;refine z0p [.bool (p.blocks.all (BlkX.may p))] (off:=0) kr h4 (zms) rfl rfl ?_;refine⟨?_,ww l4 h4.sh⟩;unfold mayP;rw[hh,Bool.true_and];rfl
 simp only[wy,zdt]at g;have hk:k<p.blocks.length:=om;obtain⟨b,hb⟩:∃b,p.blocks[k]?=some b:=⟨_,zge hk⟩;have hbl:=hp.ins b (zmg hb);have hbe:=hE b (zmg hb);obtain⟨q1,_,ces,q2,q3⟩:=(hbv.le l4).get hb;obtain⟨iv,es,rfl,his,hes⟩:=blk_iff.1 q2;obtain⟨av,rfl,e1,e2,hea,e3,e4,e5⟩:=end_iff.1 hes;obtain⟨b2,c2,rfl⟩:=his.sl;obtain⟨b3,c3,rfl⟩:=hea.sl;refine⟨fun vs K'=>vs=[]∧∃S',PH.le H S'∧Held S' K' [bx kb 4 [.bool ((p.blocks.take (k+1)).all (BlkX.may p))],bx pb 43 (prcVs p (.slice b0 p.blocks.length c0))],?_,fun _=>?_,[.slice b2 b.ins.length c2,vi b.e.kind,vi b.e.reg,.slice b3 b.e.args.length c3,vi b.e.to,vi b.e.next,vi b.e.els],rfl,?_,?_⟩
 .rintro vs K' _ ⟨rfl,S',l',h'⟩;refine⟨_,z00,n-1,om,k+1,?_,om,S',l',h'⟩;simp only[wy];rw[w64 om om];rfl
 .simp only[Chk.holds,wy];exact⟨q1,om,om⟩
 .simp only[wy];exact z0v h4.sh q3
 simp only[cns];refine⟨fun n vs K'=>∃j:Nat,vs=[nI j]∧j+n=b.ins.length∧∃S',PH.le S4 S'∧Held S' K' [bx kb 4 [.bool ((p.blocks.take k).all (BlkX.may p)&&(b.ins.take j).all (InsX.may p))],bx pb 43 (prcVs p (.slice b0 p.blocks.length c0))],⟨b.ins.length,0,rfl,om,S4,wx _,by simpa using h4⟩,?_⟩;rintro n2 vs K5 _ ⟨j,rfl,hjn,S5,l5,h5⟩;simp only[cns];refine⟨fun g2=>?_,fun g2=>?_⟩
 .simp only[wy,zdt]at g2;obtain⟨x,hx⟩:∃x,b.ins[j]?=some x:=⟨_,zge (show j<b.ins.length by omega)⟩;obtain⟨y1,_,ycs,y2,y3⟩:=(his.le l5).get hx;obtain⟨arv,dv,rfl,_,x2,hya,_,_,_,hyd,_⟩:=ins_iff.1 y2;obtain⟨rb,rc,rfl⟩:=hya.sl;obtain⟨db,dc,rfl⟩:=hyd.sl;refine⟨fun vs K'=>vs=[]∧∃S',PH.le S4 S'∧Held S' K' [bx kb 4 [.bool ((p.blocks.take k).all (BlkX.may p)&&(b.ins.take (j+1)).all (InsX.may p))],bx pb 43 (prcVs p (.slice b0 p.blocks.length c0))],?_,fun _=>?_,[txt x.op,vi x.to,.slice rb x.args.length rc,vi x.const.kind,vi x.const.int,txt x.const.text,.slice db x.const.list.length dc,vi x.num],rfl,?_,?_⟩
  .rintro vs K' _ ⟨rfl,S',l',h'⟩;refine⟨_,z00,n2-1,om,j+1,?_,om,S',l',h'⟩;simp only[wy];rw[w64 om om];rfl
  .simp only[Chk.holds,wy];exact⟨y1,om,om⟩
  .simp only[wy];exact z0v h5.sh y3
  simp only[cns];refine z1m (f:=169) (first:=#[]) (caps:=#[pAt kb,pAt pb]) (by rfl) (qb 169) (zdm p x.args (.slice rb x.args.length rc) (.slice b0 p.blocks.length c0) kb pb S5 K5 _ hya h5) ?_;rintro e K6 ⟨rfl,h6⟩;refine⟨_,[],rfl,rfl,rfl,z01,fun g3=>?_,fun g3=>?_⟩
  .simp only[wy,ztf]at g3;have hop:x.op≠tieB:=by simpa using g3
   refine z0k (α:=Int) (l:=[x.to]) (b:=8) [vi x.to] z0g z0e rfl dC dC h6 kr (.cons (z09 x2) .nil) z01 fun v7 K7 h7 _ _=>?_;obtain⟨S8,s8,l8,h8⟩:=h7.freeze;obtain⟨b8,c8,rfl⟩:=s8.sl;simp only[cns];refine z1m (f:=169) (first:=#[]) (caps:=#[pAt kb,pAt pb]) (by rfl) (qb 169) (zdm p [x.to] (.slice b8 1 c8) (.slice b0 p.blocks.length c0) kb pb S8 K7 _ s8 h8) ?_;rintro e K9 ⟨rfl,h9⟩;refine⟨_,[],rfl,rfl,rfl,z01,_,z00,rfl,S8,ww l5 l8,?_⟩;have:((p.blocks.take k).all (BlkX.may p)&&(b.ins.take (j+1)).all (InsX.may p))=(((p.blocks.take k).all (BlkX.may p)&&(b.ins.take j).all (InsX.may p))&&x.args.all (inR p)&&([x.to]:List Int).all (inR p)):=by
    rw[zh7 _ hx];unfold InsX.may;rw[qY hop];simp[Bool.and_assoc]
   rw[this];exact h9
  .simp only[wy,ztf]at g3;have hop:x.op=tieB:=by simpa using g3
   refine⟨_,z00,rfl,S5,l5,?_⟩;have:((p.blocks.take k).all (BlkX.may p)&&(b.ins.take (j+1)).all (InsX.may p))=(((p.blocks.take k).all (BlkX.may p)&&(b.ins.take j).all (InsX.may p))&&x.args.all (inR p)):=by
    rw[zh7 _ hx];unfold InsX.may;rw[qX hop];simp[Bool.and_assoc]
   rw[this];exact h6
 simp only[wy,zdf]at g2;rw[ztl (l:=b.ins) om]at h5;have hall:(p.blocks.take (k+1)).all (BlkX.may p)=(((p.blocks.take k).all (BlkX.may p)&&b.ins.all (InsX.may p))&&b.e.uses.all (inR p)):=by
  rw[zh7 _ hb];unfold BlkX.may;rw[Bool.and_assoc]
 have hea5:=hea.le l5;refine⟨fun vs K=>K=K5∧vs=[.bool (decide (b.e.kind=1∨b.e.kind=2∨b.e.kind=5))],?_,fun g=>?_,fun g=>?_⟩
 .rintro vs K _ ⟨rfl,rfl⟩;simp only[cns];refine⟨fun g=>?_,fun g=>⟨fun g2=>?_,fun g2=>⟨fun g3=>?_,fun g3=>⟨fun g4=>?_,fun g4=>?_⟩⟩⟩⟩
  .simp only[wy,zdt]at g;have hu:b.e.uses=[b.e.reg]:=by rw[ze2,qj g]
   refine z0k (α:=Int) (l:=[b.e.reg]) (b:=8) [vi b.e.reg] z0g z0e rfl dC dC h5 kr (.cons (z09 e2) .nil) z01 fun v7 K7 h7 _ _=>?_;obtain⟨S8,s8,l8,h8⟩:=h7.freeze;obtain⟨b8,c8,rfl⟩:=s8.sl;simp only[cns];refine z1m (f:=169) (first:=#[]) (caps:=#[pAt kb,pAt pb]) (by rfl) (qb 169) (zdm p [b.e.reg] (.slice b8 1 c8) (.slice b0 p.blocks.length c0) kb pb S8 K7 _ s8 h8) ?_;rintro e K9 ⟨rfl,h9⟩;exact⟨_,[],rfl,rfl,rfl,z01,_,z1e rfl z00,rfl,S8,ww l4 (ww l5 l8),by rw[hall,hu];exact h9⟩
  .simp only[wy,zdf]at g;simp only[wy,zdt]at g2;have hu:b.e.uses=[b.e.reg]++b.e.args:=by rw[ze2,qc g,qj g2]
   refine z0k (α:=Int) (l:=[b.e.reg]) (b:=8) [vi b.e.reg] z0g z0e rfl dC dC h5 kr (.cons (z09 e2) .nil) z01 fun v6 K6 h6 _ _=>?_;refine z6k (b:=8) (more:=b.e.args) z0g z0e kr kr h6 (hea5.srcS h6.sh) (by simp only[maxLen,zlc,zln];omega) (by simp only[zlc,zln];omega) fun v7 K7 h7 _=>⟨z01,?_⟩;obtain⟨S8,s8,l8,h8⟩:=h7.freeze;obtain⟨b8,c8,rfl⟩:=s8.sl;simp only[cns];refine z1m (f:=169) (first:=#[]) (caps:=#[pAt kb,pAt pb]) (by rfl) (qb 169) (zdm p ([b.e.reg]++b.e.args) (.slice b8 ([b.e.reg]++b.e.args).length c8) (.slice b0 p.blocks.length c0) kb pb S8 K7 _ s8 h8) ?_;rintro e K9 ⟨rfl,h9⟩;exact⟨_,[],rfl,rfl,rfl,z01,_,z1e rfl z00,rfl,S8,ww l4 (ww l5 l8),by rw[hall,hu];exact h9⟩
  .simp only[wy,zdf]at g g2;simp only[wy,zdt]at g3;have hu:b.e.uses=[b.e.reg,b.e.to]++b.e.args:=by rw[ze2,qc g,qc g2,qj g3]
   refine z0k (α:=Int) (l:=[b.e.reg,b.e.to]) (b:=8) [vi b.e.reg,vi b.e.to] z0g z0e rfl dC dC h5 kr (.cons (z09 e2) (.cons (z09 e3) .nil)) z01 fun v6 K6 h6 _ _=>?_;refine z6k (b:=8) (more:=b.e.args) z0g z0e kr kr h6 (hea5.srcS h6.sh) (by simp only[maxLen,zlc,zln];omega) (by simp only[zlc,zln];omega) fun v7 K7 h7 _=>⟨z01,?_⟩;obtain⟨S8,s8,l8,h8⟩:=h7.freeze;obtain⟨b8,c8,rfl⟩:=s8.sl;simp only[cns];refine z1m (f:=169) (first:=#[]) (caps:=#[pAt kb,pAt pb]) (by rfl) (qb 169) (zdm p ([b.e.reg,b.e.to]++b.e.args) (.slice b8 ([b.e.reg,b.e.to]++b.e.args).length c8) (.slice b0 p.blocks.length c0) kb pb S8 K7 _ s8 h8) ?_;rintro e K9 ⟨rfl,h9⟩;exact⟨_,[],rfl,rfl,rfl,z01,_,z1e rfl z00,rfl,S8,ww l4 (ww l5 l8),by rw[hall,hu];exact h9⟩
  .simp only[wy,zdf]at g g2 g3;simp only[wy,zdt]at g4;have hu:b.e.uses=[b.e.reg,b.e.to]:=by rw[ze2,qc g,qc g2,qc g3,qj g4]
   refine z0k (α:=Int) (l:=[b.e.reg,b.e.to]) (b:=8) [vi b.e.reg,vi b.e.to] z0g z0e rfl dC dC h5 kr (.cons (z09 e2) (.cons (z09 e3) .nil)) z01 fun v7 K7 h7 _ _=>?_;obtain⟨S8,s8,l8,h8⟩:=h7.freeze;obtain⟨b8,c8,rfl⟩:=s8.sl;simp only[cns];refine z1m (f:=169) (first:=#[]) (caps:=#[pAt kb,pAt pb]) (by rfl) (qb 169) (zdm p [b.e.reg,b.e.to] (.slice b8 2 c8) (.slice b0 p.blocks.length c0) kb pb S8 K7 _ s8 h8) ?_;rintro e K9 ⟨rfl,h9⟩;exact⟨_,[],rfl,rfl,rfl,z01,_,z1e rfl z00,rfl,S8,ww l4 (ww l5 l8),by rw[hall,hu];exact h9⟩
  .simp only[wy,zdf]at g g2 g3 g4;have hu:b.e.uses=[]:=by rw[ze2,qc g,qc g2,qc g3,qc g4]
   exact⟨_,z1e rfl z00,rfl,S5,ww l4 l5,by rw[hall,hu,List.all_nil,Bool.and_true];exact h5⟩
 .simp only[wy,zdt]at g;refine⟨_,z00,rfl,?_⟩;simp[wy,g]
 .simp only[wy,zdf]at g;refine⟨_,z00,rfl,?_⟩;by_cases h2:b.e.kind=2<;>by_cases h5:b.e.kind=5<;>simp[wy,g,h2,h5]
structure FillX where
 to:Int
 of:Int
 live:List Int
def moveB:List UInt8:=[109,111,118,101]
theorem Zc8(l:List UInt8):cmpS .neq ⟨l.toArray⟩ ⟨#[109,111,118,101]⟩=!decide (l=moveB):=by
 show(!((⟨l.toArray⟩:ByteArray).toList==(⟨moveB.toArray⟩:ByteArray).toList))=_;rw[zs4]
def lessL(l m:List Int):List Int:=l.filter fun r=>decide (r∉m)
noncomputable def zdr(p:PrcX)(i j:Nat)(x:InsX):List FillX:=if x.op=tieB then[]else[⟨x.to,-1,if x.op=moveB then lessL (liveL p i (j+1)) x.args else liveL p i (j+1)⟩]
noncomputable def z4b(p:PrcX)(i:Nat)(b:BlkX)(k:Nat):List FillX:=(List.range k).flatMap fun j=>match b.ins[j]? with
 |some x=>zdr p i j x
 |none=>[]
noncomputable def zgs(p:PrcX)(i:Nat)(b:BlkX):List FillX:=z4b p i b b.ins.length++if b.e.calls then[⟨b.e.to,-1,z0y p (i:Int)⟩]else[]
noncomputable def z49(p:PrcX)(k:Nat):List FillX:=(List.range k).flatMap fun i=>match p.blocks[i]? with
 |some b=>zgs p i b
 |none=>[]
noncomputable def zmr(p:PrcX):List FillX:=z49 p p.blocks.length
theorem zqt{p:PrcX}{i j:Nat}{b:BlkX}{x:InsX}(h:b.ins[j]?=some x):z4b p i b (j+1)=z4b p i b j++zdr p i j x:=by
 unfold z4b;rw[List.range_succ,List.flatMap_append];simp[h]
theorem zs7{p:PrcX}{k:Nat}{b:BlkX}(h:p.blocks[k]?=some b):z49 p (k+1)=z49 p k++zgs p k b:=by
 unfold z49;rw[List.range_succ,List.flatMap_append];simp[h]
theorem Z9y{p:PrcX}(hp:p.Fit)(i:Int):(z0y p i).length≤20000000:=by
 unfold z0y;split
 .split
  .exact Nat.le_trans (List.length_filter_le _ _) (zrt hp _ _)
  .simp
 .simp
theorem Z1s{α:Type}:∀{l:List α} {i:Nat} {x:α},l[i]?=some x→(x::l.eraseIdx i).Perm l
 | [],i,x,h=>by simp at h
 |a::l,0,x,h=>by simp at h;subst h;exact List.Perm.refl _
 |a::l,i+1,x,h=>by
  have:=Z1s (l:=l) (i:=i) (x:=x) (by simpa using h);exact(qq a x _).trans (this.cons a)
theorem Z84{α:Type}{x:α}:∀{l:List α} {i:Nat},i<l.length→(x::l.eraseIdx i).Perm (l.set i x)
 | [],i,h=>by simp at h
 |a::l,0,h=>by exact List.Perm.refl _
 |a::l,i+1,h=>by
  have:=Z84 (x:=x) (l:=l) (i:=i) (by simpa using h);exact(qq a x _).trans (this.cons a)
theorem Held.pick{S H:PH}{I L:List Itm}{x:Itm}{a:Nat}(h:Held S H (I++L))(hx:L[a]?=some x):Held S H (x::(I++L.eraseIdx a)):=
 h.perm (((List.Perm.append_left I (Z1s hx).symm)).trans qA)
theorem Held.unpick{S H:PH}{I L:List Itm}{x:Itm}{a:Nat}(h:Held S H (x::(I++L.eraseIdx a)))(ha:a<L.length):Held S H (I++L.set a x):=
 h.perm (List.perm_middle.symm.trans (List.Perm.append_left I (Z84 ha)))
theorem Held.blkRow{α:Type}[Enc α]{S H:PH}{I:List Itm}{e:TypeId}{xs:List Value}{r:Nat}{L:List α}(hz:sz α=1)(h:Held S H (.blk r (.cells xs.toArray e (0,0))::I))(hrep:PV.RepRow S (L.flatMap pv) xs)(hm:L.length≤maxLen):
  Held S H (orow e L (.slice (some ⟨r,0,none⟩) L.length L.length)::I):=by
 have hb:H r=some (.cells xs.toArray e (0,0)):=h.at_ _ (zms);have hl:xs.length=L.length:=by have:=hrep.length;rw[z3e,hz,Nat.mul_one]at this;exact this
 have hR:Row S H e L (.slice (some ⟨r,0,none⟩) L.length L.length):=by
  refine⟨fun g hg=>?_,xs,⟨by rw[hz,Nat.mul_one];exact hl,.inr ⟨r,L.length,xs.toArray,rfl,hb,we _,hm,by rw[hz,Nat.mul_one];simpa using hl,?_⟩⟩,hrep⟩
  .simp only[ob,qG]at hg;subst hg;exact h.off _ (zms) r rfl
  .rw[List.toList_toArray,hz,Nat.mul_one];exact ztl om
 exact Held.step (J:=[.blk r (.cells xs.toArray e (0,0))]) (J':=[orow e L (.slice (some ⟨r,0,none⟩) L.length L.length)]) h (wx _) (fun k o hk _=>hk) (fun k a b=>absurd a b) (Row.held h.sh hR) fun j hj k hk=>by
  rw[zsi.1 hj]at hk;simp only[Itm.ob,ob,qG]at hk;subst hk;exact .inr ⟨_,zsi.2 rfl,rfl⟩
section
variable {X:List PanicEntry→PH→Prop}{β:Type}{E:List Value}{L:LK}{K:β→List Value→PH→LK→Prop}{S H:PH}{J:List Itm}
end
def FillX.sym(f:FillX)(a b:Int):Prop:=(a=f.to∧b∈f.live)∨(b=f.to∧a∈f.live)
def MeetP(p:PrcX)(a b:Int):Prop:=(a∈liveL p 0 0∧b∈liveL p 0 0)∨∃f∈zmr p,f.sym a b
theorem Ziz{p:PrcX}(h:mayP p=true){r:Int}(hr:r∈p.regl):0≤r∧r<p.regs:=by
 obtain⟨b,hb,hx⟩:=List.mem_flatMap.1 hr;unfold mayP at h;simp only[zba,zat]at h;have hbm:=h.2 b hb;unfold BlkX.may at hbm;simp only[zba,zat]at hbm;have key:inR p r=true→0≤r∧r<p.regs:=fun h=>by unfold inR at h;exact qZ h
 unfold BlkX.regs at hx;rcases zma.1 hx with hx|hx
 .obtain⟨y,hy,hxy⟩:=List.mem_flatMap.1 hx;have:=hbm.1 y hy;unfold InsX.may at this;simp only[zba,zat]at this;exact key (this.1 r hxy)
 .refine key (hbm.2 r ?_);unfold EndX.regs at hx;unfold EndX.uses;rcases zma.1 hx with hx|hx
  .split at hx
   .rename_i hrd;simp at hx;subst hx;unfold EndX.reads at hrd;by_cases h1:b.e.kind=1∨b.e.kind=2∨b.e.kind=5
    .rw[qj h1];simp
    .rw[qc h1];by_cases h3:b.e.kind=3
     .rw[qj h3];simp
     .rw[qc h3];by_cases h4:b.e.kind=4
      .rw[qj h4];simp
      .rw[qc h4];by_cases h6:b.e.kind=6
       .rw[qj h6];simp
       .rw[qc om,qc om]at hrd;cases hrd
   .cases hx
  .split at hx
   .rename_i hk;rw[qc om];by_cases h3:b.e.kind=3
    .rw[qj h3];exact zmm _ hx
    .rw[qc h3,qj om];exact zmm _ (zmm _ hx)
   .cases hx
theorem zj0{p:PrcX}(h:mayP p=true){r:Int}{i a:Nat}(hr:r∈liveL p i a):0≤r∧r<p.regs:=Ziz h (z51 (liveL_mem.1 hr))
theorem zpa{p:PrcX}(h:mayP p=true){f:FillX}(hf:f∈zmr p):(0≤f.to∧f.to<p.regs)∧∀r∈f.live,0≤r∧r<p.regs:=by
 obtain⟨i,hi,hf⟩:=List.mem_flatMap.1 hf;cases hb:p.blocks[i]? with
 |none=>rw[hb]at hf;simp at hf
 |some b=>
  rw[hb]at hf;simp only at hf;unfold mayP at h;have h0:=h;simp only[zba,zat]at h;have hbm:=h.2 b (zmg hb);unfold BlkX.may at hbm;simp only[zba,zat]at hbm;have key:∀{r},inR p r=true→0≤r∧r<p.regs:=fun h=>by unfold inR at h;exact qZ h
  unfold zgs at hf;rcases zma.1 hf with hf|hf
  .obtain⟨j,hj,hf⟩:=List.mem_flatMap.1 hf;cases hx:b.ins[j]? with
   |none=>rw[hx]at hf;simp at hf
   |some x=>
    rw[hx]at hf;simp only[zdr]at hf;split at hf
    .cases hf
    .rename_i hop;have hxm:=hbm.1 x (zmg hx);unfold InsX.may at hxm;rw[qY hop]at hxm;simp only[zba,zat,Bool.false_or]at hxm;rw[zsi.1 hf];refine⟨key hxm.2,fun r hr=>?_⟩;split at hr
     .exact zj0 h0 (zmf.1 hr).1
     .exact zj0 h0 hr
  .split at hf
   .rename_i hc;rw[zsi.1 hf];refine⟨?_,fun r hr=>?_⟩
    .refine key (hbm.2 _ ?_);unfold EndX.calls at hc;simp only[zdt]at hc;unfold EndX.uses;rw[qc om,qc om];by_cases h4:b.e.kind=4
     .rw[qj h4];simp
     .rw[qc h4,qj om];simp
    .unfold z0y at hr;split at hr
     .split at hr
      .exact zj0 h0 (zmf.1 hr).1
      .cases hr
     .cases hr
   .cases hf
theorem Z70{p:PrcX}(h:mayP p=true):0≤p.regs∧p.regs≤2000∧0≤p.params∧p.params≤p.regs∧p.blocks≠[]:=by
 unfold mayP z5v at h;simp only[zba,qy,zof,zdf]at h;refine⟨om,om,om,om,fun e=>?_⟩;rw[e]at h;simp at h
def cntB(f:Nat→Bool):Nat→Nat
 |0=>0
 |n+1=>cntB f n+if f n then 1 else 0
def Zgt(R:Nat)(M:Nat→Nat→Prop)(k:Int)(U:Nat→Bool):Prop:=∀i,i<R→U i=true→∃f:Nat→Bool,(∀j,j<R→f j=true→U j=true∧j≠i∧M i j)∧k≤(cntB f R:Int)
section
variable {P:Program}{Φ:Next→PH→Prop}{Ψ:Value→PH→Prop}{H:PH}{ρ:Operand→Value}
theorem Zd2{T ty:TypeId}{x y:Operand}:wpS P (execOp ρ (bare (.index T x y) ty)) Φ Ψ H=wpS P (Instr.index T (ρ x) (ρ y)) (fun v H'=>Φ (.value v) H') Ψ H:=by
 simp only[execOp,bare,z04,z0i]
theorem Zd1{X:List PanicEntry→PH→Prop}{β:Type}{E:List Value}{L:LK}{K:β→List Value→PH→LK→Prop}{T ty e e2:TypeId}{n m z:Nat}{x y:Operand}{args:List (Nat×VE)}{tags:List Tag}{k:Fm β}{cs:Array Value}{kk:IntKind}{j:Nat}(vs:List Value)
  (hT:P.underlying T=some (.array n e)) (he:P.underlying e=some (.array m e2)) (hiz:(P.info? e).map (·.size)=some z) (hx:argEv E args x=.agg cs) (hy:argEv E args y=.int kk (j:Int)) (hj:j<n) (hvs:(cs.extract (j*z) (j*z+z)).toList=vs) (ht:z07 tags vs=true)
  (hk:den P X k (E++vs) H L K):den P X (.sem (.index T x y) ty args (.ag tags) [] k) E H L K:=by
 obtain⟨i,hi,hz⟩:=qR.1 hiz;show wpS P (execOp (argEv E args) (bare _ ty)) _ _ H;rw[Zd2,hx,hy];unfold Instr.index asIntOf;simp only[z04,z0i,z08 hT];have hjn:(0:Int)≤(j:Int)∧(j:Int)<(n:Int):=⟨om,om⟩;rw[qj hjn];simp only[z04,z2v hi,qN,hz];unfold part isAgg;simp only[z04,z08 he,z0i,if_true,z2v hi,hz];refine⟨vs,ht,?_,z01,hk⟩;show Value.agg _=Value.agg _;rw[←hvs]
end
structure GN where
 ref:Nat
 es:Array MapEntry
 cl:Nat
 s:List Int
abbrev outM(N:List (Int×GN)):List (Int×Value):=N.map fun x=>(x.1,.map (some x.2.ref))
abbrev grB(gr:Nat)(es:Array MapEntry)(cl:Nat):List Itm:=[.blk gr (.map es cl)]
abbrev grI(N:List (Int×GN)):List Itm:=N.map fun x=>.blk x.2.ref (.map x.2.es x.2.cl)
structure GrOk(es:Array MapEntry)(cl:Nat)(N:List (Int×GN)):Prop where
 outer:EntsR (α:=Int) es.toList cl (outM N)
 inner:∀(j:Nat)x,N[j]?=some x→SetAt x.2.es x.2.cl x.2.s
def relN(N:List (Int×GN))(c d:Int):Prop:=∃x∈N,x.1=c∧d∈x.2.s
theorem zsa{es:Array MapEntry}{cl:Nat}{N:List (Int×GN)}(h:GrOk es cl N):(N.map (·.1)).Nodup:=by
 have:=h.outer.keys;rwa[List.map_map]at this
theorem zok:∀{N:List (Int×GN)} {j:Nat} {x:Int×GN},(N.map (·.1)).Nodup→N[j]?=some x→getM (outM N) x.1=some (.map (some x.2.ref))
 | [],j,x,_,h=>by simp at h
 |y::N,0,x,hn,h=>by
  simp at h;subst h;rw[outM,wa,z30,qj rfl]
 |y::N,j+1,x,hn,h=>by
  have h':N[j]?=some x:=by simpa using h
  simp only[wa,List.nodup_cons]at hn;have hne:¬y.1=x.1:=fun e=>hn.1 (e▸zmp.2 ⟨x,zmg h',rfl⟩);rw[outM,wa,z30,qc hne];exact zok hn.2 h'
theorem zt3{N:List (Int×GN)}{k:Int}(h:∀x∈N,x.1≠k):getM (outM N) k=none:=by
 rw[getM_none,List.map_map];intro hk;obtain⟨x,hx,e⟩:=zmp.1 hk;exact h x hx e
theorem zd9:Tryz.prog.underlying 179=some (.map 3 135):=kr
theorem zh0:Tryz.prog.underlying 135=some (.map 3 3):=kr
theorem Ziw{N:List (Int×GN)}{j:Nat}{x:Int×GN}{es:Array MapEntry}{cl:Nat}{s:List Int}(hx:N[j]?=some x):outM (N.set j (x.1,⟨x.2.ref,es,cl,s⟩))=outM N:=by
 refine List.ext_getElem? fun t=>?_;rw[zem,zem,List.getElem?_set];by_cases e:j=t
 .subst e;have hj:=(zgi.1 hx).1;rw[qj rfl,qj hj,hx];rfl
 .rw[qc e]
theorem Zlp{N:List (Int×GN)}{j:Nat}{x:Int×GN}{es:Array MapEntry}{cl:Nat}{s:List Int}(hx:N[j]?=some x):(grI N).set j (.blk x.2.ref (.map es cl))=grI (N.set j (x.1,⟨x.2.ref,es,cl,s⟩)):=by
 refine List.ext_getElem? fun t=>?_;rw[List.getElem?_set,zem,zem,List.getElem?_set,zlm];by_cases e:j=t
 .subst e;have hj:=(zgi.1 hx).1;rw[qj rfl,qj hj,qj rfl,qj hj];rfl
 .rw[qc e,qc e]
theorem Zim{N:List (Int×GN)}{j:Nat}{x:Int×GN}{es:Array MapEntry}{cl:Nat}{s:List Int}{k:Int}(hn:(N.map (·.1)).Nodup)(hx:N[j]?=some x)(hs:∀y,y∈s↔y∈x.2.s∨y=k)(c d:Int):relN (N.set j (x.1,⟨x.2.ref,es,cl,s⟩)) c d↔relN N c d∨(c=x.1∧d=k):=by
 have hj:=(zgi.1 hx).1;unfold relN;constructor
 .rintro⟨y,hy,h1,h2⟩;rcases List.mem_or_eq_of_mem_set hy with h|h
  .exact .inl ⟨y,h,h1,h2⟩
  .subst h;rcases(hs d).1 h2 with h3|h3
   .exact .inl ⟨x,zmg hx,h1,h3⟩
   .exact .inr ⟨h1.symm,h3⟩
 .rintro(⟨y,hy,h1,h2⟩|⟨h1,h2⟩)
  .obtain⟨t,ht⟩:=qJ hy;by_cases e:j=t
   .subst e;rw[hx]at ht;cases ht;exact⟨(x.1,⟨x.2.ref,es,cl,s⟩),zmg (i:=j) (by rw[List.getElem?_set,qj rfl,qj hj]),h1,(hs d).2 (.inl h2)⟩
   .exact⟨y,zmg (i:=t) (by rw[List.getElem?_set,qc e];exact ht),h1,h2⟩
  .exact⟨(x.1,⟨x.2.ref,es,cl,s⟩),zmg (i:=j) (by rw[List.getElem?_set,qj rfl,qj hj]),h1.symm,(hs d).2 (.inr h2)⟩
theorem zvm(gr:Nat)(es:Array MapEntry)(cl:Nat)(N:List (Int×GN))(a b:Int)(S K:PH)(h:Held S K (grB gr es cl++grI N))(hg:GrOk es cl N):
  Tri zP 170 #[.map (some gr),vi a,vi b] K fun x K'=>∃es' cl' N',x=.returned (.tuple #[])∧Held S K' (grB gr es' cl'++grI N')∧GrOk es' cl' N'∧∀c d,relN N' c d↔relN N c d∨(a≠b∧((c=a∧d=b)∨(c=b∧d=a))):=by
 refine qr zf9 [.map (some gr),vi a,vi b] ?_;refine⟨fun g=>?_,fun g=>?_⟩
 .simp only[wy,zdt]at g;have hab:a=b:=by simpa using g
  exact⟨es,cl,N,rfl,h,hg,fun c d=>⟨.inl,fun hh=>hh.elim id fun hh=>absurd hab hh.1⟩⟩
 simp only[wy]at g;have hab:a≠b:=by simpa using g
 refine ⟨fun n vs K'=>∃(i:Nat) (es':Array MapEntry) (cl':Nat) (N':List (Int×GN)),vs=[nI i]∧i+n=2∧Held S K' (grB gr es' cl'++grI N')∧GrOk es' cl' N'∧∀c d,relN N' c d↔relN N c d∨(1≤i∧c=a∧d=b)∨(2≤i∧c=b∧d=a),
  ⟨2,0,es,cl,N,rfl,rfl,h,hg,fun c d=>sM⟩,?_⟩
 rintro n vs K1 _ ⟨i,es1,cl1,N1,rfl,hin,h1,hg1,hr1⟩;simp only[cns];refine⟨fun g1=>?_,fun g1=>?_⟩;rotate_left
 .simp only[wy,zdf]at g1;have:i=2:=om;subst this;refine⟨es1,cl1,N1,rfl,h1,hg1,fun c d=>?_⟩;rw[hr1];constructor
  .rintro(h|⟨_,h⟩|⟨_,h⟩)
   .exact .inl h
   .exact .inr ⟨hab,.inl h⟩
   .exact .inr ⟨hab,.inr h⟩
  .rintro(h|⟨_,h|h⟩)
   .exact .inl h
   .exact .inr (.inl ⟨om,h⟩)
   .exact .inr (.inr ⟨om,h⟩)
 simp only[wy,zdt]at g1;have hi2:i<2:=om;obtain⟨k,w,hkw,hstep⟩:∃k w:Int,(k=(if i=0 then a else b)∧w=(if i=0 then b else a))∧∀c d:Int,((1≤i∧c=a∧d=b)∨(2≤i∧c=b∧d=a)∨(c=k∧d=w))↔((1≤i+1∧c=a∧d=b)∨(2≤i+1∧c=b∧d=a)):=by
  refine⟨_,_,⟨rfl,rfl⟩,fun c d=>?_⟩;by_cases e:i=0
  .rw[qj e,qj e];subst e;simp
  .have:i=1:=om;subst this;simp
 refine Zd1 (kk:=.i64) (e:=233) (e2:=3) (n:=2) (m:=2) (z:=2) (cs:=#[vi a,vi b,vi b,vi a]) (j:=i) [vi k,vi w] kr kr kr kr kr hi2 ?_ rfl ?_
 .obtain⟨rfl,rfl⟩:=hkw;by_cases e:i=0
  .rw[qj e,qj e];subst e;rfl
  .have:i=1:=om;subst this;rfl
 simp only[cns];refine⟨fun vs K'=>vs=[]∧∃(es':Array MapEntry) (cl':Nat) (N':List (Int×GN)),Held S K' (grB gr es' cl'++grI N')∧GrOk es' cl' N'∧(∀c d,relN N' c d↔relN N1 c d)∧∃(j:Nat)(x:Int×GN),N'[j]?=some x∧x.1=k,?_,?_⟩
 .rintro vs K2 _ ⟨rfl,es2,cl2,N2,h2,hg2,hr2,j,x,hx,hxk⟩;have hn2:=zsa hg2;have hget:=zok hn2 hx;rw[hxk]at hget;have hb2:K2 gr=some (.map es2 cl2):=h2.blk (zms);refine z29 (α:=Int) (m:=outM N2) (v:=.map (some gr)) k (.map none) zd9 kIntK kr kr kr ⟨gr,es2,cl2,rfl,hb2,hg2.outer⟩ (by rw[hget];rfl) z01 ?_;rw[hget];simp only[Option.getD_some,cns];have h3:=h2.pick (show(grI N2)[j]?=some (.blk x.2.ref (.map x.2.es x.2.cl)) by rw[grI,zem,hx];rfl);refine z1y (α:=Int) (m:=encS x.2.s) (r:=x.2.ref) (es:=x.2.es) (clock:=x.2.cl) w (vi 1) zh0 kIntK kr kr kr (h3.blk (zms)) (hg2.inner j x hx) fun es3 cl3 he3=>?_;rw[zpt]at he3;have h4:=(h3.put (.map es3 cl3)).unpick (by rw[grI,zlm];exact(zgi.1 hx).1);rw[Zlp (s:=addS x.2.s w) hx]at h4;have hjl:=(zgi.1 hx).1;refine⟨_,z00,n-1,om,i+1,es2,cl2,_,?_,om,h4,⟨by rw[Ziw hx];exact hg2.outer,fun t y hy=>?_⟩,fun c d=>?_⟩
  .simp only[wy];rw[w64 om om];rfl
  .rw[List.getElem?_set]at hy;by_cases e:j=t
   .rw[qj e,qj hjl]at hy;cases hy;exact he3
   .rw[qc e]at hy;exact hg2.inner t y hy
  .rw[Zim (k:=w) hn2 hx (fun y=>zpo _ _ _),hr2,hr1,hxk,or_assoc,←hstep];simp only[or_assoc]
 .have hb1:K1 gr=some (.map es1 cl1):=h1.blk (zms);have hn1:=zsa hg1;by_cases hin:∃x∈N1,x.1=k
  .obtain⟨x,hx,hxk⟩:=hin;obtain⟨j,hj⟩:=qJ hx;have hget:=zok hn1 hj;rw[hxk]at hget;refine z29 (α:=Int) (m:=outM N1) (v:=.map (some gr)) k (.map none) zd9 kIntK kr kr kr ⟨gr,es1,cl1,rfl,hb1,hg1.outer⟩ (by rw[hget];rfl) z01 ?_;rw[hget];simp only[Option.getD_some,cns];refine⟨fun g2=>?_,fun g2=>?_⟩
   .simp[evV,ev0,ev,z61,bOf]at g2
   .exact⟨_,z00,rfl,es1,cl1,N1,h1,hg1,fun c d=>Iff.rfl,j,x,hj,hxk⟩
  .have hno:∀x∈N1,x.1≠k:=fun x hx e=>hin ⟨x,hx,e⟩;have hget:=zt3 hno;refine z29 (α:=Int) (m:=outM N1) (v:=.map (some gr)) k (.map none) zd9 kIntK kr kr kr ⟨gr,es1,cl1,rfl,hb1,hg1.outer⟩ (by rw[hget];rfl) z01 ?_;rw[hget];simp only[Option.getD_none,cns];refine⟨fun g2=>?_,fun g2=>?_⟩
   .refine z5g fun r hr=>?_;have h2:=h1.new hr (.map #[] 0);simp only[cns];refine z1y (α:=Int) (m:=outM N1) (r:=gr) (es:=es1) (clock:=cl1) k (.map (some r)) zd9 kIntK kr kr kr (h2.blk (zmm _ (zms))) hg1.outer fun es3 cl3 he3=>?_;have hput:putM (outM N1) k (.map (some r))=outM (N1++[(k,⟨r,#[],0,[]⟩)]):=by
     unfold putM;rw[hget,qc sM,outM,outM,List.map_append];rfl
    rw[hput]at he3;have h3:=((h2.perm (qq _ _ _)).put (.map es3 cl3));have h3':Held S _ (grB gr es3 cl3++grI (N1++[(k,⟨r,#[],0,[]⟩)])):=h3.perm (by
     have e:grI (N1++[(k,⟨r,#[],0,[]⟩)])=grI N1++[Itm.blk r (.map #[] 0)]:=by rw[grI,grI,List.map_append];rfl
     rw[e];exact List.Perm.cons _ (List.perm_append_comm (l₁:=[Itm.blk r (.map #[] 0)]) (l₂:=grI N1)))
    refine⟨_,z00,rfl,es3,cl3,_,h3',⟨he3,fun t y hy=>?_⟩,fun c d=>?_,N1.length,(k,⟨r,#[],0,[]⟩),sM,rfl⟩
    .by_cases ht:t<N1.length
     .rw[List.getElem?_append_left ht]at hy;exact hg1.inner t y hy
     .rw[List.getElem?_append_right om]at hy;have:y=(k,⟨r,#[],0,[]⟩):=by
       cases hd:t-N1.length with
       |zero=>rw[hd]at hy;simp at hy;exact hy.symm
       |succ m=>rw[hd]at hy;simp at hy
      subst this;exact zk6
    .unfold relN;constructor
     .rintro⟨y,hy,h4,h5⟩;rcases zma.1 hy with hy|hy
      .exact⟨y,hy,h4,h5⟩
      .rw[zsi.1 hy]at h5;cases h5
     .rintro⟨y,hy,h4,h5⟩;exact⟨y,List.mem_append_left _ hy,h4,h5⟩
   .simp[evV,ev0,ev,z61,bOf]at g2
theorem Za3(l:List Int)(n:Int)(v:Value)(H:PH)(hl:SlR H l v)(hll:l.length≤40000000):∃i:Int,Gives zP 204 [v,vi n] H (vi i)∧(i≥0↔n∈l):=by
 by_cases hn:n∈l
 .obtain⟨j,hj,hfirst⟩:∃j:Nat,l[j]?=some n∧∀t:Nat,t<j→l[t]?≠some n:=by
   obtain⟨t,ht⟩:=qJ hn;have key:∀t:Nat,l[t]?=some n→∃j:Nat,l[j]?=some n∧∀s:Nat,s<j→l[s]?≠some n:=by
    intro t
    induction t using Nat.strongRecOn with
    |ind t ih=>
     intro ht;by_cases h:∃s:Nat,s<t∧l[s]?=some n
     .obtain⟨s,hs,hsn⟩:=h;exact ih s hs hsn
     .exact⟨t,ht,fun s hs hsn=>h ⟨s,hs,hsn⟩⟩
   exact key t ht
  refine⟨(j:Int),?_,⟨fun _=>hn,fun _=>om⟩⟩;obtain⟨b1,c1,rfl⟩:=hl.sl;refine qr z6b [.slice b1 l.length c1,vi n] ?_;have hjl:=(zgi.1 hj).1;refine⟨fun m vs K=>∃(z:Int)(k:Nat),vs=[vi z,nI k]∧k+m=l.length∧k≤j∧K=H,⟨l.length,0,0,rfl,om,om,rfl⟩,?_⟩;rintro m vs K _ ⟨z,k,rfl,hkm,hkj,rfl⟩;refine⟨fun g=>?_,fun g=>?_⟩
  .simp only[wy,zdt]at g;obtain⟨a,ha⟩:∃a,l[k]?=some a:=⟨_,zge om⟩;obtain⟨r1,_,rcs,r2,r3⟩:=hl.get ha;obtain⟨rfl,_⟩:=csIK r2;refine⟨fun _=>?_,[vi a],rfl,?_,fun g2=>?_,fun g2=>?_⟩
   .simp only[Chk.holds,wy];exact⟨r1,om,om⟩
   .simp only[wy];exact r3
   .simp only[wy]at g2;have hna:n=a:=by simpa using g2
    subst hna;have:k=j:=by
     rcases Nat.lt_or_ge k j with h|h
     .exact absurd ha (hfirst k h)
     .omega
    subst this;exact⟨rfl,wx _⟩
   .simp only[wy]at g2;have hna:n≠a:=by simpa using g2
    refine⟨_,z00,m-1,om,z,k+1,?_,om,?_,rfl⟩
    .simp only[wy];rw[w64 om om];rfl
    .rcases Nat.lt_or_ge k j with h|h
     .omega
     .have:k=j:=om;subst this;rw[hj]at ha;cases ha;exact absurd rfl hna
  .simp only[wy,zdf]at g;omega
 .refine⟨-1,?_,⟨fun h=>om,fun h=>absurd h hn⟩⟩;obtain⟨b1,c1,rfl⟩:=hl.sl;refine qr z6b [.slice b1 l.length c1,vi n] ?_;refine⟨fun m vs K=>∃(z:Int)(k:Nat),vs=[vi z,nI k]∧k+m=l.length∧K=H,⟨l.length,0,0,rfl,om,rfl⟩,?_⟩;rintro m vs K _ ⟨z,k,rfl,hkm,rfl⟩;refine⟨fun g=>?_,fun g=>⟨rfl,wx _⟩⟩;simp only[wy,zdt]at g;obtain⟨a,ha⟩:∃a,l[k]?=some a:=⟨_,zge om⟩;obtain⟨r1,_,rcs,r2,r3⟩:=hl.get ha;obtain⟨rfl,_⟩:=csIK r2;refine⟨fun _=>?_,[vi a],rfl,?_,fun g2=>?_,fun g2=>?_⟩
  .simp only[Chk.holds,wy];exact⟨r1,om,om⟩
  .simp only[wy];exact r3
  .simp only[wy]at g2;have hna:n=a:=by simpa using g2
   exact absurd (hna▸zmg ha) hn
  .refine⟨_,z00,m-1,om,z,k+1,?_,om,rfl⟩;simp only[wy];rw[w64 om om];rfl
theorem zzw(l:List Int)(n:Int)(v:Value)(H:PH)(hl:SlR H l v)(hll:l.length≤40000000):Gives zP 172 [v,vi n] H (.bool (decide (n∈l))):=by
 obtain⟨i,h1,h2⟩:=Za3 l n v H hl hll;obtain⟨b1,c1,rfl⟩:=hl.sl;refine qr zct [.slice b1 l.length c1,vi n] ?_;refine z03 [vi i] (qb 204) h1 rfl z01 fun K1 l1=>⟨?_,l1⟩;simp only[wy];congr 2;by_cases h:n∈l
 .rw[qX h,qX (h2.2 h)]
 .rw[qY h,qY (fun hh=>h (h2.1 hh))]
theorem zw2{N N':List (Int×GN)}{a b:Int}{Q Q':Int→Int→Prop}(h:∀c d,relN N' c d↔relN N c d∨(a≠b∧((c=a∧d=b)∨(c=b∧d=a))))(hq:∀c d,relN N c d↔c≠d∧Q c d)(hq':∀c d,Q' c d↔Q c d∨(c=a∧d=b)∨(c=b∧d=a))(c d:Int):relN N' c d↔c≠d∧Q' c d:=by
 rw[h,hq,hq'];constructor
 .rintro(⟨h1,h2⟩|⟨h1,h2|h2⟩)
  .exact⟨h1,.inl h2⟩
  .exact⟨by rw[h2.1,h2.2];exact h1,.inr (.inl h2)⟩
  .exact⟨by rw[h2.1,h2.2];exact Ne.symm h1,.inr (.inr h2)⟩
 .rintro⟨h1,h2|h2|h2⟩
  .exact .inl ⟨h1,h2⟩
  .exact .inr ⟨by rw[←h2.1,←h2.2];exact h1,.inl h2⟩
  .exact .inr ⟨by rw[←h2.1,←h2.2];exact Ne.symm h1,.inr h2⟩
def symL(t:Int)(l:List Int)(c d:Int):Prop:=(c=t∧d∈l)∨(d=t∧c∈l)
theorem Z29{t r:Int}{l:List Int}{j:Nat}(h:l[j]?=some r)(c d:Int):symL t (l.take (j+1)) c d↔symL t (l.take j) c d∨(c=t∧d=r)∨(c=r∧d=t):=by
 unfold symL;rw[q9,h];simp only[Option.toList_some,zma,zsi];constructor
 .rintro(⟨h1,h2|h2⟩|⟨h1,h2|h2⟩)
  .exact .inl (.inl ⟨h1,h2⟩)
  .exact .inr (.inl ⟨h1,h2⟩)
  .exact .inl (.inr ⟨h1,h2⟩)
  .exact .inr (.inr ⟨h2,h1⟩)
 .rintro((⟨h1,h2⟩|⟨h1,h2⟩)|⟨h1,h2⟩|⟨h1,h2⟩)
  .exact .inl ⟨h1,.inl h2⟩
  .exact .inr ⟨h1,.inl h2⟩
  .exact .inl ⟨h1,.inr h2⟩
  .exact .inr ⟨h2,.inr h1⟩
noncomputable def selL(x:InsX)(l:List Int):List Int:=if x.op=moveB then lessL l x.args else l
theorem Z2y{x:InsX}{l:List Int}{j:Nat}{r:Int}(h:l[j]?=some r):selL x (l.take (j+1))=selL x (l.take j)++if x.op=moveB∧r∈x.args then[]else[r]:=by
 unfold selL lessL;rw[q9,h];by_cases hm:x.op=moveB
 .rw[qj hm,qj hm];simp only[Option.toList_some,List.filter_append];congr 1;by_cases hr:r∈x.args
  .rw[qj ⟨hm,hr⟩];simp[qM,hr]
  .rw[qc (fun hh=>hr hh.2)];simp[qM,hr]
 .rw[qc hm,qc hm,qc (fun hh=>hm hh.1)];rfl
theorem Zfd(p:PrcX)(bv:Value)(S:PH)(hbv:SlR S p.blocks bv)(hw:p.Fit∧∀b∈p.blocks,b.e.args.length≤20000000)(hmay:mayP p=true):
  Tri zP 122 #[.agg (prcVs p bv).toArray] S fun x S'=>∃S1 gr es cl N,PH.le S S1∧x=.returned (.map (some gr))∧Held S1 S' (grB gr es cl++grI N)∧GrOk es cl N∧∀a b,relN N a b↔a≠b∧MeetP p a b:=by
 obtain⟨hp,hE⟩:=hw;have hN:=hp.n;obtain⟨hr0,hr1,_,_,hne⟩:=Z70 hmay;have hb0:0<p.blocks.length:=List.length_pos_iff.2 hne;obtain⟨b0,c0,rfl⟩:=hbv.sl;refine qr zxb (prcVs p (.slice b0 p.blocks.length c0)) ?_;simp only[prcVs];refine z5g fun gr hgr=>?_;have h1:=(Held.nil (wx S)).new hgr (.map #[] 0);refine z02 (qb 129) (h1.pure (R:=fun x S'=>∃v,x=.returned v∧SlR S' (inL p) v) (Zc7 p (.slice b0 p.blocks.length c0) S hbv hp hE)) ?_;rintro x K2 ⟨S2,l2,h2,iv,rfl,hiv⟩;obtain⟨b2,c2,rfl⟩:∃b c,iv=.slice b p.blocks.length c:=by rw[←Zmi p];exact hiv.sl
 refine⟨_,[.slice b2 p.blocks.length c2],rfl,rfl,rfl,z01,?_⟩;simp only[cns];obtain⟨a1,_,acs,a2,a3⟩:=hiv.get (Zm7 (p:=p) (i:=0) hb0);obtain⟨av,rfl,a4⟩:=csLK a2;obtain⟨ab,ac,rfl⟩:=a4.sl;have hlen0:=zrt hp 0 0;have ham:=a4.max;have g0:∀{K:PH},PH.le S2 K→rowAt K (pOf (eltV (.slice b2 p.blocks.length c2) 0 1)) [.slice ab (liveL p 0 0).length ac]:=fun h=>z0v h a3;refine⟨fun _=>?_,[.slice ab (liveL p 0 0).length ac],rfl,?_,?_⟩
 .simp only[Chk.holds,wy];exact⟨a1,om,om⟩
 .simp only[wy];exact g0 h2.sh
 simp only[cns];refine ⟨fun n vs K=>∃(i:Nat) (es:Array MapEntry) (cl:Nat) (N:List (Int×GN)),vs=[nI i]∧i+n=(liveL p 0 0).length∧Held S2 K (grB gr es cl++grI N)∧GrOk es cl N∧∀c d,relN N c d↔c≠d∧(c∈(liveL p 0 0).take i∧d∈(liveL p 0 0).take i),
  ⟨(liveL p 0 0).length,0,#[],0,[],rfl,om,h2,⟨EntsR.empty,fun j x h=>by simp at h⟩,fun c d=>by simp[relN]⟩,?_⟩
 rintro n vs K3 _ ⟨i,es3,cl3,N3,rfl,hin,h3,ok3,r3⟩;simp only[cns];refine⟨fun g=>?_,fun g=>?_⟩
 .simp only[wy,zdt]at g;obtain⟨x,hx⟩:∃x,(liveL p 0 0)[i]?=some x:=⟨_,zge (show i<(liveL p 0 0).length by omega)⟩;obtain⟨x1,_,xcs,x2,x3⟩:=(a4.le h3.sh).get hx;obtain⟨rfl,_⟩:=csIK x2;have hcut:=a4.cut (Nat.zero_le i) (show i≤(liveL p 0 0).length by omega);rw[List.drop_zero]at hcut;have hctl:((liveL p 0 0).take i).length=i:=by rw[List.length_take];omega
  refine⟨fun _=>?_,[vi x],rfl,?_,[.slice ab (liveL p 0 0).length ac],rfl,?_,fun _=>?_,?_⟩
  .simp only[Chk.holds,wy];exact⟨x1,om,om⟩
  .simp only[wy];exact x3
  .simp only[wy];exact g0 h3.sh
  .have hcap:=(SlR.mk_iff.1 a4);have:(liveL p 0 0).length≤ac:=by
    rcases hcap.2 with⟨h,h'⟩|⟨ad,c,h,h',_⟩
    .rw[h']at hx;simp at hx
    .cases h;exact h'
   simp only[Chk.holds,wy,slCap];omega
  simp only[cns];refine ⟨fun n vs K=>∃(j:Nat) (es:Array MapEntry) (cl:Nat) (N:List (Int×GN)),vs=[nI j]∧j+n=i∧Held S2 K (grB gr es cl++grI N)∧GrOk es cl N∧∀c d,relN N c d↔c≠d∧((c∈(liveL p 0 0).take i∧d∈(liveL p 0 0).take i)∨symL x ((liveL p 0 0).take j) c d),
   ⟨i,0,es3,cl3,N3,rfl,om,h3,ok3,fun c d=>by rw[r3];simp[symL]⟩,?_⟩
  rintro n4 vs K4 _ ⟨j,es4,cl4,N4,rfl,hjn,h4,ok4,r4⟩;simp only[cns];refine⟨fun g4=>?_,fun g4=>?_⟩
  .have hji:j<i:=by
    simp only[wy,slsV,zdt]at g4;omega
   obtain⟨y,hy⟩:∃y,(liveL p 0 0)[j]?=some y:=⟨_,zge (show j<(liveL p 0 0).length by omega)⟩;have hy2:((liveL p 0 0).take i)[j]?=some y:=by rw[List.getElem?_take,qj hji];exact hy
   obtain⟨y1,_,ycs,y2,y3⟩:=(hcut.le h4.sh).get hy2;obtain⟨rfl,_⟩:=csIK y2;refine⟨fun _=>?_,[vi y],rfl,?_,?_⟩
   .simp only[Chk.holds,wy];refine⟨y1,om,?_⟩;simp only[slsV,slLen];omega
   .simp only[wy];exact y3
   refine z02 (qb 170) (zvm gr es4 cl4 N4 x y S2 K4 h4 ok4) ?_;rintro e K5 ⟨es5,cl5,N5,rfl,h5,ok5,r5⟩;refine⟨_,[],rfl,rfl,rfl,z01,_,z00,n4-1,om,j+1,es5,cl5,N5,?_,om,h5,ok5,zw2 r5 r4 fun c d=>?_⟩
   .simp only[wy];rw[w64 om om];rfl
   .rw[Z29 hy,or_assoc]
  .have hji:j=i:=by
    simp only[wy,slsV,zdf]at g4;omega
   subst hji;refine⟨_,z1e rfl z00,n-1,om,j+1,es4,cl4,N4,?_,om,h4,ok4,fun c d=>?_⟩
   .simp only[wy];rw[w64 om om];rfl
   .rw[r4,q9,hx];simp only[Option.toList_some,zma,zsi,symL];constructor
    .rintro⟨h1,⟨h2,h3⟩|⟨h2,h3⟩|⟨h2,h3⟩⟩
     .exact⟨h1,.inl h2,.inl h3⟩
     .exact⟨h1,.inr h2,.inl h3⟩
     .exact⟨h1,.inl h3,.inr h2⟩
    .rintro⟨h1,h2|h2,h3|h3⟩
     .exact⟨h1,.inl ⟨h2,h3⟩⟩
     .exact⟨h1,.inr (.inr ⟨h3,h2⟩)⟩
     .exact⟨h1,.inr (.inl ⟨h2,h3⟩)⟩
     .exact absurd (h2.trans h3.symm) h1
 simp only[wy,zdf]at g;rw[ztl om]at r3;have hbv2:=hbv.le l2;refine ⟨fun n vs K=>∃(k:Nat) (es:Array MapEntry) (cl:Nat) (N:List (Int×GN)) (S':PH),vs=[nI k]∧k+n=p.blocks.length∧PH.le S2 S'∧Held S' K (grB gr es cl++grI N)∧GrOk es cl N∧∀c d,relN N c d↔c≠d∧((c∈liveL p 0 0∧d∈liveL p 0 0)∨∃f∈z49 p k,f.sym c d),
  ⟨p.blocks.length,0,es3,cl3,N3,S2,rfl,om,wx _,h3,ok3,fun c d=>by rw[r3];simp[z49]⟩,?_⟩
 rintro n5 vs K5 _ ⟨k,es5,cl5,N5,S5,rfl,hkn,le5,h5,ok5,r5⟩;simp only[cns];refine⟨fun g5=>?_,fun g5=>?_⟩;rotate_left
 .simp only[wy,zdf]at g5;have:k=p.blocks.length:=om;subst this;exact⟨S5,gr,es5,cl5,N5,ww l2 le5,rfl,h5,ok5,r5⟩
 simp only[wy,zdt]at g5;have hk:k<p.blocks.length:=om;obtain⟨b,hb⟩:∃b,p.blocks[k]?=some b:=⟨_,zge hk⟩;have hbl:=hp.ins b (zmg hb);obtain⟨q1,_,ces,q2,q3⟩:=(hbv2.le le5).get hb;obtain⟨iv,es,rfl,his,hes⟩:=blk_iff.1 q2;obtain⟨ev,rfl,e1,e2,hea,e3,e4,e5⟩:=end_iff.1 hes;obtain⟨bi,ci,rfl⟩:=his.sl;obtain⟨be,ce,rfl⟩:=hea.sl;have hbe:zb0 p (k:Int)=behL p k b:=by
  unfold zb0;rw[qc om,qN,hb]
 refine⟨fun vs K'=>vs=[]∧∃(es:Array MapEntry) (cl:Nat) (N:List (Int×GN)) (S':PH),PH.le S5 S'∧Held S' K' (grB gr es cl++grI N)∧GrOk es cl N∧∀c d,relN N c d↔c≠d∧((c∈liveL p 0 0∧d∈liveL p 0 0)∨∃f∈z49 p (k+1),f.sym c d),?_,fun _=>?_,[.slice bi b.ins.length ci,vi b.e.kind,vi b.e.reg,.slice be b.e.args.length ce,vi b.e.to,vi b.e.next,vi b.e.els],rfl,?_,?_⟩
 .rintro vs K' _ ⟨rfl,es',cl',N',S',l',h',ok',r'⟩;refine⟨_,z00,n5-1,om,k+1,es',cl',N',S',?_,om,ww le5 l',h',ok',r'⟩;simp only[wy];rw[w64 om om];rfl
 .simp only[Chk.holds,wy];exact⟨q1,om,om⟩
 .simp only[wy];exact z0v h5.sh q3
 simp only[cns];refine z02 (qb 171) (h5.pure (R:=fun x S'=>∃v,x=.returned v∧SlR S' (zb0 p (k:Int)) v) (Z9g p (.slice b0 p.blocks.length c0) (k:Int) S5 (hbv2.le le5) hp hE)) ?_;rintro x K6 ⟨S6,l6,h6,wv,rfl,hwv⟩;rw[hbe]at hwv;obtain⟨b6,c6,rfl⟩:∃b' c,wv=.slice b' b.ins.length c:=by rw[←Zj0 p k b];exact hwv.sl
 refine⟨_,[.slice b6 b.ins.length c6],rfl,rfl,rfl,z01,?_⟩;simp only[cns];refine ⟨fun n vs K=>∃(i:Nat) (es:Array MapEntry) (cl:Nat) (N:List (Int×GN)),vs=[nI i]∧i+n=b.ins.length∧Held S6 K (grB gr es cl++grI N)∧GrOk es cl N∧∀c d,relN N c d↔c≠d∧(((c∈liveL p 0 0∧d∈liveL p 0 0)∨∃f∈z49 p k,f.sym c d)∨∃f∈z4b p k b i,f.sym c d),
  ⟨b.ins.length,0,es5,cl5,N5,rfl,om,h6,ok5,fun c d=>by rw[r5];simp[z4b]⟩,?_⟩
 rintro n7 vs K7 _ ⟨i,es7,cl7,N7,rfl,hin7,h7,ok7,r7⟩;simp only[cns];refine⟨fun g7=>?_,fun g7=>?_⟩
 .simp only[wy,zdt]at g7;have hib:i<b.ins.length:=om;obtain⟨x,hx⟩:∃x,b.ins[i]?=some x:=⟨_,zge hib⟩;obtain⟨z1,_,zcs,z2,z3⟩:=(hwv.le h7.sh).get (Z4r (p:=p) (i:=k) hib);obtain⟨zv,rfl,z4⟩:=csLK z2;obtain⟨zb,zc,rfl⟩:=z4.sl;have hl2:=zrt hp k (i+1);have hisK:=(his.le l6).le h7.sh;obtain⟨y1,_,ycs,y2,y3⟩:=hisK.get hx;obtain⟨arv,dv,rfl,_,x2,hya,_,_,_,hyd,_⟩:=ins_iff.1 y2;obtain⟨rb,rc,rfl⟩:=hya.sl;obtain⟨db,dc,rfl⟩:=hyd.sl;have hargs:x.args.length≤40000000:=by
   have h1:=Zjw hb;have h2:=congrArg List.length (zww InsX.args hx);have h3:=zkl InsX.args b.ins (i+1);have h4:=hp.regs;have h5:b.regs.length=(b.ins.flatMap InsX.args).length+b.e.regs.length:=by unfold BlkX.regs;rw[zla]
   rw[zla]at h2;omega
  refine⟨fun vs K'=>vs=[]∧∃(es:Array MapEntry) (cl:Nat) (N:List (Int×GN)),Held S6 K' (grB gr es cl++grI N)∧GrOk es cl N∧∀c d,relN N c d↔c≠d∧(((c∈liveL p 0 0∧d∈liveL p 0 0)∨∃f∈z49 p k,f.sym c d)∨∃f∈z4b p k b (i+1),f.sym c d),?_,fun _=>?_,[.slice zb (liveL p k (i+1)).length zc],rfl,?_,fun _=>?_,[txt x.op,vi x.to,.slice rb x.args.length rc,vi x.const.kind,vi x.const.int,txt x.const.text,.slice db x.const.list.length dc,vi x.num],rfl,?_,fun g8=>?_,fun g8=>?_⟩
  .rintro vs K' _ ⟨rfl,es',cl',N',h',ok',r'⟩;refine⟨_,z00,n7-1,om,i+1,es',cl',N',?_,om,h',ok',r'⟩;simp only[wy];rw[w64 om om];rfl
  .simp only[Chk.holds,wy];exact⟨z1,om,om⟩
  .simp only[wy];exact z3
  .simp only[Chk.holds,wy];exact⟨y1,om,om⟩
  .simp only[wy];exact y3
  .simp only[wy,Zbm]at g8;have hop:x.op=tieB:=by simpa using g8
   exact⟨_,z00,rfl,es7,cl7,N7,h7,ok7,fun c d=>by rw[zqt hx,zdr,qj hop,zan];exact r7 c d⟩
  simp only[wy,Zbm]at g8;have hop:x.op≠tieB:=by simpa using g8
  simp only[cns];refine ⟨fun n vs K=>∃(j:Nat) (es:Array MapEntry) (cl:Nat) (N:List (Int×GN)),vs=[nI j]∧j+n=(liveL p k (i+1)).length∧PH.le K7 K7∧Held S6 K (grB gr es cl++grI N)∧GrOk es cl N∧∀c d,relN N c d↔c≠d∧((((c∈liveL p 0 0∧d∈liveL p 0 0)∨∃f∈z49 p k,f.sym c d)∨∃f∈z4b p k b i,f.sym c d)∨symL x.to (selL x ((liveL p k (i+1)).take j)) c d),
   ⟨(liveL p k (i+1)).length,0,es7,cl7,N7,rfl,om,wx _,h7,ok7,fun c d=>by rw[r7];simp[symL,selL,lessL]⟩,?_⟩
  rintro n8 vs K8 _ ⟨j,es8,cl8,N8,rfl,hjn,_,h8,ok8,r8⟩;simp only[cns];obtain⟨zz1,_,zzcs,zz2,zz3⟩:=hwv.get (Z4r (p:=p) (i:=k) hib);obtain⟨zzv,rfl,zz4⟩:=csLK zz2;obtain⟨zzb,zzc,rfl⟩:=zz4.sl;have hsame:(Value.slice zzb (liveL p k (i+1)).length zzc)=.slice zb (liveL p k (i+1)).length zc:=by
   obtain⟨ad1,e1,f1⟩:=z3;obtain⟨ad2,e2,f2⟩:=z0v h7.sh zz3;rw[e1]at e2;cases e2;have h1:=f1 0 _ rfl;have h2:=f2 0 _ rfl;rw[h1]at h2;exact(qW h2).symm
  rw[hsame]at zz4;refine⟨fun g9=>?_,fun g9=>?_⟩
  .simp only[wy,zdt]at g9;obtain⟨r,hr⟩:∃r,(liveL p k (i+1))[j]?=some r:=⟨_,zge (show j<(liveL p k (i+1)).length by omega)⟩;obtain⟨w1,_,wcs,w2,w3⟩:=(zz4.le h8.sh).get hr;obtain⟨rfl,_⟩:=csIK w2;have hyaK:SlR K8 x.args (.slice rb x.args.length rc):=by
    obtain⟨u1,_,ucs,u2,u3⟩:=(his.le l6).get hx;obtain⟨arv2,dv2,rfl,_,_,hya2,_⟩:=ins_iff.1 u2;obtain⟨rb2,rc2,rfl⟩:=hya2.sl;have hs2:(Value.slice rb2 x.args.length rc2)=.slice rb x.args.length rc:=by
     obtain⟨ad1,e1,f1⟩:=y3;obtain⟨ad2,e2,f2⟩:=z0v h7.sh u3;rw[e1]at e2;cases e2;have h1:=f1 2 _ rfl;have h2:=f2 2 _ rfl;rw[h1]at h2;exact(qW h2).symm
    rw[hs2]at hya2;exact hya2.le h8.sh
   refine⟨fun vs K'=>vs=[]∧∃(es:Array MapEntry) (cl:Nat) (N:List (Int×GN)),Held S6 K' (grB gr es cl++grI N)∧GrOk es cl N∧∀c d,relN N c d↔c≠d∧((((c∈liveL p 0 0∧d∈liveL p 0 0)∨∃f∈z49 p k,f.sym c d)∨∃f∈z4b p k b i,f.sym c d)∨symL x.to (selL x ((liveL p k (i+1)).take (j+1))) c d),?_,fun _=>?_,[vi r],rfl,?_,?_⟩
   .rintro vs K' _ ⟨rfl,es',cl',N',h',ok',r'⟩;refine⟨_,z00,n8-1,om,j+1,es',cl',N',?_,om,wx _,h',ok',r'⟩;simp only[wy];rw[w64 om om];rfl
   .simp only[Chk.holds,wy];exact⟨w1,om,om⟩
   .simp only[wy];exact w3
   simp only[cns];refine⟨fun vs K'=>vs=[.bool (!decide (x.op=moveB∧r∈x.args))]∧Held S6 K' (grB gr es8 cl8++grI N8),?_,fun g10=>?_,fun g10=>?_⟩
   .rintro vs K9 _ ⟨rfl,h9⟩;refine⟨fun g11=>?_,fun g11=>?_⟩
    .simp only[wy]at g11;have hsel:¬(x.op=moveB∧r∈x.args):=fun hh=>by rw[qX hh]at g11;cases g11
     refine z02 (qb 170) (zvm gr es8 cl8 N8 x.to r S6 K9 h9 ok8) ?_;rintro e K10 ⟨es10,cl10,N10,rfl,h10,ok10,r10⟩;refine⟨_,[],rfl,rfl,rfl,z01,_,z00,rfl,es10,cl10,N10,h10,ok10,zw2 r10 r8 fun c d=>?_⟩;rw[Z2y hr,qc hsel];unfold symL;simp only[zma,zsi];constructor
     .rintro(h|⟨h1,h2|h2⟩|⟨h1,h2|h2⟩)
      .exact .inl (.inl h)
      .exact .inl (.inr (.inl ⟨h1,h2⟩))
      .exact .inr (.inl ⟨h1,h2⟩)
      .exact .inl (.inr (.inr ⟨h1,h2⟩))
      .exact .inr (.inr ⟨h2,h1⟩)
     .rintro((h|⟨h1,h2⟩|⟨h1,h2⟩)|⟨h1,h2⟩|⟨h1,h2⟩)
      .exact .inl h
      .exact .inr (.inl ⟨h1,.inl h2⟩)
      .exact .inr (.inr ⟨h1,.inl h2⟩)
      .exact .inr (.inl ⟨h1,.inr h2⟩)
      .exact .inr (.inr ⟨h2,.inr h1⟩)
    .simp only[wy]at g11;have hsel:x.op=moveB∧r∈x.args:=Decidable.byContradiction fun hh=>by rw[qY hh]at g11;cases g11
     exact⟨_,z00,rfl,es8,cl8,N8,h9,ok8,fun c d=>by rw[Z2y hr,qj hsel,zan];exact r8 c d⟩
   .simp only[wy,Zc8]at g10;have hmv:x.op≠moveB:=by simpa using g10
    refine⟨_,z00,?_,h8⟩;simp only[wy];rw[qY (fun hh=>hmv hh.1)];rfl
   .simp only[wy,Zc8]at g10;have hmv:x.op=moveB:=by simpa using g10
    refine z03 [.bool (decide (r∈x.args))] (qb 172) (zzw x.args r _ K8 hyaK hargs) rfl z01 fun K9 l9=>?_;refine⟨_,z00,?_,h8.le l9⟩;simp only[wy];by_cases h:r∈x.args
    .rw[qX h,qX (⟨hmv,h⟩:x.op=moveB∧r∈x.args)]
    .rw[qY h,qY (fun hh=>h hh.2)]
  .simp only[wy,zdf]at g9;rw[ztl om]at r8;refine⟨_,z1e rfl z00,rfl,es8,cl8,N8,h8,ok8,fun c d=>?_⟩;rw[r8,zqt hx,zdr,qc hop];constructor
   .rintro⟨h1,(h|⟨f,hf,hs⟩)|h⟩
    .exact⟨h1,.inl h⟩
    .exact⟨h1,.inr ⟨f,List.mem_append_left _ hf,hs⟩⟩
    .exact⟨h1,.inr ⟨_,wq _ (zsi.2 rfl),h⟩⟩
   .rintro⟨h1,h|⟨f,hf,hs⟩⟩
    .exact⟨h1,.inl (.inl h)⟩
    .rcases zma.1 hf with hf|hf
     .exact⟨h1,.inl (.inr ⟨f,hf,hs⟩)⟩
     .rw[zsi.1 hf]at hs;exact⟨h1,.inr hs⟩
 simp only[wy,zdf]at g7;have:i=b.ins.length:=om;subst this;refine⟨fun g8=>?_,fun g8=>?_⟩
 .simp only[wy]at g8;have hc:b.e.calls=true:=by
   unfold EndX.calls;simp only[qu,zdt]at g8;exact qX g8
  refine z02 (qb 125) (h7.pure (R:=fun x S'=>∃v,x=.returned v∧SlR S' (z0y p (k:Int)) v) (zu4 p (.slice b0 p.blocks.length c0) (k:Int) S6 (hbv2.le (ww le5 l6)) hp hE)) ?_;rintro x K8 ⟨S8,l8,h8,av8,rfl,hav8⟩;obtain⟨b8,c8,rfl⟩:=hav8.sl;have hal:=Z9y hp (k:Int);refine⟨_,[.slice b8 (z0y p (k:Int)).length c8],rfl,rfl,rfl,z01,?_⟩;simp only[cns];refine ⟨fun n vs K=>∃(j:Nat) (es:Array MapEntry) (cl:Nat) (N:List (Int×GN)),vs=[nI j]∧j+n=(z0y p (k:Int)).length∧Held S8 K (grB gr es cl++grI N)∧GrOk es cl N∧∀c d,relN N c d↔c≠d∧((((c∈liveL p 0 0∧d∈liveL p 0 0)∨∃f∈z49 p k,f.sym c d)∨∃f∈z4b p k b b.ins.length,f.sym c d)∨symL b.e.to ((z0y p (k:Int)).take j) c d),
   ⟨(z0y p (k:Int)).length,0,es7,cl7,N7,rfl,om,h8,ok7,fun c d=>by rw[r7];simp[symL]⟩,?_⟩
  rintro n9 vs K9 _ ⟨j,es9,cl9,N9,rfl,hjn,h9,ok9,r9⟩;simp only[cns];refine⟨fun g9=>?_,fun g9=>?_⟩
  .simp only[wy,zdt]at g9;obtain⟨r,hr⟩:∃r,(z0y p (k:Int))[j]?=some r:=⟨_,zge (show j<(z0y p (k:Int)).length by omega)⟩;obtain⟨w1,_,wcs,w2,w3⟩:=(hav8.le h9.sh).get hr;obtain⟨rfl,_⟩:=csIK w2;refine⟨fun _=>?_,[vi r],rfl,?_,?_⟩
   .simp only[Chk.holds,wy];exact⟨w1,om,om⟩
   .simp only[wy];exact w3
   refine z02 (qb 170) (zvm gr es9 cl9 N9 b.e.to r S8 K9 h9 ok9) ?_;rintro e K10 ⟨es10,cl10,N10,rfl,h10,ok10,r10⟩;refine⟨_,[],rfl,rfl,rfl,z01,_,z00,n9-1,om,j+1,es10,cl10,N10,?_,om,h10,ok10,zw2 r10 r9 fun c d=>?_⟩
   .simp only[wy];rw[w64 om om];rfl
   .rw[Z29 hr];simp only[or_assoc]
  .simp only[wy,zdf]at g9;rw[ztl om]at r9;refine⟨_,z1e rfl (z1e rfl z00),rfl,es9,cl9,N9,S8,ww l6 l8,h9,ok9,fun c d=>?_⟩;rw[r9,zs7 hb,zgs,qj hc];constructor
   .rintro⟨h1,((h|⟨f,hf,hs⟩)|⟨f,hf,hs⟩)|h⟩
    .exact⟨h1,.inl h⟩
    .exact⟨h1,.inr ⟨f,List.mem_append_left _ hf,hs⟩⟩
    .exact⟨h1,.inr ⟨f,wq _ (List.mem_append_left _ hf),hs⟩⟩
    .exact⟨h1,.inr ⟨_,wq _ (wq _ (zsi.2 rfl)),h⟩⟩
   .rintro⟨h1,h|⟨f,hf,hs⟩⟩
    .exact⟨h1,.inl (.inl (.inl h))⟩
    .rcases zma.1 hf with hf|hf
     .exact⟨h1,.inl (.inl (.inr ⟨f,hf,hs⟩))⟩
     .rcases zma.1 hf with hf|hf
      .exact⟨h1,.inl (.inr ⟨f,hf,hs⟩)⟩
      .rw[zsi.1 hf]at hs;exact⟨h1,.inr hs⟩
 .simp only[wy]at g8;have hc:¬b.e.calls=true:=by
   unfold EndX.calls;simp only[zof,zdf]at g8;simp only[zdt];omega
  refine⟨_,z1e rfl z00,rfl,es7,cl7,N7,S6,l6,h7,ok7,fun c d=>?_⟩;rw[r7,zs7 hb,zgs,qc hc,zan];constructor
  .rintro⟨h1,(h|⟨f,hf,hs⟩)|⟨f,hf,hs⟩⟩
   .exact⟨h1,.inl h⟩
   .exact⟨h1,.inr ⟨f,List.mem_append_left _ hf,hs⟩⟩
   .exact⟨h1,.inr ⟨f,wq _ hf,hs⟩⟩
  .rintro⟨h1,h|⟨f,hf,hs⟩⟩
   .exact⟨h1,.inl (.inl h)⟩
   .rcases zma.1 hf with hf|hf
    .exact⟨h1,.inl (.inr ⟨f,hf,hs⟩)⟩
    .exact⟨h1,.inr ⟨f,hf,hs⟩⟩
def MapS(S:PH)(v:Value)(m:List (Int×Value)):Prop:=(∃r es clock,v=.map (some r)∧S r=some (.map es clock)∧EntsR (α:=Int) es.toList clock m)∨(v=.map none∧m=[])
section
variable {P:Program}{X:List PanicEntry→PH→Prop}{β:Type}{E:List Value}{L:LK}{K:β→List Value→PH→LK→Prop}{H S:PH}
theorem Zja{t kt et ty:TypeId}{x:Operand}{ts:Array TypeId}{args:List (Nat×VE)}{k:Fm β}{m:List (Int×Value)}{v:Value}(hts:ts[0]?=some t)(ht:P.underlying t=some (.map kt et))
  (hx:argEv E args x=v) (hS:PH.le S H) (h:MapS S v m) (hb:(m.length:Int)≤9223372036854775807)
  (hk:den P X k (E++[vi m.length]) H L K):den P X (.sem (.call ⟨.builtin .len,#[x],ts⟩) ty args (.sc (.int .i64)) [] k) E H L K:=by
 rcases h with⟨r,es,clock,h1,h2,h3⟩|⟨h1,h2⟩
 .exact zoh (α:=Int) (m:=m) hts ht hx ⟨r,es,clock,h1,hS _ _ h2,h3⟩ hb z01 hk
 .subst h2;show wpS P (execOp (argEv E args) (bare _ ty)) _ _ H;rw[Z62,hx,h1];unfold Builtin.len_;simp only[hts,List.getElem?_toArray,List.getElem?_cons_zero,z04,z08 ht];exact⟨[vi 0],rfl,rfl,z01,hk⟩
theorem Zkb(E F:List Value)(u:Value):(E++[u]++F).getD E.length (.bool false)=u:=by
 rw[zgd,zaa,List.getElem?_append_right (we _)];simp
theorem zri(E F:List Value)(u:Value)(t:Nat):argEv (E++[u]++F) [(t,.sc (.atom E.length))] (.tmp t)=u:=by
 have h1:([(t,VE.sc (.atom E.length))]:List (Nat×VE)).lookup t=some (.sc (.atom E.length)):=by simp[List.lookup]
 show(match([(t,VE.sc (.atom E.length))]:List (Nat×VE)).lookup t with|some v=>evV (E++[u]++F) (fun _=>0) v|none=>undef)=u;rw[h1];exact Zkb E F u
theorem zym{T kt et ty ty2 ty3:TypeId}{x:Operand}{args:List (Nat×VE)}{id jid t:Nat}{tags:List Tag}{init:List SV}{t2:Tag}{body after:Fm β}{m:List (Int×Value)}{v:Value}{q mm:Nat}(hq:q=E.length)(hmm:mm=E.length+1+tags.length)(ht:P.underlying T=some (.map kt et))
  (hx:argEv E args x=v) (hS:PH.le S H) (h:MapS S v m) (htag:∀y∈m,t2.ok y.2=true) (hjid:(jid==id)=false) (Inv:List Int→List Value→PH→Nat→Obj→Prop)
  (h0:∀i o,H i=none→Inv [] (init.map (ev0 (E++[Value.pointer (some ⟨i,0,none⟩)]))) (H.upd i o) i o)
  (hcell:∀done vs H' i o,Inv done vs H' i o→H' i=some o∧PH.le S H') (hput:∀done vs H' i o o',Inv done vs H' i o→Inv done vs (H'.upd i o') i o')
  (hstep:∀done y w vs H' i o J,(y,w)∈m→y∉done→z07 tags vs=true→Inv done vs H' i o→(∀vs' H'',Inv (y::done) vs' H'' i o→J vs' H'') →
   den P X body (E++[Value.pointer (some ⟨i,0,none⟩)]++vs++[.bool true]++[vi y,w]) H' ((id,J)::L) K)
  (hend:∀done vs H' i o J,(∀y,y∈m.map (·.1)↔y∈done)→done.Nodup→z07 tags vs=true→Inv done vs H' i o→den P X after (E++[Value.pointer (some ⟨i,0,none⟩)]++vs++[.bool false]) H' ((id,J)::L) K) :
  den P X (.sem (.range T x) ty args (.sc .ptr) [] (.loop id tags init (.join jid [.bool] (.ite (.atom mm) (.sem (.entry (.tmp t)) ty2 [(t,.sc (.atom q))] (.tu [(false,[.int .i64]),(false,[t2])]) [] body) after)
   (.alt (.next (.tmp t) false) ty3 [(t,.sc (.atom q))] (.tu [(false,[.bool])]) (.tu [(false,[.bool]),(false,[.int .i64]),(false,[t2])]) (.next jid [.atom mm]) (.next jid [.atom mm]))))) E H L K:=by
 subst hq hmm;have hat:∀(i:Nat)(vs F:List Value)(u:Value),z07 tags vs=true→ev0 (E++[Value.pointer (some ⟨i,0,none⟩)]++vs++(u::F)) (.atom (E.length+1+tags.length))=u:=by
  intro i vs F u hvs;have hl:=z1a hvs;show(E++[Value.pointer (some ⟨i,0,none⟩)]++vs++(u::F)).getD _ _=u;rw[zgd,List.getElem?_append_right (by simp;omega)];have:E.length+1+tags.length-(E++[Value.pointer (some ⟨i,0,none⟩)]++vs).length=0:=by simp;omega
  rw[this];rfl
 rcases h with⟨r,es,clock,rfl,hr,hents⟩|⟨rfl,rfl⟩
 .refine zt5 (r:=r) (es:=es) (clock:=clock) ht hx (hS _ _ hr) (fun _ _=>z01) fun i hi=>?_;have hinit:=h0 i (.mapIter (some r) clock #[] clock) hi;have hl0:leftM es #[]=es.toList:=by unfold leftM;simp
  have hkeys:es.toList.map (·.key)=m.map fun x=>Value.int .i64 x.1:=by
   have:=congrArg (List.map Prod.fst) hents.ents;simp only[List.map_map,Function.comp_def]at this;exact this
  have hent:∀e∈es.toList,∃y w,(y,w)∈m∧e.key=.int .i64 y∧e.val=w:=by
   intro e he;have h1:(e.key,e.val)∈es.toList.map (fun e=>(e.key,e.val)):=zmp.2 ⟨e,he,rfl⟩;rw[hents.ents]at h1;obtain⟨z,hz,hze⟩:=zmp.1 h1;simp only[Prod.mk.injEq]at hze;exact⟨z.1,z.2,hz,hze.1.symm,hze.2.symm⟩
  have hhas:∀y∈m.map (·.1),∃e∈es.toList,e.key=.int .i64 y:=by
   intro y hy;obtain⟨z,hz,rfl⟩:=zmp.1 hy;have h1:(Value.int .i64 z.1)∈es.toList.map (·.key):=by rw[hkeys];exact zmp.2 ⟨z,hz,rfl⟩
   obtain⟨e,he,hee⟩:=zmp.1 h1;exact⟨e,he,hee⟩
  have huniq:∀e∈es.toList,∀e'∈es.toList,e.key=e'.key→e=e':=by
   intro e he e' he' hk;obtain⟨a,ha⟩:=qJ he;obtain⟨b,hb⟩:=qJ he';obtain⟨y,w,hyw,hky,_⟩:=hent e he;have hta:(m.map (·.1))[a]?=some y:=by
    have:=congrArg (fun l=>l[a]?) hkeys;simp only[zem,ha,Option.map_some,hky]at this;rw[zem];cases hx:m[a]? with
    |none=>rw[hx]at this;cases this
    |some z=>rw[hx]at this;simp at this;rw[this];rfl
   have htb:(m.map (·.1))[b]?=some y:=by
    have:=congrArg (fun l=>l[b]?) hkeys;simp only[zem,hb,Option.map_some,←hk,hky]at this;rw[zem];cases hx:m[b]? with
    |none=>rw[hx]at this;cases this
    |some z=>rw[hx]at this;simp at this;rw[this];rfl
   have hab:=(List.getElem?_inj (zgi.1 hta).1 hents.keys).1 (hta.trans htb.symm);subst hab;rw[ha]at hb;exact qW hb
  refine⟨fun n vs H'=>∃(seen:Array Nat)(done:List Int),n=(leftM es seen).length∧done.Nodup∧(∀y,y∈done↔y∈m.map (·.1)∧∀e∈leftM es seen,e.key≠.int .i64 y)∧Inv done vs H' i (.mapIter (some r) clock seen clock),⟨_,#[],[],rfl,List.nodup_nil,fun y=>?_,hinit⟩,?_⟩
  .rw[hl0];simp only[List.not_mem_nil,false_iff,not_and];intro hy hno;obtain⟨e,he,hk⟩:=hhas y hy;exact hno e he hk
  rintro n vs H' hvs ⟨seen,done,rfl,hnd,hdone,hinv⟩;obtain⟨hc,hSH⟩:=hcell _ _ _ _ _ hinv;refine⟨fun us H''=>∃b:Bool,us=[.bool b]∧((b=false∧leftM es seen=[]∧H''=H')∨(b=true∧∃e∈leftM es seen,Inv done vs H'' i (.mapIter (some r) clock (seen.push e.born) clock))),?_,?_⟩
  .rintro us H'' _ ⟨b,rfl,hcase⟩;refine⟨fun g=>?_,fun g=>?_⟩
   .rw[hat i vs [] _ hvs]at g;have hb:b=true:=g;subst hb;rcases hcase with⟨h,_⟩|⟨_,e,he,h2⟩
    .cases h
    have hee:e∈es.toList:=(zmf.1 he).1;obtain⟨y,w,hyw,hek,hev⟩:=hent e hee;obtain⟨p1,p2⟩:=zka hents he;obtain⟨hc2,hS2⟩:=hcell _ _ _ _ _ h2;refine zs9 (i:=i) (r:=r) (es:=es) (clock:=clock) (seen:=seen) (m:=m) (e:=e) ?_ hc2 (hS2 _ _ hr) hents hee (by rw[hek,hev];exact⟨rfl,htag _ hyw⟩) ?_
    .rw[zaa,zri]
    rw[hek,hev];have hynd:y∉done:=fun hy=>((hdone y).1 hy).2 e he hek;refine hstep done y w vs H'' i _ _ hyw hynd hvs h2 fun vs' H3 h3=>⟨_,p1,seen.push e.born,y::done,rfl,List.nodup_cons.2 ⟨hynd,hnd⟩,fun z=>?_,h3⟩;rw[zmc,hdone];constructor
    .rintro(rfl|⟨h4,h5⟩)
     .refine⟨zmp.2 ⟨_,hyw,rfl⟩,fun e' he' hk'=>?_⟩;have he2:=(p2 e').2 (.inr he');have:=huniq e' (zmf.1 he2).1 e hee (hk'.trans hek.symm);subst this;have hno:=(zmf.1 he').2;simp at hno
     .exact⟨h4,fun e' he'=>h5 e' ((p2 e').2 (.inr he'))⟩
    .rintro⟨h4,h5⟩;by_cases hz:z=y
     .exact .inl hz
     .refine .inr ⟨h4,fun e' he' hk'=>?_⟩;rcases(p2 e').1 he' with rfl|h6
      .rw[hek]at hk';cases hk';exact hz rfl
      .exact h5 e' h6 hk'
   .rw[hat i vs [] _ hvs]at g;have hb:b=false:=g;subst hb;rcases hcase with⟨_,hnil,rfl⟩|⟨h,_⟩
    .refine hend done vs H'' i _ _ (fun y=>?_) hnd hvs hinv;rw[hdone,hnil];simp
    .cases h
  .refine zvu (i:=i) (r:=r) (es:=es) (clock:=clock) (seen:=seen) (m:=m) ?_ hc (hSH _ _ hr) hents (fun e he=>?_) (fun hnil=>?_) fun e he=>?_
   .rw[zri]
   .obtain⟨y,w,hyw,hek,hev⟩:=hent e he;rw[hek,hev];exact⟨rfl,htag _ hyw⟩
   .refine⟨_,z00,false,?_,.inl ⟨rfl,hnil,rfl⟩⟩;rw[wa,List.map_nil,hat i vs [] _ hvs]
   .refine⟨_,z00,true,?_,.inr ⟨rfl,e,he,hput _ _ _ _ _ _ hinv⟩⟩;rw[wa,List.map_nil,hat i vs _ _ hvs]
 .show wpS P (execOp (argEv E args) (bare _ ty)) _ _ H;rw[zxg,hx];unfold Instr.range;simp only[z04,z08 ht,z2r];intro i hi;have hinit:=h0 i (.mapIter none 0 #[] 0) hi;refine⟨[.pointer (some ⟨i,0,none⟩)],rfl,rfl,z01,?_⟩;refine⟨fun n vs H'=>Inv [] vs H' i (.mapIter none 0 #[] 0),⟨0,hinit⟩,?_⟩;intro n vs H' hvs hinv;obtain⟨hc,hSH⟩:=hcell _ _ _ _ _ hinv;refine⟨fun us H''=>us=[.bool false]∧H''=H',?_,?_⟩
  .rintro us H'' _ ⟨rfl,rfl⟩;refine⟨fun g=>?_,fun g=>?_⟩
   .rw[hat i vs [] _ hvs]at g;cases g
   .exact hend [] vs H'' i _ _ (fun y=>sM) List.nodup_nil hvs hinv
  .show wpS P (execOp (argEv _ _) (bare _ ty3)) _ _ H';rw[Z1q,zri];unfold Instr.next;simp only[z04,z2r];refine⟨_,hc,rfl,?_⟩;refine .inl ⟨[.bool false],rfl,rfl,_,z00,?_,rfl⟩;rw[wa,List.map_nil,hat i vs [] _ hvs]
end
theorem zxm:∀(L:List (Nat×Obj)) {S H:PH} {I:List Itm},Held S H ((L.map fun x=>Itm.blk x.1 x.2)++I)→∃S',PH.le S S'∧Held S' H I∧∀x∈L,S' x.1=some x.2
 | [],S,H,I,h=>⟨S,wx _,h,fun x hx=>by cases hx⟩
 |a::L,S,H,I,h=>by
  have h':Held S H (.blk a.1 a.2::((L.map fun x=>Itm.blk x.1 x.2)++I)):=h;obtain⟨l1,h1⟩:=h'.freezeB;obtain⟨S2,l2,h2,h3⟩:=zxm L h1;refine⟨S2,ww l1 l2,h2,fun x hx=>?_⟩;rcases zmc.1 hx with rfl|hx
  .exact l2 _ _ PH.upd_same
  .exact h3 x hx
structure GraphR(S:PH)(v:Value)(N:List (Int×GN)):Prop where
 at_:∃gr es cl,v=.map (some gr)∧S gr=some (.map es cl)∧GrOk es cl N
 in_:∀x∈N,S x.2.ref=some (.map x.2.es x.2.cl)
theorem GraphR.le{S S':PH}{v:Value}{N:List (Int×GN)}(h:GraphR S v N)(hl:PH.le S S'):GraphR S' v N:=by
 obtain⟨gr,es,cl,h1,h2,h3⟩:=h.at_;exact⟨⟨gr,es,cl,h1,hl _ _ h2,h3⟩,fun x hx=>hl _ _ (h.in_ x hx)⟩
theorem Z9n{S H:PH}{gr:Nat}{es:Array MapEntry}{cl:Nat}{N:List (Int×GN)}(h:Held S H (grB gr es cl++grI N))(ok:GrOk es cl N):∃S',PH.le S S'∧PH.le S' H∧GraphR S' (.map (some gr)) N:=by
 have e:grB gr es cl++grI N=(((gr,Obj.map es cl)::N.map fun x=>(x.2.ref,Obj.map x.2.es x.2.cl)).map fun x=>Itm.blk x.1 x.2)++[]:=by
  simp[grB,grI,Function.comp_def]
 rw[e]at h;obtain⟨S',l1,h1,h2⟩:=zxm _ h;exact⟨S',l1,h1.sh,⟨gr,es,cl,rfl,h2 _ (zms),ok⟩,fun x hx=>h2 (x.2.ref,_) (zmm _ (zmp.2 ⟨x,hx,rfl⟩))⟩
def adjN(N:List (Int×GN))(c:Int):List Int:=match N.find? fun x=>decide (x.1=c)with
 |some x=>x.2.s
 |none=>[]
theorem Z0d{N:List (Int×GN)}(hn:(N.map (·.1)).Nodup)(c:Int):(∃(j:Nat)(x:Int×GN),N[j]?=some x∧x.1=c∧adjN N c=x.2.s)∨((∀x∈N,x.1≠c)∧adjN N c=[]):=by
 unfold adjN;cases hf:N.find? fun x=>decide (x.1=c)with
 |none=>
  rw[List.find?_eq_none]at hf;exact .inr ⟨fun x hx e=>hf x hx (qX e),rfl⟩
 |some x=>
  obtain⟨j,hj⟩:=qJ (List.mem_of_find?_eq_some hf);have hd:=List.find?_some hf;exact .inl ⟨j,x,hj,by simpa using hd,rfl⟩
theorem Zm1{N:List (Int×GN)}(hn:(N.map (·.1)).Nodup)(c d:Int):d∈adjN N c↔relN N c d:=by
 rcases Z0d hn c with⟨j,x,hj,hx,he⟩|⟨hno,he⟩
 .rw[he];constructor
  .exact fun h=>⟨x,zmg hj,hx,h⟩
  .rintro⟨y,hy,h1,h2⟩;obtain⟨t,ht⟩:=qJ hy;have h3:(N.map (·.1))[j]?=some c:=by rw[zem,hj,←hx];rfl
   have h4:(N.map (·.1))[t]?=some c:=by rw[zem,ht,←h1];rfl
   have:=(List.getElem?_inj (zgi.1 h3).1 hn).1 (h3.trans h4.symm);subst this;rw[hj]at ht;cases ht;exact h2
 .rw[he];constructor
  .intro h;cases h
  .rintro⟨y,hy,h1,_⟩;exact absurd h1 (hno y hy)
theorem GraphR.keys{S:PH}{v:Value}{N:List (Int×GN)}(h:GraphR S v N):(N.map (·.1)).Nodup:=by
 obtain⟨gr,es,cl,_,_,h3⟩:=h.at_;exact zsa h3
theorem GraphR.adj_nodup{S:PH}{v:Value}{N:List (Int×GN)}(h:GraphR S v N)(c:Int):(adjN N c).Nodup:=by
 obtain⟨gr,es,cl,_,_,h3⟩:=h.at_;rcases Z0d h.keys c with⟨j,x,hj,hx,he⟩|⟨hno,he⟩
 .rw[he];exact(h3.inner j x hj).nodup
 .rw[he];exact List.nodup_nil
theorem GraphR.look{S:PH}{v:Value}{N:List (Int×GN)}(h:GraphR S v N)(c:Int):MapR S v (outM N)∧∃w,(getM (outM N) c).getD (.map none)=w∧Tag.ok .map w=true∧MapS S w (encS (adjN N c)):=by
 obtain⟨gr,es,cl,rfl,h2,h3⟩:=h.at_;refine⟨⟨gr,es,cl,rfl,h2,h3.outer⟩,?_⟩;rcases Z0d h.keys c with⟨j,x,hj,hx,he⟩|⟨hno,he⟩
 .have:=zok h.keys hj;rw[hx]at this;rw[this,he];exact⟨_,rfl,rfl,.inl ⟨x.2.ref,x.2.es,x.2.cl,rfl,h.in_ x (zmg hj),h3.inner j x hj⟩⟩
 .rw[zt3 hno,he];exact⟨_,rfl,rfl,.inr ⟨rfl,rfl⟩⟩
theorem Z7k(l:List Int)(v:Value)(S K:PH)(I:List Itm)(h:Held S K (orow 3 l v::I))(hl:l.length≤40000000):
  Tri zP 174 #[v] K fun x K'=>x=.returned (.tuple #[])∧Held S K' (orow 3 l.reverse v::I):=by
 obtain⟨b,c,rfl⟩:=(h.row (zms)).sl;refine qr zcx [.slice b l.length c] ?_;refine⟨fun n vs K'=>∃(i:Nat)(m:List Int),vs=[nI i,vi ((l.length:Int)-1-i)]∧n=l.length-i∧i≤l.length∧RevAt l m i∧Held S K' (orow 3 m (.slice b l.length c)::I),⟨_,0,l,?_,rfl,om,RevAt.first l,h⟩,?_⟩
 .simp only[wy];rw[w64 om om];simp
 rintro n vs K1 _ ⟨i,m,rfl,rfl,hil,hr,h1⟩;refine⟨fun g=>?_,fun g=>?_⟩
 .simp only[wy,zdt]at g;have hi2:2*i+1<l.length:=om;obtain⟨k,hk⟩:∃k:Nat,(l.length:Int)-1-i=(k:Int):=⟨l.length-1-i,om⟩;have hk':k=l.length-1-i:=om;rw[hk];obtain⟨a,ha⟩:∃a,m[i]?=some a:=⟨_,zge (by rw[hr.len];omega)⟩;obtain⟨z,hz⟩:∃z,m[k]?=some z:=⟨_,zge (by rw[hr.len];omega)⟩;obtain⟨a1,_,acs,a2,a3⟩:=(h1.row (zms)).get ha;obtain⟨z1,_,zcs,z2,z3⟩:=(h1.row (zms)).get hz;obtain⟨rfl,a4⟩:=csIK a2;obtain⟨rfl,z4⟩:=csIK z2;refine⟨fun _=>?_,[vi z],rfl,?_,fun _=>?_,[vi a],rfl,?_,?_⟩
  .simp only[Chk.holds,wy];exact⟨z1,om,om⟩
  .simp only[wy];exact z3
  .simp only[Chk.holds,wy];exact⟨a1,om,om⟩
  .simp only[wy];exact a3
  refine z1i (i:=i) (a:=a) (a':=z) (us:=[vi z]) ?_ h1 ha rfl ?_ (by simp[oneC]) (z09 z4) fun K2 h2=>?_
  .simp only[wy];rfl
  .simp only[wy]
  have hz':(m.set i z)[k]?=some z:=by
   rw[List.getElem?_set,qc om];exact hz
  refine z1i (i:=k) (a:=z) (a':=a) (us:=[vi a]) ?_ h2 hz' rfl ?_ (by simp[oneC]) (z09 a4) fun K3 h3=>?_
  .simp only[wy];rfl
  .simp only[wy]
  refine⟨_,z00,l.length-(i+1),om,i+1,(m.set i z).set k a,?_,rfl,om,?_,h3⟩
  .simp only[wy];rw[w64 om om,w64 om om];congr 2;congr 1;omega
  .subst hk';exact hr.step hi2 ha hz
 .simp only[wy,zdf]at g;have:=hr.done om;subst this;exact⟨rfl,h1⟩
def mulA:SV:=match z50 with
 | .leaf (.tu [(_,[a]),_])=>a
 |_=>.int .u64 1
def mulB:SV:=match z50 with
 | .leaf (.tu [_,(_,[b])])=>b
 |_=>.int .u64 1
theorem Zlu:((List.range 2001).all fun R=>decide (iOf (ev [.int .u64 1,.int .u64 (R:Int)] (fun _=>0) mulA)=0)&&decide (iOf (ev [.int .u64 1,.int .u64 (R:Int)] (fun _=>0) mulB)=(R:Int)))=true:=by decide +kernel
section
variable {P:Program}{Φ:Next→PH→Prop}{Ψ:Value→PH→Prop}{H S:PH}{ρ:Operand→Value}{I:List Itm}
theorem Zh1{x y:Operand}{ts:Array TypeId}{ty:TypeId}:wpS P (execOp ρ (bare (.call ⟨.builtin .copy,#[x,y],ts⟩) ty)) Φ Ψ H=wpS P (Builtin.copy_ ts ty #[ρ x,ρ y]) (fun v H'=>Φ (.value v) H') Ψ H:=by
 simp only[execOp,bare,resolve,z04,z0i];simp only[invoke,List.map_toArray,wa,List.map_nil,builtin,z04,z0i]
variable {X:List PanicEntry→PH→Prop}{β:Type}{E:List Value}{L:LK}{K:β→List Value→PH→LK→Prop}
theorem Z1x{T ty e:TypeId}{ts:Array TypeId}{x y:Operand}{args:List (Nat×VE)}{k:Fm β}{r d dl dc sl sc m:Nat}{sa:Addr}{BT:TypeId}{cs:List Value}(vs:List Value)(hts:ts[0]?=some T)(hT:P.underlying T=some (.slice e))(hiz:(P.info? e).map (·.size)=some 1)
  (hx:argEv E args x=.slice (some ⟨r,d,none⟩) dl dc) (hy:argEv E args y=.slice (some sa) sl sc) (h:Held S H (bx r BT cs::I)) (hm:m=min sl dl) (hvs:vs.length=m) (hread:∀i v,vs[i]?=some v→H.cell? (sa.add i)=some v) (hfit:d+m≤cs.length) (h1:∀v∈vs,oneC v=true) (hml:(m:Int)≤9223372036854775807)
  (hk:∀H',Held S H' (bx r BT (cs.take d++vs++cs.drop (d+m))::I)→den P X k (E++[vi m]) H' L K):den P X (.sem (.call ⟨.builtin .copy,#[x,y],ts⟩) ty args (.sc (.int .i64)) [] k) E H L K:=by
 obtain⟨i,hi,hz⟩:=qR.1 hiz;show wpS P (execOp (argEv E args) (bare _ ty)) _ _ H;rw[Zh1,hx,hy];unfold Builtin.copy_;simp only[hts,List.getElem?_toArray,List.getElem?_cons_zero,List.getElem?_cons_succ,z04,z08 hT];show wpS P (Builtin.lenOf (.slice (some sa) sl sc)) _ _ H;show wpS P (sizeOf e) _ _ H;rw[z2v hi,hz];show wpS P (loadCells sa (Nat.min sl dl*1)) _ _ H;have hmm:Nat.min sl dl*1=m:=by rw[Nat.mul_one,hm]
 rw[hmm];refine z6p hvs hread ?_;show wpS P (storeCells ⟨r,d,none⟩ vs.toArray.toList) _ _ H;rw[List.toList_toArray];refine z3a vs d 0 cs.toArray H (h.blk (zms)) (by simp[hvs]<;>omega) h1 ?_;have h2:=h.put (.cells (cs.take d++vs++cs.drop (d+vs.length)).toArray BT (0,0));have e2:z1b cs.toArray (d+0) vs=(cs.take d++vs++cs.drop (d+vs.length)).toArray:=by
  unfold z1b;simp
 rw[e2];rw[hvs]at h2;rw[hvs];refine⟨[vi m],rfl,?_,z01,hk _ h2⟩;show goInt (Nat.min sl dl)=_;rw[show Nat.min sl dl=m from hm.symm];rfl
end
theorem Z9p(R:Nat)(hR:R≤2000)(H:PH):Gives zP 206 [.int .u64 1,.int .u64 (R:Int)] H (.tuple #[.int .u64 0,.int .u64 (R:Int)]):=by
 refine qr zr5 [.int .u64 1,.int .u64 (R:Int)] ?_;have h:=zat.1 Zlu R (wg.2 om);rw[zba,zdt,zdt]at h;obtain⟨h1,h2⟩:=h;refine⟨?_,wx _⟩;show Ending.returned (.tuple #[.int .u64 (iOf (ev [.int .u64 1,.int .u64 (R:Int)] (fun _=>0) mulA)),.int .u64 (iOf (ev [.int .u64 1,.int .u64 (R:Int)] (fun _=>0) mulB))])=_;rw[h1,h2]
theorem Zfp(R:Nat)(hR:R≤2000)(H:PH):Gives zP 173 [.int .u64 1,.int .u64 (R:Int)] H (.tuple #[.int .u64 0,.int .u64 (R:Int)]):=by
 refine qr ztr [.int .u64 1,.int .u64 (R:Int)] ?_;exact z03 [.int .u64 0,.int .u64 (R:Int)] (qb 206) (Z9p R hR H) rfl z01 fun K l=>⟨rfl,l⟩
theorem Z07:OneOk zP 3 8 (vi 0):=OneOk.of kr rfl
theorem Zcb(n m R:Nat)(u z:Value)(h:n+m≤R):(List.replicate n u++List.replicate (R-n) z).take n++List.replicate m u++(List.replicate n u++List.replicate (R-n) z).drop (n+m)=List.replicate (n+m) u++List.replicate (R-(n+m)) z:=by
 rw[List.take_left' sM,List.drop_append,wi,Nat.add_sub_cancel_left,List.drop_of_length_le sM,List.nil_append,List.drop_replicate,←List.replicate_append_replicate];congr 2;omega
theorem Zdj(R:Nat)(hR:R≤2000)(a:Int)(lv:Value)(S:PH)(hl:SlR S [a] lv):
  Tri zP 123 #[lv,vi (R:Int)] S fun x K=>∃v,x=.returned v∧Held S K [orow 3 (List.replicate R a) v]:=by
 have hl0:=hl;obtain⟨b1,c1,rfl⟩:=hl.sl;obtain⟨ad,had⟩:∃ad,b1=some ad:=by
  rcases(SlR.mk_iff.1 hl).2 with⟨_,h⟩|⟨ad,c,h,_⟩
  .cases h
  .cases h;exact⟨ad,rfl⟩
 subst had;obtain⟨_,_,acs,q2,q3⟩:=hl0.get (i:=0) (a:=a) rfl;obtain⟨rfl,hai⟩:=csIK q2;have hcell:S.cell? ad=some (vi a):=by
  obtain⟨ad2,e1,f1⟩:=q3;have h0:=f1 0 _ rfl;have:ad2=ad:=by simp[eltV,pOf,z0b,Addr.add_zero]at e1;exact e1.symm
  subst this;simpa[Addr.add_zero]using h0
 refine qr zdo [.slice (some ad) 1 c1,vi (R:Int)] ?_;refine⟨fun vs K=>vs=[]∧K=S,?_,fun g=>?_,fun g=>⟨_,z00,rfl,rfl⟩⟩;rotate_left
 .simp only[wy,zdt]at g;omega
 rintro vs K _ ⟨rfl,rfl⟩;have hw1:IntKind.u64.wrap (1:Int)=1:=rfl;have hw2:IntKind.u64.wrap (R:Int)=(R:Int):=by
  simp only[IntKind.wrap,IntKind.bits,IntKind.signed];simp;omega
 refine z03 [.int .u64 0,.int .u64 (R:Int)] (qb 173) ?_ rfl z01 fun K1 l1=>?_
 .have:=Zfp R hR K;simp only[wy,zlc,zln];rw[hw2];exact this
 simp only[cns];refine⟨fun vs K'=>vs=[]∧K'=K1,?_,fun g=>?_,fun g=>⟨_,z00,rfl,rfl⟩⟩;rotate_left
 .simp only[wy]at g;simp only[qu,zdt]at g;omega
 rintro vs K' _ ⟨rfl,rfl⟩;have hw3:IntKind.i64.wrap (R:Int)=(R:Int):=by rw[w64 om om]
 simp only[cns,zan];refine zhy (n:=R) z0g Z07 (by show Value.int .i64 (IntKind.i64.wrap (R:Int))=_;rw[hw3]) (by show Value.int .i64 (IntKind.i64.wrap (R:Int))=_;rw[hw3]) (by simp only[maxLen];omega) om (Held.nil l1) fun r K2 h2 _=>?_;have h2:=h2.rawBlk;simp only[cns];have hm:min 1 R≤R:=Nat.min_le_right _ _;refine Z1x (BT:=3) (m:=min 1 R) (sl:=1) (dl:=R) (d:=0) (sa:=ad) (sc:=c1) (dc:=R) (List.replicate (min 1 R) (vi a)) rfl z0g kr kr kr h2 rfl sM (fun i v hv=>?_) (by simp;omega) (fun v hv=>by rw[(List.mem_replicate.1 hv).2];rfl) om fun K3 h3=>?_
 .rw[List.getElem?_replicate]at hv;split at hv
  .rename_i hi;have:i=0:=om;subst this;cases hv;rw[Addr.add_zero];exact PH.cell_le h2.sh hcell
  .cases hv
 have h3:Held K K3 [bx r 3 (List.replicate (min 1 R) (Value.int .i64 a)++List.replicate (R-min 1 R) (Value.int .i64 0))]:=by
  have e:=Zcb 0 (min 1 R) R (Value.int .i64 a) (Value.int .i64 0) om;simp only[List.replicate_zero,List.nil_append,wo,Nat.sub_zero]at e;rw[wo,e]at h3;exact h3
 simp only[cns];refine⟨fun n vs K'=>∃j:Nat,vs=[nI j]∧n=R-j∧j≤R∧(j=0→R=0)∧Held K K' [bx r 3 (List.replicate j (Value.int .i64 a)++List.replicate (R-j) (Value.int .i64 0))],⟨_,min 1 R,rfl,rfl,hm,om,h3⟩,?_⟩;rintro n vs K4 _ ⟨j,rfl,rfl,hjR,hj0,h4⟩;simp only[cns];refine⟨fun g=>?_,fun g=>?_⟩
 .simp only[wy,zdt]at g;have hjl:j<R:=om;refine⟨fun _=>?_,fun _=>?_,?_⟩
  .simp only[Chk.holds,wy,slCap];omega
  .simp only[Chk.holds,wy,slCap];omega
  have hd:slsV (.slice (some ⟨r,0,none⟩) R R) (j:Int) (R:Int) 1=.slice (some ⟨r,j,none⟩) (R-j) (R-j):=by
   simp only[slsV,slCap,z0b,qN,Nat.mul_one];rw[qc om];simp[Addr.add_plain]
  have hs:slsV (.slice (some ⟨r,0,none⟩) R R) 0 (j:Int) 1=.slice (some ⟨r,0,none⟩) j R:=by
   show Value.slice (if R=0 then some ⟨r,0,none⟩else some (Addr.add ⟨r,0,none⟩ 0)) ((j:Int).toNat-0) (R-0)=_;rw[qc (show ¬R=0 by omega),Addr.add_plain,qN];rfl
  refine Z1x (BT:=3) (m:=min j (R-j)) (sl:=j) (dl:=R-j) (d:=j) (sa:=⟨r,0,none⟩) (sc:=R) (dc:=R-j) (List.replicate (min j (R-j)) (vi a)) rfl z0g kr ?_ ?_ h4 rfl sM (fun i v hv=>?_) (by simp;omega) (fun v hv=>by rw[(List.mem_replicate.1 hv).2];rfl) om fun K5 h5=>?_
  .exact hd
  .exact hs
  .rw[List.getElem?_replicate]at hv;split at hv
   .rename_i hi;cases hv;have hb:=h4.blk (zms);rw[Addr.add_plain,PH.cell_at hb,wo];simp only[List.getElem?_toArray];rw[List.getElem?_append_left (by simp;omega),List.getElem?_replicate,qj om]
   .cases hv
  rw[Zcb j (min j (R-j)) R _ _ om]at h5;refine⟨_,z00,R-(j+min j (R-j)),om,j+min j (R-j),?_,rfl,om,om,h5⟩;simp only[wy];rw[w64 om om];congr 2
 .simp only[wy,zdf]at g;have:j=R:=om;subst this;rw[Nat.sub_self,List.replicate_zero,zan]at h4;have hrow:PV.RepRow K ((List.replicate j a).flatMap pv) (List.replicate j (Value.int .i64 a)):=by
   have:=zl3 (S:=K) (l:=List.replicate j a) fun x hx=>by rw[(List.mem_replicate.1 hx).2];exact hai
   rwa[List.map_replicate]at this
  have h5:=Held.blkRow (α:=Int) (L:=List.replicate j a) rfl h4 hrow (by simp only[wi,maxLen];omega);rw[wi]at h5;exact⟨_,rfl,h5⟩
structure GraphOk(R:Nat)(N:List (Int×GN)):Prop where
 keys:(N.map (·.1)).Nodup
 nd:∀c,(adjN N c).Nodup
 rel:∀c d,d∈adjN N c→c∈adjN N d∧c≠d∧0≤c∧c<R∧0≤d∧d<R
def degN(N:List (Int×GN))(gone:List Int)(u:Int):Nat:=((adjN N u).filter fun d=>decide (d∉gone)).length
theorem Z8a{R:Nat}{N:List (Int×GN)}(h:GraphOk R N)(g:List Int)(u:Int):degN N g u≤R:=by
 have h1:(adjN N u).length≤((List.range R).map Int.ofNat).length:=z0n (h.nd u) fun d hd=>by
  have:=h.rel u d hd;exact zmp.2 ⟨d.toNat,wg.2 om,show((d.toNat:Nat):Int)=d by omega⟩
 rw[zlm,wh]at h1;exact Nat.le_trans (List.length_filter_le _ _) h1
theorem Z82(N:List (Int×GN))(u:Int):degN N [] u=(adjN N u).length:=by
 unfold degN;rw[List.filter_eq_self.2];intro d _;simp
theorem Z94{l:List Int}(hn:l.Nodup)(g:List Int)(b:Int)(hb:b∉g):(l.filter fun d=>decide (d∉g++[b])).length=(l.filter fun d=>decide (d∉g)).length-(if b∈l then 1 else 0):=by
 induction l with
 |nil=>simp
 |cons a l ih=>
  obtain⟨h1,h2⟩:=List.nodup_cons.1 hn;have ih:=ih h2;rw[qM,qM];by_cases e:a=b
  .subst e;rw[qc h1,Nat.sub_zero]at ih;rw[qc sM,qj (by simpa using hb),qj (zms),ih,zlc,Nat.add_sub_cancel]
  .have hiff:(b∈a::l)↔b∈l:=by rw[zmc];exact⟨fun h=>h.elim (fun h=>absurd h.symm e) id,.inr⟩
   have hif:(if b∈a::l then 1 else 0)=(if b∈l then 1 else 0):=by simp only[hiff]
   rw[hif];by_cases hg:a∈g
   .rw[qc (by simp[hg]),qc (by simp[hg]),ih]
   .rw[qj (by simp[hg,e]),qj (by simp[hg]),zlc,zlc,ih];by_cases hbl:b∈l
    .have hpos:0<(l.filter fun d=>decide (d∉g)).length:=List.length_pos_iff.2 fun hnil=>by
      have:b∈l.filter fun d=>decide (d∉g):=zmf.2 ⟨hbl,by simpa using hb⟩;rw[hnil]at this;cases this
     rw[qj hbl];omega
    .rw[qc hbl];omega
theorem Zk3{R:Nat}{N:List (Int×GN)}(h:GraphOk R N){g:List Int}{b u:Int}(hb:b∉g):degN N (g++[b]) u=degN N g u-(if b∈adjN N u then 1 else 0):=Z94 (h.nd u) g b hb
theorem Zb0{N:List (Int×GN)}{g:List Int}{b u:Int}(hb:b∉g)(hu:b∈adjN N u):0<degN N g u:=by
 unfold degN;refine List.length_pos_iff.2 fun hnil=>?_;have:b∈(adjN N u).filter fun d=>decide (d∉g):=zmf.2 ⟨hu,by simpa using hb⟩;rw[hnil]at this;cases this
def OrdOk(N:List (Int×GN))(R:Nat)(k:Int)(st:List Int):Prop:=∀(t:Nat)s,st[t]?=some s→(degN N (st.take t) s:Int)<k∨∀u:Nat,u<R→(u:Int)∉st.take t→k≤degN N (st.take t) u
theorem Zfe{R:Nat}{st:List Int}(hn:st.Nodup)(hr:∀s∈st,0≤s∧s<R)(hl:st.length<R):∃j:Nat,j<R∧(j:Int)∉st:=by
 refine Classical.byContradiction fun hno=>?_;have hall:∀j:Nat,j<R→(j:Int)∈st:=fun j hj=>Classical.byContradiction fun h=>hno ⟨j,hj,h⟩;have h1:((List.range R).map Int.ofNat).length≤st.length:=z0n (by
  rw[List.Nodup,List.pairwise_map];exact(List.nodup_range (n:=R)).imp fun h e=>h (Int.ofNat.inj e)) fun y hy=>by
   obtain⟨i,hi,rfl⟩:=zmp.1 hy;exact hall i (wg.1 hi)
 rw[zlm,wh]at h1;omega
theorem zsh:∀(s:List Int)(k:Int),getM (encS s) k=if k∈s then some (Value.int .i64 1)else none
 | [],k=>by simp[encS,getM]
 |a::s,k=>by
  have ih:=zsh s k;rw[encS,wa,z30];by_cases e:a=k
  .subst e;simp
  .rw[qc e];have:(k∈a::s)↔k∈s:=by rw[zmc];exact⟨fun h=>h.elim (fun h=>absurd h.symm e) id,.inr⟩
   simp only[this];exact ih
def plAt(pl:List Int)(q:Int):Int:=pl.getD q.toNat 0
theorem Zij{pl:List Int}{q:Nat}{a:Int}(h:pl[q]?=some a):plAt pl (q:Int)=a:=by
 unfold plAt;rw[qN,zgd,h];rfl
theorem Z2q{pl:List Int}{q:Nat}(h:q<pl.length):pl[q]?=some (plAt pl (q:Int)):=by
 unfold plAt;rw[qN,zgd,zge h];rfl
structure ColOk(N:List (Int×GN))(R:Nat)(k:Int)(st:List Int)(i:Nat)(pl:List Int)(most:Int):Prop where
 len:pl.length=R
 bef:∀r:Nat,r<R→(r:Int)∉st.reverse.take i→pl[r]?=some (-1)
 aft:∀(r:Nat)a,pl[r]?=some a→(r:Int)∈st.reverse.take i→0≤a∧a<most
 apart:∀(r q:Nat)a,pl[r]?=some a→pl[q]?=some a→0≤a→(q:Int)∉adjN N (r:Int)
 lo:k≤most
 hi:most≤k+R+1
 used:∀s,k≤s→s<most→s∈pl
 tight:k<most→∃(t:Nat)(s:Nat),st[t]?=some (s:Int)∧s<R∧∀u:Nat,u<R→(u:Int)∉st.take t→k≤degN N (st.take t) u
 few:∀(r:Nat)a,pl[r]?=some a→a≤((adjN N (r:Int)).length:Int)
theorem zpu(j:Nat):((List.range j).map Int.ofNat).Nodup:=by
 rw[List.Nodup,List.pairwise_map];exact(List.nodup_range (n:=j)).imp fun h e=>h (Int.ofNat.inj e)
theorem Zng{R:Nat}{st:List Int}(hn:st.Nodup)(hl:st.length=R)(hr:∀s:Int,s∈st→0≤s∧s<R)(j:Nat)(hj:j<R):(j:Int)∈st:=by
 refine Classical.byContradiction fun hno=>?_;have h1:((j:Int)::st).length≤((List.range R).map Int.ofNat).length:=z0n (List.nodup_cons.2 ⟨hno,hn⟩) fun y hy=>by
  rcases zmc.1 hy with rfl|hy
  .exact zmp.2 ⟨j,wg.2 hj,rfl⟩
  .have:=hr y hy;exact zmp.2 ⟨y.toNat,wg.2 om,show((y.toNat:Nat):Int)=y by omega⟩
 rw[zlm,wh,zlc]at h1;omega
theorem Ziv{N:List (Int×GN)}{R:Nat}{k:Int}{st:List Int}{i:Nat}{pl:List Int}{most:Int}(ok:GraphOk R N)(hk:1≤k)(hn:st.Nodup)(hl:st.length=R)(hr:∀s:Int,s∈st→0≤s∧s<R)(hord:OrdOk N R k st)(h:ColOk N R k st i pl most){r:Nat}(hri:st.reverse[i]?=some (r:Int))(hrR:r<R){j:Nat}
  (hj:∀x:Nat,x<j→∃q∈adjN N (r:Int),plAt pl q=(x:Int)) (hnj:¬∃q∈adjN N (r:Int),plAt pl q=(j:Int)) (hjR:j≤R) :
  ColOk N R k st (i+1) (pl.set r (j:Int)) (if(j:Int)+1>most then(j:Int)+1 else most):=by
 have hnr:st.reverse.Nodup:=List.pairwise_reverse.2 (hn.imp fun h=>Ne.symm h);have hiR:i<R:=by have:=(zgi.1 hri).1;rwa[List.length_reverse,hl]at this
 have htk:∀y,y∈st.reverse.take (i+1)↔y∈st.reverse.take i∨y=(r:Int):=fun y=>by
  rw[q9,hri];simp
 have hnot:(r:Int)∉st.reverse.take i:=fun hm=>by
  obtain⟨a,ha⟩:=qJ hm;rw[List.getElem?_take]at ha;split at ha
  .rename_i hai;have:=(List.getElem?_inj (zgi.1 ha).1 hnr).1 (ha.trans hri.symm);omega
  .cases ha
 have hplr:=h.bef r hrR hnot;have hlen:=h.len;have hq:∀q∈adjN N (r:Int),∃qn:Nat,q=(qn:Int)∧qn<R∧qn≠r∧pl[qn]?=some (plAt pl q):=fun q hq=>by
  obtain⟨_,h1,_,_,h2,h3⟩:=ok.rel _ _ hq;refine⟨q.toNat,om,om,fun e=>h1 om,?_⟩;have:=Z2q (pl:=pl) (q:=q.toNat) om;rwa[show((q.toNat:Nat):Int)=q by omega]at this
 have hset:∀q:Nat,q≠r→(pl.set r (j:Int))[q]?=pl[q]?:=fun q hne=>by rw[List.getElem?_set,qc (Ne.symm hne)]
 have hsetr:(pl.set r (j:Int))[r]?=some (j:Int):=by rw[List.getElem?_set,qj rfl,qj om]
 refine⟨by simpa using h.len,fun x hx hxn=>?_,fun x a ha hx=>?_,fun x q a hx hqa ha hadj=>?_,?_,?_,fun s hs1 hs2=>?_,fun hm=>?_,fun x a hx=>?_⟩
 .rw[htk]at hxn;rw[hset x (fun e=>hxn (.inr (by rw[e])))];exact h.bef x hx fun hh=>hxn (.inl hh)
 .by_cases e:x=r
  .subst e;rw[hsetr]at ha;cases ha;split<;>omega
  .rw[hset x e]at ha;have:=h.aft x a ha (((htk x).1 hx).resolve_right fun hh=>e om);split<;>omega
 .by_cases e:x=r
  .subst e;rw[hsetr]at hx;cases hx;obtain⟨qn,h1,_,h2,h3⟩:=hq _ hadj;have:qn=q:=om;subst this;rw[hset qn h2,h3]at hqa;exact hnj ⟨_,hadj,qW hqa⟩
  .rw[hset x e]at hx;by_cases e2:q=r
   .subst e2;rw[hsetr]at hqa;cases hqa;exact hnj ⟨_,(ok.rel _ _ hadj).1,Zij hx⟩
   .rw[hset q e2]at hqa;exact h.apart x q a hx hqa ha hadj
 .have:=h.lo;split<;>omega
 .have:=h.hi;have:=h.lo;split<;>omega
 .by_cases hsm:s<most
  .obtain⟨a,ha⟩:=qJ (h.used s hs1 hsm);have hne:a≠r:=fun e=>by subst e;rw[hplr]at ha;cases ha;omega
   exact zmg (i:=a) (by rw[hset a hne];exact ha)
  .have hle:s≤(j:Int):=by split at hs2<;>omega
   by_cases e:s=(j:Int)
   .subst e;exact zmg hsetr
   .obtain⟨q,hqa,hqs⟩:=hj s.toNat om;obtain⟨qn,rfl,_,h2,h3⟩:=hq q hqa;refine zmg (i:=qn) ?_;rw[hset qn h2,h3,hqs];congr 1;omega
 .by_cases hkm:k<most
  .exact h.tight hkm
  .have hjk:k≤(j:Int):=by have:=h.lo;split at hm<;>omega
   have hst:st[R-1-i]?=some (r:Int):=by
    rw[List.getElem?_reverse om]at hri;rw[hl]at hri;exact hri
   refine⟨R-1-i,r,hst,hrR,?_⟩;have hdeg:j≤degN N (st.take (R-1-i)) (r:Int):=by
    have h1:((List.range j).map Int.ofNat).length≤(((adjN N (r:Int)).filter fun d=>decide (d∉st.take (R-1-i))).map (plAt pl)).length:=z0n (zpu j) fun y hy=>by
     obtain⟨x,hx,rfl⟩:=zmp.1 hy;obtain⟨q,hqa,hqx⟩:=hj x (wg.1 hx);refine zmp.2 ⟨q,zmf.2 ⟨hqa,qX fun hin=>?_⟩,hqx⟩;obtain⟨qn,rfl,h1,h2,h3⟩:=hq q hqa;have hmem:(qn:Int)∈st.reverse.take i:=Classical.byContradiction fun hno=>by
      have:=h.bef qn h1 hno;rw[h3,hqx]at this;have:=qW this;omega
     rw[List.take_reverse,List.mem_reverse,hl]at hmem;obtain⟨a,ha⟩:=qJ hmem;obtain⟨b,hb⟩:=qJ hin;rw[List.getElem?_drop]at ha;rw[List.getElem?_take]at hb;split at hb
     .have:=(List.getElem?_inj (zgi.1 ha).1 hn).1 (ha.trans hb.symm);omega
     .cases hb
    rw[zlm,wh,zlm]at h1;exact h1
   rcases hord _ _ hst with h5|h5
   .omega
   .exact h5
 .by_cases e:x=r
  .subst e;rw[hsetr]at hx;cases hx;have h1:((List.range j).map Int.ofNat).length≤((adjN N (x:Int)).map (plAt pl)).length:=z0n (zpu j) fun y hy=>by
    obtain⟨z,hz,rfl⟩:=zmp.1 hy;obtain⟨q,hqa,hqx⟩:=hj z (wg.1 hz);exact zmp.2 ⟨q,hqa,hqx⟩
   rw[zlm,wh,zlm]at h1;omega
  .rw[hset x e]at hx;exact h.few x a hx
theorem zwy(f:Nat→Bool):∀n,cntB f n=((List.range n).filter f).length
 |0=>rfl
 |n+1=>by
  rw[List.range_succ,List.filter_append,zla,←zwy f n];simp only[cntB,qM,List.filter_nil];split<;>simp
theorem Zhi{p:PrcX}{N:List (Int×GN)}{R:Nat}{k:Int}{g:List Int}(ok:GraphOk R N)(hrel:∀a b,b∈adjN N a↔a≠b∧MeetP p a b)(h:∀u:Nat,u<R→(u:Int)∉g→k≤degN N g u):Zgt R (fun a b=>MeetP p (a:Int) (b:Int)) k fun i=>decide ((i:Int)∉g):=by
 intro i hi hu;refine⟨fun j=>decide ((j:Int)∈adjN N (i:Int))&&decide ((j:Int)∉g),fun j hj hf=>?_,?_⟩
 .rw[zba,zdt,zdt]at hf;have:=(hrel _ _).1 hf.1;exact⟨qX hf.2,fun e=>this.1 (by rw[e]),this.2⟩
 .have h1:=h i hi (qZ hu);rw[zwy];have h2:((adjN N (i:Int)).filter fun d=>decide (d∉g)).length≤(((List.range R).filter fun j:Nat=>decide ((j:Int)∈adjN N (i:Int))&&decide ((j:Int)∉g)).map Int.ofNat).length:=z0n ((ok.nd _).filter _) fun d hd=>by
   obtain⟨h3,h4⟩:=zmf.1 hd;obtain⟨_,_,_,_,h5,h6⟩:=ok.rel _ _ h3;refine zmp.2 ⟨d.toNat,zmf.2 ⟨wg.2 om,?_⟩,show((d.toNat:Nat):Int)=d by omega⟩;rw[show((d.toNat:Nat):Int)=d by omega,qX h3];exact h4
  rw[zlm]at h2;unfold degN at h1;omega
structure Placed(p:PrcX)(k n:Int)(l:List Int):Prop where
 len:l.length=p.regs.toNat
 lo:0≤n
 hi:n≤2001
 all:∀(r:Nat)a,l[r]?=some a→0≤a∧a-k<n
 apart:∀(r q:Nat)a,l[r]?=some a→l[q]?=some a→r≠q→¬MeetP p (r:Int) (q:Int)
 used:∀s,k≤s→s-k<n→s∈l
 few:∀(r:Nat)a,l[r]?=some a→∃m:List Int,m.Nodup∧(∀y∈m,(r:Int)≠y∧MeetP p (r:Int) y)∧a≤(m.length:Int)
 tight:0<n→∃U,Zgt p.regs.toNat (fun a b=>MeetP p (a:Int) (b:Int)) k U∧∃i,i<p.regs.toNat∧U i=true
theorem Zhl{p:PrcX}{N:List (Int×GN)}{R:Nat}{k most:Int}{st pl:List Int}(hR:p.regs=(R:Int))(hR2:R≤2000)(ok:GraphOk R N)(hrel:∀a b,b∈adjN N a↔a≠b∧MeetP p a b)(hn:st.Nodup)(hl:st.length=R)(hr:∀s:Int,s∈st→0≤s∧s<R)(h:ColOk N R k st R pl most):Placed p k (most-k) pl:=by
 have hRt:p.regs.toNat=R:=om;have hall:∀r:Nat,r<R→(r:Int)∈st.reverse.take R:=fun r hr'=>by
  rw[ztl (by rw[List.length_reverse];omega),List.mem_reverse];exact Zng hn hl hr r hr'
 have hlo:=h.lo;have hhi:=h.hi;have hlt:∀{r:Nat} {a:Int},pl[r]?=some a→r<R:=fun h1=>by have:=(zgi.1 h1).1;rwa[h.len]at this
 refine⟨by rw[hRt];exact h.len,om,om,fun r a ha=>?_,fun r q a h1 h2 h3 h4=>?_,fun s hs1 hs2=>h.used s hs1 om,fun r a ha=>⟨adjN N (r:Int),ok.nd _,fun y hy=>(hrel _ _).1 hy,h.few r a ha⟩,fun hm=>?_⟩
 .have:=h.aft r a ha (hall r (hlt ha));omega
 .have:=h.aft r a h1 (hall r (hlt h1));exact h.apart r q a h1 h2 this.1 ((hrel _ _).2 ⟨fun e=>h3 om,h4⟩)
 .obtain⟨t,s,hs,hsR,hu⟩:=h.tight om;rw[hRt];refine⟨_,Zhi ok hrel hu,s,hsR,qX fun hin=>?_⟩;obtain⟨b,hb⟩:=qJ hin;rw[List.getElem?_take]at hb;split at hb
  .have:=(List.getElem?_inj (zgi.1 hb).1 hn).1 (hb.trans hs.symm);omega
  .cases hb
theorem Z1n{p:PrcX}{a b:Int}:MeetP p a b→MeetP p b a:=by
 rintro(⟨h1,h2⟩|⟨f,hf,h|h⟩)
 .exact .inl ⟨h2,h1⟩
 .exact .inr ⟨f,hf,.inr h⟩
 .exact .inr ⟨f,hf,.inl h⟩
theorem Zav{p:PrcX}(h:mayP p=true){a b:Int}(hm:MeetP p a b):(0≤a∧a<p.regs)∧0≤b∧b<p.regs:=by
 rcases hm with⟨h1,h2⟩|⟨f,hf,⟨h1,h2⟩|⟨h1,h2⟩⟩
 .exact⟨zj0 h h1,zj0 h h2⟩
 .exact⟨h1▸(zpa h hf).1,(zpa h hf).2 _ h2⟩
 .exact⟨(zpa h hf).2 _ h2,h1▸(zpa h hf).1⟩
theorem Ze6{p:PrcX}{S:PH}{v:Value}{N:List (Int×GN)}{R:Nat}(hR:p.regs=(R:Int))(hmay:mayP p=true)(h:GraphR S v N)(hrel:∀a b,relN N a b↔a≠b∧MeetP p a b):GraphOk R N∧∀a b,b∈adjN N a↔a≠b∧MeetP p a b:=by
 have hadj:∀a b,b∈adjN N a↔a≠b∧MeetP p a b:=fun a b=>(Zm1 h.keys a b).trans (hrel a b);refine⟨⟨h.keys,h.adj_nodup,fun c d hd=>?_⟩,hadj⟩;obtain⟨h1,h2⟩:=(hadj c d).1 hd;have h3:=Zav hmay h2;exact⟨(hadj d c).2 ⟨Ne.symm h1,Z1n h2⟩,h1,om,om,om,om⟩
theorem zze(e v:Int)(hv:arI .add .i64 11 (arI .sub .i64 e 80)=v)(H:PH):Gives zP 127 [vi e] H (vi v):=by
 subst hv;refine qr zkm [vi e] ?_;exact⟨rfl,wx _⟩
section
variable {S0 K:PH}{x:FX}{pu nx:Int}{l l':List ItemR}{k k':Nat}{J:List Itm}
end
theorem Z81{S0 K:PH}{rg:Nat}{sv env:Value}{nx stack:Int}{l:List ItemR}{k:Nat}{J:List Itm}(h:EmH S0 K rg 100 [sv,env,vi nx,vi stack] l k J)(h0:0≤nx)(h1:nx≤2199023255552):
  Tri zP 42 #[pAt rg] K fun e K'=>e=.returned (vi nx)∧EmH S0 K' rg 100 [sv,env,vi (nx+1),vi stack] l k J:=by
 refine qr z7u [pAt rg] ?_;obtain⟨hl,S,iv,hS,hh⟩:=h;have w1:IntKind.i64.wrap (nx+1)=nx+1:=w64 om om;refine⟨fun _=>rfl,[vi nx],rfl,z0r hh (zms) 3 1,?_⟩;simp only[cns];refine z06 (off:=3) (vs:=[vi (nx+1)]) rfl hh (by simp only[wy,arI,w1]) (by simp[oneC]) sM fun K1 h1=>?_;refine⟨[vi (nx+1)],rfl,z0r h1 (zms) 3 1,?_,hl,S,iv,hS,h1⟩;show Ending.returned (vi (IntKind.i64.wrap (nx+1-1)))=_;rw[w64 om om];congr 2;omega
def zni(lab nx w:Int):List ItemR:=[⟨1,⟨0,0,0,0,0⟩,lab,0⟩,⟨4,⟨20,26,0,0,0⟩,0,0⟩,⟨2,⟨25,26,28,0,0⟩,22,0⟩,⟨3,⟨28,0,0,0,0⟩,nx,0⟩,⟨1,⟨0,0,0,0,0⟩,nx,0⟩,⟨4,⟨20,1,0,0,0⟩,0,w⟩,⟨0,⟨15,1,1,0,0⟩,0,0⟩,⟨3,⟨28,0,0,0,0⟩,4,0⟩]
noncomputable def zaq:List ItemR:=rt_codeR++gc_codeR++zni 10 10001 40
theorem Zjo:decide (errA (asmR zaq)=0)=true:=kr
def fiveY:InsX:=⟨constB,0,[],.mk 1 5 [] [],0⟩
def fiveE:EndX:=⟨2,0,[],0,0,0⟩
def fiveP:PrcX:=⟨0,0,1,[⟨[fiveY],fiveE⟩]⟩
theorem zpv:z1h [fiveP]=0:=by
 have hc:z2b fiveY.const=true:=by
  have:(fiveY.const.chk 0 0).2=0:=kr;unfold z2b;rw[this];rfl
 have hi:insOk [fiveP] fiveP fiveY=true:=by
  rw[zku rfl,hc];rfl
 have hp:prcOk [fiveP] fiveP=true:=by
  unfold prcOk;have e:(fiveP.blocks.all fun b=>b.ins.all (insOk [fiveP] fiveP)&&finOk fiveP b.e)=true:=by
   show(([fiveY].all (insOk [fiveP] fiveP)&&finOk fiveP fiveE)&&true)=true;rw[List.all_cons,hi];rfl
  rw[e];rfl
 unfold z1h;rw[qc dC];simp only[List.all_cons,hp];rfl
theorem Zbc:Tryz.prog.underlying 44=some (.slice 43):=kr
theorem Z2p:ElemOk zP 43 (sz PrcX) 48=true:=kr
theorem z3z(n:Int)(H:PH):Gives zP 13 [vi n] H (.agg #[vi 1,vi n,txt [],.slice none 0 0]):=by
 refine qr zls [vi n] ?_;exact⟨rfl,wx _⟩
theorem Zj6(S:PH):CsR S fiveY (inV fiveY (.slice none 0 0) (.slice none 0 0)):=
 ins_iff.2 ⟨_,_,rfl,dC,dC,z15 S,dC,dC,dC,z15 S,dC⟩
theorem Zif(S:PH):CsR S fiveE (enV fiveE (.slice none 0 0)):=
 end_iff.2 ⟨_,rfl,dC,dC,z15 S,dC,dC,dC⟩
theorem zw4(S:PH):Tri zP 37 #[] S fun e K'=>∃cv,e=.returned (.agg #[cv])∧SlR K' [fiveP] cv∧PH.le S K':=by
 refine qr zk0 [] ?_;refine z02 (qb 13) (z3z 5 S) ?_;rintro _ K1 ⟨rfl,l1⟩;refine⟨_,[vi 1,vi 5,txt [],.slice none 0 0],rfl,rfl,rfl,z01,?_⟩;simp only[cns];refine z0k (α:=InsX) (l:=[fiveY]) (b:=112) [.agg (inV fiveY (.slice none 0 0) (.slice none 0 0)).toArray] z79 z4e rfl dC dC (Held.nil l1) kr (.cons (Zj6 S) .nil) z01 fun v2 K2 h2 _ _=>?_;obtain⟨S2,s2,l2,h2⟩:=h2.freeze;simp only[cns];refine z0k (α:=BlkX) (l:=[⟨[fiveY],fiveE⟩]) (b:=88) [.agg (v2::enV fiveE (.slice none 0 0)).toArray] Z8h zw3 rfl dC dC h2 kr (.cons (blk_iff.2 ⟨_,_,rfl,s2,Zif S2⟩) .nil) z01 fun v3 K3 h3 _ _=>?_;obtain⟨S3,s3,l3,h3⟩:=h3.freeze;simp only[cns];refine z0k (α:=PrcX) (l:=[fiveP]) (b:=48) [.agg #[vi 0,vi 0,vi 1,v3]] Zbc Z2p rfl dC dC h3 kr (.cons (prc_iff.2 ⟨_,rfl,dC,dC,dC,s3⟩) .nil) z01 fun v4 K4 h4 _ _=>?_;exact⟨v4,rfl,(h4.row (zms)).slR h4.sh,ww l2 (ww l3 h4.sh)⟩
noncomputable abbrev Zne(l:List ItemR):List ItemR:=rt_codeR++gc_codeR++l
theorem uMemJ:Tryz.prog.underlying 29=some (.slice 3):=kr
theorem Zjk:rt_codeR.length+gc_codeR.length≤1000:=Nat.le_of_ble_eq_true kr
theorem Zmm{l:List Int}(h:l.length=32):∃a0 a1 a2 a3 a4 a5 a6 a7 a8 a9 b0 b1 b2 b3 b4 b5 b6 b7 b8 b9 c0 c1 c2 c3 c4 c5 c6 c7 c8 c9 d0 d1,l=[a0,a1,a2,a3,a4,a5,a6,a7,a8,a9,b0,b1,b2,b3,b4,b5,b6,b7,b8,b9,c0,c1,c2,c3,c4,c5,c6,c7,c8,c9,d0,d1]:=by
 match l,h with
 | [a0,a1,a2,a3,a4,a5,a6,a7,a8,a9,b0,b1,b2,b3,b4,b5,b6,b7,b8,b9,c0,c1,c2,c3,c4,c5,c6,c7,c8,c9,d0,d1],_=>exact⟨_,_,_,_,_,_,_,_,_,_,_,_,_,_,_,_,_,_,_,_,_,_,_,_,_,_,_,_,_,_,_,_,rfl⟩
theorem z70(n v:Int)(hv:8*n+2=v)(hb:0≤n∧n≤100000)(H:PH):Gives zP 34 [vi n] H (vi v):=by
 rw[←hv];exact z38 n H hb
theorem z3s{S0:PH}{l:List Int}{av:Value}(h:SlR S0 l av)(i:Nat)(r:Int)(hi:l[i]?=some r):InI r∧((z0b av).isSome=true∧(0:Int)≤(i:Int)∧(i:Int)<(slLen av:Int))∧∀K:PH,PH.le S0 K→rowAt K (pOf (eltV av (i:Int) 1)) [vi r]:=by
 obtain⟨x1,_,cs,x2,x3⟩:=h.get hi;obtain⟨rfl,x4⟩:=csIK x2;have hl:=(zgi.1 hi).1;exact⟨x4,⟨x1,om,by rw[h.len];omega⟩,fun K hK=>z0v hK x3⟩
section
variable {S0 K:PH}{x:FX}{pu nx:Int}{l l':List ItemR}{k k':Nat}{J:List Itm}
def needL(words:Int):List ItemR:=[⟨4,⟨20,26,0,0,0⟩,0,words⟩,⟨3,⟨28,31,0,0,0⟩,2,0⟩]
theorem Zmt(hx:FOk S0 x)(hp:0≤pu∧pu≤100000)(words:Int)(b_words:InI words)(h0:GnH S0 K x pu nx l (k+2) J):Tri zP 181 #[pAt x.rf,vi words] K (GnQ S0 x pu nx (l++needL words) k J):=by
 refine qr z96 [pAt x.rf,vi words] ?_;refine⟨fun _=>rfl,[pAt x.rg],rfl,h0.frow 0 1,fun _=>rfl,?_⟩;simp only[cns];refine z05 (qb 57) (h0.to (z1r 26 words dC b_words)) fun K1 h1=>?_;refine⟨[pAt x.rg],rfl,h1.frow 0 1,fun _=>rfl,?_⟩;simp only[cns];refine z05 (qb 58) (h1.to (ztc 31 2 dC dC)) fun K2 h2=>?_;exact⟨rfl,by simpa only[needL,zaa,cns]using h2⟩
def FX.madeL(x:FX)(pu r words:Int):List ItemR:=[⟨0,⟨18,26,29,0,3⟩,0,0⟩,⟨0,⟨17,26,26,0,1⟩,0,0⟩,⟨0,⟨15,29,29,0,words⟩,0,0⟩]++x.setL pu r 26
theorem Zkx(hx:FOk S0 x)(hp:0≤pu∧pu≤100000)(r words:Int)(b_words:InI words)(h_r:x.has r)(h0:GnH S0 K x pu nx l (k+4) J):Tri zP 183 #[pAt x.rf,vi r,vi words] K (GnQ S0 x pu nx (l++x.madeL pu r words) k J):=by
 refine qr z9c [pAt x.rf,vi r,vi words] ?_;refine⟨fun _=>rfl,[pAt x.rg],rfl,h0.frow 0 1,fun _=>rfl,?_⟩;simp only[cns];refine z05 (qb 97) (h0.to (z24 18 26 29 3 dC dC dC dC)) fun K1 h1=>?_;refine⟨[pAt x.rg],rfl,h1.frow 0 1,fun _=>rfl,?_⟩;simp only[cns];refine z05 (qb 97) (h1.to (z24 17 26 26 1 dC dC dC dC)) fun K2 h2=>?_;refine⟨[pAt x.rg],rfl,h2.frow 0 1,fun _=>rfl,?_⟩;simp only[cns];refine z05 (qb 97) (h2.to (z24 15 29 29 words dC dC dC b_words)) fun K3 h3=>?_;refine z05 (qb 135) (zxq hx hp r 26 h_r dC h3) fun K4 h4=>?_;exact⟨rfl,by simpa only[FX.madeL,zaa,cns]using h4⟩
def headL(kind size:Int):List ItemR:=[⟨4,⟨20,26,0,0,0⟩,0,arI .or .i64 (arI .shl .i64 (arI .or .i64 (arI .shl .i64 size 3) kind) 3) 7⟩,⟨0,⟨23,26,29,0,0⟩,0,0⟩]
theorem Zl6(hx:FOk S0 x)(hp:0≤pu∧pu≤100000)(kind size:Int)(b_kind:InI kind)(b_size:InI size)(h0:GnH S0 K x pu nx l (k+2) J):Tri zP 182 #[pAt x.rf,vi kind,vi size] K (GnQ S0 x pu nx (l++headL kind size) k J):=by
 refine qr z97 [pAt x.rf,vi kind,vi size] ?_;refine⟨fun _=>rfl,[pAt x.rg],rfl,h0.frow 0 1,fun _=>rfl,?_⟩;simp only[cns];refine z05 (qb 57) (h0.to (z1r 26 (arI .or .i64 (arI .shl .i64 (arI .or .i64 (arI .shl .i64 size 3) kind) 3) 7) dC (z2g _))) fun K1 h1=>?_;refine⟨[pAt x.rg],rfl,h1.frow 0 1,fun _=>rfl,?_⟩;simp only[cns];refine z05 (qb 54) (h1.to (z5h 26 29 0 dC dC dC)) fun K2 h2=>?_;exact⟨rfl,by simpa only[headL,zaa,cns]using h2⟩
def FX.truthL(x:FX)(pu to:Int):List ItemR:=[⟨0,⟨18,28,28,0,3⟩,0,0⟩,⟨0,⟨15,28,28,0,2⟩,0,0⟩]++x.setL pu to 28
theorem Zj9(hx:FOk S0 x)(hp:0≤pu∧pu≤100000)(to:Int)(h_to:x.has to)(h0:GnH S0 K x pu nx l (k+3) J):Tri zP 187 #[pAt x.rf,vi to] K (GnQ S0 x pu nx (l++x.truthL pu to) k J):=by
 refine qr z8h [pAt x.rf,vi to] ?_;refine⟨fun _=>rfl,[pAt x.rg],rfl,h0.frow 0 1,fun _=>rfl,?_⟩;simp only[cns];refine z05 (qb 97) (h0.to (z24 18 28 28 3 dC dC dC dC)) fun K1 h1=>?_;refine⟨[pAt x.rg],rfl,h1.frow 0 1,fun _=>rfl,?_⟩;simp only[cns];refine z05 (qb 97) (h1.to (z24 15 28 28 2 dC dC dC dC)) fun K2 h2=>?_;refine z05 (qb 135) (zxq hx hp to 28 h_to dC h2) fun K3 h3=>?_;exact⟨rfl,by simpa only[FX.truthL,zaa,cns]using h3⟩
end
def FX.storesL(x:FX)(pu:Int):Int→List Int→List ItemR
 |_,[]=>[]
 |b,r::rs=>x.getL pu r 26++[⟨0,⟨23,x.get r 26,29,0,b⟩,0,0⟩]++x.storesL pu (b+1) rs
theorem zql(x:FX)(pu:Int):∀(rs bs:List Int)(b:Int),x.storesL pu b (rs++bs)=x.storesL pu b rs++x.storesL pu (b+rs.length) bs
 | [],bs,b=>by simp[FX.storesL]
 |r::rs,bs,b=>by
  simp only[List.cons_append,FX.storesL,zql x pu rs bs (b+1),zaa,zlc];rw[show b+1+(rs.length:Int)=b+((rs.length+1:Nat):Int) by omega]
def FX.closureL(x:FX)(pu:Int)(rs:List Int)(to num:Int):List ItemR:=needL (2+(rs.length:Int))++headL 5 (1+(rs.length:Int))++[⟨5,⟨20,26,0,0,0⟩,x.ents.getD num.toNat 0,0⟩,⟨0,⟨18,26,26,0,3⟩,0,0⟩,⟨0,⟨23,26,29,0,1⟩,0,0⟩]++x.storesL pu 2 rs++x.madeL pu to (2+(rs.length:Int))
section
variable {S0 K:PH}{x:FX}{pu nx:Int}{l l':List ItemR}{k k':Nat}{J:List Itm}
theorem Z91{rs:List Int}{i:Nat}{r b:Int}(h:rs[i]?=some r)(l:List ItemR):l++x.storesL pu b (rs.take i)++x.getL pu r 26++[⟨0,⟨23,x.get r 26,29,0,b+(i:Int)⟩,0,0⟩]=l++x.storesL pu b (rs.take (i+1)):=by
 have hl:(rs.take i).length=i:=by rw[List.length_take];have:=(zgi.1 h).1;omega
 rw[q9,h,zql,hl];simp[FX.storesL]
theorem Zcu(hx:FOk S0 x)(hp:0≤pu∧pu≤100000)(y:InsX)(av dv:Value)(hy:InR S0 y av dv)(ht:x.has y.to)(hr:∀r∈y.args,x.has r)(hn:y.args.length≤100000)(hnum:0≤y.num∧y.num<x.ents.length)(h0:GnH S0 K x pu nx l (k+(11+2*y.args.length)) J):
  Tri zP 137 #[pAt x.rf,.agg (inV y av dv).toArray] K (GnQ S0 x pu nx (l++x.closureL pu y.args y.to y.num) k J):=by
 have hargs:=hy.args;obtain⟨ab,ac,rfl⟩:=hy.args.sl;obtain⟨db,dc,rfl⟩:=hy.cl.sl;obtain⟨en,hen,hev⟩:∃en:Nat,y.num=(en:Int)∧x.ents[en]?=some (x.ents.getD y.num.toNat 0):=⟨y.num.toNat,om,by rw[zgd,zge om];rfl⟩;generalize hE:x.ents.getD y.num.toNat 0=ent at *;obtain⟨ei,eq,ed⟩:=z3s hx.en en ent hev;obtain⟨eb,ec,hev'⟩:=hx.en.sl;refine qr zg4 ([pAt x.rf]++inV y (.slice ab y.args.length ac) (.slice db y.const.list.length dc)) ?_;simp only[inV,cns];generalize hN:y.args.length=n at *;have e1:arI .add .i64 2 (n:Int)=2+(n:Int):=w64 om om;have e1':arI .add .i64 1 (n:Int)=1+(n:Int):=w64 om om;have c1:Tri zP 181 #[pAt x.rf,vi (arI .add .i64 2 (n:Int))] K (GnQ S0 x pu nx (l++needL (2+(n:Int))) (k+(9+2*n)) J):=by
  rw[e1];exact Zmt hx hp _ (inJ om om) (h0.less om)
 refine z05 (qb 181) c1 fun K1 h1=>?_;have c2:Tri zP 182 #[pAt x.rf,vi 5,vi (arI .add .i64 1 (n:Int))] K1 (GnQ S0 x pu nx (l++needL (2+(n:Int))++headL 5 (1+(n:Int))) (k+(7+2*n)) J):=by
  rw[e1'];exact Zl6 hx hp 5 _ dC (inJ om om) (h1.less om)
 refine z05 (qb 182) c2 fun K2 h2=>?_;refine⟨fun _=>rfl,[pAt x.rg],rfl,h2.frow 0 1,fun _=>rfl,[pAt x.rg],rfl,h2.frow 0 1,fun _=>rfl,[x.ev],by rw[hev'];rfl,h2.grow 1 1,fun _=>?_,[vi ent],rfl,?_,?_⟩
 .show(z0b x.ev).isSome=true∧0≤y.num∧y.num<(slLen x.ev:Int);rw[hen];exact eq
 .show rowAt K2 (pOf (eltV x.ev y.num 1)) _;rw[hen];exact ed _ h2.sh
 simp only[cns];refine z05 (qb 151) ((h2.less (k':=k+(6+2*n)+1) om).to (zvl 26 ent dC ei)) fun K3 h3=>?_;refine⟨[pAt x.rg],rfl,h3.frow 0 1,fun _=>rfl,?_⟩;simp only[cns];refine z05 (qb 97) ((h3.less (k':=k+(5+2*n)+1) om).to (z24 18 26 26 3 dC dC dC dC)) fun K4 h4=>?_;refine⟨[pAt x.rg],rfl,h4.frow 0 1,fun _=>rfl,?_⟩;simp only[cns];refine z05 (qb 54) ((h4.less (k':=k+(4+2*n)+1) om).to (z5h 26 29 1 dC dC dC)) fun K5 h5=>?_;generalize hl0:l++needL (2+(n:Int))++headL 5 (1+(n:Int))++[⟨5,⟨20,26,0,0,0⟩,ent,0⟩]++[⟨0,⟨18,26,26,0,3⟩,0,0⟩]++[⟨0,⟨23,26,29,0,1⟩,0,0⟩]=l0 at h5;refine⟨fun m vs K'=>∃i:Nat,i+m=n∧vs=[nI i]∧GnH S0 K' x pu nx (l0++x.storesL pu 2 (y.args.take i)) (k+(4+2*m)) J,⟨n,0,om,rfl,by rw[List.take_zero,FX.storesL,zan];exact h5⟩,?_⟩;rintro m vs K6 _ ⟨i,him,rfl,h6⟩;simp only[cns];refine⟨fun g=>?_,fun g=>?_⟩
 .simp only[wy,zdt]at g;have hi:i<n:=om;obtain⟨r,hri⟩:∃r,y.args[i]?=some r:=⟨_,zge om⟩;have hrh:=hr r (zmg hri);obtain⟨ri,q,d⟩:=z3s hargs i r hri;refine⟨fun _=>?_,[vi r],rfl,d _ h6.sh,[pAt x.rg],rfl,h6.frow 0 1,fun _=>rfl,?_⟩
  .exact⟨q.1,q.2.1,by show(i:Int)<(n:Int);omega⟩
  simp only[cns];obtain⟨j,rfl⟩:∃j,m=j+1:=⟨m-1,om⟩;refine z2y (qb 136) (zob (k:=k+(4+2*j)+1) hx hp r 26 hrh dC (h6.less om)) (fun K4 h4=>z0w (h4.frow 0 1) z01) fun K4 h4=>?_;simp only[cns];have e2:arI .add .i64 2 (i:Int)=2+(i:Int):=w64 om om;have c2:Tri zP 54 #[pAt x.rg,vi (x.get r 26),vi 29,vi (arI .add .i64 2 (i:Int))] K4 (GnQ S0 x pu nx (l0++x.storesL pu 2 (y.args.take (i+1))) (k+(4+2*j)) J):=by
   rw[e2,←Z91 hri];exact h4.to (z5h (x.get r 26) 29 (2+(i:Int)) (zsc hx r 26 hrh dC) dC (inJ om om))
  refine z05 (qb 54) c2 fun K5 h5=>?_;refine⟨_,z00,j,om,i+1,om,?_,h5⟩;have hw:IntKind.i64.wrap ((i:Int)+1)=((i+1:Nat):Int):=by rw[w64 om om];rfl
  simp only[wy,hw]
 .simp only[wy,zdf]at g;obtain rfl:i=n:=om;rw[ztl om]at h6;have c3:Tri zP 183 #[pAt x.rf,vi y.to,vi (arI .add .i64 2 (i:Int))] K6 (GnQ S0 x pu nx (l0++x.storesL pu 2 y.args++x.madeL pu y.to (2+(i:Int))) k J):=by
   rw[e1];exact Zkx hx hp y.to _ (inJ om om) ht (h6.less om)
  refine z05 (qb 183) c3 fun K4 h4=>?_;refine⟨rfl,?_⟩;rw[←hl0]at h4;simpa only[FX.closureL,hN,hE,zaa,cns]using h4
end
theorem FOk.le{S S':PH}{x:FX}(h:FOk S x)(l:PH.le S S'):FOk S' x:=⟨h.bl.le l,h.pl.le l,h.la.le l,h.en.le l,h.sy.le l,h.ply,h.sl,h.st⟩
section
variable {S0 K:PH}{x:FX}{pu nx:Int}{l l':List ItemR}{k k':Nat}{J:List Itm}
variable {P:Program}{X:List PanicEntry→PH→Prop}{β:Type}{E:List Value}{L:LK}{Q:β→List Value→PH→LK→Prop}
theorem GnH.jrow(h:GnH S0 K x pu nx l k J){r:Nat}{T:TypeId}{cs:List Value}(hj:bx r T cs∈J)(off n:Nat):rowAt K (some ⟨r,off,none⟩) ((cs.drop off).take n):=by
 obtain⟨_,S,iv,_,hh⟩:=h.em;exact z0r hh (zmm _ (zmm _ (zmm _ hj))) off n
theorem GnH.sub{J':List Itm}(h:GnH S0 K x pu nx l k J)(s:J'.Sublist J):GnH S0 K x pu nx l k J':=by
 obtain⟨⟨h1,S,iv,h2,h3⟩,h4,h5⟩:=h;exact⟨⟨h1,S,iv,h2,h3.sub (((s.cons_cons _).cons_cons _).cons_cons _)⟩,h4,h5⟩
theorem GnH.base{S1:PH}(h:GnH S1 K x pu nx l k J)(hl:PH.le S0 S1):GnH S0 K x pu nx l k J:=by
 obtain⟨⟨h1,S,iv,h2,h3⟩,h4,h5⟩:=h;exact⟨⟨h1,S,iv,ww hl h2,h3⟩,h4,h5⟩
theorem z6a{t:TypeId}{ss:List SV}{f:Fm β}{vs:List Value}(h:GnH S0 K x pu nx l k J)(hv:ss.map (ev0 E)=vs)(hk:∀r K',PH.le K K'→GnH S0 K' x pu nx l k (bx r t vs::J)→den P X f (E++[pAt r]) K' L Q):den P X (.new t ss f) E K L Q:=by
 obtain⟨⟨h1,S,iv,h2,h3⟩,h4,h5⟩:=h;refine z31 h3 hv fun r K' hl h6=>hk r K' hl ⟨⟨h1,S,iv,h2,h6.perm ?_⟩,h4,h5⟩;exact(qA (l₁:=[_,_,_]) (l₂:=J)).symm
theorem zap{T:TypeId}{r off:Nat}{cs:List Value}{p:SV}{ss:List SV}{f:Fm β}{vs:List Value}(hp:pOf (ev0 E p)=some ⟨r,off,none⟩)(h:GnH S0 K x pu nx l k (bx r T cs::J))(hv:ss.map (ev0 E)=vs)(ho:∀v∈vs,oneC v=true)(hl:off+vs.length≤cs.length)
  (hk:∀K',GnH S0 K' x pu nx l k (bx r T (cs.take off++vs++cs.drop (off+vs.length))::J)→den P X f E K' L Q):den P X (.store p ss f) E K L Q:=by
 obtain⟨⟨h1,S,iv,h2,h3⟩,h4,h5⟩:=h;refine z06 hp (h3.perm (qA (l₁:=[_,_,_]) (l₂:=J))) hv ho hl fun K' h6=>hk K' ⟨⟨h1,S,iv,h2,h6.perm (qA (l₁:=[_,_,_]) (l₂:=J)).symm⟩,h4,h5⟩
theorem z7y{T ty:TypeId}{n:Nat}{ps:Array (Nat×Operand)}{args:List (Nat×VE)}{f:Fm β}(ns:List Int)(hT:Tryz.prog.underlying T=some (.slice 3))(hn:ns.length=n)(h0:n≠0)(hn2:n≤1000)(hi:∀a∈ns,InI a)(h:GnH S0 K x pu nx l k J)
  (hps:ps.toList.map (fun x=>(x.1,argEv E args x.2))=idxs 0 (ns.map (Value.int .i64))) (hk:∀v S1 K',PH.le S0 S1→SlR S1 ns v→GnH S1 K' x pu nx l k J→den zP X f (E++[v]) K' L Q):den zP X (.sem (.buildSlice T n ps) ty args (.sc .sl) [] f) E K L Q:=by
 obtain⟨⟨h1,S,iv,h2,h3⟩,h4,h5⟩:=h;refine z0k (α:=Int) (l:=ns) (b:=8) (ns.map (Value.int .i64)) hT z0e hn (by show n*1≠0;omega) (by show n*1≤2^24;omega) h3 hps ?_ z01 fun v K' h6 _ _=>?_
 .clear hn hps hk
  induction ns with
  |nil=>exact .nil
  |cons a l ih=>exact .cons (z09 (hi a (zms))) (ih fun b hb=>hi b (zmm _ hb))
 .obtain⟨S1,s1,l1,h7⟩:=h6.freeze;exact hk v S1 K' (ww h2 l1) s1 ⟨⟨h1,S1,iv,wx _,h7⟩,h4,h5⟩
end
def z3k(a yes:Int):List Int→List ItemR
 | []=>[]
 |n::ns=>[⟨4,⟨20,31,0,0,0⟩,0,8*n+2⟩,⟨2,⟨24,a,31,0,0⟩,yes,0⟩]++z3k a yes ns
theorem zrj(a yes:Int):∀(l m:List Int),z3k a yes (l++m)=z3k a yes l++z3k a yes m
 | [],m=>rfl
 |n::l,m=>by simp only[List.cons_append,z3k,zrj a yes l m,List.nil_append]
def tagL(a n:Int):List ItemR:=[⟨0,⟨16,28,a,0,7⟩,0,0⟩,⟨4,⟨20,31,0,0,0⟩,0,n⟩]
def z7h(yes:Int):List Int→List ItemR
 | []=>[]
 |n::ns=>[⟨4,⟨20,31,0,0,0⟩,0,n⟩,⟨2,⟨24,28,31,0,0⟩,yes,0⟩]++z7h yes ns
theorem zqu(yes:Int):∀(l m:List Int),z7h yes (l++m)=z7h yes l++z7h yes m
 | [],m=>rfl
 |n::l,m=>by simp only[List.cons_append,z7h,zqu yes l m,List.nil_append]
def z6r(a yes out:Int)(ns:List Int):List ItemR:=tagL a 1++[⟨2,⟨25,28,31,0,0⟩,out,0⟩,⟨0,⟨19,28,a,0,3⟩,0,0⟩,⟨0,⟨22,28,28,0,0⟩,0,0⟩,⟨0,⟨19,28,28,0,3⟩,0,0⟩,⟨0,⟨16,28,28,0,7⟩,0,0⟩]++z7h yes ns++[⟨1,⟨0,0,0,0,0⟩,out,0⟩]
section
variable {S0 K:PH}{x:FX}{pu nx:Int}{l l':List ItemR}{k k':Nat}{J:List Itm}
theorem takeM{ns:List Int}{i:Nat}{n:Int}(h:ns[i]?=some n):ns.take (i+1)=ns.take i++[n]:=by rw[q9,h];rfl
theorem zvw(a yes:Int)(hai:InI a)(hyi:InI yes)(r9 r11 r12:Nat)(ns:List Int)(v:Value)(hv:SlR S0 ns v)(hns:∀n∈ns,0≤n∧n≤1000)(hl:ns.length≤1000)(j9:bx r9 92 [pAt x.rf]∈J)(j11:bx r11 3 [vi a]∈J)(j12:bx r12 3 [vi yes]∈J)
  (h0:GnH S0 K x pu nx l (k+2*ns.length) J):Tri zP 211 #[v,pAt r9,pAt r11,pAt r12] K (GnQ S0 x pu nx (l++z3k a yes ns) k J):=by
 have hv0:=hv;obtain⟨vb,vc,rfl⟩:=hv.sl;refine zf8 [.slice vb ns.length vc,pAt r9,pAt r11,pAt r12] kr kr ?_;refine⟨fun m vs K'=>∃i:Nat,i+m=ns.length∧vs=[nI i]∧GnH S0 K' x pu nx (l++z3k a yes (ns.take i)) (k+2*m) J,⟨ns.length,0,om,rfl,by rw[List.take_zero,z3k,zan];exact h0⟩,?_⟩;rintro m vs K1 _ ⟨i,him,rfl,h1⟩;simp only[cns];refine⟨fun g=>?_,fun g=>?_⟩
 .simp only[wy,zdt]at g;obtain⟨n,hni⟩:∃n,ns[i]?=some n:=⟨_,zge om⟩;have hnb:=hns n (zmg hni);obtain⟨ri,q,d⟩:=z3s hv0 i n hni;obtain⟨j,rfl⟩:∃j,m=j+1:=⟨m-1,om⟩;refine⟨fun _=>q,[vi n],rfl,d _ h1.sh,[pAt x.rf],rfl,h1.jrow j9 0 1,fun _=>rfl,[pAt x.rg],rfl,h1.frow 0 1,fun _=>rfl,?_⟩;simp only[cns];refine z03 [vi (8*n+2)] (qb 34) (z70 n (8*n+2) rfl om _) rfl (z0w (h1.frow 0 1) (z0w (h1.jrow j9 0 1) z01)) fun K2 l2=>?_;have h2:=h1.le l2;simp only[cns];refine z05 (qb 57) ((h2.less (k':=k+(2*j+1)+1) om).to (z1r 31 (8*n+2) dC (inJ om om))) fun K3 h3=>?_;refine⟨[pAt x.rf],rfl,h3.jrow j9 0 1,fun _=>rfl,[pAt x.rg],rfl,h3.frow 0 1,fun _=>rfl,[vi a],rfl,h3.jrow j11 0 1,[vi yes],rfl,h3.jrow j12 0 1,?_⟩;simp only[cns];refine z05 (qb 59) ((h3.less (k':=k+2*j+1) om).to (If_em 24 a 31 yes dC hai dC hyi)) fun K4 h4=>?_;have hw:IntKind.i64.wrap ((i:Int)+1)=((i+1:Nat):Int):=by rw[w64 om om];rfl
  refine⟨_,z00,j,om,i+1,om,by simp only[wy,hw],?_⟩;rw[takeM hni,zrj];simpa only[z3k,zaa,cns]using h4
 .simp only[wy,zdf]at g;rw[ztl om]at h1;exact⟨rfl,h1.less om⟩
theorem zyj(a n:Int)(hai:InI a)(hni:InI n)(r9 r11:Nat)(j9:bx r9 92 [pAt x.rf]∈J)(j11:bx r11 3 [vi a]∈J)(h0:GnH S0 K x pu nx l (k+2) J):
  Tri zP 212 #[vi n,pAt r9,pAt r11] K (GnQ S0 x pu nx (l++tagL a n) k J):=by
 refine zf3 [vi n,pAt r9,pAt r11] kr kr ?_;refine⟨[pAt x.rf],rfl,h0.jrow j9 0 1,fun _=>rfl,[pAt x.rg],rfl,h0.frow 0 1,fun _=>rfl,[vi a],rfl,h0.jrow j11 0 1,?_⟩;simp only[cns];refine z05 (qb 97) (h0.to (z24 16 28 a 7 dC dC hai dC)) fun K1 h1=>?_;refine⟨[pAt x.rf],rfl,h1.jrow j9 0 1,fun _=>rfl,[pAt x.rg],rfl,h1.frow 0 1,fun _=>rfl,?_⟩;simp only[cns];refine z05 (qb 57) (h1.to (z1r 31 n dC hni)) fun K2 h2=>?_;exact⟨rfl,by simpa only[tagL,zaa,cns]using h2⟩
theorem zoo(a yes:Int)(hai:InI a)(hyi:InI yes)(r9 r11 r12 r16:Nat)(ns:List Int)(v:Value)(hv:SlR S0 ns v)(hns:∀n∈ns,0≤n∧n≤1000)(hl:ns.length≤1000)(j9:bx r9 92 [pAt x.rf]∈J)(j11:bx r11 3 [vi a]∈J)(j12:bx r12 3 [vi yes]∈J)
  (j16:bx r16 105 [.func (.func 212) #[] #[pAt r9,pAt r11]]∈J)
  (h0:GnH S0 K x pu nx l (k+(10+2*ns.length)) J):Tri zP 213 #[v,pAt r9,pAt r16,pAt r11,pAt r12] K (GnQ S0 x pu (nx+1) (l++z6r a yes nx ns) k J):=by
 have hv0:=hv;have hn0:=h0.n0;have hnk:=h0.nk;obtain⟨vb,vc,rfl⟩:=hv.sl;refine zez [.slice vb ns.length vc,pAt r9,pAt r16,pAt r11,pAt r12] kr kr ?_;generalize hN:ns.length=n at *;refine⟨[pAt x.rf],rfl,h0.jrow j9 0 1,fun _=>rfl,[pAt x.rg],rfl,h0.frow 0 1,?_⟩;simp only[cns];refine z2y (qb 42) (z4h (h0.less (k':=k+(8+2*n)+1) om)) (fun K1 h1=>z01) fun K1 h1=>?_;simp only[cns];refine⟨[.func (.func 212) #[] #[pAt r9,pAt r11]],rfl,h1.jrow j16 0 1,?_⟩;simp only[cns];refine z1m (f:=212) (first:=#[]) (caps:=#[pAt r9,pAt r11]) (by rfl) (qb 212) (zyj a 1 hai dC r9 r11 j9 j11 (h1.less (k':=k+(6+2*n)+2) om)) ?_;rintro _ K2 ⟨rfl,h2⟩;refine⟨_,[],rfl,rfl,rfl,z01,?_⟩;simp only[zan];refine⟨[pAt x.rf],rfl,h2.jrow j9 0 1,fun _=>rfl,[pAt x.rg],rfl,h2.frow 0 1,fun _=>rfl,?_⟩;simp only[cns];refine z05 (qb 59) ((h2.less (k':=k+(5+2*n)+1) om).to (If_em 25 28 31 nx dC dC dC (inJ om om))) fun K3 h3=>?_;refine⟨[pAt x.rf],rfl,h3.jrow j9 0 1,fun _=>rfl,[pAt x.rg],rfl,h3.frow 0 1,fun _=>rfl,[vi a],rfl,h3.jrow j11 0 1,?_⟩;simp only[cns];refine z05 (qb 97) ((h3.less (k':=k+(4+2*n)+1) om).to (z24 19 28 a 3 dC dC hai dC)) fun K4 h4=>?_;refine⟨[pAt x.rf],rfl,h4.jrow j9 0 1,fun _=>rfl,[pAt x.rg],rfl,h4.frow 0 1,fun _=>rfl,?_⟩;simp only[cns];refine z05 (qb 55) ((h4.less (k':=k+(3+2*n)+1) om).to (znu 28 28 0 dC dC dC)) fun K5 h5=>?_;refine⟨[pAt x.rf],rfl,h5.jrow j9 0 1,fun _=>rfl,[pAt x.rg],rfl,h5.frow 0 1,fun _=>rfl,?_⟩;simp only[cns];refine z05 (qb 97) ((h5.less (k':=k+(2+2*n)+1) om).to (z24 19 28 28 3 dC dC dC dC)) fun K6 h6=>?_;refine⟨[pAt x.rf],rfl,h6.jrow j9 0 1,fun _=>rfl,[pAt x.rg],rfl,h6.frow 0 1,fun _=>rfl,?_⟩;simp only[cns];refine z05 (qb 97) ((h6.less (k':=k+(1+2*n)+1) om).to (z24 16 28 28 7 dC dC dC dC)) fun K7 h7=>?_;generalize hl0:l++tagL a 1++[⟨2,⟨25,28,31,0,0⟩,nx,0⟩]++[⟨0,⟨19,28,a,0,3⟩,0,0⟩]++[⟨0,⟨22,28,28,0,0⟩,0,0⟩]++[⟨0,⟨19,28,28,0,3⟩,0,0⟩]++[⟨0,⟨16,28,28,0,7⟩,0,0⟩]=l0 at h7;refine⟨fun m vs K'=>∃i:Nat,i+m=n∧vs=[nI i]∧GnH S0 K' x pu (nx+1) (l0++z7h yes (ns.take i)) (k+(1+2*m)) J,⟨n,0,om,rfl,by rw[List.take_zero,z7h,zan];exact h7⟩,?_⟩;rintro m vs K8 _ ⟨i,him,rfl,h8⟩;simp only[cns];refine⟨fun g=>?_,fun g=>?_⟩
 .simp only[wy,zdt]at g;obtain⟨c,hni⟩:∃c,ns[i]?=some c:=⟨_,zge om⟩;have hnb:=hns c (zmg hni);obtain⟨ri,q,d⟩:=z3s hv0 i c hni;obtain⟨j,rfl⟩:∃j,m=j+1:=⟨m-1,om⟩;refine⟨fun _=>⟨q.1,q.2.1,by show(i:Int)<(n:Int);omega⟩,[vi c],rfl,d _ h8.sh,[pAt x.rf],rfl,h8.jrow j9 0 1,fun _=>rfl,[pAt x.rg],rfl,h8.frow 0 1,fun _=>rfl,?_⟩;simp only[cns];refine z05 (qb 57) ((h8.less (k':=k+(2+2*j)+1) om).to (z1r 31 c dC (inJ om om))) fun K9 h9=>?_;refine⟨[pAt x.rf],rfl,h9.jrow j9 0 1,fun _=>rfl,[pAt x.rg],rfl,h9.frow 0 1,fun _=>rfl,[vi yes],rfl,h9.jrow j12 0 1,?_⟩;simp only[cns];refine z05 (qb 59) ((h9.less (k':=k+(1+2*j)+1) om).to (If_em 24 28 31 yes dC dC dC hyi)) fun Ka ha=>?_;have hw:IntKind.i64.wrap ((i:Int)+1)=((i+1:Nat):Int):=by rw[w64 om om];rfl
  refine⟨_,z00,j,om,i+1,om,by simp only[wy,hw],?_⟩;rw[takeM hni,zqu];simpa only[z7h,zaa,cns]using ha
 .simp only[wy,zdf]at g;rw[ztl om]at h8;refine⟨[pAt x.rf],rfl,h8.jrow j9 0 1,fun _=>rfl,[pAt x.rg],rfl,h8.frow 0 1,fun _=>rfl,?_⟩;simp only[cns];refine z05 (qb 51) ((h8.less (k':=k+1) om).to (z5j nx (inJ om om))) fun K9 h9=>?_;refine⟨rfl,?_⟩;rw[←hl0]at h9;simpa only[z6r,zaa,cns]using h9
end
