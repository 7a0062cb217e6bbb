import Derived.Test.YtjhlndokjkeilaaGreatDoorMn
set_option linter.unusedSimpArgs false
set_option linter.unusedVariables false
set_option maxRecDepth 100000
namespace Go.Proofs.YtjhlndokjkeilaaGreatDoor.Vc
open Go
theorem up9 {k:Nat} (h:k < 9223372036854775807):IntKind.i64.wrap ((k:Int)+1)=((k+1:Nat):Int):=by rw [w64 (by omega) (by omega)];rfl
theorem down9 {k:Nat} (h:k < 9223372036854775807):IntKind.i64.wrap ((k:Int) - 1)=(k:Int) - 1:=by rw [w64 (by omega) (by omega)]
theorem zpe {env:List VarX} {j:Nat} {a:VarX} (h:env[j]?=some a) (s:List UInt8) (k:Int):cellF (env.take (j+1)) s k=if a.name=s then a.at_ else cellF (env.take j) s k:=by
 unfold cellF
 rw [List.take_add_one,h,List.foldl_append];rfl
theorem zgv (env:List VarX) (ev:Value) (s:List UInt8) (H:PH) (he:SlR H env ev):Gives Tryz.prog zhr [ev,txt s] H (.int .i64 (cellX env s)):=by
 have hmax:=he.max
 simp only [maxLen] at hmax
 obtain ⟨b,c,rfl⟩:=he.sl
 refine zfk [.slice b env.length c,txt s] (by kernel_rfl) (by kernel_rfl) ?_
 refine ⟨fun n vs K1=>∃j:Nat,j+n=env.length∧vs=[.int .i64 (cellF (env.take j) s (-1)),nI j]∧K1=H,⟨env.length,0,by omega,rfl,rfl⟩,?_⟩
 rintro n vs K1 _ ⟨j,hjn,rfl,rfl⟩
 simp only [List.cons_append,List.nil_append]
 refine ⟨fun g=>?_,fun g=>?_⟩
 ·simp only [ev0,ev,evV,List.cons_append,List.nil_append,List.getD_cons_zero,List.getD_cons_succ,List.map_cons,List.map_nil,iOf,bOf,sOf,pOf,slLen,z04,cmpI,arI,Value.ite_bool,z01,z03,z00,z02,zdt] at g
  obtain ⟨a,ha⟩:∃a,env[j]?=some a:=⟨_,zge (by omega)⟩
  obtain ⟨x1,_,cs,x2,x3⟩:=he.get ha
  obtain ⟨rfl,x4,x5⟩:=varX_iff.1 x2
  refine ⟨fun vs K2=>vs=[.int .i64 (cellF (env.take (j+1)) s (-1))]∧K1=K2,?_,fun _=>?_,[txt a.name],rfl,by simp only [ev0,ev,evV,List.cons_append,List.nil_append,List.getD_cons_zero,List.getD_cons_succ,List.map_cons,List.map_nil,iOf,bOf,sOf,pOf,slLen,z04,cmpI,arI,Value.ite_bool,z01,z03,z00,z02];exact z2o x3 0 1,fun g2=>?_,fun g2=>?_⟩
  ·rintro vs K2 _ ⟨rfl,rfl⟩
   exact ⟨_,z06,n - 1,by omega,j+1,by omega,by simp only [ev0,ev,evV,List.cons_append,List.nil_append,List.getD_cons_zero,List.getD_cons_succ,List.map_cons,List.map_nil,iOf,bOf,sOf,pOf,slLen,z04,cmpI,arI,Value.ite_bool,z01,z03,z00,z02,up9 (by omega:j < 9223372036854775807)],rfl⟩
  ·simp only [Chk.holds,ev0,ev,evV,List.cons_append,List.nil_append,List.getD_cons_zero,List.getD_cons_succ,List.map_cons,List.map_nil,iOf,bOf,sOf,pOf,slLen,z04,cmpI,arI,Value.ite_bool,z01,z03,z00,z02];exact ⟨x1,by omega,by omega⟩
  ·simp only [ev0,ev,evV,List.cons_append,List.nil_append,List.getD_cons_zero,List.getD_cons_succ,List.map_cons,List.map_nil,iOf,bOf,sOf,pOf,slLen,z04,cmpI,arI,Value.ite_bool,z01,z03,z00,z02,z09,zdt] at g2
   refine ⟨[.int .i64 a.at_],rfl,by simp only [ev0,ev,evV,List.cons_append,List.nil_append,List.getD_cons_zero,List.getD_cons_succ,List.map_cons,List.map_nil,iOf,bOf,sOf,pOf,slLen,z04,cmpI,arI,Value.ite_bool,z01,z03,z00,z02];exact z2o x3 1 1,_,z06,?_,rfl⟩
   rw [zpe ha,if_pos g2];simp only [ev0,ev,evV,List.cons_append,List.nil_append,List.getD_cons_zero,List.getD_cons_succ,List.map_cons,List.map_nil,iOf,bOf,sOf,pOf,slLen,z04,cmpI,arI,Value.ite_bool,z01,z03,z00,z02]
  ·simp only [ev0,ev,evV,List.cons_append,List.nil_append,List.getD_cons_zero,List.getD_cons_succ,List.map_cons,List.map_nil,iOf,bOf,sOf,pOf,slLen,z04,cmpI,arI,Value.ite_bool,z01,z03,z00,z02,z09,zdf] at g2
   refine ⟨_,z06,?_,rfl⟩
   rw [zpe ha,if_neg g2];simp only [ev0,ev,evV,List.cons_append,List.nil_append,List.getD_cons_zero,List.getD_cons_succ,List.map_cons,List.map_nil,iOf,bOf,sOf,pOf,slLen,z04,cmpI,arI,Value.ite_bool,z01,z03,z00,z02]
 ·simp only [ev0,ev,evV,List.cons_append,List.nil_append,List.getD_cons_zero,List.getD_cons_succ,List.map_cons,List.map_nil,iOf,bOf,sOf,pOf,slLen,z04,cmpI,arI,Value.ite_bool,z01,z03,z00,z02,zdf] at g
  refine ⟨?_,PH.le_refl _⟩
  rw [List.take_of_length_le (by omega)];rfl
theorem zjd (env:List VarX):∀(l:List (List UInt8)) (n:Nat),bindE env l n=env++(l.zipIdx n).map fun x=>⟨x.1,x.2⟩
 | [],n=>by simp [bindE]
 | s::l,n=>by
  rw [bindE,zjd]
  simp [List.zipIdx_cons]
theorem zyd (env:List VarX) {l:List (List UInt8)} {j n:Nat} {s:List UInt8} (h:l[j]?=some s):bindE env (l.take (j+1)) n=bindE env (l.take j) n++[⟨s,n+j⟩]:=by
 have hj:=(List.getElem?_eq_some_iff.1 h).1
 rw [zjd,zjd,List.take_add_one,h]
 simp only [Option.toList_some,List.zipIdx_append,List.map_append,List.append_assoc,List.zipIdx_singleton,List.map_cons,List.map_nil,List.length_take,Nat.min_eq_left (Nat.le_of_lt hj)]
 rw [Nat.add_comm];simp;omega
theorem zrl (env:List VarX) (l:List (List UInt8)) (n:Nat):(bindE env l n).length=env.length+l.length:=by
 rw [zjd];simp
section
variable {S K:PH} {mr hr:Nat} {s:MA} {J:List Itm}
def Z4m (mr hr:Nat) (J:List Itm) (S:PH) (s:MA) (env:List VarX) (names:List (List UInt8)) (vals:List VX) (e:Ending) (K':PH):Prop:=∃S' cv v,PH.le S S'∧Held S' K' (machA mr hr { s with cells:=s.cells++vals.take names.length,cv:=cv } J)∧SlR S' (bindE env names s.cells.length) v∧e=.returned v
theorem zks (h:Held S K (machA mr hr s J)) {env:List VarX} {names:List (List UInt8)} {vals:List VX} {ev nv vv:Value} (he:SlR S env ev) (hn:SlR S names nv) (hv:SlR S vals vv) (hlen:names.length≤vals.length) (h1:names.length≤1000000) (h2:env.length≤4294967296) (h3:s.cells.length≤4294967296) :
  Tri Tryz.prog z9n #[pAt mr,ev,nv,vv] K (Z4m mr hr J S s env names vals):=by
 obtain ⟨eb,ec,rfl⟩:=he.sl
 obtain ⟨nb,nc,rfl⟩:=hn.sl
 obtain ⟨vb,vc,rfl⟩:=hv.sl
 refine z8c [pAt mr,.slice eb env.length ec,.slice nb names.length nc,.slice vb vals.length vc] (by kernel_rfl) (by kernel_rfl) ?_
 refine z1k (α:=VarX) (b:=24) zuo zno h z05 fun v1 K1 h4 _ _=>?_
 simp only [List.cons_append,List.nil_append]
 refine z1o (b:=24) (more:=env) zuo zno (by kernel_rfl) (by kernel_rfl) h4 (he.srcS h4.sh) (by simp only [maxLen,List.length_nil];omega) (by simp only [List.length_nil];omega) fun v2 K2 h5 _=>⟨z05,?_⟩
 rw [List.nil_append] at h5
 simp only [List.cons_append,List.nil_append]
 refine ⟨fun n vs K3=>∃(j:Nat) (S3:PH) (u cv:Value),j+n=names.length∧vs=[u,nI j]∧PH.le S S3∧Held S3 K3 (orow 122 (bindE env (names.take j) s.cells.length) u::machA mr hr { s with cells:=s.cells++vals.take j,cv:=cv } J),⟨names.length,0,S,v2,s.cv,by omega,rfl,PH.le_refl _,?_⟩,?_⟩
 ·rw [List.take_zero,List.take_zero,List.append_nil];exact h5
 rintro n vs K3 _ ⟨j,S3,u,cv,hjn,rfl,l3,h6⟩
 obtain ⟨ub,uc,rfl⟩:=(h6.row (zms)).sl
 obtain ⟨cb,cc,rfl⟩:∃b c,cv=.slice b (s.cells++vals.take j).length c:=zp6 (s:={ s with cells:=s.cells++vals.take j,cv:=cv }) h6.tail
 simp only [List.cons_append,List.nil_append]
 refine ⟨fun g=>?_,fun g=>?_⟩
 ·simp only [ev0,ev,evV,List.cons_append,List.nil_append,List.getD_cons_zero,List.getD_cons_succ,List.map_cons,List.map_nil,iOf,bOf,sOf,pOf,slLen,z04,cmpI,arI,Value.ite_bool,z01,z03,z00,z02,zdt] at g
  obtain ⟨a,ha⟩:∃a,names[j]?=some a:=⟨_,zge (by omega)⟩
  obtain ⟨y,hy⟩:∃y,vals[j]?=some y:=⟨_,zge (by omega)⟩
  obtain ⟨x1,_,xs,x2,x3⟩:=(hn.le l3).get ha
  obtain ⟨rfl,x4⟩:=z5r x2
  obtain ⟨y1,_,ys,y2,y3⟩:=(hv.le l3).get hy
  obtain ⟨rfl,yf⟩:=z2q y2
  have hcl:(s.cells++vals.take j).length=s.cells.length+j:=by rw [zla,List.length_take,Nat.min_eq_left (by omega)]
  have hl1:rowAt K3 (some ⟨mr,1,none⟩) [.slice cb (s.cells++vals.take j).length cc]:=mA_ld h6.tail rfl
  refine ⟨fun _=>by simp [Chk.holds,ev0,ev,evV,List.cons_append,List.nil_append,List.getD_cons_zero,List.getD_cons_succ,List.map_cons,List.map_nil,iOf,bOf,sOf,pOf,slLen,z04,cmpI,arI,Value.ite_bool,z01,z03,z00,z02],[.slice cb (s.cells++vals.take j).length cc],rfl,by simp only [ev0,ev,evV,List.cons_append,List.nil_append,List.getD_cons_zero,List.getD_cons_succ,List.map_cons,List.map_nil,iOf,bOf,sOf,pOf,slLen,z04,cmpI,arI,Value.ite_bool,z01,z03,z00,z02];exact hl1,fun _=>?_,valVs y,rfl,by simp only [ev0,ev,evV,List.cons_append,List.nil_append,List.getD_cons_zero,List.getD_cons_succ,List.map_cons,List.map_nil,iOf,bOf,sOf,pOf,slLen,z04,cmpI,arI,Value.ite_bool,z01,z03,z00,z02];exact z0b h6.sh y3,?_⟩
  ·simp only [Chk.holds,ev0,ev,evV,List.cons_append,List.nil_append,List.getD_cons_zero,List.getD_cons_succ,List.map_cons,List.map_nil,iOf,bOf,sOf,pOf,slLen,z04,cmpI,arI,Value.ite_bool,z01,z03,z00,z02];exact ⟨y1,by omega,by omega⟩
  simp only [List.cons_append,List.nil_append]
  have h7:Held S3 K3 (orow 73 (s.cells++vals.take j) (.slice cb (s.cells++vals.take j).length cc)::orow 122 (bindE env (names.take j) s.cells.length) (.slice ub (bindE env (names.take j) s.cells.length).length uc)::bxA mr hr { s with cells:=s.cells++vals.take j,cv:=.slice cb (s.cells++vals.take j).length cc }::rT s::rV s::rQ s::rU s::(heapI hr s.L s.thv++J)):=h6.to4
  refine z16 (b:=32) (more:=[y]) [valV y] z4x z2v rfl (by decide) (by decide) h7 (by kernel_rfl) (.cons (zin yf) .nil) (z1x (by simp only [ev0,ev,evV,List.cons_append,List.nil_append,List.getD_cons_zero,List.getD_cons_succ,List.map_cons,List.map_nil,iOf,bOf,sOf,pOf,slLen,z04,cmpI,arI,Value.ite_bool,z01,z03,z00,z02];exact hl1)) (fun u=>by kernel_rfl) (fun u=>by kernel_rfl)
   (by simp only [maxLen,zlc,List.length_nil];omega) (by simp only [zlc,List.length_nil];omega) fun u6 v6 S5 K5 l5 h8=>⟨z05,?_⟩
  simp only [List.cons_append,List.nil_append]
  obtain ⟨b6,c6,hv6⟩:=(h8.row (zms)).sl
  refine z0u (off:=1) (vs:=[v6]) (by simp only [ev0,ev,evV,List.cons_append,List.nil_append,List.getD_cons_zero,List.getD_cons_succ,List.map_cons,List.map_nil,iOf,bOf,sOf,pOf,slLen,z04,cmpI,arI,Value.ite_bool,z01,z03,z00,z02];rfl) h8.to2 rfl (slOne ⟨_,_,_,hv6⟩) (by simp [MA.cs]) fun K6 h9=>?_
  have hc9:s.cells++vals.take j++[y]=s.cells++vals.take (j+1):=by rw [List.take_add_one,hy,List.append_assoc];rfl
  rw [hc9] at h9
  have hcl2:(s.cells++vals.take (j+1)).length=s.cells.length+j+1:=by rw [zla,List.length_take,Nat.min_eq_left (by omega)];omega
  have hv6':v6=.slice b6 (s.cells++vals.take (j+1)).length c6:=by rw [hv6,hc9]
  have h10:Held S5 K6 (orow 122 (bindE env (names.take j) s.cells.length) (.slice ub (bindE env (names.take j) s.cells.length).length uc)::machA mr hr { s with cells:=s.cells++vals.take (j+1),cv:=v6 } J):=
   h9.to2.perm (List.Perm.cons _ (List.Perm.cons _ (List.perm_middle (l₁:=[rT s,rV s])).symm))
  refine ⟨fun _=>?_,[txt a],rfl,by simp only [ev0,ev,evV,List.cons_append,List.nil_append,List.getD_cons_zero,List.getD_cons_succ,List.map_cons,List.map_nil,iOf,bOf,sOf,pOf,slLen,z04,cmpI,arI,Value.ite_bool,z01,z03,z00,z02];exact z0b (PH.le_trans l5 h10.sh) x3,[v6],by rw [hv6];rfl,by simp only [ev0,ev,evV,List.cons_append,List.nil_append,List.getD_cons_zero,List.getD_cons_succ,List.map_cons,List.map_nil,iOf,bOf,sOf,pOf,slLen,z04,cmpI,arI,Value.ite_bool,z01,z03,z00,z02];exact mA_ld h10.tail rfl,?_⟩
  ·simp only [Chk.holds,ev0,ev,evV,List.cons_append,List.nil_append,List.getD_cons_zero,List.getD_cons_succ,List.map_cons,List.map_nil,iOf,bOf,sOf,pOf,slLen,z04,cmpI,arI,Value.ite_bool,z01,z03,z00,z02];exact ⟨x1,by omega,by omega⟩
  simp only [List.cons_append,List.nil_append]
  have hw:IntKind.i64.wrap (((s.cells++vals.take (j+1)).length:Int) - 1)=((s.cells.length+j:Nat):Int):=by rw [hcl2,w64 (by omega) (by omega)];omega
  have hbl:=zrl env (names.take j) s.cells.length
  rw [List.length_take,Nat.min_eq_left (by omega)] at hbl
  refine z16 (b:=24) (more:=[(⟨a,((s.cells.length+j:Nat):Int)⟩:VarX)]) [.agg #[txt a,.int .i64 ((s.cells.length+j:Nat):Int)]] zuo zno rfl (by decide) (by decide) h10 ?_ (.cons (varX_iff.2 ⟨rfl,x4,by unfold InI;simp only;omega⟩) .nil) z05 (fun u=>by kernel_rfl) (fun u=>by kernel_rfl)
   (by simp only [maxLen,zlc,List.length_nil];omega) (by simp only [zlc,List.length_nil];omega) fun u7 v7 S7 K7 l7 h11=>⟨z05,?_⟩
  ·rw [hv6',←hw];kernel_rfl
  refine ⟨_,z06,n - 1,by omega,j+1,S7,v7,v6,by omega,?_,PH.le_trans l3 (PH.le_trans l5 l7),?_⟩
  ·simp only [ev0,ev,evV,List.cons_append,List.nil_append,List.getD_cons_zero,List.getD_cons_succ,List.map_cons,List.map_nil,iOf,bOf,sOf,pOf,slLen,z04,cmpI,arI,Value.ite_bool,z01,z03,z00,z02,up9 (by omega:j < 9223372036854775807)]
  ·rw [zyd env ha];exact h11
 ·simp only [ev0,ev,evV,List.cons_append,List.nil_append,List.getD_cons_zero,List.getD_cons_succ,List.map_cons,List.map_nil,iOf,bOf,sOf,pOf,slLen,z04,cmpI,arI,Value.ite_bool,z01,z03,z00,z02,zdf] at g
  obtain ⟨S4,hs4,l4,h7⟩:=h6.freeze
  have hj:j=names.length:=by omega
  subst hj
  rw [List.take_length] at hs4
  exact ⟨S4,.slice cb (s.cells++vals.take names.length).length cc,_,PH.le_trans l3 l4,h7,hs4,by simp only [ev0,ev,evV,List.cons_append,List.nil_append,List.getD_cons_zero,List.getD_cons_succ,List.map_cons,List.map_nil,iOf,bOf,sOf,pOf,slLen,z04,cmpI,arI,Value.ite_bool,z01,z03,z00,z02,List.take_length]⟩
theorem z2x (m:AX) (a b:List TdX):(m.push a).push b=m.push (a++b):=by unfold AX.push;simp only [List.append_assoc]
theorem Z2c (m:AX):m.push []=m:=by unfold AX.push;simp only [List.append_nil]
theorem Z0u {l:List Xp} {k:Nat} {a:Xp} (h:l[k]?=some a) (env:List VarX):allT (l.drop k) env=allT (l.drop (k+1)) env++[tdE a env]:=by
 obtain ⟨hk,he⟩:=List.getElem?_eq_some_iff.1 h
 rw [List.drop_eq_getElem_cons hk,he]
 simp [allT]
theorem Z1j (l:List Xp) (env:List VarX):(allT l env).length=l.length:=by simp [allT]
theorem znv (H:PH):exZ.Rep H [.int .i64 0,txt [],.slice none 0 0,.int .i64 0,.int .i64 0,txt [],.slice none 0 0,.slice none 0 0]:=by
 refine Xp.Rep_iff.2 ⟨.slice none 0 0,.slice none 0 0,.slice none 0 0,rfl,by decide,by simp [exZ,Xp.name],SlR.mk_iff.2 ⟨Nat.zero_le _,.inl ⟨rfl,rfl⟩⟩,?_,SlR.mk_iff.2 ⟨Nat.zero_le _,.inl ⟨rfl,rfl⟩⟩⟩
 exact z2u (k:=0) (n:=0) (t:=[]) (by decide) (by decide) (by decide)
theorem zlu (H:PH):SlR H ([]:List VarX) (.slice none 0 0):=SlR.mk_iff.2 ⟨Nat.zero_le _,.inl ⟨rfl,rfl⟩⟩
theorem z2e (h:Held S K (machA mr hr s J)) (hf:AFit s) {e:Xp} {env:List VarX} {nb db kb eb:Option Addr} {nc dc kc ec:Nat} (h2:ExV S e nb db kb nc dc kc) (h3:SlR S env (.slice eb env.length ec)) (hl:s.todo.length≤8589934592) :
  Tri Tryz.prog z1h #[pAt mr,.agg #[.int .i64 0,.int .i64 e.kind,txt e.name,.slice nb e.names.length nc,.int .i64 e.const.kind,.int .i64 e.const.int,txt e.const.text,.slice db e.const.list.length dc,.slice kb e.kids.length kc,.slice eb env.length ec,.int .i64 0]] K (ATo mr hr J S (s.x.push [tdE e env]) vNil):=
 zls (es:=exVs e nb db kb nc dc kc) (ev:=.slice eb env.length ec) h hf (t:=tdE e env) (show InI 0 by decide) h2.rep h3 (show InI 0 by decide) hl
theorem zfv (h:Held S K (machA mr hr s J)) (hf:AFit s) {act at_:Int} (h1:InI act) (h4:InI at_) (hl:s.todo.length≤8589934592) :
  Tri Tryz.prog z1h #[pAt mr,.agg #[.int .i64 act,.int .i64 0,txt [],.slice none 0 0,.int .i64 0,.int .i64 0,txt [],.slice none 0 0,.slice none 0 0,.slice none 0 0,.int .i64 at_]] K (ATo mr hr J S (s.x.push [tdA act at_]) vNil):=
 zls (es:=[.int .i64 0,txt [],.slice none 0 0,.int .i64 0,.int .i64 0,txt [],.slice none 0 0,.slice none 0 0]) (ev:=.slice none 0 0) h hf (t:=tdA act at_) h1 (znv S) (zlu S) h4 hl
theorem zlb (h:Held S K (machA mr hr s J)) (hf:AFit s) {act at_:Int} {e:Xp} {env:List VarX} {nb db kb eb:Option Addr} {nc dc kc ec:Nat} (h1:InI act) (h2:ExV S e nb db kb nc dc kc) (h3:SlR S env (.slice eb env.length ec)) (h4:InI at_) (hl:s.todo.length≤8589934592) :
  Tri Tryz.prog z1h #[pAt mr,.agg #[.int .i64 act,.int .i64 e.kind,txt e.name,.slice nb e.names.length nc,.int .i64 e.const.kind,.int .i64 e.const.int,txt e.const.text,.slice db e.const.list.length dc,.slice kb e.kids.length kc,.slice eb env.length ec,.int .i64 at_]] K (ATo mr hr J S (s.x.push [⟨act,e,env,at_⟩]) vNil):=
 zls (es:=exVs e nb db kb nc dc kc) (ev:=.slice eb env.length ec) h hf (t:=⟨act,e,env,at_⟩) h1 h2.rep h3 h4 hl
theorem zo3 (h:Held S K (machA mr hr s J)) (hf:AFit s) {l:List Xp} {env:List VarX} {lv ev:Value} (hl:SlR S l lv) (he:SlR S env ev) (h1:l.length≤1000000) (h2:s.todo.length≤8588000000) :
  Tri Tryz.prog za8 #[pAt mr,lv,ev] K (ATo mr hr J S (s.x.push (allT l env)) vNil):=by
 obtain ⟨lb,lc,rfl⟩:=hl.sl
 obtain ⟨eb,ec,rfl⟩:=he.sl
 refine z8v [pAt mr,.slice lb l.length lc,.slice eb env.length ec] (by kernel_rfl) (by kernel_rfl) ?_
 refine ⟨fun n vs K3=>∃(S3:PH) (s3:MA),vs=[.int .i64 ((n:Int) - 1)]∧n≤l.length∧PH.le S S3∧Held S3 K3 (machA mr hr s3 J)∧AFit s3∧s3.x=s.x.push (allT (l.drop n) env),⟨l.length,S,s,?_,Nat.le_refl _,PH.le_refl _,h,hf,?_⟩,?_⟩
 ·simp only [ev0,ev,evV,List.cons_append,List.nil_append,List.getD_cons_zero,List.getD_cons_succ,List.map_cons,List.map_nil,iOf,bOf,sOf,pOf,slLen,z04,cmpI,arI,Value.ite_bool,z01,z03,z00,z02,down9 (by omega:l.length < 9223372036854775807)]
 ·rw [List.drop_length];exact (Z2c _).symm
 rintro n vs K3 _ ⟨S3,s3,rfl,hn,l3,h3,f3,hx3⟩
 simp only [List.cons_append,List.nil_append]
 refine ⟨fun g=>?_,fun g=>?_⟩
 ·simp only [ev0,ev,evV,List.cons_append,List.nil_append,List.getD_cons_zero,List.getD_cons_succ,List.map_cons,List.map_nil,iOf,bOf,sOf,pOf,slLen,z04,cmpI,arI,Value.ite_bool,z01,z03,z00,z02,zdt] at g
  obtain ⟨k,rfl⟩:∃k,n=k+1:=⟨n - 1,by omega⟩
  have hk1:(((k+1:Nat):Int) - 1)=(k:Int):=by omega
  rw [hk1]
  obtain ⟨a,ha⟩:∃a,l[k]?=some a:=⟨_,zge (by omega)⟩
  obtain ⟨x1,_,xs,x2,x3⟩:=(hl.le l3).get ha
  have x2':=x2
  obtain ⟨nb,db,kb,nc,dc,kc,rfl,hx⟩:=Xp.Rep.open x2'
  have htl:s3.todo.length=s.todo.length+(l.length - (k+1)):=by
   have:=congrArg (fun m:AX=>m.todo.length) hx3
   simp only [AX.push,zla,Z1j,List.length_drop] at this
   exact this
  refine ⟨fun _=>?_,exVs a nb db kb nc dc kc,Xp.Rep.tags x2,by simp only [ev0,ev,evV,List.cons_append,List.nil_append,List.getD_cons_zero,List.getD_cons_succ,List.map_cons,List.map_nil,iOf,bOf,sOf,pOf,slLen,z04,cmpI,arI,Value.ite_bool,z01,z03,z00,z02];exact z0b h3.sh x3,?_⟩
  ·simp only [Chk.holds,ev0,ev,evV,List.cons_append,List.nil_append,List.getD_cons_zero,List.getD_cons_succ,List.map_cons,List.map_nil,iOf,bOf,sOf,pOf,slLen,z04,cmpI,arI,Value.ite_bool,z01,z03,z00,z02];exact ⟨x1,by omega,by omega⟩
  simp only [List.cons_append,List.nil_append]
  refine z08 z0a (z2e (e:=a) (env:=env) h3 f3 hx (he.le l3) (by omega)) ?_
  rintro x K4 ⟨S4,s4,l4,h4,f4,hx4,rfl⟩
  refine ⟨_,[],rfl,rfl,rfl,z05,?_⟩
  refine ⟨_,z06,k,by omega,S4,s4,?_,by omega,PH.le_trans l3 l4,h4,f4,?_⟩
  ·simp only [ev0,ev,evV,List.cons_append,List.nil_append,List.getD_cons_zero,List.getD_cons_succ,List.map_cons,List.map_nil,iOf,bOf,sOf,pOf,slLen,z04,cmpI,arI,Value.ite_bool,z01,z03,z00,z02,down9 (by omega:k < 9223372036854775807)]
  ·rw [hx4,hx3,z2x,Z0u ha]
 ·simp only [ev0,ev,evV,List.cons_append,List.nil_append,List.getD_cons_zero,List.getD_cons_succ,List.map_cons,List.map_nil,iOf,bOf,sOf,pOf,slLen,z04,cmpI,arI,Value.ite_bool,z01,z03,z00,z02,zdf] at g
  have hn0:n=0:=by omega
  subst hn0
  exact ⟨S3,s3,l3,h3,f3,hx3,rfl⟩
end
def turnE (lam:Bool) (inner:List VarX) (x:List UInt8×Xp):List TdX:=if decide (x.2.kind=5)=lam then [tdA 7 (cellX inner x.1),tdE x.2 inner] else []
theorem zpk {l:List (List UInt8×Xp)} {k:Nat} {a:List UInt8×Xp} (h:l[k]?=some a) (lam:Bool) (inner:List VarX):turnT lam inner (l.drop k)=turnT lam inner (l.drop (k+1))++turnE lam inner a:=by
 obtain ⟨hk,he⟩:=List.getElem?_eq_some_iff.1 h
 rw [List.drop_eq_getElem_cons hk,he]
 simp [turnT,turnE]
theorem zl1 (lam:Bool) (inner:List VarX) (l:List (List UInt8×Xp)):(turnT lam inner l).length≤2 * l.length:=by
 unfold turnT
 have hl:l.length=l.reverse.length:=List.length_reverse.symm
 rw [hl]
 generalize l.reverse=r
 induction r with
 | nil=>simp
 | cons a r ih=>
  rw [List.flatMap_cons,zla,zlc]
  have:(if decide (a.2.kind=5)=lam then [tdA 7 (cellX inner a.1),tdE a.2 inner] else []).length≤2:=by split<;>simp
  omega
theorem zsy (s:List UInt8):∀(env:List VarX) (k:Int),InI k→(∀v∈env,InI v.at_)→InI (cellF env s k)
 | [],k,h,_=>h
 | v::env,k,h,ha=>by
  show InI (cellF env s (if v.name=s then v.at_ else k))
  refine zsy s env _ ?_ fun x hx=>ha x (zmm _ hx)
  split
  ·exact ha v (zms)
  ·exact h
theorem Z4f {H:PH} {env:List VarX} {v:Value} (h:SlR H env v):∀x∈env,InI x.at_:=fun x hx=>by
 obtain ⟨i,hi⟩:=List.getElem?_of_mem hx
 obtain ⟨_,_,cs,h1,_⟩:=h.get hi
 exact (varX_iff.1 h1).2.2
theorem ztn {H:PH} {env:List VarX} {v:Value} (h:SlR H env v) (s:List UInt8):InI (cellX env s):=zsy s env (-1) (by decide) (Z4f h)
section
variable {S K:PH} {mr hr:Nat} {s:MA} {J:List Itm}
def recT (e:Xp) (inner:List VarX) (b:Xp):List TdX:=tdE b inner::(turnT false inner (e.names.zip e.kids)++turnT true inner (e.names.zip e.kids))
theorem Z1m (h:Held S K (machA mr hr s J)) (hf:AFit s) {e:Xp} {nb db kb eb:Option Addr} {nc dc kc ec:Nat} {env:List VarX} (hx:ExV S e nb db kb nc dc kc) (he:SlR S env (.slice eb env.length ec)) (h1:e.kids.length≤1000000) (h1n:e.names.length≤1000000) (h2:env.length≤4294967296) (h3:s.cells.length≤4294967296) (h4:s.todo.length≤8580000000) {m':AX} (hm:s.x.recA e env=some m') :
  Tri Tryz.prog za0 #[pAt mr,.agg (exVs e nb db kb nc dc kc).toArray,.slice eb env.length ec] K (ATo mr hr J S m' vNil):=by
 obtain ⟨b,hb⟩:∃b,e.kids[e.names.length]?=some b:=by
  unfold AX.recA at hm
  cases hk:e.kids[e.names.length]? with
  | none=>rw [hk] at hm;cases hm
  | some b=>exact ⟨b,rfl⟩
 have hbl:=(List.getElem?_eq_some_iff.1 hb).1
 refine z96 (pAt mr::(exVs e nb db kb nc dc kc++[.slice eb env.length ec])) (by kernel_rfl) (by kernel_rfl) ?_
 refine z1k (α:=VX) (b:=32) z4x z2v h z05 fun v1 K1 h5 _ _=>?_
 simp only [List.cons_append,List.nil_append]
 refine ⟨fun n vs K3=>∃(j:Nat) (S3:PH) (u:Value),j+n=e.names.length∧vs=[u,nI j]∧PH.le S S3∧Held S3 K3 (orow 73 (List.replicate j (⟨7,0,[]⟩:VX)) u::machA mr hr s J),⟨e.names.length,0,S,v1,by omega,rfl,PH.le_refl _,h5⟩,?_⟩
 rintro n vs K3 _ ⟨j,S3,u,hjn,rfl,l3,h6⟩
 obtain ⟨ub,uc,rfl⟩:=(h6.row (zms)).sl
 simp only [List.cons_append,List.nil_append]
 refine ⟨fun g=>?_,fun g=>?_⟩
 ·simp only [ev0,ev,evV,List.cons_append,List.nil_append,List.getD_cons_zero,List.getD_cons_succ,List.map_cons,List.map_nil,iOf,bOf,sOf,pOf,slLen,z04,cmpI,arI,Value.ite_bool,z01,z03,z00,z02,zdt] at g
  refine z16 (b:=32) (more:=[(⟨7,0,[]⟩:VX)]) [.agg #[.int .i64 7,.int .i64 0,txt []]] z4x z2v rfl (by decide) (by decide) h6 (by kernel_rfl) (.cons (zin (v:=⟨7,0,[]⟩) (by unfold VFit InI maxLen;simp)) .nil) z05 (fun u=>by kernel_rfl) (fun u=>by kernel_rfl)
   (by simp only [maxLen,zlc,List.length_nil,List.length_replicate];omega) (by simp only [zlc,List.length_nil,List.length_replicate];omega) fun u7 v7 S7 K7 l7 h7=>⟨z05,?_⟩
  refine ⟨_,z06,n - 1,by omega,j+1,S7,v7,by omega,?_,PH.le_trans l3 l7,?_⟩
  ·simp only [ev0,ev,evV,List.cons_append,List.nil_append,List.getD_cons_zero,List.getD_cons_succ,List.map_cons,List.map_nil,iOf,bOf,sOf,pOf,slLen,z04,cmpI,arI,Value.ite_bool,z01,z03,z00,z02,up9 (by omega:j < 9223372036854775807)]
  ·rw [←zso];exact h7
 simp only [ev0,ev,evV,List.cons_append,List.nil_append,List.getD_cons_zero,List.getD_cons_succ,List.map_cons,List.map_nil,iOf,bOf,sOf,pOf,slLen,z04,cmpI,arI,Value.ite_bool,z01,z03,z00,z02,zdf] at g
 have hj:j=e.names.length:=by omega
 subst hj
 obtain ⟨S4,hs4,l4,h7⟩:=h6.freeze
 have l14:=PH.le_trans l3 l4
 refine z08 z25 (zks h7 (he.le l14) (hx.names.le l14) hs4 (by rw [List.length_replicate];exact Nat.le_refl _) h1n h2 h3) ?_
 rintro x K5 ⟨S5,cv5,v5,l5,h8,hs5,rfl⟩
 have l15:=PH.le_trans l14 l5
 rw [List.take_of_length_le (by rw [List.length_replicate];exact Nat.le_refl _)] at h8
 obtain ⟨inner,hin⟩:∃inner,inner=bindE env e.names s.cells.length:=⟨_,rfl⟩
 rw [←hin] at hs5
 have hinl:inner.length=env.length+e.names.length:=by rw [hin,zrl]
 obtain ⟨ib,ic,rfl⟩:=hs5.sl
 obtain ⟨m1,hm1⟩:∃m1:AX,m1=(s.x.bind env e.names (List.replicate e.names.length ⟨7,0,[]⟩)).1:=⟨_,rfl⟩
 have hm':m'=m1.push (recT e inner b):=by
  unfold AX.recA at hm
  rw [hb] at hm
  simp only [Option.some.injEq] at hm
  rw [←hm,hm1,hin];rfl
 obtain ⟨s5,hs5e⟩:∃s5:MA,s5={ s with cells:=s.cells++List.replicate e.names.length ⟨7,0,[]⟩,cv:=cv5 }:=⟨_,rfl⟩
 rw [←hs5e] at h8
 have hx5:s5.x=m1:=by rw [hs5e,hm1];unfold MA.x AX.bind;simp only;rw [List.take_of_length_le (by rw [List.length_replicate];exact Nat.le_refl _)]
 have f5:AFit s5:=by rw [hs5e];exact hf
 have ht5:s5.todo=s.todo:=by rw [hs5e]
 refine ⟨_,[.slice ib inner.length ic],rfl,rfl,rfl,z05,?_⟩
 simp only [List.cons_append,List.nil_append]
 obtain ⟨x1,_,xs,x2,x3⟩:=(hx.kids.le l15).get hb
 have x2':=x2
 obtain ⟨nb',db',kb',nc',dc',kc',rfl,hxb⟩:=Xp.Rep.open x2'
 refine ⟨fun _=>?_,exVs b nb' db' kb' nc' dc' kc',Xp.Rep.tags x2,by simp only [ev0,ev,evV,List.cons_append,List.nil_append,List.getD_cons_zero,List.getD_cons_succ,List.map_cons,List.map_nil,iOf,bOf,sOf,pOf,slLen,z04,cmpI,arI,Value.ite_bool,z01,z03,z00,z02];exact z0b h8.sh x3,?_⟩
 ·simp only [Chk.holds,ev0,ev,evV,List.cons_append,List.nil_append,List.getD_cons_zero,List.getD_cons_succ,List.map_cons,List.map_nil,iOf,bOf,sOf,pOf,slLen,z04,cmpI,arI,Value.ite_bool,z01,z03,z00,z02];exact ⟨x1,by omega,by omega⟩
 simp only [List.cons_append,List.nil_append]
 refine z08 z0a (z2e (e:=b) (env:=inner) h8 f5 hxb hs5 (by rw [ht5];omega)) ?_
 rintro x K6 ⟨S6,s6,l6,h9,f6,hx6,rfl⟩
 have l16:=PH.le_trans l15 l6
 have hs6:=hs5.le l6
 refine ⟨_,[],rfl,rfl,rfl,z05,?_⟩
 simp only [List.append_nil]
 have hzl:(e.names.zip e.kids).length=e.names.length:=by rw [List.length_zip];omega
 have htot:∀{m:AX} {T:List TdX},m=m1.push T→m.todo.length=s.todo.length+T.length:=fun h=>by
  rw [h];unfold AX.push;simp only [zla];rw [←hx5];show s5.todo.length+_=_;rw [ht5]
 obtain ⟨TT,hTT⟩:∃TT:Nat→List TdX,TT=fun n=>tdE b inner::(if n=2 then [] else if n=1 then turnT false inner (e.names.zip e.kids) else turnT false inner (e.names.zip e.kids)++turnT true inner (e.names.zip e.kids)):=⟨_,rfl⟩
 have hTl:∀n,(TT n).length≤1+4 * e.names.length:=fun n=>by
  have a1:=zl1 false inner (e.names.zip e.kids)
  have a2:=zl1 true inner (e.names.zip e.kids)
  rw [hzl] at a1 a2
  rw [hTT];simp only [zlc]
  split
  ·simp
  ·split
   ·omega
   ·rw [zla];omega
 refine ⟨fun n vs K7=>∃(S7:PH) (s7:MA),vs=[.int .i64 ((n:Int) - 1)]∧n≤2∧PH.le S6 S7∧Held S7 K7 (machA mr hr s7 J)∧AFit s7∧s7.x=m1.push (TT n),⟨2,S6,s6,rfl,by omega,PH.le_refl _,h9,f6,by rw [hx6,hx5,hTT];rfl⟩,?_⟩
 rintro n vs K7 _ ⟨S7,s7,rfl,hn2,l7,h10,f7,hx7⟩
 simp only [List.cons_append,List.nil_append]
 refine ⟨fun g=>?_,fun g=>?_⟩
 rotate_left
 ·simp only [ev0,ev,evV,List.cons_append,List.nil_append,List.getD_cons_zero,List.getD_cons_succ,List.map_cons,List.map_nil,iOf,bOf,sOf,pOf,slLen,z04,cmpI,arI,Value.ite_bool,z01,z03,z00,z02,zdf] at g
  have hn0:n=0:=by omega
  subst hn0
  refine ⟨S7,s7,PH.le_trans l16 l7,h10,f7,?_,rfl⟩
  rw [hx7,hm',hTT];rfl
 simp only [ev0,ev,evV,List.cons_append,List.nil_append,List.getD_cons_zero,List.getD_cons_succ,List.map_cons,List.map_nil,iOf,bOf,sOf,pOf,slLen,z04,cmpI,arI,Value.ite_bool,z01,z03,z00,z02,zdt] at g
 obtain ⟨t,rfl⟩:∃t,n=t+1:=⟨n - 1,by omega⟩
 have ht1:(((t+1:Nat):Int) - 1)=(t:Int):=by omega
 rw [ht1]
 obtain ⟨lam,hlam⟩:∃lam:Bool,lam=decide (t=0):=⟨_,rfl⟩
 have hTT2:TT t=TT (t+1)++turnT lam inner (e.names.zip e.kids):=by
  rw [hTT,hlam]
  have:t=0∨t=1:=by omega
  rcases this with rfl | rfl<;>simp
 refine ⟨fun n vs K8=>∃(S8:PH) (s8:MA),vs=[.int .i64 ((n:Int) - 1)]∧n≤e.names.length∧PH.le S6 S8∧Held S8 K8 (machA mr hr s8 J)∧AFit s8∧s8.x=m1.push (TT (t+1)++turnT lam inner ((e.names.zip e.kids).drop n)),⟨e.names.length,S7,s7,?_,Nat.le_refl _,l7,h10,f7,?_⟩,?_⟩
 ·simp only [ev0,ev,evV,List.cons_append,List.nil_append,List.getD_cons_zero,List.getD_cons_succ,List.map_cons,List.map_nil,iOf,bOf,sOf,pOf,slLen,z04,cmpI,arI,Value.ite_bool,z01,z03,z00,z02,down9 (by omega:e.names.length < 9223372036854775807)]
 ·rw [hx7,List.drop_of_length_le (by omega)];simp [turnT]
 rintro n vs K8 _ ⟨S8,s8,rfl,hn,l8,h11,f8,hx8⟩
 simp only [List.cons_append,List.nil_append]
 refine ⟨fun g2=>?_,fun g2=>?_⟩
 rotate_left
 ·simp only [ev0,ev,evV,List.cons_append,List.nil_append,List.getD_cons_zero,List.getD_cons_succ,List.map_cons,List.map_nil,iOf,bOf,sOf,pOf,slLen,z04,cmpI,arI,Value.ite_bool,z01,z03,z00,z02,zdf] at g2
  have hn0:n=0:=by omega
  subst hn0
  refine ⟨_,(zgn (by decide)).trans z06,t,by omega,S8,s8,?_,by omega,l8,h11,f8,?_⟩
  ·simp only [ev0,ev,evV,List.cons_append,List.nil_append,List.getD_cons_zero,List.getD_cons_succ,List.map_cons,List.map_nil,iOf,bOf,sOf,pOf,slLen,z04,cmpI,arI,Value.ite_bool,z01,z03,z00,z02,down9 (by omega:t < 9223372036854775807)]
  ·rw [hx8,List.drop_zero,hTT2]
 simp only [ev0,ev,evV,List.cons_append,List.nil_append,List.getD_cons_zero,List.getD_cons_succ,List.map_cons,List.map_nil,iOf,bOf,sOf,pOf,slLen,z04,cmpI,arI,Value.ite_bool,z01,z03,z00,z02,zdt] at g2
 obtain ⟨k,rfl⟩:∃k,n=k+1:=⟨n - 1,by omega⟩
 have hk1:(((k+1:Nat):Int) - 1)=(k:Int):=by omega
 rw [hk1]
 obtain ⟨a,ha⟩:∃a,e.kids[k]?=some a:=⟨_,zge (by omega)⟩
 obtain ⟨nm,hnm⟩:∃nm,e.names[k]?=some nm:=⟨_,zge (by omega)⟩
 have hza:(e.names.zip e.kids)[k]?=some (nm,a):=by rw [List.getElem?_zip_eq_some];exact ⟨hnm,ha⟩
 have l18:=PH.le_trans l16 l8
 obtain ⟨y1,_,ys,y2,y3⟩:=(hx.kids.le l18).get ha
 obtain ⟨z1,_,zs,z2,z3⟩:=(hx.names.le l18).get hnm
 obtain ⟨rfl,z4⟩:=z5r z2
 have y2':=y2
 obtain ⟨nb2,db2,kb2,nc2,dc2,kc2,rfl,hxa⟩:=Xp.Rep.open y2'
 have hs8:=hs6.le l8
 have h8l:=htot hx8
 have h8b:(TT (t+1)++turnT lam inner ((e.names.zip e.kids).drop (k+1))).length≤1+6 * e.names.length:=by
  have a1:=zl1 lam inner ((e.names.zip e.kids).drop (k+1))
  rw [List.length_drop,hzl] at a1
  have a2:=hTl (t+1)
  rw [zla];omega
 have h8t:s8.todo.length=s8.x.todo.length:=rfl
 refine ⟨fun vs K9=>vs=[]∧∃(S9:PH) (s9:MA),PH.le S6 S9∧Held S9 K9 (machA mr hr s9 J)∧AFit s9∧s9.x=m1.push (TT (t+1)++turnT lam inner ((e.names.zip e.kids).drop k)),?_,fun _=>?_,[.int .i64 a.kind],rfl,?_,fun g3=>?_,fun g3=>?_⟩
 ·rintro vs K9 _ ⟨rfl,S9,s9,l9,h12,f9,hx9⟩
  refine ⟨_,z06,k,by omega,S9,s9,?_,by omega,l9,h12,f9,hx9⟩
  simp only [ev0,ev,evV,List.cons_append,List.nil_append,List.getD_cons_zero,List.getD_cons_succ,List.map_cons,List.map_nil,iOf,bOf,sOf,pOf,slLen,z04,cmpI,arI,Value.ite_bool,z01,z03,z00,z02,List.append_nil,down9 (by omega:k < 9223372036854775807)]
 ·simp only [Chk.holds,ev0,ev,evV,List.cons_append,List.nil_append,List.getD_cons_zero,List.getD_cons_succ,List.map_cons,List.map_nil,iOf,bOf,sOf,pOf,slLen,z04,cmpI,arI,Value.ite_bool,z01,z03,z00,z02];exact ⟨y1,by omega,by omega⟩
 ·simp only [ev0,ev,evV,List.cons_append,List.nil_append,List.getD_cons_zero,List.getD_cons_succ,List.map_cons,List.map_nil,iOf,bOf,sOf,pOf,slLen,z04,cmpI,arI,Value.ite_bool,z01,z03,z00,z02];exact z0b h11.sh (z2o y3 0 1)
 ·have hlt:decide (a.kind=5)=lam:=by
   rw [hlam]
   simp only [ev0,ev,evV,List.cons_append,List.nil_append,List.getD_cons_zero,List.getD_cons_succ,List.map_cons,List.map_nil,iOf,bOf,sOf,pOf,slLen,z04,cmpI,arI,Value.ite_bool,z01,z03,z00,z02,beq_iff_eq] at g3
   rw [g3]
   exact decide_eq_decide.2 (by omega)
  refine ⟨fun _=>?_,[txt nm],rfl,by simp only [ev0,ev,evV,List.cons_append,List.nil_append,List.getD_cons_zero,List.getD_cons_succ,List.map_cons,List.map_nil,iOf,bOf,sOf,pOf,slLen,z04,cmpI,arI,Value.ite_bool,z01,z03,z00,z02];exact z0b h11.sh z3,?_⟩
  ·simp only [Chk.holds,ev0,ev,evV,List.cons_append,List.nil_append,List.getD_cons_zero,List.getD_cons_succ,List.map_cons,List.map_nil,iOf,bOf,sOf,pOf,slLen,z04,cmpI,arI,Value.ite_bool,z01,z03,z00,z02];exact ⟨z1,by omega,by omega⟩
  simp only [List.cons_append,List.nil_append]
  refine z07 [.int .i64 (cellX inner nm)] z41 (zgv inner (.slice ib inner.length ic) nm K8 (hs8.le h11.sh)) rfl z05 fun K9 l9=>?_
  have h11':=h11.le l9
  simp only [List.cons_append,List.nil_append]
  refine z08 z0a (zfv (act:=7) (at_:=cellX inner nm) h11' f8 (by decide) (ztn hs8 nm) (by omega)) ?_
  rintro x K10 ⟨S10,s10,l10,h12,f10,hx10,rfl⟩
  refine ⟨_,[],rfl,rfl,rfl,z05,?_⟩
  simp only [List.append_nil]
  have h10l:s10.todo.length=s8.todo.length+1:=by
   have:=congrArg (fun m:AX=>m.todo.length) hx10
   simp only [AX.push,zla,zlc,List.length_nil] at this
   exact this
  refine ⟨exVs a nb2 db2 kb2 nc2 dc2 kc2,Xp.Rep.tags y2,by simp only [ev0,ev,evV,List.cons_append,List.nil_append,List.getD_cons_zero,List.getD_cons_succ,List.map_cons,List.map_nil,iOf,bOf,sOf,pOf,slLen,z04,cmpI,arI,Value.ite_bool,z01,z03,z00,z02];exact z0b h12.sh (z0b l10 y3),?_⟩
  simp only [List.cons_append,List.nil_append]
  have hxa':ExV S10 a nb2 db2 kb2 nc2 dc2 kc2:=⟨hxa.kind,hxa.name,hxa.names.le l10,Dat.Rep.le l10 _ hxa.const,hxa.kids.le l10⟩
  refine z08 z0a (z2e (e:=a) (env:=inner) h12 f10 hxa' (hs8.le l10) (by omega)) ?_
  rintro x K11 ⟨S11,s11,l11,h13,f11,hx11,rfl⟩
  refine ⟨_,[],rfl,rfl,rfl,z05,?_⟩
  refine ⟨_,z06,rfl,S11,s11,PH.le_trans l8 (PH.le_trans l10 l11),h13,f11,?_⟩
  rw [hx11,hx10,hx8,z2x,z2x,zpk hza]
  unfold turnE
  rw [if_pos hlt]
  simp only [List.append_assoc,List.cons_append,List.nil_append]
 ·have hlt:¬decide (a.kind=5)=lam:=by
   rw [hlam]
   simp only [ev0,ev,evV,List.cons_append,List.nil_append,List.getD_cons_zero,List.getD_cons_succ,List.map_cons,List.map_nil,iOf,bOf,sOf,pOf,slLen,z04,cmpI,arI,Value.ite_bool,z01,z03,z00,z02,beq_eq_false_iff_ne,ne_eq] at g3
   intro hh
   refine g3 (hh.trans ?_)
   exact decide_eq_decide.2 (by omega)
  refine ⟨_,z06,rfl,S8,s8,l8,h11,f8,?_⟩
  rw [hx8,zpk hza]
  unfold turnE
  rw [if_neg hlt,List.append_nil]
end
theorem exvLe {S S':PH} (l:PH.le S S') {e:Xp} {nb db kb:Option Addr} {nc dc kc:Nat} (h:ExV S e nb db kb nc dc kc):ExV S' e nb db kb nc dc kc:=⟨h.kind,h.name,h.names.le l,Dat.Rep.le l _ h.const,h.kids.le l⟩
section
variable {S K:PH} {mr hr:Nat} {s:MA} {J:List Itm}
abbrev restA (mr hr:Nat) (s:MA) (J:List Itm):List Itm:=bxA mr hr s::rT s::rV s::rC s::rQ s::rU s::J
theorem zz5 (h:Held S K (machA mr hr s J)):Held S K (heapI hr s.L s.thv++restA mr hr s J):=
 h.perm (List.perm_append_comm_assoc [bxA mr hr s,rT s,rV s,rC s,rQ s,rU s] (heapI hr s.L s.thv) J)
theorem zyu {L:List (TR×List VX)} {thv:Value} (h:Held S K (heapI hr L thv++restA mr hr s J)):Held S K (machA mr hr { s with L:=L,thv:=thv } J):=
 h.perm (List.perm_append_comm_assoc [bxA mr hr s,rT s,rV s,rC s,rQ s,rU s] (heapI hr L thv) J).symm
def Z4a (mr hr:Nat) (J:List Itm) (S:PH) (s:MA) (p:PrX) (e:Ending) (K':PH):Prop:=∃S' L thv qv,PH.le S S'∧Held S' K' (machA mr hr { s with L:=L,thv:=thv,procs:=s.procs++[{ p with thing:=(s.L.length:Int) }],qv:=qv } J)∧hpX L=(addX (hpX s.L) 4 []).1∧e=.returned (valV ⟨8,s.L.length,[]⟩)
theorem zzb (h:Held S K (machA mr hr s J)) {p:PrX} {nb db kb eb tb vb:Option Addr} {nc dc kc ec tc vc:Nat} (hx:ExV S p.lam nb db kb nc dc kc) (he:SlR S p.env (.slice eb p.env.length ec)) (ht:SlR S p.todo (.slice tb p.todo.length tc)) (hv:SlR S p.vals (.slice vb p.vals.length vc)) (hL:s.L.length≤16777216) (hQ:s.procs.length≤16777216) :
  Tri Tryz.prog z9t #[pAt mr,.agg #[.int .i64 0,.int .i64 p.lam.kind,txt p.lam.name,.slice nb p.lam.names.length nc,.int .i64 p.lam.const.kind,.int .i64 p.lam.const.int,txt p.lam.const.text,.slice db p.lam.const.list.length dc,.slice kb p.lam.kids.length kc,.slice eb p.env.length ec,.bool p.kont,.slice tb p.todo.length tc,.slice vb p.vals.length vc]] K (Z4a mr hr J S s p):=by
 refine z80 [pAt mr,.int .i64 0,.int .i64 p.lam.kind,txt p.lam.name,.slice nb p.lam.names.length nc,.int .i64 p.lam.const.kind,.int .i64 p.lam.const.int,txt p.lam.const.text,.slice db p.lam.const.list.length dc,.slice kb p.lam.kids.length kc,.slice eb p.env.length ec,.bool p.kont,.slice tb p.todo.length tc,.slice vb p.vals.length vc] (by kernel_rfl) (by kernel_rfl) ?_
 refine ⟨fun _=>by simp [Chk.holds,ev0,ev,evV,List.cons_append,List.nil_append,List.getD_cons_zero,List.getD_cons_succ,List.map_cons,List.map_nil,iOf,bOf,sOf,pOf,slLen,z04,cmpI,arI,Value.ite_bool,z01,z03,z00,z02],[pAt hr],rfl,by simp only [ev0,ev,evV,List.cons_append,List.nil_append,List.getD_cons_zero,List.getD_cons_succ,List.map_cons,List.map_nil,iOf,bOf,sOf,pOf,slLen,z04,cmpI,arI,Value.ite_bool,z01,z03,z00,z02];exact mA_ld h rfl,?_⟩
 simp only [List.cons_append,List.nil_append]
 refine z08 zar (HpTo.beside (zz5 h) fun K hK=>Z1c hr s.L s.thv S K hK hL) ?_
 rintro x K1 ⟨rfl,S1,L1,thv1,l1,h2,hL1⟩
 refine ⟨_,valVs (addX (hpX s.L) 4 []).2++[Value.int .i64 0],rfl,rfl,rfl,z05,?_⟩
 simp only [List.cons_append,List.nil_append]
 have h3:=zyu h2
 have hvs:(addX (hpX s.L) 4 []).2=⟨8,(s.L.length:Int),[]⟩:=by simp [addX,hpX]
 rw [hvs]
 obtain ⟨s1,hs1⟩:∃s1:MA,s1={ s with L:=L1,thv:=thv1 }:=⟨_,rfl⟩
 rw [←hs1] at h3
 obtain ⟨qb,qc,hqv⟩:=zz2 h3
 have hl2:rowAt K1 (some ⟨mr,2,none⟩) [.slice qb s1.procs.length qc]:=by rw [←hqv];exact mA_ld h3 rfl
 refine ⟨[.slice qb s1.procs.length qc],rfl,by simp only [ev0,ev,evV,List.cons_append,List.nil_append,List.getD_cons_zero,List.getD_cons_succ,List.map_cons,List.map_nil,iOf,bOf,sOf,pOf,slLen,z04,cmpI,arI,Value.ite_bool,z01,z03,z00,z02];exact hl2,?_⟩
 simp only [List.cons_append,List.nil_append]
 have hql:s1.procs.length=s.procs.length:=by rw [hs1]
 have h4:Held S1 K1 (orow 116 s1.procs (.slice qb s1.procs.length qc)::bxA mr hr s1::rT s1::rV s1::rC s1::rU s1::(heapI hr s1.L s1.thv++J)):=by rw [←hqv];exact h3.to4
 have hth:InI (s.L.length:Int):=by unfold InI;omega
 refine z16 (b:=216) (more:=[({ p with thing:=(s.L.length:Int) }:PrX)]) [.agg #[.int .i64 (s.L.length:Int),.int .i64 p.lam.kind,txt p.lam.name,.slice nb p.lam.names.length nc,.int .i64 p.lam.const.kind,.int .i64 p.lam.const.int,txt p.lam.const.text,.slice db p.lam.const.list.length dc,.slice kb p.lam.kids.length kc,.slice eb p.env.length ec,.bool p.kont,.slice tb p.todo.length tc,.slice vb p.vals.length vc]] uPrsA Z3k rfl (by decide) (by decide) h4 (by kernel_rfl)
  (.cons (pr_iff.2 ⟨exVs p.lam nb db kb nc dc kc,.slice eb p.env.length ec,.slice tb p.todo.length tc,.slice vb p.vals.length vc,rfl,hth,(exvLe l1 hx).rep,he.le l1,ht.le l1,hv.le l1⟩) .nil) (z1x (by simp only [ev0,ev,evV,List.cons_append,List.nil_append,List.getD_cons_zero,List.getD_cons_succ,List.map_cons,List.map_nil,iOf,bOf,sOf,pOf,slLen,z04,cmpI,arI,Value.ite_bool,z01,z03,z00,z02];exact hl2)) (fun u=>by kernel_rfl) (fun u=>by kernel_rfl)
  (by simp only [maxLen,zlc,List.length_nil];omega) (by simp only [zlc,List.length_nil];omega) fun u v5 S2 K2 l2 h5=>⟨z05,?_⟩
 simp only [List.cons_append,List.nil_append]
 obtain ⟨b5,c5,hv5⟩:=(h5.row (zms)).sl
 refine z0u (off:=2) (vs:=[v5]) (by simp only [ev0,ev,evV,List.cons_append,List.nil_append,List.getD_cons_zero,List.getD_cons_succ,List.map_cons,List.map_nil,iOf,bOf,sOf,pOf,slLen,z04,cmpI,arI,Value.ite_bool,z01,z03,z00,z02];rfl) h5.swap rfl (slOne ⟨_,_,_,hv5⟩) (by simp [MA.cs]) fun K3 h6=>?_
 refine ⟨S2,L1,thv1,v5,PH.le_trans l1 l2,?_,hL1,rfl⟩
 have h7:=h6.perm (List.Perm.cons _ (List.perm_middle (l₁:=[rT s1,rV s1,rC s1])).symm)
 subst hs1
 exact h7
theorem zxi {l:List PrX} {j:Nat} {a:PrX} (h:l[j]?=some a) (t:Int) (p:PrX):procF (l.take (j+1)) t p=if a.thing=t then a else procF (l.take j) t p:=by
 unfold procF
 rw [List.take_add_one,h,List.foldl_append];rfl
theorem zxd (H:PH):CsR H z4y (prVs z4y [.int .i64 0,txt [],.slice none 0 0,.int .i64 0,.int .i64 0,txt [],.slice none 0 0,.slice none 0 0] (.slice none 0 0) (.slice none 0 0) (.slice none 0 0)):=
 pr_iff.2 ⟨_,_,_,_,rfl,by decide,znv H,zlu H,SlR.mk_iff.2 ⟨Nat.zero_le _,.inl ⟨rfl,rfl⟩⟩,SlR.mk_iff.2 ⟨Nat.zero_le _,.inl ⟨rfl,rfl⟩⟩⟩
theorem zb2 {X:List PanicEntry→PH→Prop} {E:List Value} {L:LK} {p:SV} {w:SV} {e:Int} (h:Held S K (machA mr hr s J)) (hp:pOf (ev0 E p)=some ⟨mr,12,none⟩) (hw:ev0 E w=.int .i64 e) {β:Type} {k:Fm β} {Q:β→List Value→PH→LK→Prop}
  (hk:∀K',Held S K' (machA mr hr { s with e:=e } J)→den Tryz.prog X k E K' L Q):den Tryz.prog X (.store p [w] k) E K L Q:=
 z0u (off:=12) (vs:=[.int .i64 e]) hp h (by simp only [List.map_cons,List.map_nil,hw]) (by
  intro u hu
  rw [List.mem_singleton.1 hu];rfl) (by simp [MA.cs]) fun K1 h1=>hk K1 h1
theorem Z02 (h:Held S K (machA mr hr s J)) (hf:AFit s) (hc:s.cells.length≤4294967296) (ht:s.todo.length≤8580000000) (hv0:s.vals.length≤8580000000) {v:VX} (hv:VFit v) {args:List VX} {argv:Value} (hargs:SlR S args argv) {m':AX} (hm:s.x.call v args=some m') :
  Tri Tryz.prog z9h #[pAt mr,valV v,argv] K (ATo mr hr J S m' vNil):=by
 obtain ⟨ab,ac,rfl⟩:=hargs.sl
 refine z87 ([pAt mr]++valVs v++[.slice ab args.length ac]) (by kernel_rfl) (by kernel_rfl) ?_
 simp only [List.cons_append,List.nil_append]
 have hmay:mayV (hpX s.L).length v=true:=by
  unfold AX.call at hm
  cases hmv:mayV s.x.h.length v with
  | true=>exact hmv
  | false=>rw [hmv] at hm;simp at hm
 unfold AX.call at hm
 rw [show mayV s.x.h.length v=true from hmay] at hm
 simp only [Bool.not_true,Bool.false_eq_true,if_false] at hm
 refine ⟨fun _=>by simp [Chk.holds,ev0,ev,evV,List.cons_append,List.nil_append,List.getD_cons_zero,List.getD_cons_succ,List.map_cons,List.map_nil,iOf,bOf,sOf,pOf,slLen,z04,cmpI,arI,Value.ite_bool,z01,z03,z00,z02],[pAt hr],rfl,by simp only [ev0,ev,evV,List.cons_append,List.nil_append,List.getD_cons_zero,List.getD_cons_succ,List.map_cons,List.map_nil,iOf,bOf,sOf,pOf,slLen,z04,cmpI,arI,Value.ite_bool,z01,z03,z00,z02];exact mA_ld h rfl,?_⟩
 simp only [List.cons_append,List.nil_append]
 refine z07 [.int .i64 (z0s (hpX s.L) v)] z0z (z5c (hpX s.L) hr v hmay K (zwf h)) rfl z05 fun K1 l1=>?_
 have h:=h.le l1
 simp only [List.cons_append,List.nil_append]
 refine ⟨fun g=>?_,fun g=>?_⟩
 ·simp only [ev0,ev,evV,List.cons_append,List.nil_append,List.getD_cons_zero,List.getD_cons_succ,List.map_cons,List.map_nil,iOf,bOf,sOf,pOf,slLen,z04,cmpI,arI,Value.ite_bool,z01,z03,z00,z02,ne_eq,decide_not,Bool.not_eq_true',zdf] at g
  rw [if_pos (show z0s s.x.h v≠4 from g)] at hm
  simp only [Option.some.injEq] at hm
  refine zb2 (e:=90) h (by simp only [ev0,ev,evV,List.cons_append,List.nil_append,List.getD_cons_zero,List.getD_cons_succ,List.map_cons,List.map_nil,iOf,bOf,sOf,pOf,slLen,z04,cmpI,arI,Value.ite_bool,z01,z03,z00,z02];rfl) (by simp only [ev0,ev,evV,List.cons_append,List.nil_append,List.getD_cons_zero,List.getD_cons_succ,List.map_cons,List.map_nil,iOf,bOf,sOf,pOf,slLen,z04,cmpI,arI,Value.ite_bool,z01,z03,z00,z02]) fun K2 h2=>⟨S,_,PH.le_refl _,h2,hf,?_,rfl⟩
  rw [←hm];rfl
 simp only [ev0,ev,evV,List.cons_append,List.nil_append,List.getD_cons_zero,List.getD_cons_succ,List.map_cons,List.map_nil,iOf,bOf,sOf,pOf,slLen,z04,cmpI,arI,Value.ite_bool,z01,z03,z00,z02,ne_eq,decide_not,Bool.not_eq_false',zdt] at g
 rw [if_neg (show ¬z0s s.x.h v≠4 from fun hh=>hh g)] at hm
 obtain ⟨qb,qc,hqv⟩:=zz2 h
 have hqm:s.procs.length≤maxLen:=(h.to4.row (zms)).max
 simp only [maxLen] at hqm
 have hl2:rowAt K1 (some ⟨mr,2,none⟩) [.slice qb s.procs.length qc]:=by rw [←hqv];exact mA_ld h rfl
 refine ⟨fun n vs K2=>∃(j:Nat) (es:List Value) (xv tv vv:Value),j+n=s.procs.length∧vs=nI j::prVs (procF (s.procs.take j) v.int z4y) es xv tv vv∧CsR S (procF (s.procs.take j) v.int z4y) (prVs (procF (s.procs.take j) v.int z4y) es xv tv vv)∧K2=K1,⟨s.procs.length,0,_,_,_,_,by omega,rfl,zxd S,rfl⟩,?_⟩
 rintro n vs K2 _ ⟨j,es,xv,tv,vv,hjn,rfl,hrep,rfl⟩
 obtain ⟨p,hp⟩:∃p,p=procF (s.procs.take j) v.int z4y:=⟨_,rfl⟩
 rw [←hp] at hrep ⊢
 obtain ⟨es',ev',tv',vv',heq,p1,p2,p3,p4,p5⟩:=pr_iff.1 hrep
 have p2':=p2
 obtain ⟨nb,db,kb,nc,dc,kc,rfl,hx⟩:=Xp.Rep.open p2'
 obtain ⟨eb,ec,rfl⟩:=p3.sl
 obtain ⟨tb,tc,rfl⟩:=p4.sl
 obtain ⟨vb,vc,rfl⟩:=p5.sl
 rw [heq]
 simp only [prVs,List.cons_append,List.nil_append]
 refine ⟨[.slice qb s.procs.length qc],rfl,by simp only [ev0,ev,evV,List.cons_append,List.nil_append,List.getD_cons_zero,List.getD_cons_succ,List.map_cons,List.map_nil,iOf,bOf,sOf,pOf,slLen,z04,cmpI,arI,Value.ite_bool,z01,z03,z00,z02];exact hl2,?_⟩
 simp only [List.cons_append,List.nil_append]
 refine ⟨fun g2=>?_,fun g2=>?_⟩
 ·simp only [ev0,ev,evV,List.cons_append,List.nil_append,List.getD_cons_zero,List.getD_cons_succ,List.map_cons,List.map_nil,iOf,bOf,sOf,pOf,slLen,z04,cmpI,arI,Value.ite_bool,z01,z03,z00,z02,zdt] at g2
  obtain ⟨a,ha⟩:∃a,s.procs[j]?=some a:=⟨_,zge (by omega)⟩
  obtain ⟨x1,x2,cs,x3,x4⟩:=(h.to4.row (zms)).get ha
  obtain ⟨aes,aev,atv,avv,rfl,q1,q2,q3,q4,q5⟩:=pr_iff.1 x3
  have q2':=q2
  obtain ⟨anb,adb,akb,anc,adc,akc,rfl,_⟩:=Xp.Rep.open q2'
  obtain ⟨aeb,aec,rfl⟩:=q3.sl
  obtain ⟨atb,atc,rfl⟩:=q4.sl
  obtain ⟨avb,avc,rfl⟩:=q5.sl
  rw [hqv] at x1 x4
  have hstep:=zxi ha v.int z4y
  refine ⟨fun vs K3=>K2=K3∧∃es xv tv vv,vs=prVs (procF (s.procs.take (j+1)) v.int z4y) es xv tv vv∧CsR S (procF (s.procs.take (j+1)) v.int z4y) (prVs (procF (s.procs.take (j+1)) v.int z4y) es xv tv vv),?_,[.slice qb s.procs.length qc],rfl,by simp only [ev0,ev,evV,List.cons_append,List.nil_append,List.getD_cons_zero,List.getD_cons_succ,List.map_cons,List.map_nil,iOf,bOf,sOf,pOf,slLen,z04,cmpI,arI,Value.ite_bool,z01,z03,z00,z02];exact hl2,fun _=>?_,[.int .i64 a.thing],rfl,by simp only [ev0,ev,evV,List.cons_append,List.nil_append,List.getD_cons_zero,List.getD_cons_succ,List.map_cons,List.map_nil,iOf,bOf,sOf,pOf,slLen,z04,cmpI,arI,Value.ite_bool,z01,z03,z00,z02];exact z2o x4 0 1,fun g3=>?_,fun g3=>?_⟩
  ·rintro vs K3 _ ⟨rfl,es3,ev3,tv3,vv3,rfl,hr3⟩
   have hlen:=PV.RepRow.length hr3
   obtain ⟨es4,ev4,tv4,vv4,he4,_,hq4,_,_,_⟩:=pr_iff.1 hr3
   have hl8:es4.length=8:=by have:=PV.RepRow.length hq4;rw [Enc.len] at this;exact this
   have hes:es3.length=8:=by
    have:=congrArg List.length he4
    simp only [prVs,zlc,zla,List.length_nil] at this
    omega
   match es3,hes with
   | [w0,w1,w2,w3,w4,w5,w6,w7],_=>
    refine ⟨_,z06,n - 1,by omega,j+1,_,ev3,tv3,vv3,by omega,?_,hr3,rfl⟩
    simp only [ev0,ev,evV,List.cons_append,List.nil_append,List.getD_cons_zero,List.getD_cons_succ,List.map_cons,List.map_nil,iOf,bOf,sOf,pOf,slLen,z04,cmpI,arI,Value.ite_bool,z01,z03,z00,z02,up9 (by omega:j < 9223372036854775807)]
  ·simp only [Chk.holds,ev0,ev,evV,List.cons_append,List.nil_append,List.getD_cons_zero,List.getD_cons_succ,List.map_cons,List.map_nil,iOf,bOf,sOf,pOf,slLen,z04,cmpI,arI,Value.ite_bool,z01,z03,z00,z02];exact ⟨x1,by omega,by omega⟩
  ·simp only [ev0,ev,evV,List.cons_append,List.nil_append,List.getD_cons_zero,List.getD_cons_succ,List.map_cons,List.map_nil,iOf,bOf,sOf,pOf,slLen,z04,cmpI,arI,Value.ite_bool,z01,z03,z00,z02,zdt] at g3
   refine ⟨[.slice qb s.procs.length qc],rfl,by simp only [ev0,ev,evV,List.cons_append,List.nil_append,List.getD_cons_zero,List.getD_cons_succ,List.map_cons,List.map_nil,iOf,bOf,sOf,pOf,slLen,z04,cmpI,arI,Value.ite_bool,z01,z03,z00,z02];exact hl2,fun _=>?_,prVs a (exVs a.lam anb adb akb anc adc akc) (.slice aeb a.env.length aec) (.slice atb a.todo.length atc) (.slice avb a.vals.length avc),rfl,by simp only [ev0,ev,evV,List.cons_append,List.nil_append,List.getD_cons_zero,List.getD_cons_succ,List.map_cons,List.map_nil,iOf,bOf,sOf,pOf,slLen,z04,cmpI,arI,Value.ite_bool,z01,z03,z00,z02];exact x4,?_⟩
   ·simp only [Chk.holds,ev0,ev,evV,List.cons_append,List.nil_append,List.getD_cons_zero,List.getD_cons_succ,List.map_cons,List.map_nil,iOf,bOf,sOf,pOf,slLen,z04,cmpI,arI,Value.ite_bool,z01,z03,z00,z02];exact ⟨x1,by omega,by omega⟩
   simp only [prVs,List.cons_append,List.nil_append]
   refine ⟨_,z06,rfl,exVs a.lam anb adb akb anc adc akc,.slice aeb a.env.length aec,.slice atb a.todo.length atc,.slice avb a.vals.length avc,?_,?_⟩
   ·rw [hstep,if_pos g3];simp only [ev0,ev,evV,List.cons_append,List.nil_append,List.getD_cons_zero,List.getD_cons_succ,List.map_cons,List.map_nil,iOf,bOf,sOf,pOf,slLen,z04,cmpI,arI,Value.ite_bool,z01,z03,z00,z02,prVs]
   ·rw [hstep,if_pos g3];exact x3
  ·simp only [ev0,ev,evV,List.cons_append,List.nil_append,List.getD_cons_zero,List.getD_cons_succ,List.map_cons,List.map_nil,iOf,bOf,sOf,pOf,slLen,z04,cmpI,arI,Value.ite_bool,z01,z03,z00,z02,zdf] at g3
   refine ⟨_,z06,rfl,exVs p.lam nb db kb nc dc kc,.slice eb p.env.length ec,.slice tb p.todo.length tc,.slice vb p.vals.length vc,?_,?_⟩
   ·rw [hstep,if_neg g3,←hp];simp only [ev0,ev,evV,List.cons_append,List.nil_append,List.getD_cons_zero,List.getD_cons_succ,List.map_cons,List.map_nil,iOf,bOf,sOf,pOf,slLen,z04,cmpI,arI,Value.ite_bool,z01,z03,z00,z02,prVs]
   ·rw [hstep,if_neg g3,←hp,←heq];exact hrep
 simp only [ev0,ev,evV,List.cons_append,List.nil_append,List.getD_cons_zero,List.getD_cons_succ,List.map_cons,List.map_nil,iOf,bOf,sOf,pOf,slLen,z04,cmpI,arI,Value.ite_bool,z01,z03,z00,z02,zdf] at g2
 have hpp:procF s.x.procs v.int z4y=p:=by
  rw [hp,List.take_of_length_le (by omega)];rfl
 rw [hpp] at hm
 refine ⟨fun g3=>?_,fun g3=>?_⟩
 ·simp only [ev0,ev,evV,List.cons_append,List.nil_append,List.getD_cons_zero,List.getD_cons_succ,List.map_cons,List.map_nil,iOf,bOf,sOf,pOf,slLen,z04,cmpI,arI,Value.ite_bool,z01,z03,z00,z02] at g3
  rw [if_pos g3] at hm
  by_cases hbig:4294967296 < p.todo.length∨4294967296 < p.vals.length
  ·rw [if_pos hbig] at hm;cases hm
  rw [if_neg hbig] at hm
  refine ⟨fun g4=>?_,fun g4=>?_⟩
  ·simp only [ev0,ev,evV,List.cons_append,List.nil_append,List.getD_cons_zero,List.getD_cons_succ,List.map_cons,List.map_nil,iOf,bOf,sOf,pOf,slLen,z04,cmpI,arI,Value.ite_bool,z01,z03,z00,z02,ne_eq,decide_not,Bool.not_eq_true',zdf] at g4
   refine zb2 (e:=91) h (by simp only [ev0,ev,evV,List.cons_append,List.nil_append,List.getD_cons_zero,List.getD_cons_succ,List.map_cons,List.map_nil,iOf,bOf,sOf,pOf,slLen,z04,cmpI,arI,Value.ite_bool,z01,z03,z00,z02];rfl) (by simp only [ev0,ev,evV,List.cons_append,List.nil_append,List.getD_cons_zero,List.getD_cons_succ,List.map_cons,List.map_nil,iOf,bOf,sOf,pOf,slLen,z04,cmpI,arI,Value.ite_bool,z01,z03,z00,z02]) fun K2 h2=>⟨S,_,PH.le_refl _,h2,hf,?_,rfl⟩
   split at hm
   ·simp at g4
   ·simp only [Option.some.injEq] at hm
    rw [←hm];rfl
  ·have hl1:args.length=1:=by
    simp only [ev0,ev,evV,List.cons_append,List.nil_append,List.getD_cons_zero,List.getD_cons_succ,List.map_cons,List.map_nil,iOf,bOf,sOf,pOf,slLen,z04,cmpI,arI,Value.ite_bool,z01,z03,z00,z02,ne_eq,decide_not,Bool.not_eq_false',zdt] at g4
    omega
   obtain ⟨y,rfl⟩:∃y,args=[y]:=by
    match args,hl1 with
    | [y],_=>exact ⟨y,rfl⟩
   simp only [Option.some.injEq] at hm
   refine z1k (α:=TdX) (b:=168) zqu zlk h z05 fun v3 K3 h3 _ _=>?_
   simp only [List.cons_append,List.nil_append]
   refine z1o (b:=168) (more:=p.todo) zqu zlk (by kernel_rfl) (by kernel_rfl) h3 (p4.srcS h3.sh) (by simp only [maxLen,List.length_nil];omega) (by simp only [List.length_nil];omega) fun v4 K4 h4 _=>⟨z05,?_⟩
   rw [List.nil_append] at h4
   obtain ⟨b4,c4,hv4⟩:=(h4.row (zms)).sl
   simp only [List.cons_append,List.nil_append]
   refine z0u (off:=10) (vs:=[v4]) (by simp only [ev0,ev,evV,List.cons_append,List.nil_append,List.getD_cons_zero,List.getD_cons_succ,List.map_cons,List.map_nil,iOf,bOf,sOf,pOf,slLen,z04,cmpI,arI,Value.ite_bool,z01,z03,z00,z02];rfl) h4.swap rfl (slOne ⟨_,_,_,hv4⟩) (by simp [MA.cs]) fun K5 h5=>?_
   obtain ⟨s5,hs5⟩:∃s5:MA,s5={ s with todo:=p.todo,tv:=v4 }:=⟨_,rfl⟩
   have h6:Held S K5 (machA mr hr s5 J):=by
    subst hs5
    exact (h5.sub (List.Sublist.cons_cons _ (List.Sublist.cons_cons _ (List.Sublist.cons _ (List.Sublist.refl _)))))
   refine z1k (α:=VX) (b:=32) z4x z2v h6 z05 fun v7 K7 h7 _ _=>?_
   simp only [List.cons_append,List.nil_append]
   refine z1o (b:=32) (more:=p.vals) z4x z2v (by kernel_rfl) (by kernel_rfl) h7 (p5.srcS h7.sh) (by simp only [maxLen,List.length_nil];omega) (by simp only [List.length_nil];omega) fun v8 K8 h8 _=>⟨z05,?_⟩
   rw [List.nil_append] at h8
   obtain ⟨b8,c8,hv8⟩:=(h8.row (zms)).sl
   simp only [List.cons_append,List.nil_append]
   refine z0u (off:=11) (vs:=[v8]) (by simp only [ev0,ev,evV,List.cons_append,List.nil_append,List.getD_cons_zero,List.getD_cons_succ,List.map_cons,List.map_nil,iOf,bOf,sOf,pOf,slLen,z04,cmpI,arI,Value.ite_bool,z01,z03,z00,z02];rfl) h8.swap rfl (slOne ⟨_,_,_,hv8⟩) (by simp [MA.cs]) fun K9 h9=>?_
   obtain ⟨s9,hs9⟩:∃s9:MA,s9={ s5 with vals:=p.vals,vv:=v8 }:=⟨_,rfl⟩
   have h10:Held S K9 (machA mr hr s9 J):=by
    have h10':Held S K9 (bxA mr hr s9::rT s9::rV s9::rV s5::rC s9::rQ s9::rU s9::(heapI hr s9.L s9.thv++J)):=by
     subst hs9
     exact h9.perm (List.Perm.cons _ (List.Perm.swap _ _ _))
    exact h10'.sub (List.Sublist.cons_cons _ (List.Sublist.cons_cons _ (List.Sublist.cons_cons _ (List.Sublist.cons _ (List.Sublist.refl _)))))
   obtain ⟨y1,_,ycs,y2,y3⟩:=hargs.get (i:=0) (a:=y) rfl
   obtain ⟨rfl,yf⟩:=z2q y2
   refine ⟨fun _=>?_,valVs y,rfl,by simp only [ev0,ev,evV,List.cons_append,List.nil_append,List.getD_cons_zero,List.getD_cons_succ,List.map_cons,List.map_nil,iOf,bOf,sOf,pOf,slLen,z04,cmpI,arI,Value.ite_bool,z01,z03,z00,z02];exact z0b h10.sh y3,?_⟩
   ·simp only [Chk.holds,ev0,ev,evV,List.cons_append,List.nil_append,List.getD_cons_zero,List.getD_cons_succ,List.map_cons,List.map_nil,iOf,bOf,sOf,pOf,slLen,z04,cmpI,arI,Value.ite_bool,z01,z03,z00,z02];exact ⟨y1,by omega,by simp⟩
   simp only [List.cons_append,List.nil_append]
   refine z08 z0d (z8m (v:=y) h10 (by rw [hs9,hs5];exact hf) yf (by rw [hs9];simp only;omega)) ?_
   rintro x K11 ⟨S11,s11,l11,h11,f11,hx11,rfl⟩
   refine ⟨_,[],rfl,rfl,rfl,z05,?_⟩
   refine ⟨S11,s11,l11,h11,f11,?_,rfl⟩
   rw [hx11,←hm,hs9,hs5];rfl
 ·simp only [ev0,ev,evV,List.cons_append,List.nil_append,List.getD_cons_zero,List.getD_cons_succ,List.map_cons,List.map_nil,iOf,bOf,sOf,pOf,slLen,z04,cmpI,arI,Value.ite_bool,z01,z03,z00,z02] at g3
  rw [if_neg (by rw [g3];exact Bool.false_ne_true)] at hm
  refine ⟨fun g4=>?_,fun g4=>?_⟩
  ·simp only [ev0,ev,evV,List.cons_append,List.nil_append,List.getD_cons_zero,List.getD_cons_succ,List.map_cons,List.map_nil,iOf,bOf,sOf,pOf,slLen,z04,cmpI,arI,Value.ite_bool,z01,z03,z00,z02,ne_eq,decide_not,Bool.not_eq_true',zdf] at g4
   refine zb2 (e:=91) h (by simp only [ev0,ev,evV,List.cons_append,List.nil_append,List.getD_cons_zero,List.getD_cons_succ,List.map_cons,List.map_nil,iOf,bOf,sOf,pOf,slLen,z04,cmpI,arI,Value.ite_bool,z01,z03,z00,z02];rfl) (by simp only [ev0,ev,evV,List.cons_append,List.nil_append,List.getD_cons_zero,List.getD_cons_succ,List.map_cons,List.map_nil,iOf,bOf,sOf,pOf,slLen,z04,cmpI,arI,Value.ite_bool,z01,z03,z00,z02]) fun K2 h2=>⟨S,_,PH.le_refl _,h2,hf,?_,rfl⟩
   rw [if_pos (fun hh=>g4 (by rw [hh]))] at hm
   simp only [Option.some.injEq] at hm
   rw [←hm];rfl
  simp only [ev0,ev,evV,List.cons_append,List.nil_append,List.getD_cons_zero,List.getD_cons_succ,List.map_cons,List.map_nil,iOf,bOf,sOf,pOf,slLen,z04,cmpI,arI,Value.ite_bool,z01,z03,z00,z02,ne_eq,decide_not,Bool.not_eq_false',zdt] at g4
  have hal:args.length=p.lam.names.length:=by omega
  rw [if_neg (fun hh=>hh hal)] at hm
  by_cases hbig:1000000 < p.lam.names.length∨4294967296 < p.env.length
  ·rw [if_pos hbig] at hm;cases hm
  rw [if_neg hbig] at hm
  cases hk:p.lam.kids[0]? with
  | none=>rw [hk] at hm;cases hm
  | some b=>
   rw [hk] at hm
   simp only [Option.map_some,Option.some.injEq] at hm
   have hkl:=(List.getElem?_eq_some_iff.1 hk).1
   obtain ⟨y1,_,ys,y2,y3⟩:=hx.kids.get hk
   have y2':=y2
   obtain ⟨nb',db',kb',nc',dc',kc',rfl,hxb⟩:=Xp.Rep.open y2'
   refine ⟨fun _=>?_,exVs b nb' db' kb' nc' dc' kc',Xp.Rep.tags y2,by simp only [ev0,ev,evV,List.cons_append,List.nil_append,List.getD_cons_zero,List.getD_cons_succ,List.map_cons,List.map_nil,iOf,bOf,sOf,pOf,slLen,z04,cmpI,arI,Value.ite_bool,z01,z03,z00,z02];exact z0b h.sh y3,?_⟩
   ·simp only [Chk.holds,ev0,ev,evV,List.cons_append,List.nil_append,List.getD_cons_zero,List.getD_cons_succ,List.map_cons,List.map_nil,iOf,bOf,sOf,pOf,slLen,z04,cmpI,arI,Value.ite_bool,z01,z03,z00,z02];exact ⟨y1,by omega,by omega⟩
   simp only [List.cons_append,List.nil_append]
   refine z08 z25 (zks h p3 hx.names hargs (by omega) (by omega) (by omega) hc) ?_
   rintro x K5 ⟨S5,cv5,v5,l5,h8,hs5,rfl⟩
   obtain ⟨ib,ic,rfl⟩:=hs5.sl
   refine ⟨_,[.slice ib (bindE p.env p.lam.names s.cells.length).length ic],rfl,rfl,rfl,z1x (by simp only [ev0,ev,evV,List.cons_append,List.nil_append,List.getD_cons_zero,List.getD_cons_succ,List.map_cons,List.map_nil,iOf,bOf,sOf,pOf,slLen,z04,cmpI,arI,Value.ite_bool,z01,z03,z00,z02];exact z0b h8.sh (z0b l5 y3)),?_⟩
   simp only [List.cons_append,List.nil_append]
   refine z08 z0a (z2e (e:=b) (env:=bindE p.env p.lam.names s.cells.length) h8 hf (exvLe l5 hxb) hs5 (by simp only;omega)) ?_
   rintro x K6 ⟨S6,s6,l6,h9,f6,hx6,rfl⟩
   refine ⟨_,[],rfl,rfl,rfl,z05,?_⟩
   refine ⟨S6,s6,PH.le_trans l5 l6,h9,f6,?_,rfl⟩
   rw [hx6,←hm];rfl
end
theorem fitX {k n:Int} {t:List UInt8} (h1:InI k) (h2:InI n) (h3:t.length≤maxLen):VFit ⟨k,n,t⟩:=⟨h1,h2,h3⟩
theorem zle:VFit vVoid:=by unfold VFit vVoid InI maxLen;simp
theorem Z31 {n:Nat} (hn:n≤4611686018427387904) {v:VX} (h:mayV n v=true):VFit v:=by
 have hx:maxLen=9223372036854775807:=rfl
 unfold mayV at h
 unfold VFit InI
 split at h
 ·cases h
 rename_i h0
 have ht:v.kind≠3→v.text.length≤maxLen:=fun hk=>by
  have:v.text=[]:=by
   rcases Classical.em (v.text=[]) with e | e
   ·exact e
   ·exact absurd ⟨hk,e⟩ h0
  rw [this];simp
 split at h
 ·rename_i hk;have:=ht (by omega);simp only [zdt] at h;omega
 split at h
 ·rename_i hk;have:=ht (by omega);have:=isNum_iff.1 h;omega
 split at h
 ·rename_i hk;have:=ht (by omega);simp only [zdt] at h;omega
 split at h
 ·rename_i hk
  simp only [zba,zdt] at h
  have:=h.2
  unfold z0p at this
  simp only [zba,zdt] at this
  omega
 split at h
 ·rename_i hk;have:=ht (by omega);simp only [zdt] at h;omega
 split at h
 ·rename_i hk;have:=ht (by omega);simp only [zdt] at h;omega
 ·cases h
section
variable {S K:PH} {mr hr:Nat} {s:MA} {J:List Itm}
theorem zyv (h:Held S K (machA mr hr s J)) (hf:AFit s) (hh:HeapOk (hpX s.L)) (hL:s.L.length≤16777216) (hO:s.out.length≤16777216) (hv0:s.vals.length≤8580000000) (p:List UInt8) {args:List VX} {argv:Value} (hargs:SlR S args argv) {m':AX} (hm:s.x.prim p args=some m') :
  Tri Tryz.prog z9x #[pAt mr,txt p,argv] K (ATo mr hr J S m' vNil):=by
 obtain ⟨ab,ac,rfl⟩:=hargs.sl
 have hmx:maxLen=9223372036854775807:=rfl
 unfold AX.prim at hm
 refine z8d [pAt mr,txt p,.slice ab args.length ac] (by kernel_rfl) (by kernel_rfl) ?_
 have tellK:∀{S1 K1:PH} {s1:MA} {v:VX} {m2:AX},PH.le S S1→Held S1 K1 (machA mr hr s1 J)→AFit s1→VFit v→s1.vals.length≤8580000000→s1.x.tell v=m2→Tri Tryz.prog z3t #[pAt mr,valV v] K1 (ATo mr hr J S m2 vNil):=fun l1 h1 f1 fv hl hm2=>(z8m h1 f1 fv (by omega)).mono fun e K2 ⟨S2,s2,l2,h2,f2,hx2,he2⟩=>⟨S2,s2,PH.le_trans l1 l2,h2,f2,by rw [hx2,hm2],he2⟩
 refine ⟨fun g=>?_,fun g=>?_⟩
 ·simp only [ev0,ev,evV,List.cons_append,List.nil_append,List.getD_cons_zero,List.getD_cons_succ,List.map_cons,List.map_nil,iOf,bOf,sOf,pOf,slLen,z04,cmpI,arI,Value.ite_bool,z01,z03,z00,z02,z09,zdt] at g
  rw [if_pos g] at hm
  refine ⟨fun _=>by simp [Chk.holds,ev0,ev,evV,List.cons_append,List.nil_append,List.getD_cons_zero,List.getD_cons_succ,List.map_cons,List.map_nil,iOf,bOf,sOf,pOf,slLen,z04,cmpI,arI,Value.ite_bool,z01,z03,z00,z02],[txt s.input],rfl,by simp only [ev0,ev,evV,List.cons_append,List.nil_append,List.getD_cons_zero,List.getD_cons_succ,List.map_cons,List.map_nil,iOf,bOf,sOf,pOf,slLen,z04,cmpI,arI,Value.ite_bool,z01,z03,z00,z02];exact mA_ld h rfl,fun g2=>?_,fun g2=>?_⟩
  ·simp only [ev0,ev,evV,List.cons_append,List.nil_append,List.getD_cons_zero,List.getD_cons_succ,List.map_cons,List.map_nil,iOf,bOf,sOf,pOf,slLen,z04,cmpI,arI,Value.ite_bool,z01,z03,z00,z02,z09,zdt] at g2
   rw [show s.x.input=[] from g2] at hm
   simp only [Option.some.injEq] at hm
   refine z08 z0d (tellK (v:=⟨6,0,[]⟩) (PH.le_refl _) h hf (fitX (by decide) (by decide) (by decide)) hv0 hm) ?_
   rintro e K2 ⟨S2,s2,l2,h2,f2,hx2,rfl⟩
   exact ⟨_,[],rfl,rfl,rfl,z05,S2,s2,l2,h2,f2,hx2,rfl⟩
  ·simp only [ev0,ev,evV,List.cons_append,List.nil_append,List.getD_cons_zero,List.getD_cons_succ,List.map_cons,List.map_nil,iOf,bOf,sOf,pOf,slLen,z04,cmpI,arI,Value.ite_bool,z01,z03,z00,z02,z09,zdf] at g2
   obtain ⟨b,l,hbl⟩:∃b l,s.input=b::l:=by
    cases hi:s.input with
    | nil=>exact absurd hi g2
    | cons b l=>exact ⟨b,l,rfl⟩
   rw [show s.x.input=b::l from hbl] at hm
   simp only [Option.some.injEq] at hm
   have hl4:∀{S' K':PH} {s':MA},Held S' K' (machA mr hr s' J)→s'.input=s.input→rowAt K' (some ⟨mr,3,none⟩) [txt (b::l)]:=fun h' e'=>by rw [←hbl,←e'];exact mA_ld h' rfl
   have hbn:=b.toNat_lt
   have hw:IntKind.i64.wrap (b.toNat:Int)=(b.toNat:Int):=w64 (by omega) (by omega)
   have hb0:(((⟨(b::l).toArray⟩:ByteArray)[0]?).getD 0)=b:=rfl
   refine ⟨[txt (b::l)],rfl,by simp only [ev0,ev,evV,List.cons_append,List.nil_append,List.getD_cons_zero,List.getD_cons_succ,List.map_cons,List.map_nil,iOf,bOf,sOf,pOf,slLen,z04,cmpI,arI,Value.ite_bool,z01,z03,z00,z02];exact hl4 h rfl,fun _=>?_,?_⟩
   ·simp only [Chk.holds,ev0,ev,evV,List.cons_append,List.nil_append,List.getD_cons_zero,List.getD_cons_succ,List.map_cons,List.map_nil,iOf,bOf,sOf,pOf,slLen,z04,cmpI,arI,Value.ite_bool,z01,z03,z00,z02,z0t,zlc];omega
   simp only [List.cons_append,List.nil_append]
   have hcall:=tellK (v:=⟨1,(b.toNat:Int),[]⟩) (m2:=s.x.tell ⟨1,(b.toNat:Int),[]⟩) (PH.le_refl _) h hf (fitX (by decide) (by unfold InI;omega) (by decide)) hv0 rfl
   refine z08 z0d (R:=ATo mr hr J S (s.x.tell ⟨1,(b.toNat:Int),[]⟩) vNil) ?_ ?_
   ·have he:([pAt mr,valV ⟨1,(b.toNat:Int),[]⟩]:List Value).toArray=(List.map (evV [pAt mr,txt p,.slice ab args.length ac,txt s.input,txt (b::l)] fun _=>0) [VE.sc (.atom 0),VE.ag [.int .i64 1,.conv .i64 (.sidx (.atom 4) (.int .i64 0)),.str []]]).toArray:=by
     simp only [ev0,ev,evV,List.cons_append,List.nil_append,List.getD_cons_zero,List.getD_cons_succ,List.map_cons,List.map_nil,iOf,bOf,sOf,pOf,slLen,z04,cmpI,arI,Value.ite_bool,z01,z03,z00,z02,valV,valVs]
     simp [hb0,hw]
    exact he ▸ hcall
   rintro e K2 ⟨S2,s2,l2,h2,f2,hx2,rfl⟩
   refine ⟨_,[],rfl,rfl,rfl,z05,?_⟩
   have hin:s2.input=s.input:=by have:=congrArg AX.input hx2;exact this
   refine ⟨[txt (b::l)],rfl,by simp only [ev0,ev,evV,List.cons_append,List.nil_append,List.getD_cons_zero,List.getD_cons_succ,List.map_cons,List.map_nil,iOf,bOf,sOf,pOf,slLen,z04,cmpI,arI,Value.ite_bool,z01,z03,z00,z02];exact hl4 h2 hin,fun _=>?_,?_⟩
   ·simp only [Chk.holds,ev0,ev,evV,List.cons_append,List.nil_append,List.getD_cons_zero,List.getD_cons_succ,List.map_cons,List.map_nil,iOf,bOf,sOf,pOf,slLen,z04,cmpI,arI,Value.ite_bool,z01,z03,z00,z02,z0t,zlc];omega
   simp only [List.cons_append,List.nil_append]
   refine z0u (off:=3) (vs:=[txt l]) (by simp only [ev0,ev,evV,List.cons_append,List.nil_append,List.getD_cons_zero,List.getD_cons_succ,List.map_cons,List.map_nil,iOf,bOf,sOf,pOf,slLen,z04,cmpI,arI,Value.ite_bool,z01,z03,z00,z02];rfl) h2 ?_ (by
    intro u hu
    rw [List.mem_singleton.1 hu];rfl) (by simp [MA.cs]) fun K3 h3=>?_
   ·simp only [List.map_cons,List.map_nil,ev0,ev,evV,List.cons_append,List.nil_append,List.getD_cons_zero,List.getD_cons_succ,List.map_cons,List.map_nil,iOf,bOf,sOf,pOf,slLen,z04,cmpI,arI,Value.ite_bool,z01,z03,z00,z02,z0t]
    rw [show ((1:Int)).toNat=1 from rfl,Int.toNat_natCast,zg8]
    simp
   refine ⟨S2,{ s2 with input:=l },l2,h3,f2,?_,rfl⟩
   rw [←hm]
   show ({ s2.x with input:=l }:AX)=_
   rw [hx2];rfl
 simp only [ev0,ev,evV,List.cons_append,List.nil_append,List.getD_cons_zero,List.getD_cons_succ,List.map_cons,List.map_nil,iOf,bOf,sOf,pOf,slLen,z04,cmpI,arI,Value.ite_bool,z01,z03,z00,z02,z09,zdf] at g
 rw [if_neg g] at hm
 refine ⟨fun g2=>?_,fun g2=>?_⟩
 ·simp only [ev0,ev,evV,List.cons_append,List.nil_append,List.getD_cons_zero,List.getD_cons_succ,List.map_cons,List.map_nil,iOf,bOf,sOf,pOf,slLen,z04,cmpI,arI,Value.ite_bool,z01,z03,z00,z02,z09,zdt] at g2
  rw [if_pos g2] at hm
  cases ha:args[0]? with
  | none=>rw [ha] at hm;cases hm
  | some a=>
  rw [ha] at hm
  simp only [Option.map_some,Option.some.injEq] at hm
  have hal:=(List.getElem?_eq_some_iff.1 ha).1
  obtain ⟨y1,_,ycs,y2,y3⟩:=hargs.get ha
  obtain ⟨rfl,yf⟩:=z2q y2
  have y3':=z0b h.sh y3
  refine ⟨fun _=>?_,valVs a,rfl,by simp only [ev0,ev,evV,List.cons_append,List.nil_append,List.getD_cons_zero,List.getD_cons_succ,List.map_cons,List.map_nil,iOf,bOf,sOf,pOf,slLen,z04,cmpI,arI,Value.ite_bool,z01,z03,z00,z02];exact y3',fun g3=>?_,fun g3=>?_⟩
  ·simp only [Chk.holds,ev0,ev,evV,List.cons_append,List.nil_append,List.getD_cons_zero,List.getD_cons_succ,List.map_cons,List.map_nil,iOf,bOf,sOf,pOf,slLen,z04,cmpI,arI,Value.ite_bool,z01,z03,z00,z02];exact ⟨y1,by omega,by omega⟩
  ·simp only [ev0,ev,evV,List.cons_append,List.nil_append,List.getD_cons_zero,List.getD_cons_succ,List.map_cons,List.map_nil,iOf,bOf,sOf,pOf,slLen,z04,cmpI,arI,Value.ite_bool,z01,z03,z00,z02,ne_eq,decide_not,Bool.not_eq_true',zdf] at g3
   rw [if_pos g3] at hm
   refine ⟨fun _=>by simp [Chk.holds,ev0,ev,evV,List.cons_append,List.nil_append,List.getD_cons_zero,List.getD_cons_succ,List.map_cons,List.map_nil,iOf,bOf,sOf,pOf,slLen,z04,cmpI,arI,Value.ite_bool,z01,z03,z00,z02],?_⟩
   refine zb2 (e:=80) h (by simp only [ev0,ev,evV,List.cons_append,List.nil_append,List.getD_cons_zero,List.getD_cons_succ,List.map_cons,List.map_nil,iOf,bOf,sOf,pOf,slLen,z04,cmpI,arI,Value.ite_bool,z01,z03,z00,z02];rfl) (by simp only [ev0,ev,evV,List.cons_append,List.nil_append,List.getD_cons_zero,List.getD_cons_succ,List.map_cons,List.map_nil,iOf,bOf,sOf,pOf,slLen,z04,cmpI,arI,Value.ite_bool,z01,z03,z00,z02]) fun K2 h2=>⟨S,_,PH.le_refl _,h2,hf,?_,rfl⟩
   rw [←hm];rfl
  simp only [ev0,ev,evV,List.cons_append,List.nil_append,List.getD_cons_zero,List.getD_cons_succ,List.map_cons,List.map_nil,iOf,bOf,sOf,pOf,slLen,z04,cmpI,arI,Value.ite_bool,z01,z03,z00,z02,ne_eq,decide_not,Bool.not_eq_false',zdt] at g3
  rw [if_neg (fun hh=>hh g3)] at hm
  refine ⟨fun g4=>?_,fun g4=>?_⟩
  ·have g4':a.int < 0∨255 < a.int:=by simpa [ev0,ev,evV,List.cons_append,List.nil_append,List.getD_cons_zero,List.getD_cons_succ,List.map_cons,List.map_nil,iOf,bOf,sOf,pOf,slLen,z04,cmpI,arI,Value.ite_bool,z01,z03,z00,z02] using g4
   rw [if_pos g4'] at hm
   refine ⟨fun _=>by simp [Chk.holds,ev0,ev,evV,List.cons_append,List.nil_append,List.getD_cons_zero,List.getD_cons_succ,List.map_cons,List.map_nil,iOf,bOf,sOf,pOf,slLen,z04,cmpI,arI,Value.ite_bool,z01,z03,z00,z02],?_⟩
   refine zb2 (e:=83) h (by simp only [ev0,ev,evV,List.cons_append,List.nil_append,List.getD_cons_zero,List.getD_cons_succ,List.map_cons,List.map_nil,iOf,bOf,sOf,pOf,slLen,z04,cmpI,arI,Value.ite_bool,z01,z03,z00,z02];rfl) (by simp only [ev0,ev,evV,List.cons_append,List.nil_append,List.getD_cons_zero,List.getD_cons_succ,List.map_cons,List.map_nil,iOf,bOf,sOf,pOf,slLen,z04,cmpI,arI,Value.ite_bool,z01,z03,z00,z02]) fun K2 h2=>⟨S,_,PH.le_refl _,h2,hf,?_,rfl⟩
   rw [←hm];rfl
  have g4':¬(a.int < 0∨255 < a.int):=by
   intro hh
   have:(decide (a.int < 0) || decide (255 < a.int))=true:=by simpa using hh
   simp [ev0,ev,evV,List.cons_append,List.nil_append,List.getD_cons_zero,List.getD_cons_succ,List.map_cons,List.map_nil,iOf,bOf,sOf,pOf,slLen,z04,cmpI,arI,Value.ite_bool,z01,z03,z00,z02] at g4
   omega
  rw [if_neg g4'] at hm
  obtain ⟨ob,oc,hov⟩:=Z0k h
  have hl5:rowAt K (some ⟨mr,4,none⟩) [.slice ob s.out.length oc]:=by rw [←hov];exact mA_ld h rfl
  refine ⟨fun _=>by simp [Chk.holds,ev0,ev,evV,List.cons_append,List.nil_append,List.getD_cons_zero,List.getD_cons_succ,List.map_cons,List.map_nil,iOf,bOf,sOf,pOf,slLen,z04,cmpI,arI,Value.ite_bool,z01,z03,z00,z02],[.slice ob s.out.length oc],rfl,by simp only [ev0,ev,evV,List.cons_append,List.nil_append,List.getD_cons_zero,List.getD_cons_succ,List.map_cons,List.map_nil,iOf,bOf,sOf,pOf,slLen,z04,cmpI,arI,Value.ite_bool,z01,z03,z00,z02];exact hl5,?_⟩
  simp only [List.cons_append,List.nil_append]
  have h4:Held S K (orow 5 s.out (.slice ob s.out.length oc)::bxA mr hr s::rT s::rV s::rC s::rQ s::(heapI hr s.L s.thv++J)):=by rw [←hov];exact h.to5
  have hby:z32 a.int=UInt8.ofNat a.int.toNat:=by unfold z32;congr 1;omega
  refine z16 (b:=1) (more:=[z32 a.int]) [.int .u8 ((z32 a.int).toNat:Int)] zhv zlq rfl (by decide) (by decide) h4 ?_ (.cons (zww _ _) .nil) (z1x (by simp only [ev0,ev,evV,List.cons_append,List.nil_append,List.getD_cons_zero,List.getD_cons_succ,List.map_cons,List.map_nil,iOf,bOf,sOf,pOf,slLen,z04,cmpI,arI,Value.ite_bool,z01,z03,z00,z02];exact hl5)) (fun w=>by kernel_rfl) (fun w=>by kernel_rfl)
   (by simp only [maxLen,zlc,List.length_nil];omega) (by simp only [zlc,List.length_nil];omega) fun u7 v7 S7 K7 l7 h7=>⟨z05,?_⟩
  ·rw [←zzk];kernel_rfl
  simp only [List.cons_append,List.nil_append]
  obtain ⟨b7,c7,hv7⟩:=(h7.row (zms)).sl
  refine z0u (off:=4) (vs:=[v7]) (by simp only [ev0,ev,evV,List.cons_append,List.nil_append,List.getD_cons_zero,List.getD_cons_succ,List.map_cons,List.map_nil,iOf,bOf,sOf,pOf,slLen,z04,cmpI,arI,Value.ite_bool,z01,z03,z00,z02];rfl) h7.swap rfl (slOne ⟨_,_,_,hv7⟩) (by simp [MA.cs]) fun K8 h8=>?_
  have h9:Held S7 K8 (machA mr hr { s with out:=s.out++[z32 a.int],ov:=v7 } J):=h8.perm (List.Perm.cons _ (List.perm_middle (l₁:=[rT s,rV s,rC s,rQ s])).symm)
  refine z08 z0d (tellK (v:=vVoid) (m2:=m') l7 h9 hf zle hv0 (by rw [←hm,←hby];rfl)) ?_
  rintro e K2 ⟨S2,s2,l2,h2,f2,hx2,rfl⟩
  exact ⟨_,[],rfl,rfl,rfl,z05,S2,s2,l2,h2,f2,hx2,rfl⟩
 simp only [ev0,ev,evV,List.cons_append,List.nil_append,List.getD_cons_zero,List.getD_cons_succ,List.map_cons,List.map_nil,iOf,bOf,sOf,pOf,slLen,z04,cmpI,arI,Value.ite_bool,z01,z03,z00,z02,z09,zdf] at g2
 rw [if_neg g2] at hm
 refine ⟨fun g3=>?_,fun g3=>?_⟩
 ·simp only [ev0,ev,evV,List.cons_append,List.nil_append,List.getD_cons_zero,List.getD_cons_succ,List.map_cons,List.map_nil,iOf,bOf,sOf,pOf,slLen,z04,cmpI,arI,Value.ite_bool,z01,z03,z00,z02,z09,zdt] at g3
  rw [if_pos g3] at hm
  simp only [Option.some.injEq] at hm
  refine ⟨fun _=>by simp [Chk.holds,ev0,ev,evV,List.cons_append,List.nil_append,List.getD_cons_zero,List.getD_cons_succ,List.map_cons,List.map_nil,iOf,bOf,sOf,pOf,slLen,z04,cmpI,arI,Value.ite_bool,z01,z03,z00,z02],?_⟩
  refine zb2 (e:=92) h (by simp only [ev0,ev,evV,List.cons_append,List.nil_append,List.getD_cons_zero,List.getD_cons_succ,List.map_cons,List.map_nil,iOf,bOf,sOf,pOf,slLen,z04,cmpI,arI,Value.ite_bool,z01,z03,z00,z02];rfl) (by simp only [ev0,ev,evV,List.cons_append,List.nil_append,List.getD_cons_zero,List.getD_cons_succ,List.map_cons,List.map_nil,iOf,bOf,sOf,pOf,slLen,z04,cmpI,arI,Value.ite_bool,z01,z03,z00,z02]) fun K2 h2=>⟨S,_,PH.le_refl _,h2,hf,?_,rfl⟩
  rw [←hm];rfl
 simp only [ev0,ev,evV,List.cons_append,List.nil_append,List.getD_cons_zero,List.getD_cons_succ,List.map_cons,List.map_nil,iOf,bOf,sOf,pOf,slLen,z04,cmpI,arI,Value.ite_bool,z01,z03,z00,z02,z09,zdf] at g3
 rw [if_neg g3] at hm
 refine ⟨fun g4=>?_,fun g4=>?_⟩
 ·simp only [ev0,ev,evV,List.cons_append,List.nil_append,List.getD_cons_zero,List.getD_cons_succ,List.map_cons,List.map_nil,iOf,bOf,sOf,pOf,slLen,z04,cmpI,arI,Value.ite_bool,z01,z03,z00,z02,z09,zdt] at g4
  rw [if_pos g4] at hm
  simp only [Option.some.injEq] at hm
  refine ⟨fun _=>by simp [Chk.holds,ev0,ev,evV,List.cons_append,List.nil_append,List.getD_cons_zero,List.getD_cons_succ,List.map_cons,List.map_nil,iOf,bOf,sOf,pOf,slLen,z04,cmpI,arI,Value.ite_bool,z01,z03,z00,z02],valVs s.w,rfl,by simp only [ev0,ev,evV,List.cons_append,List.nil_append,List.getD_cons_zero,List.getD_cons_succ,List.map_cons,List.map_nil,iOf,bOf,sOf,pOf,slLen,z04,cmpI,arI,Value.ite_bool,z01,z03,z00,z02];exact mA_ld h rfl,?_⟩
  simp only [List.cons_append,List.nil_append]
  refine z08 z0d (tellK (v:=s.w) (PH.le_refl _) h hf hf hv0 hm) ?_
  rintro e K2 ⟨S2,s2,l2,h2,f2,hx2,rfl⟩
  exact ⟨_,[],rfl,rfl,rfl,z05,S2,s2,l2,h2,f2,hx2,rfl⟩
 simp only [ev0,ev,evV,List.cons_append,List.nil_append,List.getD_cons_zero,List.getD_cons_succ,List.map_cons,List.map_nil,iOf,bOf,sOf,pOf,slLen,z04,cmpI,arI,Value.ite_bool,z01,z03,z00,z02,z09,zdf] at g4
 rw [if_neg g4] at hm
 refine ⟨fun g5=>?_,fun g5=>?_⟩
 ·simp only [ev0,ev,evV,List.cons_append,List.nil_append,List.getD_cons_zero,List.getD_cons_succ,List.map_cons,List.map_nil,iOf,bOf,sOf,pOf,slLen,z04,cmpI,arI,Value.ite_bool,z01,z03,z00,z02,z09,zdt] at g5
  rw [if_pos g5] at hm
  cases ha:args[0]? with
  | none=>rw [ha] at hm;cases hm
  | some a=>
  rw [ha] at hm
  simp only [Option.map_some,Option.some.injEq] at hm
  have hal:=(List.getElem?_eq_some_iff.1 ha).1
  obtain ⟨y1,_,ycs,y2,y3⟩:=hargs.get ha
  obtain ⟨rfl,yf⟩:=z2q y2
  refine ⟨fun _=>?_,valVs a,rfl,by simp only [ev0,ev,evV,List.cons_append,List.nil_append,List.getD_cons_zero,List.getD_cons_succ,List.map_cons,List.map_nil,iOf,bOf,sOf,pOf,slLen,z04,cmpI,arI,Value.ite_bool,z01,z03,z00,z02];exact z0b h.sh y3,fun _=>by simp [Chk.holds,ev0,ev,evV,List.cons_append,List.nil_append,List.getD_cons_zero,List.getD_cons_succ,List.map_cons,List.map_nil,iOf,bOf,sOf,pOf,slLen,z04,cmpI,arI,Value.ite_bool,z01,z03,z00,z02],?_⟩
  ·simp only [Chk.holds,ev0,ev,evV,List.cons_append,List.nil_append,List.getD_cons_zero,List.getD_cons_succ,List.map_cons,List.map_nil,iOf,bOf,sOf,pOf,slLen,z04,cmpI,arI,Value.ite_bool,z01,z03,z00,z02];exact ⟨y1,by omega,by omega⟩
  simp only [List.cons_append,List.nil_append]
  refine z0u (off:=5) (vs:=valVs a) (by simp only [ev0,ev,evV,List.cons_append,List.nil_append,List.getD_cons_zero,List.getD_cons_succ,List.map_cons,List.map_nil,iOf,bOf,sOf,pOf,slLen,z04,cmpI,arI,Value.ite_bool,z01,z03,z00,z02];rfl) h (by simp only [List.map_cons,List.map_nil,ev0,ev,evV,List.cons_append,List.nil_append,List.getD_cons_zero,List.getD_cons_succ,List.map_cons,List.map_nil,iOf,bOf,sOf,pOf,slLen,z04,cmpI,arI,Value.ite_bool,z01,z03,z00,z02]) (by
   intro u hu
   simp only [List.mem_cons,List.not_mem_nil,or_false] at hu
   rcases hu with rfl | rfl | rfl<;>rfl) (by simp [MA.cs]) fun K1 h1=>?_
  have h9:Held S K1 (machA mr hr { s with w:=a } J):=h1
  refine z08 z0d (tellK (v:=vVoid) (m2:=m') (PH.le_refl _) h9 yf zle hv0 (by rw [←hm];rfl)) ?_
  rintro e K2 ⟨S2,s2,l2,h2,f2,hx2,rfl⟩
  exact ⟨_,[],rfl,rfl,rfl,z05,S2,s2,l2,h2,f2,hx2,rfl⟩
 simp only [ev0,ev,evV,List.cons_append,List.nil_append,List.getD_cons_zero,List.getD_cons_succ,List.map_cons,List.map_nil,iOf,bOf,sOf,pOf,slLen,z04,cmpI,arI,Value.ite_bool,z01,z03,z00,z02,z09,zdf] at g5
 rw [if_neg g5] at hm
 refine ⟨fun g6=>?_,fun g6=>?_⟩
 ·simp only [ev0,ev,evV,List.cons_append,List.nil_append,List.getD_cons_zero,List.getD_cons_succ,List.map_cons,List.map_nil,iOf,bOf,sOf,pOf,slLen,z04,cmpI,arI,Value.ite_bool,z01,z03,z00,z02,z09,zdt] at g6
  rw [if_pos g6] at hm;cases hm
 simp only [ev0,ev,evV,List.cons_append,List.nil_append,List.getD_cons_zero,List.getD_cons_succ,List.map_cons,List.map_nil,iOf,bOf,sOf,pOf,slLen,z04,cmpI,arI,Value.ite_bool,z01,z03,z00,z02,z09,zdf] at g6
 rw [if_neg g6] at hm
 simp only [Option.some.injEq] at hm
 refine ⟨fun _=>by simp [Chk.holds,ev0,ev,evV,List.cons_append,List.nil_append,List.getD_cons_zero,List.getD_cons_succ,List.map_cons,List.map_nil,iOf,bOf,sOf,pOf,slLen,z04,cmpI,arI,Value.ite_bool,z01,z03,z00,z02],[pAt hr],rfl,by simp only [ev0,ev,evV,List.cons_append,List.nil_append,List.getD_cons_zero,List.getD_cons_succ,List.map_cons,List.map_nil,iOf,bOf,sOf,pOf,slLen,z04,cmpI,arI,Value.ite_bool,z01,z03,z00,z02];exact mA_ld h rfl,?_⟩
 simp only [List.cons_append,List.nil_append]
 obtain ⟨R,hR⟩:∃R,R=doX (hpX s.L) p args:=⟨_,rfl⟩
 refine z08 zbs (HpTo.beside (zz5 h) fun K hK=>Z3p hr s.L s.thv p args _ S K hK hargs hh hL) ?_
 rintro x K1 ⟨rfl,S1,L1,thv1,l1,h2,hL1⟩
 have hgood:=Z0h (h:=hpX s.L) hh p args
 have hlen:=Z3w (hpX s.L) p args
 rw [←hR] at hL1 hgood hlen ⊢
 have hfit:VFit R.2.1:=Z31 (n:=R.1.length) (by simp only [hpX,List.length_map] at hlen;omega) hgood.2.2
 refine ⟨_,valVs R.2.1++[Value.int .i64 R.2.2],rfl,rfl,rfl,z05,?_⟩
 simp only [List.cons_append,List.nil_append]
 have h3:=zyu h2
 refine zb2 (e:=R.2.2) h3 (by simp only [ev0,ev,evV,List.cons_append,List.nil_append,List.getD_cons_zero,List.getD_cons_succ,List.map_cons,List.map_nil,iOf,bOf,sOf,pOf,slLen,z04,cmpI,arI,Value.ite_bool,z01,z03,z00,z02];rfl) (by simp only [ev0,ev,evV,List.cons_append,List.nil_append,List.getD_cons_zero,List.getD_cons_succ,List.map_cons,List.map_nil,iOf,bOf,sOf,pOf,slLen,z04,cmpI,arI,Value.ite_bool,z01,z03,z00,z02]) fun K2 h4=>?_
 refine z08 z0d (tellK (v:=R.2.1) (m2:=m') l1 h4 hf hfit hv0 (by
  rw [←hm]
  show (AX.tell { s.x with h:=hpX L1,e:=R.2.2 } R.2.1)=_
  rw [hL1,hR];rfl)) ?_
 rintro e K3 ⟨S2,s2,l2,h5,f2,hx2,rfl⟩
 exact ⟨_,[],rfl,rfl,rfl,z05,S2,s2,l2,h5,f2,hx2,rfl⟩
end
theorem zy3 {d:Dat} {H:PH} {cs:List Value} (h:d.Rep H cs):VFit (z2w d):=by
 obtain ⟨sv,_,h1,h2,h3,_⟩:=Dat.Rep_iff.1 h
 have hx:maxLen=9223372036854775807:=rfl
 have a0:VFit vNone:=by unfold VFit vNone InI maxLen;simp
 unfold z2w
 split
 ·exact a0
 split
 ·exact fitX h1 h2 (by simp)
 split
 ·exact fitX (by decide) (by decide) h3
 split
 ·exact fitX (by decide) (by decide) (by simp)
 ·exact a0
theorem ATo.le {mr hr:Nat} {J:List Itm} {S S1:PH} {m:AX} {r:Value} {e:Ending} {K:PH} (l:PH.le S S1) (h:ATo mr hr J S1 m r e K):ATo mr hr J S m r e K:=by
 obtain ⟨S2,s2,l2,h2⟩:=h
 exact ⟨S2,s2,PH.le_trans l l2,h2⟩
theorem zja {α:Type} {l:List α} {i:Int} {k:Nat} (h:z7j l i=some k):i=(k:Int)∧k < l.length:=by
 unfold z7j at h
 split at h
 ·rename_i hi
  cases h
  omega
 ·cases h
theorem Z0a {l:List Xp} {k:Nat} {a:Xp} (h:l[k]?=some a) (env:List VarX):seqT (l.drop k) env=seqT (l.drop (k+1)) env++[tdA 1 0,tdE a env]:=by
 obtain ⟨hk,he⟩:=List.getElem?_eq_some_iff.1 h
 rw [List.drop_eq_getElem_cons hk,he]
 simp [seqT]
theorem Z2w (l:List Xp) (env:List VarX):(seqT l env).length=2 * l.length:=by
 unfold seqT
 have hl:l.length=l.reverse.length:=List.length_reverse.symm
 rw [hl]
 generalize l.reverse=r
 induction r with
 | nil=>rfl
 | cons a r ih=>rw [List.flatMap_cons,zla,ih];simp only [zlc,List.length_nil];omega
section
variable {S K:PH} {mr hr:Nat} {s:MA} {J:List Itm}
theorem z5g {s1 s2:MA} {T:List TdX} (h:s2.x=s1.x.push T):s2.todo.length=s1.todo.length+T.length:=by
 have:=congrArg (fun m:AX=>m.todo.length) h
 simp only [AX.push,zla] at this
 exact this
theorem zzq {s0:MA} (h0:Held S K (machA mr hr s0 J)) (hf0:AFit s0) (hL:s0.L.length≤16777216) (hQ:s0.procs.length≤16777216) (hc:s0.cells.length≤4294967296) (ht:s0.todo.length≤8570000000) (hv0:s0.vals.length≤8570000000) (hst:s0.steps≤4294967296)
  {e:Xp} {nb db kb eb:Option Addr} {nc dc kc ec:Nat} {env:List VarX} (hx:ExV S e nb db kb nc dc kc) (he:SlR S env (.slice eb env.length ec)) {m':AX} (hm:s0.x.eval e env=some m') :
  Tri Tryz.prog z9e #[pAt mr,.agg (exVs e nb db kb nc dc kc).toArray,.slice eb env.length ec] K (ATo mr hr J S m' vNil):=by
 refine z84 (pAt mr::(exVs e nb db kb nc dc kc++[.slice eb env.length ec])) (by kernel_rfl) (by kernel_rfl) ?_
 simp only [List.cons_append,List.nil_append]
 have ret:∀{x:Ending} {K2:PH} {m2:AX},ATo mr hr J S m2 vNil x K2→m2=m'→∃v vs,x=.returned v∧z0c [] vs=true∧v=.tuple #[]∧ATo mr hr J S m' vNil x K2:=fun h1 h2=>by
  subst h2
  obtain ⟨S2,s2,l2,h3,f2,hx2,rfl⟩:=h1
  exact ⟨_,[],rfl,rfl,rfl,S2,s2,l2,h3,f2,hx2,rfl⟩
 refine ⟨fun _=>by simp [Chk.holds,ev0,ev,evV,List.cons_append,List.nil_append,List.getD_cons_zero,List.getD_cons_succ,List.map_cons,List.map_nil,iOf,bOf,sOf,pOf,slLen,z04,cmpI,arI,Value.ite_bool,z01,z03,z00,z02],[nI s0.steps],rfl,by simp only [ev0,ev,evV,List.cons_append,List.nil_append,List.getD_cons_zero,List.getD_cons_succ,List.map_cons,List.map_nil,iOf,bOf,sOf,pOf,slLen,z04,cmpI,arI,Value.ite_bool,z01,z03,z00,z02];exact mA_ld h0 rfl,[nI s0.most],rfl,by simp only [ev0,ev,evV,List.cons_append,List.nil_append,List.getD_cons_zero,List.getD_cons_succ,List.map_cons,List.map_nil,iOf,bOf,sOf,pOf,slLen,z04,cmpI,arI,Value.ite_bool,z01,z03,z00,z02];exact mA_ld h0 rfl,?_⟩
 simp only [List.cons_append,List.nil_append]
 unfold AX.eval at hm
 refine ⟨fun g=>?_,fun g=>?_⟩
 ·simp only [ev0,ev,evV,List.cons_append,List.nil_append,List.getD_cons_zero,List.getD_cons_succ,List.map_cons,List.map_nil,iOf,bOf,sOf,pOf,slLen,z04,cmpI,arI,Value.ite_bool,z01,z03,z00,z02,zdt] at g
  rw [if_pos (show s0.x.steps=s0.x.most from by show s0.steps=s0.most;omega)] at hm
  simp only [Option.some.injEq] at hm
  refine zb2 (e:=93) h0 (by simp only [ev0,ev,evV,List.cons_append,List.nil_append,List.getD_cons_zero,List.getD_cons_succ,List.map_cons,List.map_nil,iOf,bOf,sOf,pOf,slLen,z04,cmpI,arI,Value.ite_bool,z01,z03,z00,z02];rfl) (by simp only [ev0,ev,evV,List.cons_append,List.nil_append,List.getD_cons_zero,List.getD_cons_succ,List.map_cons,List.map_nil,iOf,bOf,sOf,pOf,slLen,z04,cmpI,arI,Value.ite_bool,z01,z03,z00,z02]) fun K2 h2=>⟨S,_,PH.le_refl _,h2,hf0,?_,rfl⟩
  rw [←hm];rfl
 simp only [ev0,ev,evV,List.cons_append,List.nil_append,List.getD_cons_zero,List.getD_cons_succ,List.map_cons,List.map_nil,iOf,bOf,sOf,pOf,slLen,z04,cmpI,arI,Value.ite_bool,z01,z03,z00,z02,zdf] at g
 rw [if_neg (show ¬s0.x.steps=s0.x.most from by show ¬s0.steps=s0.most;omega)] at hm
 by_cases hbig:1000000 < e.kids.length∨1000000 < e.names.length∨4294967296 < env.length
 ·rw [if_pos hbig] at hm;cases hm
 rw [if_neg hbig] at hm
 have hkl:e.kids.length≤1000000:=by omega
 have hnl:e.names.length≤1000000:=by omega
 have hel:env.length≤4294967296:=by omega
 refine ⟨[nI s0.steps],rfl,by simp only [ev0,ev,evV,List.cons_append,List.nil_append,List.getD_cons_zero,List.getD_cons_succ,List.map_cons,List.map_nil,iOf,bOf,sOf,pOf,slLen,z04,cmpI,arI,Value.ite_bool,z01,z03,z00,z02];exact mA_ld h0 rfl,?_⟩
 simp only [List.cons_append,List.nil_append]
 refine z0u (off:=8) (vs:=[nI (s0.steps+1)]) (by simp only [ev0,ev,evV,List.cons_append,List.nil_append,List.getD_cons_zero,List.getD_cons_succ,List.map_cons,List.map_nil,iOf,bOf,sOf,pOf,slLen,z04,cmpI,arI,Value.ite_bool,z01,z03,z00,z02];rfl) h0 (by simp only [List.map_cons,List.map_nil,ev0,ev,evV,List.cons_append,List.nil_append,List.getD_cons_zero,List.getD_cons_succ,List.map_cons,List.map_nil,iOf,bOf,sOf,pOf,slLen,z04,cmpI,arI,Value.ite_bool,z01,z03,z00,z02,up9 (by omega:s0.steps < 9223372036854775807)]) (by
  intro u hu
  rw [List.mem_singleton.1 hu];rfl) (by simp [MA.cs]) fun K1 h1=>?_
 obtain ⟨s,hs1⟩:∃s:MA,s={ s0 with steps:=s0.steps+1 }:=⟨_,rfl⟩
 have h:Held S K1 (machA mr hr s J):=by subst hs1;exact h1
 have hf:AFit s:=by rw [hs1];exact hf0
 have hm1:({ s0.x with steps:=s0.x.steps+1 }:AX)=s.x:=by rw [hs1];rfl
 simp only [hm1] at hm
 have hL1:s.L.length≤16777216:=by rw [hs1];exact hL
 have hQ1:s.procs.length≤16777216:=by rw [hs1];exact hQ
 have hc1:s.cells.length≤4294967296:=by rw [hs1];exact hc
 have ht1:s.todo.length≤8570000000:=by rw [hs1];exact ht
 have hv1:s.vals.length≤8570000000:=by rw [hs1];exact hv0
 have hcel:s0.x.cells=s.cells:=by rw [hs1];rfl
 rw [hcel] at hm
 clear hst hL hQ hc ht hv0 hm1 hcel h1 hs1 h0 hf0 g
 have kid:∀{j:Nat} {a:Xp},e.kids[j]?=some a→(z04 (.slice kb e.kids.length kc)).isSome=true∧∃anb adb akb anc adc akc,ExV S a anb adb akb anc adc akc∧rowAt S (pOf (eltV (.slice kb e.kids.length kc) (j:Int) 8)) (exVs a anb adb akb anc adc akc):=fun hj=>by
  obtain ⟨x1,_,xs,x2,x3⟩:=hx.kids.get hj
  obtain ⟨anb,adb,akb,anc,adc,akc,rfl,hxa⟩:=Xp.Rep.open x2
  exact ⟨x1,anb,adb,akb,anc,adc,akc,hxa,x3⟩
 refine ⟨fun g0=>?_,fun g0=>?_⟩
 ·simp only [ev0,ev,evV,List.cons_append,List.nil_append,List.getD_cons_zero,List.getD_cons_succ,List.map_cons,List.map_nil,iOf,bOf,sOf,pOf,slLen,z04,cmpI,arI,Value.ite_bool,z01,z03,z00,z02,zdt] at g0
  rw [if_pos g0] at hm
  simp only [Option.some.injEq] at hm
  refine z08 zfq (h.pure (R:=fun x _=>∃b,x=.returned (.tuple #[valV (z2w e.const),.bool b])) (zxz e.const _ S hx.const)) ?_
  rintro x K2 ⟨S2,l2,h2,b,rfl⟩
  refine ⟨_,valVs (z2w e.const)++[Value.bool b],rfl,rfl,rfl,z05,?_⟩
  simp only [List.cons_append,List.nil_append]
  refine z08 z0d (z8m (v:=z2w e.const) h2 hf (zy3 hx.const) (by omega)) ?_
  rintro x K3 h3
  obtain ⟨v,vs,rfl,e1,rfl,e2⟩:=ret (h3.le l2) hm
  exact ⟨_,[],rfl,rfl,rfl,z05,e2⟩
 simp only [ev0,ev,evV,List.cons_append,List.nil_append,List.getD_cons_zero,List.getD_cons_succ,List.map_cons,List.map_nil,iOf,bOf,sOf,pOf,slLen,z04,cmpI,arI,Value.ite_bool,z01,z03,z00,z02,zdf] at g0
 rw [if_neg g0] at hm
 refine ⟨fun g1=>?_,fun g1=>?_⟩
 ·simp only [ev0,ev,evV,List.cons_append,List.nil_append,List.getD_cons_zero,List.getD_cons_succ,List.map_cons,List.map_nil,iOf,bOf,sOf,pOf,slLen,z04,cmpI,arI,Value.ite_bool,z01,z03,z00,z02,zdt] at g1
  rw [if_pos g1] at hm
  cases hp:z7j s.cells (cellX env e.name) with
  | none=>rw [hp] at hm;cases hm
  | some k=>
  rw [hp] at hm
  simp only [Option.map_some,Option.some.injEq] at hm
  obtain ⟨hk1,hk2⟩:=zja hp
  obtain ⟨cb,cc,hcv⟩:=zp6 h
  obtain ⟨a,ha⟩:∃a,s.cells[k]?=some a:=⟨_,zge hk2⟩
  have had:s.cells.getD k default=a:=by rw [zgd,ha];rfl
  rw [had] at hm
  have hl1:rowAt K1 (some ⟨mr,1,none⟩) [.slice cb s.cells.length cc]:=by rw [←hcv];exact mA_ld h rfl
  obtain ⟨x1,_,xs,x2,x3⟩:=(h.to3.row (zms)).get ha
  obtain ⟨rfl,xf⟩:=z2q x2
  rw [hcv] at x1 x3
  refine ⟨[.slice cb s.cells.length cc],rfl,by simp only [ev0,ev,evV,List.cons_append,List.nil_append,List.getD_cons_zero,List.getD_cons_succ,List.map_cons,List.map_nil,iOf,bOf,sOf,pOf,slLen,z04,cmpI,arI,Value.ite_bool,z01,z03,z00,z02];exact hl1,?_⟩
  simp only [List.cons_append,List.nil_append]
  refine z07 [.int .i64 (cellX env e.name)] z41 (zgv env _ e.name K1 (he.le h.sh)) rfl (z1x (by simp only [ev0,ev,evV,List.cons_append,List.nil_append,List.getD_cons_zero,List.getD_cons_succ,List.map_cons,List.map_nil,iOf,bOf,sOf,pOf,slLen,z04,cmpI,arI,Value.ite_bool,z01,z03,z00,z02];exact hl1)) fun K2 l2=>?_
  have h2:=h.le l2
  simp only [List.cons_append,List.nil_append]
  refine ⟨fun _=>?_,valVs a,rfl,by simp only [ev0,ev,evV,List.cons_append,List.nil_append,List.getD_cons_zero,List.getD_cons_succ,List.map_cons,List.map_nil,iOf,bOf,sOf,pOf,slLen,z04,cmpI,arI,Value.ite_bool,z01,z03,z00,z02,hk1];exact z0b l2 x3,?_⟩
  ·simp only [Chk.holds,ev0,ev,evV,List.cons_append,List.nil_append,List.getD_cons_zero,List.getD_cons_succ,List.map_cons,List.map_nil,iOf,bOf,sOf,pOf,slLen,z04,cmpI,arI,Value.ite_bool,z01,z03,z00,z02,hk1];exact ⟨x1,by omega,by omega⟩
  simp only [List.cons_append,List.nil_append]
  refine z08 z0d (z8m (v:=a) h2 hf xf (by omega)) ?_
  rintro x K3 h3
  obtain ⟨v,vs,rfl,e1,rfl,e2⟩:=ret h3 hm
  exact ⟨_,[],rfl,rfl,rfl,z05,e2⟩
 simp only [ev0,ev,evV,List.cons_append,List.nil_append,List.getD_cons_zero,List.getD_cons_succ,List.map_cons,List.map_nil,iOf,bOf,sOf,pOf,slLen,z04,cmpI,arI,Value.ite_bool,z01,z03,z00,z02,zdf] at g1
 rw [if_neg g1] at hm
 refine ⟨fun g2=>?_,fun g2=>?_⟩
 ·simp only [ev0,ev,evV,List.cons_append,List.nil_append,List.getD_cons_zero,List.getD_cons_succ,List.map_cons,List.map_nil,iOf,bOf,sOf,pOf,slLen,z04,cmpI,arI,Value.ite_bool,z01,z03,z00,z02,zdt] at g2
  rw [if_pos g2] at hm
  cases hk:e.kids[0]? with
  | none=>rw [hk] at hm;cases hm
  | some a=>
  rw [hk] at hm
  simp only [Option.map_some,Option.some.injEq] at hm
  have hk0:=(List.getElem?_eq_some_iff.1 hk).1
  obtain ⟨x1,anb,adb,akb,anc,adc,akc,hxa,x3⟩:=kid hk
  refine z07 [.int .i64 (cellX env e.name)] z41 (zgv env _ e.name K1 (he.le h.sh)) rfl z05 fun K2 l2=>?_
  have h2:=h.le l2
  simp only [List.cons_append,List.nil_append]
  refine z08 z0a (zfv (act:=2) (at_:=cellX env e.name) h2 hf (by decide) (ztn he e.name) (by omega)) ?_
  rintro x K3 ⟨S3,s3,l3,h3,f3,hx3,rfl⟩
  have htl:=z5g hx3
  simp only [zlc,List.length_nil] at htl
  refine ⟨_,[],rfl,rfl,rfl,z05,?_⟩
  simp only [List.append_nil]
  refine ⟨fun _=>?_,exVs a anb adb akb anc adc akc,rfl,by simp only [ev0,ev,evV,List.cons_append,List.nil_append,List.getD_cons_zero,List.getD_cons_succ,List.map_cons,List.map_nil,iOf,bOf,sOf,pOf,slLen,z04,cmpI,arI,Value.ite_bool,z01,z03,z00,z02];exact z0b h3.sh (z0b l3 x3),?_⟩
  ·simp only [Chk.holds,ev0,ev,evV,List.cons_append,List.nil_append,List.getD_cons_zero,List.getD_cons_succ,List.map_cons,List.map_nil,iOf,bOf,sOf,pOf,slLen,z04,cmpI,arI,Value.ite_bool,z01,z03,z00,z02];exact ⟨x1,by omega,by omega⟩
  simp only [List.cons_append,List.nil_append]
  refine z08 z0a (z2e (e:=a) (env:=env) h3 f3 (exvLe l3 hxa) (he.le l3) (by omega)) ?_
  rintro x K4 h4
  obtain ⟨v,vs,rfl,e1,rfl,e2⟩:=ret (h4.le l3) (by rw [hx3,z2x];exact hm)
  exact ⟨_,[],rfl,rfl,rfl,z05,e2⟩
 simp only [ev0,ev,evV,List.cons_append,List.nil_append,List.getD_cons_zero,List.getD_cons_succ,List.map_cons,List.map_nil,iOf,bOf,sOf,pOf,slLen,z04,cmpI,arI,Value.ite_bool,z01,z03,z00,z02,zdf] at g2
 rw [if_neg g2] at hm
 refine ⟨fun g3=>?_,fun g3=>?_⟩
 ·simp only [ev0,ev,evV,List.cons_append,List.nil_append,List.getD_cons_zero,List.getD_cons_succ,List.map_cons,List.map_nil,iOf,bOf,sOf,pOf,slLen,z04,cmpI,arI,Value.ite_bool,z01,z03,z00,z02,zdt] at g3
  rw [if_pos g3] at hm
  cases hk:e.kids[0]? with
  | none=>rw [hk] at hm;cases hm
  | some a=>
  rw [hk] at hm
  simp only [Option.map_some,Option.some.injEq] at hm
  have hk0:=(List.getElem?_eq_some_iff.1 hk).1
  obtain ⟨x1,anb,adb,akb,anc,adc,akc,hxa,x3⟩:=kid hk
  refine z08 z0a (zlb (act:=3) (at_:=0) (e:=e) (env:=env) h hf (by decide) hx he (by decide) (by omega)) ?_
  rintro x K3 ⟨S3,s3,l3,h3,f3,hx3,rfl⟩
  have htl:=z5g hx3
  simp only [zlc,List.length_nil] at htl
  refine ⟨_,[],rfl,rfl,rfl,z05,?_⟩
  simp only [List.append_nil]
  refine ⟨fun _=>?_,exVs a anb adb akb anc adc akc,rfl,by simp only [ev0,ev,evV,List.cons_append,List.nil_append,List.getD_cons_zero,List.getD_cons_succ,List.map_cons,List.map_nil,iOf,bOf,sOf,pOf,slLen,z04,cmpI,arI,Value.ite_bool,z01,z03,z00,z02];exact z0b h3.sh (z0b l3 x3),?_⟩
  ·simp only [Chk.holds,ev0,ev,evV,List.cons_append,List.nil_append,List.getD_cons_zero,List.getD_cons_succ,List.map_cons,List.map_nil,iOf,bOf,sOf,pOf,slLen,z04,cmpI,arI,Value.ite_bool,z01,z03,z00,z02];exact ⟨x1,by omega,by omega⟩
  simp only [List.cons_append,List.nil_append]
  refine z08 z0a (z2e (e:=a) (env:=env) h3 f3 (exvLe l3 hxa) (he.le l3) (by omega)) ?_
  rintro x K4 h4
  obtain ⟨v,vs,rfl,e1,rfl,e2⟩:=ret (h4.le l3) (by rw [hx3,z2x];exact hm)
  exact ⟨_,[],rfl,rfl,rfl,z05,e2⟩
 simp only [ev0,ev,evV,List.cons_append,List.nil_append,List.getD_cons_zero,List.getD_cons_succ,List.map_cons,List.map_nil,iOf,bOf,sOf,pOf,slLen,z04,cmpI,arI,Value.ite_bool,z01,z03,z00,z02,zdf] at g3
 rw [if_neg g3] at hm
 refine ⟨fun g4=>?_,fun g4=>?_⟩
 ·simp only [ev0,ev,evV,List.cons_append,List.nil_append,List.getD_cons_zero,List.getD_cons_succ,List.map_cons,List.map_nil,iOf,bOf,sOf,pOf,slLen,z04,cmpI,arI,Value.ite_bool,z01,z03,z00,z02,zdt] at g4
  rw [if_pos g4] at hm
  cases hk:e.kids.getLast? with
  | none=>rw [hk] at hm;cases hm
  | some a=>
  rw [hk] at hm
  simp only [Option.map_some,Option.some.injEq] at hm
  rw [List.getLast?_eq_getElem?] at hk
  have hk0:=(List.getElem?_eq_some_iff.1 hk).1
  have hw1:IntKind.i64.wrap ((e.kids.length:Int) - 1)=((e.kids.length - 1:Nat):Int):=by rw [w64 (by omega) (by omega)];omega
  obtain ⟨x1,anb,adb,akb,anc,adc,akc,hxa,x3⟩:=kid hk
  refine ⟨fun _=>?_,exVs a anb adb akb anc adc akc,rfl,by simp only [ev0,ev,evV,List.cons_append,List.nil_append,List.getD_cons_zero,List.getD_cons_succ,List.map_cons,List.map_nil,iOf,bOf,sOf,pOf,slLen,z04,cmpI,arI,Value.ite_bool,z01,z03,z00,z02,hw1];exact z0b h.sh x3,?_⟩
  ·simp only [Chk.holds,ev0,ev,evV,List.cons_append,List.nil_append,List.getD_cons_zero,List.getD_cons_succ,List.map_cons,List.map_nil,iOf,bOf,sOf,pOf,slLen,z04,cmpI,arI,Value.ite_bool,z01,z03,z00,z02,hw1];exact ⟨x1,by omega,by omega⟩
  simp only [List.cons_append,List.nil_append]
  refine z08 z0a (z2e (e:=a) (env:=env) h hf hxa he (by omega)) ?_
  rintro x K3 ⟨S3,s3,l3,h3,f3,hx3,rfl⟩
  have htl:=z5g hx3
  simp only [zlc,List.length_nil] at htl
  refine ⟨_,[],rfl,rfl,rfl,z05,?_⟩
  simp only [List.append_nil]
  have hdl:e.kids.dropLast.length=e.kids.length - 1:=List.length_dropLast
  have hdg:∀{j:Nat},j < e.kids.length - 1→e.kids.dropLast[j]?=e.kids[j]?:=fun hj=>by
   rw [List.getElem?_dropLast,if_pos hj]
  refine ⟨fun n vs K4=>∃(S4:PH) (s4:MA),vs=[.int .i64 ((n:Int) - 1)]∧n≤e.kids.length - 1∧PH.le S S4∧Held S4 K4 (machA mr hr s4 J)∧AFit s4∧s4.x=s.x.push (tdE a env::seqT (e.kids.dropLast.drop n) env),⟨e.kids.length - 1,S3,s3,?_,Nat.le_refl _,l3,h3,f3,?_⟩,?_⟩
  ·simp only [ev0,ev,evV,List.cons_append,List.nil_append,List.getD_cons_zero,List.getD_cons_succ,List.map_cons,List.map_nil,iOf,bOf,sOf,pOf,slLen,z04,cmpI,arI,Value.ite_bool,z01,z03,z00,z02];rw [w64 (by omega) (by omega)];congr 2;omega
  ·rw [hx3,List.drop_of_length_le (by omega)];simp [seqT]
  rintro n vs K4 _ ⟨S4,s4,rfl,hn,l4,h4,f4,hx4⟩
  simp only [List.cons_append,List.nil_append]
  refine ⟨fun g5=>?_,fun g5=>?_⟩
  rotate_left
  ·simp only [ev0,ev,evV,List.cons_append,List.nil_append,List.getD_cons_zero,List.getD_cons_succ,List.map_cons,List.map_nil,iOf,bOf,sOf,pOf,slLen,z04,cmpI,arI,Value.ite_bool,z01,z03,z00,z02,zdf] at g5
   have hn0:n=0:=by omega
   subst hn0
   exact ⟨S4,s4,l4,h4,f4,by rw [hx4,List.drop_zero];exact hm,rfl⟩
  simp only [ev0,ev,evV,List.cons_append,List.nil_append,List.getD_cons_zero,List.getD_cons_succ,List.map_cons,List.map_nil,iOf,bOf,sOf,pOf,slLen,z04,cmpI,arI,Value.ite_bool,z01,z03,z00,z02,zdt] at g5
  obtain ⟨k,rfl⟩:∃k,n=k+1:=⟨n - 1,by omega⟩
  have hk1:(((k+1:Nat):Int) - 1)=(k:Int):=by omega
  rw [hk1]
  obtain ⟨b,hb⟩:∃b,e.kids[k]?=some b:=⟨_,zge (by omega)⟩
  obtain ⟨y1,bnb,bdb,bkb,bnc,bdc,bkc,hxb,y3⟩:=kid hb
  have ht4:=z5g hx4
  simp only [zlc,Z2w,List.length_drop] at ht4
  refine z08 z0a (zfv (act:=1) (at_:=0) h4 f4 (by decide) (by decide) (by omega)) ?_
  rintro x K5 ⟨S5,s5,l5,h5,f5,hx5,rfl⟩
  have ht5:=z5g hx5
  simp only [zlc,List.length_nil] at ht5
  have l45:=PH.le_trans l4 l5
  refine ⟨_,[],rfl,rfl,rfl,z05,?_⟩
  simp only [List.append_nil]
  refine ⟨fun _=>?_,exVs b bnb bdb bkb bnc bdc bkc,rfl,by simp only [ev0,ev,evV,List.cons_append,List.nil_append,List.getD_cons_zero,List.getD_cons_succ,List.map_cons,List.map_nil,iOf,bOf,sOf,pOf,slLen,z04,cmpI,arI,Value.ite_bool,z01,z03,z00,z02];exact z0b h5.sh (z0b l45 y3),?_⟩
  ·simp only [Chk.holds,ev0,ev,evV,List.cons_append,List.nil_append,List.getD_cons_zero,List.getD_cons_succ,List.map_cons,List.map_nil,iOf,bOf,sOf,pOf,slLen,z04,cmpI,arI,Value.ite_bool,z01,z03,z00,z02];exact ⟨y1,by omega,by omega⟩
  simp only [List.cons_append,List.nil_append]
  refine z08 z0a (z2e (e:=b) (env:=env) h5 f5 (exvLe l45 hxb) (he.le l45) (by omega)) ?_
  rintro x K6 ⟨S6,s6,l6,h6,f6,hx6,rfl⟩
  refine ⟨_,[],rfl,rfl,rfl,z05,?_⟩
  refine ⟨_,z06,k,by omega,S6,s6,?_,by omega,PH.le_trans l45 l6,h6,f6,?_⟩
  ·simp only [ev0,ev,evV,List.cons_append,List.nil_append,List.getD_cons_zero,List.getD_cons_succ,List.map_cons,List.map_nil,iOf,bOf,sOf,pOf,slLen,z04,cmpI,arI,Value.ite_bool,z01,z03,z00,z02,down9 (by omega:k < 9223372036854775807)]
  ·rw [hx6,hx5,hx4,z2x,z2x,Z0a (k:=k) (a:=b) (by rw [hdg (by omega)];exact hb)]
   simp only [List.append_assoc,List.cons_append,List.nil_append]
 simp only [ev0,ev,evV,List.cons_append,List.nil_append,List.getD_cons_zero,List.getD_cons_succ,List.map_cons,List.map_nil,iOf,bOf,sOf,pOf,slLen,z04,cmpI,arI,Value.ite_bool,z01,z03,z00,z02,zdf] at g4
 rw [if_neg g4] at hm
 refine ⟨fun g5=>?_,fun g5=>?_⟩
 ·simp only [ev0,ev,evV,List.cons_append,List.nil_append,List.getD_cons_zero,List.getD_cons_succ,List.map_cons,List.map_nil,iOf,bOf,sOf,pOf,slLen,z04,cmpI,arI,Value.ite_bool,z01,z03,z00,z02,zdt] at g5
  rw [if_pos g5] at hm
  simp only [Option.some.injEq] at hm
  refine z08 z93 (zzb (p:=⟨0,e,env,false,[],[]⟩) (tb:=none) (tc:=0) (vb:=none) (vc:=0) h hx he (SlR.mk_iff.2 ⟨Nat.zero_le _,.inl ⟨rfl,rfl⟩⟩) (SlR.mk_iff.2 ⟨Nat.zero_le _,.inl ⟨rfl,rfl⟩⟩) hL1 hQ1) ?_
  rintro x K2 ⟨S2,L2,thv2,qv2,l2,h2,hL2,rfl⟩
  refine ⟨_,valVs ⟨8,(s.L.length:Int),[]⟩,rfl,rfl,rfl,z05,?_⟩
  simp only [List.cons_append,List.nil_append]
  refine z08 z0d (z8m (v:=⟨8,(s.L.length:Int),[]⟩) h2 hf (fitX (by decide) (by unfold InI;omega) (by simp)) (by simp only;omega)) ?_
  rintro x K3 h3
  have hvs:(addX (hpX s.L) 4 []).2=⟨8,(s.L.length:Int),[]⟩:=by simp [addX,hpX]
  obtain ⟨v,vs,rfl,e1,rfl,e2⟩:=ret (h3.le l2) (by
   rw [←hm]
   unfold AX.proc MA.x
   simp only
   rw [hL2,hvs])
  exact ⟨_,[],rfl,rfl,rfl,z05,e2⟩
 simp only [ev0,ev,evV,List.cons_append,List.nil_append,List.getD_cons_zero,List.getD_cons_succ,List.map_cons,List.map_nil,iOf,bOf,sOf,pOf,slLen,z04,cmpI,arI,Value.ite_bool,z01,z03,z00,z02,zdf] at g5
 rw [if_neg g5] at hm
 refine ⟨fun g6=>?_,fun g6=>?_⟩
 ·simp only [ev0,ev,evV,List.cons_append,List.nil_append,List.getD_cons_zero,List.getD_cons_succ,List.map_cons,List.map_nil,iOf,bOf,sOf,pOf,slLen,z04,cmpI,arI,Value.ite_bool,z01,z03,z00,z02,zdt] at g6
  rw [if_pos g6] at hm
  simp only [Option.some.injEq] at hm
  refine z08 z0a (zfv (act:=4) (at_:=(e.kids.length:Int)) h hf (by decide) (by unfold InI;omega) (by omega)) ?_
  rintro x K3 ⟨S3,s3,l3,h3,f3,hx3,rfl⟩
  have htl:=z5g hx3
  simp only [zlc,List.length_nil] at htl
  refine ⟨_,[],rfl,rfl,rfl,z05,?_⟩
  simp only [List.append_nil]
  refine z08 z26 (zo3 h3 f3 (hx.kids.le l3) (he.le l3) hkl (by omega)) ?_
  rintro x K4 h4
  obtain ⟨v,vs,rfl,e1,rfl,e2⟩:=ret (h4.le l3) (by rw [hx3,z2x];exact hm)
  exact ⟨_,[],rfl,rfl,rfl,z05,e2⟩
 simp only [ev0,ev,evV,List.cons_append,List.nil_append,List.getD_cons_zero,List.getD_cons_succ,List.map_cons,List.map_nil,iOf,bOf,sOf,pOf,slLen,z04,cmpI,arI,Value.ite_bool,z01,z03,z00,z02,zdf] at g6
 rw [if_neg g6] at hm
 refine ⟨fun g7=>?_,fun g7=>?_⟩
 ·simp only [ev0,ev,evV,List.cons_append,List.nil_append,List.getD_cons_zero,List.getD_cons_succ,List.map_cons,List.map_nil,iOf,bOf,sOf,pOf,slLen,z04,cmpI,arI,Value.ite_bool,z01,z03,z00,z02,zdt] at g7
  rw [if_pos g7] at hm
  simp only [Option.some.injEq] at hm
  refine z08 z0a (zlb (act:=5) (at_:=0) (e:=e) (env:=[]) (eb:=none) (ec:=0) h hf (by decide) hx (zlu S) (by decide) (by omega)) ?_
  rintro x K3 ⟨S3,s3,l3,h3,f3,hx3,rfl⟩
  have htl:=z5g hx3
  simp only [zlc,List.length_nil] at htl
  refine ⟨_,[],rfl,rfl,rfl,z05,?_⟩
  simp only [List.append_nil]
  refine z08 z26 (zo3 h3 f3 (hx.kids.le l3) (he.le l3) hkl (by omega)) ?_
  rintro x K4 h4
  obtain ⟨v,vs,rfl,e1,rfl,e2⟩:=ret (h4.le l3) (by rw [hx3,z2x];exact hm)
  exact ⟨_,[],rfl,rfl,rfl,z05,e2⟩
 simp only [ev0,ev,evV,List.cons_append,List.nil_append,List.getD_cons_zero,List.getD_cons_succ,List.map_cons,List.map_nil,iOf,bOf,sOf,pOf,slLen,z04,cmpI,arI,Value.ite_bool,z01,z03,z00,z02,zdf] at g7
 rw [if_neg g7] at hm
 refine ⟨fun g8=>?_,fun g8=>?_⟩
 ·simp only [ev0,ev,evV,List.cons_append,List.nil_append,List.getD_cons_zero,List.getD_cons_succ,List.map_cons,List.map_nil,iOf,bOf,sOf,pOf,slLen,z04,cmpI,arI,Value.ite_bool,z01,z03,z00,z02,zdt] at g8
  rw [if_pos g8] at hm
  by_cases hz:e.kids.length=0
  ·rw [if_pos hz] at hm;cases hm
  rw [if_neg hz] at hm
  simp only [Option.some.injEq] at hm
  have hw1:IntKind.i64.wrap ((e.kids.length:Int) - 1)=((e.kids.length - 1:Nat):Int):=by rw [w64 (by omega) (by omega)];omega
  refine z08 z0a (zlb (act:=6) (at_:=0) (e:=e) (env:=env) h hf (by decide) hx he (by decide) (by omega)) ?_
  rintro x K3 ⟨S3,s3,l3,h3,f3,hx3,rfl⟩
  have htl:=z5g hx3
  simp only [zlc,List.length_nil] at htl
  have hcap:e.kids.length≤kc:=by
   rcases (SlR.mk_iff.1 hx.kids).2 with ⟨e1,e2⟩ | ⟨a,c,e1,e2,_⟩
   ·rw [e2] at hz;simp at hz
   ·cases e1;exact e2
  refine ⟨_,[],rfl,rfl,rfl,z05,fun _=>?_,?_⟩
  ·simp only [Chk.holds,ev0,ev,evV,List.cons_append,List.nil_append,List.getD_cons_zero,List.getD_cons_succ,List.map_cons,List.map_nil,iOf,bOf,sOf,pOf,slLen,z04,cmpI,arI,Value.ite_bool,z01,z03,z00,z02,hw1,slCap];omega
  simp only [List.append_nil]
  have hcut:=(hx.kids.le l3).cut (a:=0) (b:=e.kids.length - 1) (by omega) (by omega)
  rw [List.drop_zero,←List.dropLast_eq_take] at hcut
  refine z08 z26 (R:=ATo mr hr J S3 (s3.x.push (allT e.kids.dropLast env)) vNil) ?_ ?_
  ·have:=zo3 h3 f3 hcut (he.le l3) (by rw [List.length_dropLast];omega) (by omega)
   rw [show ((0:Nat):Int)=0 from rfl,←hw1] at this
   exact this
  rintro x K4 h4
  obtain ⟨v,vs,rfl,e1,rfl,e2⟩:=ret (h4.le l3) (by rw [hx3,z2x];exact hm)
  exact ⟨_,[],rfl,rfl,rfl,z05,e2⟩
 simp only [ev0,ev,evV,List.cons_append,List.nil_append,List.getD_cons_zero,List.getD_cons_succ,List.map_cons,List.map_nil,iOf,bOf,sOf,pOf,slLen,z04,cmpI,arI,Value.ite_bool,z01,z03,z00,z02,zdf] at g8
 rw [if_neg g8] at hm
 refine ⟨fun g9=>?_,fun g9=>?_⟩
 ·have hk:e.kind=9∨e.kind=10:=by
   by_cases k9:e.kind=9
   ·exact .inl k9
   ·right;simp [ev0,ev,evV,List.cons_append,List.nil_append,List.getD_cons_zero,List.getD_cons_succ,List.map_cons,List.map_nil,iOf,bOf,sOf,pOf,slLen,z04,cmpI,arI,Value.ite_bool,z01,z03,z00,z02,k9] at g9;exact g9
  rw [if_pos hk] at hm
  refine z08 z9k (Z1m h hf hx he hkl hnl hel hc1 (by omega) hm) ?_
  rintro x K4 h4
  obtain ⟨v,vs,rfl,e1,rfl,e2⟩:=ret h4 rfl
  exact ⟨_,[],rfl,rfl,rfl,z05,e2⟩
 ·have hk:¬(e.kind=9∨e.kind=10):=by
   rintro (k9 | k10)
   ·simp [ev0,ev,evV,List.cons_append,List.nil_append,List.getD_cons_zero,List.getD_cons_succ,List.map_cons,List.map_nil,iOf,bOf,sOf,pOf,slLen,z04,cmpI,arI,Value.ite_bool,z01,z03,z00,z02,k9] at g9
   ·simp [ev0,ev,evV,List.cons_append,List.nil_append,List.getD_cons_zero,List.getD_cons_succ,List.map_cons,List.map_nil,iOf,bOf,sOf,pOf,slLen,z04,cmpI,arI,Value.ite_bool,z01,z03,z00,z02,k10] at g9
  rw [if_neg hk] at hm
  simp only [Option.some.injEq] at hm
  exact ⟨S,s,PH.le_refl _,h,hf,hm,rfl⟩
end
section
variable {S K:PH} {mr hr:Nat} {s:MA} {J:List Itm}
theorem zuk {X:List PanicEntry→PH→Prop} {E:List Value} {L:LK} {p:SV} {ss:List SV} {β:Type} {f:Fm β} {Q:β→List Value→PH→LK→Prop} {k:Nat} {v:VX} (h:Held S K (machA mr hr s J)) (hk:k < s.cells.length) (hv:VFit v) (hp:pOf (ev0 E p)=pOf (eltV s.cv (k:Int) 3)) (hss:ss.map (ev0 E)=valVs v)
  (hq:∀K',Held S K' (machA mr hr { s with cells:=s.cells.set k v } J)→den Tryz.prog X f E K' L Q):den Tryz.prog X (.store p ss f) E K L Q:=by
 obtain ⟨a,ha⟩:∃a,s.cells[k]?=some a:=⟨_,zge hk⟩
 refine zg0 (i:=k) (a:=a) (a':=v) (us:=valVs v) hp h.to3 ha rfl hss (by simp [oneC]) (zin hv) fun K1 h1=>hq K1 ?_
 exact h1.fr3
theorem zzd (h:Held S K (machA mr hr s J)) (hf:AFit s) (hh:HeapOk (hpX s.L)) (hst:s.steps≤4294967296) {m':AX} (hm:s.x.next=some m') :
  Tri Tryz.prog z9l #[pAt mr] K (ATo mr hr J S m' vNil):=by
 unfold AX.next at hm
 cases hfew:s.x.few with
 | false=>rw [hfew] at hm;simp at hm
 | true=>
 rw [hfew] at hm
 simp only [if_true] at hm
 unfold AX.few at hfew
 simp only [zba,zdt] at hfew
 obtain ⟨⟨⟨⟨⟨w1,w2⟩,w3⟩,w4⟩,w5⟩,w6⟩:=hfew
 have hL:s.L.length≤16777215:=by have:(hpX s.L).length≤16777215:=w1;simpa [hpX] using this
 replace w2:s.cells.length≤16777215:=w2
 replace w3:s.procs.length≤16777215:=w3
 replace w4:s.out.length≤16777215:=w4
 replace w5:s.todo.length≤4294967296:=w5
 replace w6:s.vals.length≤4294967296:=w6
 cases htl:s.x.todo.getLast? with
 | none=>rw [htl] at hm;cases hm
 | some t=>
 rw [htl] at hm
 simp only at hm
 replace htl:s.todo.getLast?=some t:=htl
 rw [List.getLast?_eq_getElem?] at htl
 have h0:=(List.getElem?_eq_some_iff.1 htl).1
 have hw1:IntKind.i64.wrap ((s.todo.length:Int) - 1)=((s.todo.length - 1:Nat):Int):=by rw [w64 (by omega) (by omega)];omega
 obtain ⟨tb,tc,htv⟩:=ztg h
 have hl10:rowAt K (some ⟨mr,10,none⟩) [.slice tb s.todo.length tc]:=by rw [←htv];exact mA_ld h rfl
 obtain ⟨x1,_,xs,x2,x3⟩:=(h.swap.row (zms)).get htl
 rw [htv] at x1 x3
 obtain ⟨es,env,rfl,t1,t2,t3,t4⟩:=td_iff.1 x2
 have t2':=t2
 obtain ⟨nb,db,kb,nc,dc,kc,rfl,hx⟩:=Xp.Rep.open t2'
 obtain ⟨eb,ec,rfl⟩:=t3.sl
 have hcap:s.todo.length≤tc:=by
  obtain ⟨ys,o1,_⟩:=(h.swap.row (zms)).own
  rcases o1.2 with ⟨e,hz⟩ | ⟨g,cap,cur,e,_,h4,_⟩
  ·omega
  ·rw [htv] at e;cases e;exact h4
 refine z8a [pAt mr] (by kernel_rfl) (by kernel_rfl) ?_
 refine ⟨fun _=>by simp [Chk.holds,ev0,ev,evV,List.cons_append,List.nil_append,List.getD_cons_zero,List.getD_cons_succ,List.map_cons,List.map_nil,iOf,bOf,sOf,pOf,slLen,z04,cmpI,arI,Value.ite_bool,z01,z03,z00,z02],[.slice tb s.todo.length tc],rfl,by simp only [ev0,ev,evV,List.cons_append,List.nil_append,List.getD_cons_zero,List.getD_cons_succ,List.map_cons,List.map_nil,iOf,bOf,sOf,pOf,slLen,z04,cmpI,arI,Value.ite_bool,z01,z03,z00,z02];exact hl10,[.slice tb s.todo.length tc],rfl,by simp only [ev0,ev,evV,List.cons_append,List.nil_append,List.getD_cons_zero,List.getD_cons_succ,List.map_cons,List.map_nil,iOf,bOf,sOf,pOf,slLen,z04,cmpI,arI,Value.ite_bool,z01,z03,z00,z02];exact hl10,fun _=>?_,tdVs t (exVs t.e nb db kb nc dc kc) (.slice eb t.env.length ec),rfl,by simp only [ev0,ev,evV,List.cons_append,List.nil_append,List.getD_cons_zero,List.getD_cons_succ,List.map_cons,List.map_nil,iOf,bOf,sOf,pOf,slLen,z04,cmpI,arI,Value.ite_bool,z01,z03,z00,z02,hw1];exact x3,[.slice tb s.todo.length tc],rfl,by simp only [ev0,ev,evV,List.cons_append,List.nil_append,List.getD_cons_zero,List.getD_cons_succ,List.map_cons,List.map_nil,iOf,bOf,sOf,pOf,slLen,z04,cmpI,arI,Value.ite_bool,z01,z03,z00,z02];exact hl10,fun _=>?_,?_⟩
 ·simp only [Chk.holds,ev0,ev,evV,List.cons_append,List.nil_append,List.getD_cons_zero,List.getD_cons_succ,List.map_cons,List.map_nil,iOf,bOf,sOf,pOf,slLen,z04,cmpI,arI,Value.ite_bool,z01,z03,z00,z02,hw1];exact ⟨x1,by omega,by omega⟩
 ·simp only [Chk.holds,ev0,ev,evV,List.cons_append,List.nil_append,List.getD_cons_zero,List.getD_cons_succ,List.map_cons,List.map_nil,iOf,bOf,sOf,pOf,slLen,z04,cmpI,arI,Value.ite_bool,z01,z03,z00,z02,hw1,slCap];omega
 simp only [tdVs,List.cons_append,List.nil_append]
 have h1:=h.swap.cut (m:=s.todo.length - 1) (by omega)
 rw [htv] at h1
 refine z0u (off:=10) (vs:=[slsV (.slice tb s.todo.length tc) 0 ((s.todo.length - 1:Nat):Int) 11]) (by simp only [ev0,ev,evV,List.cons_append,List.nil_append,List.getD_cons_zero,List.getD_cons_succ,List.map_cons,List.map_nil,iOf,bOf,sOf,pOf,slLen,z04,cmpI,arI,Value.ite_bool,z01,z03,z00,z02];rfl) h1.swap (by simp only [List.map_cons,List.map_nil,ev0,ev,evV,List.cons_append,List.nil_append,List.getD_cons_zero,List.getD_cons_succ,List.map_cons,List.map_nil,iOf,bOf,sOf,pOf,slLen,z04,cmpI,arI,Value.ite_bool,z01,z03,z00,z02,hw1]) (slOne ⟨_,_,_,rfl⟩) (by simp [MA.cs]) fun K1 h2=>?_
 obtain ⟨q,hq⟩:∃q:MA,q={ s with todo:=s.todo.take (s.todo.length - 1),tv:=slsV (.slice tb s.todo.length tc) 0 ((s.todo.length - 1:Nat):Int) 11 }:=⟨_,rfl⟩
 have h3:Held S K1 (machA mr hr q J):=by subst hq;exact h2
 have fq:AFit q:=by rw [hq];exact hf
 have hqx:({ s.x with todo:=s.x.todo.dropLast }:AX)=q.x:=by
  rw [hq];unfold MA.x;simp only
  rw [List.dropLast_eq_take]
 rw [hqx] at hm
 have qL:q.L.length≤16777215:=by rw [hq];exact hL
 have qh:HeapOk (hpX q.L):=by rw [hq];exact hh
 have qc:q.cells.length≤16777215:=by rw [hq];exact w2
 have qp:q.procs.length≤16777215:=by rw [hq];exact w3
 have qo:q.out.length≤16777215:=by rw [hq];exact w4
 have qt:q.todo.length≤4294967296:=by rw [hq];simp only [List.length_take];omega
 have qv:q.vals.length≤4294967296:=by rw [hq];exact w6
 have qs:q.steps≤4294967296:=by rw [hq];exact hst
 clear hq h2 h1 h hf hh hqx w1 w2 w3 w4 w5 w6 hL x3 hl10 hst htl h0 hw1 hcap x1 x2 htv
 have ret:∀{x:Ending} {K2 S1:PH} {m2:AX},PH.le S S1→ATo mr hr J S1 m2 vNil x K2→m2=m'→∃v vs,x=.returned v∧z0c [] vs=true∧v=.tuple #[]∧ATo mr hr J S m' vNil x K2:=fun l h1 h2=>by
  subst h2
  obtain ⟨S2,s2,l2,h3,f2,hx2,rfl⟩:=h1.le l
  exact ⟨_,[],rfl,rfl,rfl,S2,s2,l2,h3,f2,hx2,rfl⟩
 unfold AX.act at hm
 have pops:∀{n:Nat} {r:AX×List VX},q.x.pop n=some r→n≤q.vals.length∧r=(({ q.x with vals:=q.vals.take (q.vals.length - n) }:AX),q.vals.drop (q.vals.length - n)):=fun hr=>by
  unfold AX.pop at hr
  split at hr
  ·rename_i hn
   simp only [Option.some.injEq] at hr
   exact ⟨hn,hr.symm⟩
  ·cases hr
 refine ⟨fun g0=>?_,fun g0=>?_⟩
 ·simp only [ev0,ev,evV,List.cons_append,List.nil_append,List.getD_cons_zero,List.getD_cons_succ,List.map_cons,List.map_nil,iOf,bOf,sOf,pOf,slLen,z04,cmpI,arI,Value.ite_bool,z01,z03,z00,z02,zdt] at g0
  rw [if_pos g0] at hm
  refine z08 z8y (zzq h3 fq (by omega) (by omega) (by omega) (by omega) (by omega) qs hx t3 hm) ?_
  rintro x K2 h4
  obtain ⟨v,vs,rfl,e1,rfl,e2⟩:=ret (PH.le_refl _) h4 rfl
  exact ⟨_,[],rfl,rfl,rfl,z05,e2⟩
 simp only [ev0,ev,evV,List.cons_append,List.nil_append,List.getD_cons_zero,List.getD_cons_succ,List.map_cons,List.map_nil,iOf,bOf,sOf,pOf,slLen,z04,cmpI,arI,Value.ite_bool,z01,z03,z00,z02,zdf] at g0
 rw [if_neg g0] at hm
 refine ⟨fun g1=>?_,fun g1=>?_⟩
 ·simp only [ev0,ev,evV,List.cons_append,List.nil_append,List.getD_cons_zero,List.getD_cons_succ,List.map_cons,List.map_nil,iOf,bOf,sOf,pOf,slLen,z04,cmpI,arI,Value.ite_bool,z01,z03,z00,z02,zdt] at g1
  rw [if_pos g1] at hm
  obtain ⟨r,hr1,hr2⟩:=Option.map_eq_some_iff.1 hm
  obtain ⟨hn,rfl⟩:=pops hr1
  refine z08 z0q (z88 (n:=1) h3 hn (by omega)) ?_
  rintro x K2 ⟨S2,vv,v,l2,h4,hv,rfl⟩
  obtain ⟨vb,vc,rfl⟩:=hv.sl
  exact ⟨_,[_],rfl,rfl,rfl,z05,S2,_,l2,h4,fq,hr2,rfl⟩
 simp only [ev0,ev,evV,List.cons_append,List.nil_append,List.getD_cons_zero,List.getD_cons_succ,List.map_cons,List.map_nil,iOf,bOf,sOf,pOf,slLen,z04,cmpI,arI,Value.ite_bool,z01,z03,z00,z02,zdf] at g1
 rw [if_neg g1] at hm
 have one:∀{r:AX×List VX},q.x.pop 1=some r→∃y,q.vals.drop (q.vals.length - 1)=[y]∧r=(({ q.x with vals:=q.vals.take (q.vals.length - 1) }:AX),[y])∧1≤q.vals.length:=fun hr=>by
  obtain ⟨hn,rfl⟩:=pops hr
  have hl:(q.vals.drop (q.vals.length - 1)).length=1:=by rw [List.length_drop];omega
  obtain ⟨y,hy⟩:∃y,q.vals.drop (q.vals.length - 1)=[y]:=by
   match q.vals.drop (q.vals.length - 1),hl with
   | [y],_=>exact ⟨y,rfl⟩
  exact ⟨y,hy,by rw [hy],hn⟩
 refine ⟨fun g2=>?_,fun g2=>?_⟩
 ·simp only [ev0,ev,evV,List.cons_append,List.nil_append,List.getD_cons_zero,List.getD_cons_succ,List.map_cons,List.map_nil,iOf,bOf,sOf,pOf,slLen,z04,cmpI,arI,Value.ite_bool,z01,z03,z00,z02,zdt] at g2
  rw [if_pos g2] at hm
  obtain ⟨r,hr1,hr2⟩:=Option.bind_eq_some_iff.1 hm
  obtain ⟨y,hy,rfl,hn⟩:=one hr1
  obtain ⟨k,hk,hk2⟩:=Option.map_eq_some_iff.1 hr2
  obtain ⟨hk3,hk4⟩:=zja hk
  replace hk4:k < q.cells.length:=hk4
  obtain ⟨cb,cc,hcv⟩:=zp6 h3
  have hl1:rowAt K1 (some ⟨mr,1,none⟩) [.slice cb q.cells.length cc]:=by rw [←hcv];exact mA_ld h3 rfl
  refine ⟨[.slice cb q.cells.length cc],rfl,by simp only [ev0,ev,evV,List.cons_append,List.nil_append,List.getD_cons_zero,List.getD_cons_succ,List.map_cons,List.map_nil,iOf,bOf,sOf,pOf,slLen,z04,cmpI,arI,Value.ite_bool,z01,z03,z00,z02];exact hl1,?_⟩
  simp only [List.cons_append,List.nil_append]
  refine z08 z0q (z88 (n:=1) h3 hn (by omega)) ?_
  rintro x K2 ⟨S2,vv,v,l2,h4,hv,rfl⟩
  rw [hy] at hv
  obtain ⟨vb,vc,rfl⟩:=hv.sl
  obtain ⟨y1,_,ycs,y2,y3⟩:=hv.get (i:=0) (a:=y) rfl
  obtain ⟨rfl,yf⟩:=z2q y2
  refine ⟨_,[.slice vb 1 vc],rfl,rfl,rfl,z1x (by simp only [ev0,ev,evV,List.cons_append,List.nil_append,List.getD_cons_zero,List.getD_cons_succ,List.map_cons,List.map_nil,iOf,bOf,sOf,pOf,slLen,z04,cmpI,arI,Value.ite_bool,z01,z03,z00,z02];rw [←hcv];exact mA_ld h4 rfl),fun _=>?_,valVs y,rfl,by simp only [ev0,ev,evV,List.cons_append,List.nil_append,List.getD_cons_zero,List.getD_cons_succ,List.map_cons,List.map_nil,iOf,bOf,sOf,pOf,slLen,z04,cmpI,arI,Value.ite_bool,z01,z03,z00,z02];exact z0b h4.sh y3,fun _=>?_,?_⟩
  ·simp only [Chk.holds,ev0,ev,evV,List.cons_append,List.nil_append,List.getD_cons_zero,List.getD_cons_succ,List.map_cons,List.map_nil,iOf,bOf,sOf,pOf,slLen,z04,cmpI,arI,Value.ite_bool,z01,z03,z00,z02];exact ⟨y1,by omega,by simp⟩
  ·obtain ⟨a,ha⟩:∃a,q.cells[k]?=some a:=⟨_,zge hk4⟩
   have:=((h3.to3.row (zms)).get ha).1
   rw [hcv] at this
   simp only [Chk.holds,ev0,ev,evV,List.cons_append,List.nil_append,List.getD_cons_zero,List.getD_cons_succ,List.map_cons,List.map_nil,iOf,bOf,sOf,pOf,slLen,z04,cmpI,arI,Value.ite_bool,z01,z03,z00,z02,hk3];exact ⟨this,by omega,by omega⟩
  simp only [List.cons_append,List.nil_append]
  refine zuk (k:=k) (v:=y) h4 hk4 yf (by simp only [ev0,ev,evV,List.cons_append,List.nil_append,List.getD_cons_zero,List.getD_cons_succ,List.map_cons,List.map_nil,iOf,bOf,sOf,pOf,slLen,z04,cmpI,arI,Value.ite_bool,z01,z03,z00,z02,hk3];rw [hcv]) (by simp only [List.map_cons,List.map_nil,ev0,ev,evV,List.cons_append,List.nil_append,List.getD_cons_zero,List.getD_cons_succ,List.map_cons,List.map_nil,iOf,bOf,sOf,pOf,slLen,z04,cmpI,arI,Value.ite_bool,z01,z03,z00,z02]) fun K5 h5=>?_
  refine z08 z0d (z8m (v:=vVoid) h5 fq zle (by simp only [List.length_take];omega)) ?_
  rintro x K6 h6
  obtain ⟨v,vs,rfl,e1,rfl,e2⟩:=ret l2 h6 (by rw [←hk2];rfl)
  exact ⟨_,[],rfl,rfl,rfl,z05,e2⟩
 simp only [ev0,ev,evV,List.cons_append,List.nil_append,List.getD_cons_zero,List.getD_cons_succ,List.map_cons,List.map_nil,iOf,bOf,sOf,pOf,slLen,z04,cmpI,arI,Value.ite_bool,z01,z03,z00,z02,zdf] at g2
 rw [if_neg g2] at hm
 refine ⟨fun g3=>?_,fun g3=>?_⟩
 ·simp only [ev0,ev,evV,List.cons_append,List.nil_append,List.getD_cons_zero,List.getD_cons_succ,List.map_cons,List.map_nil,iOf,bOf,sOf,pOf,slLen,z04,cmpI,arI,Value.ite_bool,z01,z03,z00,z02,zdt] at g3
  rw [if_pos g3] at hm
  obtain ⟨r,hr1,hr2⟩:=Option.bind_eq_some_iff.1 hm
  obtain ⟨y,hy,rfl,hn⟩:=one hr1
  obtain ⟨b,hb,hb2⟩:=Option.map_eq_some_iff.1 hr2
  replace hb:(if y=vNone then t.e.kids[2]? else t.e.kids[1]?)=some b:=hb
  refine z08 z0q (z88 (n:=1) h3 hn (by omega)) ?_
  rintro x K2 ⟨S2,vv,v,l2,h4,hv,rfl⟩
  rw [hy] at hv
  obtain ⟨vb,vc,rfl⟩:=hv.sl
  obtain ⟨y1,_,ycs,y2,y3⟩:=hv.get (i:=0) (a:=y) rfl
  obtain ⟨rfl,yf⟩:=z2q y2
  refine ⟨_,[.slice vb 1 vc],rfl,rfl,rfl,z05,fun _=>?_,valVs y,rfl,by simp only [ev0,ev,evV,List.cons_append,List.nil_append,List.getD_cons_zero,List.getD_cons_succ,List.map_cons,List.map_nil,iOf,bOf,sOf,pOf,slLen,z04,cmpI,arI,Value.ite_bool,z01,z03,z00,z02];exact z0b h4.sh y3,?_⟩
  ·simp only [Chk.holds,ev0,ev,evV,List.cons_append,List.nil_append,List.getD_cons_zero,List.getD_cons_succ,List.map_cons,List.map_nil,iOf,bOf,sOf,pOf,slLen,z04,cmpI,arI,Value.ite_bool,z01,z03,z00,z02];exact ⟨y1,by omega,by simp⟩
  simp only [List.cons_append,List.nil_append]
  refine zj4 (a:=y) (b:=vNone) (by kernel_rfl) (by kernel_rfl) ?_
  simp only [List.cons_append,List.nil_append]
  have fin:∀{j:Nat},t.e.kids[j]?=some b→(z04 (.slice kb t.e.kids.length kc)).isSome=true∧j < t.e.kids.length∧∃anb adb akb anc adc akc,ExV S b anb adb akb anc adc akc∧rowAt S (pOf (eltV (.slice kb t.e.kids.length kc) (j:Int) 8)) (exVs b anb adb akb anc adc akc):=fun hj=>by
   obtain ⟨x1,_,xs,x2,x3⟩:=hx.kids.get hj
   obtain ⟨anb,adb,akb,anc,adc,akc,rfl,hxa⟩:=Xp.Rep.open x2
   exact ⟨x1,(List.getElem?_eq_some_iff.1 hj).1,anb,adb,akb,anc,adc,akc,hxa,x3⟩
  refine ⟨fun g4=>?_,fun g4=>?_⟩
  ·simp only [ev0,ev,evV,List.cons_append,List.nil_append,List.getD_cons_zero,List.getD_cons_succ,List.map_cons,List.map_nil,iOf,bOf,sOf,pOf,slLen,z04,cmpI,arI,Value.ite_bool,z01,z03,z00,z02,zdt] at g4
   rw [if_pos g4] at hb
   obtain ⟨x1,x2,anb,adb,akb,anc,adc,akc,hxa,x3⟩:=fin hb
   refine ⟨fun _=>?_,exVs b anb adb akb anc adc akc,rfl,by simp only [ev0,ev,evV,List.cons_append,List.nil_append,List.getD_cons_zero,List.getD_cons_succ,List.map_cons,List.map_nil,iOf,bOf,sOf,pOf,slLen,z04,cmpI,arI,Value.ite_bool,z01,z03,z00,z02];exact z0b h4.sh (z0b l2 x3),?_⟩
   ·simp only [Chk.holds,ev0,ev,evV,List.cons_append,List.nil_append,List.getD_cons_zero,List.getD_cons_succ,List.map_cons,List.map_nil,iOf,bOf,sOf,pOf,slLen,z04,cmpI,arI,Value.ite_bool,z01,z03,z00,z02];exact ⟨x1,by omega,by omega⟩
   simp only [List.cons_append,List.nil_append]
   refine z08 z0a (z2e (e:=b) (env:=t.env) h4 fq (exvLe l2 hxa) (t3.le l2) (by simp only;omega)) ?_
   rintro x K6 h6
   obtain ⟨v,vs,rfl,e1,rfl,e2⟩:=ret l2 h6 (by rw [←hb2];rfl)
   exact ⟨_,[],rfl,rfl,rfl,z05,e2⟩
  ·simp only [ev0,ev,evV,List.cons_append,List.nil_append,List.getD_cons_zero,List.getD_cons_succ,List.map_cons,List.map_nil,iOf,bOf,sOf,pOf,slLen,z04,cmpI,arI,Value.ite_bool,z01,z03,z00,z02,zdf] at g4
   rw [if_neg g4] at hb
   obtain ⟨x1,x2,anb,adb,akb,anc,adc,akc,hxa,x3⟩:=fin hb
   refine ⟨fun _=>?_,exVs b anb adb akb anc adc akc,rfl,by simp only [ev0,ev,evV,List.cons_append,List.nil_append,List.getD_cons_zero,List.getD_cons_succ,List.map_cons,List.map_nil,iOf,bOf,sOf,pOf,slLen,z04,cmpI,arI,Value.ite_bool,z01,z03,z00,z02];exact z0b h4.sh (z0b l2 x3),?_⟩
   ·simp only [Chk.holds,ev0,ev,evV,List.cons_append,List.nil_append,List.getD_cons_zero,List.getD_cons_succ,List.map_cons,List.map_nil,iOf,bOf,sOf,pOf,slLen,z04,cmpI,arI,Value.ite_bool,z01,z03,z00,z02];exact ⟨x1,by omega,by omega⟩
   simp only [List.cons_append,List.nil_append]
   refine z08 z0a (z2e (e:=b) (env:=t.env) h4 fq (exvLe l2 hxa) (t3.le l2) (by simp only;omega)) ?_
   rintro x K6 h6
   obtain ⟨v,vs,rfl,e1,rfl,e2⟩:=ret l2 h6 (by rw [←hb2];rfl)
   exact ⟨_,[],rfl,rfl,rfl,z05,e2⟩
 simp only [ev0,ev,evV,List.cons_append,List.nil_append,List.getD_cons_zero,List.getD_cons_succ,List.map_cons,List.map_nil,iOf,bOf,sOf,pOf,slLen,z04,cmpI,arI,Value.ite_bool,z01,z03,z00,z02,zdf] at g3
 rw [if_neg g3] at hm
 refine ⟨fun g4=>?_,fun g4=>?_⟩
 ·simp only [ev0,ev,evV,List.cons_append,List.nil_append,List.getD_cons_zero,List.getD_cons_succ,List.map_cons,List.map_nil,iOf,bOf,sOf,pOf,slLen,z04,cmpI,arI,Value.ite_bool,z01,z03,z00,z02,zdt] at g4
  rw [if_pos g4] at hm
  by_cases ha1:t.at_ < 1
  ·rw [if_pos ha1] at hm;cases hm
  rw [if_neg ha1] at hm
  obtain ⟨r,hr1,hr2⟩:=Option.bind_eq_some_iff.1 hm
  obtain ⟨hn,rfl⟩:=pops hr1
  obtain ⟨n,hn2⟩:∃n:Nat,t.at_=(n:Int):=⟨t.at_.toNat,by omega⟩
  rw [hn2,Int.toNat_natCast] at hn hr2
  rw [hn2]
  have hdl:(q.vals.drop (q.vals.length - n)).length=n:=by rw [List.length_drop];omega
  obtain ⟨y,ys,hy⟩:∃y ys,q.vals.drop (q.vals.length - n)=y::ys:=by
   cases hd:q.vals.drop (q.vals.length - n) with
   | nil=>rw [hd] at hdl;simp at hdl;omega
   | cons y ys=>exact ⟨y,ys,rfl⟩
  rw [hy] at hr2 hdl
  simp only [List.getD_cons_zero,List.tail_cons] at hr2
  refine z08 z0q (z88 (n:=n) h3 hn (by omega)) ?_
  rintro x K2 ⟨S2,vv,v,l2,h4,hv,rfl⟩
  rw [hy] at hv
  have hcapv:(y::ys).length≤slCap v:=by
   rcases (SlR.mk_iff.1 hv).2 with ⟨e1,e2⟩ | ⟨a,c,e1,e2,_⟩
   ·cases e2
   ·rw [e1];exact e2
  obtain ⟨vb,vc,hvv⟩:=hv.sl
  rw [hvv] at hcapv hv
  rw [hvv]
  obtain ⟨y1,_,ycs,y2,y3⟩:=hv.get (i:=0) (a:=y) rfl
  obtain ⟨rfl,yf⟩:=z2q y2
  refine ⟨_,[.slice vb (y::ys).length vc],rfl,rfl,rfl,z05,fun _=>?_,valVs y,rfl,by simp only [ev0,ev,evV,List.cons_append,List.nil_append,List.getD_cons_zero,List.getD_cons_succ,List.map_cons,List.map_nil,iOf,bOf,sOf,pOf,slLen,z04,cmpI,arI,Value.ite_bool,z01,z03,z00,z02];exact z0b h4.sh y3,fun _=>?_,?_⟩
  ·simp only [Chk.holds,ev0,ev,evV,List.cons_append,List.nil_append,List.getD_cons_zero,List.getD_cons_succ,List.map_cons,List.map_nil,iOf,bOf,sOf,pOf,slLen,z04,cmpI,arI,Value.ite_bool,z01,z03,z00,z02];exact ⟨y1,by omega,by simp only [zlc];omega⟩
  ·simp only [slCap] at hcapv
   simp only [Chk.holds,ev0,ev,evV,List.cons_append,List.nil_append,List.getD_cons_zero,List.getD_cons_succ,List.map_cons,List.map_nil,iOf,bOf,sOf,pOf,slLen,z04,cmpI,arI,Value.ite_bool,z01,z03,z00,z02,slCap];simp only [zlc] at hcapv ⊢;omega
  simp only [List.cons_append,List.nil_append]
  have hcut:=hv.cut (a:=1) (b:=(y::ys).length) (by simp only [zlc];omega) (Nat.le_refl _)
  rw [List.take_length,List.drop_one,List.tail_cons] at hcut
  refine z08 z97 (Z02 h4 fq (by simp only;omega) (by simp only;omega) (by simp only [List.length_take];omega) yf hcut hr2) ?_
  rintro x K6 h6
  obtain ⟨v,vs,rfl,e1,rfl,e2⟩:=ret l2 h6 rfl
  exact ⟨_,[],rfl,rfl,rfl,z05,e2⟩
 simp only [ev0,ev,evV,List.cons_append,List.nil_append,List.getD_cons_zero,List.getD_cons_succ,List.map_cons,List.map_nil,iOf,bOf,sOf,pOf,slLen,z04,cmpI,arI,Value.ite_bool,z01,z03,z00,z02,zdf] at g4
 rw [if_neg g4] at hm
 refine ⟨fun g5=>?_,fun g5=>?_⟩
 ·simp only [ev0,ev,evV,List.cons_append,List.nil_append,List.getD_cons_zero,List.getD_cons_succ,List.map_cons,List.map_nil,iOf,bOf,sOf,pOf,slLen,z04,cmpI,arI,Value.ite_bool,z01,z03,z00,z02,zdt] at g5
  rw [if_pos g5] at hm
  obtain ⟨r,hr1,hr2⟩:=Option.bind_eq_some_iff.1 hm
  obtain ⟨hn,rfl⟩:=pops hr1
  refine z08 z0q (z88 (n:=t.e.kids.length) h3 hn (by omega)) ?_
  rintro x K2 ⟨S2,vv,v,l2,h4,hv,rfl⟩
  obtain ⟨vb,vc,rfl⟩:=hv.sl
  refine ⟨_,[.slice vb (q.vals.drop (q.vals.length - t.e.kids.length)).length vc],rfl,rfl,rfl,z05,?_⟩
  simp only [List.cons_append,List.nil_append]
  refine z08 z94 (zyv h4 fq qh (by simp only;omega) (by simp only;omega) (by simp only [List.length_take];omega) t.e.name hv hr2) ?_
  rintro x K6 h6
  obtain ⟨v,vs,rfl,e1,rfl,e2⟩:=ret l2 h6 rfl
  exact ⟨_,[],rfl,rfl,rfl,z05,e2⟩
 simp only [ev0,ev,evV,List.cons_append,List.nil_append,List.getD_cons_zero,List.getD_cons_succ,List.map_cons,List.map_nil,iOf,bOf,sOf,pOf,slLen,z04,cmpI,arI,Value.ite_bool,z01,z03,z00,z02,zdf] at g5
 rw [if_neg g5] at hm
 refine ⟨fun g6=>?_,fun g6=>?_⟩
 ·simp only [ev0,ev,evV,List.cons_append,List.nil_append,List.getD_cons_zero,List.getD_cons_succ,List.map_cons,List.map_nil,iOf,bOf,sOf,pOf,slLen,z04,cmpI,arI,Value.ite_bool,z01,z03,z00,z02,zdt] at g6
  rw [if_pos g6] at hm
  by_cases hbig:1000000 < t.e.names.length∨4294967296 < t.env.length
  ·rw [if_pos hbig] at hm;cases hm
  rw [if_neg hbig] at hm
  obtain ⟨r,hr1,hr2⟩:=Option.bind_eq_some_iff.1 hm
  obtain ⟨hn,rfl⟩:=pops hr1
  obtain ⟨b,hb,hb2⟩:=Option.map_eq_some_iff.1 hr2
  have hbl:=(List.getElem?_eq_some_iff.1 hb).1
  obtain ⟨z1,_,zs,z2,z3⟩:=hx.kids.get hb
  obtain ⟨anb,adb,akb,anc,adc,akc,rfl,hxa⟩:=Xp.Rep.open z2
  refine z08 z0q (z88 (n:=t.e.names.length) h3 hn (by omega)) ?_
  rintro x K2 ⟨S2,vv,v,l2,h4,hv,rfl⟩
  have hdl:(q.vals.drop (q.vals.length - t.e.names.length)).length=t.e.names.length:=by rw [List.length_drop];omega
  obtain ⟨vb,vc,rfl⟩:=hv.sl
  refine ⟨_,[.slice vb (q.vals.drop (q.vals.length - t.e.names.length)).length vc],rfl,rfl,rfl,z05,fun _=>?_,exVs b anb adb akb anc adc akc,rfl,by simp only [ev0,ev,evV,List.cons_append,List.nil_append,List.getD_cons_zero,List.getD_cons_succ,List.map_cons,List.map_nil,iOf,bOf,sOf,pOf,slLen,z04,cmpI,arI,Value.ite_bool,z01,z03,z00,z02];exact z0b h4.sh (z0b l2 z3),?_⟩
  ·simp only [Chk.holds,ev0,ev,evV,List.cons_append,List.nil_append,List.getD_cons_zero,List.getD_cons_succ,List.map_cons,List.map_nil,iOf,bOf,sOf,pOf,slLen,z04,cmpI,arI,Value.ite_bool,z01,z03,z00,z02];exact ⟨z1,by omega,by omega⟩
  simp only [List.cons_append,List.nil_append]
  refine z08 z25 (zks h4 (t3.le l2) (hx.names.le l2) hv (by omega) (by omega) (by omega) (by simp only;omega)) ?_
  rintro x K5 ⟨S5,cv5,v5,l5,h8,hs5,rfl⟩
  simp only at hs5
  obtain ⟨ib,ic,rfl⟩:=hs5.sl
  refine ⟨_,[.slice ib (bindE t.env t.e.names q.cells.length).length ic],rfl,rfl,rfl,z1x (by simp only [ev0,ev,evV,List.cons_append,List.nil_append,List.getD_cons_zero,List.getD_cons_succ,List.map_cons,List.map_nil,iOf,bOf,sOf,pOf,slLen,z04,cmpI,arI,Value.ite_bool,z01,z03,z00,z02];exact z0b h8.sh (z0b (PH.le_trans l2 l5) z3)),?_⟩
  simp only [List.cons_append,List.nil_append]
  refine z08 z0a (z2e (e:=b) (env:=bindE t.env t.e.names q.cells.length) h8 fq (exvLe (PH.le_trans l2 l5) hxa) hs5 (by simp only;omega)) ?_
  rintro x K6 h6
  obtain ⟨v,vs,rfl,e1,rfl,e2⟩:=ret (PH.le_trans l2 l5) h6 (by rw [←hb2];rfl)
  exact ⟨_,[],rfl,rfl,rfl,z05,e2⟩
 simp only [ev0,ev,evV,List.cons_append,List.nil_append,List.getD_cons_zero,List.getD_cons_succ,List.map_cons,List.map_nil,iOf,bOf,sOf,pOf,slLen,z04,cmpI,arI,Value.ite_bool,z01,z03,z00,z02,zdf] at g6
 rw [if_neg g6] at hm
 refine ⟨fun g7=>?_,fun g7=>?_⟩
 ·simp only [ev0,ev,evV,List.cons_append,List.nil_append,List.getD_cons_zero,List.getD_cons_succ,List.map_cons,List.map_nil,iOf,bOf,sOf,pOf,slLen,z04,cmpI,arI,Value.ite_bool,z01,z03,z00,z02,zdt] at g7
  rw [if_pos g7] at hm
  obtain ⟨r,hr1,hr2⟩:=Option.bind_eq_some_iff.1 hm
  obtain ⟨y,hy,rfl,hn⟩:=one hr1
  obtain ⟨k,hk,hk2⟩:=Option.map_eq_some_iff.1 hr2
  obtain ⟨hk3,hk4⟩:=zja hk
  replace hk4:k < q.cells.length:=hk4
  obtain ⟨cb,cc,hcv⟩:=zp6 h3
  have hl1:rowAt K1 (some ⟨mr,1,none⟩) [.slice cb q.cells.length cc]:=by rw [←hcv];exact mA_ld h3 rfl
  refine ⟨[.slice cb q.cells.length cc],rfl,by simp only [ev0,ev,evV,List.cons_append,List.nil_append,List.getD_cons_zero,List.getD_cons_succ,List.map_cons,List.map_nil,iOf,bOf,sOf,pOf,slLen,z04,cmpI,arI,Value.ite_bool,z01,z03,z00,z02];exact hl1,?_⟩
  simp only [List.cons_append,List.nil_append]
  refine z08 z0q (z88 (n:=1) h3 hn (by omega)) ?_
  rintro x K2 ⟨S2,vv,v,l2,h4,hv,rfl⟩
  rw [hy] at hv
  obtain ⟨vb,vc,rfl⟩:=hv.sl
  obtain ⟨y1,_,ycs,y2,y3⟩:=hv.get (i:=0) (a:=y) rfl
  obtain ⟨rfl,yf⟩:=z2q y2
  refine ⟨_,[.slice vb 1 vc],rfl,rfl,rfl,z1x (by simp only [ev0,ev,evV,List.cons_append,List.nil_append,List.getD_cons_zero,List.getD_cons_succ,List.map_cons,List.map_nil,iOf,bOf,sOf,pOf,slLen,z04,cmpI,arI,Value.ite_bool,z01,z03,z00,z02];rw [←hcv];exact mA_ld h4 rfl),fun _=>?_,valVs y,rfl,by simp only [ev0,ev,evV,List.cons_append,List.nil_append,List.getD_cons_zero,List.getD_cons_succ,List.map_cons,List.map_nil,iOf,bOf,sOf,pOf,slLen,z04,cmpI,arI,Value.ite_bool,z01,z03,z00,z02];exact z0b h4.sh y3,fun _=>?_,?_⟩
  ·simp only [Chk.holds,ev0,ev,evV,List.cons_append,List.nil_append,List.getD_cons_zero,List.getD_cons_succ,List.map_cons,List.map_nil,iOf,bOf,sOf,pOf,slLen,z04,cmpI,arI,Value.ite_bool,z01,z03,z00,z02];exact ⟨y1,by omega,by simp⟩
  ·obtain ⟨a,ha⟩:∃a,q.cells[k]?=some a:=⟨_,zge hk4⟩
   have:=((h3.to3.row (zms)).get ha).1
   rw [hcv] at this
   simp only [Chk.holds,ev0,ev,evV,List.cons_append,List.nil_append,List.getD_cons_zero,List.getD_cons_succ,List.map_cons,List.map_nil,iOf,bOf,sOf,pOf,slLen,z04,cmpI,arI,Value.ite_bool,z01,z03,z00,z02,hk3];exact ⟨this,by omega,by omega⟩
  simp only [List.cons_append,List.nil_append]
  refine zuk (k:=k) (v:=y) h4 hk4 yf (by simp only [ev0,ev,evV,List.cons_append,List.nil_append,List.getD_cons_zero,List.getD_cons_succ,List.map_cons,List.map_nil,iOf,bOf,sOf,pOf,slLen,z04,cmpI,arI,Value.ite_bool,z01,z03,z00,z02,hk3];rw [hcv]) (by simp only [List.map_cons,List.map_nil,ev0,ev,evV,List.cons_append,List.nil_append,List.getD_cons_zero,List.getD_cons_succ,List.map_cons,List.map_nil,iOf,bOf,sOf,pOf,slLen,z04,cmpI,arI,Value.ite_bool,z01,z03,z00,z02]) fun K5 h5=>?_
  exact ⟨S2,_,l2,h5,fq,by rw [←hk2];rfl,rfl⟩
 simp only [ev0,ev,evV,List.cons_append,List.nil_append,List.getD_cons_zero,List.getD_cons_succ,List.map_cons,List.map_nil,iOf,bOf,sOf,pOf,slLen,z04,cmpI,arI,Value.ite_bool,z01,z03,z00,z02,zdf] at g7
 rw [if_neg g7] at hm
 simp only [Option.some.injEq] at hm
 exact ⟨S,q,PH.le_refl _,h3,fq,hm,rfl⟩
end
def Keep (m m':AX):Prop:=(HeapOk m.h→HeapOk m'.h)∧m'.steps=m.steps∧m'.most=m.most
theorem z0l {m m':AX} (h1:m'.h=m.h) (h2:m'.steps=m.steps) (h3:m'.most=m.most):Keep m m':=⟨fun h=>h1 ▸ h,h2,h3⟩
theorem Keep.trans {a b c:AX} (h:Keep a b) (k:Keep b c):Keep a c:=⟨fun x=>k.1 (h.1 x),k.2.1.trans h.2.1,k.2.2.trans h.2.2⟩
theorem Z0f (m:AX) (p:PrX):Keep m (m.proc p).1:=⟨fun h=>(zxb h (by decide) (by simp) (by decide) (by decide) (by decide) (by simp)).1,rfl,rfl⟩
theorem Z0n {m m':AX} {v:VX} {args:List VX} (h:m.call v args=some m'):Keep m m':=by
 unfold AX.call at h
 split at h
 ·cases h
 split at h
 ·simp only [Option.some.injEq] at h;subst h;exact z0l rfl rfl rfl
 simp only at h
 split at h
 ·split at h
  ·cases h
  ·split at h
   ·simp only [Option.some.injEq] at h;subst h;exact z0l rfl rfl rfl
   ·simp only [Option.some.injEq] at h;subst h;exact z0l rfl rfl rfl
 split at h
 ·simp only [Option.some.injEq] at h;subst h;exact z0l rfl rfl rfl
 split at h
 ·cases h
 ·obtain ⟨b,_,rfl⟩:=Option.map_eq_some_iff.1 h
  exact z0l rfl rfl rfl
theorem Z11 {m m':AX} {p:List UInt8} {args:List VX} (h:m.prim p args=some m'):Keep m m':=by
 unfold AX.prim at h
 split at h
 ·split at h
  ·simp only [Option.some.injEq] at h;subst h;exact z0l rfl rfl rfl
  ·simp only [Option.some.injEq] at h;subst h;exact z0l rfl rfl rfl
 split at h
 ·obtain ⟨b,_,rfl⟩:=Option.map_eq_some_iff.1 h
  split
  ·exact z0l rfl rfl rfl
  ·split
   ·exact z0l rfl rfl rfl
   ·exact z0l rfl rfl rfl
 split at h
 ·simp only [Option.some.injEq] at h;subst h;exact z0l rfl rfl rfl
 split at h
 ·simp only [Option.some.injEq] at h;subst h;exact z0l rfl rfl rfl
 split at h
 ·obtain ⟨b,_,rfl⟩:=Option.map_eq_some_iff.1 h
  exact z0l rfl rfl rfl
 split at h
 ·cases h
 ·simp only [Option.some.injEq] at h;subst h
  exact ⟨fun hh=>(Z0h hh p args).1,rfl,rfl⟩
def Keep1 (m m':AX):Prop:=(HeapOk m.h→HeapOk m'.h)∧(m.steps≤m.most→m'.steps≤m'.most)∧m'.most=m.most
theorem Keep.one {m m':AX} (h:Keep m m'):Keep1 m m':=⟨h.1,fun x=>by rw [h.2.1,h.2.2];exact x,h.2.2⟩
theorem zzi {m m':AX} {e:Xp} {env:List VarX} (h:m.eval e env=some m'):Keep1 m m':=by
 unfold AX.eval at h
 by_cases hne:m.steps=m.most
 ·rw [if_pos hne] at h
  simp only [Option.some.injEq] at h;subst h;exact (z0l rfl rfl rfl).one
 rw [if_neg hne] at h
 by_cases hbig:1000000 < e.kids.length∨1000000 < e.names.length∨4294967296 < env.length
 ·rw [if_pos hbig] at h;cases h
 rw [if_neg hbig] at h
 have kk:∀m2:AX,Keep { m with steps:=m.steps+1 } m2→Keep1 m m2:=fun m2 k=>⟨k.1,fun hs=>by rw [k.2.1,k.2.2];show m.steps+1≤m.most;omega,k.2.2⟩
 obtain ⟨q,hq⟩:∃q:AX,{ m with steps:=m.steps+1 }=q:=⟨_,rfl⟩
 rw [hq] at kk
 simp only [hq] at h
 by_cases k0:e.kind=0
 ·rw [if_pos k0] at h
  simp only [Option.some.injEq] at h;subst h;exact kk _ (z0l rfl rfl rfl)
 rw [if_neg k0] at h
 by_cases k1:e.kind=1
 ·rw [if_pos k1] at h
  obtain ⟨b,_,rfl⟩:=Option.map_eq_some_iff.1 h
  exact kk _ (z0l rfl rfl rfl)
 rw [if_neg k1] at h
 by_cases k2:e.kind=2
 ·rw [if_pos k2] at h
  obtain ⟨b,_,rfl⟩:=Option.map_eq_some_iff.1 h
  exact kk _ (z0l rfl rfl rfl)
 rw [if_neg k2] at h
 by_cases k3:e.kind=3
 ·rw [if_pos k3] at h
  obtain ⟨b,_,rfl⟩:=Option.map_eq_some_iff.1 h
  exact kk _ (z0l rfl rfl rfl)
 rw [if_neg k3] at h
 by_cases k4:e.kind=4
 ·rw [if_pos k4] at h
  obtain ⟨b,_,rfl⟩:=Option.map_eq_some_iff.1 h
  exact kk _ (z0l rfl rfl rfl)
 rw [if_neg k4] at h
 by_cases k5:e.kind=5
 ·rw [if_pos k5] at h
  simp only [Option.some.injEq] at h;subst h
  exact kk _ ((Z0f q ⟨0,e,env,false,[],[]⟩).trans (z0l rfl rfl rfl))
 rw [if_neg k5] at h
 by_cases k6:e.kind=6
 ·rw [if_pos k6] at h
  simp only [Option.some.injEq] at h;subst h;exact kk _ (z0l rfl rfl rfl)
 rw [if_neg k6] at h
 by_cases k7:e.kind=7
 ·rw [if_pos k7] at h
  simp only [Option.some.injEq] at h;subst h;exact kk _ (z0l rfl rfl rfl)
 rw [if_neg k7] at h
 by_cases k8:e.kind=8
 ·rw [if_pos k8] at h
  by_cases hz:e.kids.length=0
  ·rw [if_pos hz] at h;cases h
  ·rw [if_neg hz] at h
   simp only [Option.some.injEq] at h;subst h;exact kk _ (z0l rfl rfl rfl)
 rw [if_neg k8] at h
 by_cases k9:e.kind=9∨e.kind=10
 ·rw [if_pos k9] at h
  unfold AX.recA at h
  cases hk:e.kids[e.names.length]? with
  | none=>rw [hk] at h;cases h
  | some b=>
   rw [hk] at h
   simp only [Option.some.injEq] at h;subst h;exact kk _ (z0l rfl rfl rfl)
 ·rw [if_neg k9] at h
  simp only [Option.some.injEq] at h;subst h;exact kk _ (z0l rfl rfl rfl)
theorem z85 {m:AX} {n:Nat} {r:AX×List VX} (h:m.pop n=some r):Keep m r.1:=by
 unfold AX.pop at h
 split at h
 ·simp only [Option.some.injEq] at h;subst h;exact z0l rfl rfl rfl
 ·cases h
theorem zzu {m m':AX} (h:m.next=some m'):Keep1 m m':=by
 unfold AX.next at h
 split at h
 ·split at h
  ·cases h
  ·rename_i t _
   have k0:∀m2:AX,Keep1 { m with todo:=m.todo.dropLast } m2→Keep1 m m2:=fun m2 k=>k
   refine k0 _ ?_
   generalize ({ m with todo:=m.todo.dropLast }:AX)=q at h
   unfold AX.act at h
   split at h
   ·exact zzi h
   split at h
   ·obtain ⟨r,hr,rfl⟩:=Option.map_eq_some_iff.1 h
    exact (z85 hr).one
   split at h
   ·obtain ⟨r,hr,h2⟩:=Option.bind_eq_some_iff.1 h
    obtain ⟨k,_,rfl⟩:=Option.map_eq_some_iff.1 h2
    exact ((z85 hr).trans (z0l rfl rfl rfl)).one
   split at h
   ·obtain ⟨r,hr,h2⟩:=Option.bind_eq_some_iff.1 h
    obtain ⟨k,_,rfl⟩:=Option.map_eq_some_iff.1 h2
    exact ((z85 hr).trans (z0l rfl rfl rfl)).one
   split at h
   ·split at h
    ·cases h
    ·obtain ⟨r,hr,h2⟩:=Option.bind_eq_some_iff.1 h
     exact ((z85 hr).trans (Z0n h2)).one
   split at h
   ·obtain ⟨r,hr,h2⟩:=Option.bind_eq_some_iff.1 h
    exact ((z85 hr).trans (Z11 h2)).one
   split at h
   ·split at h
    ·cases h
    ·obtain ⟨r,hr,h2⟩:=Option.bind_eq_some_iff.1 h
     obtain ⟨k,_,rfl⟩:=Option.map_eq_some_iff.1 h2
     exact ((z85 hr).trans (z0l rfl rfl rfl)).one
   split at h
   ·obtain ⟨r,hr,h2⟩:=Option.bind_eq_some_iff.1 h
    obtain ⟨k,_,rfl⟩:=Option.map_eq_some_iff.1 h2
    exact ((z85 hr).trans (z0l rfl rfl rfl)).one
   ·simp only [Option.some.injEq] at h;subst h;exact (z0l rfl rfl rfl).one
 ·cases h
theorem zr1 {E:List Value} {H:PH} {p:SV} {ss:List SV} {pend:List (SV×List SV)} (h:rowAt H (pOf (ev0 E p)) (ss.map (ev0 E))) (t:z0m E H pend):z0m E H ((p,ss)::pend):=fun x hx=>by
 rcases List.mem_cons.1 hx with rfl | hx
 ·exact h
 ·exact t x hx
def runA (N:Nat) (e:Xp) (input:List UInt8) (steps:Int):Option OutX:=
 if steps < 0∨1000000 < steps then some ⟨1,[],dat0,false,0⟩
 else if (e.chk false 0 0).2≠0∨e.fr []≠[] then some ⟨94,[],dat0,false,0⟩
 else (AX.go N (AX.first e input steps.toNat)).bind AX.told
theorem zjl (l:List (List UInt8)):(freeS l).length=0↔l=[]:=by
 constructor
 ·intro h
  cases l with
  | nil=>rfl
  | cons a l=>
   have h1:a∈freeS (a::l):=mem_freeS.2 (zms)
   rw [List.length_eq_zero_iff.1 h] at h1;cases h1
 ·rintro rfl
  rw [List.length_eq_zero_iff]
  apply List.eq_nil_iff_forall_not_mem.2
  intro a h
  rw [mem_freeS] at h;cases h
def ma0 (input:List UInt8) (N:Nat):MA:=⟨[],.slice none 0 0,[],.slice none 0 0,[],.slice none 0 0,input,[],.slice none 0 0,⟨4,0,[]⟩,0,N,[],.slice none 0 0,[],.slice none 0 0,0⟩
theorem zti (n:Nat) (m:AX):AX.go n m=if m.e≠0∨m.todo.isEmpty=true then some m else match n with
  | 0=>none
  | n+1=>match m.next with
   | none=>none
   | some m'=>AX.go n m':=by
 cases n<;>rfl
theorem zue (N:Nat) (e:Xp) (es:List Value) (input:List UInt8) (steps:Int) (H:PH) (he:e.Rep H es) (hst:InI steps) (o:OutX) (ho:runA N e input steps=some o) :
  Tri Tryz.prog ziy #[.agg es.toArray,txt input,.int .i64 steps] H fun x H'=>PH.le H H'∧∃cs,x=.returned (.agg cs.toArray)∧o.Rep H' cs:=by
 have he':=he
 obtain ⟨nb,db,kb,nc,dc,kc,rfl,hx⟩:=Xp.Rep.open he
 refine zgh (exVs e nb db kb nc dc kc++[txt input,.int .i64 steps]) (by kernel_rfl) (by kernel_rfl) ?_
 simp only [List.cons_append,List.nil_append]
 unfold runA at ho
 refine ⟨fun g=>?_,fun g=>?_⟩
 ·have g':steps < 0∨1000000 < steps:=by simpa [ev0,ev,evV,List.cons_append,List.nil_append,List.getD_cons_zero,List.getD_cons_succ,List.map_cons,List.map_nil,iOf,bOf,sOf,pOf,slLen,z04,cmpI,arI,Value.ite_bool,z01,z03,z00,z02] using g
  rw [if_pos g'] at ho
  simp only [Option.some.injEq] at ho
  subst ho
  exact ⟨PH.le_refl _,_,rfl,zsu 1 _⟩
 have g':¬(steps < 0∨1000000 < steps):=by
  simp [ev0,ev,evV,List.cons_append,List.nil_append,List.getD_cons_zero,List.getD_cons_succ,List.map_cons,List.map_nil,iOf,bOf,sOf,pOf,slLen,z04,cmpI,arI,Value.ite_bool,z01,z03,z00,z02] at g
  omega
 rw [if_neg g'] at ho
 refine ⟨fun vs K=>PH.le H K∧vs=[.bool (decide ((e.chk false 0 0).2≠0∨e.fr []≠[]))],?_,?_⟩
 rotate_left
 ·refine z07 [.int .i64 (e.chk false 0 0).2] z3j (zam e _ H he') rfl z05 fun H1 l1=>⟨fun g2=>?_,fun g2=>?_⟩
  ·simp only [ev0,ev,evV,List.cons_append,List.nil_append,List.getD_cons_zero,List.getD_cons_succ,List.map_cons,List.map_nil,iOf,bOf,sOf,pOf,slLen,z04,cmpI,arI,Value.ite_bool,z01,z03,z00,z02,ne_eq,decide_not,Bool.not_eq_true',zdf] at g2
   exact ⟨_,z06,l1,by simp [ev0,ev,evV,List.cons_append,List.nil_append,List.getD_cons_zero,List.getD_cons_succ,List.map_cons,List.map_nil,iOf,bOf,sOf,pOf,slLen,z04,cmpI,arI,Value.ite_bool,z01,z03,z00,z02,g2]⟩
  ·simp only [ev0,ev,evV,List.cons_append,List.nil_append,List.getD_cons_zero,List.getD_cons_succ,List.map_cons,List.map_nil,iOf,bOf,sOf,pOf,slLen,z04,cmpI,arI,Value.ite_bool,z01,z03,z00,z02,ne_eq,decide_not,Bool.not_eq_false',zdt] at g2
   have hb:=z3q g2
   have hz:=z4t g2
   simp only [List.cons_append,List.nil_append]
   refine z08 z1s (zax e _ H1 (Xp.Rep.le l1 e he') (by omega) (by omega)) ?_
   rintro x H2 ⟨l2,v,rfl,hv⟩
   obtain ⟨b,c,rfl⟩:=hv.sl
   refine ⟨_,[.slice b (freeS (e.fr [])).length c],rfl,rfl,rfl,z05,?_⟩
   refine ⟨_,z06,PH.le_trans l1 l2,?_⟩
   have hfs:=zjl (e.fr [])
   simp only [ev0,ev,evV,List.cons_append,List.nil_append,List.getD_cons_zero,List.getD_cons_succ,List.map_cons,List.map_nil,iOf,bOf,sOf,pOf,slLen,z04,cmpI,arI,Value.ite_bool,z01,z03,z00,z02]
   congr 2
   refine decide_eq_decide.2 ?_
   constructor
   ·intro h;right;intro h2;rw [hfs.2 h2] at h;simp at h
   ·rintro (h | h)
    ·exact absurd g2 h
    ·have:¬(freeS (e.fr [])).length=0:=fun h2=>h (hfs.1 h2)
     omega
 rintro vs K _ ⟨lK,rfl⟩
 simp only [List.cons_append,List.nil_append]
 refine ⟨fun g2=>?_,fun g2=>?_⟩
 ·simp only [ev0,ev,evV,List.cons_append,List.nil_append,List.getD_cons_zero,List.getD_cons_succ,List.map_cons,List.map_nil,iOf,bOf,sOf,pOf,slLen,z04,cmpI,arI,Value.ite_bool,z01,z03,z00,z02,zdt] at g2
  rw [if_pos g2] at ho
  simp only [Option.some.injEq] at ho
  subst ho
  exact ⟨lK,_,rfl,zsu 94 _⟩
 simp only [ev0,ev,evV,List.cons_append,List.nil_append,List.getD_cons_zero,List.getD_cons_succ,List.map_cons,List.map_nil,iOf,bOf,sOf,pOf,slLen,z04,cmpI,arI,Value.ite_bool,z01,z03,z00,z02,zdf] at g2
 rw [if_neg g2] at ho
 obtain ⟨M,hM⟩:∃M:Nat,steps=(M:Int):=⟨steps.toNat,by omega⟩
 subst hM
 rw [Int.toNat_natCast] at ho
 have hM6:M≤1000000:=by omega
 obtain ⟨mE,hgo,htold⟩:=Option.bind_eq_some_iff.1 ho
 have hxK:=exvLe lK hx
 have h0:Held K K []:=Held.nil (PH.le_refl _)
 refine zbk (vs:=[.slice none 0 0]) h0 (by simp only [List.map_cons,List.map_nil,ev0,ev,evV,List.cons_append,List.nil_append,List.getD_cons_zero,List.getD_cons_succ,List.map_cons,List.map_nil,iOf,bOf,sOf,pOf,slLen,z04,cmpI,arI,Value.ite_bool,z01,z03,z00,z02];rfl) fun hr H2 l2 h2=>?_
 simp only [List.cons_append,List.nil_append]
 refine zbk (vs:=(ma0 input M).cs hr) h2 (by simp only [List.map_cons,List.map_nil,ev0,ev,evV,List.cons_append,List.nil_append,List.getD_cons_zero,List.getD_cons_succ,List.map_cons,List.map_nil,iOf,bOf,sOf,pOf,slLen,z04,cmpI,arI,Value.ite_bool,z01,z03,z00,z02];rfl) fun mr H3 l3 h3=>?_
 simp only [List.cons_append,List.nil_append]
 have h4:Held K H3 (machA mr hr (ma0 input M) []):=by
  have h5:=(((((h3.swap.empty (α:=TR) 125).swap.to2).empty (α:=UInt8) 5).empty (α:=PrX) 116).empty (α:=VX) 73).empty (α:=VX) 73 |>.empty (α:=TdX) 82
  exact h5.to5
 have f4:AFit (ma0 input M):=fitX (by decide) (by decide) (by simp)
 refine z08 z0a (z2e (e:=e) (env:=[]) (eb:=none) (ec:=0) h4 f4 hxK (zlu K) (by show (0:Nat)≤_;omega)) ?_
 rintro x K5 ⟨S5,s5,l5,h5,f5,hx5,rfl⟩
 refine ⟨_,[],rfl,rfl,rfl,z05,?_⟩
 simp only [List.append_nil]
 have hfirst:s5.x=AX.first e input M:=by rw [hx5];rfl
 refine ⟨fun n vs K6=>∃(S6:PH) (s6:MA),vs=[]∧PH.le K S6∧Held S6 K6 (machA mr hr s6 [])∧AFit s6∧HeapOk s6.x.h∧s6.x.steps≤s6.x.most∧s6.x.most=M∧AX.go n s6.x=some mE,⟨N,S5,s5,rfl,l5,h5,f5,?_,?_,?_,?_⟩,?_⟩
 ·rw [hfirst];refine ⟨?_,?_,?_,?_,?_,?_⟩<;>intro t ht<;>cases ht
 ·rw [hfirst];exact Nat.zero_le _
 ·rw [hfirst];rfl
 ·rw [hfirst];exact hgo
 rintro n vs K6 _ ⟨S6,s6,rfl,l6,h6,f6,hh6,hs6,hm6,hgo6⟩
 simp only [List.append_nil]
 rw [zti] at hgo6
 refine ⟨fun vs K'=>K6=K'∧vs=[.bool (decide (s6.e=0∧s6.todo≠[]))],?_,?_⟩
 rotate_left
 ·refine ⟨fun _=>by simp [Chk.holds,ev0,ev,evV,List.cons_append,List.nil_append,List.getD_cons_zero,List.getD_cons_succ,List.map_cons,List.map_nil,iOf,bOf,sOf,pOf,slLen,z04,cmpI,arI,Value.ite_bool,z01,z03,z00,z02],[.int .i64 s6.e],rfl,by simp only [ev0,ev,evV,List.cons_append,List.nil_append,List.getD_cons_zero,List.getD_cons_succ,List.map_cons,List.map_nil,iOf,bOf,sOf,pOf,slLen,z04,cmpI,arI,Value.ite_bool,z01,z03,z00,z02];exact mA_ld h6 rfl,fun g3=>?_,fun g3=>?_⟩
  ·simp only [ev0,ev,evV,List.cons_append,List.nil_append,List.getD_cons_zero,List.getD_cons_succ,List.map_cons,List.map_nil,iOf,bOf,sOf,pOf,slLen,z04,cmpI,arI,Value.ite_bool,z01,z03,z00,z02,zdt] at g3
   obtain ⟨b,c,htv⟩:=ztg h6
   refine ⟨[.slice b s6.todo.length c],rfl,by simp only [ev0,ev,evV,List.cons_append,List.nil_append,List.getD_cons_zero,List.getD_cons_succ,List.map_cons,List.map_nil,iOf,bOf,sOf,pOf,slLen,z04,cmpI,arI,Value.ite_bool,z01,z03,z00,z02];rw [←htv];exact mA_ld h6 rfl,_,z06,rfl,?_⟩
   simp only [ev0,ev,evV,List.cons_append,List.nil_append,List.getD_cons_zero,List.getD_cons_succ,List.map_cons,List.map_nil,iOf,bOf,sOf,pOf,slLen,z04,cmpI,arI,Value.ite_bool,z01,z03,z00,z02]
   congr 2
   refine decide_eq_decide.2 ?_
   constructor
   ·intro h;refine ⟨g3,fun h2=>?_⟩;rw [h2] at h;simp at h
   ·rintro ⟨_,h⟩
    have:=List.length_pos_iff.2 h
    omega
  ·simp only [ev0,ev,evV,List.cons_append,List.nil_append,List.getD_cons_zero,List.getD_cons_succ,List.map_cons,List.map_nil,iOf,bOf,sOf,pOf,slLen,z04,cmpI,arI,Value.ite_bool,z01,z03,z00,z02,zdf] at g3
   exact ⟨_,z06,rfl,by simp [ev0,ev,evV,List.cons_append,List.nil_append,List.getD_cons_zero,List.getD_cons_succ,List.map_cons,List.map_nil,iOf,bOf,sOf,pOf,slLen,z04,cmpI,arI,Value.ite_bool,z01,z03,z00,z02,g3]⟩
 rintro vs K' _ ⟨rfl,rfl⟩
 simp only [List.cons_append,List.nil_append]
 refine ⟨fun g3=>?_,fun g3=>?_⟩
 ·simp only [ev0,ev,evV,List.cons_append,List.nil_append,List.getD_cons_zero,List.getD_cons_succ,List.map_cons,List.map_nil,iOf,bOf,sOf,pOf,slLen,z04,cmpI,arI,Value.ite_bool,z01,z03,z00,z02,zdt] at g3
  have hne:¬(s6.x.e≠0∨s6.x.todo.isEmpty=true):=by
   rintro (h | h)
   ·exact h g3.1
   ·exact g3.2 (List.isEmpty_iff.1 h)
  rw [if_neg hne] at hgo6
  cases n with
  | zero=>cases hgo6
  | succ n=>
  simp only at hgo6
  cases hnx:s6.x.next with
  | none=>rw [hnx] at hgo6;cases hgo6
  | some m7=>
  rw [hnx] at hgo6
  simp only at hgo6
  have hk:=zzu hnx
  refine z08 z95 (zzd h6 f6 hh6 (by have:s6.steps≤s6.x.most:=hs6;omega) hnx) ?_
  rintro x K7 ⟨S7,s7,l7,h7,f7,hx7,rfl⟩
  refine ⟨_,[],rfl,rfl,rfl,z05,?_⟩
  refine ⟨_,z06,n,by omega,S7,s7,by simp only [ev0,ev,evV,List.cons_append,List.nil_append,List.getD_cons_zero,List.getD_cons_succ,List.map_cons,List.map_nil,iOf,bOf,sOf,pOf,slLen,z04,cmpI,arI,Value.ite_bool,z01,z03,z00,z02],PH.le_trans l6 l7,h7,f7,?_,?_,?_,?_⟩
  ·rw [hx7];exact hk.1 hh6
  ·rw [hx7];exact hk.2.1 hs6
  ·rw [hx7,hk.2.2];exact hm6
  ·rw [hx7];exact hgo6
 simp only [ev0,ev,evV,List.cons_append,List.nil_append,List.getD_cons_zero,List.getD_cons_succ,List.map_cons,List.map_nil,iOf,bOf,sOf,pOf,slLen,z04,cmpI,arI,Value.ite_bool,z01,z03,z00,z02,zdf] at g3
 have hend:s6.x.e≠0∨s6.x.todo.isEmpty=true:=by
  rcases Classical.em (s6.x.e=0) with h | h
  ·right
   rw [List.isEmpty_iff]
   rcases Classical.em (s6.x.todo=[]) with h2 | h2
   ·exact h2
   ·exact absurd ⟨h,h2⟩ g3
  ·exact .inl h
 rw [if_pos hend] at hgo6
 simp only [Option.some.injEq] at hgo6
 subst hgo6
 clear hgo ho hend g3 hm6 hs6 hfirst hx5 h5 f5 h4 f4 h3 h2 h0
 have r13:rowAt K6 (some ⟨mr,12,none⟩) [.int .i64 s6.e]:=mA_ld h6 rfl
 have r5:rowAt K6 (some ⟨mr,4,none⟩) [s6.ov]:=mA_ld h6 rfl
 have r8:rowAt K6 (some ⟨mr,8,none⟩) [nI s6.steps]:=mA_ld h6 rfl
 have r1:rowAt K6 (some ⟨mr,0,none⟩) [pAt hr]:=mA_ld h6 rfl
 have r11:rowAt K6 (some ⟨mr,11,none⟩) [s6.vv]:=mA_ld h6 rfl
 have rO:SlR K6 s6.out s6.ov:=(h6.to5.row (zms)).slR h6.sh
 have rV:SlR K6 s6.vals s6.vv:=(h6.to2.row (zms)).slR h6.sh
 have rH:=zwf h6
 obtain ⟨ob,oc,hov⟩:=Z0k h6
 rw [hov] at r5 rO
 obtain ⟨vb,vc,hvv⟩:=ztx h6
 rw [hvv] at r11 rV
 have hHK:PH.le H K6:=PH.le_trans lK (PH.le_trans l6 h6.sh)
 have hK:Held K6 K6 []:=Held.nil (PH.le_refl _)
 have hOK:HeapOk (hpX s6.L):=hh6
 unfold AX.told at htold
 clear h6
 have hoe:o.err=s6.e∧o.out=s6.out∧o.steps=s6.steps:=by
  split at htold
  ·obtain ⟨v,_,rfl⟩:=Option.map_eq_some_iff.1 htold
   exact ⟨rfl,rfl,rfl⟩
  ·simp only [Option.some.injEq] at htold
   subst htold
   exact ⟨rfl,rfl,rfl⟩
 refine ⟨fun vs K'=>∃r,vs=[pAt r]∧Held K6 K' [bx r 56 [.int .i64 s6.e,txt s6.out,.int .i64 0,.int .i64 0,txt [],.slice none 0 0,.bool false,nI s6.steps]],?_,?_⟩
 rotate_left
 ·refine ⟨fun _=>by simp [Chk.holds,ev0,ev,evV,List.cons_append,List.nil_append,List.getD_cons_zero,List.getD_cons_succ,List.map_cons,List.map_nil,iOf,bOf,sOf,pOf,slLen,z04,cmpI,arI,Value.ite_bool,z01,z03,z00,z02],[.int .i64 s6.e],rfl,by simp only [ev0,ev,evV,List.cons_append,List.nil_append,List.getD_cons_zero,List.getD_cons_succ,List.map_cons,List.map_nil,iOf,bOf,sOf,pOf,slLen,z04,cmpI,arI,Value.ite_bool,z01,z03,z00,z02];exact r13,[.slice ob s6.out.length oc],rfl,by simp only [ev0,ev,evV,List.cons_append,List.nil_append,List.getD_cons_zero,List.getD_cons_succ,List.map_cons,List.map_nil,iOf,bOf,sOf,pOf,slLen,z04,cmpI,arI,Value.ite_bool,z01,z03,z00,z02];exact r5,[nI s6.steps],rfl,by simp only [ev0,ev,evV,List.cons_append,List.nil_append,List.getD_cons_zero,List.getD_cons_succ,List.map_cons,List.map_nil,iOf,bOf,sOf,pOf,slLen,z04,cmpI,arI,Value.ite_bool,z01,z03,z00,z02];exact r8,?_,?_⟩
  ·refine zbx zhv zqk uByte (by kernel_rfl) rO (zr1 (by simp only [ev0,ev,evV,List.cons_append,List.nil_append,List.getD_cons_zero,List.getD_cons_succ,List.map_cons,List.map_nil,iOf,bOf,sOf,pOf,slLen,z04,cmpI,arI,Value.ite_bool,z01,z03,z00,z02];exact r8) (z1x (by simp only [ev0,ev,evV,List.cons_append,List.nil_append,List.getD_cons_zero,List.getD_cons_succ,List.map_cons,List.map_nil,iOf,bOf,sOf,pOf,slLen,z04,cmpI,arI,Value.ite_bool,z01,z03,z00,z02];exact r13))) ?_
   simp only [List.cons_append,List.nil_append]
   refine zbk (vs:=[.int .i64 0,txt [],.int .i64 0,.int .i64 0,txt [],.slice none 0 0,.bool false,.int .i64 0]) hK (by simp only [List.map_cons,List.map_nil,ev0,ev,evV,List.cons_append,List.nil_append,List.getD_cons_zero,List.getD_cons_succ,List.map_cons,List.map_nil,iOf,bOf,sOf,pOf,slLen,z04,cmpI,arI,Value.ite_bool,z01,z03,z00,z02];rfl) fun r K8 l8 h8=>?_
   simp only [List.cons_append,List.nil_append]
   refine z0u (off:=0) (vs:=[.int .i64 s6.e,txt s6.out,.int .i64 0,.int .i64 0,txt [],.slice none 0 0,.bool false,nI s6.steps]) (by simp only [ev0,ev,evV,List.cons_append,List.nil_append,List.getD_cons_zero,List.getD_cons_succ,List.map_cons,List.map_nil,iOf,bOf,sOf,pOf,slLen,z04,cmpI,arI,Value.ite_bool,z01,z03,z00,z02]) h8 (by simp only [List.map_cons,List.map_nil,ev0,ev,evV,List.cons_append,List.nil_append,List.getD_cons_zero,List.getD_cons_succ,List.map_cons,List.map_nil,iOf,bOf,sOf,pOf,slLen,z04,cmpI,arI,Value.ite_bool,z01,z03,z00,z02];rfl) (by
    intro u hu
    simp only [List.mem_cons,List.not_mem_nil,or_false] at hu
    rcases hu with rfl | rfl | rfl | rfl | rfl | rfl | rfl | rfl<;>rfl) (by simp) fun K9 h9=>?_
   exact ⟨_,z06,r,rfl,h9⟩
  ·refine zbk (vs:=[.int .i64 0,txt [],.int .i64 0,.int .i64 0,txt [],.slice none 0 0,.bool false,.int .i64 0]) hK (by simp only [List.map_cons,List.map_nil,ev0,ev,evV,List.cons_append,List.nil_append,List.getD_cons_zero,List.getD_cons_succ,List.map_cons,List.map_nil,iOf,bOf,sOf,pOf,slLen,z04,cmpI,arI,Value.ite_bool,z01,z03,z00,z02];rfl) fun r K8 l8 h8=>?_
   simp only [List.cons_append,List.nil_append]
   refine zbx zhv zqk uByte (by kernel_rfl) (rO.le l8) (zr1 (by simp only [ev0,ev,evV,List.cons_append,List.nil_append,List.getD_cons_zero,List.getD_cons_succ,List.map_cons,List.map_nil,iOf,bOf,sOf,pOf,slLen,z04,cmpI,arI,Value.ite_bool,z01,z03,z00,z02];exact z0b l8 r8) (z1x (by simp only [ev0,ev,evV,List.cons_append,List.nil_append,List.getD_cons_zero,List.getD_cons_succ,List.map_cons,List.map_nil,iOf,bOf,sOf,pOf,slLen,z04,cmpI,arI,Value.ite_bool,z01,z03,z00,z02];exact z0b l8 r13))) ?_
   simp only [List.cons_append,List.nil_append]
   refine z0u (off:=0) (vs:=[.int .i64 s6.e,txt s6.out,.int .i64 0,.int .i64 0,txt [],.slice none 0 0,.bool false,nI s6.steps]) (by simp only [ev0,ev,evV,List.cons_append,List.nil_append,List.getD_cons_zero,List.getD_cons_succ,List.map_cons,List.map_nil,iOf,bOf,sOf,pOf,slLen,z04,cmpI,arI,Value.ite_bool,z01,z03,z00,z02]) h8 (by simp only [List.map_cons,List.map_nil,ev0,ev,evV,List.cons_append,List.nil_append,List.getD_cons_zero,List.getD_cons_succ,List.map_cons,List.map_nil,iOf,bOf,sOf,pOf,slLen,z04,cmpI,arI,Value.ite_bool,z01,z03,z00,z02];rfl) (by
    intro u hu
    simp only [List.mem_cons,List.not_mem_nil,or_false] at hu
    rcases hu with rfl | rfl | rfl | rfl | rfl | rfl | rfl | rfl<;>rfl) (by simp) fun K9 h9=>?_
   exact ⟨_,z06,r,rfl,h9⟩
 rintro vs K2 _ ⟨r,rfl,h8⟩
 simp only [List.cons_append,List.nil_append]
 refine ⟨fun vs K'=>vs=[]∧∃(S8:PH) (dk dn:Int) (dt:List UInt8) (dv:Value),PH.le K6 S8∧Held S8 K' [bx r 56 [.int .i64 s6.e,txt s6.out,.int .i64 dk,.int .i64 dn,txt dt,dv,.bool o.whole,nI s6.steps]]∧o.shown.Rep S8 [.int .i64 dk,.int .i64 dn,txt dt,dv],?_,fun _=>by simp [Chk.holds,ev0,ev,evV,List.cons_append,List.nil_append,List.getD_cons_zero,List.getD_cons_succ,List.map_cons,List.map_nil,iOf,bOf,sOf,pOf,slLen,z04,cmpI,arI,Value.ite_bool,z01,z03,z00,z02],[.int .i64 s6.e],rfl,by simp only [ev0,ev,evV,List.cons_append,List.nil_append,List.getD_cons_zero,List.getD_cons_succ,List.map_cons,List.map_nil,iOf,bOf,sOf,pOf,slLen,z04,cmpI,arI,Value.ite_bool,z01,z03,z00,z02];exact z0b h8.sh r13,fun g3=>?_,fun g3=>?_⟩
 rotate_left
 ·simp only [ev0,ev,evV,List.cons_append,List.nil_append,List.getD_cons_zero,List.getD_cons_succ,List.map_cons,List.map_nil,iOf,bOf,sOf,pOf,slLen,z04,cmpI,arI,Value.ite_bool,z01,z03,z00,z02,zdt] at g3
  rw [if_pos (show s6.x.e=0 from g3)] at htold
  obtain ⟨v,hv,rfl⟩:=Option.map_eq_some_iff.1 htold
  replace hv:s6.vals[0]?=some v:=hv
  obtain ⟨y1,_,ycs,y2,y3⟩:=rV.get hv
  obtain ⟨rfl,yf⟩:=z2q y2
  have hv0:=(List.getElem?_eq_some_iff.1 hv).1
  refine ⟨[pAt hr],rfl,by simp only [ev0,ev,evV,List.cons_append,List.nil_append,List.getD_cons_zero,List.getD_cons_succ,List.map_cons,List.map_nil,iOf,bOf,sOf,pOf,slLen,z04,cmpI,arI,Value.ite_bool,z01,z03,z00,z02];exact z0b h8.sh r1,[.slice vb s6.vals.length vc],rfl,by simp only [ev0,ev,evV,List.cons_append,List.nil_append,List.getD_cons_zero,List.getD_cons_succ,List.map_cons,List.map_nil,iOf,bOf,sOf,pOf,slLen,z04,cmpI,arI,Value.ite_bool,z01,z03,z00,z02];exact z0b h8.sh r11,fun _=>?_,valVs v,rfl,by simp only [ev0,ev,evV,List.cons_append,List.nil_append,List.getD_cons_zero,List.getD_cons_succ,List.map_cons,List.map_nil,iOf,bOf,sOf,pOf,slLen,z04,cmpI,arI,Value.ite_bool,z01,z03,z00,z02];exact z0b h8.sh y3,?_⟩
  ·simp only [Chk.holds,ev0,ev,evV,List.cons_append,List.nil_append,List.getD_cons_zero,List.getD_cons_succ,List.map_cons,List.map_nil,iOf,bOf,sOf,pOf,slLen,z04,cmpI,arI,Value.ite_bool,z01,z03,z00,z02];exact ⟨y1,by omega,by omega⟩
  simp only [List.cons_append,List.nil_append]
  generalize hTV:tellV (hpX s6.L) v=TV
  have hcall:=h8.pure (R:=fun x S'=>∃cs,x=.returned (.tuple #[.agg cs.toArray,.bool (tellV (hpX s6.L) v).2])∧(tellV (hpX s6.L) v).1.Rep S' cs) (zz4 (hpX s6.L) hr hOK v yf K6 rH)
  have hxt:tellV s6.x.h v=TV:=hTV
  rw [hTV] at hcall
  refine z08 zas hcall ?_
  rintro e9 K9 ⟨S9,l9,h9,cs,rfl,hd⟩
  obtain ⟨d,okk⟩:=TV
  obtain ⟨sv,rfl,d1,d2,d3,d4⟩:=Dat.Rep_iff.1 hd
  obtain ⟨sb,sc,rfl⟩:=SlR.sl d4
  refine ⟨_,[.int .i64 d.kind,.int .i64 d.int,txt d.text,.slice sb d.list.length sc,.bool okk],rfl,rfl,rfl,z05,fun _=>by simp [Chk.holds,ev0,ev,evV,List.cons_append,List.nil_append,List.getD_cons_zero,List.getD_cons_succ,List.map_cons,List.map_nil,iOf,bOf,sOf,pOf,slLen,z04,cmpI,arI,Value.ite_bool,z01,z03,z00,z02],?_⟩
  simp only [List.cons_append,List.nil_append]
  refine z0u (off:=2) (vs:=[.int .i64 d.kind,.int .i64 d.int,txt d.text,.slice sb d.list.length sc]) (by simp only [ev0,ev,evV,List.cons_append,List.nil_append,List.getD_cons_zero,List.getD_cons_succ,List.map_cons,List.map_nil,iOf,bOf,sOf,pOf,slLen,z04,cmpI,arI,Value.ite_bool,z01,z03,z00,z02];rfl) h9 (by simp only [List.map_cons,List.map_nil,ev0,ev,evV,List.cons_append,List.nil_append,List.getD_cons_zero,List.getD_cons_succ,List.map_cons,List.map_nil,iOf,bOf,sOf,pOf,slLen,z04,cmpI,arI,Value.ite_bool,z01,z03,z00,z02]) (by
   intro u hu
   simp only [List.mem_cons,List.not_mem_nil,or_false] at hu
   rcases hu with rfl | rfl | rfl | rfl<;>rfl) (by simp) fun K10 h10=>?_
  refine z0u (off:=6) (vs:=[.bool okk]) (by simp only [ev0,ev,evV,List.cons_append,List.nil_append,List.getD_cons_zero,List.getD_cons_succ,List.map_cons,List.map_nil,iOf,bOf,sOf,pOf,slLen,z04,cmpI,arI,Value.ite_bool,z01,z03,z00,z02];rfl) h10 (by simp only [List.map_cons,List.map_nil,ev0,ev,evV,List.cons_append,List.nil_append,List.getD_cons_zero,List.getD_cons_succ,List.map_cons,List.map_nil,iOf,bOf,sOf,pOf,slLen,z04,cmpI,arI,Value.ite_bool,z01,z03,z00,z02]) (by
   intro u hu
   rw [List.mem_singleton.1 hu];rfl) (by simp) fun K11 h11=>?_
  refine ⟨_,z06,rfl,S9,d.kind,d.int,d.text,.slice sb d.list.length sc,l9,?_,?_⟩
  ·simp only [hxt];exact h11
  ·simp only [hxt];exact hd
 ·simp only [ev0,ev,evV,List.cons_append,List.nil_append,List.getD_cons_zero,List.getD_cons_succ,List.map_cons,List.map_nil,iOf,bOf,sOf,pOf,slLen,z04,cmpI,arI,Value.ite_bool,z01,z03,z00,z02,zdf] at g3
  rw [if_neg (show ¬s6.x.e=0 from g3)] at htold
  simp only [Option.some.injEq] at htold
  subst htold
  exact ⟨_,z06,rfl,K6,0,0,[],.slice none 0 0,PH.le_refl _,h8,z2u (k:=0) (n:=0) (t:=[]) (by decide) (by decide) (by decide)⟩
 rintro vs K3 _ ⟨rfl,S8,dk,dn,dt,dv,l8,h9,hd⟩
 obtain ⟨dvv,e1,d1,d2,d3,d4⟩:=Dat.Rep_iff.1 hd
 obtain ⟨sb,sc,hdv⟩:=SlR.sl d4
 have hdv':dv=.slice sb o.shown.list.length sc:=by
  have:dv=dvv:=by simpa using congrArg (fun l:List Value=>l.getD 3 (.bool false)) e1
  rw [this,hdv]
 simp only [List.append_nil]
 refine zye (off:=0) [.int .i64 s6.e,txt s6.out,.int .i64 dk,.int .i64 dn,txt dt,dv,.bool o.whole,nI s6.steps] (by simp only [ev0,ev,evV,List.cons_append,List.nil_append,List.getD_cons_zero,List.getD_cons_succ,List.map_cons,List.map_nil,iOf,bOf,sOf,pOf,slLen,z04,cmpI,arI,Value.ite_bool,z01,z03,z00,z02]) h9 (zms) rfl (by rw [hdv'];rfl) ?_
 simp only [List.cons_append,List.nil_append]
 refine ⟨PH.le_trans hHK (PH.le_trans l8 h9.sh),_,rfl,?_⟩
 refine ⟨[.int .i64 dk,.int .i64 dn,txt dt,dv],?_,Dat.Rep.le h9.sh _ hd⟩
 rw [hoe.1,hoe.2.1,hoe.2.2]
 rfl
theorem zt9:∀(e:Xp) (cs:List Value) (H:PH),e.Rep H cs→e.size≤1000000→Gives Tryz.prog zie [.agg cs.toArray] H (.int .i64 (e.size:Int)):=by
 refine Xp.ind fun e ih cs H he hz=>?_
 have he':=he
 obtain ⟨nb,db,kb,nc,dc,kc,rfl,hx⟩:=Xp.Rep.open he
 have hk:=hx.kids.max
 simp only [maxLen] at hk
 have hse:=Xp.size_eq e
 refine zff (exVs e nb db kb nc dc kc) (by kernel_rfl) (by kernel_rfl) ?_
 refine ⟨fun n vs H'=>∃k:Nat,vs=[.int .i64 ((1+Xps.size (e.kids.take k):Nat):Int),.int .i64 k]∧k+n=e.kids.length∧PH.le H H',⟨e.kids.length,0,by simp [Xps.size,ev0,ev,evV,List.cons_append,List.nil_append,List.getD_cons_zero,List.getD_cons_succ,List.map_cons,List.map_nil,iOf,bOf,sOf,pOf,slLen,z04,cmpI,arI,Value.ite_bool,z01,z03,z00,z02],by omega,PH.le_refl _⟩,?_⟩
 rintro n vs H2 _ ⟨k,rfl,hkn,l2⟩
 refine ⟨fun g1=>?_,fun g1=>?_⟩
 ·simp only [ev0,ev,evV,List.cons_append,List.nil_append,List.getD_cons_zero,List.getD_cons_succ,List.map_cons,List.map_nil,iOf,bOf,sOf,pOf,slLen,z04,cmpI,arI,Value.ite_bool,z01,z03,z00,z02,zdt] at g1
  obtain ⟨a,ha⟩:∃a,e.kids[k]?=some a:=⟨_,zge (show k < e.kids.length by omega)⟩
  obtain ⟨q1,_,ces,g2,g3⟩:=(hx.kids.le l2).get ha
  have hmem:=List.mem_of_getElem? ha
  have htags:=Xp.Rep.tags g2
  have g2':=g2
  obtain ⟨nb',db',kb',nc',dc',kc',rfl,_⟩:=Xp.Rep.open g2'
  have hsa:=Xps.size_at ha
  have hst:Xps.size (e.kids.take (k+1))=Xps.size (e.kids.take k)+a.size:=by
   rw [List.take_add_one,ha,Xps.size_append];simp [Xps.size]
  refine ⟨fun _=>?_,_,htags,by simp only [ev0,ev,evV,List.cons_append,List.nil_append,List.getD_cons_zero,List.getD_cons_succ,List.map_cons,List.map_nil,iOf,bOf,sOf,pOf,slLen,z04,cmpI,arI,Value.ite_bool,z01,z03,z00,z02];exact g3,?_⟩
  ·simp only [Chk.holds,ev0,ev,evV,List.cons_append,List.nil_append,List.getD_cons_zero,List.getD_cons_succ,List.map_cons,List.map_nil,iOf,bOf,sOf,pOf,slLen,z04,cmpI,arI,Value.ite_bool,z01,z03,z00,z02];exact ⟨q1,by omega,by omega⟩
  refine z07 [.int .i64 (a.size:Int)] z7d (ih a hmem _ H2 g2 (by omega)) rfl z05 fun H3 l3=>?_
  refine ⟨_,z06,n - 1,by omega,k+1,?_,by omega,PH.le_trans l2 l3⟩
  simp only [ev0,ev,evV,List.cons_append,List.nil_append,List.getD_cons_zero,List.getD_cons_succ,List.map_cons,List.map_nil,iOf,bOf,sOf,pOf,slLen,z04,cmpI,arI,Value.ite_bool,z01,z03,z00,z02]
  rw [w64 (by omega) (by omega),w64 (by omega) (by omega),hst]
  congr 2
  congr 1
  omega
 ·simp only [ev0,ev,evV,List.cons_append,List.nil_append,List.getD_cons_zero,List.getD_cons_succ,List.map_cons,List.map_nil,iOf,bOf,sOf,pOf,slLen,z04,cmpI,arI,Value.ite_bool,z01,z03,z00,z02,zdf] at g1
  refine ⟨?_,l2⟩
  rw [List.take_of_length_le (by omega)]
  simp only [ev0,ev,evV,List.cons_append,List.nil_append,List.getD_cons_zero,List.getD_cons_succ,List.map_cons,List.map_nil,iOf,bOf,sOf,pOf,slLen,z04,cmpI,arI,Value.ite_bool,z01,z03,z00,z02,hse]
end Go.Proofs.YtjhlndokjkeilaaGreatDoor.Vc
namespace Go.Proofs.YtjhlndokjkeilaaGreatDoor.Vc
open Go Go.Sort
theorem Xps.nam_append (U:List (List UInt8)):∀(l m:List Xp) (c n:Nat),Xps.nam U c (l++m) n=((Xps.nam U c l n).1++(Xps.nam U (c - l.length) m (Xps.nam U c l n).2.2).1,(Xps.nam U c l n).2.1++(Xps.nam U (c - l.length) m (Xps.nam U c l n).2.2).2.1,(Xps.nam U (c - l.length) m (Xps.nam U c l n).2.2).2.2)
 | [],m,c,n=>by rw [Xps.nam_nil];simp
 | e::l,m,0,n=>by
  rw [List.cons_append,Xps.nam_zero,Xps.nam_zero,Xps.nam_append U l m 0]
  simp
 | e::l,m,c+1,n=>by
  have hs:c+1 - (e::l).length=c - l.length:=by simp
  rw [hs,List.cons_append]
  cases h:simX e with
  | true=>rw [Xps.nam_sim U h,Xps.nam_sim U h,Xps.nam_append U l m c];simp
  | false=>rw [Xps.nam_new U h,Xps.nam_new U h,Xps.nam_append U l m c];simp
theorem Xps.nam_snoc0 (U:List (List UInt8)) {l:List Xp} {i:Nat} {a:Xp} (h:l[i]?=some a) {c:Nat} (hc:c≤i) (n:Nat):Xps.nam U c (l.take (i+1)) n=((Xps.nam U c (l.take i) n).1++[(a.nam U (Xps.nam U c (l.take i) n).2.2).1],(Xps.nam U c (l.take i) n).2.1,(a.nam U (Xps.nam U c (l.take i) n).2.2).2):=by
 have hi:=(List.getElem?_eq_some_iff.1 h).1
 rw [List.take_add_one,h,Xps.nam_append]
 have:c - (l.take i).length=0:=by rw [List.length_take];omega
 rw [this]
 simp only [Option.toList_some,Xps.nam_zero,Xps.nam_nil,List.append_nil]
theorem Xps.nam_snocS (U:List (List UInt8)) {l:List Xp} {i:Nat} {a:Xp} (h:l[i]?=some a) {c:Nat} (hc:i < c) (n:Nat) (hs:simX a=true):Xps.nam U c (l.take (i+1)) n=((Xps.nam U c (l.take i) n).1++[a],(Xps.nam U c (l.take i) n).2):=by
 have hi:=(List.getElem?_eq_some_iff.1 h).1
 rw [List.take_add_one,h,Xps.nam_append]
 obtain ⟨k,hk⟩:∃k,c - (l.take i).length=k+1:=⟨c - i - 1,by rw [List.length_take];omega⟩
 rw [hk]
 simp only [Option.toList_some,Xps.nam_sim U hs,Xps.nam_nil,List.append_nil]
theorem Xps.nam_snocN (U:List (List UInt8)) {l:List Xp} {i:Nat} {a:Xp} (h:l[i]?=some a) {c:Nat} (hc:i < c) (n:Nat) (hs:simX a=false):Xps.nam U c (l.take (i+1)) n=((Xps.nam U c (l.take i) n).1++[refX (nwL (frN U (Xps.nam U c (l.take i) n).2.2))],(Xps.nam U c (l.take i) n).2.1++[(nwL (frN U (Xps.nam U c (l.take i) n).2.2),(a.nam U (frN U (Xps.nam U c (l.take i) n).2.2+1)).1)],(a.nam U (frN U (Xps.nam U c (l.take i) n).2.2+1)).2):=by
 have hi:=(List.getElem?_eq_some_iff.1 h).1
 rw [List.take_add_one,h,Xps.nam_append]
 obtain ⟨k,hk⟩:∃k,c - (l.take i).length=k+1:=⟨c - i - 1,by rw [List.length_take];omega⟩
 rw [hk]
 simp only [Option.toList_some,Xps.nam_new U hs,Xps.nam_nil]
abbrev nmB (nr ub n:Nat):Itm:=bx nr 46 [.map (some ub),nI n]
abbrev nmM (ub:Nat) (es:Array MapEntry) (clock:Nat):Itm:=.blk ub (.map es clock)
structure NmOk (U:List (List UInt8)) (es:Array MapEntry) (clock:Nat):Prop where
 ents:∃m,EntsR es.toList clock m∧UsedM m U
theorem zv9 {S K:PH} {nr ub n:Nat} {es:Array MapEntry} {clock:Nat} {U:List (List UInt8)} (hT:Tab S) (h:Held S K [nmB nr ub n,nmM ub es clock]) (hm:NmOk U es clock) (hb:n+U.length < 900000000000000000) :
  Tri Tryz.prog zkq #[pAt nr] K fun x K'=>x=.returned (txt (nwL (frN U n)))∧Held S K' [nmB nr ub (frN U n+1),nmM ub es clock]:=by
 have hf:=z5o U n
 obtain ⟨mu,hE,hU⟩:=hm.ents
 refine zjg [pAt nr] (by kernel_rfl) (by kernel_rfl) ?_
 refine ⟨fun f vs H'=>∃k:Nat,vs=[txt []]∧n≤k∧k+f=frN U n∧frN U k=frN U n∧Held S H' [nmB nr ub k,nmM ub es clock],⟨frN U n - n,n,rfl,Nat.le_refl _,by omega,rfl,h⟩,?_⟩
 rintro f vs H1 _ ⟨k,rfl,hnk,hkf,hfk,h1⟩
 have hw64:IntKind.i64.wrap ((k:Int)+1)=((k+1:Nat):Int):=by rw [w64 (by omega) (by omega)];omega
 have hl1:∀{K':PH} {j:Nat},Held S K' [nmB nr ub j,nmM ub es clock]→rowAt K' (some ⟨nr,1,none⟩) [nI j]:=fun h'=>zib h' (zms) 1 1
 have hl0:∀{K':PH} {j:Nat},Held S K' [nmB nr ub j,nmM ub es clock]→rowAt K' (some ⟨nr,0,none⟩) [.map (some ub)]:=fun h'=>zib h' (zms) 0 1
 refine ⟨fun _=>by simp [Chk.holds,ev0,ev,evV,List.cons_append,List.nil_append,List.getD_cons_zero,List.getD_cons_succ,List.map_cons,List.map_nil,iOf,bOf,sOf,pOf,slLen,z04,cmpI,arI,Value.ite_bool,z01,z03,z00,z02],[nI k],rfl,by simp only [ev0,ev,evV,List.cons_append,List.nil_append,List.getD_cons_zero,List.getD_cons_succ,List.map_cons,List.map_nil,iOf,bOf,sOf,pOf,slLen,z04,cmpI,arI,Value.ite_bool,z01,z03,z00,z02];exact hl1 h1,?_⟩
 simp only [List.cons_append,List.nil_append]
 refine z08 Z3v (Z1x k (by omega) H1 (hT.le h1.sh)) ?_
 rintro e H' ⟨rfl,rfl⟩
 have h18:=zem (k:=k) (by omega)
 refine ⟨_,[_],rfl,rfl,rfl,z05,fun _=>?_,[nI k],rfl,by simp only [ev0,ev,evV,List.cons_append,List.nil_append,List.getD_cons_zero,List.getD_cons_succ,List.map_cons,List.map_nil,iOf,bOf,sOf,pOf,slLen,z04,cmpI,arI,Value.ite_bool,z01,z03,z00,z02];exact hl1 h1,?_⟩
 ·have hmax:IntKind.i64.max=9223372036854775807:=rfl
  simp only [Chk.holds,ev0,ev,evV,List.cons_append,List.nil_append,List.getD_cons_zero,List.getD_cons_succ,List.map_cons,List.map_nil,iOf,bOf,sOf,pOf,slLen,z04,cmpI,arI,Value.ite_bool,z01,z03,z00,z02,z0t,hmax,zlc,List.length_nil];omega
 simp only [List.cons_append,List.nil_append]
 refine z0u (off:=1) (vs:=[nI (k+1)]) (by simp only [ev0,ev,evV,List.cons_append,List.nil_append,List.getD_cons_zero,List.getD_cons_succ,List.map_cons,List.map_nil,iOf,bOf,sOf,pOf,slLen,z04,cmpI,arI,Value.ite_bool,z01,z03,z00,z02];rfl) h1 (by simp only [List.map_cons,List.map_nil,ev0,ev,evV,List.cons_append,List.nil_append,List.getD_cons_zero,List.getD_cons_succ,List.map_cons,List.map_nil,iOf,bOf,sOf,pOf,slLen,z04,cmpI,arI,Value.ite_bool,z01,z03,z00,z02,hw64]) (by
  intro u hu
  rw [List.mem_singleton.1 hu];rfl) (by simp) fun K2 h2=>?_
 replace h2:Held S K2 [nmB nr ub (k+1),nmM ub es clock]:=h2
 refine ⟨[.map (some ub)],rfl,by simp only [ev0,ev,evV,List.cons_append,List.nil_append,List.getD_cons_zero,List.getD_cons_succ,List.map_cons,List.map_nil,iOf,bOf,sOf,pOf,slLen,z04,cmpI,arI,Value.ite_bool,z01,z03,z00,z02];exact hl0 h2,?_⟩
 simp only [List.cons_append,List.nil_append]
 have hub:K2 ub=some (.map es clock):=h2.blk (zmm _ (zms))
 have hub2:MapR K2 (.map (some ub)) mu:=⟨ub,es,clock,rfl,hub,hE⟩
 have hg:=hU (nwL k)
 refine zxk (nwL k) (.int .i64 0) ztj kdStr zInt rfl (by simp only [argEv,List.lookup,ev0,ev,evV,List.cons_append,List.nil_append,List.getD_cons_zero,List.getD_cons_succ,List.map_cons,List.map_nil,iOf,bOf,sOf,pOf,slLen,z04,cmpI,arI,Value.ite_bool,z01,z03,z00,z02];simp [ev0,ev,evV,List.cons_append,List.nil_append,List.getD_cons_zero,List.getD_cons_succ,List.map_cons,List.map_nil,iOf,bOf,sOf,pOf,slLen,z04,cmpI,arI,Value.ite_bool,z01,z03,z00,z02,zx8];rfl) hub2 (by rw [hg];rfl) z05 ?_
 rw [hg]
 by_cases hin:nwL k∈U
 ·rw [if_pos hin]
  refine ⟨fun h=>absurd h (by simp [ev0,ev,evV,List.cons_append,List.nil_append,List.getD_cons_zero,List.getD_cons_succ,List.map_cons,List.map_nil,iOf,bOf,sOf,pOf,slLen,z04,cmpI,arI,Value.ite_bool]),fun _=>?_⟩
  have hsk:=Z1w hin
  have hgt:k < frN U n:=by
   have h1:=z5o U (k+1)
   omega
  exact ⟨_,z06,f - 1,by omega,k+1,rfl,by omega,by omega,by omega,h2⟩
 ·rw [if_neg hin]
  have hk:=zht hin
  have hkn:frN U n=k:=by omega
  refine ⟨fun _=>⟨?_,?_⟩,fun h=>absurd h (by simp [ev0,ev,evV,List.cons_append,List.nil_append,List.getD_cons_zero,List.getD_cons_succ,List.map_cons,List.map_nil,iOf,bOf,sOf,pOf,slLen,z04,cmpI,arI,Value.ite_bool])⟩
  ·rw [hkn];simp only [ev0,ev,evV,List.cons_append,List.nil_append,List.getD_cons_zero,List.getD_cons_succ,List.map_cons,List.map_nil,iOf,bOf,sOf,pOf,slLen,z04,cmpI,arI,Value.ite_bool,z01,z03,z00,z02,zx8];rfl
  ·rw [hkn];exact h2
def Z4b (e:Xp):Prop:=∀(cs:List Value) (S H:PH) (wr ub:Nat) (T:TypeId) (nx:Value) (es:Array MapEntry) (clock:Nat) (m:List (List UInt8×Value)),PH.le S H→S ub=none→e.Rep S cs→H wr=some (.cells #[.map (some ub),nx] T (0,0))→H ub=some (.map es clock)→EntsR es.toList clock m →
 Tri Tryz.prog zma #[.pointer (some ⟨wr,0,none⟩),.agg cs.toArray] H fun x H'=>x=.returned (.tuple #[])∧∃es' clock',H'=H.upd ub (.map es' clock')∧EntsR es'.toList clock' (putsM m e.note)
theorem zxe:∀e,Z4b e:=by
 refine Xp.ind fun e ih cs S H wr ub T nx es clock m hS hub he hwr hu hm=>?_
 obtain ⟨nb,db,kb,nc,dc,kc,rfl,hx⟩:=Xp.Rep.open he
 have hn:=hx.names.max
 have hk:=hx.kids.max
 simp only [maxLen] at hn hk
 have hne:wr≠ub:=fun h=>by rw [h,hu] at hwr;cases hwr
 refine zkh (.pointer (some ⟨wr,0,none⟩)::exVs e nb db kb nc dc kc) (by kernel_rfl) (by kernel_rfl) ?_
 have hw:∀o,(H.upd ub o) wr=some (.cells #[.map (some ub),nx] T (0,0)):=fun o=>by rw [PH.upd_other hne];exact hwr
 have hup:∀H' es' clock',H'=H.upd ub (.map es' clock')→H' wr=some (.cells #[.map (some ub),nx] T (0,0))∧H' ub=some (.map es' clock')∧PH.le S H':=fun H' es' clock' h=>by
  subst h;exact ⟨hw _,PH.upd_same,Z0l hS hub _⟩
 refine ⟨fun _=>rfl,[.map (some ub)],rfl,zz7 hwr,?_⟩
 refine zkb e.name (.int .i64 1) ztj kdStr rfl rfl rfl hu hm fun es1 clock1 m1=>?_
 refine ⟨fun n vs H'=>∃k:Nat,vs=[.int .i64 k]∧k+n=e.names.length∧∃es' clock',H'=H.upd ub (.map es' clock')∧EntsR es'.toList clock' (putsM m (e.name::e.names.take k)),⟨e.names.length,0,rfl,by omega,es1,clock1,rfl,m1⟩,?_⟩
 rintro n vs H2 _ ⟨k,rfl,hkn,es2,clock2,h2,m2⟩
 obtain ⟨q1,q2,q3⟩:=hup _ _ _ h2
 refine ⟨fun g=>?_,fun g=>?_⟩
 ·simp only [ev0,ev,evV,List.cons_append,List.nil_append,List.getD_cons_zero,List.getD_cons_succ,List.map_cons,List.map_nil,iOf,bOf,sOf,pOf,slLen,z04,cmpI,arI,Value.ite_bool,z01,z03,z00,z02,zdt] at g
  obtain ⟨a,ha⟩:∃a,e.names[k]?=some a:=⟨_,zge (show k < e.names.length by omega)⟩
  obtain ⟨g1,_,ces,g2,g3⟩:=(hx.names.le q3).get ha
  obtain ⟨rfl,_⟩:=z5r g2
  refine ⟨fun _=>?_,[txt a],rfl,by simp only [ev0,ev,evV,List.cons_append,List.nil_append,List.getD_cons_zero,List.getD_cons_succ,List.map_cons,List.map_nil,iOf,bOf,sOf,pOf,slLen,z04,cmpI,arI,Value.ite_bool,z01,z03,z00,z02];exact g3,[.map (some ub)],rfl,zz7 q1,?_⟩
  ·simp only [Chk.holds,ev0,ev,evV,List.cons_append,List.nil_append,List.getD_cons_zero,List.getD_cons_succ,List.map_cons,List.map_nil,iOf,bOf,sOf,pOf,slLen,z04,cmpI,arI,Value.ite_bool,z01,z03,z00,z02];exact ⟨g1,by omega,by omega⟩
  refine zkb a (.int .i64 1) ztj kdStr rfl rfl rfl q2 m2 fun es3 clock3 m3=>?_
  refine ⟨_,z06,n - 1,by omega,k+1,?_,by omega,es3,clock3,?_,?_⟩
  ·simp only [ev0,ev,evV,List.cons_append,List.nil_append,List.getD_cons_zero,List.getD_cons_succ,List.map_cons,List.map_nil,iOf,bOf,sOf,pOf,slLen,z04,cmpI,arI,Value.ite_bool,z01,z03,z00,z02];rw [w64 (by omega) (by omega)];rfl
  ·rw [h2,PH.upd_upd]
  ·rw [List.take_add_one,ha,←List.cons_append,zl8];exact m3
 ·simp only [ev0,ev,evV,List.cons_append,List.nil_append,List.getD_cons_zero,List.getD_cons_succ,List.map_cons,List.map_nil,iOf,bOf,sOf,pOf,slLen,z04,cmpI,arI,Value.ite_bool,z01,z03,z00,z02,zdf] at g
  rw [List.take_of_length_le (by omega)] at m2
  refine ⟨fun n vs H'=>∃k:Nat,vs=[.int .i64 k]∧k+n=e.kids.length∧∃es' clock',H'=H.upd ub (.map es' clock')∧EntsR es'.toList clock' (putsM m (e.name::(e.names++Xps.note (e.kids.take k)))),⟨e.kids.length,0,rfl,by omega,es2,clock2,h2,by simpa [Xps.note] using m2⟩,?_⟩
  rintro n2 vs H3 _ ⟨k2,rfl,hkn2,es3,clock3,h3,m3⟩
  obtain ⟨q1,q2,q3⟩:=hup _ _ _ h3
  refine ⟨fun g=>?_,fun g=>?_⟩
  ·simp only [ev0,ev,evV,List.cons_append,List.nil_append,List.getD_cons_zero,List.getD_cons_succ,List.map_cons,List.map_nil,iOf,bOf,sOf,pOf,slLen,z04,cmpI,arI,Value.ite_bool,z01,z03,z00,z02,zdt] at g
   obtain ⟨a,ha⟩:∃a,e.kids[k2]?=some a:=⟨_,zge (show k2 < e.kids.length by omega)⟩
   obtain ⟨g1,_,ces,g2,g3⟩:=(hx.kids).get ha
   have htags:=Xp.Rep.tags g2
   have hcall:=ih a (List.mem_of_getElem? ha) ces S H3 wr ub T nx es3 clock3 _ q3 hub g2 q1 q2 m3
   obtain ⟨nb',db',kb',nc',dc',kc',rfl,_⟩:=Xp.Rep.open g2
   refine ⟨fun _=>?_,_,htags,by simp only [ev0,ev,evV,List.cons_append,List.nil_append,List.getD_cons_zero,List.getD_cons_succ,List.map_cons,List.map_nil,iOf,bOf,sOf,pOf,slLen,z04,cmpI,arI,Value.ite_bool,z01,z03,z00,z02];exact z0b q3 g3,?_⟩
   ·simp only [Chk.holds,ev0,ev,evV,List.cons_append,List.nil_append,List.getD_cons_zero,List.getD_cons_succ,List.map_cons,List.map_nil,iOf,bOf,sOf,pOf,slLen,z04,cmpI,arI,Value.ite_bool,z01,z03,z00,z02];exact ⟨g1,by omega,by omega⟩
   refine z08 zbg hcall ?_
   rintro x H4 ⟨rfl,es4,clock4,rfl,m4⟩
   refine ⟨_,[],rfl,rfl,rfl,z05,?_⟩
   refine ⟨_,z06,n2 - 1,by omega,k2+1,?_,by omega,es4,clock4,?_,?_⟩
   ·simp only [ev0,ev,evV,List.cons_append,List.nil_append,List.getD_cons_zero,List.getD_cons_succ,List.map_cons,List.map_nil,iOf,bOf,sOf,pOf,slLen,z04,cmpI,arI,Value.ite_bool,z01,z03,z00,z02,List.append_nil];rw [w64 (by omega) (by omega)];rfl
   ·rw [h3,PH.upd_upd]
   ·have hall:Xps.note (e.kids.take (k2+1))=Xps.note (e.kids.take k2)++a.note:=by
     rw [List.take_add_one,ha,Xps.note_append];simp [Xps.note]
    rw [hall,←List.append_assoc,←List.cons_append,zl8];exact m4
  ·simp only [ev0,ev,evV,List.cons_append,List.nil_append,List.getD_cons_zero,List.getD_cons_succ,List.map_cons,List.map_nil,iOf,bOf,sOf,pOf,slLen,z04,cmpI,arI,Value.ite_bool,z01,z03,z00,z02,zdf] at g
   rw [List.take_of_length_le (by omega)] at m3
   refine ⟨rfl,es3,clock3,h3,?_⟩
   rw [Xp.note_eq];exact m3
theorem zv1 (s:List UInt8) (H:PH):Gives Tryz.prog zy1 [txt s] H (.agg #[.int .i64 1,txt s,.slice none 0 0,.int .i64 0,.int .i64 0,txt [],.slice none 0 0,.slice none 0 0]):=
 zuu [txt s] (by kernel_rfl) (by kernel_rfl) ⟨rfl,PH.le_refl _⟩
theorem Z1k {S:PH} {s:List UInt8} (h:s.length≤maxLen):(refX s).Rep S [.int .i64 1,txt s,.slice none 0 0,.int .i64 0,.int .i64 0,txt [],.slice none 0 0,.slice none 0 0]:=
 Xp.Rep_iff.2 ⟨.slice none 0 0,.slice none 0 0,.slice none 0 0,rfl,(show InI 1 by decide),h,SlR.mk_iff.2 ⟨Nat.zero_le _,.inl ⟨rfl,rfl⟩⟩,z2u (k:=0) (n:=0) (t:=[]) (by decide) (by decide) (by decide),SlR.mk_iff.2 ⟨Nat.zero_le _,.inl ⟨rfl,rfl⟩⟩⟩
theorem zq8 (e:Xp) (cs:List Value) (H:PH) (he:e.Rep H cs):Gives Tryz.prog zss [.agg cs.toArray] H (.bool (simX e)):=by
 obtain ⟨nb,db,kb,nc,dc,kc,rfl,hx⟩:=Xp.Rep.open he
 refine zq4 (exVs e nb db kb nc dc kc) (by kernel_rfl) (by kernel_rfl) ⟨?_,PH.le_refl _⟩
 unfold simX
 by_cases h0:e.kind=0<;>by_cases h1:e.kind=1<;>simp [ev0,ev,evV,List.cons_append,List.nil_append,List.getD_cons_zero,List.getD_cons_succ,List.map_cons,List.map_nil,iOf,bOf,sOf,pOf,slLen,z04,cmpI,arI,Value.ite_bool,z01,z03,z00,z02,h0,h1]
theorem Z0s (s:List UInt8) (i b:Xp) (S:PH) {nv iv:Value} {bs:List Value} (hn:SlR S [s] nv) (hi:SlR S [i] iv) (hb:b.Rep S bs):Tri Tryz.prog zxx #[nv,iv,.agg bs.toArray] S fun x S'=>PH.le S S'∧XRet S' (letX s i b) x:=by
 obtain ⟨nb,nc,rfl⟩:=hn.sl
 obtain ⟨ib,ic,rfl⟩:=hi.sl
 have hb':=hb
 obtain ⟨xnb,xdb,xkb,xnc,xdc,xkc,rfl,hx⟩:=Xp.Rep.open hb
 refine ztv ([.slice nb 1 nc,.slice ib 1 ic]++exVs b xnb xdb xkb xnc xdc xkc) (by kernel_rfl) (by kernel_rfl) ?_
 simp only [List.cons_append,List.nil_append]
 refine ⟨fun g=>by simp [ev0,ev,evV,List.cons_append,List.nil_append,List.getD_cons_zero,List.getD_cons_succ,List.map_cons,List.map_nil,iOf,bOf,sOf,pOf,slLen,z04,cmpI,arI,Value.ite_bool,z01,z03,z00,z02] at g,fun _=>?_⟩
 have h0:Held S S []:=Held.nil (PH.le_refl _)
 have fin:∀{S3 K':PH} {v:Value} {I:List Itm},PH.le S S3→Held S3 K' (orow 28 [i,b] v::I)→∃S',PH.le S S'∧PH.le S' K'∧XRet S' (letX s i b) (.returned (.agg #[.int .i64 8,txt [],.slice nb 1 nc,.int .i64 0,.int .i64 0,txt [],.slice none 0 0,v])):=fun {S3 K' v I} l3 h=>by
  obtain ⟨S',h1,h2,h3⟩:=h.freeze
  have l:=PH.le_trans l3 h2
  refine ⟨S',l,h3.sh,[.int .i64 8,txt [],.slice nb 1 nc,.int .i64 0,.int .i64 0,txt [],.slice none 0 0,v],rfl,?_⟩
  exact Xp.Rep_iff.2 ⟨.slice nb 1 nc,.slice none 0 0,v,rfl,(show InI 8 by decide),by simp [letX,Xp.name],hn.le l,z2u (k:=0) (n:=0) (t:=[]) (by decide) (by decide) (by decide),h1⟩
 refine ⟨fun vs K'=>∃v,vs=[.int .i64 8,txt [],.slice nb 1 nc,.int .i64 0,.int .i64 0,txt [],.slice none 0 0,v]∧∃S',PH.le S S'∧PH.le S' K'∧XRet S' (letX s i b) (.returned (.agg #[.int .i64 8,txt [],.slice nb 1 nc,.int .i64 0,.int .i64 0,txt [],.slice none 0 0,v])),?_,?_,?_⟩
 ·rintro vs K' _ ⟨v,rfl,S',l1,l2,es,he,hr⟩
  refine ⟨PH.le_trans l1 l2,es,?_,Xp.Rep.le l2 _ hr⟩
  rw [←he];rfl
 ·refine z1k (α:=Xp) (b:=128) z2i z1j h0 z05 fun v1 K1 h1 _ _=>?_
  simp only [List.cons_append,List.nil_append]
  refine ⟨?_,?_⟩
  ·refine z1o (b:=128) (more:=[i]) z2i z1j (by kernel_rfl) (by kernel_rfl) h1 (hi.srcS h1.sh) (by simp only [maxLen,List.length_nil,zlc];omega) (by simp only [List.length_nil,zlc];omega) fun v2 K2 h2 _=>⟨z05,?_⟩
   rw [List.nil_append] at h2
   simp only [List.cons_append,List.nil_append]
   refine z16 (more:=[b]) (b:=128) [.agg (exVs b xnb xdb xkb xnc xdc xkc).toArray] z2i z1j rfl (by decide) (by decide) h2 (by kernel_rfl) (.cons (Xp.Rep.le (PH.le_refl _) b hb') .nil) z05 (fun _=>by kernel_rfl) (fun _=>by kernel_rfl)
    (by simp only [maxLen,zlc,List.length_nil];omega) (by simp only [zlc,List.length_nil];omega) fun u v3 S3 K3 l3 h3=>⟨z05,?_⟩
   exact ⟨_,z06,v3,by simp only [ev0,ev,evV,List.cons_append,List.nil_append,List.getD_cons_zero,List.getD_cons_succ,List.map_cons,List.map_nil,iOf,bOf,sOf,pOf,slLen,z04,cmpI,arI,Value.ite_bool,z01,z03,z00,z02];rfl,fin l3 h3⟩
  ·refine zns (l:=[b]) (b:=128) [.agg (exVs b xnb xdb xkb xnc xdc xkc).toArray] z2i z1j rfl (by decide) (by decide) h1 (by kernel_rfl) (.cons hb' .nil) z05 fun v2 K2 h2 _ _=>?_
   simp only [List.cons_append,List.nil_append]
   have h2':=h2.swap
   refine z1o (b:=128) (v:=v1) (more:=[i]) z2i z1j (by kernel_rfl) (by kernel_rfl) h2' (hi.srcS h2.sh) (by simp only [maxLen,List.length_nil,zlc];omega) (by simp only [List.length_nil,zlc];omega) fun v3 K3 h3 _=>⟨z05,?_⟩
   rw [List.nil_append] at h3
   simp only [List.cons_append,List.nil_append]
   refine z1o (b:=128) (v:=v3) (more:=[b]) z2i z1j (by kernel_rfl) (w:=v2) (by kernel_rfl) h3 (h3.row (zmm _ (zms))).srcS (by simp only [maxLen,List.length_nil,zlc];omega) (by simp only [List.length_nil,zlc];omega) fun v4 K4 h4 _=>⟨z05,?_⟩
   exact ⟨_,z06,v4,by simp only [ev0,ev,evV,List.cons_append,List.nil_append,List.getD_cons_zero,List.getD_cons_succ,List.map_cons,List.map_nil,iOf,bOf,sOf,pOf,slLen,z04,cmpI,arI,Value.ite_bool,z01,z03,z00,z02];rfl,fin (PH.le_refl _) h4⟩
 ·refine zns (l:=[b]) (b:=128) [.agg (exVs b xnb xdb xkb xnc xdc xkc).toArray] z2i z1j rfl (by decide) (by decide) h0 (by kernel_rfl) (.cons hb' .nil) z05 fun v1 K1 h1 _ _=>?_
  simp only [List.cons_append,List.nil_append]
  refine z1k (α:=Xp) (b:=128) z2i z1j h1 z05 fun v2 K2 h2 _ _=>?_
  simp only [List.cons_append,List.nil_append]
  refine z1o (b:=128) (v:=v2) (more:=[i]) z2i z1j (by kernel_rfl) (by kernel_rfl) h2 (hi.srcS h2.sh) (by simp only [maxLen,List.length_nil,zlc];omega) (by simp only [List.length_nil,zlc];omega) fun v3 K3 h3 _=>⟨z05,?_⟩
  rw [List.nil_append] at h3
  simp only [List.cons_append,List.nil_append]
  refine z1o (b:=128) (v:=v3) (more:=[b]) z2i z1j (by kernel_rfl) (w:=v1) (by kernel_rfl) h3 (h3.row (zmm _ (zms))).srcS (by simp only [maxLen,List.length_nil,zlc];omega) (by simp only [List.length_nil,zlc];omega) fun v4 K4 h4 _=>⟨z05,?_⟩
  exact ⟨_,z06,v4,by simp only [ev0,ev,evV,List.cons_append,List.nil_append,List.getD_cons_zero,List.getD_cons_succ,List.map_cons,List.map_nil,iOf,bOf,sOf,pOf,slLen,z04,cmpI,arI,Value.ite_bool,z01,z03,z00,z02];rfl,fin (PH.le_refl _) h4⟩
end Go.Proofs.YtjhlndokjkeilaaGreatDoor.Vc
namespace Go.Proofs.YtjhlndokjkeilaaGreatDoor.Vc
open Go Go.Sort
theorem zxp {α:Type} [Enc α] {P:Program} {X:List PanicEntry→PH→Prop} {β:Type} {E:List Value} {H S:PH} {L:LK} {K:β→List Value→PH→LK→Prop} {I:List Itm} {e:TypeId} {l:List α} {v:Value} {T ty ty2:TypeId} {n b:Nat} {ps:Array (Nat×Operand)} {args args2:List (Nat×VE)} {pend pend2:List (SV×List SV)} {x y:Operand} {k:Fm β} {more:List α} (vs:List Value)
  (hT:P.underlying T=some (.slice e)) (he:ElemOk P e (sz α) b=true) (hn:more.length=n) (h0:n * sz α≠0) (hle:n * sz α≤2 ^ 24)
  (h:Held S H (orow e l v::I)) (hps:ps.toList.map (fun x=>(x.1,argEv E args x.2))=idxs 0 vs) (hvs:All2 (fun a v'=>CsR S a v'.cells.toList) more vs) (hp:z0m E H pend)
  (hx:∀u,argEv (E++[u]) args2 x=v) (hy:∀u,argEv (E++[u]) args2 y=u) (h63:l.length+more.length≤maxLen) (hby:(l.length+more.length) * b≤140737488355328)
  (hk:∀u v' S' H',PH.le S S'→Held S' H' (orow e (l++more) v'::I)→(∀k o,H k=some o→some k≠ob v→H' k=some o)→z0m (E++[u]) H' pend2∧den P X k (E++[u]++[v']) H' L K) :
  den P X (.sem (.buildSlice T n ps) ty args (.sc .sl) pend (.sem (.call ⟨.builtin .append,#[x,y],#[T,T]⟩) ty2 args2 (.sc .sl) pend2 k)) E H L K:=by
 refine zis (l:=more) vs hT he hn h0 hle h.sh hps hvs hp fun u S1 H1 hx1 hs1 hp1=>?_
 have h1:=h.ext hx1
 exact z1o hT he (hx u) (hy u) h1 (hs1.srcS h1.sh) h63 hby fun v' H2 h2 w=>hk u v' S1 H2 hx1.s h2 fun k o hk hne=>w.keep k o (hx1.h k o hk) hne
theorem Z1h {α:Type} [Enc α] {S H H':PH} {e:TypeId} {l:List α} {v:Value} {i:Nat} {a:α} {cs:List Value} (h:Row S H e l v) (hi:l[i]?=some a) (hk:∀k o,ob v=some k→H k=some o→H' k=some o) (hc:rowAt H (pOf (eltV v (i:Int) (sz α))) cs):rowAt H' (pOf (eltV v (i:Int) (sz α))) cs:=by
 obtain ⟨xs,h1,h2⟩:=h.own
 rcases h1.2 with ⟨rfl,hz⟩ | ⟨g,cap,cur,rfl,h3,h4,h5,h6,h7⟩
 ·have:l=[]:=List.length_eq_zero_iff.1 hz
  subst this;simp at hi
 ·obtain ⟨ad,e1,e2⟩:=hc
  refine ⟨ad,e1,fun j u hj=>?_⟩
  have h8:=e2 j u hj
  have had:(ad.add j).block=g:=by
   simp only [eltV,pOf,z04,Option.map_some,Option.some.injEq] at e1
   rw [←e1,Addr.add_add,Addr.add_plain]
  unfold PH.cell? at h8 ⊢
  rw [had] at h8 ⊢
  rw [h3] at h8
  rw [hk g _ rfl h3];exact h8
theorem Z36 {S:PH} {l:List UInt8} (h:l.length≤maxLen):CsR S l [txt l]:=by
 show PV.RepRow S [.str l] [txt l]
 simp only [PV.RepRow,zeh]
 exact ⟨_,_,rfl,⟨rfl,h⟩,rfl⟩
def NmTo (nr ub:Nat) (es:Array MapEntry) (clock:Nat) (S:PH) (r:Xp×Nat) (x:Ending) (K':PH):Prop:=∃S',PH.le S S'∧Held S' K' [nmB nr ub r.2,nmM ub es clock]∧XRet S' r.1 x
def Z0m (U:List (List UInt8)) (e:Xp):Prop:=∀(cs:List Value) (S K:PH) (nr ub n:Nat) (es:Array MapEntry) (clock:Nat),Tab S→Held S K [nmB nr ub n,nmM ub es clock]→NmOk U es clock→e.Rep S cs→n+e.size * (U.length+1) < 900000000000000000→e.okF true→e.size≤4096 →
 Tri Tryz.prog z45 #[pAt nr,.agg cs.toArray] K (NmTo nr ub es clock S (e.nam U n))
theorem ziu (U:List (List UInt8)) {l:List Xp} (hok:∀e∈l,e.okF true) (c n i:Nat):n≤(Xps.nam U c (l.take i) n).2.2∧(Xps.nam U c (l.take i) n).2.2≤n+Xps.size (l.take i) * (U.length+1):=by
 have:=Xps.okF_nam U (l.take i) (fun e _=>Xp.okF_nam U e) (fun e he=>hok e (List.take_subset _ _ he)) c n
 exact ⟨this.1,this.2.1⟩
theorem zwk {k:Nat} (h:k < 1000000000000000000):(nwL k).length≤maxLen:=by
 have h1:=zem h
 unfold nwL
 simp only [maxLen,zla,zlc,List.length_nil];omega
section
variable {U:List (List UInt8)}
theorem zmj (e:Xp) (c:Nat) (ih:∀a∈e.kids,Z0m U a) (cs:List Value) (S K:PH) (nr ub n:Nat) (es:Array MapEntry) (clock:Nat) (hT:Tab S) (h:Held S K [nmB nr ub n,nmM ub es clock]) (hm:NmOk U es clock) (he:e.Rep S cs) (hb:n+e.size * (U.length+1) < 900000000000000000) (hok:e.okF true) (hz:e.size≤4096) (hc:c≤e.kids.length) :
  Tri Tryz.prog zln #[pAt nr,.agg cs.toArray,.int .i64 (c:Int)] K (NmTo nr ub es clock S (wrapX (Xps.nam U c e.kids n).2.1 (.mk e.kind e.name e.names e.const (Xps.nam U c e.kids n).1),(Xps.nam U c e.kids n).2.2)):=by
 obtain ⟨nb,db,kb,nc,dc,kc,rfl,hx⟩:=Xp.Rep.open he
 obtain ⟨hf0,hok'⟩:=(Xp.okF_eq e).1 hok
 have hsz:=Xp.size_eq e
 have hk6:e.kids.length≤1048576:=by have:=Xps.size_len e.kids;omega
 refine ziv (pAt nr::(exVs e nb db kb nc dc kc++[.int .i64 (c:Int)])) (by kernel_rfl) (by kernel_rfl) ?_
 refine z1k (α:=Xp) (b:=128) z2i z1j h z05 fun v1 K1 h1 _ _=>?_
 simp only [List.cons_append,List.nil_append]
 refine z1o (b:=128) (more:=e.kids) z2i z1j (by kernel_rfl) (by kernel_rfl) h1 (hx.kids.srcS h1.sh) (by simp only [maxLen,List.length_nil];omega) (by simp only [List.length_nil];omega) fun kv K2 h2 _=>⟨z05,?_⟩
 rw [List.nil_append] at h2
 simp only [List.cons_append,List.nil_append]
 obtain ⟨lb,lc,hkv⟩:=(h2.row (zms)).sl
 refine ⟨fun m vs K3=>∃(i:Nat) (S3:PH) (nv iv:Value),i+m=c∧vs=[nv,iv,nI i]∧PH.le S S3∧Held S3 K3 ((orow 28 ((Xps.nam U c (e.kids.take i) n).1++e.kids.drop i) kv::orow 9 ((Xps.nam U c (e.kids.take i) n).2.1.map Prod.fst) nv::orow 28 ((Xps.nam U c (e.kids.take i) n).2.1.map Prod.snd) iv::[nmB nr ub (Xps.nam U c (e.kids.take i) n).2.2,nmM ub es clock])),⟨c,0,S,.slice none 0 0,.slice none 0 0,by omega,rfl,PH.le_refl _,?_⟩,?_⟩
 ·rw [List.take_zero,Xps.nam_nil]
  exact ((h2.empty (α:=Xp) 28).empty (α:=List UInt8) 9).to2
 rintro m vs K3 _ ⟨i,S3,nv,iv,him,rfl,l3,h3⟩
 obtain ⟨r,hr⟩:∃r,r=Xps.nam U c (e.kids.take i) n:=⟨_,rfl⟩
 rw [←hr] at h3
 have hrl:r.1.length=i:=by rw [hr,Xps.nam_len,List.length_take];omega
 have hrb:=ziu U hok' c n i
 rw [←hr] at hrb
 have hrn:=Xps.nam_bindsLen U (e.kids.take i) c n
 rw [←hr,List.length_take] at hrn
 have hkl:(r.1++e.kids.drop i).length=e.kids.length:=by rw [zla,hrl,List.length_drop];omega
 obtain ⟨nvb,nvc,hnv⟩:=(h3.swap.row (zms)).sl
 obtain ⟨ivb,ivc,hiv⟩:=(h3.to2.row (zms)).sl
 rw [List.length_map] at hnv hiv
 simp only [List.cons_append,List.nil_append]
 have hsum:Xps.size (e.kids.take i)≤Xps.size e.kids:=by
  have:=Xps.size_append (e.kids.take i) (e.kids.drop i)
  rw [List.take_append_drop] at this;omega
 have hmul:=Nat.mul_le_mul_right (U.length+1) hsum
 have hse:e.size * (U.length+1)=(U.length+1)+Xps.size e.kids * (U.length+1):=by rw [hsz,Nat.add_mul,Nat.one_mul]
 refine ⟨fun g=>?_,fun g=>?_⟩
 ·simp only [ev0,ev,evV,List.cons_append,List.nil_append,List.getD_cons_zero,List.getD_cons_succ,List.map_cons,List.map_nil,iOf,bOf,sOf,pOf,slLen,z04,cmpI,arI,Value.ite_bool,z01,z03,z00,z02,zdt] at g
  have hic:i < c:=by omega
  obtain ⟨a,ha⟩:∃a,e.kids[i]?=some a:=⟨_,zge (by omega)⟩
  have ham:=List.mem_of_getElem? ha
  have haok:=hok' a ham
  have hsa:=Xps.size_at ha
  have hmul2:=Nat.mul_le_mul_right (U.length+1) hsa
  rw [Nat.add_mul] at hmul2
  have hka:(r.1++e.kids.drop i)[i]?=some a:=by
   rw [List.getElem?_append_right (by omega),hrl,Nat.sub_self,List.getElem?_drop,Nat.add_zero];exact ha
  have hks:∀b:Xp,(r.1++e.kids.drop i).set i b=(r.1++[b])++e.kids.drop (i+1):=fun b=>by
   have hd:e.kids.drop i=a::e.kids.drop (i+1):=by
    obtain ⟨hl,hv⟩:=List.getElem?_eq_some_iff.1 ha
    rw [List.drop_eq_getElem_cons hl,hv]
   rw [List.set_append_right _ _ (by omega),hrl,Nat.sub_self,hd,List.set_cons_zero]
   simp
  obtain ⟨x1,_,xs,x2,x3⟩:=(h3.row (zms)).get hka
  have x2':=x2
  obtain ⟨anb,adb,akb,anc,adc,akc,rfl,hxa⟩:=Xp.Rep.open x2'
  rw [hkv] at x1 x3
  refine ⟨fun vs K4=>∃(S4:PH) (nv4 iv4:Value),vs=[nv4,iv4]∧PH.le S S4∧Held S4 K4 ((orow 28 ((Xps.nam U c (e.kids.take (i+1)) n).1++e.kids.drop (i+1)) kv::orow 9 ((Xps.nam U c (e.kids.take (i+1)) n).2.1.map Prod.fst) nv4::orow 28 ((Xps.nam U c (e.kids.take (i+1)) n).2.1.map Prod.snd) iv4::[nmB nr ub (Xps.nam U c (e.kids.take (i+1)) n).2.2,nmM ub es clock])),?_,fun _=>?_,exVs a anb adb akb anc adc akc,rfl,by simp only [ev0,ev,evV,List.cons_append,List.nil_append,List.getD_cons_zero,List.getD_cons_succ,List.map_cons,List.map_nil,iOf,bOf,sOf,pOf,slLen,z04,cmpI,arI,Value.ite_bool,z01,z03,z00,z02];rw [hkv];exact x3,?_⟩
  ·rintro vs K4 _ ⟨S4,nv4,iv4,rfl,l4,h4⟩
   exact ⟨_,z06,m - 1,by omega,i+1,S4,nv4,iv4,by omega,by simp only [ev0,ev,evV,List.cons_append,List.nil_append,List.getD_cons_zero,List.getD_cons_succ,List.map_cons,List.map_nil,iOf,bOf,sOf,pOf,slLen,z04,cmpI,arI,Value.ite_bool,z01,z03,z00,z02,up9 (by omega:i < 9223372036854775807)],l4,h4⟩
  ·simp only [Chk.holds,ev0,ev,evV,List.cons_append,List.nil_append,List.getD_cons_zero,List.getD_cons_succ,List.map_cons,List.map_nil,iOf,bOf,sOf,pOf,slLen,z04,cmpI,arI,Value.ite_bool,z01,z03,z00,z02];rw [hkv];exact ⟨x1,by omega,by simp only;omega⟩
  simp only [List.cons_append,List.nil_append]
  refine z07 [.bool (simX a)] zsf (zq8 a _ K3 (Xp.Rep.le h3.sh a x2)) rfl z05 fun K4 l4=>?_
  have h4:=h3.le l4
  simp only [List.cons_append,List.nil_append]
  cases hs:simX a with
  | true=>
   refine ⟨fun g2=>by simp [ev0,ev,evV,List.cons_append,List.nil_append,List.getD_cons_zero,List.getD_cons_succ,List.map_cons,List.map_nil,iOf,bOf,sOf,pOf,slLen,z04,cmpI,arI,Value.ite_bool,z01,z03,z00,z02] at g2,fun _=>?_⟩
   refine ⟨_,z06,S3,nv,iv,rfl,l3,?_⟩
   rw [Xps.nam_snocS U ha hic n hs,←hr]
   have:(r.1++[a])++e.kids.drop (i+1)=r.1++e.kids.drop i:=by
    obtain ⟨hl,hv⟩:=List.getElem?_eq_some_iff.1 ha
    rw [List.drop_eq_getElem_cons hl,hv];simp
   dsimp only
   rw [this];exact h4
  | false=>
   refine ⟨fun _=>?_,fun g2=>by simp [ev0,ev,evV,List.cons_append,List.nil_append,List.getD_cons_zero,List.getD_cons_succ,List.map_cons,List.map_nil,iOf,bOf,sOf,pOf,slLen,z04,cmpI,arI,Value.ite_bool,z01,z03,z00,z02] at g2⟩
   have hN:r.2.2+U.length < 900000000000000000:=by omega
   have hfr:=z5o U r.2.2
   have hfr18:frN U r.2.2 < 1000000000000000000:=by omega
   have hcall:=Held.call (J:=[nmB nr ub r.2.2,nmM ub es clock]) (I:=[orow 28 (r.1++e.kids.drop i) kv,orow 9 (r.2.1.map Prod.fst) nv,orow 28 (r.2.1.map Prod.snd) iv]) (R:=fun x _ J'=>x=.returned (txt (nwL (frN U r.2.2)))∧J'=[nmB nr ub (frN U r.2.2+1),nmM ub es clock]) (h4.perm (List.perm_append_comm (l₁:=[_,_,_]) (l₂:=[_,_]))) fun K' hK'=>(zv9 (hT.le l3) hK' hm hN).mono fun x K'' hx'=>⟨S3,_,PH.le_refl _,hx'.2,hx'.1,rfl⟩
   refine z08 zkj hcall ?_
   rintro x K5 ⟨S5,J5,l5,h5,rfl,rfl⟩
   refine ⟨_,[txt (nwL (frN U r.2.2))],rfl,rfl,rfl,z05,?_⟩
   have h5':=h5.perm (List.perm_append_comm (l₁:=[_,_]) (l₂:=[_,_,_]))
   replace h5':Held S5 K5 (orow 28 (r.1++e.kids.drop i) kv::orow 9 (r.2.1.map Prod.fst) nv::orow 28 (r.2.1.map Prod.snd) iv::[nmB nr ub (frN U r.2.2+1),nmM ub es clock]):=h5'
   obtain ⟨_,_,zs,z2,z3⟩:=(h5'.row (zms)).get hka
   obtain ⟨bnb,bdb,bkb,bnc,bdc,bkc,rfl,hxb⟩:=Xp.Rep.open z2
   rw [hkv] at z3
   refine ⟨exVs a bnb bdb bkb bnc bdc bkc,rfl,by simp only [ev0,ev,evV,List.cons_append,List.nil_append,List.getD_cons_zero,List.getD_cons_succ,List.map_cons,List.map_nil,iOf,bOf,sOf,pOf,slLen,z04,cmpI,arI,Value.ite_bool,z01,z03,z00,z02];rw [hkv];exact z3,?_⟩
   simp only [List.cons_append,List.nil_append]
   have hrow5:=h5'.row (zms)
   have z3':rowAt K5 (pOf (eltV kv (i:Int) 8)) (exVs a bnb bdb bkb bnc bdc bkc):=by rw [hkv];exact z3
   have hwid:IntKind.i64.wrap (i:Int)=(i:Int):=w64 (by omega) (by omega)
   refine zxp (b:=16) (more:=[nwL (frN U r.2.2)]) [txt (nwL (frN U r.2.2))] uTxts z5d rfl (by decide) (by decide) h5'.swap (by kernel_rfl) (.cons (Z36 (zwk hfr18)) .nil) (z1x (by simp only [List.map_cons,List.map_nil,ev0,ev,evV,List.cons_append,List.nil_append,List.getD_cons_zero,List.getD_cons_succ,List.map_cons,List.map_nil,iOf,bOf,sOf,pOf,slLen,z04,cmpI,arI,Value.ite_bool,z01,z03,z00,z02];exact z3')) (fun u=>by kernel_rfl) (fun u=>by kernel_rfl)
    (by simp only [maxLen,List.length_map,zlc,List.length_nil];omega) (by simp only [List.length_map,zlc,List.length_nil];omega) fun u6 v6 S6 K6 l6 h6 k6=>?_
   have hne56:ob kv≠ob nv∨ob kv=none:=by
    cases hob:ob kv with
    | none=>exact .inr rfl
    | some g=>
     left
     intro hh
     have hnd:=h5'.nd
     rw [List.pairwise_cons] at hnd
     exact hnd.1 _ (zms) g hob hh.symm
   have z6:rowAt K6 (pOf (eltV kv (i:Int) 8)) (exVs a bnb bdb bkb bnc bdc bkc):=Z1h hrow5 hka (fun k o hob hk=>k6 k o hk (by
    rcases hne56 with hh | hh
    ·rw [←hob];exact hh
    ·rw [hh] at hob;cases hob)) z3'
   refine ⟨z1x (by simp only [List.map_cons,List.map_nil,ev0,ev,evV,List.cons_append,List.nil_append,List.getD_cons_zero,List.getD_cons_succ,List.map_cons,List.map_nil,iOf,bOf,sOf,pOf,slLen,z04,cmpI,arI,Value.ite_bool,z01,z03,z00,z02];exact z6),?_⟩
   simp only [List.cons_append,List.nil_append]
   have hszn:frN U r.2.2+1+a.size * (U.length+1) < 900000000000000000:=by omega
   have l36:=PH.le_trans l3 (PH.le_trans l5 l6)
   have hcall:=Held.call (J:=[nmB nr ub (frN U r.2.2+1),nmM ub es clock]) (I:=[orow 9 (r.2.1.map Prod.fst++[nwL (frN U r.2.2)]) v6,orow 28 (r.1++e.kids.drop i) kv,orow 28 (r.2.1.map Prod.snd) iv]) (R:=fun x S' J'=>J'=[nmB nr ub (a.nam U (frN U r.2.2+1)).2,nmM ub es clock]∧XRet S' (a.nam U (frN U r.2.2+1)).1 x) (h6.perm (List.perm_append_comm (l₁:=[_,_,_]) (l₂:=[_,_]))) fun K' hK'=>(ih a ham _ S6 K' nr ub (frN U r.2.2+1) es clock (hT.le l36) hK' hm (exvLe l6 hxb).rep hszn haok (by omega)).mono fun x K'' hx'=>by
    obtain ⟨S',q1,q2,q3⟩:=hx'
    exact ⟨S',_,q1,q2,rfl,q3⟩
   refine z08 z3u hcall ?_
   rintro x K7 ⟨S7,J7,l7,h7,rfl,es7,rfl,hr7⟩
   have ht7:=Xp.Rep.tags hr7
   have hr7':=hr7
   obtain ⟨cnb,cdb,ckb,cnc,cdc,ckc,rfl,hxc⟩:=Xp.Rep.open hr7'
   refine ⟨_,exVs (a.nam U (frN U r.2.2+1)).1 cnb cdb ckb cnc cdc ckc,rfl,ht7,rfl,z05,?_⟩
   simp only [List.cons_append,List.nil_append]
   have h7':Held S7 K7 (orow 28 (r.2.1.map Prod.snd) iv::nmB nr ub (a.nam U (frN U r.2.2+1)).2::nmM ub es clock::orow 9 (r.2.1.map Prod.fst++[nwL (frN U r.2.2)]) v6::orow 28 (r.1++e.kids.drop i) kv::[]):=h7.to4
   refine z16 (more:=[(a.nam U (frN U r.2.2+1)).1]) (b:=128) [.agg (exVs (a.nam U (frN U r.2.2+1)).1 cnb cdb ckb cnc cdc ckc).toArray] z2i z1j rfl (by decide) (by decide) h7' (by kernel_rfl) (.cons hr7 .nil) z05 (fun _=>by kernel_rfl) (fun _=>by kernel_rfl)
    (by simp only [maxLen,List.length_map,zlc,List.length_nil];omega) (by simp only [List.length_map,zlc,List.length_nil];omega) fun u8 v8 S8 K8 l8 h8=>⟨z05,?_⟩
   simp only [List.cons_append,List.nil_append]
   refine z07 [.int .i64 1,txt (nwL (frN U r.2.2)),.slice none 0 0,.int .i64 0,.int .i64 0,txt [],.slice none 0 0,.slice none 0 0] zvt (zv1 (nwL (frN U r.2.2)) K8) rfl z05 fun K9 l9=>?_
   simp only [List.cons_append,List.nil_append]
   have h9:=(h8.le l9).to4
   refine zg0 (i:=i) (a:=a) (a':=refX (nwL (frN U r.2.2))) (us:=[.int .i64 1,txt (nwL (frN U r.2.2)),.slice none 0 0,.int .i64 0,.int .i64 0,txt [],.slice none 0 0,.slice none 0 0]) (by simp only [ev0,ev,evV,List.cons_append,List.nil_append,List.getD_cons_zero,List.getD_cons_succ,List.map_cons,List.map_nil,iOf,bOf,sOf,pOf,slLen,z04,cmpI,arI,Value.ite_bool,z01,z03,z00,z02];rfl) h9 hka rfl (by simp only [List.map_cons,List.map_nil,ev0,ev,evV,List.cons_append,List.nil_append,List.getD_cons_zero,List.getD_cons_succ,List.map_cons,List.map_nil,iOf,bOf,sOf,pOf,slLen,z04,cmpI,arI,Value.ite_bool,z01,z03,z00,z02]) (by
    intro u hu
    simp only [List.mem_cons,List.not_mem_nil,or_false] at hu
    rcases hu with rfl | rfl | rfl | rfl | rfl | rfl | rfl | rfl<;>rfl) (Z1k (zwk hfr18)) fun K10 h10=>?_
   refine ⟨_,z06,S8,v6,v8,by simp only [ev0,ev,evV,List.cons_append,List.nil_append,List.getD_cons_zero,List.getD_cons_succ,List.map_cons,List.map_nil,iOf,bOf,sOf,pOf,slLen,z04,cmpI,arI,Value.ite_bool,z01,z03,z00,z02],PH.le_trans l3 (PH.le_trans l5 (PH.le_trans l6 (PH.le_trans l7 l8))),?_⟩
   rw [Xps.nam_snocN U ha hic n hs,←hr]
   rw [hks] at h10
   simp only [List.map_append,List.map_cons,List.map_nil]
   exact h10.perm (List.Perm.cons _ ((List.perm_middle (l₁:=[_,_,_]) (l₂:=[])).trans (List.Perm.cons _ (List.Perm.refl _))))
 ·simp only [ev0,ev,evV,List.cons_append,List.nil_append,List.getD_cons_zero,List.getD_cons_succ,List.map_cons,List.map_nil,iOf,bOf,sOf,pOf,slLen,z04,cmpI,arI,Value.ite_bool,z01,z03,z00,z02,zdf] at g
  have hic:i=c:=by omega
  subst hic
  rw [hr] at h3
  clear hrn hkl hnv hiv hrb hrl hsum hmul
  clear hr r
  refine ⟨fun m vs K4=>∃(j:Nat) (S4:PH),j+m=e.kids.length∧i≤j∧vs=[nI j]∧PH.le S S4∧Held S4 K4 (orow 28 ((Xps.nam U i (e.kids.take j) n).1++e.kids.drop j) kv::orow 9 ((Xps.nam U i (e.kids.take j) n).2.1.map Prod.fst) nv::orow 28 ((Xps.nam U i (e.kids.take j) n).2.1.map Prod.snd) iv::[nmB nr ub (Xps.nam U i (e.kids.take j) n).2.2,nmM ub es clock]),⟨e.kids.length - i,i,S3,by omega,Nat.le_refl _,by simp only [ev0,ev,evV,List.cons_append,List.nil_append,List.getD_cons_zero,List.getD_cons_succ,List.map_cons,List.map_nil,iOf,bOf,sOf,pOf,slLen,z04,cmpI,arI,Value.ite_bool,z01,z03,z00,z02],l3,h3⟩,?_⟩
  rintro m2 vs K4 _ ⟨j,S4,hjm,hij,rfl,l4,h4⟩
  simp only [List.cons_append,List.nil_append]
  obtain ⟨r,hr⟩:∃r,r=Xps.nam U i (e.kids.take j) n:=⟨_,rfl⟩
  rw [←hr] at h4
  have hrl:r.1.length=j:=by rw [hr,Xps.nam_len,List.length_take];omega
  have hrb:=ziu U hok' i n j
  rw [←hr] at hrb
  have hsum:Xps.size (e.kids.take j)≤Xps.size e.kids:=by
   have:=Xps.size_append (e.kids.take j) (e.kids.drop j)
   rw [List.take_append_drop] at this;omega
  have hmul:=Nat.mul_le_mul_right (U.length+1) hsum
  refine ⟨fun g2=>?_,fun g2=>?_⟩
  ·have hjl:j < e.kids.length:=by
    rw [hkv] at g2;simp only [ev0,ev,evV,List.cons_append,List.nil_append,List.getD_cons_zero,List.getD_cons_succ,List.map_cons,List.map_nil,iOf,bOf,sOf,pOf,slLen,z04,cmpI,arI,Value.ite_bool,z01,z03,z00,z02,zdt] at g2;omega
   obtain ⟨a,ha⟩:∃a,e.kids[j]?=some a:=⟨_,zge hjl⟩
   have ham:=List.mem_of_getElem? ha
   have haok:=hok' a ham
   have hsa:=Xps.size_at ha
   have hmul2:=Nat.mul_le_mul_right (U.length+1) hsa
   rw [Nat.add_mul] at hmul2
   have hka:(r.1++e.kids.drop j)[j]?=some a:=by
    rw [List.getElem?_append_right (by omega),hrl,Nat.sub_self,List.getElem?_drop,Nat.add_zero];exact ha
   have hks:∀b:Xp,(r.1++e.kids.drop j).set j b=(r.1++[b])++e.kids.drop (j+1):=fun b=>by
    have hd:e.kids.drop j=a::e.kids.drop (j+1):=by
     obtain ⟨hl,hv⟩:=List.getElem?_eq_some_iff.1 ha
     rw [List.drop_eq_getElem_cons hl,hv]
    rw [List.set_append_right _ _ (by omega),hrl,Nat.sub_self,hd,List.set_cons_zero]
    simp
   obtain ⟨x1,_,xs,x2,x3⟩:=(h4.row (zms)).get hka
   have x2':=x2
   obtain ⟨anb,adb,akb,anc,adc,akc,rfl,hxa⟩:=Xp.Rep.open x2'
   rw [hkv] at x1 x3
   refine ⟨fun _=>?_,exVs a anb adb akb anc adc akc,rfl,by simp only [ev0,ev,evV,List.cons_append,List.nil_append,List.getD_cons_zero,List.getD_cons_succ,List.map_cons,List.map_nil,iOf,bOf,sOf,pOf,slLen,z04,cmpI,arI,Value.ite_bool,z01,z03,z00,z02];rw [hkv];exact x3,?_⟩
   ·simp only [Chk.holds,ev0,ev,evV,List.cons_append,List.nil_append,List.getD_cons_zero,List.getD_cons_succ,List.map_cons,List.map_nil,iOf,bOf,sOf,pOf,slLen,z04,cmpI,arI,Value.ite_bool,z01,z03,z00,z02];rw [hkv];exact ⟨x1,by omega,by simp only;omega⟩
   simp only [List.cons_append,List.nil_append]
   have hcall:=Held.call (J:=[nmB nr ub r.2.2,nmM ub es clock]) (I:=[orow 28 (r.1++e.kids.drop j) kv,orow 9 (r.2.1.map Prod.fst) nv,orow 28 (r.2.1.map Prod.snd) iv]) (R:=fun x S' J'=>J'=[nmB nr ub (a.nam U r.2.2).2,nmM ub es clock]∧XRet S' (a.nam U r.2.2).1 x) (h4.perm (List.perm_append_comm (l₁:=[_,_,_]) (l₂:=[_,_]))) fun K' hK'=>(ih a ham _ S4 K' nr ub r.2.2 es clock (hT.le l4) hK' hm x2 (by omega) haok (by omega)).mono fun x K'' hx'=>by
    obtain ⟨S',q1,q2,q3⟩:=hx'
    exact ⟨S',_,q1,q2,rfl,q3⟩
   refine z08 z3u hcall ?_
   rintro x K7 ⟨S7,J7,l7,h7,rfl,es7,rfl,hr7⟩
   have ht7:=Xp.Rep.tags hr7
   have hr7':=hr7
   obtain ⟨cnb,cdb,ckb,cnc,cdc,ckc,rfl,hxc⟩:=Xp.Rep.open hr7'
   refine ⟨_,exVs (a.nam U r.2.2).1 cnb cdb ckb cnc cdc ckc,rfl,ht7,rfl,z05,?_⟩
   simp only [List.cons_append,List.nil_append]
   have h7':Held S7 K7 (orow 28 (r.1++e.kids.drop j) kv::orow 9 (r.2.1.map Prod.fst) nv::orow 28 (r.2.1.map Prod.snd) iv::[nmB nr ub (a.nam U r.2.2).2,nmM ub es clock]):=h7.perm (List.perm_append_comm (l₁:=[_,_]) (l₂:=[_,_,_]))
   refine zg0 (i:=j) (a:=a) (a':=(a.nam U r.2.2).1) (us:=exVs (a.nam U r.2.2).1 cnb cdb ckb cnc cdc ckc) (by simp only [ev0,ev,evV,List.cons_append,List.nil_append,List.getD_cons_zero,List.getD_cons_succ,List.map_cons,List.map_nil,iOf,bOf,sOf,pOf,slLen,z04,cmpI,arI,Value.ite_bool,z01,z03,z00,z02];rfl) h7' hka rfl (by simp only [List.map_cons,List.map_nil,ev0,ev,evV,List.cons_append,List.nil_append,List.getD_cons_zero,List.getD_cons_succ,List.map_cons,List.map_nil,iOf,bOf,sOf,pOf,slLen,z04,cmpI,arI,Value.ite_bool,z01,z03,z00,z02]) (by
    intro u hu
    simp only [List.mem_cons,List.not_mem_nil,or_false] at hu
    rcases hu with rfl | rfl | rfl | rfl | rfl | rfl | rfl | rfl<;>rfl) hr7 fun K10 h10=>?_
   refine ⟨_,z06,m2 - 1,by omega,j+1,S7,by omega,by omega,by simp only [ev0,ev,evV,List.cons_append,List.nil_append,List.getD_cons_zero,List.getD_cons_succ,List.map_cons,List.map_nil,iOf,bOf,sOf,pOf,slLen,z04,cmpI,arI,Value.ite_bool,z01,z03,z00,z02,up9 (by omega:j < 9223372036854775807)],PH.le_trans l4 l7,?_⟩
   rw [Xps.nam_snoc0 U ha hij n,←hr]
   rw [hks] at h10
   exact h10
  have hjl:j=e.kids.length:=by
   rw [hkv] at g2;simp only [ev0,ev,evV,List.cons_append,List.nil_append,List.getD_cons_zero,List.getD_cons_succ,List.map_cons,List.map_nil,iOf,bOf,sOf,pOf,slLen,z04,cmpI,arI,Value.ite_bool,z01,z03,z00,z02,zdf] at g2;omega
  subst hjl
  rw [List.take_length] at hr
  rw [List.drop_length,List.append_nil] at h4
  obtain ⟨bs,hbs⟩:∃bs,bs=r.2.1:=⟨_,rfl⟩
  rw [←hbs] at h4
  have hbl:bs.length≤1048576:=by
   rw [hbs,hr]
   have:=(Xps.nam_bindsLen U e.kids i n).2
   omega
  obtain ⟨S5,k5,l5,h5⟩:=h4.freeze
  obtain ⟨S6,k6,l6,h6⟩:=h5.freeze
  obtain ⟨S7,k7,l7,h7⟩:=h6.freeze
  have l47:=PH.le_trans l4 (PH.le_trans l5 (PH.le_trans l6 l7))
  have k67:=k6.le l7
  have k57:=k5.le (PH.le_trans l6 l7)
  obtain ⟨nvb,nvc,rfl⟩:=k67.sl
  obtain ⟨ivb,ivc,rfl⟩:=k7.sl
  have hx7:=exvLe l47 hx
  obtain ⟨body,hbody⟩:∃body:Xp,body=.mk e.kind e.name e.names e.const r.1:=⟨_,rfl⟩
  have hbr:body.Rep S7 [.int .i64 e.kind,txt e.name,.slice nb e.names.length nc,.int .i64 e.const.kind,.int .i64 e.const.int,txt e.const.text,.slice db e.const.list.length dc,kv]:=by
   rw [hbody]
   exact Xp.Rep_iff.2 ⟨_,_,_,rfl,hx7.kind,hx7.name,hx7.names,hx7.const,k57⟩
  have hgoal:(Xps.nam U i e.kids n)=r:=hr.symm
  rw [hgoal,←hbs,←hbody]
  have hcapn:(bs.map Prod.fst).length≤nvc:=by
   rcases (SlR.mk_iff.1 k67).2 with ⟨e1,e2⟩ | ⟨a,c,e1,e2,_⟩
   ·rw [e2];exact Nat.zero_le _
   ·cases e1;exact e2
  have hcapi:(bs.map Prod.snd).length≤ivc:=by
   rcases (SlR.mk_iff.1 k7).2 with ⟨e1,e2⟩ | ⟨a,c,e1,e2,_⟩
   ·rw [e2];exact Nat.zero_le _
   ·cases e1;exact e2
  rw [List.length_map] at hcapn hcapi
  refine ⟨fun m vs K8=>∃(S8:PH) (ws:List Value),vs=.int .i64 ((m:Int) - 1)::ws∧m≤bs.length∧PH.le S7 S8∧Held S8 K8 [nmB nr ub r.2.2,nmM ub es clock]∧(wrapX (bs.drop m) body).Rep S8 ws,⟨bs.length,S7,[.int .i64 e.kind,txt e.name,.slice nb e.names.length nc,.int .i64 e.const.kind,.int .i64 e.const.int,txt e.const.text,.slice db e.const.list.length dc,kv],?_,Nat.le_refl _,PH.le_refl _,h7,?_⟩,?_⟩
  rotate_left
  ·rw [List.drop_length];exact hbr
  ·rintro m vs K8 _ ⟨S8,ws,rfl,hmb,l8,h8,hw8⟩
   have hw8':=hw8
   obtain ⟨cnb,cdb,ckb,cnc,cdc,ckc,rfl,hxc⟩:=Xp.Rep.open hw8'
   obtain ⟨W,hW⟩:∃W,W=wrapX (bs.drop m) body:=⟨_,rfl⟩
   rw [←hW] at hw8 hxc ⊢
   simp only [List.cons_append,List.nil_append]
   refine ⟨fun g3=>?_,fun g3=>?_⟩
   ·simp only [ev0,ev,evV,List.cons_append,List.nil_append,List.getD_cons_zero,List.getD_cons_succ,List.map_cons,List.map_nil,iOf,bOf,sOf,pOf,slLen,z04,cmpI,arI,Value.ite_bool,z01,z03,z00,z02,zdt] at g3
    obtain ⟨k,rfl⟩:∃k,m=k+1:=⟨m - 1,by omega⟩
    have hk1:(((k+1:Nat):Int) - 1)=(k:Int):=by omega
    rw [hk1]
    obtain ⟨x,hxb⟩:∃x,bs[k]?=some x:=⟨_,zge (by omega)⟩
    have hw1:IntKind.i64.wrap ((k:Int)+1)=((k+1:Nat):Int):=up9 (by omega)
    have cutN:=(k67.le l8).cut (a:=k) (b:=k+1) (by omega) (by rw [List.length_map];omega)
    have cutI:=(k7.le l8).cut (a:=k) (b:=k+1) (by omega) (by rw [List.length_map];omega)
    have one:∀{γ:Type} {l:List γ} {y:γ},l[k]?=some y→(l.take (k+1)).drop k=[y]:=fun {γ l y} hy=>by
     have hl:=(List.getElem?_eq_some_iff.1 hy).1
     rw [List.take_add_one,hy,List.drop_append,List.length_take,Nat.min_eq_left (by omega),Nat.sub_self,List.drop_of_length_le (by rw [List.length_take];omega)];rfl
    rw [one (by rw [List.getElem?_map,hxb];rfl)] at cutN cutI
    refine ⟨fun _=>?_,fun _=>?_,?_⟩
    ·simp only [Chk.holds,ev0,ev,evV,List.cons_append,List.nil_append,List.getD_cons_zero,List.getD_cons_succ,List.map_cons,List.map_nil,iOf,bOf,sOf,pOf,slLen,z04,cmpI,arI,Value.ite_bool,z01,z03,z00,z02,hw1,slCap,List.length_map];omega
    ·simp only [Chk.holds,ev0,ev,evV,List.cons_append,List.nil_append,List.getD_cons_zero,List.getD_cons_succ,List.map_cons,List.map_nil,iOf,bOf,sOf,pOf,slLen,z04,cmpI,arI,Value.ite_bool,z01,z03,z00,z02,hw1,slCap,List.length_map];omega
    refine z08 zvv (R:=fun x' K'=>∃S',PH.le S8 S'∧Held S' K' [nmB nr ub r.2.2,nmM ub es clock]∧XRet S' (letX x.1 x.2 W) x') ?_ ?_
    ·have:=h8.pure (Z0s x.1 x.2 W S8 cutN cutI hw8)
     rw [←hw1] at this
     exact this
    rintro x' K9 ⟨S9,l9,h9,es9,rfl,hr9⟩
    have ht9:=Xp.Rep.tags hr9
    have hr9':=hr9
    obtain ⟨dnb,ddb,dkb,dnc,ddc,dkc,rfl,hxd⟩:=Xp.Rep.open hr9'
    refine ⟨_,exVs (letX x.1 x.2 W) dnb ddb dkb dnc ddc dkc,rfl,ht9,rfl,z05,?_⟩
    refine ⟨_,z06,k,by omega,S9,exVs (letX x.1 x.2 W) dnb ddb dkb dnc ddc dkc,?_,by omega,PH.le_trans l8 l9,h9,?_⟩
    ·simp only [ev0,ev,evV,List.cons_append,List.nil_append,List.getD_cons_zero,List.getD_cons_succ,List.map_cons,List.map_nil,iOf,bOf,sOf,pOf,slLen,z04,cmpI,arI,Value.ite_bool,z01,z03,z00,z02,down9 (by omega:k < 9223372036854775807)]
    ·have hd:bs.drop k=x::bs.drop (k+1):=by
      obtain ⟨hl,hv⟩:=List.getElem?_eq_some_iff.1 hxb
      rw [List.drop_eq_getElem_cons hl,hv]
     rw [hd]
     show (letX x.1 x.2 (wrapX (bs.drop (k+1)) body)).Rep S9 _
     rw [←hW];exact hr9
   ·simp only [ev0,ev,evV,List.cons_append,List.nil_append,List.getD_cons_zero,List.getD_cons_succ,List.map_cons,List.map_nil,iOf,bOf,sOf,pOf,slLen,z04,cmpI,arI,Value.ite_bool,z01,z03,z00,z02,zdf] at g3
    have hm0:m=0:=by omega
    subst hm0
    rw [List.drop_zero] at hW
    refine ⟨S8,PH.le_trans l47 l8,h8,exVs W cnb cdb ckb cnc cdc ckc,?_,?_⟩
    ·simp only [ev0,ev,evV,List.cons_append,List.nil_append,List.getD_cons_zero,List.getD_cons_succ,List.map_cons,List.map_nil,iOf,bOf,sOf,pOf,slLen,z04,cmpI,arI,Value.ite_bool,z01,z03,z00,z02]
    ·rw [←hW];exact hw8
  ·simp only [ev0,ev,evV,List.cons_append,List.nil_append,List.getD_cons_zero,List.getD_cons_succ,List.map_cons,List.map_nil,iOf,bOf,sOf,pOf,slLen,z04,cmpI,arI,Value.ite_bool,z01,z03,z00,z02,List.length_map,down9 (by omega:bs.length < 9223372036854775807)]
end
end Go.Proofs.YtjhlndokjkeilaaGreatDoor.Vc
