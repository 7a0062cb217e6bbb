import Derived.Test.YtjhlndokjkeilaaGreatDoorQn
set_option linter.unusedSimpArgs false
set_option linter.unusedVariables false
set_option maxRecDepth 100000
namespace Go.Proofs.YtjhlndokjkeilaaGreatDoor.Vc
open Go Go.Sort
theorem zwg {α:Type} [Enc α] {P:Program} {X:List PanicEntry→PH→Prop} {β:Type} {E:List Value} {H S:PH} {L:LK} {K:β→List Value→PH→LK→Prop} {I:List Itm} {e:TypeId} {l:List α} {v:Value} {T ty ty2:TypeId} {n b:Nat} {ps:Array (Nat×Operand)} {args args2:List (Nat×VE)} {pend pend2:List (SV×List SV)} {x y:Operand} {k:Fm β} {more:List α} (vs:List Value)
  (hT:P.underlying T=some (.slice e)) (he:ElemOk P e (sz α) b=true) (hn:more.length=n) (h0:n * sz α≠0) (hle:n * sz α≤2 ^ 24)
  (h:Held S H (orow e l v::I)) (hps:ps.toList.map (fun x=>(x.1,argEv E args x.2))=idxs 0 vs) (hvs:All2 (fun a v'=>CsR S a v'.cells.toList) more vs) (hp:z0l E H pend)
  (hx:∀u,argEv (E++[u]) args2 x=v) (hy:∀u,argEv (E++[u]) args2 y=u) (h63:l.length+more.length≤maxLen) (hby:(l.length+more.length) * b≤140737488355328)
  (hk:∀u v' S' H',PH.le S S'→Held S' H' (orow e (l++more) v'::I)→(∀k o,H k=some o→some k≠ob v→H' k=some o)→z0l (E++[u]) H' pend2∧den P X k (E++[u]++[v']) H' L K) :
  den P X (.sem (.buildSlice T n ps) ty args (.sc .sl) pend (.sem (.call ⟨.builtin .append,#[x,y],#[T,T]⟩) ty2 args2 (.sc .sl) pend2 k)) E H L K:=by
 refine zhg (l:=more) vs hT he hn h0 hle h.sh hps hvs hp fun u S1 H1 hx1 hs1 hp1=>?_
 have h1:=h.ext hx1
 exact z1k hT he (hx u) (hy u) h1 (hs1.srcS h1.sh) h63 hby fun v' H2 h2 w=>hk u v' S1 H2 hx1.s h2 fun k o hk hne=>w.keep k o (hx1.h k o hk) hne
theorem zzr {α:Type} [Enc α] {S H H':PH} {e:TypeId} {l:List α} {v:Value} {i:Nat} {a:α} {cs:List Value} (h:Row S H e l v) (hi:l[i]?=some a) (hk:∀k o,ob v=some k→H k=some o→H' k=some o) (hc:rowAt H (pOf (eltV v (i:Int) (sz α))) cs):rowAt H' (pOf (eltV v (i:Int) (sz α))) cs:=by
 obtain ⟨xs,h1,h2⟩:=h.own
 rcases h1.2 with ⟨rfl,hz⟩ | ⟨g,cap,cur,rfl,h3,h4,h5,h6,h7⟩
 ·have:l=[]:=List.length_eq_zero_iff.1 hz
  subst this;simp at hi
 ·obtain ⟨ad,e1,e2⟩:=hc
  refine ⟨ad,e1,fun j u hj=>?_⟩
  have h8:=e2 j u hj
  have had:(ad.add j).block=g:=by
   simp only [eltV,pOf,z04,Option.map_some,Option.some.injEq] at e1
   rw [←e1,Addr.add_add,Addr.add_plain]
  unfold PH.cell? at h8 ⊢
  rw [had] at h8 ⊢
  rw [h3] at h8
  rw [hk g _ rfl h3];exact h8
theorem Z0i {S:PH} {l:List UInt8} (h:l.length≤maxLen):CsR S l [txt l]:=by
 show PV.RepRow S [.str l] [txt l]
 simp only [PV.RepRow,zcf]
 exact ⟨_,_,rfl,⟨rfl,h⟩,rfl⟩
def NmTo (nr ub:Nat) (es:Array MapEntry) (clock:Nat) (S:PH) (r:Xp×Nat) (x:Ending) (K':PH):Prop:=∃S',PH.le S S'∧Held S' K' [nmB nr ub r.2,nmM ub es clock]∧XRet S' r.1 x
def zyp (U:List (List UInt8)) (e:Xp):Prop:=∀(cs:List Value) (S K:PH) (nr ub n:Nat) (es:Array MapEntry) (clock:Nat),Tab S→Held S K [nmB nr ub n,nmM ub es clock]→NmOk U es clock→e.Rep S cs→n+e.size * (U.length+1) < 900000000000000000→e.okF true→e.size≤4096 →
 Tri Tryz.prog z3u #[pAt nr,.agg cs.toArray] K (NmTo nr ub es clock S (e.nam U n))
theorem zho (U:List (List UInt8)) {l:List Xp} (hok:∀e∈l,e.okF true) (c n i:Nat):n≤(Xps.nam U c (l.take i) n).2.2∧(Xps.nam U c (l.take i) n).2.2≤n+Xps.size (l.take i) * (U.length+1):=by
 have:=Xps.okF_nam U (l.take i) (fun e _=>Xp.okF_nam U e) (fun e he=>hok e (List.take_subset _ _ he)) c n
 exact ⟨this.1,this.2.1⟩
theorem zuq {k:Nat} (h:k < 1000000000000000000):(nwL k).length≤maxLen:=by
 have h1:=zdl h
 unfold nwL
 simp only [maxLen,zla,zlc,List.length_nil];omega
section
variable {U:List (List UInt8)}
theorem zky (e:Xp) (c:Nat) (ih:∀a∈e.kids,zyp U a) (cs:List Value) (S K:PH) (nr ub n:Nat) (es:Array MapEntry) (clock:Nat) (hT:Tab S) (h:Held S K [nmB nr ub n,nmM ub es clock]) (hm:NmOk U es clock) (he:e.Rep S cs) (hb:n+e.size * (U.length+1) < 900000000000000000) (hok:e.okF true) (hz:e.size≤4096) (hc:c≤e.kids.length) :
  Tri Tryz.prog zjb #[pAt nr,.agg cs.toArray,.int .i64 (c:Int)] K (NmTo nr ub es clock S (wrapX (Xps.nam U c e.kids n).2.1 (.mk e.kind e.name e.names e.const (Xps.nam U c e.kids n).1),(Xps.nam U c e.kids n).2.2)):=by
 obtain ⟨nb,db,kb,nc,dc,kc,rfl,hx⟩:=Xp.Rep.open he
 obtain ⟨hf0,hok'⟩:=(Xp.okF_eq e).1 hok
 have hsz:=Xp.size_eq e
 have hk6:e.kids.length≤1048576:=by have:=Xps.size_len e.kids;omega
 refine zhs (pAt nr::(exVs e nb db kb nc dc kc++[.int .i64 (c:Int)])) (by kernel_rfl) (by kernel_rfl) ?_
 refine z1g (α:=Xp) (b:=128) z2a z1h h z05 fun v1 K1 h1 _ _=>?_
 simp only [List.cons_append,List.nil_append]
 refine z1k (b:=128) (more:=e.kids) z2a z1h (by kernel_rfl) (by kernel_rfl) h1 (hx.kids.srcS h1.sh) (by simp only [maxLen,List.length_nil];omega) (by simp only [List.length_nil];omega) fun kv K2 h2 _=>⟨z05,?_⟩
 rw [List.nil_append] at h2
 simp only [List.cons_append,List.nil_append]
 obtain ⟨lb,lc,hkv⟩:=(h2.row (zms)).sl
 refine ⟨fun m vs K3=>∃(i:Nat) (S3:PH) (nv iv:Value),i+m=c∧vs=[nv,iv,nI i]∧PH.le S S3∧Held S3 K3 ((orow 28 ((Xps.nam U c (e.kids.take i) n).1++e.kids.drop i) kv::orow 9 ((Xps.nam U c (e.kids.take i) n).2.1.map Prod.fst) nv::orow 28 ((Xps.nam U c (e.kids.take i) n).2.1.map Prod.snd) iv::[nmB nr ub (Xps.nam U c (e.kids.take i) n).2.2,nmM ub es clock])),⟨c,0,S,.slice none 0 0,.slice none 0 0,by omega,rfl,PH.le_refl _,?_⟩,?_⟩
 ·rw [List.take_zero,Xps.nam_nil]
  exact ((h2.empty (α:=Xp) 28).empty (α:=List UInt8) 9).to2
 rintro m vs K3 _ ⟨i,S3,nv,iv,him,rfl,l3,h3⟩
 obtain ⟨r,hr⟩:∃r,r=Xps.nam U c (e.kids.take i) n:=⟨_,rfl⟩
 rw [←hr] at h3
 have hrl:r.1.length=i:=by rw [hr,Xps.nam_len,List.length_take];omega
 have hrb:=zho U hok' c n i
 rw [←hr] at hrb
 have hrn:=Xps.nam_bindsLen U (e.kids.take i) c n
 rw [←hr,List.length_take] at hrn
 have hkl:(r.1++e.kids.drop i).length=e.kids.length:=by rw [zla,hrl,List.length_drop];omega
 obtain ⟨nvb,nvc,hnv⟩:=(h3.swap.row (zms)).sl
 obtain ⟨ivb,ivc,hiv⟩:=(h3.to2.row (zms)).sl
 rw [List.length_map] at hnv hiv
 simp only [List.cons_append,List.nil_append]
 have hsum:Xps.size (e.kids.take i)≤Xps.size e.kids:=by
  have:=Xps.size_append (e.kids.take i) (e.kids.drop i)
  rw [List.take_append_drop] at this;omega
 have hmul:=Nat.mul_le_mul_right (U.length+1) hsum
 have hse:e.size * (U.length+1)=(U.length+1)+Xps.size e.kids * (U.length+1):=by rw [hsz,Nat.add_mul,Nat.one_mul]
 refine ⟨fun g=>?_,fun g=>?_⟩
 ·simp only [ev0,ev,evV,List.cons_append,List.nil_append,List.getD_cons_zero,List.getD_cons_succ,List.map_cons,List.map_nil,iOf,bOf,sOf,pOf,slLen,z04,cmpI,arI,Value.ite_bool,z01,z02,z00,z03,zdt] at g
  have hic:i < c:=by omega
  obtain ⟨a,ha⟩:∃a,e.kids[i]?=some a:=⟨_,zge (by omega)⟩
  have ham:=List.mem_of_getElem? ha
  have haok:=hok' a ham
  have hsa:=Xps.size_at ha
  have hmul2:=Nat.mul_le_mul_right (U.length+1) hsa
  rw [Nat.add_mul] at hmul2
  have hka:(r.1++e.kids.drop i)[i]?=some a:=by
   rw [List.getElem?_append_right (by omega),hrl,Nat.sub_self,List.getElem?_drop,Nat.add_zero];exact ha
  have hks:∀b:Xp,(r.1++e.kids.drop i).set i b=(r.1++[b])++e.kids.drop (i+1):=fun b=>by
   have hd:e.kids.drop i=a::e.kids.drop (i+1):=by
    obtain ⟨hl,hv⟩:=List.getElem?_eq_some_iff.1 ha
    rw [List.drop_eq_getElem_cons hl,hv]
   rw [List.set_append_right _ _ (by omega),hrl,Nat.sub_self,hd,List.set_cons_zero]
   simp
  obtain ⟨x1,_,xs,x2,x3⟩:=(h3.row (zms)).get hka
  have x2':=x2
  obtain ⟨anb,adb,akb,anc,adc,akc,rfl,hxa⟩:=Xp.Rep.open x2'
  rw [hkv] at x1 x3
  refine ⟨fun vs K4=>∃(S4:PH) (nv4 iv4:Value),vs=[nv4,iv4]∧PH.le S S4∧Held S4 K4 ((orow 28 ((Xps.nam U c (e.kids.take (i+1)) n).1++e.kids.drop (i+1)) kv::orow 9 ((Xps.nam U c (e.kids.take (i+1)) n).2.1.map Prod.fst) nv4::orow 28 ((Xps.nam U c (e.kids.take (i+1)) n).2.1.map Prod.snd) iv4::[nmB nr ub (Xps.nam U c (e.kids.take (i+1)) n).2.2,nmM ub es clock])),?_,fun _=>?_,exVs a anb adb akb anc adc akc,rfl,by simp only [ev0,ev,evV,List.cons_append,List.nil_append,List.getD_cons_zero,List.getD_cons_succ,List.map_cons,List.map_nil,iOf,bOf,sOf,pOf,slLen,z04,cmpI,arI,Value.ite_bool,z01,z02,z00,z03];rw [hkv];exact x3,?_⟩
  ·rintro vs K4 _ ⟨S4,nv4,iv4,rfl,l4,h4⟩
   exact ⟨_,z06,m - 1,by omega,i+1,S4,nv4,iv4,by omega,by simp only [ev0,ev,evV,List.cons_append,List.nil_append,List.getD_cons_zero,List.getD_cons_succ,List.map_cons,List.map_nil,iOf,bOf,sOf,pOf,slLen,z04,cmpI,arI,Value.ite_bool,z01,z02,z00,z03,up9 (by omega:i < 9223372036854775807)],l4,h4⟩
  ·simp only [Chk.holds,ev0,ev,evV,List.cons_append,List.nil_append,List.getD_cons_zero,List.getD_cons_succ,List.map_cons,List.map_nil,iOf,bOf,sOf,pOf,slLen,z04,cmpI,arI,Value.ite_bool,z01,z02,z00,z03];rw [hkv];exact ⟨x1,by omega,by simp only;omega⟩
  simp only [List.cons_append,List.nil_append]
  refine z07 [.bool (simX a)] zqa (zoe a _ K3 (Xp.Rep.le h3.sh a x2)) rfl z05 fun K4 l4=>?_
  have h4:=h3.le l4
  simp only [List.cons_append,List.nil_append]
  cases hs:simX a with
  | true=>
   refine ⟨fun g2=>by simp [ev0,ev,evV,List.cons_append,List.nil_append,List.getD_cons_zero,List.getD_cons_succ,List.map_cons,List.map_nil,iOf,bOf,sOf,pOf,slLen,z04,cmpI,arI,Value.ite_bool,z01,z02,z00,z03] at g2,fun _=>?_⟩
   refine ⟨_,z06,S3,nv,iv,rfl,l3,?_⟩
   rw [Xps.nam_snocS U ha hic n hs,←hr]
   have:(r.1++[a])++e.kids.drop (i+1)=r.1++e.kids.drop i:=by
    obtain ⟨hl,hv⟩:=List.getElem?_eq_some_iff.1 ha
    rw [List.drop_eq_getElem_cons hl,hv];simp
   dsimp only
   rw [this];exact h4
  | false=>
   refine ⟨fun _=>?_,fun g2=>by simp [ev0,ev,evV,List.cons_append,List.nil_append,List.getD_cons_zero,List.getD_cons_succ,List.map_cons,List.map_nil,iOf,bOf,sOf,pOf,slLen,z04,cmpI,arI,Value.ite_bool,z01,z02,z00,z03] at g2⟩
   have hN:r.2.2+U.length < 900000000000000000:=by omega
   have hfr:=z7n U r.2.2
   have hfr18:frN U r.2.2 < 1000000000000000000:=by omega
   have hcall:=Held.call (J:=[nmB nr ub r.2.2,nmM ub es clock]) (I:=[orow 28 (r.1++e.kids.drop i) kv,orow 9 (r.2.1.map Prod.fst) nv,orow 28 (r.2.1.map Prod.snd) iv]) (R:=fun x _ J'=>x=.returned (txt (nwL (frN U r.2.2)))∧J'=[nmB nr ub (frN U r.2.2+1),nmM ub es clock]) (h4.perm (List.perm_append_comm (l₁:=[_,_,_]) (l₂:=[_,_]))) fun K' hK'=>(zu4 (hT.le l3) hK' hm hN).mono fun x K'' hx'=>⟨S3,_,PH.le_refl _,hx'.2,hx'.1,rfl⟩
   refine z08 zix hcall ?_
   rintro x K5 ⟨S5,J5,l5,h5,rfl,rfl⟩
   refine ⟨_,[txt (nwL (frN U r.2.2))],rfl,rfl,rfl,z05,?_⟩
   have h5':=h5.perm (List.perm_append_comm (l₁:=[_,_]) (l₂:=[_,_,_]))
   replace h5':Held S5 K5 (orow 28 (r.1++e.kids.drop i) kv::orow 9 (r.2.1.map Prod.fst) nv::orow 28 (r.2.1.map Prod.snd) iv::[nmB nr ub (frN U r.2.2+1),nmM ub es clock]):=h5'
   obtain ⟨_,_,zs,z2,z3⟩:=(h5'.row (zms)).get hka
   obtain ⟨bnb,bdb,bkb,bnc,bdc,bkc,rfl,hxb⟩:=Xp.Rep.open z2
   rw [hkv] at z3
   refine ⟨exVs a bnb bdb bkb bnc bdc bkc,rfl,by simp only [ev0,ev,evV,List.cons_append,List.nil_append,List.getD_cons_zero,List.getD_cons_succ,List.map_cons,List.map_nil,iOf,bOf,sOf,pOf,slLen,z04,cmpI,arI,Value.ite_bool,z01,z02,z00,z03];rw [hkv];exact z3,?_⟩
   simp only [List.cons_append,List.nil_append]
   have hrow5:=h5'.row (zms)
   have z3':rowAt K5 (pOf (eltV kv (i:Int) 8)) (exVs a bnb bdb bkb bnc bdc bkc):=by rw [hkv];exact z3
   have hwid:IntKind.i64.wrap (i:Int)=(i:Int):=w64 (by omega) (by omega)
   refine zwg (b:=16) (more:=[nwL (frN U r.2.2)]) [txt (nwL (frN U r.2.2))] uTxts z4y rfl (by decide) (by decide) h5'.swap (by kernel_rfl) (.cons (Z0i (zuq hfr18)) .nil) (z1w (by simp only [List.map_cons,List.map_nil,ev0,ev,evV,List.cons_append,List.nil_append,List.getD_cons_zero,List.getD_cons_succ,List.map_cons,List.map_nil,iOf,bOf,sOf,pOf,slLen,z04,cmpI,arI,Value.ite_bool,z01,z02,z00,z03];exact z3')) (fun u=>by kernel_rfl) (fun u=>by kernel_rfl)
    (by simp only [maxLen,List.length_map,zlc,List.length_nil];omega) (by simp only [List.length_map,zlc,List.length_nil];omega) fun u6 v6 S6 K6 l6 h6 k6=>?_
   have hne56:ob kv≠ob nv∨ob kv=none:=by
    cases hob:ob kv with
    | none=>exact .inr rfl
    | some g=>
     left
     intro hh
     have hnd:=h5'.nd
     rw [List.pairwise_cons] at hnd
     exact hnd.1 _ (zms) g hob hh.symm
   have z6:rowAt K6 (pOf (eltV kv (i:Int) 8)) (exVs a bnb bdb bkb bnc bdc bkc):=zzr hrow5 hka (fun k o hob hk=>k6 k o hk (by
    rcases hne56 with hh | hh
    ·rw [←hob];exact hh
    ·rw [hh] at hob;cases hob)) z3'
   refine ⟨z1w (by simp only [List.map_cons,List.map_nil,ev0,ev,evV,List.cons_append,List.nil_append,List.getD_cons_zero,List.getD_cons_succ,List.map_cons,List.map_nil,iOf,bOf,sOf,pOf,slLen,z04,cmpI,arI,Value.ite_bool,z01,z02,z00,z03];exact z6),?_⟩
   simp only [List.cons_append,List.nil_append]
   have hszn:frN U r.2.2+1+a.size * (U.length+1) < 900000000000000000:=by omega
   have l36:=PH.le_trans l3 (PH.le_trans l5 l6)
   have hcall:=Held.call (J:=[nmB nr ub (frN U r.2.2+1),nmM ub es clock]) (I:=[orow 9 (r.2.1.map Prod.fst++[nwL (frN U r.2.2)]) v6,orow 28 (r.1++e.kids.drop i) kv,orow 28 (r.2.1.map Prod.snd) iv]) (R:=fun x S' J'=>J'=[nmB nr ub (a.nam U (frN U r.2.2+1)).2,nmM ub es clock]∧XRet S' (a.nam U (frN U r.2.2+1)).1 x) (h6.perm (List.perm_append_comm (l₁:=[_,_,_]) (l₂:=[_,_]))) fun K' hK'=>(ih a ham _ S6 K' nr ub (frN U r.2.2+1) es clock (hT.le l36) hK' hm (exvLe l6 hxb).rep hszn haok (by omega)).mono fun x K'' hx'=>by
    obtain ⟨S',q1,q2,q3⟩:=hx'
    exact ⟨S',_,q1,q2,rfl,q3⟩
   refine z08 z3i hcall ?_
   rintro x K7 ⟨S7,J7,l7,h7,rfl,es7,rfl,hr7⟩
   have ht7:=Xp.Rep.tags hr7
   have hr7':=hr7
   obtain ⟨cnb,cdb,ckb,cnc,cdc,ckc,rfl,hxc⟩:=Xp.Rep.open hr7'
   refine ⟨_,exVs (a.nam U (frN U r.2.2+1)).1 cnb cdb ckb cnc cdc ckc,rfl,ht7,rfl,z05,?_⟩
   simp only [List.cons_append,List.nil_append]
   have h7':Held S7 K7 (orow 28 (r.2.1.map Prod.snd) iv::nmB nr ub (a.nam U (frN U r.2.2+1)).2::nmM ub es clock::orow 9 (r.2.1.map Prod.fst++[nwL (frN U r.2.2)]) v6::orow 28 (r.1++e.kids.drop i) kv::[]):=h7.to4
   refine z12 (more:=[(a.nam U (frN U r.2.2+1)).1]) (b:=128) [.agg (exVs (a.nam U (frN U r.2.2+1)).1 cnb cdb ckb cnc cdc ckc).toArray] z2a z1h rfl (by decide) (by decide) h7' (by kernel_rfl) (.cons hr7 .nil) z05 (fun _=>by kernel_rfl) (fun _=>by kernel_rfl)
    (by simp only [maxLen,List.length_map,zlc,List.length_nil];omega) (by simp only [List.length_map,zlc,List.length_nil];omega) fun u8 v8 S8 K8 l8 h8=>⟨z05,?_⟩
   simp only [List.cons_append,List.nil_append]
   refine z07 [.int .i64 1,txt (nwL (frN U r.2.2)),.slice none 0 0,.int .i64 0,.int .i64 0,txt [],.slice none 0 0,.slice none 0 0] ztv (zud (nwL (frN U r.2.2)) K8) rfl z05 fun K9 l9=>?_
   simp only [List.cons_append,List.nil_append]
   have h9:=(h8.le l9).to4
   refine zer (i:=i) (a:=a) (a':=refX (nwL (frN U r.2.2))) (us:=[.int .i64 1,txt (nwL (frN U r.2.2)),.slice none 0 0,.int .i64 0,.int .i64 0,txt [],.slice none 0 0,.slice none 0 0]) (by simp only [ev0,ev,evV,List.cons_append,List.nil_append,List.getD_cons_zero,List.getD_cons_succ,List.map_cons,List.map_nil,iOf,bOf,sOf,pOf,slLen,z04,cmpI,arI,Value.ite_bool,z01,z02,z00,z03];rfl) h9 hka rfl (by simp only [List.map_cons,List.map_nil,ev0,ev,evV,List.cons_append,List.nil_append,List.getD_cons_zero,List.getD_cons_succ,List.map_cons,List.map_nil,iOf,bOf,sOf,pOf,slLen,z04,cmpI,arI,Value.ite_bool,z01,z02,z00,z03]) (by
    intro u hu
    simp only [List.mem_cons,List.not_mem_nil,or_false] at hu
    rcases hu with rfl | rfl | rfl | rfl | rfl | rfl | rfl | rfl<;>rfl) (Z0a (zuq hfr18)) fun K10 h10=>?_
   refine ⟨_,z06,S8,v6,v8,by simp only [ev0,ev,evV,List.cons_append,List.nil_append,List.getD_cons_zero,List.getD_cons_succ,List.map_cons,List.map_nil,iOf,bOf,sOf,pOf,slLen,z04,cmpI,arI,Value.ite_bool,z01,z02,z00,z03],PH.le_trans l3 (PH.le_trans l5 (PH.le_trans l6 (PH.le_trans l7 l8))),?_⟩
   rw [Xps.nam_snocN U ha hic n hs,←hr]
   rw [hks] at h10
   simp only [List.map_append,List.map_cons,List.map_nil]
   exact h10.perm (List.Perm.cons _ ((List.perm_middle (l₁:=[_,_,_]) (l₂:=[])).trans (List.Perm.cons _ (List.Perm.refl _))))
 ·simp only [ev0,ev,evV,List.cons_append,List.nil_append,List.getD_cons_zero,List.getD_cons_succ,List.map_cons,List.map_nil,iOf,bOf,sOf,pOf,slLen,z04,cmpI,arI,Value.ite_bool,z01,z02,z00,z03,zdf] at g
  have hic:i=c:=by omega
  subst hic
  rw [hr] at h3
  clear hrn hkl hnv hiv hrb hrl hsum hmul
  clear hr r
  refine ⟨fun m vs K4=>∃(j:Nat) (S4:PH),j+m=e.kids.length∧i≤j∧vs=[nI j]∧PH.le S S4∧Held S4 K4 (orow 28 ((Xps.nam U i (e.kids.take j) n).1++e.kids.drop j) kv::orow 9 ((Xps.nam U i (e.kids.take j) n).2.1.map Prod.fst) nv::orow 28 ((Xps.nam U i (e.kids.take j) n).2.1.map Prod.snd) iv::[nmB nr ub (Xps.nam U i (e.kids.take j) n).2.2,nmM ub es clock]),⟨e.kids.length - i,i,S3,by omega,Nat.le_refl _,by simp only [ev0,ev,evV,List.cons_append,List.nil_append,List.getD_cons_zero,List.getD_cons_succ,List.map_cons,List.map_nil,iOf,bOf,sOf,pOf,slLen,z04,cmpI,arI,Value.ite_bool,z01,z02,z00,z03],l3,h3⟩,?_⟩
  rintro m2 vs K4 _ ⟨j,S4,hjm,hij,rfl,l4,h4⟩
  simp only [List.cons_append,List.nil_append]
  obtain ⟨r,hr⟩:∃r,r=Xps.nam U i (e.kids.take j) n:=⟨_,rfl⟩
  rw [←hr] at h4
  have hrl:r.1.length=j:=by rw [hr,Xps.nam_len,List.length_take];omega
  have hrb:=zho U hok' i n j
  rw [←hr] at hrb
  have hsum:Xps.size (e.kids.take j)≤Xps.size e.kids:=by
   have:=Xps.size_append (e.kids.take j) (e.kids.drop j)
   rw [List.take_append_drop] at this;omega
  have hmul:=Nat.mul_le_mul_right (U.length+1) hsum
  refine ⟨fun g2=>?_,fun g2=>?_⟩
  ·have hjl:j < e.kids.length:=by
    rw [hkv] at g2;simp only [ev0,ev,evV,List.cons_append,List.nil_append,List.getD_cons_zero,List.getD_cons_succ,List.map_cons,List.map_nil,iOf,bOf,sOf,pOf,slLen,z04,cmpI,arI,Value.ite_bool,z01,z02,z00,z03,zdt] at g2;omega
   obtain ⟨a,ha⟩:∃a,e.kids[j]?=some a:=⟨_,zge hjl⟩
   have ham:=List.mem_of_getElem? ha
   have haok:=hok' a ham
   have hsa:=Xps.size_at ha
   have hmul2:=Nat.mul_le_mul_right (U.length+1) hsa
   rw [Nat.add_mul] at hmul2
   have hka:(r.1++e.kids.drop j)[j]?=some a:=by
    rw [List.getElem?_append_right (by omega),hrl,Nat.sub_self,List.getElem?_drop,Nat.add_zero];exact ha
   have hks:∀b:Xp,(r.1++e.kids.drop j).set j b=(r.1++[b])++e.kids.drop (j+1):=fun b=>by
    have hd:e.kids.drop j=a::e.kids.drop (j+1):=by
     obtain ⟨hl,hv⟩:=List.getElem?_eq_some_iff.1 ha
     rw [List.drop_eq_getElem_cons hl,hv]
    rw [List.set_append_right _ _ (by omega),hrl,Nat.sub_self,hd,List.set_cons_zero]
    simp
   obtain ⟨x1,_,xs,x2,x3⟩:=(h4.row (zms)).get hka
   have x2':=x2
   obtain ⟨anb,adb,akb,anc,adc,akc,rfl,hxa⟩:=Xp.Rep.open x2'
   rw [hkv] at x1 x3
   refine ⟨fun _=>?_,exVs a anb adb akb anc adc akc,rfl,by simp only [ev0,ev,evV,List.cons_append,List.nil_append,List.getD_cons_zero,List.getD_cons_succ,List.map_cons,List.map_nil,iOf,bOf,sOf,pOf,slLen,z04,cmpI,arI,Value.ite_bool,z01,z02,z00,z03];rw [hkv];exact x3,?_⟩
   ·simp only [Chk.holds,ev0,ev,evV,List.cons_append,List.nil_append,List.getD_cons_zero,List.getD_cons_succ,List.map_cons,List.map_nil,iOf,bOf,sOf,pOf,slLen,z04,cmpI,arI,Value.ite_bool,z01,z02,z00,z03];rw [hkv];exact ⟨x1,by omega,by simp only;omega⟩
   simp only [List.cons_append,List.nil_append]
   have hcall:=Held.call (J:=[nmB nr ub r.2.2,nmM ub es clock]) (I:=[orow 28 (r.1++e.kids.drop j) kv,orow 9 (r.2.1.map Prod.fst) nv,orow 28 (r.2.1.map Prod.snd) iv]) (R:=fun x S' J'=>J'=[nmB nr ub (a.nam U r.2.2).2,nmM ub es clock]∧XRet S' (a.nam U r.2.2).1 x) (h4.perm (List.perm_append_comm (l₁:=[_,_,_]) (l₂:=[_,_]))) fun K' hK'=>(ih a ham _ S4 K' nr ub r.2.2 es clock (hT.le l4) hK' hm x2 (by omega) haok (by omega)).mono fun x K'' hx'=>by
    obtain ⟨S',q1,q2,q3⟩:=hx'
    exact ⟨S',_,q1,q2,rfl,q3⟩
   refine z08 z3i hcall ?_
   rintro x K7 ⟨S7,J7,l7,h7,rfl,es7,rfl,hr7⟩
   have ht7:=Xp.Rep.tags hr7
   have hr7':=hr7
   obtain ⟨cnb,cdb,ckb,cnc,cdc,ckc,rfl,hxc⟩:=Xp.Rep.open hr7'
   refine ⟨_,exVs (a.nam U r.2.2).1 cnb cdb ckb cnc cdc ckc,rfl,ht7,rfl,z05,?_⟩
   simp only [List.cons_append,List.nil_append]
   have h7':Held S7 K7 (orow 28 (r.1++e.kids.drop j) kv::orow 9 (r.2.1.map Prod.fst) nv::orow 28 (r.2.1.map Prod.snd) iv::[nmB nr ub (a.nam U r.2.2).2,nmM ub es clock]):=h7.perm (List.perm_append_comm (l₁:=[_,_]) (l₂:=[_,_,_]))
   refine zer (i:=j) (a:=a) (a':=(a.nam U r.2.2).1) (us:=exVs (a.nam U r.2.2).1 cnb cdb ckb cnc cdc ckc) (by simp only [ev0,ev,evV,List.cons_append,List.nil_append,List.getD_cons_zero,List.getD_cons_succ,List.map_cons,List.map_nil,iOf,bOf,sOf,pOf,slLen,z04,cmpI,arI,Value.ite_bool,z01,z02,z00,z03];rfl) h7' hka rfl (by simp only [List.map_cons,List.map_nil,ev0,ev,evV,List.cons_append,List.nil_append,List.getD_cons_zero,List.getD_cons_succ,List.map_cons,List.map_nil,iOf,bOf,sOf,pOf,slLen,z04,cmpI,arI,Value.ite_bool,z01,z02,z00,z03]) (by
    intro u hu
    simp only [List.mem_cons,List.not_mem_nil,or_false] at hu
    rcases hu with rfl | rfl | rfl | rfl | rfl | rfl | rfl | rfl<;>rfl) hr7 fun K10 h10=>?_
   refine ⟨_,z06,m2 - 1,by omega,j+1,S7,by omega,by omega,by simp only [ev0,ev,evV,List.cons_append,List.nil_append,List.getD_cons_zero,List.getD_cons_succ,List.map_cons,List.map_nil,iOf,bOf,sOf,pOf,slLen,z04,cmpI,arI,Value.ite_bool,z01,z02,z00,z03,up9 (by omega:j < 9223372036854775807)],PH.le_trans l4 l7,?_⟩
   rw [Xps.nam_snoc0 U ha hij n,←hr]
   rw [hks] at h10
   exact h10
  have hjl:j=e.kids.length:=by
   rw [hkv] at g2;simp only [ev0,ev,evV,List.cons_append,List.nil_append,List.getD_cons_zero,List.getD_cons_succ,List.map_cons,List.map_nil,iOf,bOf,sOf,pOf,slLen,z04,cmpI,arI,Value.ite_bool,z01,z02,z00,z03,zdf] at g2;omega
  subst hjl
  rw [List.take_length] at hr
  rw [List.drop_length,List.append_nil] at h4
  obtain ⟨bs,hbs⟩:∃bs,bs=r.2.1:=⟨_,rfl⟩
  rw [←hbs] at h4
  have hbl:bs.length≤1048576:=by
   rw [hbs,hr]
   have:=(Xps.nam_bindsLen U e.kids i n).2
   omega
  obtain ⟨S5,k5,l5,h5⟩:=h4.freeze
  obtain ⟨S6,k6,l6,h6⟩:=h5.freeze
  obtain ⟨S7,k7,l7,h7⟩:=h6.freeze
  have l47:=PH.le_trans l4 (PH.le_trans l5 (PH.le_trans l6 l7))
  have k67:=k6.le l7
  have k57:=k5.le (PH.le_trans l6 l7)
  obtain ⟨nvb,nvc,rfl⟩:=k67.sl
  obtain ⟨ivb,ivc,rfl⟩:=k7.sl
  have hx7:=exvLe l47 hx
  obtain ⟨body,hbody⟩:∃body:Xp,body=.mk e.kind e.name e.names e.const r.1:=⟨_,rfl⟩
  have hbr:body.Rep S7 [.int .i64 e.kind,txt e.name,.slice nb e.names.length nc,.int .i64 e.const.kind,.int .i64 e.const.int,txt e.const.text,.slice db e.const.list.length dc,kv]:=by
   rw [hbody]
   exact Xp.Rep_iff.2 ⟨_,_,_,rfl,hx7.kind,hx7.name,hx7.names,hx7.const,k57⟩
  have hgoal:(Xps.nam U i e.kids n)=r:=hr.symm
  rw [hgoal,←hbs,←hbody]
  have hcapn:(bs.map Prod.fst).length≤nvc:=by
   rcases (SlR.mk_iff.1 k67).2 with ⟨e1,e2⟩ | ⟨a,c,e1,e2,_⟩
   ·rw [e2];exact Nat.zero_le _
   ·cases e1;exact e2
  have hcapi:(bs.map Prod.snd).length≤ivc:=by
   rcases (SlR.mk_iff.1 k7).2 with ⟨e1,e2⟩ | ⟨a,c,e1,e2,_⟩
   ·rw [e2];exact Nat.zero_le _
   ·cases e1;exact e2
  rw [List.length_map] at hcapn hcapi
  refine ⟨fun m vs K8=>∃(S8:PH) (ws:List Value),vs=.int .i64 ((m:Int) - 1)::ws∧m≤bs.length∧PH.le S7 S8∧Held S8 K8 [nmB nr ub r.2.2,nmM ub es clock]∧(wrapX (bs.drop m) body).Rep S8 ws,⟨bs.length,S7,[.int .i64 e.kind,txt e.name,.slice nb e.names.length nc,.int .i64 e.const.kind,.int .i64 e.const.int,txt e.const.text,.slice db e.const.list.length dc,kv],?_,Nat.le_refl _,PH.le_refl _,h7,?_⟩,?_⟩
  rotate_left
  ·rw [List.drop_length];exact hbr
  ·rintro m vs K8 _ ⟨S8,ws,rfl,hmb,l8,h8,hw8⟩
   have hw8':=hw8
   obtain ⟨cnb,cdb,ckb,cnc,cdc,ckc,rfl,hxc⟩:=Xp.Rep.open hw8'
   obtain ⟨W,hW⟩:∃W,W=wrapX (bs.drop m) body:=⟨_,rfl⟩
   rw [←hW] at hw8 hxc ⊢
   simp only [List.cons_append,List.nil_append]
   refine ⟨fun g3=>?_,fun g3=>?_⟩
   ·simp only [ev0,ev,evV,List.cons_append,List.nil_append,List.getD_cons_zero,List.getD_cons_succ,List.map_cons,List.map_nil,iOf,bOf,sOf,pOf,slLen,z04,cmpI,arI,Value.ite_bool,z01,z02,z00,z03,zdt] at g3
    obtain ⟨k,rfl⟩:∃k,m=k+1:=⟨m - 1,by omega⟩
    have hk1:(((k+1:Nat):Int) - 1)=(k:Int):=by omega
    rw [hk1]
    obtain ⟨x,hxb⟩:∃x,bs[k]?=some x:=⟨_,zge (by omega)⟩
    have hw1:IntKind.i64.wrap ((k:Int)+1)=((k+1:Nat):Int):=up9 (by omega)
    have cutN:=(k67.le l8).cut (a:=k) (b:=k+1) (by omega) (by rw [List.length_map];omega)
    have cutI:=(k7.le l8).cut (a:=k) (b:=k+1) (by omega) (by rw [List.length_map];omega)
    have one:∀{γ:Type} {l:List γ} {y:γ},l[k]?=some y→(l.take (k+1)).drop k=[y]:=fun {γ l y} hy=>by
     have hl:=(List.getElem?_eq_some_iff.1 hy).1
     rw [List.take_add_one,hy,List.drop_append,List.length_take,Nat.min_eq_left (by omega),Nat.sub_self,List.drop_of_length_le (by rw [List.length_take];omega)];rfl
    rw [one (by rw [List.getElem?_map,hxb];rfl)] at cutN cutI
    refine ⟨fun _=>?_,fun _=>?_,?_⟩
    ·simp only [Chk.holds,ev0,ev,evV,List.cons_append,List.nil_append,List.getD_cons_zero,List.getD_cons_succ,List.map_cons,List.map_nil,iOf,bOf,sOf,pOf,slLen,z04,cmpI,arI,Value.ite_bool,z01,z02,z00,z03,hw1,slCap,List.length_map];omega
    ·simp only [Chk.holds,ev0,ev,evV,List.cons_append,List.nil_append,List.getD_cons_zero,List.getD_cons_succ,List.map_cons,List.map_nil,iOf,bOf,sOf,pOf,slLen,z04,cmpI,arI,Value.ite_bool,z01,z02,z00,z03,hw1,slCap,List.length_map];omega
    refine z08 ztp (R:=fun x' K'=>∃S',PH.le S8 S'∧Held S' K' [nmB nr ub r.2.2,nmM ub es clock]∧XRet S' (letX x.1 x.2 W) x') ?_ ?_
    ·have:=h8.pure (zxb x.1 x.2 W S8 cutN cutI hw8)
     rw [←hw1] at this
     exact this
    rintro x' K9 ⟨S9,l9,h9,es9,rfl,hr9⟩
    have ht9:=Xp.Rep.tags hr9
    have hr9':=hr9
    obtain ⟨dnb,ddb,dkb,dnc,ddc,dkc,rfl,hxd⟩:=Xp.Rep.open hr9'
    refine ⟨_,exVs (letX x.1 x.2 W) dnb ddb dkb dnc ddc dkc,rfl,ht9,rfl,z05,?_⟩
    refine ⟨_,z06,k,by omega,S9,exVs (letX x.1 x.2 W) dnb ddb dkb dnc ddc dkc,?_,by omega,PH.le_trans l8 l9,h9,?_⟩
    ·simp only [ev0,ev,evV,List.cons_append,List.nil_append,List.getD_cons_zero,List.getD_cons_succ,List.map_cons,List.map_nil,iOf,bOf,sOf,pOf,slLen,z04,cmpI,arI,Value.ite_bool,z01,z02,z00,z03,down9 (by omega:k < 9223372036854775807)]
    ·have hd:bs.drop k=x::bs.drop (k+1):=by
      obtain ⟨hl,hv⟩:=List.getElem?_eq_some_iff.1 hxb
      rw [List.drop_eq_getElem_cons hl,hv]
     rw [hd]
     show (letX x.1 x.2 (wrapX (bs.drop (k+1)) body)).Rep S9 _
     rw [←hW];exact hr9
   ·simp only [ev0,ev,evV,List.cons_append,List.nil_append,List.getD_cons_zero,List.getD_cons_succ,List.map_cons,List.map_nil,iOf,bOf,sOf,pOf,slLen,z04,cmpI,arI,Value.ite_bool,z01,z02,z00,z03,zdf] at g3
    have hm0:m=0:=by omega
    subst hm0
    rw [List.drop_zero] at hW
    refine ⟨S8,PH.le_trans l47 l8,h8,exVs W cnb cdb ckb cnc cdc ckc,?_,?_⟩
    ·simp only [ev0,ev,evV,List.cons_append,List.nil_append,List.getD_cons_zero,List.getD_cons_succ,List.map_cons,List.map_nil,iOf,bOf,sOf,pOf,slLen,z04,cmpI,arI,Value.ite_bool,z01,z02,z00,z03]
    ·rw [←hW];exact hw8
  ·simp only [ev0,ev,evV,List.cons_append,List.nil_append,List.getD_cons_zero,List.getD_cons_succ,List.map_cons,List.map_nil,iOf,bOf,sOf,pOf,slLen,z04,cmpI,arI,Value.ite_bool,z01,z02,z00,z03,List.length_map,down9 (by omega:bs.length < 9223372036854775807)]
end
end Go.Proofs.YtjhlndokjkeilaaGreatDoor.Vc
namespace Go.Proofs.YtjhlndokjkeilaaGreatDoor.Vc
open Go Go.Sort
theorem zqf {P:Program} {X:List PanicEntry→PH→Prop} {β:Type} {E:List Value} {H:PH} {L:LK} {K:β→List Value→PH→LK→Prop} {fn:Fn} {first caps:Array Operand} {ty:TypeId} {args:List (Nat×VE)} {k:Fm β} {f:FuncId} {F C:Array Value} (hf:fn=.func f) (h1:first.map (argEv E args)=F) (h2:caps.map (argEv E args)=C) (hk:den P X k (E++[.func (.func f) F C]) H L K) :
  den P X (.sem (.makeFunc fn first caps) ty args (.sc .any) [] k) E H L K:=by
 subst h1 h2
 exact zsr hf hk
theorem zde (U:List (List UInt8)):∀(l:List Xp) (n:Nat),mapS (fun n e=>Xp.nam U e n) n l=((Xps.nam U 0 l n).1,(Xps.nam U 0 l n).2.2)
 | [],n=>by rw [Xps.nam_nil];rfl
 | e::l,n=>by rw [Xps.nam_zero];simp only [mapS,zde U l]
theorem zoc {S:PH} {e:Xp} {x:Ending} (h:XRet S e x):∃nb db kb nc dc kc,x=.returned (.agg (exVs e nb db kb nc dc kc).toArray)∧e.Rep S (exVs e nb db kb nc dc kc):=by
 obtain ⟨es,rfl,hr⟩:=h
 have hr':=hr
 obtain ⟨nb,db,kb,nc,dc,kc,rfl,_⟩:=Xp.Rep.open hr'
 exact ⟨nb,db,kb,nc,dc,kc,rfl,hr⟩
theorem zw5 (U:List (List UInt8)):∀e,zyp U e:=by
 refine Xp.ind fun e ih cs S K nr ub n es clock hT h hm he hb hok hz=>?_
 have he':=he
 obtain ⟨nb,db,kb,nc,dc,kc,rfl,hx⟩:=Xp.Rep.open he
 obtain ⟨hf0,hok'⟩:=(Xp.okF_eq e).1 hok
 have hform:=zdh hf0
 refine zj2 (pAt nr::exVs e nb db kb nc dc kc) (by kernel_rfl) (by kernel_rfl) ?_
 have fin:∀{x:Ending} {K':PH},NmTo nr ub es clock S (e.nam U n) x K'→∃v vs,x=.returned v∧z0c [.int .i64,.str,.sl,.int .i64,.int .i64,.str,.sl,.sl] vs=true∧v=.agg vs.toArray∧∃S' ,PH.le S S'∧Held S' K' [nmB nr ub (e.nam U n).2,nmM ub es clock]∧(e.nam U n).1.Rep S' vs∧∃w0 w1 w2 w3 w4 w5 w6 w7,vs=[w0,w1,w2,w3,w4,w5,w6,w7]:=fun h=>by
  obtain ⟨S',l,hh,hq⟩:=h
  obtain ⟨nb,db,kb,nc,dc,kc,rfl,hq2⟩:=zoc hq
  exact ⟨_,_,rfl,Xp.Rep.tags hq2,rfl,S',l,hh,hq2,_,_,_,_,_,_,_,_,rfl⟩
 refine ⟨fun g=>?_,fun g=>?_⟩
 ·have hk:e.kind=6∨e.kind=7:=by
   by_cases k6:e.kind=6
   ·exact .inl k6
   ·right;simp [ev0,ev,evV,List.cons_append,List.nil_append,List.getD_cons_zero,List.getD_cons_succ,List.map_cons,List.map_nil,iOf,bOf,sOf,pOf,slLen,z04,cmpI,arI,Value.ite_bool,z01,z02,z00,z03,k6] at g;exact g
  have hs:someN e.kind e.kids.length=e.kids.length:=by unfold someN;rw [if_pos hk]
  have h7:=zwk hform hk
  refine z08 z9j (zky e e.kids.length (fun a ha=>ih a ha) _ S K nr ub n es clock hT h hm he' hb hok hz (Nat.le_refl _)) ?_
  rintro x K2 h2
  have hn:(wrapX (Xps.nam U e.kids.length e.kids n).2.1 (.mk e.kind e.name e.names e.const (Xps.nam U e.kids.length e.kids n).1),(Xps.nam U e.kids.length e.kids n).2.2)=e.nam U n:=by rw [Xp.nam_eq,hs]
  rw [hn] at h2
  obtain ⟨v,vs,rfl,ht,rfl,S',l,hh,hr,w0,w1,w2,w3,w4,w5,w6,w7,rfl⟩:=fin h2
  exact ⟨_,_,rfl,ht,rfl,z05,S',l,hh,_,rfl,hr⟩
 have hk6:¬(e.kind=6∨e.kind=7):=by
  rintro (hk | hk)
  ·simp [ev0,ev,evV,List.cons_append,List.nil_append,List.getD_cons_zero,List.getD_cons_succ,List.map_cons,List.map_nil,iOf,bOf,sOf,pOf,slLen,z04,cmpI,arI,Value.ite_bool,z01,z02,z00,z03,hk] at g
  ·simp [ev0,ev,evV,List.cons_append,List.nil_append,List.getD_cons_zero,List.getD_cons_succ,List.map_cons,List.map_nil,iOf,bOf,sOf,pOf,slLen,z04,cmpI,arI,Value.ite_bool,z01,z02,z00,z03,hk] at g
 refine ⟨fun g3=>?_,fun g3=>?_⟩
 ·simp only [ev0,ev,evV,List.cons_append,List.nil_append,List.getD_cons_zero,List.getD_cons_succ,List.map_cons,List.map_nil,iOf,bOf,sOf,pOf,slLen,z04,cmpI,arI,Value.ite_bool,z01,z02,z00,z03,zdt] at g3
  have hs:someN e.kind e.kids.length=1:=by unfold someN;rw [if_neg hk6,if_pos g3]
  have hk3:e.kids.length=3:=by
   unfold z0p at hform
   rw [if_neg (by omega)] at hform
   simp only [zba] at hform
   obtain ⟨_,hf⟩:=hform
   rw [if_neg (by omega),if_neg (by omega),if_pos g3] at hf
   simp only [zba,zdt] at hf
   exact hf.2
  refine z08 z9j (zky e 1 (fun a ha=>ih a ha) _ S K nr ub n es clock hT h hm he' hb hok hz (by omega)) ?_
  rintro x K2 h2
  have hn:(wrapX (Xps.nam U 1 e.kids n).2.1 (.mk e.kind e.name e.names e.const (Xps.nam U 1 e.kids n).1),(Xps.nam U 1 e.kids n).2.2)=e.nam U n:=by rw [Xp.nam_eq,hs]
  rw [hn] at h2
  obtain ⟨v,vs,rfl,ht,rfl,S',l,hh,hr,w0,w1,w2,w3,w4,w5,w6,w7,rfl⟩:=fin h2
  exact ⟨_,_,rfl,ht,rfl,z05,S',l,hh,_,rfl,hr⟩
 ·simp only [ev0,ev,evV,List.cons_append,List.nil_append,List.getD_cons_zero,List.getD_cons_succ,List.map_cons,List.map_nil,iOf,bOf,sOf,pOf,slLen,z04,cmpI,arI,Value.ite_bool,z01,z02,z00,z03,zdf] at g3
  have hs:someN e.kind e.kids.length=0:=zhp (by omega)
  have hkl:e.kids.length≤1048576:=by have:=Xps.size_len e.kids;have:=Xp.size_eq e;omega
  refine zqf (f:=z3u) (F:=#[pAt nr]) (C:=#[]) rfl (by kernel_rfl) (by kernel_rfl) ?_
  have hmap:Tri Tryz.prog zh9 #[.agg (exVs e nb db kb nc dc kc).toArray,.func (.func z3u) #[pAt nr] #[]] K fun x K'=>∃S' J',PH.le S S'∧Held S' K' J'∧J'=[nmB nr ub (mapS (fun n x=>Xp.nam U x n) n e.kids).2,nmM ub es clock]∧XRet S' (.mk e.kind e.name e.names e.const (mapS (fun n x=>Xp.nam U x n) n e.kids).1) x:=by
   refine zus (fun n x=>Xp.nam U x n) (fun n Js=>Js=[nmB nr ub n,nmM ub es clock]) n e _ S K _ (g:=z3u) (first:=#[pAt nr]) (caps:=#[]) z3i h rfl he' hkl ?_
   intro j k hj S' K' Js cs l' h' hJs hk
   subst hJs
   have hmem:=List.mem_of_getElem? hj
   have h1:=Xps.size_at hj
   have h2:=zho U hok' 0 n j
   rw [zde] at h' ⊢
   have hmul:=Nat.mul_le_mul_right (U.length+1) h1
   rw [Nat.add_mul] at hmul
   have hse:e.size * (U.length+1)=(U.length+1)+Xps.size e.kids * (U.length+1):=by rw [Xp.size_eq e,Nat.add_mul,Nat.one_mul]
   refine (ih k hmem cs S' K' nr ub _ es clock (hT.le l') h' hm hk (by dsimp only;omega) (hok' k hmem) (by have:=Xp.size_eq e;omega)).mono ?_
   rintro x K'' ⟨S'',q1,q2,q3⟩
   exact ⟨S'',_,q1,q2,rfl,q3⟩
  refine z08 zll hmap ?_
  rintro x K2 ⟨S2,J2,l2,h2,rfl,hr2⟩
  obtain ⟨anb,adb,akb,anc,adc,akc,rfl,r2⟩:=zoc hr2
  have ht:=Xp.Rep.tags r2
  refine ⟨_,_,rfl,ht,rfl,z05,S2,l2,?_,_,rfl,?_⟩
  ·rw [Xp.nam_eq,hs]
   rw [zde] at h2;exact h2
  ·rw [Xp.nam_eq,hs,Xps.nam_binds0]
   rw [zde] at r2
   rw [zde];exact r2
theorem zvx (e:Xp) (cs:List Value) (H:PH) (he:e.Rep H cs):Gives Tryz.prog z8t [.agg cs.toArray] H (.bool (badK e.kind)):=by
 obtain ⟨nb,db,kb,nc,dc,kc,rfl,hx⟩:=Xp.Rep.open he
 refine zog (exVs e nb db kb nc dc kc) (by kernel_rfl) (by kernel_rfl) ⟨?_,PH.le_refl _⟩
 simp only [ev0,ev,evV,List.cons_append,List.nil_append,List.getD_cons_zero,List.getD_cons_succ,List.map_cons,List.map_nil,iOf,bOf,sOf,pOf,slLen,z04,cmpI,arI,Value.ite_bool,z01,z02,z00,z03,badK]
theorem zwh:∀(e:Xp) (cs:List Value) (H:PH),e.Rep H cs→Gives Tryz.prog zvi [.agg cs.toArray,.func (.func z8t) #[] #[]] H (.bool (e.any badK)):=by
 refine Xp.ind fun e ih cs H he=>?_
 have he':=he
 obtain ⟨nb,db,kb,nc,dc,kc,rfl,hx⟩:=Xp.Rep.open he
 have hk:=hx.kids.max
 simp only [maxLen] at hk
 refine zr1 (exVs e nb db kb nc dc kc++[.func (.func z8t) #[] #[]]) (by kernel_rfl) (by kernel_rfl) ?_
 rw [Xp.any_eq]
 refine zpc (f:=z8t) (first:=#[]) (caps:=#[]) (by rfl) zq9 (zvx e _ H he') ?_
 rintro x H1 ⟨rfl,l1⟩
 refine ⟨_,[.bool (badK e.kind)],rfl,rfl,rfl,z05,?_⟩
 refine ⟨fun g=>?_,fun g=>?_⟩
 ·simp only [ev0,ev,evV,List.cons_append,List.nil_append,List.getD_cons_zero,List.getD_cons_succ,List.map_cons,List.map_nil,iOf,bOf,sOf,pOf,slLen,z04,cmpI,arI,Value.ite_bool,z01,z02,z00,z03] at g
  refine ⟨?_,l1⟩
  rw [g];rfl
 simp only [ev0,ev,evV,List.cons_append,List.nil_append,List.getD_cons_zero,List.getD_cons_succ,List.map_cons,List.map_nil,iOf,bOf,sOf,pOf,slLen,z04,cmpI,arI,Value.ite_bool,z01,z02,z00,z03] at g
 refine ⟨fun n vs H'=>∃k:Nat,vs=[.bool false,.int .i64 k]∧k+n=e.kids.length∧(badK e.kind || Xps.any badK e.kids)=Xps.any badK (e.kids.drop k)∧PH.le H H',⟨e.kids.length,0,rfl,by omega,by rw [g,List.drop_zero];rfl,l1⟩,?_⟩
 rintro n vs H2 _ ⟨k,rfl,hkn,hz,l2⟩
 refine ⟨fun g1=>?_,fun g1=>?_⟩
 ·simp only [ev0,ev,evV,List.cons_append,List.nil_append,List.getD_cons_zero,List.getD_cons_succ,List.map_cons,List.map_nil,iOf,bOf,sOf,pOf,slLen,z04,cmpI,arI,Value.ite_bool,z01,z02,z00,z03,zdt] at g1
  obtain ⟨a,ha⟩:∃a,e.kids[k]?=some a:=⟨_,zge (show k < e.kids.length by omega)⟩
  obtain ⟨q1,_,ces,g2,g3⟩:=(hx.kids.le l2).get ha
  have hmem:=List.mem_of_getElem? ha
  have htags:=Xp.Rep.tags g2
  have g2':=g2
  obtain ⟨nb',db',kb',nc',dc',kc',rfl,_⟩:=Xp.Rep.open g2'
  have hd:e.kids.drop k=a::e.kids.drop (k+1):=by
   obtain ⟨hl,hv⟩:=List.getElem?_eq_some_iff.1 ha
   rw [List.drop_eq_getElem_cons hl,hv]
  refine ⟨fun _=>?_,_,htags,by simp only [ev0,ev,evV,List.cons_append,List.nil_append,List.getD_cons_zero,List.getD_cons_succ,List.map_cons,List.map_nil,iOf,bOf,sOf,pOf,slLen,z04,cmpI,arI,Value.ite_bool,z01,z02,z00,z03];exact g3,?_⟩
  ·simp only [Chk.holds,ev0,ev,evV,List.cons_append,List.nil_append,List.getD_cons_zero,List.getD_cons_succ,List.map_cons,List.map_nil,iOf,bOf,sOf,pOf,slLen,z04,cmpI,arI,Value.ite_bool,z01,z02,z00,z03];exact ⟨q1,by omega,by omega⟩
  refine z07 [.bool (a.any badK)] zl7 (ih a hmem _ H2 g2) rfl z05 fun H3 l3=>⟨fun g4=>?_,fun g4=>?_⟩
  ·simp only [ev0,ev,evV,List.cons_append,List.nil_append,List.getD_cons_zero,List.getD_cons_succ,List.map_cons,List.map_nil,iOf,bOf,sOf,pOf,slLen,z04,cmpI,arI,Value.ite_bool,z01,z02,z00,z03] at g4
   refine ⟨?_,PH.le_trans l2 l3⟩
   rw [hz,hd];simp only [Xps.any,g4,Bool.true_or];rfl
  ·simp only [ev0,ev,evV,List.cons_append,List.nil_append,List.getD_cons_zero,List.getD_cons_succ,List.map_cons,List.map_nil,iOf,bOf,sOf,pOf,slLen,z04,cmpI,arI,Value.ite_bool,z01,z02,z00,z03] at g4
   refine ⟨_,z06,n - 1,by omega,k+1,?_,by omega,?_,PH.le_trans l2 l3⟩
   ·simp only [ev0,ev,evV,List.cons_append,List.nil_append,List.getD_cons_zero,List.getD_cons_succ,List.map_cons,List.map_nil,iOf,bOf,sOf,pOf,slLen,z04,cmpI,arI,Value.ite_bool,z01,z02,z00,z03];rw [w64 (by omega) (by omega)];rfl
   ·rw [hz,hd];simp only [Xps.any,g4,Bool.false_or]
 ·simp only [ev0,ev,evV,List.cons_append,List.nil_append,List.getD_cons_zero,List.getD_cons_succ,List.map_cons,List.map_nil,iOf,bOf,sOf,pOf,slLen,z04,cmpI,arI,Value.ite_bool,z01,z02,z00,z03,zdf] at g1
  refine ⟨?_,l2⟩
  rw [hz,List.drop_of_length_le (by omega)];rfl
def anfX (e:Xp):Xp×Int:=if (e.chk true 0 0).2≠0∨e.any badK=true then (exZ,100) else if ((namX e).chk true 0 0).2=0 then (namX e,0) else (exZ,101)
def NRet (e:Xp) (x:Ending) (S:PH):Prop:=∃es:List Value,es.length=8∧x=.returned (.tuple #[.agg es.toArray,.int .i64 (anfX e).2])∧(anfX e).1.Rep S es
theorem Z0w (S:PH):exZ.Rep S [.int .i64 0,txt [],.slice none 0 0,.int .i64 0,.int .i64 0,txt [],.slice none 0 0,.slice none 0 0]:=zme S
theorem zm6 {e:Xp} (h:(e.chk true 0 0).2≠0∨e.any badK=true):anfX e=(exZ,100):=by unfold anfX;rw [if_pos h]
theorem zkd {e:Xp} (h:¬((e.chk true 0 0).2≠0∨e.any badK=true)):anfX e=if ((namX e).chk true 0 0).2=0 then (namX e,0) else (exZ,101):=by unfold anfX;rw [if_neg h]
theorem zbt (e:Xp) (cs:List Value) (S:PH) (hT:Tab S) (he:e.Rep S cs):Tri Tryz.prog zw3 #[.agg cs.toArray] S fun x S'=>PH.le S S'∧NRet e x S':=by
 have he':=he
 obtain ⟨nb,db,kb,nc,dc,kc,rfl,hx⟩:=Xp.Rep.open he
 refine zr2 (exVs e nb db kb nc dc kc) (by kernel_rfl) (by kernel_rfl) ?_
 refine ⟨fun vs S'=>vs=[.bool (decide ((e.chk true 0 0).2≠0∨e.any badK=true))]∧PH.le S S',?_,?_⟩
 rotate_left
 ·refine z07 [.int .i64 (e.chk true 0 0).2] zif (zie e _ S he') rfl z05 fun H1 l1=>⟨fun g=>?_,fun g=>?_⟩
  ·simp only [ev0,ev,evV,List.cons_append,List.nil_append,List.getD_cons_zero,List.getD_cons_succ,List.map_cons,List.map_nil,iOf,bOf,sOf,pOf,slLen,z04,cmpI,arI,Value.ite_bool,z01,z02,z00,z03,ne_eq,decide_not,Bool.not_eq_true',zdf] at g
   exact ⟨_,z06,by simp [ev0,ev,evV,List.cons_append,List.nil_append,List.getD_cons_zero,List.getD_cons_succ,List.map_cons,List.map_nil,iOf,bOf,sOf,pOf,slLen,z04,cmpI,arI,Value.ite_bool,z01,z02,z00,z03,g],l1⟩
  ·simp only [ev0,ev,evV,List.cons_append,List.nil_append,List.getD_cons_zero,List.getD_cons_succ,List.map_cons,List.map_nil,iOf,bOf,sOf,pOf,slLen,z04,cmpI,arI,Value.ite_bool,z01,z02,z00,z03,ne_eq,decide_not,Bool.not_eq_false',zdt] at g
   refine z07 [.bool (e.any badK)] zl7 (zwh e _ H1 (Xp.Rep.le l1 e he')) rfl z05 fun H2 l2=>⟨_,z06,?_,PH.le_trans l1 l2⟩
   simp only [ev0,ev,evV,List.cons_append,List.nil_append,List.getD_cons_zero,List.getD_cons_succ,List.map_cons,List.map_nil,iOf,bOf,sOf,pOf,slLen,z04,cmpI,arI,Value.ite_bool,z01,z02,z00,z03]
   cases h:e.any badK<;>simp [g]
 rintro vs S1 _ ⟨rfl,l1⟩
 refine ⟨fun g=>?_,fun g=>?_⟩
 ·simp only [ev0,ev,evV,List.cons_append,List.nil_append,List.getD_cons_zero,List.getD_cons_succ,List.map_cons,List.map_nil,iOf,bOf,sOf,pOf,slLen,z04,cmpI,arI,Value.ite_bool,z01,z02,z00,z03,zdt] at g
  refine ⟨l1,_,rfl,?_,by rw [zm6 g];exact Z0w S1⟩
  rw [zm6 g];rfl
 simp only [ev0,ev,evV,List.cons_append,List.nil_append,List.getD_cons_zero,List.getD_cons_succ,List.map_cons,List.map_nil,iOf,bOf,sOf,pOf,slLen,z04,cmpI,arI,Value.ite_bool,z01,z02,z00,z03,zdf] at g
 have hc:(e.chk true 0 0).2=0:=Classical.byContradiction fun h=>g (.inl h)
 have hz:=zct hc
 have hok:=(Xp.chk_ok true e 0 0 hc).1
 have hbn:=z90 hc
 have hnl:=Z07 e
 have hmul:e.size * (e.note.length+1)≤4096 * 40000:=Nat.mul_le_mul hz (by omega)
 have he1:=exvLe l1 hx
 simp only [List.cons_append,List.nil_append]
 have h0:Held S1 S1 []:=Held.nil (PH.le_refl _)
 refine zu8 fun ub hub=>?_
 have h1:=h0.new hub (.map #[] 0)
 simp only [List.cons_append,List.nil_append]
 refine za4 (vs:=[.map (some ub),.int .i64 0]) h1 (by simp only [List.map_cons,List.map_nil,ev0,ev,evV,List.cons_append,List.nil_append,List.getD_cons_zero,List.getD_cons_succ,List.map_cons,List.map_nil,iOf,bOf,sOf,pOf,slLen,z04,cmpI,arI,Value.ite_bool,z01,z02,z00,z03]) fun nr K3 l3 h3=>?_
 simp only [List.cons_append,List.nil_append]
 have hnr:K3 nr=some (.cells #[.map (some ub),.int .i64 0] 46 (0,0)):=h3.blk (zms)
 have hub3:K3 ub=some (.map #[] 0):=h3.blk (zmm _ (zms))
 have hS1ub:S1 ub=none:=h3.off _ (zmm _ (zms)) ub rfl
 refine z08 za3 (zw7 e _ S1 K3 nr ub _ _ #[] 0 [] h3.sh hS1ub he1.rep hnr hub3 EntsR.empty) ?_
 rintro x K4 ⟨rfl,es4,clock4,rfl,m4⟩
 refine ⟨_,[],rfl,rfl,rfl,z05,?_⟩
 simp only [List.append_nil]
 have h4:Held S1 (K3.upd ub (.map es4 clock4)) [nmB nr ub 0,nmM ub es4 clock4]:=(h3.swap.put (.map es4 clock4)).swap
 have hNm:NmOk e.note es4 clock4:=⟨_,m4,fun s=>by
  rw [zpx]
  by_cases hs:s∈e.note
  ·rw [if_pos hs,if_pos hs];rfl
  ·rw [if_neg hs,if_neg hs];rfl⟩
 refine z08 z3i (zw5 e.note e _ S1 _ nr ub 0 es4 clock4 (hT.le l1) h4 hNm he1.rep (by omega) hok hz) ?_
 rintro x K5 ⟨S5,l5,h5,hq⟩
 obtain ⟨anb,adb,akb,anc,adc,akc,rfl,r5⟩:=zoc hq
 have ht5:=Xp.Rep.tags r5
 refine ⟨_,exVs (namX e) anb adb akb anc adc akc,rfl,ht5,rfl,z05,?_⟩
 simp only [List.cons_append,List.nil_append]
 refine z08 zr5 (h5.pure (zz1 (namX e) _ S5 r5)) ?_
 rintro x K6 ⟨S6,l6,h6,es6,hl6,rfl,r6⟩
 have hax:anfX e=if ((namX e).chk true 0 0).2=0 then (namX e,0) else (exZ,101):=zkd g
 have ha2:(anfX e).2=if ((namX e).chk true 0 0).2=0 then 0 else 101:=by rw [hax];split<;>rfl
 have ha1:(anfX e).1=if ((namX e).chk true 0 0).2=0 then namX e else exZ:=by rw [hax];split<;>rfl
 have r6':(anfX e).1.Rep S6 es6:=by rw [ha1];exact r6
 rw [←ha2]
 match es6,hl6 with
 | [w0,w1,w2,w3,w4,w5,w6,w7],_=>
  have ht6:=Xp.Rep.tags r6'
  refine ⟨_,[w0,w1,w2,w3,w4,w5,w6,w7,.int .i64 (anfX e).2],rfl,?_,rfl,z05,?_⟩
  ·have:=zb3 (us:=[.int .i64]) (F:=[.int .i64 (anfX e).2]) ht6 rfl
   exact this
  ·exact ⟨PH.le_trans l1 (PH.le_trans l5 (PH.le_trans l6 h6.sh)),[w0,w1,w2,w3,w4,w5,w6,w7],rfl,rfl,Xp.Rep.le h6.sh _ r6'⟩
theorem zol (e:Xp) (cs:List Value) (H:PH) (he:e.Rep H cs):Gives Tryz.prog zdx [.agg cs.toArray] H (.bool (simX e)):=by
 obtain ⟨nb,db,kb,nc,dc,kc,rfl,hx⟩:=Xp.Rep.open he
 refine zbz (exVs e nb db kb nc dc kc) (by kernel_rfl) (by kernel_rfl) ⟨?_,PH.le_refl _⟩
 unfold simX
 by_cases h0:e.kind=0<;>by_cases h1:e.kind=1<;>simp [ev0,ev,evV,List.cons_append,List.nil_append,List.getD_cons_zero,List.getD_cons_succ,List.map_cons,List.map_nil,iOf,bOf,sOf,pOf,slLen,z04,cmpI,arI,Value.ite_bool,z01,z02,z00,z03,h0,h1]
theorem ziu:∀(e:Xp) (cs:List Value) (H:PH),e.Rep H cs→Gives Tryz.prog zff [.agg cs.toArray] H (.bool e.namedB):=by
 refine Xp.ind fun e ih cs H he=>?_
 obtain ⟨nb,db,kb,nc,dc,kc,rfl,hx⟩:=Xp.Rep.open he
 have hk:=hx.kids.max
 simp only [maxLen] at hk
 refine zd9 (exVs e nb db kb nc dc kc) (by kernel_rfl) (by kernel_rfl) ?_
 rw [Xp.namedB_eq]
 obtain ⟨c,hc⟩:∃c,c=someN e.kind e.kids.length:=⟨_,rfl⟩
 rw [←hc]
 refine ⟨fun n vs H'=>∃k:Nat,vs=[.bool false,.int .i64 k]∧k+n=e.kids.length∧Xps.namedB c e.kids=Xps.namedB (c - k) (e.kids.drop k)∧PH.le H H',⟨e.kids.length,0,rfl,by omega,rfl,PH.le_refl _⟩,?_⟩
 rintro n vs H2 _ ⟨k,rfl,hkn,hz,l2⟩
 refine ⟨fun g1=>?_,fun g1=>?_⟩
 ·simp only [ev0,ev,evV,List.cons_append,List.nil_append,List.getD_cons_zero,List.getD_cons_succ,List.map_cons,List.map_nil,iOf,bOf,sOf,pOf,slLen,z04,cmpI,arI,Value.ite_bool,z01,z02,z00,z03,zdt] at g1
  obtain ⟨a,ha⟩:∃a,e.kids[k]?=some a:=⟨_,zge (show k < e.kids.length by omega)⟩
  obtain ⟨q1,_,ces,g2,g3⟩:=(hx.kids.le l2).get ha
  have hmem:=List.mem_of_getElem? ha
  have htags:=Xp.Rep.tags g2
  have g2':=g2
  obtain ⟨nb',db',kb',nc',dc',kc',rfl,_⟩:=Xp.Rep.open g2'
  have hd:e.kids.drop k=a::e.kids.drop (k+1):=by
   obtain ⟨hl,hv⟩:=List.getElem?_eq_some_iff.1 ha
   rw [List.drop_eq_getElem_cons hl,hv]
  have hst:Xps.namedB c e.kids=((decide (c - k=0) || simX a) && a.namedB && Xps.namedB (c - (k+1)) (e.kids.drop (k+1))):=by
   rw [hz,hd];simp only [Xps.namedB,Nat.sub_sub]
  have hmust:(c - k≠0)↔(e.kind=6∨e.kind=7)∨(e.kind=3∧k=0):=by
   rw [hc];unfold someN
   by_cases h6:e.kind=6∨e.kind=7
   ·rw [if_pos h6]
    constructor
    ·exact fun _=>.inl h6
    ·intro _;omega
   ·rw [if_neg h6]
    by_cases h3:e.kind=3
    ·rw [if_pos h3];constructor
     ·intro h;exact .inr ⟨h3,by omega⟩
     ·rintro (h | h)
      ·exact absurd h h6
      ·omega
    ·rw [if_neg h3];constructor
     ·intro h;omega
     ·rintro (h | h)
      ·exact absurd h h6
      ·exact absurd h.1 h3
  obtain ⟨ok,hok⟩:∃ok:Bool,ok=((decide (c - k=0) || simX a) && a.namedB):=⟨_,rfl⟩
  rw [←hok] at hst
  refine ⟨fun vs K=>vs=[.bool (!ok)]∧PH.le H K,?_,fun _=>?_,fun g4=>?_,fun g4=>?_⟩
  ·rintro vs K _ ⟨rfl,l3⟩
   refine ⟨fun g5=>?_,fun g5=>?_⟩
   ·simp only [ev0,ev,evV,List.cons_append,List.nil_append,List.getD_cons_zero,List.getD_cons_succ,List.map_cons,List.map_nil,iOf,bOf,sOf,pOf,slLen,z04,cmpI,arI,Value.ite_bool,z01,z02,z00,z03,Bool.not_eq_true'] at g5
    refine ⟨?_,l3⟩
    rw [hst,g5];rfl
   ·simp only [ev0,ev,evV,List.cons_append,List.nil_append,List.getD_cons_zero,List.getD_cons_succ,List.map_cons,List.map_nil,iOf,bOf,sOf,pOf,slLen,z04,cmpI,arI,Value.ite_bool,z01,z02,z00,z03,Bool.not_eq_false'] at g5
    refine ⟨_,z06,n - 1,by omega,k+1,?_,by omega,?_,l3⟩
    ·simp only [ev0,ev,evV,List.cons_append,List.nil_append,List.getD_cons_zero,List.getD_cons_succ,List.map_cons,List.map_nil,iOf,bOf,sOf,pOf,slLen,z04,cmpI,arI,Value.ite_bool,z01,z02,z00,z03];rw [w64 (by omega) (by omega)];rfl
    ·rw [hst,g5,Bool.true_and]
  ·simp only [Chk.holds,ev0,ev,evV,List.cons_append,List.nil_append,List.getD_cons_zero,List.getD_cons_succ,List.map_cons,List.map_nil,iOf,bOf,sOf,pOf,slLen,z04,cmpI,arI,Value.ite_bool,z01,z02,z00,z03];exact ⟨q1,by omega,by omega⟩
  ·have hmt:c - k≠0:=by
    rw [hmust]
    simp [ev0,ev,evV,List.cons_append,List.nil_append,List.getD_cons_zero,List.getD_cons_succ,List.map_cons,List.map_nil,iOf,bOf,sOf,pOf,slLen,z04,cmpI,arI,Value.ite_bool,z01,z02,z00,z03] at g4
    omega
   have hok2:ok=(simX a && a.namedB):=by rw [hok,decide_eq_false hmt,Bool.false_or]
   refine ⟨_,htags,by simp only [ev0,ev,evV,List.cons_append,List.nil_append,List.getD_cons_zero,List.getD_cons_succ,List.map_cons,List.map_nil,iOf,bOf,sOf,pOf,slLen,z04,cmpI,arI,Value.ite_bool,z01,z02,z00,z03];exact g3,?_⟩
   simp only [List.cons_append,List.nil_append]
   refine z07 [.bool (simX a)] zcw (zol a _ H2 g2) rfl z05 fun H3 l3=>?_
   refine ⟨fun _=>?_,fun g5=>?_,fun g5=>?_⟩
   ·simp only [Chk.holds,ev0,ev,evV,List.cons_append,List.nil_append,List.getD_cons_zero,List.getD_cons_succ,List.map_cons,List.map_nil,iOf,bOf,sOf,pOf,slLen,z04,cmpI,arI,Value.ite_bool,z01,z02,z00,z03];exact ⟨q1,by omega,by omega⟩
   ·simp only [ev0,ev,evV,List.cons_append,List.nil_append,List.getD_cons_zero,List.getD_cons_succ,List.map_cons,List.map_nil,iOf,bOf,sOf,pOf,slLen,z04,cmpI,arI,Value.ite_bool,z01,z02,z00,z03,Bool.not_eq_true'] at g5
    refine ⟨_,z06,?_,PH.le_trans l2 l3⟩
    rw [hok2,g5];rfl
   ·simp only [ev0,ev,evV,List.cons_append,List.nil_append,List.getD_cons_zero,List.getD_cons_succ,List.map_cons,List.map_nil,iOf,bOf,sOf,pOf,slLen,z04,cmpI,arI,Value.ite_bool,z01,z02,z00,z03,Bool.not_eq_false'] at g5
    refine ⟨_,htags,by simp only [ev0,ev,evV,List.cons_append,List.nil_append,List.getD_cons_zero,List.getD_cons_succ,List.map_cons,List.map_nil,iOf,bOf,sOf,pOf,slLen,z04,cmpI,arI,Value.ite_bool,z01,z02,z00,z03];exact z0b l3 g3,?_⟩
    simp only [List.cons_append,List.nil_append]
    refine z07 [.bool a.namedB] z27 (ih a hmem _ H3 (Xp.Rep.le l3 a g2)) rfl z05 fun H4 l4=>⟨_,z06,?_,PH.le_trans l2 (PH.le_trans l3 l4)⟩
    rw [hok2,g5];simp only [ev0,ev,evV,List.cons_append,List.nil_append,List.getD_cons_zero,List.getD_cons_succ,List.map_cons,List.map_nil,iOf,bOf,sOf,pOf,slLen,z04,cmpI,arI,Value.ite_bool,z01,z02,z00,z03,Bool.true_and]
  ·have hmt:c - k=0:=by
    refine Classical.byContradiction fun h=>?_
    have:=hmust.1 h
    simp [ev0,ev,evV,List.cons_append,List.nil_append,List.getD_cons_zero,List.getD_cons_succ,List.map_cons,List.map_nil,iOf,bOf,sOf,pOf,slLen,z04,cmpI,arI,Value.ite_bool,z01,z02,z00,z03] at g4
    omega
   have hok2:ok=a.namedB:=by rw [hok,decide_eq_true hmt,Bool.true_or,Bool.true_and]
   refine ⟨fun _=>?_,_,htags,by simp only [ev0,ev,evV,List.cons_append,List.nil_append,List.getD_cons_zero,List.getD_cons_succ,List.map_cons,List.map_nil,iOf,bOf,sOf,pOf,slLen,z04,cmpI,arI,Value.ite_bool,z01,z02,z00,z03];exact g3,?_⟩
   ·simp only [Chk.holds,ev0,ev,evV,List.cons_append,List.nil_append,List.getD_cons_zero,List.getD_cons_succ,List.map_cons,List.map_nil,iOf,bOf,sOf,pOf,slLen,z04,cmpI,arI,Value.ite_bool,z01,z02,z00,z03];exact ⟨q1,by omega,by omega⟩
   simp only [List.cons_append,List.nil_append]
   refine z07 [.bool a.namedB] z27 (ih a hmem _ H2 g2) rfl z05 fun H4 l4=>⟨_,z06,?_,PH.le_trans l2 l4⟩
   rw [hok2];simp only [ev0,ev,evV,List.cons_append,List.nil_append,List.getD_cons_zero,List.getD_cons_succ,List.map_cons,List.map_nil,iOf,bOf,sOf,pOf,slLen,z04,cmpI,arI,Value.ite_bool,z01,z02,z00,z03]
 ·simp only [ev0,ev,evV,List.cons_append,List.nil_append,List.getD_cons_zero,List.getD_cons_succ,List.map_cons,List.map_nil,iOf,bOf,sOf,pOf,slLen,z04,cmpI,arI,Value.ite_bool,z01,z02,z00,z03,zdf] at g1
  refine ⟨?_,l2⟩
  rw [hz,List.drop_of_length_le (by omega)];rfl
theorem zrr (e:Xp) (cs:List Value) (H:PH) (he:e.Rep H cs) (hc:(e.chk false 0 0).2=0) (hfr:e.fr []=[]) (v:Value) (hv:∃b n c,v=.slice b n c):Gives Tryz.prog ze7 [.agg cs.toArray,v] H (.agg cs.toArray):=by
 have he':=he
 obtain ⟨nb,db,kb,nc,dc,kc,rfl,hx⟩:=Xp.Rep.open he
 obtain ⟨vb,vn,vc,rfl⟩:=hv
 have hb:=z90 hc
 have hz:=zct hc
 refine zbm (exVs e nb db kb nc dc kc++[.slice vb vn vc]) (by kernel_rfl) (by kernel_rfl) ?_
 simp only [List.cons_append,List.nil_append]
 refine z08 z3m (zk0 e _ H he' (by omega) (by omega)) ?_
 rintro x H2 ⟨l2,v,rfl,hv⟩
 have h0:=(zia (e.fr [])).2 hfr
 obtain ⟨b,c,rfl⟩:=hv.sl
 refine ⟨_,[.slice b (freeS (e.fr [])).length c],rfl,rfl,rfl,z05,fun _=>?_,fun g=>?_⟩
 ·exact ⟨rfl,l2⟩
 ·simp [ev0,ev,evV,List.cons_append,List.nil_append,List.getD_cons_zero,List.getD_cons_succ,List.map_cons,List.map_nil,iOf,bOf,sOf,pOf,slLen,z04,cmpI,arI,Value.ite_bool,z01,z02,z00,z03,h0] at g
def Z1k (p q:OutX):Prop:=p.err=q.err∧p.out=q.out∧p.whole=q.whole∧p.shown=q.shown
theorem zxa {H:PH} {o:OutX} {cs:List Value} (h:o.Rep H cs):∃b c,cs=[.int .i64 o.err,txt o.out,.int .i64 o.shown.kind,.int .i64 o.shown.int,txt o.shown.text,.slice b o.shown.list.length c,.bool o.whole,nI o.steps]:=by
 obtain ⟨ds,rfl,hd⟩:=h
 obtain ⟨sv,rfl,_,_,_,hs⟩:=Dat.Rep_iff.1 hd
 obtain ⟨b1,c1,rfl⟩:=hs.sl
 exact ⟨b1,c1,rfl⟩
theorem Z1n {H H':PH} (l:PH.le H H') {o:OutX} {cs:List Value} (h:o.Rep H cs):o.Rep H' cs:=by
 obtain ⟨ds,rfl,hd⟩:=h
 exact ⟨ds,rfl,Dat.Rep.le l _ hd⟩
theorem ztn (a b:Xp) (ca cb:List Value) (H:PH) (ha:a.Rep H ca) (hb:b.Rep H cb) (hc:(a.chk false 0 0).2=0) (hfr:a.fr []=[]) (input:List UInt8) (N:Nat) (p:OutX) (hp:runA N a input 1500=some p) (hpe:InI p.err) (hps:p.steps≤1500)
  (hq:p.err=93∨p.err=94∨∃M q,runA M b input ((4 * p.steps+4:Nat):Int)=some q∧Z1k p q) :
  Gives Tryz.prog zez [.agg ca.toArray,.agg cb.toArray,.slice none 0 0,txt input,.int .i64 4,.int .i64 4] H (.bool true):=by
 have ha':=ha
 have hb':=hb
 obtain ⟨nb,db,kb,nc,dc,kc,rfl,hx⟩:=Xp.Rep.open ha
 obtain ⟨mb,eb,jb,mc,ec,jc,rfl,hy⟩:=Xp.Rep.open hb
 have hbn:=z90 hc
 have hz:=zct hc
 refine zdn (exVs a nb db kb nc dc kc++exVs b mb eb jb mc ec jc++[.slice none 0 0,txt input,.int .i64 4,.int .i64 4]) (by kernel_rfl) (by kernel_rfl) ?_
 simp only [List.cons_append,List.nil_append]
 refine z07 (exVs a nb db kb nc dc kc) zdm (zrr a _ H ha' hc hfr (.slice none 0 0) ⟨_,_,_,rfl⟩) rfl z05 fun H1 l1=>?_
 simp only [List.cons_append,List.nil_append]
 refine ⟨fun vs H'=>vs=exVs b mb eb jb mc ec jc∧PH.le H H',?_,?_⟩
 rotate_left
 ·refine z08 z3m (zk0 a _ H1 (Xp.Rep.le l1 a ha') (by omega) (by omega)) ?_
  rintro x H2 ⟨l2,v,rfl,hv⟩
  have h0:=(zia (a.fr [])).2 hfr
  obtain ⟨b5,c5,rfl⟩:=hv.sl
  refine ⟨_,[.slice b5 (freeS (a.fr [])).length c5],rfl,rfl,rfl,z05,fun g=>?_,fun g=>?_⟩
  ·simp [ev0,ev,evV,List.cons_append,List.nil_append,List.getD_cons_zero,List.getD_cons_succ,List.map_cons,List.map_nil,iOf,bOf,sOf,pOf,slLen,z04,cmpI,arI,Value.ite_bool,z01,z02,z00,z03,h0] at g
  ·exact ⟨_,z06,by simp only [ev0,ev,evV,List.cons_append,List.nil_append,List.getD_cons_zero,List.getD_cons_succ,List.map_cons,List.map_nil,iOf,bOf,sOf,pOf,slLen,z04,cmpI,arI,Value.ite_bool,z01,z02,z00,z03],PH.le_trans l1 l2⟩
 rintro vs H2 _ ⟨rfl,l2⟩
 simp only [List.cons_append,List.nil_append]
 refine z08 z7q (zsq N a _ input 1500 H2 (Xp.Rep.le l2 a ha') (by decide) p hp) ?_
 rintro x H3 ⟨l3,cs3,rfl,h3⟩
 have h3':=h3
 obtain ⟨b3,c3,rfl⟩:=zxa h3'
 refine ⟨_,[.int .i64 p.err,txt p.out,.int .i64 p.shown.kind,.int .i64 p.shown.int,txt p.shown.text,.slice b3 p.shown.list.length c3,.bool p.whole,nI p.steps],rfl,rfl,rfl,z05,fun g=>?_,fun g=>?_⟩
 ·exact ⟨rfl,PH.le_trans l2 l3⟩
 simp only [List.cons_append,List.nil_append]
 have g':¬(p.err=93∨p.err=94):=by
  rintro (h | h)<;>simp [ev0,ev,evV,List.cons_append,List.nil_append,List.getD_cons_zero,List.getD_cons_succ,List.map_cons,List.map_nil,iOf,bOf,sOf,pOf,slLen,z04,cmpI,arI,Value.ite_bool,z01,z02,z00,z03,h] at g
 rcases hq with hq | hq | ⟨M,q,hq,hal⟩
 ·exact absurd (.inl hq) g'
 ·exact absurd (.inr hq) g'
 have hw1:IntKind.i64.wrap (4 * (p.steps:Int))=((4 * p.steps:Nat):Int):=by rw [w64 (by omega) (by omega)];omega
 have hw2:IntKind.i64.wrap (((4 * p.steps:Nat):Int)+4)=((4 * p.steps+4:Nat):Int):=by rw [w64 (by omega) (by omega)];omega
 have hrun:=zsq M b _ input ((4 * p.steps+4:Nat):Int) H3 (Xp.Rep.le (PH.le_trans l2 l3) b hb') (by unfold InI;omega) q hq
 rw [←hw2,←hw1] at hrun
 refine z08 z7q hrun ?_
 rintro x H4 ⟨l4,cs4,rfl,h4⟩
 have h4':=h4
 obtain ⟨b4,c4,rfl⟩:=zxa h4'
 refine ⟨_,[.int .i64 q.err,txt q.out,.int .i64 q.shown.kind,.int .i64 q.shown.int,txt q.shown.text,.slice b4 q.shown.list.length c4,.bool q.whole,nI q.steps],rfl,rfl,rfl,z05,?_⟩
 simp only [List.cons_append,List.nil_append]
 refine z07 [.bool true] zea (zty p q _ _ H4 (Z1n l4 h3) h4 hal) rfl z05 fun H5 l5=>?_
 exact ⟨rfl,PH.le_trans l2 (PH.le_trans l3 (PH.le_trans l4 l5))⟩
def numE (k:Int):Xp:=.mk 0 [] [] (.mk 1 k [] []) []
def prmE (p:List UInt8) (l:List Xp):Xp:=.mk 7 p [] dat0 l
def mulE:Xp:=prmE [42] [numE 2,numE 3]
def fxE3:Xp:=prmE [43] [numE 1,mulE]
def fxN3:Xp:=letX [110,46,48] mulE (prmE [43] [numE 1,refX [110,46,48]])
def setE3:Xp:=.mk 2 [120] [] dat0 [numE 1]
theorem Z17:anfX fxE3=(fxN3,0):=by kernel_rfl
theorem Z0j:anfX setE3=(exZ,100):=by kernel_rfl
theorem zy3:fxN3.namedB=true:=by kernel_rfl
theorem Z0p:(fxE3.chk false 0 0).2=0:=by kernel_rfl
theorem Z1i:fxE3.fr []=[]:=by kernel_rfl
theorem Z0c:runA 40 fxE3 [] 1500=some ⟨0,[],.mk 1 7 [] [],true,5⟩:=by kernel_rfl
theorem Z03:runA 40 fxN3 [] 24=some ⟨0,[],.mk 1 7 [] [],true,7⟩:=by kernel_rfl
theorem z9z (k:Int) (H:PH):Gives Tryz.prog zhc [.int .i64 k] H (.agg #[.int .i64 0,txt [],.slice none 0 0,.int .i64 1,.int .i64 k,txt [],.slice none 0 0,.slice none 0 0]):=
 zfd [.int .i64 k] (by kernel_rfl) (by kernel_rfl) ⟨rfl,PH.le_refl _⟩
theorem zjt (p:List UInt8) (b:Option Addr) (n c:Nat) (H:PH):Gives Tryz.prog zgo [txt p,.slice b n c] H (.agg #[.int .i64 7,txt p,.slice none 0 0,.int .i64 0,.int .i64 0,txt [],.slice none 0 0,.slice b n c]):=
 ze5 [txt p,.slice b n c] (by kernel_rfl) (by kernel_rfl) ⟨rfl,PH.le_refl _⟩
theorem zhe {S:PH} {k:Int} (h:InI k):(numE k).Rep S [.int .i64 0,txt [],.slice none 0 0,.int .i64 1,.int .i64 k,txt [],.slice none 0 0,.slice none 0 0]:=
 Xp.Rep_iff.2 ⟨.slice none 0 0,.slice none 0 0,.slice none 0 0,rfl,(show InI 0 by decide),by simp [numE,Xp.name],SlR.mk_iff.2 ⟨Nat.zero_le _,.inl ⟨rfl,rfl⟩⟩,z2t (k:=1) (n:=k) (t:=[]) (by decide) h (by decide),SlR.mk_iff.2 ⟨Nat.zero_le _,.inl ⟨rfl,rfl⟩⟩⟩
theorem zre {S:PH} {p:List UInt8} {l:List Xp} {v:Value} (hp:p.length≤maxLen) (h:SlR S l v):(prmE p l).Rep S [.int .i64 7,txt p,.slice none 0 0,.int .i64 0,.int .i64 0,txt [],.slice none 0 0,v]:=
 Xp.Rep_iff.2 ⟨.slice none 0 0,.slice none 0 0,v,rfl,(show InI 7 by decide),hp,SlR.mk_iff.2 ⟨Nat.zero_le _,.inl ⟨rfl,rfl⟩⟩,z2t (k:=0) (n:=0) (t:=[]) (by decide) (by decide) (by decide),h⟩
theorem zjf {X:List PanicEntry→PH→Prop} {β:Type} {E:List Value} {H S:PH} {L:LK} {K:β→List Value→PH→LK→Prop} {ty:TypeId} {n:Nat} {ps:Array (Nat×Operand)} {args:List (Nat×VE)} {k:Fm β} {l:List Xp} (vs:List Value) (hS:PH.le S H) (hn:l.length=n) (h0:0 < n) (hle:n≤8)
  (hps:ps.toList.map (fun x=>(x.1,argEv E args x.2))=idxs 0 vs) (hvs:All2 (fun a v=>CsR S a v.cells.toList) l vs)
  (hk:∀S' H' b c,PH.le S S'→PH.le S' H'→PH.le H H'→SlR S' l (.slice b n c)→den Tryz.prog X k (E++[.slice b n c]) H' L K):den Tryz.prog X (.sem (.buildSlice 26 n ps) ty args (.sc .sl) [] k) E H L K:=by
 have h8:sz Xp=8:=rfl
 refine zm2 (α:=Xp) (b:=128) vs z2a z1h hn (by rw [h8];omega) (by rw [h8];omega) (Held.nil hS) hps hvs z05 fun v H' h l _=>?_
 obtain ⟨S',h1,h2,h3⟩:=h.freeze
 obtain ⟨b,c,rfl⟩:=h1.sl
 rw [hn] at h1 ⊢
 exact hk S' H' b c h2 h3.sh l h1
theorem zig (H:PH) (hT:Tab H):Gives Tryz.prog zfs [] H (.bool true):=by
 refine zcm [] (by kernel_rfl) (by kernel_rfl) ?_
 have N:List Value:=[]
 refine z07 [.int .i64 0,txt [],.slice none 0 0,.int .i64 1,.int .i64 1,txt [],.slice none 0 0,.slice none 0 0] z2l (z9z 1 H) rfl z05 fun H1 l1=>?_
 refine z07 [.int .i64 0,txt [],.slice none 0 0,.int .i64 1,.int .i64 2,txt [],.slice none 0 0,.slice none 0 0] z2l (z9z 2 H1) rfl z05 fun H2 l2=>?_
 refine z07 [.int .i64 0,txt [],.slice none 0 0,.int .i64 1,.int .i64 3,txt [],.slice none 0 0,.slice none 0 0] z2l (z9z 3 H2) rfl z05 fun H3 l3=>?_
 simp only [List.cons_append,List.nil_append]
 refine zjf (S:=H3) (l:=[numE 2,numE 3]) [.agg #[.int .i64 0,txt [],.slice none 0 0,.int .i64 1,.int .i64 2,txt [],.slice none 0 0,.slice none 0 0],.agg #[.int .i64 0,txt [],.slice none 0 0,.int .i64 1,.int .i64 3,txt [],.slice none 0 0,.slice none 0 0]] (PH.le_refl _) rfl (by omega) (by omega) (by kernel_rfl) (.cons (zhe (by decide)) (.cons (zhe (by decide)) .nil)) fun S4 H4 b4 c4 l34 l4 l34' s4=>?_
 refine z07 [.int .i64 7,txt [42],.slice none 0 0,.int .i64 0,.int .i64 0,txt [],.slice none 0 0,.slice b4 2 c4] z73 (zjt [42] b4 2 c4 H4) rfl z05 fun H5 l5=>?_
 simp only [List.cons_append,List.nil_append]
 have r5:mulE.Rep H5 [.int .i64 7,txt [42],.slice none 0 0,.int .i64 0,.int .i64 0,txt [],.slice none 0 0,.slice b4 2 c4]:=zre (by decide) (s4.le (PH.le_trans l4 l5))
 refine zjf (S:=H5) (l:=[numE 1,mulE]) [.agg #[.int .i64 0,txt [],.slice none 0 0,.int .i64 1,.int .i64 1,txt [],.slice none 0 0,.slice none 0 0],.agg #[.int .i64 7,txt [42],.slice none 0 0,.int .i64 0,.int .i64 0,txt [],.slice none 0 0,.slice b4 2 c4]] (PH.le_refl _) rfl (by omega) (by omega) (by kernel_rfl) (.cons (zhe (by decide)) (.cons r5 .nil)) fun S6 H6 b6 c6 l56 l6 l56' s6=>?_
 refine z07 [.int .i64 7,txt [43],.slice none 0 0,.int .i64 0,.int .i64 0,txt [],.slice none 0 0,.slice b6 2 c6] z73 (zjt [43] b6 2 c6 H6) rfl z05 fun H7 l7=>?_
 simp only [List.cons_append,List.nil_append]
 have r7:fxE3.Rep H7 [.int .i64 7,txt [43],.slice none 0 0,.int .i64 0,.int .i64 0,txt [],.slice none 0 0,.slice b6 2 c6]:=zre (by decide) (s6.le (PH.le_trans l6 l7))
 have l07:PH.le H H7:=PH.le_trans l1 (PH.le_trans l2 (PH.le_trans l3 (PH.le_trans l34' (PH.le_trans l5 (PH.le_trans l56' l7)))))
 refine z08 z9x (zbt fxE3 _ H7 (hT.le l07) r7) ?_
 rintro x H8 ⟨l8,es8,hl8,rfl,r8⟩
 rw [Z17] at r8 ⊢
 have r8':=r8
 obtain ⟨anb,adb,akb,anc,adc,akc,rfl,_⟩:=Xp.Rep.open r8'
 refine ⟨_,exVs fxN3 anb adb akb anc adc akc++[.int .i64 0],rfl,rfl,rfl,z05,?_⟩
 simp only [List.cons_append,List.nil_append]
 refine z07 [.int .i64 0,txt [],.slice none 0 0,.int .i64 1,.int .i64 1,txt [],.slice none 0 0,.slice none 0 0] z2l (z9z 1 H8) rfl z05 fun H9 l9=>?_
 simp only [List.cons_append,List.nil_append]
 refine zjf (S:=H9) (l:=[numE 1]) [.agg #[.int .i64 0,txt [],.slice none 0 0,.int .i64 1,.int .i64 1,txt [],.slice none 0 0,.slice none 0 0]] (PH.le_refl _) rfl (by omega) (by omega) (by kernel_rfl) (.cons (zhe (by decide)) .nil) fun S10 H10 b10 c10 l910 l10 l910' s10=>?_
 simp only [List.cons_append,List.nil_append]
 have r10:setE3.Rep H10 [.int .i64 2,txt [120],.slice none 0 0,.int .i64 0,.int .i64 0,txt [],.slice none 0 0,.slice b10 1 c10]:=
  Xp.Rep_iff.2 ⟨.slice none 0 0,.slice none 0 0,_,rfl,(show InI 2 by decide),by simp [setE3,Xp.name,maxLen],SlR.mk_iff.2 ⟨Nat.zero_le _,.inl ⟨rfl,rfl⟩⟩,z2t (k:=0) (n:=0) (t:=[]) (by decide) (by decide) (by decide),s10.le l10⟩
 have l010:PH.le H H10:=PH.le_trans l07 (PH.le_trans l8 (PH.le_trans l9 l910'))
 refine z08 z9x (zbt setE3 _ H10 (hT.le l010) r10) ?_
 rintro x H11 ⟨l11,es11,hl11,rfl,r11⟩
 rw [Z0j] at r11 ⊢
 have r11':=r11
 obtain ⟨bnb,bdb,bkb,bnc,bdc,bkc,rfl,_⟩:=Xp.Rep.open r11'
 refine ⟨_,exVs exZ bnb bdb bkb bnc bdc bkc++[.int .i64 100],rfl,rfl,rfl,z05,?_⟩
 simp only [List.cons_append,List.nil_append]
 have l811:PH.le H8 H11:=PH.le_trans l9 (PH.le_trans l910' l11)
 refine ⟨fun vs K=>vs=[.bool true]∧PH.le H K,?_,fun _=>?_,fun g=>by simp [ev0,ev,evV,List.cons_append,List.nil_append,List.getD_cons_zero,List.getD_cons_succ,List.map_cons,List.map_nil,iOf,bOf,sOf,pOf,slLen,z04,cmpI,arI,Value.ite_bool,z01,z02,z00,z03] at g⟩
 ·rintro vs K _ ⟨rfl,l⟩;exact ⟨rfl,l⟩
 refine z07 [.bool true] z27 (zy3 ▸ ziu fxN3 _ H11 (Xp.Rep.le l811 _ r8)) rfl z05 fun H12 l12=>⟨fun _=>?_,fun g=>by simp [ev0,ev,evV,List.cons_append,List.nil_append,List.getD_cons_zero,List.getD_cons_succ,List.map_cons,List.map_nil,iOf,bOf,sOf,pOf,slLen,z04,cmpI,arI,Value.ite_bool,z01,z02,z00,z03] at g⟩
 simp only [List.cons_append,List.nil_append]
 have l812:=PH.le_trans l811 l12
 refine z07 [.bool true] zef (ztn fxE3 fxN3 _ _ H12 (Xp.Rep.le (PH.le_trans l8 l812) _ r7) (Xp.Rep.le l812 _ r8) Z0p Z1i [] 40 _ Z0c (by decide) (by decide) (.inr (.inr ⟨40,_,Z03,rfl,rfl,rfl,rfl⟩))) rfl z05 fun H13 l13=>?_
 exact ⟨_,z06,by simp [ev0,ev,evV,List.cons_append,List.nil_append,List.getD_cons_zero,List.getD_cons_succ,List.map_cons,List.map_nil,iOf,bOf,sOf,pOf,slLen,z04,cmpI,arI,Value.ite_bool,z01,z02,z00,z03],PH.le_trans l010 (PH.le_trans l11 (PH.le_trans l12 l13))⟩
theorem zp4 (e:Xp) (cs:List Value) (H:PH) (he:e.Rep H cs) (hT:Tab H):Gives Tryz.prog zaj [.agg cs.toArray] H (.bool true):=by
 have he':=he
 obtain ⟨nb,db,kb,nc,dc,kc,rfl,hx⟩:=Xp.Rep.open he
 refine z9f (exVs e nb db kb nc dc kc) (by kernel_rfl) (by kernel_rfl) ?_
 refine z08 z9x (zbt e _ H hT he') ?_
 rintro x H1 ⟨l1,es1,hl1,rfl,r1⟩
 have r1':=r1
 obtain ⟨mb,eb,jb,mc,ec,jc,rfl,_⟩:=Xp.Rep.open r1'
 refine ⟨_,exVs (anfX e).1 mb eb jb mc ec jc++[.int .i64 (anfX e).2],rfl,rfl,rfl,z05,?_⟩
 simp only [List.cons_append,List.nil_append]
 refine z07 [.bool true] z5p (zig H1 (hT.le l1)) rfl z05 fun H2 l2=>⟨fun g=>?_,fun g=>?_⟩
 ·refine z07 [.bool true] z5p (zig H2 (hT.le (PH.le_trans l1 l2))) rfl z05 fun H3 l3=>?_
  exact ⟨rfl,PH.le_trans l1 (PH.le_trans l2 l3)⟩
 have h0:(anfX e).2=0:=by simpa [ev0,ev,evV,List.cons_append,List.nil_append,List.getD_cons_zero,List.getD_cons_succ,List.map_cons,List.map_nil,iOf,bOf,sOf,pOf,slLen,z04,cmpI,arI,Value.ite_bool,z01,z02,z00,z03] using g
 have hgood:¬((e.chk true 0 0).2≠0∨e.any badK=true):=fun h=>by rw [zm6 h] at h0;exact absurd h0 (by decide)
 have hax:=zkd hgood
 have hcT:(e.chk true 0 0).2=0:=Classical.byContradiction fun h=>hgood (.inl h)
 have hany:e.any badK=false:=Bool.eq_false_iff.2 fun h=>hgood (.inr h)
 have hok:((namX e).chk true 0 0).2=0:=Classical.byContradiction fun h=>by rw [hax,if_neg h] at h0;exact absurd h0 (by decide)
 rw [if_pos hok] at hax
 have h1:(anfX e).1=namX e:=by rw [hax]
 have l12:=PH.le_trans l1 l2
 simp only [List.cons_append,List.nil_append]
 rw [h1] at r1 ⊢
 have hnn:=zwx hcT
 have hag:anfX (namX e)=(namX e,0):=by
  have hb:¬(((namX e).chk true 0 0).2≠0∨(namX e).any badK=true):=by
   rintro (h | h)
   ·exact h hok
   ·rw [Z10 hany] at h;cases h
  rw [zkd hb,zpg hnn,if_pos hok]
 refine ⟨fun vs H'=>vs=[.bool false]∧PH.le H2 H',?_,?_⟩
 rotate_left
 ·refine z07 [.bool e.namedB] z27 (ziu e _ H2 (Xp.Rep.le l12 e he')) rfl z05 fun H3 l3=>⟨fun g2=>?_,fun g2=>?_⟩
  ·simp only [ev0,ev,evV,List.cons_append,List.nil_append,List.getD_cons_zero,List.getD_cons_succ,List.map_cons,List.map_nil,iOf,bOf,sOf,pOf,slLen,z04,cmpI,arI,Value.ite_bool,z01,z02,z00,z03] at g2
   simp only [List.cons_append,List.nil_append]
   refine z07 [.bool (decide (namX e=e))] z3n (zln (namX e) e _ _ H3 (Xp.Rep.le (PH.le_trans l2 l3) _ r1) (Xp.Rep.le (PH.le_trans l12 l3) e he')) rfl z05 fun H4 l4=>⟨_,z06,?_,PH.le_trans l3 l4⟩
   simp [ev0,ev,evV,List.cons_append,List.nil_append,List.getD_cons_zero,List.getD_cons_succ,List.map_cons,List.map_nil,iOf,bOf,sOf,pOf,slLen,z04,cmpI,arI,Value.ite_bool,z01,z02,z00,z03,zpg g2]
  ·exact ⟨_,z06,by simp only [ev0,ev,evV,List.cons_append,List.nil_append,List.getD_cons_zero,List.getD_cons_succ,List.map_cons,List.map_nil,iOf,bOf,sOf,pOf,slLen,z04,cmpI,arI,Value.ite_bool,z01,z02,z00,z03],l3⟩
 rintro vs H3 _ ⟨rfl,l3⟩
 refine ⟨fun g2=>by simp [ev0,ev,evV,List.cons_append,List.nil_append,List.getD_cons_zero,List.getD_cons_succ,List.map_cons,List.map_nil,iOf,bOf,sOf,pOf,slLen,z04,cmpI,arI,Value.ite_bool,z01,z02,z00,z03] at g2,fun _=>?_⟩
 have l13:=PH.le_trans l12 l3
 simp only [List.cons_append,List.nil_append]
 refine z08 z9x (zbt (namX e) _ H3 (hT.le l13) (Xp.Rep.le (PH.le_trans l2 l3) _ r1)) ?_
 rintro x H4 ⟨l4,es4,hl4,rfl,r4⟩
 rw [hag] at r4 ⊢
 have r4':=r4
 obtain ⟨pb,qb,ub,pc,qc,uc,rfl,_⟩:=Xp.Rep.open r4'
 refine ⟨_,exVs (namX e) pb qb ub pc qc uc++[.int .i64 0],rfl,rfl,rfl,z05,?_⟩
 simp only [List.cons_append,List.nil_append]
 refine ⟨fun vs H'=>vs=[.bool true]∧PH.le H H',?_,fun _=>?_,fun g2=>by simp [ev0,ev,evV,List.cons_append,List.nil_append,List.getD_cons_zero,List.getD_cons_succ,List.map_cons,List.map_nil,iOf,bOf,sOf,pOf,slLen,z04,cmpI,arI,Value.ite_bool,z01,z02,z00,z03] at g2⟩
 ·rintro vs K _ ⟨rfl,l⟩;exact ⟨rfl,l⟩
 refine z07 [.bool (decide (namX e=namX e))] z3n (zln (namX e) (namX e) _ _ H4 r4 (Xp.Rep.le (PH.le_trans l2 (PH.le_trans l3 l4)) _ r1)) rfl z05 fun H5 l5=>⟨_,z06,?_,PH.le_trans l13 (PH.le_trans l4 l5)⟩
 simp [ev0,ev,evV,List.cons_append,List.nil_append,List.getD_cons_zero,List.getD_cons_succ,List.map_cons,List.map_nil,iOf,bOf,sOf,pOf,slLen,z04,cmpI,arI,Value.ite_bool,z01,z02,z00,z03]
end Go.Proofs.YtjhlndokjkeilaaGreatDoor.Vc
