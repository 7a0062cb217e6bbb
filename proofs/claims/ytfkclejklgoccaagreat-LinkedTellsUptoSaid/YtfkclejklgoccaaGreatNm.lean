import Derived.Test.YtfkclejklgoccaaGreatNl
set_option linter.unusedSimpArgs false
set_option linter.unusedVariables false
set_option maxRecDepth 100000
namespace Go.Proofs.YtfkclejklgoccaaGreat.Vc
open Go
theorem zog:∀(l:List ItemR) (long:List Bool) (a k q:Nat) (x:ItemR) (b:Bool),(z0m a l long)[k]?=some q→l[k]?=some x→long[k]?=some b→(z0m a l long)[k+1]?=some (q+sizeR x b)
 | y::l,c::long,a,0,q,x,b,h,hx,hb=>by
  simp only [z0m,List.getElem?_cons_zero,Option.some.injEq] at h hx hb
  subst h hx hb
  simp only [z0m,List.getElem?_cons_succ]
  cases l<;>cases long<;>simp [z0m]
 | y::l,c::long,a,k+1,q,x,b,h,hx,hb=>by
  simp only [z0m,List.getElem?_cons_succ] at h hx hb ⊢
  exact zog l long _ k q x b h hx hb
 | [],_,_,_,_,_,_,_,hx,_=>by simp at hx
 | _::_,[],_,_,_,_,_,_,_,hb=>by simp at hb
theorem z1g {E:List Value} {H:PH} {p:SV} {ss:List SV} {pend:List (SV×List SV)} (h:rowAt H (pOf (ev0 E p)) (ss.map (ev0 E))) (t:z0o E H pend):z0o E H ((p,ss)::pend):=fun x hx=>by
 rcases zmc.1 hx with rfl | hx
 ·exact h
 ·exact t x hx
abbrev asmI (r:Nat) (lv:Value) (mr:Nat) (es:Array MapEntry) (cl:Nat) (long:List Bool) (bv:Value) (places:List Int) (pv:Value) (code:List W32) (cv:Value):List Itm:=
 [bx r TA (z5t lv mr bv pv cv),.blk mr (.map es cl),orow 4 long bv,orow 3 places pv,orow 121 code cv]
section
variable {r mr:Nat} {lv bv pv cv:Value} {es:Array MapEntry} {cl:Nat} {long:List Bool} {places:List Int} {code:List W32} {S K:PH} {J:List Itm}
theorem z16 (h:Held S K (asmI r lv mr es cl long bv places pv code cv++J)) {off:Nat} {vs:List Value} (hv:((z5t lv mr bv pv cv).drop off).take vs.length=vs):rowAt K (some ⟨r,off,none⟩) vs:=by
 have:=z1a h (List.mem_append_left _ (zms)) off vs.length
 rwa [hv] at this
theorem zqk (h:Held S K (asmI r lv mr es cl long bv places pv code cv++J)):SlR K long bv:=(h.row (e:=4) (l:=long) (v:=bv) (by simp)).slR h.sh
theorem zck (h:Held S K (asmI r lv mr es cl long bv places pv code cv++J)):SlR K places pv:=(h.row (e:=3) (l:=places) (v:=pv) (by simp)).slR h.sh
theorem Z4g (l:List ItemR) (h:Held S K (asmI r lv mr es cl long bv places pv code cv++J)) (hl:SlR S l lv) (hll:long.length=l.length) (hpl:places.length=l.length) (hs:l.length≤65536) :
  Tri Tryz.prog zjg #[pAt r] K fun e K'=>e=.returned (.tuple #[])∧Held S K' (asmI r lv mr es cl long bv (plI ((z0m 0 l long).take l.length)) pv code cv++J):=by
 obtain ⟨lb,lc,rfl⟩:=hl.sl
 refine zgk [pAt r] (by kernel_rfl) (by kernel_rfl) ?_
 refine ⟨fun _=>by simp [Chk.holds,evs,arI,slLen,z00,iOf,bOf,zb5],[.slice lb l.length lc],rfl,by simp only [evs,arI,slLen,z00,iOf,bOf,zb5];exact z16 h rfl,?_⟩
 simp only [cns]
 obtain ⟨P,hP⟩:∃P,P=z0m 0 l long:=⟨_,rfl⟩
 have hPl:P.length=l.length+1:=by rw [hP];exact z9e l long 0 hll
 have hPle:∀q∈P,q≤4 * l.length:=by
  intro q hq
  rw [hP] at hq
  have:=zf9 l long 0 q hq
  omega
 rw [←hP]
 have hP0:P[0]?=some 0:=by
  rw [hP]
  cases l with
  | nil=>cases long<;>rfl
  | cons y l=>cases long with
   | nil=>rfl
   | cons c long=>rfl
 refine ⟨fun n vs K2=>∃k q:Nat,k+n=l.length∧vs=[nI q,nI k]∧P[k]?=some q∧Held S K2 (asmI r (.slice lb l.length lc) mr es cl long bv ((plI P).take k++places.drop k) pv code cv++J),⟨l.length,0,0,by omega,rfl,hP0,by simpa using h⟩,?_⟩
 rintro n vs K2 _ ⟨k,q,hkn,rfl,hq,h2⟩
 simp only [cns]
 refine ⟨fun g=>?_,fun g=>?_⟩
 ·simp only [evs,arI,slLen,z00,iOf,bOf,zb5,zdt] at g
  have hk:k < l.length:=by omega
  obtain ⟨x,hx⟩:∃x,l[k]?=some x:=⟨_,zge hk⟩
  obtain ⟨b,hb⟩:∃b,long[k]?=some b:=⟨_,zge (by omega)⟩
  obtain ⟨z,hz⟩:∃z,places[k]?=some z:=⟨_,zge (by omega)⟩
  have hplI:(plI P).length=l.length+1:=by simp [plI,hPl]
  have hAl:((plI P).take k).length=k:=by rw [List.length_take];omega
  have hmid:((plI P).take k++places.drop k)[k]?=some z:=by
   rw [List.getElem?_append_right (by omega),hAl,Nat.sub_self,List.getElem?_drop];exact hz
  have hdp:places.drop k=z::places.drop (k+1):=by rw [List.drop_eq_getElem_cons (by omega),(zgi.1 hz).2]
  have htP:(plI P).take (k+1)=(plI P).take k++[(q:Int)]:=by
   rw [List.take_add_one]
   have:(plI P)[k]?=some (q:Int):=by simp [plI,hq]
   rw [this];rfl
  have hq4:=hPle q (zmg hq)
  have hsz:=Z4y x b
  have hps:=zck h2
  obtain ⟨z1,_⟩:=hps.get hmid
  obtain ⟨pb,pc,hpv⟩:=hps.sl
  have hlen:((plI P).take k++places.drop k).length=l.length:=by rw [zla,hAl,List.length_drop];omega
  refine ⟨[pv],by rw [hpv];rfl,by simp only [evs,arI,slLen,z00,iOf,bOf,zb5];exact z16 h2 rfl,fun _=>?_,?_⟩
  ·simp only [Chk.holds,evs,arI,slLen,z00,iOf,bOf,zb5]
   rw [hpv] at z1 ⊢
   exact ⟨z1,by omega,by simp only [hlen];omega⟩
  simp only [cns]
  have hp:=h2.perm (List.perm_middle (l₁:=[_,_,_]) (l₂:=orow 121 code cv::J))
  refine z1n (i:=k) (a:=z) (a':=(q:Int)) (us:=[nI q]) (by simp only [evs,arI,slLen,z00,iOf,bOf,zb5];rfl) hp hmid rfl (by simp only [evs,arI,slLen,z00,iOf,bOf,zb5]) (by simp [oneC]) (z0k (by unfold InI;omega)) fun K3 h3=>?_
  have e:((plI P).take k++places.drop k).set k (q:Int)=(plI P).take (k+1)++places.drop (k+1):=by
   rw [htP,hdp,zaa]
   have:=Z4t ((plI P).take k) z (q:Int) (places.drop (k+1))
   rw [hAl] at this
   exact this
  rw [e] at h3
  have h4:Held S K3 (asmI r (.slice lb l.length lc) mr es cl long bv ((plI P).take (k+1)++places.drop (k+1)) pv code cv++J):=h3.perm (List.perm_middle (l₁:=[_,_,_]) (l₂:=orow 121 code cv::J)).symm
  refine z05 [nI (sizeR x b)] zfo (Z7k l long _ bv r K3 k x b (z16 h4 rfl) (z16 h4 rfl) (hl.le h4.sh) (zqk h4) hx hb) rfl z01 fun K4 l4=>?_
  simp only [cns]
  have w1:IntKind.i64.wrap ((q:Int)+(sizeR x b:Int))=((q+sizeR x b:Nat):Int):=by rw [w64 (by omega) (by omega)];omega
  have w2:IntKind.i64.wrap ((k:Int)+1)=((k+1:Nat):Int):=by rw [w64 (by omega) (by omega)];rfl
  refine ⟨_,z00,n - 1,by omega,k+1,q+sizeR x b,by omega,by simp only [evs,arI,slLen,z00,iOf,bOf,zb5,w1,w2],?_,h4.le l4⟩
  rw [hP] at hq ⊢
  exact zog l long 0 k q x b hq hx hb
 ·simp only [evs,arI,slLen,z00,iOf,bOf,zb5,zdf] at g
  have hk:k=l.length:=by omega
  subst hk
  rw [List.drop_of_length_le (by omega),zan] at h2
  refine ⟨rfl,?_⟩
  rw [show plI (P.take l.length)=(plI P).take l.length by simp [plI,List.map_take]]
  exact h2
def LabOk (l:List ItemR) (m:List (Int×Value)):Prop:=∀label:Int,getM m label=(findR l label).map fun k=>nI k
theorem uLabs:Tryz.prog.underlying 135=some (.map 3 3):=by kernel_rfl
theorem kIntQ:Tryz.prog.underlying 3=some (Key.kd Int):=by kernel_rfl
theorem zIntM:(Tryz.prog.info? 3).map (·.zero)=some (some (.int .i64 0)):=by kernel_rfl
theorem zne {l:List ItemR} {m:List (Int×Value)} (h:LabOk l m) {label:Int} {k:Nat} (hf:findR l label=some k):(getM m label).getD (.int .i64 0)=nI k:=by rw [h,hf];rfl
theorem zng (h:Held S K (asmI r lv mr es cl long bv places pv code cv++J)) {m:List (Int×Value)} (hm:EntsR es.toList cl m):MapR K (.map (some mr)) m:=⟨mr,es,cl,rfl,h.blk (by simp),hm⟩
theorem Zb7 (l:List ItemR) (m:List (Int×Value)) (h:Held S K (asmI r lv mr es cl long bv (plI ((z0m 0 l long).take l.length)) pv code cv++J)) (hl:SlR S l lv) (hm:EntsR es.toList cl m) (hlab:LabOk l m) (hll:long.length=l.length) (hs:l.length≤65536) (hn:∀x∈l,z1w x=true→(findR l x.label).isSome=true) :
  Tri Tryz.prog zhf #[pAt r] K fun e K'=>e=.returned (.bool (decide (growR l (z0m 0 l long) long≠long)))∧Held S K' (asmI r lv mr es cl (growR l (z0m 0 l long) long) bv (plI ((z0m 0 l long).take l.length)) pv code cv++J):=by
 obtain ⟨lb,lc,rfl⟩:=hl.sl
 obtain ⟨P,hP⟩:∃P,P=z0m 0 l long:=⟨_,rfl⟩
 have hPl:P.length=l.length+1:=by rw [hP];exact z9e l long 0 hll
 have hPle:∀q∈P,q≤4 * l.length:=by
  intro q hq
  rw [hP] at hq
  have:=zf9 l long 0 q hq
  omega
 rw [←hP] at h ⊢
 obtain ⟨gr,hgr⟩:∃gr,gr=growR l P long:=⟨_,rfl⟩
 have hgl:gr.length=l.length:=by rw [hgr];exact zpt hll
 rw [←hgr]
 obtain ⟨Q,hQ⟩:∃Q,Q=plI (P.take l.length):=⟨_,rfl⟩
 have hQl:Q.length=l.length:=by rw [hQ];simp [plI,hPl]
 have hQg:∀(j q:Nat),j < l.length→P[j]?=some q→Q[j]?=some (q:Int):=fun j q hj hq=>by
  rw [hQ,zem,List.getElem?_take,if_pos hj,hq];rfl
 rw [←hQ] at h ⊢
 refine zed [pAt r] (by kernel_rfl) (by kernel_rfl) ?_
 refine ⟨fun _=>by simp [Chk.holds,evs,arI,slLen,z00,iOf,bOf,zb5],[.slice lb l.length lc],rfl,by simp only [evs,arI,slLen,z00,iOf,bOf,zb5];exact z16 h rfl,?_⟩
 simp only [cns]
 refine ⟨fun n vs K=>∃k:Nat,k+n=l.length∧vs=[.bool (decide (gr.take k≠long.take k)),nI k]∧Held S K (asmI r (.slice lb l.length lc) mr es cl (gr.take k++long.drop k) bv Q pv code cv++J),⟨l.length,0,by omega,by simp [evs,arI,slLen,z00,iOf,bOf,zb5],by simpa using h⟩,?_⟩
 rintro n vs K6 _ ⟨k,hkn,rfl,h6⟩
 simp only [cns]
 refine ⟨fun g2=>?_,fun g2=>?_⟩
 ·simp only [evs,arI,slLen,z00,iOf,bOf,zb5,zdt] at g2
  have hk:k < l.length:=by omega
  obtain ⟨x,hx⟩:∃x,l[k]?=some x:=⟨_,zge hk⟩
  obtain ⟨bk,hbk⟩:∃b,long[k]?=some b:=⟨_,zge (by omega)⟩
  have hgk:gr[k]?=some (bk || farR l P k x):=by rw [hgr];exact Z12 hx hbk
  obtain ⟨y1,_,cs,y2,y3⟩:=(hl.le h6.sh).get hx
  obtain ⟨rfl,hx8⟩:=itemR_iff.1 y2
  have w2:IntKind.i64.wrap ((k:Int)+1)=((k+1:Nat):Int):=by rw [w64 (by omega) (by omega)];rfl
  have hAl:(gr.take k).length=k:=by rw [List.length_take];omega
  have hdl:long.drop k=bk::long.drop (k+1):=by rw [List.drop_eq_getElem_cons (by omega),(zgi.1 hbk).2]
  have htg:gr.take (k+1)=gr.take k++[bk || farR l P k x]:=by rw [List.take_add_one,hgk];rfl
  have htl:long.take (k+1)=long.take k++[bk]:=by rw [List.take_add_one,hbk];rfl
  have hmid:(gr.take k++long.drop k)[k]?=some bk:=by
   rw [List.getElem?_append_right (by omega),hAl,Nat.sub_self,hdl];rfl
  have hmlen:(gr.take k++long.drop k).length=l.length:=by rw [zla,hAl,List.length_drop];omega
  have same:(bk || farR l P k x)=bk→gr.take (k+1)++long.drop (k+1)=gr.take k++long.drop k∧decide (gr.take (k+1)≠long.take (k+1))=decide (gr.take k≠long.take k):=fun e=>by
   rw [htg,htl,e,hdl]
   exact ⟨by simp,by simp⟩
  have hls:=zqk h6
  obtain ⟨z1,_,zcs,z2,z3⟩:=hls.get hmid
  obtain rfl:=csBK z2
  obtain ⟨bb,bc,hbv⟩:=hls.sl
  have hps:=zck h6
  obtain ⟨pb,pc,hpv⟩:=hps.sl
  refine ⟨fun vs K7=>vs=[.bool (decide (gr.take (k+1)≠long.take (k+1)))]∧Held S K7 (asmI r (.slice lb l.length lc) mr es cl (gr.take (k+1)++long.drop (k+1)) bv Q pv code cv++J),?_,fun _=>?_,itemV x,rfl,by simp only [evs,arI,slLen,z00,iOf,bOf,zb5];exact y3,?_⟩
  ·rintro vs K7 _ ⟨rfl,h7⟩
   exact ⟨_,z00,n - 1,by omega,k+1,by omega,by simp only [evs,arI,slLen,z00,iOf,bOf,zb5,w2],h7⟩
  ·simp only [Chk.holds,evs,arI,slLen,z00,iOf,bOf,zb5];exact ⟨y1,by omega,by omega⟩
  simp only [cns]
  refine ⟨fun vs K7=>vs=[.bool (decide (x.kind≠2) || bk)]∧K6=K7,?_,fun g3=>?_,fun g3=>?_⟩
  rotate_left
  ·simp only [evs,arI,slLen,z00,iOf,bOf,zb5,ne_eq,zdt] at g3
   exact ⟨_,z00,by simp [evs,arI,slLen,z00,iOf,bOf,zb5,g3],rfl⟩
  ·simp only [evs,arI,slLen,z00,iOf,bOf,zb5,ne_eq,zdf,Decidable.not_not] at g3
   refine ⟨[bv],by rw [hbv];rfl,by simp only [evs,arI,slLen,z00,iOf,bOf,zb5];exact z16 h6 rfl,fun _=>?_,[.bool bk],rfl,by simp only [evs,arI,slLen,z00,iOf,bOf,zb5];exact z3,_,z00,?_,rfl⟩
   ·simp only [Chk.holds,evs,arI,slLen,z00,iOf,bOf,zb5]
    rw [hbv] at z1 ⊢
    exact ⟨z1,by omega,by simp only [hmlen];omega⟩
   ·simp [evs,arI,slLen,z00,iOf,bOf,zb5,g3]
  rintro vs K7 _ ⟨rfl,rfl⟩
  simp only [cns]
  refine ⟨fun g3=>?_,fun g3=>?_⟩
  ·simp only [evs,arI,slLen,z00,iOf,bOf,zb5] at g3
   have:(bk || farR l P k x)=bk:=by
    cases bk with
    | true=>rfl
    | false=>
     simp only [Bool.or_false,zdt] at g3
     unfold farR
     simp [g3]
   obtain ⟨s1,s2⟩:=same this
   exact ⟨_,z00,by rw [s2];rfl,by rw [s1];exact h6⟩
  simp only [evs,arI,slLen,z00,iOf,bOf,zb5,zof,zdf,ne_eq,Decidable.not_not] at g3
  obtain ⟨g3,rfl⟩:=g3
  have hnm:z1w x=true:=by unfold z1w;simp [g3]
  obtain ⟨j,hj⟩:=Option.isSome_iff_exists.1 (hn x (zmg hx) hnm)
  have hjl:=Z4x hj
  obtain ⟨q,hq⟩:∃q,P[j]?=some q:=⟨_,zge (by omega)⟩
  obtain ⟨p,hp⟩:∃p,P[k]?=some p:=⟨_,zge (by omega)⟩
  obtain ⟨q1,_,qcs,q2,q3⟩:=hps.get (hQg j q hjl hq)
  obtain ⟨rfl,_⟩:=csIK q2
  obtain ⟨r1,_,rcs,r2,r3⟩:=hps.get (hQg k p hk hp)
  obtain ⟨rfl,_⟩:=csIK r2
  have hq4:=hPle q (zmg hq)
  have hp4:=hPle p (zmg hp)
  have hfar:farR l P k x=(decide ((q:Int) - p < -512) || decide (511 < (q:Int) - p)):=by
   unfold farR toR
   rw [if_pos hnm,hj]
   simp [g3,zgd,hq,hp]
  have wd:IntKind.i64.wrap ((q:Int) - (p:Int))=(q:Int) - p:=w64 (by omega) (by omega)
  rw [hpv] at q1 q3 r1 r3
  refine ⟨[.slice pb Q.length pc],rfl,by simp only [evs,arI,slLen,z00,iOf,bOf,zb5];rw [←hpv];exact z16 h6 rfl,[.map (some mr)],rfl,by simp only [evs,arI,slLen,z00,iOf,bOf,zb5];exact z16 h6 rfl,[.slice pb Q.length pc],rfl,by simp only [evs,arI,slLen,z00,iOf,bOf,zb5];rw [←hpv];exact z16 h6 rfl,fun _=>?_,[.int .i64 (p:Int)],rfl,by simp only [evs,arI,slLen,z00,iOf,bOf,zb5,List.cons_append,List.nil_append];exact r3,?_⟩
  ·simp only [Chk.holds,evs,arI,slLen,z00,iOf,bOf,zb5,List.cons_append,List.nil_append];exact ⟨r1,by omega,by omega⟩
  simp only [cns]
  refine z34 (α:=Int) (m:=m) (v:=.map (some mr)) x.label (.int .i64 0) uLabs kIntQ zIntM (by kernel_rfl) (by kernel_rfl) (zng h6 hm) (by rw [zne hlab hj];rfl) (z1g (by simp only [evs,arI,slLen,z00,iOf,bOf,zb5];exact r3) (z1g (by simp only [evs,arI,slLen,z00,iOf,bOf,zb5];rw [←hpv];exact z16 h6 rfl) (z1g (by simp only [evs,arI,slLen,z00,iOf,bOf,zb5];rw [←hpv];exact z16 h6 rfl) z01))) ?_
  rw [zne hlab hj]
  simp only [cns]
  refine ⟨fun _=>?_,[.int .i64 (q:Int)],rfl,by simp only [evs,arI,slLen,z00,iOf,bOf,zb5];exact q3,fun g4=>?_,fun g4=>?_⟩
  ·simp only [Chk.holds,evs,arI,slLen,z00,iOf,bOf,zb5];exact ⟨q1,by omega,by omega⟩
  ·simp only [evs,arI,slLen,z00,iOf,bOf,zb5,wd] at g4
   have hf:farR l P k x=true:=by rw [hfar];exact g4
   refine ⟨[bv],by rw [hbv];rfl,by simp only [evs,arI,slLen,z00,iOf,bOf,zb5];exact z16 h6 rfl,fun _=>?_,?_⟩
   ·simp only [Chk.holds,evs,arI,slLen,z00,iOf,bOf,zb5]
    rw [hbv] at z1 ⊢
    exact ⟨z1,by omega,by simp only [hmlen];omega⟩
   simp only [cns]
   have hpp:=h6.perm (List.perm_middle (l₁:=[_,_]) (l₂:=orow 3 Q pv::orow 121 code cv::J))
   refine z1n (i:=k) (a:=false) (a':=true) (us:=[.bool true]) (by simp only [evs,arI,slLen,z00,iOf,bOf,zb5];rfl) hpp hmid rfl (by simp only [evs,arI,slLen,z00,iOf,bOf,zb5]) (by simp [oneC]) zhj fun K8 h8=>?_
   have e:(gr.take k++long.drop k).set k true=gr.take (k+1)++long.drop (k+1):=by
    rw [htg,hdl,zaa,hf]
    have:=Z4t (gr.take k) false true (long.drop (k+1))
    rw [hAl] at this
    exact this
   rw [e] at h8
   refine ⟨_,z00,?_,h8.perm (List.perm_middle (l₁:=[_,_]) (l₂:=orow 3 Q pv::orow 121 code cv::J)).symm⟩
   have:decide (gr.take (k+1)≠long.take (k+1))=true:=by
    rw [zdt,htg,htl,hf]
    intro hh
    have:=(List.append_inj' hh rfl).2
    simp at this
   rw [this];rfl
  ·simp only [evs,arI,slLen,z00,iOf,bOf,zb5,wd] at g4
   have hf:farR l P k x=false:=by rw [hfar];exact g4
   obtain ⟨s1,s2⟩:=same (by rw [hf];rfl)
   exact ⟨_,z00,by rw [s2];rfl,by rw [s1];exact h6⟩
 ·simp only [evs,arI,slLen,z00,iOf,bOf,zb5,zdf] at g2
  have hk:k=l.length:=by omega
  subst hk
  rw [ztl (by omega),List.drop_of_length_le (by omega),zan] at h6
  rw [ztl (show gr.length≤l.length by omega),ztl (show long.length≤l.length by omega)]
  exact ⟨rfl,h6⟩
end
theorem Zb5 (n:Int):IntKind.i16.wrap n=(n+32768) % 65536 - 32768:=by
 have:IntKind.i16.wrap n=if 32768≤n % 65536 then n % 65536 - 65536 else n % 65536:=by
  simp only [IntKind.wrap,IntKind.bits,IntKind.signed];simp
 rw [this]
 split<;>omega
theorem Zav {x:ItemR} (h:mayR x=true):(x.kind=2→(24≤x.x.op∧x.x.op≤27)∧x.x.c=0)∧(x.kind=3→x.x.op=28∧x.x.b=0∧x.x.c=0):=by
 refine ⟨fun hk=>?_,fun hk=>?_⟩
 ·have hop:=Zeq h hk
  refine ⟨hop,?_⟩
  unfold mayR at h
  rw [if_neg (by omega),if_neg (by omega),if_pos hk] at h
  simp only [zba,zdt] at h
  obtain ⟨w,hw⟩:=Option.isSome_iff_exists.1 h.1.1.1.1
  unfold encR at hw
  rw [if_neg (by omega)] at hw
  split at hw
  ·rename_i hf
   unfold fitsR at hf
   simp only [zba] at hf
   have hc:=hf.1.1.2
   have:(frmR x.x.op).c=false:=by
    obtain h1 | h1 | h1 | h1:x.x.op=24∨x.x.op=25∨x.x.op=26∨x.x.op=27:=by omega
    all_goals rw [h1];rfl
   rw [this] at hc
   simpa [regR] using hc
  ·cases hw
 ·unfold mayR at h
  rw [if_neg (by omega),if_neg (by omega),if_neg (by omega),if_pos hk] at h
  simp only [zba,zdt] at h
  have hop:x.x.op=28:=h.1.1.2
  obtain ⟨w,hw⟩:=Option.isSome_iff_exists.1 h.1.1.1
  unfold encR at hw
  rw [if_neg (by omega)] at hw
  split at hw
  ·rename_i hf
   unfold fitsR at hf
   simp only [zba] at hf
   have hc:=hf.1.1.2
   have hb:=hf.1.1.1.2
   rw [hop] at hc hb
   rw [show (frmR 28).c=false from rfl] at hc
   rw [show (frmR 28).b=false from rfl] at hb
   exact ⟨hop,by simpa [regR] using hb,by simpa [regR] using hc⟩
  ·cases hw
section
variable {r mr:Nat} {lv bv pv cv:Value} {es:Array MapEntry} {cl:Nat} {long:List Bool} {places:List Int} {code:List W32} {S K:PH} {J:List Itm}
theorem za8 (y:InsR) (h:Held S K (asmI r lv mr es cl long bv places pv code cv++J)) (hy:InI5 y) (hc:code.length≤1000000) :
  Tri Tryz.prog z38 #[pAt r,.agg (insV y).toArray] K fun e K'=>∃S' cv',PH.le S S'∧e=.returned (.tuple #[])∧Held S' K' (asmI r lv mr es cl long bv places pv (code++[z31 y]) cv'++J):=by
 refine zgb ([pAt r]++insV y) (by kernel_rfl) (by kernel_rfl) ?_
 simp only [cns]
 refine z04 z2m (h.gives (zd8 y S hy)) ?_
 rintro e K1 ⟨rfl,h1,_⟩
 refine ⟨_,[.int .u32 ((encR y).getD 0),.int .i64 (encE (encR y))],rfl,rfl,rfl,z01,?_⟩
 simp only [cns]
 have hp:=h1.perm (List.perm_middle (l₁:=[_,_,_,_]) (l₂:=J))
 obtain ⟨cb,cc,hcv⟩:=(hp.row (e:=121) (zms)).sl
 refine ⟨fun _=>by simp [Chk.holds,evs,arI,zb5],[cv],by rw [hcv];rfl,by simp only [evs,arI,zb5];exact z16 h1 rfl,?_⟩
 simp only [cns]
 refine z28 (b:=4) (more:=[z31 y]) [.int .u32 ((encR y).getD 0)] uU32s Zdc rfl (by decide) (by decide) hp (by kernel_rfl) (.cons (csW (Zde y)) .nil) z01 (fun w=>by kernel_rfl) (fun w=>by kernel_rfl)
  (by simp only [maxLen,List.length_singleton];omega) (by simp only [List.length_singleton];omega) fun w6 v6 S6 K6 l6 h6=>⟨z01,?_⟩
 simp only [cns]
 obtain ⟨b6,c6,hv6⟩:=(h6.row (e:=121) (zms)).sl
 refine z0e (off:=4) (vs:=[v6]) (by simp only [evs,arI,zb5];rfl) (h6.perm (List.Perm.swap _ _ _)) (by simp only [evs,arI,zb5]) (by intro u hu;rw [zsi.1 hu,hv6];rfl) (by simp) fun K7 h7=>?_
 exact ⟨S6,v6,l6,rfl,h7.perm (List.Perm.cons _ (List.perm_middle (l₁:=[_,_,_]) (l₂:=J)).symm)⟩
theorem ztq (q n:Int) (k:Nat) (h:Held S K (asmI r lv mr es cl long bv places pv code cv++J)) (hk:1≤k∧k≤4) (hq:InI q) (hc:code.length≤900000) :
  Tri Tryz.prog z62 #[pAt r,.int .i64 q,.int .i64 n,.int .i64 (k:Int)] K fun e K'=>∃S' cv',PH.le S S'∧e=.returned (.tuple #[])∧Held S' K' (asmI r lv mr es cl long bv places pv (code++(numR q n k).map z31) cv'++J):=by
 refine zc9 [pAt r,.int .i64 q,.int .i64 n,.int .i64 (k:Int)] (by kernel_rfl) (by kernel_rfl) ?_
 have z0:InI 0:=by decide
 have hi:∀m:Int,0≤m % 65536∧m % 65536 < 65536:=fun m=>by omega
 have ht:=hi (shrR n (16 * (k - 1))+32768)
 have hin:InI5 (topR q n k):=⟨by unfold topR InI;simp,hq,z0,z0,by unfold topR InI;simp only [];omega⟩
 have e1:IntKind.i64.wrap ((k:Int) - 1)=((k - 1:Nat):Int):=by rw [w64 (by omega) (by omega)];omega
 have e2:IntKind.i64.wrap (16 * ((k - 1:Nat):Int))=((16 * (k - 1):Nat):Int):=by rw [w64 (by omega) (by omega)];omega
 have eraw:IntKind.i64.wrap (IntKind.i16.wrap (arI .shr .i64 n (arI .mul .i64 16 (arI .sub .i64 (k:Int) 1))))=(shrR n (16 * (k - 1))+32768) % 65536 - 32768:=by
  rw [show arI .sub .i64 (k:Int) 1=((k - 1:Nat):Int) from e1,show arI .mul .i64 16 ((k - 1:Nat):Int)=((16 * (k - 1):Nat):Int) from e2,zni n _ (by omega),Zb5]
  exact w64 (by omega) (by omega)
 refine ⟨fun _=>?_,?_⟩
 ·simp only [Chk.holds,evs,arI,zb5,e1,e2];omega
 have c1:Tri Tryz.prog z38 #[pAt r,.agg (insV ⟨20,q,0,0,IntKind.i64.wrap (IntKind.i16.wrap (arI .shr .i64 n (arI .mul .i64 16 (arI .sub .i64 (k:Int) 1))))⟩).toArray] K fun e K'=>∃S' cv',PH.le S S'∧e=.returned (.tuple #[])∧Held S' K' (asmI r lv mr es cl long bv places pv (code++[z31 (topR q n k)]) cv'++J):=by
  rw [eraw];exact za8 (topR q n k) h hin (by omega)
 refine z04 z1b c1 ?_
 rintro e K1 ⟨S1,cv1,l1,rfl,h1⟩
 refine ⟨_,[],rfl,rfl,rfl,z01,?_⟩
 simp only [zan]
 refine ⟨fun m vs K2=>∃(S2:PH) (cv2:Value) (done:List InsR),vs=[nI m]∧m≤3∧done.length+m≤4∧PH.le S S2∧Held S2 K2 (asmI r lv mr es cl long bv places pv (code++done.map z31) cv2++J)∧done++restR q n m=numR q n k,⟨k - 1,S1,cv1,[topR q n k],by simp only [evs,arI,zb5,e1],by omega,by simp;omega,l1,h1,rfl⟩,?_⟩
 rintro m vs K2 _ ⟨S2,cv2,done,rfl,hm,hd,l2,h2,hdone⟩
 simp only [cns]
 refine ⟨fun g=>?_,fun g=>?_⟩
 ·simp only [evs,arI,zb5,zdt] at g
  obtain ⟨j,rfl⟩:∃j,m=j+1:=⟨m - 1,by omega⟩
  obtain ⟨x,hx⟩:∃x:InsR,x=⟨21,q,0,0,shrR n (16 * j) % 65536⟩:=⟨_,rfl⟩
  have hxi:InI5 x:=by
   have:=hi (shrR n (16 * j))
   rw [hx]
   exact ⟨(by decide:InI 21),hq,z0,z0,by unfold InI;simp only [];omega⟩
  have f0:IntKind.i64.wrap (((j+1:Nat):Int) - 1)=(j:Int):=by rw [w64 (by omega) (by omega)];omega
  have f1:IntKind.i64.wrap (16 * (j:Int))=((16 * j:Nat):Int):=by rw [w64 (by omega) (by omega)];omega
  have fraw:arI .and .i64 (arI .shr .i64 n (arI .mul .i64 16 (arI .sub .i64 ((j+1:Nat):Int) 1))) 65535=shrR n (16 * j) % 65536:=by
   rw [show arI .sub .i64 ((j+1:Nat):Int) 1=(j:Int) from f0,show arI .mul .i64 16 (j:Int)=((16 * j:Nat):Int) from f1,zni n _ (by omega),Zf2]
  refine ⟨fun _=>?_,?_⟩
  ·simp only [Chk.holds,evs,arI,zb5,f0,f1];omega
  have c2:Tri Tryz.prog z38 #[pAt r,.agg (insV ⟨21,q,0,0,arI .and .i64 (arI .shr .i64 n (arI .mul .i64 16 (arI .sub .i64 ((j+1:Nat):Int) 1))) 65535⟩).toArray] K2 fun e K'=>∃S' cv',PH.le S2 S'∧e=.returned (.tuple #[])∧Held S' K' (asmI r lv mr es cl long bv places pv (code++done.map z31++[z31 x]) cv'++J):=by
   rw [fraw,←show x=_ from hx];exact za8 x h2 hxi (by rw [zla,zlm];omega)
  refine z04 z1b c2 ?_
  rintro e K3 ⟨S3,cv3,l3,rfl,h3⟩
  refine ⟨_,[],rfl,rfl,rfl,z01,?_⟩
  simp only [zan]
  refine ⟨_,z00,j,by omega,S3,cv3,done++[x],by simp only [evs,arI,zb5,f0],by omega,by rw [zla,List.length_singleton];omega,PH.le_trans l2 l3,?_,?_⟩
  ·rw [List.map_append,←zaa];exact h3
  ·rw [←hdone,zaa,hx];rfl
 ·simp only [evs,arI,zb5,zdf] at g
  have hm0:m=0:=by omega
  subst hm0
  simp only [restR,zan] at hdone
  rw [hdone] at h2
  exact ⟨S2,cv2,l2,rfl,h2⟩
theorem Z88 (l:List ItemR) (m:List (Int×Value)) (i:Nat) (x:ItemR) (b:Bool) (h:Held S K (asmI r lv mr es cl long bv (plI ((z0m 0 l long).take l.length)) pv code cv++J)) (hl:SlR S l lv) (hm:EntsR es.toList cl m) (hlab:LabOk l m) (hll:long.length=l.length) (hs:l.length≤65536) (hn:∀x∈l,z1w x=true→(findR l x.label).isSome=true) (hmay:mayR x=true) (hx:l[i]?=some x) (hb:long[i]?=some b) (hcl:code.length≤800000) :
  Tri Tryz.prog zg5 #[pAt r,nI i] K fun e K'=>∃S' cv',PH.le S S'∧e=.returned (.tuple #[])∧Held S' K' (asmI r lv mr es cl long bv (plI ((z0m 0 l long).take l.length)) pv (code++(z7m x b (((z0m 0 l long).getD i 0:Nat):Int) (toR l (z0m 0 l long) x)).map z31) cv'++J):=by
 obtain ⟨lb,lc,rfl⟩:=hl.sl
 obtain ⟨P,hP⟩:∃P,P=z0m 0 l long:=⟨_,rfl⟩
 have hPl:P.length=l.length+1:=by rw [hP];exact z9e l long 0 hll
 have hPle:∀q∈P,q≤4 * l.length:=by
  intro q hq
  rw [hP] at hq
  have:=zf9 l long 0 q hq
  omega
 rw [←hP] at h ⊢
 obtain ⟨Q,hQ⟩:∃Q,Q=plI (P.take l.length):=⟨_,rfl⟩
 have hQl:Q.length=l.length:=by rw [hQ];simp [plI,hPl]
 have hQg:∀(j q:Nat),j < l.length→P[j]?=some q→Q[j]?=some (q:Int):=fun j q hj hq=>by
  rw [hQ,zem,List.getElem?_take,if_pos hj,hq];rfl
 rw [←hQ] at h ⊢
 have hil:=(zgi.1 hx).1
 obtain ⟨y1,_,cs,y2,y3⟩:=(hl.le h.sh).get hx
 obtain ⟨rfl,hx8⟩:=itemR_iff.1 y2
 obtain ⟨p,hp⟩:∃p,P[i]?=some p:=⟨_,zge (by omega)⟩
 have hpD:((P.getD i 0:Nat):Int)=(p:Int):=by rw [zgd,hp];rfl
 have hp4:=hPle p (zmg hp)
 have hto:=Z7y hPle hs x
 have htq:z1w x=true→∃j q:Nat,findR l x.label=some j∧j < l.length∧P[j]?=some q∧toR l P x=(q:Int)∧q≤4 * l.length:=fun hnm=>by
  obtain ⟨j,hj⟩:=Option.isSome_iff_exists.1 (hn x (zmg hx) hnm)
  have hjl:=Z4x hj
  obtain ⟨q,hq⟩:∃q,P[j]?=some q:=⟨_,zge (by omega)⟩
  refine ⟨j,q,hj,hjl,hq,?_,hPle q (zmg hq)⟩
  unfold toR
  rw [if_pos hnm,hj]
  simp [zgd,hq]
 rw [hpD]
 obtain ⟨to,hto'⟩:∃to,toR l P x=to:=⟨_,rfl⟩
 rw [hto'] at hto htq ⊢
 have z0:InI 0:=by decide
 obtain ⟨bare2,bare3⟩:=Zav hmay
 refine zdb [pAt r,nI i] (by kernel_rfl) (by kernel_rfl) ?_
 refine ⟨fun _=>by simp [Chk.holds,evs,arI,slLen,z00,iOf,bOf,zb5],[.slice lb l.length lc],rfl,by simp only [evs,arI,slLen,z00,iOf,bOf,zb5];exact z16 h rfl,fun _=>?_,itemV x,rfl,by simp only [evs,arI,slLen,z00,iOf,bOf,zb5];exact y3,?_⟩
 ·simp only [Chk.holds,evs,arI,slLen,z00,iOf,bOf,zb5];exact ⟨y1,by omega,by omega⟩
 simp only [cns]
 have hps:=zck h
 obtain ⟨pb,pc,hpv⟩:=hps.sl
 obtain ⟨r1,_,rcs,r2,r3⟩:=hps.get (hQg i p hil hp)
 obtain ⟨rfl,_⟩:=csIK r2
 refine ⟨fun vs K2=>vs=[.int .i64 (if z1w x=true then to - (p:Int) else 0)]∧K=K2,?_,?_⟩
 rotate_left
 ·refine ⟨fun g=>?_,fun g=>?_⟩
  ·simp only [evs,arI,slLen,z00,iOf,bOf,zb5] at g
   have hnm:z1w x=true:=g
   obtain ⟨j,q,hj,hjl,hq,htoq,hq4⟩:=htq hnm
   obtain ⟨q1,_,qcs,q2,q3⟩:=hps.get (hQg j q hjl hq)
   obtain ⟨rfl,_⟩:=csIK q2
   rw [hpv] at q1 q3 r1 r3
   have wd:IntKind.i64.wrap ((q:Int) - (p:Int))=(q:Int) - p:=w64 (by omega) (by omega)
   refine ⟨[.slice pb Q.length pc],rfl,by simp only [evs,arI,slLen,z00,iOf,bOf,zb5];rw [←hpv];exact z16 h rfl,[.map (some mr)],rfl,by simp only [evs,arI,slLen,z00,iOf,bOf,zb5];exact z16 h rfl,[.slice pb Q.length pc],rfl,by simp only [evs,arI,slLen,z00,iOf,bOf,zb5];rw [←hpv];exact z16 h rfl,fun _=>?_,[.int .i64 (p:Int)],rfl,by simp only [evs,arI,slLen,z00,iOf,bOf,zb5,List.cons_append,List.nil_append];exact r3,?_⟩
   ·simp only [Chk.holds,evs,arI,slLen,z00,iOf,bOf,zb5,List.cons_append,List.nil_append];exact ⟨r1,by omega,by omega⟩
   simp only [cns]
   refine z34 (α:=Int) (m:=m) (v:=.map (some mr)) x.label (.int .i64 0) uLabs kIntQ zIntM (by kernel_rfl) (by kernel_rfl) (zng h hm) (by rw [zne hlab hj];rfl) (z1g (by simp only [evs,arI,slLen,z00,iOf,bOf,zb5];exact r3) (z1g (by simp only [evs,arI,slLen,z00,iOf,bOf,zb5];rw [←hpv];exact z16 h rfl) (z1g (by simp only [evs,arI,slLen,z00,iOf,bOf,zb5];rw [←hpv];exact z16 h rfl) z01))) ?_
   rw [zne hlab hj]
   simp only [cns]
   refine ⟨fun _=>?_,[.int .i64 (q:Int)],rfl,by simp only [evs,arI,slLen,z00,iOf,bOf,zb5];exact q3,_,z00,?_,rfl⟩
   ·simp only [Chk.holds,evs,arI,slLen,z00,iOf,bOf,zb5];exact ⟨q1,by omega,by omega⟩
   ·rw [if_pos hnm,htoq]
    simp only [evs,arI,slLen,z00,iOf,bOf,zb5,wd]
  ·simp only [evs,arI,slLen,z00,iOf,bOf,zb5] at g
   have hnm:z1w x=false:=g
   exact ⟨_,z00,by rw [if_neg (by rw [hnm];exact Bool.false_ne_true)];rfl,rfl⟩
 rintro vs K2 _ ⟨rfl,rfl⟩
 simp only [cns]
 have done0:∀{S':PH} {cv':Value} {K':PH} {I:List InsR} {c:List W32},PH.le S S'→Held S' K' (asmI r (.slice lb l.length lc) mr es cl long bv Q pv c cv'++J)→c=code++I.map z31→∃S' cv',PH.le S S'∧Ending.returned (.tuple #[])=.returned (.tuple #[])∧Held S' K' (asmI r (.slice lb l.length lc) mr es cl long bv Q pv (code++I.map z31) cv'++J):=fun l h e=>⟨_,_,l,rfl,by rw [←e];exact h⟩
 generalize hI:z7m x b (p:Int) to=I
 unfold z7m at hI
 refine ⟨fun g=>?_,fun g=>?_⟩
 ·simp only [evs,arI,slLen,z00,iOf,bOf,zb5,zdt] at g
  rw [if_pos g] at hI
  refine z04 z1b (za8 x.x h hx8.x (by omega)) ?_
  rintro e K3 ⟨S3,cv3,l3,rfl,h3⟩
  exact ⟨_,[],rfl,rfl,rfl,z01,done0 l3 h3 (by rw [←hI];rfl)⟩
 simp only [evs,arI,slLen,z00,iOf,bOf,zb5,zdf] at g
 rw [if_neg g] at hI
 refine ⟨fun g2=>?_,fun g2=>?_⟩
 ·simp only [evs,arI,slLen,z00,iOf,bOf,zb5,zdt] at g2
  rw [if_pos g2] at hI
  obtain ⟨hop,hc0⟩:=bare2 g2
  have hnm:z1w x=true:=by unfold z1w;simp [g2]
  rw [if_pos hnm]
  have w1:IntKind.i64.wrap (to - (p:Int) - 1)=to - p - 1:=w64 (by omega) (by omega)
  have hls:=zqk h
  obtain ⟨bb,bc,hbv⟩:=hls.sl
  obtain ⟨z1,_,zcs,z2,z3⟩:=hls.get hb
  obtain rfl:=csBK z2
  refine ⟨[bv],by rw [hbv];rfl,by simp only [evs,arI,slLen,z00,iOf,bOf,zb5];exact z16 h rfl,fun _=>?_,[.bool b],rfl,by simp only [evs,arI,slLen,z00,iOf,bOf,zb5];exact z3,?_⟩
  ·simp only [Chk.holds,evs,arI,slLen,z00,iOf,bOf,zb5]
   rw [hbv] at z1 ⊢
   exact ⟨z1,by omega,by simp only [hll];omega⟩
  simp only [cns]
  refine ⟨fun g3=>?_,fun g3=>?_⟩
  ·simp only [evs,arI,slLen,z00,iOf,bOf,zb5] at g3
   rw [if_pos g3] at hI
   refine z04 ztr (h.gives (zud x.x.op S)) ?_
   rintro e K3 ⟨rfl,h3,_⟩
   refine ⟨_,[.int .i64 (zb4 x.x.op)],rfl,rfl,rfl,z01,?_⟩
   simp only [cns]
   refine z04 z1b (za8 ⟨zb4 x.x.op,x.x.a,x.x.b,0,2⟩ h3 ⟨Zcs,hx8.x.a,hx8.x.b,z0,(by decide:InI 2)⟩ (by omega)) ?_
   rintro e K4 ⟨S4,cv4,l4,rfl,h4⟩
   refine ⟨_,[],rfl,rfl,rfl,z01,?_⟩
   simp only [zan]
   have c2:Tri Tryz.prog z38 #[pAt r,.agg (insV ⟨28,0,0,0,arI .sub .i64 (to - (p:Int)) 1⟩).toArray] K4 fun e K'=>∃S' cv',PH.le S4 S'∧e=.returned (.tuple #[])∧Held S' K' (asmI r (.slice lb l.length lc) mr es cl long bv Q pv (code++[z31 ⟨zb4 x.x.op,x.x.a,x.x.b,0,2⟩]++[z31 ⟨28,0,0,0,to - (p:Int) - 1⟩]) cv'++J):=by
    rw [show arI .sub .i64 (to - (p:Int)) 1=to - p - 1 from w1]
    exact za8 ⟨28,0,0,0,to - (p:Int) - 1⟩ h4 ⟨(by decide:InI 28),z0,z0,z0,by unfold InI;simp only [];omega⟩ (by rw [zla,List.length_singleton];omega)
   refine z04 z1b c2 ?_
   rintro e K5 ⟨S5,cv5,l5,rfl,h5⟩
   exact ⟨_,[],rfl,rfl,rfl,z01,done0 (PH.le_trans l4 l5) h5 (by rw [←hI,zaa];rfl)⟩
  ·simp only [evs,arI,slLen,z00,iOf,bOf,zb5] at g3
   rw [if_neg (by rw [g3];exact Bool.false_ne_true)] at hI
   refine z04 z1b (za8 ⟨x.x.op,x.x.a,x.x.b,x.x.c,to - (p:Int)⟩ h ⟨hx8.x.op,hx8.x.a,hx8.x.b,hx8.x.c,by unfold InI;simp only [];omega⟩ (by omega)) ?_
   rintro e K3 ⟨S3,cv3,l3,rfl,h3⟩
   exact ⟨_,[],rfl,rfl,rfl,z01,done0 l3 h3 (by rw [←hI,hc0];rfl)⟩
 simp only [evs,arI,slLen,z00,iOf,bOf,zb5,zdf] at g2
 rw [if_neg g2] at hI
 refine ⟨fun g3=>?_,fun g3=>?_⟩
 ·simp only [evs,arI,slLen,z00,iOf,bOf,zb5,zdt] at g3
  rw [if_pos g3] at hI
  obtain ⟨ho,hb0,hc0⟩:=bare3 g3
  have hnm:z1w x=true:=by unfold z1w;simp [g3]
  rw [if_pos hnm]
  refine z04 z1b (za8 ⟨x.x.op,x.x.a,x.x.b,x.x.c,to - (p:Int)⟩ h ⟨hx8.x.op,hx8.x.a,hx8.x.b,hx8.x.c,by unfold InI;simp only [];omega⟩ (by omega)) ?_
  rintro e K3 ⟨S3,cv3,l3,rfl,h3⟩
  exact ⟨_,[],rfl,rfl,rfl,z01,done0 l3 h3 (by rw [←hI,ho,hb0,hc0];rfl)⟩
 simp only [evs,arI,slLen,z00,iOf,bOf,zb5,zdf] at g3
 rw [if_neg g3] at hI
 refine ⟨fun g4=>?_,fun g4=>?_⟩
 ·simp only [evs,arI,slLen,z00,iOf,bOf,zb5,zdt] at g4
  rw [if_pos g4] at hI
  refine z04 zkl (h.gives (zmi x.n S hx8.n)) ?_
  rintro e K3 ⟨rfl,h3,_⟩
  refine ⟨_,[.int .i64 (z4k x.n:Int)],rfl,rfl,rfl,z01,?_⟩
  simp only [cns]
  refine z04 z5f (ztq x.x.a x.n (z4k x.n) h3 (zmu x.n) hx8.x.a (by omega)) ?_
  rintro e K4 ⟨S4,cv4,l4,rfl,h4⟩
  exact ⟨_,[],rfl,rfl,rfl,z01,done0 l4 h4 (by rw [←hI])⟩
 simp only [evs,arI,slLen,z00,iOf,bOf,zb5,zdf] at g4
 rw [if_neg g4] at hI
 refine ⟨fun g5=>?_,fun g5=>?_⟩
 ·simp only [evs,arI,slLen,z00,iOf,bOf,zb5,zdt] at g5
  rw [if_pos g5] at hI
  have hnm:z1w x=true:=by unfold z1w;simp [g5]
  rw [if_pos hnm]
  rw [hpv] at r1 r3
  have w1:IntKind.i64.wrap (to - (p:Int)+(p:Int))=to:=by rw [w64 (by omega) (by omega)];omega
  refine ⟨[.slice pb Q.length pc],rfl,by simp only [evs,arI,slLen,z00,iOf,bOf,zb5];rw [←hpv];exact z16 h rfl,fun _=>?_,[.int .i64 (p:Int)],rfl,by simp only [evs,arI,slLen,z00,iOf,bOf,zb5,List.cons_append,List.nil_append];exact r3,?_⟩
  ·simp only [Chk.holds,evs,arI,slLen,z00,iOf,bOf,zb5,List.cons_append,List.nil_append];exact ⟨r1,by omega,by omega⟩
  simp only [cns]
  have c2:Tri Tryz.prog z62 #[pAt r,.int .i64 x.x.a,.int .i64 (arI .add .i64 (to - (p:Int)) (p:Int)),.int .i64 2] K fun e K'=>∃S' cv',PH.le S S'∧e=.returned (.tuple #[])∧Held S' K' (asmI r (.slice lb l.length lc) mr es cl long bv Q pv (code++(numR x.x.a to 2).map z31) cv'++J):=by
   rw [show arI .add .i64 (to - (p:Int)) (p:Int)=to from w1]
   exact ztq x.x.a to 2 h (by omega) hx8.x.a (by omega)
  refine z04 z5f c2 ?_
  rintro e K4 ⟨S4,cv4,l4,rfl,h4⟩
  exact ⟨_,[],rfl,rfl,rfl,z01,done0 l4 h4 (by rw [←hI])⟩
 simp only [evs,arI,slLen,z00,iOf,bOf,zb5,zdf] at g5
 rw [if_neg g5] at hI
 exact done0 (PH.le_refl _) h (by rw [←hI];simp)
end
theorem zwc (seen:List ItemR) (x:ItemR) (label:Int):findR (seen++[x]) label=(findR seen label).or (if isLab label x=true then some seen.length else none):=by
 unfold findR
 rw [List.findIdx?_append]
 cases h:seen.findIdx? (isLab label) with
 | some k=>simp
 | none=>
  simp only [Option.none_or,List.findIdx?_singleton]
  split<;>simp
theorem Zdm:LabOk [] []:=fun _=>rfl
theorem Zbe {l:List ItemR} {m:List (Int×Value)} {x:ItemR} (h:LabOk l m) (hk:x.kind≠1):LabOk (l++[x]) m:=fun label=>by
 rw [zwc,h label]
 have:isLab label x=false:=by unfold isLab;simp [hk]
 rw [this];simp
theorem Zdr {l:List ItemR} {m:List (Int×Value)} {x:ItemR} (h:LabOk l m) (hk:x.kind=1) (hn:findR l x.label=none):LabOk (l++[x]) (putM m x.label (nI l.length)):=fun label=>by
 rw [zwc,Zb3,h label]
 by_cases e:label=x.label
 ·subst e
  rw [if_pos rfl,hn]
  have:isLab x.label x=true:=by unfold isLab;simp [hk]
  rw [this];rfl
 ·rw [if_neg e]
  have:isLab label x=false:=by unfold isLab;simp [hk];exact fun h=>e h.symm
  rw [this];simp
theorem Z1z (l:List ItemR) (lv:Value) (S:PH) (hl:SlR S l lv) :
  Tri Tryz.prog zun #[lv] S fun e K'=>∃v1 v2,e=.returned (.tuple #[v1,v2,.int .i64 (errA (asmR l))])∧SlR K' (codeA (asmR l)) v1∧SlR K' (plI (Z5a (asmR l))) v2∧PH.le S K':=by
 obtain ⟨lb,lc,rfl⟩:=hl.sl
 have hlm:=hl.max
 have hmx:maxLen=9223372036854775807:=rfl
 have hnil:∀{α:Type} [Enc α] (K:PH),SlR (α:=α) K [] (.slice none 0 0):=fun K=>SlR.mk_iff.2 ⟨by simp [maxLen],.inl ⟨rfl,rfl⟩⟩
 have err:∀{K:PH} {e:AsmE} {q:Int},asmR l=.error e→q=errA (.error e)→PH.le S K→∃v1 v2,Ending.returned (.tuple #[.slice none 0 0,.slice none 0 0,.int .i64 q])=.returned (.tuple #[v1,v2,.int .i64 (errA (asmR l))])∧SlR K (codeA (asmR l)) v1∧SlR K (plI (Z5a (asmR l))) v2∧PH.le S K:=fun h hq hK=>by
  rw [h,hq]
  exact ⟨_,_,rfl,hnil _,hnil _,hK⟩
 refine zqd [.slice lb l.length lc] (by kernel_rfl) (by kernel_rfl) ?_
 refine ⟨fun g=>?_,fun g=>?_⟩
 ·simp only [evs,arI,zb5,zdt] at g
  obtain ⟨v1,v2,he,e1,e2,e3⟩:=err (K:=S) (e:=.many) (q:=213) (by unfold asmR;rw [if_pos (by omega)]) rfl (PH.le_refl _)
  exact ⟨v1,v2,he,e1,e2,e3⟩
 simp only [evs,arI,zb5,zdf] at g
 have hs:l.length≤65536:=by omega
 have hA1:asmR l=if badR [] l=1 then .error .form
   else if badR [] l=2 then .error .twice
   else if l.any (fun x=>z1w x && (findR l x.label).isNone)=true then .error .none_
   else .ok (codeR l (longR l) (z0m 0 l (longR l)),(z0m 0 l (longR l)).take l.length):=by
  unfold asmR;rw [if_neg (by omega)]
 have h0:Held S S []:=Held.nil (PH.le_refl _)
 have fin:∀{K:PH} {r mr:Nat} {bv pv:Value} {I:List Itm},Held S K (bx r TA (z5t (.slice lb l.length lc) mr bv pv (.slice none 0 0))::I)→I.Perm [.blk mr (.map #[] 0),orow 4 (List.replicate l.length false) bv,orow 3 (List.replicate l.length (0:Int)) pv]→Held S K (asmI r (.slice lb l.length lc) mr #[] 0 (List.replicate l.length false) bv (List.replicate l.length (0:Int)) pv [] (.slice none 0 0)++[]):=fun h p=>by
  have h1:=(h.perm (List.Perm.cons _ p)).empty (α:=W32) 121
  exact h1.perm (List.perm_append_comm (l₁:=[_]) (l₂:=[_,_,_,_]))
 refine ⟨fun vs K=>∃(r mr:Nat) (bv pv:Value),vs=[pAt r]∧Held S K (asmI r (.slice lb l.length lc) mr #[] 0 (List.replicate l.length false) bv (List.replicate l.length (0:Int)) pv [] (.slice none 0 0)++[]),?_,?_⟩
 rotate_left
 ·simp only [cns]
  refine ⟨?_,?_,?_⟩
  ·refine z1r fun mr hmr=>?_
   have h1:=h0.new hmr (.map #[] 0)
   simp only [cns]
   refine ⟨?_,?_⟩
   ·refine z1p (α:=Bool) (b:=1) (n:=l.length) false rfl (fun S=>zaz) z9v z7f (by kernel_rfl) (by kernel_rfl) (by omega) (by omega) h1 fun bv Kb2 h2 _=>?_
    simp only [cns]
    refine z1p (α:=Int) (b:=8) (n:=l.length) 0 rfl (fun S=>z7k) z0s zah (by kernel_rfl) (by kernel_rfl) (by omega) (by omega) h2 fun pv Ki3 h3 _=>?_
    simp only [cns]
    refine z15 (vs:=z5t (.slice lb l.length lc) mr bv pv (.slice none 0 0)) h3 (by kernel_rfl) fun r K4 _ h4=>?_
    exact ⟨_,z00,r,mr,bv,pv,rfl,fin h4 (by exact (List.reverse_perm [_,_,_]).symm)⟩
   ·refine z1p (α:=Int) (b:=8) (n:=l.length) 0 rfl (fun S=>z7k) z0s zah (by kernel_rfl) (by kernel_rfl) (by omega) (by omega) h1 fun pv Ki2 h2 _=>?_
    simp only [cns]
    refine z1p (α:=Bool) (b:=1) (n:=l.length) false rfl (fun S=>zaz) z9v z7f (by kernel_rfl) (by kernel_rfl) (by omega) (by omega) h2 fun bv Kb3 h3 _=>?_
    simp only [cns]
    refine z15 (vs:=z5t (.slice lb l.length lc) mr bv pv (.slice none 0 0)) h3 (by kernel_rfl) fun r K4 _ h4=>?_
    exact ⟨_,z00,r,mr,bv,pv,rfl,fin h4 (by exact (List.perm_append_comm (l₁:=[_,_]) (l₂:=[_])))⟩
  ·refine z1p (α:=Bool) (b:=1) (n:=l.length) false rfl (fun S=>zaz) z9v z7f (by kernel_rfl) (by kernel_rfl) (by omega) (by omega) h0 fun bv Kb1 h1 _=>?_
   simp only [cns]
   refine ⟨?_,?_⟩
   ·refine z1r fun mr hmr=>?_
    have h2:=h1.new hmr (.map #[] 0)
    simp only [cns]
    refine z1p (α:=Int) (b:=8) (n:=l.length) 0 rfl (fun S=>z7k) z0s zah (by kernel_rfl) (by kernel_rfl) (by omega) (by omega) h2 fun pv Ki3 h3 _=>?_
    simp only [cns]
    refine z15 (vs:=z5t (.slice lb l.length lc) mr bv pv (.slice none 0 0)) h3 (by kernel_rfl) fun r K4 _ h4=>?_
    exact ⟨_,z00,r,mr,bv,pv,rfl,fin h4 (by exact (List.perm_append_comm (l₁:=[_]) (l₂:=[_,_])))⟩
   ·refine z1p (α:=Int) (b:=8) (n:=l.length) 0 rfl (fun S=>z7k) z0s zah (by kernel_rfl) (by kernel_rfl) (by omega) (by omega) h1 fun pv Ki2 h2 _=>?_
    simp only [cns]
    refine z1r fun mr hmr=>?_
    have h3:=h2.new hmr (.map #[] 0)
    simp only [cns]
    refine z15 (vs:=z5t (.slice lb l.length lc) mr bv pv (.slice none 0 0)) h3 (by kernel_rfl) fun r K4 _ h4=>?_
    exact ⟨_,z00,r,mr,bv,pv,rfl,fin h4 (by exact List.Perm.cons _ (List.Perm.swap _ _ _))⟩
  ·refine z1p (α:=Int) (b:=8) (n:=l.length) 0 rfl (fun S=>z7k) z0s zah (by kernel_rfl) (by kernel_rfl) (by omega) (by omega) h0 fun pv Ki1 h1 _=>?_
   simp only [cns]
   refine ⟨?_,?_⟩
   ·refine z1r fun mr hmr=>?_
    have h2:=h1.new hmr (.map #[] 0)
    simp only [cns]
    refine z1p (α:=Bool) (b:=1) (n:=l.length) false rfl (fun S=>zaz) z9v z7f (by kernel_rfl) (by kernel_rfl) (by omega) (by omega) h2 fun bv Kb3 h3 _=>?_
    simp only [cns]
    refine z15 (vs:=z5t (.slice lb l.length lc) mr bv pv (.slice none 0 0)) h3 (by kernel_rfl) fun r K4 _ h4=>?_
    exact ⟨_,z00,r,mr,bv,pv,rfl,fin h4 (by exact List.Perm.swap _ _ _)⟩
   ·refine z1p (α:=Bool) (b:=1) (n:=l.length) false rfl (fun S=>zaz) z9v z7f (by kernel_rfl) (by kernel_rfl) (by omega) (by omega) h1 fun bv Kb2 h2 _=>?_
    simp only [cns]
    refine z1r fun mr hmr=>?_
    have h3:=h2.new hmr (.map #[] 0)
    simp only [cns]
    refine z15 (vs:=z5t (.slice lb l.length lc) mr bv pv (.slice none 0 0)) h3 (by kernel_rfl) fun r K4 _ h4=>?_
    exact ⟨_,z00,r,mr,bv,pv,rfl,fin h4 (by exact List.Perm.refl _)⟩
 rintro vs K0 _ ⟨r,mr,bv,pv,rfl,hK0⟩
 simp only [cns]
 refine ⟨fun n vs K=>∃(k:Nat) (es:Array MapEntry) (cl:Nat) (m:List (Int×Value)),k+n=l.length∧vs=[.slice none 0 0,.slice none 0 0,.int .i64 0,nI k]∧Held S K (asmI r (.slice lb l.length lc) mr es cl (List.replicate l.length false) bv (List.replicate l.length (0:Int)) pv [] (.slice none 0 0)++[])∧EntsR es.toList cl m∧LabOk (l.take k) m∧badR (l.take k) (l.drop k)=badR [] l∧∀x∈l.take k,mayR x=true,⟨l.length,0,#[],0,[],by omega,rfl,hK0,EntsR.empty,Zdm,by simp,by simp⟩,?_⟩
 rintro n vs K _ ⟨k,es,cl,m,hkn,rfl,hh,hm,hlab,hbad,hmay⟩
 simp only [cns]
 refine ⟨fun g2=>?_,fun g2=>?_⟩
 ·simp only [evs,arI,zb5,zdt] at g2
  have hk:k < l.length:=by omega
  obtain ⟨x,hx⟩:∃x,l[k]?=some x:=⟨_,zge hk⟩
  have hdl:l.drop k=x::l.drop (k+1):=by rw [List.drop_eq_getElem_cons hk,(zgi.1 hx).2]
  have htl:l.take (k+1)=l.take k++[x]:=by rw [List.take_add_one,hx];rfl
  have htk:(l.take k).length=k:=by rw [List.length_take];omega
  rw [hdl,Zca] at hbad
  obtain ⟨y1,_,cs,y2,y3⟩:=(hl.le hh.sh).get hx
  obtain ⟨rfl,hx8⟩:=itemR_iff.1 y2
  have w2:IntKind.i64.wrap ((k:Int)+1)=((k+1:Nat):Int):=by rw [w64 (by omega) (by omega)];rfl
  have hmayT:mayR x=true→∀y∈l.take (k+1),mayR y=true:=fun hmx y hy=>by
   rw [htl] at hy
   rcases zma.1 hy with hy | hy
   ·exact hmay y hy
   ·rw [zsi.1 hy];exact hmx
  refine ⟨fun vs K3=>∃(es:Array MapEntry) (cl:Nat) (m:List (Int×Value)),vs=[]∧Held S K3 (asmI r (.slice lb l.length lc) mr es cl (List.replicate l.length false) bv (List.replicate l.length (0:Int)) pv [] (.slice none 0 0)++[])∧EntsR es.toList cl m∧LabOk (l.take (k+1)) m∧badR (l.take (k+1)) (l.drop (k+1))=badR [] l∧mayR x=true,?_,fun _=>?_,itemV x,rfl,by simp only [evs,arI,zb5];exact y3,?_⟩
  ·rintro vs K3 _ ⟨es3,cl3,m3,rfl,h3,hm3,hlab3,hbad3,hmx3⟩
   simp only [zan]
   exact ⟨_,z00,n - 1,by omega,k+1,es3,cl3,m3,by omega,by simp only [evs,arI,zb5,w2],h3,hm3,hlab3,hbad3,hmayT hmx3⟩
  ·simp only [Chk.holds,evs,arI,zb5];exact ⟨y1,by omega,by omega⟩
  simp only [cns]
  refine z04 Z7q (hh.gives (Zac x S hx8)) ?_
  rintro e K2 ⟨rfl,h2,_⟩
  refine ⟨_,[.bool (mayR x)],rfl,rfl,rfl,z01,?_⟩
  simp only [cns]
  refine ⟨fun g3=>?_,fun g3=>?_⟩
  ·simp only [evs,arI,zb5,Bool.not_eq_true'] at g3
   rw [if_pos g3] at hbad
   obtain ⟨v1,v2,he,e1,e2,e3⟩:=err (K:=K2) (e:=.form) (q:=210) (by rw [hA1,if_pos hbad.symm]) rfl h2.sh
   exact ⟨v1,v2,he,e1,e2,e3⟩
  simp only [evs,arI,zb5,Bool.not_eq_false'] at g3
  rw [if_neg (by rw [g3];simp)] at hbad
  refine ⟨fun g4=>?_,fun g4=>?_⟩
  ·simp only [evs,arI,zb5,zdt] at g4
   refine ⟨fun _=>by simp [Chk.holds,evs,arI,zb5],[.map (some mr)],rfl,by simp only [evs,arI,zb5];exact z16 h2 rfl,?_⟩
   simp only [cns]
   have hgs:(getM m x.label).isSome=(findR (l.take k) x.label).isSome:=by rw [hlab x.label];cases findR (l.take k) x.label<;>rfl
   refine zlu (α:=Int) (m:=m) (v:=.map (some mr)) x.label (.int .i64 0) uLabs kIntQ zIntM (by kernel_rfl) (by kernel_rfl) (zng h2 hm) (by
    rw [hlab x.label]
    cases findR (l.take k) x.label<;>rfl) z01 ?_
   simp only [cns]
   refine ⟨fun g5=>?_,fun g5=>?_⟩
   ·simp only [evs,arI,zb5,hgs] at g5
    rw [if_pos ⟨g4,g5⟩] at hbad
    obtain ⟨v1,v2,he,e1,e2,e3⟩:=err (K:=K2) (e:=.twice) (q:=211) (by rw [hA1,if_neg (by omega),if_pos hbad.symm]) rfl h2.sh
    exact ⟨v1,v2,he,e1,e2,e3⟩
   ·simp only [evs,arI,zb5,hgs] at g5
    rw [if_neg (by rw [g5];simp)] at hbad
    have hfn:findR (l.take k) x.label=none:=by
     cases hf:findR (l.take k) x.label with
     | none=>rfl
     | some j=>rw [hf] at g5;cases g5
    refine ⟨[.map (some mr)],rfl,by simp only [evs,arI,zb5];exact z16 h2 rfl,?_⟩
    simp only [cns]
    have hp:=h2.perm (List.Perm.swap (Itm.blk mr (.map es cl)) _ _)
    refine z3r (α:=Int) (m:=m) (r:=mr) (es:=es) (clock:=cl) x.label (nI k) uLabs kIntQ (by kernel_rfl) (by kernel_rfl) (by kernel_rfl) (hp.blk (zms)) hm fun es3 cl3 he3=>?_
    have h3:=(hp.put (.map es3 cl3)).perm (List.Perm.swap _ _ _)
    have hlab3:=Zdr hlab g4 hfn
    rw [htk,←htl] at hlab3
    exact ⟨_,z00,es3,cl3,_,rfl,h3,he3,hlab3,by rw [htl];exact hbad,g3⟩
  ·simp only [evs,arI,zb5,zdf] at g4
   rw [if_neg (fun h=>g4 h.1)] at hbad
   exact ⟨_,z00,es,cl,m,rfl,h2,hm,by rw [htl];exact Zbe hlab g4,by rw [htl];exact hbad,g3⟩
 simp only [evs,arI,zb5,zdf] at g2
 have hk:k=l.length:=by omega
 subst hk
 rw [ztl (Nat.le_refl _)] at hbad hmay hlab
 rw [List.drop_of_length_le (Nat.le_refl _)] at hbad
 have hb0:badR [] l=0:=by rw [←hbad];rfl
 have hA2:asmR l=if l.any (fun x=>z1w x && (findR l x.label).isNone)=true then .error .none_
   else .ok (codeR l (longR l) (z0m 0 l (longR l)),(z0m 0 l (longR l)).take l.length):=by
  rw [hA1,hb0,if_neg (by omega),if_neg (by omega)]
 refine ⟨fun n vs K=>∃k:Nat,k+n=l.length∧vs=[.slice none 0 0,.slice none 0 0,.int .i64 0,nI k]∧Held S K (asmI r (.slice lb l.length lc) mr es cl (List.replicate l.length false) bv (List.replicate l.length (0:Int)) pv [] (.slice none 0 0)++[])∧∀x∈l.take k,(z1w x && (findR l x.label).isNone)=false,⟨l.length,0,by omega,rfl,hh,by simp⟩,?_⟩
 rintro n vs K5 _ ⟨k,hkn,rfl,h5,hno⟩
 simp only [cns]
 refine ⟨fun g3=>?_,fun g3=>?_⟩
 ·simp only [evs,arI,zb5,zdt] at g3
  have hk:k < l.length:=by omega
  obtain ⟨x,hx⟩:∃x,l[k]?=some x:=⟨_,zge hk⟩
  have htl:l.take (k+1)=l.take k++[x]:=by rw [List.take_add_one,hx];rfl
  obtain ⟨y1,_,cs,y2,y3⟩:=(hl.le h5.sh).get hx
  obtain ⟨rfl,hx8⟩:=itemR_iff.1 y2
  have w2:IntKind.i64.wrap ((k:Int)+1)=((k+1:Nat):Int):=by rw [w64 (by omega) (by omega)];rfl
  have hgs:(getM m x.label).isSome=(findR l x.label).isSome:=by rw [hlab x.label];cases findR l x.label<;>rfl
  have hnm:z1w x=((decide (x.kind=2) || decide (x.kind=3)) || decide (x.kind=5)):=rfl
  refine ⟨fun _=>?_,itemV x,rfl,by simp only [evs,arI,zb5];exact y3,fun _=>by simp [Chk.holds,evs,arI,zb5],[.map (some mr)],rfl,by simp only [evs,arI,zb5,List.cons_append,List.nil_append];exact z16 h5 rfl,?_⟩
  ·simp only [Chk.holds,evs,arI,zb5];exact ⟨y1,by omega,by omega⟩
  simp only [cns]
  refine zlu (α:=Int) (m:=m) (v:=.map (some mr)) x.label (.int .i64 0) uLabs kIntQ zIntM (by kernel_rfl) (by kernel_rfl) (zng h5 hm) (by
   rw [hlab x.label]
   cases findR l x.label<;>rfl) z01 ?_
  simp only [cns]
  refine ⟨fun g4=>?_,fun g4=>?_⟩
  ·simp only [evs,arI,zb5,hgs,←hnm] at g4
   have hbadx:(z1w x && (findR l x.label).isNone)=true:=by
    simp only [zba,Bool.not_eq_true'] at g4
    rw [g4.2,Bool.true_and]
    cases hf:findR l x.label with
    | none=>rfl
    | some j=>rw [hf] at g4;simp at g4
   obtain ⟨v1,v2,he,e1,e2,e3⟩:=err (K:=K5) (e:=.none_) (q:=212) (by rw [hA2,if_pos (List.any_eq_true.2 ⟨x,zmg hx,hbadx⟩)]) rfl h5.sh
   exact ⟨v1,v2,he,e1,e2,e3⟩
  ·simp only [evs,arI,zb5,hgs,←hnm] at g4
   refine ⟨_,z00,n - 1,by omega,k+1,by omega,by simp only [evs,arI,zb5,w2],h5,fun y hy=>?_⟩
   rw [htl] at hy
   rcases zma.1 hy with hy | hy
   ·exact hno y hy
   ·rw [zsi.1 hy]
    cases hf:findR l x.label with
    | none=>
     rw [hf] at g4
     simpa using g4
    | some j=>simp
 simp only [evs,arI,zb5,zdf] at g3
 have hk:k=l.length:=by omega
 subst hk
 rw [ztl (Nat.le_refl _)] at hno
 have hA3:asmR l=.ok (codeR l (longR l) (z0m 0 l (longR l)),(z0m 0 l (longR l)).take l.length):=by
  rw [hA2,if_neg (by
   rw [List.any_eq_true]
   rintro ⟨x,hx,h⟩
   rw [hno x hx] at h;cases h)]
 have hnm:∀x∈l,z1w x=true→(findR l x.label).isSome=true:=fun x hx h=>by
  have:=hno x hx
  rw [h,Bool.true_and] at this
  cases hf:findR l x.label with
  | none=>rw [hf] at this;cases this
  | some j=>rfl
 rw [hA3]
 refine z04 z7r (Z4g l h5 hl (by simp) (by simp) hs) ?_
 rintro e K6 ⟨rfl,h6⟩
 refine ⟨_,[],rfl,rfl,rfl,z01,?_⟩
 simp only [zan]
 refine ⟨fun n vs K=>∃long:List Bool,vs=[]∧long.length=l.length∧layR l n long=longR l∧cntF long < n∧Held S K (asmI r (.slice lb l.length lc) mr es cl long bv (plI ((z0m 0 l long).take l.length)) pv [] (.slice none 0 0)++[]),
  ⟨l.length+1,List.replicate l.length false,rfl,by simp,by unfold longR;rw [List.map_const'],by unfold cntF;simp,h6⟩,?_⟩
 rintro n vs K7 _ ⟨long,rfl,hll,hlay,hcnt,h7⟩
 simp only [zan]
 obtain ⟨f,rfl⟩:∃f,n=f+1:=⟨n - 1,by omega⟩
 simp only [layR] at hlay
 refine z04 zgx (Zb7 l m h7 hl hm hlab hll hs hnm) ?_
 rintro e K8 ⟨rfl,h8⟩
 refine ⟨_,[.bool (decide (growR l (z0m 0 l long) long≠long))],rfl,rfl,rfl,z01,?_⟩
 simp only [cns]
 refine ⟨fun g4=>?_,fun g4=>?_⟩
 ·simp only [evs,arI,zb5,zdt] at g4
  rw [if_neg g4] at hlay
  have hc:=Zc9 hll g4
  have hgl:=zpt (p:=z0m 0 l long) hll
  refine z04 z7r (Z4g l h8 hl hgl (by
   have:=z9e l long 0 hll
   simp [plI,this]) hs) ?_
  rintro e K9 ⟨rfl,h9⟩
  exact ⟨_,[],rfl,rfl,rfl,z01,_,z00,f,by omega,_,rfl,hgl,hlay,by omega,h9⟩
 simp only [evs,arI,zb5,zdf,ne_eq,Decidable.not_not] at g4
 rw [g4] at h8
 rw [if_pos g4] at hlay
 subst hlay
 obtain ⟨p,hp⟩:∃p,p=z0m 0 l (longR l):=⟨_,rfl⟩
 obtain ⟨Z,hZ⟩:∃Z,Z=l.zipIdx.zip (longR l):=⟨_,rfl⟩
 have hZl:Z.length=l.length:=by rw [hZ];simp [hll]
 refine ⟨fun n vs K=>∃(k:Nat) (S2:PH) (cv:Value),k+n=l.length∧vs=[nI k]∧PH.le S S2∧((Z.take k).flatMap (partC l p)).length≤4 * k∧Held S2 K (asmI r (.slice lb l.length lc) mr es cl (longR l) bv (plI ((z0m 0 l (longR l)).take l.length)) pv ((Z.take k).flatMap (partC l p)) cv++[]),⟨l.length,0,S,.slice none 0 0,by omega,rfl,PH.le_refl _,by simp,by simpa using h8⟩,?_⟩
 rintro n vs K9 _ ⟨k,S2,cv,hkn,rfl,l2,hcl,h9⟩
 simp only [cns]
 refine ⟨fun g5=>?_,fun g5=>?_⟩
 ·simp only [evs,arI,zb5,zdt] at g5
  have hk:k < l.length:=by omega
  obtain ⟨x,hx⟩:∃x,l[k]?=some x:=⟨_,zge hk⟩
  obtain ⟨bk,hbk⟩:∃b,(longR l)[k]?=some b:=⟨_,zge (by omega)⟩
  have hzk:Z[k]?=some ((x,k),bk):=by rw [hZ];exact Z4m hx hbk
  have htz:(Z.take (k+1)).flatMap (partC l p)=(Z.take k).flatMap (partC l p)++(z7m x bk ((p.getD k 0:Nat):Int) (toR l p x)).map z31:=by
   rw [List.take_add_one,hzk]
   simp only [Option.toList_some,List.flatMap_append,List.flatMap_cons,List.flatMap_nil,zan,partC]
  have hin:=Z6y x bk ((p.getD k 0:Nat):Int) (toR l p x)
  have w2:IntKind.i64.wrap ((k:Int)+1)=((k+1:Nat):Int):=by rw [w64 (by omega) (by omega)];rfl
  refine z04 zes (Z88 l m k x bk h9 (hl.le l2) hm hlab hll hs hnm (hmay x (zmg hx)) hx hbk (by omega)) ?_
  rintro e Ka ⟨Sa,cva,la,rfl,ha⟩
  refine ⟨_,[],rfl,rfl,rfl,z01,?_⟩
  simp only [zan]
  rw [←hp] at ha
  refine ⟨_,z00,n - 1,by omega,k+1,Sa,cva,by omega,by simp only [evs,arI,zb5,w2],PH.le_trans l2 la,?_,?_⟩
  ·rw [htz,zla,zlm];omega
  ·rw [htz,←hp];exact ha
 ·simp only [evs,arI,zb5,zdf] at g5
  have hk:k=l.length:=by omega
  subst hk
  have hcode:(Z.take l.length).flatMap (partC l p)=codeR l (longR l) (z0m 0 l (longR l)):=by
   rw [ztl (by omega),hZ,hp];rfl
  rw [hcode] at h9
  have hcs:=(h9.row (e:=121) (l:=codeR l (longR l) (z0m 0 l (longR l))) (v:=cv) (by simp)).slR h9.sh
  have hps:=zck h9
  obtain ⟨cb,cc,hcv⟩:=hcs.sl
  obtain ⟨pb,pc,hpv⟩:=hps.sl
  refine ⟨fun _=>by simp [Chk.holds,evs,arI,zb5],[cv],by rw [hcv];rfl,by simp only [evs,arI,zb5];exact z16 h9 rfl,[pv],by rw [hpv];rfl,by simp only [evs,arI,zb5,List.cons_append,List.nil_append];exact z16 h9 rfl,cv,pv,?_,hcs,hps,PH.le_trans l2 h9.sh⟩
  simp [evs,arI,zb5,partV,Bool.false_eq_true,if_false,if_true,List.headD_cons,errA]
theorem Zdo:Tryz.prog.underlying 50=some (.slice 131):=by kernel_rfl
theorem Z8z:ElemOk Tryz.prog 131 (sz ItemR) 64=true:=by kernel_rfl
def EmH (S0 K:PH) (r:Nat) (T:TypeId) (rest:List Value) (l:List ItemR) (k:Nat) (J:List Itm):Prop:=
 l.length+k≤1099511627776∧∃S iv,PH.le S0 S∧Held S K (bx r T (iv::rest)::orow 131 l iv::J)
abbrev EmQ (S0:PH) (r:Nat) (T:TypeId) (rest:List Value) (l:List ItemR) (k:Nat) (J:List Itm):Ending→PH→Prop:=fun e K'=>e=.returned (.tuple #[])∧EmH S0 K' r T rest l k J
theorem EmH.drop {S0 K:PH} {r:Nat} {T:TypeId} {rest:List Value} {l:List ItemR} {k:Nat} {J:List Itm} (d:Nat) (h:EmH S0 K r T rest l (k+d) J):EmH S0 K r T rest l k J:=⟨by have:=h.1;omega,h.2⟩
theorem EmH.sh {S0 K:PH} {r:Nat} {T:TypeId} {rest:List Value} {l:List ItemR} {k:Nat} {J:List Itm} (h:EmH S0 K r T rest l k J):PH.le S0 K:=by
 obtain ⟨_,S,iv,h1,h2⟩:=h
 exact PH.le_trans h1 h2.sh
theorem i0J:InI 0:=by decide
section
variable {S0 K:PH} {r:Nat} {T:TypeId} {rest:List Value} {l:List ItemR} {k:Nat} {J:List Itm}
theorem zdh (x:ItemR) (hx:InI8 x) (h:EmH S0 K r T rest l (k+1) J):Tri Tryz.prog zkt #[pAt r,.agg (itemV x).toArray] K (EmQ S0 r T rest (l++[x]) k J):=by
 obtain ⟨hl,S,iv,hS,h⟩:=h
 refine zi4 ([pAt r]++itemV x) (by kernel_rfl) (by kernel_rfl) ?_
 simp only [cns]
 obtain ⟨ib,ic,hiv⟩:=(h.row (e:=131) (l:=l) (v:=iv) (by simp)).sl
 have hr0:rowAt K (pOf (pAt r)) [iv]:=z1a h (zms) 0 1
 refine ⟨fun _=>by simp [Chk.holds,evs,arI,zb5],[iv],by rw [hiv];rfl,by simp only [evs,arI,zb5];exact hr0,?_⟩
 simp only [cns]
 refine z28 (b:=64) (more:=[x]) [.agg (itemV x).toArray] Zdo Z8z rfl (by decide) (by decide) (h.perm (List.Perm.swap _ _ _)) (by kernel_rfl) (.cons (itemR_iff.2 ⟨rfl,hx⟩) .nil) (z1g (by simp only [evs,arI,zb5];exact hr0) z01) (fun w=>by kernel_rfl) (fun w=>by kernel_rfl)
  (by simp only [maxLen,List.length_singleton];omega) (by simp only [List.length_singleton];omega) fun w1 v1 S1 K1 l1 h1=>⟨z01,?_⟩
 simp only [cns]
 obtain ⟨b1,c1,hv1⟩:=(h1.row (e:=131) (zms)).sl
 refine z0e (off:=0) (vs:=[v1]) (by simp only [evs,arI,zb5];rfl) (h1.perm (List.Perm.swap _ _ _)) (by simp only [evs,arI,zb5]) (by intro u hu;rw [zsi.1 hu,hv1];rfl) (by simp) fun K2 h2=>?_
 exact ⟨rfl,by rw [zla,List.length_singleton];omega,S1,v1,PH.le_trans hS l1,h2⟩
theorem z0r (n:Int) (hn:InI n) (h:EmH S0 K r T rest l (k+1) J):Tri Tryz.prog zi0 #[pAt r,.int .i64 n] K (EmQ S0 r T rest (l++[⟨1,⟨0,0,0,0,0⟩,n,0⟩]) k J):=by
 refine zev [pAt r,.int .i64 n] (by kernel_rfl) (by kernel_rfl) ?_
 refine z04 z1i (zdh ⟨1,⟨0,0,0,0,0⟩,n,0⟩ ⟨(by decide:InI 1),⟨i0J,i0J,i0J,i0J,i0J⟩,hn,i0J⟩ h) ?_
 rintro e K1 ⟨rfl,h1⟩
 exact ⟨_,[],rfl,rfl,rfl,z01,rfl,h1⟩
theorem z0g (op a x n:Int) (ho:InI op) (ha:InI a) (hx:InI x) (hn:InI n) (h:EmH S0 K r T rest l (k+1) J):Tri Tryz.prog zjp #[pAt r,.int .i64 op,.int .i64 a,.int .i64 x,.int .i64 n] K (EmQ S0 r T rest (l++[⟨0,⟨op,a,x,0,n⟩,0,0⟩]) k J):=by
 refine zg4 [pAt r,.int .i64 op,.int .i64 a,.int .i64 x,.int .i64 n] (by kernel_rfl) (by kernel_rfl) ?_
 refine z04 z1i (zdh ⟨0,⟨op,a,x,0,n⟩,0,0⟩ ⟨i0J,⟨ho,ha,hx,i0J,hn⟩,i0J,i0J⟩ h) ?_
 rintro e K1 ⟨rfl,h1⟩
 exact ⟨_,[],rfl,rfl,rfl,z01,rfl,h1⟩
theorem zac (op a x y:Int) (ho:InI op) (ha:InI a) (hx:InI x) (hy:InI y) (h:EmH S0 K r T rest l (k+1) J):Tri Tryz.prog zho #[pAt r,.int .i64 op,.int .i64 a,.int .i64 x,.int .i64 y] K (EmQ S0 r T rest (l++[⟨0,⟨op,a,x,y,0⟩,0,0⟩]) k J):=by
 refine zer [pAt r,.int .i64 op,.int .i64 a,.int .i64 x,.int .i64 y] (by kernel_rfl) (by kernel_rfl) ?_
 refine z04 z1i (zdh ⟨0,⟨op,a,x,y,0⟩,0,0⟩ ⟨i0J,⟨ho,ha,hx,hy,i0J⟩,i0J,i0J⟩ h) ?_
 rintro e K1 ⟨rfl,h1⟩
 exact ⟨_,[],rfl,rfl,rfl,z01,rfl,h1⟩
theorem z0t (a n:Int) (ha:InI a) (hn:InI n) (h:EmH S0 K r T rest l (k+1) J):Tri Tryz.prog zfs #[pAt r,.int .i64 a,.int .i64 n] K (EmQ S0 r T rest (l++[⟨4,⟨20,a,0,0,0⟩,0,n⟩]) k J):=by
 refine zdd [pAt r,.int .i64 a,.int .i64 n] (by kernel_rfl) (by kernel_rfl) ?_
 refine z04 z1i (zdh ⟨4,⟨20,a,0,0,0⟩,0,n⟩ ⟨(by decide:InI 4),⟨(by decide:InI 20),ha,i0J,i0J,i0J⟩,i0J,hn⟩ h) ?_
 rintro e K1 ⟨rfl,h1⟩
 exact ⟨_,[],rfl,rfl,rfl,z01,rfl,h1⟩
theorem Zd3 (a n:Int) (ha:InI a) (hn:InI n) (h:EmH S0 K r T rest l (k+1) J):Tri Tryz.prog zif #[pAt r,.int .i64 a,.int .i64 n] K (EmQ S0 r T rest (l++[⟨5,⟨20,a,0,0,0⟩,n,0⟩]) k J):=by
 refine zeq [pAt r,.int .i64 a,.int .i64 n] (by kernel_rfl) (by kernel_rfl) ?_
 refine z04 z1i (zdh ⟨5,⟨20,a,0,0,0⟩,n,0⟩ ⟨(by decide:InI 5),⟨(by decide:InI 20),ha,i0J,i0J,i0J⟩,hn,i0J⟩ h) ?_
 rintro e K1 ⟨rfl,h1⟩
 exact ⟨_,[],rfl,rfl,rfl,z01,rfl,h1⟩
theorem z9t (a n:Int) (ha:InI a) (hn:InI n) (h:EmH S0 K r T rest l (k+1) J):Tri Tryz.prog zjv #[pAt r,.int .i64 a,.int .i64 n] K (EmQ S0 r T rest (l++[⟨3,⟨28,a,0,0,0⟩,n,0⟩]) k J):=by
 refine zgu [pAt r,.int .i64 a,.int .i64 n] (by kernel_rfl) (by kernel_rfl) ?_
 refine z04 z1i (zdh ⟨3,⟨28,a,0,0,0⟩,n,0⟩ ⟨(by decide:InI 3),⟨(by decide:InI 28),ha,i0J,i0J,i0J⟩,hn,i0J⟩ h) ?_
 rintro e K1 ⟨rfl,h1⟩
 exact ⟨_,[],rfl,rfl,rfl,z01,rfl,h1⟩
theorem If_em (op x y n:Int) (ho:InI op) (hx:InI x) (hy:InI y) (hn:InI n) (h:EmH S0 K r T rest l (k+1) J):Tri Tryz.prog zm2 #[pAt r,.int .i64 op,.int .i64 x,.int .i64 y,.int .i64 n] K (EmQ S0 r T rest (l++[⟨2,⟨op,x,y,0,0⟩,n,0⟩]) k J):=by
 refine zil [pAt r,.int .i64 op,.int .i64 x,.int .i64 y,.int .i64 n] (by kernel_rfl) (by kernel_rfl) ?_
 refine z04 z1i (zdh ⟨2,⟨op,x,y,0,0⟩,n,0⟩ ⟨(by decide:InI 2),⟨ho,hx,hy,i0J,i0J⟩,hn,i0J⟩ h) ?_
 rintro e K1 ⟨rfl,h1⟩
 exact ⟨_,[],rfl,rfl,rfl,z01,rfl,h1⟩
theorem z5q (a x:Int) (ha:InI a) (hx:InI x) (h:EmH S0 K r T rest l (k+1) J):Tri Tryz.prog zjc #[pAt r,.int .i64 a,.int .i64 x] K (EmQ S0 r T rest (l++[⟨0,⟨15,a,x,0,0⟩,0,0⟩]) k J):=by
 refine zgj [pAt r,.int .i64 a,.int .i64 x] (by kernel_rfl) (by kernel_rfl) ?_
 refine z04 z03 (z0g 15 a x 0 (by decide) ha hx i0J h) ?_
 rintro e K1 ⟨rfl,h1⟩
 exact ⟨_,[],rfl,rfl,rfl,z01,rfl,h1⟩
theorem z19 (a x n:Int) (ha:InI a) (hx:InI x) (hn:InI n) (h:EmH S0 K r T rest l (k+1) J):Tri Tryz.prog z96 #[pAt r,.int .i64 a,.int .i64 x,.int .i64 n] K (EmQ S0 r T rest (l++[⟨0,⟨22,a,x,0,n⟩,0,0⟩]) k J):=by
 refine zgm [pAt r,.int .i64 a,.int .i64 x,.int .i64 n] (by kernel_rfl) (by kernel_rfl) ?_
 refine z04 z03 (z0g 22 a x n (by decide) ha hx hn h) ?_
 rintro e K1 ⟨rfl,h1⟩
 exact ⟨_,[],rfl,rfl,rfl,z01,rfl,h1⟩
theorem z0y (a x n:Int) (ha:InI a) (hx:InI x) (hn:InI n) (h:EmH S0 K r T rest l (k+1) J):Tri Tryz.prog z8h #[pAt r,.int .i64 a,.int .i64 x,.int .i64 n] K (EmQ S0 r T rest (l++[⟨0,⟨23,a,x,0,n⟩,0,0⟩]) k J):=by
 refine zea [pAt r,.int .i64 a,.int .i64 x,.int .i64 n] (by kernel_rfl) (by kernel_rfl) ?_
 refine z04 z03 (z0g 23 a x n (by decide) ha hx hn h) ?_
 rintro e K1 ⟨rfl,h1⟩
 exact ⟨_,[],rfl,rfl,rfl,z01,rfl,h1⟩
theorem z3s (n:Int) (hn:InI n) (h:EmH S0 K r T rest l (k+1) J):Tri Tryz.prog zjt #[pAt r,.int .i64 n] K (EmQ S0 r T rest (l++[⟨3,⟨28,0,0,0,0⟩,n,0⟩]) k J):=by
 refine zgp [pAt r,.int .i64 n] (by kernel_rfl) (by kernel_rfl) ?_
 refine z04 z1d (z9t 0 n i0J hn h) ?_
 rintro e K1 ⟨rfl,h1⟩
 exact ⟨_,[],rfl,rfl,rfl,z01,rfl,h1⟩
theorem z9x (x:Int) (hx:InI x) (h:EmH S0 K r T rest l (k+1) J):Tri Tryz.prog zjd #[pAt r,.int .i64 x] K (EmQ S0 r T rest (l++[⟨0,⟨29,0,x,0,0⟩,0,0⟩]) k J):=by
 refine zgo [pAt r,.int .i64 x] (by kernel_rfl) (by kernel_rfl) ?_
 refine z04 z03 (z0g 29 0 x 0 (by decide) i0J hx i0J h) ?_
 rintro e K1 ⟨rfl,h1⟩
 exact ⟨_,[],rfl,rfl,rfl,z01,rfl,h1⟩
theorem Z4f (a n:Int) (ha:InI a) (hn:InI n) (h:EmH S0 K r T rest l (k+2) J):Tri Tryz.prog zjn #[pAt r,.int .i64 a,.int .i64 n] K (EmQ S0 r T rest (l++[⟨4,⟨20,a,0,0,0⟩,0,n⟩]++[⟨0,⟨0,a,0,0,0⟩,0,0⟩]) k J):=by
 refine zfy [pAt r,.int .i64 a,.int .i64 n] (by kernel_rfl) (by kernel_rfl) ?_
 refine z04 z08 (z0t a n ha hn h) ?_
 rintro e K1 ⟨rfl,h1⟩
 refine ⟨_,[],rfl,rfl,rfl,z01,?_⟩
 simp only [zan]
 refine z04 z03 (z0g 0 a 0 0 (by decide) ha i0J i0J h1) ?_
 rintro e K2 ⟨rfl,h2⟩
 exact ⟨_,[],rfl,rfl,rfl,z01,rfl,h2⟩
end
section
variable {S0 K:PH} {r:Nat} {T:TypeId} {rest:List Value} {l:List ItemR} {k:Nat} {J:List Itm}
theorem EmH.le {K':PH} (h:EmH S0 K r T rest l k J) (hl:PH.le K K'):EmH S0 K' r T rest l k J:=by
 obtain ⟨h1,S,iv,h2,h3⟩:=h
 exact ⟨h1,S,iv,h2,h3.le hl⟩
theorem EmH.re {k':Nat} (h:EmH S0 K r T rest l k J) (hl:l.length+k'≤1099511627776):EmH S0 K r T rest l k' J:=⟨hl,h.2⟩
theorem z02 {P:Program} {X:List PanicEntry→PH→Prop} {β:Type} {E:List Value} {L:LK} {Q:β→List Value→PH→LK→Prop} {H:PH} {f:FuncId} {args:List VE} {g:Fm β} (hok:callB P f=true)
  (hc:Tri P f (args.map (evV E fun _=>0)).toArray H (EmQ S0 r T rest l k J)) (hk:∀K',EmH S0 K' r T rest l k J→den P X g E K' L Q):den P X (.call (.fn f) args (.tu []) [] g) E H L Q:=by
 refine z04 hok hc ?_
 rintro e K' ⟨rfl,h⟩
 exact ⟨_,[],rfl,rfl,rfl,z01,by rw [zan];exact hk K' h⟩
theorem z7c (e v:Int) (hv:arI .add .i64 11 (arI .sub .i64 e 80)=v) (H:PH):Gives Tryz.prog zzd [.int .i64 e] H (.int .i64 v):=by
 subst hv
 refine zuq [.int .i64 e] (by kernel_rfl) (by kernel_rfl) ?_
 exact ⟨rfl,PH.le_refl _⟩
theorem zqt (a b v:Int) (hv:arI .or .i64 (arI .shl .i64 (arI .or .i64 (arI .shl .i64 b 3) a) 3) 7=v) (H:PH):Gives Tryz.prog Z8j [.int .i64 a,.int .i64 b] H (.int .i64 v):=by
 subst hv
 refine Z3p [.int .i64 a,.int .i64 b] (by kernel_rfl) (by kernel_rfl) ?_
 exact ⟨rfl,PH.le_refl _⟩
def z8y (a1 a2 a3:Int):List ItemR:=[⟨5,⟨20,a1,0,0,0⟩,a2,0⟩,⟨0,⟨18,a1,a1,0,a3⟩,0,0⟩]
theorem zdr (a1 a2 a3:Int) (b1:InI a1) (b2:InI a2) (b3:InI a3) (h0:EmH S0 K r T rest l (k+2) J):Tri Tryz.prog Z48 #[pAt r,.int .i64 a1,.int .i64 a2,.int .i64 a3] K (EmQ S0 r T rest (l++z8y a1 a2 a3) k J):=by
 refine zy2 [pAt r,.int .i64 a1,.int .i64 a2,.int .i64 a3] (by kernel_rfl) (by kernel_rfl) ?_
 refine z02 zgf (Zd3 a1 a2 b1 b2 h0) fun K1 h1=>?_
 refine z02 z03 (z0g 18 a1 a1 a3 (by decide) b1 b1 b3 h1) fun K2 h2=>?_
 exact ⟨rfl,by simpa only [z8y,zaa,List.cons_append,List.nil_append] using h2⟩
def zir (a1:Int):List ItemR:=[⟨4,⟨20,26,0,0,0⟩,0,a1⟩,⟨3,⟨28,31,0,0,0⟩,2,0⟩]
theorem zsj (a1:Int) (b1:InI a1) (h0:EmH S0 K r T rest l (k+2) J):Tri Tryz.prog Z9o #[pAt r,.int .i64 a1] K (EmQ S0 r T rest (l++zir a1) k J):=by
 refine Z36 [pAt r,.int .i64 a1] (by kernel_rfl) (by kernel_rfl) ?_
 refine z02 z08 (z0t 26 a1 (by decide) b1 h0) fun K1 h1=>?_
 refine z02 z1d (z9t 31 2 (by decide) (by decide) h1) fun K2 h2=>?_
 exact ⟨rfl,by simpa only [zir,zaa,List.cons_append,List.nil_append] using h2⟩
def zjb (a1 a2:Int):List ItemR:=[⟨0,⟨18,a1,29,0,3⟩,0,0⟩,⟨0,⟨17,a1,a1,0,1⟩,0,0⟩,⟨0,⟨15,29,29,0,a2⟩,0,0⟩]
theorem zrm (a1 a2:Int) (b1:InI a1) (b2:InI a2) (h0:EmH S0 K r T rest l (k+3) J):Tri Tryz.prog Z8b #[pAt r,.int .i64 a1,.int .i64 a2] K (EmQ S0 r T rest (l++zjb a1 a2) k J):=by
 refine Z29 [pAt r,.int .i64 a1,.int .i64 a2] (by kernel_rfl) (by kernel_rfl) ?_
 refine z02 z03 (z0g 18 a1 29 3 (by decide) b1 (by decide) (by decide) h0) fun K1 h1=>?_
 refine z02 z03 (z0g 17 a1 a1 1 (by decide) b1 b1 (by decide) h1) fun K2 h2=>?_
 refine z02 z03 (z0g 15 29 29 a2 (by decide) (by decide) (by decide) b2 h2) fun K3 h3=>?_
 exact ⟨rfl,by simpa only [zjb,zaa,List.cons_append,List.nil_append] using h3⟩
def zll:List ItemR:=[⟨0,⟨22,26,30,0,-1⟩,0,0⟩,⟨0,⟨19,26,26,0,3⟩,0,0⟩,⟨0,⟨16,26,26,0,4095⟩,0,0⟩,⟨0,⟨15,27,26,0,2⟩,0,0⟩,⟨0,⟨18,27,27,0,3⟩,0,0⟩,⟨0,⟨17,27,27,0,6⟩,0,0⟩,⟨0,⟨18,27,27,0,3⟩,0,0⟩,⟨0,⟨17,27,27,0,7⟩,0,0⟩,⟨0,⟨23,27,29,0,0⟩,0,0⟩,⟨0,⟨15,26,26,0,1⟩,0,0⟩,⟨0,⟨2,28,30,26,0⟩,0,0⟩,⟨4,⟨20,27,0,0,0⟩,0,33⟩,⟨2,⟨24,28,27,0,0⟩,2005,0⟩,⟨0,⟨1,27,29,26,0⟩,0,0⟩,⟨0,⟨15,27,27,0,2⟩,0,0⟩,⟨0,⟨18,27,27,0,3⟩,0,0⟩,⟨0,⟨17,27,27,0,1⟩,0,0⟩,⟨0,⟨23,27,29,0,1⟩,0,0⟩,⟨3,⟨28,0,0,0,0⟩,2006,0⟩,⟨1,⟨0,0,0,0,0⟩,2005,0⟩,⟨0,⟨23,31,29,0,1⟩,0,0⟩,⟨1,⟨0,0,0,0,0⟩,2006,0⟩,⟨0,⟨15,29,29,0,2⟩,0,0⟩,⟨0,⟨15,30,28,0,0⟩,0,0⟩,⟨1,⟨0,0,0,0,0⟩,2002,0⟩,⟨2,⟨24,26,0,0,0⟩,2003,0⟩,⟨0,⟨22,27,30,0,0⟩,0,0⟩,⟨0,⟨23,27,29,0,0⟩,0,0⟩,⟨0,⟨15,30,30,0,1⟩,0,0⟩,⟨0,⟨15,29,29,0,1⟩,0,0⟩,⟨0,⟨15,26,26,0,-1⟩,0,0⟩,⟨3,⟨28,0,0,0,0⟩,2002,0⟩,⟨1,⟨0,0,0,0,0⟩,2003,0⟩,⟨0,⟨15,30,28,0,0⟩,0,0⟩]
theorem Z2l (h0:EmH S0 K r T rest l (k+34) J):Tri Tryz.prog Z6d #[pAt r] K (EmQ S0 r T rest (l++zll) k J):=by
 refine zzm [pAt r] (by kernel_rfl) (by kernel_rfl) ?_
 refine z02 z0a (z19 26 30 (-1) (by decide) (by decide) (by decide) h0) fun K1 h1=>?_
 refine z02 z03 (z0g 19 26 26 3 (by decide) (by decide) (by decide) (by decide) h1) fun K2 h2=>?_
 refine z02 z03 (z0g 16 26 26 4095 (by decide) (by decide) (by decide) (by decide) h2) fun K3 h3=>?_
 refine z02 z03 (z0g 15 27 26 2 (by decide) (by decide) (by decide) (by decide) h3) fun K4 h4=>?_
 refine z02 z03 (z0g 18 27 27 3 (by decide) (by decide) (by decide) (by decide) h4) fun K5 h5=>?_
 refine z02 z03 (z0g 17 27 27 6 (by decide) (by decide) (by decide) (by decide) h5) fun K6 h6=>?_
 refine z02 z03 (z0g 18 27 27 3 (by decide) (by decide) (by decide) (by decide) h6) fun K7 h7=>?_
 refine z02 z03 (z0g 17 27 27 7 (by decide) (by decide) (by decide) (by decide) h7) fun K8 h8=>?_
 refine z02 z09 (z0y 27 29 0 (by decide) (by decide) (by decide) h8) fun K9 h9=>?_
 refine z02 z03 (z0g 15 26 26 1 (by decide) (by decide) (by decide) (by decide) h9) fun K10 h10=>?_
 refine z02 z1l (zac 2 28 30 26 (by decide) (by decide) (by decide) (by decide) h10) fun K11 h11=>?_
 refine z02 z08 (z0t 27 33 (by decide) (by decide) h11) fun K12 h12=>?_
 refine z02 z0i (If_em 24 28 27 2005 (by decide) (by decide) (by decide) (by decide) h12) fun K13 h13=>?_
 refine z02 z1l (zac 1 27 29 26 (by decide) (by decide) (by decide) (by decide) h13) fun K14 h14=>?_
 refine z02 z03 (z0g 15 27 27 2 (by decide) (by decide) (by decide) (by decide) h14) fun K15 h15=>?_
 refine z02 z03 (z0g 18 27 27 3 (by decide) (by decide) (by decide) (by decide) h15) fun K16 h16=>?_
 refine z02 z03 (z0g 17 27 27 1 (by decide) (by decide) (by decide) (by decide) h16) fun K17 h17=>?_
 refine z02 z09 (z0y 27 29 1 (by decide) (by decide) (by decide) h17) fun K18 h18=>?_
 refine z02 z0q (z3s 2006 (by decide) h18) fun K19 h19=>?_
 refine z02 z07 (z0r 2005 (by decide) h19) fun K20 h20=>?_
 refine z02 z09 (z0y 31 29 1 (by decide) (by decide) (by decide) h20) fun K21 h21=>?_
 refine z02 z07 (z0r 2006 (by decide) h21) fun K22 h22=>?_
 refine z02 z03 (z0g 15 29 29 2 (by decide) (by decide) (by decide) (by decide) h22) fun K23 h23=>?_
 refine z02 z0z (z5q 30 28 (by decide) (by decide) h23) fun K24 h24=>?_
 refine z02 z07 (z0r 2002 (by decide) h24) fun K25 h25=>?_
 refine z02 z0i (If_em 24 26 0 2003 (by decide) (by decide) (by decide) (by decide) h25) fun K26 h26=>?_
 refine z02 z0a (z19 27 30 0 (by decide) (by decide) (by decide) h26) fun K27 h27=>?_
 refine z02 z09 (z0y 27 29 0 (by decide) (by decide) (by decide) h27) fun K28 h28=>?_
 refine z02 z03 (z0g 15 30 30 1 (by decide) (by decide) (by decide) (by decide) h28) fun K29 h29=>?_
 refine z02 z03 (z0g 15 29 29 1 (by decide) (by decide) (by decide) (by decide) h29) fun K30 h30=>?_
 refine z02 z03 (z0g 15 26 26 (-1) (by decide) (by decide) (by decide) (by decide) h30) fun K31 h31=>?_
 refine z02 z0q (z3s 2002 (by decide) h31) fun K32 h32=>?_
 refine z02 z07 (z0r 2003 (by decide) h32) fun K33 h33=>?_
 refine z02 z0z (z5q 30 28 (by decide) (by decide) h33) fun K34 h34=>?_
 exact ⟨rfl,by simpa only [zll,zaa,List.cons_append,List.nil_append] using h34⟩
def zf4:List ItemR:=[⟨1,⟨0,0,0,0,0⟩,9,0⟩,⟨0,⟨22,29,0,0,28⟩,0,0⟩]++z8y 27 5 15++[⟨0,⟨23,27,0,0,32⟩,0,0⟩,⟨4,⟨20,30,0,0,0⟩,0,33⟩,⟨4,⟨20,27,0,0,0⟩,0,18⟩,⟨0,⟨23,27,0,0,25⟩,0,0⟩,⟨0,⟨23,27,0,0,26⟩,0,0⟩]++zir 2++[⟨4,⟨20,27,0,0,0⟩,0,111⟩,⟨0,⟨23,27,29,0,0⟩,0,0⟩]++z8y 27 10 3++[⟨0,⟨23,27,29,0,1⟩,0,0⟩]++zjb 25 2++[⟨4,⟨20,28,0,0,0⟩,0,0⟩,⟨3,⟨28,0,0,0,0⟩,10,0⟩]
theorem Z2n (h0:EmH S0 K r T rest l (k+21) J):Tri Tryz.prog Z7l #[pAt r] K (EmQ S0 r T rest (l++zf4) k J):=by
 refine zze [pAt r] (by kernel_rfl) (by kernel_rfl) ?_
 refine z02 z07 (z0r 9 (by decide) h0) fun K1 h1=>?_
 refine z02 z0a (z19 29 0 28 (by decide) (by decide) (by decide) h1) fun K2 h2=>?_
 refine z02 zde (zdr 27 5 15 (by decide) (by decide) (by decide) h2) fun K3 h3=>?_
 refine z02 z09 (z0y 27 0 32 (by decide) (by decide) (by decide) h3) fun K4 h4=>?_
 refine z02 z08 (z0t 30 33 (by decide) (by decide) h4) fun K5 h5=>?_
 refine z02 z08 (z0t 27 18 (by decide) (by decide) h5) fun K6 h6=>?_
 refine z02 z09 (z0y 27 0 25 (by decide) (by decide) (by decide) h6) fun K7 h7=>?_
 refine z02 z09 (z0y 27 0 26 (by decide) (by decide) (by decide) h7) fun K8 h8=>?_
 refine z02 zry (zsj 2 (by decide) h8) fun K9 h9=>?_
 refine z05 [.int .i64 111] zte (zqt 5 1 111 (by kernel_rfl) _) rfl z01 fun K10 l10=>?_
 have h10:=h9.le l10
 simp only [cns]
 refine z02 z08 (z0t 27 111 (by decide) (by decide) h10) fun K11 h11=>?_
 refine z02 z09 (z0y 27 29 0 (by decide) (by decide) (by decide) h11) fun K12 h12=>?_
 refine z02 zde (zdr 27 10 3 (by decide) (by decide) (by decide) h12) fun K13 h13=>?_
 refine z02 z09 (z0y 27 29 1 (by decide) (by decide) (by decide) h13) fun K14 h14=>?_
 refine z02 zqr (zrm 25 2 (by decide) (by decide) h14) fun K15 h15=>?_
 refine z02 z08 (z0t 28 0 (by decide) (by decide) h15) fun K16 h16=>?_
 refine z02 z0q (z3s 10 (by decide) h16) fun K17 h17=>?_
 exact ⟨rfl,by simpa only [zf4,zaa,List.cons_append,List.nil_append] using h17⟩
def zju:List ItemR:=[⟨1,⟨0,0,0,0,0⟩,2,0⟩,⟨0,⟨1,27,29,26,0⟩,0,0⟩,⟨0,⟨22,28,0,0,29⟩,0,0⟩,⟨2,⟨26,28,27,0,0⟩,1,0⟩,⟨0,⟨29,0,31,0,0⟩,0,0⟩,⟨1,⟨0,0,0,0,0⟩,3,0⟩,⟨0,⟨16,26,25,0,7⟩,0,0⟩,⟨4,⟨20,27,0,0,0⟩,0,1⟩,⟨2,⟨25,26,27,0,0⟩,21,0⟩,⟨0,⟨19,26,25,0,3⟩,0,0⟩,⟨0,⟨22,27,26,0,0⟩,0,0⟩,⟨0,⟨19,27,27,0,3⟩,0,0⟩,⟨0,⟨16,27,27,0,7⟩,0,0⟩,⟨4,⟨20,31,0,0,0⟩,0,5⟩,⟨2,⟨24,27,31,0,0⟩,2009,0⟩,⟨4,⟨20,31,0,0,0⟩,0,7⟩,⟨2,⟨25,27,31,0,0⟩,21,0⟩,⟨1,⟨0,0,0,0,0⟩,2009,0⟩,⟨0,⟨22,26,26,0,1⟩,0,0⟩,⟨0,⟨19,26,26,0,3⟩,0,0⟩,⟨0,⟨29,0,26,0,0⟩,0,0⟩,⟨1,⟨0,0,0,0,0⟩,4,0⟩,⟨0,⟨22,26,30,0,-1⟩,0,0⟩,⟨0,⟨19,26,26,0,15⟩,0,0⟩,⟨0,⟨29,0,26,0,0⟩,0,0⟩]
theorem Z7p (h0:EmH S0 K r T rest l (k+25) J):Tri Tryz.prog Z8n #[pAt r] K (EmQ S0 r T rest (l++zju) k J):=by
 refine Z2t [pAt r] (by kernel_rfl) (by kernel_rfl) ?_
 refine z02 z07 (z0r 2 (by decide) h0) fun K1 h1=>?_
 refine z02 z1l (zac 1 27 29 26 (by decide) (by decide) (by decide) (by decide) h1) fun K2 h2=>?_
 refine z02 z0a (z19 28 0 29 (by decide) (by decide) (by decide) h2) fun K3 h3=>?_
 refine z02 z0i (If_em 26 28 27 1 (by decide) (by decide) (by decide) (by decide) h3) fun K4 h4=>?_
 refine z02 z1e (z9x 31 (by decide) h4) fun K5 h5=>?_
 refine z02 z07 (z0r 3 (by decide) h5) fun K6 h6=>?_
 refine z02 z03 (z0g 16 26 25 7 (by decide) (by decide) (by decide) (by decide) h6) fun K7 h7=>?_
 refine z02 z08 (z0t 27 1 (by decide) (by decide) h7) fun K8 h8=>?_
 refine z05 [.int .i64 21] z7a (z7c 90 21 (by kernel_rfl) _) rfl z01 fun K9 l9=>?_
 have h9:=h8.le l9
 simp only [cns]
 refine z02 z0i (If_em 25 26 27 21 (by decide) (by decide) (by decide) (by decide) h9) fun K10 h10=>?_
 refine z02 z03 (z0g 19 26 25 3 (by decide) (by decide) (by decide) (by decide) h10) fun K11 h11=>?_
 refine z02 z0a (z19 27 26 0 (by decide) (by decide) (by decide) h11) fun K12 h12=>?_
 refine z02 z03 (z0g 19 27 27 3 (by decide) (by decide) (by decide) (by decide) h12) fun K13 h13=>?_
 refine z02 z03 (z0g 16 27 27 7 (by decide) (by decide) (by decide) (by decide) h13) fun K14 h14=>?_
 refine z02 z08 (z0t 31 5 (by decide) (by decide) h14) fun K15 h15=>?_
 refine z02 z0i (If_em 24 27 31 2009 (by decide) (by decide) (by decide) (by decide) h15) fun K16 h16=>?_
 refine z02 z08 (z0t 31 7 (by decide) (by decide) h16) fun K17 h17=>?_
 refine z05 [.int .i64 21] z7a (z7c 90 21 (by kernel_rfl) _) rfl z01 fun K18 l18=>?_
 have h18:=h17.le l18
 simp only [cns]
 refine z02 z0i (If_em 25 27 31 21 (by decide) (by decide) (by decide) (by decide) h18) fun K19 h19=>?_
 refine z02 z07 (z0r 2009 (by decide) h19) fun K20 h20=>?_
 refine z02 z0a (z19 26 26 1 (by decide) (by decide) (by decide) h20) fun K21 h21=>?_
 refine z02 z03 (z0g 19 26 26 3 (by decide) (by decide) (by decide) (by decide) h21) fun K22 h22=>?_
 refine z02 z1e (z9x 26 (by decide) h22) fun K23 h23=>?_
 refine z02 z07 (z0r 4 (by decide) h23) fun K24 h24=>?_
 refine z02 z0a (z19 26 30 (-1) (by decide) (by decide) (by decide) h24) fun K25 h25=>?_
 refine z02 z03 (z0g 19 26 26 15 (by decide) (by decide) (by decide) (by decide) h25) fun K26 h26=>?_
 refine z02 z1e (z9x 26 (by decide) h26) fun K27 h27=>?_
 exact ⟨rfl,by simpa only [zju,zaa,List.cons_append,List.nil_append] using h27⟩
def zfj:List ItemR:=[⟨1,⟨0,0,0,0,0⟩,6,0⟩,⟨4,⟨20,26,0,0,0⟩,0,33⟩,⟨2,⟨25,26,30,0,0⟩,2000,0⟩,⟨0,⟨29,0,31,0,0⟩,0,0⟩,⟨1,⟨0,0,0,0,0⟩,2000,0⟩,⟨0,⟨23,31,0,0,27⟩,0,0⟩,⟨0,⟨15,26,30,0,-33⟩,0,0⟩,⟨0,⟨18,27,26,0,1⟩,0,0⟩,⟨0,⟨1,26,26,27,0⟩,0,0⟩,⟨3,⟨28,31,0,0,0⟩,2,0⟩,⟨0,⟨22,31,0,0,25⟩,0,0⟩,⟨0,⟨18,27,29,0,3⟩,0,0⟩,⟨0,⟨17,27,27,0,1⟩,0,0⟩,⟨0,⟨23,27,0,0,25⟩,0,0⟩,⟨1,⟨0,0,0,0,0⟩,2001,0⟩]++zll++[⟨4,⟨20,27,0,0,0⟩,0,33⟩,⟨2,⟨25,30,27,0,0⟩,2001,0⟩,⟨0,⟨22,31,0,0,27⟩,0,0⟩,⟨0,⟨29,0,31,0,0⟩,0,0⟩]
theorem Z3e (h0:EmH S0 K r T rest l (k+53) J):Tri Tryz.prog Z5r #[pAt r] K (EmQ S0 r T rest (l++zfj) k J):=by
 refine Z04 [pAt r] (by kernel_rfl) (by kernel_rfl) ?_
 refine z02 z07 (z0r 6 (by decide) h0) fun K1 h1=>?_
 refine z02 z08 (z0t 26 33 (by decide) (by decide) h1) fun K2 h2=>?_
 refine z02 z0i (If_em 25 26 30 2000 (by decide) (by decide) (by decide) (by decide) h2) fun K3 h3=>?_
 refine z02 z1e (z9x 31 (by decide) h3) fun K4 h4=>?_
 refine z02 z07 (z0r 2000 (by decide) h4) fun K5 h5=>?_
 refine z02 z09 (z0y 31 0 27 (by decide) (by decide) (by decide) h5) fun K6 h6=>?_
 refine z02 z03 (z0g 15 26 30 (-33) (by decide) (by decide) (by decide) (by decide) h6) fun K7 h7=>?_
 refine z02 z03 (z0g 18 27 26 1 (by decide) (by decide) (by decide) (by decide) h7) fun K8 h8=>?_
 refine z02 z1l (zac 1 26 26 27 (by decide) (by decide) (by decide) (by decide) h8) fun K9 h9=>?_
 refine z02 z1d (z9t 31 2 (by decide) (by decide) h9) fun K10 h10=>?_
 refine z02 z0a (z19 31 0 25 (by decide) (by decide) (by decide) h10) fun K11 h11=>?_
 refine z02 z03 (z0g 18 27 29 3 (by decide) (by decide) (by decide) (by decide) h11) fun K12 h12=>?_
 refine z02 z03 (z0g 17 27 27 1 (by decide) (by decide) (by decide) (by decide) h12) fun K13 h13=>?_
 refine z02 z09 (z0y 27 0 25 (by decide) (by decide) (by decide) h13) fun K14 h14=>?_
 refine z02 z07 (z0r 2001 (by decide) h14) fun K15 h15=>?_
 refine z02 Z2g (Z2l   h15) fun K16 h16=>?_
 refine z02 z08 (z0t 27 33 (by decide) (by decide) h16) fun K17 h17=>?_
 refine z02 z0i (If_em 25 30 27 2001 (by decide) (by decide) (by decide) (by decide) h17) fun K18 h18=>?_
 refine z02 z0a (z19 31 0 27 (by decide) (by decide) (by decide) h18) fun K19 h19=>?_
 refine z02 z1e (z9x 31 (by decide) h19) fun K20 h20=>?_
 exact ⟨rfl,by simpa only [zfj,zaa,List.cons_append,List.nil_append] using h20⟩
def z7b:List ItemR:=[⟨1,⟨0,0,0,0,0⟩,5,0⟩,⟨0,⟨22,26,0,0,25⟩,0,0⟩,⟨4,⟨20,27,0,0,0⟩,0,18⟩,⟨2,⟨25,26,27,0,0⟩,2007,0⟩,⟨0,⟨0,0,0,0,0⟩,0,0⟩,⟨1,⟨0,0,0,0,0⟩,2007,0⟩,⟨0,⟨19,26,26,0,3⟩,0,0⟩,⟨0,⟨22,27,26,0,1⟩,0,0⟩,⟨0,⟨23,27,0,0,25⟩,0,0⟩,⟨0,⟨22,27,26,0,0⟩,0,0⟩,⟨0,⟨19,27,27,0,6⟩,0,0⟩,⟨0,⟨1,27,27,26,0⟩,0,0⟩,⟨0,⟨15,26,26,0,2⟩,0,0⟩,⟨4,⟨20,30,0,0,0⟩,0,33⟩,⟨1,⟨0,0,0,0,0⟩,2004,0⟩,⟨2,⟨26,27,26,0,0⟩,2008,0⟩,⟨0,⟨22,28,26,0,0⟩,0,0⟩,⟨0,⟨23,28,30,0,0⟩,0,0⟩,⟨0,⟨15,26,26,0,1⟩,0,0⟩,⟨0,⟨15,30,30,0,1⟩,0,0⟩,⟨3,⟨28,0,0,0,0⟩,2004,0⟩,⟨1,⟨0,0,0,0,0⟩,2008,0⟩,⟨3,⟨28,0,0,0,0⟩,4,0⟩]
theorem ztc (h0:EmH S0 K r T rest l (k+23) J):Tri Tryz.prog zvr #[pAt r] K (EmQ S0 r T rest (l++z7b) k J):=by
 refine zph [pAt r] (by kernel_rfl) (by kernel_rfl) ?_
 refine z02 z07 (z0r 5 (by decide) h0) fun K1 h1=>?_
 refine z02 z0a (z19 26 0 25 (by decide) (by decide) (by decide) h1) fun K2 h2=>?_
 refine z02 z08 (z0t 27 18 (by decide) (by decide) h2) fun K3 h3=>?_
 refine z02 z0i (If_em 25 26 27 2007 (by decide) (by decide) (by decide) (by decide) h3) fun K4 h4=>?_
 refine z02 z03 (z0g 0 0 0 0 (by decide) (by decide) (by decide) (by decide) h4) fun K5 h5=>?_
 refine z02 z07 (z0r 2007 (by decide) h5) fun K6 h6=>?_
 refine z02 z03 (z0g 19 26 26 3 (by decide) (by decide) (by decide) (by decide) h6) fun K7 h7=>?_
 refine z02 z0a (z19 27 26 1 (by decide) (by decide) (by decide) h7) fun K8 h8=>?_
 refine z02 z09 (z0y 27 0 25 (by decide) (by decide) (by decide) h8) fun K9 h9=>?_
 refine z02 z0a (z19 27 26 0 (by decide) (by decide) (by decide) h9) fun K10 h10=>?_
 refine z02 z03 (z0g 19 27 27 6 (by decide) (by decide) (by decide) (by decide) h10) fun K11 h11=>?_
 refine z02 z1l (zac 1 27 27 26 (by decide) (by decide) (by decide) (by decide) h11) fun K12 h12=>?_
 refine z02 z03 (z0g 15 26 26 2 (by decide) (by decide) (by decide) (by decide) h12) fun K13 h13=>?_
 refine z02 z08 (z0t 30 33 (by decide) (by decide) h13) fun K14 h14=>?_
 refine z02 z07 (z0r 2004 (by decide) h14) fun K15 h15=>?_
 refine z02 z0i (If_em 26 27 26 2008 (by decide) (by decide) (by decide) (by decide) h15) fun K16 h16=>?_
 refine z02 z0a (z19 28 26 0 (by decide) (by decide) (by decide) h16) fun K17 h17=>?_
 refine z02 z09 (z0y 28 30 0 (by decide) (by decide) (by decide) h17) fun K18 h18=>?_
 refine z02 z03 (z0g 15 26 26 1 (by decide) (by decide) (by decide) (by decide) h18) fun K19 h19=>?_
 refine z02 z03 (z0g 15 30 30 1 (by decide) (by decide) (by decide) (by decide) h19) fun K20 h20=>?_
 refine z02 z0q (z3s 2004 (by decide) h20) fun K21 h21=>?_
 refine z02 z07 (z0r 2008 (by decide) h21) fun K22 h22=>?_
 refine z02 z0q (z3s 4 (by decide) h22) fun K23 h23=>?_
 exact ⟨rfl,by simpa only [z7b,zaa,List.cons_append,List.nil_append] using h23⟩
def zfb:List ItemR:=[⟨1,⟨0,0,0,0,0⟩,7,0⟩,⟨3,⟨28,31,0,0,0⟩,6,0⟩]++zir 3++[⟨4,⟨20,27,0,0,0⟩,0,191⟩,⟨0,⟨23,27,29,0,0⟩,0,0⟩]++z8y 27 8 3++[⟨0,⟨23,27,29,0,1⟩,0,0⟩,⟨0,⟨22,27,0,0,25⟩,0,0⟩,⟨0,⟨23,27,29,0,2⟩,0,0⟩]++zjb 1 3++[⟨4,⟨20,28,0,0,0⟩,0,1⟩,⟨3,⟨28,0,0,0,0⟩,3,0⟩,⟨1,⟨0,0,0,0,0⟩,8,0⟩,⟨4,⟨20,26,0,0,0⟩,0,1⟩,⟨2,⟨25,26,28,0,0⟩,22,0⟩,⟨0,⟨19,26,25,0,3⟩,0,0⟩,⟨0,⟨22,27,26,0,2⟩,0,0⟩,⟨0,⟨23,27,0,0,25⟩,0,0⟩,⟨4,⟨20,30,0,0,0⟩,0,33⟩,⟨3,⟨28,0,0,0,0⟩,4,0⟩]
theorem Z32 (h0:EmH S0 K r T rest l (k+24) J):Tri Tryz.prog Z7u #[pAt r] K (EmQ S0 r T rest (l++zfb) k J):=by
 refine zyv [pAt r] (by kernel_rfl) (by kernel_rfl) ?_
 refine z02 z07 (z0r 7 (by decide) h0) fun K1 h1=>?_
 refine z02 z1d (z9t 31 6 (by decide) (by decide) h1) fun K2 h2=>?_
 refine z02 zry (zsj 3 (by decide) h2) fun K3 h3=>?_
 refine z05 [.int .i64 191] zte (zqt 7 2 191 (by kernel_rfl) _) rfl z01 fun K4 l4=>?_
 have h4:=h3.le l4
 simp only [cns]
 refine z02 z08 (z0t 27 191 (by decide) (by decide) h4) fun K5 h5=>?_
 refine z02 z09 (z0y 27 29 0 (by decide) (by decide) (by decide) h5) fun K6 h6=>?_
 refine z02 zde (zdr 27 8 3 (by decide) (by decide) (by decide) h6) fun K7 h7=>?_
 refine z02 z09 (z0y 27 29 1 (by decide) (by decide) (by decide) h7) fun K8 h8=>?_
 refine z02 z0a (z19 27 0 25 (by decide) (by decide) (by decide) h8) fun K9 h9=>?_
 refine z02 z09 (z0y 27 29 2 (by decide) (by decide) (by decide) h9) fun K10 h10=>?_
 refine z02 zqr (zrm 1 3 (by decide) (by decide) h10) fun K11 h11=>?_
 refine z02 z08 (z0t 28 1 (by decide) (by decide) h11) fun K12 h12=>?_
 refine z02 z0q (z3s 3 (by decide) h12) fun K13 h13=>?_
 refine z02 z07 (z0r 8 (by decide) h13) fun K14 h14=>?_
 refine z02 z08 (z0t 26 1 (by decide) (by decide) h14) fun K15 h15=>?_
 refine z05 [.int .i64 22] z7a (z7c 91 22 (by kernel_rfl) _) rfl z01 fun K16 l16=>?_
 have h16:=h15.le l16
 simp only [cns]
 refine z02 z0i (If_em 25 26 28 22 (by decide) (by decide) (by decide) (by decide) h16) fun K17 h17=>?_
 refine z02 z03 (z0g 19 26 25 3 (by decide) (by decide) (by decide) (by decide) h17) fun K18 h18=>?_
 refine z02 z0a (z19 27 26 2 (by decide) (by decide) (by decide) h18) fun K19 h19=>?_
 refine z02 z09 (z0y 27 0 25 (by decide) (by decide) (by decide) h19) fun K20 h20=>?_
 refine z02 z08 (z0t 30 33 (by decide) (by decide) h20) fun K21 h21=>?_
 refine z02 z0q (z3s 4 (by decide) h21) fun K22 h22=>?_
 exact ⟨rfl,by simpa only [zfb,zaa,List.cons_append,List.nil_append] using h22⟩
def ziw (a1 a2:Int):List ItemR:=[⟨0,⟨22,3,0,0,a1⟩,0,0⟩,⟨0,⟨22,4,0,0,a2⟩,0,0⟩,⟨0,⟨23,4,0,0,a1⟩,0,0⟩,⟨0,⟨23,3,0,0,a2⟩,0,0⟩]
theorem zt3 (a1 a2:Int) (b1:InI a1) (b2:InI a2) (h0:EmH S0 K r T rest l (k+4) J):Tri Tryz.prog Za9 #[pAt r,.int .i64 a1,.int .i64 a2] K (EmQ S0 r T rest (l++ziw a1 a2) k J):=by
 refine Z3v [pAt r,.int .i64 a1,.int .i64 a2] (by kernel_rfl) (by kernel_rfl) ?_
 refine z02 z0a (z19 3 0 a1 (by decide) (by decide) b1 h0) fun K1 h1=>?_
 refine z02 z0a (z19 4 0 a2 (by decide) (by decide) b2 h1) fun K2 h2=>?_
 refine z02 z09 (z0y 4 0 a1 (by decide) (by decide) b1 h2) fun K3 h3=>?_
 refine z02 z09 (z0y 3 0 a2 (by decide) (by decide) b2 h3) fun K4 h4=>?_
 exact ⟨rfl,by simpa only [ziw,zaa,List.cons_append,List.nil_append] using h4⟩
def zfp:List ItemR:=[⟨1,⟨0,0,0,0,0⟩,1003,0⟩,⟨2,⟨27,3,4,0,0⟩,1005,0⟩,⟨0,⟨22,6,3,0,0⟩,0,0⟩,⟨0,⟨16,7,6,0,7⟩,0,0⟩,⟨4,⟨20,8,0,0,0⟩,0,1⟩,⟨2,⟨25,7,8,0,0⟩,1004,0⟩,⟨0,⟨19,7,6,0,3⟩,0,0⟩,⟨0,⟨22,9,7,0,0⟩,0,0⟩,⟨0,⟨16,10,9,0,7⟩,0,0⟩,⟨2,⟨24,10,8,0,0⟩,1007,0⟩,⟨0,⟨19,10,9,0,6⟩,0,0⟩,⟨0,⟨18,6,1,0,3⟩,0,0⟩,⟨0,⟨17,6,6,0,1⟩,0,0⟩,⟨0,⟨23,9,1,0,0⟩,0,0⟩,⟨0,⟨23,6,7,0,0⟩,0,0⟩,⟨0,⟨23,6,3,0,0⟩,0,0⟩,⟨0,⟨15,1,1,0,1⟩,0,0⟩,⟨1,⟨0,0,0,0,0⟩,1006,0⟩,⟨2,⟨24,10,0,0,0⟩,1004,0⟩,⟨0,⟨15,7,7,0,1⟩,0,0⟩,⟨0,⟨22,9,7,0,0⟩,0,0⟩,⟨0,⟨23,9,1,0,0⟩,0,0⟩,⟨0,⟨15,1,1,0,1⟩,0,0⟩,⟨0,⟨15,10,10,0,-1⟩,0,0⟩,⟨3,⟨28,0,0,0,0⟩,1006,0⟩,⟨1,⟨0,0,0,0,0⟩,1007,0⟩,⟨0,⟨23,9,3,0,0⟩,0,0⟩,⟨1,⟨0,0,0,0,0⟩,1004,0⟩,⟨0,⟨15,3,3,0,1⟩,0,0⟩,⟨3,⟨28,0,0,0,0⟩,1003,0⟩,⟨1,⟨0,0,0,0,0⟩,1005,0⟩,⟨0,⟨29,0,5,0,0⟩,0,0⟩]
theorem zxa (h0:EmH S0 K r T rest l (k+32) J):Tri Tryz.prog Z0v #[pAt r] K (EmQ S0 r T rest (l++zfp) k J):=by
 refine zu2 [pAt r] (by kernel_rfl) (by kernel_rfl) ?_
 refine z02 z07 (z0r 1003 (by decide) h0) fun K1 h1=>?_
 refine z02 z0i (If_em 27 3 4 1005 (by decide) (by decide) (by decide) (by decide) h1) fun K2 h2=>?_
 refine z02 z0a (z19 6 3 0 (by decide) (by decide) (by decide) h2) fun K3 h3=>?_
 refine z02 z03 (z0g 16 7 6 7 (by decide) (by decide) (by decide) (by decide) h3) fun K4 h4=>?_
 refine z02 z08 (z0t 8 1 (by decide) (by decide) h4) fun K5 h5=>?_
 refine z02 z0i (If_em 25 7 8 1004 (by decide) (by decide) (by decide) (by decide) h5) fun K6 h6=>?_
 refine z02 z03 (z0g 19 7 6 3 (by decide) (by decide) (by decide) (by decide) h6) fun K7 h7=>?_
 refine z02 z0a (z19 9 7 0 (by decide) (by decide) (by decide) h7) fun K8 h8=>?_
 refine z02 z03 (z0g 16 10 9 7 (by decide) (by decide) (by decide) (by decide) h8) fun K9 h9=>?_
 refine z02 z0i (If_em 24 10 8 1007 (by decide) (by decide) (by decide) (by decide) h9) fun K10 h10=>?_
 refine z02 z03 (z0g 19 10 9 6 (by decide) (by decide) (by decide) (by decide) h10) fun K11 h11=>?_
 refine z02 z03 (z0g 18 6 1 3 (by decide) (by decide) (by decide) (by decide) h11) fun K12 h12=>?_
 refine z02 z03 (z0g 17 6 6 1 (by decide) (by decide) (by decide) (by decide) h12) fun K13 h13=>?_
 refine z02 z09 (z0y 9 1 0 (by decide) (by decide) (by decide) h13) fun K14 h14=>?_
 refine z02 z09 (z0y 6 7 0 (by decide) (by decide) (by decide) h14) fun K15 h15=>?_
 refine z02 z09 (z0y 6 3 0 (by decide) (by decide) (by decide) h15) fun K16 h16=>?_
 refine z02 z03 (z0g 15 1 1 1 (by decide) (by decide) (by decide) (by decide) h16) fun K17 h17=>?_
 refine z02 z07 (z0r 1006 (by decide) h17) fun K18 h18=>?_
 refine z02 z0i (If_em 24 10 0 1004 (by decide) (by decide) (by decide) (by decide) h18) fun K19 h19=>?_
 refine z02 z03 (z0g 15 7 7 1 (by decide) (by decide) (by decide) (by decide) h19) fun K20 h20=>?_
 refine z02 z0a (z19 9 7 0 (by decide) (by decide) (by decide) h20) fun K21 h21=>?_
 refine z02 z09 (z0y 9 1 0 (by decide) (by decide) (by decide) h21) fun K22 h22=>?_
 refine z02 z03 (z0g 15 1 1 1 (by decide) (by decide) (by decide) (by decide) h22) fun K23 h23=>?_
 refine z02 z03 (z0g 15 10 10 (-1) (by decide) (by decide) (by decide) (by decide) h23) fun K24 h24=>?_
 refine z02 z0q (z3s 1006 (by decide) h24) fun K25 h25=>?_
 refine z02 z07 (z0r 1007 (by decide) h25) fun K26 h26=>?_
 refine z02 z09 (z0y 9 3 0 (by decide) (by decide) (by decide) h26) fun K27 h27=>?_
 refine z02 z07 (z0r 1004 (by decide) h27) fun K28 h28=>?_
 refine z02 z03 (z0g 15 3 3 1 (by decide) (by decide) (by decide) (by decide) h28) fun K29 h29=>?_
 refine z02 z0q (z3s 1003 (by decide) h29) fun K30 h30=>?_
 refine z02 z07 (z0r 1005 (by decide) h30) fun K31 h31=>?_
 refine z02 z1e (z9x 5 (by decide) h31) fun K32 h32=>?_
 exact ⟨rfl,by simpa only [zfp,zaa,List.cons_append,List.nil_append] using h32⟩
end
def errR (i:Nat):List ItemR:=[⟨1,⟨0,0,0,0,0⟩,11+(i:Int),0⟩,⟨4,⟨20,26,0,0,0⟩,0,80+(i:Int)⟩,⟨0,⟨0,26,0,0,0⟩,0,0⟩]
def rt_codeR:List ItemR:=zf4++zju++zfj++z7b++zfb++(List.range 16).flatMap errR
def stR1 (i:Nat):ItemR:=⟨0,⟨23,(i:Int)+1,0,0,(i:Int)⟩,0,0⟩
def ldR1 (i:Nat):ItemR:=⟨0,⟨22,(i:Int)+1,0,0,(i:Int)⟩,0,0⟩
theorem zrl {α:Type} (f:Nat→List α) (i:Nat):(List.range (i+1)).flatMap f=(List.range i).flatMap f++f i:=by
 rw [List.range_succ,List.flatMap_append];simp
theorem zw5 {α:Type} (f:Nat→α) (i:Nat):(List.range (i+1)).map f=(List.range i).map f++[f i]:=by
 rw [List.range_succ,List.map_append];rfl
theorem Zbh (i:Nat):((List.range i).flatMap errR).length=3 * i:=by
 induction i with
 | zero=>rfl
 | succ i ih=>rw [zrl,zla,ih];simp [errR];omega
theorem inJ {n:Int} (h0:-9223372036854775808≤n) (h1:n≤9223372036854775807):InI n:=⟨h0,h1⟩
theorem Z0s {S K:PH} {r:Nat} {T:TypeId} {v:Value} (h:Held S K [bx r T [.slice none 0 0]]):EmH S K r T [] [] 1099511627776 []:=
 ⟨by simp,S,_,PH.le_refl S,((h.empty (α:=ItemR) 131).perm (List.Perm.swap _ _ _))⟩
theorem Z6u (S:PH):Tri Tryz.prog Z86 #[] S fun e K'=>∃v,e=.returned v∧SlR K' rt_codeR v∧PH.le S K':=by
 refine Z41 [] (by kernel_rfl) (by kernel_rfl) ?_
 refine z15 (vs:=[.slice none 0 0]) (Held.nil (PH.le_refl S)) (by kernel_rfl) fun r K1 l1 h1=>?_
 have e0:=Z0s (v:=.bool false) h1
 simp only [cns]
 refine z02 Z3m (Z2n (k:=1000000) (e0.re (by simp))) fun K1 h1=>?_
 refine z02 Z7t (Z7p (k:=900000) (h1.drop 0 |>.re (by simp;decide))) fun K2 h2=>?_
 refine z02 Z4b (Z3e (k:=800000) (h2.re (by simp;decide))) fun K3 h3=>?_
 refine z02 zs0 (ztc (k:=700000) (h3.re (by simp;decide))) fun K4 h4=>?_
 refine z02 Z2b (Z32 (k:=600000) (h4.re (by simp;decide))) fun K5 h5=>?_
 obtain ⟨base,hb⟩:∃base,base=zf4++zju++zfj++z7b++zfb:=⟨_,rfl⟩
 have h5:EmH S K5 r 98 [] base 600000 []:=by rw [hb];exact h5
 have hbl:base.length≤1000:=by rw [hb];decide
 refine ⟨fun n vs K=>∃i:Nat,i+n=16∧vs=[.int .i64 (80+(i:Int))]∧EmH S K r 98 [] (base++(List.range i).flatMap errR) 3 [],⟨16,0,rfl,rfl,by simpa using h5.re (by omega)⟩,?_⟩
 rintro n vs K _ ⟨i,hin,rfl,h6⟩
 simp only [cns]
 have hel:=Zbh i
 refine ⟨fun g=>?_,fun g=>?_⟩
 ·simp only [evs,arI,zb5,zdt] at g
  refine z05 [.int .i64 (11+(i:Int))] z7a (z7c (80+(i:Int)) (11+(i:Int)) ?_ K) rfl z01 fun K7 l7=>?_
  ·show IntKind.i64.wrap (11+IntKind.i64.wrap (80+(i:Int) - 80))=_
   rw [w64 (n:=80+(i:Int) - 80) (by omega) (by omega),w64 (by omega) (by omega)];omega
  have h7:=h6.le l7
  simp only [cns]
  refine z02 z07 (z0r (11+(i:Int)) (inJ (by omega) (by omega)) (h7.re (k':=2+1) (by simp [hel];omega))) fun K8 h8=>?_
  refine z02 z84 (Z4f 26 (80+(i:Int)) (by decide) (inJ (by omega) (by omega)) (h8.re (k':=0+2) (by simp [hel];omega))) fun K9 h9=>?_
  refine ⟨_,z00,n - 1,by omega,i+1,by omega,?_,?_⟩
  ·simp only [evs,arI,zb5];rw [w64 (by omega) (by omega)];congr 2
  ·rw [zrl,←zaa]
   have:=h9.re (k':=3) (by simp [hel];omega)
   simpa only [errR,zaa,List.cons_append,List.nil_append] using this
 ·simp only [evs,arI,zb5,zdf] at g
  have:i=16:=by omega
  subst this
  obtain ⟨_,S',iv,hS,h7⟩:=h6
  have hr:=(h7.row (e:=131) (l:=base++(List.range 16).flatMap errR) (v:=iv) (by simp))
  obtain ⟨b,c,hiv⟩:=hr.sl
  refine ⟨fun _=>by simp [Chk.holds,evs,arI,zb5],[iv],by rw [hiv];rfl,by simp only [evs,arI,zb5];exact z1a h7 (zms) 0 1,iv,rfl,?_,PH.le_trans hS h7.sh⟩
  have:=hr.slR h7.sh
  rw [hb] at this
  exact this
def gc_midR:List ItemR:=[⟨0,⟨22,1,0,0,30⟩,0,0⟩,⟨0,⟨15,2,1,0,0⟩,0,0⟩,⟨4,⟨20,3,0,0,0⟩,0,0⟩,⟨4,⟨20,4,0,0,0⟩,0,27⟩,⟨3,⟨28,5,0,0,0⟩,1003,0⟩,⟨4,⟨20,3,0,0,0⟩,0,32⟩,⟨0,⟨15,4,30,0,0⟩,0,0⟩,⟨3,⟨28,5,0,0,0⟩,1003,0⟩,⟨1,⟨0,0,0,0,0⟩,1000,0⟩,⟨2,⟨27,2,1,0,0⟩,1001,0⟩,⟨0,⟨15,3,2,0,0⟩,0,0⟩,⟨0,⟨15,4,1,0,0⟩,0,0⟩,⟨0,⟨15,2,1,0,0⟩,0,0⟩,⟨3,⟨28,5,0,0,0⟩,1003,0⟩,⟨3,⟨28,0,0,0,0⟩,1000,0⟩,⟨1,⟨0,0,0,0,0⟩,1001,0⟩]++ziw 28 30++ziw 29 31++[⟨0,⟨15,29,1,0,0⟩,0,0⟩,⟨0,⟨1,3,1,26,0⟩,0,0⟩,⟨0,⟨22,4,0,0,29⟩,0,0⟩,⟨2,⟨26,4,3,0,0⟩,1002,0⟩]
def Z4o:List ItemR:=[⟨0,⟨29,0,31,0,0⟩,0,0⟩,⟨1,⟨0,0,0,0,0⟩,1002,0⟩,⟨4,⟨20,26,0,0,0⟩,0,95⟩,⟨0,⟨0,26,0,0,0⟩,0,0⟩]++zfp
def gc_codeR:List ItemR:=[⟨1,⟨0,0,0,0,0⟩,1,0⟩]++(List.range 25).map stR1++gc_midR++(List.range 25).map ldR1++Z4o
theorem Z7g (S:PH):Tri Tryz.prog Z9h #[] S fun e K'=>∃v,e=.returned v∧SlR K' gc_codeR v∧PH.le S K':=by
 refine Z49 [] (by kernel_rfl) (by kernel_rfl) ?_
 refine z15 (vs:=[.slice none 0 0]) (Held.nil (PH.le_refl S)) (by kernel_rfl) fun r K1 l1 h1=>?_
 have e0:=Z0s (v:=.bool false) h1
 simp only [cns]
 refine z02 z07 (z0r 1 (by decide) (e0.re (k':=0+1) (by simp))) fun K1 h1=>?_
 obtain ⟨b0,hb0⟩:∃b0:List ItemR,b0=[⟨1,⟨0,0,0,0,0⟩,1,0⟩]:=⟨_,rfl⟩
 have h1:EmH S K1 r 98 [] b0 0 []:=by rw [hb0];exact h1
 have hl0:b0.length=1:=by rw [hb0];rfl
 refine ⟨fun n vs K=>∃i:Nat,i+n=25∧vs=[.int .i64 ((i:Int)+1)]∧EmH S K r 98 [] (b0++(List.range i).map stR1) 1 [],⟨25,0,rfl,rfl,by simpa using h1.re (by omega)⟩,?_⟩
 rintro n vs K _ ⟨i,hin,rfl,h2⟩
 simp only [cns]
 refine ⟨fun g=>?_,fun g=>?_⟩
 ·simp only [evs,arI,zb5,zdt] at g
  have e1:arI .sub .i64 (arI .add .i64 0 ((i:Int)+1)) 1=(i:Int):=by
   show IntKind.i64.wrap (IntKind.i64.wrap (0+((i:Int)+1)) - 1)=_
   rw [w64 (n:=0+((i:Int)+1)) (by omega) (by omega),w64 (by omega) (by omega)];omega
  have c1:Tri Tryz.prog z8h #[pAt r,.int .i64 ((i:Int)+1),.int .i64 0,.int .i64 (arI .sub .i64 (arI .add .i64 0 ((i:Int)+1)) 1)] K (EmQ S r 98 [] (b0++(List.range i).map stR1++[stR1 i]) 0 []):=by
   rw [e1]
   exact z0y ((i:Int)+1) 0 (i:Int) (inJ (by omega) (by omega)) (by decide) (inJ (by omega) (by omega)) (h2.re (k':=0+1) (by simp [hl0];omega))
  refine z02 z09 c1 fun K3 h3=>?_
  refine ⟨_,z00,n - 1,by omega,i+1,by omega,?_,?_⟩
  ·simp only [evs,arI,zb5];rw [w64 (by omega) (by omega)];congr 2
  ·rw [zw5,←zaa]
   exact h3.re (by simp [hl0];omega)
 ·simp only [evs,arI,zb5,zdf] at g
  have:i=25:=by omega
  subst this
  obtain ⟨b1,hb1⟩:∃b1,b1=b0++(List.range 25).map stR1:=⟨_,rfl⟩
  have hl1:b1.length=26:=by rw [hb1];simp [hl0]
  rw [←hb1] at h2
  have hA:EmH S K r 98 [] b1 (0+28) []:=h2.re (by omega)
  refine z02 z0a (z19 1 0 30 (by decide) (by decide) (by decide) hA) fun K101 h101=>?_
  refine z02 z0z (z5q 2 1 (by decide) (by decide) h101) fun K102 h102=>?_
  refine z02 z08 (z0t 3 0 (by decide) (by decide) h102) fun K103 h103=>?_
  refine z02 z08 (z0t 4 27 (by decide) (by decide) h103) fun K104 h104=>?_
  refine z02 z1d (z9t 5 1003 (by decide) (by decide) h104) fun K105 h105=>?_
  refine z02 z08 (z0t 3 32 (by decide) (by decide) h105) fun K106 h106=>?_
  refine z02 z0z (z5q 4 30 (by decide) (by decide) h106) fun K107 h107=>?_
  refine z02 z1d (z9t 5 1003 (by decide) (by decide) h107) fun K108 h108=>?_
  refine z02 z07 (z0r 1000 (by decide) h108) fun K109 h109=>?_
  refine z02 z0i (If_em 27 2 1 1001 (by decide) (by decide) (by decide) (by decide) h109) fun K110 h110=>?_
  refine z02 z0z (z5q 3 2 (by decide) (by decide) h110) fun K111 h111=>?_
  refine z02 z0z (z5q 4 1 (by decide) (by decide) h111) fun K112 h112=>?_
  refine z02 z0z (z5q 2 1 (by decide) (by decide) h112) fun K113 h113=>?_
  refine z02 z1d (z9t 5 1003 (by decide) (by decide) h113) fun K114 h114=>?_
  refine z02 z0q (z3s 1000 (by decide) h114) fun K115 h115=>?_
  refine z02 z07 (z0r 1001 (by decide) h115) fun K116 h116=>?_
  refine z02 zrv (zt3 28 30 (by decide) (by decide) h116) fun K117 h117=>?_
  refine z02 zrv (zt3 29 31 (by decide) (by decide) h117) fun K118 h118=>?_
  refine z02 z0z (z5q 29 1 (by decide) (by decide) h118) fun K119 h119=>?_
  refine z02 z1l (zac 1 3 1 26 (by decide) (by decide) (by decide) (by decide) h119) fun K120 h120=>?_
  refine z02 z0a (z19 4 0 29 (by decide) (by decide) (by decide) h120) fun K121 h121=>?_
  refine z02 z0i (If_em 26 4 3 1002 (by decide) (by decide) (by decide) (by decide) h121) fun K122 h122=>?_
  have hM:EmH S K122 r 98 [] (b1++gc_midR) 0 []:=by simpa only [gc_midR,zaa,List.cons_append,List.nil_append] using h122
  have hlm:gc_midR.length=28:=by rfl
  obtain ⟨b2,hb2⟩:∃b2,b2=b1++gc_midR:=⟨_,rfl⟩
  have hl2:b2.length=54:=by rw [hb2,zla,hl1,hlm]
  rw [←hb2] at hM
  refine ⟨fun n vs K=>∃i:Nat,i+n=25∧vs=[.int .i64 ((i:Int)+1)]∧EmH S K r 98 [] (b2++(List.range i).map ldR1) 1 [],⟨25,0,rfl,rfl,by simpa using hM.re (by omega)⟩,?_⟩
  rintro n vs K _ ⟨i,hin,rfl,h2⟩
  simp only [cns]
  refine ⟨fun g=>?_,fun g=>?_⟩
  ·simp only [evs,arI,zb5,zdt] at g
   have e1:arI .sub .i64 (arI .add .i64 0 ((i:Int)+1)) 1=(i:Int):=by
    show IntKind.i64.wrap (IntKind.i64.wrap (0+((i:Int)+1)) - 1)=_
    rw [w64 (n:=0+((i:Int)+1)) (by omega) (by omega),w64 (by omega) (by omega)];omega
   have c1:Tri Tryz.prog z96 #[pAt r,.int .i64 ((i:Int)+1),.int .i64 0,.int .i64 (arI .sub .i64 (arI .add .i64 0 ((i:Int)+1)) 1)] K (EmQ S r 98 [] (b2++(List.range i).map ldR1++[ldR1 i]) 0 []):=by
    rw [e1]
    exact z19 ((i:Int)+1) 0 (i:Int) (inJ (by omega) (by omega)) (by decide) (inJ (by omega) (by omega)) (h2.re (k':=0+1) (by simp [hl2];omega))
   refine z02 z0a c1 fun K3 h3=>?_
   refine ⟨_,z00,n - 1,by omega,i+1,by omega,?_,?_⟩
   ·simp only [evs,arI,zb5];rw [w64 (by omega) (by omega)];congr 2
   ·rw [zw5,←zaa]
    exact h3.re (by simp [hl2];omega)
  ·simp only [evs,arI,zb5,zdf] at g
   have:i=25:=by omega
   subst this
   obtain ⟨b3,hb3⟩:∃b3,b3=b2++(List.range 25).map ldR1:=⟨_,rfl⟩
   have hl3:b3.length=79:=by rw [hb3];simp [hl2]
   rw [←hb3] at h2
   have hB:EmH S K r 98 [] b3 (0+36) []:=h2.re (by omega)
   refine z02 z1e (z9x 31 (by decide) hB) fun K201 h201=>?_
   refine z02 z07 (z0r 1002 (by decide) h201) fun K202 h202=>?_
   refine z02 z84 (Z4f 26 95 (by decide) (by decide) h202) fun K203 h203=>?_
   refine z02 zxv (zxa   h203) fun K204 h204=>?_
   have hE:EmH S K204 r 98 [] gc_codeR 0 []:=by
    have:=h204
    rw [hb3,hb2,hb1,hb0] at this
    simpa only [gc_codeR,Z4o,zaa,List.cons_append,List.nil_append] using this
   obtain ⟨_,S',iv,hS,h7⟩:=hE
   have hr:=(h7.row (e:=131) (l:=gc_codeR) (v:=iv) (by simp))
   obtain ⟨b,c,hiv⟩:=hr.sl
   exact ⟨fun _=>by simp [Chk.holds,evs,arI,zb5],[iv],by rw [hiv];rfl,by simp only [evs,arI,zb5];exact z1a h7 (zms) 0 1,iv,rfl,hr.slR h7.sh,PH.le_trans hS h7.sh⟩
structure PrcX.Fit (p:PrcX):Prop where
 n:p.blocks.length≤20000000
 ins:∀b∈p.blocks,b.ins.length≤20000000
 regs:p.regl.length≤20000000
theorem Z9n {p:PrcX} (h:p.Fit):(readL p).length≤20000000:=by
 have:=zyb p.regl []
 have:=h.regs
 unfold readL
 simp only [zln] at *
 omega
noncomputable def inL (p:PrcX):List (List Int):=(List.range p.blocks.length).map fun i=>liveL p i 0
theorem Ze1 (p:PrcX):(inL p).length=p.blocks.length:=by simp [inL]
noncomputable def behL (p:PrcX) (i:Nat) (b:BlkX):List (List Int):=(List.range b.ins.length).map fun k=>liveL p i (k+1)
noncomputable def z7u (p:PrcX) (block:Int):List (List Int):=match (if block < 0 then none else p.blocks[block.toNat]?) with
 | some b=>behL p block.toNat b
 | none=>[]
def BlkX.crosses (b:BlkX) (n:Nat):Prop:=b.e.calls=true∧0≤b.e.next∧b.e.next < (n:Int)
instance (b:BlkX) (n:Nat):Decidable (b.crosses n):=by unfold BlkX.crosses;exact inferInstance
noncomputable def z2b (p:PrcX) (block:Int):List Int:=match (if block < 0 then none else p.blocks[block.toNat]?) with
 | some b=>if b.crosses p.blocks.length then (liveL p b.e.next.toNat 0).filter (fun x=>decide (x≠b.e.to)) else []
 | none=>[]
theorem Z1o {p:PrcX} {block:Int} (h:block < 0∨(p.blocks.length:Int)≤block):z2b p block=[]:=by
 unfold z2b
 by_cases h0:block < 0
 ·rw [if_pos h0]
 ·rw [if_neg h0,List.getElem?_eq_none (by omega)]
theorem Z73 {p:PrcX} {i:Nat} {b:BlkX} (hb:p.blocks[i]?=some b):z2b p (i:Int)=if b.crosses p.blocks.length then (liveL p b.e.next.toNat 0).filter (fun x=>decide (x≠b.e.to)) else []:=by
 unfold z2b
 rw [if_neg (by omega),Int.toNat_natCast,hb]
theorem z50 {α:Type} [Enc α] (S:PH):SlR S ([]:List α) (.slice none 0 0):=SlR.mk_iff.2 ⟨Nat.zero_le _,.inl ⟨rfl,rfl⟩⟩
theorem zlb {p:PrcX} (h:p.Fit) (i a:Nat):(liveL p i a).length≤20000000:=Nat.le_trans (List.length_filter_le _ _) (Z9n h)
section
variable {P:Program} {D:Prot} {H0:PH} {w0:World} {X:List PanicEntry→PH→Prop}
theorem Zc7 {m:Nat} {o:Oper} {a:Act} {w:World} {K K':Act→World→Prop} {Q Q':Exit→Act→World→Prop} (hK:∀a w,K a w→K' a w) (hP:∀ch a w,Q (.panic ch) a w→Q' (.panic ch) a w) (hO:¬LetsOut Q) (h:o.wp P a w K Q):o.wpIn Fence.wide m P a w K' Q':=by
 refine ⟨fun _ _=>trivial,?_⟩
 show o.uponIn _ _ _ _ _ _ ((o.semAt none a.eval).run P w)
 rw [Oper.semAt_none]
 unfold Oper.wp at h
 generalize (execOp a.eval o).run P w=res at h ⊢
 cases res with
 | ok x w'=>
  cases x
  case enter f args=>
   refine ⟨fun h=>absurd h (by simp [Fence.wide]),callsIn_wide.2 (Calls.mono h fun e w'' he=>?_)⟩
   cases e with
   | returned v=>exact hK _ _ he
   | panicked ch=>exact hP _ _ _ he
   | outgrown=>exact absurd he hO
  case row rw args=>
   refine ⟨fun h=>absurd h (by simp [Fence.wide]),?_⟩
   intro c cs _
   obtain ⟨v,w1,r,s⟩:=h c cs
   exact ⟨v,w1,hK _ _ r,stepsIn_wide.2 s⟩
  all_goals first | exact hK _ _ h | exact h.elim
 | halt x w'=>cases x<;>first | exact hP _ _ _ h | exact h
theorem zpf {m:Nat} {ops:Array Oper} {Q Q':Exit→Act→World→Prop} {post:List Oper} (hO:¬LetsOut Q) (hN:∀a w,Q .normal a w→wpListIn Fence.wide m P ops Q' post a w) (hP:∀ch a w,Q (.panic ch) a w→Q' (.panic ch) a w) :
  ∀(os:List Oper) (a:Act) (w:World),wpList P ops Q os a w→wpListIn Fence.wide m P ops Q' (os++post) a w
 | [],a,w,h=>hN a w h
 | o::os,a,w,h=>by
  rw [List.cons_append]
  unfold wpList at h
  unfold wpListIn
  split at h
  ·rename_i hw
   rw [if_pos hw]
   rcases h with h | h
   ·exact Zc7 (fun a w h=>zpf hO hN hP os a w h) hP hO h
   ·exact absurd h.2 hO
  ·rename_i hw
   rw [if_neg hw]
   exact ⟨fun _ _=>trivial,zpf hO hN hP os _ w h⟩
theorem Z5w {m:Nat} {id:Nat} {ops:Array Oper} {pre post:List Oper} {st:St} {E:List Value} {r:Nat→Nat} {H:PH} {a:Act} {w:World} {L:LK} {K:St→List Value→PH→LK→Prop} {Q:Exit→Act→World→Prop} (hs:ops.toList=pre++post) (hm:∀o∈pre,D.may o)
  (hR:Rel D H0 w0 st E r H a w) (hden:den P X (z4f P [] ops 400 pre st) E H L K) (hK:∀st' F r' H' a' w',Rel D H0 w0 st' (E++F) r' H' a' w'→K st' (E++F) H' L→wpListIn Fence.wide m P ops Q post a' w')
  (hX:∀ch a' w',PanOf H0 w0 X ch w'→D.ok a'→Q (.panic ch) a' w'):(Code.region id ops false).wpIn Fence.wide m P Q a w:=by
 refine wpIn_region_list ?_
 rw [hs]
 refine zpf (Q:=QX D H0 w0 X fun a w=>wpListIn Fence.wide m P ops Q post a w) zqm (fun a w h=>h) (fun ch a w h=>hX ch a w h.1 h.2) pre a w ?_
 exact zk3 400 pre hm st E r H a w _ hR hden (fun st' F r' H' a' w' _ h2 h3=>hK st' F r' H' a' w' h2 h3) fun ch a' w' h1 h2=>⟨h1,h2⟩
theorem zpy {m:Nat} {c:Code} {st:St} {E:List Value} {r:Nat→Nat} {H:PH} {a:Act} {w:World} {L:LK} {K:Ex×St→List Value→PH→LK→Prop} {Q:Exit→Act→World→Prop} (hm:∀o∈z4h c,D.may o)
  (hR:Rel D H0 w0 st E r H a w) (hden:den P X (execC P {} c st) E H L K)
  (hK:∀e st' F r' H' L' a' w',Rel D H0 w0 st' (E++F) r' H' a' w'→K (e,st') (E++F) H' L'→Q (exOf e) a' w') (hX:∀ch a' w',PanOf H0 w0 X ch w'→D.ok a'→Q (.panic ch) a' w'):c.wpIn Fence.wide m P Q a w:=
 z5w (ro:=none) (op:={}) rfl (fun _ g ps asg b=>Z1v rfl g ps asg b) (zfk P _) c hm m st E r H a w L K Q hR hden (fun e st' F r' H' L' a' w' h1 _ _ h4=>hK e st' F r' H' L' a' w' h1 h4) hX
end
def bkFr (e3:VE):List Ent:=[⟨[],.sc (.atom 0)⟩,⟨[],.sc (.atom 1)⟩,⟨[],.junk⟩,⟨[],e3⟩]++List.replicate 15 ⟨[],.junk⟩
def bkS0:St:={ fr:=bkFr .junk,bx:=[],nb:=0,nl:=0,tags:=[.any,.ptr],asu:=[],kn:=[],its:=[] }
def bkS1:St:={ fr:=bkFr (.sc (.atom 2)),bx:=[],nb:=0,nl:=0,tags:=[.any,.ptr,.int .i64],asu:=[],kn:=[],its:=[] }
def lastE:Fm (Ex×St)→St
 | .leaf x=>x.2
 | .load _ _ k=>lastE k
 | .chk _ _ k=>lastE k
 | _=>bkS0
def lastS:Fm St→St
 | .leaf x=>x
 | .load _ _ k=>lastS k
 | .chk _ _ k=>lastS k
 | _=>bkS0
noncomputable def bkB:Code×Code×Code×Nat×Array Oper:=match Tryz.f220.body with
 | some (.seq r0 (.block _ (.loop (.seq (.seq r1 _) (.seq (.block _ (.seq (.region i ops _) _)) r2)))))=>(r0,r1,r2,i,ops)
 | _=>(.skip,.skip,.skip,0,#[])
theorem Zee:Tryz.f220.body=some (.seq bkB.1 (.block 0 (.loop (.seq (.seq bkB.2.1 (.cond (.tmp 8) .skip (.exit 0))) (.seq (.block 1 (.seq (.region bkB.2.2.2.1 bkB.2.2.2.2 false) (.cond (.tmp 18) .ret .skip))) bkB.2.2.1))))):=by kernel_rfl
abbrev Zdp:List Tag:=[.str,.int .i64,.sl,.int .i64,.int .i64,.str,.sl,.int .i64]
noncomputable def bkSA:St:=lastE (execC Tryz.prog {} bkB.1 bkS0)
noncomputable def bkSB:St:=lastE (execC Tryz.prog {} bkB.2.1 bkS1)
noncomputable def bkSC:St:=lastS (z4f Tryz.prog [] bkB.2.2.2.2 400 (bkB.2.2.2.2.toList.take 6) bkS1)
noncomputable def bkSD:St:=lastE (execC Tryz.prog {} bkB.2.2.1 bkS1)
theorem Zf6:execC Tryz.prog {} bkB.1 bkS0=.load (.atom 1) [.sl] (.leaf (.normal,bkSA)):=by kernel_rfl
theorem Zdx:execC Tryz.prog {} bkB.2.1 bkS1=.leaf (.normal,bkSB):=by kernel_rfl
theorem Zen:z4f Tryz.prog [] bkB.2.2.2.2 400 (bkB.2.2.2.2.toList.take 6) bkS1=.load (.atom 1) [.sl] (.chk [] (.inSl (.atom 3) (.atom 2)) (.load (.elt (.atom 3) (.atom 2) 8) Zdp (.leaf bkSC))):=by kernel_rfl
theorem Zf5:execC Tryz.prog {} bkB.2.2.1 bkS1=.leaf (.normal,bkSD):=by kernel_rfl
theorem Zeh:bkSA.fr[0]?=some ⟨[],.sc (.atom 0)⟩∧bkSA.fr[1]?=some ⟨[],.sc (.atom 1)⟩∧bkSA.fr[3]?=some ⟨[],.sc (.ar .sub .i64 (.len (.atom 2)) (.int .i64 1))⟩∧bkSA.fr.length=19:=⟨by kernel_rfl,by kernel_rfl,by kernel_rfl,by kernel_rfl⟩
theorem Zeo:bkSB.fr[0]?=some ⟨[],.sc (.atom 0)⟩∧bkSB.fr[1]?=some ⟨[],.sc (.atom 1)⟩∧bkSB.fr[3]?=some ⟨[],.sc (.atom 2)⟩∧bkSB.fr[8]?=some ⟨[],.sc (.cmp .geq (.atom 2) (.int .i64 0))⟩∧bkSB.fr.length=19:=⟨by kernel_rfl,by kernel_rfl,by kernel_rfl,by kernel_rfl,by kernel_rfl⟩
theorem Zeu:bkSC.fr[0]?=some ⟨[],.sc (.atom 0)⟩∧bkSC.fr[1]?=some ⟨[],.sc (.atom 1)⟩∧bkSC.fr[3]?=some ⟨[],.sc (.atom 2)⟩∧bkSC.fr[11]?=some ⟨[],.sc (.atom 0)⟩∧bkSC.fr[12]?=some ⟨[],.sc (.atom 2)⟩∧bkSC.fr[16]?=some ⟨[],.ag [.atom 4,.atom 5,.atom 6,.atom 7,.atom 8,.atom 9,.atom 10,.atom 11]⟩∧bkSC.fr.length=19:=⟨by kernel_rfl,by kernel_rfl,by kernel_rfl,by kernel_rfl,by kernel_rfl,by kernel_rfl,by kernel_rfl⟩
theorem Zf9:bkSD.fr[0]?=some ⟨[],.sc (.atom 0)⟩∧bkSD.fr[1]?=some ⟨[],.sc (.atom 1)⟩∧bkSD.fr[3]?=some ⟨[],.sc (.ar .sub .i64 (.atom 2) (.int .i64 1))⟩∧bkSD.fr.length=19:=⟨by kernel_rfl,by kernel_rfl,by kernel_rfl,by kernel_rfl⟩
noncomputable def bkO7 : Oper := (bkB.2.2.2.2.toList.drop 6).headD { dst := none, op := .nilCheck (.tmp 0), type := 0, pos := "", after := #[], guard := none }
noncomputable def bkO8 : Oper := (bkB.2.2.2.2.toList.drop 7).headD { dst := none, op := .nilCheck (.tmp 0), type := 0, pos := "", after := #[], guard := none }
noncomputable def bkTs:Array TypeId:=match bkO7.op with
 | .call c=>c.argTypes
 | _=>#[]
theorem Z9d:bkB.2.2.2.2.toList=bkB.2.2.2.2.toList.take 6++[bkO7,bkO8]:=by kernel_rfl
theorem bkO7_op:bkO7.op=.call { callee:=.value (.tmp 11),args:=#[.tmp 12,.tmp 16],argTypes:=bkTs }∧bkO7.dst=some 17∧bkO7.guard=none:=⟨by kernel_rfl,by kernel_rfl,by kernel_rfl⟩
theorem bkO8_op:bkO8.dst=some 18∧bkO8.guard=none:=⟨by kernel_rfl,by kernel_rfl⟩
theorem Z1g {a:Act} {d t:Nat} {v:Value} (h:t≠d):(a.put (some d) v).tmps.getD t undef=a.tmps.getD t undef:=by
 simp only [Act.put,Array.getD_eq_getD_getElem?,Array.getElem?_setIfInBounds,if_neg (Ne.symm h)]
theorem Z08 {a:Act} {d:Nat} {v:Value} (h:d < a.tmps.size):(a.put (some d) v).tmps.getD d undef=v:=by
 simp [Act.put,Array.getD_eq_getD_getElem?,h]
theorem z7q {a:Act} {t:Nat}:a.eval (.tmp t)=a.tmps.getD t undef:=rfl
theorem znj {e3:VE} {t:Nat} {e:Ent} (he:(bkFr e3)[t]?=some e) (hj:e.v=.junk→False):(t=0∧e=⟨[],.sc (.atom 0)⟩)∨(t=1∧e=⟨[],.sc (.atom 1)⟩)∨(t=3∧e=⟨[],e3⟩):=by
 unfold bkFr at he
 rcases t with _ | _ | _ | _ | t
 ·simp at he;exact .inl ⟨rfl,he.symm⟩
 ·simp at he;exact .inr (.inl ⟨rfl,he.symm⟩)
 ·simp at he;rw [←he] at hj;exact absurd rfl (fun h=>hj h)
 ·simp at he;exact .inr (.inr ⟨rfl,he.symm⟩)
 ·simp only [List.cons_append,List.nil_append,List.getElem?_cons_succ,List.getElem?_replicate] at he
  split at he
  ·cases he;exact absurd rfl (fun h=>hj h)
  ·cases he
theorem Zdi {H:PH} {w:World} {a:Act} {y pv:Value} (hv:Vis H w) (hs:a.tmps.size=19) (hd:a.defers=[]) (h0:a.tmps.getD 0 undef=y) (h1:a.tmps.getD 1 undef=pv) (hy:Tag.any.ok y=true) (hp:Tag.ptr.ok pv=true):Rel (.plain []) H w bkS0 [y,pv] (fun _=>0) H a w:=by
 refine { adv:=.refl hv,tags:=by simp [bkS0,z0c,hy,hp],size:=hs,df:=hd,wk:=trivial,fr:=?_,bx:=fun _ h=>(by cases h),inj:=fun _ h=>(by cases h),nd:=List.nodup_nil,asu:=fun _ h=>(by cases h),kn:=fun _ h=>(by cases h) }
 intro t e he hj
 have hg:e.g=[]:=by rcases znj he hj with ⟨_,rfl⟩ | ⟨_,rfl⟩ | ⟨_,rfl⟩<;>rfl
 rw [hg]
 refine ⟨fun _=>?_,fun h=>absurd (fun x hx=>by cases hx) h⟩
 rcases znj he hj with ⟨rfl,rfl⟩ | ⟨rfl,rfl⟩ | ⟨rfl,rfl⟩
 ·rw [h0];rfl
 ·rw [h1];rfl
 ·exact absurd rfl (fun h=>hj h)
theorem zum {H:PH} {w:World} {a:Act} {y pv:Value} {i:Int} (hv:Vis H w) (hs:a.tmps.size=19) (hd:a.defers=[]) (h0:a.tmps.getD 0 undef=y) (h1:a.tmps.getD 1 undef=pv) (h3:a.tmps.getD 3 undef=.int .i64 i) (hy:Tag.any.ok y=true) (hp:Tag.ptr.ok pv=true):Rel (.plain []) H w bkS1 [y,pv,.int .i64 i] (fun _=>0) H a w:=by
 refine { adv:=.refl hv,tags:=?_,size:=hs,df:=hd,wk:=trivial,fr:=?_,bx:=fun _ h=>(by cases h),inj:=fun _ h=>(by cases h),nd:=List.nodup_nil,asu:=fun _ h=>(by cases h),kn:=fun _ h=>(by cases h) }
 ·show (Tag.any.ok y && (Tag.ptr.ok pv && ((Tag.int .i64).ok (.int .i64 i) && true)))=true
  rw [hy,hp];rfl
 intro t e he hj
 have hg:e.g=[]:=by rcases znj he hj with ⟨_,rfl⟩ | ⟨_,rfl⟩ | ⟨_,rfl⟩<;>rfl
 rw [hg]
 refine ⟨fun _=>?_,fun h=>absurd (fun x hx=>by cases hx) h⟩
 rcases znj he hj with ⟨rfl,rfl⟩ | ⟨rfl,rfl⟩ | ⟨rfl,rfl⟩
 ·rw [h0];rfl
 ·rw [h1];rfl
 ·rw [h3];rfl
theorem z33 {D:Prot} {H0:PH} {w0:World} {st:St} {E:List Value} {r:Nat→Nat} {H:PH} {a:Act} {w:World} (hR:Rel D H0 w0 st E r H a w) {t:Nat} {ve:VE} (he:st.fr[t]?=some ⟨[],ve⟩) (hj:ve=.junk→False):a.tmps.getD t undef=evV E r ve:=
 (hR.fr t _ he hj).1 fun x hx=>by cases hx
noncomputable def bkT8:TypeId:=match bkO8.op with
 | .unOp _ t _=>t
 | _=>0
theorem Zbt:bkO8.op=.unOp .not bkT8 (.tmp 17):=by kernel_rfl
theorem Zcj {ρ:Operand→Value} {w:World} (h:ρ (.tmp 17)=.bool true):(execOp ρ bkO8).run Tryz.prog w=.ok (.value (.bool false)) w:=by
 rw [zmt,Zbt]
 simp [execOp,bare,h,Op.unary,Sem.run_bind,Result.andThen]
theorem Zcg {ρ:Operand→Value} {w:World} {l:Nat} {x y:Value} {fn:FuncId} {tmps:Array Value} {asg body:Code} (h11:ρ (.tmp 11)=.func (.yield l) #[] #[]) (h12:ρ (.tmp 12)=x) (h16:ρ (.tmp 16)=y) (hy:(Instr.yield l #[x,y]).run Tryz.prog w=.ok (.round l fn tmps asg body) w) :
  (execOp ρ bkO7).run Tryz.prog w=.ok (.round l fn tmps asg body) w:=by
 rw [zmt,bkO7_op.1]
 simp [execOp,bare,resolve,h11,h12,h16,invoke,go_sem,hy]
theorem SlR.fn {α:Type} [Enc α] {H:PH} {l:List α} {v:Value} (h:SlR H l v):∃f:Nat→List Value,∀i a,l[i]?=some a→CsR H a (f i)∧rowAt H (pOf (eltV v (i:Int) (sz α))) (f i):=by
 have:∀i:Nat,∃cs:List Value,∀a,l[i]?=some a→CsR H a cs∧rowAt H (pOf (eltV v (i:Int) (sz α))) cs:=by
  intro i
  cases hi:l[i]? with
  | none=>exact ⟨[],fun a h=>by cases h⟩
  | some a=>
   obtain ⟨_,_,cs,h1,h2⟩:=h.get hi
   exact ⟨cs,fun a' h'=>by cases h';exact ⟨h1,h2⟩⟩
 exact ⟨fun i=>(this i).choose,fun i=>(this i).choose_spec⟩
set_option maxHeartbeats 2000000 in
theorem zk9 (l:List InsX) (S:PH) (ad:Option Addr) (sv:Value) (hp:rowAt S ad [sv]) (hs:SlR S l sv) (hl:l.length≤40000000) (cells:Nat→List Value) (hc:∀i a,l[i]?=some a→CsR S a (cells i)∧rowAt S (pOf (eltV sv (i:Int) 8)) (cells i)) :
  Iter Tryz.prog (.func (.func 220) #[] #[.pointer ad]) S l.length (fun j=>[.int .i64 ((l.length - 1 - j:Nat):Int),.agg (cells (l.length - 1 - j)).toArray]):=by
 have hcb:callB Tryz.prog 220=true:=by kernel_rfl
 obtain ⟨sb,sc,rfl⟩:=hs.sl
 refine ⟨_,_,rfl,zf3 hcb,fun lr I H W hSH hmono hv hround h0=>(callsIn_wide (n:=0)).1 ?_⟩
 refine callsIn_of_wp Tryz.func220 Zee trivial ?_
 have hnt:Tryz.f220.ntmps=19:=by kernel_rfl
 rw [hnt]
 obtain ⟨y,hy⟩:∃y,y=Value.func (.yield lr) #[] #[]:=⟨_,rfl⟩
 rw [←hy]
 have hyt:Tag.any.ok y=true:=by rw [hy];rfl
 refine wpIn_seq ?_
 refine zpy (D:=.plain []) (X:=fun _ _=>False) (L:=[]) (K:=fun x E' H' _=>x=(.normal,bkSA)∧H'=H∧E'=[y,.pointer ad,.slice sb l.length sc]) (fun o _=>Prot.plain_may [] o) (Zdi (pv:=.pointer ad) hv (by simp) rfl (by simp) (by simp) hyt rfl) ?_ ?_ (fun ch a' w' h=>by obtain ⟨_,_,h⟩:=h;exact h.elim)
 ·rw [Zf6]
  exact ⟨[_],rfl,z0u hSH hp,rfl,rfl,rfl⟩
 rintro e st' F r' H' L' a1 W1 hR1 ⟨h1,rfl,hE⟩
 cases h1
 obtain ⟨f0,f1,f3,f4⟩:=Zeh
 have t0:=z33 hR1 f0 (fun h=>by cases h)
 have t1:=z33 hR1 f1 (fun h=>by cases h)
 have t3:=z33 hR1 f3 (fun h=>by cases h)
 have hsz:=hR1.size
 rw [hE] at t0 t1 t3
 rw [f4] at hsz
 have hadv1:Adv H' W H' W1:=hR1.adv
 have hdf1:a1.defers=[]:=hR1.df
 show (Code.block 0 _).wpIn _ _ _ _ _ _
 refine wpIn_block ?_
 refine wpIn_loop (fun a w=>∃(j:Nat) (Hj:PH),j≤l.length∧a.tmps.size=19∧a.defers=[]∧a.tmps.getD 0 undef=y∧a.tmps.getD 1 undef=.pointer ad∧a.tmps.getD 3 undef=.int .i64 ((l.length:Int) - 1 - j)∧Adv H' W Hj w∧I j Hj) (fun a _=>match a.tmps.getD 3 undef with | .int _ n=>(n+1).toNat | _=>0) ?_ ?_
 ·refine ⟨0,H',Nat.zero_le _,hsz,hdf1,t0,t1,?_,hadv1,h0⟩
  rw [t3]
  simp only [evs,evb]
  rw [w64 (by omega) (by omega)]
  simp
 rintro a w ⟨j,Hj,hj,q1,q2,q3,q4,q5,q6,q7⟩
 have hSj:=hmono j Hj q7
 have hRa:=zum q6.vis q1 q2 q3 q4 q5 hyt rfl
 refine wpIn_seq (wpIn_seq ?_)
 refine zpy (D:=.plain []) (X:=fun _ _=>False) (L:=[]) (K:=fun x E' H' _=>x=(.normal,bkSB)∧H'=Hj∧E'=[y,.pointer ad,.int .i64 ((l.length:Int) - 1 - j)]) (fun o _=>Prot.plain_may [] o) hRa ?_ ?_ (fun ch a' w' h=>by obtain ⟨_,_,h⟩:=h;exact h.elim)
 ·rw [Zdx];exact ⟨rfl,rfl,rfl⟩
 rintro e st' F r2 H2 L2 a2 w2 hR2 ⟨h1,rfl,hE2⟩
 cases h1
 obtain ⟨f0,f1,f3,f8,f4⟩:=Zeo
 have u0:=z33 hR2 f0 (fun h=>by cases h)
 have u1:=z33 hR2 f1 (fun h=>by cases h)
 have u3:=z33 hR2 f3 (fun h=>by cases h)
 have u8:=z33 hR2 f8 (fun h=>by cases h)
 have hsz2:=hR2.size
 rw [hE2] at u0 u1 u3 u8
 rw [f4] at hsz2
 have hadv2:Adv H' W H2 w2:=q6.trans hR2.adv
 have hdf2:a2.defers=[]:=hR2.df
 have hc8:a2.eval (.tmp 8)=.bool (decide ((l.length:Int) - 1 - j ≥ 0)):=by
  rw [z7q,u8]
  simp only [evs,evb]
 show (Code.cond _ _ _).wpIn _ _ _ _ _ _
 by_cases hjl:j < l.length
 ·have hc8':a2.eval (.tmp 8)=.bool true:=by rw [hc8,decide_eq_true (by omega)]
  refine wpIn_cond_true hc8' (wpIn_skip ?_)
  show (Code.seq _ _).wpIn _ _ _ _ _ _
  obtain ⟨idx,hidx⟩:∃idx:Nat,idx=l.length - 1 - j:=⟨_,rfl⟩
  have hi3:((l.length:Int) - 1 - j)=(idx:Int):=by omega
  have hil:idx < l.length:=by omega
  obtain ⟨x,hx⟩:∃x,l[idx]?=some x:=⟨_,zge hil⟩
  obtain ⟨hcr,hcrow⟩:=hc idx x hx
  obtain ⟨z1,_⟩:=hs.get hx
  obtain ⟨av,dv,hcell,y1,y2,ya,y4,y5,y6,yd,y8⟩:=ins_iff.1 hcr
  obtain ⟨ab,ac,rfl⟩:=ya.sl
  obtain ⟨db,dc,rfl⟩:=yd.sl
  have hR2':=zum (i:=(idx:Int)) hadv2.vis hsz2 hdf2 u0 u1 (by rw [u3];simp only [evs,evb];rw [hi3]) hyt (rfl:Tag.ptr.ok (.pointer ad)=true)
  refine wpIn_seq (wpIn_block (wpIn_seq ?_))
  refine Z5w (D:=.plain []) (X:=fun _ _=>False) (L:=[]) (K:=fun st E' H' _=>st=bkSC∧H'=H2∧E'=[y,.pointer ad,.int .i64 (idx:Int),.slice sb l.length sc]++cells idx) Z9d (fun o _=>Prot.plain_may [] o) hR2' ?_ ?_ (fun ch a' w' h=>by obtain ⟨_,_,h⟩:=h;exact h.elim)
  ·rw [Zen]
   refine ⟨[_],rfl,z0u hSj hp,fun _=>?_,cells idx,by rw [hcell];rfl,?_,rfl,rfl,rfl⟩
   ·simp only [Chk.holds,evs,evb];exact ⟨z1,by omega,by omega⟩
   ·simp only [evs,evb];exact z0u hSj hcrow
  rintro st' F3 r3 H3 a3 w3 hR3 ⟨rfl,rfl,hE3⟩
  obtain ⟨g0,g1,g3,g11,g12,g16,g4⟩:=Zeu
  have s0:=z33 hR3 g0 (fun h=>by cases h)
  have s1:=z33 hR3 g1 (fun h=>by cases h)
  have s3:=z33 hR3 g3 (fun h=>by cases h)
  have s11:=z33 hR3 g11 (fun h=>by cases h)
  have s12:=z33 hR3 g12 (fun h=>by cases h)
  have s16:=z33 hR3 g16 (fun h=>by cases h)
  have hsz3:=hR3.size
  rw [hE3] at s0 s1 s3 s11 s12 s16
  rw [g4] at hsz3
  have hadv3:Adv H' W H3 w3:=hadv2.trans hR3.adv
  have hdf3:a3.defers=[]:=hR3.df
  have e16:a3.eval (.tmp 16)=.agg (cells idx).toArray:=by
   rw [z7q,s16,hcell];rfl
  refine wpListIn_plain bkO7_op.2.2 fun K hK=>?_
  refine ⟨fun _ _=>trivial,?_⟩
  show Oper.uponIn _ _ _ _ _ _ _ ((bkO7.semAt none a3.eval).run _ w3)
  obtain ⟨fn,tmps,asg,body,hyl,hrd⟩:=hround j H3 w3 hjl q7 hadv3 0
  have hyl:(Instr.yield lr #[.int .i64 (idx:Int),.agg (cells idx).toArray]).run Tryz.prog w3=.ok (.round lr fn tmps asg body) w3:=by rw [hidx];exact hyl
  rw [Oper.semAt_none,Zcg (l:=lr) (x:=.int .i64 (idx:Int)) (y:=.agg (cells idx).toArray) (by rw [z7q,s11,←hy];rfl) (by rw [z7q,s12];rfl) e16 hyl]
  refine ⟨fun h=>absurd h (by simp [Fence.wide]),?_⟩
  refine RoundIn.mono (show RoundIn Fence.wide _ _ _ _ _ _ _ _ _ from hrd) ?_
  rintro e W4 ⟨rfl,H4,hadv4,hI4⟩
  refine hK _ _ ?_
  rw [bkO7_op.2.1]
  have hsz17:17 < a3.tmps.size:=by rw [hsz3];decide
  refine wpListIn_plain bkO8_op.2 fun K2 hK2=>?_
  refine ⟨fun _ _=>trivial,?_⟩
  show Oper.uponIn _ _ _ _ _ _ _ ((bkO8.semAt none _).run _ W4)
  rw [Oper.semAt_none,Zcj (by rw [z7q];exact Z08 hsz17)]
  show K2 _ W4
  refine hK2 _ _ ?_
  rw [bkO8_op.1]
  obtain ⟨a5,ha5⟩:∃a5,a5=(a3.put (some 17) (.bool true)).put (some 18) (.bool false):=⟨_,rfl⟩
  have hsz4:(a3.put (some 17) (.bool true)).tmps.size=19:=by simp [Act.put,hsz3]
  have hsz5:a5.tmps.size=19:=by rw [ha5];simp [Act.put,hsz3]
  have hg5:∀t,t≠17→t≠18→a5.tmps.getD t undef=a3.tmps.getD t undef:=fun t h1 h2=>by rw [ha5,Z1g h2,Z1g h1]
  have h18:a5.eval (.tmp 18)=.bool false:=by rw [z7q,ha5];exact Z08 (by rw [hsz4];decide)
  rw [←ha5]
  show (Code.cond _ _ _).wpIn _ _ _ _ _ _
  refine wpIn_cond_false h18 (wpIn_skip ?_)
  show Code.wpIn _ _ _ bkB.2.2.1 _ _ _
  have hdf5:a5.defers=[]:=by rw [ha5];exact hdf3
  have hR5:=zum (i:=(idx:Int)) hadv4.vis hsz5 hdf5 ((hg5 0 (by decide) (by decide)).trans s0) ((hg5 1 (by decide) (by decide)).trans s1) ((hg5 3 (by decide) (by decide)).trans s3) hyt (rfl:Tag.ptr.ok (.pointer ad)=true)
  refine zpy (D:=.plain []) (X:=fun _ _=>False) (L:=[]) (K:=fun x E' H' _=>x=(.normal,bkSD)∧H'=H4∧E'=[y,.pointer ad,.int .i64 (idx:Int)]) (fun o _=>Prot.plain_may [] o) hR5 ?_ ?_ (fun ch a' w' h=>by obtain ⟨_,_,h⟩:=h;exact h.elim)
  ·rw [Zf5];exact ⟨rfl,rfl,rfl⟩
  rintro e st' F6 r6 H6 L6 a6 w6 hR6 ⟨h1,rfl,hE6⟩
  cases h1
  obtain ⟨m0,m1,m3,m4⟩:=Zf9
  have v0:=z33 hR6 m0 (fun h=>by cases h)
  have v1:=z33 hR6 m1 (fun h=>by cases h)
  have v3:=z33 hR6 m3 (fun h=>by cases h)
  have hsz6:=hR6.size
  rw [hE6] at v0 v1 v3
  rw [m4] at hsz6
  have hv3:a6.tmps.getD 3 undef=.int .i64 ((l.length:Int) - 1 - (j+1:Nat)):=by
   rw [v3]
   simp only [evs,evb]
   rw [w64 (by omega) (by omega)]
   congr 1;omega
  refine ⟨⟨j+1,H6,by omega,hsz6,hR6.df,v0,v1,hv3,(hadv3.trans hadv4).trans hR6.adv,hI4⟩,?_⟩
  rw [hv3,q5]
  simp only []
  omega
 ·have hc8':a2.eval (.tmp 8)=.bool false:=by rw [hc8,decide_eq_false (by omega)]
  refine wpIn_cond_false hc8' (wpIn_exit ?_)
  have hjn:j=l.length:=by omega
  simp only [Exit.then,Exit.inBlock,↓reduceIte]
  refine ⟨hdf2,.tuple #[],?_,⟨_,rfl⟩,H2,hadv2,hjn ▸ q7⟩
  have hres:Tryz.f220.results=#[]:=by kernel_rfl
  simp [results,hres]
abbrev encS (s:List Int):List (Int×Value):=s.map fun k=>(k,.int .i64 1)
abbrev SetAt (es:Array MapEntry) (clock:Nat) (s:List Int):Prop:=EntsR (α:=Int) es.toList clock (encS s)
theorem SetAt.nodup {es:Array MapEntry} {clock:Nat} {s:List Int} (h:SetAt es clock s):s.Nodup:=by
 have:=h.keys
 rw [List.map_map] at this
 have e:((fun x:Int×Value=>x.1) ∘ fun k:Int=>(k,(Value.int .i64 1)))=id:=rfl
 rw [e,List.map_id] at this
 exact this
theorem Zbs (s:List Int) (k:Int):(getM (encS s) k).isSome=decide (k∈s):=by
 unfold getM encS
 rw [Option.isSome_map]
 by_cases h:k∈s
 ·rw [decide_eq_true h]
  refine List.find?_isSome.2 ⟨(k,.int .i64 1),zmp.2 ⟨k,h,rfl⟩,by simp⟩
 ·rw [decide_eq_false h,Option.isSome_eq_false_iff,Option.isNone_iff_eq_none,List.find?_eq_none]
  intro x hx
  obtain ⟨y,hy,rfl⟩:=zmp.1 hx
  simp only [zdt]
  exact fun e=>h (e ▸ hy)
def addS (s:List Int) (k:Int):List Int:=if k∈s then s else s++[k]
theorem zio (s:List Int) (k:Int):putM (encS s) k (.int .i64 1)=encS (addS s k):=by
 unfold putM addS
 rw [Zbs]
 by_cases h:k∈s
 ·rw [if_pos (by rw [decide_eq_true h]),if_pos h]
  unfold encS
  rw [List.map_map]
  refine List.map_congr_left fun x _=>?_
  by_cases e:x=k<;>simp [e]
 ·rw [if_neg (by rw [decide_eq_false h];exact Bool.false_ne_true),if_neg h]
  simp [encS]
theorem zj2 (s:List Int) (k y:Int):y∈addS s k↔y∈s∨y=k:=by
 unfold addS
 split
 ·rename_i h;exact ⟨.inl,fun hy=>hy.elim id fun e=>e ▸ h⟩
 ·simp
theorem Zcx (s:List Int) (k:Int):delM (encS s) k=encS (s.filter fun y=>decide (y≠k)):=by
 unfold delM encS
 rw [List.filter_map];rfl
theorem zfl:SetAt (#[]:Array MapEntry) 0 []:=EntsR.empty
theorem uSetK:Tryz.prog.underlying 216=some (.map 3 3):=by kernel_rfl
theorem kIntK:Tryz.prog.underlying 3=some (Key.kd Int):=by kernel_rfl
theorem SetAt.entry {es:Array MapEntry} {clock:Nat} {s:List Int} (h:SetAt es clock s) {e:MapEntry} (he:e∈es.toList):∃k∈s,e.key=.int .i64 k∧e.val=.int .i64 1:=by
 have h1:(e.key,e.val)∈es.toList.map (fun e=>(e.key,e.val)):=zmp.2 ⟨e,he,rfl⟩
 rw [h.ents] at h1
 obtain ⟨x,hx,hxe⟩:=zmp.1 h1
 obtain ⟨k,hk,rfl⟩:=zmp.1 hx
 simp only [Prod.mk.injEq] at hxe
 exact ⟨k,hk,hxe.1.symm,hxe.2.symm⟩
theorem SetAt.has {es:Array MapEntry} {clock:Nat} {s:List Int} (h:SetAt es clock s) {k:Int} (hk:k∈s):∃e∈es.toList,e.key=.int .i64 k:=by
 have h1:((.int .i64 k:Value),(.int .i64 1:Value))∈(encS s).map fun x=>(Key.kv x.1,x.2):=zmp.2 ⟨(k,.int .i64 1),zmp.2 ⟨k,hk,rfl⟩,rfl⟩
 rw [←h.ents] at h1
 obtain ⟨e,he,hee⟩:=zmp.1 h1
 simp only [Prod.mk.injEq] at hee
 exact ⟨e,he,hee.1⟩
theorem zrf (r:Nat) (es:Array MapEntry) (clock:Nat) (s l:List Int) (lv:Value) (S K:PH) (hl:SlR S l lv) (h:Held S K [.blk r (.map es clock)]) (hs:SetAt es clock s) :
  Tri Tryz.prog z9g #[.map (some r),lv] K fun x K'=>∃es' clock' s',x=.returned (.tuple #[])∧Held S K' [.blk r (.map es' clock')]∧SetAt es' clock' s'∧∀y,y∈s'↔y∈s∨y∈l:=by
 obtain ⟨b,c,rfl⟩:=hl.sl
 have hm:=hl.max
 simp only [maxLen] at hm
 refine zfn [.map (some r),.slice b l.length c] (by kernel_rfl) (by kernel_rfl) ?_
 refine ⟨fun n vs K'=>∃(k:Nat) (es':Array MapEntry) (clock':Nat) (s':List Int),vs=[nI k]∧k+n=l.length∧Held S K' [.blk r (.map es' clock')]∧SetAt es' clock' s'∧∀y,y∈s'↔y∈s∨y∈l.take k,⟨l.length,0,es,clock,s,rfl,by omega,h,hs,fun y=>by simp⟩,?_⟩
 rintro n vs K1 _ ⟨k,es1,clock1,s1,rfl,hkn,h1,hs1,hm1⟩
 refine ⟨fun g=>?_,fun g=>?_⟩
 ·simp only [evs,evb,zdt] at g
  obtain ⟨a,ha⟩:∃a,l[k]?=some a:=⟨_,zge (show k < l.length by omega)⟩
  obtain ⟨q1,_,ces,q2,q3⟩:=(hl.le h1.sh).get ha
  obtain ⟨rfl,hai⟩:=csIK q2
  refine ⟨fun _=>?_,[.int .i64 a],rfl,?_,?_⟩
  ·simp only [Chk.holds,evs,evb];exact ⟨q1,by omega,by omega⟩
  ·simp only [evs,evb];exact q3
  refine z3r (α:=Int) (m:=encS s1) (r:=r) (es:=es1) (clock:=clock1) a (.int .i64 1) uSetK kIntK (by kernel_rfl) (by kernel_rfl) (by kernel_rfl) (h1.blk (zms)) hs1 fun es2 clock2 he2=>?_
  rw [zio] at he2
  refine ⟨_,z00,n - 1,by omega,k+1,es2,clock2,addS s1 a,?_,by omega,h1.put _,he2,fun y=>?_⟩
  ·simp only [evs,evb];rw [w64 (by omega) (by omega)];rfl
  ·rw [zj2,hm1,List.take_add_one,ha]
   simp only [Option.toList_some,zma,zsi,or_assoc]
 ·simp only [evs,evb,zdf] at g
  rw [ztl (by omega)] at hm1
  exact ⟨es1,clock1,s1,rfl,h1,hs1,hm1⟩
theorem zg7 (r:Nat) (es:Array MapEntry) (clock:Nat) (s:List Int) (a:Int) (S K:PH) (h:Held S K [.blk r (.map es clock)]) (hs:SetAt es clock s) :
  Tri Tryz.prog z8a #[.map (some r),.int .i64 a] K fun x K'=>∃es' clock',x=.returned (.tuple #[])∧Held S K' [.blk r (.map es' clock')]∧SetAt es' clock' (s.filter fun y=>decide (y≠a)):=by
 refine zec [.map (some r),.int .i64 a] (by kernel_rfl) (by kernel_rfl) ?_
 refine Z68 (α:=Int) (m:=encS s) (r:=r) (es:=es) (clock:=clock) a rfl uSetK kIntK (by kernel_rfl) (by kernel_rfl) (h.blk (zms)) hs fun es2 clock2 he2=>?_
 rw [Zcx] at he2
 exact ⟨es2,clock2,rfl,h.put _,he2⟩
def SetR (H:PH) (v:Value) (s:List Int):Prop:=∃r es clock,v=.map (some r)∧H r=some (.map es clock)∧SetAt es clock s
theorem SetR.le {H H':PH} {v:Value} {s:List Int} (h:SetR H v s) (hl:PH.le H H'):SetR H' v s:=by
 obtain ⟨r,es,clock,h1,h2,h3⟩:=h
 exact ⟨r,es,clock,h1,hl _ _ h2,h3⟩
set_option maxHeartbeats 1000000 in
theorem Z45 (r:Nat) (es:Array MapEntry) (clock:Nat) (s t:List Int) (tv:Value) (S K:PH) (ht:SetR S tv t) (h:Held S K [.blk r (.map es clock)]) (hs:SetAt es clock s) :
  Tri Tryz.prog z85 #[.map (some r),tv] K fun x K'=>∃es' clock' s',x=.returned (.tuple #[])∧Held S K' [.blk r (.map es' clock')]∧SetAt es' clock' s'∧∀y,y∈s'↔y∈s∨y∈t:=by
 obtain ⟨rt,est,clt,rfl,hrt,hst⟩:=ht
 refine ze8 [.map (some r),.map (some rt)] (by kernel_rfl) (by kernel_rfl) ?_
 refine zlj (r:=rt) (es:=est) (clock:=clt) uSetK (by kernel_rfl) (h.sh _ _ hrt) (fun _ _=>z01) fun i hi=>?_
 have h0:=h.new hi (.mapIter (some rt) clt #[] clt)
 have hl0:leftM est #[]=est.toList:=by unfold leftM;simp
 refine ⟨fun n vs K'=>∃(seen:Array Nat) (es':Array MapEntry) (clock':Nat) (s':List Int),vs=[]∧n=(leftM est seen).length∧Held S K' [.blk i (.mapIter (some rt) clt seen clt),.blk r (.map es' clock')]∧SetAt es' clock' s'∧∀y,y∈s'↔y∈s∨(y∈t∧∀e∈leftM est seen,e.key≠.int .i64 y),
  ⟨_,#[],es,clock,s,rfl,rfl,h0,hs,fun y=>?_⟩,?_⟩
 ·constructor
  ·exact .inl
  ·rintro (h | ⟨h1,h2⟩)
   ·exact h
   ·obtain ⟨e,he,hk⟩:=hst.has h1
    exact absurd hk (h2 e (by rw [hl0];exact he))
 rintro n vs K1 _ ⟨seen,es1,clock1,s1,rfl,rfl,h1,hs1,hm1⟩
 refine ⟨fun vs K'=>∃b:Bool,vs=[.bool b]∧((b=false∧leftM est seen=[]∧Held S K' [.blk i (.mapIter (some rt) clt seen clt),.blk r (.map es1 clock1)])∨(b=true∧∃e∈leftM est seen,Held S K' [.blk i (.mapIter (some rt) clt (seen.push e.born) clt),.blk r (.map es1 clock1)])),?_,?_⟩
 ·rintro vs K2 _ ⟨b,rfl,hcase⟩
  refine ⟨fun g=>?_,fun g=>?_⟩
  ·simp only [evs,evb] at g
   subst g
   rcases hcase with ⟨h,_⟩ | ⟨_,e,he,h2⟩
   ·cases h
   have hee:e∈est.toList:=(zmf.1 he).1
   obtain ⟨k,hk,hek,hev⟩:=hst.entry hee
   refine zmb (i:=i) (r:=rt) (es:=est) (clock:=clt) (seen:=seen) (m:=encS t) (e:=e) (by kernel_rfl) (h2.blk (zms)) (h2.sh _ _ hrt) hst hee (by rw [hek,hev];exact ⟨rfl,rfl⟩) ?_
   rw [hek,hev]
   refine z3r (α:=Int) (m:=encS s1) (r:=r) (es:=es1) (clock:=clock1) k (.int .i64 1) uSetK kIntK (by kernel_rfl) (by kernel_rfl) (by kernel_rfl) (h2.blk (zmm _ (zms))) hs1 fun es2 clock2 he2=>?_
   rw [zio] at he2
   obtain ⟨p1,p2⟩:=zfd hst he
   refine ⟨_,z00,_,p1,seen.push e.born,es2,clock2,addS s1 k,rfl,rfl,((h2.perm (List.Perm.swap _ _ _)).put _).perm (List.Perm.swap _ _ _),he2,fun y=>?_⟩
   rw [zj2,hm1]
   constructor
   ·rintro ((h | ⟨h3,h4⟩) | h)
    ·exact .inl h
    ·exact .inr ⟨h3,fun e' he'=>h4 e' ((p2 e').2 (.inr he'))⟩
    ·subst h
     refine .inr ⟨hk,fun e' he' hke=>?_⟩
     have he'l:e'∈leftM est seen:=(p2 e').2 (.inr he')
     have he'e:e'∈est.toList:=(zmf.1 he'l).1
     obtain ⟨a,ha⟩:=List.getElem?_of_mem he'e
     obtain ⟨b,hb⟩:=List.getElem?_of_mem hee
     have hkeys:(est.toList.map (·.key))=t.map fun k=>Value.int .i64 k:=by
      have:=congrArg (List.map Prod.fst) hst.ents
      simp only [List.map_map,Function.comp_def,encS] at this
      exact this
     have hta:t[a]?=some y:=by
      have:=congrArg (fun l=>l[a]?) hkeys
      simp only [zem,ha,Option.map_some,hke] at this
      cases hx:t[a]? with
      | none=>rw [hx] at this;cases this
      | some z=>rw [hx] at this;simp at this;rw [this]
     have htb:t[b]?=some y:=by
      have:=congrArg (fun l=>l[b]?) hkeys
      simp only [zem,hb,Option.map_some,hek] at this
      cases hx:t[b]? with
      | none=>rw [hx] at this;cases this
      | some z=>rw [hx] at this;simp at this;rw [this]
     have hab:=(List.getElem?_inj (zgi.1 hta).1 hst.nodup).1 (hta.trans htb.symm)
     subst hab
     rw [ha] at hb;cases hb
     have hno:=(zmf.1 he').2
     simp at hno
   ·rintro (h | ⟨h3,h4⟩)
    ·exact .inl (.inl h)
    ·by_cases hyk:y=k
     ·exact .inr hyk
     ·refine .inl (.inr ⟨h3,fun e' he' hke=>?_⟩)
      rcases (p2 e').1 he' with rfl | h5
      ·rw [hek] at hke;cases hke;exact hyk rfl
      ·exact h4 e' h5 hke
  ·simp only [evs,evb] at g
   subst g
   rcases hcase with ⟨_,hnil,h2⟩ | ⟨h,_⟩
   ·refine ⟨es1,clock1,s1,rfl,h2.tail,hs1,fun y=>?_⟩
    rw [hm1,hnil]
    simp
   ·cases h
 ·refine zpu (i:=i) (r:=rt) (es:=est) (clock:=clt) (seen:=seen) (m:=encS t) (by kernel_rfl) (h1.blk (zms)) (h1.sh _ _ hrt) hst (fun e he=>?_) (fun hnil=>?_) fun e he=>?_
  ·obtain ⟨k,hk,hek,hev⟩:=hst.entry he
   rw [hek,hev];exact ⟨rfl,rfl⟩
  ·exact ⟨_,z00,false,rfl,.inl ⟨rfl,hnil,h1⟩⟩
  ·exact ⟨_,z00,true,rfl,.inr ⟨rfl,e,he,h1.put _⟩⟩
theorem Z1m {S:PH}:∀{l:List Int} {xs:List Value},PV.RepRow S (l.flatMap pv) xs→xs=l.map (Value.int .i64)∧∀x∈l,InI x
 | [],xs,h=>by simp only [List.flatMap_nil,PV.RepRow] at h;subst h;exact ⟨rfl,fun x hx=>by cases hx⟩
 | a::l,xs,h=>by
  have h':PV.RepRow S (.int .i64 a::l.flatMap pv) xs:=h
  rw [PV.RepRow] at h'
  obtain ⟨v,vs,rfl,h1,h2⟩:=h'
  obtain ⟨rfl,hi⟩:=repI_iff.1 h1
  obtain ⟨rfl,h3⟩:=Z1m h2
  exact ⟨rfl,fun x hx=>(zmc.1 hx).elim (fun e=>e ▸ hi) (h3 x)⟩
theorem zgv {S:PH}:∀{l:List Int},(∀x∈l,InI x)→PV.RepRow S (l.flatMap pv) (l.map (Value.int .i64))
 | [],_=>by simp [PV.RepRow]
 | a::l,h=>by
  show PV.RepRow S (.int .i64 a::l.flatMap pv) _
  rw [PV.RepRow]
  exact ⟨_,_,rfl,repI_iff.2 ⟨rfl,h a (zms)⟩,zgv fun x hx=>h x (zmm _ hx)⟩
abbrev sortI (l:List Int):List Int:=l.mergeSort fun x y=>decide (x≤y)
theorem z8l (l:List Int) (x:Int):x∈sortI l↔x∈l:=List.mem_mergeSort
theorem z75 {l:List Int} (h:l.Nodup):(sortI l).Pairwise (· < ·):=by
 have h1:(sortI l).Pairwise fun x y=>decide (x≤y)=true:=List.pairwise_mergeSort (fun a b c h1 h2=>by simp at *;omega) (fun a b=>by simp;omega) l
 have h2:(sortI l).Nodup:=(List.mergeSort_perm l _).nodup_iff.2 h
 exact (h1.and h2).imp fun {a b} ⟨h3,h4⟩=>by simp at h3;omega
theorem Zbf {K:PH} {w:World} (hv:Vis K w) (os:Array Obj):Adv K w K (Sort.grow w os):=by
 refine ⟨by simp [Sort.grow],fun k o hk=>?_,fun k hk hn=>⟨?_,hn⟩,rfl,rfl,rfl⟩
 ·show (w.heap++os)[k]?=some o
  rw [Array.getElem?_append_left (hv.lt hk)];exact hv k o hk
 ·show (w.heap++os)[k]?=w.heap[k]?
  rw [Array.getElem?_append_left hk]
theorem zxq {l:List Int} {cur:Array Value} (h:l.length≤cur.size):(Sort.putCells (Value.int .i64) 0 l.toArray cur).toList.take l.length=l.map (Value.int .i64):=by
 refine List.ext_getElem? fun i=>?_
 rw [List.getElem?_take,zem]
 by_cases hi:i < l.length
 ·rw [if_pos hi,Array.getElem?_toList]
  unfold Sort.putCells
  rw [Array.getElem?_mapIdx]
  have hc:i < cur.size:=by omega
  simp [hc,hi]
 ·rw [if_neg hi,List.getElem?_eq_none (by omega)];rfl
theorem Z6q (l:List Int) (v:Value) (S K:PH) (I:List Itm) (h:Held S K (orow 3 l v::I)) (hl:l.length≤40000000) :
  Tri Tryz.prog 207 #[v] K fun x K'=>x=.returned (.tuple #[])∧Held S K' (orow 3 (sortI l) v::I):=by
 intro w hv
 have hr:=h.row (zms)
 obtain ⟨xs,ho,hrow⟩:=hr.own
 obtain ⟨rfl,hin⟩:=Z1m hrow
 rcases ho.2 with ⟨rfl,hn⟩ | ⟨g,cap,cur,rfl,hg,h2,h3,h4,h5⟩
 ·have:l=[]:=List.length_eq_zero_iff.1 hn
  subst this
  refine (Tryz.slices_Sort_int_none none 0 w).mono ?_
  rintro e w' ⟨rfl,rfl⟩
  exact ⟨K,.refl hv,rfl,by simpa [sortI] using h⟩
 ·have hsz:sz Int=1:=rfl
  rw [hsz,Nat.mul_one] at h4 h5
  have hw:=hv _ _ hg
  have hcur:∀j,j < l.length→cur[j]?=some (.int .i64 (l[j]!)):=fun j hj=>by
   have:=congrArg (fun x=>x[j]?) h5
   simp only [List.getElem?_take,if_pos hj,zem,Array.getElem?_toList] at this
   rw [this,zge hj]
   simp [hj]
  have hH:Sort.Holds (Value.int .i64) w g 0 l.toArray:=by
   intro j hj
   simp only [List.size_toArray] at hj
   refine ⟨?_,?_⟩
   ·unfold World.cell?
    simp only [hw,Nat.zero_add]
    simpa using hcur j hj
   ·unfold World.frozen?
    simp [hw]
  refine (Tryz.slices_Sort_int g 0 cap l w hH (hv.lt hg) (by omega)).mono ?_
  rintro e w' ⟨rfl,n,os,rfl⟩
  obtain ⟨cur',hcur'⟩:∃c,c=Sort.putCells (Value.int .i64) 0 (sortI l).toArray cur:=⟨_,rfl⟩
  have hadv:Adv K w (K.upd g (.cells cur' 3 (0,0))) (Sort.putRow (Value.int .i64) (Sort.ahead w n) g 0 (sortI l).toArray):=by
   refine Adv.put (w':=Sort.putRow (Value.int .i64) (Sort.ahead w n) g 0 (sortI l).toArray) hv hg ?_ ?_ rfl rfl rfl
   ·simp [Sort.putRow,Sort.mapBlock,Sort.ahead]
   ·intro k
    show (w.heap.modify g _)[k]?=_
    rw [Array.getElem?_modify]
    by_cases e:k=g
    ·subst e;rw [if_pos rfl,if_pos rfl,hw,hcur'];rfl
    ·rw [if_neg e,if_neg (Ne.symm e)]
  refine ⟨_,hadv.trans (Zbf hadv.vis os),rfl,?_⟩
  have hSg:S g=none:=hr.off g rfl
  have hlen:(sortI l).length=l.length:=List.length_mergeSort l
  have hle:PH.le S (K.upd g (.cells cur' 3 (0,0))):=fun k o hk=>by
   rw [PH.upd_other (fun e=>by rw [e,hSg] at hk;cases hk)];exact h.sh k o hk
  refine h.went ⟨hr.off,(sortI l).map (Value.int .i64),⟨by rw [zlm,hsz,Nat.mul_one],.inr ⟨g,cap,cur',by rw [hlen],PH.upd_same,by rw [hlen];exact h2,h3,?_,?_⟩⟩,zgv fun x hx=>hin x ((z8l l x).1 hx)⟩ hle ⟨fun k o hk hn=>?_,fun k hk=>.inl hk⟩
  ·rw [hcur',hsz,Nat.mul_one,←h4];simp [Sort.putCells]
  ·rw [hcur',hsz,Nat.mul_one]
   exact zxq (by rw [hlen];omega)
  ·rw [PH.upd_other (fun e=>hn (by rw [e];rfl))];exact hk
theorem Za5 {est:Array MapEntry} {clt:Nat} {t:List Int} (hst:SetAt est clt t) {seen:Array Nat} {e:MapEntry} (he:e∈leftM est seen) {k:Int} (hk:k∈t) (hek:e.key=.int .i64 k) (y:Int) :
  (y∈t∧∀e'∈leftM est (seen.push e.born),e'.key≠.int .i64 y)↔((y∈t∧∀e'∈leftM est seen,e'.key≠.int .i64 y)∨y=k):=by
 have hee:e∈est.toList:=(zmf.1 he).1
 obtain ⟨p1,p2⟩:=zfd hst he
 constructor
 ·rintro ⟨h3,h4⟩
  by_cases hyk:y=k
  ·exact .inr hyk
  ·refine .inl ⟨h3,fun e' he' hke=>?_⟩
   rcases (p2 e').1 he' with rfl | h5
   ·rw [hek] at hke;cases hke;exact hyk rfl
   ·exact h4 e' h5 hke
 ·rintro (⟨h3,h4⟩ | rfl)
  ·exact ⟨h3,fun e' he'=>h4 e' ((p2 e').2 (.inr he'))⟩
  ·refine ⟨hk,fun e' he' hke=>?_⟩
   have he'l:e'∈leftM est seen:=(p2 e').2 (.inr he')
   have he'e:e'∈est.toList:=(zmf.1 he'l).1
   obtain ⟨a,ha⟩:=List.getElem?_of_mem he'e
   obtain ⟨b,hb⟩:=List.getElem?_of_mem hee
   have hkeys:(est.toList.map (·.key))=t.map fun k=>Value.int .i64 k:=by
    have:=congrArg (List.map Prod.fst) hst.ents
    simp only [List.map_map,Function.comp_def,encS] at this
    exact this
   have hta:t[a]?=some y:=by
    have:=congrArg (fun l=>l[a]?) hkeys
    simp only [zem,ha,Option.map_some,hke] at this
    cases hx:t[a]? with
    | none=>rw [hx] at this;cases this
    | some z=>rw [hx] at this;simp at this;rw [this]
   have htb:t[b]?=some y:=by
    have:=congrArg (fun l=>l[b]?) hkeys
    simp only [zem,hb,Option.map_some,hek] at this
    cases hx:t[b]? with
    | none=>rw [hx] at this;cases this
    | some z=>rw [hx] at this;simp at this;rw [this]
   have hab:=(List.getElem?_inj (zgi.1 hta).1 hst.nodup).1 (hta.trans htb.symm)
   subst hab
   rw [ha] at hb;cases hb
   have hno:=(zmf.1 he').2
   simp at hno
set_option maxHeartbeats 1000000 in
theorem zj9 (r:Nat) (es:Array MapEntry) (clock:Nat) (s:List Int) (S K:PH) (I:List Itm) (h:Held S K I) (hr:S r=some (.map es clock)∨Itm.blk r (.map es clock)∈I) (hs:SetAt es clock s) (hi:∀x∈s,InI x) (hl:s.length≤40000000) :
  Tri Tryz.prog zeg #[.map (some r)] K fun x K'=>∃S' v,PH.le S S'∧x=.returned v∧SlR S' (sortI s) v∧Held S' K' I:=by
 have hrd:∀{S' K':PH} {J:List Itm},PH.le S S'→Held S' K' (J++I)→K' r=some (.map es clock):=fun hS h'=>hr.elim (fun h1=>h'.sh _ _ (hS _ _ h1)) fun h1=>h'.blk (List.mem_append_right _ h1)
 refine zbt [.map (some r)] (by kernel_rfl) (by kernel_rfl) ?_
 refine zlj (r:=r) (es:=es) (clock:=clock) uSetK (by kernel_rfl) (hrd (J:=[]) (PH.le_refl S) h) (fun _ _=>z01) fun i hin=>?_
 have h0:=(Held.empty (α:=Int) (h.new hin (.mapIter (some r) clock #[] clock)) 3).perm (List.Perm.swap _ _ _)
 have hl0:leftM es #[]=es.toList:=by unfold leftM;simp
 have hlen:es.toList.length=s.length:=by have:=hs.len;simpa [encS] using this
 refine ⟨fun n vs K'=>∃(seen:Array Nat) (out:List Int) (v:Value) (S':PH),vs=[v]∧n=(leftM es seen).length∧PH.le S S'∧Held S' K' (.blk i (.mapIter (some r) clock seen clock)::orow 3 out v::I)∧out.Nodup∧(∀y,y∈out↔(y∈s∧∀e∈leftM es seen,e.key≠.int .i64 y))∧out.length+(leftM es seen).length≤s.length,
  ⟨_,#[],[],.slice none 0 0,S,rfl,rfl,PH.le_refl S,h0,List.nodup_nil,fun y=>?_,by rw [hl0,hlen];simp⟩,?_⟩
 ·simp only [List.not_mem_nil,false_iff,not_and]
  intro hy hno
  obtain ⟨e,he,hk⟩:=hs.has hy
  exact hno e (by rw [hl0];exact he) hk
 rintro n vs K1 _ ⟨seen,out,v,S1,rfl,rfl,l1,h1,hnd,hm1,hln⟩
 refine ⟨fun vs K'=>∃b:Bool,vs=[.bool b]∧((b=false∧leftM es seen=[]∧Held S1 K' (.blk i (.mapIter (some r) clock seen clock)::orow 3 out v::I))∨(b=true∧∃e∈leftM es seen,Held S1 K' (.blk i (.mapIter (some r) clock (seen.push e.born) clock)::orow 3 out v::I))),?_,?_⟩
 ·rintro vs K2 _ ⟨b,rfl,hcase⟩
  refine ⟨fun g=>?_,fun g=>?_⟩
  ·simp only [evs,evb] at g
   subst g
   rcases hcase with ⟨h,_⟩ | ⟨_,e,he,h2⟩
   ·cases h
   have hee:e∈es.toList:=(zmf.1 he).1
   obtain ⟨k,hk,hek,hev⟩:=hs.entry hee
   refine zmb (i:=i) (r:=r) (es:=es) (clock:=clock) (seen:=seen) (m:=encS s) (e:=e) (by kernel_rfl) (h2.blk (zms)) (hrd (J:=[_,_]) l1 h2) hs hee (by rw [hek,hev];exact ⟨rfl,rfl⟩) ?_
   rw [hek,hev]
   obtain ⟨p1,p2⟩:=zfd hs he
   have hkn:k∉out:=fun hko=>((hm1 k).1 hko).2 e he hek
   refine z28 (more:=[k]) (b:=8) [.int .i64 k] z0s z0v rfl (by decide) (by decide) (h2.perm (List.Perm.swap _ _ _)) (by kernel_rfl) (.cons (z0k (hi k hk)) .nil) z01 (fun _=>by kernel_rfl) (fun _=>by kernel_rfl)
    (by simp only [maxLen,zlc,zln];omega) (by simp only [zlc,zln];omega) fun u v' S4 K4 l4 h4=>⟨z01,_,z00,_,p1,seen.push e.born,out++[k],v',S4,rfl,rfl,PH.le_trans l1 l4,h4.perm (List.Perm.swap _ _ _),?_,fun y=>?_,?_⟩
   ·rw [List.nodup_append]
    exact ⟨hnd,by simp,fun a ha b hb=>by simp at hb;subst hb;exact fun e=>hkn (e ▸ ha)⟩
   ·rw [zma,hm1,Za5 hs he hk hek y]
    simp
   ·simp only [zla,zlc,zln];omega
  ·simp only [evs,evb] at g
   subst g
   rcases hcase with ⟨_,hnil,h2⟩ | ⟨h,_⟩
   ·refine z04 (by kernel_rfl) (Z6q out v S1 K2 I h2.tail (by omega)) ?_
    rintro x K3 ⟨rfl,h3⟩
    refine ⟨_,[],rfl,rfl,rfl,z01,?_⟩
    have heq:sortI out=sortI s:=by
     refine zdq (z75 hnd) (z75 hs.nodup) fun x=>?_
     rw [z8l,z8l,hm1,hnil]
     simp
    rw [heq] at h3
    obtain ⟨S5,s5,l5,h5⟩:=h3.freeze
    exact ⟨S5,v,PH.le_trans l1 l5,rfl,s5,h5⟩
   ·cases h
 ·refine zpu (i:=i) (r:=r) (es:=es) (clock:=clock) (seen:=seen) (m:=encS s) (by kernel_rfl) (h1.blk (zms)) (hrd (J:=[_,_]) l1 h1) hs (fun e he=>?_) (fun hnil=>?_) fun e he=>?_
  ·obtain ⟨k,hk,hek,hev⟩:=hs.entry he
   rw [hek,hev];exact ⟨rfl,rfl⟩
  ·exact ⟨_,z00,false,rfl,.inl ⟨rfl,hnil,h1⟩⟩
  ·exact ⟨_,z00,true,rfl,.inr ⟨rfl,e,he,h1.put _⟩⟩
theorem zoq (e:EndX) (av:Value) (H:PH) (ha:SlR H e.args av):Gives Tryz.prog Z0o [.agg (endVs e av).toArray] H (.bool e.calls):=by
 obtain ⟨b,c,rfl⟩:=ha.sl
 refine zvj (endVs e (.slice b e.args.length c)) (by kernel_rfl) (by kernel_rfl) ?_
 refine ⟨?_,PH.le_refl _⟩
 simp only [endVs,evs,evb,EndX.calls]
 congr 2
 by_cases h4:e.kind=4<;>by_cases h6:e.kind=6<;>simp [h4,h6]
theorem Z90 (e:EndX) (av:Value) (S:PH) (ha:SlR S e.args av) (hn:InI e.next) (he:InI e.els) :
  Tri Tryz.prog zzz #[.agg (endVs e av).toArray] S fun x S'=>PH.le S S'∧∃v,x=.returned v∧SlR S' e.ways v:=by
 obtain ⟨b,c,rfl⟩:=ha.sl
 refine zvn (endVs e (.slice b e.args.length c)) (by kernel_rfl) (by kernel_rfl) ?_
 simp only [endVs]
 refine ⟨fun vs H'=>vs=[.bool (decide (e.kind=0∨e.kind=4∨e.kind=6))]∧H'=S,?_,fun g=>?_,fun g=>?_⟩
 ·rintro vs H' _ ⟨rfl,rfl⟩
  refine ⟨fun g=>?_,fun g=>⟨fun g2=>?_,fun g2=>?_⟩⟩
  ·simp only [evs,evb,zdt] at g
   have hw:e.ways=[e.next]:=by
    unfold EndX.ways
    rw [if_pos (by omega),if_neg (by omega)];rfl
   rw [hw]
   refine z12 (α:=Int) (l:=[e.next]) (b:=8) [.int .i64 e.next] z0s z0v rfl (by decide) (by decide) (Held.nil (PH.le_refl H')) (by kernel_rfl) (.cons (z0k hn) .nil) z01 fun v K2 h2 _ _=>?_
   obtain ⟨S3,s3,l3,h3⟩:=h2.freeze
   exact ⟨PH.le_trans l3 h3.sh,v,rfl,s3.le h3.sh⟩
  ·simp only [evs,evb,zdt] at g2
   have hw:e.ways=[e.next,e.els]:=by
    unfold EndX.ways
    rw [if_pos (by omega),if_pos (by omega)];rfl
   rw [hw]
   refine z12 (α:=Int) (l:=[e.next,e.els]) (b:=8) [.int .i64 e.next,.int .i64 e.els] z0s z0v rfl (by decide) (by decide) (Held.nil (PH.le_refl H')) (by kernel_rfl) (.cons (z0k hn) (.cons (z0k he) .nil)) z01 fun v K2 h2 _ _=>?_
   obtain ⟨S3,s3,l3,h3⟩:=h2.freeze
   exact ⟨PH.le_trans l3 h3.sh,v,rfl,s3.le h3.sh⟩
  ·simp only [evs,evb,zdf] at g g2
   have hw:e.ways=[]:=by
    unfold EndX.ways
    rw [if_neg (by omega),if_neg (by omega)];rfl
   rw [hw]
   exact ⟨PH.le_refl _,_,rfl,z50 _⟩
 ·simp only [evs,evb,zdt] at g
  refine ⟨_,z00,?_,rfl⟩
  simp [evs,evb,g]
 ·simp only [evs,evb,zdf] at g
  refine ⟨_,z00,?_,rfl⟩
  by_cases h4:e.kind=4<;>by_cases h6:e.kind=6<;>simp [evs,evb,g,h4,h6]
def EndX.rds (e:EndX):List Int:=if e.kind=1∨e.kind=2∨e.kind=5∨e.kind=6 then [e.reg] else if e.kind=3∨e.kind=4 then e.reg::e.args else []
theorem Zda (e:EndX) (r:Int):r∈e.rds↔e.reads r=true:=by
 unfold EndX.rds EndX.reads
 split
 ·simp;exact ⟨fun h=>h.symm,fun h=>h.symm⟩
 ·split
  ·simp only [zmc,Bool.or_eq_true,zdt]
   exact ⟨fun h=>h.imp (fun h=>h.symm) id,fun h=>h.imp (fun h=>h.symm) id⟩
  ·simp
theorem Z9l (e:EndX) (av:Value) (S:PH) (ha:SlR S e.args av) (hr:InI e.reg) (hl:e.args.length≤40000000) :
  Tri Tryz.prog Z0x #[.agg (endVs e av).toArray] S fun x S'=>PH.le S S'∧∃v,x=.returned v∧SlR S' e.rds v:=by
 obtain ⟨b,c,rfl⟩:=ha.sl
 refine zuj (endVs e (.slice b e.args.length c)) (by kernel_rfl) (by kernel_rfl) ?_
 simp only [endVs]
 refine ⟨fun vs H'=>vs=[.bool (decide (e.kind=1∨e.kind=2∨e.kind=5∨e.kind=6))]∧H'=S,?_,fun g=>?_,fun g=>⟨fun g2=>?_,fun g2=>?_⟩⟩
 ·rintro vs H' _ ⟨rfl,rfl⟩
  refine ⟨fun g=>?_,fun g=>⟨fun g2=>?_,fun g2=>?_⟩⟩
  ·simp only [evs,evb,zdt] at g
   have hw:e.rds=[e.reg]:=by unfold EndX.rds;rw [if_pos g]
   rw [hw]
   refine z12 (α:=Int) (l:=[e.reg]) (b:=8) [.int .i64 e.reg] z0s z0v rfl (by decide) (by decide) (Held.nil (PH.le_refl H')) (by kernel_rfl) (.cons (z0k hr) .nil) z01 fun v K2 h2 _ _=>?_
   obtain ⟨S3,s3,l3,h3⟩:=h2.freeze
   exact ⟨PH.le_trans l3 h3.sh,v,rfl,s3.le h3.sh⟩
  ·simp only [evs,evb,zdf] at g
   have hk:e.kind=3∨e.kind=4:=by
    by_cases h3:e.kind=3
    ·exact .inl h3
    ·by_cases h4:e.kind=4
     ·exact .inr h4
     ·simp [evs,evb,h3,h4] at g2
   have hw:e.rds=[e.reg]++e.args:=by unfold EndX.rds;rw [if_neg g,if_pos hk];rfl
   rw [hw]
   refine z12 (α:=Int) (l:=[e.reg]) (b:=8) [.int .i64 e.reg] z0s z0v rfl (by decide) (by decide) (Held.nil (PH.le_refl H')) (by kernel_rfl) (.cons (z0k hr) .nil) z01 fun v K2 h2 _ _=>?_
   refine za4 (b:=8) (more:=e.args) z0s z0v (by kernel_rfl) (by kernel_rfl) h2 (ha.srcS h2.sh) (by simp only [maxLen,zlc,zln];omega) (by simp only [zlc,zln];omega) fun v3 K3 h3 _=>⟨z01,?_⟩
   obtain ⟨S4,s4,l4,h4⟩:=h3.freeze
   exact ⟨PH.le_trans l4 h4.sh,v3,rfl,s4.le h4.sh⟩
  ·simp only [evs,evb,zdf] at g
   have hk:¬(e.kind=3∨e.kind=4):=by
    rintro (h3 | h3)<;>simp [evs,evb,h3] at g2
   have hw:e.rds=[]:=by unfold EndX.rds;rw [if_neg g,if_neg hk]
   rw [hw]
   exact ⟨PH.le_refl _,_,rfl,z50 _⟩
 ·simp only [evs,evb,zdt] at g
  refine ⟨_,z00,?_,rfl⟩
  simp [evs,evb,g]
 ·simp only [evs,evb,zdt] at g2
  refine ⟨_,z00,?_,rfl⟩
  simp [evs,evb,g2]
 ·simp only [evs,evb,zdf] at g g2
  refine ⟨_,z00,?_,rfl⟩
  by_cases h5:e.kind=5<;>by_cases h6:e.kind=6<;>simp [evs,evb,g,g2,h5,h6]
theorem zor (r:Nat) (es:Array MapEntry) (clock:Nat) (s:List Int) (x:InsX) (cs:List Value) (S K:PH) (hx:CsR S x cs) (h:Held S K [.blk r (.map es clock)]) (hs:SetAt es clock s) :
  Tri Tryz.prog za2 #[.map (some r),.agg cs.toArray] K fun e K'=>∃es' clock' s',e=.returned (.tuple #[])∧Held S K' [.blk r (.map es' clock')]∧SetAt es' clock' s'∧∀y,y∈s'↔(y∈x.args∨(¬x.fills y∧y∈s)):=by
 obtain ⟨av,dv,rfl,y1,y2,ya,y4,y5,y6,yd,y8⟩:=ins_iff.1 hx
 obtain ⟨ab,ac,rfl⟩:=ya.sl
 obtain ⟨db,dc,rfl⟩:=yd.sl
 refine zpd [.map (some r),txt x.op,.int .i64 x.to,.slice ab x.args.length ac,.int .i64 x.const.kind,.int .i64 x.const.int,txt x.const.text,.slice db x.const.list.length dc,.int .i64 x.num] (by kernel_rfl) (by kernel_rfl) ?_
 refine ⟨fun vs K'=>vs=[]∧∃es' clock' s',Held S K' [.blk r (.map es' clock')]∧SetAt es' clock' s'∧∀y,y∈s'↔(¬x.fills y∧y∈s),?_,fun g=>?_,fun g=>?_⟩
 ·rintro vs K2 _ ⟨rfl,es2,clock2,s2,h2,hs2,hm2⟩
  refine z04 z87 (zrf r es2 clock2 s2 x.args _ S K2 ya h2 hs2) ?_
  rintro e K3 ⟨es3,clock3,s3,rfl,h3,hs3,hm3⟩
  refine ⟨_,[],rfl,rfl,rfl,z01,es3,clock3,s3,rfl,h3,hs3,fun y=>?_⟩
  rw [hm3,hm2]
  exact Or.comm
 ·simp only [evs,evb,znm] at g
  have hop:x.op≠tieB:=by simpa using g
  refine z04 z47 (zg7 r es clock s x.to S K h hs) ?_
  rintro e K3 ⟨es3,clock3,rfl,h3,hs3⟩
  refine ⟨_,[],rfl,rfl,rfl,z01,_,z00,rfl,es3,clock3,_,h3,hs3,fun y=>?_⟩
  rw [zmf]
  simp only [zdt,InsX.fills]
  constructor
  ·rintro ⟨h1,h2⟩;exact ⟨fun hf=>h2 hf.2.symm,h1⟩
  ·rintro ⟨h1,h2⟩;exact ⟨h2,fun e=>h1 ⟨hop,e.symm⟩⟩
 ·simp only [evs,evb,znm] at g
  have hop:x.op=tieB:=by simpa using g
  refine ⟨_,z00,rfl,es,clock,s,h,hs,fun y=>?_⟩
  exact ⟨fun hy=>⟨fun hf=>hf.1 hop,hy⟩,fun hy=>hy.2⟩
abbrev flowB (fb:Nat) (p:PrcX) (bv:Value) (inv:Value):Itm:=.blk fb (.cells [.int .i64 p.params,.int .i64 p.holds,.int .i64 p.regs,bv,inv].toArray 219 (0,0))
abbrev inB (ib:Nat) (ims:List Value):Itm:=.blk ib (.cells ims.toArray 216 (0,0))
theorem znp {K:PH} {b off:Nat} {cs:List Value} {e:TypeId} {f:Nat×Nat} (h:K b=some (.cells cs.toArray e f)) (n:Nat):rowAt K (some ⟨b,off,none⟩) ((cs.drop off).take n):=by
 refine ⟨_,rfl,fun i v hi=>?_⟩
 rw [Addr.add_plain,PH.cell_at h]
 rw [List.getElem?_take] at hi
 split at hi
 ·rw [List.getElem?_drop] at hi;simpa using hi
 ·cases hi
theorem zh7 {K:PH} {ib n c:Nat} {ims:List Value} {e:TypeId} {f:Nat×Nat} {v:Value} (h:K ib=some (.cells ims.toArray e f)) (hv:ims[c]?=some v):rowAt K (pOf (eltV (.slice (some ⟨ib,0,none⟩) n n) (c:Int) 1)) [v]:=by
 have h1:=znp (off:=c) h 1
 have h2:(ims.drop c).take 1=[v]:=by
  obtain ⟨hc,he⟩:=zgi.1 hv
  rw [List.drop_eq_getElem_cons hc,he];rfl
 rw [h2] at h1
 have:pOf (eltV (.slice (some ⟨ib,0,none⟩) n n) (c:Int) 1)=some ⟨ib,c,none⟩:=by simp [eltV,pOf,z0d,Addr.add_plain]
 rw [this];exact h1
def outS (p:PrcX) (sets:Nat→List Int) (b:BlkX) (y:Int):Prop:=b.e.reads y=true∨(¬(b.e.calls=true∧b.e.to=y)∧∃c:Nat,(c:Int)∈b.e.leads p.blocks.length∧y∈sets c)
set_option maxHeartbeats 2000000 in
theorem Z5g (p:PrcX) (bv:Value) (fb ib:Nat) (ims:List Value) (sets:Nat→List Int) (i:Nat) (b:BlkX) (S K:PH) (hbv:SlR S p.blocks bv) (hb:p.blocks[i]?=some b) (hN:p.blocks.length≤20000000) (hrl:b.e.args.length≤40000000) (hil:ims.length=p.blocks.length) (him:∀c v,ims[c]?=some v→SetR S v (sets c))
  (h:Held S K [flowB fb p bv (.slice (some ⟨ib,0,none⟩) p.blocks.length p.blocks.length),inB ib ims]) :
  Tri Tryz.prog zq0 #[.pointer (some ⟨fb,0,none⟩),nI i] K fun x K'=>∃S' ro es clock s,PH.le S S'∧x=.returned (.map (some ro))∧Held S' K' [.blk ro (.map es clock),flowB fb p bv (.slice (some ⟨ib,0,none⟩) p.blocks.length p.blocks.length),inB ib ims]∧SetAt es clock s∧∀y,y∈s↔outS p sets b y:=by
 obtain ⟨b0,c0,rfl⟩:=hbv.sl
 have hi:i < p.blocks.length:=(zgi.1 hb).1
 refine zm3 [.pointer (some ⟨fb,0,none⟩),nI i] (by kernel_rfl) (by kernel_rfl) ?_
 have hfl:∀{S' K':PH} {J:List Itm},Held S' K' (J++[flowB fb p (.slice b0 p.blocks.length c0) (.slice (some ⟨ib,0,none⟩) p.blocks.length p.blocks.length),inB ib ims])→rowAt K' (some ⟨fb,3,none⟩) [.slice b0 p.blocks.length c0]∧rowAt K' (some ⟨fb,4,none⟩) [.slice (some ⟨ib,0,none⟩) p.blocks.length p.blocks.length]∧K' ib=some (.cells ims.toArray 216 (0,0)):=fun h'=>
  ⟨znp (h'.blk (List.mem_append_right _ (zms))) 1,znp (h'.blk (List.mem_append_right _ (zms))) 1,h'.blk (List.mem_append_right _ (zmm _ (zms)))⟩
 obtain ⟨q1,_,ces,q2,q3⟩:=hbv.get hb
 obtain ⟨iv,es0,rfl,his,hes⟩:=blk_iff.1 q2
 obtain ⟨av,rfl,e1,e2,hea,e3,e4,e5⟩:=end_iff.1 hes
 obtain ⟨b3,c3,rfl⟩:=hea.sl
 refine ⟨fun _=>rfl,[.slice b0 p.blocks.length c0],rfl,?_,fun _=>?_,[.int .i64 b.e.kind,.int .i64 b.e.reg,.slice b3 b.e.args.length c3,.int .i64 b.e.to,.int .i64 b.e.next,.int .i64 b.e.els],rfl,?_,?_⟩
 ·exact (hfl (J:=[]) h).1
 ·simp only [Chk.holds,evs,evb];exact ⟨q1,by omega,by omega⟩
 ·simp only [evs,evb];exact z4o (z0u h.sh q3) 1 6
 refine z1r fun ro hro=>?_
 have h1:=h.new hro (.map #[] 0)
 refine z04 zyi (h1.pure (R:=fun x S'=>∃v,x=.returned v∧SlR S' b.e.ways v) (Z90 b.e _ S hea e4 e5)) ?_
 rintro x K2 ⟨S2,l2,h2,lv,rfl,hlv⟩
 obtain ⟨b5,c5,rfl⟩:=hlv.sl
 refine ⟨_,[.slice b5 b.e.ways.length c5],rfl,rfl,rfl,z01,?_⟩
 have hwl:=Zb2 b.e
 refine ⟨fun n vs K'=>∃(k:Nat) (es:Array MapEntry) (clock:Nat) (s:List Int),vs=[nI k]∧k+n=b.e.ways.length∧Held S2 K' [.blk ro (.map es clock),flowB fb p (.slice b0 p.blocks.length c0) (.slice (some ⟨ib,0,none⟩) p.blocks.length p.blocks.length),inB ib ims]∧SetAt es clock s∧∀y,y∈s↔∃c:Nat,(c:Int)∈b.e.ways.take k∧c < p.blocks.length∧y∈sets c,
  ⟨b.e.ways.length,0,#[],0,[],rfl,by omega,h2,zfl,fun y=>by simp⟩,?_⟩
 rintro n vs K3 _ ⟨k,es,clock,s,rfl,hkn,h3,hs3,hm3⟩
 refine ⟨fun g=>?_,fun g=>?_⟩
 ·simp only [evs,evb,zdt] at g
  obtain ⟨a,ha⟩:∃a,b.e.ways[k]?=some a:=⟨_,zge (show k < b.e.ways.length by omega)⟩
  have hst:b.e.ways.take (k+1)=b.e.ways.take k++[a]:=by rw [List.take_add_one,ha];rfl
  obtain ⟨w1,_,wes,w2,w3⟩:=(hlv.le h3.sh).get ha
  obtain ⟨rfl,hai⟩:=csIK w2
  obtain ⟨r1,r2,r3⟩:=hfl (J:=[_]) h3
  refine ⟨fun vs K'=>vs=[]∧∃(es':Array MapEntry) (clock':Nat) (s':List Int),Held S2 K' [.blk ro (.map es' clock'),flowB fb p (.slice b0 p.blocks.length c0) (.slice (some ⟨ib,0,none⟩) p.blocks.length p.blocks.length),inB ib ims]∧SetAt es' clock' s'∧∀y,y∈s'↔∃c:Nat,(c:Int)∈b.e.ways.take (k+1)∧c < p.blocks.length∧y∈sets c,?_,fun _=>?_,[.int .i64 a],rfl,?_,?_⟩
  ·rintro vs K4 _ ⟨rfl,es4,clock4,s4,h4,hs4,hm4⟩
   refine ⟨_,z00,n - 1,by omega,k+1,es4,clock4,s4,?_,by omega,h4,hs4,hm4⟩
   simp only [evs,evb];rw [w64 (by omega) (by omega)];rfl
  ·simp only [Chk.holds,evs,evb];exact ⟨w1,by omega,by omega⟩
  ·simp only [evs,evb];exact w3
  refine ⟨fun vs K'=>vs=[.bool (decide (0≤a∧a < (p.blocks.length:Int)))]∧K'=K3,?_,fun g2=>?_,fun g2=>?_⟩
  ·rintro vs K4 _ ⟨rfl,rfl⟩
   refine ⟨fun g2=>?_,fun g2=>?_⟩
   ·simp only [evs,evb,zdt] at g2
    obtain ⟨c,rfl⟩:∃c:Nat,a=(c:Int):=⟨a.toNat,by omega⟩
    have hcN:c < ims.length:=by omega
    obtain ⟨mv,hmv⟩:∃mv,ims[c]?=some mv:=⟨_,zge hcN⟩
    have hset:=(him c mv hmv).le l2
    have hset':=hset
    obtain ⟨rt,est,clt,rfl,_,_⟩:=hset'
    refine ⟨[.slice (some ⟨ib,0,none⟩) p.blocks.length p.blocks.length],rfl,r2,fun _=>?_,[.map (some rt)],rfl,?_,?_⟩
    ·simp only [Chk.holds,evs,evb];exact ⟨rfl,by omega,by omega⟩
    ·simp only [evs,evb];exact zh7 (n:=p.blocks.length) r3 hmv
    refine z04 zgy (Held.call (P:=Tryz.prog) (f:=z85) (args:=#[.map (some ro),.map (some rt)]) (J:=[.blk ro (.map es clock)]) (I:=[flowB fb p (.slice b0 p.blocks.length c0) (.slice (some ⟨ib,0,none⟩) p.blocks.length p.blocks.length),inB ib ims])
     (R:=fun x S' J'=>S'=S2∧∃es' clock' s',x=.returned (.tuple #[])∧J'=[.blk ro (.map es' clock')]∧SetAt es' clock' s'∧∀y,y∈s'↔y∈s∨y∈sets c) h3
     (fun K' hK=>(Z45 ro es clock s (sets c) _ S2 K' hset hK hs3).mono fun x K'' ⟨es',clock',s',q1,q2,q3,q4⟩=>⟨S2,_,PH.le_refl _,q2,rfl,es',clock',s',q1,rfl,q3,q4⟩)) ?_
    rintro x K5 ⟨S5,J5,_,h5,rfl,es5,clock5,s5,rfl,rfl,hs5,hm5⟩
    refine ⟨_,[],rfl,rfl,rfl,z01,_,z00,rfl,es5,clock5,s5,h5,hs5,fun y=>?_⟩
    rw [hm5,hm3,hst]
    constructor
    ·rintro (⟨d,h1,h2,h3⟩ | h)
     ·exact ⟨d,List.mem_append_left _ h1,h2,h3⟩
     ·exact ⟨c,by simp,by omega,h⟩
    ·rintro ⟨d,h1,h2,h3⟩
     rcases zma.1 h1 with h1 | h1
     ·exact .inl ⟨d,h1,h2,h3⟩
     ·have:d=c:=by simp at h1;omega
      subst this;exact .inr h3
   ·simp only [evs,evb,zdf] at g2
    refine ⟨_,z00,rfl,es,clock,s,h3,hs3,fun y=>?_⟩
    rw [hm3,hst]
    constructor
    ·rintro ⟨d,h1,h2,h3⟩;exact ⟨d,List.mem_append_left _ h1,h2,h3⟩
    ·rintro ⟨d,h1,h2,h3⟩
     rcases zma.1 h1 with h1 | h1
     ·exact ⟨d,h1,h2,h3⟩
     ·exact absurd (by simp at h1;omega) g2
  ·simp only [evs,evb,zdt] at g2
   refine ⟨[.slice (some ⟨ib,0,none⟩) p.blocks.length p.blocks.length],rfl,r2,_,z00,?_,rfl⟩
   simp only [evs,evb]
   by_cases hc:a < (p.blocks.length:Int)<;>simp [hc]<;>omega
  ·simp only [evs,evb,zdf] at g2
   refine ⟨_,z00,?_,rfl⟩
   simp only [evs,evb]
   rw [decide_eq_false (fun h=>g2 (by omega))]
 ·simp only [evs,evb,zdf] at g
  rw [ztl (by omega)] at hm3
  have hea3:=hea.le l2
  refine ⟨fun vs K'=>vs=[]∧∃(es':Array MapEntry) (clock':Nat) (s':List Int),Held S2 K' [.blk ro (.map es' clock'),flowB fb p (.slice b0 p.blocks.length c0) (.slice (some ⟨ib,0,none⟩) p.blocks.length p.blocks.length),inB ib ims]∧SetAt es' clock' s'∧∀y,y∈s'↔(¬(b.e.calls=true∧b.e.to=y)∧y∈s),?_,?_⟩
  ·rintro vs K4 _ ⟨rfl,es4,clock4,s4,h4,hs4,hm4⟩
   refine z04 zxs (h4.pure (R:=fun x S'=>∃v,x=.returned v∧SlR S' b.e.rds v) (Z9l b.e _ S2 hea3 e2 hrl)) ?_
   rintro x K5 ⟨S5,l5,h5,rv,rfl,hrv⟩
   obtain ⟨b6,c6,rfl⟩:=hrv.sl
   refine ⟨_,[.slice b6 b.e.rds.length c6],rfl,rfl,rfl,z01,?_⟩
   refine z04 z87 (Held.call (P:=Tryz.prog) (f:=z9g) (args:=#[.map (some ro),.slice b6 b.e.rds.length c6]) (J:=[.blk ro (.map es4 clock4)]) (I:=[flowB fb p (.slice b0 p.blocks.length c0) (.slice (some ⟨ib,0,none⟩) p.blocks.length p.blocks.length),inB ib ims])
    (R:=fun x S' J'=>S'=S5∧∃es' clock' s',x=.returned (.tuple #[])∧J'=[.blk ro (.map es' clock')]∧SetAt es' clock' s'∧∀y,y∈s'↔y∈s4∨y∈b.e.rds) h5
    (fun K' hK=>(zrf ro es4 clock4 s4 b.e.rds _ S5 K' hrv hK hs4).mono fun x K'' ⟨es',clock',s',q1,q2,q3,q4⟩=>⟨S5,_,PH.le_refl _,q2,rfl,es',clock',s',q1,rfl,q3,q4⟩)) ?_
   rintro x K6 ⟨S6,J6,_,h6,rfl,es6,clock6,s6,rfl,rfl,hs6,hm6⟩
   refine ⟨_,[],rfl,rfl,rfl,z01,S6,ro,es6,clock6,s6,PH.le_trans l2 l5,rfl,h6,hs6,fun y=>?_⟩
   rw [hm6,hm4,hm3,Zda]
   unfold outS
   constructor
   ·rintro (⟨h1,c,h2,h3,h4⟩ | h)
    ·exact .inr ⟨h1,c,zmf.2 ⟨h2,by simp;omega⟩,h4⟩
    ·exact .inl h
   ·rintro (h | ⟨h1,c,h2,h3⟩)
    ·exact .inr h
    ·obtain ⟨h4,h5⟩:=zmf.1 h2
     exact .inl ⟨h1,c,h4,by simp at h5;omega,h3⟩
  ·refine z05 [.bool b.e.calls] zk6 (zoq b.e _ K3 (hea3.le h3.sh)) rfl z01 fun K4 l4=>⟨fun g2=>?_,fun g2=>?_⟩
   ·simp only [evs,evb] at g2
    refine z04 z47 (Held.call (P:=Tryz.prog) (f:=z8a) (args:=#[.map (some ro),.int .i64 b.e.to]) (J:=[.blk ro (.map es clock)]) (I:=[flowB fb p (.slice b0 p.blocks.length c0) (.slice (some ⟨ib,0,none⟩) p.blocks.length p.blocks.length),inB ib ims])
     (R:=fun x S' J'=>S'=S2∧∃es' clock',x=.returned (.tuple #[])∧J'=[.blk ro (.map es' clock')]∧SetAt es' clock' (s.filter fun y=>decide (y≠b.e.to))) (h3.le l4)
     (fun K' hK=>(zg7 ro es clock s b.e.to S2 K' hK hs3).mono fun x K'' ⟨es',clock',q1,q2,q3⟩=>⟨S2,_,PH.le_refl _,q2,rfl,es',clock',q1,rfl,q3⟩)) ?_
    rintro x K6 ⟨S6,J6,_,h6,rfl,es6,clock6,rfl,rfl,hs6⟩
    refine ⟨_,[],rfl,rfl,rfl,z01,_,z00,rfl,es6,clock6,_,h6,hs6,fun y=>?_⟩
    rw [zmf]
    simp only [zdt]
    exact ⟨fun ⟨h1,h2⟩=>⟨fun ⟨_,e⟩=>h2 e.symm,h1⟩,fun ⟨h1,h2⟩=>⟨h2,fun e=>h1 ⟨g2,e.symm⟩⟩⟩
   ·simp only [evs,evb] at g2
    refine ⟨_,z00,rfl,es,clock,s,h3.le l4,hs3,fun y=>?_⟩
    exact ⟨fun h=>⟨fun ⟨h1,_⟩=>by (rw [g2] at h1;cases h1),h⟩,fun h=>h.2⟩
structure Grows (p:PrcX) (sets:Nat→List Int):Prop where
 nodup:∀i,(sets i).Nodup
 live:∀i y,y∈sets i→LiveB p y i
 kept:∀i y,y∈sets i→z2i p y (fun c=>y∈sets c) i 0
def Step (p:PrcX) (sets:Nat→List Int) (i:Nat) (s:List Int):Prop:=s.Nodup∧∀y,y∈s↔z2i p y (fun c=>y∈sets c) i 0
theorem Z7i (p:PrcX):Grows p fun _=>[]:=⟨fun _=>List.nodup_nil,fun _ _ h=>(by cases h),fun _ _ h=>(by cases h)⟩
theorem z0w {l m:List Int} (h:l.Nodup) (hs:∀y∈l,y∈m):l.length≤m.length:=by
 induction l generalizing m with
 | nil=>simp
 | cons a l ih=>
  obtain ⟨h1,h2⟩:=List.nodup_cons.1 h
  have ha:=hs a (zms)
  have hlen:(m.erase a).length+1=m.length:=by
   rw [List.length_erase_of_mem ha]
   have:=List.length_pos_of_mem ha
   omega
  have:=ih (m:=m.erase a) h2 fun y hy=>(List.mem_erase_of_ne (fun e:y=a=>h1 (e ▸ hy))).2 (hs y (zmm _ hy))
  simp only [zlc];omega
theorem zv4 {l m:List Int} (hl:l.Nodup) (hs:∀y∈l,y∈m) (he:m.length=l.length):∀y∈m,y∈l:=by
 intro y hy
 by_cases h:y∈l
 ·exact h
 ·have:=z0w (l:=y::l) (m:=m) (List.nodup_cons.2 ⟨h,hl⟩) fun z hz=>(zmc.1 hz).elim (fun e=>e ▸ hy) (hs z)
  simp only [zlc] at this;omega
theorem Step.grown {p:PrcX} {sets:Nat→List Int} (hg:Grows p sets) {i:Nat} {s:List Int} (h:Step p sets i s):∀y∈sets i,y∈s:=fun y hy=>(h.2 y).2 (hg.kept i y hy)
def putF (sets:Nat→List Int) (i:Nat) (s:List Int):Nat→List Int:=fun j=>if j=i then s else sets j
theorem Grows.put {p:PrcX} {sets:Nat→List Int} (hg:Grows p sets) {i:Nat} {s:List Int} (h:Step p sets i s):Grows p (putF sets i s):=by
 have hup:∀c y,y∈sets c→y∈putF sets i s c:=fun c y hy=>by
  unfold putF
  split
  ·rename_i e;subst e;exact h.grown hg y hy
  ·exact hy
 refine ⟨fun j=>?_,fun j y hy=>?_,fun j y hy=>?_⟩
 ·unfold putF;split
  ·exact h.1
  ·exact hg.nodup j
 ·unfold putF at hy
  split at hy
  ·rename_i e;subst e
   exact zj7 (z2t (fun c hc=>hg.live c y hc) ((h.2 y).1 hy))
  ·exact hg.live j y hy
 ·unfold putF at hy
  split at hy
  ·rename_i e;subst e
   exact z2t (fun c hc=>hup c y hc) ((h.2 y).1 hy)
  ·exact z2t (fun c hc=>hup c y hc) (hg.kept j y hy)
theorem Grows.all {p:PrcX} {sets:Nat→List Int} (hg:Grows p sets) (h:∀i,i < p.blocks.length→∃s,Step p sets i s∧s.length=(sets i).length) {i:Nat} {y:Int}:y∈sets i↔LiveB p y i:=by
 refine ⟨hg.live i y,fun hl=>hl (fun c=>y∈sets c) fun j hj=>?_⟩
 have hjN:j < p.blocks.length:=by
  obtain ⟨b,hb,_⟩:=hj
  exact (zgi.1 hb).1
 obtain ⟨s,hs,he⟩:=h j hjN
 exact zv4 (hg.nodup j) (hs.grown hg) he y ((hs.2 y).2 hj)
theorem Grows.le {p:PrcX} {sets:Nat→List Int} (hg:Grows p sets) (i:Nat):(sets i).length≤p.regl.length:=
 z0w (hg.nodup i) fun y hy=>z5d (zjj (hg.live i y hy))
def sumS (sets:Nat→List Int):Nat→Nat
 | 0=>0
 | n+1=>sumS sets n+(sets n).length
theorem zu4 {p:PrcX} {sets:Nat→List Int} (hg:Grows p sets):∀n,sumS sets n≤n * p.regl.length
 | 0=>by simp [sumS]
 | n+1=>by
  have:=zu4 hg n
  have:=hg.le n
  simp only [sumS,Nat.succ_mul];omega
theorem zyw {sets:Nat→List Int} {i:Nat} {s:List Int}:∀n,i < n→sumS (putF sets i s) n+(sets i).length=sumS sets n+s.length
 | 0,h=>by omega
 | n+1,h=>by
  have key:∀m,m≤i→sumS (putF sets i s) m=sumS sets m:=by
   intro m
   induction m with
   | zero=>intro _;rfl
   | succ m ih=>
    intro hm
    have e:m≠i:=by omega
    simp only [sumS,ih (by omega),putF,if_neg e]
  by_cases e:n=i
  ·subst e
   simp only [sumS,key n (Nat.le_refl _),putF,if_pos]
   omega
  ·have:=zyw (sets:=sets) (s:=s) n (show i < n by omega)
   have hn:putF sets i s n=sets n:=by unfold putF;rw [if_neg e]
   simp only [sumS,hn];omega
theorem zl9 (l:List InsX) (sv:Value) (S:PH) (hs:SlR S l sv):Tri Tryz.prog z5m #[sv] S fun x S'=>∃q:Nat,PH.le S S'∧x=.returned (.func (.func 220) #[] #[.pointer (some ⟨q,0,none⟩)])∧rowAt S' (some ⟨q,0,none⟩) [sv]:=by
 obtain ⟨b,c,rfl⟩:=hs.sl
 refine z54 [.slice b l.length c] (by kernel_rfl) (by kernel_rfl) ?_
 intro q hq
 refine zm6 rfl ?_
 refine ⟨q,PH.le_upd hq,by simp [evV,ev,argEv,List.lookup],⟨_,rfl,fun i v hi=>by
  cases i with
  | zero=>
   simp only [List.getElem?_cons_zero,Option.some.injEq] at hi
   subst hi
   rw [Addr.add_plain,PH.cell_at PH.upd_same]
   rfl
  | succ i=>simp at hi⟩⟩
theorem zwj {b:List InsX} {j:Nat} {x:InsX} {y:Int} {q:Prop} (hj:j < b.length) (hx:b[b.length - 1 - j]?=some x):thru y (b.drop (b.length - (j+1))) q↔(y∈x.args∨(¬x.fills y∧thru y (b.drop (b.length - j)) q)):=by
 have hi:b.length - 1 - j=b.length - (j+1):=by omega
 rw [hi] at hx
 obtain ⟨hlt,he⟩:=zgi.1 hx
 rw [List.drop_eq_getElem_cons hlt,he,show b.length - (j+1)+1=b.length - j by omega]
 rfl
theorem Held.rawBlk {S H:PH} {I:List Itm} {e:TypeId} {xs:List Value} {n r:Nat} (h:Held S H (.raw e 1 xs n (.slice (some ⟨r,0,none⟩) n n)::I)):Held S H (.blk r (.cells xs.toArray e (0,0))::I):=by
 have ho:Own H e 1 (.slice (some ⟨r,0,none⟩) n n) n xs:=h.at_ _ (zms)
 have hr:H r=some (.cells xs.toArray e (0,0)):=by
  rcases ho.2 with ⟨h1,_⟩ | ⟨g,cap,cur,h1,h2,h3,h4,h5,h6⟩
  ·cases h1
  ·cases h1
   rw [Nat.mul_one] at h5 h6
   have:cur=xs.toArray:=by
    rw [←h6,ztl (by rw [Array.length_toList,h5];exact Nat.le_refl _)]
   rw [h2,this]
 have hJ:Held S H [.blk r (.cells xs.toArray e (0,0))]:=⟨h.sh,fun i hi=>by rw [zsi.1 hi];exact hr,fun i hi k hk=>by
  rw [zsi.1 hi] at hk
  simp only [Itm.ob,Option.some.injEq] at hk
  subst hk
  exact h.off _ (zms) r rfl,List.pairwise_singleton _ _⟩
 exact Held.step (J:=[.raw e 1 xs n (.slice (some ⟨r,0,none⟩) n n)]) (J':=[.blk r (.cells xs.toArray e (0,0))]) h (PH.le_refl _) (fun k o hk _=>hk) (fun k a b=>absurd a b) hJ fun j hj k hk=>by
  rw [zsi.1 hj] at hk
  simp only [Itm.ob,Option.some.injEq] at hk
  subst hk
  exact .inr ⟨_,zsi.2 rfl,rfl⟩
theorem Ze9:OneOk Tryz.prog 216 8 (.map none):=OneOk.of (by kernel_rfl) rfl
theorem Zf3:Tryz.prog.underlying 217=some (.slice 216):=by kernel_rfl
theorem zpx {S:PH} {p:PrcX} {bv:Value} (h:SlR S p.blocks bv):∀x∈p.regl,InI x:=by
 intro x hx
 obtain ⟨b,hb,hxb⟩:=List.mem_flatMap.1 hx
 obtain ⟨i,hi⟩:=List.getElem?_of_mem hb
 obtain ⟨_,_,cs,hc,_⟩:=h.get hi
 obtain ⟨iv,es,rfl,his,hes⟩:=blk_iff.1 hc
 obtain ⟨av,rfl,e1,e2,hea,e3,e4,e5⟩:=end_iff.1 hes
 have hargs:∀{l:List Int} {v:Value},SlR S l v→∀y∈l,InI y:=fun hl y hy=>by
  obtain ⟨k,hk⟩:=List.getElem?_of_mem hy
  obtain ⟨_,_,ds,hd,_⟩:=hl.get hk
  exact (csIK hd).2
 unfold BlkX.regs at hxb
 rcases zma.1 hxb with h1 | h1
 ·obtain ⟨y,hy,hxy⟩:=List.mem_flatMap.1 h1
  obtain ⟨k,hk⟩:=List.getElem?_of_mem hy
  obtain ⟨_,_,ds,hd,_⟩:=his.get hk
  obtain ⟨av2,dv,rfl,_,_,ha,_⟩:=ins_iff.1 hd
  exact hargs ha x hxy
 ·unfold EndX.regs at h1
  rcases zma.1 h1 with h1 | h1
  ·split at h1
   ·simp at h1;rw [h1];exact e2
   ·cases h1
  ·split at h1
   ·exact hargs hea x h1
   ·cases h1
def InsAt (S0 S:PH) (ims:List Value) (sets:Nat→List Int):Prop:=∀c v,ims[c]?=some v→SetR S v (sets c)∧∀r,v=.map (some r)→S0 r=none
theorem InsAt.le {S0 S S':PH} {ims:List Value} {sets:Nat→List Int} (h:InsAt S0 S ims sets) (hl:PH.le S S'):InsAt S0 S' ims sets:=fun c v hv=>⟨(h c v hv).1.le hl,(h c v hv).2⟩
theorem InsAt.set {S0 S:PH} {ims:List Value} {sets:Nat→List Int} (h:InsAt S0 S ims sets) {i r:Nat} {s:List Int} (hs:SetR S (.map (some r)) s) (h0:S0 r=none):InsAt S0 S (ims.set i (.map (some r))) (putF sets i s):=by
 intro c v hv
 rw [List.getElem?_set] at hv
 unfold putF
 by_cases e:i=c
 ·subst e
  rw [if_pos rfl] at hv
  split at hv
  ·cases hv
   rw [if_pos rfl]
   exact ⟨hs,fun r' h'=>by cases h';exact h0⟩
  ·cases hv
 ·rw [if_neg e] at hv
  rw [if_neg (fun h=>e h.symm)]
  exact h c v hv
theorem ztt {α:Type} (l:List α) (i:Nat) (a:α) (h:i < l.length):l.take i++[a]++l.drop (i+1)=l.set i a:=by
 rw [List.set_eq_take_append_cons_drop,if_pos h];simp
theorem Held.freezeSet {S0 S H:PH} {I:List Itm} {r:Nat} {es:Array MapEntry} {clock:Nat} {s:List Int} (h0:PH.le S0 S) (h:Held S H (.blk r (.map es clock)::I)) (hs:SetAt es clock s) :
  ∃S',PH.le S S'∧SetR S' (.map (some r)) s∧S0 r=none∧Held S' H I:=by
 have hr:S r=none:=h.off _ (zms) r rfl
 obtain ⟨h1,h2⟩:=h.freezeB
 exact ⟨_,h1,⟨r,es,clock,rfl,PH.upd_same,hs⟩,PH.none_of_le h0 hr,h2⟩
theorem Iter.congr {P:Program} {gv:Value} {S:PH} {n:Nat} {xs ys:Nat→List Value} (h:∀j,j < n→xs j=ys j) (hi:Iter P gv S n xs):Iter P gv S n ys:=by
 obtain ⟨gf,lb,h1,h2,h3⟩:=hi
 exact ⟨gf,lb,h1,h2,fun l I H W g1 g2 g3 g4 g5=>h3 l I H W g1 g2 g3 (fun j H' W' hj a b m=>by rw [h j hj];exact g4 j H' W' hj a b m) g5⟩
set_option maxHeartbeats 4000000 in
theorem zj4 (p:PrcX) (bv:Value) (S:PH) (hbv:SlR S p.blocks bv) (hp:p.Fit) (hE:∀b∈p.blocks,b.e.args.length≤20000000) :
  Tri Tryz.prog zym #[.agg (prcVs p bv).toArray] S fun x S'=>∃(fb ib:Nat) (ims:List Value) (sets:Nat→List Int) (Sf:PH),PH.le S Sf∧x=.returned (pAt fb)∧Held Sf S' [flowB fb p bv (.slice (some ⟨ib,0,none⟩) p.blocks.length p.blocks.length),inB ib ims]∧ims.length=p.blocks.length∧InsAt S Sf ims sets ∧
   (∀c,(sets c).Nodup)∧∀c y,c < p.blocks.length→(y∈sets c↔LiveB p y c):=by
 have hN:=hp.n
 obtain ⟨b0,c0,rfl⟩:=hbv.sl
 refine zts (prcVs p (.slice b0 p.blocks.length c0)) (by kernel_rfl) (by kernel_rfl) ?_
 simp only [prcVs]
 refine zct (n:=p.blocks.length) Zf3 Ze9 (by kernel_rfl) (by kernel_rfl) (by simp only [maxLen];omega) (by omega) (Held.nil (PH.le_refl S)) fun ib K1 h1 _=>?_
 have h1:=h1.rawBlk
 refine z15 (vs:=[.int .i64 p.params,.int .i64 p.holds,.int .i64 p.regs,.slice b0 p.blocks.length c0,.slice (some ⟨ib,0,none⟩) p.blocks.length p.blocks.length]) h1 (by kernel_rfl) fun fb K2 _ h2=>?_
 refine ⟨fun _=>rfl,?_⟩
 refine z0n [.slice (some ⟨ib,0,none⟩) p.blocks.length p.blocks.length] (off:=4) (by kernel_rfl) h2 (zms) rfl rfl ?_
 refine ⟨fun n vs K=>∃(k:Nat) (ims:List Value) (S':PH),vs=[nI k]∧k+n=p.blocks.length∧PH.le S S'∧ims.length=p.blocks.length∧Held S' K [flowB fb p (.slice b0 p.blocks.length c0) (.slice (some ⟨ib,0,none⟩) p.blocks.length p.blocks.length),inB ib ims] ∧
  ∀c v,c < k→ims[c]?=some v→SetR S' v []∧∀r,v=.map (some r)→S r=none,
  ⟨p.blocks.length,0,List.replicate p.blocks.length (.map none),S,rfl,by omega,PH.le_refl S,by simp,h2,fun c v h=>by omega⟩,?_⟩
 rintro n vs K _ ⟨k,ims,S1,rfl,hkn,l1,hil,h3,him⟩
 refine ⟨fun g=>?_,fun g=>?_⟩
 ·simp only [evs,evb,zdt] at g
  refine z0n [.slice (some ⟨ib,0,none⟩) p.blocks.length p.blocks.length] (off:=4) (by kernel_rfl) h3 (zms) rfl rfl ?_
  refine z1r fun ro hro=>?_
  have h4:=h3.new hro (.map #[] 0)
  obtain ⟨S5,l5,hset,hS0,h5⟩:=h4.freezeSet l1 zfl
  refine ⟨fun _=>?_,?_⟩
  ·simp only [Chk.holds,evs,evb];exact ⟨rfl,by omega,by omega⟩
  refine z0e (off:=k) (vs:=[.map (some ro)]) ?_ (h5.perm (List.Perm.swap _ _ _)) ?_ (by simp [oneC]) (by simp only [zlc,zln];omega) fun K6 h6=>?_
  ·simp only [evs,evb]
   simp [eltV,pOf,z0d,Addr.add_plain]
  ·simp only [evs,evb]
  rw [show ([Value.map (some ro)]).length=1 from rfl,ztt ims k _ (by omega)] at h6
  refine ⟨_,z00,n - 1,by omega,k+1,ims.set k (.map (some ro)),S5,?_,by omega,PH.le_trans l1 l5,by simpa using hil,h6.perm (List.Perm.swap _ _ _),fun c v hc hv=>?_⟩
  ·simp only [evs,evb];rw [w64 (by omega) (by omega)];rfl
  ·rw [List.getElem?_set] at hv
   by_cases e:k=c
   ·subst e
    rw [if_pos rfl] at hv
    split at hv
    ·cases hv;exact ⟨hset,fun r h=>by cases h;exact hS0⟩
    ·cases hv
   ·rw [if_neg e] at hv
    obtain ⟨q1,q2⟩:=him c v (by omega) hv
    exact ⟨q1.le l5,q2⟩
 ·simp only [evs,evb,zdf] at g
  have him':InsAt S S1 ims fun _=>[]:=fun c v hv=>him c v (by have:=(zgi.1 hv).1;omega) hv
  have hk0:sumS (fun _=>([]:List Int)) p.blocks.length=0:=by
   have:∀n,sumS (fun _=>([]:List Int)) n=0:=fun n=>by induction n with
    | zero=>rfl
    | succ n ih=>simp [sumS,ih]
   exact this _
  refine ⟨fun n vs K'=>∃(again:Bool) (ims:List Value) (sets:Nat→List Int) (S':PH),vs=[.bool again]∧n=p.blocks.length * p.regl.length - sumS sets p.blocks.length+(if again then 1 else 0)∧PH.le S S'∧ims.length=p.blocks.length∧Held S' K' [flowB fb p (.slice b0 p.blocks.length c0) (.slice (some ⟨ib,0,none⟩) p.blocks.length p.blocks.length),inB ib ims]∧InsAt S S' ims sets∧Grows p sets ∧
   (again=false→∀i,i < p.blocks.length→∃s,Step p sets i s∧s.length=(sets i).length),
   ⟨_,true,ims,fun _=>[],S1,rfl,rfl,l1,hil,h3,him',Z7i p,fun h=>by cases h⟩,?_⟩
  rintro n vs K4 _ ⟨again,ims4,sets4,S4,rfl,rfl,l4,hil4,h4,him4,hg4,hst4⟩
  refine ⟨fun ga=>?_,fun ga=>?_⟩
  ·simp only [evs,evb] at ga
   subst ga
   have hsum4:=zu4 hg4 p.blocks.length
   refine ⟨fun m vs K'=>∃(ch:Bool) (j:Nat) (ims':List Value) (sets':Nat→List Int) (S':PH),vs=[.bool ch,.int .i64 ((p.blocks.length:Int) - 1 - j)]∧j+m=p.blocks.length∧PH.le S S'∧ims'.length=p.blocks.length∧Held S' K' [flowB fb p (.slice b0 p.blocks.length c0) (.slice (some ⟨ib,0,none⟩) p.blocks.length p.blocks.length),inB ib ims']∧InsAt S S' ims' sets'∧Grows p sets' ∧
    sumS sets4 p.blocks.length≤sumS sets' p.blocks.length∧(ch=true→sumS sets4 p.blocks.length < sumS sets' p.blocks.length)∧(ch=false→∀i,p.blocks.length≤i+j→i < p.blocks.length→∃s,Step p sets' i s∧s.length=(sets' i).length),
    ⟨p.blocks.length,false,0,ims4,sets4,S4,?_,by omega,l4,hil4,h4,him4,hg4,Nat.le_refl _,fun h=>(by cases h),fun _ i h1 h2=>(by omega)⟩,?_⟩
   ·simp only [evs,evb]
    rw [w64 (by omega) (by omega)]
    simp
   rintro m vs K5 _ ⟨ch,j,ims5,sets5,S5,rfl,hjm,l5,hil5,h5,him5,hg5,hs1,hs2,hs3⟩
   refine ⟨fun gj=>?_,fun gj=>?_⟩
   ·simp only [evs,evb,zdt] at gj
    obtain ⟨i,hij⟩:∃i:Nat,(p.blocks.length:Int) - 1 - j=(i:Int):=⟨p.blocks.length - 1 - j,by omega⟩
    have hi:i < p.blocks.length:=by omega
    obtain ⟨b,hb⟩:∃b,p.blocks[i]?=some b:=⟨_,zge hi⟩
    rw [hij]
    refine ⟨fun vs K'=>∃(ch':Bool) (ims':List Value) (sets':Nat→List Int) (S':PH),vs=[.bool ch']∧PH.le S S'∧ims'.length=p.blocks.length∧Held S' K' [flowB fb p (.slice b0 p.blocks.length c0) (.slice (some ⟨ib,0,none⟩) p.blocks.length p.blocks.length),inB ib ims']∧InsAt S S' ims' sets'∧Grows p sets' ∧
     sumS sets4 p.blocks.length≤sumS sets' p.blocks.length∧(ch'=true→sumS sets4 p.blocks.length < sumS sets' p.blocks.length)∧(ch'=false→∀i,p.blocks.length≤i+(j+1)→i < p.blocks.length→∃s,Step p sets' i s∧s.length=(sets' i).length),?_,?_⟩
    ·rintro vs K6 _ ⟨ch',ims',sets',S',rfl,t1,t2,t3,t4,t5,t6,t7,t8⟩
     refine ⟨_,z00,m - 1,by omega,ch',j+1,ims',sets',S',?_,by omega,t1,t2,t3,t4,t5,t6,t7,t8⟩
     simp only [evs,evb]
     rw [w64 (by omega) (by omega)]
     congr 3;omega
    refine z04 zbo (Z5g p _ fb ib ims5 sets5 i b S5 K5 (hbv.le l5) hb hN (Nat.le_trans (hE b (zmg hb)) (by omega)) hil5 (fun c v h=>(him5 c v h).1) h5) ?_
    rintro x K6 ⟨S6,ro,es6,cl6,s6,l6,rfl,h6,hs6,hm6⟩
    refine ⟨_,[.map (some ro)],rfl,rfl,rfl,z01,?_⟩
    refine z15 (vs:=[.map none]) h6 (by kernel_rfl) fun sb K7 _ h7=>?_
    refine z0e (off:=0) (vs:=[.map (some ro)]) (by kernel_rfl) h7 (by kernel_rfl) (by simp [oneC]) (by simp) fun K8 h8=>?_
    have h8:Held S6 K8 [bx sb 216 [.map (some ro)],.blk ro (.map es6 cl6),flowB fb p (.slice b0 p.blocks.length c0) (.slice (some ⟨ib,0,none⟩) p.blocks.length p.blocks.length),inB ib ims5]:=h8
    have l56:=PH.le_trans l5 l6
    obtain ⟨q1,_,ces,q2,q3⟩:=(hbv.le l56).get hb
    obtain ⟨iv,esv,rfl,his,hes⟩:=blk_iff.1 q2
    obtain ⟨b2,c2,rfl⟩:=his.sl
    refine ⟨fun _=>?_,[.slice b2 b.ins.length c2],rfl,?_,?_⟩
    ·simp only [Chk.holds,evs,evb];exact ⟨q1,by omega,by omega⟩
    ·simp only [evs,evb];exact z4o (z0u h8.sh q3) 0 1
    refine z04 z2p (h8.pure (R:=fun x S'=>∃q:Nat,x=.returned (.func (.func 220) #[] #[.pointer (some ⟨q,0,none⟩)])∧rowAt S' (some ⟨q,0,none⟩) [.slice b2 b.ins.length c2]) ((zl9 b.ins _ S6 his).mono fun x S' ⟨q,t1,t2,t3⟩=>⟨t1,q,t2,t3⟩)) ?_
    rintro x K9 ⟨S9,l9,h9,q,rfl,hq⟩
    refine ⟨_,[.func (.func 220) #[] #[.pointer (some ⟨q,0,none⟩)]],rfl,rfl,rfl,z01,?_⟩
    obtain ⟨cells,hcells⟩:=(his.le l9).fn
    have hc8:∀j',j' < b.ins.length→(cells (b.ins.length - 1 - j')).length=8:=fun j' hj'=>by
     obtain ⟨y,hy⟩:∃y,b.ins[b.ins.length - 1 - j']?=some y:=⟨_,zge (by omega)⟩
     have:=(hcells _ y hy).1
     exact PV.RepRow.length this
    have hbl:=hp.ins b (zmg hb)
    refine ⟨S9,b.ins.length,fun j'=>nI (b.ins.length - 1 - j')::cells (b.ins.length - 1 - j'),fun j' H'=>∃(es:Array MapEntry) (cl:Nat) (s:List Int),Held S9 H' [bx sb 216 [.map (some ro)],.blk ro (.map es cl),flowB fb p (.slice b0 p.blocks.length c0) (.slice (some ⟨ib,0,none⟩) p.blocks.length p.blocks.length),inB ib ims5]∧SetAt es cl s∧∀y,y∈s↔thru y (b.ins.drop (b.ins.length - j')) (outS p sets5 b y),h9.sh,?_,?_,?_,?_,?_⟩
    ·refine Iter.congr (fun j' hj'=>?_) (zk9 b.ins S9 _ _ hq (his.le l9) (by omega) cells hcells)
     have:=hc8 j' hj'
     simp [z1c,RS.pack,RS.tags,ztl,this]
    ·rintro j' H' ⟨es,cl,s,hh,_⟩;exact hh.sh
    ·exact ⟨es6,cl6,s6,h9,hs6,fun y=>by rw [Nat.sub_zero,List.drop_length];exact hm6 y⟩
    ·rintro j' H' hj' ⟨es,cl,s,hh,hs,hm⟩
     obtain ⟨y,hy⟩:∃y,b.ins[b.ins.length - 1 - j']?=some y:=⟨_,zge (by omega)⟩
     obtain ⟨hyc,_⟩:=hcells _ y hy
     have hyc':=hyc
     obtain ⟨av,dv,hcell,_,_,hya,_,_,_,hyd,_⟩:=ins_iff.1 hyc
     obtain ⟨ab,ac,rfl⟩:=hya.sl
     obtain ⟨db,dc,rfl⟩:=hyd.sl
     simp only [hcell]
     refine ⟨rfl,?_⟩
     refine z0n [.map (some ro)] (off:=0) (by kernel_rfl) hh (zms) rfl rfl ?_
     rw [hcell] at hyc'
     refine z04 zff (Held.call (P:=Tryz.prog) (f:=za2) (args:=#[.map (some ro),.agg (List.toArray _)]) (J:=[.blk ro (.map es cl)]) (I:=[bx sb 216 [.map (some ro)],flowB fb p (.slice b0 p.blocks.length c0) (.slice (some ⟨ib,0,none⟩) p.blocks.length p.blocks.length),inB ib ims5])
      (R:=fun e S' J'=>S'=S9∧∃es' cl' s',e=.returned (.tuple #[])∧J'=[.blk ro (.map es' cl')]∧SetAt es' cl' s'∧∀z,z∈s'↔(z∈y.args∨(¬y.fills z∧z∈s))) (hh.perm (List.Perm.swap _ _ _))
      (fun K' hK=>(zor ro es cl s y _ S9 K' hyc' hK hs).mono fun e K'' ⟨es',cl',s',t1,t2,t3,t4⟩=>⟨S9,_,PH.le_refl _,t2,rfl,es',cl',s',t1,rfl,t3,t4⟩)) ?_
     rintro e K'' ⟨S',J',_,hh',rfl,es',cl',s',rfl,rfl,hs',hm'⟩
     refine ⟨_,[],rfl,rfl,rfl,z01,_,z00,es',cl',s',hh'.perm (List.Perm.swap _ _ _),hs',fun z=>?_⟩
     rw [hm',hm,zwj hj' hy]
    ·rintro H' ⟨es,cl,s,hh,hs,hm⟩
     have hst:Step p sets5 i s:=⟨hs.nodup,fun y=>by
      rw [hm,Nat.sub_self,List.drop_zero]
      exact ⟨fun h=>⟨b,hb,h⟩,fun ⟨b',hb',h⟩=>by rw [hb] at hb';cases hb';exact h⟩⟩
     obtain ⟨mv,hmv⟩:∃mv,ims5[i]?=some mv:=⟨_,zge (by omega)⟩
     have hset:=(him5 i mv hmv).1.le (PH.le_trans l6 l9)
     obtain ⟨rt,est,clt,rfl,hrt,hst'⟩:=hset
     have hsl:=z0w hst.1 fun y hy=>z5d (p:=p) (i:=i) (at_:=0) (z2t (fun c hc=>hg5.live c y hc) ((hst.2 y).1 hy))
     have hsl2:=hg5.le i
     have hreg:=hp.regs
     refine z0n [.map (some ro)] (off:=0) (by kernel_rfl) hh (zms) rfl rfl ?_
     refine z0n [.slice (some ⟨ib,0,none⟩) p.blocks.length p.blocks.length] (off:=4) (by kernel_rfl) hh (zmm _ (zmm _ (zms))) rfl rfl ?_
     have hib:H' ib=some (.cells ims5.toArray 216 (0,0)):=hh.blk (zmm _ (zmm _ (zmm _ (zms))))
     refine ⟨fun _=>?_,[.map (some rt)],rfl,?_,?_⟩
     ·simp only [Chk.holds,evs,evb];exact ⟨rfl,by omega,by omega⟩
     ·simp only [evs,evb];exact zh7 (n:=p.blocks.length) hib hmv
     refine zjl (α:=Int) (m:=encS s) (v:=.map (some ro)) rfl uSetK (by kernel_rfl) ⟨ro,es,cl,rfl,hh.blk (zmm _ (zms)),hs⟩ (by simp [encS];omega) ?_ ?_
     ·intro x hx
      simp only [zmc,List.not_mem_nil,or_false] at hx
      rcases hx with rfl | rfl
      ·simp only [evs,evb];exact zh7 (n:=p.blocks.length) hib hmv
      ·simp only [evs,evb]
       exact znp (off:=4) (hh.blk (zmm _ (zmm _ (zms)))) 1
     refine zjl (α:=Int) (m:=encS (sets5 i)) (v:=.map (some rt)) rfl uSetK (by kernel_rfl) ⟨rt,est,clt,rfl,hh.sh _ _ hrt,hst'⟩ (by simp [encS];omega) z01 ?_
     have hSle:PH.le S S9:=PH.le_trans l56 l9
     refine ⟨fun gl=>?_,fun gl=>?_⟩
     ·simp only [evs,evb,zdt] at gl
      have hgt:(sets5 i).length < s.length:=by
       have h1:=z0w (hg5.nodup i) (hst.grown hg5)
       have h2:s.length≠(sets5 i).length:=fun e=>by simp [encS,e] at gl
       omega
      refine z0n [.slice (some ⟨ib,0,none⟩) p.blocks.length p.blocks.length] (off:=4) (by kernel_rfl) hh (zmm _ (zmm _ (zms))) rfl rfl ?_
      refine z0n [.map (some ro)] (off:=0) (by kernel_rfl) hh (zms) rfl rfl ?_
      obtain ⟨S10,l10,hset10,hS0,h10⟩:=Held.freezeSet hSle (hh.perm (List.Perm.swap _ _ _)) hs
      refine ⟨fun _=>?_,?_⟩
      ·simp only [Chk.holds,evs,evb];exact ⟨rfl,by omega,by omega⟩
      refine z0e (off:=i) (vs:=[.map (some ro)]) ?_ (h10.tail.perm (List.Perm.swap _ _ _)) ?_ (by simp [oneC]) (by simp only [zlc,zln];omega) fun K12 h12=>?_
      ·simp only [evs,evb]
       simp [eltV,pOf,z0d,Addr.add_plain]
      ·simp only [evs,evb]
      rw [show ([Value.map (some ro)]).length=1 from rfl,ztt ims5 i _ (by omega)] at h12
      have hsum:=zyw (sets:=sets5) (s:=s) p.blocks.length hi
      exact ⟨_,z00,true,ims5.set i (.map (some ro)),putF sets5 i s,S10,rfl,PH.le_trans hSle l10,by simpa using hil5,h12.perm (List.Perm.swap _ _ _),(him5.le (PH.le_trans (PH.le_trans l6 l9) l10)).set hset10 hS0,hg5.put hst,by omega,fun _=>by omega,fun h=>by cases h⟩
     ·simp only [evs,evb,zdf] at gl
      have heq:s.length=(sets5 i).length:=by
       have:¬((s.length:Int)≠((sets5 i).length:Int)):=by simpa [encS] using gl
       omega
      refine ⟨_,z00,ch,ims5,sets5,S9,rfl,hSle,hil5,hh.tail.tail,him5.le (PH.le_trans l6 l9),hg5,hs1,hs2,fun hc k hk1 hk2=>?_⟩
      by_cases e:k=i
      ·subst e;exact ⟨s,hst,heq⟩
      ·exact hs3 hc k (by omega) hk2
   ·simp only [evs,evb,zdf] at gj
    have hjN:j=p.blocks.length:=by omega
    have hsum5:=zu4 hg5 p.blocks.length
    refine ⟨_,rfl,_,?_,ch,ims5,sets5,S5,rfl,rfl,l5,hil5,h5,him5,hg5,fun hc i hi=>hs3 hc i (by omega) hi⟩
    cases ch with
    | true=>have:=hs2 rfl;simp only [if_true];omega
    | false=>simp only [if_true,Bool.false_eq_true,if_false];omega
  ·simp only [evs,evb] at ga
   subst ga
   refine ⟨fb,ib,ims4,sets4,S4,l4,rfl,h4,hil4,him4,hg4.nodup,fun c y _=>hg4.all (hst4 rfl)⟩
theorem Z8p {p:PrcX} {l:List Int} {c:Nat} (hn:l.Nodup) (hm:∀y,y∈l↔LiveB p y c):sortI l=liveL p c 0:=by
 refine zdq (z75 hn) (zfv p c 0) fun x=>?_
 rw [z8l,hm,liveL_mem,zwt]
theorem Z35 {p:PrcX} {l:List Int} {c a:Nat} (hn:l.Nodup) (hm:∀y,y∈l↔z1z p y c a):sortI l=liveL p c a:=by
 refine zdq (z75 hn) (zfv p c a) fun x=>?_
 rw [z8l,hm,liveL_mem]
theorem zu6 {p:PrcX} {l:List Int} (hp:p.Fit) (hn:l.Nodup) (hm:∀y∈l,y∈p.regl):l.length≤20000000:=
 Nat.le_trans (z0w hn hm) hp.regs
set_option maxHeartbeats 1000000 in
theorem Z4z (p:PrcX) (bv:Value) (S:PH) (hbv:SlR S p.blocks bv) (hp:p.Fit) (hE:∀b∈p.blocks,b.e.args.length≤20000000) :
  Tri Tryz.prog Z8t #[.agg (prcVs p bv).toArray] S fun x S'=>PH.le S S'∧∃v,x=.returned v∧SlR S' (inL p) v:=by
 have hN:=hp.n
 have hbv0:=hbv
 obtain ⟨b0,c0,rfl⟩:=hbv.sl
 refine Z3w (prcVs p (.slice b0 p.blocks.length c0)) (by kernel_rfl) (by kernel_rfl) ?_
 simp only [prcVs]
 refine z04 za5 (zj4 p (.slice b0 p.blocks.length c0) S hbv hp hE) ?_
 rintro x K1 ⟨fb,ib,ims,sets,Sf,lf,rfl,h1,hil,him,hnd,hmem⟩
 refine ⟨_,[pAt fb],rfl,rfl,rfl,z01,?_⟩
 refine ⟨fun _=>rfl,?_⟩
 refine z0n [.slice (some ⟨ib,0,none⟩) p.blocks.length p.blocks.length] (off:=4) (by kernel_rfl) h1 (zms) rfl rfl ?_
 have h2:=h1.empty (α:=List Int) 29
 refine ⟨fun n vs K=>∃(k:Nat) (v:Value) (S':PH),vs=[v,nI k]∧k+n=p.blocks.length∧PH.le Sf S'∧Held S' K [orow 29 ((List.range k).map fun i=>liveL p i 0) v,flowB fb p (.slice b0 p.blocks.length c0) (.slice (some ⟨ib,0,none⟩) p.blocks.length p.blocks.length),inB ib ims],
  ⟨p.blocks.length,0,.slice none 0 0,Sf,rfl,by omega,PH.le_refl _,by simpa using h2⟩,?_⟩
 rintro n vs K _ ⟨k,v,S1,rfl,hkn,l1,h3⟩
 refine ⟨fun g=>?_,fun g=>?_⟩
 ·simp only [evs,evb,zdt] at g
  have hk:k < p.blocks.length:=by omega
  obtain ⟨mv,hmv⟩:∃mv,ims[k]?=some mv:=⟨_,zge (by omega)⟩
  obtain ⟨rt,est,clt,rfl,hrt,hst⟩:=(him k mv hmv).1
  have hib:K ib=some (.cells ims.toArray 216 (0,0)):=h3.blk (zmm _ (zmm _ (zms)))
  have hreg:∀y∈sets k,y∈p.regl:=fun y hy=>z5d (zjj ((hmem k y hk).1 hy))
  refine ⟨fun _=>?_,[.map (some rt)],rfl,?_,?_⟩
  ·simp only [Chk.holds,evs,evb];exact ⟨rfl,by omega,by omega⟩
  ·simp only [evs,evb];exact zh7 (n:=p.blocks.length) hib hmv
  refine z04 z3h (zj9 rt est clt (sets k) S1 K _ h3 (.inl (l1 _ _ hrt)) hst (fun y hy=>zpx hbv0 y (hreg y hy)) (Nat.le_trans (zu6 hp (hnd k) hreg) (by omega))) ?_
  rintro x K2 ⟨S2,wv,l2,rfl,hwv,h4⟩
  rw [Z8p (hnd k) fun y=>hmem k y hk] at hwv
  obtain ⟨b3,c3,rfl⟩:=hwv.sl
  refine ⟨_,[.slice b3 (liveL p k 0).length c3],rfl,rfl,rfl,z01,?_⟩
  refine z28 (more:=[liveL p k 0]) (b:=24) [.slice b3 (liveL p k 0).length c3] Z51 zw1 rfl (by decide) (by decide) h4 (by kernel_rfl) (.cons (zna hwv) .nil) z01 (fun _=>by kernel_rfl) (fun _=>by kernel_rfl)
   (by simp only [maxLen,zlc,zln,zlm,List.length_range];omega) (by simp only [zlc,zln,zlm,List.length_range];omega) fun u v' S4 K4 l4 h5=>⟨z01,_,z00,n - 1,by omega,k+1,v',S4,?_,by omega,PH.le_trans l1 (PH.le_trans l2 l4),by rw [List.range_succ,List.map_append];exact h5⟩
  simp only [evs,evb]
  rw [w64 (by omega) (by omega)];rfl
 ·simp only [evs,evb,zdf] at g
  have:k=p.blocks.length:=by omega
  subst this
  obtain ⟨S3,s3,l3,h5⟩:=h3.freeze
  exact ⟨PH.le_trans lf (PH.le_trans l1 (PH.le_trans l3 h5.sh)),v,rfl,s3.le h5.sh⟩
set_option maxHeartbeats 1000000 in
theorem Z37 (p:PrcX) (bv:Value) (block:Int) (S:PH) (hbv:SlR S p.blocks bv) (hp:p.Fit) (hE:∀b∈p.blocks,b.e.args.length≤20000000) :
  Tri Tryz.prog zxm #[.agg (prcVs p bv).toArray,.int .i64 block] S fun x S'=>PH.le S S'∧∃v,x=.returned v∧SlR S' (z2b p block) v:=by
 have hN:=hp.n
 have hbv0:=hbv
 obtain ⟨b0,c0,rfl⟩:=hbv.sl
 refine zra (prcVs p (.slice b0 p.blocks.length c0)++[.int .i64 block]) (by kernel_rfl) (by kernel_rfl) ?_
 simp only [prcVs,List.cons_append,List.nil_append]
 refine ⟨fun g=>?_,fun g=>?_⟩
 ·simp only [evs,evb] at g
  simp only [Bool.or_eq_true,zdt] at g
  exact ⟨PH.le_refl S,_,rfl,by rw [Z1o (by omega)];exact z50 S⟩
 simp only [evs,evb] at g
 simp only [zof,zdf] at g
 obtain ⟨i,rfl⟩:∃i:Nat,block=(i:Int):=⟨block.toNat,by omega⟩
 have hi:i < p.blocks.length:=by omega
 obtain ⟨b,hb⟩:∃b,p.blocks[i]?=some b:=⟨_,zge hi⟩
 rw [Z73 hb]
 obtain ⟨q1,_,ces,q2,q3⟩:=hbv.get hb
 obtain ⟨iv,es,rfl,his,hes⟩:=blk_iff.1 q2
 obtain ⟨av,rfl,e1,e2,hea,e3,e4,e5⟩:=end_iff.1 hes
 obtain ⟨b3,c3,rfl⟩:=hea.sl
 refine ⟨fun _=>?_,[.int .i64 b.e.kind,.int .i64 b.e.reg,.slice b3 b.e.args.length c3,.int .i64 b.e.to,.int .i64 b.e.next,.int .i64 b.e.els],rfl,?_,?_⟩
 ·simp only [Chk.holds,evs,evb];exact ⟨q1,by omega,by omega⟩
 ·simp only [evs,evb];exact z4o q3 1 6
 refine z05 [.bool b.e.calls] zk6 (zoq b.e _ S hea) rfl z01 fun K1 l1=>⟨fun g1=>?_,fun g1=>?_⟩
 ·simp only [evs,evb] at g1
  simp only [Bool.or_eq_true,Bool.not_eq_true',zdt] at g1
  refine ⟨l1,_,rfl,?_⟩
  have:¬b.crosses p.blocks.length:=by
   rintro ⟨h1,h2,h3⟩
   rw [h1] at g1
   rcases g1 with (g1 | g1) | g1
   ·cases g1
   ·omega
   ·omega
  rw [if_neg this]
  exact z50 K1
 ·simp only [evs,evb] at g1
  simp only [zof,Bool.not_eq_false',zdf] at g1
  obtain ⟨⟨g2,g3⟩,g4⟩:=g1
  have hc:b.crosses p.blocks.length:=⟨g2,by omega,by omega⟩
  rw [if_pos hc]
  obtain ⟨m,hm⟩:∃m:Nat,b.e.next=(m:Int):=⟨b.e.next.toNat,by omega⟩
  have hmN:m < p.blocks.length:=by omega
  rw [hm,Int.toNat_natCast]
  refine z04 za5 (zj4 p (.slice b0 p.blocks.length c0) K1 (hbv.le l1) hp hE) ?_
  rintro x K2 ⟨fb,ib,ims,sets,Sf,lf,rfl,h1,hil,him,hnd,hmem⟩
  obtain ⟨mv,hmv⟩:∃mv,ims[m]?=some mv:=⟨_,zge (by omega)⟩
  have hno:=(him m mv hmv).2
  obtain ⟨rt,est,clt,rfl,hrt,hst⟩:=(him m mv hmv).1
  have hK1:K1 rt=none:=hno rt rfl
  have hib:K2 ib=some (.cells ims.toArray 216 (0,0)):=h1.blk (zmm _ (zms))
  have hreg:∀y∈sets m,y∈p.regl:=fun y hy=>z5d (zjj ((hmem m y hmN).1 hy))
  refine ⟨_,[pAt fb],rfl,rfl,rfl,z01,?_⟩
  refine ⟨fun _=>rfl,?_⟩
  refine z0n [.slice (some ⟨ib,0,none⟩) p.blocks.length p.blocks.length] (off:=4) (by kernel_rfl) h1 (zms) rfl rfl ?_
  refine ⟨fun _=>?_,[.map (some rt)],rfl,?_,?_⟩
  ·simp only [Chk.holds,evs,evb];exact ⟨rfl,by omega,by omega⟩
  ·simp only [evs,evb];exact zh7 (n:=p.blocks.length) hib hmv
  have hown:Held K1 K2 [.blk rt (.map est clt)]:=⟨PH.le_trans lf h1.sh,fun i hi=>by rw [zsi.1 hi];exact h1.sh _ _ hrt,fun i hi g hg=>by
   rw [zsi.1 hi] at hg
   simp only [Itm.ob,Option.some.injEq] at hg
   subst hg;exact hK1,List.pairwise_singleton _ _⟩
  refine z04 z47 (zg7 rt est clt (sets m) b.e.to K1 K2 hown hst) ?_
  rintro x K3 ⟨es3,cl3,rfl,h3,hs3⟩
  refine ⟨_,[],rfl,rfl,rfl,z01,?_⟩
  have hreg3:∀y∈(sets m).filter (fun y=>decide (y≠b.e.to)),y∈p.regl:=fun y hy=>hreg y (zmf.1 hy).1
  refine z04 z3h (zj9 rt es3 cl3 _ K1 K3 _ h3 (.inr (zms)) hs3 (fun y hy=>zpx (hbv0.le l1) y (hreg3 y hy)) (Nat.le_trans (zu6 hp hs3.nodup hreg3) (by omega))) ?_
  rintro x K4 ⟨S4,wv,l4,rfl,hwv,h4⟩
  have heq:sortI ((sets m).filter fun y=>decide (y≠b.e.to))=(liveL p m 0).filter fun x=>decide (x≠b.e.to):=by
   refine zdq (z75 hs3.nodup) ((zfv p m 0).sublist List.filter_sublist) fun x=>?_
   rw [z8l,zmf,zmf,hmem m x hmN,liveL_mem,zwt]
  rw [heq] at hwv
  obtain ⟨b6,c6,rfl⟩:=hwv.sl
  exact ⟨_,[_],rfl,rfl,rfl,z01,PH.le_trans l1 (PH.le_trans l4 h4.sh),_,rfl,hwv.le h4.sh⟩
structure RevAt {α:Type} (l m:List α) (i:Nat):Prop where
 len:m.length=l.length
 at_:∀t,t < l.length→m[t]?=if t < i∨l.length≤t+i then l[l.length - 1 - t]? else l[t]?
theorem RevAt.first {α:Type} (l:List α):RevAt l l 0:=⟨rfl,fun t h=>by rw [if_neg (by omega)]⟩
theorem RevAt.step {α:Type} {l m:List α} {i:Nat} {a b:α} (h:RevAt l m i) (hi:2 * i+1 < l.length) (ha:m[i]?=some a) (hb:m[l.length - 1 - i]?=some b):RevAt l ((m.set i b).set (l.length - 1 - i) a) (i+1):=by
 have ha':=h.at_ i (by omega)
 have hb':=h.at_ (l.length - 1 - i) (by omega)
 rw [if_neg (by omega)] at ha' hb'
 refine ⟨by simpa using h.len,fun t ht=>?_⟩
 rw [List.getElem?_set,List.length_set,h.len,List.getElem?_set,h.len]
 by_cases e1:l.length - 1 - i=t
 ·rw [if_pos e1,if_pos (by omega),if_pos (by omega),←ha,ha']
  congr 1;omega
 ·rw [if_neg e1]
  by_cases e2:i=t
  ·rw [if_pos e2,if_pos (by omega),if_pos (by omega),←hb,hb']
   congr 1;omega
  ·rw [if_neg e2,h.at_ t ht]
   by_cases e3:t < i∨l.length≤t+i
   ·rw [if_pos e3,if_pos (by omega)]
   ·rw [if_neg e3,if_neg (by omega)]
theorem RevAt.done {α:Type} {l m:List α} {i:Nat} (h:RevAt l m i) (hi:l.length≤2 * i+1):m=l.reverse:=by
 refine List.ext_getElem? fun t=>?_
 by_cases ht:t < l.length
 ·rw [List.getElem?_reverse ht,h.at_ t ht]
  by_cases e:t < i∨l.length≤t+i
  ·rw [if_pos e]
  ·rw [if_neg e];congr 1;omega
 ·rw [List.getElem?_eq_none (by rw [h.len];omega),List.getElem?_eq_none (by rw [List.length_reverse];omega)]
set_option maxHeartbeats 1000000 in
theorem Z3b (l:List (List Int)) (v:Value) (S K:PH) (I:List Itm) (h:Held S K (orow 29 l v::I)) (hl:l.length≤40000000) :
  Tri Tryz.prog z8o #[v] K fun x K'=>x=.returned (.tuple #[])∧Held S K' (orow 29 l.reverse v::I):=by
 obtain ⟨b,c,rfl⟩:=(h.row (zms)).sl
 refine z6q [.slice b l.length c] (by kernel_rfl) (by kernel_rfl) ?_
 refine ⟨fun n vs K'=>∃(i:Nat) (m:List (List Int)),vs=[nI i,.int .i64 ((l.length:Int) - 1 - i)]∧n=l.length - i∧i≤l.length∧RevAt l m i∧Held S K' (orow 29 m (.slice b l.length c)::I),⟨_,0,l,?_,rfl,by omega,RevAt.first l,h⟩,?_⟩
 ·simp only [evs,evb]
  rw [w64 (by omega) (by omega)]
  simp
 rintro n vs K1 _ ⟨i,m,rfl,rfl,hil,hr,h1⟩
 refine ⟨fun g=>?_,fun g=>?_⟩
 ·simp only [evs,evb,zdt] at g
  have hi2:2 * i+1 < l.length:=by omega
  obtain ⟨k,hk⟩:∃k:Nat,(l.length:Int) - 1 - i=(k:Int):=⟨l.length - 1 - i,by omega⟩
  have hk':k=l.length - 1 - i:=by omega
  rw [hk]
  obtain ⟨a,ha⟩:∃a,m[i]?=some a:=⟨_,zge (by rw [hr.len];omega)⟩
  obtain ⟨z,hz⟩:∃z,m[k]?=some z:=⟨_,zge (by rw [hr.len];omega)⟩
  obtain ⟨a1,_,acs,a2,a3⟩:=(h1.row (zms)).get ha
  obtain ⟨z1,_,zcs,z2,z3⟩:=(h1.row (zms)).get hz
  obtain ⟨av,rfl,a4⟩:=csLK a2
  obtain ⟨zv,rfl,z4⟩:=csLK z2
  have a4':=a4
  have z4':=z4
  obtain ⟨ab,ac,rfl⟩:=a4'.sl
  obtain ⟨zb,zc,rfl⟩:=z4'.sl
  refine ⟨fun _=>?_,[.slice zb z.length zc],rfl,?_,fun _=>?_,[.slice ab a.length ac],rfl,?_,?_⟩
  ·simp only [Chk.holds,evs,evb];exact ⟨z1,by omega,by omega⟩
  ·simp only [evs,evb];exact z3
  ·simp only [Chk.holds,evs,evb];exact ⟨a1,by omega,by omega⟩
  ·simp only [evs,evb];exact a3
  refine z1n (i:=i) (a:=a) (a':=z) (us:=[.slice zb z.length zc]) ?_ h1 ha rfl ?_ (by simp [oneC]) (zna z4) fun K2 h2=>?_
  ·simp only [evs,evb];rfl
  ·simp only [evs,evb]
  have hz':(m.set i z)[k]?=some z:=by
   rw [List.getElem?_set,if_neg (by omega)];exact hz
  refine z1n (i:=k) (a:=z) (a':=a) (us:=[.slice ab a.length ac]) ?_ h2 hz' rfl ?_ (by simp [oneC]) (zna a4) fun K3 h3=>?_
  ·simp only [evs,evb];rfl
  ·simp only [evs,evb]
  refine ⟨_,z00,l.length - (i+1),by omega,i+1,(m.set i z).set k a,?_,rfl,by omega,?_,h3⟩
  ·simp only [evs,evb]
   rw [w64 (by omega) (by omega),w64 (by omega) (by omega)]
   congr 2
   congr 1
   omega
  ·subst hk';exact hr.step hi2 ha hz
 ·simp only [evs,evb,zdf] at g
  have:=hr.done (by omega)
  subst this
  exact ⟨rfl,h1⟩
noncomputable def backL (p:PrcX) (i n j:Nat):List (List Int):=(List.range j).map fun t=>liveL p i (n - t)
theorem Z9s (p:PrcX) (i:Nat) (b:BlkX):(backL p i b.ins.length b.ins.length).reverse=behL p i b:=by
 unfold backL behL
 refine List.ext_getElem? fun t=>?_
 by_cases ht:t < b.ins.length
 ·rw [List.getElem?_reverse (by simpa using ht),zlm,List.length_range,zem,zem,List.getElem?_range (by omega),List.getElem?_range ht]
  simp only [Option.map_some]
  congr 2;omega
 ·rw [List.getElem?_eq_none (by simp;omega),List.getElem?_eq_none (by simp;omega)]
theorem zwf {p:PrcX} {sets:Nat→List Int} (hmem:∀c y,c < p.blocks.length→(y∈sets c↔LiveB p y c)) (b:BlkX) (y:Int):outS p sets b y↔za9 b.e p.blocks.length y (LiveB p y):=by
 unfold outS za9
 constructor
 ·rintro (h | ⟨h1,c,h2,h3⟩)
  ·exact .inl h
  ·have hc:c < p.blocks.length:=by have:=(zmf.1 h2).2;simp at this;omega
   exact .inr ⟨h1,c,h2,(hmem c y hc).1 h3⟩
 ·rintro (h | ⟨h1,c,h2,h3⟩)
  ·exact .inl h
  ·have hc:c < p.blocks.length:=by have:=(zmf.1 h2).2;simp at this;omega
   exact .inr ⟨h1,c,h2,(hmem c y hc).2 h3⟩
theorem Zap {p:PrcX} {sets:Nat→List Int} (hmem:∀c y,c < p.blocks.length→(y∈sets c↔LiveB p y c)) {i:Nat} {b:BlkX} (hb:p.blocks[i]?=some b) (k:Nat) (y:Int):thru y (b.ins.drop k) (outS p sets b y)↔z1z p y i k:=by
 constructor
 ·exact fun h=>⟨b,hb,zfe (zwf hmem b y).1 h⟩
 ·rintro ⟨b',hb',h⟩
  rw [hb] at hb';cases hb'
  exact zfe (zwf hmem b y).2 h
set_option maxHeartbeats 4000000 in
theorem Z4c (p:PrcX) (bv:Value) (block:Int) (S:PH) (hbv:SlR S p.blocks bv) (hp:p.Fit) (hE:∀b∈p.blocks,b.e.args.length≤20000000) :
  Tri Tryz.prog zxw #[.agg (prcVs p bv).toArray,.int .i64 block] S fun x S'=>PH.le S S'∧∃v,x=.returned v∧SlR S' (z7u p block) v:=by
 have hN:=hp.n
 have hbv0:=hbv
 obtain ⟨b0,c0,rfl⟩:=hbv.sl
 refine ztm (prcVs p (.slice b0 p.blocks.length c0)++[.int .i64 block]) (by kernel_rfl) (by kernel_rfl) ?_
 simp only [prcVs,List.cons_append,List.nil_append]
 refine ⟨fun g=>?_,fun g=>?_⟩
 ·simp only [evs,evb] at g
  simp only [Bool.or_eq_true,zdt] at g
  refine ⟨PH.le_refl S,_,rfl,?_⟩
  have:z7u p block=[]:=by
   unfold z7u
   by_cases h0:block < 0
   ·rw [if_pos h0]
   ·rw [if_neg h0,List.getElem?_eq_none (by omega)]
  rw [this]
  exact z50 S
 simp only [evs,evb] at g
 simp only [zof,zdf] at g
 obtain ⟨i,rfl⟩:∃i:Nat,block=(i:Int):=⟨block.toNat,by omega⟩
 have hi:i < p.blocks.length:=by omega
 obtain ⟨b,hb⟩:∃b,p.blocks[i]?=some b:=⟨_,zge hi⟩
 have hbe:z7u p (i:Int)=behL p i b:=by
  unfold z7u
  rw [if_neg (by omega),Int.toNat_natCast,hb]
 rw [hbe]
 have hbl:=hp.ins b (zmg hb)
 refine z04 za5 (zj4 p (.slice b0 p.blocks.length c0) S hbv hp hE) ?_
 rintro x K1 ⟨fb,ib,ims,sets,Sf,lf,rfl,h1,hil,him,hnd,hmem⟩
 refine ⟨_,[pAt fb],rfl,rfl,rfl,z01,?_⟩
 refine z04 zbo (Z5g p _ fb ib ims sets i b Sf K1 (hbv.le lf) hb hN (Nat.le_trans (hE b (zmg hb)) (by omega)) hil (fun c v h=>(him c v h).1) h1) ?_
 rintro x K2 ⟨S2,ro,es2,cl2,s2,l2,rfl,h2,hs2,hm2⟩
 refine ⟨_,[.map (some ro)],rfl,rfl,rfl,z01,?_⟩
 refine z15 (vs:=[.map none]) h2 (by kernel_rfl) fun sb K3 _ h3=>?_
 refine z0e (off:=0) (vs:=[.map (some ro)]) (by kernel_rfl) h3 (by kernel_rfl) (by simp [oneC]) (by simp) fun K4 h4=>?_
 have h4:Held S2 K4 [bx sb 216 [.map (some ro)],.blk ro (.map es2 cl2),flowB fb p (.slice b0 p.blocks.length c0) (.slice (some ⟨ib,0,none⟩) p.blocks.length p.blocks.length),inB ib ims]:=h4
 refine z15 (vs:=[.slice none 0 0]) (h4.sub (J:=[bx sb 216 [.map (some ro)],.blk ro (.map es2 cl2)]) ((List.sublist_append_left [bx sb 216 [.map (some ro)],.blk ro (.map es2 cl2)] _))) (by kernel_rfl) fun ob K5 _ h5=>?_
 have h5:=h5.empty (α:=List Int) 29
 obtain ⟨q1,_,ces,q2,q3⟩:=(hbv.le (PH.le_trans lf l2)).get hb
 obtain ⟨iv,esv,rfl,his,hes⟩:=blk_iff.1 q2
 obtain ⟨b2,c2,rfl⟩:=his.sl
 refine ⟨fun _=>?_,[.slice b2 b.ins.length c2],rfl,?_,?_⟩
 ·simp only [Chk.holds,evs,evb];exact ⟨q1,by omega,by omega⟩
 ·simp only [evs,evb];exact z4o (z0u h5.sh q3) 0 1
 refine z04 z2p (h5.pure (R:=fun x S'=>∃q:Nat,x=.returned (.func (.func 220) #[] #[.pointer (some ⟨q,0,none⟩)])∧rowAt S' (some ⟨q,0,none⟩) [.slice b2 b.ins.length c2]) ((zl9 b.ins _ S2 his).mono fun x S' ⟨q,t1,t2,t3⟩=>⟨t1,q,t2,t3⟩)) ?_
 rintro x K9 ⟨S9,l9,h9,q,rfl,hq⟩
 refine ⟨_,[.func (.func 220) #[] #[.pointer (some ⟨q,0,none⟩)]],rfl,rfl,rfl,z01,?_⟩
 obtain ⟨cells,hcells⟩:=(his.le l9).fn
 have hc8:∀j',j' < b.ins.length→(cells (b.ins.length - 1 - j')).length=8:=fun j' hj'=>by
  obtain ⟨y,hy⟩:∃y,b.ins[b.ins.length - 1 - j']?=some y:=⟨_,zge (by omega)⟩
  have:=(hcells _ y hy).1
  exact PV.RepRow.length this
 refine ⟨S9,b.ins.length,fun j'=>nI (b.ins.length - 1 - j')::cells (b.ins.length - 1 - j'),fun j' H'=>∃(es:Array MapEntry) (cl:Nat) (s:List Int) (v:Value) (S':PH),PH.le S9 S'∧Held S' H' [orow 29 (backL p i b.ins.length j') v,bx ob 185 [v],bx sb 216 [.map (some ro)],.blk ro (.map es cl)]∧SetAt es cl s∧∀y,y∈s↔thru y (b.ins.drop (b.ins.length - j')) (outS p sets b y),h9.sh,?_,?_,?_,?_,?_⟩
 ·refine Iter.congr (fun j' hj'=>?_) (zk9 b.ins S9 _ _ hq (his.le l9) (by omega) cells hcells)
  have:=hc8 j' hj'
  simp [z1c,RS.pack,RS.tags,ztl,this]
 ·rintro j' H' ⟨es,cl,s,v,S',l',hh,_⟩;exact PH.le_trans l' hh.sh
 ·exact ⟨es2,cl2,s2,.slice none 0 0,S9,PH.le_refl _,by simpa [backL] using h9,hs2,fun y=>by rw [Nat.sub_zero,List.drop_length];exact hm2 y⟩
 ·rintro j' H' hj' ⟨es,cl,s,v,S',l',hh,hs,hm⟩
  obtain ⟨y,hy⟩:∃y,b.ins[b.ins.length - 1 - j']?=some y:=⟨_,zge (by omega)⟩
  obtain ⟨hyc,_⟩:=hcells _ y hy
  have hyc':=hyc
  obtain ⟨av,dv,hcell,_,_,hya,_,_,_,hyd,_⟩:=ins_iff.1 hyc
  obtain ⟨ab,ac,rfl⟩:=hya.sl
  obtain ⟨db,dc,rfl⟩:=hyd.sl
  simp only [hcell]
  rw [hcell] at hyc'
  obtain ⟨vb,vc,rfl⟩:=(hh.row (zms)).sl
  have hml:∀z,z∈s↔z1z p z i (b.ins.length - j'):=fun z=>by rw [hm,Zap hmem hb]
  have hreg:∀z∈s,z∈p.regl:=fun z hz=>z5d ((hml z).1 hz)
  have hbk:(backL p i b.ins.length j').length=j':=by simp [backL]
  refine ⟨rfl,?_⟩
  refine z0n [.slice vb (backL p i b.ins.length j').length vc] (off:=0) (by kernel_rfl) hh (zmm _ (zms)) rfl rfl ?_
  refine z0n [.map (some ro)] (off:=0) (by kernel_rfl) hh (zmm _ (zmm _ (zms))) rfl rfl ?_
  refine z04 z3h (zj9 ro es cl s S' H' _ hh (.inr (by simp)) hs (fun z hz=>zpx hbv0 z (hreg z hz)) (Nat.le_trans (zu6 hp hs.nodup hreg) (by omega))) ?_
  rintro x K10 ⟨S10,wv,l10,rfl,hwv,h10⟩
  rw [Z35 hs.nodup hml] at hwv
  obtain ⟨b3,c3,rfl⟩:=hwv.sl
  refine ⟨_,[.slice b3 (liveL p i (b.ins.length - j')).length c3],rfl,rfl,rfl,?_,?_⟩
  ·intro x hx
   rw [zsi.1 hx]
   exact z1a h10 (zmm _ (zms)) 0 1
  have hst:backL p i b.ins.length (j'+1)=backL p i b.ins.length j'++[liveL p i (b.ins.length - j')]:=by unfold backL;rw [List.range_succ,List.map_append];rfl
  refine z28 (more:=[liveL p i (b.ins.length - j')]) (b:=24) [.slice b3 (liveL p i (b.ins.length - j')).length c3] Z51 zw1 rfl (by decide) (by decide) h10 (by kernel_rfl) (.cons (zna hwv) .nil) ?_ (fun _=>by kernel_rfl) (fun _=>by kernel_rfl)
   (by rw [hbk];simp only [maxLen,zlc,zln];omega) (by rw [hbk];simp only [zlc,zln];omega) fun u v' S11 K11 l11 h11=>⟨z01,?_⟩
  ·intro x hx
   rw [zsi.1 hx]
   exact z1a h10 (zmm _ (zms)) 0 1
  rw [←hst] at h11
  obtain ⟨vb',vc',rfl⟩:=(h11.row (zms)).sl
  refine z0e (off:=0) (vs:=[.slice vb' (backL p i b.ins.length (j'+1)).length vc']) (by kernel_rfl) (h11.perm (List.Perm.swap _ _ _)) (by kernel_rfl) (by simp [oneC]) (by simp) fun K12 h12=>?_
  have h12:Held S11 K12 [bx ob 185 [.slice vb' (backL p i b.ins.length (j'+1)).length vc'],orow 29 (backL p i b.ins.length (j'+1)) (.slice vb' (backL p i b.ins.length (j'+1)).length vc'),bx sb 216 [.map (some ro)],.blk ro (.map es cl)]:=h12
  refine z0n [.map (some ro)] (off:=0) (by kernel_rfl) h12 (zmm _ (zmm _ (zms))) rfl rfl ?_
  have hperm:[bx ob 185 [.slice vb' (backL p i b.ins.length (j'+1)).length vc'],orow 29 (backL p i b.ins.length (j'+1)) (.slice vb' (backL p i b.ins.length (j'+1)).length vc'),bx sb 216 [.map (some ro)],.blk ro (.map es cl)].Perm ([.blk ro (.map es cl)]++[orow 29 (backL p i b.ins.length (j'+1)) (.slice vb' (backL p i b.ins.length (j'+1)).length vc'),bx ob 185 [.slice vb' (backL p i b.ins.length (j'+1)).length vc'],bx sb 216 [.map (some ro)]]):=by
   refine (List.Perm.swap _ _ _).trans ?_
   exact (List.perm_append_comm (l₁:=[orow 29 (backL p i b.ins.length (j'+1)) (.slice vb' (backL p i b.ins.length (j'+1)).length vc'),bx ob 185 [.slice vb' (backL p i b.ins.length (j'+1)).length vc'],bx sb 216 [.map (some ro)]]) (l₂:=[.blk ro (.map es cl)]))
  have lS:PH.le S' S11:=PH.le_trans l10 l11
  refine z04 zff (Held.call (P:=Tryz.prog) (f:=za2) (args:=#[.map (some ro),.agg (List.toArray _)]) (J:=[.blk ro (.map es cl)]) (I:=[orow 29 (backL p i b.ins.length (j'+1)) (.slice vb' (backL p i b.ins.length (j'+1)).length vc'),bx ob 185 [.slice vb' (backL p i b.ins.length (j'+1)).length vc'],bx sb 216 [.map (some ro)]])
   (R:=fun e S'' J'=>S''=S11∧∃es' cl' s',e=.returned (.tuple #[])∧J'=[.blk ro (.map es' cl')]∧SetAt es' cl' s'∧∀z,z∈s'↔(z∈y.args∨(¬y.fills z∧z∈s))) (h12.perm hperm)
   (fun K' hK=>(zor ro es cl s y _ S11 K' (PV.RepRow.le (PH.le_trans l' lS) hyc') hK hs).mono fun e K'' ⟨es',cl',s',t1,t2,t3,t4⟩=>⟨S11,_,PH.le_refl _,t2,rfl,es',cl',s',t1,rfl,t3,t4⟩)) ?_
  rintro e K'' ⟨S'',J',_,hh',rfl,es',cl',s',rfl,rfl,hs',hm'⟩
  refine ⟨_,[],rfl,rfl,rfl,z01,_,z00,es',cl',s',.slice vb' (backL p i b.ins.length (j'+1)).length vc',S'',PH.le_trans l' lS,hh'.perm ?_,hs',fun z=>?_⟩
  ·exact List.perm_append_comm (l₁:=[.blk ro (.map es' cl')]) (l₂:=[orow 29 (backL p i b.ins.length (j'+1)) (.slice vb' (backL p i b.ins.length (j'+1)).length vc'),bx ob 185 [.slice vb' (backL p i b.ins.length (j'+1)).length vc'],bx sb 216 [.map (some ro)]])
  ·rw [hm',hm,zwj hj' hy]
 ·rintro H' ⟨es,cl,s,v,S',l',hh,hs,hm⟩
  obtain ⟨vb,vc,rfl⟩:=(hh.row (zms)).sl
  have hbk:(backL p i b.ins.length b.ins.length).length=b.ins.length:=by simp [backL]
  refine z0n [.slice vb (backL p i b.ins.length b.ins.length).length vc] (off:=0) (by kernel_rfl) hh (zmm _ (zms)) rfl rfl ?_
  refine z04 z7d (Z3b _ _ S' H' _ hh (by rw [hbk];omega)) ?_
  rintro x K13 ⟨rfl,h13⟩
  refine ⟨_,[],rfl,rfl,rfl,z01,?_⟩
  refine z0n [.slice vb (backL p i b.ins.length b.ins.length).length vc] (off:=0) (by kernel_rfl) h13 (zmm _ (zms)) rfl rfl ?_
  rw [Z9s] at h13
  obtain ⟨S14,s14,l14,h14⟩:=h13.freeze
  exact ⟨PH.le_trans lf (PH.le_trans l2 (PH.le_trans l9 (PH.le_trans l' (PH.le_trans l14 h14.sh)))),_,rfl,s14.le h14.sh⟩
end Go.Proofs.YtfkclejklgoccaaGreat.Vc
