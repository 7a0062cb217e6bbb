import Derived.Test.YtjhlndokjkeilaaGreatDoorJm
set_option linter.unusedSimpArgs false
set_option linter.unusedVariables false
set_option maxRecDepth 100000
namespace Go.Proofs.YtjhlndokjkeilaaGreatDoor.Vc
open Go
def nameX (k:Int):List UInt8:=if k=5 then [118,111,105,100] else if k=6 then [101,111,102] else [117,110,115,101,116]
def downX (deep:Int) (pair:Bool) (i:Nat):Int:=if pair && decide (i=1) then deep else deep+1
def z30 (tell:VX→Int→Int→Dat×Int×Bool) (deep:Int) (pair:Bool):List VX→Nat→Int→List Dat→List Dat×Int×Bool
 | [],_,seen,acc=>(acc,seen,true)
 | v::l,i,seen,acc=>
  let r:=tell v (downX deep pair i) seen
  if r.2.2 then z30 tell deep pair l (i+1) r.2.1 (acc++[r.1]) else (acc,r.2.1,false)
def z9w (h:HX) (tell:VX→Int→Int→Dat×Int×Bool) (v:VX) (deep seen:Int):Dat×Int×Bool:=
 if 200≤seen∨32 < deep then (dat0,seen,false)
 else if v.kind=1∨v.kind=2 then (.mk v.kind v.int [] [],seen+1,true)
 else if v.kind=3 then (.mk 4 0 v.text [],seen+1,true)
 else if v.kind=4 then (.mk 5 0 [] [],seen+1,true)
 else if v.kind=5∨v.kind=6∨v.kind=7 then (.mk 4 0 (nameX v.kind) [],seen+1,true)
 else if v.kind=0 then (.mk 0 v.int [] [],seen+1,true)
 else
  let t:=h.getD v.int.toNat default
  if t.kind=3 then (.mk 4 0 [98,111,120] [],seen+1,true)
  else if t.kind=4 then (.mk 4 0 [112,114,111,99,101,100,117,114,101] [],seen+1,true)
  else if t.kind=2 then (.mk 3 0 (t.parts.map fun p=>z33 p.int) [],seen+1,true)
  else
   let r:=z30 tell deep (decide (t.kind=0)) t.parts 0 (seen+1) []
   if r.2.2 then (if t.kind=0 then makeD (r.1.take 1) (r.1.getD 1 dat0) else .mk 7 0 [] r.1,r.2.1,true) else (dat0,r.2.1,false)
def tellX (h:HX):Nat→VX→Int→Int→Dat×Int×Bool
 | 0=>fun _ _ seen=>(dat0,seen,false)
 | f+1=>z9w h (tellX h f)
def tellV (h:HX) (v:VX):Dat×Bool:=
 if !mayV h.length v then (dat0,false) else let r:=tellX h 200 v 0 0;if r.2.2 then (r.1,true) else (dat0,false)
def z4q (d:Dat):VX:=
 if (d.chk 0 0).2≠0 then vNone
 else if d.kind=0∨d.kind=1∨d.kind=2 then ⟨d.kind,d.int,[]⟩
 else if d.kind=4 then ⟨3,0,d.text⟩
 else if d.kind=5∧d.list.isEmpty=true then ⟨4,0,[]⟩
 else vNone
def FewR (seen:Int) (r:Dat×Int×Bool):Prop:=seen≤r.2.1∧r.2.1≤200∧(r.2.2=true→(r.1.cnt:Int)≤r.2.1 - seen)
def FewT (tell:VX→Int→Int→Dat×Int×Bool):Prop:=∀v deep seen,0≤seen→seen≤200→FewR seen (tell v deep seen)
theorem zoh {tell:VX→Int→Int→Dat×Int×Bool} (ht:FewT tell) (deep:Int) (pair:Bool):∀(l:List VX) (i:Nat) (seen:Int) (acc:List Dat),0≤seen→seen≤200 →
  seen≤(z30 tell deep pair l i seen acc).2.1∧(z30 tell deep pair l i seen acc).2.1≤200∧((z30 tell deep pair l i seen acc).2.2=true→(z30 tell deep pair l i seen acc).1.length=acc.length+l.length∧(Dats.cnt (z30 tell deep pair l i seen acc).1:Int)≤Dats.cnt acc+((z30 tell deep pair l i seen acc).2.1 - seen))
 | [],i,seen,acc,h0,h1=>by simp only [z30];exact ⟨Int.le_refl _,h1,fun _=>⟨by simp,by omega⟩⟩
 | v::l,i,seen,acc,h0,h1=>by
  obtain ⟨t1,t2,t3⟩:=ht v (downX deep pair i) seen h0 h1
  simp only [z30]
  split
  ·rename_i hr
   obtain ⟨q1,q2,q3⟩:=zoh ht deep pair l (i+1) _ (acc++[(tell v (downX deep pair i) seen).1]) (by omega) t2
   refine ⟨by omega,q2,fun hok=>?_⟩
   obtain ⟨q4,q5⟩:=q3 hok
   have t4:=t3 hr
   refine ⟨by rw [q4];simp;omega,?_⟩
   rw [Dats.cnt_append] at q5
   simp only [Dats.cnt] at q5
   omega
  ·exact ⟨t1,t2,fun hh=>by cases hh⟩
theorem zy4 (a b:Dat):(makeD [a] b).cnt≤1+a.cnt+b.cnt:=by
 unfold makeD
 rw [if_neg (by simp)]
 have hb:=Dat.cnt_eq b
 split
 ·simp only [Dat.cnt,List.cons_append,List.nil_append,Dats.cnt];omega
 ·simp only [Dat.cnt,List.cons_append,List.nil_append,Dats.cnt];omega
theorem zy8 {α:Type} {l:List α} (h:l.length=2):∃a b,l=[a,b]:=by
 match l,h with
 | [a,b],_=>exact ⟨a,b,rfl⟩
theorem z80 {seen k n:Int} {t:List UInt8} (hs:seen < 200):FewR seen (.mk k n t [],seen+1,true):=by
 unfold FewR
 simp only [Dat.cnt,Dats.cnt];omega
theorem z5s {seen:Int} {p:Prop} [Decidable p] {a b:Dat×Int×Bool} (ha:p→FewR seen a) (hb:¬p→FewR seen b):FewR seen (if p then a else b):=by
 by_cases h:p
 ·rw [if_pos h];exact ha h
 ·rw [if_neg h];exact hb h
theorem zs0 {h:HX} (ok:HeapOk h) {tell:VX→Int→Int→Dat×Int×Bool} (hfew:FewT tell):FewT (z9w h tell):=by
 intro v deep seen h0 h1
 unfold z9w
 refine z5s (fun _=>⟨Int.le_refl _,h1,fun hh=>by cases hh⟩) fun hs=>?_
 have hs:seen < 200:=by omega
 refine z5s (fun _=>z80 hs) fun _=>z5s (fun _=>z80 hs) fun _=>z5s (fun _=>z80 hs) fun _=>z5s (fun _=>z80 hs) fun _=>z5s (fun _=>z80 hs) fun _=>?_
 refine z5s (fun _=>z80 hs) fun _=>z5s (fun _=>z80 hs) fun _=>z5s (fun _=>z80 hs) fun _=>?_
 generalize ht:h.getD v.int.toNat default=t
 have hin:t∈h∨t=default:=by
  rw [←ht,zgd]
  cases hx:h[v.int.toNat]? with
  | none=>exact .inr rfl
  | some t=>exact .inl (List.mem_of_getElem? hx)
 obtain ⟨q1,q2,q3⟩:=zoh hfew deep (decide (t.kind=0)) t.parts 0 (seen+1) [] (by omega) (by omega)
 generalize hr:z30 tell deep (decide (t.kind=0)) t.parts 0 (seen+1) []=r at q1 q2 q3 ⊢
 obtain ⟨l,seen',okk⟩:=r
 cases okk with
 | false=>
  simp only at q1
  exact ⟨by show seen≤seen';omega,q2,fun hh=>by cases hh⟩
 | true=>
  obtain ⟨q4,q5⟩:=q3 rfl
  simp only [Dats.cnt,List.length_nil,Nat.zero_add] at q1 q2 q4 q5
  simp only [if_true]
  refine ⟨by show seen≤seen';omega,q2,fun _=>?_⟩
  show ((if t.kind=0 then makeD (l.take 1) (l.getD 1 dat0) else Dat.mk 7 0 [] l).cnt:Int)≤seen' - seen
  split
  ·rename_i hk
   rcases hin with hin | rfl
   ·rw [ok.pair _ hin hk] at q4
    obtain ⟨a,b,rfl⟩:=zy8 q4
    have:=zy4 a b
    simp only [List.take_succ_cons,List.take_zero,List.getD_cons_succ,List.getD_cons_zero]
    simp only [Dats.cnt] at q5
    omega
   ·obtain rfl:l=[]:=List.length_eq_zero_iff.1 q4
    simp only [List.take_nil,List.getD_nil,makeD,List.length_nil,if_true,dat0,Dat.cnt,Dats.cnt]
    omega
  ·simp only [Dat.cnt];omega
theorem zqr {h:HX} (ok:HeapOk h):∀f,FewT (tellX h f)
 | 0=>fun v deep seen h0 h1=>⟨Int.le_refl _,h1,fun hh=>by cases hh⟩
 | f+1=>zs0 ok (zqr ok f)
theorem zbu {P:Program} {X:List PanicEntry→PH→Prop} {β:Type} {E:List Value} {H:PH} {L:LK} {K:β→List Value→PH→LK→Prop} {s t e ty:TypeId} {x:Operand} {args:List (Nat×VE)} {pend:List (SV×List SV)} {k:Fm β} {l:List UInt8} {v:Value}
  (hs:P.underlying s=some (.slice e)) (ht:P.underlying t=some .string) (he:P.underlying e=some (.int .u8)) (hx:argEv E args x=v) (h:SlR H l v) (hp:z0m E H pend) (hk:den P X k (E++[txt l]) H L K) :
  den P X (.sem (.convert s t x) ty args (.sc .str) pend k) E H L K:=by
 show wpS P (execOp (argEv E args) (bare _ ty)) _ _ H
 rw [zru,hx]
 rcases (SlR.mk_iff.1 h).2 with ⟨rfl,rfl⟩ | ⟨a,c,rfl,h1,h2,h3⟩
 ·exact zpw hs ht he ⟨[_],rfl,rfl,hp,hk⟩
 ·refine zwc hs ht he (fun j u hu=>?_) ⟨[_],rfl,rfl,hp,hk⟩
  rw [List.getElem?_map] at hu
  cases hb:l[j]? with
  | none=>rw [hb] at hu;cases hu
  | some b=>
   rw [hb] at hu
   obtain ⟨cs,h4,h5⟩:=RepRows.get h3 hb
   obtain ⟨v1,_,rfl,h6,rfl⟩:=h4
   have:=h5 0 v1 rfl
   have e1:v1=.int .u8 (b.toNat:Int):=h6.1
   rw [e1] at this
   cases hu
   have e2:(a.add (j * sz UInt8)).add 0=a.add j:=by
    show Addr.add (Addr.add a (j * 1)) 0=a.add j
    simp [Addr.add]
   rw [e2] at this
   exact this
theorem zl5:ElemOk Tryz.prog 5 1 1=true:=by kernel_rfl
theorem Z2n:Tryz.prog.underlying 22=some (.slice 9):=by kernel_rfl
theorem Z0k:ElemOk Tryz.prog 9 1 16=true:=by kernel_rfl
theorem Z32 {H:PH} {l:List UInt8} {cs:List Value} (h:CsR H l cs):cs=[txt l]∧l.length≤maxLen:=by
 obtain ⟨v,rest,rfl,h1,rfl⟩:=h
 rw [zdr] at h1
 exact ⟨by rw [h1.1],h1.2⟩
theorem zvr (H:PH) (b:UInt8):CsR H b [.int .u8 (b.toNat:Int)]:=⟨_,_,rfl,⟨rfl,by
 show (0:Int)≤_∧_≤(255:Int)
 have:=b.toNat_lt
 omega⟩,rfl⟩
theorem zag {H:PH} {l:List UInt8} (h:l.length≤maxLen):CsR H l (txt l).cells.toList:=⟨_,_,rfl,⟨rfl,h⟩,rfl⟩
def namesL:List (List UInt8):=[[],[],[],[],[],[118,111,105,100],[101,111,102],[117,110,115,101,116]]
def TellE (r:Dat×Int×Bool) (e:Ending) (S:PH):Prop:=∃cs,e=.returned (.tuple #[.agg cs.toArray,.int .i64 r.2.1,.bool r.2.2])∧r.1.Rep S cs
theorem z21 {k n:Int} {t:List UInt8} {seen seen':Int} {ok:Bool} {S:PH} (hk:InI k) (hn:InI n) (ht:t.length≤maxLen) (hs:seen'=seen):TellE (.mk k n t [],seen,ok) (.returned (.tuple #[.agg #[.int .i64 k,.int .i64 n,txt t,.slice none 0 0],.int .i64 seen',.bool ok])) S:=
 ⟨_,by rw [hs],z31 hk hn ht⟩
theorem Z1h {α:Type} {l:List α} (h:l.length=8):∃a b c d e f g i,l=[a,b,c,d,e,f,g,i]:=by
 match l,h with
 | [a,b,c,d,e,f,g,i],_=>exact ⟨a,b,c,d,e,f,g,i,rfl⟩
theorem zxz (h:HX) (hr:Nat) (ok:HeapOk h):∀(f:Nat) (v:VX) (deep seen:Int) (H:PH),HeapAt H hr h→VFit v→mayV h.length v=true→0≤seen→seen≤200→200 - seen≤f→0≤deep→deep≤33 →
  Tri Tryz.prog z4d #[pAt hr,valV v,.int .i64 deep,.int .i64 seen] H fun e H'=>PH.le H H'∧TellE (tellX h f v deep seen) e H':=by
 intro f
 induction f with
 | zero=>
  intro v deep seen H hh hv hm h0 h1 h2 h3 h4
  refine z3u ([pAt hr]++valVs v++[.int .i64 deep,.int .i64 seen]) (by kernel_rfl) (by kernel_rfl) ?_
  simp only [List.cons_append,List.nil_append]
  refine ⟨fun g=>⟨PH.le_refl _,z21 (k:=0) (n:=0) (t:=[]) (by decide) (by decide) (by decide) rfl⟩,fun g=>?_⟩
  exfalso
  simp only [ev0,ev,evV,List.cons_append,List.nil_append,List.getD_cons_zero,List.getD_cons_succ,List.map_cons,List.map_nil,iOf,bOf,sOf,pOf,slLen,z04,cmpI,arI,Value.ite_bool,z01,z02,z00,z03] at g
  simp only [Bool.or_eq_false_iff,zdf,ge_iff_le] at g
  omega
 | succ f ih=>
  intro v deep seen H hh hv hm h0 h1 h2 h3 h4
  have hfew:=zqr ok f
  have hmx:maxLen=9223372036854775807:=rfl
  show Tri _ _ _ _ fun e H'=>PH.le H H'∧TellE (z9w h (tellX h f) v deep seen) e H'
  refine z3u ([pAt hr]++valVs v++[.int .i64 deep,.int .i64 seen]) (by kernel_rfl) (by kernel_rfl) ?_
  simp only [List.cons_append,List.nil_append]
  generalize hT:z9w h (tellX h f) v deep seen=T
  unfold z9w at hT
  refine ⟨fun g=>?_,fun g=>?_⟩
  ·simp only [ev0,ev,evV,List.cons_append,List.nil_append,List.getD_cons_zero,List.getD_cons_succ,List.map_cons,List.map_nil,iOf,bOf,sOf,pOf,slLen,z04,cmpI,arI,Value.ite_bool,z01,z02,z00,z03] at g
   simp only [Bool.or_eq_true,zdt,ge_iff_le,gt_iff_lt] at g
   rw [if_pos g] at hT
   rw [←hT]
   exact ⟨PH.le_refl _,z21 (k:=0) (n:=0) (t:=[]) (by decide) (by decide) (by decide) rfl⟩
  simp only [ev0,ev,evV,List.cons_append,List.nil_append,List.getD_cons_zero,List.getD_cons_succ,List.map_cons,List.map_nil,iOf,bOf,sOf,pOf,slLen,z04,cmpI,arI,Value.ite_bool,z01,z02,z00,z03] at g
  simp only [Bool.or_eq_false_iff,zdf,ge_iff_le,gt_iff_lt] at g
  rw [if_neg (by omega)] at hT
  have hw1:IntKind.i64.wrap (seen+1)=seen+1:=w64 (by omega) (by omega)
  refine Z24 (l:=namesL) (b:=16) (namesL.map txt) Z2n Z0k rfl (by decide) (by decide) (by kernel_rfl) ?_ z05 fun nv H1 a1 l1 _=>?_
  ·exact .cons (zag (by decide)) (.cons (zag (by decide)) (.cons (zag (by decide)) (.cons (zag (by decide)) (.cons (zag (by decide)) (.cons (zag (by decide)) (.cons (zag (by decide)) (.cons (zag (by decide)) .nil)))))))
  simp only [List.cons_append,List.nil_append]
  refine ⟨fun g1=>?_,fun g1=>?_⟩
  ·have g1:v.kind=1∨v.kind=2:=by
    simp only [ev0,ev,evV,List.cons_append,List.nil_append,List.getD_cons_zero,List.getD_cons_succ,List.map_cons,List.map_nil,iOf,bOf,sOf,pOf,slLen,z04,cmpI,arI,Value.ite_bool,z01,z02,z00,z03] at g1
    by_cases e:v.kind=1
    ·exact .inl e
    ·simp only [e,decide_false,Bool.false_eq_true,if_false,zdt] at g1;exact .inr g1
   rw [if_pos g1] at hT
   rw [←hT]
   exact ⟨l1,z21 (t:=[]) hv.1 hv.2.1 (by decide) hw1⟩
  have g1:¬(v.kind=1∨v.kind=2):=by
   simp only [ev0,ev,evV,List.cons_append,List.nil_append,List.getD_cons_zero,List.getD_cons_succ,List.map_cons,List.map_nil,iOf,bOf,sOf,pOf,slLen,z04,cmpI,arI,Value.ite_bool,z01,z02,z00,z03] at g1
   by_cases e:v.kind=1
   ·simp [e] at g1
   ·simpa [e] using g1
  rw [if_neg g1] at hT
  refine ⟨fun g2=>?_,fun g2=>?_⟩
  ·simp only [ev0,ev,evV,List.cons_append,List.nil_append,List.getD_cons_zero,List.getD_cons_succ,List.map_cons,List.map_nil,iOf,bOf,sOf,pOf,slLen,z04,cmpI,arI,Value.ite_bool,z01,z02,z00,z03,zdt] at g2
   rw [if_pos g2] at hT
   rw [←hT]
   exact ⟨l1,z21 (k:=4) (n:=0) (by decide) (by decide) hv.2.2 hw1⟩
  simp only [ev0,ev,evV,List.cons_append,List.nil_append,List.getD_cons_zero,List.getD_cons_succ,List.map_cons,List.map_nil,iOf,bOf,sOf,pOf,slLen,z04,cmpI,arI,Value.ite_bool,z01,z02,z00,z03,zdf] at g2
  rw [if_neg g2] at hT
  refine ⟨fun g3=>?_,fun g3=>?_⟩
  ·simp only [ev0,ev,evV,List.cons_append,List.nil_append,List.getD_cons_zero,List.getD_cons_succ,List.map_cons,List.map_nil,iOf,bOf,sOf,pOf,slLen,z04,cmpI,arI,Value.ite_bool,z01,z02,z00,z03,zdt] at g3
   rw [if_pos g3] at hT
   rw [←hT]
   exact ⟨l1,z21 (k:=5) (n:=0) (t:=[]) (by decide) (by decide) (by decide) hw1⟩
  simp only [ev0,ev,evV,List.cons_append,List.nil_append,List.getD_cons_zero,List.getD_cons_succ,List.map_cons,List.map_nil,iOf,bOf,sOf,pOf,slLen,z04,cmpI,arI,Value.ite_bool,z01,z02,z00,z03,zdf] at g3
  rw [if_neg g3] at hT
  refine ⟨fun vs K=>vs=[.bool (decide (v.kind=5∨v.kind=6∨v.kind=7))]∧H1=K,?_,fun g4=>?_,fun g4=>?_⟩
  rotate_left
  ·simp only [ev0,ev,evV,List.cons_append,List.nil_append,List.getD_cons_zero,List.getD_cons_succ,List.map_cons,List.map_nil,iOf,bOf,sOf,pOf,slLen,z04,cmpI,arI,Value.ite_bool,z01,z02,z00,z03,zdt] at g4
   exact ⟨_,z06,by simp [ev0,ev,evV,List.cons_append,List.nil_append,List.getD_cons_zero,List.getD_cons_succ,List.map_cons,List.map_nil,iOf,bOf,sOf,pOf,slLen,z04,cmpI,arI,Value.ite_bool,z01,z02,z00,z03,g4],rfl⟩
  ·simp only [ev0,ev,evV,List.cons_append,List.nil_append,List.getD_cons_zero,List.getD_cons_succ,List.map_cons,List.map_nil,iOf,bOf,sOf,pOf,slLen,z04,cmpI,arI,Value.ite_bool,z01,z02,z00,z03,zdf] at g4
   refine ⟨_,z06,?_,rfl⟩
   by_cases e6:v.kind=6<;>by_cases e7:v.kind=7<;>simp [ev0,ev,evV,List.cons_append,List.nil_append,List.getD_cons_zero,List.getD_cons_succ,List.map_cons,List.map_nil,iOf,bOf,sOf,pOf,slLen,z04,cmpI,arI,Value.ite_bool,z01,z02,z00,z03,g4,e6,e7]
  rintro vs K _ ⟨rfl,rfl⟩
  simp only [List.cons_append,List.nil_append]
  refine ⟨fun g4=>?_,fun g4=>?_⟩
  ·simp only [ev0,ev,evV,List.cons_append,List.nil_append,List.getD_cons_zero,List.getD_cons_succ,List.map_cons,List.map_nil,iOf,bOf,sOf,pOf,slLen,z04,cmpI,arI,Value.ite_bool,z01,z02,z00,z03,zdt] at g4
   rw [if_pos g4] at hT
   rw [←hT]
   obtain ⟨k,hk,hn⟩:∃k:Nat,v.kind=(k:Int)∧namesL[k]?=some (nameX v.kind):=by
    rcases g4 with e | e | e
    ·exact ⟨5,e,by rw [e];rfl⟩
    ·exact ⟨6,e,by rw [e];rfl⟩
    ·exact ⟨7,e,by rw [e];rfl⟩
   have hsl:=a1.slR
   obtain ⟨nb,nc,rfl⟩:=hsl.sl
   obtain ⟨x1,_,cs,x2,x3⟩:=hsl.get hn
   obtain ⟨rfl,x4⟩:=Z32 x2
   refine ⟨fun _=>?_,[txt (nameX v.kind)],rfl,?_,?_⟩
   ·simp only [Chk.holds,ev0,ev,evV,List.cons_append,List.nil_append,List.getD_cons_zero,List.getD_cons_succ,List.map_cons,List.map_nil,iOf,bOf,sOf,pOf,slLen,z04,cmpI,arI,Value.ite_bool,z01,z02,z00,z03];exact ⟨x1,by omega,by show v.kind < 8;omega⟩
   ·rw [←hk] at x3;simp only [ev0,ev,evV,List.cons_append,List.nil_append,List.getD_cons_zero,List.getD_cons_succ,List.map_cons,List.map_nil,iOf,bOf,sOf,pOf,slLen,z04,cmpI,arI,Value.ite_bool,z01,z02,z00,z03];exact x3
   exact ⟨l1,z21 (k:=4) (n:=0) (by decide) (by decide) x4 hw1⟩
  simp only [ev0,ev,evV,List.cons_append,List.nil_append,List.getD_cons_zero,List.getD_cons_succ,List.map_cons,List.map_nil,iOf,bOf,sOf,pOf,slLen,z04,cmpI,arI,Value.ite_bool,z01,z02,z00,z03,zdf] at g4
  rw [if_neg g4] at hT
  refine ⟨fun g5=>?_,fun g5=>?_⟩
  ·simp only [ev0,ev,evV,List.cons_append,List.nil_append,List.getD_cons_zero,List.getD_cons_succ,List.map_cons,List.map_nil,iOf,bOf,sOf,pOf,slLen,z04,cmpI,arI,Value.ite_bool,z01,z02,z00,z03,zdt] at g5
   rw [if_pos g5] at hT
   rw [←hT]
   exact ⟨l1,z21 (k:=0) (t:=[]) (by decide) hv.2.1 (by decide) hw1⟩
  simp only [ev0,ev,evV,List.cons_append,List.nil_append,List.getD_cons_zero,List.getD_cons_succ,List.map_cons,List.map_nil,iOf,bOf,sOf,pOf,slLen,z04,cmpI,arI,Value.ite_bool,z01,z02,z00,z03,zdf] at g5
  rw [if_neg g5] at hT
  have h8:v.kind=8:=by
   have e1:¬v.kind=1:=fun e=>g1 (.inl e)
   have e2:¬v.kind=2:=fun e=>g1 (.inr e)
   have e5:¬v.kind=5:=by omega
   have e6:¬v.kind=6:=by omega
   have e7:¬v.kind=7:=by omega
   by_cases e:v.kind=8
   ·exact e
   ·exfalso
    simp [mayV,g5,e1,e2,g2,g3,e5,e6,e7,e] at hm
  have hin:=zw4 hm h8
  obtain ⟨thv,hr1,hs⟩:=hh.le l1
  obtain ⟨tb,tc,rfl⟩:=hs.sl
  obtain ⟨i,hi⟩:∃i:Nat,v.int=(i:Int):=⟨v.int.toNat,by omega⟩
  obtain ⟨t,ht⟩:∃t,h[i]?=some t:=⟨_,zge (by omega)⟩
  have hgd:h.getD v.int.toNat default=t:=by rw [hi,Int.toNat_natCast,zgd,ht];rfl
  have htm:t∈h:=List.mem_of_getElem? ht
  rw [hgd] at hT
  obtain ⟨hsome,pv,q4,q5,q6⟩:=zcw hs ht
  obtain ⟨pb,pc,rfl⟩:=q5.sl
  have hfewp:=ok.few t htm
  refine ⟨fun _=>by simp [Chk.holds,ev0,ev,evV,List.cons_append,List.nil_append,List.getD_cons_zero,List.getD_cons_succ,List.map_cons,List.map_nil,iOf,bOf,sOf,pOf,slLen,z04,cmpI,arI,Value.ite_bool,z01,z02,z00,z03],[.slice tb h.length tc],rfl,by simp only [ev0,ev,evV,List.cons_append,List.nil_append,List.getD_cons_zero,List.getD_cons_succ,List.map_cons,List.map_nil,iOf,bOf,sOf,pOf,slLen,z04,cmpI,arI,Value.ite_bool,z01,z02,z00,z03];exact hr1,fun _=>?_,[.int .i64 t.kind,.slice pb t.parts.length pc],rfl,?_,?_⟩
  ·simp only [Chk.holds,ev0,ev,evV,List.cons_append,List.nil_append,List.getD_cons_zero,List.getD_cons_succ,List.map_cons,List.map_nil,iOf,bOf,sOf,pOf,slLen,z04,cmpI,arI,Value.ite_bool,z01,z02,z00,z03];exact ⟨hsome,by omega,by omega⟩
  ·simp only [ev0,ev,evV,List.cons_append,List.nil_append,List.getD_cons_zero,List.getD_cons_succ,List.map_cons,List.map_nil,iOf,bOf,sOf,pOf,slLen,z04,cmpI,arI,Value.ite_bool,z01,z02,z00,z03,hi];exact q6
  simp only [List.cons_append,List.nil_append]
  refine ⟨fun g6=>?_,fun g6=>?_⟩
  ·simp only [ev0,ev,evV,List.cons_append,List.nil_append,List.getD_cons_zero,List.getD_cons_succ,List.map_cons,List.map_nil,iOf,bOf,sOf,pOf,slLen,z04,cmpI,arI,Value.ite_bool,z01,z02,z00,z03,zdt] at g6
   rw [if_pos g6] at hT
   rw [←hT]
   exact ⟨l1,z21 (k:=4) (n:=0) (t:=[98,111,120]) (by decide) (by decide) (by decide) hw1⟩
  simp only [ev0,ev,evV,List.cons_append,List.nil_append,List.getD_cons_zero,List.getD_cons_succ,List.map_cons,List.map_nil,iOf,bOf,sOf,pOf,slLen,z04,cmpI,arI,Value.ite_bool,z01,z02,z00,z03,zdf] at g6
  rw [if_neg g6] at hT
  refine ⟨fun g7=>?_,fun g7=>?_⟩
  ·simp only [ev0,ev,evV,List.cons_append,List.nil_append,List.getD_cons_zero,List.getD_cons_succ,List.map_cons,List.map_nil,iOf,bOf,sOf,pOf,slLen,z04,cmpI,arI,Value.ite_bool,z01,z02,z00,z03,zdt] at g7
   rw [if_pos g7] at hT
   rw [←hT]
   exact ⟨l1,z21 (k:=4) (n:=0) (t:=[112,114,111,99,101,100,117,114,101]) (by decide) (by decide) (by decide) hw1⟩
  simp only [ev0,ev,evV,List.cons_append,List.nil_append,List.getD_cons_zero,List.getD_cons_succ,List.map_cons,List.map_nil,iOf,bOf,sOf,pOf,slLen,z04,cmpI,arI,Value.ite_bool,z01,z02,z00,z03,zdf] at g7
  rw [if_neg g7] at hT
  have hK1:Held H1 H1 []:=Held.nil (PH.le_refl _)
  refine ⟨fun g8=>?_,fun g8=>?_⟩
  ·simp only [ev0,ev,evV,List.cons_append,List.nil_append,List.getD_cons_zero,List.getD_cons_succ,List.map_cons,List.map_nil,iOf,bOf,sOf,pOf,slLen,z04,cmpI,arI,Value.ite_bool,z01,z02,z00,z03,zdt] at g8
   rw [if_pos g8] at hT
   rw [←hT]
   refine z1g (α:=UInt8) (b:=1) zgy zl5 hK1 z05 fun v11 K2 k2 _ _=>?_
   simp only [List.cons_append,List.nil_append]
   refine ⟨fun n vs K=>∃(k:Nat) (u:Value) (S1:PH),k+n=t.parts.length∧vs=[u,nI k]∧PH.le H1 S1∧Held S1 K [orow 5 ((t.parts.take k).map fun p=>z33 p.int) u],⟨t.parts.length,0,v11,H1,by omega,rfl,PH.le_refl _,k2⟩,?_⟩
   rintro n vs K3 _ ⟨k,u,S1,hkn,rfl,ls,k3⟩
   simp only [List.cons_append,List.nil_append]
   obtain ⟨ub,uc,hu⟩:=(k3.row (zms)).sl
   refine ⟨fun g9=>?_,fun g9=>?_⟩
   ·simp only [ev0,ev,evV,List.cons_append,List.nil_append,List.getD_cons_zero,List.getD_cons_succ,List.map_cons,List.map_nil,iOf,bOf,sOf,pOf,slLen,z04,cmpI,arI,Value.ite_bool,z01,z02,z00,z03,zdt] at g9
    obtain ⟨p,hp⟩:∃p,t.parts[k]?=some p:=⟨_,zge (by omega)⟩
    obtain ⟨y1,_,cs,y2,y3⟩:=q5.get hp
    obtain ⟨rfl,y4⟩:=z2j y2
    refine ⟨fun _=>?_,[.int .i64 p.int],rfl,?_,?_⟩
    ·simp only [Chk.holds,ev0,ev,evV,List.cons_append,List.nil_append,List.getD_cons_zero,List.getD_cons_succ,List.map_cons,List.map_nil,iOf,bOf,sOf,pOf,slLen,z04,cmpI,arI,Value.ite_bool,z01,z02,z00,z03];exact ⟨y1,by omega,by omega⟩
    ·simp only [ev0,ev,evV,List.cons_append,List.nil_append,List.getD_cons_zero,List.getD_cons_succ,List.map_cons,List.map_nil,iOf,bOf,sOf,pOf,slLen,z04,cmpI,arI,Value.ite_bool,z01,z02,z00,z03];exact z0b (PH.le_trans ls k3.sh) (z2l y3 1 1)
    simp only [List.cons_append,List.nil_append]
    refine z15 (b:=1) (more:=[z33 p.int]) [.int .u8 ((z33 p.int).toNat:Int)] zgy zl5 rfl (by decide) (by decide) k3 ?_ (.cons (zvr _ _) .nil) z05 (fun w=>by kernel_rfl) (fun w=>by kernel_rfl)
     (by simp only [List.length_map,List.length_take,zlc,List.length_nil];omega) (by simp only [List.length_map,List.length_take,zlc,List.length_nil];omega) fun w v7 S7 K7 l7 h7=>⟨z05,?_⟩
    ·rw [←zyz];kernel_rfl
    refine ⟨_,z06,n - 1,by omega,k+1,v7,S7,by omega,?_,PH.le_trans ls l7,?_⟩
    ·have hw:IntKind.i64.wrap ((k:Int)+1)=((k+1:Nat):Int):=by rw [w64 (by omega) (by omega)];rfl
     simp only [ev0,ev,evV,List.cons_append,List.nil_append,List.getD_cons_zero,List.getD_cons_succ,List.map_cons,List.map_nil,iOf,bOf,sOf,pOf,slLen,z04,cmpI,arI,Value.ite_bool,z01,z02,z00,z03,hw]
    ·rw [List.take_add_one,hp,List.map_append];exact h7
   ·simp only [ev0,ev,evV,List.cons_append,List.nil_append,List.getD_cons_zero,List.getD_cons_succ,List.map_cons,List.map_nil,iOf,bOf,sOf,pOf,slLen,z04,cmpI,arI,Value.ite_bool,z01,z02,z00,z03,zdf] at g9
    obtain ⟨S2,s2,l2,k4⟩:=k3.freeze
    rw [List.take_of_length_le (by omega)] at s2
    refine zbu zgy zcp uByte (by kernel_rfl) (s2.le k4.sh) z05 ?_
    exact ⟨PH.le_trans l1 (PH.le_trans ls k3.sh),z21 (k:=3) (n:=0) (by decide) (by decide) (by rw [List.length_map];omega) hw1⟩
  simp only [ev0,ev,evV,List.cons_append,List.nil_append,List.getD_cons_zero,List.getD_cons_succ,List.map_cons,List.map_nil,iOf,bOf,sOf,pOf,slLen,z04,cmpI,arI,Value.ite_bool,z01,z02,z00,z03,zdf] at g8
  rw [if_neg g8] at hT
  refine z1g (α:=Dat) (b:=56) uDats zcq hK1 z05 fun v11 K2 k2 _ _=>?_
  simp only [List.cons_append,List.nil_append]
  refine ⟨fun n vs K=>∃(k:Nat) (u:Value) (S1:PH) (acc:List Dat) (seen':Int) (xs:List Value),k+n=t.parts.length∧vs=[.int .i64 seen',.int .i64 0,.bool false,u,.bool true,nI k]++xs∧xs.length=8∧PH.le H1 S1∧Held S1 K [orow 25 acc u]∧acc.length=k∧(Dats.cnt acc:Int)≤seen' - (seen+1)∧seen+1≤seen'∧seen'≤200 ∧
   z30 (tellX h f) deep (decide (t.kind=0)) t.parts 0 (seen+1) []=z30 (tellX h f) deep (decide (t.kind=0)) (t.parts.drop k) k seen' acc,
   ⟨t.parts.length,0,v11,H1,[],seen+1,_,by omega,by simp only [ev0,ev,evV,List.cons_append,List.nil_append,List.getD_cons_zero,List.getD_cons_succ,List.map_cons,List.map_nil,iOf,bOf,sOf,pOf,slLen,z04,cmpI,arI,Value.ite_bool,z01,z02,z00,z03,hw1];rfl,rfl,PH.le_refl _,k2,rfl,by simp [Dats.cnt],by omega,by omega,rfl⟩,?_⟩
  rintro n vs K3 _ ⟨k,u,S1,acc,seen',xs,hkn,rfl,hxs,ls,k3,hal,hcnt,hs1,hs2,htl⟩
  obtain ⟨x0,x1,x2,x3,x4,x5,x6,x7,rfl⟩:=Z1h hxs
  simp only [List.cons_append,List.nil_append]
  have hlw:PH.le H1 K3:=PH.le_trans ls k3.sh
  refine ⟨fun g9=>?_,fun g9=>?_⟩
  ·simp only [ev0,ev,evV,List.cons_append,List.nil_append,List.getD_cons_zero,List.getD_cons_succ,List.map_cons,List.map_nil,iOf,bOf,sOf,pOf,slLen,z04,cmpI,arI,Value.ite_bool,z01,z02,z00,z03,zdt] at g9
   obtain ⟨p,hp⟩:∃p,t.parts[k]?=some p:=⟨_,zge (by omega)⟩
   obtain ⟨y1,_,cs,y2,y3⟩:=q5.get hp
   obtain ⟨rfl,y4⟩:=z2j y2
   have hdr:t.parts.drop k=p::t.parts.drop (k+1):=by
    rw [←List.getElem_cons_drop (by omega:k < t.parts.length)]
    rw [(List.getElem?_eq_some_iff.1 hp).2]
   rw [hdr] at htl
   simp only [z30] at htl
   generalize hdn:downX deep (decide (t.kind=0)) k=dn at htl
   have hdb:0≤dn∧dn≤33:=by
    rw [←hdn];unfold downX
    split<;>omega
   refine ⟨fun _=>?_,valVs p,rfl,?_,?_⟩
   ·simp only [Chk.holds,ev0,ev,evV,List.cons_append,List.nil_append,List.getD_cons_zero,List.getD_cons_succ,List.map_cons,List.map_nil,iOf,bOf,sOf,pOf,slLen,z04,cmpI,arI,Value.ite_bool,z01,z02,z00,z03];exact ⟨y1,by omega,by omega⟩
   ·simp only [ev0,ev,evV,List.cons_append,List.nil_append,List.getD_cons_zero,List.getD_cons_succ,List.map_cons,List.map_nil,iOf,bOf,sOf,pOf,slLen,z04,cmpI,arI,Value.ite_bool,z01,z02,z00,z03];exact z0b hlw y3
   simp only [List.cons_append,List.nil_append]
   have hw2:IntKind.i64.wrap (deep+1)=deep+1:=w64 (by omega) (by omega)
   have hcall:∀dv,dv=Value.int .i64 dn→Tri Tryz.prog z4d #[pAt hr,valV p,dv,.int .i64 seen'] K3 fun e H'=>∃S',PH.le S1 S'∧Held S' H' [orow 25 acc u]∧TellE (tellX h f p dn seen') e S':=fun dv hdv=>by
    rw [hdv]
    exact k3.pure (R:=fun e S'=>TellE (tellX h f p dn seen') e S') (ih p dn seen' S1 (HeapAt.le (PH.le_trans l1 ls) hh) y4 (ok.may t htm p (List.mem_of_getElem? hp)) (by omega) hs2 (by omega) hdb.1 hdb.2)
   refine z08 z47 (hcall _ ?_) ?_
   ·rw [←hdn];unfold downX
    have hd1:decide ((k:Int)=1)=decide (k=1):=by rw [decide_eq_decide];omega
    simp only [ev0,ev,evV,List.cons_append,List.nil_append,List.getD_cons_zero,List.getD_cons_succ,List.map_cons,List.map_nil,iOf,bOf,sOf,pOf,slLen,z04,cmpI,arI,Value.ite_bool,z01,z02,z00,z03,hw2,hd1]
    cases (decide (t.kind=0))<;>cases (decide (k=1))<;>rfl
   rintro x K4 ⟨S2,l2,k4,cs,rfl,hd⟩
   have hfp:=hfew p dn seen' (by omega) hs2
   generalize hR:tellX h f p dn seen'=R at htl hd hfp
   obtain ⟨d,sn,okk⟩:=R
   obtain ⟨sv,rfl,r1,r2,r3,r4⟩:=Dat.Rep_iff.1 hd
   obtain ⟨sb,sc,rfl⟩:=SlR.sl r4
   refine ⟨_,[.int .i64 d.kind,.int .i64 d.int,txt d.text,.slice sb d.list.length sc,.int .i64 sn,.bool okk],rfl,rfl,rfl,z05,?_⟩
   simp only [List.cons_append,List.nil_append]
   cases okk with
   | false=>
    refine ⟨fun _=>?_,fun g10=>?_⟩
    ·simp only [htl] at hT
     rw [←hT]
     exact ⟨PH.le_trans l1 (PH.le_trans ls (PH.le_trans l2 k4.sh)),z21 (k:=0) (n:=0) (t:=[]) (by decide) (by decide) (by decide) rfl⟩
    ·simp [ev0,ev,evV,List.cons_append,List.nil_append,List.getD_cons_zero,List.getD_cons_succ,List.map_cons,List.map_nil,iOf,bOf,sOf,pOf,slLen,z04,cmpI,arI,Value.ite_bool,z01,z02,z00,z03] at g10
   | true=>
    refine ⟨fun g10=>?_,fun _=>?_⟩
    ·simp [ev0,ev,evV,List.cons_append,List.nil_append,List.getD_cons_zero,List.getD_cons_succ,List.map_cons,List.map_nil,iOf,bOf,sOf,pOf,slLen,z04,cmpI,arI,Value.ite_bool,z01,z02,z00,z03] at g10
    obtain ⟨f1,f2,f3⟩:=hfp
    have f3:=f3 rfl
    simp only at f1 f2 f3
    simp only [if_true] at htl
    have hml:=Dats.cnt_le acc
    refine z15 (b:=56) (more:=[d]) [.agg #[.int .i64 d.kind,.int .i64 d.int,txt d.text,.slice sb d.list.length sc]] uDats zcq rfl (by decide) (by decide) k4 (by kernel_rfl) (.cons hd .nil) z05 (fun w=>by kernel_rfl) (fun w=>by kernel_rfl)
     (by simp only [zlc,List.length_nil];omega) (by simp only [zlc,List.length_nil];omega) fun w v7 S7 K7 l7 h7=>⟨z05,?_⟩
    have hcd:1≤d.cnt:=by have:=Dat.cnt_eq d;omega
    refine ⟨_,z06,n - 1,by omega,k+1,v7,S7,acc++[d],sn,[.int .i64 d.kind,.int .i64 d.int,txt d.text,.slice sb d.list.length sc,x4,x5,x6,x7],by omega,?_,rfl,PH.le_trans ls (PH.le_trans l2 l7),h7,by simp [hal],?_,by omega,f2,htl⟩
    ·have hw:IntKind.i64.wrap ((k:Int)+1)=((k+1:Nat):Int):=by rw [w64 (by omega) (by omega)];rfl
     simp only [ev0,ev,evV,List.cons_append,List.nil_append,List.getD_cons_zero,List.getD_cons_succ,List.map_cons,List.map_nil,iOf,bOf,sOf,pOf,slLen,z04,cmpI,arI,Value.ite_bool,z01,z02,z00,z03,hw]
    ·rw [Dats.cnt_append];simp only [Dats.cnt];omega
  ·simp only [ev0,ev,evV,List.cons_append,List.nil_append,List.getD_cons_zero,List.getD_cons_succ,List.map_cons,List.map_nil,iOf,bOf,sOf,pOf,slLen,z04,cmpI,arI,Value.ite_bool,z01,z02,z00,z03,zdf] at g9
   have hkl:k=t.parts.length:=by omega
   subst hkl
   rw [List.drop_length] at htl
   simp only [z30] at htl
   simp only [htl,if_true] at hT
   obtain ⟨S2,s2,l2,k4⟩:=k3.freeze
   have hlen:=s2.len
   obtain ⟨ub,uc,rfl⟩:=s2.sl
   have hle:=PH.le_trans l1 (PH.le_trans ls (PH.le_trans l2 k4.sh))
   refine ⟨fun g10=>?_,fun g10=>?_⟩
   ·simp only [ev0,ev,evV,List.cons_append,List.nil_append,List.getD_cons_zero,List.getD_cons_succ,List.map_cons,List.map_nil,iOf,bOf,sOf,pOf,slLen,z04,cmpI,arI,Value.ite_bool,z01,z02,z00,z03,zdt] at g10
    rw [if_pos g10] at hT
    have h2:acc.length=2:=by rw [hal];exact ok.pair t htm g10
    obtain ⟨a,b,rfl⟩:=zy8 h2
    simp only [Dats.cnt,List.take_succ_cons,List.take_zero,List.getD_cons_succ,List.getD_cons_zero] at hcnt hT
    have hcap:2≤uc:=by
     rcases (SlR.mk_iff.1 s2).2 with ⟨_,h⟩ | ⟨_,c,h,h3,_⟩
     ·cases h
     ·cases h;exact h3
    obtain ⟨z1,_,cs,z2,z3⟩:=s2.get (i:=1) (a:=b) rfl
    obtain ⟨sv,rfl,r1,r2,r3,r4⟩:=Dat.Rep_iff.1 z2
    obtain ⟨sb,sc,rfl⟩:=SlR.sl r4
    have hcut:=s2.cut (a:=0) (b:=1) (by omega) (by simp)
    refine ⟨fun _=>?_,fun _=>?_,[.int .i64 b.kind,.int .i64 b.int,txt b.text,.slice sb b.list.length sc],rfl,?_,?_⟩
    ·simp only [Chk.holds,ev0,ev,evV,List.cons_append,List.nil_append,List.getD_cons_zero,List.getD_cons_succ,List.map_cons,List.map_nil,iOf,bOf,sOf,pOf,slLen,z04,cmpI,arI,Value.ite_bool,z01,z02,z00,z03,slCap];omega
    ·simp only [Chk.holds,ev0,ev,evV,List.cons_append,List.nil_append,List.getD_cons_zero,List.getD_cons_succ,List.map_cons,List.map_nil,iOf,bOf,sOf,pOf,slLen,z04,cmpI,arI,Value.ite_bool,z01,z02,z00,z03];exact ⟨z1,by omega,by simp⟩
    ·simp only [ev0,ev,evV,List.cons_append,List.nil_append,List.getD_cons_zero,List.getD_cons_succ,List.map_cons,List.map_nil,iOf,bOf,sOf,pOf,slLen,z04,cmpI,arI,Value.ite_bool,z01,z02,z00,z03];exact z0b k4.sh z3
    simp only [List.cons_append,List.nil_append]
    refine z08 zgj (zuf [a] b _ _ K3 (hcut.le k4.sh) (Dat.Rep.le k4.sh b z2) (by simp only [Dats.cnt];omega) (by omega)) ?_
    rintro x K5 ⟨cs,rfl,l5,hd⟩
    obtain ⟨sv',rfl,r1',r2',r3',r4'⟩:=Dat.Rep_iff.1 hd
    obtain ⟨sb',sc',rfl⟩:=SlR.sl r4'
    refine ⟨_,_,rfl,rfl,rfl,z05,?_⟩
    rw [←hT]
    exact ⟨PH.le_trans hle l5,_,rfl,hd⟩
   ·simp only [ev0,ev,evV,List.cons_append,List.nil_append,List.getD_cons_zero,List.getD_cons_succ,List.map_cons,List.map_nil,iOf,bOf,sOf,pOf,slLen,z04,cmpI,arI,Value.ite_bool,z01,z02,z00,z03,zdf] at g10
    rw [if_neg g10] at hT
    rw [←hT]
    exact ⟨hle,_,rfl,Dat.Rep_iff.2 ⟨_,rfl,(by decide:InI 7),(by decide:InI 0),Nat.zero_le _,s2.le k4.sh⟩⟩
theorem zyb (h:HX) (hr:Nat) (ok:HeapOk h) (v:VX) (hv:VFit v) (H:PH) (hh:HeapAt H hr h) :
  Tri Tryz.prog zae #[pAt hr,valV v] H fun e H'=>PH.le H H'∧∃cs,e=.returned (.tuple #[.agg cs.toArray,.bool (tellV h v).2])∧(tellV h v).1.Rep H' cs:=by
 refine z9o ([pAt hr]++valVs v) (by kernel_rfl) (by kernel_rfl) ?_
 simp only [List.cons_append,List.nil_append]
 have leaf0:∀{S:PH},Dat.Rep S dat0 [.int .i64 0,.int .i64 0,txt [],.slice none 0 0]:=fun {S}=>z31 (k:=0) (n:=0) (t:=[]) (by decide) (by decide) (by decide)
 refine z07 [.bool (mayV h.length v)] z4c (zo0 h hr v hv H hh) rfl z05 fun H1 l1=>⟨fun g=>?_,fun g=>?_⟩
 ·simp only [ev0,ev,evV,List.cons_append,List.nil_append,List.getD_cons_zero,List.getD_cons_succ,List.map_cons,List.map_nil,iOf,bOf,sOf,pOf,slLen,z04,cmpI,arI,Value.ite_bool,z01,z02,z00,z03,Bool.not_eq_true'] at g
  have:tellV h v=(dat0,false):=by unfold tellV;rw [g];rfl
  rw [this]
  exact ⟨l1,_,rfl,leaf0⟩
 simp only [ev0,ev,evV,List.cons_append,List.nil_append,List.getD_cons_zero,List.getD_cons_succ,List.map_cons,List.map_nil,iOf,bOf,sOf,pOf,slLen,z04,cmpI,arI,Value.ite_bool,z01,z02,z00,z03,Bool.not_eq_false'] at g
 refine z08 z47 (zxz h hr ok 200 v 0 0 H1 (hh.le l1) hv g (by omega) (by omega) (by omega) (by omega) (by omega)) ?_
 rintro x H2 ⟨l2,cs,rfl,hd⟩
 have ht:tellV h v=if (tellX h 200 v 0 0).2.2 then ((tellX h 200 v 0 0).1,true) else (dat0,false):=by unfold tellV;rw [g];rfl
 rw [ht]
 generalize tellX h 200 v 0 0=R at hd
 obtain ⟨d,sn,okk⟩:=R
 obtain ⟨sv,rfl,r1,r2,r3,r4⟩:=Dat.Rep_iff.1 hd
 obtain ⟨sb,sc,rfl⟩:=SlR.sl r4
 refine ⟨_,[.int .i64 d.kind,.int .i64 d.int,txt d.text,.slice sb d.list.length sc,.int .i64 sn,.bool okk],rfl,rfl,rfl,z05,?_⟩
 simp only [List.cons_append,List.nil_append]
 cases okk with
 | false=>exact ⟨fun _=>⟨PH.le_trans l1 l2,_,rfl,leaf0⟩,fun g3=>by simp [ev0,ev,evV,List.cons_append,List.nil_append,List.getD_cons_zero,List.getD_cons_succ,List.map_cons,List.map_nil,iOf,bOf,sOf,pOf,slLen,z04,cmpI,arI,Value.ite_bool,z01,z02,z00,z03] at g3⟩
 | true=>exact ⟨fun g3=>by simp [ev0,ev,evV,List.cons_append,List.nil_append,List.getD_cons_zero,List.getD_cons_succ,List.map_cons,List.map_nil,iOf,bOf,sOf,pOf,slLen,z04,cmpI,arI,Value.ite_bool,z01,z02,z00,z03] at g3,fun _=>⟨PH.le_trans l1 l2,_,rfl,hd⟩⟩
theorem zwg (d:Dat) (cs:List Value) (H:PH) (hd:d.Rep H cs):Tri Tryz.prog zg3 #[.agg cs.toArray] H fun e H'=>PH.le H H'∧∃b,e=.returned (.tuple #[valV (z4q d),.bool b]):=by
 have hc:=zj9 d cs H hd
 obtain ⟨sv,rfl,hk,hn,ht,hs⟩:=Dat.Rep_iff.1 hd
 obtain ⟨b,c,rfl⟩:=hs.sl
 refine zdo [.int .i64 d.kind,.int .i64 d.int,txt d.text,.slice b d.list.length c] (by kernel_rfl) (by kernel_rfl) ?_
 refine z07 [.int .i64 (d.chk 0 0).2] z63 hc rfl z05 fun H1 l1=>⟨fun g=>?_,fun g=>?_⟩
 ·simp only [ev0,ev,evV,List.cons_append,List.nil_append,List.getD_cons_zero,List.getD_cons_succ,List.map_cons,List.map_nil,iOf,bOf,sOf,pOf,slLen,z04,cmpI,arI,Value.ite_bool,z01,z02,z00,z03,zdt] at g
  have:z4q d=vNone:=by unfold z4q;rw [if_pos g]
  rw [this]
  exact ⟨l1,false,rfl⟩
 simp only [ev0,ev,evV,List.cons_append,List.nil_append,List.getD_cons_zero,List.getD_cons_succ,List.map_cons,List.map_nil,iOf,bOf,sOf,pOf,slLen,z04,cmpI,arI,Value.ite_bool,z01,z02,z00,z03,zdf] at g
 have hK:z4q d=if d.kind=0∨d.kind=1∨d.kind=2 then ⟨d.kind,d.int,[]⟩ else if d.kind=4 then ⟨3,0,d.text⟩ else if d.kind=5∧d.list.isEmpty=true then ⟨4,0,[]⟩ else vNone:=by unfold z4q;rw [if_neg g]
 simp only [List.cons_append,List.nil_append]
 refine ⟨fun vs K=>vs=[]∧H1=K∧z4q d=vNone,?_,?_⟩
 ·rintro vs K _ ⟨rfl,rfl,h3⟩
  rw [h3]
  exact ⟨l1,false,rfl⟩
 refine ⟨fun vs K=>vs=[.bool (decide (d.kind=0∨d.kind=1∨d.kind=2))]∧H1=K,?_,fun g2=>?_,fun g2=>?_⟩
 rotate_left
 ·simp only [ev0,ev,evV,List.cons_append,List.nil_append,List.getD_cons_zero,List.getD_cons_succ,List.map_cons,List.map_nil,iOf,bOf,sOf,pOf,slLen,z04,cmpI,arI,Value.ite_bool,z01,z02,z00,z03,zdt] at g2
  exact ⟨_,z06,by simp [ev0,ev,evV,List.cons_append,List.nil_append,List.getD_cons_zero,List.getD_cons_succ,List.map_cons,List.map_nil,iOf,bOf,sOf,pOf,slLen,z04,cmpI,arI,Value.ite_bool,z01,z02,z00,z03,g2],rfl⟩
 ·simp only [ev0,ev,evV,List.cons_append,List.nil_append,List.getD_cons_zero,List.getD_cons_succ,List.map_cons,List.map_nil,iOf,bOf,sOf,pOf,slLen,z04,cmpI,arI,Value.ite_bool,z01,z02,z00,z03,zdf] at g2
  refine ⟨_,z06,?_,rfl⟩
  by_cases e6:d.kind=1<;>by_cases e7:d.kind=2<;>simp [ev0,ev,evV,List.cons_append,List.nil_append,List.getD_cons_zero,List.getD_cons_succ,List.map_cons,List.map_nil,iOf,bOf,sOf,pOf,slLen,z04,cmpI,arI,Value.ite_bool,z01,z02,z00,z03,g2,e6,e7]
 rintro vs K _ ⟨rfl,rfl⟩
 refine ⟨fun g2=>?_,fun g2=>?_⟩
 ·simp only [ev0,ev,evV,List.cons_append,List.nil_append,List.getD_cons_zero,List.getD_cons_succ,List.map_cons,List.map_nil,iOf,bOf,sOf,pOf,slLen,z04,cmpI,arI,Value.ite_bool,z01,z02,z00,z03,zdt] at g2
  rw [hK,if_pos g2]
  exact ⟨l1,true,rfl⟩
 simp only [ev0,ev,evV,List.cons_append,List.nil_append,List.getD_cons_zero,List.getD_cons_succ,List.map_cons,List.map_nil,iOf,bOf,sOf,pOf,slLen,z04,cmpI,arI,Value.ite_bool,z01,z02,z00,z03,zdf] at g2
 rw [if_neg g2] at hK
 refine ⟨fun g3=>?_,fun g3=>?_⟩
 ·simp only [ev0,ev,evV,List.cons_append,List.nil_append,List.getD_cons_zero,List.getD_cons_succ,List.map_cons,List.map_nil,iOf,bOf,sOf,pOf,slLen,z04,cmpI,arI,Value.ite_bool,z01,z02,z00,z03,zdt] at g3
  rw [hK,if_pos g3]
  exact ⟨l1,true,rfl⟩
 simp only [ev0,ev,evV,List.cons_append,List.nil_append,List.getD_cons_zero,List.getD_cons_succ,List.map_cons,List.map_nil,iOf,bOf,sOf,pOf,slLen,z04,cmpI,arI,Value.ite_bool,z01,z02,z00,z03,zdf] at g3
 rw [if_neg g3] at hK
 refine ⟨fun g4=>⟨fun g5=>?_,fun g5=>?_⟩,fun g4=>?_⟩
 ·simp only [ev0,ev,evV,List.cons_append,List.nil_append,List.getD_cons_zero,List.getD_cons_succ,List.map_cons,List.map_nil,iOf,bOf,sOf,pOf,slLen,z04,cmpI,arI,Value.ite_bool,z01,z02,z00,z03,zdt] at g4 g5
  have:d.list.isEmpty=true:=by rw [List.isEmpty_iff];exact List.length_eq_zero_iff.1 (by omega)
  rw [hK,if_pos ⟨g4,this⟩]
  exact ⟨l1,true,rfl⟩
 ·simp only [ev0,ev,evV,List.cons_append,List.nil_append,List.getD_cons_zero,List.getD_cons_succ,List.map_cons,List.map_nil,iOf,bOf,sOf,pOf,slLen,z04,cmpI,arI,Value.ite_bool,z01,z02,z00,z03,zdt,zdf] at g4 g5
  refine ⟨_,z06,rfl,rfl,?_⟩
  rw [hK,if_neg]
  rintro ⟨_,h6⟩
  rw [List.isEmpty_iff] at h6
  rw [h6] at g5;simp at g5
 ·simp only [ev0,ev,evV,List.cons_append,List.nil_append,List.getD_cons_zero,List.getD_cons_succ,List.map_cons,List.map_nil,iOf,bOf,sOf,pOf,slLen,z04,cmpI,arI,Value.ite_bool,z01,z02,z00,z03,zdf] at g4
  refine ⟨_,z06,rfl,rfl,?_⟩
  rw [hK,if_neg (fun h=>g4 h.1)]
structure OutX where
 err:Int
 out:List UInt8
 shown:Dat
 whole:Bool
 steps:Nat
def OutX.Rep (o:OutX) (H:PH) (cs:List Value):Prop:=∃ds,cs=[.int .i64 o.err,txt o.out]++ds++[.bool o.whole,nI o.steps]∧o.shown.Rep H ds
theorem zso (e:Int) (H:PH):(⟨e,[],dat0,false,0⟩:OutX).Rep H [.int .i64 e,txt [],.int .i64 0,.int .i64 0,txt [],.slice none 0 0,.bool false,.int .i64 0]:=
 ⟨[.int .i64 0,.int .i64 0,txt [],.slice none 0 0],rfl,z31 (k:=0) (n:=0) (t:=[]) (by decide) (by decide) (by decide)⟩
theorem zvh (o q:OutX) (os qs:List Value) (H:PH) (ho:o.Rep H os) (hq:q.Rep H qs) (hx:o.err=q.err∧o.out=q.out∧o.whole=q.whole∧o.shown=q.shown):Gives Tryz.prog zfp [.agg os.toArray,.agg qs.toArray] H (.bool true):=by
 obtain ⟨ds,rfl,hd⟩:=ho
 obtain ⟨es,rfl,he⟩:=hq
 have hd':=hd
 have he':=he
 obtain ⟨sv,rfl,_,_,_,hs⟩:=Dat.Rep_iff.1 hd
 obtain ⟨sw,rfl,_,_,_,hw⟩:=Dat.Rep_iff.1 he
 obtain ⟨b1,c1,rfl⟩:=hs.sl
 obtain ⟨b2,c2,rfl⟩:=hw.sl
 obtain ⟨h1,h2,h3,h4⟩:=hx
 refine zdm [.int .i64 o.err,txt o.out,.int .i64 o.shown.kind,.int .i64 o.shown.int,txt o.shown.text,.slice b1 o.shown.list.length c1,.bool o.whole,nI o.steps,.int .i64 q.err,txt q.out,.int .i64 q.shown.kind,.int .i64 q.shown.int,txt q.shown.text,.slice b2 q.shown.list.length c2,.bool q.whole,nI q.steps] (by kernel_rfl) (by kernel_rfl) ?_
 refine ⟨fun vs K=>vs=[.bool true]∧PH.le H K,?_,fun g=>?_,fun g=>?_⟩
 ·rintro vs K _ ⟨rfl,l⟩;exact ⟨rfl,l⟩
 ·refine z07 [.bool (decide (o.shown=q.shown))] z2h (zi6 o.shown q.shown _ _ H hd' he') rfl z05 fun H1 l1=>⟨_,z06,?_,l1⟩
  simp [ev0,ev,evV,List.cons_append,List.nil_append,List.getD_cons_zero,List.getD_cons_succ,List.map_cons,List.map_nil,iOf,bOf,sOf,pOf,slLen,z04,cmpI,arI,Value.ite_bool,z01,z02,z00,z03,h4]
 ·exfalso
  simp only [ev0,ev,evV,List.cons_append,List.nil_append,List.getD_cons_zero,List.getD_cons_succ,List.map_cons,List.map_nil,iOf,bOf,sOf,pOf,slLen,z04,cmpI,arI,Value.ite_bool,z01,z02,z00,z03,z09,h1,h2,h3] at g
  simp at g
structure VarX where
 name:List UInt8
 at_:Int
instance encVar:Enc VarX:=⟨fun v=>[.str v.name,.int .i64 v.at_],2,fun _=>rfl⟩
structure TdX where
 act:Int
 e:Xp
 env:List VarX
 at_:Int
instance encTd:Enc TdX:=⟨fun t=>.int .i64 t.act::(Xp.pv t.e++[slp t.env,.int .i64 t.at_]),11,fun t=>by simp only [zlc,zla,Xp.pv_len,List.length_nil]⟩
structure PrX where
 thing:Int
 lam:Xp
 env:List VarX
 kont:Bool
 todo:List TdX
 vals:List VX
instance encPr:Enc PrX:=⟨fun p=>.int .i64 p.thing::(Xp.pv p.lam++[slp p.env,.bool p.kont,slp p.todo,slp p.vals]),13,fun t=>by simp only [zlc,zla,Xp.pv_len,List.length_nil]⟩
structure AX where
 h:HX
 cells:List VX
 procs:List PrX
 input:List UInt8
 out:List UInt8
 winders:VX
 steps:Nat
 most:Nat
 todo:List TdX
 vals:List VX
 e:Int
def tdE (e:Xp) (env:List VarX):TdX:=⟨0,e,env,0⟩
def tdA (act at_:Int):TdX:=⟨act,exZ,[],at_⟩
def cellF (env:List VarX) (s:List UInt8) (k:Int):Int:=env.foldl (fun k v=>if v.name=s then v.at_ else k) k
def cellX (env:List VarX) (s:List UInt8):Int:=cellF env s (-1)
def bindE (env:List VarX):List (List UInt8)→Nat→List VarX
 | [],_=>env
 | s::l,n=>bindE (env++[⟨s,n⟩]) l (n+1)
def AX.bind (m:AX) (env:List VarX) (names:List (List UInt8)) (vals:List VX):AX×List VarX:=
 ({ m with cells:=m.cells++vals.take names.length },bindE env names m.cells.length)
def AX.proc (m:AX) (p:PrX):AX×VX:=
 ({ m with h:=(addX m.h 4 []).1,procs:=m.procs++[{ p with thing:=(addX m.h 4 []).2.int }] },(addX m.h 4 []).2)
def AX.tell (m:AX) (v:VX):AX:={ m with vals:=m.vals++[v] }
def AX.push (m:AX) (l:List TdX):AX:={ m with todo:=m.todo++l }
def allT (l:List Xp) (env:List VarX):List TdX:=l.reverse.map fun e=>tdE e env
def seqT (l:List Xp) (env:List VarX):List TdX:=l.reverse.flatMap fun e=>[tdA 1 0,tdE e env]
def turnT (lam:Bool) (inner:List VarX) (l:List (List UInt8×Xp)):List TdX:=
 l.reverse.flatMap fun x=>if decide (x.2.kind=5)=lam then [tdA 7 (cellX inner x.1),tdE x.2 inner] else []
def AX.recA (m:AX) (e:Xp) (env:List VarX):Option AX:=
 match e.kids[e.names.length]? with
 | none=>none
 | some b=>
  let r:=m.bind env e.names (List.replicate e.names.length ⟨7,0,[]⟩)
  let l:=e.names.zip e.kids
  some (r.1.push (tdE b r.2::(turnT false r.2 l++turnT true r.2 l)))
def zh5 {α:Type} (l:List α) (i:Int):Option Nat:=if 0≤i∧i < (l.length:Int) then some i.toNat else none
def AX.eval (m:AX) (e:Xp) (env:List VarX):Option AX:=
 if m.steps=m.most then some { m with e:=93 } else
 if 1000000 < e.kids.length∨1000000 < e.names.length∨4294967296 < env.length then none else
 let m1:={ m with steps:=m.steps+1 }
 let n:=e.kids.length
 if e.kind=0 then some (m1.tell (z4q e.const))
 else if e.kind=1 then (zh5 m.cells (cellX env e.name)).map fun k=>m1.tell (m.cells.getD k default)
 else if e.kind=2 then e.kids[0]?.map fun a=>m1.push [tdA 2 (cellX env e.name),tdE a env]
 else if e.kind=3 then e.kids[0]?.map fun a=>m1.push [⟨3,e,env,0⟩,tdE a env]
 else if e.kind=4 then e.kids.getLast?.map fun a=>m1.push (tdE a env::seqT e.kids.dropLast env)
 else if e.kind=5 then
  let r:=m1.proc ⟨0,e,env,false,[],[]⟩
  some (r.1.tell r.2)
 else if e.kind=6 then some (m1.push (tdA 4 n::allT e.kids env))
 else if e.kind=7 then some (m1.push (⟨5,e,[],0⟩::allT e.kids env))
 else if e.kind=8 then if n=0 then none else some (m1.push (⟨6,e,env,0⟩::allT e.kids.dropLast env))
 else if e.kind=9∨e.kind=10 then m1.recA e env
 else some m1
def procF (l:List PrX) (t:Int) (p:PrX):PrX:=l.foldl (fun p q=>if q.thing=t then q else p) p
def z4o:PrX:=⟨0,exZ,[],false,[],[]⟩
def AX.call (m:AX) (v:VX) (args:List VX):Option AX:=
 if !mayV m.h.length v then none
 else if z0r m.h v≠4 then some { m with e:=90 }
 else
  let p:=procF m.procs v.int z4o
  if p.kont=true then
   if 4294967296 < p.todo.length∨4294967296 < p.vals.length then none else
   match args with
   | [y]=>some { m with todo:=p.todo,vals:=p.vals++[y] }
   | _=>some { m with e:=91 }
  else if args.length≠p.lam.names.length then some { m with e:=91 }
  else if 1000000 < p.lam.names.length∨4294967296 < p.env.length then none
  else p.lam.kids[0]?.map fun b=>
   let r:=m.bind p.env p.lam.names args
   r.1.push [tdE b r.2]
def AX.prim (m:AX) (p:List UInt8) (args:List VX):Option AX:=
 if p=[114,101,97,100,45,117,56] then
  match m.input with
  | []=>some (m.tell ⟨6,0,[]⟩)
  | b::l=>some ({ m with input:=l }.tell ⟨1,b.toNat,[]⟩)
 else if p=[119,114,105,116,101,45,117,56] then
  args[0]?.map fun a=>
   if a.kind≠1 then { m with e:=80 }
   else if a.int < 0∨255 < a.int then { m with e:=83 }
   else { m with out:=m.out++[UInt8.ofNat a.int.toNat] }.tell vVoid
 else if p=[101,114,114,111,114] then some { m with e:=92 }
 else if p=[37,119,105,110,100,101,114,115] then some (m.tell m.winders)
 else if p=[37,119,105,110,100,33] then args[0]?.map fun a=>{ m with winders:=a }.tell vVoid
 else if p=[37,99,97,108,108,99,99] then none
 else
  let r:=doX m.h p args
  some ({ m with h:=r.1,e:=r.2.2 }.tell r.2.1)
def AX.pop (m:AX) (n:Nat):Option (AX×List VX):=
 if n≤m.vals.length then some ({ m with vals:=m.vals.take (m.vals.length - n) },m.vals.drop (m.vals.length - n)) else none
def AX.act (m:AX) (t:TdX):Option AX:=
 if t.act=0 then m.eval t.e t.env
 else if t.act=1 then (m.pop 1).map (·.1)
 else if t.act=2 then (m.pop 1).bind fun r=>(zh5 m.cells t.at_).map fun k=>{ r.1 with cells:=r.1.cells.set k (r.2.getD 0 default) }.tell vVoid
 else if t.act=3 then (m.pop 1).bind fun r=>(if r.2.getD 0 default=vNone then t.e.kids[2]? else t.e.kids[1]?).map fun k=>r.1.push [tdE k t.env]
 else if t.act=4 then if t.at_ < 1 then none else (m.pop t.at_.toNat).bind fun r=>r.1.call (r.2.getD 0 default) r.2.tail
 else if t.act=5 then (m.pop t.e.kids.length).bind fun r=>r.1.prim t.e.name r.2
 else if t.act=6 then if 1000000 < t.e.names.length∨4294967296 < t.env.length then none else (m.pop t.e.names.length).bind fun r=>t.e.kids[t.e.names.length]?.map fun b=>
  let q:=r.1.bind t.env t.e.names r.2
  q.1.push [tdE b q.2]
 else if t.act=7 then (m.pop 1).bind fun r=>(zh5 m.cells t.at_).map fun k=>{ r.1 with cells:=r.1.cells.set k (r.2.getD 0 default) }
 else some m
def AX.few (m:AX):Bool:=decide (m.h.length≤16777215) && decide (m.cells.length≤16777215) && decide (m.procs.length≤16777215) && decide (m.out.length≤16777215) && decide (m.todo.length≤4294967296) && decide (m.vals.length≤4294967296)
def AX.next (m:AX):Option AX:=
 if m.few then
  match m.todo.getLast? with
  | none=>none
  | some t=>{ m with todo:=m.todo.dropLast }.act t
 else none
def AX.go:Nat→AX→Option AX
 | n,m=>if m.e≠0∨m.todo.isEmpty=true then some m else match n with
  | 0=>none
  | n+1=>match m.next with
   | none=>none
   | some m'=>AX.go n m'
def AX.first (e:Xp) (input:List UInt8) (steps:Nat):AX:=⟨[],[],[],input,[],⟨4,0,[]⟩,0,steps,[tdE e []],[],0⟩
def AX.told (m:AX):Option OutX:=
 if m.e=0 then m.vals[0]?.map fun v=>⟨m.e,m.out,(tellV m.h v).1,(tellV m.h v).2,m.steps⟩ else some ⟨m.e,m.out,dat0,false,m.steps⟩
theorem varX_iff {H:PH} {x:VarX} {cs:List Value}:CsR H x cs↔cs=[txt x.name,.int .i64 x.at_]∧x.name.length≤maxLen∧InI x.at_:=by
 show PV.RepRow H [.str x.name,.int .i64 x.at_] cs↔_
 simp only [PV.RepRow,z4k,zdr]
 constructor
 ·rintro ⟨_,_,rfl,⟨rfl,h1⟩,_,_,rfl,⟨rfl,h2⟩,rfl⟩
  exact ⟨rfl,h1,h2⟩
 ·rintro ⟨rfl,h1,h2⟩
  exact ⟨_,_,rfl,⟨rfl,h1⟩,_,_,rfl,⟨rfl,h2⟩,rfl⟩
abbrev tdVs (t:TdX) (es:List Value) (ev:Value):List Value:=.int .i64 t.act::(es++[ev,.int .i64 t.at_])
theorem td_iff {H:PH} {t:TdX} {cs:List Value}:CsR H t cs↔∃es ev,cs=tdVs t es ev∧InI t.act∧t.e.Rep H es∧SlR H t.env ev∧InI t.at_:=by
 show PV.RepRow H (.int .i64 t.act::(Xp.pv t.e++[slp t.env,.int .i64 t.at_])) cs↔_
 simp only [PV.RepRow,z4k]
 constructor
 ·rintro ⟨v1,vs1,rfl,⟨rfl,h1⟩,h2⟩
  have h3:=h2.split
  rw [Xp.pv_len] at h3
  obtain ⟨h4,h5⟩:=h3
  simp only [PV.RepRow,z4k] at h5
  obtain ⟨v,vs,hv,h6,w,ws,rfl,⟨rfl,h7⟩,rfl⟩:=h5
  refine ⟨vs1.take 8,v,?_,h1,h4,h6,h7⟩
  show _=Value.int .i64 t.act::(vs1.take 8++[v,.int .i64 t.at_])
  rw [←hv,List.take_append_drop]
 ·rintro ⟨es,ev,rfl,h1,h2,h3,h4⟩
  refine ⟨_,_,rfl,⟨rfl,h1⟩,PV.RepRow.append h2 ?_⟩
  simp only [PV.RepRow,z4k]
  exact ⟨_,_,rfl,h3,_,_,rfl,⟨rfl,h4⟩,rfl⟩
abbrev prVs (p:PrX) (es:List Value) (ev tv vv:Value):List Value:=.int .i64 p.thing::(es++[ev,.bool p.kont,tv,vv])
theorem pr_iff {H:PH} {p:PrX} {cs:List Value}:CsR H p cs↔∃es ev tv vv,cs=prVs p es ev tv vv∧InI p.thing∧p.lam.Rep H es∧SlR H p.env ev∧SlR H p.todo tv∧SlR H p.vals vv:=by
 show PV.RepRow H (.int .i64 p.thing::(Xp.pv p.lam++[slp p.env,.bool p.kont,slp p.todo,slp p.vals])) cs↔_
 simp only [PV.RepRow,z4k]
 constructor
 ·rintro ⟨v1,vs1,rfl,⟨rfl,h1⟩,h2⟩
  have h3:=h2.split
  rw [Xp.pv_len] at h3
  obtain ⟨h4,h5⟩:=h3
  simp only [PV.RepRow,zqa] at h5
  obtain ⟨v,vs,hv,h6,w,ws,rfl,rfl,u,us,rfl,h7,x,xs,rfl,h8,rfl⟩:=h5
  refine ⟨vs1.take 8,v,u,x,?_,h1,h4,h6,h7,h8⟩
  show _=Value.int .i64 p.thing::(vs1.take 8++[v,.bool p.kont,u,x])
  rw [←hv,List.take_append_drop]
 ·rintro ⟨es,ev,tv,vv,rfl,h1,h2,h3,h4,h5⟩
  refine ⟨_,_,rfl,⟨rfl,h1⟩,PV.RepRow.append h2 ?_⟩
  simp only [PV.RepRow,zqa]
  exact ⟨_,_,rfl,h3,_,_,rfl,rfl,_,_,rfl,h4,_,_,rfl,h5,rfl⟩
theorem zpv:Tryz.prog.underlying 76=some (.slice 82):=by kernel_rfl
theorem zkx:ElemOk Tryz.prog 82 11 168=true:=by kernel_rfl
theorem uPrsA:Tryz.prog.underlying 75=some (.slice 116):=by kernel_rfl
theorem Z1m:ElemOk Tryz.prog 116 13 216=true:=by kernel_rfl
theorem zts:Tryz.prog.underlying 80=some (.slice 122):=by kernel_rfl
theorem zn9:ElemOk Tryz.prog 122 2 24=true:=by kernel_rfl
section
variable {α:Type} [Enc α] {S H:PH} {e:TypeId} {l:List α} {v:Value} {I:List Itm}
theorem Z0p (h:Row S H e l v) (hl:l.length=0):slsV v 0 0 (sz α)=v:=by
 obtain ⟨xs,h1,_⟩:=h.own
 rcases h1.2 with ⟨rfl,_⟩ | ⟨g,cap,cur,rfl,_⟩
 ·rfl
 ·have:l=[]:=List.length_eq_zero_iff.1 hl
  subst this
  simp only [slsV,z04,slCap,List.length_nil]
  by_cases hc:cap=0
  ·subst hc;simp
  ·simp [hc,Addr.add_plain]
theorem Held.cut (h:Held S H (orow e l v::I)) {m:Nat} (hm:m≤l.length):Held S H (orow e (l.take m) (slsV v 0 (m:Int) (sz α))::I):=by
 by_cases h0:0 < l.length
 ·obtain ⟨h1,h2⟩:=(h.row (zms)).take hm h0
  refine Held.step (J:=[orow e l v]) (J':=[orow e (l.take m) (slsV v 0 (m:Int) (sz α))]) h (PH.le_refl _) (fun k o hk _=>hk) (fun k a b=>absurd a b) (Row.held h.sh h1) fun j hj g hg=>?_
  rw [List.mem_singleton.1 hj] at hg
  exact .inr ⟨_,List.mem_singleton.2 rfl,by
   show Vc.ob v=some g
   rw [←h2];exact hg⟩
 ·have hl:l.length=0:=by omega
  have hm0:m=0:=by omega
  subst hm0
  have hr:=h.row (zms)
  rw [show slsV v 0 ((0:Nat):Int) (sz α)=v from Z0p hr hl,show l.take 0=l by rw [List.length_eq_zero_iff.1 hl];rfl]
  exact h
theorem Row.srcDrop (h:Row S H e l v) {m:Nat} (hm:m≤l.length):SrcS S H (l.drop m) (slsV v (m:Int) (l.length:Int) (sz α)):=by
 obtain ⟨xs,h1,h2⟩:=h.own
 have hsp:PV.RepRow S ((l.drop m).flatMap pv) (xs.drop (m * sz α)):=by
  rw [←List.take_append_drop m l,List.flatMap_append] at h2
  have:=h2.split.2
  rw [z2i,List.length_take,Nat.min_eq_left hm] at this
  exact this
 refine ⟨_,hsp,?_⟩
 rcases h1.2 with ⟨rfl,hz⟩ | ⟨g,cap,cur,rfl,h3,h4,h5,h6,h7⟩
 ·have hl:l=[]:=List.length_eq_zero_iff.1 hz
  subst hl
  have hm0:m=0:=by simpa using hm
  subst hm0
  have hx:xs=[]:=List.length_eq_zero_iff.1 (by rw [h1.1];simp)
  exact .inr (.inl ⟨rfl,rfl,by rw [hx];simp⟩)
 ·left
  by_cases hc:cap=m
  ·have hlm:l.length=m:=by omega
   refine ⟨⟨g,0,none⟩,cap - m,?_,fun j u hu=>?_⟩
   ·subst hc
    simp [slsV,z04,slCap]
   ·have hlt:=(List.getElem?_eq_some_iff.1 hu).1
    rw [List.length_drop,h1.1,hlm] at hlt;omega
  ·refine ⟨(⟨g,0,none⟩:Addr).add (m * sz α),cap - m,?_,fun j u hu=>?_⟩
   ·have:¬cap=(m:Int).toNat:=by simpa using hc
    simp [slsV,z04,slCap,hc]
   ·rw [Addr.add_add,Addr.add_plain,PH.cell_at h3]
    rw [List.getElem?_drop] at hu
    rw [←h7,List.getElem?_take] at hu
    split at hu
    ·simpa using hu
    ·cases hu
end
structure MA where
 L:List (TR×List VX)
 thv:Value
 cells:List VX
 cv:Value
 procs:List PrX
 qv:Value
 input:List UInt8
 out:List UInt8
 ov:Value
 w:VX
 steps:Nat
 most:Nat
 todo:List TdX
 tv:Value
 vals:List VX
 vv:Value
 e:Int
def MA.x (s:MA):AX:=⟨hpX s.L,s.cells,s.procs,s.input,s.out,s.w,s.steps,s.most,s.todo,s.vals,s.e⟩
def MA.cs (hr:Nat) (s:MA):List Value:=[pAt hr,s.cv,s.qv,txt s.input,s.ov,.int .i64 s.w.kind,.int .i64 s.w.int,txt s.w.text,nI s.steps,nI s.most,s.tv,s.vv,.int .i64 s.e]
abbrev bxA (mr hr:Nat) (s:MA):Itm:=bx mr 78 (s.cs hr)
abbrev rT (s:MA):Itm:=orow 82 s.todo s.tv
abbrev rV (s:MA):Itm:=orow 73 s.vals s.vv
abbrev rC (s:MA):Itm:=orow 73 s.cells s.cv
abbrev rQ (s:MA):Itm:=orow 116 s.procs s.qv
abbrev rU (s:MA):Itm:=orow 5 s.out s.ov
abbrev machA (mr hr:Nat) (s:MA) (J:List Itm):List Itm:=bxA mr hr s::rT s::rV s::rC s::rQ s::rU s::(heapI hr s.L s.thv++J)
section
variable {S H:PH} {a b c d f x:Itm} {I:List Itm}
theorem Held.to2 (h:Held S H (a::b::x::I)):Held S H (x::a::b::I):=h.perm (List.perm_middle (l₁:=[a,b]))
theorem Held.to3 (h:Held S H (a::b::c::x::I)):Held S H (x::a::b::c::I):=h.perm (List.perm_middle (l₁:=[a,b,c]))
theorem Held.fr3 (h:Held S H (x::a::b::c::I)):Held S H (a::b::c::x::I):=h.perm (List.perm_middle (l₁:=[a,b,c])).symm
theorem Held.to4 (h:Held S H (a::b::c::d::x::I)):Held S H (x::a::b::c::d::I):=h.perm (List.perm_middle (l₁:=[a,b,c,d]))
theorem Held.to5 (h:Held S H (a::b::c::d::f::x::I)):Held S H (x::a::b::c::d::f::I):=h.perm (List.perm_middle (l₁:=[a,b,c,d,f]))
end
section
variable {S K:PH} {mr hr:Nat} {s:MA} {J:List Itm}
theorem mA_ld (h:Held S K (machA mr hr s J)) {off:Nat} {vs:List Value} (hv:((s.cs hr).drop off).take vs.length=vs):rowAt K (some ⟨mr,off,none⟩) vs:=by
 rw [←hv];exact zhv h (zms) off vs.length
theorem zrv (h:Held S K (machA mr hr s J)):∃b c,s.tv=.slice b s.todo.length c:=(h.swap.row (zms)).sl
theorem zsb (h:Held S K (machA mr hr s J)):∃b c,s.vv=.slice b s.vals.length c:=(h.to2.row (zms)).sl
theorem znw (h:Held S K (machA mr hr s J)):∃b c,s.cv=.slice b s.cells.length c:=(h.to3.row (zms)).sl
theorem zyd (h:Held S K (machA mr hr s J)):∃b c,s.qv=.slice b s.procs.length c:=(h.to4.row (zms)).sl
theorem zzk (h:Held S K (machA mr hr s J)):∃b c,s.ov=.slice b s.out.length c:=(h.to5.row (zms)).sl
theorem zvz (h:Held S K (machA mr hr s J)):HeapAt K hr (hpX s.L):=zle (I:=J) (h.sub (List.Sublist.cons _ (List.Sublist.cons _ (List.Sublist.cons _ (List.Sublist.cons _ (List.Sublist.cons _ (List.Sublist.cons _ (List.Sublist.refl _))))))))
def AFit (s:MA):Prop:=VFit s.w
def ATo (mr hr:Nat) (J:List Itm) (S:PH) (m:AX) (r:Value) (e:Ending) (K':PH):Prop:=∃S' s',PH.le S S'∧Held S' K' (machA mr hr s' J)∧AFit s'∧s'.x=m∧e=.returned r
abbrev vNil:Value:=.tuple #[]
theorem slOne {v:Value} (h:∃b n c,v=.slice b n c):∀u∈[v],oneC u=true:=fun u hu=>by
 rw [List.mem_singleton.1 hu]
 obtain ⟨b,n,c,rfl⟩:=h;rfl
theorem zkf (h:Held S K (machA mr hr s J)) (hf:AFit s) {t:TdX} {es:List Value} {ev:Value} (h1:InI t.act) (h2:t.e.Rep S es) (h3:SlR S t.env ev) (h4:InI t.at_) (hl:s.todo.length≤8589934592) :
  Tri Tryz.prog z1e #[pAt mr,.agg (tdVs t es ev).toArray] K (ATo mr hr J S (s.x.push [t]) vNil):=by
 obtain ⟨tb,tc,htv⟩:=zrv h
 obtain ⟨nb,db,kb,nc,dc,kc,rfl,hx⟩:=Xp.Rep.open h2
 obtain ⟨vb,vc,rfl⟩:=h3.sl
 refine z7w (pAt mr::tdVs t (exVs t.e nb db kb nc dc kc) (.slice vb t.env.length vc)) (by kernel_rfl) (by kernel_rfl) ?_
 have hl10:rowAt K (some ⟨mr,10,none⟩) [.slice tb s.todo.length tc]:=by rw [←htv];exact mA_ld h rfl
 refine ⟨fun _=>by simp [Chk.holds,ev0,ev,evV,List.cons_append,List.nil_append,List.getD_cons_zero,List.getD_cons_succ,List.map_cons,List.map_nil,iOf,bOf,sOf,pOf,slLen,z04,cmpI,arI,Value.ite_bool,z01,z02,z00,z03],[.slice tb s.todo.length tc],rfl,by simp only [ev0,ev,evV,List.cons_append,List.nil_append,List.getD_cons_zero,List.getD_cons_succ,List.map_cons,List.map_nil,iOf,bOf,sOf,pOf,slLen,z04,cmpI,arI,Value.ite_bool,z01,z02,z00,z03];exact hl10,?_⟩
 simp only [List.cons_append,List.nil_append]
 have h5:Held S K (orow 82 s.todo (.slice tb s.todo.length tc)::bxA mr hr s::rV s::rC s::rQ s::rU s::(heapI hr s.L s.thv++J)):=by rw [←htv];exact h.swap
 refine z15 (b:=168) (more:=[t]) [.agg (tdVs t (exVs t.e nb db kb nc dc kc) (.slice vb t.env.length vc)).toArray] zpv zkx rfl (by decide) (by decide) h5 (by kernel_rfl) (.cons (td_iff.2 ⟨_,_,rfl,h1,hx.rep,h3,h4⟩) .nil) (z1x (by simp only [ev0,ev,evV,List.cons_append,List.nil_append,List.getD_cons_zero,List.getD_cons_succ,List.map_cons,List.map_nil,iOf,bOf,sOf,pOf,slLen,z04,cmpI,arI,Value.ite_bool,z01,z02,z00,z03];exact hl10)) (fun u=>by kernel_rfl) (fun u=>by kernel_rfl)
  (by simp only [maxLen,zlc,List.length_nil];omega) (by simp only [zlc,List.length_nil];omega) fun u v' S1 K1 l1 h6=>⟨z05,?_⟩
 simp only [List.cons_append,List.nil_append]
 obtain ⟨b6,c6,hv6⟩:=(h6.row (zms)).sl
 refine z0t (off:=10) (vs:=[v']) (by simp only [ev0,ev,evV,List.cons_append,List.nil_append,List.getD_cons_zero,List.getD_cons_succ,List.map_cons,List.map_nil,iOf,bOf,sOf,pOf,slLen,z04,cmpI,arI,Value.ite_bool,z01,z02,z00,z03];rfl) h6.swap rfl (slOne ⟨_,_,_,hv6⟩) (by simp [MA.cs]) fun K2 h7=>?_
 exact ⟨S1,{ s with todo:=s.todo++[t],tv:=v' },l1,h7,hf,rfl,rfl⟩
theorem z84 (h:Held S K (machA mr hr s J)) (hf:AFit s) {v:VX} (hv:VFit v) (hl:s.vals.length≤8589934592) :
  Tri Tryz.prog z3j #[pAt mr,valV v] K (ATo mr hr J S (s.x.tell v) vNil):=by
 obtain ⟨tb,tc,htv⟩:=zsb h
 refine z7z (pAt mr::valVs v) (by kernel_rfl) (by kernel_rfl) ?_
 have hl10:rowAt K (some ⟨mr,11,none⟩) [.slice tb s.vals.length tc]:=by rw [←htv];exact mA_ld h rfl
 refine ⟨fun _=>by simp [Chk.holds,ev0,ev,evV,List.cons_append,List.nil_append,List.getD_cons_zero,List.getD_cons_succ,List.map_cons,List.map_nil,iOf,bOf,sOf,pOf,slLen,z04,cmpI,arI,Value.ite_bool,z01,z02,z00,z03],[.slice tb s.vals.length tc],rfl,by simp only [ev0,ev,evV,List.cons_append,List.nil_append,List.getD_cons_zero,List.getD_cons_succ,List.map_cons,List.map_nil,iOf,bOf,sOf,pOf,slLen,z04,cmpI,arI,Value.ite_bool,z01,z02,z00,z03];exact hl10,?_⟩
 simp only [List.cons_append,List.nil_append]
 have h5:Held S K (orow 73 s.vals (.slice tb s.vals.length tc)::bxA mr hr s::rT s::rC s::rQ s::rU s::(heapI hr s.L s.thv++J)):=by rw [←htv];exact h.to2
 refine z15 (b:=32) (more:=[v]) [valV v] z4p z2q rfl (by decide) (by decide) h5 (by kernel_rfl) (.cons (zhb hv) .nil) (z1x (by simp only [ev0,ev,evV,List.cons_append,List.nil_append,List.getD_cons_zero,List.getD_cons_succ,List.map_cons,List.map_nil,iOf,bOf,sOf,pOf,slLen,z04,cmpI,arI,Value.ite_bool,z01,z02,z00,z03];exact hl10)) (fun u=>by kernel_rfl) (fun u=>by kernel_rfl)
  (by simp only [maxLen,zlc,List.length_nil];omega) (by simp only [zlc,List.length_nil];omega) fun u v' S1 K1 l1 h6=>⟨z05,?_⟩
 simp only [List.cons_append,List.nil_append]
 obtain ⟨b6,c6,hv6⟩:=(h6.row (zms)).sl
 refine z0t (off:=11) (vs:=[v']) (by simp only [ev0,ev,evV,List.cons_append,List.nil_append,List.getD_cons_zero,List.getD_cons_succ,List.map_cons,List.map_nil,iOf,bOf,sOf,pOf,slLen,z04,cmpI,arI,Value.ite_bool,z01,z02,z00,z03];rfl) h6.swap rfl (slOne ⟨_,_,_,hv6⟩) (by simp [MA.cs]) fun K2 h7=>?_
 exact ⟨S1,{ s with vals:=s.vals++[v],vv:=v' },l1,h7.perm (List.Perm.cons _ (List.Perm.swap _ _ _)),hf,rfl,rfl⟩
def PopTo (mr hr:Nat) (J:List Itm) (S:PH) (s:MA) (n:Nat) (e:Ending) (K':PH):Prop:=∃S' vv v,PH.le S S'∧Held S' K' (machA mr hr { s with vals:=s.vals.take (s.vals.length - n),vv:=vv } J)∧SlR S' (s.vals.drop (s.vals.length - n)) v∧e=.returned v
theorem z7o (h:Held S K (machA mr hr s J)) {n:Nat} (hn:n≤s.vals.length) (hl:s.vals.length≤8589934592) :
  Tri Tryz.prog z9p #[pAt mr,.int .i64 (n:Int)] K (PopTo mr hr J S s n):=by
 obtain ⟨tb,tc,htv⟩:=zsb h
 refine z8r [pAt mr,.int .i64 (n:Int)] (by kernel_rfl) (by kernel_rfl) ?_
 have hl11:∀{K':PH} {I:List Itm},Held S K' (I++machA mr hr s J)→rowAt K' (some ⟨mr,11,none⟩) [.slice tb s.vals.length tc]:=fun h'=>by rw [←htv];exact zhv h' (List.mem_append_right _ (zms)) 11 1
 refine ⟨fun _=>by simp [Chk.holds,ev0,ev,evV,List.cons_append,List.nil_append,List.getD_cons_zero,List.getD_cons_succ,List.map_cons,List.map_nil,iOf,bOf,sOf,pOf,slLen,z04,cmpI,arI,Value.ite_bool,z01,z02,z00,z03],[.slice tb s.vals.length tc],rfl,by simp only [ev0,ev,evV,List.cons_append,List.nil_append,List.getD_cons_zero,List.getD_cons_succ,List.map_cons,List.map_nil,iOf,bOf,sOf,pOf,slLen,z04,cmpI,arI,Value.ite_bool,z01,z02,z00,z03];exact hl11 (I:=[]) h,?_⟩
 simp only [List.cons_append,List.nil_append]
 refine z1g (α:=VX) (b:=32) z4p z2q h z05 fun v1 K1 h1 _ _=>?_
 have hw:IntKind.i64.wrap ((s.vals.length:Int) - (n:Int))=((s.vals.length - n:Nat):Int):=by rw [w64 (by omega) (by omega)];omega
 have hcap:s.vals.length≤tc:=by
  obtain ⟨xs,o1,_⟩:=(h.to2.row (zms)).own
  rcases o1.2 with ⟨e,hz⟩ | ⟨g,cap,cur,e,_,h4,_⟩
  ·omega
  ·rw [htv] at e;cases e;exact h4
 refine ⟨[.slice tb s.vals.length tc],rfl,by simp only [ev0,ev,evV,List.cons_append,List.nil_append,List.getD_cons_zero,List.getD_cons_succ,List.map_cons,List.map_nil,iOf,bOf,sOf,pOf,slLen,z04,cmpI,arI,Value.ite_bool,z01,z02,z00,z03];exact hl11 (I:=[_]) h1,fun _=>?_,?_⟩
 ·simp only [Chk.holds,ev0,ev,evV,List.cons_append,List.nil_append,List.getD_cons_zero,List.getD_cons_succ,List.map_cons,List.map_nil,iOf,bOf,sOf,pOf,slLen,z04,cmpI,arI,Value.ite_bool,z01,z02,z00,z03,hw,slCap];omega
 simp only [List.cons_append,List.nil_append]
 refine z1k (b:=32) (v:=v1) (more:=s.vals.drop (s.vals.length - n)) z4p z2q (by kernel_rfl) (w:=slsV (.slice tb s.vals.length tc) ((s.vals.length - n:Nat):Int) (s.vals.length:Int) 3) ?_ h1 ?_ (by simp only [maxLen,List.length_nil,List.length_drop];omega) (by simp only [List.length_nil,List.length_drop];omega) fun v2 K2 h2 _=>⟨z05,?_⟩
 ·rw [←hw];kernel_rfl
 ·have hr2:=(h1.perm (List.perm_middle (l₁:=[_,_,_]))).row (zms)
  have:=hr2.srcDrop (m:=s.vals.length - n) (by omega)
  rw [htv] at this;exact this
 rw [List.nil_append] at h2
 obtain ⟨b2,c2,hv2⟩:=(h2.row (zms)).sl
 refine ⟨[.slice tb s.vals.length tc],rfl,by simp only [ev0,ev,evV,List.cons_append,List.nil_append,List.getD_cons_zero,List.getD_cons_succ,List.map_cons,List.map_nil,iOf,bOf,sOf,pOf,slLen,z04,cmpI,arI,Value.ite_bool,z01,z02,z00,z03];exact hl11 (I:=[_]) h2,fun _=>?_,?_⟩
 ·simp only [Chk.holds,ev0,ev,evV,List.cons_append,List.nil_append,List.getD_cons_zero,List.getD_cons_succ,List.map_cons,List.map_nil,iOf,bOf,sOf,pOf,slLen,z04,cmpI,arI,Value.ite_bool,z01,z02,z00,z03,hw,slCap];omega
 obtain ⟨S3,hs3,l3,h3⟩:=h2.freeze
 simp only [List.cons_append,List.nil_append]
 have h4:=(h3.to2).cut (m:=s.vals.length - n) (by omega)
 refine z0t (off:=11) (vs:=[slsV s.vv 0 ((s.vals.length - n:Nat):Int) 3]) (by simp only [ev0,ev,evV,List.cons_append,List.nil_append,List.getD_cons_zero,List.getD_cons_succ,List.map_cons,List.map_nil,iOf,bOf,sOf,pOf,slLen,z04,cmpI,arI,Value.ite_bool,z01,z02,z00,z03];rfl) h4.swap ?_ (slOne ⟨_,_,_,rfl⟩) (by simp [MA.cs]) fun K4 h5=>?_
 ·simp only [List.map_cons,List.map_nil,ev0,ev,evV,List.cons_append,List.nil_append,List.getD_cons_zero,List.getD_cons_succ,List.map_cons,List.map_nil,iOf,bOf,sOf,pOf,slLen,z04,cmpI,arI,Value.ite_bool,z01,z02,z00,z03,hw,htv]
 refine ⟨S3,slsV s.vv 0 ((s.vals.length - n:Nat):Int) 3,v2,l3,h5.perm (List.Perm.cons _ (List.Perm.swap _ _ _)),hs3,?_⟩
 rw [hv2];rfl
end
theorem up9 {k:Nat} (h:k < 9223372036854775807):IntKind.i64.wrap ((k:Int)+1)=((k+1:Nat):Int):=by rw [w64 (by omega) (by omega)];rfl
theorem down9 {k:Nat} (h:k < 9223372036854775807):IntKind.i64.wrap ((k:Int) - 1)=(k:Int) - 1:=by rw [w64 (by omega) (by omega)]
theorem zof {env:List VarX} {j:Nat} {a:VarX} (h:env[j]?=some a) (s:List UInt8) (k:Int):cellF (env.take (j+1)) s k=if a.name=s then a.at_ else cellF (env.take j) s k:=by
 unfold cellF
 rw [List.take_add_one,h,List.foldl_append];rfl
theorem zfw (env:List VarX) (ev:Value) (s:List UInt8) (H:PH) (he:SlR H env ev):Gives Tryz.prog zhh [ev,txt s] H (.int .i64 (cellX env s)):=by
 have hmax:=he.max
 simp only [maxLen] at hmax
 obtain ⟨b,c,rfl⟩:=he.sl
 refine zf6 [.slice b env.length c,txt s] (by kernel_rfl) (by kernel_rfl) ?_
 refine ⟨fun n vs K1=>∃j:Nat,j+n=env.length∧vs=[.int .i64 (cellF (env.take j) s (-1)),nI j]∧K1=H,⟨env.length,0,by omega,rfl,rfl⟩,?_⟩
 rintro n vs K1 _ ⟨j,hjn,rfl,rfl⟩
 simp only [List.cons_append,List.nil_append]
 refine ⟨fun g=>?_,fun g=>?_⟩
 ·simp only [ev0,ev,evV,List.cons_append,List.nil_append,List.getD_cons_zero,List.getD_cons_succ,List.map_cons,List.map_nil,iOf,bOf,sOf,pOf,slLen,z04,cmpI,arI,Value.ite_bool,z01,z02,z00,z03,zdt] at g
  obtain ⟨a,ha⟩:∃a,env[j]?=some a:=⟨_,zge (by omega)⟩
  obtain ⟨x1,_,cs,x2,x3⟩:=he.get ha
  obtain ⟨rfl,x4,x5⟩:=varX_iff.1 x2
  refine ⟨fun vs K2=>vs=[.int .i64 (cellF (env.take (j+1)) s (-1))]∧K1=K2,?_,fun _=>?_,[txt a.name],rfl,by simp only [ev0,ev,evV,List.cons_append,List.nil_append,List.getD_cons_zero,List.getD_cons_succ,List.map_cons,List.map_nil,iOf,bOf,sOf,pOf,slLen,z04,cmpI,arI,Value.ite_bool,z01,z02,z00,z03];exact z2l x3 0 1,fun g2=>?_,fun g2=>?_⟩
  ·rintro vs K2 _ ⟨rfl,rfl⟩
   exact ⟨_,z06,n - 1,by omega,j+1,by omega,by simp only [ev0,ev,evV,List.cons_append,List.nil_append,List.getD_cons_zero,List.getD_cons_succ,List.map_cons,List.map_nil,iOf,bOf,sOf,pOf,slLen,z04,cmpI,arI,Value.ite_bool,z01,z02,z00,z03,up9 (by omega:j < 9223372036854775807)],rfl⟩
  ·simp only [Chk.holds,ev0,ev,evV,List.cons_append,List.nil_append,List.getD_cons_zero,List.getD_cons_succ,List.map_cons,List.map_nil,iOf,bOf,sOf,pOf,slLen,z04,cmpI,arI,Value.ite_bool,z01,z02,z00,z03];exact ⟨x1,by omega,by omega⟩
  ·simp only [ev0,ev,evV,List.cons_append,List.nil_append,List.getD_cons_zero,List.getD_cons_succ,List.map_cons,List.map_nil,iOf,bOf,sOf,pOf,slLen,z04,cmpI,arI,Value.ite_bool,z01,z02,z00,z03,z09,zdt] at g2
   refine ⟨[.int .i64 a.at_],rfl,by simp only [ev0,ev,evV,List.cons_append,List.nil_append,List.getD_cons_zero,List.getD_cons_succ,List.map_cons,List.map_nil,iOf,bOf,sOf,pOf,slLen,z04,cmpI,arI,Value.ite_bool,z01,z02,z00,z03];exact z2l x3 1 1,_,z06,?_,rfl⟩
   rw [zof ha,if_pos g2];simp only [ev0,ev,evV,List.cons_append,List.nil_append,List.getD_cons_zero,List.getD_cons_succ,List.map_cons,List.map_nil,iOf,bOf,sOf,pOf,slLen,z04,cmpI,arI,Value.ite_bool,z01,z02,z00,z03]
  ·simp only [ev0,ev,evV,List.cons_append,List.nil_append,List.getD_cons_zero,List.getD_cons_succ,List.map_cons,List.map_nil,iOf,bOf,sOf,pOf,slLen,z04,cmpI,arI,Value.ite_bool,z01,z02,z00,z03,z09,zdf] at g2
   refine ⟨_,z06,?_,rfl⟩
   rw [zof ha,if_neg g2];simp only [ev0,ev,evV,List.cons_append,List.nil_append,List.getD_cons_zero,List.getD_cons_succ,List.map_cons,List.map_nil,iOf,bOf,sOf,pOf,slLen,z04,cmpI,arI,Value.ite_bool,z01,z02,z00,z03]
 ·simp only [ev0,ev,evV,List.cons_append,List.nil_append,List.getD_cons_zero,List.getD_cons_succ,List.map_cons,List.map_nil,iOf,bOf,sOf,pOf,slLen,z04,cmpI,arI,Value.ite_bool,z01,z02,z00,z03,zdf] at g
  refine ⟨?_,PH.le_refl _⟩
  rw [List.take_of_length_le (by omega)];rfl
theorem zi4 (env:List VarX):∀(l:List (List UInt8)) (n:Nat),bindE env l n=env++(l.zipIdx n).map fun x=>⟨x.1,x.2⟩
 | [],n=>by simp [bindE]
 | s::l,n=>by
  rw [bindE,zi4]
  simp [List.zipIdx_cons]
theorem zx8 (env:List VarX) {l:List (List UInt8)} {j n:Nat} {s:List UInt8} (h:l[j]?=some s):bindE env (l.take (j+1)) n=bindE env (l.take j) n++[⟨s,n+j⟩]:=by
 have hj:=(List.getElem?_eq_some_iff.1 h).1
 rw [zi4,zi4,List.take_add_one,h]
 simp only [Option.toList_some,List.zipIdx_append,List.map_append,List.append_assoc,List.zipIdx_singleton,List.map_cons,List.map_nil,List.length_take,Nat.min_eq_left (Nat.le_of_lt hj)]
 rw [Nat.add_comm];simp;omega
theorem zqg (env:List VarX) (l:List (List UInt8)) (n:Nat):(bindE env l n).length=env.length+l.length:=by
 rw [zi4];simp
section
variable {S K:PH} {mr hr:Nat} {s:MA} {J:List Itm}
def Z2x (mr hr:Nat) (J:List Itm) (S:PH) (s:MA) (env:List VarX) (names:List (List UInt8)) (vals:List VX) (e:Ending) (K':PH):Prop:=∃S' cv v,PH.le S S'∧Held S' K' (machA mr hr { s with cells:=s.cells++vals.take names.length,cv:=cv } J)∧SlR S' (bindE env names s.cells.length) v∧e=.returned v
theorem zkv (h:Held S K (machA mr hr s J)) {env:List VarX} {names:List (List UInt8)} {vals:List VX} {ev nv vv:Value} (he:SlR S env ev) (hn:SlR S names nv) (hv:SlR S vals vv) (hlen:names.length≤vals.length) (h1:names.length≤1000000) (h2:env.length≤4294967296) (h3:s.cells.length≤4294967296) :
  Tri Tryz.prog z8x #[pAt mr,ev,nv,vv] K (Z2x mr hr J S s env names vals):=by
 obtain ⟨eb,ec,rfl⟩:=he.sl
 obtain ⟨nb,nc,rfl⟩:=hn.sl
 obtain ⟨vb,vc,rfl⟩:=hv.sl
 refine z7p [pAt mr,.slice eb env.length ec,.slice nb names.length nc,.slice vb vals.length vc] (by kernel_rfl) (by kernel_rfl) ?_
 refine z1g (α:=VarX) (b:=24) zts zn9 h z05 fun v1 K1 h4 _ _=>?_
 simp only [List.cons_append,List.nil_append]
 refine z1k (b:=24) (more:=env) zts zn9 (by kernel_rfl) (by kernel_rfl) h4 (he.srcS h4.sh) (by simp only [maxLen,List.length_nil];omega) (by simp only [List.length_nil];omega) fun v2 K2 h5 _=>⟨z05,?_⟩
 rw [List.nil_append] at h5
 simp only [List.cons_append,List.nil_append]
 refine ⟨fun n vs K3=>∃(j:Nat) (S3:PH) (u cv:Value),j+n=names.length∧vs=[u,nI j]∧PH.le S S3∧Held S3 K3 (orow 122 (bindE env (names.take j) s.cells.length) u::machA mr hr { s with cells:=s.cells++vals.take j,cv:=cv } J),⟨names.length,0,S,v2,s.cv,by omega,rfl,PH.le_refl _,?_⟩,?_⟩
 ·rw [List.take_zero,List.take_zero,List.append_nil];exact h5
 rintro n vs K3 _ ⟨j,S3,u,cv,hjn,rfl,l3,h6⟩
 obtain ⟨ub,uc,rfl⟩:=(h6.row (zms)).sl
 obtain ⟨cb,cc,rfl⟩:∃b c,cv=.slice b (s.cells++vals.take j).length c:=znw (s:={ s with cells:=s.cells++vals.take j,cv:=cv }) h6.tail
 simp only [List.cons_append,List.nil_append]
 refine ⟨fun g=>?_,fun g=>?_⟩
 ·simp only [ev0,ev,evV,List.cons_append,List.nil_append,List.getD_cons_zero,List.getD_cons_succ,List.map_cons,List.map_nil,iOf,bOf,sOf,pOf,slLen,z04,cmpI,arI,Value.ite_bool,z01,z02,z00,z03,zdt] at g
  obtain ⟨a,ha⟩:∃a,names[j]?=some a:=⟨_,zge (by omega)⟩
  obtain ⟨y,hy⟩:∃y,vals[j]?=some y:=⟨_,zge (by omega)⟩
  obtain ⟨x1,_,xs,x2,x3⟩:=(hn.le l3).get ha
  obtain ⟨rfl,x4⟩:=z5m x2
  obtain ⟨y1,_,ys,y2,y3⟩:=(hv.le l3).get hy
  obtain ⟨rfl,yf⟩:=z2j y2
  have hcl:(s.cells++vals.take j).length=s.cells.length+j:=by rw [zla,List.length_take,Nat.min_eq_left (by omega)]
  have hl1:rowAt K3 (some ⟨mr,1,none⟩) [.slice cb (s.cells++vals.take j).length cc]:=mA_ld h6.tail rfl
  refine ⟨fun _=>by simp [Chk.holds,ev0,ev,evV,List.cons_append,List.nil_append,List.getD_cons_zero,List.getD_cons_succ,List.map_cons,List.map_nil,iOf,bOf,sOf,pOf,slLen,z04,cmpI,arI,Value.ite_bool,z01,z02,z00,z03],[.slice cb (s.cells++vals.take j).length cc],rfl,by simp only [ev0,ev,evV,List.cons_append,List.nil_append,List.getD_cons_zero,List.getD_cons_succ,List.map_cons,List.map_nil,iOf,bOf,sOf,pOf,slLen,z04,cmpI,arI,Value.ite_bool,z01,z02,z00,z03];exact hl1,fun _=>?_,valVs y,rfl,by simp only [ev0,ev,evV,List.cons_append,List.nil_append,List.getD_cons_zero,List.getD_cons_succ,List.map_cons,List.map_nil,iOf,bOf,sOf,pOf,slLen,z04,cmpI,arI,Value.ite_bool,z01,z02,z00,z03];exact z0b h6.sh y3,?_⟩
  ·simp only [Chk.holds,ev0,ev,evV,List.cons_append,List.nil_append,List.getD_cons_zero,List.getD_cons_succ,List.map_cons,List.map_nil,iOf,bOf,sOf,pOf,slLen,z04,cmpI,arI,Value.ite_bool,z01,z02,z00,z03];exact ⟨y1,by omega,by omega⟩
  simp only [List.cons_append,List.nil_append]
  have h7:Held S3 K3 (orow 73 (s.cells++vals.take j) (.slice cb (s.cells++vals.take j).length cc)::orow 122 (bindE env (names.take j) s.cells.length) (.slice ub (bindE env (names.take j) s.cells.length).length uc)::bxA mr hr { s with cells:=s.cells++vals.take j,cv:=.slice cb (s.cells++vals.take j).length cc }::rT s::rV s::rQ s::rU s::(heapI hr s.L s.thv++J)):=h6.to4
  refine z15 (b:=32) (more:=[y]) [valV y] z4p z2q rfl (by decide) (by decide) h7 (by kernel_rfl) (.cons (zhb yf) .nil) (z1x (by simp only [ev0,ev,evV,List.cons_append,List.nil_append,List.getD_cons_zero,List.getD_cons_succ,List.map_cons,List.map_nil,iOf,bOf,sOf,pOf,slLen,z04,cmpI,arI,Value.ite_bool,z01,z02,z00,z03];exact hl1)) (fun u=>by kernel_rfl) (fun u=>by kernel_rfl)
   (by simp only [maxLen,zlc,List.length_nil];omega) (by simp only [zlc,List.length_nil];omega) fun u6 v6 S5 K5 l5 h8=>⟨z05,?_⟩
  simp only [List.cons_append,List.nil_append]
  obtain ⟨b6,c6,hv6⟩:=(h8.row (zms)).sl
  refine z0t (off:=1) (vs:=[v6]) (by simp only [ev0,ev,evV,List.cons_append,List.nil_append,List.getD_cons_zero,List.getD_cons_succ,List.map_cons,List.map_nil,iOf,bOf,sOf,pOf,slLen,z04,cmpI,arI,Value.ite_bool,z01,z02,z00,z03];rfl) h8.to2 rfl (slOne ⟨_,_,_,hv6⟩) (by simp [MA.cs]) fun K6 h9=>?_
  have hc9:s.cells++vals.take j++[y]=s.cells++vals.take (j+1):=by rw [List.take_add_one,hy,List.append_assoc];rfl
  rw [hc9] at h9
  have hcl2:(s.cells++vals.take (j+1)).length=s.cells.length+j+1:=by rw [zla,List.length_take,Nat.min_eq_left (by omega)];omega
  have hv6':v6=.slice b6 (s.cells++vals.take (j+1)).length c6:=by rw [hv6,hc9]
  have h10:Held S5 K6 (orow 122 (bindE env (names.take j) s.cells.length) (.slice ub (bindE env (names.take j) s.cells.length).length uc)::machA mr hr { s with cells:=s.cells++vals.take (j+1),cv:=v6 } J):=
   h9.to2.perm (List.Perm.cons _ (List.Perm.cons _ (List.perm_middle (l₁:=[rT s,rV s])).symm))
  refine ⟨fun _=>?_,[txt a],rfl,by simp only [ev0,ev,evV,List.cons_append,List.nil_append,List.getD_cons_zero,List.getD_cons_succ,List.map_cons,List.map_nil,iOf,bOf,sOf,pOf,slLen,z04,cmpI,arI,Value.ite_bool,z01,z02,z00,z03];exact z0b (PH.le_trans l5 h10.sh) x3,[v6],by rw [hv6];rfl,by simp only [ev0,ev,evV,List.cons_append,List.nil_append,List.getD_cons_zero,List.getD_cons_succ,List.map_cons,List.map_nil,iOf,bOf,sOf,pOf,slLen,z04,cmpI,arI,Value.ite_bool,z01,z02,z00,z03];exact mA_ld h10.tail rfl,?_⟩
  ·simp only [Chk.holds,ev0,ev,evV,List.cons_append,List.nil_append,List.getD_cons_zero,List.getD_cons_succ,List.map_cons,List.map_nil,iOf,bOf,sOf,pOf,slLen,z04,cmpI,arI,Value.ite_bool,z01,z02,z00,z03];exact ⟨x1,by omega,by omega⟩
  simp only [List.cons_append,List.nil_append]
  have hw:IntKind.i64.wrap (((s.cells++vals.take (j+1)).length:Int) - 1)=((s.cells.length+j:Nat):Int):=by rw [hcl2,w64 (by omega) (by omega)];omega
  have hbl:=zqg env (names.take j) s.cells.length
  rw [List.length_take,Nat.min_eq_left (by omega)] at hbl
  refine z15 (b:=24) (more:=[(⟨a,((s.cells.length+j:Nat):Int)⟩:VarX)]) [.agg #[txt a,.int .i64 ((s.cells.length+j:Nat):Int)]] zts zn9 rfl (by decide) (by decide) h10 ?_ (.cons (varX_iff.2 ⟨rfl,x4,by unfold InI;simp only;omega⟩) .nil) z05 (fun u=>by kernel_rfl) (fun u=>by kernel_rfl)
   (by simp only [maxLen,zlc,List.length_nil];omega) (by simp only [zlc,List.length_nil];omega) fun u7 v7 S7 K7 l7 h11=>⟨z05,?_⟩
  ·rw [hv6',←hw];kernel_rfl
  refine ⟨_,z06,n - 1,by omega,j+1,S7,v7,v6,by omega,?_,PH.le_trans l3 (PH.le_trans l5 l7),?_⟩
  ·simp only [ev0,ev,evV,List.cons_append,List.nil_append,List.getD_cons_zero,List.getD_cons_succ,List.map_cons,List.map_nil,iOf,bOf,sOf,pOf,slLen,z04,cmpI,arI,Value.ite_bool,z01,z02,z00,z03,up9 (by omega:j < 9223372036854775807)]
  ·rw [zx8 env ha];exact h11
 ·simp only [ev0,ev,evV,List.cons_append,List.nil_append,List.getD_cons_zero,List.getD_cons_succ,List.map_cons,List.map_nil,iOf,bOf,sOf,pOf,slLen,z04,cmpI,arI,Value.ite_bool,z01,z02,z00,z03,zdf] at g
  obtain ⟨S4,hs4,l4,h7⟩:=h6.freeze
  have hj:j=names.length:=by omega
  subst hj
  rw [List.take_length] at hs4
  exact ⟨S4,.slice cb (s.cells++vals.take names.length).length cc,_,PH.le_trans l3 l4,h7,hs4,by simp only [ev0,ev,evV,List.cons_append,List.nil_append,List.getD_cons_zero,List.getD_cons_succ,List.map_cons,List.map_nil,iOf,bOf,sOf,pOf,slLen,z04,cmpI,arI,Value.ite_bool,z01,z02,z00,z03,List.take_length]⟩
theorem z2r (m:AX) (a b:List TdX):(m.push a).push b=m.push (a++b):=by unfold AX.push;simp only [List.append_assoc]
theorem Z01 (m:AX):m.push []=m:=by unfold AX.push;simp only [List.append_nil]
theorem zz3 {l:List Xp} {k:Nat} {a:Xp} (h:l[k]?=some a) (env:List VarX):allT (l.drop k) env=allT (l.drop (k+1)) env++[tdE a env]:=by
 obtain ⟨hk,he⟩:=List.getElem?_eq_some_iff.1 h
 rw [List.drop_eq_getElem_cons hk,he]
 simp [allT]
theorem Z0m (l:List Xp) (env:List VarX):(allT l env).length=l.length:=by simp [allT]
theorem zne (H:PH):exZ.Rep H [.int .i64 0,txt [],.slice none 0 0,.int .i64 0,.int .i64 0,txt [],.slice none 0 0,.slice none 0 0]:=by
 refine Xp.Rep_iff.2 ⟨.slice none 0 0,.slice none 0 0,.slice none 0 0,rfl,by decide,by simp [exZ,Xp.name],SlR.mk_iff.2 ⟨Nat.zero_le _,.inl ⟨rfl,rfl⟩⟩,?_,SlR.mk_iff.2 ⟨Nat.zero_le _,.inl ⟨rfl,rfl⟩⟩⟩
 exact z31 (k:=0) (n:=0) (t:=[]) (by decide) (by decide) (by decide)
theorem zlg (H:PH):SlR H ([]:List VarX) (.slice none 0 0):=SlR.mk_iff.2 ⟨Nat.zero_le _,.inl ⟨rfl,rfl⟩⟩
theorem z28 (h:Held S K (machA mr hr s J)) (hf:AFit s) {e:Xp} {env:List VarX} {nb db kb eb:Option Addr} {nc dc kc ec:Nat} (h2:ExV S e nb db kb nc dc kc) (h3:SlR S env (.slice eb env.length ec)) (hl:s.todo.length≤8589934592) :
  Tri Tryz.prog z1e #[pAt mr,.agg #[.int .i64 0,.int .i64 e.kind,txt e.name,.slice nb e.names.length nc,.int .i64 e.const.kind,.int .i64 e.const.int,txt e.const.text,.slice db e.const.list.length dc,.slice kb e.kids.length kc,.slice eb env.length ec,.int .i64 0]] K (ATo mr hr J S (s.x.push [tdE e env]) vNil):=
 zkf (es:=exVs e nb db kb nc dc kc) (ev:=.slice eb env.length ec) h hf (t:=tdE e env) (show InI 0 by decide) h2.rep h3 (show InI 0 by decide) hl
theorem zfi (h:Held S K (machA mr hr s J)) (hf:AFit s) {act at_:Int} (h1:InI act) (h4:InI at_) (hl:s.todo.length≤8589934592) :
  Tri Tryz.prog z1e #[pAt mr,.agg #[.int .i64 act,.int .i64 0,txt [],.slice none 0 0,.int .i64 0,.int .i64 0,txt [],.slice none 0 0,.slice none 0 0,.slice none 0 0,.int .i64 at_]] K (ATo mr hr J S (s.x.push [tdA act at_]) vNil):=
 zkf (es:=[.int .i64 0,txt [],.slice none 0 0,.int .i64 0,.int .i64 0,txt [],.slice none 0 0,.slice none 0 0]) (ev:=.slice none 0 0) h hf (t:=tdA act at_) h1 (zne S) (zlg S) h4 hl
theorem zku (h:Held S K (machA mr hr s J)) (hf:AFit s) {act at_:Int} {e:Xp} {env:List VarX} {nb db kb eb:Option Addr} {nc dc kc ec:Nat} (h1:InI act) (h2:ExV S e nb db kb nc dc kc) (h3:SlR S env (.slice eb env.length ec)) (h4:InI at_) (hl:s.todo.length≤8589934592) :
  Tri Tryz.prog z1e #[pAt mr,.agg #[.int .i64 act,.int .i64 e.kind,txt e.name,.slice nb e.names.length nc,.int .i64 e.const.kind,.int .i64 e.const.int,txt e.const.text,.slice db e.const.list.length dc,.slice kb e.kids.length kc,.slice eb env.length ec,.int .i64 at_]] K (ATo mr hr J S (s.x.push [⟨act,e,env,at_⟩]) vNil):=
 zkf (es:=exVs e nb db kb nc dc kc) (ev:=.slice eb env.length ec) h hf (t:=⟨act,e,env,at_⟩) h1 h2.rep h3 h4 hl
theorem zn5 (h:Held S K (machA mr hr s J)) (hf:AFit s) {l:List Xp} {env:List VarX} {lv ev:Value} (hl:SlR S l lv) (he:SlR S env ev) (h1:l.length≤1000000) (h2:s.todo.length≤8588000000) :
  Tri Tryz.prog z9m #[pAt mr,lv,ev] K (ATo mr hr J S (s.x.push (allT l env)) vNil):=by
 obtain ⟨lb,lc,rfl⟩:=hl.sl
 obtain ⟨eb,ec,rfl⟩:=he.sl
 refine z8m [pAt mr,.slice lb l.length lc,.slice eb env.length ec] (by kernel_rfl) (by kernel_rfl) ?_
 refine ⟨fun n vs K3=>∃(S3:PH) (s3:MA),vs=[.int .i64 ((n:Int) - 1)]∧n≤l.length∧PH.le S S3∧Held S3 K3 (machA mr hr s3 J)∧AFit s3∧s3.x=s.x.push (allT (l.drop n) env),⟨l.length,S,s,?_,Nat.le_refl _,PH.le_refl _,h,hf,?_⟩,?_⟩
 ·simp only [ev0,ev,evV,List.cons_append,List.nil_append,List.getD_cons_zero,List.getD_cons_succ,List.map_cons,List.map_nil,iOf,bOf,sOf,pOf,slLen,z04,cmpI,arI,Value.ite_bool,z01,z02,z00,z03,down9 (by omega:l.length < 9223372036854775807)]
 ·rw [List.drop_length];exact (Z01 _).symm
 rintro n vs K3 _ ⟨S3,s3,rfl,hn,l3,h3,f3,hx3⟩
 simp only [List.cons_append,List.nil_append]
 refine ⟨fun g=>?_,fun g=>?_⟩
 ·simp only [ev0,ev,evV,List.cons_append,List.nil_append,List.getD_cons_zero,List.getD_cons_succ,List.map_cons,List.map_nil,iOf,bOf,sOf,pOf,slLen,z04,cmpI,arI,Value.ite_bool,z01,z02,z00,z03,zdt] at g
  obtain ⟨k,rfl⟩:∃k,n=k+1:=⟨n - 1,by omega⟩
  have hk1:(((k+1:Nat):Int) - 1)=(k:Int):=by omega
  rw [hk1]
  obtain ⟨a,ha⟩:∃a,l[k]?=some a:=⟨_,zge (by omega)⟩
  obtain ⟨x1,_,xs,x2,x3⟩:=(hl.le l3).get ha
  have x2':=x2
  obtain ⟨nb,db,kb,nc,dc,kc,rfl,hx⟩:=Xp.Rep.open x2'
  have htl:s3.todo.length=s.todo.length+(l.length - (k+1)):=by
   have:=congrArg (fun m:AX=>m.todo.length) hx3
   simp only [AX.push,zla,Z0m,List.length_drop] at this
   exact this
  refine ⟨fun _=>?_,exVs a nb db kb nc dc kc,Xp.Rep.tags x2,by simp only [ev0,ev,evV,List.cons_append,List.nil_append,List.getD_cons_zero,List.getD_cons_succ,List.map_cons,List.map_nil,iOf,bOf,sOf,pOf,slLen,z04,cmpI,arI,Value.ite_bool,z01,z02,z00,z03];exact z0b h3.sh x3,?_⟩
  ·simp only [Chk.holds,ev0,ev,evV,List.cons_append,List.nil_append,List.getD_cons_zero,List.getD_cons_succ,List.map_cons,List.map_nil,iOf,bOf,sOf,pOf,slLen,z04,cmpI,arI,Value.ite_bool,z01,z02,z00,z03];exact ⟨x1,by omega,by omega⟩
  simp only [List.cons_append,List.nil_append]
  refine z08 z0a (z28 (e:=a) (env:=env) h3 f3 hx (he.le l3) (by omega)) ?_
  rintro x K4 ⟨S4,s4,l4,h4,f4,hx4,rfl⟩
  refine ⟨_,[],rfl,rfl,rfl,z05,?_⟩
  refine ⟨_,z06,k,by omega,S4,s4,?_,by omega,PH.le_trans l3 l4,h4,f4,?_⟩
  ·simp only [ev0,ev,evV,List.cons_append,List.nil_append,List.getD_cons_zero,List.getD_cons_succ,List.map_cons,List.map_nil,iOf,bOf,sOf,pOf,slLen,z04,cmpI,arI,Value.ite_bool,z01,z02,z00,z03,down9 (by omega:k < 9223372036854775807)]
  ·rw [hx4,hx3,z2r,zz3 ha]
 ·simp only [ev0,ev,evV,List.cons_append,List.nil_append,List.getD_cons_zero,List.getD_cons_succ,List.map_cons,List.map_nil,iOf,bOf,sOf,pOf,slLen,z04,cmpI,arI,Value.ite_bool,z01,z02,z00,z03,zdf] at g
  have hn0:n=0:=by omega
  subst hn0
  exact ⟨S3,s3,l3,h3,f3,hx3,rfl⟩
end
def turnE (lam:Bool) (inner:List VarX) (x:List UInt8×Xp):List TdX:=if decide (x.2.kind=5)=lam then [tdA 7 (cellX inner x.1),tdE x.2 inner] else []
theorem zoa {l:List (List UInt8×Xp)} {k:Nat} {a:List UInt8×Xp} (h:l[k]?=some a) (lam:Bool) (inner:List VarX):turnT lam inner (l.drop k)=turnT lam inner (l.drop (k+1))++turnE lam inner a:=by
 obtain ⟨hk,he⟩:=List.getElem?_eq_some_iff.1 h
 rw [List.drop_eq_getElem_cons hk,he]
 simp [turnT,turnE]
theorem zjy (lam:Bool) (inner:List VarX) (l:List (List UInt8×Xp)):(turnT lam inner l).length≤2 * l.length:=by
 unfold turnT
 have hl:l.length=l.reverse.length:=List.length_reverse.symm
 rw [hl]
 generalize l.reverse=r
 induction r with
 | nil=>simp
 | cons a r ih=>
  rw [List.flatMap_cons,zla,zlc]
  have:(if decide (a.2.kind=5)=lam then [tdA 7 (cellX inner a.1),tdE a.2 inner] else []).length≤2:=by split<;>simp
  omega
theorem ztd (s:List UInt8):∀(env:List VarX) (k:Int),InI k→(∀v∈env,InI v.at_)→InI (cellF env s k)
 | [],k,h,_=>h
 | v::env,k,h,ha=>by
  show InI (cellF env s (if v.name=s then v.at_ else k))
  refine ztd s env _ ?_ fun x hx=>ha x (zmm _ hx)
  split
  ·exact ha v (zms)
  ·exact h
theorem Z2t {H:PH} {env:List VarX} {v:Value} (h:SlR H env v):∀x∈env,InI x.at_:=fun x hx=>by
 obtain ⟨i,hi⟩:=List.getElem?_of_mem hx
 obtain ⟨_,_,cs,h1,_⟩:=h.get hi
 exact (varX_iff.1 h1).2.2
theorem zs2 {H:PH} {env:List VarX} {v:Value} (h:SlR H env v) (s:List UInt8):InI (cellX env s):=ztd s env (-1) (by decide) (Z2t h)
section
variable {S K:PH} {mr hr:Nat} {s:MA} {J:List Itm}
def recT (e:Xp) (inner:List VarX) (b:Xp):List TdX:=tdE b inner::(turnT false inner (e.names.zip e.kids)++turnT true inner (e.names.zip e.kids))
theorem Z04 (h:Held S K (machA mr hr s J)) (hf:AFit s) {e:Xp} {nb db kb eb:Option Addr} {nc dc kc ec:Nat} {env:List VarX} (hx:ExV S e nb db kb nc dc kc) (he:SlR S env (.slice eb env.length ec)) (h1:e.kids.length≤1000000) (h1n:e.names.length≤1000000) (h2:env.length≤4294967296) (h3:s.cells.length≤4294967296) (h4:s.todo.length≤8580000000) {m':AX} (hm:s.x.recA e env=some m') :
  Tri Tryz.prog z9i #[pAt mr,.agg (exVs e nb db kb nc dc kc).toArray,.slice eb env.length ec] K (ATo mr hr J S m' vNil):=by
 obtain ⟨b,hb⟩:∃b,e.kids[e.names.length]?=some b:=by
  unfold AX.recA at hm
  cases hk:e.kids[e.names.length]? with
  | none=>rw [hk] at hm;cases hm
  | some b=>exact ⟨b,rfl⟩
 have hbl:=(List.getElem?_eq_some_iff.1 hb).1
 refine z8o (pAt mr::(exVs e nb db kb nc dc kc++[.slice eb env.length ec])) (by kernel_rfl) (by kernel_rfl) ?_
 refine z1g (α:=VX) (b:=32) z4p z2q h z05 fun v1 K1 h5 _ _=>?_
 simp only [List.cons_append,List.nil_append]
 refine ⟨fun n vs K3=>∃(j:Nat) (S3:PH) (u:Value),j+n=e.names.length∧vs=[u,nI j]∧PH.le S S3∧Held S3 K3 (orow 73 (List.replicate j (⟨7,0,[]⟩:VX)) u::machA mr hr s J),⟨e.names.length,0,S,v1,by omega,rfl,PH.le_refl _,h5⟩,?_⟩
 rintro n vs K3 _ ⟨j,S3,u,hjn,rfl,l3,h6⟩
 obtain ⟨ub,uc,rfl⟩:=(h6.row (zms)).sl
 simp only [List.cons_append,List.nil_append]
 refine ⟨fun g=>?_,fun g=>?_⟩
 ·simp only [ev0,ev,evV,List.cons_append,List.nil_append,List.getD_cons_zero,List.getD_cons_succ,List.map_cons,List.map_nil,iOf,bOf,sOf,pOf,slLen,z04,cmpI,arI,Value.ite_bool,z01,z02,z00,z03,zdt] at g
  refine z15 (b:=32) (more:=[(⟨7,0,[]⟩:VX)]) [.agg #[.int .i64 7,.int .i64 0,txt []]] z4p z2q rfl (by decide) (by decide) h6 (by kernel_rfl) (.cons (zhb (v:=⟨7,0,[]⟩) (by unfold VFit InI maxLen;simp)) .nil) z05 (fun u=>by kernel_rfl) (fun u=>by kernel_rfl)
   (by simp only [maxLen,zlc,List.length_nil,List.length_replicate];omega) (by simp only [zlc,List.length_nil,List.length_replicate];omega) fun u7 v7 S7 K7 l7 h7=>⟨z05,?_⟩
  refine ⟨_,z06,n - 1,by omega,j+1,S7,v7,by omega,?_,PH.le_trans l3 l7,?_⟩
  ·simp only [ev0,ev,evV,List.cons_append,List.nil_append,List.getD_cons_zero,List.getD_cons_succ,List.map_cons,List.map_nil,iOf,bOf,sOf,pOf,slLen,z04,cmpI,arI,Value.ite_bool,z01,z02,z00,z03,up9 (by omega:j < 9223372036854775807)]
  ·rw [←zs6];exact h7
 simp only [ev0,ev,evV,List.cons_append,List.nil_append,List.getD_cons_zero,List.getD_cons_succ,List.map_cons,List.map_nil,iOf,bOf,sOf,pOf,slLen,z04,cmpI,arI,Value.ite_bool,z01,z02,z00,z03,zdf] at g
 have hj:j=e.names.length:=by omega
 subst hj
 obtain ⟨S4,hs4,l4,h7⟩:=h6.freeze
 have l14:=PH.le_trans l3 l4
 refine z08 z1z (zkv h7 (he.le l14) (hx.names.le l14) hs4 (by rw [List.length_replicate];exact Nat.le_refl _) h1n h2 h3) ?_
 rintro x K5 ⟨S5,cv5,v5,l5,h8,hs5,rfl⟩
 have l15:=PH.le_trans l14 l5
 rw [List.take_of_length_le (by rw [List.length_replicate];exact Nat.le_refl _)] at h8
 obtain ⟨inner,hin⟩:∃inner,inner=bindE env e.names s.cells.length:=⟨_,rfl⟩
 rw [←hin] at hs5
 have hinl:inner.length=env.length+e.names.length:=by rw [hin,zqg]
 obtain ⟨ib,ic,rfl⟩:=hs5.sl
 obtain ⟨m1,hm1⟩:∃m1:AX,m1=(s.x.bind env e.names (List.replicate e.names.length ⟨7,0,[]⟩)).1:=⟨_,rfl⟩
 have hm':m'=m1.push (recT e inner b):=by
  unfold AX.recA at hm
  rw [hb] at hm
  simp only [Option.some.injEq] at hm
  rw [←hm,hm1,hin];rfl
 obtain ⟨s5,hs5e⟩:∃s5:MA,s5={ s with cells:=s.cells++List.replicate e.names.length ⟨7,0,[]⟩,cv:=cv5 }:=⟨_,rfl⟩
 rw [←hs5e] at h8
 have hx5:s5.x=m1:=by rw [hs5e,hm1];unfold MA.x AX.bind;simp only;rw [List.take_of_length_le (by rw [List.length_replicate];exact Nat.le_refl _)]
 have f5:AFit s5:=by rw [hs5e];exact hf
 have ht5:s5.todo=s.todo:=by rw [hs5e]
 refine ⟨_,[.slice ib inner.length ic],rfl,rfl,rfl,z05,?_⟩
 simp only [List.cons_append,List.nil_append]
 obtain ⟨x1,_,xs,x2,x3⟩:=(hx.kids.le l15).get hb
 have x2':=x2
 obtain ⟨nb',db',kb',nc',dc',kc',rfl,hxb⟩:=Xp.Rep.open x2'
 refine ⟨fun _=>?_,exVs b nb' db' kb' nc' dc' kc',Xp.Rep.tags x2,by simp only [ev0,ev,evV,List.cons_append,List.nil_append,List.getD_cons_zero,List.getD_cons_succ,List.map_cons,List.map_nil,iOf,bOf,sOf,pOf,slLen,z04,cmpI,arI,Value.ite_bool,z01,z02,z00,z03];exact z0b h8.sh x3,?_⟩
 ·simp only [Chk.holds,ev0,ev,evV,List.cons_append,List.nil_append,List.getD_cons_zero,List.getD_cons_succ,List.map_cons,List.map_nil,iOf,bOf,sOf,pOf,slLen,z04,cmpI,arI,Value.ite_bool,z01,z02,z00,z03];exact ⟨x1,by omega,by omega⟩
 simp only [List.cons_append,List.nil_append]
 refine z08 z0a (z28 (e:=b) (env:=inner) h8 f5 hxb hs5 (by rw [ht5];omega)) ?_
 rintro x K6 ⟨S6,s6,l6,h9,f6,hx6,rfl⟩
 have l16:=PH.le_trans l15 l6
 have hs6:=hs5.le l6
 refine ⟨_,[],rfl,rfl,rfl,z05,?_⟩
 simp only [List.append_nil]
 have hzl:(e.names.zip e.kids).length=e.names.length:=by rw [List.length_zip];omega
 have htot:∀{m:AX} {T:List TdX},m=m1.push T→m.todo.length=s.todo.length+T.length:=fun h=>by
  rw [h];unfold AX.push;simp only [zla];rw [←hx5];show s5.todo.length+_=_;rw [ht5]
 obtain ⟨TT,hTT⟩:∃TT:Nat→List TdX,TT=fun n=>tdE b inner::(if n=2 then [] else if n=1 then turnT false inner (e.names.zip e.kids) else turnT false inner (e.names.zip e.kids)++turnT true inner (e.names.zip e.kids)):=⟨_,rfl⟩
 have hTl:∀n,(TT n).length≤1+4 * e.names.length:=fun n=>by
  have a1:=zjy false inner (e.names.zip e.kids)
  have a2:=zjy true inner (e.names.zip e.kids)
  rw [hzl] at a1 a2
  rw [hTT];simp only [zlc]
  split
  ·simp
  ·split
   ·omega
   ·rw [zla];omega
 refine ⟨fun n vs K7=>∃(S7:PH) (s7:MA),vs=[.int .i64 ((n:Int) - 1)]∧n≤2∧PH.le S6 S7∧Held S7 K7 (machA mr hr s7 J)∧AFit s7∧s7.x=m1.push (TT n),⟨2,S6,s6,rfl,by omega,PH.le_refl _,h9,f6,by rw [hx6,hx5,hTT];rfl⟩,?_⟩
 rintro n vs K7 _ ⟨S7,s7,rfl,hn2,l7,h10,f7,hx7⟩
 simp only [List.cons_append,List.nil_append]
 refine ⟨fun g=>?_,fun g=>?_⟩
 rotate_left
 ·simp only [ev0,ev,evV,List.cons_append,List.nil_append,List.getD_cons_zero,List.getD_cons_succ,List.map_cons,List.map_nil,iOf,bOf,sOf,pOf,slLen,z04,cmpI,arI,Value.ite_bool,z01,z02,z00,z03,zdf] at g
  have hn0:n=0:=by omega
  subst hn0
  refine ⟨S7,s7,PH.le_trans l16 l7,h10,f7,?_,rfl⟩
  rw [hx7,hm',hTT];rfl
 simp only [ev0,ev,evV,List.cons_append,List.nil_append,List.getD_cons_zero,List.getD_cons_succ,List.map_cons,List.map_nil,iOf,bOf,sOf,pOf,slLen,z04,cmpI,arI,Value.ite_bool,z01,z02,z00,z03,zdt] at g
 obtain ⟨t,rfl⟩:∃t,n=t+1:=⟨n - 1,by omega⟩
 have ht1:(((t+1:Nat):Int) - 1)=(t:Int):=by omega
 rw [ht1]
 obtain ⟨lam,hlam⟩:∃lam:Bool,lam=decide (t=0):=⟨_,rfl⟩
 have hTT2:TT t=TT (t+1)++turnT lam inner (e.names.zip e.kids):=by
  rw [hTT,hlam]
  have:t=0∨t=1:=by omega
  rcases this with rfl | rfl<;>simp
 refine ⟨fun n vs K8=>∃(S8:PH) (s8:MA),vs=[.int .i64 ((n:Int) - 1)]∧n≤e.names.length∧PH.le S6 S8∧Held S8 K8 (machA mr hr s8 J)∧AFit s8∧s8.x=m1.push (TT (t+1)++turnT lam inner ((e.names.zip e.kids).drop n)),⟨e.names.length,S7,s7,?_,Nat.le_refl _,l7,h10,f7,?_⟩,?_⟩
 ·simp only [ev0,ev,evV,List.cons_append,List.nil_append,List.getD_cons_zero,List.getD_cons_succ,List.map_cons,List.map_nil,iOf,bOf,sOf,pOf,slLen,z04,cmpI,arI,Value.ite_bool,z01,z02,z00,z03,down9 (by omega:e.names.length < 9223372036854775807)]
 ·rw [hx7,List.drop_of_length_le (by omega)];simp [turnT]
 rintro n vs K8 _ ⟨S8,s8,rfl,hn,l8,h11,f8,hx8⟩
 simp only [List.cons_append,List.nil_append]
 refine ⟨fun g2=>?_,fun g2=>?_⟩
 rotate_left
 ·simp only [ev0,ev,evV,List.cons_append,List.nil_append,List.getD_cons_zero,List.getD_cons_succ,List.map_cons,List.map_nil,iOf,bOf,sOf,pOf,slLen,z04,cmpI,arI,Value.ite_bool,z01,z02,z00,z03,zdf] at g2
  have hn0:n=0:=by omega
  subst hn0
  refine ⟨_,(zfk (by decide)).trans z06,t,by omega,S8,s8,?_,by omega,l8,h11,f8,?_⟩
  ·simp only [ev0,ev,evV,List.cons_append,List.nil_append,List.getD_cons_zero,List.getD_cons_succ,List.map_cons,List.map_nil,iOf,bOf,sOf,pOf,slLen,z04,cmpI,arI,Value.ite_bool,z01,z02,z00,z03,down9 (by omega:t < 9223372036854775807)]
  ·rw [hx8,List.drop_zero,hTT2]
 simp only [ev0,ev,evV,List.cons_append,List.nil_append,List.getD_cons_zero,List.getD_cons_succ,List.map_cons,List.map_nil,iOf,bOf,sOf,pOf,slLen,z04,cmpI,arI,Value.ite_bool,z01,z02,z00,z03,zdt] at g2
 obtain ⟨k,rfl⟩:∃k,n=k+1:=⟨n - 1,by omega⟩
 have hk1:(((k+1:Nat):Int) - 1)=(k:Int):=by omega
 rw [hk1]
 obtain ⟨a,ha⟩:∃a,e.kids[k]?=some a:=⟨_,zge (by omega)⟩
 obtain ⟨nm,hnm⟩:∃nm,e.names[k]?=some nm:=⟨_,zge (by omega)⟩
 have hza:(e.names.zip e.kids)[k]?=some (nm,a):=by rw [List.getElem?_zip_eq_some];exact ⟨hnm,ha⟩
 have l18:=PH.le_trans l16 l8
 obtain ⟨y1,_,ys,y2,y3⟩:=(hx.kids.le l18).get ha
 obtain ⟨z1,_,zs,z2,z3⟩:=(hx.names.le l18).get hnm
 obtain ⟨rfl,z4⟩:=z5m z2
 have y2':=y2
 obtain ⟨nb2,db2,kb2,nc2,dc2,kc2,rfl,hxa⟩:=Xp.Rep.open y2'
 have hs8:=hs6.le l8
 have h8l:=htot hx8
 have h8b:(TT (t+1)++turnT lam inner ((e.names.zip e.kids).drop (k+1))).length≤1+6 * e.names.length:=by
  have a1:=zjy lam inner ((e.names.zip e.kids).drop (k+1))
  rw [List.length_drop,hzl] at a1
  have a2:=hTl (t+1)
  rw [zla];omega
 have h8t:s8.todo.length=s8.x.todo.length:=rfl
 refine ⟨fun vs K9=>vs=[]∧∃(S9:PH) (s9:MA),PH.le S6 S9∧Held S9 K9 (machA mr hr s9 J)∧AFit s9∧s9.x=m1.push (TT (t+1)++turnT lam inner ((e.names.zip e.kids).drop k)),?_,fun _=>?_,[.int .i64 a.kind],rfl,?_,fun g3=>?_,fun g3=>?_⟩
 ·rintro vs K9 _ ⟨rfl,S9,s9,l9,h12,f9,hx9⟩
  refine ⟨_,z06,k,by omega,S9,s9,?_,by omega,l9,h12,f9,hx9⟩
  simp only [ev0,ev,evV,List.cons_append,List.nil_append,List.getD_cons_zero,List.getD_cons_succ,List.map_cons,List.map_nil,iOf,bOf,sOf,pOf,slLen,z04,cmpI,arI,Value.ite_bool,z01,z02,z00,z03,List.append_nil,down9 (by omega:k < 9223372036854775807)]
 ·simp only [Chk.holds,ev0,ev,evV,List.cons_append,List.nil_append,List.getD_cons_zero,List.getD_cons_succ,List.map_cons,List.map_nil,iOf,bOf,sOf,pOf,slLen,z04,cmpI,arI,Value.ite_bool,z01,z02,z00,z03];exact ⟨y1,by omega,by omega⟩
 ·simp only [ev0,ev,evV,List.cons_append,List.nil_append,List.getD_cons_zero,List.getD_cons_succ,List.map_cons,List.map_nil,iOf,bOf,sOf,pOf,slLen,z04,cmpI,arI,Value.ite_bool,z01,z02,z00,z03];exact z0b h11.sh (z2l y3 0 1)
 ·have hlt:decide (a.kind=5)=lam:=by
   rw [hlam]
   simp only [ev0,ev,evV,List.cons_append,List.nil_append,List.getD_cons_zero,List.getD_cons_succ,List.map_cons,List.map_nil,iOf,bOf,sOf,pOf,slLen,z04,cmpI,arI,Value.ite_bool,z01,z02,z00,z03,beq_iff_eq] at g3
   rw [g3]
   exact decide_eq_decide.2 (by omega)
  refine ⟨fun _=>?_,[txt nm],rfl,by simp only [ev0,ev,evV,List.cons_append,List.nil_append,List.getD_cons_zero,List.getD_cons_succ,List.map_cons,List.map_nil,iOf,bOf,sOf,pOf,slLen,z04,cmpI,arI,Value.ite_bool,z01,z02,z00,z03];exact z0b h11.sh z3,?_⟩
  ·simp only [Chk.holds,ev0,ev,evV,List.cons_append,List.nil_append,List.getD_cons_zero,List.getD_cons_succ,List.map_cons,List.map_nil,iOf,bOf,sOf,pOf,slLen,z04,cmpI,arI,Value.ite_bool,z01,z02,z00,z03];exact ⟨z1,by omega,by omega⟩
  simp only [List.cons_append,List.nil_append]
  refine z07 [.int .i64 (cellX inner nm)] z3t (zfw inner (.slice ib inner.length ic) nm K8 (hs8.le h11.sh)) rfl z05 fun K9 l9=>?_
  have h11':=h11.le l9
  simp only [List.cons_append,List.nil_append]
  refine z08 z0a (zfi (act:=7) (at_:=cellX inner nm) h11' f8 (by decide) (zs2 hs8 nm) (by omega)) ?_
  rintro x K10 ⟨S10,s10,l10,h12,f10,hx10,rfl⟩
  refine ⟨_,[],rfl,rfl,rfl,z05,?_⟩
  simp only [List.append_nil]
  have h10l:s10.todo.length=s8.todo.length+1:=by
   have:=congrArg (fun m:AX=>m.todo.length) hx10
   simp only [AX.push,zla,zlc,List.length_nil] at this
   exact this
  refine ⟨exVs a nb2 db2 kb2 nc2 dc2 kc2,Xp.Rep.tags y2,by simp only [ev0,ev,evV,List.cons_append,List.nil_append,List.getD_cons_zero,List.getD_cons_succ,List.map_cons,List.map_nil,iOf,bOf,sOf,pOf,slLen,z04,cmpI,arI,Value.ite_bool,z01,z02,z00,z03];exact z0b h12.sh (z0b l10 y3),?_⟩
  simp only [List.cons_append,List.nil_append]
  have hxa':ExV S10 a nb2 db2 kb2 nc2 dc2 kc2:=⟨hxa.kind,hxa.name,hxa.names.le l10,Dat.Rep.le l10 _ hxa.const,hxa.kids.le l10⟩
  refine z08 z0a (z28 (e:=a) (env:=inner) h12 f10 hxa' (hs8.le l10) (by omega)) ?_
  rintro x K11 ⟨S11,s11,l11,h13,f11,hx11,rfl⟩
  refine ⟨_,[],rfl,rfl,rfl,z05,?_⟩
  refine ⟨_,z06,rfl,S11,s11,PH.le_trans l8 (PH.le_trans l10 l11),h13,f11,?_⟩
  rw [hx11,hx10,hx8,z2r,z2r,zoa hza]
  unfold turnE
  rw [if_pos hlt]
  simp only [List.append_assoc,List.cons_append,List.nil_append]
 ·have hlt:¬decide (a.kind=5)=lam:=by
   rw [hlam]
   simp only [ev0,ev,evV,List.cons_append,List.nil_append,List.getD_cons_zero,List.getD_cons_succ,List.map_cons,List.map_nil,iOf,bOf,sOf,pOf,slLen,z04,cmpI,arI,Value.ite_bool,z01,z02,z00,z03,beq_eq_false_iff_ne,ne_eq] at g3
   intro hh
   refine g3 (hh.trans ?_)
   exact decide_eq_decide.2 (by omega)
  refine ⟨_,z06,rfl,S8,s8,l8,h11,f8,?_⟩
  rw [hx8,zoa hza]
  unfold turnE
  rw [if_neg hlt,List.append_nil]
end
theorem exvLe {S S':PH} (l:PH.le S S') {e:Xp} {nb db kb:Option Addr} {nc dc kc:Nat} (h:ExV S e nb db kb nc dc kc):ExV S' e nb db kb nc dc kc:=⟨h.kind,h.name,h.names.le l,Dat.Rep.le l _ h.const,h.kids.le l⟩
section
variable {S K:PH} {mr hr:Nat} {s:MA} {J:List Itm}
abbrev restA (mr hr:Nat) (s:MA) (J:List Itm):List Itm:=bxA mr hr s::rT s::rV s::rC s::rQ s::rU s::J
theorem zz7 (h:Held S K (machA mr hr s J)):Held S K (heapI hr s.L s.thv++restA mr hr s J):=
 h.perm (List.perm_append_comm_assoc [bxA mr hr s,rT s,rV s,rC s,rQ s,rU s] (heapI hr s.L s.thv) J)
theorem zyc {L:List (TR×List VX)} {thv:Value} (h:Held S K (heapI hr L thv++restA mr hr s J)):Held S K (machA mr hr { s with L:=L,thv:=thv } J):=
 h.perm (List.perm_append_comm_assoc [bxA mr hr s,rT s,rV s,rC s,rQ s,rU s] (heapI hr L thv) J).symm
def Z2q (mr hr:Nat) (J:List Itm) (S:PH) (s:MA) (p:PrX) (e:Ending) (K':PH):Prop:=∃S' L thv qv,PH.le S S'∧Held S' K' (machA mr hr { s with L:=L,thv:=thv,procs:=s.procs++[{ p with thing:=(s.L.length:Int) }],qv:=qv } J)∧hpX L=(addX (hpX s.L) 4 []).1∧e=.returned (valV ⟨8,s.L.length,[]⟩)
theorem zz2 (h:Held S K (machA mr hr s J)) {p:PrX} {nb db kb eb tb vb:Option Addr} {nc dc kc ec tc vc:Nat} (hx:ExV S p.lam nb db kb nc dc kc) (he:SlR S p.env (.slice eb p.env.length ec)) (ht:SlR S p.todo (.slice tb p.todo.length tc)) (hv:SlR S p.vals (.slice vb p.vals.length vc)) (hL:s.L.length≤16777216) (hQ:s.procs.length≤16777216) :
  Tri Tryz.prog z9e #[pAt mr,.agg #[.int .i64 0,.int .i64 p.lam.kind,txt p.lam.name,.slice nb p.lam.names.length nc,.int .i64 p.lam.const.kind,.int .i64 p.lam.const.int,txt p.lam.const.text,.slice db p.lam.const.list.length dc,.slice kb p.lam.kids.length kc,.slice eb p.env.length ec,.bool p.kont,.slice tb p.todo.length tc,.slice vb p.vals.length vc]] K (Z2q mr hr J S s p):=by
 refine z7q [pAt mr,.int .i64 0,.int .i64 p.lam.kind,txt p.lam.name,.slice nb p.lam.names.length nc,.int .i64 p.lam.const.kind,.int .i64 p.lam.const.int,txt p.lam.const.text,.slice db p.lam.const.list.length dc,.slice kb p.lam.kids.length kc,.slice eb p.env.length ec,.bool p.kont,.slice tb p.todo.length tc,.slice vb p.vals.length vc] (by kernel_rfl) (by kernel_rfl) ?_
 refine ⟨fun _=>by simp [Chk.holds,ev0,ev,evV,List.cons_append,List.nil_append,List.getD_cons_zero,List.getD_cons_succ,List.map_cons,List.map_nil,iOf,bOf,sOf,pOf,slLen,z04,cmpI,arI,Value.ite_bool,z01,z02,z00,z03],[pAt hr],rfl,by simp only [ev0,ev,evV,List.cons_append,List.nil_append,List.getD_cons_zero,List.getD_cons_succ,List.map_cons,List.map_nil,iOf,bOf,sOf,pOf,slLen,z04,cmpI,arI,Value.ite_bool,z01,z02,z00,z03];exact mA_ld h rfl,?_⟩
 simp only [List.cons_append,List.nil_append]
 refine z08 za1 (HpTo.beside (zz7 h) fun K hK=>zzn hr s.L s.thv S K hK hL) ?_
 rintro x K1 ⟨rfl,S1,L1,thv1,l1,h2,hL1⟩
 refine ⟨_,valVs (addX (hpX s.L) 4 []).2++[Value.int .i64 0],rfl,rfl,rfl,z05,?_⟩
 simp only [List.cons_append,List.nil_append]
 have h3:=zyc h2
 have hvs:(addX (hpX s.L) 4 []).2=⟨8,(s.L.length:Int),[]⟩:=by simp [addX,hpX]
 rw [hvs]
 obtain ⟨s1,hs1⟩:∃s1:MA,s1={ s with L:=L1,thv:=thv1 }:=⟨_,rfl⟩
 rw [←hs1] at h3
 obtain ⟨qb,qc,hqv⟩:=zyd h3
 have hl2:rowAt K1 (some ⟨mr,2,none⟩) [.slice qb s1.procs.length qc]:=by rw [←hqv];exact mA_ld h3 rfl
 refine ⟨[.slice qb s1.procs.length qc],rfl,by simp only [ev0,ev,evV,List.cons_append,List.nil_append,List.getD_cons_zero,List.getD_cons_succ,List.map_cons,List.map_nil,iOf,bOf,sOf,pOf,slLen,z04,cmpI,arI,Value.ite_bool,z01,z02,z00,z03];exact hl2,?_⟩
 simp only [List.cons_append,List.nil_append]
 have hql:s1.procs.length=s.procs.length:=by rw [hs1]
 have h4:Held S1 K1 (orow 116 s1.procs (.slice qb s1.procs.length qc)::bxA mr hr s1::rT s1::rV s1::rC s1::rU s1::(heapI hr s1.L s1.thv++J)):=by rw [←hqv];exact h3.to4
 have hth:InI (s.L.length:Int):=by unfold InI;omega
 refine z15 (b:=216) (more:=[({ p with thing:=(s.L.length:Int) }:PrX)]) [.agg #[.int .i64 (s.L.length:Int),.int .i64 p.lam.kind,txt p.lam.name,.slice nb p.lam.names.length nc,.int .i64 p.lam.const.kind,.int .i64 p.lam.const.int,txt p.lam.const.text,.slice db p.lam.const.list.length dc,.slice kb p.lam.kids.length kc,.slice eb p.env.length ec,.bool p.kont,.slice tb p.todo.length tc,.slice vb p.vals.length vc]] uPrsA Z1m rfl (by decide) (by decide) h4 (by kernel_rfl)
  (.cons (pr_iff.2 ⟨exVs p.lam nb db kb nc dc kc,.slice eb p.env.length ec,.slice tb p.todo.length tc,.slice vb p.vals.length vc,rfl,hth,(exvLe l1 hx).rep,he.le l1,ht.le l1,hv.le l1⟩) .nil) (z1x (by simp only [ev0,ev,evV,List.cons_append,List.nil_append,List.getD_cons_zero,List.getD_cons_succ,List.map_cons,List.map_nil,iOf,bOf,sOf,pOf,slLen,z04,cmpI,arI,Value.ite_bool,z01,z02,z00,z03];exact hl2)) (fun u=>by kernel_rfl) (fun u=>by kernel_rfl)
  (by simp only [maxLen,zlc,List.length_nil];omega) (by simp only [zlc,List.length_nil];omega) fun u v5 S2 K2 l2 h5=>⟨z05,?_⟩
 simp only [List.cons_append,List.nil_append]
 obtain ⟨b5,c5,hv5⟩:=(h5.row (zms)).sl
 refine z0t (off:=2) (vs:=[v5]) (by simp only [ev0,ev,evV,List.cons_append,List.nil_append,List.getD_cons_zero,List.getD_cons_succ,List.map_cons,List.map_nil,iOf,bOf,sOf,pOf,slLen,z04,cmpI,arI,Value.ite_bool,z01,z02,z00,z03];rfl) h5.swap rfl (slOne ⟨_,_,_,hv5⟩) (by simp [MA.cs]) fun K3 h6=>?_
 refine ⟨S2,L1,thv1,v5,PH.le_trans l1 l2,?_,hL1,rfl⟩
 have h7:=h6.perm (List.Perm.cons _ (List.perm_middle (l₁:=[rT s1,rV s1,rC s1])).symm)
 subst hs1
 exact h7
theorem zwo {l:List PrX} {j:Nat} {a:PrX} (h:l[j]?=some a) (t:Int) (p:PrX):procF (l.take (j+1)) t p=if a.thing=t then a else procF (l.take j) t p:=by
 unfold procF
 rw [List.take_add_one,h,List.foldl_append];rfl
theorem zxj (H:PH):CsR H z4o (prVs z4o [.int .i64 0,txt [],.slice none 0 0,.int .i64 0,.int .i64 0,txt [],.slice none 0 0,.slice none 0 0] (.slice none 0 0) (.slice none 0 0) (.slice none 0 0)):=
 pr_iff.2 ⟨_,_,_,_,rfl,by decide,zne H,zlg H,SlR.mk_iff.2 ⟨Nat.zero_le _,.inl ⟨rfl,rfl⟩⟩,SlR.mk_iff.2 ⟨Nat.zero_le _,.inl ⟨rfl,rfl⟩⟩⟩
theorem zas {X:List PanicEntry→PH→Prop} {E:List Value} {L:LK} {p:SV} {w:SV} {e:Int} (h:Held S K (machA mr hr s J)) (hp:pOf (ev0 E p)=some ⟨mr,12,none⟩) (hw:ev0 E w=.int .i64 e) {β:Type} {k:Fm β} {Q:β→List Value→PH→LK→Prop}
  (hk:∀K',Held S K' (machA mr hr { s with e:=e } J)→den Tryz.prog X k E K' L Q):den Tryz.prog X (.store p [w] k) E K L Q:=
 z0t (off:=12) (vs:=[.int .i64 e]) hp h (by simp only [List.map_cons,List.map_nil,hw]) (by
  intro u hu
  rw [List.mem_singleton.1 hu];rfl) (by simp [MA.cs]) fun K1 h1=>hk K1 h1
theorem zy5 (h:Held S K (machA mr hr s J)) (hf:AFit s) (hc:s.cells.length≤4294967296) (ht:s.todo.length≤8580000000) (hv0:s.vals.length≤8580000000) {v:VX} (hv:VFit v) {args:List VX} {argv:Value} (hargs:SlR S args argv) {m':AX} (hm:s.x.call v args=some m') :
  Tri Tryz.prog z92 #[pAt mr,valV v,argv] K (ATo mr hr J S m' vNil):=by
 obtain ⟨ab,ac,rfl⟩:=hargs.sl
 refine z7v ([pAt mr]++valVs v++[.slice ab args.length ac]) (by kernel_rfl) (by kernel_rfl) ?_
 simp only [List.cons_append,List.nil_append]
 have hmay:mayV (hpX s.L).length v=true:=by
  unfold AX.call at hm
  cases hmv:mayV s.x.h.length v with
  | true=>exact hmv
  | false=>rw [hmv] at hm;simp at hm
 unfold AX.call at hm
 rw [show mayV s.x.h.length v=true from hmay] at hm
 simp only [Bool.not_true,Bool.false_eq_true,if_false] at hm
 refine ⟨fun _=>by simp [Chk.holds,ev0,ev,evV,List.cons_append,List.nil_append,List.getD_cons_zero,List.getD_cons_succ,List.map_cons,List.map_nil,iOf,bOf,sOf,pOf,slLen,z04,cmpI,arI,Value.ite_bool,z01,z02,z00,z03],[pAt hr],rfl,by simp only [ev0,ev,evV,List.cons_append,List.nil_append,List.getD_cons_zero,List.getD_cons_succ,List.map_cons,List.map_nil,iOf,bOf,sOf,pOf,slLen,z04,cmpI,arI,Value.ite_bool,z01,z02,z00,z03];exact mA_ld h rfl,?_⟩
 simp only [List.cons_append,List.nil_append]
 refine z07 [.int .i64 (z0r (hpX s.L) v)] z0x (z52 (hpX s.L) hr v hmay K (zvz h)) rfl z05 fun K1 l1=>?_
 have h:=h.le l1
 simp only [List.cons_append,List.nil_append]
 refine ⟨fun g=>?_,fun g=>?_⟩
 ·simp only [ev0,ev,evV,List.cons_append,List.nil_append,List.getD_cons_zero,List.getD_cons_succ,List.map_cons,List.map_nil,iOf,bOf,sOf,pOf,slLen,z04,cmpI,arI,Value.ite_bool,z01,z02,z00,z03,ne_eq,decide_not,Bool.not_eq_true',zdf] at g
  rw [if_pos (show z0r s.x.h v≠4 from g)] at hm
  simp only [Option.some.injEq] at hm
  refine zas (e:=90) h (by simp only [ev0,ev,evV,List.cons_append,List.nil_append,List.getD_cons_zero,List.getD_cons_succ,List.map_cons,List.map_nil,iOf,bOf,sOf,pOf,slLen,z04,cmpI,arI,Value.ite_bool,z01,z02,z00,z03];rfl) (by simp only [ev0,ev,evV,List.cons_append,List.nil_append,List.getD_cons_zero,List.getD_cons_succ,List.map_cons,List.map_nil,iOf,bOf,sOf,pOf,slLen,z04,cmpI,arI,Value.ite_bool,z01,z02,z00,z03]) fun K2 h2=>⟨S,_,PH.le_refl _,h2,hf,?_,rfl⟩
  rw [←hm];rfl
 simp only [ev0,ev,evV,List.cons_append,List.nil_append,List.getD_cons_zero,List.getD_cons_succ,List.map_cons,List.map_nil,iOf,bOf,sOf,pOf,slLen,z04,cmpI,arI,Value.ite_bool,z01,z02,z00,z03,ne_eq,decide_not,Bool.not_eq_false',zdt] at g
 rw [if_neg (show ¬z0r s.x.h v≠4 from fun hh=>hh g)] at hm
 obtain ⟨qb,qc,hqv⟩:=zyd h
 have hqm:s.procs.length≤maxLen:=(h.to4.row (zms)).max
 simp only [maxLen] at hqm
 have hl2:rowAt K1 (some ⟨mr,2,none⟩) [.slice qb s.procs.length qc]:=by rw [←hqv];exact mA_ld h rfl
 refine ⟨fun n vs K2=>∃(j:Nat) (es:List Value) (xv tv vv:Value),j+n=s.procs.length∧vs=nI j::prVs (procF (s.procs.take j) v.int z4o) es xv tv vv∧CsR S (procF (s.procs.take j) v.int z4o) (prVs (procF (s.procs.take j) v.int z4o) es xv tv vv)∧K2=K1,⟨s.procs.length,0,_,_,_,_,by omega,rfl,zxj S,rfl⟩,?_⟩
 rintro n vs K2 _ ⟨j,es,xv,tv,vv,hjn,rfl,hrep,rfl⟩
 obtain ⟨p,hp⟩:∃p,p=procF (s.procs.take j) v.int z4o:=⟨_,rfl⟩
 rw [←hp] at hrep ⊢
 obtain ⟨es',ev',tv',vv',heq,p1,p2,p3,p4,p5⟩:=pr_iff.1 hrep
 have p2':=p2
 obtain ⟨nb,db,kb,nc,dc,kc,rfl,hx⟩:=Xp.Rep.open p2'
 obtain ⟨eb,ec,rfl⟩:=p3.sl
 obtain ⟨tb,tc,rfl⟩:=p4.sl
 obtain ⟨vb,vc,rfl⟩:=p5.sl
 rw [heq]
 simp only [prVs,List.cons_append,List.nil_append]
 refine ⟨[.slice qb s.procs.length qc],rfl,by simp only [ev0,ev,evV,List.cons_append,List.nil_append,List.getD_cons_zero,List.getD_cons_succ,List.map_cons,List.map_nil,iOf,bOf,sOf,pOf,slLen,z04,cmpI,arI,Value.ite_bool,z01,z02,z00,z03];exact hl2,?_⟩
 simp only [List.cons_append,List.nil_append]
 refine ⟨fun g2=>?_,fun g2=>?_⟩
 ·simp only [ev0,ev,evV,List.cons_append,List.nil_append,List.getD_cons_zero,List.getD_cons_succ,List.map_cons,List.map_nil,iOf,bOf,sOf,pOf,slLen,z04,cmpI,arI,Value.ite_bool,z01,z02,z00,z03,zdt] at g2
  obtain ⟨a,ha⟩:∃a,s.procs[j]?=some a:=⟨_,zge (by omega)⟩
  obtain ⟨x1,x2,cs,x3,x4⟩:=(h.to4.row (zms)).get ha
  obtain ⟨aes,aev,atv,avv,rfl,q1,q2,q3,q4,q5⟩:=pr_iff.1 x3
  have q2':=q2
  obtain ⟨anb,adb,akb,anc,adc,akc,rfl,_⟩:=Xp.Rep.open q2'
  obtain ⟨aeb,aec,rfl⟩:=q3.sl
  obtain ⟨atb,atc,rfl⟩:=q4.sl
  obtain ⟨avb,avc,rfl⟩:=q5.sl
  rw [hqv] at x1 x4
  have hstep:=zwo ha v.int z4o
  refine ⟨fun vs K3=>K2=K3∧∃es xv tv vv,vs=prVs (procF (s.procs.take (j+1)) v.int z4o) es xv tv vv∧CsR S (procF (s.procs.take (j+1)) v.int z4o) (prVs (procF (s.procs.take (j+1)) v.int z4o) es xv tv vv),?_,[.slice qb s.procs.length qc],rfl,by simp only [ev0,ev,evV,List.cons_append,List.nil_append,List.getD_cons_zero,List.getD_cons_succ,List.map_cons,List.map_nil,iOf,bOf,sOf,pOf,slLen,z04,cmpI,arI,Value.ite_bool,z01,z02,z00,z03];exact hl2,fun _=>?_,[.int .i64 a.thing],rfl,by simp only [ev0,ev,evV,List.cons_append,List.nil_append,List.getD_cons_zero,List.getD_cons_succ,List.map_cons,List.map_nil,iOf,bOf,sOf,pOf,slLen,z04,cmpI,arI,Value.ite_bool,z01,z02,z00,z03];exact z2l x4 0 1,fun g3=>?_,fun g3=>?_⟩
  ·rintro vs K3 _ ⟨rfl,es3,ev3,tv3,vv3,rfl,hr3⟩
   have hlen:=PV.RepRow.length hr3
   obtain ⟨es4,ev4,tv4,vv4,he4,_,hq4,_,_,_⟩:=pr_iff.1 hr3
   have hl8:es4.length=8:=by have:=PV.RepRow.length hq4;rw [Enc.len] at this;exact this
   have hes:es3.length=8:=by
    have:=congrArg List.length he4
    simp only [prVs,zlc,zla,List.length_nil] at this
    omega
   match es3,hes with
   | [w0,w1,w2,w3,w4,w5,w6,w7],_=>
    refine ⟨_,z06,n - 1,by omega,j+1,_,ev3,tv3,vv3,by omega,?_,hr3,rfl⟩
    simp only [ev0,ev,evV,List.cons_append,List.nil_append,List.getD_cons_zero,List.getD_cons_succ,List.map_cons,List.map_nil,iOf,bOf,sOf,pOf,slLen,z04,cmpI,arI,Value.ite_bool,z01,z02,z00,z03,up9 (by omega:j < 9223372036854775807)]
  ·simp only [Chk.holds,ev0,ev,evV,List.cons_append,List.nil_append,List.getD_cons_zero,List.getD_cons_succ,List.map_cons,List.map_nil,iOf,bOf,sOf,pOf,slLen,z04,cmpI,arI,Value.ite_bool,z01,z02,z00,z03];exact ⟨x1,by omega,by omega⟩
  ·simp only [ev0,ev,evV,List.cons_append,List.nil_append,List.getD_cons_zero,List.getD_cons_succ,List.map_cons,List.map_nil,iOf,bOf,sOf,pOf,slLen,z04,cmpI,arI,Value.ite_bool,z01,z02,z00,z03,zdt] at g3
   refine ⟨[.slice qb s.procs.length qc],rfl,by simp only [ev0,ev,evV,List.cons_append,List.nil_append,List.getD_cons_zero,List.getD_cons_succ,List.map_cons,List.map_nil,iOf,bOf,sOf,pOf,slLen,z04,cmpI,arI,Value.ite_bool,z01,z02,z00,z03];exact hl2,fun _=>?_,prVs a (exVs a.lam anb adb akb anc adc akc) (.slice aeb a.env.length aec) (.slice atb a.todo.length atc) (.slice avb a.vals.length avc),rfl,by simp only [ev0,ev,evV,List.cons_append,List.nil_append,List.getD_cons_zero,List.getD_cons_succ,List.map_cons,List.map_nil,iOf,bOf,sOf,pOf,slLen,z04,cmpI,arI,Value.ite_bool,z01,z02,z00,z03];exact x4,?_⟩
   ·simp only [Chk.holds,ev0,ev,evV,List.cons_append,List.nil_append,List.getD_cons_zero,List.getD_cons_succ,List.map_cons,List.map_nil,iOf,bOf,sOf,pOf,slLen,z04,cmpI,arI,Value.ite_bool,z01,z02,z00,z03];exact ⟨x1,by omega,by omega⟩
   simp only [prVs,List.cons_append,List.nil_append]
   refine ⟨_,z06,rfl,exVs a.lam anb adb akb anc adc akc,.slice aeb a.env.length aec,.slice atb a.todo.length atc,.slice avb a.vals.length avc,?_,?_⟩
   ·rw [hstep,if_pos g3];simp only [ev0,ev,evV,List.cons_append,List.nil_append,List.getD_cons_zero,List.getD_cons_succ,List.map_cons,List.map_nil,iOf,bOf,sOf,pOf,slLen,z04,cmpI,arI,Value.ite_bool,z01,z02,z00,z03,prVs]
   ·rw [hstep,if_pos g3];exact x3
  ·simp only [ev0,ev,evV,List.cons_append,List.nil_append,List.getD_cons_zero,List.getD_cons_succ,List.map_cons,List.map_nil,iOf,bOf,sOf,pOf,slLen,z04,cmpI,arI,Value.ite_bool,z01,z02,z00,z03,zdf] at g3
   refine ⟨_,z06,rfl,exVs p.lam nb db kb nc dc kc,.slice eb p.env.length ec,.slice tb p.todo.length tc,.slice vb p.vals.length vc,?_,?_⟩
   ·rw [hstep,if_neg g3,←hp];simp only [ev0,ev,evV,List.cons_append,List.nil_append,List.getD_cons_zero,List.getD_cons_succ,List.map_cons,List.map_nil,iOf,bOf,sOf,pOf,slLen,z04,cmpI,arI,Value.ite_bool,z01,z02,z00,z03,prVs]
   ·rw [hstep,if_neg g3,←hp,←heq];exact hrep
 simp only [ev0,ev,evV,List.cons_append,List.nil_append,List.getD_cons_zero,List.getD_cons_succ,List.map_cons,List.map_nil,iOf,bOf,sOf,pOf,slLen,z04,cmpI,arI,Value.ite_bool,z01,z02,z00,z03,zdf] at g2
 have hpp:procF s.x.procs v.int z4o=p:=by
  rw [hp,List.take_of_length_le (by omega)];rfl
 rw [hpp] at hm
 refine ⟨fun g3=>?_,fun g3=>?_⟩
 ·simp only [ev0,ev,evV,List.cons_append,List.nil_append,List.getD_cons_zero,List.getD_cons_succ,List.map_cons,List.map_nil,iOf,bOf,sOf,pOf,slLen,z04,cmpI,arI,Value.ite_bool,z01,z02,z00,z03] at g3
  rw [if_pos g3] at hm
  by_cases hbig:4294967296 < p.todo.length∨4294967296 < p.vals.length
  ·rw [if_pos hbig] at hm;cases hm
  rw [if_neg hbig] at hm
  refine ⟨fun g4=>?_,fun g4=>?_⟩
  ·simp only [ev0,ev,evV,List.cons_append,List.nil_append,List.getD_cons_zero,List.getD_cons_succ,List.map_cons,List.map_nil,iOf,bOf,sOf,pOf,slLen,z04,cmpI,arI,Value.ite_bool,z01,z02,z00,z03,ne_eq,decide_not,Bool.not_eq_true',zdf] at g4
   refine zas (e:=91) h (by simp only [ev0,ev,evV,List.cons_append,List.nil_append,List.getD_cons_zero,List.getD_cons_succ,List.map_cons,List.map_nil,iOf,bOf,sOf,pOf,slLen,z04,cmpI,arI,Value.ite_bool,z01,z02,z00,z03];rfl) (by simp only [ev0,ev,evV,List.cons_append,List.nil_append,List.getD_cons_zero,List.getD_cons_succ,List.map_cons,List.map_nil,iOf,bOf,sOf,pOf,slLen,z04,cmpI,arI,Value.ite_bool,z01,z02,z00,z03]) fun K2 h2=>⟨S,_,PH.le_refl _,h2,hf,?_,rfl⟩
   split at hm
   ·simp at g4
   ·simp only [Option.some.injEq] at hm
    rw [←hm];rfl
  ·have hl1:args.length=1:=by
    simp only [ev0,ev,evV,List.cons_append,List.nil_append,List.getD_cons_zero,List.getD_cons_succ,List.map_cons,List.map_nil,iOf,bOf,sOf,pOf,slLen,z04,cmpI,arI,Value.ite_bool,z01,z02,z00,z03,ne_eq,decide_not,Bool.not_eq_false',zdt] at g4
    omega
   obtain ⟨y,rfl⟩:∃y,args=[y]:=by
    match args,hl1 with
    | [y],_=>exact ⟨y,rfl⟩
   simp only [Option.some.injEq] at hm
   refine z1g (α:=TdX) (b:=168) zpv zkx h z05 fun v3 K3 h3 _ _=>?_
   simp only [List.cons_append,List.nil_append]
   refine z1k (b:=168) (more:=p.todo) zpv zkx (by kernel_rfl) (by kernel_rfl) h3 (p4.srcS h3.sh) (by simp only [maxLen,List.length_nil];omega) (by simp only [List.length_nil];omega) fun v4 K4 h4 _=>⟨z05,?_⟩
   rw [List.nil_append] at h4
   obtain ⟨b4,c4,hv4⟩:=(h4.row (zms)).sl
   simp only [List.cons_append,List.nil_append]
   refine z0t (off:=10) (vs:=[v4]) (by simp only [ev0,ev,evV,List.cons_append,List.nil_append,List.getD_cons_zero,List.getD_cons_succ,List.map_cons,List.map_nil,iOf,bOf,sOf,pOf,slLen,z04,cmpI,arI,Value.ite_bool,z01,z02,z00,z03];rfl) h4.swap rfl (slOne ⟨_,_,_,hv4⟩) (by simp [MA.cs]) fun K5 h5=>?_
   obtain ⟨s5,hs5⟩:∃s5:MA,s5={ s with todo:=p.todo,tv:=v4 }:=⟨_,rfl⟩
   have h6:Held S K5 (machA mr hr s5 J):=by
    subst hs5
    exact (h5.sub (List.Sublist.cons_cons _ (List.Sublist.cons_cons _ (List.Sublist.cons _ (List.Sublist.refl _)))))
   refine z1g (α:=VX) (b:=32) z4p z2q h6 z05 fun v7 K7 h7 _ _=>?_
   simp only [List.cons_append,List.nil_append]
   refine z1k (b:=32) (more:=p.vals) z4p z2q (by kernel_rfl) (by kernel_rfl) h7 (p5.srcS h7.sh) (by simp only [maxLen,List.length_nil];omega) (by simp only [List.length_nil];omega) fun v8 K8 h8 _=>⟨z05,?_⟩
   rw [List.nil_append] at h8
   obtain ⟨b8,c8,hv8⟩:=(h8.row (zms)).sl
   simp only [List.cons_append,List.nil_append]
   refine z0t (off:=11) (vs:=[v8]) (by simp only [ev0,ev,evV,List.cons_append,List.nil_append,List.getD_cons_zero,List.getD_cons_succ,List.map_cons,List.map_nil,iOf,bOf,sOf,pOf,slLen,z04,cmpI,arI,Value.ite_bool,z01,z02,z00,z03];rfl) h8.swap rfl (slOne ⟨_,_,_,hv8⟩) (by simp [MA.cs]) fun K9 h9=>?_
   obtain ⟨s9,hs9⟩:∃s9:MA,s9={ s5 with vals:=p.vals,vv:=v8 }:=⟨_,rfl⟩
   have h10:Held S K9 (machA mr hr s9 J):=by
    have h10':Held S K9 (bxA mr hr s9::rT s9::rV s9::rV s5::rC s9::rQ s9::rU s9::(heapI hr s9.L s9.thv++J)):=by
     subst hs9
     exact h9.perm (List.Perm.cons _ (List.Perm.swap _ _ _))
    exact h10'.sub (List.Sublist.cons_cons _ (List.Sublist.cons_cons _ (List.Sublist.cons_cons _ (List.Sublist.cons _ (List.Sublist.refl _)))))
   obtain ⟨y1,_,ycs,y2,y3⟩:=hargs.get (i:=0) (a:=y) rfl
   obtain ⟨rfl,yf⟩:=z2j y2
   refine ⟨fun _=>?_,valVs y,rfl,by simp only [ev0,ev,evV,List.cons_append,List.nil_append,List.getD_cons_zero,List.getD_cons_succ,List.map_cons,List.map_nil,iOf,bOf,sOf,pOf,slLen,z04,cmpI,arI,Value.ite_bool,z01,z02,z00,z03];exact z0b h10.sh y3,?_⟩
   ·simp only [Chk.holds,ev0,ev,evV,List.cons_append,List.nil_append,List.getD_cons_zero,List.getD_cons_succ,List.map_cons,List.map_nil,iOf,bOf,sOf,pOf,slLen,z04,cmpI,arI,Value.ite_bool,z01,z02,z00,z03];exact ⟨y1,by omega,by simp⟩
   simp only [List.cons_append,List.nil_append]
   refine z08 z0d (z84 (v:=y) h10 (by rw [hs9,hs5];exact hf) yf (by rw [hs9];simp only;omega)) ?_
   rintro x K11 ⟨S11,s11,l11,h11,f11,hx11,rfl⟩
   refine ⟨_,[],rfl,rfl,rfl,z05,?_⟩
   refine ⟨S11,s11,l11,h11,f11,?_,rfl⟩
   rw [hx11,←hm,hs9,hs5];rfl
 ·simp only [ev0,ev,evV,List.cons_append,List.nil_append,List.getD_cons_zero,List.getD_cons_succ,List.map_cons,List.map_nil,iOf,bOf,sOf,pOf,slLen,z04,cmpI,arI,Value.ite_bool,z01,z02,z00,z03] at g3
  rw [if_neg (by rw [g3];exact Bool.false_ne_true)] at hm
  refine ⟨fun g4=>?_,fun g4=>?_⟩
  ·simp only [ev0,ev,evV,List.cons_append,List.nil_append,List.getD_cons_zero,List.getD_cons_succ,List.map_cons,List.map_nil,iOf,bOf,sOf,pOf,slLen,z04,cmpI,arI,Value.ite_bool,z01,z02,z00,z03,ne_eq,decide_not,Bool.not_eq_true',zdf] at g4
   refine zas (e:=91) h (by simp only [ev0,ev,evV,List.cons_append,List.nil_append,List.getD_cons_zero,List.getD_cons_succ,List.map_cons,List.map_nil,iOf,bOf,sOf,pOf,slLen,z04,cmpI,arI,Value.ite_bool,z01,z02,z00,z03];rfl) (by simp only [ev0,ev,evV,List.cons_append,List.nil_append,List.getD_cons_zero,List.getD_cons_succ,List.map_cons,List.map_nil,iOf,bOf,sOf,pOf,slLen,z04,cmpI,arI,Value.ite_bool,z01,z02,z00,z03]) fun K2 h2=>⟨S,_,PH.le_refl _,h2,hf,?_,rfl⟩
   rw [if_pos (fun hh=>g4 (by rw [hh]))] at hm
   simp only [Option.some.injEq] at hm
   rw [←hm];rfl
  simp only [ev0,ev,evV,List.cons_append,List.nil_append,List.getD_cons_zero,List.getD_cons_succ,List.map_cons,List.map_nil,iOf,bOf,sOf,pOf,slLen,z04,cmpI,arI,Value.ite_bool,z01,z02,z00,z03,ne_eq,decide_not,Bool.not_eq_false',zdt] at g4
  have hal:args.length=p.lam.names.length:=by omega
  rw [if_neg (fun hh=>hh hal)] at hm
  by_cases hbig:1000000 < p.lam.names.length∨4294967296 < p.env.length
  ·rw [if_pos hbig] at hm;cases hm
  rw [if_neg hbig] at hm
  cases hk:p.lam.kids[0]? with
  | none=>rw [hk] at hm;cases hm
  | some b=>
   rw [hk] at hm
   simp only [Option.map_some,Option.some.injEq] at hm
   have hkl:=(List.getElem?_eq_some_iff.1 hk).1
   obtain ⟨y1,_,ys,y2,y3⟩:=hx.kids.get hk
   have y2':=y2
   obtain ⟨nb',db',kb',nc',dc',kc',rfl,hxb⟩:=Xp.Rep.open y2'
   refine ⟨fun _=>?_,exVs b nb' db' kb' nc' dc' kc',Xp.Rep.tags y2,by simp only [ev0,ev,evV,List.cons_append,List.nil_append,List.getD_cons_zero,List.getD_cons_succ,List.map_cons,List.map_nil,iOf,bOf,sOf,pOf,slLen,z04,cmpI,arI,Value.ite_bool,z01,z02,z00,z03];exact z0b h.sh y3,?_⟩
   ·simp only [Chk.holds,ev0,ev,evV,List.cons_append,List.nil_append,List.getD_cons_zero,List.getD_cons_succ,List.map_cons,List.map_nil,iOf,bOf,sOf,pOf,slLen,z04,cmpI,arI,Value.ite_bool,z01,z02,z00,z03];exact ⟨y1,by omega,by omega⟩
   simp only [List.cons_append,List.nil_append]
   refine z08 z1z (zkv h p3 hx.names hargs (by omega) (by omega) (by omega) hc) ?_
   rintro x K5 ⟨S5,cv5,v5,l5,h8,hs5,rfl⟩
   obtain ⟨ib,ic,rfl⟩:=hs5.sl
   refine ⟨_,[.slice ib (bindE p.env p.lam.names s.cells.length).length ic],rfl,rfl,rfl,z1x (by simp only [ev0,ev,evV,List.cons_append,List.nil_append,List.getD_cons_zero,List.getD_cons_succ,List.map_cons,List.map_nil,iOf,bOf,sOf,pOf,slLen,z04,cmpI,arI,Value.ite_bool,z01,z02,z00,z03];exact z0b h8.sh (z0b l5 y3)),?_⟩
   simp only [List.cons_append,List.nil_append]
   refine z08 z0a (z28 (e:=b) (env:=bindE p.env p.lam.names s.cells.length) h8 hf (exvLe l5 hxb) hs5 (by simp only;omega)) ?_
   rintro x K6 ⟨S6,s6,l6,h9,f6,hx6,rfl⟩
   refine ⟨_,[],rfl,rfl,rfl,z05,?_⟩
   refine ⟨S6,s6,PH.le_trans l5 l6,h9,f6,?_,rfl⟩
   rw [hx6,←hm];rfl
end
theorem fitX {k n:Int} {t:List UInt8} (h1:InI k) (h2:InI n) (h3:t.length≤maxLen):VFit ⟨k,n,t⟩:=⟨h1,h2,h3⟩
theorem zks:VFit vVoid:=by unfold VFit vVoid InI maxLen;simp
theorem Z15 {n:Nat} (hn:n≤4611686018427387904) {v:VX} (h:mayV n v=true):VFit v:=by
 have hx:maxLen=9223372036854775807:=rfl
 unfold mayV at h
 unfold VFit InI
 split at h
 ·cases h
 rename_i h0
 have ht:v.kind≠3→v.text.length≤maxLen:=fun hk=>by
  have:v.text=[]:=by
   rcases Classical.em (v.text=[]) with e | e
   ·exact e
   ·exact absurd ⟨hk,e⟩ h0
  rw [this];simp
 split at h
 ·rename_i hk;have:=ht (by omega);simp only [zdt] at h;omega
 split at h
 ·rename_i hk;have:=ht (by omega);have:=isNum_iff.1 h;omega
 split at h
 ·rename_i hk;have:=ht (by omega);simp only [zdt] at h;omega
 split at h
 ·rename_i hk
  simp only [zba,zdt] at h
  have:=h.2
  unfold z0p at this
  simp only [zba,zdt] at this
  omega
 split at h
 ·rename_i hk;have:=ht (by omega);simp only [zdt] at h;omega
 split at h
 ·rename_i hk;have:=ht (by omega);simp only [zdt] at h;omega
 ·cases h
section
variable {S K:PH} {mr hr:Nat} {s:MA} {J:List Itm}
theorem zy2 (h:Held S K (machA mr hr s J)) (hf:AFit s) (hh:HeapOk (hpX s.L)) (hL:s.L.length≤16777216) (hO:s.out.length≤16777216) (hv0:s.vals.length≤8580000000) (p:List UInt8) {args:List VX} {argv:Value} (hargs:SlR S args argv) {m':AX} (hm:s.x.prim p args=some m') :
  Tri Tryz.prog z8y #[pAt mr,txt p,argv] K (ATo mr hr J S m' vNil):=by
 obtain ⟨ab,ac,rfl⟩:=hargs.sl
 have hmx:maxLen=9223372036854775807:=rfl
 unfold AX.prim at hm
 refine z7y [pAt mr,txt p,.slice ab args.length ac] (by kernel_rfl) (by kernel_rfl) ?_
 have tellK:∀{S1 K1:PH} {s1:MA} {v:VX} {m2:AX},PH.le S S1→Held S1 K1 (machA mr hr s1 J)→AFit s1→VFit v→s1.vals.length≤8580000000→s1.x.tell v=m2→Tri Tryz.prog z3j #[pAt mr,valV v] K1 (ATo mr hr J S m2 vNil):=fun l1 h1 f1 fv hl hm2=>(z84 h1 f1 fv (by omega)).mono fun e K2 ⟨S2,s2,l2,h2,f2,hx2,he2⟩=>⟨S2,s2,PH.le_trans l1 l2,h2,f2,by rw [hx2,hm2],he2⟩
 refine ⟨fun g=>?_,fun g=>?_⟩
 ·simp only [ev0,ev,evV,List.cons_append,List.nil_append,List.getD_cons_zero,List.getD_cons_succ,List.map_cons,List.map_nil,iOf,bOf,sOf,pOf,slLen,z04,cmpI,arI,Value.ite_bool,z01,z02,z00,z03,z09,zdt] at g
  rw [if_pos g] at hm
  refine ⟨fun _=>by simp [Chk.holds,ev0,ev,evV,List.cons_append,List.nil_append,List.getD_cons_zero,List.getD_cons_succ,List.map_cons,List.map_nil,iOf,bOf,sOf,pOf,slLen,z04,cmpI,arI,Value.ite_bool,z01,z02,z00,z03],[txt s.input],rfl,by simp only [ev0,ev,evV,List.cons_append,List.nil_append,List.getD_cons_zero,List.getD_cons_succ,List.map_cons,List.map_nil,iOf,bOf,sOf,pOf,slLen,z04,cmpI,arI,Value.ite_bool,z01,z02,z00,z03];exact mA_ld h rfl,fun g2=>?_,fun g2=>?_⟩
  ·simp only [ev0,ev,evV,List.cons_append,List.nil_append,List.getD_cons_zero,List.getD_cons_succ,List.map_cons,List.map_nil,iOf,bOf,sOf,pOf,slLen,z04,cmpI,arI,Value.ite_bool,z01,z02,z00,z03,z09,zdt] at g2
   rw [show s.x.input=[] from g2] at hm
   simp only [Option.some.injEq] at hm
   refine z08 z0d (tellK (v:=⟨6,0,[]⟩) (PH.le_refl _) h hf (fitX (by decide) (by decide) (by decide)) hv0 hm) ?_
   rintro e K2 ⟨S2,s2,l2,h2,f2,hx2,rfl⟩
   exact ⟨_,[],rfl,rfl,rfl,z05,S2,s2,l2,h2,f2,hx2,rfl⟩
  ·simp only [ev0,ev,evV,List.cons_append,List.nil_append,List.getD_cons_zero,List.getD_cons_succ,List.map_cons,List.map_nil,iOf,bOf,sOf,pOf,slLen,z04,cmpI,arI,Value.ite_bool,z01,z02,z00,z03,z09,zdf] at g2
   obtain ⟨b,l,hbl⟩:∃b l,s.input=b::l:=by
    cases hi:s.input with
    | nil=>exact absurd hi g2
    | cons b l=>exact ⟨b,l,rfl⟩
   rw [show s.x.input=b::l from hbl] at hm
   simp only [Option.some.injEq] at hm
   have hl4:∀{S' K':PH} {s':MA},Held S' K' (machA mr hr s' J)→s'.input=s.input→rowAt K' (some ⟨mr,3,none⟩) [txt (b::l)]:=fun h' e'=>by rw [←hbl,←e'];exact mA_ld h' rfl
   have hbn:=b.toNat_lt
   have hw:IntKind.i64.wrap (b.toNat:Int)=(b.toNat:Int):=w64 (by omega) (by omega)
   have hb0:(((⟨(b::l).toArray⟩:ByteArray)[0]?).getD 0)=b:=rfl
   refine ⟨[txt (b::l)],rfl,by simp only [ev0,ev,evV,List.cons_append,List.nil_append,List.getD_cons_zero,List.getD_cons_succ,List.map_cons,List.map_nil,iOf,bOf,sOf,pOf,slLen,z04,cmpI,arI,Value.ite_bool,z01,z02,z00,z03];exact hl4 h rfl,fun _=>?_,?_⟩
   ·simp only [Chk.holds,ev0,ev,evV,List.cons_append,List.nil_append,List.getD_cons_zero,List.getD_cons_succ,List.map_cons,List.map_nil,iOf,bOf,sOf,pOf,slLen,z04,cmpI,arI,Value.ite_bool,z01,z02,z00,z03,z0s,zlc];omega
   simp only [List.cons_append,List.nil_append]
   have hcall:=tellK (v:=⟨1,(b.toNat:Int),[]⟩) (m2:=s.x.tell ⟨1,(b.toNat:Int),[]⟩) (PH.le_refl _) h hf (fitX (by decide) (by unfold InI;omega) (by decide)) hv0 rfl
   refine z08 z0d (R:=ATo mr hr J S (s.x.tell ⟨1,(b.toNat:Int),[]⟩) vNil) ?_ ?_
   ·have he:([pAt mr,valV ⟨1,(b.toNat:Int),[]⟩]:List Value).toArray=(List.map (evV [pAt mr,txt p,.slice ab args.length ac,txt s.input,txt (b::l)] fun _=>0) [VE.sc (.atom 0),VE.ag [.int .i64 1,.conv .i64 (.sidx (.atom 4) (.int .i64 0)),.str []]]).toArray:=by
     simp only [ev0,ev,evV,List.cons_append,List.nil_append,List.getD_cons_zero,List.getD_cons_succ,List.map_cons,List.map_nil,iOf,bOf,sOf,pOf,slLen,z04,cmpI,arI,Value.ite_bool,z01,z02,z00,z03,valV,valVs]
     simp [hb0,hw]
    exact he ▸ hcall
   rintro e K2 ⟨S2,s2,l2,h2,f2,hx2,rfl⟩
   refine ⟨_,[],rfl,rfl,rfl,z05,?_⟩
   have hin:s2.input=s.input:=by have:=congrArg AX.input hx2;exact this
   refine ⟨[txt (b::l)],rfl,by simp only [ev0,ev,evV,List.cons_append,List.nil_append,List.getD_cons_zero,List.getD_cons_succ,List.map_cons,List.map_nil,iOf,bOf,sOf,pOf,slLen,z04,cmpI,arI,Value.ite_bool,z01,z02,z00,z03];exact hl4 h2 hin,fun _=>?_,?_⟩
   ·simp only [Chk.holds,ev0,ev,evV,List.cons_append,List.nil_append,List.getD_cons_zero,List.getD_cons_succ,List.map_cons,List.map_nil,iOf,bOf,sOf,pOf,slLen,z04,cmpI,arI,Value.ite_bool,z01,z02,z00,z03,z0s,zlc];omega
   simp only [List.cons_append,List.nil_append]
   refine z0t (off:=3) (vs:=[txt l]) (by simp only [ev0,ev,evV,List.cons_append,List.nil_append,List.getD_cons_zero,List.getD_cons_succ,List.map_cons,List.map_nil,iOf,bOf,sOf,pOf,slLen,z04,cmpI,arI,Value.ite_bool,z01,z02,z00,z03];rfl) h2 ?_ (by
    intro u hu
    rw [List.mem_singleton.1 hu];rfl) (by simp [MA.cs]) fun K3 h3=>?_
   ·simp only [List.map_cons,List.map_nil,ev0,ev,evV,List.cons_append,List.nil_append,List.getD_cons_zero,List.getD_cons_succ,List.map_cons,List.map_nil,iOf,bOf,sOf,pOf,slLen,z04,cmpI,arI,Value.ite_bool,z01,z02,z00,z03,z0s]
    rw [show ((1:Int)).toNat=1 from rfl,Int.toNat_natCast,zgp]
    simp
   refine ⟨S2,{ s2 with input:=l },l2,h3,f2,?_,rfl⟩
   rw [←hm]
   show ({ s2.x with input:=l }:AX)=_
   rw [hx2];rfl
 simp only [ev0,ev,evV,List.cons_append,List.nil_append,List.getD_cons_zero,List.getD_cons_succ,List.map_cons,List.map_nil,iOf,bOf,sOf,pOf,slLen,z04,cmpI,arI,Value.ite_bool,z01,z02,z00,z03,z09,zdf] at g
 rw [if_neg g] at hm
 refine ⟨fun g2=>?_,fun g2=>?_⟩
 ·simp only [ev0,ev,evV,List.cons_append,List.nil_append,List.getD_cons_zero,List.getD_cons_succ,List.map_cons,List.map_nil,iOf,bOf,sOf,pOf,slLen,z04,cmpI,arI,Value.ite_bool,z01,z02,z00,z03,z09,zdt] at g2
  rw [if_pos g2] at hm
  cases ha:args[0]? with
  | none=>rw [ha] at hm;cases hm
  | some a=>
  rw [ha] at hm
  simp only [Option.map_some,Option.some.injEq] at hm
  have hal:=(List.getElem?_eq_some_iff.1 ha).1
  obtain ⟨y1,_,ycs,y2,y3⟩:=hargs.get ha
  obtain ⟨rfl,yf⟩:=z2j y2
  have y3':=z0b h.sh y3
  refine ⟨fun _=>?_,valVs a,rfl,by simp only [ev0,ev,evV,List.cons_append,List.nil_append,List.getD_cons_zero,List.getD_cons_succ,List.map_cons,List.map_nil,iOf,bOf,sOf,pOf,slLen,z04,cmpI,arI,Value.ite_bool,z01,z02,z00,z03];exact y3',fun g3=>?_,fun g3=>?_⟩
  ·simp only [Chk.holds,ev0,ev,evV,List.cons_append,List.nil_append,List.getD_cons_zero,List.getD_cons_succ,List.map_cons,List.map_nil,iOf,bOf,sOf,pOf,slLen,z04,cmpI,arI,Value.ite_bool,z01,z02,z00,z03];exact ⟨y1,by omega,by omega⟩
  ·simp only [ev0,ev,evV,List.cons_append,List.nil_append,List.getD_cons_zero,List.getD_cons_succ,List.map_cons,List.map_nil,iOf,bOf,sOf,pOf,slLen,z04,cmpI,arI,Value.ite_bool,z01,z02,z00,z03,ne_eq,decide_not,Bool.not_eq_true',zdf] at g3
   rw [if_pos g3] at hm
   refine ⟨fun _=>by simp [Chk.holds,ev0,ev,evV,List.cons_append,List.nil_append,List.getD_cons_zero,List.getD_cons_succ,List.map_cons,List.map_nil,iOf,bOf,sOf,pOf,slLen,z04,cmpI,arI,Value.ite_bool,z01,z02,z00,z03],?_⟩
   refine zas (e:=80) h (by simp only [ev0,ev,evV,List.cons_append,List.nil_append,List.getD_cons_zero,List.getD_cons_succ,List.map_cons,List.map_nil,iOf,bOf,sOf,pOf,slLen,z04,cmpI,arI,Value.ite_bool,z01,z02,z00,z03];rfl) (by simp only [ev0,ev,evV,List.cons_append,List.nil_append,List.getD_cons_zero,List.getD_cons_succ,List.map_cons,List.map_nil,iOf,bOf,sOf,pOf,slLen,z04,cmpI,arI,Value.ite_bool,z01,z02,z00,z03]) fun K2 h2=>⟨S,_,PH.le_refl _,h2,hf,?_,rfl⟩
   rw [←hm];rfl
  simp only [ev0,ev,evV,List.cons_append,List.nil_append,List.getD_cons_zero,List.getD_cons_succ,List.map_cons,List.map_nil,iOf,bOf,sOf,pOf,slLen,z04,cmpI,arI,Value.ite_bool,z01,z02,z00,z03,ne_eq,decide_not,Bool.not_eq_false',zdt] at g3
  rw [if_neg (fun hh=>hh g3)] at hm
  refine ⟨fun g4=>?_,fun g4=>?_⟩
  ·have g4':a.int < 0∨255 < a.int:=by simpa [ev0,ev,evV,List.cons_append,List.nil_append,List.getD_cons_zero,List.getD_cons_succ,List.map_cons,List.map_nil,iOf,bOf,sOf,pOf,slLen,z04,cmpI,arI,Value.ite_bool,z01,z02,z00,z03] using g4
   rw [if_pos g4'] at hm
   refine ⟨fun _=>by simp [Chk.holds,ev0,ev,evV,List.cons_append,List.nil_append,List.getD_cons_zero,List.getD_cons_succ,List.map_cons,List.map_nil,iOf,bOf,sOf,pOf,slLen,z04,cmpI,arI,Value.ite_bool,z01,z02,z00,z03],?_⟩
   refine zas (e:=83) h (by simp only [ev0,ev,evV,List.cons_append,List.nil_append,List.getD_cons_zero,List.getD_cons_succ,List.map_cons,List.map_nil,iOf,bOf,sOf,pOf,slLen,z04,cmpI,arI,Value.ite_bool,z01,z02,z00,z03];rfl) (by simp only [ev0,ev,evV,List.cons_append,List.nil_append,List.getD_cons_zero,List.getD_cons_succ,List.map_cons,List.map_nil,iOf,bOf,sOf,pOf,slLen,z04,cmpI,arI,Value.ite_bool,z01,z02,z00,z03]) fun K2 h2=>⟨S,_,PH.le_refl _,h2,hf,?_,rfl⟩
   rw [←hm];rfl
  have g4':¬(a.int < 0∨255 < a.int):=by
   intro hh
   have:(decide (a.int < 0) || decide (255 < a.int))=true:=by simpa using hh
   simp [ev0,ev,evV,List.cons_append,List.nil_append,List.getD_cons_zero,List.getD_cons_succ,List.map_cons,List.map_nil,iOf,bOf,sOf,pOf,slLen,z04,cmpI,arI,Value.ite_bool,z01,z02,z00,z03] at g4
   omega
  rw [if_neg g4'] at hm
  obtain ⟨ob,oc,hov⟩:=zzk h
  have hl5:rowAt K (some ⟨mr,4,none⟩) [.slice ob s.out.length oc]:=by rw [←hov];exact mA_ld h rfl
  refine ⟨fun _=>by simp [Chk.holds,ev0,ev,evV,List.cons_append,List.nil_append,List.getD_cons_zero,List.getD_cons_succ,List.map_cons,List.map_nil,iOf,bOf,sOf,pOf,slLen,z04,cmpI,arI,Value.ite_bool,z01,z02,z00,z03],[.slice ob s.out.length oc],rfl,by simp only [ev0,ev,evV,List.cons_append,List.nil_append,List.getD_cons_zero,List.getD_cons_succ,List.map_cons,List.map_nil,iOf,bOf,sOf,pOf,slLen,z04,cmpI,arI,Value.ite_bool,z01,z02,z00,z03];exact hl5,?_⟩
  simp only [List.cons_append,List.nil_append]
  have h4:Held S K (orow 5 s.out (.slice ob s.out.length oc)::bxA mr hr s::rT s::rV s::rC s::rQ s::(heapI hr s.L s.thv++J)):=by rw [←hov];exact h.to5
  have hby:z33 a.int=UInt8.ofNat a.int.toNat:=by unfold z33;congr 1;omega
  refine z15 (b:=1) (more:=[z33 a.int]) [.int .u8 ((z33 a.int).toNat:Int)] zgy zl5 rfl (by decide) (by decide) h4 ?_ (.cons (zvr _ _) .nil) (z1x (by simp only [ev0,ev,evV,List.cons_append,List.nil_append,List.getD_cons_zero,List.getD_cons_succ,List.map_cons,List.map_nil,iOf,bOf,sOf,pOf,slLen,z04,cmpI,arI,Value.ite_bool,z01,z02,z00,z03];exact hl5)) (fun w=>by kernel_rfl) (fun w=>by kernel_rfl)
   (by simp only [maxLen,zlc,List.length_nil];omega) (by simp only [zlc,List.length_nil];omega) fun u7 v7 S7 K7 l7 h7=>⟨z05,?_⟩
  ·rw [←zyz];kernel_rfl
  simp only [List.cons_append,List.nil_append]
  obtain ⟨b7,c7,hv7⟩:=(h7.row (zms)).sl
  refine z0t (off:=4) (vs:=[v7]) (by simp only [ev0,ev,evV,List.cons_append,List.nil_append,List.getD_cons_zero,List.getD_cons_succ,List.map_cons,List.map_nil,iOf,bOf,sOf,pOf,slLen,z04,cmpI,arI,Value.ite_bool,z01,z02,z00,z03];rfl) h7.swap rfl (slOne ⟨_,_,_,hv7⟩) (by simp [MA.cs]) fun K8 h8=>?_
  have h9:Held S7 K8 (machA mr hr { s with out:=s.out++[z33 a.int],ov:=v7 } J):=h8.perm (List.Perm.cons _ (List.perm_middle (l₁:=[rT s,rV s,rC s,rQ s])).symm)
  refine z08 z0d (tellK (v:=vVoid) (m2:=m') l7 h9 hf zks hv0 (by rw [←hm,←hby];rfl)) ?_
  rintro e K2 ⟨S2,s2,l2,h2,f2,hx2,rfl⟩
  exact ⟨_,[],rfl,rfl,rfl,z05,S2,s2,l2,h2,f2,hx2,rfl⟩
 simp only [ev0,ev,evV,List.cons_append,List.nil_append,List.getD_cons_zero,List.getD_cons_succ,List.map_cons,List.map_nil,iOf,bOf,sOf,pOf,slLen,z04,cmpI,arI,Value.ite_bool,z01,z02,z00,z03,z09,zdf] at g2
 rw [if_neg g2] at hm
 refine ⟨fun g3=>?_,fun g3=>?_⟩
 ·simp only [ev0,ev,evV,List.cons_append,List.nil_append,List.getD_cons_zero,List.getD_cons_succ,List.map_cons,List.map_nil,iOf,bOf,sOf,pOf,slLen,z04,cmpI,arI,Value.ite_bool,z01,z02,z00,z03,z09,zdt] at g3
  rw [if_pos g3] at hm
  simp only [Option.some.injEq] at hm
  refine ⟨fun _=>by simp [Chk.holds,ev0,ev,evV,List.cons_append,List.nil_append,List.getD_cons_zero,List.getD_cons_succ,List.map_cons,List.map_nil,iOf,bOf,sOf,pOf,slLen,z04,cmpI,arI,Value.ite_bool,z01,z02,z00,z03],?_⟩
  refine zas (e:=92) h (by simp only [ev0,ev,evV,List.cons_append,List.nil_append,List.getD_cons_zero,List.getD_cons_succ,List.map_cons,List.map_nil,iOf,bOf,sOf,pOf,slLen,z04,cmpI,arI,Value.ite_bool,z01,z02,z00,z03];rfl) (by simp only [ev0,ev,evV,List.cons_append,List.nil_append,List.getD_cons_zero,List.getD_cons_succ,List.map_cons,List.map_nil,iOf,bOf,sOf,pOf,slLen,z04,cmpI,arI,Value.ite_bool,z01,z02,z00,z03]) fun K2 h2=>⟨S,_,PH.le_refl _,h2,hf,?_,rfl⟩
  rw [←hm];rfl
 simp only [ev0,ev,evV,List.cons_append,List.nil_append,List.getD_cons_zero,List.getD_cons_succ,List.map_cons,List.map_nil,iOf,bOf,sOf,pOf,slLen,z04,cmpI,arI,Value.ite_bool,z01,z02,z00,z03,z09,zdf] at g3
 rw [if_neg g3] at hm
 refine ⟨fun g4=>?_,fun g4=>?_⟩
 ·simp only [ev0,ev,evV,List.cons_append,List.nil_append,List.getD_cons_zero,List.getD_cons_succ,List.map_cons,List.map_nil,iOf,bOf,sOf,pOf,slLen,z04,cmpI,arI,Value.ite_bool,z01,z02,z00,z03,z09,zdt] at g4
  rw [if_pos g4] at hm
  simp only [Option.some.injEq] at hm
  refine ⟨fun _=>by simp [Chk.holds,ev0,ev,evV,List.cons_append,List.nil_append,List.getD_cons_zero,List.getD_cons_succ,List.map_cons,List.map_nil,iOf,bOf,sOf,pOf,slLen,z04,cmpI,arI,Value.ite_bool,z01,z02,z00,z03],valVs s.w,rfl,by simp only [ev0,ev,evV,List.cons_append,List.nil_append,List.getD_cons_zero,List.getD_cons_succ,List.map_cons,List.map_nil,iOf,bOf,sOf,pOf,slLen,z04,cmpI,arI,Value.ite_bool,z01,z02,z00,z03];exact mA_ld h rfl,?_⟩
  simp only [List.cons_append,List.nil_append]
  refine z08 z0d (tellK (v:=s.w) (PH.le_refl _) h hf hf hv0 hm) ?_
  rintro e K2 ⟨S2,s2,l2,h2,f2,hx2,rfl⟩
  exact ⟨_,[],rfl,rfl,rfl,z05,S2,s2,l2,h2,f2,hx2,rfl⟩
 simp only [ev0,ev,evV,List.cons_append,List.nil_append,List.getD_cons_zero,List.getD_cons_succ,List.map_cons,List.map_nil,iOf,bOf,sOf,pOf,slLen,z04,cmpI,arI,Value.ite_bool,z01,z02,z00,z03,z09,zdf] at g4
 rw [if_neg g4] at hm
 refine ⟨fun g5=>?_,fun g5=>?_⟩
 ·simp only [ev0,ev,evV,List.cons_append,List.nil_append,List.getD_cons_zero,List.getD_cons_succ,List.map_cons,List.map_nil,iOf,bOf,sOf,pOf,slLen,z04,cmpI,arI,Value.ite_bool,z01,z02,z00,z03,z09,zdt] at g5
  rw [if_pos g5] at hm
  cases ha:args[0]? with
  | none=>rw [ha] at hm;cases hm
  | some a=>
  rw [ha] at hm
  simp only [Option.map_some,Option.some.injEq] at hm
  have hal:=(List.getElem?_eq_some_iff.1 ha).1
  obtain ⟨y1,_,ycs,y2,y3⟩:=hargs.get ha
  obtain ⟨rfl,yf⟩:=z2j y2
  refine ⟨fun _=>?_,valVs a,rfl,by simp only [ev0,ev,evV,List.cons_append,List.nil_append,List.getD_cons_zero,List.getD_cons_succ,List.map_cons,List.map_nil,iOf,bOf,sOf,pOf,slLen,z04,cmpI,arI,Value.ite_bool,z01,z02,z00,z03];exact z0b h.sh y3,fun _=>by simp [Chk.holds,ev0,ev,evV,List.cons_append,List.nil_append,List.getD_cons_zero,List.getD_cons_succ,List.map_cons,List.map_nil,iOf,bOf,sOf,pOf,slLen,z04,cmpI,arI,Value.ite_bool,z01,z02,z00,z03],?_⟩
  ·simp only [Chk.holds,ev0,ev,evV,List.cons_append,List.nil_append,List.getD_cons_zero,List.getD_cons_succ,List.map_cons,List.map_nil,iOf,bOf,sOf,pOf,slLen,z04,cmpI,arI,Value.ite_bool,z01,z02,z00,z03];exact ⟨y1,by omega,by omega⟩
  simp only [List.cons_append,List.nil_append]
  refine z0t (off:=5) (vs:=valVs a) (by simp only [ev0,ev,evV,List.cons_append,List.nil_append,List.getD_cons_zero,List.getD_cons_succ,List.map_cons,List.map_nil,iOf,bOf,sOf,pOf,slLen,z04,cmpI,arI,Value.ite_bool,z01,z02,z00,z03];rfl) h (by simp only [List.map_cons,List.map_nil,ev0,ev,evV,List.cons_append,List.nil_append,List.getD_cons_zero,List.getD_cons_succ,List.map_cons,List.map_nil,iOf,bOf,sOf,pOf,slLen,z04,cmpI,arI,Value.ite_bool,z01,z02,z00,z03]) (by
   intro u hu
   simp only [List.mem_cons,List.not_mem_nil,or_false] at hu
   rcases hu with rfl | rfl | rfl<;>rfl) (by simp [MA.cs]) fun K1 h1=>?_
  have h9:Held S K1 (machA mr hr { s with w:=a } J):=h1
  refine z08 z0d (tellK (v:=vVoid) (m2:=m') (PH.le_refl _) h9 yf zks hv0 (by rw [←hm];rfl)) ?_
  rintro e K2 ⟨S2,s2,l2,h2,f2,hx2,rfl⟩
  exact ⟨_,[],rfl,rfl,rfl,z05,S2,s2,l2,h2,f2,hx2,rfl⟩
 simp only [ev0,ev,evV,List.cons_append,List.nil_append,List.getD_cons_zero,List.getD_cons_succ,List.map_cons,List.map_nil,iOf,bOf,sOf,pOf,slLen,z04,cmpI,arI,Value.ite_bool,z01,z02,z00,z03,z09,zdf] at g5
 rw [if_neg g5] at hm
 refine ⟨fun g6=>?_,fun g6=>?_⟩
 ·simp only [ev0,ev,evV,List.cons_append,List.nil_append,List.getD_cons_zero,List.getD_cons_succ,List.map_cons,List.map_nil,iOf,bOf,sOf,pOf,slLen,z04,cmpI,arI,Value.ite_bool,z01,z02,z00,z03,z09,zdt] at g6
  rw [if_pos g6] at hm;cases hm
 simp only [ev0,ev,evV,List.cons_append,List.nil_append,List.getD_cons_zero,List.getD_cons_succ,List.map_cons,List.map_nil,iOf,bOf,sOf,pOf,slLen,z04,cmpI,arI,Value.ite_bool,z01,z02,z00,z03,z09,zdf] at g6
 rw [if_neg g6] at hm
 simp only [Option.some.injEq] at hm
 refine ⟨fun _=>by simp [Chk.holds,ev0,ev,evV,List.cons_append,List.nil_append,List.getD_cons_zero,List.getD_cons_succ,List.map_cons,List.map_nil,iOf,bOf,sOf,pOf,slLen,z04,cmpI,arI,Value.ite_bool,z01,z02,z00,z03],[pAt hr],rfl,by simp only [ev0,ev,evV,List.cons_append,List.nil_append,List.getD_cons_zero,List.getD_cons_succ,List.map_cons,List.map_nil,iOf,bOf,sOf,pOf,slLen,z04,cmpI,arI,Value.ite_bool,z01,z02,z00,z03];exact mA_ld h rfl,?_⟩
 simp only [List.cons_append,List.nil_append]
 obtain ⟨R,hR⟩:∃R,R=doX (hpX s.L) p args:=⟨_,rfl⟩
 refine z08 zbj (HpTo.beside (zz7 h) fun K hK=>Z1z hr s.L s.thv p args _ S K hK hargs hh hL) ?_
 rintro x K1 ⟨rfl,S1,L1,thv1,l1,h2,hL1⟩
 have hgood:=zyt (h:=hpX s.L) hh p args
 have hlen:=Z1x (hpX s.L) p args
 rw [←hR] at hL1 hgood hlen ⊢
 have hfit:VFit R.2.1:=Z15 (n:=R.1.length) (by simp only [hpX,List.length_map] at hlen;omega) hgood.2.2
 refine ⟨_,valVs R.2.1++[Value.int .i64 R.2.2],rfl,rfl,rfl,z05,?_⟩
 simp only [List.cons_append,List.nil_append]
 have h3:=zyc h2
 refine zas (e:=R.2.2) h3 (by simp only [ev0,ev,evV,List.cons_append,List.nil_append,List.getD_cons_zero,List.getD_cons_succ,List.map_cons,List.map_nil,iOf,bOf,sOf,pOf,slLen,z04,cmpI,arI,Value.ite_bool,z01,z02,z00,z03];rfl) (by simp only [ev0,ev,evV,List.cons_append,List.nil_append,List.getD_cons_zero,List.getD_cons_succ,List.map_cons,List.map_nil,iOf,bOf,sOf,pOf,slLen,z04,cmpI,arI,Value.ite_bool,z01,z02,z00,z03]) fun K2 h4=>?_
 refine z08 z0d (tellK (v:=R.2.1) (m2:=m') l1 h4 hf hfit hv0 (by
  rw [←hm]
  show (AX.tell { s.x with h:=hpX L1,e:=R.2.2 } R.2.1)=_
  rw [hL1,hR];rfl)) ?_
 rintro e K3 ⟨S2,s2,l2,h5,f2,hx2,rfl⟩
 exact ⟨_,[],rfl,rfl,rfl,z05,S2,s2,l2,h5,f2,hx2,rfl⟩
end
theorem zx0 {d:Dat} {H:PH} {cs:List Value} (h:d.Rep H cs):VFit (z4q d):=by
 obtain ⟨sv,_,h1,h2,h3,_⟩:=Dat.Rep_iff.1 h
 have hx:maxLen=9223372036854775807:=rfl
 have a0:VFit vNone:=by unfold VFit vNone InI maxLen;simp
 unfold z4q
 split
 ·exact a0
 split
 ·exact fitX h1 h2 (by simp)
 split
 ·exact fitX (by decide) (by decide) h3
 split
 ·exact fitX (by decide) (by decide) (by simp)
 ·exact a0
theorem ATo.le {mr hr:Nat} {J:List Itm} {S S1:PH} {m:AX} {r:Value} {e:Ending} {K:PH} (l:PH.le S S1) (h:ATo mr hr J S1 m r e K):ATo mr hr J S m r e K:=by
 obtain ⟨S2,s2,l2,h2⟩:=h
 exact ⟨S2,s2,PH.le_trans l l2,h2⟩
theorem zi9 {α:Type} {l:List α} {i:Int} {k:Nat} (h:zh5 l i=some k):i=(k:Int)∧k < l.length:=by
 unfold zh5 at h
 split at h
 ·rename_i hi
  cases h
  omega
 ·cases h
theorem zza {l:List Xp} {k:Nat} {a:Xp} (h:l[k]?=some a) (env:List VarX):seqT (l.drop k) env=seqT (l.drop (k+1)) env++[tdA 1 0,tdE a env]:=by
 obtain ⟨hk,he⟩:=List.getElem?_eq_some_iff.1 h
 rw [List.drop_eq_getElem_cons hk,he]
 simp [seqT]
theorem Z1i (l:List Xp) (env:List VarX):(seqT l env).length=2 * l.length:=by
 unfold seqT
 have hl:l.length=l.reverse.length:=List.length_reverse.symm
 rw [hl]
 generalize l.reverse=r
 induction r with
 | nil=>rfl
 | cons a r ih=>rw [List.flatMap_cons,zla,ih];simp only [zlc,List.length_nil];omega
section
variable {S K:PH} {mr hr:Nat} {s:MA} {J:List Itm}
theorem z5g {s1 s2:MA} {T:List TdX} (h:s2.x=s1.x.push T):s2.todo.length=s1.todo.length+T.length:=by
 have:=congrArg (fun m:AX=>m.todo.length) h
 simp only [AX.push,zla] at this
 exact this
theorem zz8 {s0:MA} (h0:Held S K (machA mr hr s0 J)) (hf0:AFit s0) (hL:s0.L.length≤16777216) (hQ:s0.procs.length≤16777216) (hc:s0.cells.length≤4294967296) (ht:s0.todo.length≤8570000000) (hv0:s0.vals.length≤8570000000) (hst:s0.steps≤4294967296)
  {e:Xp} {nb db kb eb:Option Addr} {nc dc kc ec:Nat} {env:List VarX} (hx:ExV S e nb db kb nc dc kc) (he:SlR S env (.slice eb env.length ec)) {m':AX} (hm:s0.x.eval e env=some m') :
  Tri Tryz.prog z9d #[pAt mr,.agg (exVs e nb db kb nc dc kc).toArray,.slice eb env.length ec] K (ATo mr hr J S m' vNil):=by
 refine z7s (pAt mr::(exVs e nb db kb nc dc kc++[.slice eb env.length ec])) (by kernel_rfl) (by kernel_rfl) ?_
 simp only [List.cons_append,List.nil_append]
 have ret:∀{x:Ending} {K2:PH} {m2:AX},ATo mr hr J S m2 vNil x K2→m2=m'→∃v vs,x=.returned v∧z0c [] vs=true∧v=.tuple #[]∧ATo mr hr J S m' vNil x K2:=fun h1 h2=>by
  subst h2
  obtain ⟨S2,s2,l2,h3,f2,hx2,rfl⟩:=h1
  exact ⟨_,[],rfl,rfl,rfl,S2,s2,l2,h3,f2,hx2,rfl⟩
 refine ⟨fun _=>by simp [Chk.holds,ev0,ev,evV,List.cons_append,List.nil_append,List.getD_cons_zero,List.getD_cons_succ,List.map_cons,List.map_nil,iOf,bOf,sOf,pOf,slLen,z04,cmpI,arI,Value.ite_bool,z01,z02,z00,z03],[nI s0.steps],rfl,by simp only [ev0,ev,evV,List.cons_append,List.nil_append,List.getD_cons_zero,List.getD_cons_succ,List.map_cons,List.map_nil,iOf,bOf,sOf,pOf,slLen,z04,cmpI,arI,Value.ite_bool,z01,z02,z00,z03];exact mA_ld h0 rfl,[nI s0.most],rfl,by simp only [ev0,ev,evV,List.cons_append,List.nil_append,List.getD_cons_zero,List.getD_cons_succ,List.map_cons,List.map_nil,iOf,bOf,sOf,pOf,slLen,z04,cmpI,arI,Value.ite_bool,z01,z02,z00,z03];exact mA_ld h0 rfl,?_⟩
 simp only [List.cons_append,List.nil_append]
 unfold AX.eval at hm
 refine ⟨fun g=>?_,fun g=>?_⟩
 ·simp only [ev0,ev,evV,List.cons_append,List.nil_append,List.getD_cons_zero,List.getD_cons_succ,List.map_cons,List.map_nil,iOf,bOf,sOf,pOf,slLen,z04,cmpI,arI,Value.ite_bool,z01,z02,z00,z03,zdt] at g
  rw [if_pos (show s0.x.steps=s0.x.most from by show s0.steps=s0.most;omega)] at hm
  simp only [Option.some.injEq] at hm
  refine zas (e:=93) h0 (by simp only [ev0,ev,evV,List.cons_append,List.nil_append,List.getD_cons_zero,List.getD_cons_succ,List.map_cons,List.map_nil,iOf,bOf,sOf,pOf,slLen,z04,cmpI,arI,Value.ite_bool,z01,z02,z00,z03];rfl) (by simp only [ev0,ev,evV,List.cons_append,List.nil_append,List.getD_cons_zero,List.getD_cons_succ,List.map_cons,List.map_nil,iOf,bOf,sOf,pOf,slLen,z04,cmpI,arI,Value.ite_bool,z01,z02,z00,z03]) fun K2 h2=>⟨S,_,PH.le_refl _,h2,hf0,?_,rfl⟩
  rw [←hm];rfl
 simp only [ev0,ev,evV,List.cons_append,List.nil_append,List.getD_cons_zero,List.getD_cons_succ,List.map_cons,List.map_nil,iOf,bOf,sOf,pOf,slLen,z04,cmpI,arI,Value.ite_bool,z01,z02,z00,z03,zdf] at g
 rw [if_neg (show ¬s0.x.steps=s0.x.most from by show ¬s0.steps=s0.most;omega)] at hm
 by_cases hbig:1000000 < e.kids.length∨1000000 < e.names.length∨4294967296 < env.length
 ·rw [if_pos hbig] at hm;cases hm
 rw [if_neg hbig] at hm
 have hkl:e.kids.length≤1000000:=by omega
 have hnl:e.names.length≤1000000:=by omega
 have hel:env.length≤4294967296:=by omega
 refine ⟨[nI s0.steps],rfl,by simp only [ev0,ev,evV,List.cons_append,List.nil_append,List.getD_cons_zero,List.getD_cons_succ,List.map_cons,List.map_nil,iOf,bOf,sOf,pOf,slLen,z04,cmpI,arI,Value.ite_bool,z01,z02,z00,z03];exact mA_ld h0 rfl,?_⟩
 simp only [List.cons_append,List.nil_append]
 refine z0t (off:=8) (vs:=[nI (s0.steps+1)]) (by simp only [ev0,ev,evV,List.cons_append,List.nil_append,List.getD_cons_zero,List.getD_cons_succ,List.map_cons,List.map_nil,iOf,bOf,sOf,pOf,slLen,z04,cmpI,arI,Value.ite_bool,z01,z02,z00,z03];rfl) h0 (by simp only [List.map_cons,List.map_nil,ev0,ev,evV,List.cons_append,List.nil_append,List.getD_cons_zero,List.getD_cons_succ,List.map_cons,List.map_nil,iOf,bOf,sOf,pOf,slLen,z04,cmpI,arI,Value.ite_bool,z01,z02,z00,z03,up9 (by omega:s0.steps < 9223372036854775807)]) (by
  intro u hu
  rw [List.mem_singleton.1 hu];rfl) (by simp [MA.cs]) fun K1 h1=>?_
 obtain ⟨s,hs1⟩:∃s:MA,s={ s0 with steps:=s0.steps+1 }:=⟨_,rfl⟩
 have h:Held S K1 (machA mr hr s J):=by subst hs1;exact h1
 have hf:AFit s:=by rw [hs1];exact hf0
 have hm1:({ s0.x with steps:=s0.x.steps+1 }:AX)=s.x:=by rw [hs1];rfl
 simp only [hm1] at hm
 have hL1:s.L.length≤16777216:=by rw [hs1];exact hL
 have hQ1:s.procs.length≤16777216:=by rw [hs1];exact hQ
 have hc1:s.cells.length≤4294967296:=by rw [hs1];exact hc
 have ht1:s.todo.length≤8570000000:=by rw [hs1];exact ht
 have hv1:s.vals.length≤8570000000:=by rw [hs1];exact hv0
 have hcel:s0.x.cells=s.cells:=by rw [hs1];rfl
 rw [hcel] at hm
 clear hst hL hQ hc ht hv0 hm1 hcel h1 hs1 h0 hf0 g
 have kid:∀{j:Nat} {a:Xp},e.kids[j]?=some a→(z04 (.slice kb e.kids.length kc)).isSome=true∧∃anb adb akb anc adc akc,ExV S a anb adb akb anc adc akc∧rowAt S (pOf (eltV (.slice kb e.kids.length kc) (j:Int) 8)) (exVs a anb adb akb anc adc akc):=fun hj=>by
  obtain ⟨x1,_,xs,x2,x3⟩:=hx.kids.get hj
  obtain ⟨anb,adb,akb,anc,adc,akc,rfl,hxa⟩:=Xp.Rep.open x2
  exact ⟨x1,anb,adb,akb,anc,adc,akc,hxa,x3⟩
 refine ⟨fun g0=>?_,fun g0=>?_⟩
 ·simp only [ev0,ev,evV,List.cons_append,List.nil_append,List.getD_cons_zero,List.getD_cons_succ,List.map_cons,List.map_nil,iOf,bOf,sOf,pOf,slLen,z04,cmpI,arI,Value.ite_bool,z01,z02,z00,z03,zdt] at g0
  rw [if_pos g0] at hm
  simp only [Option.some.injEq] at hm
  refine z08 zef (h.pure (R:=fun x _=>∃b,x=.returned (.tuple #[valV (z4q e.const),.bool b])) (zwg e.const _ S hx.const)) ?_
  rintro x K2 ⟨S2,l2,h2,b,rfl⟩
  refine ⟨_,valVs (z4q e.const)++[Value.bool b],rfl,rfl,rfl,z05,?_⟩
  simp only [List.cons_append,List.nil_append]
  refine z08 z0d (z84 (v:=z4q e.const) h2 hf (zx0 hx.const) (by omega)) ?_
  rintro x K3 h3
  obtain ⟨v,vs,rfl,e1,rfl,e2⟩:=ret (h3.le l2) hm
  exact ⟨_,[],rfl,rfl,rfl,z05,e2⟩
 simp only [ev0,ev,evV,List.cons_append,List.nil_append,List.getD_cons_zero,List.getD_cons_succ,List.map_cons,List.map_nil,iOf,bOf,sOf,pOf,slLen,z04,cmpI,arI,Value.ite_bool,z01,z02,z00,z03,zdf] at g0
 rw [if_neg g0] at hm
 refine ⟨fun g1=>?_,fun g1=>?_⟩
 ·simp only [ev0,ev,evV,List.cons_append,List.nil_append,List.getD_cons_zero,List.getD_cons_succ,List.map_cons,List.map_nil,iOf,bOf,sOf,pOf,slLen,z04,cmpI,arI,Value.ite_bool,z01,z02,z00,z03,zdt] at g1
  rw [if_pos g1] at hm
  cases hp:zh5 s.cells (cellX env e.name) with
  | none=>rw [hp] at hm;cases hm
  | some k=>
  rw [hp] at hm
  simp only [Option.map_some,Option.some.injEq] at hm
  obtain ⟨hk1,hk2⟩:=zi9 hp
  obtain ⟨cb,cc,hcv⟩:=znw h
  obtain ⟨a,ha⟩:∃a,s.cells[k]?=some a:=⟨_,zge hk2⟩
  have had:s.cells.getD k default=a:=by rw [zgd,ha];rfl
  rw [had] at hm
  have hl1:rowAt K1 (some ⟨mr,1,none⟩) [.slice cb s.cells.length cc]:=by rw [←hcv];exact mA_ld h rfl
  obtain ⟨x1,_,xs,x2,x3⟩:=(h.to3.row (zms)).get ha
  obtain ⟨rfl,xf⟩:=z2j x2
  rw [hcv] at x1 x3
  refine ⟨[.slice cb s.cells.length cc],rfl,by simp only [ev0,ev,evV,List.cons_append,List.nil_append,List.getD_cons_zero,List.getD_cons_succ,List.map_cons,List.map_nil,iOf,bOf,sOf,pOf,slLen,z04,cmpI,arI,Value.ite_bool,z01,z02,z00,z03];exact hl1,?_⟩
  simp only [List.cons_append,List.nil_append]
  refine z07 [.int .i64 (cellX env e.name)] z3t (zfw env _ e.name K1 (he.le h.sh)) rfl (z1x (by simp only [ev0,ev,evV,List.cons_append,List.nil_append,List.getD_cons_zero,List.getD_cons_succ,List.map_cons,List.map_nil,iOf,bOf,sOf,pOf,slLen,z04,cmpI,arI,Value.ite_bool,z01,z02,z00,z03];exact hl1)) fun K2 l2=>?_
  have h2:=h.le l2
  simp only [List.cons_append,List.nil_append]
  refine ⟨fun _=>?_,valVs a,rfl,by simp only [ev0,ev,evV,List.cons_append,List.nil_append,List.getD_cons_zero,List.getD_cons_succ,List.map_cons,List.map_nil,iOf,bOf,sOf,pOf,slLen,z04,cmpI,arI,Value.ite_bool,z01,z02,z00,z03,hk1];exact z0b l2 x3,?_⟩
  ·simp only [Chk.holds,ev0,ev,evV,List.cons_append,List.nil_append,List.getD_cons_zero,List.getD_cons_succ,List.map_cons,List.map_nil,iOf,bOf,sOf,pOf,slLen,z04,cmpI,arI,Value.ite_bool,z01,z02,z00,z03,hk1];exact ⟨x1,by omega,by omega⟩
  simp only [List.cons_append,List.nil_append]
  refine z08 z0d (z84 (v:=a) h2 hf xf (by omega)) ?_
  rintro x K3 h3
  obtain ⟨v,vs,rfl,e1,rfl,e2⟩:=ret h3 hm
  exact ⟨_,[],rfl,rfl,rfl,z05,e2⟩
 simp only [ev0,ev,evV,List.cons_append,List.nil_append,List.getD_cons_zero,List.getD_cons_succ,List.map_cons,List.map_nil,iOf,bOf,sOf,pOf,slLen,z04,cmpI,arI,Value.ite_bool,z01,z02,z00,z03,zdf] at g1
 rw [if_neg g1] at hm
 refine ⟨fun g2=>?_,fun g2=>?_⟩
 ·simp only [ev0,ev,evV,List.cons_append,List.nil_append,List.getD_cons_zero,List.getD_cons_succ,List.map_cons,List.map_nil,iOf,bOf,sOf,pOf,slLen,z04,cmpI,arI,Value.ite_bool,z01,z02,z00,z03,zdt] at g2
  rw [if_pos g2] at hm
  cases hk:e.kids[0]? with
  | none=>rw [hk] at hm;cases hm
  | some a=>
  rw [hk] at hm
  simp only [Option.map_some,Option.some.injEq] at hm
  have hk0:=(List.getElem?_eq_some_iff.1 hk).1
  obtain ⟨x1,anb,adb,akb,anc,adc,akc,hxa,x3⟩:=kid hk
  refine z07 [.int .i64 (cellX env e.name)] z3t (zfw env _ e.name K1 (he.le h.sh)) rfl z05 fun K2 l2=>?_
  have h2:=h.le l2
  simp only [List.cons_append,List.nil_append]
  refine z08 z0a (zfi (act:=2) (at_:=cellX env e.name) h2 hf (by decide) (zs2 he e.name) (by omega)) ?_
  rintro x K3 ⟨S3,s3,l3,h3,f3,hx3,rfl⟩
  have htl:=z5g hx3
  simp only [zlc,List.length_nil] at htl
  refine ⟨_,[],rfl,rfl,rfl,z05,?_⟩
  simp only [List.append_nil]
  refine ⟨fun _=>?_,exVs a anb adb akb anc adc akc,rfl,by simp only [ev0,ev,evV,List.cons_append,List.nil_append,List.getD_cons_zero,List.getD_cons_succ,List.map_cons,List.map_nil,iOf,bOf,sOf,pOf,slLen,z04,cmpI,arI,Value.ite_bool,z01,z02,z00,z03];exact z0b h3.sh (z0b l3 x3),?_⟩
  ·simp only [Chk.holds,ev0,ev,evV,List.cons_append,List.nil_append,List.getD_cons_zero,List.getD_cons_succ,List.map_cons,List.map_nil,iOf,bOf,sOf,pOf,slLen,z04,cmpI,arI,Value.ite_bool,z01,z02,z00,z03];exact ⟨x1,by omega,by omega⟩
  simp only [List.cons_append,List.nil_append]
  refine z08 z0a (z28 (e:=a) (env:=env) h3 f3 (exvLe l3 hxa) (he.le l3) (by omega)) ?_
  rintro x K4 h4
  obtain ⟨v,vs,rfl,e1,rfl,e2⟩:=ret (h4.le l3) (by rw [hx3,z2r];exact hm)
  exact ⟨_,[],rfl,rfl,rfl,z05,e2⟩
 simp only [ev0,ev,evV,List.cons_append,List.nil_append,List.getD_cons_zero,List.getD_cons_succ,List.map_cons,List.map_nil,iOf,bOf,sOf,pOf,slLen,z04,cmpI,arI,Value.ite_bool,z01,z02,z00,z03,zdf] at g2
 rw [if_neg g2] at hm
 refine ⟨fun g3=>?_,fun g3=>?_⟩
 ·simp only [ev0,ev,evV,List.cons_append,List.nil_append,List.getD_cons_zero,List.getD_cons_succ,List.map_cons,List.map_nil,iOf,bOf,sOf,pOf,slLen,z04,cmpI,arI,Value.ite_bool,z01,z02,z00,z03,zdt] at g3
  rw [if_pos g3] at hm
  cases hk:e.kids[0]? with
  | none=>rw [hk] at hm;cases hm
  | some a=>
  rw [hk] at hm
  simp only [Option.map_some,Option.some.injEq] at hm
  have hk0:=(List.getElem?_eq_some_iff.1 hk).1
  obtain ⟨x1,anb,adb,akb,anc,adc,akc,hxa,x3⟩:=kid hk
  refine z08 z0a (zku (act:=3) (at_:=0) (e:=e) (env:=env) h hf (by decide) hx he (by decide) (by omega)) ?_
  rintro x K3 ⟨S3,s3,l3,h3,f3,hx3,rfl⟩
  have htl:=z5g hx3
  simp only [zlc,List.length_nil] at htl
  refine ⟨_,[],rfl,rfl,rfl,z05,?_⟩
  simp only [List.append_nil]
  refine ⟨fun _=>?_,exVs a anb adb akb anc adc akc,rfl,by simp only [ev0,ev,evV,List.cons_append,List.nil_append,List.getD_cons_zero,List.getD_cons_succ,List.map_cons,List.map_nil,iOf,bOf,sOf,pOf,slLen,z04,cmpI,arI,Value.ite_bool,z01,z02,z00,z03];exact z0b h3.sh (z0b l3 x3),?_⟩
  ·simp only [Chk.holds,ev0,ev,evV,List.cons_append,List.nil_append,List.getD_cons_zero,List.getD_cons_succ,List.map_cons,List.map_nil,iOf,bOf,sOf,pOf,slLen,z04,cmpI,arI,Value.ite_bool,z01,z02,z00,z03];exact ⟨x1,by omega,by omega⟩
  simp only [List.cons_append,List.nil_append]
  refine z08 z0a (z28 (e:=a) (env:=env) h3 f3 (exvLe l3 hxa) (he.le l3) (by omega)) ?_
  rintro x K4 h4
  obtain ⟨v,vs,rfl,e1,rfl,e2⟩:=ret (h4.le l3) (by rw [hx3,z2r];exact hm)
  exact ⟨_,[],rfl,rfl,rfl,z05,e2⟩
 simp only [ev0,ev,evV,List.cons_append,List.nil_append,List.getD_cons_zero,List.getD_cons_succ,List.map_cons,List.map_nil,iOf,bOf,sOf,pOf,slLen,z04,cmpI,arI,Value.ite_bool,z01,z02,z00,z03,zdf] at g3
 rw [if_neg g3] at hm
 refine ⟨fun g4=>?_,fun g4=>?_⟩
 ·simp only [ev0,ev,evV,List.cons_append,List.nil_append,List.getD_cons_zero,List.getD_cons_succ,List.map_cons,List.map_nil,iOf,bOf,sOf,pOf,slLen,z04,cmpI,arI,Value.ite_bool,z01,z02,z00,z03,zdt] at g4
  rw [if_pos g4] at hm
  cases hk:e.kids.getLast? with
  | none=>rw [hk] at hm;cases hm
  | some a=>
  rw [hk] at hm
  simp only [Option.map_some,Option.some.injEq] at hm
  rw [List.getLast?_eq_getElem?] at hk
  have hk0:=(List.getElem?_eq_some_iff.1 hk).1
  have hw1:IntKind.i64.wrap ((e.kids.length:Int) - 1)=((e.kids.length - 1:Nat):Int):=by rw [w64 (by omega) (by omega)];omega
  obtain ⟨x1,anb,adb,akb,anc,adc,akc,hxa,x3⟩:=kid hk
  refine ⟨fun _=>?_,exVs a anb adb akb anc adc akc,rfl,by simp only [ev0,ev,evV,List.cons_append,List.nil_append,List.getD_cons_zero,List.getD_cons_succ,List.map_cons,List.map_nil,iOf,bOf,sOf,pOf,slLen,z04,cmpI,arI,Value.ite_bool,z01,z02,z00,z03,hw1];exact z0b h.sh x3,?_⟩
  ·simp only [Chk.holds,ev0,ev,evV,List.cons_append,List.nil_append,List.getD_cons_zero,List.getD_cons_succ,List.map_cons,List.map_nil,iOf,bOf,sOf,pOf,slLen,z04,cmpI,arI,Value.ite_bool,z01,z02,z00,z03,hw1];exact ⟨x1,by omega,by omega⟩
  simp only [List.cons_append,List.nil_append]
  refine z08 z0a (z28 (e:=a) (env:=env) h hf hxa he (by omega)) ?_
  rintro x K3 ⟨S3,s3,l3,h3,f3,hx3,rfl⟩
  have htl:=z5g hx3
  simp only [zlc,List.length_nil] at htl
  refine ⟨_,[],rfl,rfl,rfl,z05,?_⟩
  simp only [List.append_nil]
  have hdl:e.kids.dropLast.length=e.kids.length - 1:=List.length_dropLast
  have hdg:∀{j:Nat},j < e.kids.length - 1→e.kids.dropLast[j]?=e.kids[j]?:=fun hj=>by
   rw [List.getElem?_dropLast,if_pos hj]
  refine ⟨fun n vs K4=>∃(S4:PH) (s4:MA),vs=[.int .i64 ((n:Int) - 1)]∧n≤e.kids.length - 1∧PH.le S S4∧Held S4 K4 (machA mr hr s4 J)∧AFit s4∧s4.x=s.x.push (tdE a env::seqT (e.kids.dropLast.drop n) env),⟨e.kids.length - 1,S3,s3,?_,Nat.le_refl _,l3,h3,f3,?_⟩,?_⟩
  ·simp only [ev0,ev,evV,List.cons_append,List.nil_append,List.getD_cons_zero,List.getD_cons_succ,List.map_cons,List.map_nil,iOf,bOf,sOf,pOf,slLen,z04,cmpI,arI,Value.ite_bool,z01,z02,z00,z03];rw [w64 (by omega) (by omega)];congr 2;omega
  ·rw [hx3,List.drop_of_length_le (by omega)];simp [seqT]
  rintro n vs K4 _ ⟨S4,s4,rfl,hn,l4,h4,f4,hx4⟩
  simp only [List.cons_append,List.nil_append]
  refine ⟨fun g5=>?_,fun g5=>?_⟩
  rotate_left
  ·simp only [ev0,ev,evV,List.cons_append,List.nil_append,List.getD_cons_zero,List.getD_cons_succ,List.map_cons,List.map_nil,iOf,bOf,sOf,pOf,slLen,z04,cmpI,arI,Value.ite_bool,z01,z02,z00,z03,zdf] at g5
   have hn0:n=0:=by omega
   subst hn0
   exact ⟨S4,s4,l4,h4,f4,by rw [hx4,List.drop_zero];exact hm,rfl⟩
  simp only [ev0,ev,evV,List.cons_append,List.nil_append,List.getD_cons_zero,List.getD_cons_succ,List.map_cons,List.map_nil,iOf,bOf,sOf,pOf,slLen,z04,cmpI,arI,Value.ite_bool,z01,z02,z00,z03,zdt] at g5
  obtain ⟨k,rfl⟩:∃k,n=k+1:=⟨n - 1,by omega⟩
  have hk1:(((k+1:Nat):Int) - 1)=(k:Int):=by omega
  rw [hk1]
  obtain ⟨b,hb⟩:∃b,e.kids[k]?=some b:=⟨_,zge (by omega)⟩
  obtain ⟨y1,bnb,bdb,bkb,bnc,bdc,bkc,hxb,y3⟩:=kid hb
  have ht4:=z5g hx4
  simp only [zlc,Z1i,List.length_drop] at ht4
  refine z08 z0a (zfi (act:=1) (at_:=0) h4 f4 (by decide) (by decide) (by omega)) ?_
  rintro x K5 ⟨S5,s5,l5,h5,f5,hx5,rfl⟩
  have ht5:=z5g hx5
  simp only [zlc,List.length_nil] at ht5
  have l45:=PH.le_trans l4 l5
  refine ⟨_,[],rfl,rfl,rfl,z05,?_⟩
  simp only [List.append_nil]
  refine ⟨fun _=>?_,exVs b bnb bdb bkb bnc bdc bkc,rfl,by simp only [ev0,ev,evV,List.cons_append,List.nil_append,List.getD_cons_zero,List.getD_cons_succ,List.map_cons,List.map_nil,iOf,bOf,sOf,pOf,slLen,z04,cmpI,arI,Value.ite_bool,z01,z02,z00,z03];exact z0b h5.sh (z0b l45 y3),?_⟩
  ·simp only [Chk.holds,ev0,ev,evV,List.cons_append,List.nil_append,List.getD_cons_zero,List.getD_cons_succ,List.map_cons,List.map_nil,iOf,bOf,sOf,pOf,slLen,z04,cmpI,arI,Value.ite_bool,z01,z02,z00,z03];exact ⟨y1,by omega,by omega⟩
  simp only [List.cons_append,List.nil_append]
  refine z08 z0a (z28 (e:=b) (env:=env) h5 f5 (exvLe l45 hxb) (he.le l45) (by omega)) ?_
  rintro x K6 ⟨S6,s6,l6,h6,f6,hx6,rfl⟩
  refine ⟨_,[],rfl,rfl,rfl,z05,?_⟩
  refine ⟨_,z06,k,by omega,S6,s6,?_,by omega,PH.le_trans l45 l6,h6,f6,?_⟩
  ·simp only [ev0,ev,evV,List.cons_append,List.nil_append,List.getD_cons_zero,List.getD_cons_succ,List.map_cons,List.map_nil,iOf,bOf,sOf,pOf,slLen,z04,cmpI,arI,Value.ite_bool,z01,z02,z00,z03,down9 (by omega:k < 9223372036854775807)]
  ·rw [hx6,hx5,hx4,z2r,z2r,zza (k:=k) (a:=b) (by rw [hdg (by omega)];exact hb)]
   simp only [List.append_assoc,List.cons_append,List.nil_append]
 simp only [ev0,ev,evV,List.cons_append,List.nil_append,List.getD_cons_zero,List.getD_cons_succ,List.map_cons,List.map_nil,iOf,bOf,sOf,pOf,slLen,z04,cmpI,arI,Value.ite_bool,z01,z02,z00,z03,zdf] at g4
 rw [if_neg g4] at hm
 refine ⟨fun g5=>?_,fun g5=>?_⟩
 ·simp only [ev0,ev,evV,List.cons_append,List.nil_append,List.getD_cons_zero,List.getD_cons_succ,List.map_cons,List.map_nil,iOf,bOf,sOf,pOf,slLen,z04,cmpI,arI,Value.ite_bool,z01,z02,z00,z03,zdt] at g5
  rw [if_pos g5] at hm
  simp only [Option.some.injEq] at hm
  refine z08 z8v (zz2 (p:=⟨0,e,env,false,[],[]⟩) (tb:=none) (tc:=0) (vb:=none) (vc:=0) h hx he (SlR.mk_iff.2 ⟨Nat.zero_le _,.inl ⟨rfl,rfl⟩⟩) (SlR.mk_iff.2 ⟨Nat.zero_le _,.inl ⟨rfl,rfl⟩⟩) hL1 hQ1) ?_
  rintro x K2 ⟨S2,L2,thv2,qv2,l2,h2,hL2,rfl⟩
  refine ⟨_,valVs ⟨8,(s.L.length:Int),[]⟩,rfl,rfl,rfl,z05,?_⟩
  simp only [List.cons_append,List.nil_append]
  refine z08 z0d (z84 (v:=⟨8,(s.L.length:Int),[]⟩) h2 hf (fitX (by decide) (by unfold InI;omega) (by simp)) (by simp only;omega)) ?_
  rintro x K3 h3
  have hvs:(addX (hpX s.L) 4 []).2=⟨8,(s.L.length:Int),[]⟩:=by simp [addX,hpX]
  obtain ⟨v,vs,rfl,e1,rfl,e2⟩:=ret (h3.le l2) (by
   rw [←hm]
   unfold AX.proc MA.x
   simp only
   rw [hL2,hvs])
  exact ⟨_,[],rfl,rfl,rfl,z05,e2⟩
 simp only [ev0,ev,evV,List.cons_append,List.nil_append,List.getD_cons_zero,List.getD_cons_succ,List.map_cons,List.map_nil,iOf,bOf,sOf,pOf,slLen,z04,cmpI,arI,Value.ite_bool,z01,z02,z00,z03,zdf] at g5
 rw [if_neg g5] at hm
 refine ⟨fun g6=>?_,fun g6=>?_⟩
 ·simp only [ev0,ev,evV,List.cons_append,List.nil_append,List.getD_cons_zero,List.getD_cons_succ,List.map_cons,List.map_nil,iOf,bOf,sOf,pOf,slLen,z04,cmpI,arI,Value.ite_bool,z01,z02,z00,z03,zdt] at g6
  rw [if_pos g6] at hm
  simp only [Option.some.injEq] at hm
  refine z08 z0a (zfi (act:=4) (at_:=(e.kids.length:Int)) h hf (by decide) (by unfold InI;omega) (by omega)) ?_
  rintro x K3 ⟨S3,s3,l3,h3,f3,hx3,rfl⟩
  have htl:=z5g hx3
  simp only [zlc,List.length_nil] at htl
  refine ⟨_,[],rfl,rfl,rfl,z05,?_⟩
  simp only [List.append_nil]
  refine z08 z22 (zn5 h3 f3 (hx.kids.le l3) (he.le l3) hkl (by omega)) ?_
  rintro x K4 h4
  obtain ⟨v,vs,rfl,e1,rfl,e2⟩:=ret (h4.le l3) (by rw [hx3,z2r];exact hm)
  exact ⟨_,[],rfl,rfl,rfl,z05,e2⟩
 simp only [ev0,ev,evV,List.cons_append,List.nil_append,List.getD_cons_zero,List.getD_cons_succ,List.map_cons,List.map_nil,iOf,bOf,sOf,pOf,slLen,z04,cmpI,arI,Value.ite_bool,z01,z02,z00,z03,zdf] at g6
 rw [if_neg g6] at hm
 refine ⟨fun g7=>?_,fun g7=>?_⟩
 ·simp only [ev0,ev,evV,List.cons_append,List.nil_append,List.getD_cons_zero,List.getD_cons_succ,List.map_cons,List.map_nil,iOf,bOf,sOf,pOf,slLen,z04,cmpI,arI,Value.ite_bool,z01,z02,z00,z03,zdt] at g7
  rw [if_pos g7] at hm
  simp only [Option.some.injEq] at hm
  refine z08 z0a (zku (act:=5) (at_:=0) (e:=e) (env:=[]) (eb:=none) (ec:=0) h hf (by decide) hx (zlg S) (by decide) (by omega)) ?_
  rintro x K3 ⟨S3,s3,l3,h3,f3,hx3,rfl⟩
  have htl:=z5g hx3
  simp only [zlc,List.length_nil] at htl
  refine ⟨_,[],rfl,rfl,rfl,z05,?_⟩
  simp only [List.append_nil]
  refine z08 z22 (zn5 h3 f3 (hx.kids.le l3) (he.le l3) hkl (by omega)) ?_
  rintro x K4 h4
  obtain ⟨v,vs,rfl,e1,rfl,e2⟩:=ret (h4.le l3) (by rw [hx3,z2r];exact hm)
  exact ⟨_,[],rfl,rfl,rfl,z05,e2⟩
 simp only [ev0,ev,evV,List.cons_append,List.nil_append,List.getD_cons_zero,List.getD_cons_succ,List.map_cons,List.map_nil,iOf,bOf,sOf,pOf,slLen,z04,cmpI,arI,Value.ite_bool,z01,z02,z00,z03,zdf] at g7
 rw [if_neg g7] at hm
 refine ⟨fun g8=>?_,fun g8=>?_⟩
 ·simp only [ev0,ev,evV,List.cons_append,List.nil_append,List.getD_cons_zero,List.getD_cons_succ,List.map_cons,List.map_nil,iOf,bOf,sOf,pOf,slLen,z04,cmpI,arI,Value.ite_bool,z01,z02,z00,z03,zdt] at g8
  rw [if_pos g8] at hm
  by_cases hz:e.kids.length=0
  ·rw [if_pos hz] at hm;cases hm
  rw [if_neg hz] at hm
  simp only [Option.some.injEq] at hm
  have hw1:IntKind.i64.wrap ((e.kids.length:Int) - 1)=((e.kids.length - 1:Nat):Int):=by rw [w64 (by omega) (by omega)];omega
  refine z08 z0a (zku (act:=6) (at_:=0) (e:=e) (env:=env) h hf (by decide) hx he (by decide) (by omega)) ?_
  rintro x K3 ⟨S3,s3,l3,h3,f3,hx3,rfl⟩
  have htl:=z5g hx3
  simp only [zlc,List.length_nil] at htl
  have hcap:e.kids.length≤kc:=by
   rcases (SlR.mk_iff.1 hx.kids).2 with ⟨e1,e2⟩ | ⟨a,c,e1,e2,_⟩
   ·rw [e2] at hz;simp at hz
   ·cases e1;exact e2
  refine ⟨_,[],rfl,rfl,rfl,z05,fun _=>?_,?_⟩
  ·simp only [Chk.holds,ev0,ev,evV,List.cons_append,List.nil_append,List.getD_cons_zero,List.getD_cons_succ,List.map_cons,List.map_nil,iOf,bOf,sOf,pOf,slLen,z04,cmpI,arI,Value.ite_bool,z01,z02,z00,z03,hw1,slCap];omega
  simp only [List.append_nil]
  have hcut:=(hx.kids.le l3).cut (a:=0) (b:=e.kids.length - 1) (by omega) (by omega)
  rw [List.drop_zero,←List.dropLast_eq_take] at hcut
  refine z08 z22 (R:=ATo mr hr J S3 (s3.x.push (allT e.kids.dropLast env)) vNil) ?_ ?_
  ·have:=zn5 h3 f3 hcut (he.le l3) (by rw [List.length_dropLast];omega) (by omega)
   rw [show ((0:Nat):Int)=0 from rfl,←hw1] at this
   exact this
  rintro x K4 h4
  obtain ⟨v,vs,rfl,e1,rfl,e2⟩:=ret (h4.le l3) (by rw [hx3,z2r];exact hm)
  exact ⟨_,[],rfl,rfl,rfl,z05,e2⟩
 simp only [ev0,ev,evV,List.cons_append,List.nil_append,List.getD_cons_zero,List.getD_cons_succ,List.map_cons,List.map_nil,iOf,bOf,sOf,pOf,slLen,z04,cmpI,arI,Value.ite_bool,z01,z02,z00,z03,zdf] at g8
 rw [if_neg g8] at hm
 refine ⟨fun g9=>?_,fun g9=>?_⟩
 ·have hk:e.kind=9∨e.kind=10:=by
   by_cases k9:e.kind=9
   ·exact .inl k9
   ·right;simp [ev0,ev,evV,List.cons_append,List.nil_append,List.getD_cons_zero,List.getD_cons_succ,List.map_cons,List.map_nil,iOf,bOf,sOf,pOf,slLen,z04,cmpI,arI,Value.ite_bool,z01,z02,z00,z03,k9] at g9;exact g9
  rw [if_pos hk] at hm
  refine z08 z98 (Z04 h hf hx he hkl hnl hel hc1 (by omega) hm) ?_
  rintro x K4 h4
  obtain ⟨v,vs,rfl,e1,rfl,e2⟩:=ret h4 rfl
  exact ⟨_,[],rfl,rfl,rfl,z05,e2⟩
 ·have hk:¬(e.kind=9∨e.kind=10):=by
   rintro (k9 | k10)
   ·simp [ev0,ev,evV,List.cons_append,List.nil_append,List.getD_cons_zero,List.getD_cons_succ,List.map_cons,List.map_nil,iOf,bOf,sOf,pOf,slLen,z04,cmpI,arI,Value.ite_bool,z01,z02,z00,z03,k9] at g9
   ·simp [ev0,ev,evV,List.cons_append,List.nil_append,List.getD_cons_zero,List.getD_cons_succ,List.map_cons,List.map_nil,iOf,bOf,sOf,pOf,slLen,z04,cmpI,arI,Value.ite_bool,z01,z02,z00,z03,k10] at g9
  rw [if_neg hk] at hm
  simp only [Option.some.injEq] at hm
  exact ⟨S,s,PH.le_refl _,h,hf,hm,rfl⟩
end
section
variable {S K:PH} {mr hr:Nat} {s:MA} {J:List Itm}
theorem zu1 {X:List PanicEntry→PH→Prop} {E:List Value} {L:LK} {p:SV} {ss:List SV} {β:Type} {f:Fm β} {Q:β→List Value→PH→LK→Prop} {k:Nat} {v:VX} (h:Held S K (machA mr hr s J)) (hk:k < s.cells.length) (hv:VFit v) (hp:pOf (ev0 E p)=pOf (eltV s.cv (k:Int) 3)) (hss:ss.map (ev0 E)=valVs v)
  (hq:∀K',Held S K' (machA mr hr { s with cells:=s.cells.set k v } J)→den Tryz.prog X f E K' L Q):den Tryz.prog X (.store p ss f) E K L Q:=by
 obtain ⟨a,ha⟩:∃a,s.cells[k]?=some a:=⟨_,zge hk⟩
 refine zf9 (i:=k) (a:=a) (a':=v) (us:=valVs v) hp h.to3 ha rfl hss (by simp [oneC]) (zhb hv) fun K1 h1=>hq K1 ?_
 exact h1.fr3
theorem zze (h:Held S K (machA mr hr s J)) (hf:AFit s) (hh:HeapOk (hpX s.L)) (hst:s.steps≤4294967296) {m':AX} (hm:s.x.next=some m') :
  Tri Tryz.prog z9a #[pAt mr] K (ATo mr hr J S m' vNil):=by
 unfold AX.next at hm
 cases hfew:s.x.few with
 | false=>rw [hfew] at hm;simp at hm
 | true=>
 rw [hfew] at hm
 simp only [if_true] at hm
 unfold AX.few at hfew
 simp only [zba,zdt] at hfew
 obtain ⟨⟨⟨⟨⟨w1,w2⟩,w3⟩,w4⟩,w5⟩,w6⟩:=hfew
 have hL:s.L.length≤16777215:=by have:(hpX s.L).length≤16777215:=w1;simpa [hpX] using this
 replace w2:s.cells.length≤16777215:=w2
 replace w3:s.procs.length≤16777215:=w3
 replace w4:s.out.length≤16777215:=w4
 replace w5:s.todo.length≤4294967296:=w5
 replace w6:s.vals.length≤4294967296:=w6
 cases htl:s.x.todo.getLast? with
 | none=>rw [htl] at hm;cases hm
 | some t=>
 rw [htl] at hm
 simp only at hm
 replace htl:s.todo.getLast?=some t:=htl
 rw [List.getLast?_eq_getElem?] at htl
 have h0:=(List.getElem?_eq_some_iff.1 htl).1
 have hw1:IntKind.i64.wrap ((s.todo.length:Int) - 1)=((s.todo.length - 1:Nat):Int):=by rw [w64 (by omega) (by omega)];omega
 obtain ⟨tb,tc,htv⟩:=zrv h
 have hl10:rowAt K (some ⟨mr,10,none⟩) [.slice tb s.todo.length tc]:=by rw [←htv];exact mA_ld h rfl
 obtain ⟨x1,_,xs,x2,x3⟩:=(h.swap.row (zms)).get htl
 rw [htv] at x1 x3
 obtain ⟨es,env,rfl,t1,t2,t3,t4⟩:=td_iff.1 x2
 have t2':=t2
 obtain ⟨nb,db,kb,nc,dc,kc,rfl,hx⟩:=Xp.Rep.open t2'
 obtain ⟨eb,ec,rfl⟩:=t3.sl
 have hcap:s.todo.length≤tc:=by
  obtain ⟨ys,o1,_⟩:=(h.swap.row (zms)).own
  rcases o1.2 with ⟨e,hz⟩ | ⟨g,cap,cur,e,_,h4,_⟩
  ·omega
  ·rw [htv] at e;cases e;exact h4
 refine z7r [pAt mr] (by kernel_rfl) (by kernel_rfl) ?_
 refine ⟨fun _=>by simp [Chk.holds,ev0,ev,evV,List.cons_append,List.nil_append,List.getD_cons_zero,List.getD_cons_succ,List.map_cons,List.map_nil,iOf,bOf,sOf,pOf,slLen,z04,cmpI,arI,Value.ite_bool,z01,z02,z00,z03],[.slice tb s.todo.length tc],rfl,by simp only [ev0,ev,evV,List.cons_append,List.nil_append,List.getD_cons_zero,List.getD_cons_succ,List.map_cons,List.map_nil,iOf,bOf,sOf,pOf,slLen,z04,cmpI,arI,Value.ite_bool,z01,z02,z00,z03];exact hl10,[.slice tb s.todo.length tc],rfl,by simp only [ev0,ev,evV,List.cons_append,List.nil_append,List.getD_cons_zero,List.getD_cons_succ,List.map_cons,List.map_nil,iOf,bOf,sOf,pOf,slLen,z04,cmpI,arI,Value.ite_bool,z01,z02,z00,z03];exact hl10,fun _=>?_,tdVs t (exVs t.e nb db kb nc dc kc) (.slice eb t.env.length ec),rfl,by simp only [ev0,ev,evV,List.cons_append,List.nil_append,List.getD_cons_zero,List.getD_cons_succ,List.map_cons,List.map_nil,iOf,bOf,sOf,pOf,slLen,z04,cmpI,arI,Value.ite_bool,z01,z02,z00,z03,hw1];exact x3,[.slice tb s.todo.length tc],rfl,by simp only [ev0,ev,evV,List.cons_append,List.nil_append,List.getD_cons_zero,List.getD_cons_succ,List.map_cons,List.map_nil,iOf,bOf,sOf,pOf,slLen,z04,cmpI,arI,Value.ite_bool,z01,z02,z00,z03];exact hl10,fun _=>?_,?_⟩
 ·simp only [Chk.holds,ev0,ev,evV,List.cons_append,List.nil_append,List.getD_cons_zero,List.getD_cons_succ,List.map_cons,List.map_nil,iOf,bOf,sOf,pOf,slLen,z04,cmpI,arI,Value.ite_bool,z01,z02,z00,z03,hw1];exact ⟨x1,by omega,by omega⟩
 ·simp only [Chk.holds,ev0,ev,evV,List.cons_append,List.nil_append,List.getD_cons_zero,List.getD_cons_succ,List.map_cons,List.map_nil,iOf,bOf,sOf,pOf,slLen,z04,cmpI,arI,Value.ite_bool,z01,z02,z00,z03,hw1,slCap];omega
 simp only [tdVs,List.cons_append,List.nil_append]
 have h1:=h.swap.cut (m:=s.todo.length - 1) (by omega)
 rw [htv] at h1
 refine z0t (off:=10) (vs:=[slsV (.slice tb s.todo.length tc) 0 ((s.todo.length - 1:Nat):Int) 11]) (by simp only [ev0,ev,evV,List.cons_append,List.nil_append,List.getD_cons_zero,List.getD_cons_succ,List.map_cons,List.map_nil,iOf,bOf,sOf,pOf,slLen,z04,cmpI,arI,Value.ite_bool,z01,z02,z00,z03];rfl) h1.swap (by simp only [List.map_cons,List.map_nil,ev0,ev,evV,List.cons_append,List.nil_append,List.getD_cons_zero,List.getD_cons_succ,List.map_cons,List.map_nil,iOf,bOf,sOf,pOf,slLen,z04,cmpI,arI,Value.ite_bool,z01,z02,z00,z03,hw1]) (slOne ⟨_,_,_,rfl⟩) (by simp [MA.cs]) fun K1 h2=>?_
 obtain ⟨q,hq⟩:∃q:MA,q={ s with todo:=s.todo.take (s.todo.length - 1),tv:=slsV (.slice tb s.todo.length tc) 0 ((s.todo.length - 1:Nat):Int) 11 }:=⟨_,rfl⟩
 have h3:Held S K1 (machA mr hr q J):=by subst hq;exact h2
 have fq:AFit q:=by rw [hq];exact hf
 have hqx:({ s.x with todo:=s.x.todo.dropLast }:AX)=q.x:=by
  rw [hq];unfold MA.x;simp only
  rw [List.dropLast_eq_take]
 rw [hqx] at hm
 have qL:q.L.length≤16777215:=by rw [hq];exact hL
 have qh:HeapOk (hpX q.L):=by rw [hq];exact hh
 have qc:q.cells.length≤16777215:=by rw [hq];exact w2
 have qp:q.procs.length≤16777215:=by rw [hq];exact w3
 have qo:q.out.length≤16777215:=by rw [hq];exact w4
 have qt:q.todo.length≤4294967296:=by rw [hq];simp only [List.length_take];omega
 have qv:q.vals.length≤4294967296:=by rw [hq];exact w6
 have qs:q.steps≤4294967296:=by rw [hq];exact hst
 clear hq h2 h1 h hf hh hqx w1 w2 w3 w4 w5 w6 hL x3 hl10 hst htl h0 hw1 hcap x1 x2 htv
 have ret:∀{x:Ending} {K2 S1:PH} {m2:AX},PH.le S S1→ATo mr hr J S1 m2 vNil x K2→m2=m'→∃v vs,x=.returned v∧z0c [] vs=true∧v=.tuple #[]∧ATo mr hr J S m' vNil x K2:=fun l h1 h2=>by
  subst h2
  obtain ⟨S2,s2,l2,h3,f2,hx2,rfl⟩:=h1.le l
  exact ⟨_,[],rfl,rfl,rfl,S2,s2,l2,h3,f2,hx2,rfl⟩
 unfold AX.act at hm
 have pops:∀{n:Nat} {r:AX×List VX},q.x.pop n=some r→n≤q.vals.length∧r=(({ q.x with vals:=q.vals.take (q.vals.length - n) }:AX),q.vals.drop (q.vals.length - n)):=fun hr=>by
  unfold AX.pop at hr
  split at hr
  ·rename_i hn
   simp only [Option.some.injEq] at hr
   exact ⟨hn,hr.symm⟩
  ·cases hr
 refine ⟨fun g0=>?_,fun g0=>?_⟩
 ·simp only [ev0,ev,evV,List.cons_append,List.nil_append,List.getD_cons_zero,List.getD_cons_succ,List.map_cons,List.map_nil,iOf,bOf,sOf,pOf,slLen,z04,cmpI,arI,Value.ite_bool,z01,z02,z00,z03,zdt] at g0
  rw [if_pos g0] at hm
  refine z08 z8j (zz8 h3 fq (by omega) (by omega) (by omega) (by omega) (by omega) qs hx t3 hm) ?_
  rintro x K2 h4
  obtain ⟨v,vs,rfl,e1,rfl,e2⟩:=ret (PH.le_refl _) h4 rfl
  exact ⟨_,[],rfl,rfl,rfl,z05,e2⟩
 simp only [ev0,ev,evV,List.cons_append,List.nil_append,List.getD_cons_zero,List.getD_cons_succ,List.map_cons,List.map_nil,iOf,bOf,sOf,pOf,slLen,z04,cmpI,arI,Value.ite_bool,z01,z02,z00,z03,zdf] at g0
 rw [if_neg g0] at hm
 refine ⟨fun g1=>?_,fun g1=>?_⟩
 ·simp only [ev0,ev,evV,List.cons_append,List.nil_append,List.getD_cons_zero,List.getD_cons_succ,List.map_cons,List.map_nil,iOf,bOf,sOf,pOf,slLen,z04,cmpI,arI,Value.ite_bool,z01,z02,z00,z03,zdt] at g1
  rw [if_pos g1] at hm
  obtain ⟨r,hr1,hr2⟩:=Option.map_eq_some_iff.1 hm
  obtain ⟨hn,rfl⟩:=pops hr1
  refine z08 z0q (z7o (n:=1) h3 hn (by omega)) ?_
  rintro x K2 ⟨S2,vv,v,l2,h4,hv,rfl⟩
  obtain ⟨vb,vc,rfl⟩:=hv.sl
  exact ⟨_,[_],rfl,rfl,rfl,z05,S2,_,l2,h4,fq,hr2,rfl⟩
 simp only [ev0,ev,evV,List.cons_append,List.nil_append,List.getD_cons_zero,List.getD_cons_succ,List.map_cons,List.map_nil,iOf,bOf,sOf,pOf,slLen,z04,cmpI,arI,Value.ite_bool,z01,z02,z00,z03,zdf] at g1
 rw [if_neg g1] at hm
 have one:∀{r:AX×List VX},q.x.pop 1=some r→∃y,q.vals.drop (q.vals.length - 1)=[y]∧r=(({ q.x with vals:=q.vals.take (q.vals.length - 1) }:AX),[y])∧1≤q.vals.length:=fun hr=>by
  obtain ⟨hn,rfl⟩:=pops hr
  have hl:(q.vals.drop (q.vals.length - 1)).length=1:=by rw [List.length_drop];omega
  obtain ⟨y,hy⟩:∃y,q.vals.drop (q.vals.length - 1)=[y]:=by
   match q.vals.drop (q.vals.length - 1),hl with
   | [y],_=>exact ⟨y,rfl⟩
  exact ⟨y,hy,by rw [hy],hn⟩
 refine ⟨fun g2=>?_,fun g2=>?_⟩
 ·simp only [ev0,ev,evV,List.cons_append,List.nil_append,List.getD_cons_zero,List.getD_cons_succ,List.map_cons,List.map_nil,iOf,bOf,sOf,pOf,slLen,z04,cmpI,arI,Value.ite_bool,z01,z02,z00,z03,zdt] at g2
  rw [if_pos g2] at hm
  obtain ⟨r,hr1,hr2⟩:=Option.bind_eq_some_iff.1 hm
  obtain ⟨y,hy,rfl,hn⟩:=one hr1
  obtain ⟨k,hk,hk2⟩:=Option.map_eq_some_iff.1 hr2
  obtain ⟨hk3,hk4⟩:=zi9 hk
  replace hk4:k < q.cells.length:=hk4
  obtain ⟨cb,cc,hcv⟩:=znw h3
  have hl1:rowAt K1 (some ⟨mr,1,none⟩) [.slice cb q.cells.length cc]:=by rw [←hcv];exact mA_ld h3 rfl
  refine ⟨[.slice cb q.cells.length cc],rfl,by simp only [ev0,ev,evV,List.cons_append,List.nil_append,List.getD_cons_zero,List.getD_cons_succ,List.map_cons,List.map_nil,iOf,bOf,sOf,pOf,slLen,z04,cmpI,arI,Value.ite_bool,z01,z02,z00,z03];exact hl1,?_⟩
  simp only [List.cons_append,List.nil_append]
  refine z08 z0q (z7o (n:=1) h3 hn (by omega)) ?_
  rintro x K2 ⟨S2,vv,v,l2,h4,hv,rfl⟩
  rw [hy] at hv
  obtain ⟨vb,vc,rfl⟩:=hv.sl
  obtain ⟨y1,_,ycs,y2,y3⟩:=hv.get (i:=0) (a:=y) rfl
  obtain ⟨rfl,yf⟩:=z2j y2
  refine ⟨_,[.slice vb 1 vc],rfl,rfl,rfl,z1x (by simp only [ev0,ev,evV,List.cons_append,List.nil_append,List.getD_cons_zero,List.getD_cons_succ,List.map_cons,List.map_nil,iOf,bOf,sOf,pOf,slLen,z04,cmpI,arI,Value.ite_bool,z01,z02,z00,z03];rw [←hcv];exact mA_ld h4 rfl),fun _=>?_,valVs y,rfl,by simp only [ev0,ev,evV,List.cons_append,List.nil_append,List.getD_cons_zero,List.getD_cons_succ,List.map_cons,List.map_nil,iOf,bOf,sOf,pOf,slLen,z04,cmpI,arI,Value.ite_bool,z01,z02,z00,z03];exact z0b h4.sh y3,fun _=>?_,?_⟩
  ·simp only [Chk.holds,ev0,ev,evV,List.cons_append,List.nil_append,List.getD_cons_zero,List.getD_cons_succ,List.map_cons,List.map_nil,iOf,bOf,sOf,pOf,slLen,z04,cmpI,arI,Value.ite_bool,z01,z02,z00,z03];exact ⟨y1,by omega,by simp⟩
  ·obtain ⟨a,ha⟩:∃a,q.cells[k]?=some a:=⟨_,zge hk4⟩
   have:=((h3.to3.row (zms)).get ha).1
   rw [hcv] at this
   simp only [Chk.holds,ev0,ev,evV,List.cons_append,List.nil_append,List.getD_cons_zero,List.getD_cons_succ,List.map_cons,List.map_nil,iOf,bOf,sOf,pOf,slLen,z04,cmpI,arI,Value.ite_bool,z01,z02,z00,z03,hk3];exact ⟨this,by omega,by omega⟩
  simp only [List.cons_append,List.nil_append]
  refine zu1 (k:=k) (v:=y) h4 hk4 yf (by simp only [ev0,ev,evV,List.cons_append,List.nil_append,List.getD_cons_zero,List.getD_cons_succ,List.map_cons,List.map_nil,iOf,bOf,sOf,pOf,slLen,z04,cmpI,arI,Value.ite_bool,z01,z02,z00,z03,hk3];rw [hcv]) (by simp only [List.map_cons,List.map_nil,ev0,ev,evV,List.cons_append,List.nil_append,List.getD_cons_zero,List.getD_cons_succ,List.map_cons,List.map_nil,iOf,bOf,sOf,pOf,slLen,z04,cmpI,arI,Value.ite_bool,z01,z02,z00,z03]) fun K5 h5=>?_
  refine z08 z0d (z84 (v:=vVoid) h5 fq zks (by simp only [List.length_take];omega)) ?_
  rintro x K6 h6
  obtain ⟨v,vs,rfl,e1,rfl,e2⟩:=ret l2 h6 (by rw [←hk2];rfl)
  exact ⟨_,[],rfl,rfl,rfl,z05,e2⟩
 simp only [ev0,ev,evV,List.cons_append,List.nil_append,List.getD_cons_zero,List.getD_cons_succ,List.map_cons,List.map_nil,iOf,bOf,sOf,pOf,slLen,z04,cmpI,arI,Value.ite_bool,z01,z02,z00,z03,zdf] at g2
 rw [if_neg g2] at hm
 refine ⟨fun g3=>?_,fun g3=>?_⟩
 ·simp only [ev0,ev,evV,List.cons_append,List.nil_append,List.getD_cons_zero,List.getD_cons_succ,List.map_cons,List.map_nil,iOf,bOf,sOf,pOf,slLen,z04,cmpI,arI,Value.ite_bool,z01,z02,z00,z03,zdt] at g3
  rw [if_pos g3] at hm
  obtain ⟨r,hr1,hr2⟩:=Option.bind_eq_some_iff.1 hm
  obtain ⟨y,hy,rfl,hn⟩:=one hr1
  obtain ⟨b,hb,hb2⟩:=Option.map_eq_some_iff.1 hr2
  replace hb:(if y=vNone then t.e.kids[2]? else t.e.kids[1]?)=some b:=hb
  refine z08 z0q (z7o (n:=1) h3 hn (by omega)) ?_
  rintro x K2 ⟨S2,vv,v,l2,h4,hv,rfl⟩
  rw [hy] at hv
  obtain ⟨vb,vc,rfl⟩:=hv.sl
  obtain ⟨y1,_,ycs,y2,y3⟩:=hv.get (i:=0) (a:=y) rfl
  obtain ⟨rfl,yf⟩:=z2j y2
  refine ⟨_,[.slice vb 1 vc],rfl,rfl,rfl,z05,fun _=>?_,valVs y,rfl,by simp only [ev0,ev,evV,List.cons_append,List.nil_append,List.getD_cons_zero,List.getD_cons_succ,List.map_cons,List.map_nil,iOf,bOf,sOf,pOf,slLen,z04,cmpI,arI,Value.ite_bool,z01,z02,z00,z03];exact z0b h4.sh y3,?_⟩
  ·simp only [Chk.holds,ev0,ev,evV,List.cons_append,List.nil_append,List.getD_cons_zero,List.getD_cons_succ,List.map_cons,List.map_nil,iOf,bOf,sOf,pOf,slLen,z04,cmpI,arI,Value.ite_bool,z01,z02,z00,z03];exact ⟨y1,by omega,by simp⟩
  simp only [List.cons_append,List.nil_append]
  refine zj4 (a:=y) (b:=vNone) (by kernel_rfl) (by kernel_rfl) ?_
  simp only [List.cons_append,List.nil_append]
  have fin:∀{j:Nat},t.e.kids[j]?=some b→(z04 (.slice kb t.e.kids.length kc)).isSome=true∧j < t.e.kids.length∧∃anb adb akb anc adc akc,ExV S b anb adb akb anc adc akc∧rowAt S (pOf (eltV (.slice kb t.e.kids.length kc) (j:Int) 8)) (exVs b anb adb akb anc adc akc):=fun hj=>by
   obtain ⟨x1,_,xs,x2,x3⟩:=hx.kids.get hj
   obtain ⟨anb,adb,akb,anc,adc,akc,rfl,hxa⟩:=Xp.Rep.open x2
   exact ⟨x1,(List.getElem?_eq_some_iff.1 hj).1,anb,adb,akb,anc,adc,akc,hxa,x3⟩
  refine ⟨fun g4=>?_,fun g4=>?_⟩
  ·simp only [ev0,ev,evV,List.cons_append,List.nil_append,List.getD_cons_zero,List.getD_cons_succ,List.map_cons,List.map_nil,iOf,bOf,sOf,pOf,slLen,z04,cmpI,arI,Value.ite_bool,z01,z02,z00,z03,zdt] at g4
   rw [if_pos g4] at hb
   obtain ⟨x1,x2,anb,adb,akb,anc,adc,akc,hxa,x3⟩:=fin hb
   refine ⟨fun _=>?_,exVs b anb adb akb anc adc akc,rfl,by simp only [ev0,ev,evV,List.cons_append,List.nil_append,List.getD_cons_zero,List.getD_cons_succ,List.map_cons,List.map_nil,iOf,bOf,sOf,pOf,slLen,z04,cmpI,arI,Value.ite_bool,z01,z02,z00,z03];exact z0b h4.sh (z0b l2 x3),?_⟩
   ·simp only [Chk.holds,ev0,ev,evV,List.cons_append,List.nil_append,List.getD_cons_zero,List.getD_cons_succ,List.map_cons,List.map_nil,iOf,bOf,sOf,pOf,slLen,z04,cmpI,arI,Value.ite_bool,z01,z02,z00,z03];exact ⟨x1,by omega,by omega⟩
   simp only [List.cons_append,List.nil_append]
   refine z08 z0a (z28 (e:=b) (env:=t.env) h4 fq (exvLe l2 hxa) (t3.le l2) (by simp only;omega)) ?_
   rintro x K6 h6
   obtain ⟨v,vs,rfl,e1,rfl,e2⟩:=ret l2 h6 (by rw [←hb2];rfl)
   exact ⟨_,[],rfl,rfl,rfl,z05,e2⟩
  ·simp only [ev0,ev,evV,List.cons_append,List.nil_append,List.getD_cons_zero,List.getD_cons_succ,List.map_cons,List.map_nil,iOf,bOf,sOf,pOf,slLen,z04,cmpI,arI,Value.ite_bool,z01,z02,z00,z03,zdf] at g4
   rw [if_neg g4] at hb
   obtain ⟨x1,x2,anb,adb,akb,anc,adc,akc,hxa,x3⟩:=fin hb
   refine ⟨fun _=>?_,exVs b anb adb akb anc adc akc,rfl,by simp only [ev0,ev,evV,List.cons_append,List.nil_append,List.getD_cons_zero,List.getD_cons_succ,List.map_cons,List.map_nil,iOf,bOf,sOf,pOf,slLen,z04,cmpI,arI,Value.ite_bool,z01,z02,z00,z03];exact z0b h4.sh (z0b l2 x3),?_⟩
   ·simp only [Chk.holds,ev0,ev,evV,List.cons_append,List.nil_append,List.getD_cons_zero,List.getD_cons_succ,List.map_cons,List.map_nil,iOf,bOf,sOf,pOf,slLen,z04,cmpI,arI,Value.ite_bool,z01,z02,z00,z03];exact ⟨x1,by omega,by omega⟩
   simp only [List.cons_append,List.nil_append]
   refine z08 z0a (z28 (e:=b) (env:=t.env) h4 fq (exvLe l2 hxa) (t3.le l2) (by simp only;omega)) ?_
   rintro x K6 h6
   obtain ⟨v,vs,rfl,e1,rfl,e2⟩:=ret l2 h6 (by rw [←hb2];rfl)
   exact ⟨_,[],rfl,rfl,rfl,z05,e2⟩
 simp only [ev0,ev,evV,List.cons_append,List.nil_append,List.getD_cons_zero,List.getD_cons_succ,List.map_cons,List.map_nil,iOf,bOf,sOf,pOf,slLen,z04,cmpI,arI,Value.ite_bool,z01,z02,z00,z03,zdf] at g3
 rw [if_neg g3] at hm
 refine ⟨fun g4=>?_,fun g4=>?_⟩
 ·simp only [ev0,ev,evV,List.cons_append,List.nil_append,List.getD_cons_zero,List.getD_cons_succ,List.map_cons,List.map_nil,iOf,bOf,sOf,pOf,slLen,z04,cmpI,arI,Value.ite_bool,z01,z02,z00,z03,zdt] at g4
  rw [if_pos g4] at hm
  by_cases ha1:t.at_ < 1
  ·rw [if_pos ha1] at hm;cases hm
  rw [if_neg ha1] at hm
  obtain ⟨r,hr1,hr2⟩:=Option.bind_eq_some_iff.1 hm
  obtain ⟨hn,rfl⟩:=pops hr1
  obtain ⟨n,hn2⟩:∃n:Nat,t.at_=(n:Int):=⟨t.at_.toNat,by omega⟩
  rw [hn2,Int.toNat_natCast] at hn hr2
  rw [hn2]
  have hdl:(q.vals.drop (q.vals.length - n)).length=n:=by rw [List.length_drop];omega
  obtain ⟨y,ys,hy⟩:∃y ys,q.vals.drop (q.vals.length - n)=y::ys:=by
   cases hd:q.vals.drop (q.vals.length - n) with
   | nil=>rw [hd] at hdl;simp at hdl;omega
   | cons y ys=>exact ⟨y,ys,rfl⟩
  rw [hy] at hr2 hdl
  simp only [List.getD_cons_zero,List.tail_cons] at hr2
  refine z08 z0q (z7o (n:=n) h3 hn (by omega)) ?_
  rintro x K2 ⟨S2,vv,v,l2,h4,hv,rfl⟩
  rw [hy] at hv
  have hcapv:(y::ys).length≤slCap v:=by
   rcases (SlR.mk_iff.1 hv).2 with ⟨e1,e2⟩ | ⟨a,c,e1,e2,_⟩
   ·cases e2
   ·rw [e1];exact e2
  obtain ⟨vb,vc,hvv⟩:=hv.sl
  rw [hvv] at hcapv hv
  rw [hvv]
  obtain ⟨y1,_,ycs,y2,y3⟩:=hv.get (i:=0) (a:=y) rfl
  obtain ⟨rfl,yf⟩:=z2j y2
  refine ⟨_,[.slice vb (y::ys).length vc],rfl,rfl,rfl,z05,fun _=>?_,valVs y,rfl,by simp only [ev0,ev,evV,List.cons_append,List.nil_append,List.getD_cons_zero,List.getD_cons_succ,List.map_cons,List.map_nil,iOf,bOf,sOf,pOf,slLen,z04,cmpI,arI,Value.ite_bool,z01,z02,z00,z03];exact z0b h4.sh y3,fun _=>?_,?_⟩
  ·simp only [Chk.holds,ev0,ev,evV,List.cons_append,List.nil_append,List.getD_cons_zero,List.getD_cons_succ,List.map_cons,List.map_nil,iOf,bOf,sOf,pOf,slLen,z04,cmpI,arI,Value.ite_bool,z01,z02,z00,z03];exact ⟨y1,by omega,by simp only [zlc];omega⟩
  ·simp only [slCap] at hcapv
   simp only [Chk.holds,ev0,ev,evV,List.cons_append,List.nil_append,List.getD_cons_zero,List.getD_cons_succ,List.map_cons,List.map_nil,iOf,bOf,sOf,pOf,slLen,z04,cmpI,arI,Value.ite_bool,z01,z02,z00,z03,slCap];simp only [zlc] at hcapv ⊢;omega
  simp only [List.cons_append,List.nil_append]
  have hcut:=hv.cut (a:=1) (b:=(y::ys).length) (by simp only [zlc];omega) (Nat.le_refl _)
  rw [List.take_length,List.drop_one,List.tail_cons] at hcut
  refine z08 z8k (zy5 h4 fq (by simp only;omega) (by simp only;omega) (by simp only [List.length_take];omega) yf hcut hr2) ?_
  rintro x K6 h6
  obtain ⟨v,vs,rfl,e1,rfl,e2⟩:=ret l2 h6 rfl
  exact ⟨_,[],rfl,rfl,rfl,z05,e2⟩
 simp only [ev0,ev,evV,List.cons_append,List.nil_append,List.getD_cons_zero,List.getD_cons_succ,List.map_cons,List.map_nil,iOf,bOf,sOf,pOf,slLen,z04,cmpI,arI,Value.ite_bool,z01,z02,z00,z03,zdf] at g4
 rw [if_neg g4] at hm
 refine ⟨fun g5=>?_,fun g5=>?_⟩
 ·simp only [ev0,ev,evV,List.cons_append,List.nil_append,List.getD_cons_zero,List.getD_cons_succ,List.map_cons,List.map_nil,iOf,bOf,sOf,pOf,slLen,z04,cmpI,arI,Value.ite_bool,z01,z02,z00,z03,zdt] at g5
  rw [if_pos g5] at hm
  obtain ⟨r,hr1,hr2⟩:=Option.bind_eq_some_iff.1 hm
  obtain ⟨hn,rfl⟩:=pops hr1
  refine z08 z0q (z7o (n:=t.e.kids.length) h3 hn (by omega)) ?_
  rintro x K2 ⟨S2,vv,v,l2,h4,hv,rfl⟩
  obtain ⟨vb,vc,rfl⟩:=hv.sl
  refine ⟨_,[.slice vb (q.vals.drop (q.vals.length - t.e.kids.length)).length vc],rfl,rfl,rfl,z05,?_⟩
  simp only [List.cons_append,List.nil_append]
  refine z08 z8u (zy2 h4 fq qh (by simp only;omega) (by simp only;omega) (by simp only [List.length_take];omega) t.e.name hv hr2) ?_
  rintro x K6 h6
  obtain ⟨v,vs,rfl,e1,rfl,e2⟩:=ret l2 h6 rfl
  exact ⟨_,[],rfl,rfl,rfl,z05,e2⟩
 simp only [ev0,ev,evV,List.cons_append,List.nil_append,List.getD_cons_zero,List.getD_cons_succ,List.map_cons,List.map_nil,iOf,bOf,sOf,pOf,slLen,z04,cmpI,arI,Value.ite_bool,z01,z02,z00,z03,zdf] at g5
 rw [if_neg g5] at hm
 refine ⟨fun g6=>?_,fun g6=>?_⟩
 ·simp only [ev0,ev,evV,List.cons_append,List.nil_append,List.getD_cons_zero,List.getD_cons_succ,List.map_cons,List.map_nil,iOf,bOf,sOf,pOf,slLen,z04,cmpI,arI,Value.ite_bool,z01,z02,z00,z03,zdt] at g6
  rw [if_pos g6] at hm
  by_cases hbig:1000000 < t.e.names.length∨4294967296 < t.env.length
  ·rw [if_pos hbig] at hm;cases hm
  rw [if_neg hbig] at hm
  obtain ⟨r,hr1,hr2⟩:=Option.bind_eq_some_iff.1 hm
  obtain ⟨hn,rfl⟩:=pops hr1
  obtain ⟨b,hb,hb2⟩:=Option.map_eq_some_iff.1 hr2
  have hbl:=(List.getElem?_eq_some_iff.1 hb).1
  obtain ⟨z1,_,zs,z2,z3⟩:=hx.kids.get hb
  obtain ⟨anb,adb,akb,anc,adc,akc,rfl,hxa⟩:=Xp.Rep.open z2
  refine z08 z0q (z7o (n:=t.e.names.length) h3 hn (by omega)) ?_
  rintro x K2 ⟨S2,vv,v,l2,h4,hv,rfl⟩
  have hdl:(q.vals.drop (q.vals.length - t.e.names.length)).length=t.e.names.length:=by rw [List.length_drop];omega
  obtain ⟨vb,vc,rfl⟩:=hv.sl
  refine ⟨_,[.slice vb (q.vals.drop (q.vals.length - t.e.names.length)).length vc],rfl,rfl,rfl,z05,fun _=>?_,exVs b anb adb akb anc adc akc,rfl,by simp only [ev0,ev,evV,List.cons_append,List.nil_append,List.getD_cons_zero,List.getD_cons_succ,List.map_cons,List.map_nil,iOf,bOf,sOf,pOf,slLen,z04,cmpI,arI,Value.ite_bool,z01,z02,z00,z03];exact z0b h4.sh (z0b l2 z3),?_⟩
  ·simp only [Chk.holds,ev0,ev,evV,List.cons_append,List.nil_append,List.getD_cons_zero,List.getD_cons_succ,List.map_cons,List.map_nil,iOf,bOf,sOf,pOf,slLen,z04,cmpI,arI,Value.ite_bool,z01,z02,z00,z03];exact ⟨z1,by omega,by omega⟩
  simp only [List.cons_append,List.nil_append]
  refine z08 z1z (zkv h4 (t3.le l2) (hx.names.le l2) hv (by omega) (by omega) (by omega) (by simp only;omega)) ?_
  rintro x K5 ⟨S5,cv5,v5,l5,h8,hs5,rfl⟩
  simp only at hs5
  obtain ⟨ib,ic,rfl⟩:=hs5.sl
  refine ⟨_,[.slice ib (bindE t.env t.e.names q.cells.length).length ic],rfl,rfl,rfl,z1x (by simp only [ev0,ev,evV,List.cons_append,List.nil_append,List.getD_cons_zero,List.getD_cons_succ,List.map_cons,List.map_nil,iOf,bOf,sOf,pOf,slLen,z04,cmpI,arI,Value.ite_bool,z01,z02,z00,z03];exact z0b h8.sh (z0b (PH.le_trans l2 l5) z3)),?_⟩
  simp only [List.cons_append,List.nil_append]
  refine z08 z0a (z28 (e:=b) (env:=bindE t.env t.e.names q.cells.length) h8 fq (exvLe (PH.le_trans l2 l5) hxa) hs5 (by simp only;omega)) ?_
  rintro x K6 h6
  obtain ⟨v,vs,rfl,e1,rfl,e2⟩:=ret (PH.le_trans l2 l5) h6 (by rw [←hb2];rfl)
  exact ⟨_,[],rfl,rfl,rfl,z05,e2⟩
 simp only [ev0,ev,evV,List.cons_append,List.nil_append,List.getD_cons_zero,List.getD_cons_succ,List.map_cons,List.map_nil,iOf,bOf,sOf,pOf,slLen,z04,cmpI,arI,Value.ite_bool,z01,z02,z00,z03,zdf] at g6
 rw [if_neg g6] at hm
 refine ⟨fun g7=>?_,fun g7=>?_⟩
 ·simp only [ev0,ev,evV,List.cons_append,List.nil_append,List.getD_cons_zero,List.getD_cons_succ,List.map_cons,List.map_nil,iOf,bOf,sOf,pOf,slLen,z04,cmpI,arI,Value.ite_bool,z01,z02,z00,z03,zdt] at g7
  rw [if_pos g7] at hm
  obtain ⟨r,hr1,hr2⟩:=Option.bind_eq_some_iff.1 hm
  obtain ⟨y,hy,rfl,hn⟩:=one hr1
  obtain ⟨k,hk,hk2⟩:=Option.map_eq_some_iff.1 hr2
  obtain ⟨hk3,hk4⟩:=zi9 hk
  replace hk4:k < q.cells.length:=hk4
  obtain ⟨cb,cc,hcv⟩:=znw h3
  have hl1:rowAt K1 (some ⟨mr,1,none⟩) [.slice cb q.cells.length cc]:=by rw [←hcv];exact mA_ld h3 rfl
  refine ⟨[.slice cb q.cells.length cc],rfl,by simp only [ev0,ev,evV,List.cons_append,List.nil_append,List.getD_cons_zero,List.getD_cons_succ,List.map_cons,List.map_nil,iOf,bOf,sOf,pOf,slLen,z04,cmpI,arI,Value.ite_bool,z01,z02,z00,z03];exact hl1,?_⟩
  simp only [List.cons_append,List.nil_append]
  refine z08 z0q (z7o (n:=1) h3 hn (by omega)) ?_
  rintro x K2 ⟨S2,vv,v,l2,h4,hv,rfl⟩
  rw [hy] at hv
  obtain ⟨vb,vc,rfl⟩:=hv.sl
  obtain ⟨y1,_,ycs,y2,y3⟩:=hv.get (i:=0) (a:=y) rfl
  obtain ⟨rfl,yf⟩:=z2j y2
  refine ⟨_,[.slice vb 1 vc],rfl,rfl,rfl,z1x (by simp only [ev0,ev,evV,List.cons_append,List.nil_append,List.getD_cons_zero,List.getD_cons_succ,List.map_cons,List.map_nil,iOf,bOf,sOf,pOf,slLen,z04,cmpI,arI,Value.ite_bool,z01,z02,z00,z03];rw [←hcv];exact mA_ld h4 rfl),fun _=>?_,valVs y,rfl,by simp only [ev0,ev,evV,List.cons_append,List.nil_append,List.getD_cons_zero,List.getD_cons_succ,List.map_cons,List.map_nil,iOf,bOf,sOf,pOf,slLen,z04,cmpI,arI,Value.ite_bool,z01,z02,z00,z03];exact z0b h4.sh y3,fun _=>?_,?_⟩
  ·simp only [Chk.holds,ev0,ev,evV,List.cons_append,List.nil_append,List.getD_cons_zero,List.getD_cons_succ,List.map_cons,List.map_nil,iOf,bOf,sOf,pOf,slLen,z04,cmpI,arI,Value.ite_bool,z01,z02,z00,z03];exact ⟨y1,by omega,by simp⟩
  ·obtain ⟨a,ha⟩:∃a,q.cells[k]?=some a:=⟨_,zge hk4⟩
   have:=((h3.to3.row (zms)).get ha).1
   rw [hcv] at this
   simp only [Chk.holds,ev0,ev,evV,List.cons_append,List.nil_append,List.getD_cons_zero,List.getD_cons_succ,List.map_cons,List.map_nil,iOf,bOf,sOf,pOf,slLen,z04,cmpI,arI,Value.ite_bool,z01,z02,z00,z03,hk3];exact ⟨this,by omega,by omega⟩
  simp only [List.cons_append,List.nil_append]
  refine zu1 (k:=k) (v:=y) h4 hk4 yf (by simp only [ev0,ev,evV,List.cons_append,List.nil_append,List.getD_cons_zero,List.getD_cons_succ,List.map_cons,List.map_nil,iOf,bOf,sOf,pOf,slLen,z04,cmpI,arI,Value.ite_bool,z01,z02,z00,z03,hk3];rw [hcv]) (by simp only [List.map_cons,List.map_nil,ev0,ev,evV,List.cons_append,List.nil_append,List.getD_cons_zero,List.getD_cons_succ,List.map_cons,List.map_nil,iOf,bOf,sOf,pOf,slLen,z04,cmpI,arI,Value.ite_bool,z01,z02,z00,z03]) fun K5 h5=>?_
  exact ⟨S2,_,l2,h5,fq,by rw [←hk2];rfl,rfl⟩
 simp only [ev0,ev,evV,List.cons_append,List.nil_append,List.getD_cons_zero,List.getD_cons_succ,List.map_cons,List.map_nil,iOf,bOf,sOf,pOf,slLen,z04,cmpI,arI,Value.ite_bool,z01,z02,z00,z03,zdf] at g7
 rw [if_neg g7] at hm
 simp only [Option.some.injEq] at hm
 exact ⟨S,q,PH.le_refl _,h3,fq,hm,rfl⟩
end
end Go.Proofs.YtjhlndokjkeilaaGreatDoor.Vc
