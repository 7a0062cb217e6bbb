import Derived.Test.YtfkclejklgoccaaGreatPn
set_option linter.unusedSimpArgs false
set_option linter.unusedVariables false
set_option maxRecDepth 100000
set_option maxHeartbeats 8000000
namespace Go.Proofs.YtfkclejklgoccaaGreat.Vc
open Go
def PM(P:Int→Prop)(l:List MvR):Prop:=∀m∈l,P m.to∧P m.fr
theorem PM.snoc{P:Int→Prop}{l:List MvR}{m:MvR}(h:PM P l)(h1:P m.to)(h2:P m.fr):PM P (l++[m]):=fun x hx=>by
 rcases zma.1 hx with hx|hx
 .exact h x hx
 .rw[zsi.1 hx];exact⟨h1,h2⟩
theorem PM.drop{P:Int→Prop}{l:List MvR}(h:PM P l)(t:Int):PM P (dropM l t):=fun x hx=>h x (zmf.1 hx).1
theorem zv8{P:Int→Prop}:∀(k:Nat)(R:List MvR)(to:Int)(out:List MvR),PM P R→PM P out→PM P (moveM k R to out).1∧PM P (moveM k R to out).2
 |0,R,to,out,h1,h2=>⟨h1,h2⟩
 |k+1,R,to,out,h1,h2=>by
  rw[moveM];cases hl:lkM R to with
  |none=>exact⟨h1,h2⟩
  |some fr=>
   simp only;have h3:=h1 _ (z95 hl);split
   .exact⟨h1,h2⟩
   .exact zv8 k (dropM R to) fr (out++[⟨to,fr⟩]) (h1.drop to) (h2.snoc h3.1 h3.2)
theorem Z58{P:Int→Prop}:∀(l R out:List MvR),PM P R→PM P out→PM P (freeM l R out).1∧PM P (freeM l R out).2
 | [],R,out,h1,h2=>⟨h1,h2⟩
 |m::l,R,out,h1,h2=>by
  rw[freeM];obtain⟨h3,h4⟩:=zv8 (R.length+1) R m.to out h1 h2;exact Z58 l _ _ h3 h4
theorem zyh{P:Int→Prop}{sp:Int}(hs:P sp):∀(l R out:List MvR),PM P l→PM P R→PM P out→PM P (z5w sp l R out).2
 | [],R,out,_,_,h2=>h2
 |m::l,R,out,h0,h1,h2=>by
  rw[z5w];have hm:=h0 m (zms);have h3:PM P (z7d sp m R out).1∧PM P (z7d sp m R out).2:=by
   unfold z7d;split
   .refine zv8 _ _ _ _ (fun x hx=>?_) (h2.snoc hs hm.1);obtain⟨y,hy,rfl⟩:=zmp.1 hx;have:=h1 y hy;split
    .rename_i e;exact⟨e▸this.1,hs⟩
    .exact this
   .exact⟨h1,h2⟩
  exact zyh hs l _ _ (fun x hx=>h0 x (zmm _ hx)) h3.1 h3.2
theorem Zgk{P:Int→Prop}{sp:Int}(hs:P sp){l:List MvR}(h:PM P l):PM P (z90 l sp):=by
 unfold z90;split
 .obtain⟨h1,h2⟩:=Z58 l (realM l) [] (fun x hx=>h x (zmf.1 hx).1) (fun x hx=>by cases hx);exact zyh hs l _ _ h h1 h2
 .exact fun x hx=>by cases hx
section
variable {x:FX}{A:Int→Prop}{pu nx:Int}
theorem zul:∀{ms:List MvR},PM (fun n=>0≤n∧n≤31) ms→Fine A [] (znv ms)
 | [],_=>Fine.nil
 |m::ms,h=>by
  have h1:=h m (zms);exact Fine.wth rfl dC h1.1 h1.2 dC (zul fun y hy=>h y (zmm _ hy))
theorem zuk{ms:List MvR}(h:PM (fun n=>0≤n∧n≤31) ms):Fine A [] (z7v ms):=zul (Zgk dC h)
theorem toP_b{i:Nat}(h:i≤31):0≤toP i∧toP i≤31:=by unfold toP;split<;>omega
theorem Z64(hw:XW x):∀(rs:List Int)(i:Nat),i+rs.length≤32→PM (fun n=>0≤n∧n≤31) (x.passM i rs)
 | [],_,_=>fun y hy=>by cases hy
 |r::rs,i,h=>fun y hy=>by
  rw[zlc]at h;rw[FX.passM]at hy;rcases zma.1 hy with hy|hy
  .split at hy
   .rename_i hc;rw[zsi.1 hy];exact⟨toP_b om,reg_b hw hc⟩
   .cases hy
  .exact Z64 hw rs (i+1) om y hy
theorem zxf(hw:XW x)(hp:0≤pu∧pu≤2100):∀(rs:List Int)(i:Nat),i+rs.length≤32→Fine A [] (x.passD pu i rs)
 | [],_,_=>Fine.nil
 |r::rs,i,h=>by
  rw[zlc]at h;rw[FX.passD];refine Fine.cast (d:=[]++[]) (Fine.app ?_ (zxf hw hp rs (i+1) om)) rfl;split
  .exact Fine.nil
  .exact Fine.wth rfl dC (toP_b om) dC (zsm hw hp r) Fine.nil
theorem zwi(hw:XW x)(hp:0≤pu∧pu≤2100){c:Int}{rs:List Int}(h:rs.length≤6):Fine A [] (x.passL pu c rs):=by
 unfold FX.passL;have hl:0+(c::rs).length≤32:=by rw[zlc];omega
 exact Fine.cast (Fine.app (Fine.app (zuk (Z64 hw _ 0 hl)) (zxf hw hp _ 0 hl)) (Fine.num dC Fine.nil)) rfl
theorem Z7n:∀(ws:List Int)(j:Nat),(∀w∈ws,0≤w∧w≤31)→j+ws.length≤32767→Fine A [] (stW j ws)
 | [],_,_,_=>Fine.nil
 |w::ws,j,h,hl=>by
  rw[zlc]at hl;rw[stW];exact Fine.wth rfl dC (h w (zms)) dC om (Z7n ws (j+1) (fun y hy=>h y (zmm _ hy)) om)
theorem Z8i:∀(ws:List Int)(j:Nat),(∀w∈ws,0≤w∧w≤31)→j+ws.length≤32767→Fine A [] (ldW j ws)
 | [],_,_,_=>Fine.nil
 |w::ws,j,h,hl=>by
  rw[zlc]at hl;rw[ldW];exact Fine.wth rfl dC (h w (zms)) dC om (Z8i ws (j+1) (fun y hy=>h y (zmm _ hy)) om)
theorem Zlz(hw:XW x)(b w:Int)(h:w∈x.saveW b):0≤w∧w≤31:=by
 unfold FX.saveW at h;rcases zma.1 h with h|h
 .obtain⟨r,h1,rfl⟩:=zmp.1 h;exact reg_b hw (zmf.1 h1).2
 .split at h
  .rw[zsi.1 h];decide
  .cases h
theorem FineIn.one{l:List ItemR}(h:Fine A [nx] l):FineIn A nx (nx+1) l:=⟨om,_,h,sM,fun n=>by simp only[zmc,List.not_mem_nil,or_false];omega⟩
theorem zx1(hw:XW x)(hA:BaseA A){b place:Int}{e:EndX}(hl:(x.saveW b).length≤2001)(he:e.args.length≤6)(hpl:A place)(hnx:A nx)(hnext:A (x.labs.getD e.next.toNat 0)):FineIn A nx (nx+1) (x.callL b e place nx):=by
 have hs:=hw.slots;have hww:=fun w hw'=>Zlz hw b w hw';unfold FX.callL;generalize x.saveW b=ws at *;have e1:arI .shl .i64 (arI .add .i64 x.slots (ws.length:Int)) 3=8*(x.slots+ws.length):=by
  have e0:arI .add .i64 x.slots (ws.length:Int)=x.slots+ws.length:=w64 om om;rw[e0];show IntKind.i64.wrap ((x.slots+ws.length)*2^3)=_;rw[w64 om om];omega
 rw[e1];have h1:Fine A [] [(⟨5,⟨20,26,0,0,0⟩,nx,0⟩:ItemR),⟨0,⟨18,26,26,0,15⟩,0,0⟩,⟨0,⟨15,26,26,0,8*(x.slots+ws.length)⟩,0,0⟩,⟨0,⟨23,26,30,0,(ws.length:Int)⟩,0,0⟩]:=
  Fine.plc dC hnx (Fine.far rfl dC dC dC dC (Fine.wth rfl dC dC dC om (Fine.wth rfl dC dC dC om Fine.nil)))
 have h2:Fine A [nx] [(⟨3,⟨28,0,0,0,0⟩,place,0⟩:ItemR),⟨1,⟨0,0,0,0,0⟩,nx,0⟩,⟨0,⟨15,27,1,0,0⟩,0,0⟩]:=
  Fine.jmp dC hpl (Fine.lab (Fine.wth rfl dC dC dC dC Fine.nil))
 exact FineIn.one (Fine.cast (Fine.app (Fine.app (Fine.app (Fine.app (Fine.app (Fine.app (Fine.app (Fine.app (Z7n ws 0 hww om) h1) (zcb om)) (zwi hw om he)) h2) (zcb om)) (Z8i ws 0 hww om)) (zei hw dC dC)) (Fine.jmp dC hnext Fine.nil)) rfl)
theorem Z2b(hw:XW x)(hA:BaseA A)(hsv:∀b,(x.saveW b).length≤2001){b:Int}{e:EndX}(hok:FinGood x.p e)(hlab:∀n:Int,0≤n→n<x.p.blocks.length→A (x.lab n))(hN:∀n,nx≤n→n<endN nx e→A n):FineIn A nx (endN nx e) (x.endL b nx e):=by
 have hs:=hw.slots;have hk:=hok.kind;have hfew:=hok.few;have hnext:e.kind=0∨e.kind=1∨e.kind=4∨e.kind=6→A (x.lab e.next):=fun h=>by
  have:=hok.next h;exact hlab _ this.1 this.2
 have e0:arI .sub .i64 0 x.slots=0-x.slots:=w64 om om;have lv:∀to,A to→Fine A [] (x.leaveL e to):=fun to h=>by
  unfold FX.leaveL;exact Fine.cast (Fine.app (Fine.app (zwi hw dC hfew) (zcb (by rw[e0];omega))) (Fine.jmp dC h Fine.nil)) rfl
 unfold FX.endL endN at *;by_cases k0:e.kind=0
 .rw[qj k0,qc om];exact FineIn.none (Fine.jmp dC (hnext (.inl k0)) Fine.nil)
 rw[qc k0];by_cases k1:e.kind=1
 .rw[qj k1,qc om];have h2:=hok.els k1;refine FineIn.none ?_;unfold FX.askL;exact Fine.cast (Fine.app (ze0 hw dC dC) (Fine.num dC (Fine.bra rfl dC (get_b hw dC) dC (hlab _ h2.1 h2.2) (Fine.jmp dC (hnext (.inr (.inl k1))) Fine.nil)))) rfl
 rw[qc k1];by_cases k2:e.kind=2
 .rw[qj k2,qc (show ¬(e.kind=4∨e.kind=6) by omega)];exact FineIn.none (Zf9 hw dC hA)
 rw[qc k2];by_cases k3:e.kind=3
 .rw[qj k3,qc (show ¬(e.kind=4∨e.kind=6) by omega)];exact FineIn.none (lv 3 (hA _ dC))
 rw[qc k3];by_cases k5:e.kind=5
 .rw[qj k5,qc (show ¬(e.kind=4∨e.kind=6) by omega)];exact FineIn.none (lv 7 (hA _ dC))
 rw[qc k5];have hq:e.kind=4∨e.kind=6:=om;rw[qj hq]at hN⊢;have hn:=hnext om;have hnx:=hN nx om om;by_cases k4:e.kind=4
 .rw[qj k4];exact zx1 hw hA (hsv b) hfew (hA _ dC) hnx hn
 rw[qc k4,qj (show e.kind=6 by omega)];exact zx1 hw hA (hsv b) hfew (hA _ dC) hnx hn
end
structure FunW(c:CodeX)(x:FX):Prop where
 gc:GoodC c
 hw:XW x
 hH:x.p.holds≤1000
 hsv:∀b,(x.saveW b).length≤2001
 live0:∀r∈liveL x.p 0 0,0≤r
structure NamesA(c:CodeX)(x:FX)(A:Int→Prop):Prop where
 base:BaseA A
 ent:∀n:Int,0≤n→n<c.length→A (x.ents.getD n.toNat 0)
 lab:∀n:Int,0≤n→n<x.p.blocks.length→A (x.lab n)
theorem zng(c:CodeX)(x:FX):NamesA c x fun _=>True:=⟨fun _ _=>trivial,fun _ _ _=>trivial,fun _ _ _=>trivial⟩
section
variable {c:CodeX}{x:FX}
theorem zru{A:Int→Prop}{f:Int→List ItemR}:∀{rs:List Int},(∀r∈rs,Fine A [] (f r))→Fine A [] (rs.flatMap f)
 | [],_=>Fine.nil
 |r::rs,h=>by
  rw[qQ];exact Fine.cast (Fine.app (h r (zms)) (zru fun q hq=>h q (zmm _ hq))) rfl
theorem zxo{A:Int→Prop}:∀{js:List Nat},(∀j∈js,j≤32767)→Fine A [] (js.map zeroR)
 | [],_=>Fine.nil
 |j::js,h=>by
  have:=h j (zms);rw[wa];unfold zeroR;exact Fine.wth rfl dC dC dC om (zxo fun q hq=>h q (zmm _ hq))
theorem Z2a(W:FunW c x){A:Int→Prop}(hA:BaseA A){lab nx:Int}(hN:∀n,nx≤n→n<x.roomN nx→A n):nx≤x.roomN nx∧∃d,Fine A (lab::d) (x.entL lab nx)∧d.Nodup∧∀n,n∈d↔nx≤n∧n<x.roomN nx:=by
 have hw:=W.hw;have hs:=hw.slots;have hpr:=hw.params;have hhead:Fine A [lab] [(⟨1,⟨0,0,0,0,0⟩,lab,0⟩:ItemR),⟨4,⟨20,26,0,0,0⟩,0,x.p.params⟩,⟨2,⟨25,26,28,0,0⟩,22,0⟩]:=
  Fine.lab (Fine.num dC (Fine.bra rfl dC dC dC (hA _ dC) Fine.nil))
 have hz:Fine A [] ((List.range x.slots.toNat).map zeroR):=zxo fun j hj=>by have:=wg.1 hj;omega
 have hD:Fine A [] ((liveL x.p 0 0).flatMap x.entD):=zru fun r hr=>by
  have h0:=W.live0 r hr;unfold FX.entD;split
  .rename_i h;exact Fine.wth rfl dC om dC (zsm hw dC r) Fine.nil
  .exact Fine.nil
 have hM:PM (fun n=>0≤n∧n≤31) ((liveL x.p 0 0).flatMap x.entM):=fun m hm=>by
  obtain⟨r,hr,h⟩:=List.mem_flatMap.1 hm;have h0:=W.live0 r hr;unfold FX.entM at h;split at h
  .rename_i hc;rw[zsi.1 h];exact⟨reg_b hw hc.2,by show 0≤1+r∧1+r≤31;omega⟩
  .cases h
 have hNm:Fine A [] ((liveL x.p 0 0).flatMap x.entN):=zru fun r hr=>by
  unfold FX.entN;split
  .exact Fine.nil
  .exact zsl hw dC
 have hroom:nx≤x.roomN nx∧∃d,Fine A d (x.roomL nx)∧d.Nodup∧∀n,n∈d↔nx≤n∧n<x.roomN nx:=by
  unfold FX.roomL FX.roomN at *;by_cases h:0<x.room
  .rw[qj h]at hN;simp only[qj h];have hn:=hN nx om om;refine⟨om,[nx],Fine.num dC (Fine.bra rfl dC dC dC hn (Fine.jmp dC (hA _ dC) (Fine.lab Fine.nil))),sM,fun n=>?_⟩;simp only[zmc,List.not_mem_nil,or_false];omega
  .simp only[qc h];refine⟨om,[],Fine.nil,List.nodup_nil,fun n=>?_⟩;simp only[List.not_mem_nil,false_iff];omega
 obtain⟨hle,d,hd,hn,hdn⟩:=hroom;refine⟨hle,d,?_,hn,hdn⟩;unfold FX.entL;exact Fine.cast (Fine.app (Fine.app (Fine.app (Fine.app (Fine.app (Fine.app hhead hd) hz) (zcb om)) hD) (zuk hM)) hNm) sM
theorem zg3(W:FunW c x):∀(ys:List InsX)(nx:Int)(A:Int→Prop),NamesA c x A→(∀y∈ys,insOk c x.p y=true)→(∀n,nx≤n→n<inssN nx ys→A n)→FineIn A nx (inssN nx ys) (x.inssL nx ys)
 | [],nx,A,_,_,_=>FineIn.none Fine.nil
 |y::ys,nx,A,hA,hok,hN=>by
  rw[FX.inssL,inssN];rw[inssN]at hN;have h1:=(Z24 (A:=fun _=>True) (pu:=0) W.gc W.hw dC (zng c x).base W.hH y (hok y (zms)) (zng c x).ent (nx:=nx) fun _ _ _=>trivial).1;have h2:=(zg3 W ys (insN nx y) (fun _=>True) (zng c x) (fun z hz=>hok z (zmm _ hz)) fun _ _ _=>trivial).1;exact FineIn.app (Z24 W.gc W.hw dC hA.base W.hH y (hok y (zms)) hA.ent fun n q1 q2=>hN n q1 om) (zg3 W ys (insN nx y) A hA (fun z hz=>hok z (zmm _ hz)) fun n q1 q2=>hN n om q2)
theorem zg2(W:FunW c x)(L0:Int):∀(bs:List BlkX)(i:Nat)(nx:Int)(A:Int→Prop),NamesA c x A→(∀b∈bs,(∀y∈b.ins,insOk c x.p y=true)∧FinGood x.p b.e)→(∀j:Nat,j<i+bs.length→x.lab (j:Int)=L0+(j:Int))→L0+((i+bs.length:Nat):Int)≤nx→(∀n,nx≤n→n<blksN nx bs→A n) →
  nx≤blksN nx bs∧∃d,Fine A d (x.blksL i nx bs)∧d.Nodup∧∀n,n∈d↔(L0+(i:Int)≤n∧n<L0+((i+bs.length:Nat):Int))∨(nx≤n∧n<blksN nx bs)
 | [],i,nx,A,_,_,_,_,_=>⟨by rw[blksN];omega,[],Fine.nil,List.nodup_nil,fun n=>by simp only[List.not_mem_nil,false_iff,blksN,zln];omega⟩
 |b::bs,i,nx,A,hA,hok,hL,hlo,hN=>by
  rw[FX.blksL,blksN];rw[blksN]at hN;rw[zlc]at hL hlo⊢;have hb:=hok b (zms);have hT:=zng c x;have t1:=(zg3 W b.ins nx (fun _=>True) hT hb.1 fun _ _ _=>trivial).1;have t2:=(Z2b (A:=fun _=>True) (b:=(i:Int)) (nx:=inssN nx b.ins) W.hw hT.base W.hsv hb.2 hT.lab fun _ _ _=>trivial).1;have hok':∀b'∈bs,(∀y∈b'.ins,insOk c x.p y=true)∧FinGood x.p b'.e:=fun b' h=>hok b' (zmm _ h);have hL':∀j:Nat,j<i+1+bs.length→x.lab (j:Int)=L0+(j:Int):=fun j hj=>hL j om;have t3:=(zg2 W L0 bs (i+1) (endN (inssN nx b.ins) b.e) (fun _=>True) hT hok' hL' om fun _ _ _=>trivial).1;have f1:=zg3 W b.ins nx A hA hb.1 fun n q1 q2=>hN n q1 om;have f2:=Z2b (A:=A) (b:=(i:Int)) (nx:=inssN nx b.ins) W.hw hA.base W.hsv hb.2 hA.lab fun n q1 q2=>hN n om om;obtain⟨g1,d3,g3,g4,g5⟩:=zg2 W L0 bs (i+1) (endN (inssN nx b.ins) b.e) A hA hok' hL' om fun n q1 q2=>hN n om q2;obtain⟨e1,d2,e3,e4,e5⟩:=FineIn.app f1 f2;have hlab:=hL i om;rw[hlab];refine⟨om,_,Fine.cast (Fine.app (Fine.app (Fine.lab (n:=L0+(i:Int)) Fine.nil) e3) g3 |> fun h=>(by simpa only[zaa]using h:Fine A _ _)) rfl,?_,fun n=>?_⟩
  .simp only[cns];refine List.nodup_cons.2 ⟨fun h=>?_,List.nodup_append.2 ⟨e4,g4,fun p hp q hq=>?_⟩⟩
   .rcases zma.1 h with h|h
    .have:=(e5 _).1 h;omega
    .have:=(g5 _).1 h;omega
   .have:=(e5 p).1 hp;have:=(g5 q).1 hq;omega
  .simp only[cns,zmc,zma];rw[e5,g5];omega
theorem Z2x(W:FunW c x){A:Int→Prop}(hA:NamesA c x A)(hok:∀b∈x.p.blocks,(∀y∈b.ins,insOk c x.p y=true)∧FinGood x.p b.e)(hb0:0<x.p.blocks.length){L0 lab:Int}(hL:∀j:Nat,j<x.p.blocks.length→x.lab (j:Int)=L0+(j:Int))(hlab:lab<L0)(hN:∀n,L0+(x.p.blocks.length:Int)≤n→n<x.funN (L0+x.p.blocks.length)→A n):
  L0+(x.p.blocks.length:Int)≤x.funN (L0+x.p.blocks.length)∧∃d,Fine A d (x.funL lab (L0+x.p.blocks.length))∧d.Nodup∧∀n,n∈d↔n=lab∨(L0≤n∧n<x.funN (L0+x.p.blocks.length)):=by
 have hT:=zng c x;have hL':∀j:Nat,j<0+x.p.blocks.length→x.lab (j:Int)=L0+(j:Int):=fun j hj=>hL j om;obtain⟨t1,_⟩:=Z2a W hT.base (lab:=lab) (nx:=L0+x.p.blocks.length) fun _ _ _=>trivial;obtain⟨t2,_⟩:=zg2 W L0 x.p.blocks 0 (x.roomN (L0+x.p.blocks.length)) (fun _=>True) hT hok hL' om fun _ _ _=>trivial;have hfN:x.funN (L0+x.p.blocks.length)=blksN (x.roomN (L0+x.p.blocks.length)) x.p.blocks:=rfl;rw[hfN]at hN⊢;obtain⟨_,d1,a1,a2,a3⟩:=Z2a W hA.base (lab:=lab) (nx:=L0+x.p.blocks.length) fun n q1 q2=>hN n q1 om;obtain⟨_,d2,b1,b2,b3⟩:=zg2 W L0 x.p.blocks 0 (x.roomN (L0+x.p.blocks.length)) A hA hok hL' om fun n q1 q2=>hN n om q2;refine⟨om,_,Fine.app (Fine.app a1 (Fine.jmp (n:=x.lab 0) dC (hA.lab 0 om om) Fine.nil)) b1,?_,fun n=>?_⟩
 .simp only[zan,List.cons_append];refine List.nodup_cons.2 ⟨fun h=>?_,List.nodup_append.2 ⟨a2,b2,fun p hp q hq=>?_⟩⟩
  .rcases zma.1 h with h|h
   .have:=(a3 _).1 h;omega
   .have:=(b3 _).1 h;omega
  .have:=(a3 p).1 hp;have:=(b3 q).1 hq;omega
 .simp only[zan,List.cons_append,zmc,zma];rw[a3,b3];omega
end
theorem Zjm{i j:Nat}(h:entA i=entA j):i=j:=by
 unfold entA at h;split at h<;>split at h<;>omega
theorem zza{i n:Nat}(h:i<n):entA i<10000+(n:Int):=by
 unfold entA;split<;>omega
theorem Z2g{c:CodeX}{i:Nat}(h:i<c.length):(entsC c).getD i 0=entA i:=by
 unfold entsC;rw[zgd,zem,List.getElem?_range h];rfl
theorem fxP_w{c:CodeX}(gc:GoodC c){p:PrcX}(hp:p∈c)(hk:PlOk p)(ents:List Int)(syms:List (List UInt8))(stack nx:Int):FunW c (fxP p ents syms stack nx):=by
 have gp:=gc.prc hp;obtain⟨hfit,hfew⟩:=gc.fit hp;have hlo:=hk.lo;have hhi:=hk.hi;have hlen:=hk.len;have hreg:=gp.regs;have hf:FnOk (fxP p ents syms stack nx):=⟨hfit,hfew,fun r hr=>by
  have:=zou gp r hr;show 0≤r∧r<((colP p 24).1.length:Int);omega,by show(colP p 24).1.length≤2000;omega⟩
 refine⟨gc,⟨fun r=>?_,by show 0≤(colP p 24).2-24∧(colP p 24).2-24≤2001;omega,gp.params⟩,gp.holds.2,fun b=>Z2e hf b,fun r hr=>(hf.live hr).1⟩;show 0≤(colP p 24).1.getD r.toNat 0∧(colP p 24).1.getD r.toNat 0≤2100;rw[zgd];cases h:(colP p 24).1[r.toNat]? with
 |none=>exact⟨dC,dC⟩
 |some a=>
  have:=hk.all _ a h;show 0≤a∧a≤2100;omega
noncomputable def genE(ents:List Int)(syms:List (List UInt8))(stack:Int):Int→List PrcX→Int
 |nx,[]=>nx
 |nx,p::ps=>genE ents syms stack ((fxP p ents syms stack nx).funN (nx+p.blocks.length)) ps
section
variable {c:CodeX}{syms:List (List UInt8)}{stack:Int}
theorem Z0q{p:PrcX}{ents:List Int}{nx:Int}{j:Nat}(h:j<p.blocks.length):(fxP p ents syms stack nx).lab (j:Int)=nx+(j:Int):=by
 show((List.range p.blocks.length).map fun j:Nat=>nx+(j:Int)).getD j 0=_;rw[zgd,zem,List.getElem?_range h];rfl
theorem Zgq(gc:GoodC c){p:PrcX}(hp:p∈c):∀b∈p.blocks,(∀y∈b.ins,insOk c p y=true)∧FinGood p b.e:=fun b hb=>⟨((gc.prc hp).ins b hb).2,z81 ((gc.prc hp).fin b hb)⟩
theorem Zc9(gc:GoodC c){p:PrcX}(hp:p∈c)(hk:PlOk p)(nx:Int):nx+p.blocks.length≤(fxP p (entsC c) syms stack nx).funN (nx+p.blocks.length):=
 (Z2x (x:=fxP p (entsC c) syms stack nx) (L0:=nx) (lab:=nx-1) (fxP_w gc hp hk _ _ _ _) (zng c _) (Zgq gc hp) (gc.prc hp).blocks.1 (fun j hj=>Z0q hj) om fun _ _ _=>trivial).1
theorem Zc1(gc:GoodC c):∀(ps:List PrcX)(nx:Int),(∀p∈ps,p∈c∧PlOk p)→nx≤genE (entsC c) syms stack nx ps
 | [],nx,_=>by rw[genE];omega
 |p::ps,nx,h=>by
  rw[genE];obtain⟨h1,h2⟩:=h p (zms);have h3:=Zc9 (syms:=syms) (stack:=stack) gc h1 h2 nx;have h4:=Zc1 gc ps ((fxP p (entsC c) syms stack nx).funN (nx+p.blocks.length)) fun q hq=>h q (zmm _ hq);omega
theorem Z1y(gc:GoodC c){A:Int→Prop}(hA:BaseA A)(hE:∀j,j<c.length→A (entA j)){out:List ItemR}:∀(ps:List PrcX)(i:Nat)(nx:Int)(l:List ItemR)(d:List Int),(∀p∈ps,p∈c∧PlOk p)→10000+(c.length:Int)≤nx→i+ps.length=c.length →
  Fine A d l→d.Nodup→(∀n,n∈d↔(∃j,j<i∧n=entA j)∨(10000+(c.length:Int)≤n∧n<nx))→(∀n,10000+(c.length:Int)≤n→n<genE (entsC c) syms stack nx ps→A n)→genF (entsC c) syms stack i nx l ps=some out →
  ∃d',Fine A d' out∧d'.Nodup∧out.length≤max l.length 64536∧∀n,n∈d'↔(∃j,j<c.length∧n=entA j)∨(10000+(c.length:Int)≤n∧n<genE (entsC c) syms stack nx ps)
 | [],i,nx,l,d,_,_,hi,hl,hn,hd,_,h=>by
  rw[genF]at h;obtain rfl:=qW h;rw[zln,Nat.add_zero]at hi;refine⟨d,hl,hn,om,fun n=>?_⟩;rw[hd,hi,genE]
 |p::ps,i,nx,l,d,hps,hnx,hi,hl,hn,hd,hN,h=>by
  rw[zlc]at hi;obtain⟨h1,h2⟩:=hps p (zms);have hps':∀q∈ps,q∈c∧PlOk q:=fun q hq=>hps q (zmm _ hq);rw[genE]at hN⊢;rw[genF]at h;split at h
  .cases h
  rename_i hshort;have h3:=Zc9 (syms:=syms) (stack:=stack) gc h1 h2 nx;have h4:=Zc1 (syms:=syms) (stack:=stack) gc ps ((fxP p (entsC c) syms stack nx).funN (nx+p.blocks.length)) hps';have hlab:(entsC c).getD i 0=entA i:=Z2g om;have hlt:entA i<nx:=by have:=zza (show i<c.length by omega);omega
  rw[hlab]at h hshort;obtain ⟨_,d2,f2,n2,b2⟩:=Z2x (x:=fxP p (entsC c) syms stack nx) (A:=A) (L0:=nx) (lab:=entA i) (fxP_w gc h1 h2 _ _ _ _) ⟨hA,fun n q1 q2=>by
    show A ((entsC c).getD n.toNat 0);rw[Z2g om];exact hE _ om,fun n q1 q2=>by
    obtain⟨m,rfl⟩:∃m:Nat,n=(m:Int):=⟨n.toNat,om⟩;have q3:m<p.blocks.length:=by
     have:((m:Nat):Int)<(p.blocks.length:Int):=q2;omega
    rw[Z0q q3];exact hN _ om om⟩ (Zgq gc h1) (gc.prc h1).blocks.1 (fun j hj=>Z0q hj) hlt fun n q1 q2=>by
    have q1':nx+(p.blocks.length:Int)≤n:=q1;have q2':n<(fxP p (entsC c) syms stack nx).funN (nx+p.blocks.length):=q2;exact hN n om om
  have b2':∀n,n∈d2↔n=entA i∨(nx≤n∧n<(fxP p (entsC c) syms stack nx).funN (nx+p.blocks.length)):=b2;have f2':Fine A d2 ((fxP p (entsC c) syms stack nx).funL (entA i) (nx+p.blocks.length)):=f2;obtain ⟨d',g1,g2,g3,g4⟩:=Z1y gc hA hE ps (i+1) ((fxP p (entsC c) syms stack nx).funN (nx+p.blocks.length)) _ (d++d2) hps' om om (hl.app f2') (List.nodup_append.2 ⟨hn,n2,fun a ha b hb=>by
   rcases(hd a).1 ha with⟨j,hj,rfl⟩|ha
   .rcases(b2' b).1 hb with rfl|hb
    .exact fun e=>by have:=Zjm e;omega
    .have:=zza (show j<c.length by omega);omega
   .rcases(b2' b).1 hb with rfl|hb
    .have:=zza (show i<c.length by omega);omega
    .omega⟩) (fun n=>by
   rw[zma,hd,b2'];constructor
   .rintro((⟨j,hj,e⟩|h)|(e|h))
    .exact .inl ⟨j,om,e⟩
    .exact .inr om
    .exact .inl ⟨i,om,e⟩
    .exact .inr om
   .rintro(⟨j,hj,e⟩|h)
    .by_cases hji:j=i
     .subst hji;exact .inr (.inl e)
     .exact .inl (.inl ⟨j,om,e⟩)
    .by_cases hq:n<nx
     .exact .inl (.inr om)
     .exact .inr (.inr om)) hN h
  exact⟨d',g1,g2,om,g4⟩
end
theorem Zi2{l:List ItemR}{n:Int}(h:n∈defsR l):(findR l n).isSome=true:=by
 unfold findR;rw[List.findIdx?_isSome,wl];obtain⟨x,hx,hx2⟩:=List.mem_filterMap.1 h;refine⟨x,hx,?_⟩;unfold isLab;split at hx2
 .rename_i hk;rw[hk,qW hx2];simp
 .cases hx2
theorem Zkd{l:List ItemR}{n:Int}(h:(findR l n).isSome=true):n∈defsR l:=by
 unfold findR at h;rw[List.findIdx?_isSome,wl]at h;obtain⟨x,hx,h2⟩:=h;unfold isLab at h2;simp only[zba,zdt]at h2;exact List.mem_filterMap.2 ⟨x,hx,by rw[qj h2.1,h2.2]⟩
theorem Z6k:∀(l seen:List ItemR),(∀x∈l,mayR x=true)→(defsR (seen++l)).Nodup→badR seen l=0
 | [],seen,_,_=>by rw[badR]
 |x::l,seen,hm,hn=>by
  rw[badR,qc (by rw[hm x (zms)];simp)];rw[qc]
  .refine Z6k l (seen++[x]) (fun y hy=>hm y (zmm _ hy)) ?_;rw[zaa];exact hn
  .rintro⟨hk,hf⟩;have h1:=Zkd hf;unfold defsR at hn;rw[List.filterMap_append,List.filterMap_cons,qj hk]at hn;exact(List.nodup_append.1 hn).2.2 _ h1 _ (zms) rfl
theorem Zji{A:Int→Prop}{d:List Int}{l:List ItemR}(h:Fine A d l)(hn:d.Nodup)(hA:∀n,A n→n∈d)(hl:l.length≤65536):errA (asmR l)=0:=by
 have hb:=Z6k l [] h.may (by rw[List.nil_append,h.defs];exact hn);unfold asmR;rw[qc om,qc (by rw[hb];decide),qc (by rw[hb];decide),qc]
 .rfl
 .intro hany;obtain⟨x,hx,h2⟩:=wl.1 hany;simp only[zba]at h2;have h3:=Zi2 (l:=l) (n:=x.label) (by rw[h.defs];exact hA _ (h.names x hx h2.1));rw[Option.isNone_iff_eq_none]at h2;rw[h2.2]at h3;cases h3
noncomputable def rtD:List Int:=defsR (rt_codeR++gc_codeR)
theorem Zn0:(rt_codeR++gc_codeR).all mayR=true:=kr
theorem Zi8:(rt_codeR++gc_codeR).all (fun x=>!z0z x||rtD.contains x.label||decide (x.label=10))=true:=kr
theorem Zig:decide rtD.Nodup=true:=kr
theorem rt_lo:rtD.all (fun n=>decide (n<10000)&&decide (n≠10))=true:=kr
theorem Zlq:baseN.all (fun n=>rtD.contains n)=true:=kr
theorem Zjg{c:CodeX}(gc:GoodC c){stack:Int}(hk:∀p∈c,PlOk p){l:List ItemR}(hg:genC c stack=.inr l):errA (asmR (Zne l))=0:=by
 have hF:genF (entsC c) (gsC c) stack 0 (10000+(c.length:Int)) [] c=some l:=by
  unfold genC at hg;split at hg
  .cases hg
  split at hg
  .cases hg
  cases h:genF (entsC c) (gsC c) stack 0 (10000+(c.length:Int)) [] c with
  |none=>rw[h]at hg;cases hg
  |some l'=>rw[h]at hg;rw[Sum.inr.inj hg]
 obtain⟨A,hAdef⟩:∃A:Int→Prop,A=fun n=>n∈rtD∨(∃j,j<c.length∧n=entA j)∨(10000+(c.length:Int)≤n∧n<genE (entsC c) (gsC c) stack (10000+(c.length:Int)) c):=⟨_,rfl⟩;have hbase:BaseA A:=fun n hn=>by
  rw[hAdef];exact .inl (List.contains_iff_mem.1 (zat.1 Zlq n hn))
 have hcl:0<c.length:=by
  obtain⟨p,l',e,_⟩:=gc.first;rw[e];simp
 obtain⟨d,f1,n1,len1,b1⟩:=Z1y (A:=A) (syms:=gsC c) (stack:=stack) gc hbase (fun j hj=>by rw[hAdef];exact .inr (.inl ⟨j,hj,rfl⟩)) c 0 (10000+(c.length:Int)) [] [] (fun p hp=>⟨hp,hk p hp⟩) om om Fine.nil List.nodup_nil (fun n=>by simp only[List.not_mem_nil,false_iff,not_or,not_exists];exact⟨fun j h=>om,om⟩) (fun n q1 q2=>by rw[hAdef];exact .inr (.inr ⟨q1,q2⟩)) hF;have hrt:Fine A rtD (rt_codeR++gc_codeR):=by
  refine⟨fun x hx=>zat.1 Zn0 x hx,rfl,fun x hx hn=>?_⟩;have:=zat.1 Zi8 x hx;simp only[hn,Bool.not_true,Bool.false_or,qu,zdt]at this;rw[hAdef];rcases this with h|h
  .exact .inl (List.contains_iff_mem.1 h)
  .exact .inr (.inl ⟨0,hcl,h⟩)
 have hlo:∀n∈rtD,n<10000∧n≠10:=fun n hn=>by
  have:=zat.1 rt_lo n hn;simpa using this
 refine Zji (hrt.app f1) (List.nodup_append.2 ⟨qZ Zig,n1,fun a ha b hb e=>?_⟩) (fun n hn=>?_) ?_
 .subst e;have h1:=hlo a ha;rcases(b1 a).1 hb with⟨j,hj,e⟩|h2
  .unfold entA at e;split at e<;>omega
  .omega
 .rw[hAdef]at hn;rw[zma];rcases hn with h|h
  .exact .inl h
  .exact .inr ((b1 n).2 h)
 .have:=Zjk;rw[zla,zla];simp only[zln]at len1;omega
theorem Zep:liveL fiveP=liveF 2 fiveP:=Z4x kr
theorem zp5:roomC [fiveP]=2:=kr
theorem Zf8(stack:Int):(fxP fiveP [10] [] stack 10001).funL 10 10002=zni 10 10001 40:=by
 unfold FX.funL FX.entL;rw[show liveL (fxP fiveP [10] [] stack 10001).p 0 0=[]from by show liveL fiveP 0 0=[];rw[Zep];kernel_rfl]
 kernel_rfl
theorem Zeu:genC [fiveP] 2=.inr (zni 10 10001 40):=by
 unfold genC;rw[qc (by rw[zpv];decide),qc (by rw[zp5];decide)];rw[show genF (entsC [fiveP]) (gsC [fiveP]) 2 0 (10000+([fiveP].length:Int)) [] [fiveP]=(if 64536<([]++(fxP fiveP [10] [] 2 10001).funL 10 10002).length then none else some ([]++(fxP fiveP [10] [] 2 10001).funL 10 10002))from by kernel_rfl];rw[Zf8]
 kernel_rfl
theorem Zhb:genC [fiveP] 1=.inl 250:=by
 unfold genC;rw[qc (by rw[zpv];decide),qj (by rw[zp5];decide)]
theorem zm8:∀p∈[fiveP],∀b∈p.blocks,b.ins.length≤4611686018427387904:=fun p hp b hb=>by
 rw[zsi.1 hp]at hb;rw[zsi.1 hb];decide
theorem zo0(S:PH):Gives zP 12 [] S (.bool true):=by
 refine qr zin [] ?_;refine z02 (qb 37) (zw4 S) ?_;rintro _ K1 ⟨c1,rfl,s1,l1⟩;obtain⟨b1,d1,rfl⟩:=s1.sl;refine⟨_,[_],rfl,rfl,rfl,z01,?_⟩;simp only[cns];refine z02 (qb 14) (zw9 [fiveP] _ K1 s1 zm8) ?_;rintro _ K2 ⟨l2,rfl,_⟩;rw[zpv,zp5];refine⟨_,[vi 2,vi 0],rfl,by rfl,rfl,z01,?_⟩;simp only[cns];refine z02 (qb 37) (zw4 K2) ?_;rintro _ K3 ⟨c3,rfl,s3,l3⟩;obtain⟨b3,d3,rfl⟩:=s3.sl;refine⟨_,[_],rfl,rfl,rfl,z01,?_⟩;simp only[cns];refine z02 (qb 15) (Z03 [fiveP] _ 2 K3 s3 zm8 dC) ?_;rw[Zeu];rintro _ K4 ⟨l4,⟨v4,sv4,rfl,s4,s4',_⟩,_⟩;obtain⟨b4,d4,rfl⟩:=s4.sl;obtain⟨b4',d4',rfl⟩:=s4'.sl;refine⟨_,[.slice b4 (zni 10 10001 40).length d4,.slice b4' _ d4',vi 0],rfl,by rfl,rfl,z01,?_⟩;simp only[cns];refine z02 (qb 37) (zw4 K4) ?_;rintro _ K5 ⟨c5,rfl,s5,l5⟩;obtain⟨b5,d5,rfl⟩:=s5.sl;refine⟨_,[_],rfl,rfl,rfl,z01,?_⟩;simp only[cns];refine z02 (qb 15) (Z03 [fiveP] _ 1 K5 s5 zm8 dC) ?_;rw[Zhb];rintro _ K6 ⟨l6,rfl,_⟩;refine⟨_,[.slice none 0 0,.slice none 0 0,vi 250],rfl,rfl,rfl,z01,?_⟩;simp only[cns];refine z03 [vi 40,.bool true] (qb 10) (zqn ⟨1,5,[]⟩ [] (.slice none 0 0) K6 (z15 _)) rfl z01 fun K7 l7=>?_;simp only[cns];refine z02 (qb 17) (zy7 K7) ?_;rintro _ K8 ⟨v8,rfl,s8,l8⟩;obtain⟨b8,d8,rfl⟩:=s8.sl;refine⟨_,[_],rfl,rfl,rfl,z01,?_⟩;simp only[cns];refine z02 (qb 18) (zyp K8) ?_;rintro _ K9 ⟨v9,rfl,s9,l9⟩;obtain⟨b9,d9,rfl⟩:=s9.sl;refine⟨_,[_],rfl,rfl,rfl,z01,?_⟩;simp only[cns];have l49:=ww l5 (ww l6 (ww l7 (ww l8 l9)));refine z02 (qb 16) (zus rt_codeR gc_codeR (zni 10 10001 40) 2 10 _ _ _ K9 (s8.le l9) s9 (s4.le l49) dC dC dC) ?_;rintro _ K10 ⟨cv,mv,rfl,hcv,hmv,l10⟩;obtain⟨cb,cd,rfl⟩:=hcv.sl;obtain⟨mb,md,rfl⟩:=hmv.sl;have hbool:decide (errA (asmR (rt_codeR++gc_codeR++zni 10 10001 40))=0)=true:=Zjo;rw[hbool];refine⟨_,[.slice cb (imgR zaq 2 10).code.length cd,.slice mb (memR 2 10).length md,vi (imgR zaq 2 10).words,.bool true],rfl,rfl,rfl,z01,?_⟩;simp only[cns];refine z02 (qb 19) (Z2r (imgR zaq 2 10) [] 200000 _ _ K10 hcv hmv om) ?_;rintro _ K11 ⟨mv',l11,rfl,hmv',hrl,hri⟩;obtain⟨mb',md',rfl⟩:=hmv'.sl;refine⟨_,haltV (runR (imgR zaq 2 10) [] 200000) (.slice mb' (runR (imgR zaq 2 10) [] 200000).mem.length md'),rfl,kr,kr,z01,?_,?_⟩
 .kernel_rfl
 .exact ww l1 (ww l2 (ww l3 (ww l4 (ww l49 (ww l10 l11)))))
open Go Go.ChangeShapes Go.WideShapes Go.ChangeAt Go.RowKit
theorem Zga(l:List Int):sumWt (fun _:Int=>1) l=l.length:=by
 induction l with
 |nil=>rfl
 |cons a l ih=>simp only[sumWt,ih,zlc];omega
theorem Zhu{H:Type}{enc:TypeId×Value→H}{w:World}{v:Value}{d:DataW H}{p:List MemPlace}{r:_root_.Go.Reach}{b:Nat}(hval:Value.okWide zP w r b 29 v)(h:DataW.Trod enc zP w 0 (fun _=>true) true 29 v d p):
  ∃l:List Int,SlR (whole w) l v∧l.length+1≤Rows.uptoBulk d:=by
 obtain⟨a,len,cap,rfl⟩:=okWide_slice uMemJ hval;obtain⟨fuel,h⟩:=h;obtain⟨l,v,e,h1,h2⟩:=Zar (α:=Int) uMemJ cInt (fun j _=>Zha uInt j) h;have:v=.slice a len cap:=by simpa[Value.cells]using e.symm
 subst this;exact⟨l,h1,by rw[←Zga];exact h2⟩
theorem Zkm{H:Type}{enc:TypeId×Value→H}{w:World}{v:Value}{d:DataW H}{p:List MemPlace}{r:_root_.Go.Reach}{b:Nat}(hval:Value.okWide zP w r b 4 v)(h:DataW.Trod enc zP w 0 (fun _=>true) true 4 v d p):∃x:Bool,v=.bool x:=by
 obtain⟨x,rfl,_⟩:=Go.RowKit.open_bool kr hval h;exact⟨x,rfl⟩
theorem Zm9{S H:PH}{I:List Itm}{a b:Itm}(h:Held S H (a::I))(hat:b.At S H)(hob:∀g,b.ob=some g→a.ob=some g):Held S H (b::I):=
 ⟨h.sh,fun i hi=>(zmc.1 hi).elim (fun e=>e ▸ hat) fun hi=>h.at_ i (zmm _ hi),
  fun i hi g hg=>(zmc.1 hi).elim (fun e=>h.off a (zms) g (hob g (e▸hg))) fun hi=>h.off i (zmm _ hi) g hg,
  List.pairwise_cons.2 ⟨fun c hc g hg=>(List.pairwise_cons.1 h.nd).1 c hc g (hob g hg),(List.pairwise_cons.1 h.nd).2⟩⟩
theorem Z6i{α:Type}[Enc α]{S H:PH}{I:List Itm}{e:TypeId}{r n:Nat}{cs:List Value}{l:List α}(h:Held S H (bx r e cs::I))(hn:l.length=n)(hc:PV.RepRow S (l.flatMap pv) cs)(hm:n≤maxLen):Held S H (orow e l (.slice (some ⟨r,0,none⟩) n n)::I):=by
 subst hn;have hl:cs.length=l.length*sz α:=by have:=hc.length;rw[z3e]at this;exact this
 refine Zm9 h (Row.at_ (S:=S) ⟨fun g hg=>?_,cs,⟨hl,.inr ⟨r,l.length,cs.toArray,rfl,h.blk (zms),we _,hm,by simpa using hl,?_⟩⟩,hc⟩) fun g hg=>?_
 .simp only[ob,qG]at hg;subst hg;exact h.off _ (zms) _ rfl
 .rw[List.toList_toArray];exact ztl (by rw[hl];exact we _)
 .simp only[Itm.ob,ob,qG]at hg⊢;exact hg
section
variable {P:Program}{X:List PanicEntry→PH→Prop}{β:Type}{E:List Value}{L:LK}{K:β→List Value→PH→LK→Prop}{S H:PH}{I:List Itm}{α:Type}[Enc α]{l:List α}{e:TypeId}
theorem Z72{T ty:TypeId}{n b:Nat}{ps:Array (Nat×Operand)}{args:List (Nat×VE)}{k:Fm β}(vs:List Value)
  (hT:P.underlying T=some (.slice e)) (he:ElemOk P e (sz α) b=true) (hn:l.length=n) (h0:n*sz α≠0) (hle:n*sz α≤2^24) (h:Held S H I)
  (hps:ps.toList.map (fun x=>(x.1,argEv E args x.2))=idxs 0 vs) (hvs:All2 (fun a v=>CsR S a v.cells.toList) l vs)
  (hk:∀r H',Held S H' (bx r e (vs.flatMap fun v=>v.cells.toList)::I)→PH.le H H'→den P X k (E++[.slice (some ⟨r,0,Option.none⟩) n n]) H' L K):den P X (.sem (.buildSlice T n ps) ty args (.sc .sl) [] k) E H L K:=by
 obtain⟨i,z,hi,i1,i2,i3,i4⟩:=ElemOk.info he;obtain⟨hr,hsz,hlen⟩:=zgw hvs;show wpS P (execOp (argEv E args) (bare (.buildSlice T n ps) ty)) _ _ H;rw[z58];have hcs:(vs.flatMap fun v=>v.cells.toList).length=n*sz α:=by
  rw[hr.length,z3e,hn]
 have hcells:((Array.range (n*i.size)).map (z.cells[· % z.cells.size]!)).size=(vs.flatMap fun v=>v.cells.toList).length:=by simp[hcs,i1]
 refine z85 hT hi i3 (by rw[i1];exact h0) (by rw[i1];exact hle) (cells:=(vs.flatMap fun v=>v.cells.toList).toArray) ?_ fun r hr'=>?_
 .have hpl:(ps.map fun(i,x)=>(i,argEv E args x)).toList=idxs 0 vs:=by rw[←hps];simp
  rw[hpl,i1,ze5 vs 0 _ hsz (by simp[i1]at hcells⊢;rw[hlen,hn];omega)];congr 1;rw[Nat.zero_mul];refine zfn ?_;rw[i1]at hcells;exact hcells
 .exact⟨[_],rfl,rfl,z01,hk r _ (h.new hr' _) (PH.le_upd hr')⟩
end
theorem z2c(y:InsX){S:PH}{av:Value}(ha:SlR S y.args av)(ho:y.op.length≤maxLen)(hi:InI y.const.int)(ht:InI y.to)(hn:InI y.num)(hk:InI y.const.kind:=by decide)(htx:y.const.text=[]:=by rfl)(hl:y.const.list=[]:=by rfl):CsR S y (inV y av (.slice none 0 0)):=
 ins_iff.2 ⟨_,_,rfl,ho,ht,ha,hk,hi,by rw[htx];decide,by rw[hl];exact z15 S,hn⟩
theorem zny(e:EndX){S:PH}{av:Value}(ha:SlR S e.args av)(h1:InI e.kind)(h2:InI e.reg)(h3:InI e.to)(h4:InI e.next)(h5:InI e.els):CsR S e (enV e av):=
 end_iff.2 ⟨_,rfl,h1,h2,ha,h3,h4,h5⟩
theorem z7i{S:PH}{a b:Int}(h:a=b)(hb:InI b):CsR S b [vi a]:=h▸z09 (h▸hb)
def gmV(l:List Int):List Int:=l.map fun v=>v.tmod 100000
theorem Zba(l:List Int):(gmV l).length=l.length:=zlm _
theorem Zgs(v:Int):-100000<v.tmod 100000∧v.tmod 100000<100000:=by
 have h1:=Int.tmod_lt_of_pos v (show(0:Int)<100000 by decide);have h2:=Int.lt_tmod_of_pos v (show(0:Int)<100000 by decide);omega
theorem Zhg(l:List Int):∀v∈gmV l,-100000<v∧v<100000:=fun v hv=>by
 obtain⟨x,_,rfl⟩:=zmp.1 hv;exact Zgs x
theorem Znh{l:List Int}{i:Nat}{y:Int}(h:l[i]?=some y):(gmV l)[i]?=some (y.tmod 100000):=by
 unfold gmV;rw[zem,h];rfl
theorem Zc2{l:List Int}(h:l.length≤50):Few (gmV l):=
 ⟨by rw [Zba];exact h,fun i=>by
  rw[zgd];cases e:(gmV l)[i]? with
  |none=>decide
  |some v=>have:=Zhg l v (zmg e);show -100000≤v∧v≤100000;omega⟩
theorem gm_cs(l:List Int)(v:Int):mmCs (l++[v])=mmCs l++[mmK (l.length:Int) v]:=by
 unfold mmCs;rw[List.zipIdx_append,List.map_append];simp
theorem Zl2{l:List Int}{i:Nat}{v:Int}(h:l[i]?=some v):mmCs (l.take (i+1))=mmCs (l.take i)++[mmK (i:Int) v]:=by
 have hl:i<l.length:=(zgi.1 h).1;rw[q9,h];show mmCs (l.take i++[v])=_;rw[gm_cs,List.length_take,Nat.min_eq_left om]
def gmR(k i:Nat):List InsX:=mmK (k:Int) 0::(List.range i).flatMap (mmR k)
theorem za1(k i:Nat):gmR k (i+1)=gmR k i++mmR k i:=by simp[gmR,List.range_succ]
theorem Zcd(k i:Nat):(gmR k i).length=1+3*i:=by
 induction i with
 |zero=>rfl
 |succ i ih=>rw[za1,zla,ih];simp[mmR];omega
def gmI(i:Nat):List InsX:=(List.range i).map fun i:Nat=>mmY boxB ((i:Int)+1) [(i:Int)] 0
theorem Zkc(i:Nat):gmI (i+1)=gmI i++[mmY boxB ((i:Int)+1) [(i:Int)] 0]:=by simp[gmI,List.range_succ]
theorem Zci(i:Nat):(gmI i).length=i:=by simp[gmI]
abbrev gmC(iv:Value)(es:List Value)(jv:Value)(k:Nat):List Value:=iv::(es++(jv::enV (mmE1 k) (.slice none 0 0)))
abbrev gmE:EndX:=⟨0,0,[],0,1,0⟩
theorem Z7e{vs:List Int}{call:Bool}(h:vs.length≤50):∀p∈z1x vs call,∀b∈p.blocks,b.ins.length≤4611686018427387904:=by
 intro p hp b hb;rcases zmc.1 hp with rfl|hp
 .rcases zmc.1 hb with rfl|hb
  .show(mmB0 vs call).length≤_;unfold mmB0;rw[zla,zd8];split<;>simp only[zlc,zln]<;>omega
  .rw[zsi.1 hb];have:=Zcd vs.length vs.length;show(gmR vs.length vs.length).length≤_;omega
 .rw[zsi.1 hp]at hb;rw[zsi.1 hb];show(gmI 29).length≤_;rw[Zci];decide
theorem Znb{vs:List Int}(call:Bool)(h:vs.length≤50):rt_codeR.length+gc_codeR.length+(mmAll vs.length call vs).length≤2048:=by
 have h1:=(Zbj (call:=call) h).len;have h2:=Zgl h call;simp only[zla]at h1;omega
theorem ztp(l:List Int)(lv:Value)(call:Bool)(H:PH)(hl:SlR H l lv):Gives zP 5 [lv,.bool call] H (.bool true):=by
 obtain⟨lb,lc,rfl⟩:=hl.sl;refine qr za5 [.slice lb l.length lc,.bool call] ?_;refine z03 [.bool true] (qb 12) (zo0 H) rfl z01 fun K1 l1=>?_;simp only[cns];refine⟨fun g=>?_,fun g=>?_⟩
 .refine z03 [.bool true] (qb 12) (zo0 K1) rfl z01 fun K2 l2=>?_;exact⟨rfl,ww l1 l2⟩
 have hk:1≤l.length∧l.length≤50:=by
  simp only[wy]at g;simp only[zof,zdf]at g;omega
 clear g;obtain⟨hk1,hk2⟩:=hk;have hl1:=hl.le l1;have hfew:=Zc2 hk2;obtain⟨k,hkl⟩:∃k,k=l.length:=⟨_,rfl⟩;have hvk:(gmV l).length=k:=by rw[Zba,hkl]
 rw[←hkl]at hk1 hk2⊢;have hik:InI (k:Int):=by unfold InI;omega
 have hik1:InI ((k:Int)+1):=by unfold InI;omega
 have hwk:IntKind.i64.wrap ((k:Int)+1)=(k:Int)+1:=w64 om om;have hwk2:IntKind.i64.wrap ((k:Int)+2)=(k:Int)+2:=w64 om om;refine Z72 (α:=BlkX) (l:=[⟨[],gmE⟩,⟨[],mmE1 k⟩]) (b:=88) [.agg (.slice none 0 0::enV gmE (.slice none 0 0)).toArray,.agg (.slice none 0 0::enV (mmE1 k) (.slice none 0 0)).toArray] Z8h zw3 rfl dC dC (Held.nil (wx K1)) kr
  (.cons (blk_iff.2 ⟨_,_,rfl,z15 _,zny gmE (z15 _) dC dC dC dC dC⟩) (.cons (blk_iff.2 ⟨_,_,rfl,z15 _,zny (mmE1 k) (z15 _) (by show InI 2;decide) hik (by show InI 0;decide) (by show InI 0;decide) (by show InI 0;decide)⟩) .nil)) fun r K2 h2 _=>?_
 have h2:Held K1 K2 [bx r 40 (gmC (.slice none 0 0) (enV gmE (.slice none 0 0)) (.slice none 0 0) k)]:=h2;have h2:=h2.empty (α:=InsX) 34;simp only[cns];refine ⟨fun m vs K=>∃(i:Nat) (iv:Value) (S':PH),vs=[vi (sumW (gmV l) i),nI i]∧i+m=k∧PH.le K1 S'∧Held S' K [orow 34 (mmCs ((gmV l).take i)) iv,bx r 40 (gmC iv (enV gmE (.slice none 0 0)) (.slice none 0 0) k)],
  ⟨k,0,_,K1,rfl,om,wx _,h2⟩,?_⟩
 rintro m vs K3 _ ⟨i,iv,S3,rfl,him,l3,h3⟩;obtain⟨ib,ic,rfl⟩:=(h3.row (zms)).sl;simp only[cns];have hil:(mmCs ((gmV l).take i)).length=i:=by rw[zd8,List.length_take,hvk];omega
 refine⟨fun g=>?_,fun g=>?_⟩
 .simp only[wy,zdt]at g;obtain⟨y,hy⟩:∃y,l[i]?=some y:=⟨_,zge om⟩;obtain⟨y1,_,ycs,y2,y3⟩:=(hl1.le (ww l3 h3.sh)).get hy;obtain⟨rfl,_⟩:=csIK y2;refine⟨fun _=>?_,[vi y],rfl,?_,fun _=>?_,?_⟩
  .simp only[Chk.holds,wy];first|exact⟨y1,om,om⟩|(simp;omega)
  .simp only[wy];rw[hkl];exact y3
  .simp[Chk.holds,wy]
  simp only[cns];refine z0p (off:=0) [.slice ib (mmCs ((gmV l).take i)).length ic] rfl h3 (zmm _ (zms)) rfl rfl ?_;simp only[cns];refine z03 [vi 1,vi (y.tmod 100000),txt [],.slice none 0 0] (qb 13) (z3z (y.tmod 100000) K3) rfl (fun x hx=>by rw[zsi.1 hx];exact z0r h3 (zmm _ (zms)) 0 1) fun K4 l4=>?_;have h4:=h3.le l4;simp only[cns];have hym:=Zgs y;refine z0t (more:=[mmK (i:Int) (y.tmod 100000)]) (b:=112) [.agg (inV (mmK (i:Int) (y.tmod 100000)) (.slice none 0 0) (.slice none 0 0)).toArray] z79 z4e rfl dC dC h4 kr (.cons (z2c (mmK (i:Int) (y.tmod 100000)) (z15 _) (by show constB.length≤maxLen;decide) (by show InI (y.tmod 100000);unfold InI;omega) (by show InI (i:Int);unfold InI;omega) (by show InI 0;decide) (by show InI 1;decide)) .nil)
   (fun x hx=>by rw[zsi.1 hx];exact z0r h4 (zmm _ (zms)) 0 1) (fun _=>kr) (fun _=>kr)
   (by simp only[maxLen,zlc,zln];omega) (by simp only[zlc,zln];omega) fun u v' S7 K7 l7 h7=>⟨z01,?_⟩
  obtain⟨vb,vc,rfl⟩:=(h7.row (zms)).sl;simp only[cns];refine z06 (off:=0) (vs:=[.slice vb (mmCs ((gmV l).take i)++[mmK (i:Int) (y.tmod 100000)]).length vc]) rfl (h7.perm (qq _ _ _)) rfl (by simp[oneC]) sM fun K8 h8=>?_;have hyv:=Znh hy;refine⟨_,z00,m-1,om,i+1,.slice vb (mmCs ((gmV l).take i)++[mmK (i:Int) (y.tmod 100000)]).length vc,S7,?_,om,ww l3 l7,?_⟩
  .have s0:=zgz hfew i om;have s1:=zgz hfew (i+1) om;have se:sumW (gmV l) (i+1)=sumW (gmV l) i+((i:Int)+1)*y.tmod 100000:=by rw[sumW,zgd,hyv];rfl
   rw[se]at s1⊢;rw[Int.mul_comm ((i:Int)+1)]at s1⊢;simp only[wy];rw[w64 (n:=(i:Int)+1) om om,w64 (n:=y.tmod 100000*((i:Int)+1)) om om,w64 om om];rfl
  .rw[Zl2 hyv];exact h8.perm (qq _ _ _)
 simp only[wy,zdf]at g;obtain rfl:i=k:=om;have hta:(gmV l).take i=gmV l:=ztl om;rw[hta]at h3 hil;have hil2:InI (i:Int):=hik;refine⟨fun vs K=>vs=[]∧∃(iv av:Value)(S':PH),PH.le K1 S'∧SlR S' (mmE0 i call).args av∧Held S' K [orow 34 (mmB0 (gmV l) call) iv,bx r 40 (gmC iv (enV (mmE0 i call) av) (.slice none 0 0) i)],?_,?_⟩;rotate_left
 .refine⟨fun g2=>?_,fun g2=>?_⟩;rotate_left
  .obtain rfl:call=false:=by simpa[wy]using g2
   have e:mmB0 (gmV l) false=mmCs (gmV l):=by unfold mmB0;simp
   refine⟨_,z00,rfl,.slice ib (mmCs (gmV l)).length ic,.slice none 0 0,S3,l3,z15 _,?_⟩;rw[e];exact h3
  obtain rfl:call=true:=by simpa[wy]using g2
  refine⟨fun _=>by simp[Chk.holds,wy],?_⟩;refine z0p (off:=0) [.slice ib (mmCs (gmV l)).length ic] rfl h3 (zmm _ (zms)) rfl rfl ?_;simp only[cns];refine z0t (more:=[mmY cloB (i:Int) [] 1]) (b:=112) [.agg (inV (mmY cloB (i:Int) [] 1) (.slice none 0 0) (.slice none 0 0)).toArray] z79 z4e rfl dC dC h3 kr (.cons (z2c (mmY cloB (i:Int) [] 1) (z15 _) (by show cloB.length≤maxLen;decide) (by show InI 0;decide) (by show InI (i:Int);exact hik) (by show InI 1;decide) (by show InI 0;decide)) .nil)
   (fun x hx=>by rw[zsi.1 hx];exact z0r h3 (zmm _ (zms)) 0 1) (fun _=>kr) (fun _=>kr)
   (by simp only[maxLen,zlc,zln];omega) (by simp only[zlc,zln];omega) fun u v' S7 K7 l7 h7=>⟨z01,?_⟩
  obtain⟨vb,vc,rfl⟩:=(h7.row (zms)).sl;simp only[cns];refine z06 (off:=0) (vs:=[.slice vb (mmCs (gmV l)++[mmY cloB (i:Int) [] 1]).length vc]) rfl (h7.perm (qq _ _ _)) rfl (by simp[oneC]) sM fun K8 h8=>?_;refine z0k (α:=Int) (l:=[0]) (b:=8) [vi 0] z0g z0e rfl dC dC h8 kr (.cons (z09 dC) .nil) z01 fun v9 K9 g9 _ _=>?_;obtain⟨S9,s9,l9,h9⟩:=g9.freeze;clear g9;obtain⟨b9,c9,rfl⟩:=s9.sl;simp only[cns];refine z06 (off:=1) (vs:=[vi 4,vi (i:Int),.slice b9 ([0]:List Int).length c9,vi (i:Int),vi 1,vi 0]) rfl h9 rfl (by simp[oneC]) sM fun K10 h10=>?_;have e:mmB0 (gmV l) true=mmCs (gmV l)++[mmY cloB (i:Int) [] 1]:=by unfold mmB0;rw[hvk];rfl
  refine⟨_,z00,rfl,.slice vb (mmCs (gmV l)++[mmY cloB (i:Int) [] 1]).length vc,.slice b9 ([0]:List Int).length c9,S9,ww l3 (ww l7 l9),s9,?_⟩;rw[e];exact h10.perm (qq _ _ _)
 rintro _ K4 _ ⟨rfl,iv,av,S4,l4,sa,h4⟩;clear h3;simp only[zan];obtain⟨ivb,ivn,ivc,hiv⟩:∃b n c,iv=.slice b n c:=by obtain⟨b,c,e⟩:=(h4.row (zms)).sl;exact⟨_,_,_,e⟩
 subst hiv;refine⟨fun _=>by simp[Chk.holds,wy],?_⟩;refine z0p (off:=7) [.slice none 0 0] rfl h4 (zmm _ (zms)) rfl rfl ?_;simp only[cns];refine z03 [vi 1,vi 0,txt [],.slice none 0 0] (qb 13) (z3z 0 K4) rfl (fun x hx=>by rw[zsi.1 hx];exact z0r h4 (zmm _ (zms)) 7 1) fun K5 l5=>?_;have h5:=(h4.le l5).empty (α:=InsX) 34;simp only[cns];refine z0t (more:=[mmK (i:Int) 0]) (b:=112) [.agg (inV (mmK (i:Int) 0) (.slice none 0 0) (.slice none 0 0)).toArray] z79 z4e rfl dC dC h5 kr (.cons (z2c (mmK (i:Int) 0) (z15 _) (by show constB.length≤maxLen;decide) (by show InI 0;decide) (by show InI (i:Int);exact hik) (by show InI 0;decide) (by show InI 1;decide)) .nil)
  (fun x hx=>by rw[zsi.1 hx];exact z0r h5 (zmm _ (zmm _ (zms))) 7 1) (fun _=>kr) (fun _=>kr)
  (by simp only[maxLen,zlc,zln];omega) (by simp only[zlc,zln];omega) fun u v' S7 K7 l7 h7=>⟨z01,?_⟩
 obtain⟨vb,vc,rfl⟩:=(h7.row (zms)).sl;simp only[cns];refine z06 (off:=7) (vs:=[.slice vb (([]:List InsX)++[mmK (i:Int) 0]).length vc]) rfl (h7.perm ((qq _ _ _).trans ((List.Perm.cons _ (qq _ _ _)).trans (qq _ _ _)))) rfl (by simp[oneC]) sM fun K8 h8=>?_;refine ⟨fun m vs K=>∃(t:Nat) (jv:Value) (S':PH),vs=[nI t]∧t+m=i∧PH.le S4 S'∧Held S' K [bx r 40 (gmC (.slice ivb ivn ivc) (enV (mmE0 i call) av) jv i),orow 34 (mmB0 (gmV l) call) (.slice ivb ivn ivc),orow 34 (gmR i t) jv],
  ⟨i,0,_,S7,rfl,om,l7,h8.perm (List.Perm.cons _ (List.Perm.refl _))⟩,?_⟩
 rintro m2 vs K9 _ ⟨t,jv,S9,rfl,htm,l9,h9⟩;obtain⟨jb,jc,rfl⟩:=(h9.row (zmm _ (zmm _ (zms)))).sl;simp only[cns];have hjl:=Zcd i t;refine⟨fun g=>?_,fun g=>?_⟩
 .simp only[wy,zdt]at g;have hwt:IntKind.i64.wrap ((t:Int)+1)=(t:Int)+1:=w64 om om;have hit:InI (t:Int):=by unfold InI;omega
  have hit1:InI ((t:Int)+1):=by unfold InI;omega
  refine⟨fun vs K=>vs=[]∧∃(jv:Value)(S':PH),PH.le S4 S'∧Held S' K [bx r 40 (gmC (.slice ivb ivn ivc) (enV (mmE0 i call) av) jv i),orow 34 (mmB0 (gmV l) call) (.slice ivb ivn ivc),orow 34 (gmR i (t+1)) jv],?_,?_⟩
  .rintro _ K10 _ ⟨rfl,jv,S10,l10,h10⟩;refine⟨_,z00,m2-1,om,t+1,jv,S10,?_,om,l10,h10⟩;simp only[wy,zan];rw[hwt];rfl
  refine z0p (off:=7) [.slice jb (gmR i t).length jc] rfl h9 (zms) rfl rfl ?_;simp only[cns];refine⟨?_,?_⟩
  .refine z03 [vi 1,vi (IntKind.i64.wrap ((t:Int)+1)),txt [],.slice none 0 0] (qb 13) (z3z (IntKind.i64.wrap ((t:Int)+1)) K9) rfl (fun x hx=>by rw[zsi.1 hx];exact z0r h9 (zms) 7 1) fun K10 m10=>?_;have h10:=h9.le m10;simp only[cns];refine⟨?_,?_⟩
   .refine z0k (α:=Int) (l:=[(i:Int)+1,(t:Int)]) (b:=8) [vi (IntKind.i64.wrap ((i:Int)+1)),vi (t:Int)] z0g z0e rfl dC dC h10 kr (.cons (z7i hwk hik1) (.cons (z09 hit) .nil)) (fun x hx=>by rw[zsi.1 hx];exact z0r h10 (zms) 7 1) fun va K11 g11 _ _=>?_;obtain⟨S11,sa,q11,h11⟩:=g11.freeze;clear g11;obtain⟨ba,ca,rfl⟩:=sa.sl;simp only[cns];refine z0k (α:=Int) (l:=[(i:Int),(i:Int)+1]) (b:=8) [vi (i:Int),vi (IntKind.i64.wrap ((i:Int)+1))] z0g z0e rfl dC dC h11 kr (.cons (z09 hik) (.cons (z7i hwk hik1) .nil)) (fun x hx=>by rw[zsi.1 hx];exact z0r h11 (zms) 7 1) fun vb K12 g12 _ _=>?_;obtain⟨S12,sb,q12,h12⟩:=g12.freeze;clear g12;obtain⟨bb,cb,rfl⟩:=sb.sl;simp only[cns];have p9:=h12.perm (List.perm_append_comm (l₁:=[_,_]) (l₂:=[_]));refine z0t (more:=mmR i t) (b:=112) [.agg (inV (mmK (IntKind.i64.wrap ((i:Int)+1)) (IntKind.i64.wrap ((t:Int)+1))) (.slice none 0 0) (.slice none 0 0)).toArray,.agg (inV (mmY [42] (IntKind.i64.wrap ((i:Int)+1)) [] 0) (.slice ba ([(i:Int)+1,(t:Int)]:List Int).length ca) (.slice none 0 0)).toArray,.agg (inV (mmY [43] (i:Int) [] 0) (.slice bb ([(i:Int),(i:Int)+1]:List Int).length cb) (.slice none 0 0)).toArray] z79 z4e rfl dC dC p9 kr
     (.cons (by rw[hwk,hwt];exact z2c (mmK ((i:Int)+1) ((t:Int)+1)) (z15 _) (by show constB.length≤maxLen;decide) hit1 hik1 (by show InI 0;decide) (by show InI 1;decide)) (.cons (by rw[hwk];exact z2c (mmY [42] ((i:Int)+1) [(i:Int)+1,(t:Int)] 0) (sa.le q12) (by show([42]:List UInt8).length≤maxLen;decide) (by show InI 0;decide) hik1 (by show InI 0;decide) (by show InI 0;decide)) (.cons (z2c (mmY [43] (i:Int) [(i:Int),(i:Int)+1] 0) sb (by show([43]:List UInt8).length≤maxLen;decide) (by show InI 0;decide) hik (by show InI 0;decide) (by show InI 0;decide)) .nil)))
     (fun x hx=>by rw[zsi.1 hx];exact z0r p9 (zmm _ (zms)) 7 1) (fun _=>kr) (fun _=>kr)
     (by simp only[maxLen,mmR,zlc,zln];omega) (by simp only[mmR,zlc,zln];omega) fun u v' S7 K7 l7 h7=>⟨z01,?_⟩
    obtain⟨vb,vc,rfl⟩:=(h7.row (zms)).sl;simp only[cns];refine z06 (off:=7) (vs:=[.slice vb (gmR i t++mmR i t).length vc]) rfl (h7.perm (List.perm_append_comm (l₁:=[_]) (l₂:=[_,_]))) rfl (by simp[oneC]) sM fun K8 h8=>?_;refine⟨_,z00,rfl,.slice vb (gmR i t++mmR i t).length vc,S7,ww (ww (ww l9 q11) q12) l7,?_⟩;rw[za1];exact h8
   .refine z0k (α:=Int) (l:=[(i:Int),(i:Int)+1]) (b:=8) [vi (i:Int),vi (IntKind.i64.wrap ((i:Int)+1))] z0g z0e rfl dC dC h10 kr (.cons (z09 hik) (.cons (z7i hwk hik1) .nil)) (fun x hx=>by rw[zsi.1 hx];exact z0r h10 (zms) 7 1) fun vb K11 g11 _ _=>?_;obtain⟨S11,sb,q11,h11⟩:=g11.freeze;clear g11;obtain⟨bb,cb,rfl⟩:=sb.sl;simp only[cns];refine z0k (α:=Int) (l:=[(i:Int)+1,(t:Int)]) (b:=8) [vi (IntKind.i64.wrap ((i:Int)+1)),vi (t:Int)] z0g z0e rfl dC dC h11 kr (.cons (z7i hwk hik1) (.cons (z09 hit) .nil)) (fun x hx=>by rw[zsi.1 hx];exact z0r h11 (zms) 7 1) fun va K12 g12 _ _=>?_;obtain⟨S12,sa,q12,h12⟩:=g12.freeze;clear g12;obtain⟨ba,ca,rfl⟩:=sa.sl;simp only[cns];have p9:=h12.perm (List.perm_append_comm (l₁:=[_,_]) (l₂:=[_]));refine z0t (more:=mmR i t) (b:=112) [.agg (inV (mmK (IntKind.i64.wrap ((i:Int)+1)) (IntKind.i64.wrap ((t:Int)+1))) (.slice none 0 0) (.slice none 0 0)).toArray,.agg (inV (mmY [42] (IntKind.i64.wrap ((i:Int)+1)) [] 0) (.slice ba ([(i:Int)+1,(t:Int)]:List Int).length ca) (.slice none 0 0)).toArray,.agg (inV (mmY [43] (i:Int) [] 0) (.slice bb ([(i:Int),(i:Int)+1]:List Int).length cb) (.slice none 0 0)).toArray] z79 z4e rfl dC dC p9 kr
     (.cons (by rw[hwk,hwt];exact z2c (mmK ((i:Int)+1) ((t:Int)+1)) (z15 _) (by show constB.length≤maxLen;decide) hit1 hik1 (by show InI 0;decide) (by show InI 1;decide)) (.cons (by rw[hwk];exact z2c (mmY [42] ((i:Int)+1) [(i:Int)+1,(t:Int)] 0) sa (by show([42]:List UInt8).length≤maxLen;decide) (by show InI 0;decide) hik1 (by show InI 0;decide) (by show InI 0;decide)) (.cons (z2c (mmY [43] (i:Int) [(i:Int),(i:Int)+1] 0) (sb.le q12) (by show([43]:List UInt8).length≤maxLen;decide) (by show InI 0;decide) hik (by show InI 0;decide) (by show InI 0;decide)) .nil)))
     (fun x hx=>by rw[zsi.1 hx];exact z0r p9 (zmm _ (zms)) 7 1) (fun _=>kr) (fun _=>kr)
     (by simp only[maxLen,mmR,zlc,zln];omega) (by simp only[mmR,zlc,zln];omega) fun u v' S7 K7 l7 h7=>⟨z01,?_⟩
    obtain⟨vb,vc,rfl⟩:=(h7.row (zms)).sl;simp only[cns];refine z06 (off:=7) (vs:=[.slice vb (gmR i t++mmR i t).length vc]) rfl (h7.perm (List.perm_append_comm (l₁:=[_]) (l₂:=[_,_]))) rfl (by simp[oneC]) sM fun K8 h8=>?_;refine⟨_,z00,rfl,.slice vb (gmR i t++mmR i t).length vc,S7,ww (ww (ww l9 q11) q12) l7,?_⟩;rw[za1];exact h8
  .refine⟨?_,?_⟩
   .refine z0k (α:=Int) (l:=[(i:Int)+1,(t:Int)]) (b:=8) [vi (IntKind.i64.wrap ((i:Int)+1)),vi (t:Int)] z0g z0e rfl dC dC h9 kr (.cons (z7i hwk hik1) (.cons (z09 hit) .nil)) (fun x hx=>by rw[zsi.1 hx];exact z0r h9 (zms) 7 1) fun va K10 g10 _ _=>?_;obtain⟨S10,sa,q10,h10⟩:=g10.freeze;clear g10;obtain⟨ba,ca,rfl⟩:=sa.sl;simp only[cns];refine⟨?_,?_⟩
    .refine z03 [vi 1,vi (IntKind.i64.wrap ((t:Int)+1)),txt [],.slice none 0 0] (qb 13) (z3z (IntKind.i64.wrap ((t:Int)+1)) K10) rfl (fun x hx=>by rw[zsi.1 hx];exact z0r h10 (zms) 7 1) fun K11 m11=>?_;have h11:=h10.le m11;simp only[cns];refine z0k (α:=Int) (l:=[(i:Int),(i:Int)+1]) (b:=8) [vi (i:Int),vi (IntKind.i64.wrap ((i:Int)+1))] z0g z0e rfl dC dC h11 kr (.cons (z09 hik) (.cons (z7i hwk hik1) .nil)) (fun x hx=>by rw[zsi.1 hx];exact z0r h11 (zms) 7 1) fun vb K12 g12 _ _=>?_;obtain⟨S12,sb,q12,h12⟩:=g12.freeze;clear g12;obtain⟨bb,cb,rfl⟩:=sb.sl;simp only[cns];have p9:=h12.perm (List.perm_append_comm (l₁:=[_,_]) (l₂:=[_]));refine z0t (more:=mmR i t) (b:=112) [.agg (inV (mmK (IntKind.i64.wrap ((i:Int)+1)) (IntKind.i64.wrap ((t:Int)+1))) (.slice none 0 0) (.slice none 0 0)).toArray,.agg (inV (mmY [42] (IntKind.i64.wrap ((i:Int)+1)) [] 0) (.slice ba ([(i:Int)+1,(t:Int)]:List Int).length ca) (.slice none 0 0)).toArray,.agg (inV (mmY [43] (i:Int) [] 0) (.slice bb ([(i:Int),(i:Int)+1]:List Int).length cb) (.slice none 0 0)).toArray] z79 z4e rfl dC dC p9 kr
      (.cons (by rw[hwk,hwt];exact z2c (mmK ((i:Int)+1) ((t:Int)+1)) (z15 _) (by show constB.length≤maxLen;decide) hit1 hik1 (by show InI 0;decide) (by show InI 1;decide)) (.cons (by rw[hwk];exact z2c (mmY [42] ((i:Int)+1) [(i:Int)+1,(t:Int)] 0) (sa.le q12) (by show([42]:List UInt8).length≤maxLen;decide) (by show InI 0;decide) hik1 (by show InI 0;decide) (by show InI 0;decide)) (.cons (z2c (mmY [43] (i:Int) [(i:Int),(i:Int)+1] 0) sb (by show([43]:List UInt8).length≤maxLen;decide) (by show InI 0;decide) hik (by show InI 0;decide) (by show InI 0;decide)) .nil)))
      (fun x hx=>by rw[zsi.1 hx];exact z0r p9 (zmm _ (zms)) 7 1) (fun _=>kr) (fun _=>kr)
      (by simp only[maxLen,mmR,zlc,zln];omega) (by simp only[mmR,zlc,zln];omega) fun u v' S7 K7 l7 h7=>⟨z01,?_⟩
     obtain⟨vb,vc,rfl⟩:=(h7.row (zms)).sl;simp only[cns];refine z06 (off:=7) (vs:=[.slice vb (gmR i t++mmR i t).length vc]) rfl (h7.perm (List.perm_append_comm (l₁:=[_]) (l₂:=[_,_]))) rfl (by simp[oneC]) sM fun K8 h8=>?_;refine⟨_,z00,rfl,.slice vb (gmR i t++mmR i t).length vc,S7,ww (ww (ww l9 q10) q12) l7,?_⟩;rw[za1];exact h8
    .refine z0k (α:=Int) (l:=[(i:Int),(i:Int)+1]) (b:=8) [vi (i:Int),vi (IntKind.i64.wrap ((i:Int)+1))] z0g z0e rfl dC dC h10 kr (.cons (z09 hik) (.cons (z7i hwk hik1) .nil)) (fun x hx=>by rw[zsi.1 hx];exact z0r h10 (zms) 7 1) fun vb K11 g11 _ _=>?_;obtain⟨S11,sb,q11,h11⟩:=g11.freeze;clear g11;obtain⟨bb,cb,rfl⟩:=sb.sl;simp only[cns];refine z03 [vi 1,vi (IntKind.i64.wrap ((t:Int)+1)),txt [],.slice none 0 0] (qb 13) (z3z (IntKind.i64.wrap ((t:Int)+1)) K11) rfl (fun x hx=>by rw[zsi.1 hx];exact z0r h11 (zms) 7 1) fun K12 m12=>?_;have h12:=h11.le m12;simp only[cns];have p9:=h12.perm (List.perm_append_comm (l₁:=[_,_]) (l₂:=[_]));refine z0t (more:=mmR i t) (b:=112) [.agg (inV (mmK (IntKind.i64.wrap ((i:Int)+1)) (IntKind.i64.wrap ((t:Int)+1))) (.slice none 0 0) (.slice none 0 0)).toArray,.agg (inV (mmY [42] (IntKind.i64.wrap ((i:Int)+1)) [] 0) (.slice ba ([(i:Int)+1,(t:Int)]:List Int).length ca) (.slice none 0 0)).toArray,.agg (inV (mmY [43] (i:Int) [] 0) (.slice bb ([(i:Int),(i:Int)+1]:List Int).length cb) (.slice none 0 0)).toArray] z79 z4e rfl dC dC p9 kr
      (.cons (by rw[hwk,hwt];exact z2c (mmK ((i:Int)+1) ((t:Int)+1)) (z15 _) (by show constB.length≤maxLen;decide) hit1 hik1 (by show InI 0;decide) (by show InI 1;decide)) (.cons (by rw[hwk];exact z2c (mmY [42] ((i:Int)+1) [(i:Int)+1,(t:Int)] 0) (sa.le q11) (by show([42]:List UInt8).length≤maxLen;decide) (by show InI 0;decide) hik1 (by show InI 0;decide) (by show InI 0;decide)) (.cons (z2c (mmY [43] (i:Int) [(i:Int),(i:Int)+1] 0) sb (by show([43]:List UInt8).length≤maxLen;decide) (by show InI 0;decide) hik (by show InI 0;decide) (by show InI 0;decide)) .nil)))
      (fun x hx=>by rw[zsi.1 hx];exact z0r p9 (zmm _ (zms)) 7 1) (fun _=>kr) (fun _=>kr)
      (by simp only[maxLen,mmR,zlc,zln];omega) (by simp only[mmR,zlc,zln];omega) fun u v' S7 K7 l7 h7=>⟨z01,?_⟩
     obtain⟨vb,vc,rfl⟩:=(h7.row (zms)).sl;simp only[cns];refine z06 (off:=7) (vs:=[.slice vb (gmR i t++mmR i t).length vc]) rfl (h7.perm (List.perm_append_comm (l₁:=[_]) (l₂:=[_,_]))) rfl (by simp[oneC]) sM fun K8 h8=>?_;refine⟨_,z00,rfl,.slice vb (gmR i t++mmR i t).length vc,S7,ww (ww (ww l9 q10) q11) l7,?_⟩;rw[za1];exact h8
   .refine z0k (α:=Int) (l:=[(i:Int),(i:Int)+1]) (b:=8) [vi (i:Int),vi (IntKind.i64.wrap ((i:Int)+1))] z0g z0e rfl dC dC h9 kr (.cons (z09 hik) (.cons (z7i hwk hik1) .nil)) (fun x hx=>by rw[zsi.1 hx];exact z0r h9 (zms) 7 1) fun vb K10 g10 _ _=>?_;obtain⟨S10,sb,q10,h10⟩:=g10.freeze;clear g10;obtain⟨bb,cb,rfl⟩:=sb.sl;simp only[cns];refine⟨?_,?_⟩
    .refine z03 [vi 1,vi (IntKind.i64.wrap ((t:Int)+1)),txt [],.slice none 0 0] (qb 13) (z3z (IntKind.i64.wrap ((t:Int)+1)) K10) rfl (fun x hx=>by rw[zsi.1 hx];exact z0r h10 (zms) 7 1) fun K11 m11=>?_;have h11:=h10.le m11;simp only[cns];refine z0k (α:=Int) (l:=[(i:Int)+1,(t:Int)]) (b:=8) [vi (IntKind.i64.wrap ((i:Int)+1)),vi (t:Int)] z0g z0e rfl dC dC h11 kr (.cons (z7i hwk hik1) (.cons (z09 hit) .nil)) (fun x hx=>by rw[zsi.1 hx];exact z0r h11 (zms) 7 1) fun va K12 g12 _ _=>?_;obtain⟨S12,sa,q12,h12⟩:=g12.freeze;clear g12;obtain⟨ba,ca,rfl⟩:=sa.sl;simp only[cns];have p9:=h12.perm (List.perm_append_comm (l₁:=[_,_]) (l₂:=[_]));refine z0t (more:=mmR i t) (b:=112) [.agg (inV (mmK (IntKind.i64.wrap ((i:Int)+1)) (IntKind.i64.wrap ((t:Int)+1))) (.slice none 0 0) (.slice none 0 0)).toArray,.agg (inV (mmY [42] (IntKind.i64.wrap ((i:Int)+1)) [] 0) (.slice ba ([(i:Int)+1,(t:Int)]:List Int).length ca) (.slice none 0 0)).toArray,.agg (inV (mmY [43] (i:Int) [] 0) (.slice bb ([(i:Int),(i:Int)+1]:List Int).length cb) (.slice none 0 0)).toArray] z79 z4e rfl dC dC p9 kr
      (.cons (by rw[hwk,hwt];exact z2c (mmK ((i:Int)+1) ((t:Int)+1)) (z15 _) (by show constB.length≤maxLen;decide) hit1 hik1 (by show InI 0;decide) (by show InI 1;decide)) (.cons (by rw[hwk];exact z2c (mmY [42] ((i:Int)+1) [(i:Int)+1,(t:Int)] 0) sa (by show([42]:List UInt8).length≤maxLen;decide) (by show InI 0;decide) hik1 (by show InI 0;decide) (by show InI 0;decide)) (.cons (z2c (mmY [43] (i:Int) [(i:Int),(i:Int)+1] 0) (sb.le q12) (by show([43]:List UInt8).length≤maxLen;decide) (by show InI 0;decide) hik (by show InI 0;decide) (by show InI 0;decide)) .nil)))
      (fun x hx=>by rw[zsi.1 hx];exact z0r p9 (zmm _ (zms)) 7 1) (fun _=>kr) (fun _=>kr)
      (by simp only[maxLen,mmR,zlc,zln];omega) (by simp only[mmR,zlc,zln];omega) fun u v' S7 K7 l7 h7=>⟨z01,?_⟩
     obtain⟨vb,vc,rfl⟩:=(h7.row (zms)).sl;simp only[cns];refine z06 (off:=7) (vs:=[.slice vb (gmR i t++mmR i t).length vc]) rfl (h7.perm (List.perm_append_comm (l₁:=[_]) (l₂:=[_,_]))) rfl (by simp[oneC]) sM fun K8 h8=>?_;refine⟨_,z00,rfl,.slice vb (gmR i t++mmR i t).length vc,S7,ww (ww (ww l9 q10) q12) l7,?_⟩;rw[za1];exact h8
    .refine z0k (α:=Int) (l:=[(i:Int)+1,(t:Int)]) (b:=8) [vi (IntKind.i64.wrap ((i:Int)+1)),vi (t:Int)] z0g z0e rfl dC dC h10 kr (.cons (z7i hwk hik1) (.cons (z09 hit) .nil)) (fun x hx=>by rw[zsi.1 hx];exact z0r h10 (zms) 7 1) fun va K11 g11 _ _=>?_;obtain⟨S11,sa,q11,h11⟩:=g11.freeze;clear g11;obtain⟨ba,ca,rfl⟩:=sa.sl;simp only[cns];refine z03 [vi 1,vi (IntKind.i64.wrap ((t:Int)+1)),txt [],.slice none 0 0] (qb 13) (z3z (IntKind.i64.wrap ((t:Int)+1)) K11) rfl (fun x hx=>by rw[zsi.1 hx];exact z0r h11 (zms) 7 1) fun K12 m12=>?_;have h12:=h11.le m12;simp only[cns];have p9:=h12.perm (List.perm_append_comm (l₁:=[_,_]) (l₂:=[_]));refine z0t (more:=mmR i t) (b:=112) [.agg (inV (mmK (IntKind.i64.wrap ((i:Int)+1)) (IntKind.i64.wrap ((t:Int)+1))) (.slice none 0 0) (.slice none 0 0)).toArray,.agg (inV (mmY [42] (IntKind.i64.wrap ((i:Int)+1)) [] 0) (.slice ba ([(i:Int)+1,(t:Int)]:List Int).length ca) (.slice none 0 0)).toArray,.agg (inV (mmY [43] (i:Int) [] 0) (.slice bb ([(i:Int),(i:Int)+1]:List Int).length cb) (.slice none 0 0)).toArray] z79 z4e rfl dC dC p9 kr
      (.cons (by rw[hwk,hwt];exact z2c (mmK ((i:Int)+1) ((t:Int)+1)) (z15 _) (by show constB.length≤maxLen;decide) hit1 hik1 (by show InI 0;decide) (by show InI 1;decide)) (.cons (by rw[hwk];exact z2c (mmY [42] ((i:Int)+1) [(i:Int)+1,(t:Int)] 0) sa (by show([42]:List UInt8).length≤maxLen;decide) (by show InI 0;decide) hik1 (by show InI 0;decide) (by show InI 0;decide)) (.cons (z2c (mmY [43] (i:Int) [(i:Int),(i:Int)+1] 0) (sb.le q11) (by show([43]:List UInt8).length≤maxLen;decide) (by show InI 0;decide) hik (by show InI 0;decide) (by show InI 0;decide)) .nil)))
      (fun x hx=>by rw[zsi.1 hx];exact z0r p9 (zmm _ (zms)) 7 1) (fun _=>kr) (fun _=>kr)
      (by simp only[maxLen,mmR,zlc,zln];omega) (by simp only[mmR,zlc,zln];omega) fun u v' S7 K7 l7 h7=>⟨z01,?_⟩
     obtain⟨vb,vc,rfl⟩:=(h7.row (zms)).sl;simp only[cns];refine z06 (off:=7) (vs:=[.slice vb (gmR i t++mmR i t).length vc]) rfl (h7.perm (List.perm_append_comm (l₁:=[_]) (l₂:=[_,_]))) rfl (by simp[oneC]) sM fun K8 h8=>?_;refine⟨_,z00,rfl,.slice vb (gmR i t++mmR i t).length vc,S7,ww (ww (ww l9 q10) q11) l7,?_⟩;rw[za1];exact h8
 simp only[wy,zdf]at g;obtain rfl:t=i:=om;obtain⟨S11,s11,q11,h11⟩:=(h9.perm (List.perm_append_comm (l₁:=[_,_]) (l₂:=[_]))).freeze;obtain⟨S12,s12,q12,h12⟩:=(h11.perm (qq _ _ _)).freeze;have hE0:InI (mmE0 t call).kind∧InI (mmE0 t call).reg∧InI (mmE0 t call).to∧InI (mmE0 t call).next∧InI (mmE0 t call).els:=by
  cases call
  .exact⟨by show InI 0;decide,by show InI 0;decide,by show InI 0;decide,by show InI 1;decide,by show InI 0;decide⟩
  .exact⟨by show InI 4;decide,hik,hik,by show InI 1;decide,by show InI 0;decide⟩
 have sa12:=sa.le (ww l9 (ww q11 q12));have hrep:=(zgw (H:=S12) (l:=[(⟨mmB0 (gmV l) call,mmE0 t call⟩:BlkX),⟨mmB1 t,mmE1 t⟩]) (vs:=[.agg (.slice ivb ivn ivc::enV (mmE0 t call) av).toArray,.agg (.slice jb (gmR t t).length jc::enV (mmE1 t) (.slice none 0 0)).toArray])
  (.cons (blk_iff.2 ⟨_,_,rfl,s12,zny (mmE0 t call) sa12 hE0.1 hE0.2.1 hE0.2.2.1 hE0.2.2.2.1 hE0.2.2.2.2⟩) (.cons (blk_iff.2 ⟨_,_,rfl,(show SlR S12 (mmB1 t) (.slice jb (gmR t t).length jc)from s11.le q12),zny (mmE1 t) (z15 _) (by show InI 2;decide) hik (by show InI 0;decide) (by show InI 0;decide) (by show InI 0;decide)⟩) .nil))).1
 have h13:=Z6i (n:=2) (l:=[(⟨mmB0 (gmV l) call,mmE0 t call⟩:BlkX),⟨mmB1 t,mmE1 t⟩]) h12 rfl hrep dC;obtain⟨S14,s14,q14,h14⟩:=h13.freeze;have sB:=s14.le h14.sh;have l19:PH.le H K9:=ww l1 (ww l4 (ww l9 (ww q11 (ww q12 (ww q14 h14.sh)))));clear hrep h13 h14 h12 h11 h9 s12 s11 sa12 sa h7 h8 h4 h5;refine Z72 (α:=BlkX) (l:=[⟨[],⟨2,0,[],0,0,0⟩⟩]) (b:=88) [.agg (.slice none 0 0::enV ⟨2,0,[],0,0,0⟩ (.slice none 0 0)).toArray] Z8h zw3 rfl dC dC (Held.nil (wx K9)) kr
  (.cons (blk_iff.2 ⟨_,_,rfl,z15 _,zny ⟨2,0,[],0,0,0⟩ (z15 _) dC dC dC dC dC⟩) .nil) fun r2 K20 h20 _=>?_
 have h20:Held K9 K20 [bx r2 40 (.slice none 0 0::enV ⟨2,0,[],0,0,0⟩ (.slice none 0 0))]:=h20;have h20:=h20.empty (α:=InsX) 34;simp only[cns];refine ⟨fun m vs K=>∃(a:Nat) (wv:Value) (S':PH),vs=[nI (a+1)]∧a+m=29∧PH.le K9 S'∧Held S' K [orow 34 (gmI a) wv,bx r2 40 (wv::enV ⟨2,0,[],0,0,0⟩ (.slice none 0 0))],
  ⟨29,0,_,K9,rfl,rfl,wx _,h20⟩,?_⟩
 rintro m3 vs K21 _ ⟨a,wv,S21,rfl,ham,l21,h21⟩;obtain⟨wb,wc,rfl⟩:=(h21.row (zms)).sl;simp only[cns];have hgl:=Zci a;have hca:((a+1:Nat):Int)=(a:Int)+1:=rfl;refine⟨fun g=>?_,fun g=>?_⟩
 .simp only[wy,zdt]at g;have hwa:IntKind.i64.wrap (((a+1:Nat):Int)-1)=(a:Int):=by rw[w64 om om];omega
  have hia:InI (a:Int):=by unfold InI;omega
  have hia1:InI ((a:Int)+1):=by unfold InI;omega
  refine⟨fun _=>by simp[Chk.holds,wy],?_⟩;refine z0p (off:=0) [.slice wb (gmI a).length wc] rfl h21 (zmm _ (zms)) rfl rfl ?_;simp only[cns];refine z0k (α:=Int) (l:=[(a:Int)]) (b:=8) [vi (IntKind.i64.wrap (((a+1:Nat):Int)-1))] z0g z0e rfl dC dC h21 kr (.cons (z7i hwa hia) .nil) (fun x hx=>by rw[zsi.1 hx];exact z0r h21 (zmm _ (zms)) 0 1) fun v22 K22 g22 _ _=>?_;obtain⟨S22,s22,q22,h22⟩:=g22.freeze;clear g22;obtain⟨b22,c22,rfl⟩:=s22.sl;simp only[cns];refine z0t (more:=[mmY boxB ((a:Int)+1) [(a:Int)] 0]) (b:=112) [.agg (inV (mmY boxB ((a+1:Nat):Int) [] 0) (.slice b22 ([(a:Int)]:List Int).length c22) (.slice none 0 0)).toArray] z79 z4e rfl dC dC h22 kr (.cons (by rw[hca];exact z2c (mmY boxB ((a:Int)+1) [(a:Int)] 0) s22 (by show boxB.length≤maxLen;decide) (by show InI 0;decide) hia1 (by show InI 0;decide) (by show InI 0;decide)) .nil)
   (fun x hx=>by rw[zsi.1 hx];exact z0r h22 (zmm _ (zms)) 0 1) (fun _=>kr) (fun _=>kr)
   (by simp only[maxLen,zlc,zln];omega) (by simp only[zlc,zln];omega) fun u v' S7 K7 l7 h7=>⟨z01,?_⟩
  obtain⟨vb,vc,rfl⟩:=(h7.row (zms)).sl;simp only[cns];refine z06 (off:=0) (vs:=[.slice vb (gmI a++[mmY boxB ((a:Int)+1) [(a:Int)] 0]).length vc]) rfl (h7.perm (qq _ _ _)) rfl (by simp[oneC]) sM fun K8 h8=>?_;refine⟨_,z00,m3-1,om,a+1,.slice vb (gmI a++[mmY boxB ((a:Int)+1) [(a:Int)] 0]).length vc,S7,?_,om,ww l21 (ww q22 l7),?_⟩
  .simp only[wy];rw[w64 om om];rfl
  .rw[Zkc];exact h8.perm (qq _ _ _)
 simp only[wy,zdf]at g;obtain rfl:a=29:=om;obtain⟨S23,s23,q23,h23⟩:=h21.freeze;have h24:=Z6i (n:=1) (l:=[(⟨gmI 29,⟨2,0,[],0,0,0⟩⟩:BlkX)]) h23 rfl
  (zgw (H:=S23) (vs:=[.agg (.slice wb (gmI 29).length wc::enV ⟨2,0,[],0,0,0⟩ (.slice none 0 0)).toArray]) (.cons (blk_iff.2 ⟨_,_,rfl,s23,zny ⟨2,0,[],0,0,0⟩ (z15 _) dC dC dC dC dC⟩) .nil)).1 dC
 obtain⟨S25,s25,q25,h25⟩:=h24.freeze;have sI:=s25.le h25.sh;have lK:PH.le K9 K21:=ww l21 (ww q23 (ww q25 h25.sh));have hP:mmP (gmV l) call=⟨0,0,(t:Int)+2,[⟨mmB0 (gmV l) call,mmE0 t call⟩,⟨mmB1 t,mmE1 t⟩]⟩:=by unfold mmP;rw[hvk]
 have hik2:InI ((t:Int)+2):=by unfold InI;omega
 refine z0k (α:=PrcX) (l:=z1x (gmV l) call) (b:=48) [.agg #[vi 0,vi 0,vi (IntKind.i64.wrap ((t:Int)+2)),.slice (some ⟨r,0,none⟩) 2 2],.agg #[vi 1,vi 0,vi 30,.slice (some ⟨r2,0,none⟩) 1 1]] Zbc Z2p rfl dC dC (Held.nil (wx K21)) kr
  (.cons (by rw[hP,hwk2];exact prc_iff.2 ⟨_,rfl,by show InI 0;decide,by show InI 0;decide,hik2,sB.le lK⟩) (.cons (prc_iff.2 ⟨_,rfl,by show InI 1;decide,by show InI 0;decide,by show InI 30;decide,sI⟩) .nil)) z01 fun v26 K30 h26 _ _=>?_
 obtain⟨S26,s26,q26,h26⟩:=h26.freeze;have c26:=s26.le h26.sh;have lH:PH.le H K30:=ww l19 (ww lK (ww q26 h26.sh));clear h26 s26 q26 sI sB h25 h24 h23 s25 s23 h21 h20;simp only[cns];have h0:0<(gmV l).length:=om;have h50:(gmV l).length≤50:=om;have hin:=Zhg l;have hchk:=zzj (call:=call) h0 h50 hin;have hroom:=Zcf (call:=call) h0 h50 hin;have hst:=Z0m h50 call;have hall:=Znb call h50;have hgen:=g_gen (call:=call) h0 h50 hin om om;have hsum:=zgz (Zc2 (l:=l) om) t om;have hrunR:=fun hasm=>Zmb (call:=call) h0 h50 hin hasm rfl;rw[hvk]at hrunR;obtain⟨st,hstd⟩:∃st,st=mmSt (gmV l).length call:=⟨_,rfl⟩;rw[←hvk]at hrunR;rw[←hstd]at hroom hst hgen hrunR;obtain⟨cb,cc,hcv⟩:=c26.sl;refine z02 (qb 14) (zw9 (z1x (gmV l) call) v26 K30 c26 (Z7e h50)) ?_;rintro _ K31 ⟨l31,rfl,_⟩;rw[hchk,qj rfl,hroom];refine⟨_,[vi st,vi 0],rfl,by rfl,rfl,z01,?_⟩;simp only[cns];refine z02 (qb 15) (Z03 (z1x (gmV l) call) v26 st K31 (c26.le l31) (Z7e h50) (by unfold InI;omega)) ?_;rw[hgen,Zfn];rintro _ K32 ⟨l32,⟨v29,v30,rfl,x29,x30,_⟩,hpk⟩;have hasm:=Zjg (zdy hchk) (hpk hchk) hgen;obtain⟨b29,d29,rfl⟩:=x29.sl;obtain⟨b30,d30,rfl⟩:=x30.sl;refine⟨_,[.slice b29 _ d29,.slice b30 _ d30,vi 0],rfl,by rfl,rfl,z01,?_⟩;simp only[cns];refine z02 (qb 17) (zy7 K32) ?_;rintro _ K33 ⟨v33,rfl,x33,l33⟩;obtain⟨b33,d33,rfl⟩:=x33.sl;refine⟨_,[_],rfl,rfl,rfl,z01,?_⟩;simp only[cns];refine z02 (qb 18) (zyp K33) ?_;rintro _ K34 ⟨v34,rfl,x34,l34⟩;obtain⟨b34,d34,rfl⟩:=x34.sl;refine⟨_,[_],rfl,rfl,rfl,z01,?_⟩;simp only[cns];obtain⟨L,hL⟩:∃L,L=mmAll (gmV l).length call (gmV l):=⟨_,rfl⟩;rw[←hL]at hall hasm hrunR⊢;have hasm:errA (asmR (rt_codeR++gc_codeR++L))=0:=hasm;refine z02 (qb 16) (zus rt_codeR gc_codeR L st 5000 _ _ _ K34 (x33.le l34) x34 ((hL▸x29).le (ww l33 l34)) om dC om) ?_;rintro _ K35 ⟨cv,mv,rfl,hcv',hmv,l35⟩;obtain⟨cb',cd,hcv2⟩:=hcv'.sl;obtain⟨mb,md,hmv2⟩:=hmv.sl;rw[qX hasm];refine⟨_,[cv,mv,vi (imgR (rt_codeR++gc_codeR++L) st 5000).words,.bool true],rfl,by rw[hcv2,hmv2];rfl,rfl,z01,?_⟩;simp only[cns];refine z02 (qb 19) (Z2r (imgR (rt_codeR++gc_codeR++L) st 5000) [] 1099511627776 cv mv K35 hcv' hmv dC) ?_;obtain⟨r1,r2,r3⟩:=hrunR hasm;generalize runR (imgR (rt_codeR++gc_codeR++L) st 5000) [] 1099511627776=h at r1 r2 r3;rintro _ K36 ⟨mv',l36,rfl,hm',hrl,hri⟩;obtain⟨a0,a1,a2,a3,a4,a5,a6,a7,a8,a9,b0,b1',b2',b3',b4,b5,b6,b7,b8,b9,c0,c1,c2,c3,c4,c5,c6,c7,c8,c9,e0,e1,hreg⟩:=Zmm hrl;obtain⟨mb',mc,hmv'⟩:=hm'.sl;obtain⟨hs,va,ou,sp,pc,rg,me⟩:=h;simp only at hreg hm' hri hmv' r1 r2 r3;subst hreg r1 r2;have r3:a1=8*sumW (gmV l) t:=by rw[←hvk];exact r3
 subst r3;refine⟨_,haltV ⟨0,0,ou,sp,pc,_,me⟩ mv',rfl,by rw[hmv'];rfl,rfl,z01,?_⟩;simp only[haltV,wa,List.map_nil,cns];refine⟨?_,ww lH (ww l31 (ww l32 (ww l33 (ww l34 (ww l35 l36)))))⟩;simp only[wy];rw[w64 om om];simp
