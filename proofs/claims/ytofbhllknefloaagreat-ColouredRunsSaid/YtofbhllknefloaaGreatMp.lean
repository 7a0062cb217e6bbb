import Derived.Test.YtofbhllknefloaaGreatMo
set_option linter.unusedSimpArgs false
set_option linter.unusedVariables false
set_option maxRecDepth 100000
namespace Go.Proofs.YtofbhllknefloaaGreat.Vc
open Go
section
variable (p:PrcX) (l:List Int)
def z07 (r:Int):Int:=p.params+l.getD r.toNat 0
def z17 (x:InsX):InsX:={ x with to:=if x.op=tieB then x.to else z07 p l x.to,args:=x.args.map (z07 p l) }
def z0t (e:EndX):EndX:={ e with args:=e.args.map (z07 p l),reg:=if e.kind=0 then e.reg else z07 p l e.reg,to:=if e.calls then z07 p l e.to else e.to,next:=if (e.leads p.blocks.length).isEmpty then e.next else e.next+1,els:=if e.kind=1 then e.els+1 else e.els }
def z5v (b:BlkX):BlkX:=⟨b.ins.map (z17 p l),z0t p l b.e⟩
noncomputable def liveP:List Int:=((List.range p.params.toNat).map fun i:Nat=>(i:Int)).filter fun i=>decide (i∈liveL p 0 0)
def z2p (i:Int):InsX:=⟨movB,z07 p l i,[i],dat0,0⟩
noncomputable def z3j:BlkX:=⟨(liveP p).map (z2p p l),⟨0,0,[],0,1,0⟩⟩
noncomputable def z15 (all:Int):PrcX:=⟨p.params,p.holds,p.params+all,z3j p l::p.blocks.map (z5v p l)⟩
structure PlaceOk (all:Int):Prop where
 len:(l.length:Int)=p.regs
 pos:0≤all
 lo:∀(r:Nat) a,l[r]?=some a→0≤a∧a < all
 apart:∀(r q:Nat) a,l[r]?=some a→l[q]?=some a→r≠q→¬MeetP p (r:Int) (q:Int)
 plain:∀r∈liveL p 0 0,r < p.params
 live:∀r i k,z0p p r i k→0≤r∧r < p.regs
 pars:0≤p.params∧p.params≤p.regs∧p.params≤6
end
section
variable {p:PrcX} {l:List Int} {all:Int}
theorem PlaceOk.get (h:PlaceOk p l all) {r:Int} (h0:0≤r) (h1:r < p.regs):l[r.toNat]?=some (l.getD r.toNat 0)∧0≤l.getD r.toNat 0∧l.getD r.toNat 0 < all:=by
 have hlt:r.toNat < l.length:=by have:=h.len;omega
 have hg:l[r.toNat]?=some (l.getD r.toNat 0):=by
  rw [zgd,zge hlt];rfl
 exact ⟨hg,h.lo _ _ hg⟩
theorem PlaceOk.inj (h:PlaceOk p l all) {r q:Int} (r0:0≤r) (r1:r < p.regs) (q0:0≤q) (q1:q < p.regs) (hne:r≠q) (hm:MeetP p r q):z07 p l r≠z07 p l q:=by
 intro e
 unfold z07 at e
 obtain ⟨h1,_⟩:=h.get r0 r1
 obtain ⟨h2,_⟩:=h.get q0 q1
 have e2:l.getD q.toNat 0=l.getD r.toNat 0:=by omega
 rw [e2] at h2
 refine h.apart r.toNat q.toNat _ h1 h2 (by omega) ?_
 rw [Int.toNat_of_nonneg r0,Int.toNat_of_nonneg q0];exact hm
theorem Z2o {i k:Nat} {b:BlkX} {x:InsX} (hb:p.blocks[i]?=some b) (hx:b.ins[k]?=some x) (hop:x.op≠tieB) {r:Int} (hr:z0p p r i (k+1)) (hmv:¬(x.op=moveB∧r∈x.args)):MeetP p x.to r:=by
 refine .inr ⟨⟨x.to,-1,if x.op=moveB then lessL (liveL p i (k+1)) x.args else liveL p i (k+1)⟩,?_,.inl ⟨rfl,?_⟩⟩
 ·refine List.mem_flatMap.2 ⟨i,List.mem_range.2 (List.getElem?_eq_some_iff.1 hb).1,?_⟩
  rw [hb]
  refine List.mem_append_left _ (List.mem_flatMap.2 ⟨k,List.mem_range.2 (List.getElem?_eq_some_iff.1 hx).1,?_⟩)
  rw [hx]
  simp only [zb5]
  rw [if_neg hop]
  exact List.mem_singleton.2 rfl
 ·show r∈(if x.op=moveB then lessL (liveL p i (k+1)) x.args else liveL p i (k+1))
  split
  ·rename_i hm
   exact List.mem_filter.2 ⟨liveL_mem.2 hr,by simpa using fun h=>hmv ⟨hm,h⟩⟩
  ·exact liveL_mem.2 hr
theorem zzx {i:Nat} {b:BlkX} (hb:p.blocks[i]?=some b) (hc:b.e.calls=true) (hn:0≤b.e.next∧b.e.next < p.blocks.length) {r:Int} (hr:z0p p r b.e.next.toNat 0) (hne:r≠b.e.to):MeetP p b.e.to r:=by
 refine .inr ⟨⟨b.e.to,-1,z1w p (i:Int)⟩,?_,.inl ⟨rfl,?_⟩⟩
 ·refine List.mem_flatMap.2 ⟨i,List.mem_range.2 (List.getElem?_eq_some_iff.1 hb).1,?_⟩
  rw [hb]
  refine List.mem_append_right _ ?_
  rw [if_pos hc];exact List.mem_singleton.2 rfl
 ·show r∈z1w p (i:Int)
  rw [zq4 hb,if_pos ⟨hc,hn⟩]
  exact List.mem_filter.2 ⟨liveL_mem.2 hr,by simpa using hne⟩
theorem zym {r q:Int} (hr:r∈liveL p 0 0) (hq:q∈liveL p 0 0):MeetP p r q:=.inl ⟨hr,hq⟩
structure AgreeC (p:PrcX) (l:List Int) (all:Int) (L:Int→Prop) (rs rs':List VX):Prop where
 len:(rs.length:Int)=p.regs
 len':(rs'.length:Int)=p.params+all
 at_:∀r:Nat,L (r:Int)→rs'[(z07 p l (r:Int)).toNat]?=rs[r]?
theorem AgreeC.less {L L':Int→Prop} {rs rs':List VX} (h:AgreeC p l all L rs rs') (hl:∀r,L' r→L r):AgreeC p l all L' rs rs':=⟨h.len,h.len',fun r hr=>h.at_ r (hl _ hr)⟩
theorem AgreeC.reg {L:Int→Prop} {a a':ActX} (h:AgreeC p l all L a.regs a'.regs) {r:Int} (h0:0≤r) (hr:L r):regAt a' (z07 p l r)=regAt a r:=by
 unfold regAt
 have:=h.at_ r.toNat (by rw [Int.toNat_of_nonneg h0];exact hr)
 rw [Int.toNat_of_nonneg h0] at this
 rw [zgd,zgd,this]
theorem AgreeC.set (ok:PlaceOk p l all) (hp:0≤p.params) {L L':Int→Prop} {rs rs':List VX} (h:AgreeC p l all L rs rs') {t:Int} (t0:0≤t) (t1:t < p.regs) (v:VX)
  (hl:∀r,L' r→0≤r∧r < p.regs) (hk:∀r,L' r→r=t∨(L r∧(z07 p l t=z07 p l r→rs[r.toNat]?=some v))):AgreeC p l all L' (rs.set t.toNat v) (rs'.set (z07 p l t).toNat v):=by
 obtain ⟨_,g1,g2⟩:=ok.get t0 t1
 have pt:0≤z07 p l t∧z07 p l t < p.params+all:=by unfold z07;omega
 have hlen:=h.len
 have hlen':=h.len'
 refine ⟨by simpa using h.len,by simpa using h.len',fun r hr=>?_⟩
 obtain ⟨r0,r1⟩:=hl _ hr
 obtain ⟨_,g3,g4⟩:=ok.get r0 r1
 have pr:0≤z07 p l (r:Int)∧z07 p l (r:Int) < p.params+all:=by unfold z07;omega
 rw [zbe,zbe]
 rcases hk _ hr with e | ⟨hL,hv⟩
 ·have e1:t.toNat=r:=by omega
  rw [if_pos ⟨by rw [e],by omega⟩,if_pos ⟨e1,by omega⟩]
 ·by_cases e:t.toNat=r
  ·have e2:t=(r:Int):=by omega
   rw [if_pos ⟨by rw [e2],by omega⟩,if_pos ⟨e,by omega⟩]
  ·by_cases e3:z07 p l t=z07 p l (r:Int)
   ·rw [if_pos ⟨by rw [e3],by omega⟩,if_neg (fun hh=>e hh.1)]
    have:=hv e3
    rw [Int.toNat_natCast] at this
    exact this.symm
   ·rw [if_neg (fun hh=>e3 (by omega)),if_neg (fun hh=>e hh.1)]
    exact h.at_ r hL
end
theorem Z2s {W P:ActX→ActX→Prop} {K:Dat→VX} {m m':MX} {ws ws':List ActX} {a a':ActX} {x x':InsX} (hc:CoreR W m m') (he:m.e=0) (hd:m.done=false) (h1:m.acts=ws++[a]) (h2:m'.acts=ws'++[a']) (hw:All2 W ws ws') (hclo:a.clo=a'.clo)
  (ho:x'.op=x.op) (hcn:x'.const=x.const) (hn:x'.num=x.num) (hargs:x'.args.map (regAt a')=x.args.map (regAt a))
  (hP:x.op≠tieB→∀v,(x.op=moveB→v=(x.args.map (regAt a)).getD 0 vNone)→P { a with regs:=a.regs.set x.to.toNat v } { a' with regs:=a'.regs.set x'.to.toNat v }) (hT:x.op=tieB→P a a') :
  EndX2 (m.ins K x) (m'.ins K x')∨MR W P (m.ins K x) (m'.ins K x'):=by
 have g1:m.acts.getLast?.getD default=a:=by rw [h1,z2d];rfl
 have g2:m'.acts.getLast?.getD default=a':=by rw [h2,z2d];rfl
 have he':m'.e=0:=by rw [←hc.e];exact he
 have told:x.op≠tieB→∀(n n':MX) (v v':VX),CoreR W n n'→n.done=false→n.acts=m.acts→n'.acts=m'.acts→v=v'→(x.op=moveB→v=(x.args.map (regAt a)).getD 0 vNone)→EndX2 (if n.e=0 then n.put x.to v else n) (if n'.e=0 then n'.put x'.to v' else n')∨MR W P (if n.e=0 then n.put x.to v else n) (if n'.e=0 then n'.put x'.to v' else n'):=fun hop n n' v v' hcc hdd ha1 ha2 hv hmv=>by
  subst hv
  by_cases hz:n.e=0
  ·rw [if_pos hz,if_pos (by rw [←hcc.e];exact hz)]
   exact .inr (zxd hcc hz hdd (ha1.trans h1) (ha2.trans h2) hw (hP hop v hmv))
  ·rw [if_neg hz,if_neg (by rw [←hcc.e];exact hz)]
   exact .inl ⟨.inl hz,.inl (by rw [←hcc.e];exact hz),hcc.e,hcc.out,fun h=>absurd h hz⟩
 have held:(m.clos.getD a.clo.toNat default).held=(m'.clos.getD a'.clo.toNat default).held:=by
  rw [←hclo,zgd,zgd]
  cases hx:m.clos[a.clo.toNat]? with
  | none=>
   have hl:=zi3 hc.clos
   have:m'.clos[a.clo.toNat]?=none:=by
    rw [List.getElem?_eq_none_iff] at hx ⊢
    omega
   rw [this]
  | some y=>
   obtain ⟨z,hz,hyz⟩:=zbm hc.clos hx
   rw [hz]
   exact hyz.held
 have hend:∀z:Int,z≠0→EndX2 { m with e:=z } { m' with e:=z }:=fun z hz=>⟨.inl hz,.inl hz,rfl,hc.out,fun h=>absurd h hz⟩
 unfold MX.ins
 simp only [g1,g2,ho,hcn,hn,hargs]
 by_cases c1:x.op=[99,111,110,115,116]
 ·rw [if_pos c1,if_pos c1]
  exact told (by rw [c1];decide) m m' _ _ hc hd rfl rfl rfl (fun h=>absurd (c1.symm.trans h) (by decide))
 rw [if_neg c1,if_neg c1]
 by_cases c2:x.op=[109,111,118,101]
 ·rw [if_pos c2,if_pos c2]
  exact told (by rw [c2];decide) m m' _ _ hc hd rfl rfl rfl (fun _=>rfl)
 rw [if_neg c2,if_neg c2]
 by_cases c3:x.op=[104,101,108,100]
 ·rw [if_pos c3,if_pos c3]
  exact told (by rw [c3];decide) m m' _ _ hc hd rfl rfl (by rw [held]) (fun h=>absurd (c3.symm.trans h) (by decide))
 rw [if_neg c3,if_neg c3]
 by_cases c4:x.op=[99,108,111,115,117,114,101]
 ·rw [if_pos c4,if_pos c4]
  obtain ⟨k1,k2,k3,k4,k5,k6⟩:=zf0 hc (x:=⟨0,x.num,x.args.map (regAt a),false,[]⟩) (y:=⟨0,x.num,x.args.map (regAt a),false,[]⟩) rfl rfl rfl .nil
  exact told (by rw [c4];decide) _ _ _ _ k1 (k5.trans hd) k3 k4 k2 (fun h=>absurd (c4.symm.trans h) (by decide))
 rw [if_neg c4,if_neg c4]
 by_cases c5:x.op=tieB
 ·rw [if_pos c5,if_pos c5,←zow hc]
  cases hk:m.find ((x.args.map (regAt a)).getD 0 vNone) with
  | none=>exact .inl (hend 80 (by omega))
  | some k=>
   simp only
   have hkl:∃y,m.clos[k]?=some y:=by
    unfold MX.find at hk
    obtain ⟨h1,_⟩:=List.findIdx?_eq_some_iff_getElem.1 hk
    exact ⟨_,zge h1⟩
   obtain ⟨y,hy⟩:=hkl
   obtain ⟨z,hz,hyz⟩:=zbm hc.clos hy
   have gy:m.clos.getD k default=y:=by rw [zgd,hy];rfl
   have gz:m'.clos.getD k default=z:=by rw [zgd,hz];rfl
   rw [gy,gz,←hyz.held]
   by_cases hl:(y.held.length:Int)≤x.num
   ·rw [if_pos hl,if_pos hl]
    exact .inl (hend 80 (by omega))
   ·rw [if_neg hl,if_neg hl]
    exact .inr ⟨⟨hc.h,hc.input,hc.out,hc.winders,hc.told,hc.e,hc.done,zox hc.clos ⟨hyz.thing,hyz.proc,rfl,hyz.kont,hyz.acts⟩⟩,he,hd,ws,a,ws',a',h1,h2,hw,hT c5⟩
 rw [if_neg c5,if_neg c5]
 obtain ⟨k1,k2,k3,k4,k5,k6⟩:=zuh hc x.op (x.args.map (regAt a))
 exact told c5 _ _ _ _ k1 (k5.trans hd) k3 k4 k2 (fun h=>absurd h c2)
abbrev PlQ:=Int→Option (List Int×Int)
structure MovedC (c c':CodeX) (Q:PlQ):Prop where
 none_:∀j,Q j=none→prcAt c' j=prcAt c j
 some_:∀j x,Q j=some x→prcAt c' j=z15 (prcAt c j) x.1 x.2
 ok:∀j x,Q j=some x→PlaceOk (prcAt c j) x.1 x.2
def z1a (c:CodeX) (Q:PlQ) (j:Int) (L:Int→Prop) (rs rs':List VX):Prop:=match Q j with
 | none=>rs'=rs
 | some x=>AgreeC (prcAt c j) x.1 x.2 L rs rs'
def offQ (Q:PlQ) (j:Int):Int:=match Q j with
 | none=>0
 | some _=>1
def z1y (c:CodeX) (a:ActX) (r:Int):Prop:=z0p (prcAt c a.proc) r a.block.toNat a.at_.toNat
structure RunC (c:CodeX) (Q:PlQ) (a a':ActX):Prop where
 proc:a'.proc=a.proc
 clo:a.clo=a'.clo
 block:a'.block=a.block+offQ Q a.proc
 at_:a'.at_=a.at_
 regs:z1a c Q a.proc (z1y c a) a.regs a'.regs
def ToQ (c:CodeX) (Q:PlQ) (a a':ActX):Prop:=match Q a.proc with
 | none=>a'.to=a.to
 | some x=>a'.to=z07 (prcAt c a.proc) x.1 a.to∧(0≤a.to∧a.to < (prcAt c a.proc).regs)∧∀r,z1y c a r→r≠a.to→z07 (prcAt c a.proc) x.1 a.to≠z07 (prcAt c a.proc) x.1 r
structure WaitC (c:CodeX) (Q:PlQ) (a a':ActX):Prop where
 proc:a'.proc=a.proc
 clo:a.clo=a'.clo
 block:a'.block=a.block+offQ Q a.proc
 at_:a'.at_=a.at_
 to:ToQ c Q a a'
 regs:z1a c Q a.proc (fun r=>z1y c a r∧r≠a.to) a.regs a'.regs
def z6e (c c':CodeX) (a a':ActX):Prop:=∃(j:Int) (k:Nat) (args:List VX),(args.length:Int)=(prcAt c j).params∧a=z10 (prcAt c j) j k args∧a'=z10 (prcAt c' j) j k args
section
variable {K:Dat→VX} {c c':CodeX} {Q:PlQ}
theorem zly (hm:MovedC c c' Q) {a a':ActX} (v:VX) (h:WaitC c Q a a'):RunC c Q { a with regs:=a.regs.set a.to.toNat v } { a' with regs:=a'.regs.set a'.to.toNat v }:=by
 refine ⟨h.proc,h.clo,h.block,h.at_,?_⟩
 have hto:=h.to
 have hre:=h.regs
 unfold ToQ at hto
 unfold z1a at hre ⊢
 show match Q a.proc with
  | none=>a'.regs.set a'.to.toNat v=a.regs.set a.to.toNat v
  | some x=>AgreeC (prcAt c a.proc) x.1 x.2 (z1y c a) (a.regs.set a.to.toNat v) (a'.regs.set a'.to.toNat v)
 cases hQ:Q a.proc with
 | none=>
  rw [hQ] at hto hre
  simp only at hto hre ⊢
  rw [hto,hre]
 | some x=>
  rw [hQ] at hto hre
  simp only at hto hre ⊢
  obtain ⟨e,t01,hap⟩:=hto
  have ok:=hm.ok _ _ hQ
  rw [e]
  refine hre.set ok ok.pars.1 t01.1 t01.2 v (fun r hr=>ok.live r _ _ hr) fun r hr=>?_
  by_cases er:r=a.to
  ·exact .inl er
  ·exact .inr ⟨⟨hr,er⟩,fun hh=>absurd hh (hap r hr er)⟩
theorem Z1z (hm:MovedC c c' Q) {a a':ActX} (h:z6e c c' a a') (hQ:Q a.proc=none):RunC c Q a a':=by
 obtain ⟨j,k,args,_,rfl,rfl⟩:=h
 have hQ:Q j=none:=hQ
 have e:prcAt c' j=prcAt c j:=hm.none_ j hQ
 rw [e]
 refine ⟨rfl,rfl,?_,rfl,?_⟩
 ·show (0:Int)=0+offQ Q j
  unfold offQ;rw [hQ];rfl
 ·show z1a c Q j _ _ _
  unfold z1a;rw [hQ]
theorem zsy (hm:MovedC c c' Q) {a:ActX} (hb:0≤a.block) {b:BlkX} (h:(prcAt c a.proc).blocks[a.block.toNat]?=some b):blkAt (prcAt c' a.proc) (a.block+offQ Q a.proc)=match Q a.proc with
  | none=>b
  | some x=>z5v (prcAt c a.proc) x.1 b:=by
 unfold blkAt offQ
 cases hQ:Q a.proc with
 | none=>
  simp only
  rw [hm.none_ _ hQ,Int.add_zero,zgd,h];rfl
 | some x=>
  simp only
  rw [hm.some_ _ _ hQ,show (a.block+1).toNat=a.block.toNat+1 by omega]
  show (z3j _ _::(prcAt c a.proc).blocks.map (z5v (prcAt c a.proc) x.1)).getD (a.block.toNat+1) _=_
  rw [List.getD_cons_succ,zgd,List.getElem?_map,h];rfl
theorem ze3 (hm:MovedC c c' Q) (j:Int):(prcAt c j).params=(prcAt c' j).params:=by
 cases hQ:Q j with
 | none=>rw [hm.none_ _ hQ]
 | some x=>rw [hm.some_ _ _ hQ];rfl
theorem Z1t (hm:MovedC c c' Q) (g:GoodC c) {n:Nat} {m m':MX} (hro:RunOk c n m) {ws ws':List ActX} {a a':ActX} (hc:CoreR (WaitC c Q) m m') (he:m.e=0) (hd:m.done=false) (h1:m.acts=ws++[a]) (h2:m'.acts=ws'++[a']) (hw:All2 (WaitC c Q) ws ws') (hr:RunC c Q a a') {x:InsX} (hx:(blkAt (prcAt c a.proc) a.block).ins[a.at_.toNat]?=some x) :
  EndX2 (m.step K c) (m'.step K c')∨MR (WaitC c Q) (RunC c Q) (m.step K c) (m'.step K c'):=by
 have hao:=hro.acts.acts a (by rw [h1];simp)
 obtain ⟨hpm,_⟩:=z1n hao.proc.1 hao.proc.2
 have gp:=g.prc hpm
 obtain ⟨hbm,hbk⟩:=zha hao.blk.1 hao.blk.2
 have hxm:=List.mem_of_getElem? hx
 have gx:=z3w ((gp.ins _ hbm).2 x hxm)
 have h0:=hao.at_.1
 have hlen:=(List.getElem?_eq_some_iff.1 hx).1
 have e1:(a.at_+1).toNat=a.at_.toNat+1:=by omega
 have hB:=zsy hm hao.blk.1 hbk
 have s1:m.step K c=({ m with acts:=ws++[{ a with at_:=a.at_+1 }] }:MX).ins K x:=by
  unfold MX.step;simp only [z29 h1,hx,z2w h1]
 have live:∀r,z1y c a r↔r∈x.args∨(¬x.fills r∧z1y c { a with at_:=a.at_+1 } r):=fun r=>by
  unfold z1y
  show z0p _ r _ _↔_∨(_∧z0p _ r _ (a.at_+1).toNat)
  rw [e1];exact Z3j hbk hx
 have hre:=hr.regs
 cases hQ:Q a.proc with
 | none=>
  rw [hQ] at hB
  unfold z1a at hre
  rw [hQ] at hre
  simp only at hB hre
  have s2:m'.step K c'=({ m' with acts:=ws'++[{ a' with at_:=a'.at_+1 }] }:MX).ins K x:=by
   have hx':(blkAt (prcAt c' a'.proc) a'.block).ins[a'.at_.toNat]?=some x:=by rw [hr.proc,hr.block,hB,hr.at_];exact hx
   unfold MX.step;simp only [z29 h2,hx',z2w h2]
  rw [s1,s2]
  refine Z5a (hc.acts _ _) he hd rfl rfl hw (by exact hr.clo) rfl rfl rfl ?_ (fun hop v=>?_) (fun hop=>?_)
  ·refine List.map_congr_left fun r _=>?_
   show a'.regs.getD r.toNat vNone=a.regs.getD r.toNat vNone
   rw [hre]
  ·refine ⟨hr.proc,hr.clo,hr.block,by show a'.at_+1=a.at_+1;rw [hr.at_],?_⟩
   show z1a c Q a.proc _ (a.regs.set _ v) (a'.regs.set _ v)
   unfold z1a;rw [hQ];simp only;rw [hre]
  ·refine ⟨hr.proc,hr.clo,hr.block,by show a'.at_+1=a.at_+1;rw [hr.at_],?_⟩
   show z1a c Q a.proc _ a.regs a'.regs
   unfold z1a;rw [hQ];exact hre
 | some y=>
  rw [hQ] at hB
  unfold z1a at hre
  rw [hQ] at hre
  simp only at hB hre
  have ok:=hm.ok _ _ hQ
  have s2:m'.step K c'=({ m' with acts:=ws'++[{ a' with at_:=a'.at_+1 }] }:MX).ins K (z17 (prcAt c a.proc) y.1 x):=by
   have hx':(blkAt (prcAt c' a'.proc) a'.block).ins[a'.at_.toNat]?=some (z17 (prcAt c a.proc) y.1 x):=by
    rw [hr.proc,hr.block,hB,hr.at_]
    show ((blkAt (prcAt c a.proc) a.block).ins.map (z17 (prcAt c a.proc) y.1))[a.at_.toNat]?=_
    rw [List.getElem?_map,hx];rfl
   unfold MX.step;simp only [z29 h2,hx',z2w h2]
  rw [s1,s2]
  refine Z2s (hc.acts _ _) he hd rfl rfl hw (by exact hr.clo) rfl rfl rfl ?_ (fun hop v hmv=>?_) (fun hop=>?_)
  ·show (x.args.map (z07 (prcAt c a.proc) y.1)).map _=_
   rw [List.map_map]
   refine List.map_congr_left fun r hrm=>?_
   exact AgreeC.reg (a:={ a with at_:=a.at_+1 }) (a':={ a' with at_:=a'.at_+1 }) hre (gx.args r hrm).1 ((live r).2 (.inl hrm))
  ·refine ⟨hr.proc,hr.clo,hr.block,by show a'.at_+1=a.at_+1;rw [hr.at_],?_⟩
   have ht:=gx.to hop
   show z1a c Q a.proc (z1y c { a with at_:=a.at_+1 }) (a.regs.set x.to.toNat v) (a'.regs.set (z17 (prcAt c a.proc) y.1 x).to.toNat v)
   have hto:(z17 (prcAt c a.proc) y.1 x).to=z07 (prcAt c a.proc) y.1 x.to:=by
    show (if x.op=tieB then x.to else _)=_
    rw [if_neg hop]
   rw [hto]
   unfold z1a;rw [hQ]
   refine hre.set ok ok.pars.1 ht.1 ht.2 v (fun r hr'=>ok.live r _ _ hr') fun r hr'=>?_
   by_cases er:r=x.to
   ·exact .inl er
   refine .inr ⟨(live r).2 (.inr ⟨fun hf=>er hf.2.symm,hr'⟩),fun hh=>?_⟩
   have hrr:=ok.live r _ _ hr'
   by_cases hmm:x.op=moveB∧r∈x.args
   ·have hv:=hmv hmm.1
    have h1a:=gx.move hmm.1
    obtain ⟨z,hz⟩:∃z,x.args=[z]:=by
     match hxa:x.args,h1a with
     | [z],_=>exact ⟨z,rfl⟩
    rw [hz] at hv hmm
    have ez:r=z:=by simpa using hmm.2
    rw [hv,ez]
    show _=some (a.regs.getD z.toNat vNone)
    have hzl:z.toNat < a.regs.length:=by
     have:=hao.regs
     rw [←ez];omega
    rw [zgd,zge hzl];rfl
   ·refine absurd hh (ok.inj ht.1 ht.2 hrr.1 hrr.2 (Ne.symm er) ?_)
    have hr2:z0p (prcAt c a.proc) r a.block.toNat (a.at_.toNat+1):=by
     have:z0p (prcAt c a.proc) r a.block.toNat (a.at_+1).toNat:=hr'
     rw [e1] at this;exact this
    exact Z2o hbk hx hop hr2 hmm
  ·refine ⟨hr.proc,hr.clo,hr.block,by show a'.at_+1=a.at_+1;rw [hr.at_],?_⟩
   show z1a c Q a.proc _ a.regs a'.regs
   unfold z1a;rw [hQ]
   exact hre.less fun r hr'=>(live r).2 (.inr ⟨fun hf=>hf.1 hop,hr'⟩)
end
section
variable {K:Dat→VX} {c c':CodeX} {Q:PlQ}
theorem Z2j (hm:MovedC c c' Q) (g:GoodC c) {n:Nat} {m m':MX} (hro:RunOk c n m) {ws ws':List ActX} {a a':ActX} (hc:CoreR (WaitC c Q) m m') (he:m.e=0) (hd:m.done=false) (h1:m.acts=ws++[a]) (h2:m'.acts=ws'++[a']) (hw:All2 (WaitC c Q) ws ws') (hr:RunC c Q a a') (hx:(blkAt (prcAt c a.proc) a.block).ins[a.at_.toNat]?=none) :
  EndX2 (m.step K c) (m'.step K c')∨MR (WaitC c Q) (RunC c Q) (m.step K c) (m'.step K c')∨MR (WaitC c Q) (z6e c c') (m.step K c) (m'.step K c'):=by
 have hao:=hro.acts.acts a (by rw [h1];simp)
 obtain ⟨hpm,_⟩:=z1n hao.proc.1 hao.proc.2
 have gp:=g.prc hpm
 obtain ⟨hbm,hbk⟩:=zha hao.blk.1 hao.blk.2
 have gf:=z2n (gp.fin _ hbm)
 have hge:=List.getElem?_eq_none_iff.1 hx
 have hat:a.at_.toNat=(blkAt (prcAt c a.proc) a.block).ins.length:=by have:=hao.at_;omega
 have hB:=zsy hm hao.blk.1 hbk
 generalize hb0:blkAt (prcAt c a.proc) a.block=B at *
 have s1:m.step K c=m.fin c B.e:=by
  unfold MX.step;simp only [z29 h1,hb0,hx]
 have liveE:∀r,B.e.reads r=true∨(¬(B.e.calls=true∧B.e.to=r)∧∃j:Nat,(j:Int)∈B.e.leads (prcAt c a.proc).blocks.length∧z0p (prcAt c a.proc) r j 0)→z1y c a r:=fun r h=>by
  unfold z1y
  rw [hat]
  exact (Z3z hbk).2 h
 have goes:∀(nb:Int),nb∈B.e.ways→0≤nb→nb < (prcAt c a.proc).blocks.length→∀r,z0p (prcAt c a.proc) r nb.toNat 0→¬(B.e.calls=true∧B.e.to=r)→z1y c a r:=fun nb hm h0 hlt r hl hno=>
  liveE r (.inr ⟨hno,nb.toNat,List.mem_filter.2 ⟨by rw [show ((nb.toNat:Nat):Int)=nb by omega];exact hm,by simp;omega⟩,hl⟩)
 have hN:∀(j:Int) (k:Nat) (args:List VX),(args.length:Int)=(prcAt c j).params→z6e c c' (z10 (prcAt c j) j k args) (z10 (prcAt c' j) j k args):=fun j k args hl=>⟨j,k,args,hl,rfl,rfl⟩
 have hre:=hr.regs
 have next:∀(v:VX),B.e.kind=0∨B.e.kind=1→∃nb:Int,nb=(if B.e.kind=1∧v=vNone then B.e.els else B.e.next)∧nb∈B.e.ways∧0≤nb∧nb < (prcAt c a.proc).blocks.length:=fun v hk=>by
  by_cases hk1:B.e.kind=1∧v=vNone
  ·exact ⟨_,rfl,by rw [if_pos hk1];unfold EndX.ways;rw [if_pos hk1.1];simp,by rw [if_pos hk1];exact (gf.els hk1.1).1,by rw [if_pos hk1];exact (gf.els hk1.1).2⟩
  ·have hkk:B.e.kind=0∨B.e.kind=1∨B.e.kind=4∨B.e.kind=6:=by omega
   exact ⟨_,rfl,by rw [if_neg hk1];unfold EndX.ways;rw [if_pos hkk];simp,by rw [if_neg hk1];exact (gf.next hkk).1,by rw [if_neg hk1];exact (gf.next hkk).2⟩
 have noc:B.e.kind=0∨B.e.kind=1→∀r,¬(B.e.calls=true∧B.e.to=r):=fun hk r h=>by
  have:=h.1
  unfold EndX.calls at this
  have:=of_decide_eq_true this
  omega
 cases hQ:Q a.proc with
 | none=>
  rw [hQ] at hB
  unfold z1a at hre
  rw [hQ] at hre
  simp only at hB hre
  have s2:m'.step K c'=m'.fin c' B.e:=by
   have hx':(blkAt (prcAt c' a'.proc) a'.block)=B:=by rw [hr.proc,hr.block,hB]
   unfold MX.step;simp only [z29 h2,hx',hr.at_,hx]
  rw [s1,s2]
  have hreg:∀r,regAt a' r=regAt a r:=fun r=>by unfold regAt;rw [hre]
  have ho:offQ Q a.proc=0:=by unfold offQ;rw [hQ]
  refine zy6 (N:=z6e c c') hc he hd h1 h2 hw rfl ?_ (fun _=>hreg _) (fun n2 n3 n4 n5 n6=>?_) (fun h=>?_) (fun a a' v h=>zly hm v h) (ze3 hm) hN
  ·exact List.map_congr_left fun r _=>hreg r
  ·refine ⟨hr.proc,hr.clo,?_,rfl,?_⟩
   ·show _=_+offQ Q a.proc
    rw [ho,Int.add_zero];rfl
   ·show z1a c Q a.proc _ a.regs a'.regs
    unfold z1a;rw [hQ];exact hre
  ·refine ⟨hr.proc,hr.clo,?_,rfl,?_,?_⟩
   ·show _=_+offQ Q a.proc
    rw [ho,Int.add_zero];rfl
   ·show match Q a.proc with
     | none=>B.e.to=B.e.to
     | some x=>_
    rw [hQ]
   ·show z1a c Q a.proc _ a.regs a'.regs
    unfold z1a;rw [hQ];exact hre
 | some y=>
  rw [hQ] at hB
  unfold z1a at hre
  rw [hQ] at hre
  simp only at hB hre
  have ok:=hm.ok _ _ hQ
  have ho:offQ Q a.proc=1:=by unfold offQ;rw [hQ]
  have s2:m'.step K c'=m'.fin c' (z0t (prcAt c a.proc) y.1 B.e):=by
   have hx':(blkAt (prcAt c' a'.proc) a'.block)=z5v (prcAt c a.proc) y.1 B:=by rw [hr.proc,hr.block,hB]
   have hx2:(z5v (prcAt c a.proc) y.1 B).ins[a'.at_.toNat]?=none:=by
    rw [hr.at_]
    show (B.ins.map (z17 (prcAt c a.proc) y.1))[a.at_.toNat]?=_
    rw [List.getElem?_map,hx];rfl
   unfold MX.step;simp only [z29 h2,hx',hx2];rfl
  rw [s1,s2]
  have lead:B.e.kind=0∨B.e.kind=1∨B.e.kind=4∨B.e.kind=6→(z0t (prcAt c a.proc) y.1 B.e).next=B.e.next+1:=fun hk=>by
   show (if (B.e.leads (prcAt c a.proc).blocks.length).isEmpty then B.e.next else B.e.next+1)=_
   have h0:=gf.next hk
   have hne:B.e.leads (prcAt c a.proc).blocks.length≠[]:=by
    refine List.ne_nil_of_mem (a:=B.e.next) (List.mem_filter.2 ⟨?_,by simpa using h0⟩)
    unfold EndX.ways;rw [if_pos hk];simp
   have:(B.e.leads (prcAt c a.proc).blocks.length).isEmpty=false:=by
    cases hh:(B.e.leads (prcAt c a.proc).blocks.length).isEmpty with
    | false=>rfl
    | true=>exact absurd (List.isEmpty_iff.1 hh) hne
   rw [this];rfl
  refine zy6 (N:=z6e c c') hc he hd h1 h2 hw rfl ?_ (fun h=>?_) (fun n2 n3 n4 n5 n6=>?_) (fun h=>?_) (fun a a' v h=>zly hm v h) (ze3 hm) hN
  ·show (B.e.args.map (z07 (prcAt c a.proc) y.1)).map _=_
   rw [List.map_map]
   refine List.map_congr_left fun r hrm=>?_
   exact AgreeC.reg hre (gf.args r hrm).1 (liveE r (.inl (Z24 (gf.argsK (fun e=>by rw [e] at hrm;cases hrm)) hrm)))
  ·show regAt a' (if B.e.kind=0 then B.e.reg else z07 (prcAt c a.proc) y.1 B.e.reg)=_
   rw [if_neg h]
   exact AgreeC.reg hre gf.reg0 (liveE _ (.inl (Z2h (by have:=gf.kind;omega))))
  ·obtain ⟨v,hv⟩:∃v,v=(if B.e.kind=0 then vNone else regAt a B.e.reg):=⟨_,rfl⟩
   rw [←hv]
   have hk01:B.e.kind=0∨B.e.kind=1:=by have:=gf.kind;omega
   obtain ⟨nb,hnb,hw1,hw2,hw3⟩:=next v hk01
   refine ⟨hr.proc,hr.clo,?_,rfl,?_⟩
   ·show (if B.e.kind=1∧v=vNone then (if B.e.kind=1 then B.e.els+1 else B.e.els) else (z0t (prcAt c a.proc) y.1 B.e).next)=(if B.e.kind=1∧v=vNone then B.e.els else B.e.next)+offQ Q a.proc
    rw [ho,lead (by omega)]
    by_cases hk1:B.e.kind=1∧v=vNone
    ·rw [if_pos hk1,if_pos hk1,if_pos hk1.1]
    ·rw [if_neg hk1,if_neg hk1]
   ·show z1a c Q a.proc (z1y c (z27 B.e v a)) a.regs a'.regs
    unfold z1a;rw [hQ]
    refine hre.less fun r hl=>goes nb hw1 hw2 hw3 r ?_ (noc hk01 r)
    have hl2:z0p (prcAt c a.proc) r (if B.e.kind=1∧v=vNone then B.e.els else B.e.next).toNat 0:=hl
    rw [←hnb] at hl2;exact hl2
  ·have hkk:B.e.kind=0∨B.e.kind=1∨B.e.kind=4∨B.e.kind=6:=by omega
   have hcalls:B.e.calls=true:=by unfold EndX.calls;simpa using h
   have hto:=gf.to h
   have hne1:∀z:VX,¬(B.e.kind=1∧z=vNone):=fun z hh=>by omega
   have hlive:∀r,z1y c (z27 B.e (regAt a B.e.reg) a) r→z0p (prcAt c a.proc) r B.e.next.toNat 0:=fun r hl=>by
    have hl2:z0p (prcAt c a.proc) r (if B.e.kind=1∧regAt a B.e.reg=vNone then B.e.els else B.e.next).toNat 0:=hl
    rw [if_neg (hne1 _)] at hl2;exact hl2
   refine ⟨hr.proc,hr.clo,?_,rfl,?_,?_⟩
   ·show (if B.e.kind=1∧regAt a B.e.reg=vNone then (if B.e.kind=1 then B.e.els+1 else B.e.els) else (z0t (prcAt c a.proc) y.1 B.e).next)=(if B.e.kind=1∧regAt a B.e.reg=vNone then B.e.els else B.e.next)+offQ Q a.proc
    rw [ho,lead hkk,if_neg (hne1 _),if_neg (hne1 _)]
   ·show match Q a.proc with
     | none=>(z0t (prcAt c a.proc) y.1 B.e).to=B.e.to
     | some x=>(z0t (prcAt c a.proc) y.1 B.e).to=z07 (prcAt c a.proc) x.1 B.e.to∧(0≤B.e.to∧B.e.to < (prcAt c a.proc).regs)∧∀r,z1y c (z27 B.e (regAt a B.e.reg) a) r→r≠B.e.to→z07 (prcAt c a.proc) x.1 B.e.to≠z07 (prcAt c a.proc) x.1 r
    rw [hQ]
    refine ⟨?_,hto,fun r hl hne=>?_⟩
    ·show (if B.e.calls then _ else _)=_
     rw [if_pos hcalls]
    ·have hl2:=hlive r hl
     have hrr:=ok.live r _ _ hl2
     exact ok.inj hto.1 hto.2 hrr.1 hrr.2 (Ne.symm hne) (zzx hbk hcalls (gf.next hkk) hl2 hne)
   ·show z1a c Q a.proc (fun r=>z1y c (z27 B.e (regAt a B.e.reg) a) r∧r≠B.e.to) a.regs a'.regs
    unfold z1a;rw [hQ]
    refine hre.less fun r hl=>?_
    have h0:=gf.next hkk
    exact goes B.e.next (by unfold EndX.ways;rw [if_pos hkk];simp) h0.1 h0.2 r (hlive r hl.1) (fun hh=>hl.2 hh.2.symm)
theorem zyy (hm:MovedC c c' Q) (g:GoodC c) {n:Nat} {m m':MX} (hro:RunOk c n m) {ws ws':List ActX} {a a':ActX} (hc:CoreR (WaitC c Q) m m') (he:m.e=0) (hd:m.done=false) (h1:m.acts=ws++[a]) (h2:m'.acts=ws'++[a']) (hw:All2 (WaitC c Q) ws ws') (hr:RunC c Q a a') :
  EndX2 (m.step K c) (m'.step K c')∨MR (WaitC c Q) (RunC c Q) (m.step K c) (m'.step K c')∨MR (WaitC c Q) (z6e c c') (m.step K c) (m'.step K c'):=by
 cases hx:(blkAt (prcAt c a.proc) a.block).ins[a.at_.toNat]? with
 | some x=>
  rcases Z1t (K:=K) hm g hro hc he hd h1 h2 hw hr hx with h | h
  ·exact .inl h
  ·exact .inr (.inl h)
 | none=>exact Z2j hm g hro hc he hd h1 h2 hw hr hx
end
section
variable {K:Dat→VX} {c c':CodeX} {Q:PlQ} {p:PrcX} {l:List Int} {all:Int}
def moveK (p:PrcX) (l:List Int):List Int→List VX→List VX
 | [],rs=>rs
 | i::is,rs=>moveK p l is (rs.set (z07 p l i).toNat (rs.getD i.toNat vNone))
theorem zsv:∀(is:List Int) (rs:List VX),(moveK p l is rs).length=rs.length
 | [],rs=>rfl
 | i::is,rs=>by rw [moveK,zsv is];simp
theorem Z1c {is:List Int} {j:Nat} (hj:∀i∈is,(z07 p l i).toNat≠j):∀rs:List VX,(moveK p l is rs)[j]?=rs[j]?:=by
 induction is with
 | nil=>intro rs;rfl
 | cons i is ih=>
  intro rs
  rw [moveK,ih (fun i hi=>hj i (zmm _ hi)),zbe]
  rw [if_neg (fun h=>hj i (zms) h.1)]
theorem Z2u {is:List Int} (hn:is.Nodup) (hin:∀i∈is,0≤i∧i < p.params) (hpl:∀i∈is,p.params≤z07 p l i) (hinj:∀i∈is,∀j∈is,i≠j→z07 p l i≠z07 p l j) :
  ∀rs:List VX,(∀i∈is,z07 p l i < rs.length)→∀i∈is,(moveK p l is rs)[(z07 p l i).toNat]?=rs[i.toNat]?:=by
 induction is with
 | nil=>intro rs _ i hi;cases hi
 | cons a is ih=>
  intro rs hlt i hi
  have hna:=(List.nodup_cons.1 hn).1
  have hplt:=hlt a (zms)
  have ha:=hin a (zms)
  have hpa:=hpl a (zms)
  rw [moveK]
  rcases List.mem_cons.1 hi with rfl | hi'
  ·have hoff:∀j∈is,(z07 p l j).toNat≠(z07 p l i).toNat:=fun j hj e=>by
    have h1:=hpl j (zmm _ hj)
    exact hinj j (zmm _ hj) i (zms) (fun e2=>hna (e2 ▸ hj)) (by omega)
   rw [Z1c hoff,zbe,if_pos ⟨rfl,by omega⟩]
   have hil:i.toNat < rs.length:=by omega
   rw [zgd,zge hil];rfl
  ·have hii:=hin i hi
   rw [ih (List.nodup_cons.1 hn).2 (fun j hj=>hin j (zmm _ hj)) (fun j hj=>hpl j (zmm _ hj)) (fun j hj q hq=>hinj j (zmm _ hj) q (zmm _ hq)) _ (fun j hj=>by rw [List.length_set];exact hlt j (zmm _ hj)) i hi',zbe,if_neg (by omega)]
theorem zo2 {ws:List ActX}:∀(is pre:List Int) (m:MX) (a:ActX),(blkAt (prcAt c' a.proc) a.block).ins=(pre++is).map (z2p p l)→a.at_=(pre.length:Int)→m.acts=ws++[a]→m.e=0→m.done=false →
  Reach K c' is.length m { m with acts:=ws++[{ a with at_:=((pre++is).length:Int),regs:=moveK p l is a.regs }] }
 | [],pre,m,a,hb,hat,hs,he,hd=>by
  have:({ m with acts:=ws++[{ a with at_:=((pre++[]).length:Int),regs:=moveK p l [] a.regs }] }:MX)=m:=by
   rw [List.append_nil,←hat]
   show ({ m with acts:=ws++[a] }:MX)=m
   rw [←hs]
  rw [this]
  exact .zero m
 | i::is,pre,m,a,hb,hat,hs,he,hd=>by
  have hx:(blkAt (prcAt c' a.proc) a.block).ins[a.at_.toNat]?=some (z2p p l i):=by
   rw [hb,hat,Int.toNat_natCast,List.getElem?_map,List.getElem?_append_right (Nat.le_refl _),Nat.sub_self];rfl
  have s1:m.step K c'={ m with acts:=ws++[{ a with at_:=a.at_+1,regs:=a.regs.set (z07 p l i).toNat (a.regs.getD i.toNat vNone) }] }:=by
   have e1:m.step K c'=({ m with acts:=ws++[{ a with at_:=a.at_+1 }] }:MX).ins K (z2p p l i):=by
    unfold MX.step;simp only [z29 hs,hx,z2w hs]
   rw [e1]
   unfold MX.ins MX.put
   have hl:({ m with acts:=ws++[{ a with at_:=a.at_+1 }] }:MX).acts.getLast?.getD default={ a with at_:=a.at_+1 }:=z29 rfl
   simp only [hl]
   have h1:¬(z2p p l i).op=[99,111,110,115,116]:=by show ¬movB=_;decide
   have h2:(z2p p l i).op=[109,111,118,101]:=rfl
   rw [if_neg h1,if_pos h2,if_pos he,z2w rfl]
   rfl
  have ih:=zo2 is (pre++[i]) (m.step K c') { a with at_:=a.at_+1,regs:=a.regs.set (z07 p l i).toNat (a.regs.getD i.toNat vNone) } (by
   show (blkAt (prcAt c' a.proc) a.block).ins=_
   rw [hb,List.append_assoc];rfl) (by show a.at_+1=_;rw [hat];simp) (by rw [s1]) (by rw [s1];exact he) (by rw [s1];exact hd)
  refine .step he hd ?_
  have e2:(pre++[i]++is).length=(pre++i::is).length:=by simp
  rw [e2] at ih
  have e3:({ m.step K c' with acts:=ws++[{ ({ a with at_:=a.at_+1,regs:=a.regs.set (z07 p l i).toNat (a.regs.getD i.toNat vNone) }:ActX) with at_:=((pre++i::is).length:Int),regs:=moveK p l is (a.regs.set (z07 p l i).toNat (a.regs.getD i.toNat vNone)) }] }:MX)={ m with acts:=ws++[{ a with at_:=((pre++i::is).length:Int),regs:=moveK p l (i::is) a.regs }] }:=by
   rw [s1];rfl
  rw [e3] at ih
  exact ih
theorem z99 {i:Int} (h0:0≤p.params):i∈liveP p↔(0≤i∧i < p.params)∧i∈liveL p 0 0:=by
 unfold liveP
 rw [List.mem_filter,List.mem_map]
 simp only [zdt,List.mem_range]
 constructor
 ·rintro ⟨⟨k,hk,rfl⟩,h⟩
  exact ⟨⟨by omega,by omega⟩,h⟩
 ·rintro ⟨⟨h1,h2⟩,h⟩
  exact ⟨⟨i.toNat,by omega,by omega⟩,h⟩
theorem zwf:(liveP p).Nodup:=by
 unfold liveP
 refine List.Nodup.sublist List.filter_sublist ?_
 exact List.Pairwise.map _ (fun a b h e=>h (by omega)) List.nodup_range
theorem Z1b (hp:0≤p.params∧p.params≤6):(liveP p).length≤6:=by
 unfold liveP
 have:=List.length_filter_le (fun i=>decide (i∈liveL p 0 0)) ((List.range p.params.toNat).map fun i:Nat=>(i:Int))
 rw [List.length_map,List.length_range] at this
 omega
theorem zw8 (hm:MovedC c c' Q) {m m':MX} {ws':List ActX} {a a':ActX} (hc:CoreR (WaitC c Q) m m') (he:m.e=0) (hd:m.done=false) (h2:m'.acts=ws'++[a']) (hr:z6e c c' a a') {y:List Int×Int} (hQ:Q a.proc=some y) :
  ∃s a2,s≤7∧Reach K c' s m' { m' with acts:=ws'++[a2] }∧RunC c Q a a2:=by
 obtain ⟨j,k,args,hal,rfl,rfl⟩:=hr
 have hQ:Q j=some y:=hQ
 have ok:=hm.ok _ _ hQ
 have hP:=hm.some_ _ _ hQ
 have he':m'.e=0:=by rw [←hc.e];exact he
 have hd':m'.done=false:=by rw [←hc.done];exact hd
 generalize hp:prcAt c j=q at *
 obtain ⟨l,all⟩:=y
 simp only at ok hP
 have hb:blkAt (prcAt c' (z10 (prcAt c' j) j k args).proc) (z10 (prcAt c' j) j k args).block=z3j q l:=by
  show blkAt (prcAt c' j) 0=_
  rw [hP];rfl
 have hreg':((z10 (prcAt c' j) j k args).regs.length:Int)=(prcAt c' j).regs.toNat:=by simp [z10]
 have r1:=zo2 (K:=K) (c':=c') (p:=q) (l:=l) (ws:=ws') (liveP q) [] m' (z10 (prcAt c' j) j k args) (by rw [hb];rfl) rfl h2 he' hd'
 simp only [List.nil_append] at r1
 generalize hrs:moveK q l (liveP q) (z10 (prcAt c' j) j k args).regs=rs at r1
 generalize hm1:({ m' with acts:=ws'++[{ z10 (prcAt c' j) j k args with at_:=((liveP q).length:Int),regs:=rs }] }:MX)=m1 at r1
 have hs1:m1.acts=ws'++[{ z10 (prcAt c' j) j k args with at_:=((liveP q).length:Int),regs:=rs }]:=by rw [←hm1]
 have he1:m1.e=0:=by rw [←hm1];exact he'
 have hd1:m1.done=false:=by rw [←hm1];exact hd'
 have s2:m1.step K c'={ m' with acts:=ws'++[{ z10 (prcAt c' j) j k args with at_:=0,block:=1,to:=0,regs:=rs }] }:=by
  have hx:(blkAt (prcAt c' j) 0).ins[((liveP q).length:Int).toNat]?=none:=by
   have:blkAt (prcAt c' j) 0=z3j q l:=hb
   rw [this,List.getElem?_eq_none_iff]
   show ((liveP q).map _).length≤_
   rw [List.length_map];omega
  have e1:m1.step K c'=m1.fin c' (z3j q l).e:=by
   have hx2:(blkAt (prcAt c' ({ z10 (prcAt c' j) j k args with at_:=((liveP q).length:Int),regs:=rs }:ActX).proc) ({ z10 (prcAt c' j) j k args with at_:=((liveP q).length:Int),regs:=rs }:ActX).block).ins[({ z10 (prcAt c' j) j k args with at_:=((liveP q).length:Int),regs:=rs }:ActX).at_.toNat]?=none:=hx
   unfold MX.step
   simp only [z29 hs1]
   rw [hx2]
   simp only
   have:blkAt (prcAt c' ({ z10 (prcAt c' j) j k args with at_:=((liveP q).length:Int),regs:=rs }:ActX).proc) ({ z10 (prcAt c' j) j k args with at_:=((liveP q).length:Int),regs:=rs }:ActX).block=z3j q l:=hb
   rw [this]
  rw [e1]
  unfold MX.fin
  simp only [z29 hs1]
  rw [z2w hs1]
  have k0:(z3j q l).e=⟨0,0,[],0,1,0⟩:=rfl
  rw [k0]
  rw [←hm1]
  rfl
 refine ⟨(liveP q).length+1,_,by have:=Z1b (p:=q) ⟨ok.pars.1,ok.pars.2.2⟩;omega,r1.trans (.step he1 hd1 (by rw [s2];exact .zero _)),?_⟩
 refine ⟨rfl,rfl,?_,rfl,?_⟩
 ·show (1:Int)=0+offQ Q j
  have hQj:Q j=some (l,all):=hQ
  unfold offQ;rw [hQj];rfl
 ·show z1a c Q j (fun r=>z0p (prcAt c j) r 0 0) (z10 q j k args).regs rs
  have hQj:Q j=some (l,all):=hQ
  unfold z1a
  rw [hQj,hp]
  have hp0:=ok.pars
  have hpregs:(prcAt c' j).regs=q.params+all:=by rw [hP];rfl
  have hl0:((z10 q j k args).regs.length:Int)=q.regs:=zhp _ _ _ _ (by omega)
  have hpa:0≤q.params+all:=by have:=ok.pos;omega
  have hl1:((z10 (prcAt c' j) j k args).regs.length:Int)=q.params+all:=by
   rw [zhp _ _ _ _ (by rw [hpregs];exact hpa),hpregs]
  refine ⟨hl0,by rw [←hrs,zsv];exact hl1,fun r hr=>?_⟩
  have hrl:(r:Int)∈liveL q 0 0:=liveL_mem.2 hr
  have hrp:=ok.plain _ hrl
  have hin:(r:Int)∈liveP q:=(z99 ok.pars.1).2 ⟨⟨by omega,hrp⟩,hrl⟩
  have hpl:∀i∈liveP q,q.params≤z07 q l i∧z07 q l i < q.params+all:=fun i hi=>by
   obtain ⟨⟨i0,i1⟩,_⟩:=(z99 ok.pars.1).1 hi
   obtain ⟨_,g1,g2⟩:=ok.get (r:=i) i0 (by omega)
   unfold z07;omega
  rw [←hrs,Z2u zwf (fun i hi=>((z99 ok.pars.1).1 hi).1) (fun i hi=>(hpl i hi).1) (fun i hi q' hq' hne=>by
   obtain ⟨⟨i0,i1⟩,i2⟩:=(z99 ok.pars.1).1 hi
   obtain ⟨⟨q0,q1⟩,q2⟩:=(z99 ok.pars.1).1 hq'
   exact ok.inj i0 (by omega) q0 (by omega) hne (zym i2 q2)) _ (fun i hi=>by rw [hl1];exact (hpl i hi).2) _ hin]
  rw [Int.toNat_natCast]
  unfold z10
  simp only [List.getElem?_map]
  rw [List.getElem?_range (by rw [hpregs];have:=hpl _ hin;omega),List.getElem?_range (by omega)]
end
section
variable {K:Dat→VX} {c c':CodeX} {Q:PlQ}
def RelC (c c':CodeX) (Q:PlQ) (m m':MX):Prop:=(MR (WaitC c Q) (RunC c Q) m m'∨MR (WaitC c Q) (z6e c c') m m')∧∃n,RunOk c n m
theorem RelC.live {m m':MX} (h:RelC c c' Q m m'):m.e=0∧m.done=false:=by
 rcases h.1 with h | h<;>exact ⟨h.e0,h.d0⟩
theorem zyf (g:GoodC c) {n:Nat} {m m1':MX} (hro:RunOk c n m) (he:m.e=0) (hd:m.done=false) (h:EndX2 (m.step K c) m1'∨MR (WaitC c Q) (RunC c Q) (m.step K c) m1'∨MR (WaitC c Q) (z6e c c') (m.step K c) m1'):EndX2 (m.step K c) m1'∨RelC c c' Q (m.step K c) m1':=by
 have hst:=zrl (K:=K) g hro he hd
 rcases h with h | h | h
 ·exact .inl h
 ·exact .inr ⟨.inl h,_,hst.2 h.e0 h.d0⟩
 ·exact .inr ⟨.inr h,_,hst.2 h.e0 h.d0⟩
theorem zyp (hm:MovedC c c' Q) (g:GoodC c) (m m':MX) (h:RelC c c' Q m m'):∃s m1',s≤9∧Reach K c' s m' m1'∧(EndX2 (m.step K c) m1'∨RelC c c' Q (m.step K c) m1'):=by
 obtain ⟨hr,n,hro⟩:=h
 have one:∀{m':MX},MR (WaitC c Q) (RunC c Q) m m'→EndX2 (m.step K c) (m'.step K c')∨RelC c c' Q (m.step K c) (m'.step K c'):=fun h=>by
  obtain ⟨hc,he,hd,ws,a,ws',a',h1,h2,hw,hr⟩:=h
  exact zyf g hro he hd (zyy hm g hro hc he hd h1 h2 hw hr)
 rcases hr with h | h
 ·refine ⟨1,_,by omega,.step ?_ ?_ (.zero _),one h⟩
  ·rw [←h.core.e];exact h.e0
  ·rw [←h.core.done];exact h.d0
 ·have hh:=h
  obtain ⟨hc,he,hd,ws,a,ws',a',h1,h2,hw,hr⟩:=h
  have he':m'.e=0:=by rw [←hc.e];exact he
  have hd':m'.done=false:=by rw [←hc.done];exact hd
  cases hQ:Q a.proc with
  | none=>exact ⟨1,_,by omega,.step he' hd' (.zero _),one ⟨hc,he,hd,ws,a,ws',a',h1,h2,hw,Z1z hm hr hQ⟩⟩
  | some y=>
   obtain ⟨s,a2,hs,hreach,hrun⟩:=zw8 (K:=K) hm hc he hd h2 hr hQ
   have h3:MR (WaitC c Q) (RunC c Q) m { m' with acts:=ws'++[a2] }:=⟨hc.acts m.acts _,he,hd,ws,a,ws',a2,h1,rfl,hw,hrun⟩
   exact ⟨s+1,_,by omega,hreach.trans (.step he' hd' (.zero _)),one h3⟩
theorem Z30 (hm:MovedC c c' Q) (g:GoodC c) (fuel:Nat) (m m':MX) (n n' fuel':Nat) (h:RelC c c' Q m m') (he:(MX.go K c fuel m n).1.e≠93) (hf:9 * ((MX.go K c fuel m n).2 - n)≤fuel') :
  TermX (MX.go K c fuel m n).1 (MX.go K c' fuel' m' n').1:=
 Z5q (R:=RelC c c' Q) (S:=9) (fun m m' h=>h.live) (fun m m' h=>by
  obtain ⟨s,m1',h1,h2,h3⟩:=zyp (K:=K) hm g m m' h
  exact ⟨s,m1',h1,h2,h3⟩) fuel m m' n n' fuel' h he hf
theorem zw1 (hm:MovedC c c' Q) (g:GoodC c) (input:List UInt8):EndX2 (MX.first c input) (MX.first c' input)∨RelC c c' Q (MX.first c input) (MX.first c' input):=by
 have hc0:CoreR (WaitC c Q) (⟨[],[],[],input,[],⟨4,0,[]⟩,vNone,false,0⟩:MX) ⟨[],[],[],input,[],⟨4,0,[]⟩,vNone,false,0⟩:=⟨rfl,rfl,rfl,rfl,rfl,rfl,rfl,.nil⟩
 obtain ⟨m1,m2,m3,m4,m5,m6⟩:=zf0 hc0 (x:=⟨0,0,[],false,[]⟩) (y:=⟨0,0,[],false,[]⟩) rfl rfl rfl .nil
 have hok:=zvn g input
 have key:EndX2 (MX.first c input) (MX.first c' input)∨MR (WaitC c Q) (RunC c Q) (MX.first c input) (MX.first c' input)∨MR (WaitC c Q) (z6e c c') (MX.first c input) (MX.first c' input):=by
  unfold MX.first
  simp only
  exact zut (N:=z6e c c') m1 (m6.trans rfl) (m5.trans rfl) (MX.made (⟨[],[],[],input,[],⟨4,0,[]⟩,vNone,false,0⟩:MX) ⟨0,0,[],false,[]⟩).2 [] true (by rw [m3];exact .nil) (fun a a' v h=>zly hm v h) (ze3 hm) fun j k hl=>⟨j,k,[],hl,rfl,rfl⟩
 rcases key with h | h | h
 ·exact .inl h
 ·exact .inr ⟨.inl h,_,hok.2 h.e0 h.d0⟩
 ·exact .inr ⟨.inr h,_,hok.2 h.e0 h.d0⟩
end
abbrev valVs (v:VX):List Value:=[.int .i64 v.kind,.int .i64 v.int,txt v.text]
abbrev valV (v:VX):Value:=.agg (valVs v).toArray
theorem isNum_iff {n:Int}:isNum n=true↔-1152921504606846976≤n∧n≤1152921504606846975:=by unfold isNum;rw [zdt]
theorem Z43 (n:Int) (H:PH):Gives Tryz.prog zl5 [.int .i64 n] H (.bool (isNum n)):=by
 refine zim [.int .i64 n] (by kernel_rfl) (by kernel_rfl) ?_
 refine ⟨?_,PH.le_refl _⟩
 simp only [evs,evb,isNum,Bool.decide_and,ge_iff_le]
theorem tm8 (n:Int):(8 * n).tmod 8=0:=by rw [Int.mul_tmod_right]
theorem td8 (n:Int):(8 * n).tdiv 8=n:=by rw [Int.mul_tdiv_cancel_left _ (by decide)]
theorem zpi (n:Int) (hn:isNum n=true) (H:PH):Gives Tryz.prog zkl [.int .i64 (8 * n)] H (.int .i64 0):=by
 have h:=isNum_iff.1 hn
 refine zie [.int .i64 (8 * n)] (by kernel_rfl) (by kernel_rfl) ?_
 refine ⟨?_,PH.le_refl _⟩
 have h0:IntKind.i64.wrap ((8 * n).tmod 8)=0:=by rw [tm8];rfl
 simp [evs,evb,h0]
theorem zf3 (n:Int) (hn:isNum n=true) (H:PH):Gives Tryz.prog zih [.int .i64 (8 * n)] H (.int .i64 n):=by
 have h:=isNum_iff.1 hn
 refine zex [.int .i64 (8 * n)] (by kernel_rfl) (by kernel_rfl) ?_
 refine ⟨?_,PH.le_refl _⟩
 have h0:IntKind.i64.wrap ((8 * n).tmod 8)=0:=by rw [tm8];rfl
 have h1:IntKind.i64.wrap ((8 * n).tdiv 8)=n:=by rw [td8];exact w64 (by omega) (by omega)
 have h2:IntKind.i64.wrap n=n:=w64 (by omega) (by omega)
 simp [evs,evb,h0,h1,h2]
theorem Z2c (a b:Int) (ha:isNum a=true) (hb:isNum b=true) (H:PH):Tri Tryz.prog zhq #[.int .i64 a,.int .i64 b] H fun x H'=>PH.le H H'∧∃n ok,x=.returned (.tuple #[.int .i64 n,.bool ok])∧InI n∧((ok=true∧n=a * b∧isNum (a * b)=true)∨((ok=false∨isNum n=false)∧isNum (a * b)=false)):=by
  have h1:=isNum_iff.1 ha
  have h2:=isNum_iff.1 hb
  refine zer [.int .i64 a,.int .i64 b] (by kernel_rfl) (by kernel_rfl) ?_
  refine ⟨fun g=>?_,fun g=>⟨fun g2=>?_,fun g2=>?_⟩⟩
  · simp only [evs,evb] at g
    simp only [Bool.or_eq_true,zdt] at g
    refine ⟨PH.le_refl _,0,true,rfl,by unfold InI;omega,.inl ⟨rfl,?_,?_⟩⟩
    · rcases g with rfl | rfl<;>simp
    · rcases g with rfl | rfl<;>simp [isNum]
  · simp only [evs,evb] at g2
    simp only [Bool.or_eq_true,zdt] at g2
    have hn:∃n:Int,n=a * b∧-1152921504606846975≤n∧n≤1152921504606846976∧(if a=-1 then 0 - b else 0 - a)=n:=by
      by_cases e:a=-1
      · subst e;exact ⟨-b,by omega,by omega,by omega,by rw [if_pos rfl];omega⟩
      · have e2:b=-1:=by
                               rcases g2 with h | h
                               · exact absurd h e
                               · exact h
        subst e2
        exact ⟨-a,by omega,by omega,by omega,by rw [if_neg e];omega⟩
    obtain ⟨n,hn1,hn2,hn3,hn4⟩:=hn
    refine ⟨PH.le_refl _,n,decide (n≤1152921504606846975),?_,by unfold InI;omega,?_⟩
    · rw [←hn4]
      by_cases e:a=-1
      · simp only [if_pos e] at hn4 ⊢
        have hw:IntKind.i64.wrap (-b)=-b:=w64 (by omega) (by omega)
        simp [partV,evs,evb,e,hw]
      · simp only [if_neg e] at hn4 ⊢
        have hw:IntKind.i64.wrap (-a)=-a:=w64 (by omega) (by omega)
        simp [partV,evs,evb,e,hw]
    · by_cases hm:n≤1152921504606846975
      · exact .inl ⟨decide_eq_true hm,hn1,by rw [←hn1,isNum_iff];omega⟩
      · refine .inr ⟨.inl (decide_eq_false hm),?_⟩
        cases hh:isNum (a * b) with
        | false=>rfl
        | true=>rw [←hn1,isNum_iff] at hh;omega
  · simp only [evs,evb] at g g2
    simp only [Bool.or_eq_false_iff,zdf] at g g2
    have hb0:b≠0:=g.2
    refine ⟨fun _=>?_,fun _=>?_,?_⟩
    · simp only [Chk.holds,evs,evb];exact hb0
    · simp only [Chk.holds,evs,evb];exact hb0
    obtain ⟨q1,q2,hq1,hq2,hm⟩:∃q1 q2:Int,(if b < 0 then (-1152921504606846976:Int).tdiv b else (1152921504606846975:Int).tdiv b)=q1∧(if b < 0 then (1152921504606846975:Int).tdiv b else (-1152921504606846976:Int).tdiv b)=q2∧(isNum (a * b)=true↔¬(q1 < a∨a < q2)):=by
      refine ⟨_,_,rfl,rfl,?_⟩
      rw [isNum_iff]
      by_cases hneg:b < 0
      · rw [if_pos hneg,if_pos hneg]
        obtain ⟨c,rfl⟩:∃c,b=-c:=⟨-b,by omega⟩
        have hc:0 < c:=by omega
        have k1:=times_le (M:=1152921504606846976) (a:=a) (by decide) hc
        have k2:=times_le (M:=1152921504606846975) (a:=-a) (by decide) hc
        have e1:(-1152921504606846976:Int).tdiv (-c)=(1152921504606846976:Int).tdiv c:=by
          rw [show (-1152921504606846976:Int)=-(1152921504606846976:Int) from rfl,Int.neg_tdiv_neg]
        have e2:(1152921504606846975:Int).tdiv (-c)=-((1152921504606846975:Int).tdiv c):=Int.tdiv_neg ..
        rw [e1,e2]
        rw [Int.neg_mul] at k2
        rw [Int.mul_neg]
        omega
      · rw [if_neg hneg,if_neg hneg]
        have hc:0 < b:=by omega
        have k1:=times_le (M:=1152921504606846976) (a:=-a) (by decide) hc
        have k2:=times_le (M:=1152921504606846975) (a:=a) (by decide) hc
        have e1:(-1152921504606846976:Int).tdiv b=-((1152921504606846976:Int).tdiv b):=by
          rw [show (-1152921504606846976:Int)=-(1152921504606846976:Int) from rfl,Int.neg_tdiv]
        rw [e1]
        rw [Int.neg_mul] at k1
        omega
    have hr1:IntKind.i64.wrap ((-1152921504606846976:Int).tdiv b)=(-1152921504606846976:Int).tdiv b:=by
      have:=tdiv_small (-1152921504606846976) b (by decide)
      exact w64 (by omega) (by omega)
    have hr2:IntKind.i64.wrap ((1152921504606846975:Int).tdiv b)=(1152921504606846975:Int).tdiv b:=by
      have:=tdiv_small 1152921504606846975 b (by decide)
      exact w64 (by omega) (by omega)
    refine ⟨fun g3=>?_,fun g3=>?_⟩
    · refine ⟨PH.le_refl _,0,false,rfl,by unfold InI;omega,.inr ⟨.inl rfl,?_⟩⟩
      cases hh:isNum (a * b) with
      | false=>rfl
      | true=>
        exfalso
        have:=hm.1 hh
        simp only [ev0,ev,evV,List.cons_append,List.nil_append,List.getD_cons_zero,List.getD_cons_succ,List.map_cons,List.map_nil,iOf,bOf,sOf,pOf,slLen,z0v,cmpI,arI,Value.ite_bool,zmp,zxl,zu0,zya,hr1,hr2] at g3
        by_cases hneg:b < 0<;>simp only [hneg,decide_true,decide_false,if_true,if_false,Bool.or_eq_true,zdt,Bool.false_eq_true] at g3 hq1 hq2<;>omega
    · have hh:isNum (a * b)=true:=by
        rw [hm]
        simp only [ev0,ev,evV,List.cons_append,List.nil_append,List.getD_cons_zero,List.getD_cons_succ,List.map_cons,List.map_nil,iOf,bOf,sOf,pOf,slLen,z0v,cmpI,arI,Value.ite_bool,zmp,zxl,zu0,zya,hr1,hr2] at g3
        by_cases hneg:b < 0<;>simp only [hneg,decide_true,decide_false,if_true,if_false,Bool.or_eq_false_iff,zdf,Bool.false_eq_true] at g3 hq1 hq2<;>omega
      have hh2:=isNum_iff.1 hh
      refine ⟨PH.le_refl _,a * b,true,?_,by unfold InI;omega,.inl ⟨rfl,rfl,hh⟩⟩
      have hw:IntKind.i64.wrap (a * b)=a * b:=w64 (by omega) (by omega)
      simp [partV,evs,evb,hw]
where
  times_le {M a c:Int} (hM:0≤M) (hc:0 < c):a≤M.tdiv c↔a * c≤M:=by
    rw [Int.tdiv_eq_ediv_of_nonneg hM];exact Int.le_ediv_iff_mul_le hc
  tdiv_small (M b:Int) (hM:-1152921504606846976≤M∧M≤1152921504606846976):-1152921504606846976≤M.tdiv b∧M.tdiv b≤1152921504606846976:=by
    have h1:(M.tdiv b).natAbs≤M.natAbs:=by
      rw [Int.natAbs_tdiv];exact Nat.div_le_self ..
    omega
def toldX (n:Int):VX×Int:=if isNum n then (vNum n,0) else (⟨0,0,[]⟩,1)
theorem zz5 (op:Nat) (hop:op≤4) (a b:Int) (ha:isNum a=true) (hb:isNum b=true) (H:PH):Tri Tryz.prog zgo #[.int .i64 (op:Int),.int .i64 (8 * a),.int .i64 (8 * b)] H fun x H'=>PH.le H H'∧∃w e:Int,x=.returned (.tuple #[.int .i64 w,.int .i64 e])∧((∃n,e=0∧w=8 * n∧isNum n=true∧z2v op a b=(vNum n,0))∨(e=10∧(z2v op a b).2=1)∨(e=11∧(z2v op a b).2=2)):=by
 have h1:=isNum_iff.1 ha
 have h2:=isNum_iff.1 hb
 refine zdr [.int .i64 (op:Int),.int .i64 (8 * a),.int .i64 (8 * b)] (by kernel_rfl) (by kernel_rfl) ?_
 refine ⟨fun g=>?_,fun g=>?_⟩
 ·exfalso
  simp only [evs,evb] at g
  simp only [Bool.or_eq_true,zdt] at g
  omega
 refine ⟨fun vs K=>vs=[.bool false]∧PH.le H K,?_,?_⟩
 rotate_left
 ·refine z05 [.int .i64 0] z98 (zpi a ha H) rfl z01 fun K1 l1=>⟨fun g2=>?_,fun g2=>?_⟩
  ·simp [evs,evb] at g2
  refine z05 [.int .i64 0] z98 (zpi b hb K1) rfl z01 fun K2 l2=>⟨_,z00,?_,PH.le_trans l1 l2⟩
  simp [evs,evb]
 rintro vs K _ ⟨rfl,l0⟩
 refine ⟨fun g2=>?_,fun g2=>?_⟩
 ·simp [evs,evb] at g2
 refine z05 [.int .i64 a] z3s (zf3 a ha K) rfl z01 fun K1 l1=>?_
 refine z05 [.int .i64 b] z3s (zf3 b hb K1) rfl z01 fun K2 l2=>?_
 simp only [cns]
 have l02:=PH.le_trans l0 (PH.le_trans l1 l2)
 refine ⟨fun vs K=>PH.le H K∧∃n ok,vs=[.int .i64 n,.bool ok]∧InI n∧((ok=true∧z2v op a b=toldX n)∨((ok=false∨isNum n=false)∧(z2v op a b).2=1)),?_,fun g3=>?_,fun g3=>⟨fun g4=>?_,fun g4=>⟨fun g5=>?_,fun g5=>⟨fun g6=>?_,fun g6=>?_⟩⟩⟩⟩
 ·rintro vs K3 _ ⟨l3,n,ok,rfl,hn,hr⟩
  refine ⟨fun g3=>?_,fun g3=>?_⟩
  ·simp only [evs,evb] at g3
   simp only [Bool.or_eq_true,zdt,Bool.not_eq_true'] at g3
   refine ⟨l3,0,10,rfl,.inr (.inl ⟨rfl,?_⟩)⟩
   rcases hr with ⟨rfl,hr⟩ | ⟨_,hr⟩
   ·have:isNum n=false:=by
     cases hh:isNum n with
     | false=>rfl
     | true=>rw [isNum_iff] at hh;simp at g3;omega
    rw [hr];unfold toldX;rw [this];rfl
   ·exact hr
  ·simp only [evs,evb] at g3
   simp only [Bool.or_eq_false_iff,zdf,Bool.not_eq_false'] at g3
   obtain ⟨⟨rfl,g4⟩,g5⟩:=g3
   have hnn:isNum n=true:=by rw [isNum_iff];omega
   refine ⟨l3,8 * n,0,?_,.inl ⟨n,rfl,rfl,hnn,?_⟩⟩
   ·have hw:IntKind.i64.wrap (8 * n)=8 * n:=w64 (by omega) (by omega)
    simp [partV,evs,evb,hw]
   ·rcases hr with ⟨_,hr⟩ | ⟨h | h,_⟩
    ·rw [hr];unfold toldX;rw [hnn];rfl
    ·cases h
    ·rw [hnn] at h;cases h
 ·simp only [evs,evb,zdt] at g3
  obtain rfl:op=0:=by omega
  have hw:IntKind.i64.wrap (a+b)=a+b:=w64 (by omega) (by omega)
  refine ⟨_,z00,l02,a+b,true,?_,by unfold InI;omega,.inl ⟨rfl,rfl⟩⟩
  simp [evs,evb,hw]
 ·simp only [evs,evb,zdt] at g4
  obtain rfl:op=1:=by omega
  have hw:IntKind.i64.wrap (a - b)=a - b:=w64 (by omega) (by omega)
  refine ⟨_,z00,l02,a - b,true,?_,by unfold InI;omega,.inl ⟨rfl,rfl⟩⟩
  simp [evs,evb,hw]
 ·simp only [evs,evb,zdt] at g5
  obtain rfl:op=2:=by omega
  refine z02 zg9 (Z2c a b ha hb K2) ?_
  rintro x K3 ⟨l3,n,ok,rfl,hin,hr⟩
  refine ⟨_,[.int .i64 n,.bool ok],rfl,rfl,rfl,z01,_,z00,PH.le_trans l02 l3,n,ok,by simp [evs,evb],hin,?_⟩
  ·have hrd:z2v 2 a b=toldX (a * b):=rfl
   rcases hr with ⟨h3,rfl,h4⟩ | ⟨h3,h4⟩
   ·exact .inl ⟨h3,hrd⟩
   ·refine .inr ⟨h3,?_⟩
    rw [hrd];unfold toldX;rw [h4];rfl
 ·simp only [evs,evb,zdt] at g6
  subst g6
  simp only [evs,evb,zdf] at g3 g4 g5
  refine ⟨l02,0,11,rfl,.inr (.inr ⟨rfl,?_⟩)⟩
  match op,hop,g3,g4,g5 with
  | 3,_,_,_,_=>simp [z2v]
  | 4,_,_,_,_=>simp [z2v]
 ·simp only [evs,evb,zdf] at g3 g4 g5 g6
  have hq:=tdiv_small a b (by omega)
  have hw1:IntKind.i64.wrap (a.tdiv b)=a.tdiv b:=w64 (by omega) (by omega)
  have hm:a.tmod b=a - b * a.tdiv b:=Int.tmod_def ..
  have hml:-1152921504606846976≤a.tmod b∧a.tmod b≤1152921504606846976:=tmod_small a b (by omega)
  have hw2:IntKind.i64.wrap (a.tdiv b * b)=a.tdiv b * b:=by
   rw [Int.mul_comm];exact w64 (by omega) (by omega)
  have hw3:IntKind.i64.wrap (a - a.tdiv b * b)=a.tmod b:=by
   rw [Int.mul_comm,←hm];exact w64 (by omega) (by omega)
  refine ⟨fun _=>?_,?_⟩
  ·simp only [Chk.holds,evs,evb];exact g6
  by_cases e4:op=4
  ·subst e4
   refine ⟨_,z00,l02,a.tmod b,true,?_,by unfold InI;omega,.inl ⟨rfl,?_⟩⟩
   ·simp [evs,evb,hw1,hw2,hw3]
   ·simp [z2v,g6,toldX]
  ·obtain rfl:op=3:=by omega
   refine ⟨_,z00,l02,a.tdiv b,true,?_,by unfold InI;omega,.inl ⟨rfl,?_⟩⟩
   ·simp [evs,evb,hw1]
   ·simp [z2v,g6,toldX]
where
 tdiv_small (M b:Int) (hM:-1152921504606846976≤M∧M≤1152921504606846976):-1152921504606846976≤M.tdiv b∧M.tdiv b≤1152921504606846976:=by
  have h1:(M.tdiv b).natAbs≤M.natAbs:=by
   rw [Int.natAbs_tdiv];exact Nat.div_le_self ..
  omega
 tmod_small (M b:Int) (hM:-1152921504606846976≤M∧M≤1152921504606846976):-1152921504606846976≤M.tmod b∧M.tmod b≤1152921504606846976:=by
  have h1:(M.tmod b).natAbs≤M.natAbs:=by
   rw [Int.natAbs_tmod];exact Nat.mod_le ..
  omega
theorem z1j (b:Bool) (H:PH):Gives Tryz.prog zi0 [.bool b] H (valV (z0c b)):=by
 refine zf2 [.bool b] (by kernel_rfl) (by kernel_rfl) ?_
 refine ⟨fun g=>?_,fun g=>?_⟩
 ·simp only [evs,evb] at g
  subst g
  exact ⟨rfl,PH.le_refl _⟩
 ·simp only [evs,evb] at g
  subst g
  exact ⟨rfl,PH.le_refl _⟩
theorem zgz (n:Int) (H:PH):Gives Tryz.prog zk7 [.int .i64 n] H (valV (vNum n)):=by
 refine zhv [.int .i64 n] (by kernel_rfl) (by kernel_rfl) ?_
 exact ⟨rfl,PH.le_refl _⟩
theorem z4l (op:Nat) (hop:op≤4) (a b:VX) (h:HX) (ha:isNum a.int=true) (hb:isNum b.int=true) (H:PH):Gives Tryz.prog ze8 [.int .i64 (op:Int),valV a,valV b] H (.tuple #[valV (z0b h op a b).2.1,.int .i64 (z0b h op a b).2.2]):=by
 have h1:=isNum_iff.1 ha
 have h2:=isNum_iff.1 hb
 have hw1:IntKind.i64.wrap (8 * a.int)=8 * a.int:=w64 (by omega) (by omega)
 have hw2:IntKind.i64.wrap (8 * b.int)=8 * b.int:=w64 (by omega) (by omega)
 refine zcf ([.int .i64 (op:Int)]++valVs a++valVs b) (by kernel_rfl) (by kernel_rfl) ?_
 simp only [cns]
 refine z02 zep (by simp only [evs,evb,hw1,hw2];exact zz5 op hop a.int b.int ha hb H) ?_
 rintro x K1 ⟨l1,w,e,rfl,hr⟩
 refine ⟨_,[.int .i64 w,.int .i64 e],rfl,rfl,rfl,z01,fun g=>?_,fun g=>⟨fun g2=>?_,fun g2=>?_⟩⟩
 ·simp only [evs,evb,zdt] at g
  have hh:(z2v op a.int b.int).2=1:=by
   rcases hr with ⟨n,h3,_⟩ | ⟨_,h4⟩ | ⟨h3,_⟩
   ·omega
   ·exact h4
   ·omega
  refine ⟨?_,l1⟩
  unfold z0b
  simp only [hh,if_true]
  rfl
 ·simp only [evs,evb,zdt] at g2
  have hh:(z2v op a.int b.int).2=2:=by
   rcases hr with ⟨n,h3,_⟩ | ⟨h3,_⟩ | ⟨_,h4⟩
   ·omega
   ·omega
   ·exact h4
  refine ⟨?_,l1⟩
  have:z0b h op a b=(h,vNone,82):=by unfold z0b;simp only [hh];rfl
  rw [this]
  rfl
 ·simp only [evs,evb,zdf] at g g2
  rcases hr with ⟨n,rfl,rfl,hn,h4⟩ | ⟨h3,_⟩ | ⟨h3,_⟩
  ·refine z05 [.int .i64 n] z3s (zf3 n hn K1) rfl z01 fun K2 l2=>?_
   refine z05 (valVs (vNum n)) z2t (zgz n K2) rfl z01 fun K3 l3=>⟨?_,PH.le_trans l1 (PH.le_trans l2 l3)⟩
   unfold z0b
   rw [h4]
   rfl
  ·exact absurd h3 g
  ·exact absurd h3 g2
theorem ztn {α:Type}:∀{l:List α} {i:Nat} {x:α},l[i]?=some x→(x::l.eraseIdx i).Perm l
 | [],i,x,h=>by simp at h
 | a::l,0,x,h=>by simp at h;subst h;exact List.Perm.refl _
 | a::l,i+1,x,h=>by
  have:=ztn (l:=l) (i:=i) (x:=x) (by simpa using h)
  exact (List.Perm.swap a x _).trans (this.cons a)
theorem zy2 {α:Type} {x:α}:∀{l:List α} {i:Nat},i < l.length→(x::l.eraseIdx i).Perm (l.set i x)
 | [],i,h=>by simp at h
 | a::l,0,h=>by exact List.Perm.refl _
 | a::l,i+1,h=>by
  have:=zy2 (x:=x) (l:=l) (i:=i) (by simpa using h)
  exact (List.Perm.swap a x _).trans (this.cons a)
section
variable {α β:Type} [Enc α] [Enc β] {e1 e2:TypeId} {sl:α→Value} {L:List (α×List β)} {v:Value} {S H:PH} {J:List Itm}
abbrev inner (e2:TypeId) (sl:α→Value) (L:List (α×List β)):List Itm:=L.map fun x=>orow e2 x.2 (sl x.1)
def nest (e1 e2:TypeId) (sl:α→Value) (L:List (α×List β)) (v:Value):List Itm:=orow e1 (L.map Prod.fst) v::inner e2 sl L
theorem zn3:nest e1 e2 sl L v=orow e1 (L.map Prod.fst) v::inner e2 sl L:=rfl
theorem zgx (h:Held S H (nest e1 e2 sl L v++J)):Held S H (orow e1 (L.map Prod.fst) v::(inner e2 sl L++J)):=h
theorem zb0 (h:Held S H (nest e1 e2 sl L v++J)):Row S H e1 (L.map Prod.fst) v:=h.row (zms)
theorem zbq (h:Held S H (nest e1 e2 sl L v++J)):∃b c,v=.slice b L.length c:=by have:=(zb0 h).sl;simpa using this
theorem zbv (h:Held S H (nest e1 e2 sl L v++J)) {i:Nat} {x:α×List β} (hi:L[i]?=some x):Row S H e2 x.2 (sl x.1):=
 h.row (List.mem_append_left _ (zmm _ (List.mem_map.2 ⟨x,List.mem_of_getElem? hi,rfl⟩)))
theorem zof (h:Held S H (nest e1 e2 sl L v++J)) {i:Nat} {x:α×List β} (hi:L[i]?=some x) :
  (z0v v).isSome=true∧(pOf (eltV v (i:Int) (sz α))).isSome=true∧∃cs,CsR S x.1 cs∧rowAt H (pOf (eltV v (i:Int) (sz α))) cs:=
 (zb0 h).get (by rw [List.getElem?_map,hi];rfl)
theorem zh5 {a:α} {l:List β} {v':Value} (h:Held S H (orow e1 (L.map Prod.fst++[a]) v'::orow e2 l (sl a)::(inner e2 sl L++J))):Held S H (nest e1 e2 sl (L++[(a,l)]) v'++J):=by
 refine h.perm ?_
 simp only [zn3,inner,List.map_append,List.map_cons,List.map_nil,List.cons_append,List.append_assoc,List.nil_append]
 exact List.Perm.cons _ List.perm_middle.symm
theorem ztp (h:Held S H (nest e1 e2 sl L v++J)) {n:Nat} (hn:n≤L.length) (h0:0 < L.length):Held S H (nest e1 e2 sl (L.take n) (slsV v 0 (n:Int) (sz α))++J):=by
 obtain ⟨h1,h2⟩:=(zb0 h).take (m:=n) (by simpa using hn) (by simpa using h0)
 have h3:Held S H (orow e1 ((L.map Prod.fst).take n) (slsV v 0 (n:Int) (sz α))::(inner e2 sl L++J)):=
  Held.step (J:=[orow e1 (L.map Prod.fst) v]) (J':=[orow e1 ((L.map Prod.fst).take n) (slsV v 0 (n:Int) (sz α))]) (zgx h) (PH.le_refl _) (fun k o hk _=>hk) (fun k a b=>absurd a b) (Row.held h.sh h1) fun j hj g hg=>by
   rw [List.mem_singleton.1 hj] at hg
   exact .inr ⟨_,List.mem_singleton.2 rfl,by
    show Vc.ob v=some g
    rw [←h2];exact hg⟩
 rw [←List.map_take] at h3
 refine h3.sub (List.Sublist.cons_cons _ (List.Sublist.append ?_ (List.Sublist.refl _)))
 simp only [inner,List.map_take]
 exact List.take_sublist _ _
theorem zyr {i:Nat} {a a':α} {l:List β} (hi:L[i]?=some (a,l)) (hs:sl a'=sl a) (h:Held S H (orow e1 ((L.map Prod.fst).set i a') v::(inner e2 sl L++J))):Held S H (nest e1 e2 sl (L.set i (a',l)) v++J):=by
 have e1':(L.set i (a',l)).map Prod.fst=(L.map Prod.fst).set i a':=by rw [List.map_set]
 have e2':inner e2 sl (L.set i (a',l))=inner e2 sl L:=by
  simp only [inner,List.map_set]
  refine List.ext_getElem? fun k=>?_
  rw [List.getElem?_set]
  split
  ·rename_i e
   subst e
   split
   ·simp only [List.getElem?_map,hi,Option.map_some,hs]
   ·rename_i hn
    rw [List.getElem?_eq_none (by omega)]
  ·rfl
 rw [zn3,e1',e2']
 exact h
abbrev zud (e1 e2:TypeId) (sl:α→Value) (L:List (α×List β)) (v:Value) (i:Nat) (J:List Itm):List Itm:=orow e1 (L.map Prod.fst) v::((inner e2 sl L).eraseIdx i++J)
theorem zh3 {i:Nat} {a:α} {l:List β} (hi:L[i]?=some (a,l)) (h:Held S H (nest e1 e2 sl L v++J)):Held S H (orow e2 l (sl a)::zud e1 e2 sl L v i J):=by
 have hx:(inner e2 sl L)[i]?=some (orow e2 l (sl a)):=by simp only [inner,List.getElem?_map,hi,Option.map_some]
 refine (zgx h).perm ?_
 refine List.Perm.trans (List.Perm.cons _ (List.Perm.append_right J (ztn hx).symm)) ?_
 exact List.Perm.swap _ _ _
theorem zby {i:Nat} {a:α} {l l':List β} (hi:L[i]?=some (a,l)) (h:Held S H (orow e2 l' (sl a)::zud e1 e2 sl L v i J)):Held S H (nest e1 e2 sl (L.set i (a,l')) v++J):=by
 have hlt:=(List.getElem?_eq_some_iff.1 hi).1
 have e1':(L.set i (a,l')).map Prod.fst=L.map Prod.fst:=by
  rw [List.map_set]
  refine List.ext_getElem? fun k=>?_
  rw [List.getElem?_set]
  split
  ·rename_i e
   subst e
   rw [if_pos (by simpa using hlt)]
   simp only [List.getElem?_map,hi,Option.map_some]
  ·rfl
 have e2':inner e2 sl (L.set i (a,l'))=(inner e2 sl L).set i (orow e2 l' (sl a)):=by simp only [inner,List.map_set]
 rw [zn3,e1',e2']
 refine h.perm ?_
 refine List.Perm.trans (List.Perm.swap _ _ _) ?_
 refine List.Perm.cons _ ?_
 show ((orow e2 l' (sl a)::(inner e2 sl L).eraseIdx i)++J).Perm _
 exact List.Perm.append_right J (zy2 (by simpa [inner] using hlt))
theorem zsg {γ:Type} [Enc γ] {f:α×List β→γ} (h:Held S H (nest e1 e2 sl L v++J)) (hz:sz γ=sz α) (hf:∀x∈L,∀cs,CsR H x.1 cs→SlR H x.2 (sl x.1)→CsR H (f x) cs):SlR H (L.map f) v:=by
 have hr:=(zb0 h).slR h.sh
 rw [SlR.mk_iff] at hr ⊢
 rw [List.length_map] at hr ⊢
 refine ⟨hr.1,?_⟩
 rcases hr.2 with ⟨h1,h2⟩ | ⟨a,c,h1,h2,h3,h4⟩
 ·exact .inl ⟨h1,by simpa using h2⟩
 ·refine .inr ⟨a,c,h1,h2,h3,?_⟩
  have hrow:∀x∈L,SlR H x.2 (sl x.1):=fun x hx=>by
   obtain ⟨i,hi⟩:=List.getElem?_of_mem hx
   exact (zbv h hi).slR h.sh
  clear h hr h1 h2 h3
  induction L generalizing a with
  | nil=>simp [PV.RepRows]
  | cons x L ih=>
   simp only [List.map_cons,PV.RepRows] at h4 ⊢
   obtain ⟨⟨cs,c1,c2⟩,c3⟩:=h4
   refine ⟨⟨cs,hf x (zms) cs c1 (hrow x (zms)),c2⟩,?_⟩
   have:(pv (f x)).length=(pv x.1).length:=by
    show (Enc.pv _).length=(Enc.pv _).length
    rw [Enc.len,Enc.len];exact hz
   rw [this]
   exact ih (fun x hx=>hf x (zmm _ hx)) _ c3 (fun x hx=>hrow x (zmm _ hx))
theorem zvz {γ:Type} [Enc γ] {f:α×List β→γ} (h:Held S H (nest e1 e2 sl L v++J)) (hz:sz γ=sz α) (hf:∀S x,x∈L→∀cs,CsR S x.1 cs→SlR S x.2 (sl x.1)→CsR S (f x) cs):∃S',SlR S' (L.map f) v∧PH.le S S'∧Held S' H J:=by
 obtain ⟨S1,h1,l1,h2⟩:=(zgx h).freeze
 have key:∀(M:List (α×List β)) {S:PH},Held S H (inner e2 sl M++J)→∃S',PH.le S S'∧Held S' H J∧∀x∈M,SlR S' x.2 (sl x.1):=by
  intro M
  induction M with
  | nil=>exact fun {S} h=>⟨S,PH.le_refl _,h,fun x hx=>by cases hx⟩
  | cons x M ih=>
   intro S h
   obtain ⟨S2,g1,g2,g3⟩:=Held.freeze (I:=inner e2 sl M++J) h
   obtain ⟨S3,g4,g5,g6⟩:=ih g3
   refine ⟨S3,PH.le_trans g2 g4,g5,fun y hy=>?_⟩
   rcases List.mem_cons.1 hy with rfl | hy
   ·exact g1.le g4
   ·exact g6 y hy
 obtain ⟨S2,l2,h3,h4⟩:=key L h2
 refine ⟨S2,?_,PH.le_trans l1 l2,h3⟩
 have hr:=h1.le l2
 rw [SlR.mk_iff] at hr ⊢
 rw [List.length_map] at hr ⊢
 refine ⟨hr.1,?_⟩
 rcases hr.2 with ⟨g1,g2⟩ | ⟨a,c,g1,g2,g3,g4⟩
 ·exact .inl ⟨g1,by simpa using g2⟩
 ·refine .inr ⟨a,c,g1,g2,g3,?_⟩
  clear h hr g1 g2 g3 h1 h2 h3
  induction L generalizing a with
  | nil=>simp [PV.RepRows]
  | cons x L ih=>
   simp only [List.map_cons,PV.RepRows] at g4 ⊢
   obtain ⟨⟨cs,c1,c2⟩,c3⟩:=g4
   refine ⟨⟨cs,hf S2 x (zms) cs c1 (h4 x (zms)),c2⟩,?_⟩
   have:(pv (f x)).length=(pv x.1).length:=by
    show (Enc.pv _).length=(Enc.pv _).length
    rw [Enc.len,Enc.len];exact hz
   rw [this]
   exact ih (fun S x hx=>hf S x (zmm _ hx)) (fun x hx=>h4 x (zmm _ hx)) _ c3
end
def TX.pv (t:TX):List PV:=[.int .i64 t.kind,slp t.parts]
instance encThingX:Enc TX:=⟨TX.pv,2,fun _=>rfl⟩
theorem thingX_iff {H:PH} {t:TX} {cs:List Value}:CsR H t cs↔∃v,cs=[.int .i64 t.kind,v]∧InI t.kind∧SlR H t.parts v:=by
 show PV.RepRow H (TX.pv t) cs↔_
 simp only [TX.pv,PV.RepRow,repI_iff]
 constructor
 ·rintro ⟨v1,_,rfl,⟨rfl,h1⟩,v2,_,rfl,h2,rfl⟩
  exact ⟨v2,rfl,h1,h2⟩
 ·rintro ⟨v,rfl,h1,h2⟩
  exact ⟨_,_,rfl,⟨rfl,h1⟩,v,_,rfl,h2,rfl⟩
def VFit (v:VX):Prop:=InI v.kind∧InI v.int∧v.text.length≤maxLen
theorem z80 {H:PH} {v:VX} (h:VFit v):CsR H v (valVs v):=val_iff.2 ⟨rfl,h⟩
theorem z2r {H:PH} {v:VX} {cs:List Value} (h:CsR H v cs):cs=valVs v∧VFit v:=by
 obtain ⟨h1,h2⟩:=val_iff.1 h
 exact ⟨h1,h2⟩
def HeapAt (H:PH) (hr:Nat) (h:HX):Prop:=∃thv,rowAt H (some ⟨hr,0,none⟩) [thv]∧SlR H h thv
theorem HeapAt.le {H H':PH} {hr:Nat} {h:HX} (hl:PH.le H H') (hh:HeapAt H hr h):HeapAt H' hr h:=by
 obtain ⟨thv,h1,h2⟩:=hh
 exact ⟨thv,z06 hl h1,h2.le hl⟩
theorem zps (h:HX) (hr:Nat) (v:VX) (hv:VFit v) (H:PH) (hh:HeapAt H hr h):Gives Tryz.prog zcl [pAt hr,valV v] H (.bool (mayV h.length v)):=by
 obtain ⟨thv,hr1,hs⟩:=hh
 obtain ⟨tb,tc,rfl⟩:=hs.sl
 refine zbh ([pAt hr]++valVs v) (by kernel_rfl) (by kernel_rfl) ?_
 simp only [cns]
 refine ⟨fun g=>⟨?_,PH.le_refl _⟩,fun g=>⟨fun g0=>⟨?_,PH.le_refl _⟩,fun g0=>⟨fun g1=>?_,fun g1=>⟨fun g2=>⟨?_,PH.le_refl _⟩,fun g2=>⟨fun g3=>?_,fun g3=>?_⟩⟩⟩⟩⟩
 ·simp only [evs,evb,zj9] at g
  simp only [zba,zdt] at g
  simp only [mayV,if_pos g]
  rfl
 all_goals simp only [evs,evb,zj9] at g
 all_goals simp only [Bool.and_eq_false_iff,zdf,Decidable.not_not] at g
 all_goals have g':¬(v.kind≠3∧v.text≠[]):=fun hh=>g.elim (fun g=>hh.1 g) (fun g=>hh.2 g)
 ·simp only [evs,evb,zdt] at g0
  simp only [mayV,if_neg g',if_pos g0]
  by_cases e0:v.int=0<;>simp [evs,evb,e0]
 all_goals simp only [evs,evb,zdf] at g0
 ·simp only [evs,evb,zdt] at g1
  refine z05 [.bool (isNum v.int)] zjz (Z43 v.int H) rfl z01 fun H1 l1=>⟨?_,l1⟩
  simp only [mayV,if_neg g',if_neg g0,if_pos g1]
  rfl
 all_goals simp only [evs,evb,zdf] at g1
 ·simp only [evs,evb,zdt] at g2
  simp only [mayV,if_neg g',if_neg g0,if_neg g1,if_pos g2]
  simp only [evs,evb,Bool.decide_and,ge_iff_le]
 all_goals simp only [evs,evb,zdf] at g2
 ·simp only [evs,evb,zdt] at g3
  have hm:mayV h.length v=(decide (v.int=0) && z5b v.text):=by
   simp only [mayV,if_neg g',if_neg g0,if_neg g1,if_neg g2,if_pos g3]
  refine ⟨fun vs K=>vs=[.bool (mayV h.length v)]∧PH.le H K,?_,fun g4=>?_,fun g4=>?_⟩
  ·rintro vs K _ ⟨rfl,l1⟩;exact ⟨rfl,l1⟩
  ·simp only [evs,evb,zdt] at g4
   refine z05 [.bool (z5b v.text)] z89 (zo3 v.text hv.2.2 H) rfl z01 fun H1 l1=>⟨_,z00,?_,l1⟩
   simp [evs,evb,hm,g4]
  ·simp only [evs,evb,zdf] at g4
   refine ⟨_,z00,?_,PH.le_refl _⟩
   simp [evs,evb,hm,g4]
 ·simp only [evs,evb,zdf] at g3
  refine ⟨fun vs K=>vs=[.bool (decide (v.kind=4∨v.kind=5∨v.kind=6∨v.kind=7))]∧K=H,?_,fun g4=>?_,fun g4=>⟨fun g5=>?_,fun g5=>?_⟩⟩
  ·rintro vs K _ ⟨rfl,rfl⟩
   refine ⟨fun g4=>⟨?_,PH.le_refl _⟩,fun g4=>⟨fun g5=>?_,fun g5=>⟨?_,PH.le_refl _⟩⟩⟩
   ·simp only [evs,evb,zdt] at g4
    simp only [mayV,if_neg g',if_neg g0,if_neg g1,if_neg g2,if_neg g3,if_pos g4]
    simp only [evs,evb]
   ·simp only [evs,evb,zdf] at g4
    simp only [evs,evb,zdt] at g5
    have hm:mayV h.length v=decide (0≤v.int∧v.int < (h.length:Int)):=by
     simp only [mayV,if_neg g',if_neg g0,if_neg g1,if_neg g2,if_neg g3,if_neg g4,if_pos g5]
    refine ⟨fun vs K2=>vs=[.bool (mayV h.length v)]∧K2=K,?_,?_,?_,fun g6=>?_,fun g6=>?_⟩
    ·rintro vs K2 _ ⟨rfl,rfl⟩;exact ⟨rfl,PH.le_refl _⟩
    ·intro _;simp [Chk.holds,evs,evb]
    ·intro _;simp [Chk.holds,evs,evb]
    ·simp only [evs,evb,ge_iff_le,zdt] at g6
     refine ⟨[.slice tb h.length tc],rfl,by simp only [evs,evb];exact hr1,_,z00,?_,rfl⟩
     simp [evs,evb,hm,g6]
    ·simp only [evs,evb,ge_iff_le,zdf] at g6
     refine ⟨_,z00,?_,rfl⟩
     simp [evs,evb,hm,g6]
   ·simp only [evs,evb,zdf] at g4 g5
    simp only [mayV,if_neg g',if_neg g0,if_neg g1,if_neg g2,if_neg g3,if_neg g4,if_neg g5]
    simp only [evs,evb]
  ·simp only [evs,evb,zdt] at g4
   refine ⟨_,z00,?_,rfl⟩
   simp [evs,evb,g4]
  ·simp only [evs,evb,zdt] at g5
   refine ⟨_,z00,?_,rfl⟩
   simp [evs,evb,g5]
  ·simp only [evs,evb,zdf] at g4 g5
   refine ⟨_,z00,?_,rfl⟩
   by_cases e6:v.kind=6<;>by_cases e7:v.kind=7<;>simp [evs,evb,g4,g5,e6,e7]
theorem zfe {H:PH} {h:HX} {tb:Option Addr} {tc:Nat} (hs:SlR H h (.slice tb h.length tc)) {i:Nat} {t:TX} (hi:h[i]?=some t):(tb.isSome=true)∧∃v,InI t.kind∧SlR H t.parts v∧rowAt H (pOf (eltV (.slice tb h.length tc) (i:Int) 2)) [.int .i64 t.kind,v]:=by
 obtain ⟨h1,_,cs,h2,h3⟩:=hs.get hi
 obtain ⟨v,rfl,h4,h5⟩:=thingX_iff.1 h2
 exact ⟨h1,v,h4,h5,h3⟩
theorem z6j {H:PH} {p:Option Addr} {a b:Value} (h:rowAt H p [a,b]):rowAt H (p.map (·.add 1)) [b]:=z0a h 1 1
theorem zs5 {H:PH} {p:Option Addr} {a b:Value} (h:rowAt H p [a,b]):rowAt H (p.map (·.add 0)) [a]:=z0a h 0 1
theorem z7w (h:HX) (hr:Nat) (v:VX) (hm:mayV h.length v=true) (H:PH) (hh:HeapAt H hr h):Gives Tryz.prog zca [pAt hr,valV v] H (.int .i64 (z0z h v)):=by
 obtain ⟨thv,hr1,hs⟩:=hh
 obtain ⟨tb,tc,rfl⟩:=hs.sl
 refine zao ([pAt hr]++valVs v) (by kernel_rfl) (by kernel_rfl) ?_
 simp only [cns]
 refine ⟨fun g=>⟨?_,PH.le_refl _⟩,fun g=>?_⟩
 ·simp only [evs,evb,zdt] at g
  simp only [z0z,if_pos g]
  rfl
 simp only [evs,evb,zdf,Decidable.not_not] at g
 have hin:0≤v.int∧v.int < (h.length:Int):=by
  unfold mayV at hm
  split at hm
  ·cases hm
  ·simpa [g] using hm
 obtain ⟨i,hi⟩:∃i:Nat,v.int=(i:Int):=⟨v.int.toNat,by omega⟩
 obtain ⟨t,ht⟩:∃t,h[i]?=some t:=⟨_,zge (by omega)⟩
 obtain ⟨hsome,pv,h4,h5,h6⟩:=zfe hs ht
 refine ⟨fun _=>by simp [Chk.holds,evs,evb],[.slice tb h.length tc],rfl,by simp only [evs,evb];exact hr1,fun _=>?_,[.int .i64 t.kind],rfl,?_,?_,PH.le_refl _⟩
 ·simp only [Chk.holds,evs,evb];exact ⟨hsome,by omega,by omega⟩
 ·simp only [evs,evb,hi]
  exact zs5 h6
 ·have:z0z h v=t.kind:=by
   unfold z0z
   rw [if_neg (fun hh=>hh g),hi,Int.toNat_natCast,zgd,ht];rfl
  rw [this];rfl
theorem zad (h:HX) (hr:Nat) (v:VX) (i:Int) (hin:0≤v.int∧v.int < (h.length:Int)) (H:PH) (hh:HeapAt H hr h):Gives Tryz.prog zd8 [pAt hr,valV v,.int .i64 i] H (.tuple #[valV (getX h v i).1,.int .i64 (getX h v i).2]):=by
 obtain ⟨thv,hr1,hs⟩:=hh
 obtain ⟨tb,tc,rfl⟩:=hs.sl
 refine zbl ([pAt hr]++valVs v++[.int .i64 i]) (by kernel_rfl) (by kernel_rfl) ?_
 simp only [cns]
 obtain ⟨k,hk⟩:∃k:Nat,v.int=(k:Int):=⟨v.int.toNat,by omega⟩
 obtain ⟨t,ht⟩:∃t,h[k]?=some t:=⟨_,zge (by omega)⟩
 obtain ⟨hsome,pv,h4,h5,h6⟩:=zfe hs ht
 have hgd:h.getD v.int.toNat default=t:=by rw [hk,Int.toNat_natCast,zgd,ht];rfl
 obtain ⟨pb,pc,rfl⟩:=h5.sl
 refine ⟨fun _=>by simp [Chk.holds,evs,evb],[.slice tb h.length tc],rfl,by simp only [evs,evb];exact hr1,fun _=>?_,[.slice pb t.parts.length pc],rfl,?_,fun g=>⟨?_,PH.le_refl _⟩,fun g=>?_⟩
 ·simp only [Chk.holds,evs,evb];exact ⟨hsome,by omega,by omega⟩
 ·simp only [evs,evb,hk]
  exact z6j h6
 ·simp only [evs,evb] at g
  simp only [Bool.or_eq_true,zdt,ge_iff_le] at g
  unfold getX
  simp only [hgd,if_pos g]
  rfl
 ·simp only [evs,evb] at g
  simp only [Bool.or_eq_false_iff,zdf,ge_iff_le] at g
  obtain ⟨j,rfl⟩:∃j:Nat,i=(j:Int):=⟨i.toNat,by omega⟩
  obtain ⟨x,hx⟩:∃x,t.parts[j]?=some x:=⟨_,zge (by omega)⟩
  obtain ⟨x1,_,xcs,x2,x3⟩:=h5.get hx
  obtain ⟨rfl,xf⟩:=z2r x2
  refine ⟨fun _=>?_,valVs x,rfl,by simp only [evs,evb];exact x3,?_,PH.le_refl _⟩
  ·simp only [Chk.holds,evs,evb];exact ⟨x1,by omega,by omega⟩
  ·have:getX h v (j:Int)=(x,0):=by
    unfold getX
    simp only [hgd]
    rw [if_neg (by omega),Int.toNat_natCast,zgd,hx];rfl
   rw [this];rfl
section
variable {S H:PH} {I:List Itm} {a b c:Itm}
theorem Held.swap (h:Held S H (a::b::I)):Held S H (b::a::I):=h.perm (List.Perm.swap _ _ _)
theorem Held.third (h:Held S H (a::b::c::I)):Held S H (c::a::b::I):=h.perm ((List.Perm.cons _ (List.Perm.swap _ _ _)).trans (List.Perm.swap _ _ _))
theorem Held.up {I J:List Itm} (h:Held S H (I++a::J)):Held S H (a::(I++J)):=h.perm List.perm_middle
end
theorem z6i {E:List Value} {H:PH} {p:SV} {ss:List SV} (h:rowAt H (pOf (ev0 E p)) (ss.map (ev0 E))):z0l E H [(p,ss)]:=fun x hx=>by
 rw [List.mem_singleton.1 hx];exact h
theorem z4m:Tryz.prog.underlying 85=some (.slice 77):=by kernel_rfl
theorem z2h:ElemOk Tryz.prog 77 3 32=true:=by kernel_rfl
theorem Z37:Tryz.prog.underlying 73=some (.slice 157):=by kernel_rfl
theorem zzg:ElemOk Tryz.prog 157 2 32=true:=by kernel_rfl
abbrev thX (x:TR×List VX):TX:=⟨x.1.kind,x.2⟩
abbrev hpX (L:List (TR×List VX)):HX:=L.map thX
def heapI (hr:Nat) (L:List (TR×List VX)) (thv:Value):List Itm:=bx hr 75 [thv]::nest 157 77 TR.sl L thv
theorem zcg {S H:PH} {I:List Itm} {r:Nat} {T:TypeId} {v:Value} (h:Held S H I) (hi:bx r T [v]∈I):rowAt H (some ⟨r,0,none⟩) [v]:=zm1 h hi 0 1
theorem zn0 {S H:PH} {I:List Itm} {hr:Nat} {L:List (TR×List VX)} {thv:Value} (h:Held S H (heapI hr L thv++I)):HeapAt H hr (hpX L):=by
 refine ⟨thv,zcg h (zms),?_⟩
 refine zsg (f:=thX) (J:=I) h.tail rfl fun x _ cs h1 h2=>?_
 obtain ⟨rfl,h3⟩:=thing_iff.1 h1
 exact thingX_iff.2 ⟨_,rfl,h3,h2⟩
def HpR (hr:Nat) (h':HX) (xv:Value):Ending→PH→List Itm→Prop:=fun x _ J'=>x=.returned xv∧∃L' thv',J'=heapI hr L' thv'∧hpX L'=h'
abbrev HpTo (f:FuncId) (args:Array Value) (S K:PH) (hr:Nat) (h':HX) (xv:Value):Prop:=Tri Tryz.prog f args K fun x K'=>∃S' J',PH.le S S'∧Held S' K' J'∧HpR hr h' xv x S' J'
theorem HpTo.beside {f:FuncId} {args:Array Value} {S H:PH} {hr:Nat} {h':HX} {xv:Value} {L:List (TR×List VX)} {thv:Value} {I:List Itm} (h:Held S H (heapI hr L thv++I)) (ht:∀K,Held S K (heapI hr L thv)→HpTo f args S K hr h' xv) :
  Tri Tryz.prog f args H fun x H'=>x=.returned xv∧∃S' L' thv',PH.le S S'∧Held S' H' (heapI hr L' thv'++I)∧hpX L'=h':=by
 refine (h.call ht).mono ?_
 rintro x H' ⟨S',J',h1,h2,h3,L',thv',rfl,h4⟩
 exact ⟨h3,S',L',thv',h1,h2,h4⟩
theorem z8l {S H:PH} {I:List Itm} (h:Held S H I):Held S H (I++[]):=by rw [List.append_nil];exact h
theorem zkr (hr:Nat) (L:List (TR×List VX)) (thv:Value) (kind:Int) (parts:List VX) (pv:Value) (S K:PH) (hK:Held S K (heapI hr L thv)) (hp:SlR S parts pv) (hk:InI kind) (hL:L.length≤16777216) (hpl:parts.length≤1048576) :
  HpTo zdb #[pAt hr,.int .i64 kind,pv] S K hr (addX (hpX L) kind parts).1 (valV (addX (hpX L) kind parts).2):=by
 obtain ⟨pb,pc,rfl⟩:=hp.sl
 obtain ⟨tb,tc,rfl⟩:=zbq (J:=[]) (z8l hK).tail
 refine zb9 [pAt hr,.int .i64 kind,.slice pb parts.length pc] (by kernel_rfl) (by kernel_rfl) ?_
 refine ⟨fun _=>by simp [Chk.holds,evs,evb],[.slice tb L.length tc],rfl,by simp only [evs,evb];exact zcg hK (zms),?_⟩
 simp only [cns]
 have hpd:∀{S K:PH} {I:List Itm} {E:List Value},Held S K I→bx hr 75 [.slice tb L.length tc]∈I→rowAt K (some ⟨hr,0,none⟩) [.slice tb L.length tc]:=fun h hi=>zcg h hi
 refine z1p (α:=VX) (b:=32) z4m z2h hK (z6i (by simp only [evs,evb];exact zcg hK (zms))) fun v4 K4 h4 _ _=>?_
 simp only [cns]
 refine z8s (b:=32) (more:=parts) z4m z2h (by kernel_rfl) (by kernel_rfl) h4 (hp.srcS h4.sh) (by simp only [maxLen,List.length_nil];omega) (by simp only [List.length_nil];omega) fun v5 K5 h5 _=>⟨z6i (by simp only [evs,evb];exact zcg h5 (zmm _ (zms))),?_⟩
 rw [List.nil_append] at h5
 obtain ⟨b5,c5,rfl⟩:=(h5.row (zms)).sl
 simp only [cns]
 refine z0m (b:=32) (more:=[(⟨kind,b5,parts.length,c5⟩:TR)]) [.agg #[.int .i64 kind,.slice b5 parts.length c5]] Z37 zzg rfl (by decide) (by decide) h5.third (by kernel_rfl) (.cons (thing_iff.2 ⟨rfl,hk⟩) .nil) (z6i (by simp only [evs,evb];exact zcg h5 (zmm _ (zms)))) (fun u=>by kernel_rfl) (fun u=>by kernel_rfl)
  (by simp only [maxLen,List.length_map,zlc,List.length_nil];omega) (by simp only [List.length_map,zlc,List.length_nil];omega) fun u v7 S7 K7 l7 h7=>⟨z01,?_⟩
 simp only [cns]
 obtain ⟨b7,c7,hv7⟩:=(h7.row (zms)).sl
 have h8:=h7.third
 refine z0j (off:=0) (vs:=[v7]) (by simp only [evs,evb];rfl) h8 (by simp only [evs,evb]) (by rw [hv7];simp [oneC]) (by simp) fun K8 h9=>?_
 have h9':Held S7 K8 (bx hr 75 [v7]::orow 157 (L.map Prod.fst++[(⟨kind,b5,parts.length,c5⟩:TR)]) v7::orow 77 parts (.slice b5 parts.length c5)::inner 77 TR.sl L):=h9
 have h10:Held S7 K8 (orow 157 (L.map Prod.fst++[(⟨kind,b5,parts.length,c5⟩:TR)]) v7::orow 77 parts (TR.sl ⟨kind,b5,parts.length,c5⟩)::(inner 77 TR.sl L++[bx hr 75 [v7]])):=by
  refine h9'.perm ?_
  refine List.Perm.trans (List.Perm.swap _ _ _) (List.Perm.cons _ ?_)
  refine List.Perm.trans (List.Perm.swap _ _ _) (List.Perm.cons _ ?_)
  exact (List.perm_append_comm (l₁:=[_]) (l₂:=inner 77 TR.sl L))
 have h11:=zh5 (a:=(⟨kind,b5,parts.length,c5⟩:TR)) h10
 have h12:Held S7 K8 (heapI hr (L++[((⟨kind,b5,parts.length,c5⟩:TR),parts)]) v7):=h11.perm List.perm_append_comm
 have hlen:slLen v7=L.length+1:=by rw [hv7];simp [slLen]
 refine ⟨[v7],by rw [hv7];rfl,by simp only [evs,evb];exact zcg h12 (zms),?_⟩
 refine ⟨S7,_,l7,h12,?_,_,v7,rfl,?_⟩
 ·rw [hv7]
  have hw:IntKind.i64.wrap (L.length:Int)=L.length:=w64 (by omega) (by omega)
  simp [addX,evs,evb,hw]
 ·simp [addX,hpX,thX]
theorem Z20 (hr:Nat) (L:List (TR×List VX)) (thv:Value) (S K:PH) (hK:Held S K (heapI hr L thv)) (hL:L.length≤16777216) :
  HpTo zc2 #[pAt hr,.int .i64 4,.slice none 0 0] S K hr (addX (hpX L) 4 []).1 (.tuple #[valV (addX (hpX L) 4 []).2,.int .i64 0]):=by
 refine zan [pAt hr,.int .i64 4,.slice none 0 0] (by kernel_rfl) (by kernel_rfl) ?_
 refine ⟨fun g=>by simp [evs,evb] at g,fun g=>?_⟩
 refine ⟨fun n vs K1=>n=0∧vs=[.int .i64 0,.int .i64 0,.int .i64 0,.int .i64 0,txt []]∧K1=K,⟨0,rfl,rfl,rfl⟩,?_⟩
 rintro n vs K1 _ ⟨rfl,rfl,rfl⟩
 refine ⟨fun g2=>by simp [evs,evb] at g2,fun g2=>?_⟩
 refine z02 z1v (zkr hr L thv 4 [] (.slice none 0 0) S K1 hK (SlR.mk_iff.2 ⟨by simp,.inl ⟨rfl,rfl⟩⟩) (by unfold InI;omega) hL (by simp)) ?_
 rintro x K2 ⟨S2,J2,l2,h2,rfl,L',thv',rfl,hh⟩
 refine ⟨_,valVs (addX (hpX L) 4 []).2,rfl,rfl,rfl,z01,S2,_,l2,h2,rfl,L',thv',rfl,hh⟩
theorem Z2r {α:Type} (n:Nat) (a:α):List.replicate n a++[a]=List.replicate (n+1) a:=by
 rw [show ([a]:List α)=List.replicate 1 a from rfl,List.replicate_append_replicate]
theorem znv (hr:Nat) (L:List (TR×List VX)) (thv:Value) (kind n:Int) (v:VX) (S K:PH) (hK:Held S K (heapI hr L thv)) (hv:VFit v) (hk:InI kind) (hL:L.length≤16777216) :
  HpTo zas #[pAt hr,.int .i64 kind,.int .i64 n,valV v] S K hr (z1i (hpX L) kind n v).1 (.tuple #[valV (z1i (hpX L) kind n v).2.1,.int .i64 (z1i (hpX L) kind n v).2.2]):=by
 refine z9q ([pAt hr,.int .i64 kind,.int .i64 n]++valVs v) (by kernel_rfl) (by kernel_rfl) ?_
 simp only [cns]
 refine ⟨fun g=>?_,fun g=>?_⟩
 ·simp only [evs,evb] at g
  simp only [Bool.or_eq_true,zdt] at g
  have:z1i (hpX L) kind n v=(hpX L,vNone,83):=by unfold z1i;rw [if_pos (by omega)]
  rw [this]
  exact ⟨S,_,PH.le_refl _,hK,rfl,L,thv,rfl,rfl⟩
 simp only [evs,evb] at g
 simp only [Bool.or_eq_false_iff,zdf] at g
 obtain ⟨N,rfl⟩:∃N:Nat,n=(N:Int):=⟨n.toNat,by omega⟩
 have hN:N≤1000:=by omega
 have hf:z1i (hpX L) kind (N:Int) v=((addX (hpX L) kind (List.replicate N v)).1,(addX (hpX L) kind (List.replicate N v)).2,0):=by
  unfold z1i;rw [if_neg (by omega),Int.toNat_natCast]
 rw [hf]
 refine z1p (α:=VX) (b:=32) z4m z2h hK z01 fun v6 K6 h6 _ _=>?_
 simp only [cns]
 refine ⟨fun m vs K1=>∃(k:Nat) (u:Value) (S1:PH),vs=[u,nI k]∧k+m=N∧PH.le S S1∧Held S1 K1 (orow 77 (List.replicate k v) u::heapI hr L thv),⟨N,0,v6,S,rfl,by omega,PH.le_refl _,h6⟩,?_⟩
 rintro m vs K1 _ ⟨k,u,S1,rfl,hkm,l1,h1⟩
 simp only [cns]
 obtain ⟨ub,uc,hu⟩:=(h1.row (zms)).sl
 rw [List.length_replicate] at hu
 refine ⟨fun g2=>?_,fun g2=>?_⟩
 ·simp only [evs,evb,zdt] at g2
  refine z0m (b:=32) (more:=[v]) [valV v] z4m z2h rfl (by decide) (by decide) h1 (by kernel_rfl) (.cons (z80 hv) .nil) z01 (fun u=>by kernel_rfl) (fun u=>by kernel_rfl)
   (by simp only [maxLen,List.length_replicate,zlc,List.length_nil];omega) (by simp only [List.length_replicate,zlc,List.length_nil];omega) fun u2 v7 S7 K7 l7 h7=>⟨z01,?_⟩
  rw [Z2r] at h7
  refine ⟨_,z00,m - 1,by omega,k+1,v7,S7,?_,by omega,PH.le_trans l1 l7,h7⟩
  simp only [evs,evb];rw [w64 (by omega) (by omega)];rfl
 ·simp only [evs,evb,zdf] at g2
  have:k=N:=by omega
  subst this
  obtain ⟨S3,s3,l3,h3⟩:=h1.freeze
  refine z02 z1v (zkr hr L thv kind (List.replicate k v) u S3 K1 h3 s3 hk hL (by rw [List.length_replicate];omega)) ?_
  rintro x K2 ⟨S2,J2,l2,h2,rfl,L',thv',rfl,hh⟩
  refine ⟨_,valVs (addX (hpX L) kind (List.replicate k v)).2,rfl,rfl,rfl,z01,S2,_,PH.le_trans l1 (PH.le_trans l3 l2),h2,rfl,L',thv',rfl,hh⟩
theorem zeq (hr:Nat) (L:List (TR×List VX)) (thv:Value) (v:VX) (i:Int) (x:VX) (S K:PH) (hK:Held S K (heapI hr L thv)) (hin:0≤v.int∧v.int < (L.length:Int)) (hx:VFit x) :
  HpTo zcv #[pAt hr,valV v,.int .i64 i,valV x] S K hr (putX (hpX L) v i x).1 (.tuple #[valV (putX (hpX L) v i x).2.1,.int .i64 (putX (hpX L) v i x).2.2]):=by
 obtain ⟨tb,tc,rfl⟩:=zbq (J:=[]) (z8l hK).tail
 refine zbo ([pAt hr]++valVs v++[.int .i64 i]++valVs x) (by kernel_rfl) (by kernel_rfl) ?_
 simp only [cns]
 obtain ⟨k,hk⟩:∃k:Nat,v.int=(k:Int):=⟨v.int.toNat,by omega⟩
 obtain ⟨t,ht⟩:∃t,L[k]?=some t:=⟨_,zge (by omega)⟩
 obtain ⟨tr,l⟩:=t
 obtain ⟨hsome,_,cs,h4,h6⟩:=zof (J:=[]) (z8l hK).tail ht
 obtain ⟨rfl,h5⟩:=thing_iff.1 h4
 have hgd:(hpX L).getD v.int.toNat default=⟨tr.kind,l⟩:=by rw [hk,Int.toNat_natCast,zgd,List.getElem?_map,ht];rfl
 obtain ⟨pb,pc,hpv⟩:=(zbv (J:=[]) (z8l hK).tail ht).sl
 simp only at hpv h6
 refine ⟨fun _=>by simp [Chk.holds,evs,evb],[.slice tb L.length tc],rfl,by simp only [evs,evb];exact zcg hK (zms),fun _=>?_,[.slice pb l.length pc],rfl,?_,fun g=>?_,fun g=>?_⟩
 ·simp only [Chk.holds,evs,evb];exact ⟨hsome,by omega,by omega⟩
 ·simp only [evs,evb,hk]
  rw [←hpv]
  exact z6j h6
 ·simp only [evs,evb] at g
  simp only [Bool.or_eq_true,zdt,ge_iff_le] at g
  have:putX (hpX L) v i x=(hpX L,vNone,83):=by
   unfold putX
   simp only [hgd,if_pos g]
  rw [this]
  exact ⟨S,_,PH.le_refl _,hK,rfl,L,_,rfl,rfl⟩
 ·simp only [evs,evb] at g
  simp only [Bool.or_eq_false_iff,zdf,ge_iff_le] at g
  obtain ⟨j,rfl⟩:∃j:Nat,i=(j:Int):=⟨i.toNat,by omega⟩
  obtain ⟨y,hy⟩:∃y,l[j]?=some y:=⟨_,zge (by omega)⟩
  have hnest:Held S K (nest 157 77 TR.sl L (.slice tb L.length tc)++[bx hr 75 [.slice tb L.length tc]]):=Held.perm (I:=[bx hr 75 [.slice tb L.length tc]]++nest 157 77 TR.sl L (.slice tb L.length tc)) hK List.perm_append_comm
  have hp:=zh3 ht hnest
  rw [hpv] at hp
  obtain ⟨y1,_⟩:=(hp.row (zms)).get hy
  refine ⟨fun _=>?_,?_⟩
  ·simp only [Chk.holds,evs,evb];exact ⟨y1,by omega,by omega⟩
  refine z1t (i:=j) (a:=y) (a':=x) (us:=valVs x) ?_ hp hy rfl ?_ (by simp [oneC]) (z80 hx) fun K9 h9=>?_
  ·simp only [evs,evb];rfl
  ·simp only [evs,evb]
  rw [←hpv] at h9
  have h10:=zby ht h9
  have h11:Held S K9 (heapI hr (L.set k (tr,l.set j x)) (.slice tb L.length tc)):=h10.perm List.perm_append_comm
  have:putX (hpX L) v (j:Int) x=((hpX L).set k ⟨tr.kind,l.set j x⟩,vVoid,0):=by
   unfold putX
   simp only [hgd]
   rw [if_neg (by omega),hk,Int.toNat_natCast,Int.toNat_natCast]
  rw [this]
  refine ⟨S,_,PH.le_refl _,h11,rfl,_,_,rfl,?_⟩
  simp [hpX,thX,List.map_set]
def retIs (p:PV):Out→Bool
 | .ret 0 [.pv q]=>PV.same q p
 | _=>false
def zu5 (P:Program) (tab:List CK) (fm:Fm VE) (p:PV):Bool:=match run P tab fm [] [] with
 | some outs=>outs.all (retIs p)
 | none=>false
theorem Z56 {P:Program} {S0:PH} {tab:List CK} {fm:Fm VE} {p:PV} {X:List PanicEntry→PH→Prop} (htab:TabOk P S0 tab) (h:zu5 P tab fm p=true) {R:Ending→PH→Prop}
  (hR:∀H' v,PH.le S0 H'→p.Rep H' v→R (.returned v) H'):den P X fm [] S0 [] (fun ve E' H' _=>R (.returned (evV E' (fun _=>0) ve)) H'):=by
 unfold zu5 at h
 split at h
 ·rename_i outs ho
  refine Z25 htab fm [] [] outs [] S0 S0 (fun _=>0) [] ho ⟨rfl,fun i a ha=>by simp at ha,PH.le_refl _,fun k row hk=>by simp at hk,fun i j hi=>by simp at hi,fun i k ha=>by simp at ha⟩ (PH.le_refl _) fun o hm=>?_
  have h1:=List.all_eq_true.1 h o hm
  unfold retIs at h1
  split at h1
  ·intro ve E' S' H' r' L' ss hS hSH hq hss hv
   obtain ⟨v,h2,h3⟩:=hv.2 0 _ rfl
   have hl:=hv.1
   simp only [RelV] at h3
   rw [PV.same_eq h1] at h3
   cases ve with
   | junk=>cases hss
   | sc s=>
    cases hss
    simp only [List.map_cons,List.map_nil,List.getElem?_cons_zero,Option.some.injEq] at h2
    show R (.returned (ev0 E' s)) H'
    rw [h2];exact hR H' v (PH.le_trans hS hSH) (PV.Rep.le hSH h3)
   | ag cs=>cases hq
   | tu l=>cases hq
  ·cases h1
 ·cases h
instance encPrim:Enc (List UInt8×List Int):=⟨fun x=>[.str x.1,slp x.2],2,fun _=>rfl⟩
theorem Z64 {P:Program} {S0:PH}:TabOk P S0 []:=fun c hc=>by cases hc
theorem Z3b:zu5 Tryz.prog [] z48 (slp rowsX)=true:=by kernel_rfl
theorem Z46 (S:PH):Tri Tryz.prog zix #[] S fun x S'=>PH.le S S'∧∃v,x=.returned v∧SlR S' rowsX v:=
 zg7 [] (H:=S) (R:=fun x S'=>PH.le S S'∧∃v,x=.returned v∧SlR S' rowsX v) (by kernel_rfl) (by kernel_rfl)
  (Z56 (R:=fun x S'=>PH.le S S'∧∃v,x=.returned v∧SlR S' rowsX v) Z64 Z3b fun H' v hl hv=>⟨hl,v,rfl,hv⟩)
theorem prim_iff {H:PH} {x:List UInt8×List Int} {cs:List Value}:CsR H x cs↔∃v,cs=[txt x.1,v]∧x.1.length≤maxLen∧SlR H x.2 v:=by
 show PV.RepRow H [.str x.1,slp x.2] cs↔_
 simp only [PV.RepRow,zfq]
 constructor
 ·rintro ⟨v1,_,rfl,⟨rfl,h1⟩,v2,_,rfl,h2,rfl⟩
  exact ⟨v2,rfl,h1,h2⟩
 ·rintro ⟨v,rfl,h1,h2⟩
  exact ⟨_,_,rfl,⟨rfl,h1⟩,v,_,rfl,h2,rfl⟩
section
variable {P:Program} {Ψ:Value→PH→Prop} {H:PH}
theorem zwi {op:BinOp} {t:TypeId} {x y:Operand} {u v:Array Value} (hop:op=.eql∨op=.neq) (hg:P.eqGuardType P.depth t=false) {Ξ:Unit→PH→Prop}:wpS P (eqGuard op t x y (.agg u) (.agg v)) Ξ Ψ H=Ξ () H:=by
 rcases hop with rfl | rfl
 ·show wpS P (if (!P.eqGuardType P.depth t)=true then _ else _) Ξ Ψ H=_
  rw [if_pos (by rw [hg];rfl)];rfl
 ·show wpS P (if (!P.eqGuardType P.depth t)=true then _ else _) Ξ Ψ H=_
  rw [if_pos (by rw [hg];rfl)];rfl
theorem ztc {X:List PanicEntry→PH→Prop} {β:Type} {E:List Value} {L:LK} {K:β→List Value→PH→LK→Prop} {t U ty:TypeId} {fs:List Field} {asu bs:List Value} {x y:Operand} {args:List (Nat×VE)} {k:Fm β} (ht:P.underlying t=some (.struct fs.toArray)) (hheld:P.stoodInHeld t=false) (hg:P.eqGuardType P.depth t=false) (ho:OffB 0 fs=true)
  (hx:argEv E args x=.agg asu.toArray) (hy:argEv E args y=.agg bs.toArray) (hf:FitB P fs asu bs=true) (hk:den P X k (E++[.bool (z5q asu bs)]) H L K):den P X (.sem (.binOp .eql t x y U) ty args (.sc .bool) [] k) E H L K:=by
 show wpS P (execOp (argEv E args) (bare _ ty)) _ _ H
 rw [zpd,hx,hy,zwi (.inl rfl) hg]
 show wpS P (do pure (Value.bool (←Op.equal t (.agg asu.toArray) (.agg bs.toArray))):Sem Value) _ _ H
 rw [z04]
 show wpS P (Op.equalIn (9998+2) t _ _) _ _ H
 rw [zqc ht hheld ho hf]
 exact ⟨[_],rfl,rfl,z01,hk⟩
end
noncomputable def valFields:Array Field:=match Tryz.prog.underlying 77 with
 | some (.struct fs)=>fs
 | _=>#[]
theorem uValS:Tryz.prog.underlying 77=some (.struct valFields.toList.toArray):=by kernel_rfl
theorem Z41:Tryz.prog.stoodInHeld 77=false:=by kernel_rfl
theorem Z02:Tryz.prog.eqGuardType Tryz.prog.depth 77=false:=by kernel_rfl
theorem Z4q:OffB 0 valFields.toList=true:=by kernel_rfl
theorem Z50 (a b:VX):FitB Tryz.prog valFields.toList (valVs a) (valVs b)=true:=by kernel_rfl
theorem eqVal (a b:VX):z5q (valVs a) (valVs b)=decide (a=b):=by
 obtain ⟨k,i,s⟩:=a
 obtain ⟨k',i',s'⟩:=b
 have:z5q (valVs ⟨k,i,s⟩) (valVs ⟨k',i',s'⟩)=(decide (k=k') && (decide (i=i') && (decide (s=s') && true))):=by
  have e:((⟨s.toArray⟩:ByteArray) == ⟨s'.toArray⟩)=decide (s=s'):=by
   show (s.toArray == s'.toArray)=_
   rw [Bool.eq_iff_iff,beq_iff_eq,zdt]
   exact ⟨fun h=>List.toArray_inj h,fun h=>by rw [h]⟩
  simp [z5q,z3c,txt,e]
  rw [show (k == k')=decide (k=k') from rfl,show (i == i')=decide (i=i') from rfl]
 rw [this]
 by_cases h1:k=k'<;>by_cases h2:i=i'<;>by_cases h3:s=s'<;>simp [h1,h2,h3]
theorem zkg {X:List PanicEntry→PH→Prop} {β:Type} {E:List Value} {L:LK} {K:β→List Value→PH→LK→Prop} {H:PH} {U ty:TypeId} {a b:VX} {x y:Operand} {args:List (Nat×VE)} {k:Fm β} (hx:argEv E args x=valV a) (hy:argEv E args y=valV b) (hk:den Tryz.prog X k (E++[.bool (decide (a=b))]) H L K):den Tryz.prog X (.sem (.binOp .eql 77 x y U) ty args (.sc .bool) [] k) E H L K:=
 ztc uValS Z41 Z02 Z4q hx hy (Z50 a b) (by rw [eqVal];exact hk)
theorem Z19:(rowsX.all fun r=>decide ((rowsX.find? fun x=>decide (x.1=r.1))=some r))=true:=by decide +kernel
theorem Z59 {s:List UInt8} {i:Nat} {r:List UInt8×List Int} (hi:rowsX[i]?=some r) (hs:r.1=s):(rowsX.find? fun x=>decide (x.1=s))=some r:=by
 have:=List.all_eq_true.1 Z19 r (List.mem_of_getElem? hi)
 rw [←hs];exact of_decide_eq_true this
theorem Z1m {s:List UInt8} (h:∀r∈rowsX,r.1≠s):(rowsX.find? fun x=>decide (x.1=s))=none:=by
 rw [List.find?_eq_none]
 intro x hx;simpa using h x hx
structure ArgsK (h:HX) (ks:List Int) (args:List VX):Prop where
 len:ks.length=args.length
 may:∀v∈args,mayV h.length v=true
 kind:∀(i:Nat) k v,ks[i]?=some k→args[i]?=some v→kOk h k v=true
theorem ArgsK.at_ {h:HX} {ks:List Int} {args:List VX} (a:ArgsK h ks args) {i:Nat} {k:Int} (hk:ks[i]?=some k):mayV h.length (args.getD i vNone)=true∧kOk h k (args.getD i vNone)=true:=by
 have hl:=(List.getElem?_eq_some_iff.1 hk).1
 have hv:args[i]?=some (args[i]'(by rw [←a.len];exact hl)):=zge _
 rw [zgd,hv]
 exact ⟨a.may _ (List.getElem_mem _),a.kind i k _ hk hv⟩
theorem z5o {h:HX} {n:Nat} {v:VX} (hm:mayV n v=true∧kOk h 1 v=true):isNum v.int=true:=by
 obtain ⟨hm,hk⟩:=hm
 have hk:v.kind=1:=by simpa [kOk] using hk
 unfold mayV at hm
 split at hm
 ·cases hm
 ·simpa [hk] using hm
theorem zy5 {n:Nat} {v:VX} (hm:mayV n v=true) (h8:v.kind=8):0≤v.int∧v.int < (n:Int):=by
 unfold mayV at hm
 split at hm
 ·cases hm
 ·simpa [h8] using hm
theorem z2b {h:HX} {k:Int} {v:VX} (hk:10≤k) (hm:mayV h.length v=true∧kOk h k v=true):0≤v.int∧v.int < (h.length:Int):=by
 obtain ⟨hm,ho⟩:=hm
 refine zy5 hm ?_
 unfold kOk at ho
 rw [if_pos hk] at ho
 have ho:=of_decide_eq_true ho
 unfold z0z at ho
 split at ho
 ·omega
 ·rename_i h8;exact Decidable.not_not.1 h8
section
variable {h:HX} {s:List UInt8} {args:List VX} {r:List UInt8×List Int}
theorem Z4f (hf:(rowsX.find? fun x=>decide (x.1=s))=none):doX h s args=(h,vNone,1):=by
 unfold doX;rw [hf]
theorem Z3s (hf:(rowsX.find? fun x=>decide (x.1=s))=some r) (hl:r.2.length≠args.length):doX h s args=(h,vNone,1):=by
 unfold doX;rw [hf];simp only [if_pos hl]
theorem Z5h (hf:(rowsX.find? fun x=>decide (x.1=s))=some r) (hl:r.2.length=args.length) {v:VX} (hv:v∈args) (hm:mayV h.length v=false):doX h s args=(h,vNone,1):=by
 have:args.all (mayV h.length)=false:=by
  rw [List.all_eq_false];exact ⟨v,hv,by simp [hm]⟩
 unfold doX;rw [hf];simp only [if_neg (fun hh:r.2.length≠args.length=>hh hl),this];rfl
theorem Z48 (hf:(rowsX.find? fun x=>decide (x.1=s))=some r) (hl:r.2.length=args.length) (hm:∀v∈args,mayV h.length v=true) {i:Nat} {k:Int} {v:VX} (hk:r.2[i]?=some k) (hv:args[i]?=some v) (hn:kOk h k v=false):doX h s args=(h,vNone,80):=by
 have h1:args.all (mayV h.length)=true:=List.all_eq_true.2 hm
 have h2:((r.2.zip args).all fun x=>kOk h x.1 x.2)=false:=by
  rw [List.all_eq_false]
  exact ⟨(k,v),List.mem_of_getElem? (i:=i) (by rw [List.getElem?_zip_eq_some];exact ⟨hk,hv⟩),by simp [hn]⟩
 unfold doX;rw [hf];simp only [if_neg (fun hh:r.2.length≠args.length=>hh hl),h1,h2];rfl
theorem Z4m (hf:(rowsX.find? fun x=>decide (x.1=s))=some r) (ha:ArgsK h r.2 args):doX h s args=actX h s args:=by
 have h1:args.all (mayV h.length)=true:=List.all_eq_true.2 ha.may
 have h2:((r.2.zip args).all fun x=>kOk h x.1 x.2)=true:=by
  rw [List.all_eq_true]
  rintro ⟨k,v⟩ hx
  obtain ⟨i,hi⟩:=List.getElem?_of_mem hx
  rw [List.getElem?_zip_eq_some] at hi
  exact ha.kind i k v hi.1 hi.2
 unfold doX;rw [hf];simp only [if_neg (fun hh:r.2.length≠args.length=>hh ha.len),h1,h2];rfl
end
theorem z5g (h:HX) (op:Nat) (a b:VX):(z0b h op a b).1=h:=by
 unfold z0b;simp only
 split
 ·rfl
 ·split<;>rfl
theorem zxg {H:PH} {l:List VX} {v:Value} (h:SlR H l v) {x:VX} (hx:x∈l):VFit x:=by
 obtain ⟨i,hi⟩:=List.getElem?_of_mem hx
 obtain ⟨_,_,cs,h1,_⟩:=h.get hi
 exact (z2r h1).2
theorem zfh:VFit vNone:=by unfold VFit vNone InI maxLen;simp
theorem Z3r {l:List VX} (h:∀x∈l,VFit x) (i:Nat):VFit (l.getD i vNone):=by
 rw [zgd]
 cases hi:l[i]? with
 | none=>exact zfh
 | some x=>exact h x (List.mem_of_getElem? hi)
theorem Z5f (hr:Nat) (L:List (TR×List VX)) (thv:Value) (s:List UInt8) (args:List VX) (av:Value) (S K:PH) (hK:Held S K (heapI hr L thv)) (ha:SlR S args av) (ok:HeapOk (hpX L)) (hL:L.length≤16777216) :
  HpTo zdz #[pAt hr,txt s,av] S K hr (doX (hpX L) s args).1 (.tuple #[valV (doX (hpX L) s args).2.1,.int .i64 (doX (hpX L) s args).2.2]):=by
 obtain ⟨ab,ac,rfl⟩:=ha.sl
 have hamax:=ha.max
 have hmx:maxLen=9223372036854775807:=rfl
 refine zci [pAt hr,txt s,.slice ab args.length ac] (by kernel_rfl) (by kernel_rfl) ?_
 refine z02 zhh (hK.pure (R:=fun e S'=>∃v,e=.returned v∧SlR S' rowsX v) (Z46 S)) ?_
 rintro x K1 ⟨S1,l1,h1,rv,rfl,hv⟩
 have ha1:=ha.le l1
 obtain ⟨rb,rc,rfl⟩:=hv.sl
 refine ⟨_,[.slice rb rowsX.length rc],rfl,rfl,rfl,z01,?_⟩
 simp only [cns]
 have hrl:rowsX.length=38:=rfl
 generalize hRL:rowsX.length=RL at *
 refine ⟨fun n vs K=>∃(k:Nat) (at_:Int),k+n=RL∧vs=[.int .i64 at_,nI k]∧K=K1∧((at_=-1∧∀r∈rowsX.take k,r.1≠s)∨∃(i:Nat) (r:List UInt8×List Int),at_=(i:Int)∧rowsX[i]?=some r∧r.1=s),
  ⟨RL,0,-1,by omega,rfl,rfl,.inl ⟨rfl,by simp⟩⟩,?_⟩
 rintro n vs K2 _ ⟨k,at_,hkn,rfl,rfl,hat⟩
 simp only [cns]
 refine ⟨fun g=>?_,fun g=>?_⟩
 ·simp only [evs,evb,zdt] at g
  obtain ⟨r,hr1⟩:∃r,rowsX[k]?=some r:=⟨_,zge (by omega)⟩
  obtain ⟨x1,_,cs,x2,x3⟩:=hv.get hr1
  obtain ⟨v2,rfl,x4,x5⟩:=prim_iff.1 x2
  refine ⟨fun _=>?_,[txt r.1],rfl,?_,_,z00,n - 1,by omega,k+1,if r.1=s then (k:Int) else at_,by omega,?_,rfl,?_⟩
  ·simp only [Chk.holds,evs,evb];exact ⟨x1,by omega,by omega⟩
  ·simp only [evs,evb];exact z06 h1.sh (zs5 x3)
  ·have hw:IntKind.i64.wrap ((k:Int)+1)=((k+1:Nat):Int):=by rw [w64 (by omega) (by omega)];rfl
   simp only [evs,evb,z03,hw]
   by_cases e:r.1=s<;>simp [e]
  ·by_cases e:r.1=s
   ·rw [if_pos e];exact .inr ⟨k,r,rfl,hr1,e⟩
   ·rw [if_neg e]
    rcases hat with ⟨rfl,hn⟩ | hat
    ·refine .inl ⟨rfl,fun r' hr'=>?_⟩
     rw [List.take_add_one,List.mem_append] at hr'
     rcases hr' with hr' | hr'
     ·exact hn r' hr'
     ·rw [hr1] at hr'
      rw [List.mem_singleton.1 hr'];exact e
    ·exact .inr hat
 simp only [evs,evb,zdf] at g
 have hk38:k=RL:=by omega
 have stop:∀{K5:PH},Held S1 K5 (heapI hr L thv)→∀{v:VX} {e:Int},doX (hpX L) s args=(hpX L,v,e)→∃S' J',PH.le S S'∧Held S' K5 J'∧HpR hr (doX (hpX L) s args).1 (.tuple #[valV (doX (hpX L) s args).2.1,.int .i64 (doX (hpX L) s args).2.2]) (.returned (.tuple #[valV v,.int .i64 e])) S' J':=fun h5 _ _ he=>by
  rw [he];exact ⟨S1,_,l1,h5,rfl,L,thv,rfl,rfl⟩
 refine ⟨fun vs K=>K=K2∧((vs=[.bool true]∧doX (hpX L) s args=(hpX L,vNone,1))∨(vs=[.bool false]∧∃(i:Nat) (r:List UInt8×List Int),at_=(i:Int)∧rowsX[i]?=some r∧(rowsX.find? fun x=>decide (x.1=s))=some r∧r.2.length=args.length)),?_,?_⟩
 rotate_left
 ·rcases hat with ⟨rfl,hn⟩ | ⟨i,r,rfl,hr1,hr2⟩
  ·have hf:=Z4f (h:=hpX L) (args:=args) (Z1m (s:=s) fun r hr'=>hn r (by rw [List.take_of_length_le (by omega)];exact hr'))
   refine ⟨fun hh=>by simp [Guard.holds,evs,evb] at hh,fun hh=>by simp [Guard.holds,evs,evb] at hh,fun _=>⟨_,z00,rfl,.inl ⟨rfl,hf⟩⟩,fun g2=>by simp [evs,evb] at g2⟩
  ·have hf:=Z59 hr1 hr2
   have hil:=(List.getElem?_eq_some_iff.1 hr1).1
   obtain ⟨x1,xn,cs,x2,x3⟩:=hv.get hr1
   obtain ⟨v2,rfl,x4,x5⟩:=prim_iff.1 x2
   obtain ⟨b2,c2,rfl⟩:=x5.sl
   refine ⟨fun hh=>?_,fun hh=>?_,fun g2=>?_,fun g2=>⟨[.slice b2 r.2.length c2],rfl,?_,_,z00,rfl,?_⟩⟩
   ·simp only [Chk.holds,evs,evb];exact ⟨x1,by omega,by omega⟩
   ·simp only [Chk.holds,evs,evb];exact xn
   ·simp only [evs,evb,zdt] at g2;omega
   ·simp only [evs,evb];exact z06 h1.sh (z6j x3)
   ·by_cases e:r.2.length=args.length
    ·exact .inr ⟨by simp [evs,evb,e],i,r,rfl,hr1,hf,e⟩
    ·exact .inl ⟨by simp [evs,evb];omega,Z3s hf e⟩
 rintro vs K3 _ ⟨rfl,hJ⟩
 rcases hJ with ⟨rfl,hf⟩ | ⟨rfl,i,r,rfl,hr1,hf,hlen⟩
 ·exact ⟨fun _=>stop h1 hf,fun g2=>by simp [evs,evb] at g2⟩
 refine ⟨fun g2=>by simp [evs,evb] at g2,fun _=>?_⟩
 clear hat g hkn hk38
 simp only [cns]
 have hil:=(List.getElem?_eq_some_iff.1 hr1).1
 refine ⟨fun n vs K=>∃(k:Nat),k+n=args.length∧vs=[.int .i64 0,nI k,.int .i64 0,.int .i64 0,txt []]∧Held S1 K (heapI hr L thv)∧∀v∈args.take k,mayV (hpX L).length v=true,
  ⟨args.length,0,by omega,rfl,h1,by simp⟩,?_⟩
 rintro n vs K4 _ ⟨k,hkn,rfl,h4,hmay⟩
 simp only [cns]
 refine ⟨fun g=>?_,fun g=>?_⟩
 ·simp only [evs,evb,zdt] at g
  obtain ⟨v,hv1⟩:∃v,args[k]?=some v:=⟨_,zge (by omega)⟩
  obtain ⟨x1,_,cs,x2,x3⟩:=ha1.get hv1
  obtain ⟨rfl,x4⟩:=z2r x2
  refine ⟨fun _=>?_,valVs v,rfl,?_,?_⟩
  ·simp only [Chk.holds,evs,evb];exact ⟨x1,by omega,by omega⟩
  ·simp only [evs,evb];exact z06 h4.sh x3
  simp only [cns]
  refine z05 [.bool (mayV (hpX L).length v)] z4x (zps (hpX L) hr v x4 K4 (zn0 (I:=[]) (z8l h4))) rfl z01 fun K5 l5=>?_
  refine ⟨fun g2=>?_,fun g2=>?_⟩
  ·simp only [evs,evb,Bool.not_eq_true'] at g2
   exact stop (h4.le l5) (Z5h hf hlen (List.mem_of_getElem? hv1) g2)
  ·simp only [evs,evb,Bool.not_eq_false'] at g2
   refine ⟨_,z00,n - 1,by omega,k+1,by omega,?_,h4.le l5,?_⟩
   ·have hw:IntKind.i64.wrap ((k:Int)+1)=((k+1:Nat):Int):=by rw [w64 (by omega) (by omega)];rfl
    simp only [evs,evb,hw]
   ·intro v' hv'
    rw [List.take_add_one,List.mem_append,hv1] at hv'
    rcases hv' with hv' | hv'
    ·exact hmay v' hv'
    ·rw [List.mem_singleton.1 hv'];exact g2
 simp only [evs,evb,zdf] at g
 have hmay:∀v∈args,mayV (hpX L).length v=true:=fun v hv'=>hmay v (by rw [List.take_of_length_le (by omega)];exact hv')
 clear hkn g
 refine ⟨fun n vs K=>∃(k0:Nat),k0+n=args.length∧vs=[.int .i64 0,nI k0,.int .i64 0,.int .i64 0,txt []]∧Held S1 K (heapI hr L thv)∧∀(j:Nat) kk v,j < k0→r.2[j]?=some kk→args[j]?=some v→kOk (hpX L) kk v=true,
  ⟨args.length,0,by omega,rfl,h4,fun j _ _ hj=>absurd hj (by omega)⟩,?_⟩
 rintro n vs K5 _ ⟨k0,hkn,rfl,h5,hkind⟩
 simp only [cns]
 refine ⟨fun g=>?_,fun g=>?_⟩
 ·simp only [evs,evb,zdt] at g
  obtain ⟨v,hv1⟩:∃v,args[k0]?=some v:=⟨_,zge (by omega)⟩
  obtain ⟨kk,hk1⟩:∃kk,r.2[k0]?=some kk:=⟨_,zge (by omega)⟩
  obtain ⟨y1,yn,cs,y2,y3⟩:=ha1.get hv1
  obtain ⟨rfl,y4⟩:=z2r y2
  obtain ⟨x1,xn,cs,x2,x3⟩:=hv.get hr1
  obtain ⟨v2,rfl,x4,x5⟩:=prim_iff.1 x2
  obtain ⟨b2,c2,rfl⟩:=x5.sl
  obtain ⟨z1,_,cs,z2,z3⟩:=x5.get hk1
  obtain ⟨rfl,z4⟩:=csIK z2
  refine ⟨fun _=>?_,[.slice b2 r.2.length c2],rfl,?_,fun _=>?_,[.int .i64 kk],rfl,?_,?_⟩
  ·simp only [Chk.holds,evs,evb];exact ⟨x1,by omega,by omega⟩
  ·simp only [evs,evb];exact z06 h5.sh (z6j x3)
  ·simp only [Chk.holds,evs,evb];exact ⟨z1,by omega,by omega⟩
  ·simp only [evs,evb];exact z06 h5.sh z3
  simp only [cns]
  refine ⟨fun vs K=>vs=[.bool (!kOk (hpX L) kk v)]∧Held S1 K (heapI hr L thv),?_,fun _=>?_,fun g2=>?_,fun g2=>?_⟩
  ·rintro vs K6 _ ⟨rfl,h6⟩
   refine ⟨fun g2=>?_,fun g2=>?_⟩
   ·simp only [evs,evb,Bool.not_eq_true'] at g2
    exact stop h6 (Z48 hf hlen hmay hk1 hv1 g2)
   ·simp only [evs,evb,Bool.not_eq_false'] at g2
    refine ⟨_,z00,n - 1,by omega,k0+1,by omega,?_,h6,?_⟩
    ·have hw:IntKind.i64.wrap ((k0:Int)+1)=((k0+1:Nat):Int):=by rw [w64 (by omega) (by omega)];rfl
     simp only [evs,evb,hw]
    ·intro j kk' v' hj hk2 hv2
     rcases Nat.lt_succ_iff_lt_or_eq.1 hj with hj | rfl
     ·exact hkind j kk' v' hj hk2 hv2
     ·rw [hk1] at hk2;rw [hv1] at hv2
      cases hk2;cases hv2;exact g2
  ·simp only [Chk.holds,evs,evb];exact ⟨y1,by omega,by omega⟩
  ·simp only [evs,evb,ge_iff_le,zdt] at g2
   refine ⟨valVs v,rfl,by simp only [evs,evb];exact z06 h5.sh y3,?_⟩
   simp only [cns]
   refine z05 [.int .i64 (z0z (hpX L) v)] z19 (z7w (hpX L) hr v (hmay v (List.mem_of_getElem? hv1)) K5 (zn0 (I:=[]) (z8l h5))) rfl z01 fun K6 l6=>?_
   have hw:IntKind.i64.wrap (kk - 10)=kk - 10:=by have:=z4;unfold InI at this;exact w64 (by omega) (by omega)
   have hkk:kOk (hpX L) kk v=decide (z0z (hpX L) v=kk - 10):=by unfold kOk;rw [if_pos g2]
   refine ⟨fun _=>?_,fun _=>?_,fun g3=>?_,fun g3=>⟨fun g4=>?_,fun g4=>?_⟩⟩
   ·simp only [Chk.holds,evs,evb];exact ⟨y1,by omega,by omega⟩
   ·simp only [Chk.holds,evs,evb];exact yn
   ·simp only [evs,evb,hw,zdt] at g3
    exact ⟨_,z00,by simp [evs,evb,hkk,g3],h5.le l6⟩
   ·exfalso
    simp only [evs,evb] at g4
    simp only [zba,zdt] at g4
    omega
   ·simp only [evs,evb,hw,zdf,ne_eq,Decidable.not_not] at g3
    exact ⟨_,z00,by simp [evs,evb,hkk,g3],h5.le l6⟩
  ·simp only [evs,evb,ge_iff_le,zdf] at g2
   refine ⟨fun _=>?_,fun _=>?_,fun g3=>?_,fun g3=>?_⟩
   ·simp only [Chk.holds,evs,evb];exact ⟨y1,by omega,by omega⟩
   ·simp only [Chk.holds,evs,evb];exact yn
   ·simp only [evs,evb] at g3
    simp only [zba,zdt,ge_iff_le] at g3
    have hkk:kOk (hpX L) kk v=decide (v.kind=kk):=by unfold kOk;rw [if_neg g2,if_pos g3.1]
    refine ⟨[.int .i64 v.kind],rfl,?_,_,z00,?_,h5⟩
    ·simp only [evs,evb]
     exact z06 h5.sh (z0a y3 0 1)
    ·by_cases e:v.kind=kk<;>simp [evs,evb,hkk,e]
   ·simp only [evs,evb] at g3
    simp only [Bool.and_eq_false_iff,zdf,ge_iff_le] at g3
    have hkk:kOk (hpX L) kk v=true:=by unfold kOk;rw [if_neg g2,if_neg (by omega)]
    exact ⟨_,z00,by simp [evs,evb,hkk],h5⟩
 simp only [evs,evb,zdf] at g
 have hak:ArgsK (hpX L) r.2 args:=⟨hlen,hmay,fun j kk v hj hv'=>hkind j kk v (by have:=(List.getElem?_eq_some_iff.1 hv').1;omega) hj hv'⟩
 have hdo:=Z4m hf hak
 have hfit:∀i,VFit (args.getD i vNone):=Z3r fun x hx=>zxg ha1 hx
 clear hkind hmay h4 h1
 have get:∀(j:Nat),j < args.length→(ab.isSome=true)∧rowAt K5 (pOf (eltV (.slice ab args.length ac) (j:Int) 3)) (valVs (args.getD j vNone)):=fun j hj=>by
  obtain ⟨v,hv1⟩:∃v,args[j]?=some v:=⟨_,zge hj⟩
  obtain ⟨y1,yn,cs,y2,y3⟩:=ha1.get hv1
  obtain ⟨rfl,y4⟩:=z2r y2
  rw [zgd,hv1]
  exact ⟨y1,z06 h5.sh y3⟩
 have over:∀(j:Nat),args.length≤j→args.getD j vNone=vNone:=fun j hj=>by
  rw [zgd,List.getElem?_eq_none hj];rfl
 have hat5:=zn0 (I:=[]) (z8l h5)
 refine ⟨fun vs K=>vs=valVs (args.getD 0 vNone)∧K5=K,?_,fun g2=>?_,fun g2=>?_⟩
 rotate_left
 ·simp only [evs,evb,zdt] at g2
  obtain ⟨y1,y3⟩:=get 0 (by omega)
  refine ⟨fun _=>?_,valVs (args.getD 0 vNone),rfl,by simp only [evs,evb];exact y3,_,z00,rfl,rfl⟩
  simp only [Chk.holds,evs,evb];exact ⟨y1,by omega,by omega⟩
 ·simp only [evs,evb,zdf] at g2
  exact ⟨_,z00,by rw [over 0 (by omega)];rfl,rfl⟩
 rintro vs K _ ⟨rfl,rfl⟩
 simp only [cns]
 refine ⟨fun vs K=>vs=valVs (args.getD 1 vNone)∧K5=K,?_,fun g2=>?_,fun g2=>?_⟩
 rotate_left
 ·simp only [evs,evb,zdt] at g2
  obtain ⟨y1,y3⟩:=get 1 (by omega)
  refine ⟨fun _=>?_,valVs (args.getD 1 vNone),rfl,by simp only [evs,evb];exact y3,_,z00,rfl,rfl⟩
  simp only [Chk.holds,evs,evb];exact ⟨y1,by omega,by omega⟩
 ·simp only [evs,evb,zdf] at g2
  exact ⟨_,z00,by rw [over 1 (by omega)];rfl,rfl⟩
 rintro vs K _ ⟨rfl,rfl⟩
 simp only [cns]
 refine ⟨fun vs K=>vs=valVs (args.getD 2 vNone)∧K5=K,?_,fun g2=>?_,fun g2=>?_⟩
 rotate_left
 ·simp only [evs,evb,zdt] at g2
  obtain ⟨y1,y3⟩:=get 2 (by omega)
  refine ⟨fun _=>?_,valVs (args.getD 2 vNone),rfl,by simp only [evs,evb];exact y3,_,z00,rfl,rfl⟩
  simp only [Chk.holds,evs,evb];exact ⟨y1,by omega,by omega⟩
 ·simp only [evs,evb,zdf] at g2
  exact ⟨_,z00,by rw [over 2 (by omega)];rfl,rfl⟩
 rintro vs K _ ⟨rfl,rfl⟩
 simp only [cns]
 obtain ⟨A,hA⟩:∃A,args.getD 0 vNone=A:=⟨_,rfl⟩
 obtain ⟨B,hB⟩:∃B,args.getD 1 vNone=B:=⟨_,rfl⟩
 obtain ⟨C,hC⟩:∃C,args.getD 2 vNone=C:=⟨_,rfl⟩
 have fA:=hfit 0
 have fB:=hfit 1
 have fC:=hfit 2
 rw [hA] at fA
 rw [hB] at fB
 rw [hC] at fC
 simp only [hA,hB,hC]
 refine ⟨fun gg=>?_,fun gg=>?_⟩
 ·simp only [evs,evb,z03,zdt] at gg
  subst gg
  obtain rfl:([43],[1,1])=r:=Option.some.inj (Eq.trans (by kernel_rfl) hf)
  have q0:=z5o (hak.at_ (i:=0) (k:=1) rfl)
  have q1:=z5o (hak.at_ (i:=1) (k:=1) rfl)
  rw [hA] at q0
  rw [hB] at q1
  have hact:doX (hpX L) [43] args=z0b (hpX L) 0 A B:=by rw [hdo,←hA,←hB];rfl
  refine z02 z1g (z4l 0 (by omega) A B (hpX L) q0 q1 K5) ?_
  rintro x K6 ⟨rfl,l6⟩
  exact ⟨_,valVs (z0b (hpX L) 0 A B).2.1++[Value.int .i64 (z0b (hpX L) 0 A B).2.2],rfl,rfl,rfl,z01,stop (h5.le l6) (hact.trans (Prod.ext (z5g ..) rfl))⟩
 simp only [evs,evb,z03,zdf] at gg
 refine ⟨fun gg=>?_,fun gg=>?_⟩
 ·simp only [evs,evb,z03,zdt] at gg
  subst gg
  obtain rfl:([45],[1,1])=r:=Option.some.inj (Eq.trans (by kernel_rfl) hf)
  have q0:=z5o (hak.at_ (i:=0) (k:=1) rfl)
  have q1:=z5o (hak.at_ (i:=1) (k:=1) rfl)
  rw [hA] at q0
  rw [hB] at q1
  have hact:doX (hpX L) [45] args=z0b (hpX L) 1 A B:=by rw [hdo,←hA,←hB];rfl
  refine z02 z1g (z4l 1 (by omega) A B (hpX L) q0 q1 K5) ?_
  rintro x K6 ⟨rfl,l6⟩
  exact ⟨_,valVs (z0b (hpX L) 1 A B).2.1++[Value.int .i64 (z0b (hpX L) 1 A B).2.2],rfl,rfl,rfl,z01,stop (h5.le l6) (hact.trans (Prod.ext (z5g ..) rfl))⟩
 simp only [evs,evb,z03,zdf] at gg
 refine ⟨fun gg=>?_,fun gg=>?_⟩
 ·simp only [evs,evb,z03,zdt] at gg
  subst gg
  obtain rfl:([42],[1,1])=r:=Option.some.inj (Eq.trans (by kernel_rfl) hf)
  have q0:=z5o (hak.at_ (i:=0) (k:=1) rfl)
  have q1:=z5o (hak.at_ (i:=1) (k:=1) rfl)
  rw [hA] at q0
  rw [hB] at q1
  have hact:doX (hpX L) [42] args=z0b (hpX L) 2 A B:=by rw [hdo,←hA,←hB];rfl
  refine z02 z1g (z4l 2 (by omega) A B (hpX L) q0 q1 K5) ?_
  rintro x K6 ⟨rfl,l6⟩
  exact ⟨_,valVs (z0b (hpX L) 2 A B).2.1++[Value.int .i64 (z0b (hpX L) 2 A B).2.2],rfl,rfl,rfl,z01,stop (h5.le l6) (hact.trans (Prod.ext (z5g ..) rfl))⟩
 simp only [evs,evb,z03,zdf] at gg
 refine ⟨fun gg=>?_,fun gg=>?_⟩
 ·simp only [evs,evb,z03,zdt] at gg
  subst gg
  obtain rfl:([113,117,111,116,105,101,110,116],[1,1])=r:=Option.some.inj (Eq.trans (by kernel_rfl) hf)
  have q0:=z5o (hak.at_ (i:=0) (k:=1) rfl)
  have q1:=z5o (hak.at_ (i:=1) (k:=1) rfl)
  rw [hA] at q0
  rw [hB] at q1
  have hact:doX (hpX L) [113,117,111,116,105,101,110,116] args=z0b (hpX L) 3 A B:=by rw [hdo,←hA,←hB];rfl
  refine z02 z1g (z4l 3 (by omega) A B (hpX L) q0 q1 K5) ?_
  rintro x K6 ⟨rfl,l6⟩
  exact ⟨_,valVs (z0b (hpX L) 3 A B).2.1++[Value.int .i64 (z0b (hpX L) 3 A B).2.2],rfl,rfl,rfl,z01,stop (h5.le l6) (hact.trans (Prod.ext (z5g ..) rfl))⟩
 simp only [evs,evb,z03,zdf] at gg
 refine ⟨fun gg=>?_,fun gg=>?_⟩
 ·simp only [evs,evb,z03,zdt] at gg
  subst gg
  obtain rfl:([114,101,109,97,105,110,100,101,114],[1,1])=r:=Option.some.inj (Eq.trans (by kernel_rfl) hf)
  have q0:=z5o (hak.at_ (i:=0) (k:=1) rfl)
  have q1:=z5o (hak.at_ (i:=1) (k:=1) rfl)
  rw [hA] at q0
  rw [hB] at q1
  have hact:doX (hpX L) [114,101,109,97,105,110,100,101,114] args=z0b (hpX L) 4 A B:=by rw [hdo,←hA,←hB];rfl
  refine z02 z1g (z4l 4 (by omega) A B (hpX L) q0 q1 K5) ?_
  rintro x K6 ⟨rfl,l6⟩
  exact ⟨_,valVs (z0b (hpX L) 4 A B).2.1++[Value.int .i64 (z0b (hpX L) 4 A B).2.2],rfl,rfl,rfl,z01,stop (h5.le l6) (hact.trans (Prod.ext (z5g ..) rfl))⟩
 simp only [evs,evb,z03,zdf] at gg
 refine ⟨fun gg=>?_,fun gg=>?_⟩
 ·simp only [evs,evb,z03,zdt] at gg
  subst gg
  obtain rfl:([60],[1,1])=r:=Option.some.inj (Eq.trans (by kernel_rfl) hf)
  have hact:doX (hpX L) [60] args=(hpX L,z0c (decide (A.int < B.int)),0):=by rw [hdo,←hA,←hB];rfl
  refine z05 (valVs (z0c (decide (A.int < B.int)))) z0e (z1j (decide (A.int < B.int)) K5) rfl z01 fun K6 l6=>?_
  exact stop (h5.le l6) hact
 simp only [evs,evb,z03,zdf] at gg
 refine ⟨fun gg=>?_,fun gg=>?_⟩
 ·have gg:s=[61]∨s=[101,113,63]:=by
   simp only [evs,evb,z03] at gg
   by_cases e:s=[61]
   ·exact .inl e
   ·simp only [e,decide_false,Bool.false_eq_true,if_false,zdt] at gg;exact .inr gg
  rcases gg with rfl | rfl
  ·obtain rfl:([61],[1,1])=r:=Option.some.inj (Eq.trans (by kernel_rfl) hf)
   have hact:doX (hpX L) [61] args=(hpX L,z0c (decide (A=B)),0):=by rw [hdo,←hA,←hB];rfl
   refine zkg (a:=A) (b:=B) (by kernel_rfl) (by kernel_rfl) ?_
   refine z05 (valVs (z0c (decide (A=B)))) z0e (z1j (decide (A=B)) K5) rfl z01 fun K6 l6=>?_
   exact stop (h5.le l6) hact
  ·obtain rfl:([101,113,63],[-1,-1])=r:=Option.some.inj (Eq.trans (by kernel_rfl) hf)
   have hact:doX (hpX L) [101,113,63] args=(hpX L,z0c (decide (A=B)),0):=by rw [hdo,←hA,←hB];rfl
   refine zkg (a:=A) (b:=B) (by kernel_rfl) (by kernel_rfl) ?_
   refine z05 (valVs (z0c (decide (A=B)))) z0e (z1j (decide (A=B)) K5) rfl z01 fun K6 l6=>?_
   exact stop (h5.le l6) hact
 have gg:¬(s=[61]∨s=[101,113,63]):=by
  simp only [evs,evb,z03] at gg
  by_cases e:s=[61]
  ·simp [e] at gg
  ·simpa [e] using gg
 refine ⟨fun gg=>?_,fun gg=>?_⟩
 ·simp only [evs,evb,z03,zdt] at gg
  subst gg
  obtain rfl:([110,117,108,108,63],[-1])=r:=Option.some.inj (Eq.trans (by kernel_rfl) hf)
  have hact:doX (hpX L) [110,117,108,108,63] args=(hpX L,z0c (decide (A.kind=4)),0):=by rw [hdo,←hA];rfl
  refine z05 (valVs (z0c (decide (A.kind=4)))) z0e (z1j (decide (A.kind=4)) K5) rfl z01 fun K6 l6=>?_
  exact stop (h5.le l6) hact
 simp only [evs,evb,z03,zdf] at gg
 refine ⟨fun gg=>?_,fun gg=>?_⟩
 ·simp only [evs,evb,z03,zdt] at gg
  subst gg
  obtain rfl:([115,121,109,98,111,108,63],[-1])=r:=Option.some.inj (Eq.trans (by kernel_rfl) hf)
  have hact:doX (hpX L) [115,121,109,98,111,108,63] args=(hpX L,z0c (decide (A.kind=3)),0):=by rw [hdo,←hA];rfl
  refine z05 (valVs (z0c (decide (A.kind=3)))) z0e (z1j (decide (A.kind=3)) K5) rfl z01 fun K6 l6=>?_
  exact stop (h5.le l6) hact
 simp only [evs,evb,z03,zdf] at gg
 refine ⟨fun gg=>?_,fun gg=>?_⟩
 ·simp only [evs,evb,z03,zdt] at gg
  subst gg
  obtain rfl:([99,104,97,114,63],[-1])=r:=Option.some.inj (Eq.trans (by kernel_rfl) hf)
  have hact:doX (hpX L) [99,104,97,114,63] args=(hpX L,z0c (decide (A.kind=2)),0):=by rw [hdo,←hA];rfl
  refine z05 (valVs (z0c (decide (A.kind=2)))) z0e (z1j (decide (A.kind=2)) K5) rfl z01 fun K6 l6=>?_
  exact stop (h5.le l6) hact
 simp only [evs,evb,z03,zdf] at gg
 refine ⟨fun gg=>?_,fun gg=>?_⟩
 ·simp only [evs,evb,z03,zdt] at gg
  subst gg
  obtain rfl:([105,110,116,101,103,101,114,63],[-1])=r:=Option.some.inj (Eq.trans (by kernel_rfl) hf)
  have hact:doX (hpX L) [105,110,116,101,103,101,114,63] args=(hpX L,z0c (decide (A.kind=1)),0):=by rw [hdo,←hA];rfl
  refine z05 (valVs (z0c (decide (A.kind=1)))) z0e (z1j (decide (A.kind=1)) K5) rfl z01 fun K6 l6=>?_
  exact stop (h5.le l6) hact
 simp only [evs,evb,z03,zdf] at gg
 refine ⟨fun gg=>?_,fun gg=>?_⟩
 ·simp only [evs,evb,z03,zdt] at gg
  subst gg
  obtain rfl:([98,111,111,108,101,97,110,63],[-1])=r:=Option.some.inj (Eq.trans (by kernel_rfl) hf)
  have hact:doX (hpX L) [98,111,111,108,101,97,110,63] args=(hpX L,z0c (decide (A.kind=0)),0):=by rw [hdo,←hA];rfl
  refine z05 (valVs (z0c (decide (A.kind=0)))) z0e (z1j (decide (A.kind=0)) K5) rfl z01 fun K6 l6=>?_
  exact stop (h5.le l6) hact
 simp only [evs,evb,z03,zdf] at gg
 refine ⟨fun gg=>?_,fun gg=>?_⟩
 ·simp only [evs,evb,z03,zdt] at gg
  subst gg
  obtain rfl:([101,111,102,45,111,98,106,101,99,116,63],[-1])=r:=Option.some.inj (Eq.trans (by kernel_rfl) hf)
  have hact:doX (hpX L) [101,111,102,45,111,98,106,101,99,116,63] args=(hpX L,z0c (decide (A.kind=6)),0):=by rw [hdo,←hA];rfl
  refine z05 (valVs (z0c (decide (A.kind=6)))) z0e (z1j (decide (A.kind=6)) K5) rfl z01 fun K6 l6=>?_
  exact stop (h5.le l6) hact
 simp only [evs,evb,z03,zdf] at gg
 refine ⟨fun gg=>?_,fun gg=>?_⟩
 ·simp only [evs,evb,z03,zdt] at gg
  subst gg
  obtain rfl:([112,97,105,114,63],[-1])=r:=Option.some.inj (Eq.trans (by kernel_rfl) hf)
  have q0:=(hak.at_ (i:=0) (k:=-1) rfl).1
  rw [hA] at q0
  have hact:doX (hpX L) [112,97,105,114,63] args=(hpX L,z0c (decide (z0z (hpX L) A=0)),0):=by rw [hdo,←hA];rfl
  refine z05 [.int .i64 (z0z (hpX L) A)] z19 (z7w (hpX L) hr A q0 K5 hat5) rfl z01 fun K6 l6=>?_
  refine z05 (valVs (z0c (decide (z0z (hpX L) A=0)))) z0e (z1j (decide (z0z (hpX L) A=0)) K6) rfl z01 fun K7 l7=>?_
  exact stop (h5.le (PH.le_trans l6 l7)) hact
 simp only [evs,evb,z03,zdf] at gg
 refine ⟨fun gg=>?_,fun gg=>?_⟩
 ·simp only [evs,evb,z03,zdt] at gg
  subst gg
  obtain rfl:([118,101,99,116,111,114,63],[-1])=r:=Option.some.inj (Eq.trans (by kernel_rfl) hf)
  have q0:=(hak.at_ (i:=0) (k:=-1) rfl).1
  rw [hA] at q0
  have hact:doX (hpX L) [118,101,99,116,111,114,63] args=(hpX L,z0c (decide (z0z (hpX L) A=1)),0):=by rw [hdo,←hA];rfl
  refine z05 [.int .i64 (z0z (hpX L) A)] z19 (z7w (hpX L) hr A q0 K5 hat5) rfl z01 fun K6 l6=>?_
  refine z05 (valVs (z0c (decide (z0z (hpX L) A=1)))) z0e (z1j (decide (z0z (hpX L) A=1)) K6) rfl z01 fun K7 l7=>?_
  exact stop (h5.le (PH.le_trans l6 l7)) hact
 simp only [evs,evb,z03,zdf] at gg
 refine ⟨fun gg=>?_,fun gg=>?_⟩
 ·simp only [evs,evb,z03,zdt] at gg
  subst gg
  obtain rfl:([115,116,114,105,110,103,63],[-1])=r:=Option.some.inj (Eq.trans (by kernel_rfl) hf)
  have q0:=(hak.at_ (i:=0) (k:=-1) rfl).1
  rw [hA] at q0
  have hact:doX (hpX L) [115,116,114,105,110,103,63] args=(hpX L,z0c (decide (z0z (hpX L) A=2)),0):=by rw [hdo,←hA];rfl
  refine z05 [.int .i64 (z0z (hpX L) A)] z19 (z7w (hpX L) hr A q0 K5 hat5) rfl z01 fun K6 l6=>?_
  refine z05 (valVs (z0c (decide (z0z (hpX L) A=2)))) z0e (z1j (decide (z0z (hpX L) A=2)) K6) rfl z01 fun K7 l7=>?_
  exact stop (h5.le (PH.le_trans l6 l7)) hact
 simp only [evs,evb,z03,zdf] at gg
 refine ⟨fun gg=>?_,fun gg=>?_⟩
 ·simp only [evs,evb,z03,zdt] at gg
  subst gg
  obtain rfl:([112,114,111,99,101,100,117,114,101,63],[-1])=r:=Option.some.inj (Eq.trans (by kernel_rfl) hf)
  have q0:=(hak.at_ (i:=0) (k:=-1) rfl).1
  rw [hA] at q0
  have hact:doX (hpX L) [112,114,111,99,101,100,117,114,101,63] args=(hpX L,z0c (decide (z0z (hpX L) A=4)),0):=by rw [hdo,←hA];rfl
  refine z05 [.int .i64 (z0z (hpX L) A)] z19 (z7w (hpX L) hr A q0 K5 hat5) rfl z01 fun K6 l6=>?_
  refine z05 (valVs (z0c (decide (z0z (hpX L) A=4)))) z0e (z1j (decide (z0z (hpX L) A=4)) K6) rfl z01 fun K7 l7=>?_
  exact stop (h5.le (PH.le_trans l6 l7)) hact
 simp only [evs,evb,z03,zdf] at gg
 refine ⟨fun gg=>?_,fun gg=>?_⟩
 ·simp only [evs,evb,z03,zdt] at gg
  subst gg
  obtain rfl:([99,111,110,115],[-1,-1])=r:=Option.some.inj (Eq.trans (by kernel_rfl) hf)
  have hact:doX (hpX L) [99,111,110,115] args=((addX (hpX L) 0 args).1,(addX (hpX L) 0 args).2,0):=by rw [hdo];rfl
  have hlen:2=args.length:=hlen
  refine z02 z1v (zkr hr L thv 0 args (.slice ab args.length ac) S1 K5 h5 ha1 (by unfold InI;omega) hL (by omega)) ?_
  rintro x K6 ⟨S2,J2,l2,h2,rfl,L',thv',rfl,hh⟩
  refine ⟨_,valVs (addX (hpX L) 0 args).2,rfl,rfl,rfl,z01,?_⟩
  rw [hact]
  exact ⟨S2,_,PH.le_trans l1 l2,h2,rfl,L',thv',rfl,hh⟩
 simp only [evs,evb,z03,zdf] at gg
 refine ⟨fun gg=>?_,fun gg=>?_⟩
 ·simp only [evs,evb,z03,zdt] at gg
  subst gg
  obtain rfl:([37,98,111,120],[-1])=r:=Option.some.inj (Eq.trans (by kernel_rfl) hf)
  have hact:doX (hpX L) [37,98,111,120] args=((addX (hpX L) 3 args).1,(addX (hpX L) 3 args).2,0):=by rw [hdo];rfl
  have hlen:1=args.length:=hlen
  refine z02 z1v (zkr hr L thv 3 args (.slice ab args.length ac) S1 K5 h5 ha1 (by unfold InI;omega) hL (by omega)) ?_
  rintro x K6 ⟨S2,J2,l2,h2,rfl,L',thv',rfl,hh⟩
  refine ⟨_,valVs (addX (hpX L) 3 args).2,rfl,rfl,rfl,z01,?_⟩
  rw [hact]
  exact ⟨S2,_,PH.le_trans l1 l2,h2,rfl,L',thv',rfl,hh⟩
 simp only [evs,evb,z03,zdf] at gg
 refine ⟨fun gg=>?_,fun gg=>?_⟩
 ·simp only [evs,evb,z03,zdt] at gg
  subst gg
  obtain rfl:([109,97,107,101,45,118,101,99,116,111,114],[1,-1])=r:=Option.some.inj (Eq.trans (by kernel_rfl) hf)
  have hact:doX (hpX L) [109,97,107,101,45,118,101,99,116,111,114] args=z1i (hpX L) 1 A.int B:=by rw [hdo,←hA,←hB];rfl
  refine z02 z3x (znv hr L thv 1 A.int B S1 K5 h5 fB (by unfold InI;omega) hL) ?_
  rintro x K6 ⟨S2,J2,l2,h2,rfl,L',thv',rfl,hh⟩
  refine ⟨_,valVs (z1i (hpX L) 1 A.int B).2.1++[Value.int .i64 (z1i (hpX L) 1 A.int B).2.2],rfl,rfl,rfl,z01,?_⟩
  rw [hact]
  exact ⟨S2,_,PH.le_trans l1 l2,h2,rfl,L',thv',rfl,hh⟩
 simp only [evs,evb,z03,zdf] at gg
 refine ⟨fun gg=>?_,fun gg=>?_⟩
 ·simp only [evs,evb,z03,zdt] at gg
  subst gg
  obtain rfl:([109,97,107,101,45,115,116,114,105,110,103],[1,2])=r:=Option.some.inj (Eq.trans (by kernel_rfl) hf)
  have hact:doX (hpX L) [109,97,107,101,45,115,116,114,105,110,103] args=z1i (hpX L) 2 A.int B:=by rw [hdo,←hA,←hB];rfl
  refine z02 z3x (znv hr L thv 2 A.int B S1 K5 h5 fB (by unfold InI;omega) hL) ?_
  rintro x K6 ⟨S2,J2,l2,h2,rfl,L',thv',rfl,hh⟩
  refine ⟨_,valVs (z1i (hpX L) 2 A.int B).2.1++[Value.int .i64 (z1i (hpX L) 2 A.int B).2.2],rfl,rfl,rfl,z01,?_⟩
  rw [hact]
  exact ⟨S2,_,PH.le_trans l1 l2,h2,rfl,L',thv',rfl,hh⟩
 simp only [evs,evb,z03,zdf] at gg
 refine ⟨fun gg=>?_,fun gg=>?_⟩
 ·have gg:s=[118,101,99,116,111,114,45,108,101,110,103,116,104]∨s=[115,116,114,105,110,103,45,108,101,110,103,116,104]:=by
   simp only [evs,evb,z03] at gg
   by_cases e:s=[118,101,99,116,111,114,45,108,101,110,103,116,104]
   ·exact .inl e
   ·simp only [e,decide_false,Bool.false_eq_true,if_false,zdt] at gg;exact .inr gg
  rcases gg with rfl | rfl
  ·obtain rfl:([118,101,99,116,111,114,45,108,101,110,103,116,104],[11])=r:=Option.some.inj (Eq.trans (by kernel_rfl) hf)
   have q0:=z2b (by decide) (hak.at_ (i:=0) (k:=11) rfl)
   rw [hA] at q0
   have hact:doX (hpX L) [118,101,99,116,111,114,45,108,101,110,103,116,104] args=(hpX L,vNum ((hpX L).getD A.int.toNat default).parts.length,0):=by rw [hdo,←hA];rfl
   obtain ⟨thv5,hr5,hs5⟩:=hat5
   obtain ⟨tb,tc,rfl⟩:=hs5.sl
   obtain ⟨j,hj⟩:∃j:Nat,A.int=(j:Int):=⟨A.int.toNat,by omega⟩
   obtain ⟨t,ht⟩:∃t,(hpX L)[j]?=some t:=⟨_,zge (by omega)⟩
   obtain ⟨hsome,pv,h44,h55,h66⟩:=zfe hs5 ht
   have hgd:(hpX L).getD A.int.toNat default=t:=by rw [hj,Int.toNat_natCast,zgd,ht];rfl
   obtain ⟨pb,pc,rfl⟩:=h55.sl
   rw [hgd] at hact
   refine ⟨fun _=>by simp [Chk.holds,evs,evb],[.slice tb (hpX L).length tc],rfl,by simp only [evs,evb];exact hr5,fun _=>?_,[.slice pb t.parts.length pc],rfl,?_,?_⟩
   ·simp only [Chk.holds,evs,evb];exact ⟨hsome,by omega,by omega⟩
   ·simp only [evs,evb,hj];exact z6j h66
   refine z05 (valVs (vNum t.parts.length)) z2t (zgz t.parts.length K5) rfl z01 fun K6 l6=>?_
   exact stop (h5.le l6) hact
  ·obtain rfl:([115,116,114,105,110,103,45,108,101,110,103,116,104],[12])=r:=Option.some.inj (Eq.trans (by kernel_rfl) hf)
   have q0:=z2b (by decide) (hak.at_ (i:=0) (k:=12) rfl)
   rw [hA] at q0
   have hact:doX (hpX L) [115,116,114,105,110,103,45,108,101,110,103,116,104] args=(hpX L,vNum ((hpX L).getD A.int.toNat default).parts.length,0):=by rw [hdo,←hA];rfl
   obtain ⟨thv5,hr5,hs5⟩:=hat5
   obtain ⟨tb,tc,rfl⟩:=hs5.sl
   obtain ⟨j,hj⟩:∃j:Nat,A.int=(j:Int):=⟨A.int.toNat,by omega⟩
   obtain ⟨t,ht⟩:∃t,(hpX L)[j]?=some t:=⟨_,zge (by omega)⟩
   obtain ⟨hsome,pv,h44,h55,h66⟩:=zfe hs5 ht
   have hgd:(hpX L).getD A.int.toNat default=t:=by rw [hj,Int.toNat_natCast,zgd,ht];rfl
   obtain ⟨pb,pc,rfl⟩:=h55.sl
   rw [hgd] at hact
   refine ⟨fun _=>by simp [Chk.holds,evs,evb],[.slice tb (hpX L).length tc],rfl,by simp only [evs,evb];exact hr5,fun _=>?_,[.slice pb t.parts.length pc],rfl,?_,?_⟩
   ·simp only [Chk.holds,evs,evb];exact ⟨hsome,by omega,by omega⟩
   ·simp only [evs,evb,hj];exact z6j h66
   refine z05 (valVs (vNum t.parts.length)) z2t (zgz t.parts.length K5) rfl z01 fun K6 l6=>?_
   exact stop (h5.le l6) hact
 have gg:¬(s=[118,101,99,116,111,114,45,108,101,110,103,116,104]∨s=[115,116,114,105,110,103,45,108,101,110,103,116,104]):=by
  simp only [evs,evb,z03] at gg
  by_cases e:s=[118,101,99,116,111,114,45,108,101,110,103,116,104]
  ·simp [e] at gg
  ·simpa [e] using gg
 refine ⟨fun gg=>?_,fun gg=>?_⟩
 ·have gg:s=[99,97,114]∨s=[37,117,110,98,111,120]:=by
   simp only [evs,evb,z03] at gg
   by_cases e:s=[99,97,114]
   ·exact .inl e
   ·simp only [e,decide_false,Bool.false_eq_true,if_false,zdt] at gg;exact .inr gg
  rcases gg with rfl | rfl
  ·obtain rfl:([99,97,114],[10])=r:=Option.some.inj (Eq.trans (by kernel_rfl) hf)
   have q0:=z2b (by decide) (hak.at_ (i:=0) (k:=10) rfl)
   rw [hA] at q0
   have hact:doX (hpX L) [99,97,114] args=(hpX L,getX (hpX L) A 0):=by rw [hdo,←hA];rfl
   refine z02 z1c (zad (hpX L) hr A 0 q0 K5 hat5) ?_
   rintro x K6 ⟨rfl,l6⟩
   exact ⟨_,valVs (getX (hpX L) A 0).1++[Value.int .i64 (getX (hpX L) A 0).2],rfl,rfl,rfl,z01,stop (h5.le l6) hact⟩
  ·obtain rfl:([37,117,110,98,111,120],[13])=r:=Option.some.inj (Eq.trans (by kernel_rfl) hf)
   have q0:=z2b (by decide) (hak.at_ (i:=0) (k:=13) rfl)
   rw [hA] at q0
   have hact:doX (hpX L) [37,117,110,98,111,120] args=(hpX L,getX (hpX L) A 0):=by rw [hdo,←hA];rfl
   refine z02 z1c (zad (hpX L) hr A 0 q0 K5 hat5) ?_
   rintro x K6 ⟨rfl,l6⟩
   exact ⟨_,valVs (getX (hpX L) A 0).1++[Value.int .i64 (getX (hpX L) A 0).2],rfl,rfl,rfl,z01,stop (h5.le l6) hact⟩
 have gg:¬(s=[99,97,114]∨s=[37,117,110,98,111,120]):=by
  simp only [evs,evb,z03] at gg
  by_cases e:s=[99,97,114]
  ·simp [e] at gg
  ·simpa [e] using gg
 refine ⟨fun gg=>?_,fun gg=>?_⟩
 ·simp only [evs,evb,z03,zdt] at gg
  subst gg
  obtain rfl:([99,100,114],[10])=r:=Option.some.inj (Eq.trans (by kernel_rfl) hf)
  have q0:=z2b (by decide) (hak.at_ (i:=0) (k:=10) rfl)
  rw [hA] at q0
  have hact:doX (hpX L) [99,100,114] args=(hpX L,getX (hpX L) A 1):=by rw [hdo,←hA];rfl
  refine z02 z1c (zad (hpX L) hr A 1 q0 K5 hat5) ?_
  rintro x K6 ⟨rfl,l6⟩
  exact ⟨_,valVs (getX (hpX L) A 1).1++[Value.int .i64 (getX (hpX L) A 1).2],rfl,rfl,rfl,z01,stop (h5.le l6) hact⟩
 simp only [evs,evb,z03,zdf] at gg
 refine ⟨fun gg=>?_,fun gg=>?_⟩
 ·have gg:s=[118,101,99,116,111,114,45,114,101,102]∨s=[115,116,114,105,110,103,45,114,101,102]:=by
   simp only [evs,evb,z03] at gg
   by_cases e:s=[118,101,99,116,111,114,45,114,101,102]
   ·exact .inl e
   ·simp only [e,decide_false,Bool.false_eq_true,if_false,zdt] at gg;exact .inr gg
  rcases gg with rfl | rfl
  ·obtain rfl:([118,101,99,116,111,114,45,114,101,102],[11,1])=r:=Option.some.inj (Eq.trans (by kernel_rfl) hf)
   have q0:=z2b (by decide) (hak.at_ (i:=0) (k:=11) rfl)
   rw [hA] at q0
   have hact:doX (hpX L) [118,101,99,116,111,114,45,114,101,102] args=(hpX L,getX (hpX L) A B.int):=by rw [hdo,←hA,←hB];rfl
   refine z02 z1c (zad (hpX L) hr A B.int q0 K5 hat5) ?_
   rintro x K6 ⟨rfl,l6⟩
   exact ⟨_,valVs (getX (hpX L) A B.int).1++[Value.int .i64 (getX (hpX L) A B.int).2],rfl,rfl,rfl,z01,stop (h5.le l6) hact⟩
  ·obtain rfl:([115,116,114,105,110,103,45,114,101,102],[12,1])=r:=Option.some.inj (Eq.trans (by kernel_rfl) hf)
   have q0:=z2b (by decide) (hak.at_ (i:=0) (k:=12) rfl)
   rw [hA] at q0
   have hact:doX (hpX L) [115,116,114,105,110,103,45,114,101,102] args=(hpX L,getX (hpX L) A B.int):=by rw [hdo,←hA,←hB];rfl
   refine z02 z1c (zad (hpX L) hr A B.int q0 K5 hat5) ?_
   rintro x K6 ⟨rfl,l6⟩
   exact ⟨_,valVs (getX (hpX L) A B.int).1++[Value.int .i64 (getX (hpX L) A B.int).2],rfl,rfl,rfl,z01,stop (h5.le l6) hact⟩
 have gg:¬(s=[118,101,99,116,111,114,45,114,101,102]∨s=[115,116,114,105,110,103,45,114,101,102]):=by
  simp only [evs,evb,z03] at gg
  by_cases e:s=[118,101,99,116,111,114,45,114,101,102]
  ·simp [e] at gg
  ·simpa [e] using gg
 refine ⟨fun gg=>?_,fun gg=>?_⟩
 ·have gg:s=[115,101,116,45,99,97,114,33]∨s=[37,115,101,116,45,98,111,120,33]:=by
   simp only [evs,evb,z03] at gg
   by_cases e:s=[115,101,116,45,99,97,114,33]
   ·exact .inl e
   ·simp only [e,decide_false,Bool.false_eq_true,if_false,zdt] at gg;exact .inr gg
  rcases gg with rfl | rfl
  ·obtain rfl:([115,101,116,45,99,97,114,33],[10,-1])=r:=Option.some.inj (Eq.trans (by kernel_rfl) hf)
   have q0:=z2b (by decide) (hak.at_ (i:=0) (k:=10) rfl)
   rw [hA] at q0
   have hact:doX (hpX L) [115,101,116,45,99,97,114,33] args=putX (hpX L) A 0 B:=by rw [hdo,←hA,←hB];rfl
   refine z02 z1d (zeq hr L thv A 0 B S1 K5 h5 (by simpa [hpX] using q0) fB) ?_
   rintro x K6 ⟨S2,J2,l2,h2,rfl,L',thv',rfl,hh⟩
   refine ⟨_,valVs (putX (hpX L) A 0 B).2.1++[Value.int .i64 (putX (hpX L) A 0 B).2.2],rfl,rfl,rfl,z01,?_⟩
   rw [hact]
   exact ⟨S2,_,PH.le_trans l1 l2,h2,rfl,L',thv',rfl,hh⟩
  ·obtain rfl:([37,115,101,116,45,98,111,120,33],[13,-1])=r:=Option.some.inj (Eq.trans (by kernel_rfl) hf)
   have q0:=z2b (by decide) (hak.at_ (i:=0) (k:=13) rfl)
   rw [hA] at q0
   have hact:doX (hpX L) [37,115,101,116,45,98,111,120,33] args=putX (hpX L) A 0 B:=by rw [hdo,←hA,←hB];rfl
   refine z02 z1d (zeq hr L thv A 0 B S1 K5 h5 (by simpa [hpX] using q0) fB) ?_
   rintro x K6 ⟨S2,J2,l2,h2,rfl,L',thv',rfl,hh⟩
   refine ⟨_,valVs (putX (hpX L) A 0 B).2.1++[Value.int .i64 (putX (hpX L) A 0 B).2.2],rfl,rfl,rfl,z01,?_⟩
   rw [hact]
   exact ⟨S2,_,PH.le_trans l1 l2,h2,rfl,L',thv',rfl,hh⟩
 have gg:¬(s=[115,101,116,45,99,97,114,33]∨s=[37,115,101,116,45,98,111,120,33]):=by
  simp only [evs,evb,z03] at gg
  by_cases e:s=[115,101,116,45,99,97,114,33]
  ·simp [e] at gg
  ·simpa [e] using gg
 refine ⟨fun gg=>?_,fun gg=>?_⟩
 ·simp only [evs,evb,z03,zdt] at gg
  subst gg
  obtain rfl:([115,101,116,45,99,100,114,33],[10,-1])=r:=Option.some.inj (Eq.trans (by kernel_rfl) hf)
  have q0:=z2b (by decide) (hak.at_ (i:=0) (k:=10) rfl)
  rw [hA] at q0
  have hact:doX (hpX L) [115,101,116,45,99,100,114,33] args=putX (hpX L) A 1 B:=by rw [hdo,←hA,←hB];rfl
  refine z02 z1d (zeq hr L thv A 1 B S1 K5 h5 (by simpa [hpX] using q0) fB) ?_
  rintro x K6 ⟨S2,J2,l2,h2,rfl,L',thv',rfl,hh⟩
  refine ⟨_,valVs (putX (hpX L) A 1 B).2.1++[Value.int .i64 (putX (hpX L) A 1 B).2.2],rfl,rfl,rfl,z01,?_⟩
  rw [hact]
  exact ⟨S2,_,PH.le_trans l1 l2,h2,rfl,L',thv',rfl,hh⟩
 simp only [evs,evb,z03,zdf] at gg
 refine ⟨fun gg=>?_,fun gg=>?_⟩
 ·have gg:s=[118,101,99,116,111,114,45,115,101,116,33]∨s=[115,116,114,105,110,103,45,115,101,116,33]:=by
   simp only [evs,evb,z03] at gg
   by_cases e:s=[118,101,99,116,111,114,45,115,101,116,33]
   ·exact .inl e
   ·simp only [e,decide_false,Bool.false_eq_true,if_false,zdt] at gg;exact .inr gg
  rcases gg with rfl | rfl
  ·obtain rfl:([118,101,99,116,111,114,45,115,101,116,33],[11,1,-1])=r:=Option.some.inj (Eq.trans (by kernel_rfl) hf)
   have q0:=z2b (by decide) (hak.at_ (i:=0) (k:=11) rfl)
   rw [hA] at q0
   have hact:doX (hpX L) [118,101,99,116,111,114,45,115,101,116,33] args=putX (hpX L) A B.int C:=by rw [hdo,←hA,←hB,←hC];rfl
   refine z02 z1d (zeq hr L thv A B.int C S1 K5 h5 (by simpa [hpX] using q0) fC) ?_
   rintro x K6 ⟨S2,J2,l2,h2,rfl,L',thv',rfl,hh⟩
   refine ⟨_,valVs (putX (hpX L) A B.int C).2.1++[Value.int .i64 (putX (hpX L) A B.int C).2.2],rfl,rfl,rfl,z01,?_⟩
   rw [hact]
   exact ⟨S2,_,PH.le_trans l1 l2,h2,rfl,L',thv',rfl,hh⟩
  ·obtain rfl:([115,116,114,105,110,103,45,115,101,116,33],[12,1,2])=r:=Option.some.inj (Eq.trans (by kernel_rfl) hf)
   have q0:=z2b (by decide) (hak.at_ (i:=0) (k:=12) rfl)
   rw [hA] at q0
   have hact:doX (hpX L) [115,116,114,105,110,103,45,115,101,116,33] args=putX (hpX L) A B.int C:=by rw [hdo,←hA,←hB,←hC];rfl
   refine z02 z1d (zeq hr L thv A B.int C S1 K5 h5 (by simpa [hpX] using q0) fC) ?_
   rintro x K6 ⟨S2,J2,l2,h2,rfl,L',thv',rfl,hh⟩
   refine ⟨_,valVs (putX (hpX L) A B.int C).2.1++[Value.int .i64 (putX (hpX L) A B.int C).2.2],rfl,rfl,rfl,z01,?_⟩
   rw [hact]
   exact ⟨S2,_,PH.le_trans l1 l2,h2,rfl,L',thv',rfl,hh⟩
 have gg:¬(s=[118,101,99,116,111,114,45,115,101,116,33]∨s=[115,116,114,105,110,103,45,115,101,116,33]):=by
  simp only [evs,evb,z03] at gg
  by_cases e:s=[118,101,99,116,111,114,45,115,101,116,33]
  ·simp [e] at gg
  ·simpa [e] using gg
 refine ⟨fun gg=>?_,fun gg=>?_⟩
 ·simp only [evs,evb,z03,zdt] at gg
  subst gg
  obtain rfl:([99,104,97,114,45,62,105,110,116,101,103,101,114],[2])=r:=Option.some.inj (Eq.trans (by kernel_rfl) hf)
  have hact:doX (hpX L) [99,104,97,114,45,62,105,110,116,101,103,101,114] args=(hpX L,vNum A.int,0):=by rw [hdo,←hA];rfl
  refine z05 (valVs (vNum A.int)) z2t (zgz A.int K5) rfl z01 fun K6 l6=>?_
  exact stop (h5.le l6) hact
 simp only [evs,evb,z03,zdf] at gg
 refine ⟨fun gg=>?_,fun gg=>?_⟩
 ·simp only [evs,evb,z03,zdt] at gg
  subst gg
  obtain rfl:([105,110,116,101,103,101,114,45,62,99,104,97,114],[1])=r:=Option.some.inj (Eq.trans (by kernel_rfl) hf)
  have hact:doX (hpX L) [105,110,116,101,103,101,114,45,62,99,104,97,114] args=(if A.int < 0∨255 < A.int then (hpX L,vNone,83) else (hpX L,⟨2,A.int,[]⟩,0)):=by rw [hdo,←hA];rfl
  refine ⟨fun g3=>?_,fun g3=>?_⟩
  ·simp only [evs,evb] at g3
   simp only [Bool.or_eq_true,zdt] at g3
   exact stop h5 (hact.trans (if_pos (by omega)))
  ·simp only [evs,evb] at g3
   simp only [Bool.or_eq_false_iff,zdf] at g3
   exact stop h5 (hact.trans (if_neg (by omega)))
 simp only [evs,evb,z03,zdf] at gg
 refine ⟨fun gg=>?_,fun gg=>?_⟩
 ·simp only [evs,evb,z03,zdt] at gg
  subst gg
  obtain rfl:([37,117,110,115,101,116],[])=r:=Option.some.inj (Eq.trans (by kernel_rfl) hf)
  have hact:doX (hpX L) [37,117,110,115,101,116] args=(hpX L,⟨7,0,[]⟩,0):=by rw [hdo];rfl
  exact stop h5 hact
 simp only [evs,evb,z03,zdf] at gg
 have hact:doX (hpX L) s args=(hpX L,vVoid,0):=by
  rw [hdo]
  unfold actX
  simp only
  repeat' (first | rfl | rw [if_neg (by assumption)])
 exact stop h5 hact
def nameX (k:Int):List UInt8:=if k=5 then [118,111,105,100] else if k=6 then [101,111,102] else [117,110,115,101,116]
def downX (deep:Int) (pair:Bool) (i:Nat):Int:=if pair && decide (i=1) then deep else deep+1
def z3k (tell:VX→Int→Int→Dat×Int×Bool) (deep:Int) (pair:Bool):List VX→Nat→Int→List Dat→List Dat×Int×Bool
 | [],_,seen,acc=>(acc,seen,true)
 | v::l,i,seen,acc=>
  let r:=tell v (downX deep pair i) seen
  if r.2.2 then z3k tell deep pair l (i+1) r.2.1 (acc++[r.1]) else (acc,r.2.1,false)
def zb4 (h:HX) (tell:VX→Int→Int→Dat×Int×Bool) (v:VX) (deep seen:Int):Dat×Int×Bool:=
 if 200≤seen∨32 < deep then (dat0,seen,false)
 else if v.kind=1∨v.kind=2 then (.mk v.kind v.int [] [],seen+1,true)
 else if v.kind=3 then (.mk 4 0 v.text [],seen+1,true)
 else if v.kind=4 then (.mk 5 0 [] [],seen+1,true)
 else if v.kind=5∨v.kind=6∨v.kind=7 then (.mk 4 0 (nameX v.kind) [],seen+1,true)
 else if v.kind=0 then (.mk 0 v.int [] [],seen+1,true)
 else
  let t:=h.getD v.int.toNat default
  if t.kind=3 then (.mk 4 0 [98,111,120] [],seen+1,true)
  else if t.kind=4 then (.mk 4 0 [112,114,111,99,101,100,117,114,101] [],seen+1,true)
  else if t.kind=2 then (.mk 3 0 (t.parts.map fun p=>z2z p.int) [],seen+1,true)
  else
   let r:=z3k tell deep (decide (t.kind=0)) t.parts 0 (seen+1) []
   if r.2.2 then (if t.kind=0 then makeD (r.1.take 1) (r.1.getD 1 dat0) else .mk 7 0 [] r.1,r.2.1,true) else (dat0,r.2.1,false)
def tellX (h:HX):Nat→VX→Int→Int→Dat×Int×Bool
 | 0=>fun _ _ seen=>(dat0,seen,false)
 | f+1=>zb4 h (tellX h f)
def tellV (h:HX) (v:VX):Dat×Bool:=
 if !mayV h.length v then (dat0,false) else let r:=tellX h 200 v 0 0;if r.2.2 then (r.1,true) else (dat0,false)
def z0r (d:Dat):VX:=
 if (d.chk 0 0).2≠0 then vNone
 else if d.kind=0∨d.kind=1∨d.kind=2 then ⟨d.kind,d.int,[]⟩
 else if d.kind=4 then ⟨3,0,d.text⟩
 else if d.kind=5∧d.list.isEmpty=true then ⟨4,0,[]⟩
 else vNone
def FewR (seen:Int) (r:Dat×Int×Bool):Prop:=seen≤r.2.1∧r.2.1≤200∧(r.2.2=true→(r.1.cnt:Int)≤r.2.1 - seen)
def FewT (tell:VX→Int→Int→Dat×Int×Bool):Prop:=∀v deep seen,0≤seen→seen≤200→FewR seen (tell v deep seen)
theorem zpg {tell:VX→Int→Int→Dat×Int×Bool} (ht:FewT tell) (deep:Int) (pair:Bool):∀(l:List VX) (i:Nat) (seen:Int) (acc:List Dat),0≤seen→seen≤200 →
  seen≤(z3k tell deep pair l i seen acc).2.1∧(z3k tell deep pair l i seen acc).2.1≤200∧((z3k tell deep pair l i seen acc).2.2=true→(z3k tell deep pair l i seen acc).1.length=acc.length+l.length∧(Dats.cnt (z3k tell deep pair l i seen acc).1:Int)≤Dats.cnt acc+((z3k tell deep pair l i seen acc).2.1 - seen))
 | [],i,seen,acc,h0,h1=>by simp only [z3k];exact ⟨Int.le_refl _,h1,fun _=>⟨by simp,by omega⟩⟩
 | v::l,i,seen,acc,h0,h1=>by
  obtain ⟨t1,t2,t3⟩:=ht v (downX deep pair i) seen h0 h1
  simp only [z3k]
  split
  ·rename_i hr
   obtain ⟨q1,q2,q3⟩:=zpg ht deep pair l (i+1) _ (acc++[(tell v (downX deep pair i) seen).1]) (by omega) t2
   refine ⟨by omega,q2,fun hok=>?_⟩
   obtain ⟨q4,q5⟩:=q3 hok
   have t4:=t3 hr
   refine ⟨by rw [q4];simp;omega,?_⟩
   rw [Dats.cnt_append] at q5
   simp only [Dats.cnt] at q5
   omega
  ·exact ⟨t1,t2,fun hh=>by cases hh⟩
theorem Z0i (a b:Dat):(makeD [a] b).cnt≤1+a.cnt+b.cnt:=by
 unfold makeD
 rw [if_neg (by simp)]
 have hb:=Dat.cnt_eq b
 split
 ·simp only [Dat.cnt,List.cons_append,List.nil_append,Dats.cnt];omega
 ·simp only [Dat.cnt,List.cons_append,List.nil_append,Dats.cnt];omega
theorem Z0o {α:Type} {l:List α} (h:l.length=2):∃a b,l=[a,b]:=by
 match l,h with
 | [a,b],_=>exact ⟨a,b,rfl⟩
theorem z9a {seen k n:Int} {t:List UInt8} (hs:seen < 200):FewR seen (.mk k n t [],seen+1,true):=by
 unfold FewR
 simp only [Dat.cnt,Dats.cnt];omega
theorem z6s {seen:Int} {p:Prop} [Decidable p] {a b:Dat×Int×Bool} (ha:p→FewR seen a) (hb:¬p→FewR seen b):FewR seen (if p then a else b):=by
 by_cases h:p
 ·rw [if_pos h];exact ha h
 ·rw [if_neg h];exact hb h
theorem zvx {h:HX} (ok:HeapOk h) {tell:VX→Int→Int→Dat×Int×Bool} (hfew:FewT tell):FewT (zb4 h tell):=by
 intro v deep seen h0 h1
 unfold zb4
 refine z6s (fun _=>⟨Int.le_refl _,h1,fun hh=>by cases hh⟩) fun hs=>?_
 have hs:seen < 200:=by omega
 refine z6s (fun _=>z9a hs) fun _=>z6s (fun _=>z9a hs) fun _=>z6s (fun _=>z9a hs) fun _=>z6s (fun _=>z9a hs) fun _=>z6s (fun _=>z9a hs) fun _=>?_
 refine z6s (fun _=>z9a hs) fun _=>z6s (fun _=>z9a hs) fun _=>z6s (fun _=>z9a hs) fun _=>?_
 generalize ht:h.getD v.int.toNat default=t
 have hin:t∈h∨t=default:=by
  rw [←ht,zgd]
  cases hx:h[v.int.toNat]? with
  | none=>exact .inr rfl
  | some t=>exact .inl (List.mem_of_getElem? hx)
 obtain ⟨q1,q2,q3⟩:=zpg hfew deep (decide (t.kind=0)) t.parts 0 (seen+1) [] (by omega) (by omega)
 generalize hr:z3k tell deep (decide (t.kind=0)) t.parts 0 (seen+1) []=r at q1 q2 q3 ⊢
 obtain ⟨l,seen',okk⟩:=r
 cases okk with
 | false=>
  simp only at q1
  exact ⟨by show seen≤seen';omega,q2,fun hh=>by cases hh⟩
 | true=>
  obtain ⟨q4,q5⟩:=q3 rfl
  simp only [Dats.cnt,List.length_nil,Nat.zero_add] at q1 q2 q4 q5
  simp only [if_true]
  refine ⟨by show seen≤seen';omega,q2,fun _=>?_⟩
  show ((if t.kind=0 then makeD (l.take 1) (l.getD 1 dat0) else Dat.mk 7 0 [] l).cnt:Int)≤seen' - seen
  split
  ·rename_i hk
   rcases hin with hin | rfl
   ·rw [ok.pair _ hin hk] at q4
    obtain ⟨a,b,rfl⟩:=Z0o q4
    have:=Z0i a b
    simp only [List.take_succ_cons,List.take_zero,List.getD_cons_succ,List.getD_cons_zero]
    simp only [Dats.cnt] at q5
    omega
   ·obtain rfl:l=[]:=List.length_eq_zero_iff.1 q4
    simp only [List.take_nil,List.getD_nil,makeD,List.length_nil,if_true,dat0,Dat.cnt,Dats.cnt]
    omega
  ·simp only [Dat.cnt];omega
theorem zs4 {h:HX} (ok:HeapOk h):∀f,FewT (tellX h f)
 | 0=>fun v deep seen h0 h1=>⟨Int.le_refl _,h1,fun hh=>by cases hh⟩
 | f+1=>zvx ok (zs4 ok f)
theorem zcp {P:Program} {X:List PanicEntry→PH→Prop} {β:Type} {E:List Value} {H:PH} {L:LK} {K:β→List Value→PH→LK→Prop} {s t e ty:TypeId} {x:Operand} {args:List (Nat×VE)} {pend:List (SV×List SV)} {k:Fm β} {l:List UInt8} {v:Value}
  (hs:P.underlying s=some (.slice e)) (ht:P.underlying t=some .string) (he:P.underlying e=some (.int .u8)) (hx:argEv E args x=v) (h:SlR H l v) (hp:z0l E H pend) (hk:den P X k (E++[txt l]) H L K) :
  den P X (.sem (.convert s t x) ty args (.sc .str) pend k) E H L K:=by
 show wpS P (execOp (argEv E args) (bare _ ty)) _ _ H
 rw [zuw,hx]
 rcases (SlR.mk_iff.1 h).2 with ⟨rfl,rfl⟩ | ⟨a,c,rfl,h1,h2,h3⟩
 ·exact zrg hs ht he ⟨[_],rfl,rfl,hp,hk⟩
 ·refine zzr hs ht he (fun j u hu=>?_) ⟨[_],rfl,rfl,hp,hk⟩
  rw [List.getElem?_map] at hu
  cases hb:l[j]? with
  | none=>rw [hb] at hu;cases hu
  | some b=>
   rw [hb] at hu
   obtain ⟨cs,h4,h5⟩:=RepRows.get h3 hb
   obtain ⟨v1,_,rfl,h6,rfl⟩:=h4
   have:=h5 0 v1 rfl
   have e1:v1=.int .u8 (b.toNat:Int):=h6.1
   rw [e1] at this
   cases hu
   have e2:(a.add (j * sz UInt8)).add 0=a.add j:=by
    show Addr.add (Addr.add a (j * 1)) 0=a.add j
    simp [Addr.add]
   rw [e2] at this
   exact this
theorem zlq:ElemOk Tryz.prog 5 1 1=true:=by kernel_rfl
theorem Z61:Tryz.prog.underlying 155=some (.slice 9):=by kernel_rfl
theorem Z4c:ElemOk Tryz.prog 9 1 16=true:=by kernel_rfl
theorem Z66 {H:PH} {l:List UInt8} {cs:List Value} (h:CsR H l cs):cs=[txt l]∧l.length≤maxLen:=by
 obtain ⟨v,rest,rfl,h1,rfl⟩:=h
 rw [zfq] at h1
 exact ⟨by rw [h1.1],h1.2⟩
theorem zy3 (H:PH) (b:UInt8):CsR H b [.int .u8 (b.toNat:Int)]:=⟨_,_,rfl,⟨rfl,by
 show (0:Int)≤_∧_≤(255:Int)
 have:=b.toNat_lt
 omega⟩,rfl⟩
theorem zc4 {H:PH} {l:List UInt8} (h:l.length≤maxLen):CsR H l (txt l).cells.toList:=⟨_,_,rfl,⟨rfl,h⟩,rfl⟩
def namesL:List (List UInt8):=[[],[],[],[],[],[118,111,105,100],[101,111,102],[117,110,115,101,116]]
def TellE (r:Dat×Int×Bool) (e:Ending) (S:PH):Prop:=∃cs,e=.returned (.tuple #[.agg cs.toArray,.int .i64 r.2.1,.bool r.2.2])∧r.1.Rep S cs
theorem z26 {k n:Int} {t:List UInt8} {seen seen':Int} {ok:Bool} {S:PH} (hk:InI k) (hn:InI n) (ht:t.length≤maxLen) (hs:seen'=seen):TellE (.mk k n t [],seen,ok) (.returned (.tuple #[.agg #[.int .i64 k,.int .i64 n,txt t,.slice none 0 0],.int .i64 seen',.bool ok])) S:=
 ⟨_,by rw [hs],zfa hk hn ht⟩
theorem Z39 {α:Type} {l:List α} (h:l.length=8):∃a b c d e f g i,l=[a,b,c,d,e,f,g,i]:=by
 match l,h with
 | [a,b,c,d,e,f,g,i],_=>exact ⟨a,b,c,d,e,f,g,i,rfl⟩
theorem Z1v (h:HX) (hr:Nat) (ok:HeapOk h):∀(f:Nat) (v:VX) (deep seen:Int) (H:PH),HeapAt H hr h→VFit v→mayV h.length v=true→0≤seen→seen≤200→200 - seen≤f→0≤deep→deep≤33 →
  Tri Tryz.prog z4w #[pAt hr,valV v,.int .i64 deep,.int .i64 seen] H fun e H'=>PH.le H H'∧TellE (tellX h f v deep seen) e H':=by
 intro f
 induction f with
 | zero=>
  intro v deep seen H hh hv hm h0 h1 h2 h3 h4
  refine z4c ([pAt hr]++valVs v++[.int .i64 deep,.int .i64 seen]) (by kernel_rfl) (by kernel_rfl) ?_
  simp only [cns]
  refine ⟨fun g=>⟨PH.le_refl _,z26 (k:=0) (n:=0) (t:=[]) (by decide) (by decide) (by decide) rfl⟩,fun g=>?_⟩
  exfalso
  simp only [evs,evb] at g
  simp only [Bool.or_eq_false_iff,zdf,ge_iff_le] at g
  omega
 | succ f ih=>
  intro v deep seen H hh hv hm h0 h1 h2 h3 h4
  have hfew:=zs4 ok f
  have hmx:maxLen=9223372036854775807:=rfl
  show Tri _ _ _ _ fun e H'=>PH.le H H'∧TellE (zb4 h (tellX h f) v deep seen) e H'
  refine z4c ([pAt hr]++valVs v++[.int .i64 deep,.int .i64 seen]) (by kernel_rfl) (by kernel_rfl) ?_
  simp only [cns]
  generalize hT:zb4 h (tellX h f) v deep seen=T
  unfold zb4 at hT
  refine ⟨fun g=>?_,fun g=>?_⟩
  ·simp only [evs,evb] at g
   simp only [Bool.or_eq_true,zdt,ge_iff_le,gt_iff_lt] at g
   rw [if_pos g] at hT
   rw [←hT]
   exact ⟨PH.le_refl _,z26 (k:=0) (n:=0) (t:=[]) (by decide) (by decide) (by decide) rfl⟩
  simp only [evs,evb] at g
  simp only [Bool.or_eq_false_iff,zdf,ge_iff_le,gt_iff_lt] at g
  rw [if_neg (by omega)] at hT
  have hw1:IntKind.i64.wrap (seen+1)=seen+1:=w64 (by omega) (by omega)
  refine zxm (l:=namesL) (b:=16) (namesL.map txt) Z61 Z4c rfl (by decide) (by decide) (by kernel_rfl) ?_ z01 fun nv H1 a1 l1 _=>?_
  ·exact .cons (zc4 (by decide)) (.cons (zc4 (by decide)) (.cons (zc4 (by decide)) (.cons (zc4 (by decide)) (.cons (zc4 (by decide)) (.cons (zc4 (by decide)) (.cons (zc4 (by decide)) (.cons (zc4 (by decide)) .nil)))))))
  simp only [cns]
  refine ⟨fun g1=>?_,fun g1=>?_⟩
  ·have g1:v.kind=1∨v.kind=2:=by
    simp only [evs,evb] at g1
    by_cases e:v.kind=1
    ·exact .inl e
    ·simp only [e,decide_false,Bool.false_eq_true,if_false,zdt] at g1;exact .inr g1
   rw [if_pos g1] at hT
   rw [←hT]
   exact ⟨l1,z26 (t:=[]) hv.1 hv.2.1 (by decide) hw1⟩
  have g1:¬(v.kind=1∨v.kind=2):=by
   simp only [evs,evb] at g1
   by_cases e:v.kind=1
   ·simp [e] at g1
   ·simpa [e] using g1
  rw [if_neg g1] at hT
  refine ⟨fun g2=>?_,fun g2=>?_⟩
  ·simp only [evs,evb,zdt] at g2
   rw [if_pos g2] at hT
   rw [←hT]
   exact ⟨l1,z26 (k:=4) (n:=0) (by decide) (by decide) hv.2.2 hw1⟩
  simp only [evs,evb,zdf] at g2
  rw [if_neg g2] at hT
  refine ⟨fun g3=>?_,fun g3=>?_⟩
  ·simp only [evs,evb,zdt] at g3
   rw [if_pos g3] at hT
   rw [←hT]
   exact ⟨l1,z26 (k:=5) (n:=0) (t:=[]) (by decide) (by decide) (by decide) hw1⟩
  simp only [evs,evb,zdf] at g3
  rw [if_neg g3] at hT
  refine ⟨fun vs K=>vs=[.bool (decide (v.kind=5∨v.kind=6∨v.kind=7))]∧H1=K,?_,fun g4=>?_,fun g4=>?_⟩
  rotate_left
  ·simp only [evs,evb,zdt] at g4
   exact ⟨_,z00,by simp [evs,evb,g4],rfl⟩
  ·simp only [evs,evb,zdf] at g4
   refine ⟨_,z00,?_,rfl⟩
   by_cases e6:v.kind=6<;>by_cases e7:v.kind=7<;>simp [evs,evb,g4,e6,e7]
  rintro vs K _ ⟨rfl,rfl⟩
  simp only [cns]
  refine ⟨fun g4=>?_,fun g4=>?_⟩
  ·simp only [evs,evb,zdt] at g4
   rw [if_pos g4] at hT
   rw [←hT]
   obtain ⟨k,hk,hn⟩:∃k:Nat,v.kind=(k:Int)∧namesL[k]?=some (nameX v.kind):=by
    rcases g4 with e | e | e
    ·exact ⟨5,e,by rw [e];rfl⟩
    ·exact ⟨6,e,by rw [e];rfl⟩
    ·exact ⟨7,e,by rw [e];rfl⟩
   have hsl:=a1.slR
   obtain ⟨nb,nc,rfl⟩:=hsl.sl
   obtain ⟨x1,_,cs,x2,x3⟩:=hsl.get hn
   obtain ⟨rfl,x4⟩:=Z66 x2
   refine ⟨fun _=>?_,[txt (nameX v.kind)],rfl,?_,?_⟩
   ·simp only [Chk.holds,evs,evb];exact ⟨x1,by omega,by show v.kind < 8;omega⟩
   ·rw [←hk] at x3;simp only [evs,evb];exact x3
   exact ⟨l1,z26 (k:=4) (n:=0) (by decide) (by decide) x4 hw1⟩
  simp only [evs,evb,zdf] at g4
  rw [if_neg g4] at hT
  refine ⟨fun g5=>?_,fun g5=>?_⟩
  ·simp only [evs,evb,zdt] at g5
   rw [if_pos g5] at hT
   rw [←hT]
   exact ⟨l1,z26 (k:=0) (t:=[]) (by decide) hv.2.1 (by decide) hw1⟩
  simp only [evs,evb,zdf] at g5
  rw [if_neg g5] at hT
  have h8:v.kind=8:=by
   have e1:¬v.kind=1:=fun e=>g1 (.inl e)
   have e2:¬v.kind=2:=fun e=>g1 (.inr e)
   have e5:¬v.kind=5:=by omega
   have e6:¬v.kind=6:=by omega
   have e7:¬v.kind=7:=by omega
   by_cases e:v.kind=8
   ·exact e
   ·exfalso
    simp [mayV,g5,e1,e2,g2,g3,e5,e6,e7,e] at hm
  have hin:=zy5 hm h8
  obtain ⟨thv,hr1,hs⟩:=hh.le l1
  obtain ⟨tb,tc,rfl⟩:=hs.sl
  obtain ⟨i,hi⟩:∃i:Nat,v.int=(i:Int):=⟨v.int.toNat,by omega⟩
  obtain ⟨t,ht⟩:∃t,h[i]?=some t:=⟨_,zge (by omega)⟩
  have hgd:h.getD v.int.toNat default=t:=by rw [hi,Int.toNat_natCast,zgd,ht];rfl
  have htm:t∈h:=List.mem_of_getElem? ht
  rw [hgd] at hT
  obtain ⟨hsome,pv,q4,q5,q6⟩:=zfe hs ht
  obtain ⟨pb,pc,rfl⟩:=q5.sl
  have hfewp:=ok.few t htm
  refine ⟨fun _=>by simp [Chk.holds,evs,evb],[.slice tb h.length tc],rfl,by simp only [evs,evb];exact hr1,fun _=>?_,[.int .i64 t.kind,.slice pb t.parts.length pc],rfl,?_,?_⟩
  ·simp only [Chk.holds,evs,evb];exact ⟨hsome,by omega,by omega⟩
  ·simp only [evs,evb,hi];exact q6
  simp only [cns]
  refine ⟨fun g6=>?_,fun g6=>?_⟩
  ·simp only [evs,evb,zdt] at g6
   rw [if_pos g6] at hT
   rw [←hT]
   exact ⟨l1,z26 (k:=4) (n:=0) (t:=[98,111,120]) (by decide) (by decide) (by decide) hw1⟩
  simp only [evs,evb,zdf] at g6
  rw [if_neg g6] at hT
  refine ⟨fun g7=>?_,fun g7=>?_⟩
  ·simp only [evs,evb,zdt] at g7
   rw [if_pos g7] at hT
   rw [←hT]
   exact ⟨l1,z26 (k:=4) (n:=0) (t:=[112,114,111,99,101,100,117,114,101]) (by decide) (by decide) (by decide) hw1⟩
  simp only [evs,evb,zdf] at g7
  rw [if_neg g7] at hT
  have hK1:Held H1 H1 []:=Held.nil (PH.le_refl _)
  refine ⟨fun g8=>?_,fun g8=>?_⟩
  ·simp only [evs,evb,zdt] at g8
   rw [if_pos g8] at hT
   rw [←hT]
   refine z1p (α:=UInt8) (b:=1) ziv zlq hK1 z01 fun v11 K2 k2 _ _=>?_
   simp only [cns]
   refine ⟨fun n vs K=>∃(k:Nat) (u:Value) (S1:PH),k+n=t.parts.length∧vs=[u,nI k]∧PH.le H1 S1∧Held S1 K [orow 5 ((t.parts.take k).map fun p=>z2z p.int) u],⟨t.parts.length,0,v11,H1,by omega,rfl,PH.le_refl _,k2⟩,?_⟩
   rintro n vs K3 _ ⟨k,u,S1,hkn,rfl,ls,k3⟩
   simp only [cns]
   obtain ⟨ub,uc,hu⟩:=(k3.row (zms)).sl
   refine ⟨fun g9=>?_,fun g9=>?_⟩
   ·simp only [evs,evb,zdt] at g9
    obtain ⟨p,hp⟩:∃p,t.parts[k]?=some p:=⟨_,zge (by omega)⟩
    obtain ⟨y1,_,cs,y2,y3⟩:=q5.get hp
    obtain ⟨rfl,y4⟩:=z2r y2
    refine ⟨fun _=>?_,[.int .i64 p.int],rfl,?_,?_⟩
    ·simp only [Chk.holds,evs,evb];exact ⟨y1,by omega,by omega⟩
    ·simp only [evs,evb];exact z06 (PH.le_trans ls k3.sh) (z0a y3 1 1)
    simp only [cns]
    refine z0m (b:=1) (more:=[z2z p.int]) [.int .u8 ((z2z p.int).toNat:Int)] ziv zlq rfl (by decide) (by decide) k3 ?_ (.cons (zy3 _ _) .nil) z01 (fun w=>by kernel_rfl) (fun w=>by kernel_rfl)
     (by simp only [List.length_map,List.length_take,zlc,List.length_nil];omega) (by simp only [List.length_map,List.length_take,zlc,List.length_nil];omega) fun w v7 S7 K7 l7 h7=>⟨z01,?_⟩
    ·rw [←Z2g];kernel_rfl
    refine ⟨_,z00,n - 1,by omega,k+1,v7,S7,by omega,?_,PH.le_trans ls l7,?_⟩
    ·have hw:IntKind.i64.wrap ((k:Int)+1)=((k+1:Nat):Int):=by rw [w64 (by omega) (by omega)];rfl
     simp only [evs,evb,hw]
    ·rw [List.take_add_one,hp,List.map_append];exact h7
   ·simp only [evs,evb,zdf] at g9
    obtain ⟨S2,s2,l2,k4⟩:=k3.freeze
    rw [List.take_of_length_le (by omega)] at s2
    refine zcp ziv zej uByte (by kernel_rfl) (s2.le k4.sh) z01 ?_
    exact ⟨PH.le_trans l1 (PH.le_trans ls k3.sh),z26 (k:=3) (n:=0) (by decide) (by decide) (by rw [List.length_map];omega) hw1⟩
  simp only [evs,evb,zdf] at g8
  rw [if_neg g8] at hT
  refine z1p (α:=Dat) (b:=56) uDats zei hK1 z01 fun v11 K2 k2 _ _=>?_
  simp only [cns]
  refine ⟨fun n vs K=>∃(k:Nat) (u:Value) (S1:PH) (acc:List Dat) (seen':Int) (xs:List Value),k+n=t.parts.length∧vs=[.int .i64 seen',.int .i64 0,.bool false,u,.bool true,nI k]++xs∧xs.length=8∧PH.le H1 S1∧Held S1 K [orow 39 acc u]∧acc.length=k∧(Dats.cnt acc:Int)≤seen' - (seen+1)∧seen+1≤seen'∧seen'≤200 ∧
   z3k (tellX h f) deep (decide (t.kind=0)) t.parts 0 (seen+1) []=z3k (tellX h f) deep (decide (t.kind=0)) (t.parts.drop k) k seen' acc,
   ⟨t.parts.length,0,v11,H1,[],seen+1,_,by omega,by simp only [evs,evb,hw1];rfl,rfl,PH.le_refl _,k2,rfl,by simp [Dats.cnt],by omega,by omega,rfl⟩,?_⟩
  rintro n vs K3 _ ⟨k,u,S1,acc,seen',xs,hkn,rfl,hxs,ls,k3,hal,hcnt,hs1,hs2,htl⟩
  obtain ⟨x0,x1,x2,x3,x4,x5,x6,x7,rfl⟩:=Z39 hxs
  simp only [cns]
  have hlw:PH.le H1 K3:=PH.le_trans ls k3.sh
  refine ⟨fun g9=>?_,fun g9=>?_⟩
  ·simp only [evs,evb,zdt] at g9
   obtain ⟨p,hp⟩:∃p,t.parts[k]?=some p:=⟨_,zge (by omega)⟩
   obtain ⟨y1,_,cs,y2,y3⟩:=q5.get hp
   obtain ⟨rfl,y4⟩:=z2r y2
   have hdr:t.parts.drop k=p::t.parts.drop (k+1):=by
    rw [←List.getElem_cons_drop (by omega:k < t.parts.length)]
    rw [(List.getElem?_eq_some_iff.1 hp).2]
   rw [hdr] at htl
   simp only [z3k] at htl
   generalize hdn:downX deep (decide (t.kind=0)) k=dn at htl
   have hdb:0≤dn∧dn≤33:=by
    rw [←hdn];unfold downX
    split<;>omega
   refine ⟨fun _=>?_,valVs p,rfl,?_,?_⟩
   ·simp only [Chk.holds,evs,evb];exact ⟨y1,by omega,by omega⟩
   ·simp only [evs,evb];exact z06 hlw y3
   simp only [cns]
   have hw2:IntKind.i64.wrap (deep+1)=deep+1:=w64 (by omega) (by omega)
   have hcall:∀dv,dv=Value.int .i64 dn→Tri Tryz.prog z4w #[pAt hr,valV p,dv,.int .i64 seen'] K3 fun e H'=>∃S',PH.le S1 S'∧Held S' H' [orow 39 acc u]∧TellE (tellX h f p dn seen') e S':=fun dv hdv=>by
    rw [hdv]
    exact k3.pure (R:=fun e S'=>TellE (tellX h f p dn seen') e S') (ih p dn seen' S1 (HeapAt.le (PH.le_trans l1 ls) hh) y4 (ok.may t htm p (List.mem_of_getElem? hp)) (by omega) hs2 (by omega) hdb.1 hdb.2)
   refine z02 z4k (hcall _ ?_) ?_
   ·rw [←hdn];unfold downX
    have hd1:decide ((k:Int)=1)=decide (k=1):=by rw [decide_eq_decide];omega
    simp only [evs,evb,hw2,hd1]
    cases (decide (t.kind=0))<;>cases (decide (k=1))<;>rfl
   rintro x K4 ⟨S2,l2,k4,cs,rfl,hd⟩
   have hfp:=hfew p dn seen' (by omega) hs2
   generalize hR:tellX h f p dn seen'=R at htl hd hfp
   obtain ⟨d,sn,okk⟩:=R
   obtain ⟨sv,rfl,r1,r2,r3,r4⟩:=Dat.Rep_iff.1 hd
   obtain ⟨sb,sc,rfl⟩:=SlR.sl r4
   refine ⟨_,[.int .i64 d.kind,.int .i64 d.int,txt d.text,.slice sb d.list.length sc,.int .i64 sn,.bool okk],rfl,rfl,rfl,z01,?_⟩
   simp only [cns]
   cases okk with
   | false=>
    refine ⟨fun _=>?_,fun g10=>?_⟩
    ·simp only [htl] at hT
     rw [←hT]
     exact ⟨PH.le_trans l1 (PH.le_trans ls (PH.le_trans l2 k4.sh)),z26 (k:=0) (n:=0) (t:=[]) (by decide) (by decide) (by decide) rfl⟩
    ·simp [evs,evb] at g10
   | true=>
    refine ⟨fun g10=>?_,fun _=>?_⟩
    ·simp [evs,evb] at g10
    obtain ⟨f1,f2,f3⟩:=hfp
    have f3:=f3 rfl
    simp only at f1 f2 f3
    simp only [if_true] at htl
    have hml:=Dats.cnt_le acc
    refine z0m (b:=56) (more:=[d]) [.agg #[.int .i64 d.kind,.int .i64 d.int,txt d.text,.slice sb d.list.length sc]] uDats zei rfl (by decide) (by decide) k4 (by kernel_rfl) (.cons hd .nil) z01 (fun w=>by kernel_rfl) (fun w=>by kernel_rfl)
     (by simp only [zlc,List.length_nil];omega) (by simp only [zlc,List.length_nil];omega) fun w v7 S7 K7 l7 h7=>⟨z01,?_⟩
    have hcd:1≤d.cnt:=by have:=Dat.cnt_eq d;omega
    refine ⟨_,z00,n - 1,by omega,k+1,v7,S7,acc++[d],sn,[.int .i64 d.kind,.int .i64 d.int,txt d.text,.slice sb d.list.length sc,x4,x5,x6,x7],by omega,?_,rfl,PH.le_trans ls (PH.le_trans l2 l7),h7,by simp [hal],?_,by omega,f2,htl⟩
    ·have hw:IntKind.i64.wrap ((k:Int)+1)=((k+1:Nat):Int):=by rw [w64 (by omega) (by omega)];rfl
     simp only [evs,evb,hw]
    ·rw [Dats.cnt_append];simp only [Dats.cnt];omega
  ·simp only [evs,evb,zdf] at g9
   have hkl:k=t.parts.length:=by omega
   subst hkl
   rw [List.drop_length] at htl
   simp only [z3k] at htl
   simp only [htl,if_true] at hT
   obtain ⟨S2,s2,l2,k4⟩:=k3.freeze
   have hlen:=s2.len
   obtain ⟨ub,uc,rfl⟩:=s2.sl
   have hle:=PH.le_trans l1 (PH.le_trans ls (PH.le_trans l2 k4.sh))
   refine ⟨fun g10=>?_,fun g10=>?_⟩
   ·simp only [evs,evb,zdt] at g10
    rw [if_pos g10] at hT
    have h2:acc.length=2:=by rw [hal];exact ok.pair t htm g10
    obtain ⟨a,b,rfl⟩:=Z0o h2
    simp only [Dats.cnt,List.take_succ_cons,List.take_zero,List.getD_cons_succ,List.getD_cons_zero] at hcnt hT
    have hcap:2≤uc:=by
     rcases (SlR.mk_iff.1 s2).2 with ⟨_,h⟩ | ⟨_,c,h,h3,_⟩
     ·cases h
     ·cases h;exact h3
    obtain ⟨z1,_,cs,z2,z3⟩:=s2.get (i:=1) (a:=b) rfl
    obtain ⟨sv,rfl,r1,r2,r3,r4⟩:=Dat.Rep_iff.1 z2
    obtain ⟨sb,sc,rfl⟩:=SlR.sl r4
    have hcut:=s2.cut (a:=0) (b:=1) (by omega) (by simp)
    refine ⟨fun _=>?_,fun _=>?_,[.int .i64 b.kind,.int .i64 b.int,txt b.text,.slice sb b.list.length sc],rfl,?_,?_⟩
    ·simp only [Chk.holds,evs,evb,slCap];omega
    ·simp only [Chk.holds,evs,evb];exact ⟨z1,by omega,by simp⟩
    ·simp only [evs,evb];exact z06 k4.sh z3
    simp only [cns]
    refine z02 zi6 (zwm [a] b _ _ K3 (hcut.le k4.sh) (Dat.Rep.le k4.sh b z2) (by simp only [Dats.cnt];omega) (by omega)) ?_
    rintro x K5 ⟨cs,rfl,l5,hd⟩
    obtain ⟨sv',rfl,r1',r2',r3',r4'⟩:=Dat.Rep_iff.1 hd
    obtain ⟨sb',sc',rfl⟩:=SlR.sl r4'
    refine ⟨_,_,rfl,rfl,rfl,z01,?_⟩
    rw [←hT]
    exact ⟨PH.le_trans hle l5,_,rfl,hd⟩
   ·simp only [evs,evb,zdf] at g10
    rw [if_neg g10] at hT
    rw [←hT]
    exact ⟨hle,_,rfl,Dat.Rep_iff.2 ⟨_,rfl,(by decide:InI 7),(by decide:InI 0),Nat.zero_le _,s2.le k4.sh⟩⟩
theorem Z2n (h:HX) (hr:Nat) (ok:HeapOk h) (v:VX) (hv:VFit v) (H:PH) (hh:HeapAt H hr h) :
  Tri Tryz.prog zck #[pAt hr,valV v] H fun e H'=>PH.le H H'∧∃cs,e=.returned (.tuple #[.agg cs.toArray,.bool (tellV h v).2])∧(tellV h v).1.Rep H' cs:=by
 refine zap ([pAt hr]++valVs v) (by kernel_rfl) (by kernel_rfl) ?_
 simp only [cns]
 have leaf0:∀{S:PH},Dat.Rep S dat0 [.int .i64 0,.int .i64 0,txt [],.slice none 0 0]:=fun {S}=>zfa (k:=0) (n:=0) (t:=[]) (by decide) (by decide) (by decide)
 refine z05 [.bool (mayV h.length v)] z4x (zps h hr v hv H hh) rfl z01 fun H1 l1=>⟨fun g=>?_,fun g=>?_⟩
 ·simp only [evs,evb,Bool.not_eq_true'] at g
  have:tellV h v=(dat0,false):=by unfold tellV;rw [g];rfl
  rw [this]
  exact ⟨l1,_,rfl,leaf0⟩
 simp only [evs,evb,Bool.not_eq_false'] at g
 refine z02 z4k (Z1v h hr ok 200 v 0 0 H1 (hh.le l1) hv g (by omega) (by omega) (by omega) (by omega) (by omega)) ?_
 rintro x H2 ⟨l2,cs,rfl,hd⟩
 have ht:tellV h v=if (tellX h 200 v 0 0).2.2 then ((tellX h 200 v 0 0).1,true) else (dat0,false):=by unfold tellV;rw [g];rfl
 rw [ht]
 generalize tellX h 200 v 0 0=R at hd
 obtain ⟨d,sn,okk⟩:=R
 obtain ⟨sv,rfl,r1,r2,r3,r4⟩:=Dat.Rep_iff.1 hd
 obtain ⟨sb,sc,rfl⟩:=SlR.sl r4
 refine ⟨_,[.int .i64 d.kind,.int .i64 d.int,txt d.text,.slice sb d.list.length sc,.int .i64 sn,.bool okk],rfl,rfl,rfl,z01,?_⟩
 simp only [cns]
 cases okk with
 | false=>exact ⟨fun _=>⟨PH.le_trans l1 l2,_,rfl,leaf0⟩,fun g3=>by simp [evs,evb] at g3⟩
 | true=>exact ⟨fun g3=>by simp [evs,evb] at g3,fun _=>⟨PH.le_trans l1 l2,_,rfl,hd⟩⟩
theorem zza (d:Dat) (cs:List Value) (H:PH) (hd:d.Rep H cs):Tri Tryz.prog zhm #[.agg cs.toArray] H fun e H'=>PH.le H H'∧∃b,e=.returned (.tuple #[valV (z0r d),.bool b]):=by
 have hc:=zl2 d cs H hd
 obtain ⟨sv,rfl,hk,hn,ht,hs⟩:=Dat.Rep_iff.1 hd
 obtain ⟨b,c,rfl⟩:=hs.sl
 refine zey [.int .i64 d.kind,.int .i64 d.int,txt d.text,.slice b d.list.length c] (by kernel_rfl) (by kernel_rfl) ?_
 refine z05 [.int .i64 (d.chk 0 0).2] z6w hc rfl z01 fun H1 l1=>⟨fun g=>?_,fun g=>?_⟩
 ·simp only [evs,evb,zdt] at g
  have:z0r d=vNone:=by unfold z0r;rw [if_pos g]
  rw [this]
  exact ⟨l1,false,rfl⟩
 simp only [evs,evb,zdf] at g
 have hK:z0r d=if d.kind=0∨d.kind=1∨d.kind=2 then ⟨d.kind,d.int,[]⟩ else if d.kind=4 then ⟨3,0,d.text⟩ else if d.kind=5∧d.list.isEmpty=true then ⟨4,0,[]⟩ else vNone:=by unfold z0r;rw [if_neg g]
 simp only [cns]
 refine ⟨fun vs K=>vs=[]∧H1=K∧z0r d=vNone,?_,?_⟩
 ·rintro vs K _ ⟨rfl,rfl,h3⟩
  rw [h3]
  exact ⟨l1,false,rfl⟩
 refine ⟨fun vs K=>vs=[.bool (decide (d.kind=0∨d.kind=1∨d.kind=2))]∧H1=K,?_,fun g2=>?_,fun g2=>?_⟩
 rotate_left
 ·simp only [evs,evb,zdt] at g2
  exact ⟨_,z00,by simp [evs,evb,g2],rfl⟩
 ·simp only [evs,evb,zdf] at g2
  refine ⟨_,z00,?_,rfl⟩
  by_cases e6:d.kind=1<;>by_cases e7:d.kind=2<;>simp [evs,evb,g2,e6,e7]
 rintro vs K _ ⟨rfl,rfl⟩
 refine ⟨fun g2=>?_,fun g2=>?_⟩
 ·simp only [evs,evb,zdt] at g2
  rw [hK,if_pos g2]
  exact ⟨l1,true,rfl⟩
 simp only [evs,evb,zdf] at g2
 rw [if_neg g2] at hK
 refine ⟨fun g3=>?_,fun g3=>?_⟩
 ·simp only [evs,evb,zdt] at g3
  rw [hK,if_pos g3]
  exact ⟨l1,true,rfl⟩
 simp only [evs,evb,zdf] at g3
 rw [if_neg g3] at hK
 refine ⟨fun g4=>⟨fun g5=>?_,fun g5=>?_⟩,fun g4=>?_⟩
 ·simp only [evs,evb,zdt] at g4 g5
  have:d.list.isEmpty=true:=by rw [List.isEmpty_iff];exact List.length_eq_zero_iff.1 (by omega)
  rw [hK,if_pos ⟨g4,this⟩]
  exact ⟨l1,true,rfl⟩
 ·simp only [evs,evb,zdt,zdf] at g4 g5
  refine ⟨_,z00,rfl,rfl,?_⟩
  rw [hK,if_neg]
  rintro ⟨_,h6⟩
  rw [List.isEmpty_iff] at h6
  rw [h6] at g5;simp at g5
 ·simp only [evs,evb,zdf] at g4
  refine ⟨_,z00,rfl,rfl,?_⟩
  rw [hK,if_neg (fun h=>g4 h.1)]
structure CloM where
 thing:Int
 proc:Int
 b:Option Addr
 n:Nat
 c:Nat
 kont:Bool
 acts:List ActX
structure ActM where
 proc:Int
 b:Option Addr
 n:Nat
 c:Nat
 clo:Int
 block:Int
 at_:Int
 to:Int
def CloM.sl (x:CloM):Value:=.slice x.b x.n x.c
def ActM.sl (x:ActM):Value:=.slice x.b x.n x.c
instance encActX:Enc ActX:=⟨fun a=>[.int .i64 a.proc,slp a.regs,.int .i64 a.clo,.int .i64 a.block,.int .i64 a.at_,.int .i64 a.to],6,fun _=>rfl⟩
instance encActM:Enc ActM:=⟨fun a=>[.int .i64 a.proc,.own a.b a.n a.c,.int .i64 a.clo,.int .i64 a.block,.int .i64 a.at_,.int .i64 a.to],6,fun _=>rfl⟩
instance encCloM:Enc CloM:=⟨fun x=>[.int .i64 x.thing,.int .i64 x.proc,.own x.b x.n x.c,.bool x.kont,slp x.acts],5,fun _=>rfl⟩
theorem Z1w {H:PH} {b:Bool} {v:Value}:PV.Rep H (.bool b) v↔v=.bool b:=by simp only [PV.Rep]
theorem actX_iff {H:PH} {a:ActX} {cs:List Value}:CsR H a cs↔∃v,cs=[.int .i64 a.proc,v,.int .i64 a.clo,.int .i64 a.block,.int .i64 a.at_,.int .i64 a.to]∧SlR H a.regs v∧InI a.proc∧InI a.clo∧InI a.block∧InI a.at_∧InI a.to:=by
 show PV.RepRow H [.int .i64 a.proc,slp a.regs,.int .i64 a.clo,.int .i64 a.block,.int .i64 a.at_,.int .i64 a.to] cs↔_
 simp only [PV.RepRow,repI_iff]
 constructor
 ·rintro ⟨_,_,rfl,⟨rfl,h1⟩,v,_,rfl,h2,_,_,rfl,⟨rfl,h3⟩,_,_,rfl,⟨rfl,h4⟩,_,_,rfl,⟨rfl,h5⟩,_,_,rfl,⟨rfl,h6⟩,rfl⟩
  exact ⟨v,rfl,h2,h1,h3,h4,h5,h6⟩
 ·rintro ⟨v,rfl,h2,h1,h3,h4,h5,h6⟩
  exact ⟨_,_,rfl,⟨rfl,h1⟩,v,_,rfl,h2,_,_,rfl,⟨rfl,h3⟩,_,_,rfl,⟨rfl,h4⟩,_,_,rfl,⟨rfl,h5⟩,_,_,rfl,⟨rfl,h6⟩,rfl⟩
theorem actM_iff {H:PH} {a:ActM} {cs:List Value}:CsR H a cs↔cs=[.int .i64 a.proc,a.sl,.int .i64 a.clo,.int .i64 a.block,.int .i64 a.at_,.int .i64 a.to]∧InI a.proc∧InI a.clo∧InI a.block∧InI a.at_∧InI a.to:=by
 show PV.RepRow H [.int .i64 a.proc,.own a.b a.n a.c,.int .i64 a.clo,.int .i64 a.block,.int .i64 a.at_,.int .i64 a.to] cs↔_
 simp only [PV.RepRow,repI_iff,PV.Rep]
 constructor
 ·rintro ⟨_,_,rfl,⟨rfl,h1⟩,_,_,rfl,rfl,_,_,rfl,⟨rfl,h3⟩,_,_,rfl,⟨rfl,h4⟩,_,_,rfl,⟨rfl,h5⟩,_,_,rfl,⟨rfl,h6⟩,rfl⟩
  exact ⟨rfl,h1,h3,h4,h5,h6⟩
 ·rintro ⟨rfl,h1,h3,h4,h5,h6⟩
  exact ⟨_,_,rfl,⟨rfl,h1⟩,_,_,rfl,rfl,_,_,rfl,⟨rfl,h3⟩,_,_,rfl,⟨rfl,h4⟩,_,_,rfl,⟨rfl,h5⟩,_,_,rfl,⟨rfl,h6⟩,rfl⟩
theorem cloM_iff {H:PH} {x:CloM} {cs:List Value}:CsR H x cs↔∃v,cs=[.int .i64 x.thing,.int .i64 x.proc,x.sl,.bool x.kont,v]∧SlR H x.acts v∧InI x.thing∧InI x.proc:=by
 show PV.RepRow H [.int .i64 x.thing,.int .i64 x.proc,.own x.b x.n x.c,.bool x.kont,slp x.acts] cs↔_
 simp only [PV.RepRow,repI_iff,PV.Rep,Z1w]
 constructor
 ·rintro ⟨_,_,rfl,⟨rfl,h1⟩,_,_,rfl,⟨rfl,h2⟩,_,_,rfl,rfl,_,_,rfl,rfl,v,_,rfl,h3,rfl⟩
  exact ⟨v,rfl,h3,h1,h2⟩
 ·rintro ⟨v,rfl,h3,h1,h2⟩
  exact ⟨_,_,rfl,⟨rfl,h1⟩,_,_,rfl,⟨rfl,h2⟩,_,_,rfl,rfl,_,_,rfl,rfl,v,_,rfl,h3,rfl⟩
abbrev cloX (x:CloM×List VX):CloX:=⟨x.1.thing,x.1.proc,x.2,x.1.kont,x.1.acts⟩
abbrev actX' (x:ActM×List VX):ActX:=⟨x.1.proc,x.2,x.1.clo,x.1.block,x.1.at_,x.1.to⟩
structure MS where
 L:List (TR×List VX)
 thv:Value
 C:List (CloM×List VX)
 cv:Value
 A:List (ActM×List VX)
 av:Value
 input:List UInt8
 out:List UInt8
 ov:Value
 w:VX
 t:VX
 done:Bool
 e:Int
def MS.x (s:MS):MX:=⟨hpX s.L,s.C.map cloX,s.A.map actX',s.input,s.out,s.w,s.t,s.done,s.e⟩
def MS.cells (pv:Value) (hr:Nat) (s:MS):List Value:=[pv,pAt hr,s.cv,s.av,txt s.input,s.ov,.int .i64 s.w.kind,.int .i64 s.w.int,txt s.w.text,.int .i64 s.t.kind,.int .i64 s.t.int,txt s.t.text,.bool s.done,.int .i64 s.e]
abbrev bxM (pv:Value) (mr hr:Nat) (s:MS):Itm:=bx mr 82 (s.cells pv hr)
abbrev nestC (s:MS):List Itm:=nest 87 77 CloM.sl s.C s.cv
abbrev nestA (s:MS):List Itm:=nest 90 77 ActM.sl s.A s.av
abbrev rowO (s:MS):Itm:=orow 5 s.out s.ov
def machI (pv:Value) (mr hr:Nat) (s:MS):List Itm:=bxM pv mr hr s::(heapI hr s.L s.thv++(nestC s++(nestA s++[rowO s])))
section
variable {S H:PH} {pv:Value} {mr hr:Nat} {s:MS} {J:List Itm}
abbrev restH (pv:Value) (mr hr:Nat) (s:MS) (J:List Itm):List Itm:=bxM pv mr hr s::(nestC s++(nestA s++(rowO s::J)))
abbrev restC (pv:Value) (mr hr:Nat) (s:MS) (J:List Itm):List Itm:=bxM pv mr hr s::(heapI hr s.L s.thv++(nestA s++(rowO s::J)))
abbrev restA (pv:Value) (mr hr:Nat) (s:MS) (J:List Itm):List Itm:=bxM pv mr hr s::(heapI hr s.L s.thv++(nestC s++(rowO s::J)))
abbrev restO (pv:Value) (mr hr:Nat) (s:MS) (J:List Itm):List Itm:=bxM pv mr hr s::(heapI hr s.L s.thv++(nestC s++(nestA s++J)))
theorem z47:machI pv mr hr s++J=bxM pv mr hr s::(heapI hr s.L s.thv++(nestC s++(nestA s++(rowO s::J)))):=by
 simp only [machI,List.cons_append,List.append_assoc,List.nil_append]
theorem permH:(machI pv mr hr s++J).Perm (heapI hr s.L s.thv++restH pv mr hr s J):=by
 rw [z47];exact List.perm_middle.symm
theorem permC:(machI pv mr hr s++J).Perm (nestC s++restC pv mr hr s J):=by
 rw [z47]
 refine (List.Perm.cons _ (List.perm_append_comm_assoc (heapI hr s.L s.thv) (nestC s) _)).trans ?_
 exact List.perm_middle.symm
theorem permA:(machI pv mr hr s++J).Perm (nestA s++restA pv mr hr s J):=by
 rw [z47]
 refine (List.Perm.cons _ ((List.Perm.append_left _ (List.perm_append_comm_assoc (nestC s) (nestA s) _)).trans (List.perm_append_comm_assoc (heapI hr s.L s.thv) (nestA s) _))).trans ?_
 exact List.perm_middle.symm
theorem permO:(machI pv mr hr s++J).Perm (rowO s::restO pv mr hr s J):=by
 rw [z47]
 refine (List.Perm.cons _ ((List.Perm.append_left _ ((List.Perm.append_left _ List.perm_middle).trans List.perm_middle)).trans List.perm_middle)).trans ?_
 exact List.Perm.swap _ _ _
theorem z0w (h:Held S H (machI pv mr hr s++J)) {off:Nat} {vs:List Value} (hv:((s.cells pv hr).drop off).take vs.length=vs):rowAt H (some ⟨mr,off,none⟩) vs:=by
 rw [←hv];exact zm1 h (List.mem_append_left _ (zms)) off vs.length
theorem Z2m (h:Held S H (machI pv mr hr s++J)):HeapAt H hr (hpX s.L):=zn0 (h.perm permH)
theorem zbc (h:Held S H (machI pv mr hr s++J)):∃b c,s.cv=.slice b s.C.length c:=zbq (h.perm permC)
theorem z8p (h:Held S H (machI pv mr hr s++J)):∃b c,s.av=.slice b s.A.length c:=zbq (h.perm permA)
theorem zuq (h:Held S H (machI pv mr hr s++J)):∃b c,s.ov=.slice b s.out.length c:=((h.perm permO).row (zms)).sl
theorem zfr (h:Held S H (machI pv mr hr s++J)) {k:Nat} {x:CloM×List VX} (hk:s.C[k]?=some x) :
  (z0v s.cv).isSome=true∧(pOf (eltV s.cv (k:Int) 5)).isSome=true∧∃av,rowAt H (pOf (eltV s.cv (k:Int) 5)) [.int .i64 x.1.thing,.int .i64 x.1.proc,x.1.sl,.bool x.1.kont,av]∧SlR S x.1.acts av∧InI x.1.thing∧InI x.1.proc:=by
 obtain ⟨h1,h2,cs,h3,h4⟩:=zof (h.perm permC) hk
 obtain ⟨av,rfl,h5,h6,h7⟩:=cloM_iff.1 h3
 exact ⟨h1,h2,av,h4,h5,h6,h7⟩
theorem zam (h:Held S H (machI pv mr hr s++J)) {k:Nat} {x:CloM×List VX} (hk:s.C[k]?=some x):SlR H x.2 x.1.sl:=(zbv (h.perm permC) hk).slR h.sh
theorem zbi (h:Held S H (machI pv mr hr s++J)) {k:Nat} {x:ActM×List VX} (hk:s.A[k]?=some x) :
  (z0v s.av).isSome=true∧(pOf (eltV s.av (k:Int) 6)).isSome=true∧rowAt H (pOf (eltV s.av (k:Int) 6)) [.int .i64 x.1.proc,x.1.sl,.int .i64 x.1.clo,.int .i64 x.1.block,.int .i64 x.1.at_,.int .i64 x.1.to]∧InI x.1.proc∧InI x.1.clo∧InI x.1.block∧InI x.1.at_∧InI x.1.to:=by
 obtain ⟨h1,h2,cs,h3,h4⟩:=zof (h.perm permA) hk
 obtain ⟨rfl,h5⟩:=actM_iff.1 h3
 exact ⟨h1,h2,h4,h5⟩
theorem z6g (h:Held S H (machI pv mr hr s++J)) {k:Nat} {x:ActM×List VX} (hk:s.A[k]?=some x):SlR H x.2 x.1.sl:=(zbv (h.perm permA) hk).slR h.sh
theorem zh4 (h:Held S H (machI pv mr hr s++J)):Held S H (bxM pv mr hr s::(heapI hr s.L s.thv++(nestC s++(nestA s++(rowO s::J))))):=by rw [←z47];exact h
end
theorem Z5o:Tryz.prog.underlying 78=some (.slice 87):=by kernel_rfl
theorem Z4i:ElemOk Tryz.prog 87 5 72=true:=by kernel_rfl
theorem zvg:Tryz.prog.underlying 79=some (.slice 90):=by kernel_rfl
theorem zoa:ElemOk Tryz.prog 90 6 64=true:=by kernel_rfl
theorem up1 {k:Nat} (h:k < 4611686018427387904):IntKind.i64.wrap ((k:Int)+1)=((k+1:Nat):Int):=by rw [w64 (by omega) (by omega)];rfl
theorem down1 {k:Nat} (h0:0 < k) (h:k < 4611686018427387904):IntKind.i64.wrap ((k:Int) - 1)=((k - 1:Nat):Int):=by rw [w64 (by omega) (by omega)];omega
def findI (m:MX) (v:VX):Int:=match m.find v with
 | none=>-1
 | some k=>(k:Int)
section
variable {S K:PH} {pv:Value} {mr hr:Nat} {s:MS} {J:List Itm}
theorem zmn (h:Held S K (machI pv mr hr s++J)) (v:VX) (hn:s.C.length≤16777216):Gives Tryz.prog zaj [pAt mr,valV v] K (.int .i64 (findI s.x v)):=by
 obtain ⟨cb,cc,hcv⟩:=zbc h
 refine z8t ([pAt mr]++valVs v) (by kernel_rfl) (by kernel_rfl) ?_
 simp only [cns]
 refine ⟨fun n vs K1=>∃k:Nat,k+n=s.C.length∧vs=[.int .i64 0,nI k]∧K1=K∧∀(i:Nat) (x:CloM×List VX),i < k→s.C[i]?=some x→(decide (v.kind=8) && decide (x.1.thing=v.int))=false,⟨s.C.length,0,by omega,rfl,rfl,fun i x hi=>absurd hi (by omega)⟩,?_⟩
 rintro n vs K1 _ ⟨k,hkn,rfl,rfl,hno⟩
 simp only [cns]
 have hl2:rowAt K1 (some ⟨mr,2,none⟩) [.slice cb s.C.length cc]:=by rw [←hcv];exact z0w h rfl
 refine ⟨fun _=>by simp [Chk.holds,evs,evb],[.slice cb s.C.length cc],rfl,by simp only [evs,evb];exact hl2,fun g=>?_,fun g=>?_⟩
 ·simp only [evs,evb,zdt] at g
  obtain ⟨x,hx⟩:∃x,s.C[k]?=some x:=⟨_,zge (by omega)⟩
  obtain ⟨x1,x2,av,x3,x4,x5,x6⟩:=zfr h hx
  rw [hcv] at x1 x2 x3
  refine ⟨fun vs K2=>vs=[.bool (decide (v.kind=8) && decide (x.1.thing=v.int))]∧K1=K2,?_,fun g2=>?_,fun g2=>?_⟩
  ·rintro vs K2 _ ⟨rfl,rfl⟩
   refine ⟨fun g2=>?_,fun g2=>?_⟩
   ·simp only [evs,evb] at g2
    refine ⟨?_,PH.le_refl _⟩
    have:s.x.find v=some k:=by
     unfold MX.find
     rw [List.findIdx?_eq_some_iff_getElem]
     have hk:k < (s.C.map cloX).length:=by simpa using (List.getElem?_eq_some_iff.1 hx).1
     refine ⟨hk,?_,fun j hj=>?_⟩
     ·show (decide (v.kind=8) && decide (((s.C.map cloX)[k]'hk).thing=v.int))=true
      rw [List.getElem_map,(List.getElem?_eq_some_iff.1 hx).2];exact g2
     ·have hjl:j < s.C.length:=by omega
      have:=hno j s.C[j] hj (zge hjl)
      show ¬(decide (v.kind=8) && decide (((s.C.map cloX)[j]'(by simpa using hjl)).thing=v.int))=true
      rw [List.getElem_map,this];simp
    show Ending.returned _=Ending.returned _
    unfold findI
    rw [this];rfl
   ·simp only [evs,evb] at g2
    refine ⟨_,z00,n - 1,by omega,k+1,by omega,?_,rfl,fun i y hi hy=>?_⟩
    ·simp only [evs,evb,up1 (by omega:k < 4611686018427387904)]
    ·rcases Nat.lt_succ_iff_lt_or_eq.1 hi with hi | rfl
     ·exact hno i y hi hy
     ·rw [hx] at hy;cases hy;exact g2
  ·simp only [evs,evb,zdt] at g2
   refine ⟨[.slice cb s.C.length cc],rfl,by simp only [evs,evb];exact hl2,fun _=>?_,[.int .i64 x.1.thing],rfl,?_,_,z00,?_,rfl⟩
   ·simp only [Chk.holds,evs,evb];exact ⟨x1,by omega,by omega⟩
   ·simp only [evs,evb];exact z0a x3 0 1
   ·simp [evs,evb,g2]
  ·simp only [evs,evb,zdf] at g2
   exact ⟨_,z00,by simp [evs,evb,g2],rfl⟩
 ·simp only [evs,evb,zdf] at g
  refine ⟨?_,PH.le_refl _⟩
  have:s.x.find v=none:=by
   unfold MX.find
   rw [List.findIdx?_eq_none_iff]
   intro y hy
   obtain ⟨x,hx,rfl⟩:=List.mem_map.1 (show y∈s.C.map cloX from hy)
   obtain ⟨i,hi⟩:=List.getElem?_of_mem hx
   exact hno i x (by have:=(List.getElem?_eq_some_iff.1 hi).1;omega) hi
  unfold findI
  rw [this];rfl
theorem ze1 {held:List VX} {hv:Value} {proc:Int} {kont:Bool} {acts:List ActX} {asv:Value} (h:Held S K (orow 77 held hv::(machI pv mr hr s++J))) (ha:SlR S acts asv) (hp:InI proc) (hL:s.L.length≤16777216) (hC:s.C.length≤16777216) :
  Tri Tryz.prog za8 #[pAt mr,.agg #[.int .i64 0,.int .i64 proc,hv,.bool kont,asv]] K fun e K'=>∃S' s',PH.le S S'∧Held S' K' (machI pv mr hr s'++J)∧e=.returned (valV (s.x.made ⟨0,proc,held,kont,acts⟩).2)∧s'.x=(s.x.made ⟨0,proc,held,kont,acts⟩).1∧s'.A=s.A∧s'.av=s.av∧s'.w=s.w∧s'.t=s.t∧s'.C.length=s.C.length+1:=by
 obtain ⟨hb,hc,rfl⟩:=(h.row (zms)).sl
 obtain ⟨ab,ac,rfl⟩:=ha.sl
 refine z8m [pAt mr,.int .i64 0,.int .i64 proc,.slice hb held.length hc,.bool kont,.slice ab acts.length ac] (by kernel_rfl) (by kernel_rfl) ?_
 refine ⟨fun _=>by simp [Chk.holds,evs,evb],[pAt hr],rfl,by simp only [evs,evb];exact z0w h.tail rfl,?_⟩
 have h1:Held S K (machI pv mr hr s++(orow 77 held (.slice hb held.length hc)::J)):=h.perm List.perm_middle.symm
 simp only [cns]
 refine z02 zb2 (HpTo.beside (h1.perm permH) fun K hK=>Z20 hr s.L s.thv S K hK hL) ?_
 rintro x K1 ⟨rfl,S1,L1,thv1,l1,h2,hL1⟩
 refine ⟨_,valVs (addX (hpX s.L) 4 []).2++[Value.int .i64 0],rfl,rfl,rfl,z01,?_⟩
 simp only [cns]
 obtain ⟨s1,hs1⟩:∃s1:MS,s1={ s with L:=L1,thv:=thv1 }:=⟨_,rfl⟩
 have h3:Held S1 K1 (machI pv mr hr s1++(orow 77 held (.slice hb held.length hc)::J)):=by
  subst hs1;exact h2.perm (permH (pv:=pv) (mr:=mr) (hr:=hr) (s:={ s with L:=L1,thv:=thv1 }) (J:=orow 77 held (.slice hb held.length hc)::J)).symm
 obtain ⟨cb,cc,hcv⟩:=zbc h3
 have hl2:∀{K':PH} {I:List Itm},Held S1 K' (machI pv mr hr s1++I)→rowAt K' (some ⟨mr,2,none⟩) [s1.cv]:=fun h=>z0w h rfl
 refine ⟨[.slice cb s1.C.length cc],rfl,by simp only [evs,evb];rw [←hcv];exact hl2 h3,?_⟩
 simp only [cns]
 obtain ⟨new,hnew⟩:∃new:CloM,new=⟨(addX (hpX s.L) 4 []).2.int,proc,hb,held.length,hc,kont,acts⟩:=⟨_,rfl⟩
 have h4:Held S1 K1 (orow 87 (s1.C.map Prod.fst) (.slice cb s1.C.length cc)::(orow 77 held (.slice hb held.length hc)::(inner 77 CloM.sl s1.C++restC pv mr hr s1 J))):=by
  rw [←hcv]
  exact h3.perm (List.perm_middle.trans ((List.Perm.cons _ permC).trans (List.Perm.swap _ _ _)))
 have hCl:s1.C.length=s.C.length:=by rw [hs1]
 have hthing:InI new.thing:=by
  rw [hnew]
  show InI ((hpX s.L).length:Int)
  simp only [hpX,List.length_map]
  unfold InI;omega
 refine z0m (b:=72) (more:=[new]) [.agg #[.int .i64 new.thing,.int .i64 proc,.slice hb held.length hc,.bool kont,.slice ab acts.length ac]] Z5o Z4i rfl (by decide) (by decide) h4 (by rw [hnew];kernel_rfl) (.cons (cloM_iff.2 ⟨_,by rw [hnew];rfl,by rw [hnew];exact ha.le l1,hthing,by rw [hnew];exact hp⟩) .nil) (z6i (by simp only [evs,evb];rw [←hcv];exact hl2 h3)) (fun u=>by kernel_rfl) (fun u=>by kernel_rfl)
  (by simp only [maxLen,List.length_map,zlc,List.length_nil];omega) (by simp only [List.length_map,zlc,List.length_nil];omega) fun u v5 S2 K2 l2 h5=>⟨z01,?_⟩
 have h6:=zh5 (sl:=CloM.sl) (a:=new) (l:=held) (by
  have:new.sl=.slice hb held.length hc:=by rw [hnew];rfl
  rw [this];exact h5)
 have h7:=h6.perm List.perm_middle
 simp only [cns]
 refine z0j (off:=2) (vs:=[v5]) ?_ h7 rfl (by
  intro v hv
  rw [List.mem_singleton.1 hv]
  obtain ⟨b,c,e⟩:=(h5.row (zms)).sl
  rw [e];rfl) (by simp [MS.cells]) fun K3 h8=>?_
 ·simp only [evs,evb];rfl
 obtain ⟨s2,hs2⟩:∃s2:MS,s2={ s1 with C:=s1.C++[(new,held)],cv:=v5 }:=⟨_,rfl⟩
 have h9:Held S2 K3 (machI pv mr hr s2++J):=by
  subst hs2
  rw [z47]
  exact h8.perm (List.Perm.cons _ (List.perm_append_comm_assoc _ _ _))
 have hx1:s1.x={ s.x with h:=(addX (hpX s.L) 4 []).1 }:=by
  rw [hs1];unfold MS.x;simp only;rw [hL1]
 refine ⟨S2,s2,PH.le_trans l1 l2,h9,rfl,?_,by rw [hs2,hs1],by rw [hs2,hs1],by rw [hs2,hs1],by rw [hs2,hs1],by rw [hs2];simp [hCl]⟩
 have:s2.x={ s1.x with clos:=s1.x.clos++[⟨(addX (hpX s.L) 4 []).2.int,proc,held,kont,acts⟩] }:=by
  rw [hs2];unfold MS.x;simp only [List.map_append,List.map_cons,List.map_nil,cloX];rw [hnew]
 rw [this,hx1]
 rfl
end
theorem zf8 (acts:List ActX) (v:Value) (K:PH) (hv:SlR K acts v) (hn:acts.length≤16777216) (hr:∀a∈acts,a.regs.length≤16777216) :
  Tri Tryz.prog z3t #[v] K fun e K'=>∃S' LA v',e=.returned v'∧PH.le K S'∧Held S' K' (nest 90 77 ActM.sl LA v'++[])∧LA.map actX'=acts:=by
 obtain ⟨b,c,rfl⟩:=hv.sl
 refine zdm [.slice b acts.length c] (by kernel_rfl) (by kernel_rfl) ?_
 have h0:Held K K []:=Held.nil (PH.le_refl _)
 refine z1p (α:=ActM) (b:=64) zvg zoa h0 z01 fun v1 K1 h1 _ _=>?_
 simp only [cns]
 refine ⟨fun n vs K2=>∃(k:Nat) (u:Value) (S2:PH) (LA:List (ActM×List VX)),k+n=acts.length∧vs=[u,nI k]∧PH.le K S2∧Held S2 K2 (nest 90 77 ActM.sl LA u++[])∧LA.map actX'=acts.take k,⟨acts.length,0,v1,K,[],by omega,rfl,PH.le_refl _,h1,rfl⟩,?_⟩
 rintro n vs K2 _ ⟨k,u,S2,LA,hkn,rfl,l2,h2,hLA⟩
 simp only [cns]
 refine ⟨fun g=>?_,fun g=>?_⟩
 ·simp only [evs,evb,zdt] at g
  obtain ⟨a,ha⟩:∃a,acts[k]?=some a:=⟨_,zge (by omega)⟩
  have har:=hr a (List.mem_of_getElem? ha)
  have hLl:LA.length=k:=by
   have:=congrArg List.length hLA
   simp only [List.length_map,List.length_take] at this
   omega
  obtain ⟨x1,_,cs,x2,x3⟩:=hv.get ha
  obtain ⟨rv,rfl,y1,y2,y3,y4,y5,y6⟩:=actX_iff.1 x2
  obtain ⟨rb,rc,rfl⟩:=y1.sl
  refine ⟨fun _=>?_,[.int .i64 a.proc,.slice rb a.regs.length rc,.int .i64 a.clo,.int .i64 a.block,.int .i64 a.at_,.int .i64 a.to],rfl,?_,?_⟩
  ·simp only [Chk.holds,evs,evb];exact ⟨x1,by omega,by omega⟩
  ·simp only [evs,evb];exact z06 (PH.le_trans l2 h2.sh) x3
  simp only [cns]
  refine z1p (α:=VX) (b:=32) z4m z2h h2 z01 fun v3 K3 h3 _ _=>?_
  simp only [cns]
  refine z8s (b:=32) (more:=a.regs) z4m z2h (by kernel_rfl) (by kernel_rfl) h3 ((y1.le l2).srcS h3.sh) (by simp only [maxLen,List.length_nil];omega) (by simp only [List.length_nil];omega) fun v4 K4 h4 _=>⟨z01,?_⟩
  rw [List.nil_append] at h4
  obtain ⟨b4,c4,rfl⟩:=(h4.row (zms)).sl
  simp only [cns]
  obtain ⟨new,hnew⟩:∃new:ActM,new=⟨a.proc,b4,a.regs.length,c4,a.clo,a.block,a.at_,a.to⟩:=⟨_,rfl⟩
  have h5:Held S2 K4 (orow 90 (LA.map Prod.fst) u::orow 77 a.regs (.slice b4 a.regs.length c4)::(inner 77 ActM.sl LA++[])):=h4.perm (List.Perm.swap _ _ _)
  refine z0m (b:=64) (more:=[new]) [.agg #[.int .i64 a.proc,.slice b4 a.regs.length c4,.int .i64 a.clo,.int .i64 a.block,.int .i64 a.at_,.int .i64 a.to]] zvg zoa rfl (by decide) (by decide) h5 (by kernel_rfl) (.cons (actM_iff.2 ⟨by rw [hnew];rfl,by rw [hnew];exact ⟨y2,y3,y4,y5,y6⟩⟩) .nil) z01 (fun w=>by kernel_rfl) (fun w=>by kernel_rfl)
   (by simp only [maxLen,List.length_map,zlc,List.length_nil];omega) (by simp only [List.length_map,zlc,List.length_nil];omega) fun w v6 S6 K6 l6 h6=>⟨z01,?_⟩
  have h7:=zh5 (sl:=ActM.sl) (a:=new) (l:=a.regs) (by
   have:new.sl=.slice b4 a.regs.length c4:=by rw [hnew];rfl
   rw [this];exact h6)
  refine ⟨_,z00,n - 1,by omega,k+1,v6,S6,LA++[(new,a.regs)],by omega,?_,PH.le_trans l2 l6,h7,?_⟩
  ·simp only [evs,evb,up1 (by omega:k < 4611686018427387904)]
  ·rw [List.take_add_one,ha,List.map_append,hLA,hnew];rfl
 ·simp only [evs,evb,zdf] at g
  refine ⟨S2,LA,u,rfl,l2,h2,?_⟩
  rw [hLA,List.take_of_length_le (by omega)]
def flatP:PV→Bool
 | .sl _=>false
 | _=>true
theorem Z3q {p:PV} (hp:flatP p=true) {H H':PH} {v:Value} (h:p.Rep H v):p.Rep H' v:=by
 cases p with
 | sl l=>cases hp
 | _=>simpa only [PV.Rep] using h
theorem zvk:∀{l:List PV} (_:∀p∈l,flatP p=true) {H H':PH} {cs:List Value},PV.RepRow H l cs→PV.RepRow H' l cs
 | [],_,_,_,_,h=>h
 | p::l,hp,H,H',cs,h=>by
  obtain ⟨v,rest,rfl,h1,h2⟩:=h
  exact ⟨v,rest,rfl,Z3q (hp p (zms)) h1,zvk (fun q hq=>hp q (zmm _ hq)) h2⟩
def Itm.flat:Itm→Prop
 | .row _ _ rows _=>∀r∈rows,∀p∈r,flatP p=true
 | _=>True
theorem Itm.flat_at {i:Itm} (hi:i.flat) {S S' K:PH} (h:i.At S K):i.At S' K:=by
 cases i with
 | row e z rows v=>
  obtain ⟨xs,h1,h2⟩:=h
  exact ⟨xs,h1,zvk (fun p hp=>by
   obtain ⟨r,hr,hp⟩:=List.mem_flatten.1 hp
   exact hi r hr p hp) h2⟩
 | raw e z xs n v=>exact h
 | blk r o=>exact h
theorem Held.join {S S' K K':PH} {I J:List Itm} (h:Held S K I) (hl:PH.le K S') (hJ:Held S' K' J) (hf:∀j∈J,j.flat):Held S K' (J++I):=by
 have hS:PH.le S S':=PH.le_trans h.sh hl
 have hJS:Held S K' J:=⟨PH.le_trans hS hJ.sh,fun j hj=>Itm.flat_at (hf j hj) (hJ.at_ j hj),fun j hj g hg=>PH.none_of_le hS (hJ.off j hj g hg),hJ.nd⟩
 exact Held.step (J:=[]) (J':=J) h (PH.le_refl _) (fun k o hk _=>hJ.sh k o (hl k o hk)) (fun k h1 h2=>absurd h1 h2) hJS fun j hj g hg=>.inl (PH.none_of_le hl (hJ.off j hj g hg))
theorem Z3p (v:VX):∀p∈pv v,flatP p=true:=by
 intro p hp
 simp only [pv,Enc.pv,VX.pv,List.mem_cons,List.not_mem_nil,or_false] at hp
 rcases hp with rfl | rfl | rfl<;>rfl
theorem Z03 (a:ActM):∀p∈pv a,flatP p=true:=by
 intro p hp
 simp only [pv,Enc.pv,List.mem_cons,List.not_mem_nil,or_false] at hp
 rcases hp with rfl | rfl | rfl | rfl | rfl | rfl<;>rfl
theorem zjw (LA:List (ActM×List VX)) (v:Value):∀j∈nest 90 77 ActM.sl LA v++[],j.flat:=by
 intro j hj
 rw [List.append_nil,zn3] at hj
 rcases List.mem_cons.1 hj with rfl | hj
 ·intro r hr p hp
  obtain ⟨a,_,rfl⟩:=List.mem_map.1 hr
  exact Z03 a p hp
 ·obtain ⟨x,_,rfl⟩:=List.mem_map.1 hj
  intro r hr p hp
  obtain ⟨a,_,rfl⟩:=List.mem_map.1 hr
  exact Z3p a p hp
def MFit (s:MS):Prop:=VFit s.w∧VFit s.t
def MTo (pv:Value) (mr hr:Nat) (J:List Itm) (S:PH) (m:MX) (r:Value) (e:Ending) (K':PH):Prop:=∃S' s',PH.le S S'∧Held S' K' (machI pv mr hr s'++J)∧MFit s'∧s'.x=m∧e=.returned r
abbrev vNil:Value:=.tuple #[]
theorem zq0 {s s':MS} {pv:Value} {mr hr:Nat} {J:List Itm} (h1:s'.L=s.L) (h2:s'.thv=s.thv) (h3:s'.C=s.C) (h4:s'.cv=s.cv) (h5:s'.A=s.A) (h6:s'.av=s.av) (h7:s'.out=s.out) (h8:s'.ov=s.ov):bxM pv mr hr s'::(heapI hr s.L s.thv++(nestC s++(nestA s++(rowO s::J))))=machI pv mr hr s'++J:=by
 rw [z47,h1,h2,nestC,nestA,rowO,nestC,nestA,rowO,h3,h4,h5,h6,h7,h8]
section
variable {S K:PH} {pv:Value} {mr hr:Nat} {s:MS} {J:List Itm}
theorem zew {l:List (ActM×List VX)} {ws:List ActX} {a:ActX} (h:l.map actX'=ws++[a]):∃l' x,l=l'++[x]∧l'.map actX'=ws∧actX' x=a∧l[ws.length]?=some x∧l.length=ws.length+1:=by
 have hl:l≠[]:=fun e=>by rw [e] at h;simp at h
 obtain ⟨l',x,rfl⟩:=zeh hl
 rw [List.map_append] at h
 have hlen:l'.length=ws.length:=by
  have:=congrArg List.length h
  simp at this;omega
 obtain ⟨e1,e2⟩:=List.append_inj h (by simpa using hlen)
 refine ⟨l',x,rfl,e1,by simpa using e2,?_,by simp [hlen]⟩
 rw [←hlen];simp
theorem zpv (h:Held S K (machI pv mr hr s++J)) (hf:MFit s) {v:VX} (hv:VFit v) (hA:s.A.length≤16777216) (hw:∀ws a,s.x.acts=ws++[a]→z8e a) :
  Tri Tryz.prog z9y #[pAt mr,valV v] K fun e K'=>∃s',Held S K' (machI pv mr hr s'++J)∧MFit s'∧s'.x=s.x.tell v∧e=.returned vNil:=by
 obtain ⟨ab,ac,hav⟩:=z8p h
 refine z8q ([pAt mr]++valVs v) (by kernel_rfl) (by kernel_rfl) ?_
 simp only [cns]
 have hl3:rowAt K (some ⟨mr,3,none⟩) [.slice ab s.A.length ac]:=by rw [←hav];exact z0w h rfl
 refine ⟨fun _=>by simp [Chk.holds,evs,evb],[.slice ab s.A.length ac],rfl,by simp only [evs,evb];exact hl3,fun g=>?_,fun g=>?_⟩
 ·simp only [evs,evb,zdt] at g
  have hA0:s.A=[]:=List.length_eq_zero_iff.1 (by omega)
  refine z0j (off:=9) (vs:=[.int .i64 v.kind,.int .i64 v.int,txt v.text]) (by simp only [evs,evb];rfl) (zh4 h) rfl (by
   intro u hu
   simp only [List.mem_cons,List.not_mem_nil,or_false] at hu
   rcases hu with rfl | rfl | rfl<;>rfl) (by simp [MS.cells]) fun K1 h1=>?_
  refine z0j (off:=12) (vs:=[.bool true]) (by simp only [evs,evb];rfl) h1 rfl (by
   intro u hu
   rw [List.mem_singleton.1 hu];rfl) (by simp [MS.cells]) fun K2 h2=>?_
  refine ⟨{ s with t:=v,done:=true },?_,⟨hf.1,hv⟩,?_,rfl⟩
  ·exact Eq.mp (congrArg (Held S K2) (zq0 (s:=s) (s':={ s with t:=v,done:=true }) rfl rfl rfl rfl rfl rfl rfl rfl)) h2
  ·unfold MS.x MX.tell
   simp only [hA0,List.map_nil,List.getLast?_nil]
 ·simp only [evs,evb,zdf] at g
  have hne:s.x.acts≠[]:=by
   intro e
   have:s.A=[]:=List.map_eq_nil_iff.1 (show s.A.map actX'=[] from e)
   rw [this] at g;simp at g
  obtain ⟨ws,a,hs⟩:=zeh hne
  obtain ⟨l',x,hl',hws,hxa,hget,hlen⟩:=zew (show s.A.map actX'=ws++[a] from hs)
  obtain ⟨x1,x2,x3,x4,x5,x6,x7,x8⟩:=zbi h hget
  have hrow:=z6g h hget
  obtain ⟨rb,rc,hrs⟩:=hrow.sl
  rw [hav] at x1 x2 x3
  have hwa:=hw ws a hs
  have hto:0≤x.1.to∧x.1.to < x.2.length:=by rw [←hxa] at hwa;exact hwa
  have hd1:IntKind.i64.wrap ((s.A.length:Int) - 1)=(ws.length:Int):=by rw [w64 (by omega) (by omega)];omega
  obtain ⟨j,hj⟩:∃j:Nat,x.1.to=(j:Int):=⟨x.1.to.toNat,by omega⟩
  obtain ⟨y,hy⟩:∃y,x.2[j]?=some y:=⟨_,zge (by omega)⟩
  obtain ⟨r1,_⟩:=hrow.get hy
  refine ⟨[.slice ab s.A.length ac],rfl,by simp only [evs,evb];exact hl3,fun _=>?_,[.slice rb x.2.length rc],rfl,?_,[.slice ab s.A.length ac],rfl,by simp only [evs,evb];exact hl3,fun _=>?_,[.int .i64 x.1.to],rfl,?_,fun _=>?_,?_⟩
  ·simp only [Chk.holds,evs,evb,hd1];exact ⟨x1,by omega,by omega⟩
  ·simp only [evs,evb,hd1];rw [←hrs];exact z0a x3 1 1
  ·simp only [Chk.holds,evs,evb,hd1];exact ⟨x1,by omega,by omega⟩
  ·simp only [evs,evb,hd1];exact z0a x3 5 1
  ·simp only [Chk.holds,evs,evb];rw [hrs] at r1;exact ⟨r1,by omega,by omega⟩
  have hp:=zh3 hget (h.perm permA)
  refine z1t (i:=j) (a:=y) (a':=v) (us:=valVs v) ?_ hp hy rfl (by kernel_rfl) (by simp [oneC]) (z80 hv) fun K1 h1=>?_
  ·simp only [evs,evb,hj];rw [hrs];rfl
  have h2:=zby hget h1
  refine ⟨{ s with A:=s.A.set ws.length (x.1,x.2.set j v) },?_,hf,?_,rfl⟩
  ·exact h2.perm (permA (s:={ s with A:=s.A.set ws.length (x.1,x.2.set j v) }) (J:=J)).symm
  ·have hm:s.x.tell v={ s.x with acts:=ws++[{ a with regs:=a.regs.set a.to.toNat v }] }:=by
    unfold MX.tell;rw [hs];simp
   rw [hm]
   have:(s.A.set ws.length (x.1,x.2.set j v)).map actX'=ws++[{ a with regs:=a.regs.set a.to.toNat v }]:=by
    have hll:l'.length=ws.length:=by rw [←hws];simp
    rw [hl',←hll,List.set_append_right _ _ (Nat.le_refl _),Nat.sub_self,List.set_cons_zero,List.map_append,hws,←hxa]
    simp [hj]
   unfold MS.x
   simp only [this]
end
section
variable {S K:PH} {pv:Value} {mr hr:Nat} {s:MS} {J:List Itm} {c:CodeX} {n:Nat}
theorem z5a {X:List PanicEntry→PH→Prop} {E:List Value} {L:LK} {p:SV} {w:SV} {e:Int} (h:Held S K (machI pv mr hr s++J)) (hf:MFit s) (hp:pOf (ev0 E p)=some ⟨mr,13,none⟩) (hw:ev0 E w=.int .i64 e) {β:Type} {k:Fm β} {Q:β→List Value→PH→LK→Prop}
  (hk:∀K',Held S K' (machI pv mr hr { s with e:=e }++J)→MFit { s with e:=e }→den Tryz.prog X k E K' L Q):den Tryz.prog X (.store p [w] k) E K L Q:=by
 refine z0j (off:=13) (vs:=[.int .i64 e]) hp (zh4 h) (by simp only [List.map_cons,List.map_nil,hw]) (by
  intro u hu
  rw [List.mem_singleton.1 hu];rfl) (by simp [MS.cells]) fun K1 h1=>hk K1 ?_ hf
 exact Eq.mp (congrArg (Held S K1) (zq0 (s:=s) (s':={ s with e:=e }) rfl rfl rfl rfl rfl rfl rfl rfl)) h1
theorem zv1 {v:VX} {k:Nat} (h:s.x.find v=some k):∃x,s.C[k]?=some x∧s.x.clos.getD k default=cloX x:=by
 obtain ⟨y,hy⟩:=zme h
 have hy':(s.C.map cloX)[k]?=some y:=hy
 rw [List.getElem?_map] at hy'
 cases hx:s.C[k]? with
 | none=>rw [hx] at hy';cases hy'
 | some x=>
  rw [hx] at hy'
  refine ⟨x,rfl,?_⟩
  show (s.C.map cloX).getD k default=_
  rw [zgd,List.getElem?_map,hx];rfl
theorem Z2k {v:VX} {k:Nat} {x:CloM×List VX} (hfd:s.x.find v=some k) (hxc:s.x.clos.getD k default=cloX x) (args:List VX) (behind:Bool):s.x.call c v args behind=if x.1.kont then (match args with
    | [y]=>({ s.x with acts:=x.1.acts }:MX).tell y
    | _=>{ s.x with e:=91 }) else if (args.length:Int)≠(prcAt c x.1.proc).params then { s.x with e:=91 } else { s.x with acts:=(if behind then s.x.acts else s.x.acts.dropLast)++[z10 (prcAt c x.1.proc) x.1.proc k args] }:=by
 unfold MX.call;rw [hfd];simp only [hxc];rfl
theorem zak (h:Held S K (machI pv mr hr s++J)) (hf:MFit s) (hc:SlR S c pv) (g:GoodC c) (hco:CoreOk c n s.x) (hao:ActsOk c n s.x) (hn:n≤16777215) {v:VX} (hv:VFit v) {args:List VX} {argv:Value} (hargs:SlR S args argv) (behind:Bool) (hne:behind=false→s.x.acts≠[]) :
  Tri Tryz.prog zab #[pAt mr,valV v,argv,.bool behind] K (MTo pv mr hr J S (s.x.call c v args behind) vNil):=by
 obtain ⟨ab,ac,rfl⟩:=hargs.sl
 have hmx:maxLen=9223372036854775807:=rfl
 have hCl:s.C.length≤n:=by have:=hco.cn;simpa [MS.x] using this
 have hAl:s.A.length≤n:=by have:=hao.an;simpa [MS.x] using this
 refine z8n ([pAt mr]++valVs v++[.slice ab args.length ac,.bool behind]) (by kernel_rfl) (by kernel_rfl) ?_
 simp only [cns]
 refine z05 [.int .i64 (findI s.x v)] z3o (zmn h v (by omega)) rfl z01 fun K1 l1=>?_
 have h:=h.le l1
 simp only [cns]
 cases hfd:s.x.find v with
 | none=>
  have hfi:findI s.x v=-1:=by unfold findI;rw [hfd]
  refine ⟨fun _=>⟨fun _=>by simp [Chk.holds,evs,evb],?_⟩,fun g2=>?_⟩
  ·refine z5a (e:=90) h hf (by simp only [evs,evb];rfl) (by simp only [evs,evb]) fun K2 h2 f2=>⟨S,_,PH.le_refl _,h2,f2,?_,rfl⟩
   unfold MX.call;rw [hfd];rfl
  ·simp [evs,evb,hfi] at g2
 | some k=>
  have hfi:findI s.x v=(k:Int):=by unfold findI;rw [hfd]
  obtain ⟨x,hx,hxc⟩:=zv1 hfd
  have hcall:=Z2k (c:=c) hfd hxc args behind
  have hkC:=(List.getElem?_eq_some_iff.1 hx).1
  obtain ⟨cb,cc,hcv⟩:=zbc h
  obtain ⟨x1,x2,av,x3,x4,x5,x6⟩:=zfr h hx
  have hcl:=hco.clos (cloX x) (List.mem_map.2 ⟨x,List.mem_of_getElem? hx,rfl⟩)
  have hrw:=zam h hx
  obtain ⟨hb,hcc,hxs⟩:=hrw.sl
  obtain ⟨avb,avc,rfl⟩:=x4.sl
  rw [hcv] at x1 x3
  refine ⟨fun g2=>?_,fun _=>⟨fun _=>by simp [Chk.holds,evs,evb],[.slice cb s.C.length cc],rfl,by simp only [evs,evb];rw [←hcv];exact z0w h rfl,fun _=>?_,[.int .i64 x.1.thing,.int .i64 x.1.proc,.slice hb x.2.length hcc,.bool x.1.kont,.slice avb x.1.acts.length avc],rfl,by simp only [evs,evb,hfi];rw [←hxs];exact x3,?_⟩⟩
  ·simp [evs,evb,hfi] at g2;omega
  ·simp only [Chk.holds,evs,evb,hfi];exact ⟨x1,by omega,by omega⟩
  simp only [cns]
  cases hk:x.1.kont with
  | true=>
   rw [hk] at hcall
   simp only [if_true] at hcall
   refine ⟨fun _=>⟨fun g3=>?_,fun g3=>?_⟩,fun g3=>by simp [evs,evb] at g3⟩
   ·simp only [evs,evb,ne_eq,decide_not,Bool.not_eq_true',zdf] at g3
    refine z5a (e:=91) h hf (by simp only [evs,evb];rfl) (by simp only [evs,evb]) fun K2 h2 f2=>⟨S,_,PH.le_refl _,h2,f2,?_,rfl⟩
    rw [hcall]
    split
    ·simp at g3
    ·rfl
   ·have hl1:args.length=1:=by
     simp only [evs,evb,ne_eq,decide_not,Bool.not_eq_false',zdt] at g3
     omega
    obtain ⟨y,rfl⟩:∃y,args=[y]:=by
     match args,hl1 with
     | [y],_=>exact ⟨y,rfl⟩
    simp only at hcall
    have hka:=hcl.kont hk
    refine z02 z3h (zf8 x.1.acts _ K1 (x4.le h.sh) (by have:=hcl.few;show x.1.acts.length≤_;have h0:(cloX x).acts.length≤n:=hcl.few;simp only [cloX] at h0;omega) (fun a ha=>by
     obtain ⟨ha1,_⟩:=hka a ha
     have:=ha1.regs
     have hp:=(g.prc (z1n ha1.proc.1 ha1.proc.2).1).regs
     omega)) ?_
    rintro e K2 ⟨S2,LA,v2,rfl,l2,h2,hLA⟩
    obtain ⟨b2,c2,hv2⟩:=zbq h2
    refine ⟨_,[v2],rfl,by rw [hv2];rfl,rfl,z01,?_⟩
    simp only [cns]
    have h3:=h.join l2 h2 (zjw LA v2)
    rw [List.append_nil,z47] at h3
    have h4:=h3.perm List.perm_middle
    refine z0j (off:=3) (vs:=[v2]) (by simp only [evs,evb];rfl) h4 rfl (by
     intro u hu
     rw [List.mem_singleton.1 hu,hv2];rfl) (by simp [MS.cells]) fun K3 h5=>?_
    obtain ⟨s3,hs3⟩:∃s3:MS,s3={ s with A:=LA,av:=v2 }:=⟨_,rfl⟩
    have h6:Held S K3 (machI pv mr hr s3++J):=by
     subst hs3
     rw [z47]
     refine (h5.perm (List.Perm.cons _ ((List.perm_append_comm_assoc _ _ _).trans (List.Perm.append_left _ (List.perm_append_comm_assoc _ _ _))))).sub ?_
     refine List.Sublist.cons_cons _ (List.Sublist.append (List.Sublist.refl _) (List.Sublist.append (List.Sublist.refl _) (List.Sublist.append (List.Sublist.refl _) ?_)))
     exact List.sublist_append_right _ _
    have hx3:s3.x={ s.x with acts:=x.1.acts }:=by rw [hs3];unfold MS.x;simp only [hLA]
    obtain ⟨y1,_,ycs,y2,y3⟩:=hargs.get (i:=0) (a:=y) rfl
    obtain ⟨rfl,yf⟩:=z2r y2
    refine ⟨fun _=>?_,valVs y,rfl,by simp only [evs,evb];exact z06 h6.sh y3,?_⟩
    ·simp only [Chk.holds,evs,evb];exact ⟨y1,by omega,by simp⟩
    simp only [cns]
    have hlen3:s3.A.length≤16777216:=by
     have e1:LA.length=x.1.acts.length:=by rw [←hLA];simp
     have h0:(cloX x).acts.length≤n:=hcl.few
     simp only [cloX] at h0
     rw [hs3];show LA.length≤_;omega
    refine z02 z3n (zpv h6 (by rw [hs3];exact hf) yf hlen3 (fun ws a hwa=>(hka a (by
     rw [hx3] at hwa
     have hwa:x.1.acts=ws++[a]:=hwa
     show a∈x.1.acts
     rw [hwa];simp)).2)) ?_
    rintro e K4 ⟨s4,h7,f4,hx4,rfl⟩
    refine ⟨_,[],rfl,rfl,rfl,z01,S,s4,PH.le_refl _,h7,f4,?_,rfl⟩
    rw [hx4,hcall,hx3]
  | false=>
   rw [hk] at hcall
   simp only [Bool.false_eq_true,if_false] at hcall
   obtain ⟨hpr,_⟩:=hcl.fn hk
   obtain ⟨pm1,pm2⟩:=z1n hpr.1 hpr.2
   have gp:=g.prc pm1
   obtain ⟨pb,pc,rfl⟩:=hc.sl
   obtain ⟨p1,_,pcs,p2,p3⟩:=hc.get pm2
   obtain ⟨bv,rfl,q1,q2,q3,q4⟩:=prc_iff.1 p2
   obtain ⟨bb,bc,rfl⟩:=q4.sl
   obtain ⟨i0,hi0⟩:∃i:Nat,x.1.proc=(i:Int):=⟨x.1.proc.toNat,by have:0≤x.1.proc:=hpr.1;omega⟩
   have hi0c:(i0:Int) < c.length:=by have:=hpr.2;simp only [cloX] at this;omega
   simp only [cloX] at p3 pm2
   generalize hP:prcAt c x.1.proc=P at *
   rw [hi0,Int.toNat_natCast] at p3
   refine ⟨fun g3=>by simp [evs,evb] at g3,fun _=>⟨[.slice pb c.length pc],rfl,by simp only [evs,evb];exact z0w h rfl,fun _=>?_,[.int .i64 P.params,.int .i64 P.holds,.int .i64 P.regs,.slice bb P.blocks.length bc],rfl,?_,?_⟩⟩
   ·simp only [Chk.holds,evs,evb,hi0];exact ⟨p1,by omega,by omega⟩
   ·simp only [evs,evb,hi0];exact z06 h.sh p3
   simp only [cns]
   refine ⟨fun g3=>?_,fun g3=>?_⟩
   ·simp only [evs,evb,ne_eq,decide_not,Bool.not_eq_true',zdf] at g3
    refine z5a (e:=91) h hf (by simp only [evs,evb];rfl) (by simp only [evs,evb]) fun K2 h2 f2=>⟨S,_,PH.le_refl _,h2,f2,?_,rfl⟩
    rw [hcall,if_pos g3];rfl
   simp only [evs,evb,ne_eq,decide_not,Bool.not_eq_false',zdt] at g3
   rw [if_neg (fun hh=>hh g3)] at hcall
   obtain ⟨R,hR⟩:∃R:Nat,P.regs=(R:Int):=⟨P.regs.toNat,by have:=gp.params;have:=gp.regs;omega⟩
   have hR2:R≤2000:=by have:=gp.regs;omega
   refine ⟨fun m vs K2=>∃(i:Nat) (u:Value) (S1:PH),i+m=R∧vs=[nI i,.int .i64 x.1.proc,u,nI k,.int .i64 0,.int .i64 0,.int .i64 0]∧PH.le S S1∧Held S1 K2 (orow 77 ((List.range i).map fun j=>args.getD j ⟨7,0,[]⟩) u::(machI (.slice pb c.length pc) mr hr s++J)),
    ⟨R,0,.slice none 0 0,S,by omega,by simp only [evs,evb,hfi];rfl,PH.le_refl _,h.empty _⟩,?_⟩
   rintro m vs K2 _ ⟨i,u,S1,him,rfl,ls,h2⟩
   simp only [cns]
   refine ⟨fun g4=>?_,fun g4=>?_⟩
   ·simp only [evs,evb,zdt] at g4
    refine ⟨fun vs K3=>vs=valVs (args.getD i ⟨7,0,[]⟩)∧K2=K3,?_,fun g5=>?_,fun g5=>?_⟩
    ·rintro vs K3 _ ⟨rfl,rfl⟩
     simp only [cns]
     have hfi7:VFit (args.getD i ⟨7,0,[]⟩):=by
      rw [zgd]
      cases hi:args[i]? with
      | none=>show VFit ⟨7,0,[]⟩;unfold VFit InI maxLen;simp
      | some y=>exact zxg hargs (List.mem_of_getElem? hi)
     refine z0m (b:=32) (more:=[args.getD i ⟨7,0,[]⟩]) [valV (args.getD i ⟨7,0,[]⟩)] z4m z2h rfl (by decide) (by decide) h2 (by kernel_rfl) (.cons (z80 hfi7) .nil) z01 (fun w=>by kernel_rfl) (fun w=>by kernel_rfl)
      (by simp only [maxLen,List.length_map,List.length_range,zlc,List.length_nil];omega) (by simp only [List.length_map,List.length_range,zlc,List.length_nil];omega) fun w v7 S7 K7 l7 h7=>⟨z01,?_⟩
     refine ⟨_,z00,m - 1,by omega,i+1,v7,S7,by omega,?_,PH.le_trans ls l7,?_⟩
     ·simp only [evs,evb,up1 (by omega:i < 4611686018427387904)]
     ·rw [List.range_succ,List.map_append];exact h7
    ·simp only [evs,evb,zdt] at g5
     obtain ⟨y,hy⟩:∃y,args[i]?=some y:=⟨_,zge (by omega)⟩
     obtain ⟨y1,_,ycs,y2,y3⟩:=hargs.get hy
     obtain ⟨rfl,yf⟩:=z2r y2
     refine ⟨fun _=>?_,valVs y,rfl,by simp only [evs,evb];exact z06 (PH.le_trans ls h2.sh) y3,_,z00,?_,rfl⟩
     ·simp only [Chk.holds,evs,evb];exact ⟨y1,by omega,by omega⟩
     ·rw [zgd,hy];rfl
    ·simp only [evs,evb,zdf] at g5
     refine ⟨_,z00,?_,rfl⟩
     rw [zgd,List.getElem?_eq_none (by omega)];rfl
   simp only [evs,evb,zdf] at g4
   have hiR:i=R:=by omega
   subst hiR
   obtain ⟨ub,uc,rfl⟩:∃b c',u=.slice b i c':=by simpa using (h2.row (zms)).sl
   have ht:=h2.tail
   obtain ⟨ab',ac',hav⟩:=z8p ht
   refine ⟨fun vs K3=>vs=[]∧∃s1:MS,Held S1 K3 (orow 77 ((List.range i).map fun j=>args.getD j ⟨7,0,[]⟩) (.slice ub i uc)::(machI (.slice pb c.length pc) mr hr s1++J))∧s1.x={ s.x with acts:=if behind then s.x.acts else s.x.acts.dropLast }∧MFit s1∧s1.A.length≤n,?_,fun g5=>?_,fun g5=>?_⟩
   rotate_left
   ·simp only [evs,evb,Bool.not_eq_true'] at g5
    subst g5
    have hne:=hne rfl
    have hA0:0 < s.A.length:=by
     rcases Nat.eq_zero_or_pos s.A.length with e | e
     ·exact absurd (show s.A.map actX'=[] by rw [List.length_eq_zero_iff.1 e];rfl) hne
     ·exact e
    have hd1:IntKind.i64.wrap ((s.A.length:Int) - 1)=((s.A.length - 1:Nat):Int):=down1 hA0 (by omega)
    have hcap:s.A.length≤ac':=by
     have:=(zb0 (h2.tail.perm permA)).slR ht.sh
     rw [hav] at this
     rcases (SlR.mk_iff.1 this).2 with ⟨h',_⟩ | ⟨_,c',h',h3,_⟩
     ·obtain ⟨_,e1,e2⟩:=Value.slice.inj h';omega
     ·obtain ⟨_,e1,e2⟩:=Value.slice.inj h';simp only [List.length_map] at h3;omega
    refine ⟨[.slice ab' s.A.length ac'],rfl,by simp only [evs,evb];rw [←hav];exact z0w ht rfl,[.slice ab' s.A.length ac'],rfl,by simp only [evs,evb];rw [←hav];exact z0w ht rfl,fun _=>?_,?_⟩
    ·simp only [Chk.holds,evs,evb,slCap,hd1];omega
    have h3:Held S1 K2 (nestA s++(restA (.slice pb c.length pc) mr hr s (orow 77 ((List.range i).map fun j=>args.getD j ⟨7,0,[]⟩) (.slice ub i uc)::J))):=(h2.perm List.perm_middle.symm).perm permA
    have h4:=ztp h3 (Nat.sub_le s.A.length 1) hA0
    have h5:=h4.perm List.perm_middle
    refine z0j (off:=3) (vs:=[slsV s.av 0 ((s.A.length - 1:Nat):Int) (sz ActM)]) (by simp only [evs,evb];rfl) h5 ?_ (by
     intro w hw
     rw [List.mem_singleton.1 hw,hav];rfl) (by simp [MS.cells]) fun K3 h6=>?_
    ·rw [hav];simp only [List.map_cons,List.map_nil,evs,evb,hd1];rfl
    obtain ⟨s3,hs3⟩:∃s3:MS,s3={ s with A:=s.A.take (s.A.length - 1),av:=slsV s.av 0 ((s.A.length - 1:Nat):Int) (sz ActM) }:=⟨_,rfl⟩
    refine ⟨_,z00,rfl,s3,?_,?_,by rw [hs3];exact hf,by rw [hs3];simp;omega⟩
    ·subst hs3
     have h7:=h6.perm List.perm_middle.symm
     refine Held.perm (J:=orow 77 ((List.range i).map fun j=>args.getD j ⟨7,0,[]⟩) (.slice ub i uc)::(machI (.slice pb c.length pc) mr hr { s with A:=s.A.take (s.A.length - 1),av:=slsV s.av 0 ((s.A.length - 1:Nat):Int) (sz ActM) }++J)) h7 ?_
     exact ((permA (s:={ s with A:=s.A.take (s.A.length - 1),av:=slsV s.av 0 ((s.A.length - 1:Nat):Int) (sz ActM) }) (pv:=.slice pb c.length pc) (mr:=mr) (hr:=hr) (J:=orow 77 ((List.range i).map fun j=>args.getD j ⟨7,0,[]⟩) (.slice ub i uc)::J)).symm).trans List.perm_middle
    ·rw [hs3];unfold MS.x
     simp only [Bool.false_eq_true,if_false,List.dropLast_eq_take,List.length_map,List.map_take]
   ·simp only [evs,evb,Bool.not_eq_false'] at g5
    subst g5
    exact ⟨_,z00,rfl,s,h2,by simp,hf,hAl⟩
   rintro vs K3 _ ⟨rfl,s1,h3,hx1,f1,hA1⟩
   simp only [List.append_nil]
   obtain ⟨ab1,ac1,hav1⟩:=z8p h3.tail
   have hl3:rowAt K3 (some ⟨mr,3,none⟩) [.slice ab1 s1.A.length ac1]:=by rw [←hav1];exact z0w h3.tail rfl
   refine ⟨[.slice ab1 s1.A.length ac1],rfl,by simp only [evs,evb];exact hl3,?_⟩
   simp only [cns]
   obtain ⟨new,hnew⟩:∃new:ActM,new=⟨x.1.proc,ub,i,uc,(k:Int),0,0,0⟩:=⟨_,rfl⟩
   have h4:Held S1 K3 (orow 90 (s1.A.map Prod.fst) (.slice ab1 s1.A.length ac1)::(orow 77 ((List.range i).map fun j=>args.getD j ⟨7,0,[]⟩) (.slice ub i uc)::(inner 77 ActM.sl s1.A++restA (.slice pb c.length pc) mr hr s1 J))):=by
    rw [←hav1]
    exact h3.perm ((List.Perm.cons _ permA).trans (List.Perm.swap _ _ _))
   refine z0m (b:=64) (more:=[new]) [.agg #[.int .i64 x.1.proc,.slice ub i uc,nI k,.int .i64 0,.int .i64 0,.int .i64 0]] zvg zoa rfl (by decide) (by decide) h4 (by kernel_rfl) (.cons (actM_iff.2 ⟨by rw [hnew];rfl,by rw [hnew];exact ⟨x6,by show InI (k:Int);unfold InI;omega,(by decide:InI 0),(by decide:InI 0),(by decide:InI 0)⟩⟩) .nil) (z6i (by simp only [evs,evb];exact hl3)) (fun w=>by kernel_rfl) (fun w=>by kernel_rfl)
    (by simp only [maxLen,List.length_map,zlc,List.length_nil];omega) (by simp only [List.length_map,zlc,List.length_nil];omega) fun w v5 S2 K4 l5 h5=>⟨z01,?_⟩
   have h6:=zh5 (sl:=ActM.sl) (a:=new) (l:=(List.range i).map fun j=>args.getD j ⟨7,0,[]⟩) (by
    have:new.sl=.slice ub i uc:=by rw [hnew];rfl
    rw [this];exact h5)
   have h7:=h6.perm List.perm_middle
   simp only [cns]
   refine z0j (off:=3) (vs:=[v5]) (by simp only [evs,evb];rfl) h7 rfl (by
    intro v hv
    rw [List.mem_singleton.1 hv]
    obtain ⟨b,c,e⟩:=(h5.row (zms)).sl
    rw [e];rfl) (by simp [MS.cells]) fun K5 h8=>?_
   obtain ⟨s2,hs2⟩:∃s2:MS,s2={ s1 with A:=s1.A++[(new,(List.range i).map fun j=>args.getD j ⟨7,0,[]⟩)],av:=v5 }:=⟨_,rfl⟩
   have h9:Held S2 K5 (machI (.slice pb c.length pc) mr hr s2++J):=by
    subst hs2
    refine Held.perm (h8.perm List.perm_middle.symm) ?_
    exact (permA (s:={ s1 with A:=s1.A++[(new,(List.range i).map fun j=>args.getD j ⟨7,0,[]⟩)],av:=v5 }) (pv:=.slice pb c.length pc) (mr:=mr) (hr:=hr) (J:=J)).symm
   refine ⟨S2,s2,PH.le_trans ls l5,h9,by rw [hs2];exact f1,?_,rfl⟩
   rw [hcall]
   have:s2.x={ s1.x with acts:=s1.x.acts++[z10 P x.1.proc k args] }:=by
    rw [hs2];unfold MS.x z10
    simp only [List.map_append,List.map_cons,List.map_nil,actX',hR,Int.toNat_natCast]
    rw [hnew]
   rw [this,hx1]
end
theorem Z4u {n:Nat} (hn:n≤4611686018427387904) {v:VX} (h:mayV n v=true):VFit v:=by
 have hx:maxLen=9223372036854775807:=rfl
 unfold mayV at h
 unfold VFit InI
 split at h
 ·cases h
 rename_i h0
 have ht:v.kind≠3→v.text.length≤maxLen:=fun hk=>by
  have:v.text=[]:=by
   rcases Classical.em (v.text=[]) with e | e
   ·exact e
   ·exact absurd ⟨hk,e⟩ h0
  rw [this];simp
 split at h
 ·rename_i hk;have:=ht (by omega);simp only [zdt] at h;omega
 split at h
 ·rename_i hk;have:=ht (by omega);have:=isNum_iff.1 h;omega
 split at h
 ·rename_i hk;have:=ht (by omega);simp only [zdt] at h;omega
 split at h
 ·rename_i hk
  simp only [zba,zdt] at h
  have:=h.2
  unfold z5b at this
  simp only [zba,zdt] at this
  omega
 split at h
 ·rename_i hk;have:=ht (by omega);simp only [zdt] at h;omega
 split at h
 ·rename_i hk;have:=ht (by omega);simp only [zdt] at h;omega
 ·cases h
section
variable {S K:PH} {pv:Value} {mr hr:Nat} {s:MS} {J:List Itm} {c:CodeX} {n:Nat}
def PTo (pv:Value) (mr hr:Nat) (J:List Itm) (S:PH) (s:MS) (m:MX) (v:VX) (e:Ending) (K':PH):Prop:=∃S' s',PH.le S S'∧Held S' K' (machI pv mr hr s'++J)∧MFit s'∧s'.x=m∧e=.returned (valV v)∧VFit v∧s'.A=s.A∧s'.av=s.av
theorem zfv:VFit vVoid:=by unfold VFit vVoid InI maxLen;simp
theorem zzm (h:Held S K (machI pv mr hr s++J)) (hf:MFit s) (hco:CoreOk c n s.x) (hn:n≤16777215) (p:List UInt8) {args:List VX} {argv:Value} (hargs:SlR S args argv) (har:z30 p=args.length) :
  Tri Tryz.prog z9x #[pAt mr,txt p,argv] K (PTo pv mr hr J S s (s.x.prim p args).1 (s.x.prim p args).2):=by
 obtain ⟨ab,ac,rfl⟩:=hargs.sl
 have hmx:maxLen=9223372036854775807:=rfl
 have hOl:s.out.length≤n:=hco.on
 have hLl:s.L.length≤n:=by have:=hco.hn;simpa [MS.x,hpX] using this
 refine z8r [pAt mr,txt p,.slice ab args.length ac] (by kernel_rfl) (by kernel_rfl) ?_
 have one:∀{k:Int} {q:List UInt8},z30 q=k→p=q→(args.length:Int)=k:=fun h1 h2=>by rw [←har,h2,h1]
 refine ⟨fun g=>?_,fun g=>?_⟩
 ·simp only [evs,evb,z03,zdt] at g
  subst g
  refine ⟨fun _=>by simp [Chk.holds,evs,evb],[txt s.input],rfl,by simp only [evs,evb];exact z0w h rfl,fun g2=>?_,fun g2=>?_⟩
  ·simp only [evs,evb,z03,zdt] at g2
   refine ⟨S,s,PH.le_refl _,h,hf,?_,?_,?_,rfl,rfl⟩
   ·unfold MX.prim;simp only [if_true]
    rw [show s.x.input=[] from g2]
   ·unfold MX.prim;simp only [if_true]
    rw [show s.x.input=[] from g2];rfl
   ·unfold MX.prim;simp only [if_true]
    rw [show s.x.input=[] from g2];unfold VFit InI maxLen;simp
  ·simp only [evs,evb,z03,zdf] at g2
   obtain ⟨b,l,hbl⟩:∃b l,s.input=b::l:=by
    cases hi:s.input with
    | nil=>exact absurd hi g2
    | cons b l=>exact ⟨b,l,rfl⟩
   have hl4:rowAt K (some ⟨mr,4,none⟩) [txt (b::l)]:=by rw [←hbl];exact z0w h rfl
   refine ⟨[txt (b::l)],rfl,by simp only [evs,evb];exact hl4,fun _=>?_,[txt (b::l)],rfl,by simp only [evs,evb];exact hl4,fun _=>?_,?_⟩
   ·simp only [Chk.holds,evs,evb,z1l,zlc];omega
   ·simp only [Chk.holds,evs,evb,z1l,zlc];omega
   simp only [cns]
   refine z0j (off:=4) (vs:=[txt l]) (by simp only [evs,evb];rfl) (zh4 h) ?_ (by
    intro u hu
    rw [List.mem_singleton.1 hu];rfl) (by simp [MS.cells]) fun K1 h1=>?_
   ·simp only [List.map_cons,List.map_nil,evs,evb,z1l]
    rw [show ((1:Int)).toNat=1 from rfl,Int.toNat_natCast,zwq]
    simp
   have hm:s.x.prim [114,101,97,100,45,117,56] args=({ s.x with input:=l },⟨1,b.toNat,[]⟩):=by
    unfold MX.prim;simp only [if_true]
    rw [show s.x.input=b::l from hbl]
   rw [hm]
   have hb:=b.toNat_lt
   have hw:IntKind.i64.wrap (b.toNat:Int)=(b.toNat:Int):=w64 (by omega) (by omega)
   refine ⟨S,{ s with input:=l },PH.le_refl _,?_,hf,rfl,?_,⟨(by decide:InI 1),by unfold InI;simp only;omega,(by decide:([]:List UInt8).length≤maxLen)⟩,rfl,rfl⟩
   ·exact Eq.mp (congrArg (Held S K1) (zq0 (s:=s) (s':={ s with input:=l }) rfl rfl rfl rfl rfl rfl rfl rfl)) h1
   ·have hb0:(((⟨(b::l).toArray⟩:ByteArray)[0]?).getD 0)=b:=rfl
    simp [evs,evb]
    rw [hb0];exact hw
 simp only [evs,evb,z03,zdf] at g
 have P1:∀{q:MX×VX},(if p=[119,114,105,116,101,45,117,56] then
  let a:=args.getD 0 vNone
  if a.kind≠1 then ({ s.x with e:=80 },vVoid)
  else if a.int < 0∨255 < a.int then ({ s.x with e:=83 },vVoid)
  else ({ s.x with out:=s.x.out++[UInt8.ofNat a.int.toNat] },vVoid)
 else if p=[101,114,114,111,114] then ({ s.x with e:=92 },vVoid)
 else if p=[37,119,105,110,100,101,114,115] then (s.x,s.x.winders)
 else if p=[37,119,105,110,100,33] then ({ s.x with winders:=args.getD 0 vNone },vVoid)
 else
  let r:=doX s.x.h p args
  ({ s.x with h:=r.1,e:=r.2.2 },r.2.1))=q→s.x.prim p args=q:=fun hq=>by
  rw [←hq];unfold MX.prim;rw [if_neg g]
 refine ⟨fun g2=>?_,fun g2=>?_⟩
 ·simp only [evs,evb,z03,zdt] at g2
  have hal:=one (k:=1) (q:=[119,114,105,116,101,45,117,56]) (by decide +kernel) g2
  obtain ⟨a,rfl⟩:∃a,args=[a]:=by
   match args,hal with
   | [a],_=>exact ⟨a,rfl⟩
   | [],hal=>exact absurd hal (by decide)
   | a::b::l,hal=>exfalso;simp only [zlc] at hal;omega
  obtain ⟨y1,_,ycs,y2,y3⟩:=hargs.get (i:=0) (a:=a) rfl
  obtain ⟨rfl,yf⟩:=z2r y2
  have hP:=P1 (by rw [if_pos g2])
  have y3':=z06 h.sh y3
  refine ⟨fun _=>?_,[.int .i64 a.kind],rfl,by simp only [evs,evb];exact z0a y3' 0 1,fun g3=>?_,fun g3=>?_⟩
  ·simp only [Chk.holds,evs,evb];exact ⟨y1,by omega,by simp⟩
  ·simp only [evs,evb,ne_eq,decide_not,Bool.not_eq_true',zdf] at g3
   refine ⟨fun _=>by simp [Chk.holds,evs,evb],?_⟩
   refine z5a (e:=80) h hf (by simp only [evs,evb];rfl) (by simp only [evs,evb]) fun K2 h2 f2=>⟨S,_,PH.le_refl _,h2,f2,?_,?_,?_,rfl,rfl⟩
   ·rw [hP];simp only [List.getD_cons_zero];rw [if_pos g3];rfl
   ·rw [hP];simp only [List.getD_cons_zero];rw [if_pos g3];rfl
   ·rw [hP];simp only [List.getD_cons_zero];rw [if_pos g3];exact zfv
  ·simp only [evs,evb,ne_eq,decide_not,Bool.not_eq_false',zdt] at g3
   have hP2:s.x.prim p [a]=if a.int < 0∨255 < a.int then ({ s.x with e:=83 },vVoid) else ({ s.x with out:=s.x.out++[UInt8.ofNat a.int.toNat] },vVoid):=by
    rw [hP];simp only [List.getD_cons_zero];rw [if_neg (fun hh=>hh g3)]
   refine ⟨fun vs K1=>vs=[.bool (decide (a.int < 0∨255 < a.int))]∧K=K1,?_,?_⟩
   rotate_left
   ·refine ⟨[.int .i64 a.int],rfl,by simp only [evs,evb];exact z0a y3' 1 1,fun g4=>?_,fun g4=>?_⟩
    ·simp only [evs,evb,zdt] at g4
     exact ⟨_,z00,by simp [evs,evb,g4],rfl⟩
    ·simp only [evs,evb,zdf] at g4
     refine ⟨[.int .i64 a.int],rfl,by simp only [evs,evb];exact z0a y3' 1 1,_,z00,?_,rfl⟩
     simp [evs,evb,g4]
   rintro vs K1 _ ⟨rfl,rfl⟩
   refine ⟨fun g4=>?_,fun g4=>?_⟩
   ·simp only [evs,evb,zdt] at g4
    refine ⟨fun _=>by simp [Chk.holds,evs,evb],?_⟩
    refine z5a (e:=83) h hf (by simp only [evs,evb];rfl) (by simp only [evs,evb]) fun K2 h2 f2=>⟨S,_,PH.le_refl _,h2,f2,?_,?_,?_,rfl,rfl⟩
    ·rw [hP2,if_pos g4];rfl
    ·rw [hP2,if_pos g4];rfl
    ·rw [hP2,if_pos g4];exact zfv
   ·simp only [evs,evb,zdf] at g4
    rw [if_neg g4] at hP2
    obtain ⟨ob,oc,hov⟩:=zuq h
    have hl5:rowAt K (some ⟨mr,5,none⟩) [.slice ob s.out.length oc]:=by rw [←hov];exact z0w h rfl
    refine ⟨fun _=>by simp [Chk.holds,evs,evb],[.slice ob s.out.length oc],rfl,by simp only [evs,evb];exact hl5,[.int .i64 a.int],rfl,by simp only [evs,evb];exact z0a y3' 1 1,?_⟩
    simp only [cns]
    have h4:=h.perm permO
    have h4':Held S K (orow 5 s.out (.slice ob s.out.length oc)::restO pv mr hr s J):=by rw [←hov];exact h4
    have hby:z2z a.int=UInt8.ofNat a.int.toNat:=by unfold z2z;congr 1;omega
    refine z0m (b:=1) (more:=[z2z a.int]) [.int .u8 ((z2z a.int).toNat:Int)] ziv zlq rfl (by decide) (by decide) h4' ?_ (.cons (zy3 _ _) .nil) (z6i (by simp only [evs,evb];exact hl5)) (fun w=>by kernel_rfl) (fun w=>by kernel_rfl)
     (by simp only [zlc,List.length_nil];omega) (by simp only [zlc,List.length_nil];omega) fun w v7 S7 K7 l7 h7=>⟨z01,?_⟩
    ·rw [←Z2g];kernel_rfl
    obtain ⟨b7,c7,hv7⟩:=(h7.row (zms)).sl
    refine z0j (off:=5) (vs:=[v7]) (by simp only [evs,evb];rfl) h7.swap rfl (by
     intro u hu
     rw [List.mem_singleton.1 hu,hv7];rfl) (by simp [MS.cells]) fun K8 h8=>?_
    obtain ⟨s2,hs2⟩:∃s2:MS,s2={ s with out:=s.out++[z2z a.int],ov:=v7 }:=⟨_,rfl⟩
    have h9:Held S7 K8 (machI pv mr hr s2++J):=by
     subst hs2
     refine h8.swap.perm ?_
     exact (permO (s:={ s with out:=s.out++[z2z a.int],ov:=v7 }) (pv:=pv) (mr:=mr) (hr:=hr) (J:=J)).symm
    refine ⟨S7,s2,l7,h9,by rw [hs2];exact hf,?_,?_,?_,by rw [hs2],by rw [hs2]⟩
    ·rw [hP2,hs2,hby];rfl
    ·rw [hP2];rfl
    ·rw [hP2];exact zfv
 simp only [evs,evb,z03,zdf] at g2
 refine ⟨fun g3=>?_,fun g3=>?_⟩
 ·simp only [evs,evb,z03,zdt] at g3
  have hP:=P1 (by rw [if_neg g2,if_pos g3])
  refine ⟨fun _=>by simp [Chk.holds,evs,evb],?_⟩
  refine z5a (e:=92) h hf (by simp only [evs,evb];rfl) (by simp only [evs,evb]) fun K2 h2 f2=>⟨S,_,PH.le_refl _,h2,f2,by rw [hP];rfl,by rw [hP];rfl,by rw [hP];exact zfv,rfl,rfl⟩
 simp only [evs,evb,z03,zdf] at g3
 refine ⟨fun g4=>?_,fun g4=>?_⟩
 ·simp only [evs,evb,z03,zdt] at g4
  have hP:=P1 (by rw [if_neg g2,if_neg g3,if_pos g4])
  refine ⟨fun _=>by simp [Chk.holds,evs,evb],[.int .i64 s.w.kind,.int .i64 s.w.int,txt s.w.text],rfl,by simp only [evs,evb];exact z0w h rfl,S,s,PH.le_refl _,h,hf,by rw [hP],by rw [hP];rfl,by rw [hP];exact hf.1,rfl,rfl⟩
 simp only [evs,evb,z03,zdf] at g4
 refine ⟨fun g5=>?_,fun g5=>?_⟩
 ·simp only [evs,evb,z03,zdt] at g5
  have hal:=one (k:=1) (q:=[37,119,105,110,100,33]) (by decide +kernel) g5
  obtain ⟨a,rfl⟩:∃a,args=[a]:=by
   match args,hal with
   | [a],_=>exact ⟨a,rfl⟩
   | [],hal=>exact absurd hal (by decide)
   | a::b::l,hal=>exfalso;simp only [zlc] at hal;omega
  obtain ⟨y1,_,ycs,y2,y3⟩:=hargs.get (i:=0) (a:=a) rfl
  obtain ⟨rfl,yf⟩:=z2r y2
  have hP:=P1 (by rw [if_neg g2,if_neg g3,if_neg g4,if_pos g5])
  simp only [List.getD_cons_zero] at hP
  have y3':=z06 h.sh y3
  refine ⟨fun _=>?_,valVs a,rfl,by simp only [evs,evb];exact y3',fun _=>by simp [Chk.holds,evs,evb],?_⟩
  ·simp only [Chk.holds,evs,evb];exact ⟨y1,by omega,by simp⟩
  simp only [cns]
  refine z0j (off:=6) (vs:=[.int .i64 a.kind,.int .i64 a.int,txt a.text]) (by simp only [evs,evb];rfl) (zh4 h) rfl (by
   intro u hu
   simp only [List.mem_cons,List.not_mem_nil,or_false] at hu
   rcases hu with rfl | rfl | rfl<;>rfl) (by simp [MS.cells]) fun K1 h1=>?_
  refine ⟨S,{ s with w:=a },PH.le_refl _,?_,⟨yf,hf.2⟩,by rw [hP];rfl,by rw [hP];rfl,by rw [hP];exact zfv,rfl,rfl⟩
  exact Eq.mp (congrArg (Held S K1) (zq0 (s:=s) (s':={ s with w:=a }) rfl rfl rfl rfl rfl rfl rfl rfl)) h1
 simp only [evs,evb,z03,zdf] at g5
 have hP:=P1 (by rw [if_neg g2,if_neg g3,if_neg g4,if_neg g5])
 refine ⟨fun _=>by simp [Chk.holds,evs,evb],[pAt hr],rfl,by simp only [evs,evb];exact z0w h rfl,?_⟩
 simp only [cns]
 refine z02 zda (HpTo.beside (h.perm permH) fun K hK=>Z5f hr s.L s.thv p args _ S K hK hargs hco.heap (by omega)) ?_
 rintro x K1 ⟨rfl,S1,L1,thv1,l1,h2,hL1⟩
 have hd:doX s.x.h p args=doX (hpX s.L) p args:=rfl
 rw [hd] at hP
 obtain ⟨_,_,hmay⟩:=zzy hco.heap p args
 have hlen:=zy4 s.x.h p args
 have hhn:=hco.hn
 rw [hd] at hmay hlen
 generalize doX (hpX s.L) p args=R at hP h2 hL1 hmay hlen ⊢
 obtain ⟨h',v,e⟩:=R
 have hfv:VFit v:=Z4u (by omega) hmay
 refine ⟨_,[.int .i64 v.kind,.int .i64 v.int,txt v.text,.int .i64 e],rfl,rfl,rfl,z01,?_⟩
 simp only [cns]
 obtain ⟨s1,hs1⟩:∃s1:MS,s1={ s with L:=L1,thv:=thv1 }:=⟨_,rfl⟩
 have h3:Held S1 K1 (machI pv mr hr s1++J):=by
  subst hs1;exact h2.perm (permH (pv:=pv) (mr:=mr) (hr:=hr) (s:={ s with L:=L1,thv:=thv1 }) (J:=J)).symm
 refine z5a (e:=e) h3 (by rw [hs1];exact hf) (by simp only [evs,evb];rfl) (by simp only [evs,evb]) fun K2 h4 f4=>⟨S1,_,l1,h4,f4,?_,by rw [hP];rfl,by rw [hP];exact hfv,by rw [hs1],by rw [hs1]⟩
 rw [hP,hs1]
 unfold MS.x
 simp only at hL1 ⊢
 rw [hL1]
end
end Go.Proofs.YtofbhllknefloaaGreat.Vc
