import Derived.Test.YtfkclejklgoccaaGreatNm
set_option linter.unusedSimpArgs false
set_option linter.unusedVariables false
set_option maxRecDepth 100000
namespace Go.Proofs.YtfkclejklgoccaaGreat.Vc
open Go
structure FX where
 rg:Nat
 rf:Nat
 p:PrcX
 place:List Int
 slots:Int
 labs:List Int
 ents:List Int
 syms:List (List UInt8)
 stack:Int
 bv:Value
 pv:Value
 lv:Value
 ev:Value
 sv:Value
abbrev FX.rest (x:FX) (next:Int):List Value:=[x.sv,x.ev,.int .i64 next,.int .i64 x.stack]
abbrev FX.cells (x:FX) (pushed:Int):List Value:=[pAt x.rg,.int .i64 x.p.params,.int .i64 x.p.holds,.int .i64 x.p.regs,x.bv,x.pv,.int .i64 x.slots,x.lv,.int .i64 pushed]
structure FOk (S:PH) (x:FX):Prop where
 bl:SlR S x.p.blocks x.bv
 pl:SlR S x.place x.pv
 la:SlR S x.labs x.lv
 en:SlR S x.ents x.ev
 sy:SlR S x.syms x.sv
 ply:∀a∈x.place,0≤a∧a≤3000
 sl:0≤x.slots∧x.slots≤3000
 st:0≤x.stack∧x.stack≤131072
def FX.at_ (x:FX) (r:Int):Int:=x.place.getD r.toNat 0
def FX.col (x:FX) (r:Int):Bool:=decide (x.at_ r < 24)
def FX.reg (x:FX) (r:Int):Int:=1+x.at_ r
def FX.slot (x:FX) (pu r:Int):Int:=x.at_ r - 24 - x.slots - pu
structure GnH (S0 K:PH) (x:FX) (pu nx:Int) (l:List ItemR) (k:Nat) (J:List Itm):Prop where
 em:EmH S0 K x.rg 100 (x.rest nx) l k (bx x.rf 142 (x.cells pu)::J)
 n0:0≤nx
 nk:nx+k≤2199023255552
abbrev GnV (v:Value) (S0:PH) (x:FX) (pu nx:Int) (l:List ItemR) (k:Nat) (J:List Itm):Ending→PH→Prop:=fun e K'=>e=.returned v∧GnH S0 K' x pu nx l k J
abbrev GnQ (S0:PH) (x:FX) (pu nx:Int) (l:List ItemR) (k:Nat) (J:List Itm):Ending→PH→Prop:=GnV (.tuple #[]) S0 x pu nx l k J
section
variable {S0 K:PH} {x:FX} {pu nx:Int} {l l':List ItemR} {k k':Nat} {J:List Itm}
theorem GnH.sh (h:GnH S0 K x pu nx l k J):PH.le S0 K:=h.em.sh
theorem GnH.le {K':PH} (h:GnH S0 K x pu nx l k J) (hl:PH.le K K'):GnH S0 K' x pu nx l k J:=⟨h.em.le hl,h.n0,h.nk⟩
theorem GnH.less (h:GnH S0 K x pu nx l k J) (hk:k'≤k):GnH S0 K x pu nx l k' J:=⟨h.em.re (by have:=h.em.1;omega),h.n0,by have:=h.nk;omega⟩
theorem GnH.to (h:GnH S0 K x pu nx l k J) {g:FuncId} {args:Array Value} (t:EmH S0 K x.rg 100 (x.rest nx) l k (bx x.rf 142 (x.cells pu)::J)→Tri Tryz.prog g args K (EmQ S0 x.rg 100 (x.rest nx) l' k' (bx x.rf 142 (x.cells pu)::J))) (hk:k'≤k:=by omega):Tri Tryz.prog g args K (GnQ S0 x pu nx l' k' J):=
 (t h.em).mono fun e K' ⟨h1,h2⟩=>⟨h1,h2,h.n0,by have:=h.nk;omega⟩
theorem GnH.frow (h:GnH S0 K x pu nx l k J) (off n:Nat):rowAt K (some ⟨x.rf,off,none⟩) (((x.cells pu).drop off).take n):=by
 obtain ⟨_,S,iv,_,hh⟩:=h.em
 exact z1a (T:=142) (cs:=x.cells pu) hh (zmm _ (zmm _ (zms))) off n
theorem GnH.grow (h:GnH S0 K x pu nx l k J) (off n:Nat):rowAt K (some ⟨x.rg,off+1,none⟩) (((x.rest nx).drop off).take n):=by
 obtain ⟨_,S,iv,_,hh⟩:=h.em
 have:=z1a hh (zms) (off+1) n
 rwa [List.drop_succ_cons] at this
theorem z2a {P:Program} {X:List PanicEntry→PH→Prop} {β:Type} {E:List Value} {L:LK} {Q:β→List Value→PH→LK→Prop} {H:PH} {f:FuncId} {args:List VE} {g:Fm β} (hok:callB P f=true)
  (hc:Tri P f (args.map (evV E fun _=>0)).toArray H (GnQ S0 x pu nx l k J)) (hk:∀K',GnH S0 K' x pu nx l k J→den P X g E K' L Q):den P X (.call (.fn f) args (.tu []) [] g) E H L Q:=by
 refine z04 hok hc ?_
 rintro e K' ⟨rfl,h⟩
 exact ⟨_,[],rfl,rfl,rfl,z01,by rw [zan];exact hk K' h⟩
theorem Ze8 {P:Program} {X:List PanicEntry→PH→Prop} {β:Type} {E:List Value} {L:LK} {Q:β→List Value→PH→LK→Prop} {H:PH} {f:FuncId} {args:List VE} {g:Fm β} {pend:List (SV×List SV)} {n:Int} (hok:callB P f=true)
  (hc:Tri P f (args.map (evV E fun _=>0)).toArray H (GnV (.int .i64 n) S0 x pu nx l k J)) (hp:∀K',GnH S0 K' x pu nx l k J→z0o E K' pend) (hk:∀K',GnH S0 K' x pu nx l k J→den P X g (E++[.int .i64 n]) K' L Q):den P X (.call (.fn f) args (.sc (.int .i64)) pend g) E H L Q:=by
 refine z04 hok hc ?_
 rintro e K' ⟨rfl,h⟩
 exact ⟨_,[.int .i64 n],rfl,rfl,rfl,hp K' h,hk K' h⟩
def FX.has (x:FX) (r:Int):Prop:=0≤r∧r < x.place.length
theorem FX.at_get (r:Int) (hr:x.has r):∃n:Nat,r=(n:Int)∧x.place[n]?=some (x.at_ r):=by
 obtain ⟨h1,h2⟩:=hr
 refine ⟨r.toNat,by omega,?_⟩
 unfold FX.at_
 rw [zgd,zge (show r.toNat < x.place.length by omega)];rfl
theorem FX.at_le {S:PH} (hx:FOk S x) (r:Int) (hr:x.has r):0≤x.at_ r∧x.at_ r≤3000:=by
 obtain ⟨n,_,h⟩:=FX.at_get r hr
 exact hx.ply _ (zmg h)
theorem zj5 (hx:FOk S0 x) (h:GnH S0 K x pu nx l k J) (r:Int) (hr:x.has r):x.pv=.slice (z0d x.pv) x.place.length (slCap x.pv)∧(z0d x.pv).isSome=true∧rowAt K (pOf (eltV x.pv r 1)) [.int .i64 (x.at_ r)]:=by
 obtain ⟨b,c,hv⟩:=hx.pl.sl
 obtain ⟨n,rfl,hg⟩:=FX.at_get r hr
 obtain ⟨z1,_,cs,z2,z3⟩:=(hx.pl.le h.sh).get hg
 obtain ⟨rfl,_⟩:=csIK z2
 refine ⟨by rw [hv];simp [z0d,slCap],z1,z3⟩
theorem zib (hx:FOk S0 x) (h:GnH S0 K x pu nx l k J) (r:Int) (hr:x.has r):Gives Tryz.prog zdk [pAt x.rf,.int .i64 r] K (.bool (x.col r)):=by
 obtain ⟨z0,z1,z3⟩:=zj5 hx h r hr
 refine zbi [pAt x.rf,.int .i64 r] (by kernel_rfl) (by kernel_rfl) ?_
 refine ⟨fun _=>rfl,[x.pv],by rw [z0];rfl,h.frow 5 1,fun _=>?_,[.int .i64 (x.at_ r)],rfl,z3,rfl,PH.le_refl _⟩
 simp only [Chk.holds,evs,arI,zb5]
 have h2:=hr.2
 rw [z0]
 exact ⟨z1,hr.1,by show r < (x.place.length:Int);exact h2⟩
theorem zww (hx:FOk S0 x) (h:GnH S0 K x pu nx l k J) (r:Int) (hr:x.has r):Gives Tryz.prog zkv [pAt x.rf,.int .i64 r] K (.int .i64 (x.reg r)):=by
 obtain ⟨z0,z1,z3⟩:=zj5 hx h r hr
 obtain ⟨q1,q2⟩:=FX.at_le hx r hr
 refine zia [pAt x.rf,.int .i64 r] (by kernel_rfl) (by kernel_rfl) ?_
 refine ⟨fun _=>rfl,[x.pv],by rw [z0];rfl,h.frow 5 1,fun _=>?_,[.int .i64 (x.at_ r)],rfl,z3,?_,PH.le_refl _⟩
 ·simp only [Chk.holds,evs,arI,zb5]
  have h2:=hr.2
  rw [z0]
  exact ⟨z1,hr.1,by show r < (x.place.length:Int);exact h2⟩
 ·show Ending.returned (.int .i64 (IntKind.i64.wrap (1+x.at_ r)))=_
  rw [w64 (by omega) (by omega)];rfl
theorem zr5 (hx:FOk S0 x) (h:GnH S0 K x pu nx l k J) (r:Int) (hr:x.has r) (hp:0≤pu∧pu≤100000):Gives Tryz.prog zjs [pAt x.rf,.int .i64 r] K (.int .i64 (x.slot pu r)):=by
 obtain ⟨z0,z1,z3⟩:=zj5 hx h r hr
 obtain ⟨q1,q2⟩:=FX.at_le hx r hr
 obtain ⟨s1,s2⟩:=hx.sl
 refine zft [pAt x.rf,.int .i64 r] (by kernel_rfl) (by kernel_rfl) ?_
 refine ⟨fun _=>rfl,[x.pv],by rw [z0];rfl,h.frow 5 1,fun _=>?_,[.int .i64 (x.at_ r)],rfl,z3,[.int .i64 x.slots],rfl,h.frow 6 1,[.int .i64 pu],rfl,h.frow 8 1,?_,PH.le_refl _⟩
 ·simp only [Chk.holds,evs,arI,zb5]
  have h2:=hr.2
  rw [z0]
  exact ⟨z1,hr.1,by show r < (x.place.length:Int);exact h2⟩
 ·show Ending.returned (.int .i64 (IntKind.i64.wrap (IntKind.i64.wrap (IntKind.i64.wrap (x.at_ r - 24) - x.slots) - pu)))=_
  rw [w64 (n:=x.at_ r - 24) (by omega) (by omega),w64 (n:=x.at_ r - 24 - x.slots) (by omega) (by omega),w64 (by omega) (by omega)];rfl
theorem Z9v (hx:FOk S0 x) (r:Int) (hr:x.has r):InI (x.reg r):=by
 obtain ⟨q1,q2⟩:=FX.at_le hx r hr
 exact inJ (by unfold FX.reg;omega) (by unfold FX.reg;omega)
theorem Z55 (hx:FOk S0 x) (r:Int) (hr:x.has r) (hp:0≤pu∧pu≤100000):InI (x.slot pu r):=by
 obtain ⟨q1,q2⟩:=FX.at_le hx r hr
 obtain ⟨s1,s2⟩:=hx.sl
 exact inJ (by unfold FX.slot;omega) (by unfold FX.slot;omega)
def FX.get (x:FX) (r spare:Int):Int:=if x.col r=true then x.reg r else spare
def FX.getL (x:FX) (pu r spare:Int):List ItemR:=if x.col r=true then [] else [⟨0,⟨22,spare,30,0,x.slot pu r⟩,0,0⟩]
def FX.numL (x:FX) (pu r w:Int):List ItemR:=if x.col r=true then [⟨4,⟨20,x.reg r,0,0,0⟩,0,w⟩] else [⟨4,⟨20,26,0,0,0⟩,0,w⟩,⟨0,⟨23,26,30,0,x.slot pu r⟩,0,0⟩]
theorem Zew (hx:FOk S0 x) (r spare:Int) (hr:x.has r) (hs:InI spare):InI (x.get r spare):=by
 unfold FX.get;split
 ·exact Z9v hx r hr
 ·exact hs
theorem Zf8 (hx:FOk S0 x) (hp:0≤pu∧pu≤100000) (r spare:Int) (hr:x.has r) (hs:InI spare) (h:GnH S0 K x pu nx l (k+1) J):Tri Tryz.prog zl4 #[pAt x.rf,.int .i64 r,.int .i64 spare] K (GnV (.int .i64 (x.get r spare)) S0 x pu nx (l++x.getL pu r spare) k J):=by
 refine zi6 [pAt x.rf,.int .i64 r,.int .i64 spare] (by kernel_rfl) (by kernel_rfl) ?_
 refine z05 [.bool (x.col r)] z58 (zib hx h r hr) rfl z01 fun K1 l1=>?_
 have h1:=h.le l1
 simp only [cns]
 refine ⟨fun g=>?_,fun g=>?_⟩
 ·simp only [evs,arI,zb5] at g
  refine z05 [.int .i64 (x.reg r)] z9h (zww hx h1 r hr) rfl z01 fun K2 l2=>?_
  refine ⟨by unfold FX.get;rw [if_pos g];rfl,?_⟩
  unfold FX.getL;rw [if_pos g,zan]
  exact (h1.le l2).less (by omega)
 ·simp only [evs,arI,zb5] at g
  refine ⟨fun _=>rfl,[pAt x.rg],rfl,h1.frow 0 1,fun _=>rfl,?_⟩
  simp only [cns]
  refine z05 [.int .i64 (x.slot pu r)] z7y (zr5 hx h1 r hr hp) rfl (z1g (h1.frow 0 1) z01) fun K2 l2=>?_
  have h2:=h1.le l2
  simp only [cns]
  refine z2a z0a (h2.to (z19 spare 30 (x.slot pu r) hs (by decide) (Z55 hx r hr hp))) fun K3 h3=>?_
  refine ⟨by unfold FX.get;rw [if_neg (by rw [g];simp)];rfl,?_⟩
  unfold FX.getL;rw [if_neg (by rw [g];simp)]
  exact h3
theorem Z9g (hx:FOk S0 x) (hp:0≤pu∧pu≤100000) (r w:Int) (hr:x.has r) (hs:InI w) (h:GnH S0 K x pu nx l (k+2) J):Tri Tryz.prog zfw #[pAt x.rf,.int .i64 r,.int .i64 w] K (GnQ S0 x pu nx (l++x.numL pu r w) k J):=by
 refine zdw [pAt x.rf,.int .i64 r,.int .i64 w] (by kernel_rfl) (by kernel_rfl) ?_
 refine z05 [.bool (x.col r)] z58 (zib hx h r hr) rfl z01 fun K1 l1=>?_
 have h1:=h.le l1
 simp only [cns]
 refine ⟨fun g=>?_,fun g=>?_⟩
 ·simp only [evs,arI,zb5] at g
  refine ⟨fun _=>rfl,[pAt x.rg],rfl,h1.frow 0 1,fun _=>rfl,?_⟩
  simp only [cns]
  refine z05 [.int .i64 (x.reg r)] z9h (zww hx h1 r hr) rfl (z1g (h1.frow 0 1) z01) fun K2 l2=>?_
  have h2:=h1.le l2
  simp only [cns]
  refine z2a z08 (h2.to (z0t (x.reg r) w (Z9v hx r hr) hs)) fun K3 h3=>?_
  refine ⟨rfl,?_⟩
  unfold FX.numL;rw [if_pos g]
  exact h3.less (by omega)
 ·simp only [evs,arI,zb5] at g
  refine ⟨fun _=>rfl,[pAt x.rg],rfl,h1.frow 0 1,fun _=>rfl,?_⟩
  simp only [cns]
  refine z2a z08 (h1.to (z0t 26 w (by decide) hs)) fun K2 h2=>?_
  refine ⟨[pAt x.rg],rfl,h2.frow 0 1,fun _=>rfl,?_⟩
  simp only [cns]
  refine z05 [.int .i64 (x.slot pu r)] z7y (zr5 hx h2 r hr hp) rfl (z1g (h2.frow 0 1) z01) fun K3 l3=>?_
  have h3:=h2.le l3
  simp only [cns]
  refine z2a z09 (h3.to (z0y 26 30 (x.slot pu r) (by decide) (by decide) (Z55 hx r hr hp))) fun K4 h4=>?_
  refine ⟨rfl,?_⟩
  unfold FX.numL;rw [if_neg (by rw [g];simp)]
  simpa only [zaa,List.cons_append,List.nil_append] using h4
def growL (n:Int):List ItemR:=if n=0 then [] else [⟨0,⟨15,30,30,0,n⟩,0,0⟩]
theorem Ze0 (n:Int) (hn:InI n) (h:GnH S0 K x pu nx l (k+1) J):Tri Tryz.prog z9i #[pAt x.rf,.int .i64 n] K (GnQ S0 x pu nx (l++growL n) k J):=by
 refine z6e [pAt x.rf,.int .i64 n] (by kernel_rfl) (by kernel_rfl) ?_
 refine ⟨fun g=>?_,fun g=>?_⟩
 ·simp only [evs,arI,zb5,zdt] at g
  refine ⟨fun _=>rfl,[pAt x.rg],rfl,h.frow 0 1,fun _=>rfl,?_⟩
  simp only [cns]
  refine z2a z03 (h.to (z0g 15 30 30 n (by decide) (by decide) (by decide) hn)) fun K2 h2=>?_
  refine ⟨rfl,?_⟩
  unfold growL;rw [if_neg g];exact h2
 ·simp only [evs,arI,zb5,zdf] at g
  refine ⟨rfl,?_⟩
  unfold growL;rw [if_pos (by simpa using g),zan];exact h.less (by omega)
end
end Go.Proofs.YtfkclejklgoccaaGreat.Vc
namespace Go.Proofs.YtfkclejklgoccaaGreat.Vc
open Go Go.ChangeShapes Go.WideShapes Go.ChangeAt Go.RowKit
theorem Zcq {H:Type} {enc:TypeId×Value→H} {w:World} {v:Value} {d:DataW H} {p:List MemPlace} {r:Reach} {b:Nat} (hval:Value.okWide Tryz.prog w r b 3 v) (h:DataW.Trod enc Tryz.prog w 0 (fun _=>true) true 3 v d p) :
  ∃n:Int,v=.int .i64 n∧InI n:=by
 obtain ⟨n,rfl,rfl,rfl,hw⟩:=open_int (k:=.i64) (by kernel_rfl) hval h
 refine ⟨n,rfl,?_⟩
 simpa [Lit.wf,IntKind.min,IntKind.max,IntKind.bits,IntKind.signed,InI] using hw
instance decFills (x:InsX) (r:Int):Decidable (x.fills r):=by unfold InsX.fills;exact inferInstance
theorem z17 {n m:Nat} {J J':List Value→PH→Prop} {L:LK} (h:(n == m)=false) (hl:L.lookup n=some J):((m,J')::L).lookup n=some J:=by simp [List.lookup,h,hl]
theorem Zdw {p:PrcX} {i:Nat} (hi:i < p.blocks.length):(inL p)[i]?=some (liveL p i 0):=by
 unfold inL
 rw [zem,List.getElem?_range hi];rfl
theorem Z1x {p:PrcX} {i k:Nat} {b:BlkX} (hk:k < b.ins.length):(behL p i b)[k]?=some (liveL p i (k+1)):=by
 unfold behL
 rw [zem,List.getElem?_range hk];rfl
theorem Zc2 (p:PrcX) (i:Nat) (b:BlkX):(behL p i b).length=b.ins.length:=by simp [behL]
theorem Z52 (l:List UInt8):cmpS .eql ⟨l.toArray⟩ ⟨#[116,105,101]⟩=decide (l=tieB):=by
 show ((⟨l.toArray⟩:ByteArray).toList == (⟨tieB.toArray⟩:ByteArray).toList)=_
 rw [zlz]
theorem InI0:InI 0:=by decide
structure VX where
 kind:Int
 int:Int
 text:List UInt8
deriving DecidableEq,Inhabited
structure TX where
 kind:Int
 parts:List VX
deriving DecidableEq,Inhabited
abbrev HX:=List TX
def VX.pv (v:VX):List PV:=[.int .i64 v.kind,.int .i64 v.int,.str v.text]
instance encVal:Enc VX:=⟨VX.pv,3,fun _=>rfl⟩
structure TR where
 kind:Int
 b:Option Addr
 n:Nat
 c:Nat
def TR.sl (t:TR):Value:=.slice t.b t.n t.c
def TR.pv (t:TR):List PV:=[.int .i64 t.kind,.own t.b t.n t.c]
instance encThing:Enc TR:=⟨TR.pv,2,fun _=>rfl⟩
def isNum (n:Int):Bool:=decide (-1152921504606846976≤n∧n≤1152921504606846975)
def mayV (n:Nat) (v:VX):Bool:=
 if v.kind≠3∧v.text≠[] then false
 else if v.kind=0 then decide (v.int=0∨v.int=1)
 else if v.kind=1 then isNum v.int
 else if v.kind=2 then decide (0≤v.int∧v.int≤255)
 else if v.kind=3 then decide (v.int=0) && z6r v.text
 else if v.kind=4∨v.kind=5∨v.kind=6∨v.kind=7 then decide (v.int=0)
 else if v.kind=8 then decide (0≤v.int∧v.int < (n:Int))
 else false
def z4w (b:Bool):VX:=⟨0,if b then 1 else 0,[]⟩
def vNum (n:Int):VX:=⟨1,n,[]⟩
def vVoid:VX:=⟨5,0,[]⟩
def addX (h:HX) (kind:Int) (parts:List VX):HX×VX:=(h++[⟨kind,parts⟩],⟨8,h.length,[]⟩)
def zn6 (h:HX) (v:VX):Int:=if v.kind≠8 then -1 else (h.getD v.int.toNat default).kind
def Zdu (op:Nat) (x y:Int):VX×Int:=
 let told (n:Int):VX×Int:=if isNum n then (vNum n,0) else (⟨0,0,[]⟩,1)
 match op with
 | 0=>told (x+y)
 | 1=>told (x - y)
 | 2=>told (x * y)
 | 3=>if y=0 then (⟨0,0,[]⟩,2) else told (x.tdiv y)
 | _=>if y=0 then (⟨0,0,[]⟩,2) else told (x.tmod y)
def rowsX:List (List UInt8×List Int):=[([43],[1,1]),
 ([45],[1,1]),
 ([42],[1,1]),
 ([113,117,111,116,105,101,110,116],[1,1]),
 ([114,101,109,97,105,110,100,101,114],[1,1]),
 ([60],[1,1]),
 ([61],[1,1]),
 ([101,113,63],[-1,-1]),
 ([110,117,108,108,63],[-1]),
 ([115,121,109,98,111,108,63],[-1]),
 ([99,104,97,114,63],[-1]),
 ([105,110,116,101,103,101,114,63],[-1]),
 ([98,111,111,108,101,97,110,63],[-1]),
 ([101,111,102,45,111,98,106,101,99,116,63],[-1]),
 ([112,97,105,114,63],[-1]),
 ([118,101,99,116,111,114,63],[-1]),
 ([115,116,114,105,110,103,63],[-1]),
 ([112,114,111,99,101,100,117,114,101,63],[-1]),
 ([99,111,110,115],[-1,-1]),
 ([99,97,114],[10]),
 ([99,100,114],[10]),
 ([115,101,116,45,99,97,114,33],[10,-1]),
 ([115,101,116,45,99,100,114,33],[10,-1]),
 ([109,97,107,101,45,118,101,99,116,111,114],[1,-1]),
 ([109,97,107,101,45,115,116,114,105,110,103],[1,2]),
 ([118,101,99,116,111,114,45,108,101,110,103,116,104],[11]),
 ([115,116,114,105,110,103,45,108,101,110,103,116,104],[12]),
 ([118,101,99,116,111,114,45,114,101,102],[11,1]),
 ([115,116,114,105,110,103,45,114,101,102],[12,1]),
 ([118,101,99,116,111,114,45,115,101,116,33],[11,1,-1]),
 ([115,116,114,105,110,103,45,115,101,116,33],[12,1,2]),
 ([99,104,97,114,45,62,105,110,116,101,103,101,114],[2]),
 ([105,110,116,101,103,101,114,45,62,99,104,97,114],[1]),
 ([37,98,111,120],[-1]),
 ([37,117,110,98,111,120],[13]),
 ([37,115,101,116,45,98,111,120,33],[13,-1]),
 ([118,111,105,100],[]),
 ([37,117,110,115,101,116],[])]
def kOk (h:HX) (k:Int) (v:VX):Bool:=if 10≤k then decide (zn6 h v=k - 10) else if 0≤k then decide (v.kind=k) else true
def vNone:VX:=⟨0,0,[]⟩
def getX (h:HX) (v:VX) (i:Int):VX×Int:=
 let l:=(h.getD v.int.toNat default).parts
 if i < 0∨(l.length:Int)≤i then (vNone,83) else (l.getD i.toNat default,0)
def putX (h:HX) (v:VX) (i:Int) (x:VX):HX×VX×Int:=
 let t:=h.getD v.int.toNat default
 if i < 0∨(t.parts.length:Int)≤i then (h,vNone,83) else (h.set v.int.toNat ⟨t.kind,t.parts.set i.toNat x⟩,vVoid,0)
def Z4j (h:HX) (kind n:Int) (v:VX):HX×VX×Int:=
 if n < 0∨1000 < n then (h,vNone,83) else ((addX h kind (List.replicate n.toNat v)).1,(addX h kind (List.replicate n.toNat v)).2,0)
def zau (h:HX) (op:Nat) (a b:VX):HX×VX×Int:=
 let r:=Zdu op a.int b.int
 if r.2=1 then (h,vNone,81) else if r.2=2 then (h,vNone,82) else (h,r.1,0)
def actX (h:HX) (s:List UInt8) (args:List VX):HX×VX×Int:=
 let a:=args.getD 0 vNone
 let b:=args.getD 1 vNone
 let c:=args.getD 2 vNone
 let told (v:VX):HX×VX×Int:=(h,v,0)
 if s=[43] then zau h 0 a b
 else if s=[45] then zau h 1 a b
 else if s=[42] then zau h 2 a b
 else if s=[113,117,111,116,105,101,110,116] then zau h 3 a b
 else if s=[114,101,109,97,105,110,100,101,114] then zau h 4 a b
 else if s=[60] then told (z4w (decide (a.int < b.int)))
 else if s=[61]∨s=[101,113,63] then told (z4w (decide (a=b)))
 else if s=[110,117,108,108,63] then told (z4w (decide (a.kind=4)))
 else if s=[115,121,109,98,111,108,63] then told (z4w (decide (a.kind=3)))
 else if s=[99,104,97,114,63] then told (z4w (decide (a.kind=2)))
 else if s=[105,110,116,101,103,101,114,63] then told (z4w (decide (a.kind=1)))
 else if s=[98,111,111,108,101,97,110,63] then told (z4w (decide (a.kind=0)))
 else if s=[101,111,102,45,111,98,106,101,99,116,63] then told (z4w (decide (a.kind=6)))
 else if s=[112,97,105,114,63] then told (z4w (decide (zn6 h a=0)))
 else if s=[118,101,99,116,111,114,63] then told (z4w (decide (zn6 h a=1)))
 else if s=[115,116,114,105,110,103,63] then told (z4w (decide (zn6 h a=2)))
 else if s=[112,114,111,99,101,100,117,114,101,63] then told (z4w (decide (zn6 h a=4)))
 else if s=[99,111,110,115] then ((addX h 0 args).1,(addX h 0 args).2,0)
 else if s=[37,98,111,120] then ((addX h 3 args).1,(addX h 3 args).2,0)
 else if s=[109,97,107,101,45,118,101,99,116,111,114] then Z4j h 1 a.int b
 else if s=[109,97,107,101,45,115,116,114,105,110,103] then Z4j h 2 a.int b
 else if s=[118,101,99,116,111,114,45,108,101,110,103,116,104]∨s=[115,116,114,105,110,103,45,108,101,110,103,116,104] then told (vNum (h.getD a.int.toNat default).parts.length)
 else if s=[99,97,114]∨s=[37,117,110,98,111,120] then (h,getX h a 0)
 else if s=[99,100,114] then (h,getX h a 1)
 else if s=[118,101,99,116,111,114,45,114,101,102]∨s=[115,116,114,105,110,103,45,114,101,102] then (h,getX h a b.int)
 else if s=[115,101,116,45,99,97,114,33]∨s=[37,115,101,116,45,98,111,120,33] then putX h a 0 b
 else if s=[115,101,116,45,99,100,114,33] then putX h a 1 b
 else if s=[118,101,99,116,111,114,45,115,101,116,33]∨s=[115,116,114,105,110,103,45,115,101,116,33] then putX h a b.int c
 else if s=[99,104,97,114,45,62,105,110,116,101,103,101,114] then told (vNum a.int)
 else if s=[105,110,116,101,103,101,114,45,62,99,104,97,114] then if a.int < 0∨255 < a.int then (h,vNone,83) else told ⟨2,a.int,[]⟩
 else if s=[37,117,110,115,101,116] then told ⟨7,0,[]⟩
 else told vVoid
def doX (h:HX) (s:List UInt8) (args:List VX):HX×VX×Int:=
 match rowsX.find? fun r=>decide (r.1=s) with
 | none=>(h,vNone,1)
 | some r=>
  if r.2.length≠args.length then (h,vNone,1)
  else if !args.all (mayV h.length) then (h,vNone,1)
  else if !((r.2.zip args).all fun x=>kOk h x.1 x.2) then (h,vNone,80)
  else actX h s args
structure HeapOk (h:HX):Prop where
 may:∀t∈h,∀v∈t.parts,mayV h.length v=true
 kinds:∀t∈h,0≤t.kind∧t.kind≤4
 pair:∀t∈h,t.kind=0→t.parts.length=2
 box:∀t∈h,t.kind=3→t.parts.length=1
 str:∀t∈h,t.kind=2→∀v∈t.parts,v.kind=2
 few:∀t∈h,(t.parts.length:Int)≤1000
structure ActX where
 proc:Int
 regs:List VX
 clo:Int
 block:Int
 at_:Int
 to:Int
deriving DecidableEq,Inhabited
structure CloX where
 thing:Int
 proc:Int
 held:List VX
 kont:Bool
 acts:List ActX
deriving DecidableEq,Inhabited
structure MX where
 h:HX
 clos:List CloX
 acts:List ActX
 input:List UInt8
 out:List UInt8
 winders:VX
 told:VX
 done:Bool
 e:Int
deriving DecidableEq,Inhabited
abbrev CodeX:=List PrcX
def MX.find (m:MX) (v:VX):Option Nat:=m.clos.findIdx? fun c=>decide (v.kind=8) && decide (c.thing=v.int)
def MX.made (m:MX) (c:CloX):MX×VX:=
 let r:=addX m.h 4 []
 ({ m with h:=r.1,clos:=m.clos++[{ c with thing:=r.2.int }] },r.2)
def MX.tell (m:MX) (v:VX):MX:=
 match m.acts.getLast? with
 | none=>{ m with told:=v,done:=true }
 | some a=>{ m with acts:=m.acts.dropLast++[{ a with regs:=a.regs.set a.to.toNat v }] }
def Zei (p:PrcX) (proc:Int) (k:Nat) (args:List VX):ActX:=
 ⟨proc,(List.range p.regs.toNat).map fun i=>args.getD i ⟨7,0,[]⟩,(k:Int),0,0,0⟩
def prcAt (c:CodeX) (i:Int):PrcX:=c.getD i.toNat ⟨0,0,0,[]⟩
def MX.call (c:CodeX) (m:MX) (v:VX) (args:List VX) (behind:Bool):MX:=
 match m.find v with
 | none=>{ m with e:=90 }
 | some k=>
  let cl:=m.clos.getD k default
  if cl.kont then
   match args with
   | [x]=>({ m with acts:=cl.acts }:MX).tell x
   | _=>{ m with e:=91 }
  else
   let p:=prcAt c cl.proc
   if (args.length:Int)≠p.params then { m with e:=91 }
   else { m with acts:=(if behind then m.acts else m.acts.dropLast)++[Zei p cl.proc k args] }
def MX.prim (m:MX) (s:List UInt8) (args:List VX):MX×VX:=
 if s=[114,101,97,100,45,117,56] then
  match m.input with
  | []=>(m,⟨6,0,[]⟩)
  | b::l=>({ m with input:=l },⟨1,b.toNat,[]⟩)
 else if s=[119,114,105,116,101,45,117,56] then
  let a:=args.getD 0 vNone
  if a.kind≠1 then ({ m with e:=80 },vVoid)
  else if a.int < 0∨255 < a.int then ({ m with e:=83 },vVoid)
  else ({ m with out:=m.out++[UInt8.ofNat a.int.toNat] },vVoid)
 else if s=[101,114,114,111,114] then ({ m with e:=92 },vVoid)
 else if s=[37,119,105,110,100,101,114,115] then (m,m.winders)
 else if s=[37,119,105,110,100,33] then ({ m with winders:=args.getD 0 vNone },vVoid)
 else
  let r:=doX m.h s args
  ({ m with h:=r.1,e:=r.2.2 },r.2.1)
def MX.last (m:MX) (f:ActX→ActX):MX:=match m.acts.getLast? with
 | none=>m
 | some a=>{ m with acts:=m.acts.dropLast++[f a] }
def regAt (a:ActX) (r:Int):VX:=a.regs.getD r.toNat vNone
def MX.put (m:MX) (r:Int) (v:VX):MX:=m.last fun a=>{ a with regs:=a.regs.set r.toNat v }
def MX.ins (K:Dat→VX) (m:MX) (x:InsX):MX:=
 let a:=m.acts.getLast?.getD default
 let args:=x.args.map (regAt a)
 let told (r:MX×VX):MX:=if r.1.e=0 then r.1.put x.to r.2 else r.1
 if x.op=[99,111,110,115,116] then told (m,K x.const)
 else if x.op=[109,111,118,101] then told (m,args.getD 0 vNone)
 else if x.op=[104,101,108,100] then told (m,(m.clos.getD a.clo.toNat default).held.getD x.num.toNat vNone)
 else if x.op=[99,108,111,115,117,114,101] then told (m.made ⟨0,x.num,args,false,[]⟩)
 else if x.op=tieB then
  match m.find (args.getD 0 vNone) with
  | none=>{ m with e:=80 }
  | some k=>
   let c:=m.clos.getD k default
   if (c.held.length:Int)≤x.num then { m with e:=80 }
   else { m with clos:=m.clos.set k { c with held:=c.held.set x.num.toNat (args.getD 1 vNone) } }
 else told (m.prim x.op args)
def MX.fin (c:CodeX) (m:MX) (x:EndX):MX:=
 let a:=m.acts.getLast?.getD default
 let args:=x.args.map (regAt a)
 let v:=if x.kind=0 then vNone else regAt a x.reg
 let m1:=m.last fun a=>{ a with at_:=0,block:=if x.kind=1∧v=vNone then x.els else x.next,to:=x.to }
 if x.kind=2 then ({ m1 with acts:=m1.acts.dropLast }:MX).tell v
 else if x.kind=3 then m1.call c v args false
 else if x.kind=4 then m1.call c v args true
 else if x.kind=5 then
  let r:=m1.made ⟨0,0,[],true,m1.acts.dropLast⟩
  r.1.call c v [r.2] false
 else if x.kind=6 then
  let r:=m1.made ⟨0,0,[],true,m1.acts⟩
  r.1.call c v [r.2] true
 else m1
def blkAt (p:PrcX) (i:Int):BlkX:=p.blocks.getD i.toNat ⟨[],⟨0,0,[],0,0,0⟩⟩
def MX.step (K:Dat→VX) (c:CodeX) (m:MX):MX:=
 let a:=m.acts.getLast?.getD default
 let b:=blkAt (prcAt c a.proc) a.block
 match b.ins[a.at_.toNat]? with
 | some x=>(m.last fun a=>{ a with at_:=a.at_+1 }).ins K x
 | none=>m.fin c b.e
def MX.go (K:Dat→VX) (c:CodeX):Nat→MX→Nat→MX×Nat
 | fuel,m,n=>if m.e≠0∨m.done=true then (m,n) else match fuel with
  | 0=>({ m with e:=93 },n)
  | fuel+1=>MX.go K c fuel (m.step K c) (n+1)
def MX.first (c:CodeX) (input:List UInt8):MX:=
 let m:MX:=⟨[],[],[],input,[],⟨4,0,[]⟩,vNone,false,0⟩
 let r:=m.made ⟨0,0,[],false,[]⟩
 r.1.call c r.2 [] true
theorem Z58 (l:List VX) (r:Nat) (v:VX) (j:Nat):(l.set r v)[j]?=if r=j∧j < l.length then some v else l[j]?:=by
 rw [List.getElem?_set]
 by_cases e:r=j
 ·subst e
  by_cases h:r < l.length
  ·rw [if_pos rfl,if_pos h,if_pos ⟨rfl,h⟩]
  ·rw [if_pos rfl,if_neg h,if_neg (fun hh=>h hh.2),List.getElem?_eq_none (by omega)]
 ·rw [if_neg e,if_neg (fun h=>e h.1)]
structure AgreeR (L:Int→Prop) (l l':List VX):Prop where
 len:l.length=l'.length
 at_:∀r:Nat,L (r:Int)→l[r]?=l'[r]?
theorem AgreeR.refl (L:Int→Prop) (l:List VX):AgreeR L l l:=⟨rfl,fun _ _=>rfl⟩
theorem AgreeR.less {L L':Int→Prop} {l l':List VX} (h:AgreeR L l l') (hl:∀r,L' r→L r):AgreeR L' l l':=⟨h.len,fun r hr=>h.at_ r (hl _ hr)⟩
theorem AgreeR.reg {L:Int→Prop} {a a':ActX} (h:AgreeR L a.regs a'.regs) {r:Int} (h0:0≤r) (hr:L r):regAt a r=regAt a' r:=by
 unfold regAt
 rw [zgd,zgd,h.at_ r.toNat (by rw [show ((r.toNat:Nat):Int)=r by omega];exact hr)]
theorem AgreeR.set {L L':Int→Prop} {l l':List VX} (h:AgreeR L l l') {t:Int} (h0:0≤t) (v:VX) (hl:∀r,L' r→r=t∨L r):AgreeR L' (l.set t.toNat v) (l'.set t.toNat v):=by
 refine ⟨by simpa using h.len,fun r hr=>?_⟩
 rw [Z58,Z58,←h.len]
 by_cases e:t.toNat=r∧r < l.length
 ·rw [if_pos e,if_pos e]
 ·rw [if_neg e,if_neg e]
  rcases hl _ hr with h1 | h1
  ·have e1:t.toNat=r:=by omega
   have e2:¬r < l.length:=fun hh=>e ⟨e1,hh⟩
   rw [List.getElem?_eq_none (by omega),List.getElem?_eq_none (by rw [←h.len];omega)]
  ·exact h.at_ r h1
inductive Reach (K:Dat→VX) (c:CodeX):Nat→MX→MX→Prop
 | zero (m:MX):Reach K c 0 m m
 | step {s:Nat} {m m2:MX}:m.e=0→m.done=false→Reach K c s (m.step K c) m2→Reach K c (s+1) m m2
theorem Reach.trans {K:Dat→VX} {c:CodeX} {s t:Nat} {m m2 m3:MX} (h:Reach K c s m m2) (h2:Reach K c t m2 m3):Reach K c (s+t) m m3:=by
 induction h with
 | zero m=>rw [Nat.zero_add];exact h2
 | @step s m m2 e1 e2 _ ih=>
  rw [show s+1+t=s+t+1 by omega]
  exact .step e1 e2 (ih h2)
structure CloR (W:ActX→ActX→Prop) (x y:CloX):Prop where
 thing:x.thing=y.thing
 proc:x.proc=y.proc
 held:x.held=y.held
 kont:x.kont=y.kont
 acts:All2 W x.acts y.acts
structure CoreR (W:ActX→ActX→Prop) (m m':MX):Prop where
 h:m.h=m'.h
 input:m.input=m'.input
 out:m.out=m'.out
 winders:m.winders=m'.winders
 told:m.told=m'.told
 e:m.e=m'.e
 done:m.done=m'.done
 clos:All2 (CloR W) m.clos m'.clos
theorem CoreR.acts {W:ActX→ActX→Prop} {m m':MX} (h:CoreR W m m') (l l':List ActX):CoreR W { m with acts:=l } { m' with acts:=l' }:=⟨h.h,h.input,h.out,h.winders,h.told,h.e,h.done,h.clos⟩
structure MR (W P:ActX→ActX→Prop) (m m':MX):Prop where
 core:CoreR W m m'
 e0:m.e=0
 d0:m.done=false
 acts:∃ws a ws' a',m.acts=ws++[a]∧m'.acts=ws'++[a']∧All2 W ws ws'∧P a a'
structure CodeOk (c:CodeX):Prop where
 ins:∀p∈c,∀b∈p.blocks,∀x∈b.ins,(∀r∈x.args,0≤r)∧(x.op≠tieB→0≤x.to)
 fin:∀p∈c,∀b∈p.blocks,(∀r∈b.e.args,0≤r)∧0≤b.e.reg∧0≤b.e.to∧(b.e.kind=0∨b.e.kind=1∨b.e.kind=4∨b.e.kind=6→0≤b.e.next∧b.e.next < p.blocks.length)∧(b.e.kind=1→0≤b.e.els∧b.e.els < p.blocks.length)∧0≤b.e.kind∧b.e.kind≤6∧(b.e.args≠[]→b.e.kind=3∨b.e.kind=4)
def z1y:List UInt8:=[99,111,110,115,116]
section
variable (c:CodeX) (i bi:Nat) (p:PrcX) (bl:BlkX) (t:Int) (d:Dat)
def offX (a:ActX):Int:=if a.proc.toNat=i∧a.block.toNat=bi then 1 else 0
def needX (a:ActX) (r:Int):Prop:=z1z (prcAt c a.proc) r a.block.toNat a.at_.toNat∨(prcAt c a.proc).blocks[a.block.toNat]?=none
structure RunX (a a':ActX):Prop where
 proc:a'.proc=a.proc
 clo:a.clo=a'.clo
 block:a'.block=a.block
 at0:0≤a.at_
 len:a.at_≤(blkAt (prcAt c a.proc) a.block).ins.length
 at_:a'.at_=a.at_+offX i bi a∨(a.at_=0∧a'.at_=0)
 regs:AgreeR (needX c a) a.regs a'.regs
structure WaitX (a a':ActX):Prop where
 proc:a'.proc=a.proc
 clo:a.clo=a'.clo
 block:a'.block=a.block
 at0:a.at_=0
 at0':a'.at_=0
 to:a'.to=a.to
 to0:0≤a.to
 regs:AgreeR (fun r=>needX c a r∧r≠a.to) a.regs a'.regs
end
section
variable {c:CodeX} {i bi:Nat} {p:PrcX} {bl:BlkX} {t:Int} {d:Dat}
end
def ar0:List (List UInt8):=[[114,101,97,100,45,117,56],[101,114,114,111,114],[118,111,105,100],[37,119,105,110,100,101,114,115],[37,117,110,115,101,116]]
def ar1:List (List UInt8):=[[110,117,108,108,63],[112,97,105,114,63],[118,101,99,116,111,114,63],[115,116,114,105,110,103,63],[115,121,109,98,111,108,63],[99,104,97,114,63],[105,110,116,101,103,101,114,63],[98,111,111,108,101,97,110,63],[112,114,111,99,101,100,117,114,101,63],[101,111,102,45,111,98,106,101,99,116,63],[99,97,114],[99,100,114],[118,101,99,116,111,114,45,108,101,110,103,116,104],[115,116,114,105,110,103,45,108,101,110,103,116,104],[99,104,97,114,45,62,105,110,116,101,103,101,114],[105,110,116,101,103,101,114,45,62,99,104,97,114],[119,114,105,116,101,45,117,56],[37,98,111,120],[37,117,110,98,111,120],[37,119,105,110,100,33],[37,99,97,108,108,99,99]]
def ar2:List (List UInt8):=[[43],[45],[42],[113,117,111,116,105,101,110,116],[114,101,109,97,105,110,100,101,114],[60],[61],[101,113,63],[99,111,110,115],[115,101,116,45,99,97,114,33],[115,101,116,45,99,100,114,33],[109,97,107,101,45,118,101,99,116,111,114],[118,101,99,116,111,114,45,114,101,102],[109,97,107,101,45,115,116,114,105,110,103],[115,116,114,105,110,103,45,114,101,102],[37,115,101,116,45,98,111,120,33]]
def ar3:List (List UInt8):=[[118,101,99,116,111,114,45,115,101,116,33],[115,116,114,105,110,103,45,115,101,116,33]]
def z3w (p:List UInt8):Int:=if ar0.contains p then 0 else if ar1.contains p then 1 else if ar2.contains p then 2 else if ar3.contains p then 3 else -1
def dat0:Dat:=.mk 0 0 [] []
def z43 (d:Dat):Bool:=decide (d.kind=0) && decide (d.int=0) && d.text.isEmpty && d.list.isEmpty
theorem isDat0_iff {d:Dat}:z43 d=true↔d=dat0:=by
 obtain ⟨k,n,t,l⟩:=d
 show (decide (k=0) && decide (n=0) && t.isEmpty && l.isEmpty)=true↔Dat.mk k n t l=.mk 0 0 [] []
 simp [and_assoc]
def z2l (d:Dat):Bool:=decide ((d.chk 0 0).2=0) && (decide (d.kind=0) || decide (d.kind=1) || decide (d.kind=2) || decide (d.kind=4) || (decide (d.kind=5) && d.list.isEmpty))
def movB:List UInt8:=[109,111,118,101]
def hldB:List UInt8:=[104,101,108,100]
def cloB:List UInt8:=[99,108,111,115,117,114,101]
def ccB:List UInt8:=[37,99,97,108,108,99,99]
def z0f (p:PrcX) (l:List Int):Bool:=l.all fun r=>decide (0≤r∧r < p.regs)
def insOk (c:CodeX) (p:PrcX) (x:InsX):Bool:=
 if !z0f p x.args || (!z0f p [x.to] && !decide (x.op=tieB)) then false
 else if x.op=z1y then decide (x.args.length=0) && decide (x.num=0) && z2l x.const
 else if x.op=movB then decide (x.args.length=1) && decide (x.num=0) && z43 x.const
 else if x.op=hldB then decide (x.args.length=0) && decide (0≤x.num) && decide (x.num < p.holds) && z43 x.const
 else if x.op=cloB then decide (1≤x.num) && decide (x.num < c.length) && decide ((x.args.length:Int)=(prcAt c x.num).holds) && z43 x.const
 else if x.op=tieB then decide (x.args.length=2) && decide (0≤x.num) && decide (x.to=0) && z43 x.const
 else if x.op=ccB then false
 else decide (z3w x.op=x.args.length) && decide (x.num=0) && z43 x.const
def finOk (p:PrcX) (e:EndX):Bool:=
 let reg:=z0f p [e.reg]
 let to:=z0f p [e.to]
 let args:=z0f p e.args && decide (e.args.length≤6)
 let none:=e.args.isEmpty
 let next:=decide (0≤e.next) && decide (e.next < p.blocks.length)
 let other:=decide (0≤e.els) && decide (e.els < p.blocks.length)
 if e.kind=0 then next && none && decide (e.reg=0) && decide (e.to=0) && decide (e.els=0)
 else if e.kind=1 then next && other && none && reg && decide (e.to=0)
 else if e.kind=2∨e.kind=5 then reg && none && decide (e.to=0) && decide (e.next=0) && decide (e.els=0)
 else if e.kind=3 then reg && args && decide (e.to=0) && decide (e.next=0) && decide (e.els=0)
 else if e.kind=4 then reg && args && to && next && decide (e.els=0)
 else if e.kind=6 then reg && none && to && next && decide (e.els=0)
 else false
def BlkX.many (b:BlkX):Nat:=1+b.ins.length
def PrcX.many (p:PrcX):Nat:=(p.blocks.map BlkX.many).sum
def manyC (c:CodeX):Nat:=(c.map PrcX.many).sum
def prcOk (c:CodeX) (p:PrcX):Bool:=
 decide (0≤p.params) && decide (p.params≤6) && decide (0≤p.holds) && decide (p.holds≤1000) && decide (p.params≤p.regs) && !p.blocks.isEmpty &&
  p.blocks.all fun b=>b.ins.all (insOk c p) && finOk p b.e
def z3b (c:CodeX):Bool:=(c.any fun p=>decide (2000 < p.regs)) || decide (4096 < manyC c) || decide (300 < c.length)
def z3l (c:CodeX):Int:=
 if z3b c then 151
 else match c with
 | []=>150
 | p::_=>if decide (p.params=0) && decide (p.holds=0) && c.all (prcOk c) then 0 else 150
structure GoodC (c:CodeX):Prop where
 many:manyC c≤4096
 few:c.length≤300
 regs:∀p∈c,p.regs≤2000
 first:∃p l,c=p::l∧p.params=0∧p.holds=0
 prcs:∀p∈c,prcOk c p=true
theorem zvs {α:Type} (f:α→Nat):∀{l:List α} {a:α},a∈l→f a≤(l.map f).sum
 | b::l,a,h=>by
  rw [List.map_cons,List.sum_cons]
  rcases zmc.1 h with rfl | h
  ·omega
  ·have:=zvs f h;omega
theorem Z5d {α:Type} (f:α→Nat) (h:∀a,1≤f a):∀l:List α,l.length≤(l.map f).sum
 | []=>Nat.zero_le _
 | a::l=>by
  have:=Z5d f h l
  have:=h a
  rw [List.map_cons,List.sum_cons,zlc];omega
theorem Z1f {p:PrcX} {b:BlkX} (h:b∈p.blocks):1+b.ins.length≤p.many:=zvs BlkX.many h
theorem zz9 {c:CodeX} {p:PrcX} (h:p∈c):p.many≤manyC c:=zvs PrcX.many h
theorem Z9y (p:PrcX):p.blocks.length≤p.many:=Z5d BlkX.many (fun b=>by unfold BlkX.many;omega) p.blocks
structure GoodP (c:CodeX) (p:PrcX):Prop where
 params:0≤p.params∧p.params≤6
 holds:0≤p.holds∧p.holds≤1000
 regs:p.params≤p.regs∧p.regs≤2000
 blocks:0 < p.blocks.length∧p.blocks.length≤4096
 ins:∀b∈p.blocks,b.ins.length≤4096∧∀x∈b.ins,insOk c p x=true
 fin:∀b∈p.blocks,finOk p b.e=true
theorem GoodC.prc {c:CodeX} (h:GoodC c) {p:PrcX} (hp:p∈c):GoodP c p:=by
 have h1:=h.prcs p hp
 simp only [prcOk,zba,zdt,Bool.not_eq_true',zat,List.isEmpty_eq_false_iff] at h1
 have h2:=zz9 hp
 have h3:=h.many
 have h4:=h.regs p hp
 have h5:=Z9y p
 refine ⟨by omega,by omega,by omega,⟨List.length_pos_iff.2 h1.1.2,by omega⟩,fun b hb=>⟨?_,(h1.2 b hb).1⟩,fun b hb=>(h1.2 b hb).2⟩
 have:=Z1f hb;omega
theorem Za0 {c:CodeX} {i:Int} (h0:0≤i) (h1:i < c.length):prcAt c i∈c∧c[i.toNat]?=some (prcAt c i):=by
 have hlt:i.toNat < c.length:=by omega
 have:prcAt c i=c[i.toNat]:=by
  unfold prcAt
  rw [zgd,zge hlt];rfl
 rw [this]
 exact ⟨List.getElem_mem hlt,zge hlt⟩
theorem regsOk_iff {p:PrcX} {l:List Int}:z0f p l=true↔∀r∈l,0≤r∧r < p.regs:=by
 unfold z0f;rw [zat];simp only [zdt]
structure InsGood (c:CodeX) (p:PrcX) (x:InsX):Prop where
 args:∀r∈x.args,0≤r∧r < p.regs
 to:x.op≠tieB→0≤x.to∧x.to < p.regs
 konst:x.op=z1y→z2l x.const=true
 move:x.op=movB→x.args.length=1
 held:x.op=hldB→0≤x.num∧x.num < p.holds
 closure:x.op=cloB→1≤x.num∧x.num < c.length∧(x.args.length:Int)=(prcAt c x.num).holds
 tie:x.op=tieB→x.args.length=2∧0≤x.num
 prim:x.op≠z1y→x.op≠movB→x.op≠hldB→x.op≠cloB→x.op≠tieB→z3w x.op=x.args.length
theorem Z6v {c:CodeX} {p:PrcX} {x:InsX} (h:insOk c p x=true):InsGood c p x:=by
 unfold insOk at h
 split at h
 ·cases h
 rename_i h1
 simp only [Bool.or_eq_true,zba,Bool.not_eq_true',zdf,not_or,not_and,Bool.not_eq_false] at h1
 have ha:=regsOk_iff.1 h1.1
 have ht:x.op≠tieB→0≤x.to∧x.to < p.regs:=fun hop=>by
  have:z0f p [x.to]=true:=by
   cases hr:z0f p [x.to] with
   | true=>rfl
   | false=>exact absurd hop (by simpa using h1.2 hr)
  exact regsOk_iff.1 this _ (zsi.2 rfl)
 have dd:z1y≠movB∧z1y≠hldB∧z1y≠cloB∧z1y≠tieB∧movB≠hldB∧movB≠cloB∧movB≠tieB∧hldB≠cloB∧hldB≠tieB∧cloB≠tieB:=by decide
 obtain ⟨d1,d2,d3,d4,d5,d6,d7,d8,d9,d10⟩:=dd
 by_cases e1:x.op=z1y
 ·rw [if_pos e1] at h
  simp only [zba] at h
  exact ⟨ha,ht,fun _=>h.2,fun e=>absurd (e1.symm.trans e) d1,fun e=>absurd (e1.symm.trans e) d2,fun e=>absurd (e1.symm.trans e) d3,fun e=>absurd (e1.symm.trans e) d4,fun e=>absurd e1 e⟩
 rw [if_neg e1] at h
 by_cases e2:x.op=movB
 ·rw [if_pos e2] at h
  simp only [zba,zdt] at h
  exact ⟨ha,ht,fun e=>absurd e e1,fun _=>h.1.1,fun e=>absurd (e2.symm.trans e) d5,fun e=>absurd (e2.symm.trans e) d6,fun e=>absurd (e2.symm.trans e) d7,fun _ e=>absurd e2 e⟩
 rw [if_neg e2] at h
 by_cases e3:x.op=hldB
 ·rw [if_pos e3] at h
  simp only [zba,zdt] at h
  exact ⟨ha,ht,fun e=>absurd e e1,fun e=>absurd e e2,fun _=>⟨h.1.1.2,h.1.2⟩,fun e=>absurd (e3.symm.trans e) d8,fun e=>absurd (e3.symm.trans e) d9,fun _ _ e=>absurd e3 e⟩
 rw [if_neg e3] at h
 by_cases e4:x.op=cloB
 ·rw [if_pos e4] at h
  simp only [zba,zdt] at h
  exact ⟨ha,ht,fun e=>absurd e e1,fun e=>absurd e e2,fun e=>absurd e e3,fun _=>⟨h.1.1.1,h.1.1.2,h.1.2⟩,fun e=>absurd (e4.symm.trans e) d10,fun _ _ _ e=>absurd e4 e⟩
 rw [if_neg e4] at h
 by_cases e5:x.op=tieB
 ·rw [if_pos e5] at h
  simp only [zba,zdt] at h
  exact ⟨ha,ht,fun e=>absurd e e1,fun e=>absurd e e2,fun e=>absurd e e3,fun e=>absurd e e4,fun _=>⟨h.1.1.1,h.1.1.2⟩,fun _ _ _ _ e=>absurd e5 e⟩
 rw [if_neg e5] at h
 split at h
 ·cases h
 simp only [zba,zdt] at h
 exact ⟨ha,ht,fun e=>absurd e e1,fun e=>absurd e e2,fun e=>absurd e e3,fun e=>absurd e e4,fun e=>absurd e e5,fun _ _ _ _ _=>h.1.1⟩
structure FinGood (p:PrcX) (e:EndX):Prop where
 kind:0≤e.kind∧e.kind≤6
 reg:e.kind≠0→0≤e.reg∧e.reg < p.regs
 reg0:0≤e.reg
 to0:0≤e.to
 args:∀r∈e.args,0≤r∧r < p.regs
 few:e.args.length≤6
 argsK:e.args≠[]→e.kind=3∨e.kind=4
 next:e.kind=0∨e.kind=1∨e.kind=4∨e.kind=6→0≤e.next∧e.next < p.blocks.length
 els:e.kind=1→0≤e.els∧e.els < p.blocks.length
 nextA:0≤e.next∧(e.next < p.blocks.length∨e.next=0)
 to:e.kind=4∨e.kind=6→0≤e.to∧e.to < p.regs
theorem Z5q {p:PrcX} {e:EndX} (h:finOk p e=true):FinGood p e:=by
 have r1:∀{r:Int},z0f p [r]=true→0≤r∧r < p.regs:=fun h=>regsOk_iff.1 h _ (zsi.2 rfl)
 unfold finOk at h
 simp only at h
 have nil:∀{P:Prop},e.args.isEmpty=true→((∀r∈e.args,0≤r∧r < p.regs)∧e.args.length≤6∧(e.args≠[]→P)):=fun {P} hn=>by
  have:e.args=[]:=List.isEmpty_iff.1 hn
  rw [this];simp
 by_cases k0:e.kind=0
 ·rw [if_pos k0] at h
  simp only [zba,zdt] at h
  obtain ⟨a1,a2,a3⟩:=nil (P:=e.kind=3∨e.kind=4) h.1.1.1.2
  exact ⟨by omega,fun hk=>absurd k0 hk,by omega,by omega,a1,a2,a3,fun _=>h.1.1.1.1,by omega,by omega,by omega⟩
 rw [if_neg k0] at h
 by_cases k1:e.kind=1
 ·rw [if_pos k1] at h
  simp only [zba,zdt] at h
  obtain ⟨a1,a2,a3⟩:=nil (P:=e.kind=3∨e.kind=4) h.1.1.2
  have:=r1 h.1.2
  exact ⟨by omega,fun _=>this,by omega,by omega,a1,a2,a3,fun _=>h.1.1.1.1,fun _=>h.1.1.1.2,by omega,by omega⟩
 rw [if_neg k1] at h
 by_cases k2:e.kind=2∨e.kind=5
 ·rw [if_pos k2] at h
  simp only [zba,zdt] at h
  obtain ⟨a1,a2,a3⟩:=nil (P:=e.kind=3∨e.kind=4) h.1.1.1.2
  have:=r1 h.1.1.1.1
  exact ⟨by omega,fun _=>this,by omega,by omega,a1,a2,a3,by omega,by omega,by omega,by omega⟩
 rw [if_neg k2] at h
 by_cases k3:e.kind=3
 ·rw [if_pos k3] at h
  simp only [zba,zdt] at h
  have:=r1 h.1.1.1.1
  exact ⟨by omega,fun _=>this,by omega,by omega,regsOk_iff.1 h.1.1.1.2.1,h.1.1.1.2.2,fun _=>.inl k3,by omega,by omega,by omega,by omega⟩
 rw [if_neg k3] at h
 by_cases k4:e.kind=4
 ·rw [if_pos k4] at h
  simp only [zba,zdt] at h
  have:=r1 h.1.1.1.1
  have h2:=r1 h.1.1.2
  exact ⟨by omega,fun _=>this,by omega,by omega,regsOk_iff.1 h.1.1.1.2.1,h.1.1.1.2.2,fun _=>.inr k4,fun _=>h.1.2,by omega,by omega,fun _=>h2⟩
 rw [if_neg k4] at h
 by_cases k6:e.kind=6
 ·rw [if_pos k6] at h
  simp only [zba,zdt] at h
  obtain ⟨a1,a2,a3⟩:=nil (P:=e.kind=3∨e.kind=4) h.1.1.1.2
  have:=r1 h.1.1.1.1
  have h2:=r1 h.1.1.2
  exact ⟨by omega,fun _=>this,by omega,by omega,a1,a2,a3,fun _=>h.1.2,by omega,by omega,fun _=>h2⟩
 rw [if_neg k6] at h
 cases h
theorem GoodC.ok {c:CodeX} (h:GoodC c):CodeOk c:=by
 refine ⟨fun p hp b hb x hx=>?_,fun p hp b hb=>?_⟩
 ·have hx:=Z6v (((h.prc hp).ins b hb).2 x hx)
  exact ⟨fun r hr=>(hx.args r hr).1,fun hop=>(hx.to hop).1⟩
 ·have he:=Z5q ((h.prc hp).fin b hb)
  exact ⟨fun r hr=>(he.args r hr).1,he.reg0,he.to0,he.next,he.els,he.kind.1,he.kind.2,he.argsK⟩
theorem Z2z (p:List UInt8) (H:PH):Gives Tryz.prog zzo [txt p] H (.int .i64 (z3w p)):=by
 refine zuu [txt p] (by kernel_rfl) (by kernel_rfl) ?_
 refine ⟨fun vs H'=>vs=[.bool (ar0.contains p)]∧H'=H,?_,?_⟩
 ·rintro vs H' _ ⟨rfl,rfl⟩
  refine ⟨fun h=>?_,fun h=>?_⟩
  ·simp only [evs,arI,zb5] at h
   exact ⟨by simp only [evs,arI,zb5,z3w,h];rfl,PH.le_refl _⟩
  simp only [evs,arI,zb5] at h
  refine ⟨fun vs H2=>vs=[.bool (ar1.contains p)]∧H2=H',?_,?_⟩
  ·rintro vs H' _ ⟨rfl,rfl⟩
   refine ⟨fun h2=>?_,fun h2=>?_⟩
   ·simp only [evs,arI,zb5] at h2
    exact ⟨by simp only [evs,arI,zb5,z3w,h,h2];rfl,PH.le_refl _⟩
   simp only [evs,arI,zb5] at h2
   refine ⟨fun vs H3=>vs=[.bool (ar2.contains p)]∧H3=H',?_,?_⟩
   ·rintro vs H' _ ⟨rfl,rfl⟩
    refine ⟨fun h3=>?_,fun h3=>?_⟩
    ·simp only [evs,arI,zb5] at h3
     exact ⟨by simp only [evs,arI,zb5,z3w,h,h2,h3];rfl,PH.le_refl _⟩
    simp only [evs,arI,zb5] at h3
    refine ⟨fun h4=>?_,fun h4=>?_⟩
    ·simp only [evs,arI,zb5,z1h] at h4
     have:ar3.contains p=true:=by simp [ar3] at h4 ⊢;exact h4
     exact ⟨by simp only [evs,arI,zb5,z3w,h,h2,h3,this];rfl,PH.le_refl _⟩
    ·simp only [evs,arI,zb5,z1h] at h4
     have:ar3.contains p=false:=by simp [ar3] at h4 ⊢;exact h4
     exact ⟨by simp only [evs,arI,zb5,z3w,h,h2,h3,this];rfl,PH.le_refl _⟩
   ·repeat' refine And.intro (fun h=>?_) (fun h=>?_)
    all_goals
     refine ⟨_,z00,?_,rfl⟩
     simp only [evs,arI,zb5,z1h,zdt,zdf] at *
     simp_all [ar2]
  ·repeat' refine And.intro (fun h=>?_) (fun h=>?_)
   all_goals
    refine ⟨_,z00,?_,rfl⟩
    simp only [evs,arI,zb5,z1h,zdt,zdf] at *
    simp_all [ar1]
 ·repeat' refine And.intro (fun h=>?_) (fun h=>?_)
  all_goals
   refine ⟨_,z00,?_,rfl⟩
   simp only [evs,arI,zb5,z1h,zdt,zdf] at *
   simp_all [ar0]
def z1k (d:Dat):ValW:=
 if (d.chk 0 0).2≠0 then ⟨0,0,[]⟩
 else if d.kind=0 then ⟨0,d.int,[]⟩
 else if d.kind=1 then ⟨1,d.int,[]⟩
 else if d.kind=2 then ⟨2,d.int,[]⟩
 else if d.kind=4 then ⟨3,0,d.text⟩
 else if d.kind=5∧d.list.isEmpty=true then ⟨4,0,[]⟩
 else ⟨0,0,[]⟩
theorem zlp (d:Dat) (cs:List Value) (H:PH) (hd:d.Rep H cs):Gives Tryz.prog zzk [.agg cs.toArray] H (.tuple #[.agg (valW (z1k d)).toArray,.bool (z2l d)]):=by
 have hc:=zxo d cs H hd
 obtain ⟨sv,rfl,hk,hn,ht,hs⟩:=Dat.Rep_iff.1 hd
 obtain ⟨b,c,rfl⟩:=hs.sl
 refine zu5 [.int .i64 d.kind,.int .i64 d.int,txt d.text,.slice b d.list.length c] (by kernel_rfl) (by kernel_rfl) ?_
 refine z05 [.int .i64 (d.chk 0 0).2] zxx hc rfl z01 fun H1 h1=>⟨fun g=>?_,fun g=>?_⟩
 ·simp only [evs,arI,zb5,zdt] at g
  refine ⟨?_,h1⟩
  have e1:z2l d=false:=by unfold z2l;simp [g]
  have e2:z1k d=⟨0,0,[]⟩:=by unfold z1k;rw [if_pos g]
  rw [e1,e2];rfl
 simp only [evs,arI,zb5,zdf,ne_eq,Decidable.not_not] at g
 have e1:z2l d=(decide (d.kind=0) || decide (d.kind=1) || decide (d.kind=2) || decide (d.kind=4) || (decide (d.kind=5) && d.list.isEmpty)):=by
  unfold z2l;rw [g];simp
 have e2:z1k d=if d.kind=0 then ⟨0,d.int,[]⟩ else if d.kind=1 then ⟨1,d.int,[]⟩ else if d.kind=2 then ⟨2,d.int,[]⟩ else if d.kind=4 then ⟨3,0,d.text⟩ else if d.kind=5∧d.list.isEmpty=true then ⟨4,0,[]⟩ else ⟨0,0,[]⟩:=by
  unfold z1k;rw [if_neg (by omega)]
 rw [e1,e2]
 refine ⟨fun vs K=>vs=[]∧K=H1∧d.kind≠0∧d.kind≠1∧d.kind≠2∧d.kind≠4∧¬(d.kind=5∧d.list.isEmpty=true),?_,fun g0=>?_,fun g0=>?_⟩
 ·rintro vs K _ ⟨rfl,rfl,n0,n1,n2,n4,n5⟩
  refine ⟨?_,h1⟩
  rw [if_neg n0,if_neg n1,if_neg n2,if_neg n4,if_neg n5]
  have:(decide (d.kind=0) || decide (d.kind=1) || decide (d.kind=2) || decide (d.kind=4) || (decide (d.kind=5) && d.list.isEmpty))=false:=by
   simp only [n0,n1,n2,n4,decide_false,Bool.false_or,Bool.and_eq_false_iff,zdf,List.isEmpty_eq_false_iff]
   by_cases h5:d.kind=5
   ·exact .inr fun h=>n5 ⟨h5,by rw [h];rfl⟩
   ·exact .inl h5
  rw [this];rfl
 ·simp only [evs,arI,zb5,zdt] at g0
  refine ⟨?_,h1⟩
  rw [if_pos g0];simp only [g0,decide_true,Bool.true_or];rfl
 simp only [evs,arI,zb5,zdf] at g0
 refine ⟨fun g1=>?_,fun g1=>?_⟩
 ·simp only [evs,arI,zb5,zdt] at g1
  refine ⟨?_,h1⟩
  rw [if_neg g0,if_pos g1];simp only [g1,decide_true,Bool.true_or,Bool.or_true];rfl
 simp only [evs,arI,zb5,zdf] at g1
 refine ⟨fun g2=>?_,fun g2=>?_⟩
 ·simp only [evs,arI,zb5,zdt] at g2
  refine ⟨?_,h1⟩
  rw [if_neg g0,if_neg g1,if_pos g2];simp only [g2,decide_true,Bool.true_or,Bool.or_true];rfl
 simp only [evs,arI,zb5,zdf] at g2
 refine ⟨fun g4=>?_,fun g4=>?_⟩
 ·simp only [evs,arI,zb5,zdt] at g4
  refine ⟨?_,h1⟩
  rw [if_neg g0,if_neg g1,if_neg g2,if_pos g4];simp only [g4,decide_true,Bool.true_or,Bool.or_true];rfl
 simp only [evs,arI,zb5,zdf] at g4
 refine ⟨fun g5=>?_,fun g5=>?_⟩
 ·simp only [evs,arI,zb5,zdt] at g5
  refine ⟨fun g6=>?_,fun g6=>?_⟩
  ·simp only [evs,arI,zb5,zdt] at g6
   have hl:d.list=[]:=List.length_eq_zero_iff.1 (by omega)
   refine ⟨?_,h1⟩
   rw [if_neg g0,if_neg g1,if_neg g2,if_neg g4,if_pos ⟨g5,by rw [hl];rfl⟩]
   have:(decide (d.kind=0) || decide (d.kind=1) || decide (d.kind=2) || decide (d.kind=4) || (decide (d.kind=5) && d.list.isEmpty))=true:=by simp [g5,hl]
   rw [this];rfl
  ·simp only [evs,arI,zb5,zdf] at g6
   exact ⟨_,z00,rfl,rfl,g0,g1,g2,g4,fun h=>g6 (by rw [List.isEmpty_iff.1 h.2];rfl)⟩
 ·simp only [evs,arI,zb5,zdf] at g5
  exact ⟨_,z00,rfl,rfl,g0,g1,g2,g4,fun h=>g5 h.1⟩
theorem zvk (d:Dat) (cs:List Value) (H:PH) (hd:d.Rep H cs):Gives Tryz.prog Z1c [.agg cs.toArray] H (.bool (z2l d)):=by
 have hc:=zlp d cs H hd
 obtain ⟨sv,rfl,hk,hn,ht,hs⟩:=Dat.Rep_iff.1 hd
 obtain ⟨b,c,rfl⟩:=hs.sl
 refine zvt [.int .i64 d.kind,.int .i64 d.int,txt d.text,.slice b d.list.length c] (by kernel_rfl) (by kernel_rfl) ?_
 refine z04 zk2 hc ?_
 rintro e H1 ⟨rfl,h1⟩
 exact ⟨_,valW (z1k d)++[.bool (z2l d)],rfl,rfl,rfl,z01,rfl,h1⟩
theorem zzp (d:Dat) (cs:List Value) (l:List (List UInt8)) (lv:Value) (H:PH) (hd:d.Rep H cs) (hl:SlR H l lv):Gives Tryz.prog zzr [.agg cs.toArray,lv] H (.int .i64 ((wordX (z1k d) l).getD 0)):=by
 have hc:=zlp d cs H hd
 obtain ⟨sv,rfl,hk,hm,ht,hs⟩:=Dat.Rep_iff.1 hd
 obtain ⟨b,c,rfl⟩:=hs.sl
 obtain ⟨b1,c1,rfl⟩:=hl.sl
 refine zv6 [.int .i64 d.kind,.int .i64 d.int,txt d.text,.slice b d.list.length c,.slice b1 l.length c1] (by kernel_rfl) (by kernel_rfl) ?_
 refine z04 zk2 hc ?_
 rintro e H1 ⟨rfl,h1⟩
 refine ⟨_,valW (z1k d)++[.bool (z2l d)],rfl,rfl,rfl,z01,?_⟩
 simp only [cns]
 refine z05 [.int .i64 ((wordX (z1k d) l).getD 0),.bool (wordX (z1k d) l).isSome] Z3o (zy7 (z1k d) l _ H1 (hl.le h1)) rfl z01 fun H2 h2=>⟨rfl,PH.le_trans h1 h2⟩
theorem z3a (p:PrcX) (l:List Int) (bv lv:Value) (H:PH) (hb:SlR H p.blocks bv) (hl:SlR H l lv):Gives Tryz.prog Z8o [.agg (prcVs p bv).toArray,lv] H (.bool (z0f p l)):=by
 obtain ⟨b,c,rfl⟩:=hl.sl
 have hlm:=hl.max
 have hmx:maxLen=9223372036854775807:=rfl
 obtain ⟨b2,c2,rfl⟩:=hb.sl
 refine Z2m (prcVs p (.slice b2 p.blocks.length c2)++[.slice b l.length c]) (by kernel_rfl) (by kernel_rfl) ?_
 simp only [prcVs,List.cons_append,List.nil_append]
 refine ⟨fun n vs K=>∃k:Nat,k+n=l.length∧vs=[.bool false,nI k]∧K=H∧∀r∈l.take k,0≤r∧r < p.regs,⟨l.length,0,by omega,rfl,rfl,by simp⟩,?_⟩
 rintro n vs K _ ⟨k,hkn,rfl,rfl,hall⟩
 simp only [cns]
 refine ⟨fun g=>?_,fun g=>?_⟩
 ·simp only [evs,arI,zb5,zdt] at g
  obtain ⟨r,hr⟩:∃r,l[k]?=some r:=⟨_,zge (by omega)⟩
  obtain ⟨z1,_,cs,z2,z3⟩:=hl.get hr
  obtain ⟨rfl,_⟩:=csIK z2
  refine ⟨fun _=>?_,[.int .i64 r],rfl,by simp only [evs,arI,zb5];exact z3,fun g2=>?_,fun g2=>?_⟩
  ·simp only [Chk.holds,evs,arI,zb5];exact ⟨z1,by omega,by omega⟩
  ·simp only [evs,arI,zb5] at g2
   simp only [Bool.or_eq_true,zdt] at g2
   refine ⟨?_,PH.le_refl _⟩
   have:z0f p l=false:=by
    cases hh:z0f p l with
    | false=>rfl
    | true=>have:=regsOk_iff.1 hh r (zmg hr);omega
   rw [this];rfl
  ·simp only [evs,arI,zb5] at g2
   simp only [zof,zdf] at g2
   refine ⟨_,z00,n - 1,by omega,k+1,by omega,?_,rfl,fun q hq=>?_⟩
   ·simp only [evs,arI,zb5];rw [w64 (by omega) (by omega)];rfl
   ·rw [List.take_add_one,hr] at hq
    rcases zma.1 hq with hq | hq
    ·exact hall q hq
    ·rw [zsi.1 hq];omega
 ·simp only [evs,arI,zb5,zdf] at g
  refine ⟨?_,PH.le_refl _⟩
  rw [ztl (by omega)] at hall
  rw [regsOk_iff.2 hall];rfl
def z6t (p:PrcX) (l:List Int):Bool:=l.all fun r=>decide (0≤r∧r < p.blocks.length)
theorem blksOk_iff {p:PrcX} {l:List Int}:z6t p l=true↔∀r∈l,0≤r∧r < p.blocks.length:=by
 unfold z6t;rw [zat];simp only [zdt]
theorem zkg (p:PrcX) (l:List Int) (bv lv:Value) (H:PH) (hb:SlR H p.blocks bv) (hl:SlR H l lv):Gives Tryz.prog Z2f [.agg (prcVs p bv).toArray,lv] H (.bool (z6t p l)):=by
 obtain ⟨b,c,rfl⟩:=hl.sl
 obtain ⟨b2,c2,rfl⟩:=hb.sl
 have hlm:=hl.max
 have hmx:maxLen=9223372036854775807:=rfl
 refine zx7 (prcVs p (.slice b2 p.blocks.length c2)++[.slice b l.length c]) (by kernel_rfl) (by kernel_rfl) ?_
 simp only [prcVs,List.cons_append,List.nil_append]
 refine ⟨fun n vs K=>∃k:Nat,k+n=l.length∧vs=[.bool false,nI k]∧K=H∧∀r∈l.take k,0≤r∧r < p.blocks.length,⟨l.length,0,by omega,rfl,rfl,by simp⟩,?_⟩
 rintro n vs K _ ⟨k,hkn,rfl,rfl,hall⟩
 simp only [cns]
 refine ⟨fun g=>?_,fun g=>?_⟩
 ·simp only [evs,arI,zb5,zdt] at g
  obtain ⟨r,hr⟩:∃r,l[k]?=some r:=⟨_,zge (by omega)⟩
  obtain ⟨z1,_,cs,z2,z3⟩:=hl.get hr
  obtain ⟨rfl,_⟩:=csIK z2
  refine ⟨fun _=>?_,[.int .i64 r],rfl,by simp only [evs,arI,zb5];exact z3,fun g2=>?_,fun g2=>?_⟩
  ·simp only [Chk.holds,evs,arI,zb5];exact ⟨z1,by omega,by omega⟩
  ·simp only [evs,arI,zb5] at g2
   simp only [Bool.or_eq_true,zdt] at g2
   refine ⟨?_,PH.le_refl _⟩
   have:z6t p l=false:=by
    cases hh:z6t p l with
    | false=>rfl
    | true=>have:=blksOk_iff.1 hh r (zmg hr);omega
   rw [this];rfl
  ·simp only [evs,arI,zb5] at g2
   simp only [zof,zdf] at g2
   refine ⟨_,z00,n - 1,by omega,k+1,by omega,?_,rfl,fun q hq=>?_⟩
   ·simp only [evs,arI,zb5];rw [w64 (by omega) (by omega)];rfl
   ·rw [List.take_add_one,hr] at hq
    rcases zma.1 hq with hq | hq
    ·exact hall q hq
    ·rw [zsi.1 hq];omega
 ·simp only [evs,arI,zb5,zdf] at g
  refine ⟨?_,PH.le_refl _⟩
  rw [ztl (by omega)] at hall
  rw [blksOk_iff.2 hall];rfl
abbrev inV (y:InsX) (av dv:Value):List Value:=[txt y.op,.int .i64 y.to,av,.int .i64 y.const.kind,.int .i64 y.const.int,txt y.const.text,dv,.int .i64 y.num]
structure InR (S:PH) (y:InsX) (av dv:Value):Prop where
 op:y.op.length≤maxLen
 to:InI y.to
 args:SlR S y.args av
 ck:InI y.const.kind
 ci:InI y.const.int
 ct:y.const.text.length≤maxLen
 cl:SlR S y.const.list dv
 num:InI y.num
theorem InR.le {S S':PH} {y:InsX} {av dv:Value} (h:InR S y av dv) (l:PH.le S S'):InR S' y av dv:=⟨h.op,h.to,h.args.le l,h.ck,h.ci,h.ct,h.cl.le l,h.num⟩
theorem InR.dat {S:PH} {y:InsX} {av dv:Value} (h:InR S y av dv):y.const.Rep S [.int .i64 y.const.kind,.int .i64 y.const.int,txt y.const.text,dv]:=Dat.Rep_iff.2 ⟨dv,rfl,h.ck,h.ci,h.ct,h.cl⟩
theorem Zc6 (S:PH):dat0.Rep S [.int .i64 0,.int .i64 0,txt [],.slice none 0 0]:=Dat.Rep_iff.2 ⟨_,rfl,i0J,i0J,Nat.zero_le _,z50 S⟩
theorem Z78 (d:Dat):decide (d=dat0)=z43 d:=by
 cases h:z43 d with
 | true=>exact decide_eq_true (isDat0_iff.1 h)
 | false=>exact decide_eq_false fun e=>by rw [isDat0_iff.2 e] at h;cases h
section
variable {c:CodeX} {p:PrcX} {y:InsX}
theorem zg2 (h:y.op=z1y):insOk c p y=((decide (y.args.length=0) && decide (y.num=0) && z0f p [y.to]) && z2l y.const):=by
 unfold insOk
 rw [if_pos h,h,decide_eq_false (show ¬z1y=tieB by decide)]
 by_cases ha:y.args.length=0
 ·have:z0f p y.args=true:=by rw [List.length_eq_zero_iff.1 ha];rfl
  rw [this]
  cases z0f p [y.to]<;>cases hq:z2l y.const<;>simp
 ·simp [ha]
theorem Z7o (h:y.op=movB):insOk c p y=(decide (y.args.length=1) && decide (y.num=0) && z0f p [y.to] && z0f p y.args && z43 y.const):=by
 unfold insOk
 rw [h,decide_eq_false (show ¬movB=tieB by decide),if_neg (show ¬movB=z1y by decide),if_pos rfl]
 cases z0f p y.args<;>cases z0f p [y.to]<;>simp
theorem Z7j (h:y.op=hldB):insOk c p y=(decide (y.args.length=0) && (decide (0≤y.num) && decide (y.num < p.holds)) && z0f p [y.to] && z0f p y.args && z43 y.const):=by
 unfold insOk
 rw [h,decide_eq_false (show ¬hldB=tieB by decide),if_neg (show ¬hldB=z1y by decide),if_neg (show ¬hldB=movB by decide),if_pos rfl]
 cases z0f p y.args<;>cases z0f p [y.to]<;>simp [Bool.and_assoc]
theorem zvz (h:y.op=cloB):insOk c p y=(decide (1≤y.num) && decide (y.num < c.length) && (decide ((y.args.length:Int)=(prcAt c y.num).holds) && z0f p [y.to] && z0f p y.args && z43 y.const)):=by
 unfold insOk
 rw [h,decide_eq_false (show ¬cloB=tieB by decide),if_neg (show ¬cloB=z1y by decide),if_neg (show ¬cloB=movB by decide),if_neg (show ¬cloB=hldB by decide),if_pos rfl]
 cases z0f p y.args<;>cases z0f p [y.to]<;>simp [Bool.and_assoc]
theorem Zah (h:y.op=tieB):insOk c p y=(decide (y.args.length=2) && decide (0≤y.num) && decide (y.to=0) && z0f p y.args && z43 y.const):=by
 unfold insOk
 rw [h,decide_eq_true (show tieB=tieB from rfl),if_neg (show ¬tieB=z1y by decide),if_neg (show ¬tieB=movB by decide),if_neg (show ¬tieB=hldB by decide),if_neg (show ¬tieB=cloB by decide),if_pos rfl]
 cases z0f p y.args<;>simp
theorem Zct (h:y.op=ccB):insOk c p y=false:=by
 unfold insOk
 rw [h,if_neg (show ¬ccB=z1y by decide),if_neg (show ¬ccB=movB by decide),if_neg (show ¬ccB=hldB by decide),if_neg (show ¬ccB=cloB by decide),if_neg (show ¬ccB=tieB by decide),if_pos rfl]
 split<;>rfl
theorem Z5o (h1:y.op≠z1y) (h2:y.op≠movB) (h3:y.op≠hldB) (h4:y.op≠cloB) (h5:y.op≠tieB) (h6:y.op≠ccB):insOk c p y=(decide ((y.args.length:Int)=z3w y.op) && decide (y.num=0) && z0f p [y.to] && z0f p y.args && z43 y.const):=by
 unfold insOk
 rw [if_neg h1,if_neg h2,if_neg h3,if_neg h4,if_neg h5,if_neg h6,decide_eq_false h5]
 have:decide (z3w y.op=(y.args.length:Int))=decide ((y.args.length:Int)=z3w y.op):=by
  by_cases h:z3w y.op=(y.args.length:Int)
  ·rw [decide_eq_true h,decide_eq_true h.symm]
  ·rw [decide_eq_false h,decide_eq_false fun e=>h e.symm]
 rw [this]
 cases z0f p y.args<;>cases z0f p [y.to]<;>simp
theorem Z7s (c:CodeX) (p:PrcX) (y:InsX) (cv bv av dv:Value) (H:PH) (hc:SlR H c cv) (hb:SlR H p.blocks bv) (hy:InR H y av dv):Gives Tryz.prog Zce [.agg #[cv],.agg (prcVs p bv).toArray,.agg (inV y av dv).toArray] H (.bool (insOk c p y)):=by
 obtain ⟨cb,cc,rfl⟩:=hc.sl
 obtain ⟨bb,bc,rfl⟩:=hb.sl
 obtain ⟨ab,ac,hav⟩:=hy.args.sl
 obtain ⟨db,dc,hdv⟩:=hy.cl.sl
 have hcm:=hc.max
 have ham:=hy.args.max
 have hmx:maxLen=9223372036854775807:=rfl
 refine Z64 ([.slice cb c.length cc]++prcVs p (.slice bb p.blocks.length bc)++inV y av dv) (by rw [hav,hdv];kernel_rfl) (by kernel_rfl) ?_
 simp only [prcVs,inV,List.cons_append,List.nil_append]
 refine z05 [.int .i64 (z3w y.op)] zxh (Z2z y.op H) rfl z01 fun K1 l1=>?_
 simp only [cns]
 refine z12 (α:=Int) (l:=[y.to]) (b:=8) [.int .i64 y.to] z0s z0v rfl (by decide) (by decide) (Held.nil l1) (by kernel_rfl) (.cons (z0k hy.to) .nil) z01 fun v2 K2 h2 _ _=>?_
 have l2:=h2.sh
 simp only [cns]
 refine z05 [.bool (z0f p [y.to])] z3y (z3a p [y.to] (.slice bb p.blocks.length bc) v2 K2 (hb.le l2) ((h2.row (zms)).slR l2)) rfl z01 fun K3 l3=>?_
 have l03:=PH.le_trans l2 l3
 have hy3:=hy.le l03
 simp only [cns]
 refine ⟨fun vs K=>∃(n:Int) (num to:Bool),vs=[.int .i64 n,.bool num,.bool to]∧K=K3∧(decide ((y.args.length:Int)=n) && num && to && z0f p y.args && z43 y.const)=insOk c p y,?_,fun g=>?_,fun g=>?_⟩
 ·rintro vs K _ ⟨n,num,to,rfl,rfl,hins⟩
  simp only [cns]
  refine ⟨fun vs K=>vs=[.bool (insOk c p y)]∧PH.le H K,?_,fun g=>?_,fun g=>?_⟩
  ·rintro vs K _ ⟨rfl,hK⟩
   exact ⟨rfl,hK⟩
  ·simp only [evs,arI,slLen,z00,iOf,bOf,zb5] at g
   rw [hav] at g
   simp only [slLen,zba,zdt] at g
   refine z05 [.bool (z0f p y.args)] z3y (z3a p y.args (.slice bb p.blocks.length bc) av K (hb.le l03) hy3.args) rfl z01 fun K4 l4=>?_
   simp only [cns]
   refine ⟨fun g2=>?_,fun g2=>?_⟩
   ·simp only [evs,arI,slLen,z00,iOf,bOf,zb5] at g2
    refine z05 [.bool (decide (y.const=dat0))] zjy (Z30 y.const dat0 _ _ K4 (hy3.le l4).dat (Zc6 K4)) rfl z01 fun K5 l5=>?_
    refine ⟨_,z00,?_,PH.le_trans l03 (PH.le_trans l4 l5)⟩
    simp only [evs,arI,slLen,z00,iOf,bOf,zb5,Z78]
    rw [←hins,g2];simp [g]
   ·simp only [evs,arI,slLen,z00,iOf,bOf,zb5] at g2
    refine ⟨_,z00,?_,PH.le_trans l03 l4⟩
    rw [←hins,g2];simp only [Bool.and_false,Bool.false_and];rfl
  ·simp only [evs,arI,slLen,z00,iOf,bOf,zb5] at g
   rw [hav] at g
   simp only [slLen] at g
   refine ⟨_,z00,?_,l03⟩
   rw [←hins,g];simp only [Bool.false_and];rfl
 ·simp only [evs,arI,slLen,z00,iOf,bOf,zb5,z1h,zdt] at g
  have hop:y.op=z1y:=g
  refine ⟨fun vs K=>vs=[.bool (insOk c p y)]∧PH.le H K,?_,fun g=>?_,fun g=>?_⟩
  ·rintro vs K _ ⟨rfl,hK⟩
   exact ⟨rfl,hK⟩
  ·simp only [evs,arI,slLen,z00,iOf,bOf,zb5] at g
   rw [hav] at g
   simp only [slLen] at g
   refine z05 [.bool (z2l y.const)] zy6 (zvk y.const _ K3 hy3.dat) rfl z01 fun K4 l4=>?_
   refine ⟨_,z00,?_,PH.le_trans l03 l4⟩
   simp only [evs,arI,slLen,z00,iOf,bOf,zb5]
   rw [zg2 hop]
   simp only [zba,zdt] at g
   simp [show y.args.length=0 by omega,g]
  ·simp only [evs,arI,slLen,z00,iOf,bOf,zb5] at g
   rw [hav] at g
   simp only [slLen] at g
   refine ⟨_,z00,?_,l03⟩
   rw [zg2 hop]
   have:(decide (y.args.length=0) && decide (y.num=0) && z0f p [y.to])=false:=by rw [←g];simp
   rw [this];rfl
 simp only [evs,arI,slLen,z00,iOf,bOf,zb5,z1h,zdf] at g
 have n1:y.op≠z1y:=g
 refine ⟨fun g=>?_,fun g=>?_⟩
 ·simp only [evs,arI,slLen,z00,iOf,bOf,zb5,z1h,zdt] at g
  refine ⟨_,z00,1,decide (y.num=0),z0f p [y.to],by simp only [evs,arI,slLen,z00,iOf,bOf,zb5],rfl,?_⟩
  rw [Z7o g]
  simp [show ((y.args.length:Int)=1)=(y.args.length=1) from propext (by omega)]
 simp only [evs,arI,slLen,z00,iOf,bOf,zb5,z1h,zdf] at g
 have n2:y.op≠movB:=g
 refine ⟨fun g=>?_,fun g=>?_⟩
 ·simp only [evs,arI,slLen,z00,iOf,bOf,zb5,z1h,zdt] at g
  refine ⟨_,z00,0,decide (0≤y.num) && decide (y.num < p.holds),z0f p [y.to],by simp only [evs,arI,slLen,z00,iOf,bOf,zb5,ge_iff_le],rfl,?_⟩
  rw [Z7j g]
  simp [show ((y.args.length:Int)=0)=(y.args.length=0) from propext (by omega)]
 simp only [evs,arI,slLen,z00,iOf,bOf,zb5,z1h,zdf] at g
 have n3:y.op≠hldB:=g
 refine ⟨fun g=>?_,fun g=>?_⟩
 ·simp only [evs,arI,slLen,z00,iOf,bOf,zb5,z1h,zdt] at g
  have hop:y.op=cloB:=g
  refine ⟨fun g=>?_,fun g=>?_⟩
  ·simp only [evs,arI,slLen,z00,iOf,bOf,zb5] at g
   simp only [Bool.or_eq_true,zdt] at g
   refine ⟨?_,l03⟩
   have:insOk c p y=false:=by
    rw [zvz hop]
    have:(decide (1≤y.num) && decide (y.num < c.length))=false:=by
     rw [Bool.and_eq_false_iff,zdf,zdf];omega
    rw [this];rfl
   rw [this];rfl
  ·simp only [evs,arI,slLen,z00,iOf,bOf,zb5] at g
   simp only [zof,zdf] at g
   obtain ⟨_,hq⟩:=Za0 (c:=c) (i:=y.num) (by omega) (by omega)
   obtain ⟨x1,_,cs,x2,x3⟩:=(hc.le l03).get hq
   obtain ⟨qv,rfl,p1,p2,p3,p4⟩:=prc_iff.1 x2
   rw [show ((y.num.toNat:Nat):Int)=y.num by omega] at x3
   refine ⟨fun _=>?_,[.int .i64 (prcAt c y.num).holds],rfl,?_,_,z00,_,_,_,rfl,rfl,?_⟩
   ·simp only [Chk.holds,evs,arI,slLen,z00,iOf,bOf,zb5];exact ⟨x1,by omega,by omega⟩
   ·simp only [evs,arI,slLen,z00,iOf,bOf,zb5]
    exact z4o x3 1 1
   ·rw [zvz hop]
    have:(decide (1≤y.num) && decide (y.num < c.length))=true:=by
     rw [zba,zdt,zdt];omega
    rw [this];simp
 simp only [evs,arI,slLen,z00,iOf,bOf,zb5,z1h,zdf] at g
 have n4:y.op≠cloB:=g
 refine ⟨fun g=>?_,fun g=>?_⟩
 ·simp only [evs,arI,slLen,z00,iOf,bOf,zb5,z1h,zdt] at g
  refine ⟨_,z00,2,decide (0≤y.num),decide (y.to=0),by simp only [evs,arI,slLen,z00,iOf,bOf,zb5,ge_iff_le],rfl,?_⟩
  rw [Zah g]
  simp [show ((y.args.length:Int)=2)=(y.args.length=2) from propext (by omega)]
 simp only [evs,arI,slLen,z00,iOf,bOf,zb5,z1h,zdf] at g
 have n5:y.op≠tieB:=g
 refine ⟨fun g=>?_,fun g=>?_⟩
 ·simp only [evs,arI,slLen,z00,iOf,bOf,zb5,z1h,zdt] at g
  refine ⟨?_,l03⟩
  rw [Zct g];rfl
 simp only [evs,arI,slLen,z00,iOf,bOf,zb5,z1h,zdf] at g
 refine ⟨_,z00,z3w y.op,decide (y.num=0),z0f p [y.to],by simp only [evs,arI,slLen,z00,iOf,bOf,zb5],rfl,?_⟩
 rw [Z5o n1 n2 n3 n4 n5 g]
end
abbrev enV (e:EndX) (av:Value):List Value:=[.int .i64 e.kind,.int .i64 e.reg,av,.int .i64 e.to,.int .i64 e.next,.int .i64 e.els]
structure EnR (S:PH) (e:EndX) (av:Value):Prop where
 kind:InI e.kind
 reg:InI e.reg
 args:SlR S e.args av
 to:InI e.to
 next:InI e.next
 els:InI e.els
theorem EnR.le {S S':PH} {e:EndX} {av:Value} (h:EnR S e av) (l:PH.le S S'):EnR S' e av:=⟨h.kind,h.reg,h.args.le l,h.to,h.next,h.els⟩
section
variable {c:CodeX} {p:PrcX} {e:EndX}
theorem blks1 (n:Int):z6t p [n]=(decide (0≤n) && decide (n < p.blocks.length)):=by
 unfold z6t
 rw [List.all_cons,List.all_nil,Bool.and_true,Bool.decide_and]
theorem regs2 (a b:Int):z0f p [a,b]=(z0f p [a] && z0f p [b]):=by
 unfold z0f
 simp only [List.all_cons,List.all_nil,Bool.and_true]
theorem z9w {α:Type} (l:List α):decide ((l.length:Int)=0)=l.isEmpty:=zj8 l
theorem Z6t (p:PrcX) (e:EndX) (bv av:Value) (H:PH) (hb:SlR H p.blocks bv) (he:EnR H e av):Gives Tryz.prog Zd1 [.agg (prcVs p bv).toArray,.agg (enV e av).toArray] H (.bool (finOk p e)):=by
 obtain ⟨bb,bc,rfl⟩:=hb.sl
 obtain ⟨ab,ac,rfl⟩:=he.args.sl
 have ham:=he.args.max
 have hmx:maxLen=9223372036854775807:=rfl
 refine Z63 (prcVs p (.slice bb p.blocks.length bc)++enV e (.slice ab e.args.length ac)) (by kernel_rfl) (by kernel_rfl) ?_
 simp only [prcVs,enV,List.cons_append,List.nil_append]
 refine ⟨fun vs K=>vs=[.bool (z0f p e.args && decide (e.args.length≤6))]∧PH.le H K,?_,fun g=>?_,fun g=>?_⟩
 rotate_left
 ·simp only [evs,arI,zb5,zdt] at g
  refine z05 [.bool (z0f p e.args)] z3y (z3a p e.args (.slice bb p.blocks.length bc) (.slice ab e.args.length ac) H hb he.args) rfl z01 fun K1 l1=>?_
  refine ⟨_,z00,?_,l1⟩
  rw [decide_eq_true (show e.args.length≤6 by omega),Bool.and_true];rfl
 ·simp only [evs,arI,zb5,zdf] at g
  refine ⟨_,z00,?_,PH.le_refl _⟩
  rw [decide_eq_false (show ¬e.args.length≤6 by omega),Bool.and_false];rfl
 rintro vs K1 _ ⟨rfl,l1⟩
 simp only [cns]
 refine z12 (α:=Int) (l:=[e.next]) (b:=8) [.int .i64 e.next] z0s z0v rfl (by decide) (by decide) (Held.nil l1) (by kernel_rfl) (.cons (z0k he.next) .nil) z01 fun v2 K2 h2 _ _=>?_
 have l2:=h2.sh
 simp only [cns]
 refine z05 [.bool (z6t p [e.next])] zn9 (zkg p [e.next] (.slice bb p.blocks.length bc) v2 K2 (hb.le l2) ((h2.row (zms)).slR l2)) rfl z01 fun K3 l3=>?_
 have l03:=PH.le_trans l2 l3
 simp only [cns]
 generalize hN:z6t p [e.next]=nx
 rw [blks1] at hN
 generalize hA:(z0f p e.args && decide (e.args.length≤6))=ag
 refine ⟨fun g=>?_,fun g=>?_⟩
 ·simp only [evs,arI,zb5,zdt] at g
  refine ⟨?_,l03⟩
  have hfin:finOk p e=(nx && e.args.isEmpty && decide (e.reg=0) && decide (e.to=0) && decide (e.els=0)):=by
   unfold finOk
   simp only [if_pos g,hN]
  simp only [evs,arI,zb5,z9w]
  rw [hfin]
 simp only [evs,arI,zb5,zdf] at g
 have n0:=g
 refine ⟨fun g=>?_,fun g=>?_⟩
 ·simp only [evs,arI,zb5,zdt] at g
  have hfin:finOk p e=(nx && (decide (0≤e.els) && decide (e.els < p.blocks.length)) && e.args.isEmpty && z0f p [e.reg] && decide (e.to=0)):=by
   unfold finOk
   simp only [if_neg n0,if_pos g,hN]
  refine ⟨fun vs K=>vs=[.bool (finOk p e)]∧PH.le H K,?_,fun g2=>?_,fun g2=>?_⟩
  ·rintro vs K _ ⟨rfl,hK⟩
   exact ⟨rfl,hK⟩
  ·simp only [evs,arI,zb5] at g2
   rw [z9w] at g2
   simp only [zba] at g2
   refine z12 (α:=Int) (l:=[e.reg]) (b:=8) [.int .i64 e.reg] z0s z0v rfl (by decide) (by decide) (Held.nil l03) (by kernel_rfl) (.cons (z0k he.reg) .nil) z01 fun v4 K4 h4 _ _=>?_
   have l4:=h4.sh
   simp only [cns]
   refine z05 [.bool (z0f p [e.reg])] z3y (z3a p [e.reg] (.slice bb p.blocks.length bc) v4 K4 (hb.le l4) ((h4.row (zms)).slR l4)) rfl z01 fun K5 l5=>?_
   simp only [cns]
   refine ⟨fun g3=>?_,fun g3=>?_⟩
   ·simp only [evs,arI,zb5] at g3
    refine z12 (α:=Int) (l:=[e.els]) (b:=8) [.int .i64 e.els] z0s z0v rfl (by decide) (by decide) (Held.nil (PH.le_trans l4 l5)) (by kernel_rfl) (.cons (z0k he.els) .nil) z01 fun v6 K6 h6 _ _=>?_
    have l6:=h6.sh
    simp only [cns]
    refine z05 [.bool (z6t p [e.els])] zn9 (zkg p [e.els] (.slice bb p.blocks.length bc) v6 K6 (hb.le l6) ((h6.row (zms)).slR l6)) rfl z01 fun K7 l7=>?_
    refine ⟨_,z00,?_,PH.le_trans l6 l7⟩
    simp only [evs,arI,zb5,blks1]
    rw [hfin,g2.1,g2.2,g3]
    simp
   ·simp only [evs,arI,zb5] at g3
    refine ⟨_,z00,?_,PH.le_trans l4 l5⟩
    rw [hfin,g3,Bool.and_false,Bool.false_and];rfl
  ·simp only [evs,arI,zb5] at g2
   rw [z9w] at g2
   refine ⟨_,z00,?_,l03⟩
   have:finOk p e=false:=by
    rw [hfin]
    rcases Bool.and_eq_false_iff.1 g2 with h | h<;>rw [h]<;>simp
   rw [this];rfl
 simp only [evs,arI,zb5,zdf] at g
 have n1:=g
 refine ⟨fun g=>?_,fun g=>?_⟩
 ·have g':e.kind=2∨e.kind=5:=by
   simp only [evs,arI,zb5] at g
   by_cases h:e.kind=2
   ·exact .inl h
   ·exact .inr (by simpa [h] using g)
  have hfin:finOk p e=(z0f p [e.reg] && e.args.isEmpty && decide (e.to=0) && decide (e.next=0) && decide (e.els=0)):=by
   unfold finOk
   simp only [if_neg n0,if_neg n1,if_pos g']
  refine z12 (α:=Int) (l:=[e.reg]) (b:=8) [.int .i64 e.reg] z0s z0v rfl (by decide) (by decide) (Held.nil l03) (by kernel_rfl) (.cons (z0k he.reg) .nil) z01 fun v4 K4 h4 _ _=>?_
  have l4:=h4.sh
  simp only [cns]
  refine z05 [.bool (z0f p [e.reg])] z3y (z3a p [e.reg] (.slice bb p.blocks.length bc) v4 K4 (hb.le l4) ((h4.row (zms)).slR l4)) rfl z01 fun K5 l5=>?_
  refine ⟨?_,PH.le_trans l4 l5⟩
  simp only [evs,arI,zb5,z9w]
  rw [hfin]
 have n25:¬(e.kind=2∨e.kind=5):=by
  simp only [evs,arI,zb5] at g
  by_cases h:e.kind=2
  ·simp [h] at g
  ·simpa [h] using g
 refine ⟨fun g=>?_,fun g=>?_⟩
 ·simp only [evs,arI,zb5,zdt] at g
  have hfin:finOk p e=(z0f p [e.reg] && ag && decide (e.to=0) && decide (e.next=0) && decide (e.els=0)):=by
   unfold finOk
   simp only [if_neg n0,if_neg n1,if_neg n25,if_pos g,hA]
  refine z12 (α:=Int) (l:=[e.reg]) (b:=8) [.int .i64 e.reg] z0s z0v rfl (by decide) (by decide) (Held.nil l03) (by kernel_rfl) (.cons (z0k he.reg) .nil) z01 fun v4 K4 h4 _ _=>?_
  have l4:=h4.sh
  simp only [cns]
  refine z05 [.bool (z0f p [e.reg])] z3y (z3a p [e.reg] (.slice bb p.blocks.length bc) v4 K4 (hb.le l4) ((h4.row (zms)).slR l4)) rfl z01 fun K5 l5=>?_
  refine ⟨?_,PH.le_trans l4 l5⟩
  simp only [evs,arI,zb5,z9w]
  rw [hfin]
 simp only [evs,arI,zb5,zdf] at g
 have n3:=g
 refine ⟨fun g=>?_,fun g=>?_⟩
 ·simp only [evs,arI,zb5,zdt] at g
  have hfin:finOk p e=(z0f p [e.reg] && ag && z0f p [e.to] && nx && decide (e.els=0)):=by
   unfold finOk
   simp only [if_neg n0,if_neg n1,if_neg n25,if_neg n3,if_pos g,hA,hN]
  refine z12 (α:=Int) (l:=[e.reg,e.to]) (b:=8) [.int .i64 e.reg,.int .i64 e.to] z0s z0v rfl (by decide) (by decide) (Held.nil l03) (by kernel_rfl) (.cons (z0k he.reg) (.cons (z0k he.to) .nil)) z01 fun v4 K4 h4 _ _=>?_
  have l4:=h4.sh
  simp only [cns]
  refine z05 [.bool (z0f p [e.reg,e.to])] z3y (z3a p [e.reg,e.to] (.slice bb p.blocks.length bc) v4 K4 (hb.le l4) ((h4.row (zms)).slR l4)) rfl z01 fun K5 l5=>?_
  refine ⟨?_,PH.le_trans l4 l5⟩
  simp only [evs,arI,zb5,z9w]
  rw [hfin,regs2]
  cases z0f p [e.reg]<;>cases z0f p [e.to]<;>cases ag<;>simp
 simp only [evs,arI,zb5,zdf] at g
 have n4:=g
 refine ⟨fun g=>?_,fun g=>?_⟩
 ·simp only [evs,arI,zb5,zdt] at g
  have hfin:finOk p e=(z0f p [e.reg] && e.args.isEmpty && z0f p [e.to] && nx && decide (e.els=0)):=by
   unfold finOk
   simp only [if_neg n0,if_neg n1,if_neg n25,if_neg n3,if_neg n4,if_pos g,hN]
  refine z12 (α:=Int) (l:=[e.reg,e.to]) (b:=8) [.int .i64 e.reg,.int .i64 e.to] z0s z0v rfl (by decide) (by decide) (Held.nil l03) (by kernel_rfl) (.cons (z0k he.reg) (.cons (z0k he.to) .nil)) z01 fun v4 K4 h4 _ _=>?_
  have l4:=h4.sh
  simp only [cns]
  refine z05 [.bool (z0f p [e.reg,e.to])] z3y (z3a p [e.reg,e.to] (.slice bb p.blocks.length bc) v4 K4 (hb.le l4) ((h4.row (zms)).slR l4)) rfl z01 fun K5 l5=>?_
  refine ⟨?_,PH.le_trans l4 l5⟩
  simp only [evs,arI,zb5,z9w]
  rw [hfin,regs2]
  cases z0f p [e.reg]<;>cases z0f p [e.to]<;>cases e.args.isEmpty<;>simp
 simp only [evs,arI,zb5,zdf] at g
 refine ⟨?_,l03⟩
 have:finOk p e=false:=by
  unfold finOk
  simp only [if_neg n0,if_neg n1,if_neg n25,if_neg n3,if_neg n4,if_neg g]
 rw [this];rfl
theorem Z3c (c:CodeX) (p:PrcX) (cv bv:Value) (H:PH) (hc:SlR H c cv) (hb:SlR H p.blocks bv):Gives Tryz.prog Z95 [.agg #[cv],.agg (prcVs p bv).toArray] H (.bool (prcOk c p)):=by
 obtain ⟨cb,cc,rfl⟩:=hc.sl
 obtain ⟨bb,bc,rfl⟩:=hb.sl
 have hbm:=hb.max
 have hmx:maxLen=9223372036854775807:=rfl
 have upk:∀{k m:Nat},k < m→m≤maxLen→IntKind.i64.wrap ((k:Int)+1)=((k+1:Nat):Int):=fun h1 h2=>by rw [w64 (by omega) (by omega)];rfl
 refine Z2p ([.slice cb c.length cc]++prcVs p (.slice bb p.blocks.length bc)) (by kernel_rfl) (by kernel_rfl) ?_
 simp only [prcVs,List.cons_append,List.nil_append]
 have hP:prcOk c p=((decide (0≤p.params) && decide (p.params≤6) && decide (0≤p.holds) && decide (p.holds≤1000) && decide (p.params≤p.regs) && !p.blocks.isEmpty) && p.blocks.all fun b=>b.ins.all (insOk c p) && finOk p b.e):=rfl
 have bad:∀{b:BlkX},b∈p.blocks→(b.ins.all (insOk c p) && finOk p b.e)=false→prcOk c p=false:=fun {b} hbm hf=>by
  rw [hP]
  have:(p.blocks.all fun b=>b.ins.all (insOk c p) && finOk p b.e)=false:=by
   rw [List.all_eq_false]
   exact ⟨b,hbm,by rw [hf];simp⟩
  rw [this,Bool.and_false]
 refine ⟨fun g=>?_,fun g=>?_⟩
 ·simp only [evs,arI,zb5] at g
  simp only [Bool.or_eq_true,zdt] at g
  refine ⟨?_,PH.le_refl _⟩
  have:(decide (0≤p.params) && decide (p.params≤6) && decide (0≤p.holds) && decide (p.holds≤1000) && decide (p.params≤p.regs) && !p.blocks.isEmpty)=false:=by
   rw [←zj8 p.blocks]
   by_cases h:(decide (0≤p.params) && decide (p.params≤6) && decide (0≤p.holds) && decide (p.holds≤1000) && decide (p.params≤p.regs) && !decide ((p.blocks.length:Int)=0))=true
   ·simp only [zba,zdt,Bool.not_eq_true',zdf] at h
    omega
   ·simpa using h
  rw [hP,this,Bool.false_and];rfl
 simp only [evs,arI,zb5] at g
 simp only [zof,zdf] at g
 have hok:prcOk c p=p.blocks.all fun b=>b.ins.all (insOk c p) && finOk p b.e:=by
  rw [hP]
  have:(decide (0≤p.params) && decide (p.params≤6) && decide (0≤p.holds) && decide (p.holds≤1000) && decide (p.params≤p.regs) && !p.blocks.isEmpty)=true:=by
   rw [←zj8 p.blocks]
   simp only [zba,zdt,Bool.not_eq_true',zdf]
   omega
  rw [this,Bool.true_and]
 refine ⟨fun n vs K=>∃k:Nat,k+n=p.blocks.length∧vs=[.bool false,nI k]∧PH.le H K∧∀b∈p.blocks.take k,(b.ins.all (insOk c p) && finOk p b.e)=true,⟨p.blocks.length,0,by omega,rfl,PH.le_refl _,by simp⟩,?_⟩
 rintro n vs K _ ⟨k,hkn,rfl,hK,hall⟩
 simp only [cns]
 refine ⟨fun g2=>?_,fun g2=>?_⟩
 ·simp only [evs,arI,zb5,zdt] at g2
  obtain ⟨b,hbk⟩:∃b,p.blocks[k]?=some b:=⟨_,zge (by omega)⟩
  have hbmem:=zmg hbk
  obtain ⟨y1,_,ycs,y2,y3⟩:=(hb.le hK).get hbk
  obtain ⟨iv,es,rfl,i1,i2⟩:=blk_iff.1 y2
  obtain ⟨ib,ic,rfl⟩:=i1.sl
  have him:=i1.max
  obtain ⟨av,rfl,e1,e2,e3,e4,e5,e6⟩:=end_iff.1 i2
  obtain ⟨ab,ac,hav⟩:=e3.sl
  refine ⟨fun _=>?_,[.slice ib b.ins.length ic,.int .i64 b.e.kind,.int .i64 b.e.reg,av,.int .i64 b.e.to,.int .i64 b.e.next,.int .i64 b.e.els],by rw [hav];rfl,by simp only [evs,arI,zb5];exact y3,?_⟩
  ·simp only [Chk.holds,evs,arI,zb5];exact ⟨y1,by omega,by omega⟩
  simp only [cns]
  refine ⟨fun m vs K2=>∃j:Nat,j+m=b.ins.length∧vs=[.bool false,nI j]∧PH.le K K2∧∀y∈b.ins.take j,insOk c p y=true,⟨b.ins.length,0,by omega,rfl,PH.le_refl _,by simp⟩,?_⟩
  rintro m vs K2 _ ⟨j,hjm,rfl,hK2,hall2⟩
  simp only [cns]
  have hK02:=PH.le_trans hK hK2
  refine ⟨fun g3=>?_,fun g3=>?_⟩
  ·simp only [evs,arI,zb5,zdt] at g3
   obtain ⟨y,hy⟩:∃y,b.ins[j]?=some y:=⟨_,zge (by omega)⟩
   have hymem:=zmg hy
   obtain ⟨z1,_,zcs,z2,z3⟩:=(i1.le hK2).get hy
   obtain ⟨wv,dv,rfl,q1,q2,q3,q4,q5,q6,q7,q8⟩:=ins_iff.1 z2
   obtain ⟨wb,wc,hwv⟩:=q3.sl
   obtain ⟨db,dc,hdv⟩:=q7.sl
   refine ⟨fun _=>?_,inV y wv dv,by rw [hwv,hdv];rfl,by simp only [evs,arI,zb5];exact z3,?_⟩
   ·simp only [Chk.holds,evs,arI,zb5];exact ⟨z1,by omega,by omega⟩
   simp only [inV,List.cons_append,List.nil_append]
   refine z05 [.bool (insOk c p y)] Z84 (Z7s c p y (.slice cb c.length cc) (.slice bb p.blocks.length bc) wv dv K2 (hc.le hK02) (hb.le hK02) ⟨q1,q2,q3,q4,q5,q6,q7,q8⟩) rfl z01 fun K3 l3=>?_
   simp only [cns]
   refine ⟨fun g4=>?_,fun g4=>?_⟩
   ·simp only [evs,arI,zb5,Bool.not_eq_true'] at g4
    refine ⟨?_,PH.le_trans hK02 l3⟩
    rw [bad hbmem]
    ·rfl
    ·have:b.ins.all (insOk c p)=false:=by
      rw [List.all_eq_false];exact ⟨y,hymem,by rw [g4];simp⟩
     rw [this,Bool.false_and]
   ·simp only [evs,arI,zb5,Bool.not_eq_false'] at g4
    refine ⟨_,z00,m - 1,by omega,j+1,by omega,?_,PH.le_trans hK2 l3,fun q hq=>?_⟩
    ·simp only [evs,arI,zb5,upk (show j < b.ins.length by omega) him]
    ·rw [List.take_add_one,hy] at hq
     rcases zma.1 hq with hq | hq
     ·exact hall2 q hq
     ·rw [zsi.1 hq];exact g4
  ·simp only [evs,arI,zb5,zdf] at g3
   rw [ztl (by omega)] at hall2
   have hi:b.ins.all (insOk c p)=true:=zat.2 hall2
   refine z05 [.bool (finOk p b.e)] Z8u (Z6t p b.e (.slice bb p.blocks.length bc) av K2 (hb.le hK02) ⟨e1,e2,e3.le hK2,e4,e5,e6⟩) rfl z01 fun K3 l3=>?_
   simp only [cns]
   refine ⟨fun g4=>?_,fun g4=>?_⟩
   ·simp only [evs,arI,zb5,Bool.not_eq_true'] at g4
    refine ⟨?_,PH.le_trans hK02 l3⟩
    rw [bad hbmem (by rw [g4,Bool.and_false])];rfl
   ·simp only [evs,arI,zb5,Bool.not_eq_false'] at g4
    refine ⟨_,(z4z (by decide)).trans z00,n - 1,by omega,k+1,by omega,?_,PH.le_trans hK02 l3,fun q hq=>?_⟩
    ·simp only [evs,arI,zb5,upk (show k < p.blocks.length by omega) hbm]
    ·rw [List.take_add_one,hbk] at hq
     rcases zma.1 hq with hq | hq
     ·exact hall q hq
     ·rw [zsi.1 hq,hi,g4];rfl
 ·simp only [evs,arI,zb5,zdf] at g2
  rw [ztl (by omega)] at hall
  refine ⟨?_,hK⟩
  rw [hok,zat.2 hall];rfl
end
theorem zq9 {α:Type} (f:α→Nat):∀(l:List α) (k:Nat),((l.take k).map f).sum≤(l.map f).sum
 | [],k=>by simp
 | a::l,0=>by simp
 | a::l,k+1=>by
  have:=zq9 f l k
  simp only [List.take_succ_cons,List.map_cons,List.sum_cons];omega
theorem Z0z {α:Type} (f:α→Nat) {l:List α} {k:Nat} {a:α} (h:l[k]?=some a):((l.take (k+1)).map f).sum=((l.take k).map f).sum+f a:=by
 rw [List.take_add_one,h];simp
theorem ziq {c:CodeX} (h:z3b c=true):z3l c=151:=by unfold z3l;rw [if_pos h]
theorem zcf {c:CodeX} (h:z3b c=false) (hn:c=[]∨(∃p l,c=p::l∧(p.params≠0∨p.holds≠0))∨∃p∈c,prcOk c p=false):z3l c=150:=by
 unfold z3l
 rw [if_neg (by rw [h];exact Bool.false_ne_true)]
 match c,hn with
 | [],_=>rfl
 | p::l,hn=>
  simp only
  rw [if_neg]
  intro hh
  simp only [zba,zdt,zat] at hh
  rcases hn with hn | ⟨p',l',e,hn⟩ | ⟨q,hq,hn⟩
  ·cases hn
  ·cases e;omega
  ·rw [hh.2 q hq] at hn;cases hn
theorem Z5u {c:CodeX} {p:PrcX} {l:CodeX} (h:z3b c=false) (e:c=p::l) (h1:p.params=0) (h2:p.holds=0) (h3:∀q∈c,prcOk c q=true):z3l c=0:=by
 unfold z3l
 rw [if_neg (by rw [h];exact Bool.false_ne_true)]
 subst e
 simp only
 rw [if_pos]
 simp only [zba,zdt,zat]
 exact ⟨⟨h1,h2⟩,h3⟩
theorem Zbd {c:CodeX} {p:PrcX} (h:p∈c) (hr:2000 < p.regs):z3b c=true:=by
 unfold z3b
 simp only [Bool.or_eq_true,List.any_eq_true,zdt]
 exact .inl (.inl ⟨p,h,hr⟩)
theorem Zax {c:CodeX} (h:4096 < manyC c):z3b c=true:=by
 unfold z3b
 simp only [Bool.or_eq_true,List.any_eq_true,zdt]
 exact .inl (.inr h)
theorem Zcr {c:CodeX} (h:300 < c.length):z3b c=true:=by
 unfold z3b
 simp only [Bool.or_eq_true,List.any_eq_true,zdt]
 exact .inr h
theorem Zdh {c:CodeX} (h1:∀p∈c,p.regs≤2000) (h2:manyC c≤4096) (h3:c.length≤300):z3b c=false:=by
 unfold z3b
 simp only [zof,zdf,List.any_eq_false,zdt]
 exact ⟨⟨fun p hp=>by have:=h1 p hp;omega,by omega⟩,by omega⟩
theorem zdy (c:CodeX) (cv:Value) (H:PH) (hc:SlR H c cv) (hfit:∀p∈c,∀b∈p.blocks,b.ins.length≤4611686018427387904):Gives Tryz.prog Z5x [.agg #[cv]] H (.int .i64 (z3l c)):=by
 obtain ⟨cb,cc,rfl⟩:=hc.sl
 have hmx:maxLen=9223372036854775807:=rfl
 have hcm:=hc.max
 refine Z13 [.slice cb c.length cc] (by kernel_rfl) (by kernel_rfl) ?_
 have upk:∀{k m:Nat},k < m→m≤maxLen→IntKind.i64.wrap ((k:Int)+1)=((k+1:Nat):Int):=fun h1 h2=>by rw [w64 (by omega) (by omega)];rfl
 refine ⟨fun n vs K=>∃(i many:Nat),i+n=c.length∧vs=[.int .i64 0,nI many,nI i]∧K=H∧(∀p∈c.take i,p.regs≤2000)∧many≤4096∧many=manyC (c.take i),
  ⟨c.length,0,0,by omega,rfl,rfl,by simp,by omega,rfl⟩,?_⟩
 rintro n vs K _ ⟨i,many,hin,rfl,rfl,hregs,hm1,hm2⟩
 simp only [cns]
 refine ⟨fun g=>?_,fun g=>?_⟩
 ·simp only [evs,arI,zb5,zdt] at g
  obtain ⟨p,hp⟩:∃p,c[i]?=some p:=⟨_,zge (by omega)⟩
  have hpm:=zmg hp
  obtain ⟨x1,_,cs,x2,x3⟩:=hc.get hp
  obtain ⟨bv,rfl,p1,p2,p3,p4⟩:=prc_iff.1 x2
  obtain ⟨pb,pc,rfl⟩:=p4.sl
  have hbm:=p4.max
  have hsp:=Z0z PrcX.many hp
  have hpd:PrcX.many p=(p.blocks.map BlkX.many).sum:=rfl
  refine ⟨fun _=>?_,[.int .i64 p.params,.int .i64 p.holds,.int .i64 p.regs,.slice pb p.blocks.length pc],rfl,?_,?_⟩
  ·simp only [Chk.holds,evs,arI,zb5];exact ⟨x1,by omega,by omega⟩
  ·simp only [evs,arI,zb5];exact x3
  simp only [cns]
  refine ⟨fun vs K2=>∃many2:Nat,vs=[nI many2]∧K2=K∧(many2≤4096→many2=manyC (c.take (i+1)))∧(4096 < many2→4096 < manyC c),?_,?_⟩
  ·rintro vs K2 _ ⟨many2,rfl,rfl,hq1,hq2⟩
   simp only [cns]
   refine ⟨fun g2=>?_,fun g2=>?_⟩
   ·simp only [evs,arI,zb5] at g2
    simp only [Bool.or_eq_true,zdt] at g2
    have:z3l c=151:=by
     rcases g2 with g2 | g2
     ·exact ziq (Zbd hpm (by omega))
     ·exact ziq (Zax (hq2 (by omega)))
    rw [this]
    exact ⟨rfl,PH.le_refl _⟩
   ·simp only [evs,arI,zb5] at g2
    simp only [zof,zdf] at g2
    refine ⟨_,z00,n - 1,by omega,i+1,many2,by omega,?_,rfl,fun q hq=>?_,by omega,hq1 (by omega)⟩
    ·simp only [evs,arI,zb5,upk (by omega:i < c.length) hcm]
    ·rw [List.take_add_one,hp,zma] at hq
     rcases hq with hq | hq
     ·exact hregs q hq
     ·rw [zsi.1 hq];omega
  refine ⟨fun m vs K2=>∃(k many2:Nat),k+m=p.blocks.length∧vs=[nI many2,nI k]∧K2=K∧many2≤4096∧many2=manyC (c.take i)+((p.blocks.take k).map BlkX.many).sum,
   ⟨p.blocks.length,0,many,by omega,rfl,rfl,hm1,by simpa using hm2⟩,?_⟩
  rintro m vs K2 _ ⟨k,many2,hkm,rfl,rfl,hq1,hq2⟩
  simp only [cns]
  refine ⟨fun g3=>?_,fun g3=>?_⟩
  ·simp only [evs,arI,zb5,zdt] at g3
   obtain ⟨b,hb⟩:∃b,p.blocks[k]?=some b:=⟨_,zge (by omega)⟩
   obtain ⟨y1,_,ycs,y2,y3⟩:=p4.get hb
   obtain ⟨iv,es,rfl,i1,i2⟩:=blk_iff.1 y2
   obtain ⟨ib,ic,rfl⟩:=i1.sl
   have him:=i1.max
   obtain ⟨av,rfl,e1,e2,e3,e4,e5,e6⟩:=end_iff.1 i2
   obtain ⟨ab,ac,rfl⟩:=e3.sl
   have h1:=Z1f (zmg hb)
   have h2:=zz9 hpm
   have hs:=Z0z BlkX.many hb
   have hbm2:BlkX.many b=1+b.ins.length:=rfl
   have hle:manyC (c.take i)+((p.blocks.take (k+1)).map BlkX.many).sum≤manyC c:=by
    have h1:=zq9 BlkX.many p.blocks (k+1)
    have h3:=zq9 PrcX.many c (i+1)
    unfold manyC;omega
   have big:b.ins.length≤9223372036854775807:=by omega
   have small:b.ins.length≤9223372036854700000→IntKind.i64.wrap ((many2:Int)+IntKind.i64.wrap (1+(b.ins.length:Int)))=((many2+1+b.ins.length:Nat):Int):=fun h=>by
    rw [w64 (n:=1+(b.ins.length:Int)) (by omega) (by omega),w64 (by omega) (by omega)];omega
   have hbl:b.ins.length≤9223372036854700000:=by
    have e8:=hfit p hpm b (zmg hb)
    omega
   have hw1:=small hbl
   refine ⟨fun _=>?_,[.slice ib b.ins.length ic,.int .i64 b.e.kind,.int .i64 b.e.reg,.slice ab b.e.args.length ac,.int .i64 b.e.to,.int .i64 b.e.next,.int .i64 b.e.els],rfl,by simp only [evs,arI,zb5];exact y3,fun g4=>?_,fun g4=>?_⟩
   ·simp only [Chk.holds,evs,arI,zb5];exact ⟨y1,by omega,by omega⟩
   ·simp only [evs,arI,zb5,hw1,zdt] at g4
    refine ⟨_,(z4z (by decide)).trans z00,many2+1+b.ins.length,by simp only [evs,arI,zb5,hw1],rfl,fun h=>by omega,fun _=>by omega⟩
   ·simp only [evs,arI,zb5,hw1,zdf] at g4
    refine ⟨_,z00,m - 1,by omega,k+1,many2+1+b.ins.length,by omega,?_,rfl,by omega,by omega⟩
    simp only [evs,arI,zb5,hw1,upk (by omega:k < p.blocks.length) hbm]
  ·simp only [evs,arI,zb5,zdf] at g3
   rw [show p.blocks.take k=p.blocks from ztl (by omega)] at hq2
   refine ⟨_,(z4z (by decide)).trans z00,many2,rfl,rfl,fun _=>?_,fun _=>by omega⟩
   unfold manyC at hq2 ⊢;omega
 simp only [evs,arI,zb5,zdf] at g
 rw [ztl (by omega)] at hregs hm2
 refine ⟨fun g2=>?_,fun g2=>?_⟩
 ·simp only [evs,arI,zb5,zdt] at g2
  rw [ziq (Zcr (by omega))]
  exact ⟨rfl,PH.le_refl _⟩
 simp only [evs,arI,zb5,zdf] at g2
 have htm:z3b c=false:=Zdh hregs (by omega) (by omega)
 refine ⟨fun vs K2=>K=K2∧((vs=[.bool true]∧z3l c=150)∨(vs=[.bool false]∧∃p l,c=p::l∧p.params=0∧p.holds=0)),?_,?_⟩
 rotate_left
 ·cases hcl:c with
  | nil=>
   rw [hcl] at htm
   have:=zcf htm (.inl rfl)
   refine ⟨fun hg=>by exfalso;simp [Guard.holds,evs,arI,zb5] at hg,fun hg=>by exfalso;simp [Guard.holds,evs,arI,zb5] at hg,fun _=>⟨_,z00,rfl,.inl ⟨rfl,this⟩⟩,fun g3=>by simp [evs,arI,zb5] at g3⟩
  | cons p l=>
   have hp:c[0]?=some p:=by rw [hcl];rfl
   obtain ⟨x1,xn,cs,x2,x3⟩:=hc.get hp
   obtain ⟨bv,rfl,p1,p2,p3,p4⟩:=prc_iff.1 x2
   obtain ⟨pb,pc,rfl⟩:=p4.sl
   have hl1:(1:Int)≤((p::l).length:Int):=by simp;omega
   rw [hcl] at x1 xn x3 htm
   refine ⟨fun _=>?_,fun _=>?_,fun g3=>?_,fun g3=>⟨[.int .i64 p.params],rfl,?_,fun _=>?_,fun _=>?_,fun g4=>?_,fun g4=>⟨[.int .i64 p.holds],rfl,?_,?_⟩⟩⟩
   ·simp only [Chk.holds,evs,arI,zb5];exact ⟨x1,by omega,by omega⟩
   ·simp only [Chk.holds,evs,arI,zb5];exact xn
   ·simp [evs,arI,zb5] at g3;omega
   ·simp only [evs,arI,zb5];exact z4o x3 0 1
   ·simp only [Chk.holds,evs,arI,zb5];exact ⟨x1,by omega,by omega⟩
   ·simp only [Chk.holds,evs,arI,zb5];exact xn
   ·simp only [evs,arI,zb5,ne_eq,decide_not,Bool.not_eq_true',zdf] at g4
    exact ⟨_,z00,rfl,.inl ⟨rfl,zcf htm (.inr (.inl ⟨p,l,rfl,.inl g4⟩))⟩⟩
   ·simp only [evs,arI,zb5];exact z4o x3 1 1
   ·simp only [evs,arI,zb5,ne_eq,decide_not,Bool.not_eq_false',zdt] at g4
    by_cases e:p.holds=0
    ·exact ⟨_,z00,rfl,.inr ⟨by simp [evs,arI,zb5,e],p,l,rfl,g4,e⟩⟩
    ·exact ⟨_,z00,rfl,.inl ⟨by simp [evs,arI,zb5,e],zcf htm (.inr (.inl ⟨p,l,rfl,.inr e⟩))⟩⟩
 rintro vs K2 _ ⟨rfl,hJ⟩
 rcases hJ with ⟨rfl,hf⟩ | ⟨rfl,p0,l0,hcl,h00,h01⟩
 ·refine ⟨fun _=>?_,fun g3=>by simp [evs,arI,zb5] at g3⟩
  rw [hf];exact ⟨rfl,PH.le_refl _⟩
 refine ⟨fun g3=>by simp [evs,arI,zb5] at g3,fun _=>?_⟩
 simp only [cns]
 refine ⟨fun n vs K2=>∃i:Nat,i+n=c.length∧vs=[.int .i64 0,nI i]∧PH.le K K2∧∀p∈c.take i,prcOk c p=true,⟨c.length,0,by omega,rfl,PH.le_refl _,by simp⟩,?_⟩
 rintro n vs K2 _ ⟨i,hin,rfl,lK,hok⟩
 simp only [cns]
 refine ⟨fun g3=>?_,fun g3=>?_⟩
 ·simp only [evs,arI,zb5,zdt] at g3
  obtain ⟨p,hp⟩:∃p,c[i]?=some p:=⟨_,zge (by omega)⟩
  have hpm:=zmg hp
  obtain ⟨x1,_,cs,x2,x3⟩:=(hc.le lK).get hp
  obtain ⟨bv,rfl,p1,p2,p3,p4⟩:=prc_iff.1 x2
  obtain ⟨pb,pc,rfl⟩:=p4.sl
  refine ⟨fun _=>?_,[.int .i64 p.params,.int .i64 p.holds,.int .i64 p.regs,.slice pb p.blocks.length pc],rfl,by simp only [evs,arI,zb5];exact x3,?_⟩
  ·simp only [Chk.holds,evs,arI,zb5];exact ⟨x1,by omega,by omega⟩
  simp only [cns]
  refine z05 [.bool (prcOk c p)] Z6h (Z3c c p (.slice cb c.length cc) (.slice pb p.blocks.length pc) K2 (hc.le lK) p4) rfl z01 fun K3 l3=>?_
  simp only [cns]
  refine ⟨fun g4=>?_,fun g4=>?_⟩
  ·simp only [evs,arI,zb5,Bool.not_eq_true'] at g4
   refine ⟨?_,PH.le_trans lK l3⟩
   rw [zcf htm (.inr (.inr ⟨p,hpm,g4⟩))];rfl
  ·simp only [evs,arI,zb5,Bool.not_eq_false'] at g4
   refine ⟨_,z00,n - 1,by omega,i+1,by omega,?_,PH.le_trans lK l3,fun q hq=>?_⟩
   ·simp only [evs,arI,zb5,upk (show i < c.length by omega) hcm]
   ·rw [List.take_add_one,hp] at hq
    rcases zma.1 hq with hq | hq
    ·exact hok q hq
    ·rw [zsi.1 hq];exact g4
 ·simp only [evs,arI,zb5,zdf] at g3
  rw [ztl (by omega)] at hok
  refine ⟨?_,lK⟩
  rw [Z5u htm hcl h00 h01 hok];rfl
theorem Z80 (sp:Int) (S:PH):Gives Tryz.prog zxc [.slice none 0 0,.int .i64 sp] S (.tuple #[.slice none 0 0,.int .i64 0]):=by
 refine zqy [.slice none 0 0,.int .i64 sp] (by kernel_rfl) (by kernel_rfl) ?_
 refine ⟨fun g=>?_,fun _=>?_⟩
 ·simp [evs,arI,zb5] at g
 have h0:Held S S []:=Held.nil (PH.le_refl S)
 refine z1r fun m1 hm1=>?_
 have h1:=h0.new hm1 (.map #[] 0)
 simp only [cns]
 refine z1r fun m2 hm2=>?_
 have h2:=h1.new hm2 (.map #[] 0)
 simp only [cns]
 refine z15 (vs:=[.map (some m1),.map (some m2),.slice none 0 0]) h2 (by kernel_rfl) fun r K3 _ h3=>?_
 simp only [cns]
 refine ⟨fun n vs K=>vs=[.slice none 0 0,.int .i64 0,.int .i64 0]∧K=K3,⟨1,rfl,rfl⟩,?_⟩
 rintro n vs K _ ⟨rfl,rfl⟩
 simp only [cns]
 refine ⟨fun g=>by simp [evs,arI,zb5] at g,fun _=>?_⟩
 refine ⟨fun n vs K2=>vs=[.int .i64 0]∧K2=K,⟨1,rfl,rfl⟩,?_⟩
 rintro n vs K2 _ ⟨rfl,rfl⟩
 simp only [cns]
 refine ⟨fun g=>by simp [evs,arI,zb5] at g,fun _=>?_⟩
 refine ⟨fun n vs K=>vs=[.int .i64 0]∧K=K2,⟨1,rfl,rfl⟩,?_⟩
 rintro n vs K _ ⟨rfl,rfl⟩
 simp only [cns]
 refine ⟨fun g=>by simp [evs,arI,zb5] at g,fun _=>?_⟩
 refine ⟨fun n vs K2=>vs=[.int .i64 0]∧K2=K,⟨1,rfl,rfl⟩,?_⟩
 rintro n vs K2 _ ⟨rfl,rfl⟩
 simp only [cns]
 refine ⟨fun g=>by simp [evs,arI,zb5] at g,fun _=>?_⟩
 exact ⟨fun _=>rfl,[.slice none 0 0],rfl,z1a h3 (zms) 2 1,rfl,h3.sh⟩
section
variable {S0 K:PH} {x:FX} {pu nx:Int} {l l':List ItemR} {k k':Nat} {J:List Itm}
theorem Z8d (h:GnH S0 K x pu nx l k J):Tri Tryz.prog zi9 #[pAt x.rf,.slice none 0 0] K (GnQ S0 x pu nx l k J):=by
 refine zee [pAt x.rf,.slice none 0 0] (by kernel_rfl) (by kernel_rfl) ?_
 refine z05 [.slice none 0 0,.int .i64 0] ztx (Z80 26 K) rfl z01 fun K1 l1=>?_
 simp only [cns]
 refine ⟨fun n vs K2=>vs=[.int .i64 0]∧K2=K1,⟨1,rfl,rfl⟩,?_⟩
 rintro n vs K2 _ ⟨rfl,rfl⟩
 simp only [cns]
 refine ⟨fun g=>by simp [evs,arI,zb5] at g,fun _=>⟨rfl,h.le l1⟩⟩
def FX.constL (x:FX) (pu:Int) (y:InsX):List ItemR:=x.numL pu y.to ((wordX (z1k y.const) x.syms).getD 0)
theorem Zdv (v:ValW) (l:List (List UInt8)) (hv:InI v.int):InI ((wordX v l).getD 0):=by
 have h0:InI 0:=i0J
 unfold wordX
 split
 ·exact h0
 split
 ·split
  ·exact inJ (by simp;omega) (by simp;omega)
  ·exact h0
 split
 ·split
  ·rename_i hw
   have:=isW_iff.1 hw
   exact inJ (by simp;omega) (by simp;omega)
  ·exact h0
 split
 ·split
  ·exact inJ (by simp;omega) (by simp;omega)
  ·exact h0
 split
 ·split
  ·cases hf:l.findIdx? (fun s=>decide (s=v.text)) with
   | none=>exact h0
   | some i=>
    exact z2n _
  ·exact h0
 split
 ·split
  ·rename_i h7 _
   exact inJ (by simp;omega) (by simp;omega)
  ·exact h0
 ·exact h0
theorem Z0d (hx:FOk S0 x) (hp:0≤pu∧pu≤100000) (y:InsX) (av dv:Value) (hy:InR S0 y av dv) (hop:y.op=z1y) (hr:x.has y.to) (h:GnH S0 K x pu nx l (k+2) J) :
  Tri Tryz.prog zky #[pAt x.rf,.agg (inV y av dv).toArray] K (GnQ S0 x pu nx (l++x.constL pu y) k J):=by
 obtain ⟨ab,ac,hav⟩:=hy.args.sl
 obtain ⟨db,dc,hdv⟩:=hy.cl.sl
 obtain ⟨sb,sc,hsv⟩:=hx.sy.sl
 refine zhw ([pAt x.rf]++inV y av dv) (by rw [hav,hdv];kernel_rfl) (by kernel_rfl) ?_
 simp only [inV,List.cons_append,List.nil_append]
 refine ⟨fun _=>?_,fun g=>?_⟩
 rotate_left
 ·simp only [evs,arI,zb5,z1h,hop] at g
  exact absurd g (by decide)
 refine ⟨fun _=>rfl,[pAt x.rg],rfl,h.frow 0 1,fun _=>rfl,[x.sv],by rw [hsv];rfl,h.grow 0 1,?_⟩
 simp only [cns]
 refine z05 [.int .i64 ((wordX (z1k y.const) x.syms).getD 0)] zx8 (zzp y.const _ x.syms x.sv K (hy.le h.sh).dat (hx.sy.le h.sh)) rfl z01 fun K1 l1=>?_
 have h1:=h.le l1
 simp only [cns]
 refine z2a zet (Z9g hx hp y.to _ hr (Zdv _ _ ?_) h1) fun K2 h2=>⟨rfl,h2⟩
 unfold z1k
 repeat' split
 all_goals first | exact i0J | exact hy.ci
def FX.retL (x:FX) (pu r:Int):List ItemR:=x.getL pu r 26++[⟨0,⟨15,1,x.get r 26,0,0⟩,0,0⟩]++growL (arI .sub .i64 0 x.slots)++[⟨3,⟨28,0,0,0,0⟩,4,0⟩]
theorem Z76 (hx:FOk S0 x) (hp:0≤pu∧pu≤100000) (b:Int) (e:EndX) (av:Value) (he:EnR S0 e av) (hk:e.kind=2) (hr:x.has e.reg) (h:GnH S0 K x pu nx l (k+4) J) :
  Tri Tryz.prog zl2 #[pAt x.rf,.int .i64 b,.agg (enV e av).toArray] K (GnQ S0 x pu nx (l++x.retL pu e.reg) k J):=by
 obtain ⟨ab,ac,hav⟩:=he.args.sl
 obtain ⟨s1,s2⟩:=hx.sl
 refine zha ([pAt x.rf,.int .i64 b]++enV e av) (by rw [hav];kernel_rfl) (by kernel_rfl) ?_
 simp only [enV,List.cons_append,List.nil_append]
 refine ⟨fun g=>by simp [evs,arI,zb5,hk] at g,fun _=>⟨fun g=>by simp [evs,arI,zb5,hk] at g,fun _=>⟨fun _=>?_,fun g=>by simp [evs,arI,zb5,hk] at g⟩⟩⟩
 refine ⟨fun _=>rfl,[pAt x.rg],rfl,h.frow 0 1,fun _=>rfl,?_⟩
 simp only [cns]
 refine Ze8 zjx (Zf8 hx hp e.reg 26 hr (by decide) h) (fun K1 h1=>z1g (h1.frow 0 1) z01) fun K1 h1=>?_
 simp only [cns]
 refine z2a z0z (h1.to (z5q 1 (x.get e.reg 26) (by decide) (Zew hx e.reg 26 hr (by decide)))) fun K2 h2=>?_
 refine ⟨[.int .i64 x.slots],rfl,h2.frow 6 1,?_⟩
 simp only [cns]
 have hin:InI (arI .sub .i64 0 x.slots):=by
  show InI (IntKind.i64.wrap (0 - x.slots))
  rw [w64 (by omega) (by omega)];exact inJ (by omega) (by omega)
 refine z2a z7x (Ze0 (arI .sub .i64 0 x.slots) hin h2) fun K3 h3=>?_
 refine ⟨[pAt x.rg],rfl,h3.frow 0 1,fun _=>rfl,?_⟩
 simp only [cns]
 refine z2a z0q (h3.to (z3s 4 (by decide))) fun K4 h4=>?_
 refine ⟨rfl,?_⟩
 simpa only [FX.retL,zaa,List.cons_append,List.nil_append] using h4
end
theorem zov (p:PrcX) (bv:Value) (rf:Nat) (cs:List Value) (slots:Int) (K:PH) (hb:SlR K p.blocks bv) (hbv:(cs.drop 4).take 1=[bv]) (hsl:(cs.drop 6).take 1=[.int .i64 slots]) (hrow:∀off n,rowAt K (some ⟨rf,off,none⟩) ((cs.drop off).take n)) (hi:InI slots) (hno:∀b∈p.blocks,b.e.kind≠4∧b.e.kind≠6) :
    Gives Tryz.prog zis [pAt rf] K (.int .i64 slots):=by
  have hbm:=hb.max
  have hmx:maxLen=9223372036854775807:=rfl
  obtain ⟨bb,bc,rfl⟩:=hb.sl
  refine zg3 [pAt rf] (by kernel_rfl) (by kernel_rfl) ?_
  refine ⟨fun _=>rfl,[.slice bb p.blocks.length bc],rfl,by rw [←hbv];exact hrow 4 1,?_⟩
  simp only [cns]
  refine ⟨fun n vs K2=>∃i:Nat,i+n=p.blocks.length∧vs=[.int .i64 0,nI i]∧K2=K,⟨p.blocks.length,0,by omega,rfl,rfl⟩,?_⟩
  rintro n vs K2 _ ⟨i,hin,rfl,rfl⟩
  simp only [cns]
  refine ⟨fun g=>?_,fun g=>?_⟩
  · simp only [evs,arI,zb5,zdt] at g
    obtain ⟨b,hbk⟩:∃b,p.blocks[i]?=some b:=⟨_,zge (by omega)⟩
    obtain ⟨y1,_,ycs,y2,y3⟩:=hb.get hbk
    obtain ⟨iv,es,rfl,i1,i2⟩:=blk_iff.1 y2
    obtain ⟨ib,ic,rfl⟩:=i1.sl
    obtain ⟨av,rfl,e1,e2,e3,e4,e5,e6⟩:=end_iff.1 i2
    obtain ⟨ab,ac,rfl⟩:=e3.sl
    obtain ⟨n4,n6⟩:=hno b (zmg hbk)
    refine ⟨fun vs K3=>vs=[.int .i64 0]∧K3=K2,?_,fun _=>?_,[.slice ib b.ins.length ic,.int .i64 b.e.kind,.int .i64 b.e.reg,.slice ab b.e.args.length ac,.int .i64 b.e.to,.int .i64 b.e.next,.int .i64 b.e.els],rfl,by simp only [evs,arI,zb5];exact y3,fun g2=>?_,fun _=>⟨_,z00,rfl,rfl⟩⟩
    · rintro vs K3 _ ⟨rfl,rfl⟩
      refine ⟨_,z00,n - 1,by omega,i+1,by omega,?_,rfl⟩
      simp only [evs,arI,zb5];rw [w64 (by omega) (by omega)];rfl
    · simp only [Chk.holds,evs,arI,zb5];exact ⟨y1,by omega,by omega⟩
    · simp [evs,arI,zb5,n4,n6] at g2
  · refine ⟨[.int .i64 slots],rfl,by rw [←hsl];exact hrow 6 1,?_,PH.le_refl _⟩
    show Ending.returned (.int .i64 (IntKind.i64.wrap (slots+0)))=_
    obtain ⟨q1,q2⟩:=hi
    rw [w64 (by
                have:IntKind.i64.min=-9223372036854775808:=by decide
                omega) (by
                           have:IntKind.i64.max=9223372036854775807:=by decide
                           omega),Int.add_zero]
def inR (p:PrcX) (r:Int):Bool:=decide (0≤r∧r < p.regs)
def EndX.uses (e:EndX):List Int:=if e.kind=1∨e.kind=2∨e.kind=5 then [e.reg] else if e.kind=3 then e.reg::e.args else if e.kind=4 then e.reg::e.to::e.args else if e.kind=6 then [e.reg,e.to] else []
def InsX.may (p:PrcX) (x:InsX):Bool:=x.args.all (inR p) && (decide (x.op=tieB) || inR p x.to)
def BlkX.may (p:PrcX) (b:BlkX):Bool:=b.ins.all (InsX.may p) && b.e.uses.all (inR p)
def z4y (p:PrcX):Bool:=!(decide (p.regs < 0) || decide (p.regs > 2000) || decide (p.params < 0) || decide (p.params > p.regs) || decide ((p.blocks.length:Int)=0))
def mayP (p:PrcX):Bool:=z4y p && p.blocks.all (BlkX.may p)
theorem zd3 {α:Type} (f:α→Bool) {l:List α} {k:Nat} {a:α} (h:l[k]?=some a):(l.take (k+1)).all f=((l.take k).all f && f a):=by
 rw [List.take_add_one,h,List.all_append];simp
theorem za6 (p:PrcX) (l:List Int) (lv bv:Value) (kb pb:Nat) (S K:PH) (o:Bool) (hl:SlR S l lv) (h:Held S K [bx kb 4 [.bool o],bx pb 43 (prcVs p bv)]) :
  Tri Tryz.prog z1s #[lv,pAt kb,pAt pb] K fun x K'=>x=.returned (.tuple #[])∧Held S K' [bx kb 4 [.bool (o && l.all (inR p))],bx pb 43 (prcVs p bv)]:=by
 obtain ⟨b1,c1,rfl⟩:=hl.sl
 have hm:=hl.max
 simp only [maxLen] at hm
 refine zrg [.slice b1 l.length c1,pAt kb,pAt pb] (by kernel_rfl) (by kernel_rfl) ?_
 refine ⟨fun n vs K'=>∃k:Nat,vs=[nI k]∧k+n=l.length∧Held S K' [bx kb 4 [.bool (o && (l.take k).all (inR p))],bx pb 43 (prcVs p bv)],⟨l.length,0,rfl,by omega,by simpa using h⟩,?_⟩
 rintro n vs K1 _ ⟨k,rfl,hkn,h1⟩
 refine ⟨fun g=>?_,fun g=>?_⟩
 ·simp only [evs,evb,zdt] at g
  obtain ⟨r,hr⟩:∃r,l[k]?=some r:=⟨_,zge (show k < l.length by omega)⟩
  obtain ⟨r1,_,rcs,r2,r3⟩:=hl.get hr
  obtain ⟨rfl,_⟩:=csIK r2
  refine ⟨fun vs K'=>vs=[]∧Held S K' [bx kb 4 [.bool (o && (l.take (k+1)).all (inR p))],bx pb 43 (prcVs p bv)],?_,fun _=>?_,[.int .i64 r],rfl,?_,?_⟩
  ·rintro vs K' _ ⟨rfl,h2⟩
   refine ⟨_,z00,n - 1,by omega,k+1,?_,by omega,h2⟩
   simp only [evs,evb];rw [w64 (by omega) (by omega)];rfl
  ·simp only [Chk.holds,evs,evb];exact ⟨r1,by omega,by omega⟩
  ·simp only [evs,evb];exact z0u h1.sh r3
  refine z0n [.bool (o && (l.take k).all (inR p))] (off:=0) (by kernel_rfl) h1 (zms) rfl rfl ?_
  refine ⟨fun _=>rfl,fun g2=>?_,fun g2=>?_⟩
  ·simp only [evs,evb] at g2
   have hg:(o && (l.take k).all (inR p))=true∧0≤r:=by
    cases hc:(o && (l.take k).all (inR p)) with
    | true=>rw [hc] at g2;simp only [Bool.true_and,zdt] at g2;exact ⟨rfl,by omega⟩
    | false=>rw [hc] at g2;simp at g2
   refine z0n [.int .i64 p.regs] (off:=2) (by kernel_rfl) h1 (zmm _ (zms)) rfl rfl ?_
   refine z0e (off:=0) (vs:=[.bool (decide (r < p.regs))]) (by kernel_rfl) h1 (by simp only [evs,evb]) (by simp [oneC]) (by simp) fun K2 h2=>?_
   refine ⟨_,z00,rfl,?_⟩
   have:(o && (l.take (k+1)).all (inR p))=decide (r < p.regs):=by
    rw [zd3 _ hr,←Bool.and_assoc,hg.1,Bool.true_and]
    unfold inR
    by_cases h:r < p.regs
    ·rw [decide_eq_true h,decide_eq_true ⟨hg.2,h⟩]
    ·rw [decide_eq_false h,decide_eq_false (fun hh=>h hh.2)]
   rw [this];exact h2
  ·simp only [evs,evb] at g2
   refine z0e (off:=0) (vs:=[.bool false]) (by kernel_rfl) h1 (by simp only [evs,evb]) (by simp [oneC]) (by simp) fun K2 h2=>?_
   refine ⟨_,z00,rfl,?_⟩
   have:(o && (l.take (k+1)).all (inR p))=false:=by
    rw [zd3 _ hr,←Bool.and_assoc]
    cases hc:(o && (l.take k).all (inR p)) with
    | true=>
     rw [hc] at g2
     simp only [Bool.true_and,zdf] at g2
     rw [Bool.true_and]
     unfold inR
     exact decide_eq_false (fun hh=>g2 (by omega))
    | false=>rfl
   rw [this];exact h2
 ·simp only [evs,evb,zdf] at g
  rw [ztl (by omega)] at h1
  exact ⟨rfl,h1⟩
theorem zav {e:EndX}:e.uses=if e.kind=1∨e.kind=2∨e.kind=5 then [e.reg] else if e.kind=3 then [e.reg]++e.args else if e.kind=4 then [e.reg,e.to]++e.args else if e.kind=6 then [e.reg,e.to] else []:=rfl
set_option maxHeartbeats 1000000 in
theorem Z8i (p:PrcX) (bv:Value) (H:PH) (hbv:SlR H p.blocks bv) (hp:p.Fit) (hE:∀b∈p.blocks,b.e.args.length≤20000000):Gives Tryz.prog Z3l [.agg (prcVs p bv).toArray] H (.bool (mayP p)):=by
 have hN:=hp.n
 obtain ⟨b0,c0,rfl⟩:=hbv.sl
 refine zys (prcVs p (.slice b0 p.blocks.length c0)) (by kernel_rfl) (by kernel_rfl) ?_
 simp only [prcVs]
 refine z15 (vs:=prcVs p (.slice b0 p.blocks.length c0)) (Held.nil (PH.le_refl H)) (by kernel_rfl) fun pb K1 _ h1=>?_
 simp only [cns]
 have hm1:bx pb 43 (prcVs p (.slice b0 p.blocks.length c0))∈[bx pb 43 (prcVs p (.slice b0 p.blocks.length c0))]:=zms
 refine ⟨fun vs K=>vs=[.bool (!z4y p)]∧K=K1,?_,?_⟩
 rotate_left
 ·refine ⟨fun _=>rfl,?_⟩
  refine z0n [.int .i64 p.regs] (off:=2) (by kernel_rfl) h1 hm1 rfl rfl ?_
  refine ⟨fun g=>?_,fun g=>?_⟩
  ·simp only [evs,evb] at g
   refine ⟨_,z00,?_,rfl⟩
   unfold z4y;rw [g];rfl
  simp only [evs,evb] at g
  refine z0n [.int .i64 p.regs] (off:=2) (by kernel_rfl) h1 hm1 rfl rfl ?_
  refine ⟨fun g2=>?_,fun g2=>?_⟩
  ·simp only [evs,evb] at g2
   refine ⟨_,z00,?_,rfl⟩
   unfold z4y;rw [g,g2];rfl
  simp only [evs,evb] at g2
  refine z0n [.int .i64 p.params] (off:=0) (by kernel_rfl) h1 hm1 rfl rfl ?_
  refine ⟨fun g3=>?_,fun g3=>?_⟩
  ·simp only [evs,evb] at g3
   refine ⟨_,z00,?_,rfl⟩
   unfold z4y;rw [g,g2,g3];rfl
  simp only [evs,evb] at g3
  refine z0n [.int .i64 p.params] (off:=0) (by kernel_rfl) h1 hm1 rfl rfl ?_
  refine z0n [.int .i64 p.regs] (off:=2) (by kernel_rfl) h1 hm1 rfl rfl ?_
  refine ⟨fun g4=>?_,fun g4=>?_⟩
  ·simp only [evs,evb] at g4
   refine ⟨_,z00,?_,rfl⟩
   unfold z4y;rw [g,g2,g3,g4];rfl
  simp only [evs,evb] at g4
  refine z0n [.slice b0 p.blocks.length c0] (off:=3) (by kernel_rfl) h1 hm1 rfl rfl ?_
  refine ⟨_,z00,?_,rfl⟩
  simp only [evs,evb]
  unfold z4y;rw [g,g2,g3,g4,Bool.not_not];rfl
 rintro vs K _ ⟨rfl,rfl⟩
 simp only [cns]
 refine ⟨fun g=>?_,fun g=>?_⟩
 ·simp only [evs,evb] at g
  refine ⟨?_,h1.sh⟩
  have:z4y p=false:=by simpa using g
  unfold mayP;rw [this];rfl
 simp only [evs,evb] at g
 have hh:z4y p=true:=by simpa using g
 refine z15 (vs:=[.bool false]) h1 (by kernel_rfl) fun kb K2 _ h2=>?_
 refine z0e (off:=0) (vs:=[.bool true]) (by kernel_rfl) h2 (by kernel_rfl) (by simp [oneC]) (by simp) fun K3 h3=>?_
 have h3:Held H K3 [bx kb 4 [.bool true],bx pb 43 (prcVs p (.slice b0 p.blocks.length c0))]:=h3
 refine zm6 (f:=z1s) rfl ?_
 have hmf:∀(E:List Value) (a:List (Nat×VE)),a=[(3,VE.sc (.atom 6)),(1,VE.sc (.atom 4))]→E.getD 6 (.bool false)=pAt kb→E.getD 4 (.bool false)=pAt pb→(.func (.func z1s) ((#[]:Array Operand).map (argEv E a)) ((#[(.tmp 3),(.tmp 1)]:Array Operand).map (argEv E a)):Value)=.func (.func z1s) #[] #[pAt kb,pAt pb]:=by
  rintro E a rfl h6 h4
  rw [zgd] at h6 h4
  simp [argEv,evV,ev,List.lookup,h6,h4]
 rw [hmf _ _ rfl rfl rfl]
 simp only [cns]
 refine ⟨fun _=>rfl,?_⟩
 refine z0n [.slice b0 p.blocks.length c0] (off:=3) (by kernel_rfl) h3 (zmm _ (zms)) rfl rfl ?_
 simp only [cns]
 refine ⟨fun n vs K'=>∃k:Nat,vs=[nI k]∧k+n=p.blocks.length∧∃S',PH.le H S'∧Held S' K' [bx kb 4 [.bool ((p.blocks.take k).all (BlkX.may p))],bx pb 43 (prcVs p (.slice b0 p.blocks.length c0))],⟨p.blocks.length,0,rfl,by omega,H,PH.le_refl _,by simpa using h3⟩,?_⟩
 rintro n vs K4 _ ⟨k,rfl,hkn,S4,l4,h4⟩
 simp only [cns]
 refine ⟨fun g=>?_,fun g=>?_⟩
 rotate_left
 ·simp only [evs,evb,zdf] at g
  rw [ztl (by omega)] at h4
  refine z0n [.bool (p.blocks.all (BlkX.may p))] (off:=0) (by kernel_rfl) h4 (zms) rfl rfl ?_
  refine ⟨?_,PH.le_trans l4 h4.sh⟩
  unfold mayP;rw [hh,Bool.true_and];rfl
 simp only [evs,evb,zdt] at g
 have hk:k < p.blocks.length:=by omega
 obtain ⟨b,hb⟩:∃b,p.blocks[k]?=some b:=⟨_,zge hk⟩
 have hbl:=hp.ins b (zmg hb)
 have hbe:=hE b (zmg hb)
 obtain ⟨q1,_,ces,q2,q3⟩:=(hbv.le l4).get hb
 obtain ⟨iv,es,rfl,his,hes⟩:=blk_iff.1 q2
 obtain ⟨av,rfl,e1,e2,hea,e3,e4,e5⟩:=end_iff.1 hes
 obtain ⟨b2,c2,rfl⟩:=his.sl
 obtain ⟨b3,c3,rfl⟩:=hea.sl
 refine ⟨fun vs K'=>vs=[]∧∃S',PH.le H S'∧Held S' K' [bx kb 4 [.bool ((p.blocks.take (k+1)).all (BlkX.may p))],bx pb 43 (prcVs p (.slice b0 p.blocks.length c0))],?_,fun _=>?_,[.slice b2 b.ins.length c2,.int .i64 b.e.kind,.int .i64 b.e.reg,.slice b3 b.e.args.length c3,.int .i64 b.e.to,.int .i64 b.e.next,.int .i64 b.e.els],rfl,?_,?_⟩
 ·rintro vs K' _ ⟨rfl,S',l',h'⟩
  refine ⟨_,z00,n - 1,by omega,k+1,?_,by omega,S',l',h'⟩
  simp only [evs,evb];rw [w64 (by omega) (by omega)];rfl
 ·simp only [Chk.holds,evs,evb];exact ⟨q1,by omega,by omega⟩
 ·simp only [evs,evb];exact z0u h4.sh q3
 simp only [cns]
 refine ⟨fun n vs K'=>∃j:Nat,vs=[nI j]∧j+n=b.ins.length∧∃S',PH.le S4 S'∧Held S' K' [bx kb 4 [.bool ((p.blocks.take k).all (BlkX.may p) && (b.ins.take j).all (InsX.may p))],bx pb 43 (prcVs p (.slice b0 p.blocks.length c0))],⟨b.ins.length,0,rfl,by omega,S4,PH.le_refl _,by simpa using h4⟩,?_⟩
 rintro n2 vs K5 _ ⟨j,rfl,hjn,S5,l5,h5⟩
 simp only [cns]
 refine ⟨fun g2=>?_,fun g2=>?_⟩
 ·simp only [evs,evb,zdt] at g2
  obtain ⟨x,hx⟩:∃x,b.ins[j]?=some x:=⟨_,zge (show j < b.ins.length by omega)⟩
  obtain ⟨y1,_,ycs,y2,y3⟩:=(his.le l5).get hx
  obtain ⟨arv,dv,rfl,_,x2,hya,_,_,_,hyd,_⟩:=ins_iff.1 y2
  obtain ⟨rb,rc,rfl⟩:=hya.sl
  obtain ⟨db,dc,rfl⟩:=hyd.sl
  refine ⟨fun vs K'=>vs=[]∧∃S',PH.le S4 S'∧Held S' K' [bx kb 4 [.bool ((p.blocks.take k).all (BlkX.may p) && (b.ins.take (j+1)).all (InsX.may p))],bx pb 43 (prcVs p (.slice b0 p.blocks.length c0))],?_,fun _=>?_,[txt x.op,.int .i64 x.to,.slice rb x.args.length rc,.int .i64 x.const.kind,.int .i64 x.const.int,txt x.const.text,.slice db x.const.list.length dc,.int .i64 x.num],rfl,?_,?_⟩
  ·rintro vs K' _ ⟨rfl,S',l',h'⟩
   refine ⟨_,z00,n2 - 1,by omega,j+1,?_,by omega,S',l',h'⟩
   simp only [evs,evb];rw [w64 (by omega) (by omega)];rfl
  ·simp only [Chk.holds,evs,evb];exact ⟨y1,by omega,by omega⟩
  ·simp only [evs,evb];exact z0u h5.sh y3
  simp only [cns]
  refine z8i (f:=z1s) (first:=#[]) (caps:=#[pAt kb,pAt pb]) (by rfl) z3c (za6 p x.args (.slice rb x.args.length rc) (.slice b0 p.blocks.length c0) kb pb S5 K5 _ hya h5) ?_
  rintro e K6 ⟨rfl,h6⟩
  refine ⟨_,[],rfl,rfl,rfl,z01,fun g3=>?_,fun g3=>?_⟩
  ·simp only [evs,evb,znm] at g3
   have hop:x.op≠tieB:=by simpa using g3
   refine z12 (α:=Int) (l:=[x.to]) (b:=8) [.int .i64 x.to] z0s z0v rfl (by decide) (by decide) h6 (by kernel_rfl) (.cons (z0k x2) .nil) z01 fun v7 K7 h7 _ _=>?_
   obtain ⟨S8,s8,l8,h8⟩:=h7.freeze
   obtain ⟨b8,c8,rfl⟩:=s8.sl
   simp only [cns]
   refine z8i (f:=z1s) (first:=#[]) (caps:=#[pAt kb,pAt pb]) (by rfl) z3c (za6 p [x.to] (.slice b8 1 c8) (.slice b0 p.blocks.length c0) kb pb S8 K7 _ s8 h8) ?_
   rintro e K9 ⟨rfl,h9⟩
   refine ⟨_,[],rfl,rfl,rfl,z01,_,z00,rfl,S8,PH.le_trans l5 l8,?_⟩
   have:((p.blocks.take k).all (BlkX.may p) && (b.ins.take (j+1)).all (InsX.may p))=(((p.blocks.take k).all (BlkX.may p) && (b.ins.take j).all (InsX.may p)) && x.args.all (inR p) && ([x.to]:List Int).all (inR p)):=by
    rw [zd3 _ hx];unfold InsX.may
    rw [decide_eq_false hop];simp [Bool.and_assoc]
   rw [this];exact h9
  ·simp only [evs,evb,znm] at g3
   have hop:x.op=tieB:=by simpa using g3
   refine ⟨_,z00,rfl,S5,l5,?_⟩
   have:((p.blocks.take k).all (BlkX.may p) && (b.ins.take (j+1)).all (InsX.may p))=(((p.blocks.take k).all (BlkX.may p) && (b.ins.take j).all (InsX.may p)) && x.args.all (inR p)):=by
    rw [zd3 _ hx];unfold InsX.may
    rw [decide_eq_true hop];simp [Bool.and_assoc]
   rw [this];exact h6
 simp only [evs,evb,zdf] at g2
 rw [ztl (l:=b.ins) (by omega)] at h5
 have hall:(p.blocks.take (k+1)).all (BlkX.may p)=(((p.blocks.take k).all (BlkX.may p) && b.ins.all (InsX.may p)) && b.e.uses.all (inR p)):=by
  rw [zd3 _ hb];unfold BlkX.may;rw [Bool.and_assoc]
 have hea5:=hea.le l5
 refine ⟨fun vs K=>K=K5∧vs=[.bool (decide (b.e.kind=1∨b.e.kind=2∨b.e.kind=5))],?_,fun g=>?_,fun g=>?_⟩
 ·rintro vs K _ ⟨rfl,rfl⟩
  simp only [cns]
  refine ⟨fun g=>?_,fun g=>⟨fun g2=>?_,fun g2=>⟨fun g3=>?_,fun g3=>⟨fun g4=>?_,fun g4=>?_⟩⟩⟩⟩
  ·simp only [evs,evb,zdt] at g
   have hu:b.e.uses=[b.e.reg]:=by rw [zav,if_pos g]
   refine z12 (α:=Int) (l:=[b.e.reg]) (b:=8) [.int .i64 b.e.reg] z0s z0v rfl (by decide) (by decide) h5 (by kernel_rfl) (.cons (z0k e2) .nil) z01 fun v7 K7 h7 _ _=>?_
   obtain ⟨S8,s8,l8,h8⟩:=h7.freeze
   obtain ⟨b8,c8,rfl⟩:=s8.sl
   simp only [cns]
   refine z8i (f:=z1s) (first:=#[]) (caps:=#[pAt kb,pAt pb]) (by rfl) z3c (za6 p [b.e.reg] (.slice b8 1 c8) (.slice b0 p.blocks.length c0) kb pb S8 K7 _ s8 h8) ?_
   rintro e K9 ⟨rfl,h9⟩
   exact ⟨_,[],rfl,rfl,rfl,z01,_,z17 rfl z00,rfl,S8,PH.le_trans l4 (PH.le_trans l5 l8),by rw [hall,hu];exact h9⟩
  ·simp only [evs,evb,zdf] at g
   simp only [evs,evb,zdt] at g2
   have hu:b.e.uses=[b.e.reg]++b.e.args:=by rw [zav,if_neg g,if_pos g2]
   refine z12 (α:=Int) (l:=[b.e.reg]) (b:=8) [.int .i64 b.e.reg] z0s z0v rfl (by decide) (by decide) h5 (by kernel_rfl) (.cons (z0k e2) .nil) z01 fun v6 K6 h6 _ _=>?_
   refine za4 (b:=8) (more:=b.e.args) z0s z0v (by kernel_rfl) (by kernel_rfl) h6 (hea5.srcS h6.sh) (by simp only [maxLen,zlc,zln];omega) (by simp only [zlc,zln];omega) fun v7 K7 h7 _=>⟨z01,?_⟩
   obtain ⟨S8,s8,l8,h8⟩:=h7.freeze
   obtain ⟨b8,c8,rfl⟩:=s8.sl
   simp only [cns]
   refine z8i (f:=z1s) (first:=#[]) (caps:=#[pAt kb,pAt pb]) (by rfl) z3c (za6 p ([b.e.reg]++b.e.args) (.slice b8 ([b.e.reg]++b.e.args).length c8) (.slice b0 p.blocks.length c0) kb pb S8 K7 _ s8 h8) ?_
   rintro e K9 ⟨rfl,h9⟩
   exact ⟨_,[],rfl,rfl,rfl,z01,_,z17 rfl z00,rfl,S8,PH.le_trans l4 (PH.le_trans l5 l8),by rw [hall,hu];exact h9⟩
  ·simp only [evs,evb,zdf] at g g2
   simp only [evs,evb,zdt] at g3
   have hu:b.e.uses=[b.e.reg,b.e.to]++b.e.args:=by rw [zav,if_neg g,if_neg g2,if_pos g3]
   refine z12 (α:=Int) (l:=[b.e.reg,b.e.to]) (b:=8) [.int .i64 b.e.reg,.int .i64 b.e.to] z0s z0v rfl (by decide) (by decide) h5 (by kernel_rfl) (.cons (z0k e2) (.cons (z0k e3) .nil)) z01 fun v6 K6 h6 _ _=>?_
   refine za4 (b:=8) (more:=b.e.args) z0s z0v (by kernel_rfl) (by kernel_rfl) h6 (hea5.srcS h6.sh) (by simp only [maxLen,zlc,zln];omega) (by simp only [zlc,zln];omega) fun v7 K7 h7 _=>⟨z01,?_⟩
   obtain ⟨S8,s8,l8,h8⟩:=h7.freeze
   obtain ⟨b8,c8,rfl⟩:=s8.sl
   simp only [cns]
   refine z8i (f:=z1s) (first:=#[]) (caps:=#[pAt kb,pAt pb]) (by rfl) z3c (za6 p ([b.e.reg,b.e.to]++b.e.args) (.slice b8 ([b.e.reg,b.e.to]++b.e.args).length c8) (.slice b0 p.blocks.length c0) kb pb S8 K7 _ s8 h8) ?_
   rintro e K9 ⟨rfl,h9⟩
   exact ⟨_,[],rfl,rfl,rfl,z01,_,z17 rfl z00,rfl,S8,PH.le_trans l4 (PH.le_trans l5 l8),by rw [hall,hu];exact h9⟩
  ·simp only [evs,evb,zdf] at g g2 g3
   simp only [evs,evb,zdt] at g4
   have hu:b.e.uses=[b.e.reg,b.e.to]:=by rw [zav,if_neg g,if_neg g2,if_neg g3,if_pos g4]
   refine z12 (α:=Int) (l:=[b.e.reg,b.e.to]) (b:=8) [.int .i64 b.e.reg,.int .i64 b.e.to] z0s z0v rfl (by decide) (by decide) h5 (by kernel_rfl) (.cons (z0k e2) (.cons (z0k e3) .nil)) z01 fun v7 K7 h7 _ _=>?_
   obtain ⟨S8,s8,l8,h8⟩:=h7.freeze
   obtain ⟨b8,c8,rfl⟩:=s8.sl
   simp only [cns]
   refine z8i (f:=z1s) (first:=#[]) (caps:=#[pAt kb,pAt pb]) (by rfl) z3c (za6 p [b.e.reg,b.e.to] (.slice b8 2 c8) (.slice b0 p.blocks.length c0) kb pb S8 K7 _ s8 h8) ?_
   rintro e K9 ⟨rfl,h9⟩
   exact ⟨_,[],rfl,rfl,rfl,z01,_,z17 rfl z00,rfl,S8,PH.le_trans l4 (PH.le_trans l5 l8),by rw [hall,hu];exact h9⟩
  ·simp only [evs,evb,zdf] at g g2 g3 g4
   have hu:b.e.uses=[]:=by rw [zav,if_neg g,if_neg g2,if_neg g3,if_neg g4]
   exact ⟨_,z17 rfl z00,rfl,S5,PH.le_trans l4 l5,by rw [hall,hu,List.all_nil,Bool.and_true];exact h5⟩
 ·simp only [evs,evb,zdt] at g
  refine ⟨_,z00,rfl,?_⟩
  simp [evs,evb,g]
 ·simp only [evs,evb,zdf] at g
  refine ⟨_,z00,rfl,?_⟩
  by_cases h2:b.e.kind=2<;>by_cases h5:b.e.kind=5<;>simp [evs,evb,g,h2,h5]
structure FillX where
 to:Int
 of:Int
 live:List Int
instance encFill:Enc FillX:=⟨fun f=>[.int .i64 f.to,.int .i64 f.of,slp f.live],3,fun _=>rfl⟩
def moveB:List UInt8:=[109,111,118,101]
theorem Z5k (l:List UInt8):cmpS .neq ⟨l.toArray⟩ ⟨#[109,111,118,101]⟩=!decide (l=moveB):=by
 show (!((⟨l.toArray⟩:ByteArray).toList == (⟨moveB.toArray⟩:ByteArray).toList))=_
 rw [zlz]
def lessL (l m:List Int):List Int:=l.filter fun r=>decide (r∉m)
noncomputable def zcr (p:PrcX) (i j:Nat) (x:InsX):List FillX:=if x.op=tieB then [] else [⟨x.to,-1,if x.op=moveB then lessL (liveL p i (j+1)) x.args else liveL p i (j+1)⟩]
noncomputable def z3g (p:PrcX) (i:Nat) (b:BlkX) (k:Nat):List FillX:=(List.range k).flatMap fun j=>match b.ins[j]? with
 | some x=>zcr p i j x
 | none=>[]
noncomputable def zcp (p:PrcX) (i:Nat) (b:BlkX):List FillX:=z3g p i b b.ins.length++if b.e.calls then [⟨b.e.to,-1,z2b p (i:Int)⟩] else []
noncomputable def z2g (p:PrcX) (k:Nat):List FillX:=(List.range k).flatMap fun i=>match p.blocks[i]? with
 | some b=>zcp p i b
 | none=>[]
noncomputable def Z96 (p:PrcX):List FillX:=z2g p p.blocks.length
theorem zbg {p:PrcX} {i j:Nat} {b:BlkX} {x:InsX} (h:b.ins[j]?=some x):z3g p i b (j+1)=z3g p i b j++zcr p i j x:=by
 unfold z3g;rw [List.range_succ,List.flatMap_append];simp [h]
theorem ze5 {p:PrcX} {k:Nat} {b:BlkX} (h:p.blocks[k]?=some b):z2g p (k+1)=z2g p k++zcp p k b:=by
 unfold z2g;rw [List.range_succ,List.flatMap_append];simp [h]
theorem Z2v {p:PrcX} (hp:p.Fit) (i:Int):(z2b p i).length≤20000000:=by
 unfold z2b
 split
 ·split
  ·exact Nat.le_trans (List.length_filter_le _ _) (zlb hp _ _)
  ·simp
 ·simp
theorem zw2 {α:Type}:∀{l:List α} {i:Nat} {x:α},l[i]?=some x→(x::l.eraseIdx i).Perm l
 | [],i,x,h=>by simp at h
 | a::l,0,x,h=>by simp at h;subst h;exact List.Perm.refl _
 | a::l,i+1,x,h=>by
  have:=zw2 (l:=l) (i:=i) (x:=x) (by simpa using h)
  exact (List.Perm.swap a x _).trans (this.cons a)
theorem Z10 {α:Type} {x:α}:∀{l:List α} {i:Nat},i < l.length→(x::l.eraseIdx i).Perm (l.set i x)
 | [],i,h=>by simp at h
 | a::l,0,h=>by exact List.Perm.refl _
 | a::l,i+1,h=>by
  have:=Z10 (x:=x) (l:=l) (i:=i) (by simpa using h)
  exact (List.Perm.swap a x _).trans (this.cons a)
theorem Held.pick {S H:PH} {I L:List Itm} {x:Itm} {a:Nat} (h:Held S H (I++L)) (hx:L[a]?=some x):Held S H (x::(I++L.eraseIdx a)):=
 h.perm (((List.Perm.append_left I (zw2 hx).symm)).trans List.perm_middle)
theorem Held.unpick {S H:PH} {I L:List Itm} {x:Itm} {a:Nat} (h:Held S H (x::(I++L.eraseIdx a))) (ha:a < L.length):Held S H (I++L.set a x):=
 h.perm (List.perm_middle.symm.trans (List.Perm.append_left I (Z10 ha)))
theorem Held.blkRow {α:Type} [Enc α] {S H:PH} {I:List Itm} {e:TypeId} {xs:List Value} {r:Nat} {L:List α} (hz:sz α=1) (h:Held S H (.blk r (.cells xs.toArray e (0,0))::I)) (hrep:PV.RepRow S (L.flatMap pv) xs) (hm:L.length≤maxLen) :
  Held S H (orow e L (.slice (some ⟨r,0,none⟩) L.length L.length)::I):=by
 have hb:H r=some (.cells xs.toArray e (0,0)):=h.at_ _ (zms)
 have hl:xs.length=L.length:=by have:=hrep.length;rw [z2r,hz,Nat.mul_one] at this;exact this
 have hR:Row S H e L (.slice (some ⟨r,0,none⟩) L.length L.length):=by
  refine ⟨fun g hg=>?_,xs,⟨by rw [hz,Nat.mul_one];exact hl,.inr ⟨r,L.length,xs.toArray,rfl,hb,Nat.le_refl _,hm,by rw [hz,Nat.mul_one];simpa using hl,?_⟩⟩,hrep⟩
  ·simp only [ob,Option.some.injEq] at hg
   subst hg
   exact h.off _ (zms) r rfl
  ·rw [List.toList_toArray,hz,Nat.mul_one]
   exact ztl (by omega)
 exact Held.step (J:=[.blk r (.cells xs.toArray e (0,0))]) (J':=[orow e L (.slice (some ⟨r,0,none⟩) L.length L.length)]) h (PH.le_refl _) (fun k o hk _=>hk) (fun k a b=>absurd a b) (Row.held h.sh hR) fun j hj k hk=>by
  rw [zsi.1 hj] at hk
  simp only [Itm.ob,ob,Option.some.injEq] at hk
  subst hk
  exact .inr ⟨_,zsi.2 rfl,rfl⟩
instance encBools:Enc (List Bool):=⟨fun l=>[slp l],1,fun _=>rfl⟩
structure TabIs (R:Nat) (T:List (List Bool)) (M:Nat→Nat→Prop):Prop where
 len:T.length=R
 row:∀(a:Nat) l,T[a]?=some l→l.length=R
 at_:∀(a b:Nat) l,T[a]?=some l→b < R→(l[b]?=some true↔M a b)
theorem TabIs.congr {R:Nat} {T:List (List Bool)} {M M':Nat→Nat→Prop} (h:TabIs R T M) (hm:∀a b,a < R→b < R→(M a b↔M' a b)):TabIs R T M':=
 ⟨h.len,h.row,fun a b l hl hb=>(h.at_ a b l hl hb).trans (hm a b (by have:=(zgi.1 hl).1;rw [h.len] at this;exact this) hb)⟩
theorem TabIs.put {R:Nat} {T:List (List Bool)} {M:Nat→Nat→Prop} (h:TabIs R T M) {a b:Nat} {l:List Bool} (hl:T[a]?=some l) (hb:b < R):TabIs R (T.set a (l.set b true)) fun x y=>M x y∨(x=a∧y=b):=by
 have hlr:=h.row a l hl
 have haT:=(zgi.1 hl).1
 refine ⟨by simpa using h.len,fun x m hm=>?_,fun x y m hm hy=>?_⟩
 ·rw [List.getElem?_set] at hm
  by_cases e:a=x
  ·rw [if_pos e,if_pos (by omega)] at hm;cases hm;simpa using hlr
  ·rw [if_neg e] at hm;exact h.row x m hm
 ·rw [List.getElem?_set] at hm
  by_cases e:a=x
  ·subst e
   rw [if_pos rfl,if_pos haT] at hm;cases hm
   rw [List.getElem?_set]
   by_cases e2:b=y
   ·subst e2
    rw [if_pos rfl,if_pos (by omega)]
    exact ⟨fun _=>.inr ⟨rfl,rfl⟩,fun _=>rfl⟩
   ·rw [if_neg e2,h.at_ a y l hl hy]
    exact ⟨.inl,fun hh=>hh.elim id fun hh=>absurd hh.2.symm e2⟩
  ·rw [if_neg e] at hm
   rw [h.at_ x y m hm hy]
   exact ⟨.inl,fun hh=>hh.elim id fun hh=>absurd hh.1.symm e⟩
theorem TabIs.none (R:Nat):TabIs R (List.replicate R (List.replicate R false)) fun _ _=>False:=by
 refine ⟨by simp,fun a l h=>?_,fun a b l h hb=>?_⟩
 ·rw [List.getElem?_replicate] at h;split at h
  ·cases h;simp
  ·cases h
 ·rw [List.getElem?_replicate] at h;split at h
  ·cases h
   rw [List.getElem?_replicate,if_pos hb];simp
  ·cases h
section
variable {X:List PanicEntry→PH→Prop} {β:Type} {E:List Value} {L:LK} {K:β→List Value→PH→LK→Prop} {S H:PH} {J:List Itm}
end
def FillX.sym (f:FillX) (a b:Int):Prop:=(a=f.to∧b∈f.live)∨(b=f.to∧a∈f.live)
def MeetP (p:PrcX) (a b:Int):Prop:=(a∈liveL p 0 0∧b∈liveL p 0 0)∨∃f∈Z96 p,f.sym a b
theorem Zbi {p:PrcX} (h:mayP p=true) {r:Int} (hr:r∈p.regl):0≤r∧r < p.regs:=by
 obtain ⟨b,hb,hx⟩:=List.mem_flatMap.1 hr
 unfold mayP at h
 simp only [zba,zat] at h
 have hbm:=h.2 b hb
 unfold BlkX.may at hbm
 simp only [zba,zat] at hbm
 have key:inR p r=true→0≤r∧r < p.regs:=fun h=>by unfold inR at h;exact of_decide_eq_true h
 unfold BlkX.regs at hx
 rcases zma.1 hx with hx | hx
 ·obtain ⟨y,hy,hxy⟩:=List.mem_flatMap.1 hx
  have:=hbm.1 y hy
  unfold InsX.may at this
  simp only [zba,zat] at this
  exact key (this.1 r hxy)
 ·refine key (hbm.2 r ?_)
  unfold EndX.regs at hx
  unfold EndX.uses
  rcases zma.1 hx with hx | hx
  ·split at hx
   ·rename_i hrd
    simp at hx;subst hx
    unfold EndX.reads at hrd
    by_cases h1:b.e.kind=1∨b.e.kind=2∨b.e.kind=5
    ·rw [if_pos h1];simp
    ·rw [if_neg h1]
     by_cases h3:b.e.kind=3
     ·rw [if_pos h3];simp
     ·rw [if_neg h3]
      by_cases h4:b.e.kind=4
      ·rw [if_pos h4];simp
      ·rw [if_neg h4]
       by_cases h6:b.e.kind=6
       ·rw [if_pos h6];simp
       ·rw [if_neg (by omega),if_neg (by omega)] at hrd;cases hrd
   ·cases hx
  ·split at hx
   ·rename_i hk
    rw [if_neg (by omega)]
    by_cases h3:b.e.kind=3
    ·rw [if_pos h3];exact zmm _ hx
    ·rw [if_neg h3,if_pos (by omega)];exact zmm _ (zmm _ hx)
   ·cases hx
theorem ze6 {p:PrcX} (h:mayP p=true) {r:Int} {i a:Nat} (hr:r∈liveL p i a):0≤r∧r < p.regs:=Zbi h (z5d (liveL_mem.1 hr))
theorem zji {p:PrcX} (h:mayP p=true) {f:FillX} (hf:f∈Z96 p):(0≤f.to∧f.to < p.regs)∧∀r∈f.live,0≤r∧r < p.regs:=by
 obtain ⟨i,hi,hf⟩:=List.mem_flatMap.1 hf
 cases hb:p.blocks[i]? with
 | none=>rw [hb] at hf;simp at hf
 | some b=>
  rw [hb] at hf
  simp only at hf
  unfold mayP at h
  have h0:=h
  simp only [zba,zat] at h
  have hbm:=h.2 b (zmg hb)
  unfold BlkX.may at hbm
  simp only [zba,zat] at hbm
  have key:∀{r},inR p r=true→0≤r∧r < p.regs:=fun h=>by unfold inR at h;exact of_decide_eq_true h
  unfold zcp at hf
  rcases zma.1 hf with hf | hf
  ·obtain ⟨j,hj,hf⟩:=List.mem_flatMap.1 hf
   cases hx:b.ins[j]? with
   | none=>rw [hx] at hf;simp at hf
   | some x=>
    rw [hx] at hf
    simp only [zcr] at hf
    split at hf
    ·cases hf
    ·rename_i hop
     have hxm:=hbm.1 x (zmg hx)
     unfold InsX.may at hxm
     rw [decide_eq_false hop] at hxm
     simp only [zba,zat,Bool.false_or] at hxm
     rw [zsi.1 hf]
     refine ⟨key hxm.2,fun r hr=>?_⟩
     split at hr
     ·exact ze6 h0 (zmf.1 hr).1
     ·exact ze6 h0 hr
  ·split at hf
   ·rename_i hc
    rw [zsi.1 hf]
    refine ⟨?_,fun r hr=>?_⟩
    ·refine key (hbm.2 _ ?_)
     unfold EndX.calls at hc
     simp only [zdt] at hc
     unfold EndX.uses
     rw [if_neg (by omega),if_neg (by omega)]
     by_cases h4:b.e.kind=4
     ·rw [if_pos h4];simp
     ·rw [if_neg h4,if_pos (by omega)];simp
    ·unfold z2b at hr
     split at hr
     ·split at hr
      ·exact ze6 h0 (zmf.1 hr).1
      ·cases hr
     ·cases hr
   ·cases hf
theorem zzt {p:PrcX} (h:mayP p=true):0≤p.regs∧p.regs≤2000∧0≤p.params∧p.params≤p.regs∧p.blocks≠[]:=by
 unfold mayP z4y at h
 simp only [zba,Bool.not_eq_true',zof,zdf] at h
 refine ⟨by omega,by omega,by omega,by omega,fun e=>?_⟩
 rw [e] at h;simp at h
instance encPair:Enc (Int×Int):=⟨fun x=>[.int .i64 x.1,.int .i64 x.2],2,fun _=>rfl⟩
def lexLt (x y:Int×Int):Prop:=x.1 < y.1∨(x.1=y.1∧x.2 < y.2)
structure EdgesOf (p:PrcX) (l:List (Int×Int)):Prop where
 sorted:l.Pairwise lexLt
 mem:∀a b:Int,(a,b)∈l↔0≤a∧a < b∧b < p.regs∧MeetP p a b
def cntB (f:Nat→Bool):Nat→Nat
 | 0=>0
 | n+1=>cntB f n+if f n then 1 else 0
def Z8s (R:Nat) (M:Nat→Nat→Prop) (k:Int) (U:Nat→Bool):Prop:=∀i,i < R→U i=true→∃f:Nat→Bool,(∀j,j < R→f j=true→U j=true∧j≠i∧M i j)∧k≤(cntB f R:Int)
section
variable {P:Program} {Φ:Next→PH→Prop} {Ψ:Value→PH→Prop} {H:PH} {ρ:Operand→Value}
theorem Z75 {T ty:TypeId} {x y:Operand}:wpS P (execOp ρ (bare (.index T x y) ty)) Φ Ψ H=wpS P (Instr.index T (ρ x) (ρ y)) (fun v H'=>Φ (.value v) H') Ψ H:=by
 simp only [execOp,bare,z06,z0j]
theorem Z5s {X:List PanicEntry→PH→Prop} {β:Type} {E:List Value} {L:LK} {K:β→List Value→PH→LK→Prop} {T ty e e2:TypeId} {n m z:Nat} {x y:Operand} {args:List (Nat×VE)} {tags:List Tag} {k:Fm β} {cs:Array Value} {kk:IntKind} {j:Nat} (vs:List Value)
  (hT:P.underlying T=some (.array n e)) (he:P.underlying e=some (.array m e2)) (hiz:(P.info? e).map (·.size)=some z) (hx:argEv E args x=.agg cs) (hy:argEv E args y=.int kk (j:Int)) (hj:j < n) (hvs:(cs.extract (j * z) (j * z+z)).toList=vs) (ht:z0c tags vs=true)
  (hk:den P X k (E++vs) H L K):den P X (.sem (.index T x y) ty args (.ag tags) [] k) E H L K:=by
 obtain ⟨i,hi,hz⟩:=Option.map_eq_some_iff.1 hiz
 show wpS P (execOp (argEv E args) (bare _ ty)) _ _ H
 rw [Z75,hx,hy]
 unfold Instr.index asIntOf
 simp only [z06,z0j,z0b hT]
 have hjn:(0:Int)≤(j:Int)∧(j:Int) < (n:Int):=⟨by omega,by omega⟩
 rw [if_pos hjn]
 simp only [z06,z2s hi,Int.toNat_natCast,hz]
 unfold part isAgg
 simp only [z06,z0b he,z0j,if_true,z2s hi,hz]
 refine ⟨vs,ht,?_,z01,hk⟩
 show Value.agg _=Value.agg _
 rw [←hvs]
end
structure GN where
 ref:Nat
 es:Array MapEntry
 cl:Nat
 s:List Int
abbrev outM (N:List (Int×GN)):List (Int×Value):=N.map fun x=>(x.1,.map (some x.2.ref))
abbrev grB (gr:Nat) (es:Array MapEntry) (cl:Nat):List Itm:=[.blk gr (.map es cl)]
abbrev grI (N:List (Int×GN)):List Itm:=N.map fun x=>.blk x.2.ref (.map x.2.es x.2.cl)
structure GrOk (es:Array MapEntry) (cl:Nat) (N:List (Int×GN)):Prop where
 outer:EntsR (α:=Int) es.toList cl (outM N)
 inner:∀(j:Nat) x,N[j]?=some x→SetAt x.2.es x.2.cl x.2.s
def relN (N:List (Int×GN)) (c d:Int):Prop:=∃x∈N,x.1=c∧d∈x.2.s
theorem zmj {es:Array MapEntry} {cl:Nat} {N:List (Int×GN)} (h:GrOk es cl N):(N.map (·.1)).Nodup:=by
 have:=h.outer.keys
 rwa [List.map_map] at this
theorem zjw:∀{N:List (Int×GN)} {j:Nat} {x:Int×GN},(N.map (·.1)).Nodup→N[j]?=some x→getM (outM N) x.1=some (.map (some x.2.ref))
 | [],j,x,_,h=>by simp at h
 | y::N,0,x,hn,h=>by
  simp at h;subst h
  rw [outM,List.map_cons,z3t,if_pos rfl]
 | y::N,j+1,x,hn,h=>by
  have h':N[j]?=some x:=by simpa using h
  simp only [List.map_cons,List.nodup_cons] at hn
  have hne:¬y.1=x.1:=fun e=>hn.1 (e ▸ zmp.2 ⟨x,zmg h',rfl⟩)
  rw [outM,List.map_cons,z3t,if_neg hne]
  exact zjw hn.2 h'
theorem zmq {N:List (Int×GN)} {k:Int} (h:∀x∈N,x.1≠k):getM (outM N) k=none:=by
 rw [getM_none,List.map_map]
 intro hk
 obtain ⟨x,hx,e⟩:=zmp.1 hk
 exact h x hx e
theorem zad:Tryz.prog.underlying 179=some (.map 3 135):=by kernel_rfl
theorem zcm:Tryz.prog.underlying 135=some (.map 3 3):=by kernel_rfl
theorem Zby {N:List (Int×GN)} {j:Nat} {x:Int×GN} {es:Array MapEntry} {cl:Nat} {s:List Int} (hx:N[j]?=some x):outM (N.set j (x.1,⟨x.2.ref,es,cl,s⟩))=outM N:=by
 refine List.ext_getElem? fun t=>?_
 rw [zem,zem,List.getElem?_set]
 by_cases e:j=t
 ·subst e
  have hj:=(zgi.1 hx).1
  rw [if_pos rfl,if_pos hj,hx];rfl
 ·rw [if_neg e]
theorem Zdt {N:List (Int×GN)} {j:Nat} {x:Int×GN} {es:Array MapEntry} {cl:Nat} {s:List Int} (hx:N[j]?=some x):(grI N).set j (.blk x.2.ref (.map es cl))=grI (N.set j (x.1,⟨x.2.ref,es,cl,s⟩)):=by
 refine List.ext_getElem? fun t=>?_
 rw [List.getElem?_set,zem,zem,List.getElem?_set,zlm]
 by_cases e:j=t
 ·subst e
  have hj:=(zgi.1 hx).1
  rw [if_pos rfl,if_pos hj,if_pos rfl,if_pos hj];rfl
 ·rw [if_neg e,if_neg e]
theorem Zbk {N:List (Int×GN)} {j:Nat} {x:Int×GN} {es:Array MapEntry} {cl:Nat} {s:List Int} {k:Int} (hn:(N.map (·.1)).Nodup) (hx:N[j]?=some x) (hs:∀y,y∈s↔y∈x.2.s∨y=k) (c d:Int):relN (N.set j (x.1,⟨x.2.ref,es,cl,s⟩)) c d↔relN N c d∨(c=x.1∧d=k):=by
 have hj:=(zgi.1 hx).1
 unfold relN
 constructor
 ·rintro ⟨y,hy,h1,h2⟩
  rcases List.mem_or_eq_of_mem_set hy with h | h
  ·exact .inl ⟨y,h,h1,h2⟩
  ·subst h
   rcases (hs d).1 h2 with h3 | h3
   ·exact .inl ⟨x,zmg hx,h1,h3⟩
   ·exact .inr ⟨h1.symm,h3⟩
 ·rintro (⟨y,hy,h1,h2⟩ | ⟨h1,h2⟩)
  ·obtain ⟨t,ht⟩:=List.getElem?_of_mem hy
   by_cases e:j=t
   ·subst e
    rw [hx] at ht;cases ht
    exact ⟨(x.1,⟨x.2.ref,es,cl,s⟩),zmg (i:=j) (by rw [List.getElem?_set,if_pos rfl,if_pos hj]),h1,(hs d).2 (.inl h2)⟩
   ·exact ⟨y,zmg (i:=t) (by rw [List.getElem?_set,if_neg e];exact ht),h1,h2⟩
  ·exact ⟨(x.1,⟨x.2.ref,es,cl,s⟩),zmg (i:=j) (by rw [List.getElem?_set,if_pos rfl,if_pos hj]),h1.symm,(hs d).2 (.inr h2)⟩
set_option maxHeartbeats 2000000 in
theorem zpi (gr:Nat) (es:Array MapEntry) (cl:Nat) (N:List (Int×GN)) (a b:Int) (S K:PH) (h:Held S K (grB gr es cl++grI N)) (hg:GrOk es cl N) :
  Tri Tryz.prog zda #[.map (some gr),.int .i64 a,.int .i64 b] K fun x K'=>∃es' cl' N',x=.returned (.tuple #[])∧Held S K' (grB gr es' cl'++grI N')∧GrOk es' cl' N'∧∀c d,relN N' c d↔relN N c d∨(a≠b∧((c=a∧d=b)∨(c=b∧d=a))):=by
 refine zbc [.map (some gr),.int .i64 a,.int .i64 b] (by kernel_rfl) (by kernel_rfl) ?_
 refine ⟨fun g=>?_,fun g=>?_⟩
 ·simp only [evs,evb,zdt] at g
  have hab:a=b:=by simpa using g
  exact ⟨es,cl,N,rfl,h,hg,fun c d=>⟨.inl,fun hh=>hh.elim id fun hh=>absurd hab hh.1⟩⟩
 simp only [evs,evb] at g
 have hab:a≠b:=by simpa using g
 refine ⟨fun n vs K'=>∃(i:Nat) (es':Array MapEntry) (cl':Nat) (N':List (Int×GN)),vs=[nI i]∧i+n=2∧Held S K' (grB gr es' cl'++grI N')∧GrOk es' cl' N'∧∀c d,relN N' c d↔relN N c d∨(1≤i∧c=a∧d=b)∨(2≤i∧c=b∧d=a),
  ⟨2,0,es,cl,N,rfl,rfl,h,hg,fun c d=>by simp⟩,?_⟩
 rintro n vs K1 _ ⟨i,es1,cl1,N1,rfl,hin,h1,hg1,hr1⟩
 simp only [cns]
 refine ⟨fun g1=>?_,fun g1=>?_⟩
 rotate_left
 ·simp only [evs,evb,zdf] at g1
  have:i=2:=by omega
  subst this
  refine ⟨es1,cl1,N1,rfl,h1,hg1,fun c d=>?_⟩
  rw [hr1]
  constructor
  ·rintro (h | ⟨_,h⟩ | ⟨_,h⟩)
   ·exact .inl h
   ·exact .inr ⟨hab,.inl h⟩
   ·exact .inr ⟨hab,.inr h⟩
  ·rintro (h | ⟨_,h | h⟩)
   ·exact .inl h
   ·exact .inr (.inl ⟨by omega,h⟩)
   ·exact .inr (.inr ⟨by omega,h⟩)
 simp only [evs,evb,zdt] at g1
 have hi2:i < 2:=by omega
 obtain ⟨k,w,hkw,hstep⟩:∃k w:Int,(k=(if i=0 then a else b)∧w=(if i=0 then b else a))∧∀c d:Int,((1≤i∧c=a∧d=b)∨(2≤i∧c=b∧d=a)∨(c=k∧d=w))↔((1≤i+1∧c=a∧d=b)∨(2≤i+1∧c=b∧d=a)):=by
  refine ⟨_,_,⟨rfl,rfl⟩,fun c d=>?_⟩
  by_cases e:i=0
  ·rw [if_pos e,if_pos e];subst e;simp
  ·have:i=1:=by omega
   subst this;simp
 refine Z5s (kk:=.i64) (e:=233) (e2:=3) (n:=2) (m:=2) (z:=2) (cs:=#[.int .i64 a,.int .i64 b,.int .i64 b,.int .i64 a]) (j:=i) [.int .i64 k,.int .i64 w] (by kernel_rfl) (by kernel_rfl) (by kernel_rfl) (by kernel_rfl) (by kernel_rfl) hi2 ?_ rfl ?_
 ·obtain ⟨rfl,rfl⟩:=hkw
  by_cases e:i=0
  ·rw [if_pos e,if_pos e];subst e;rfl
  ·have:i=1:=by omega
   subst this;rfl
 simp only [cns]
 refine ⟨fun vs K'=>vs=[]∧∃(es':Array MapEntry) (cl':Nat) (N':List (Int×GN)),Held S K' (grB gr es' cl'++grI N')∧GrOk es' cl' N'∧(∀c d,relN N' c d↔relN N1 c d)∧∃(j:Nat) (x:Int×GN),N'[j]?=some x∧x.1=k,?_,?_⟩
 ·rintro vs K2 _ ⟨rfl,es2,cl2,N2,h2,hg2,hr2,j,x,hx,hxk⟩
  have hn2:=zmj hg2
  have hget:=zjw hn2 hx
  rw [hxk] at hget
  have hb2:K2 gr=some (.map es2 cl2):=h2.blk (zms)
  refine z34 (α:=Int) (m:=outM N2) (v:=.map (some gr)) k (.map none) zad kIntK (by kernel_rfl) (by kernel_rfl) (by kernel_rfl) ⟨gr,es2,cl2,rfl,hb2,hg2.outer⟩ (by rw [hget];rfl) z01 ?_
  rw [hget]
  simp only [Option.getD_some,List.cons_append,List.nil_append]
  have h3:=h2.pick (show (grI N2)[j]?=some (.blk x.2.ref (.map x.2.es x.2.cl)) by rw [grI,zem,hx];rfl)
  refine z3r (α:=Int) (m:=encS x.2.s) (r:=x.2.ref) (es:=x.2.es) (clock:=x.2.cl) w (.int .i64 1) zcm kIntK (by kernel_rfl) (by kernel_rfl) (by kernel_rfl) (h3.blk (zms)) (hg2.inner j x hx) fun es3 cl3 he3=>?_
  rw [zio] at he3
  have h4:=(h3.put (.map es3 cl3)).unpick (by rw [grI,zlm];exact (zgi.1 hx).1)
  rw [Zdt (s:=addS x.2.s w) hx] at h4
  have hjl:=(zgi.1 hx).1
  refine ⟨_,z00,n - 1,by omega,i+1,es2,cl2,_,?_,by omega,h4,⟨by rw [Zby hx];exact hg2.outer,fun t y hy=>?_⟩,fun c d=>?_⟩
  ·simp only [evs,evb];rw [w64 (by omega) (by omega)];rfl
  ·rw [List.getElem?_set] at hy
   by_cases e:j=t
   ·rw [if_pos e,if_pos hjl] at hy;cases hy;exact he3
   ·rw [if_neg e] at hy;exact hg2.inner t y hy
  ·rw [Zbk (k:=w) hn2 hx (fun y=>zj2 _ _ _),hr2,hr1,hxk,or_assoc,←hstep]
   simp only [or_assoc]
 ·have hb1:K1 gr=some (.map es1 cl1):=h1.blk (zms)
  have hn1:=zmj hg1
  by_cases hin:∃x∈N1,x.1=k
  ·obtain ⟨x,hx,hxk⟩:=hin
   obtain ⟨j,hj⟩:=List.getElem?_of_mem hx
   have hget:=zjw hn1 hj
   rw [hxk] at hget
   refine z34 (α:=Int) (m:=outM N1) (v:=.map (some gr)) k (.map none) zad kIntK (by kernel_rfl) (by kernel_rfl) (by kernel_rfl) ⟨gr,es1,cl1,rfl,hb1,hg1.outer⟩ (by rw [hget];rfl) z01 ?_
   rw [hget]
   simp only [Option.getD_some,List.cons_append,List.nil_append]
   refine ⟨fun g2=>?_,fun g2=>?_⟩
   ·simp [evV,ev0,ev,z3z,bOf] at g2
   ·exact ⟨_,z00,rfl,es1,cl1,N1,h1,hg1,fun c d=>Iff.rfl,j,x,hj,hxk⟩
  ·have hno:∀x∈N1,x.1≠k:=fun x hx e=>hin ⟨x,hx,e⟩
   have hget:=zmq hno
   refine z34 (α:=Int) (m:=outM N1) (v:=.map (some gr)) k (.map none) zad kIntK (by kernel_rfl) (by kernel_rfl) (by kernel_rfl) ⟨gr,es1,cl1,rfl,hb1,hg1.outer⟩ (by rw [hget];rfl) z01 ?_
   rw [hget]
   simp only [Option.getD_none,List.cons_append,List.nil_append]
   refine ⟨fun g2=>?_,fun g2=>?_⟩
   ·refine z1r fun r hr=>?_
    have h2:=h1.new hr (.map #[] 0)
    simp only [cns]
    refine z3r (α:=Int) (m:=outM N1) (r:=gr) (es:=es1) (clock:=cl1) k (.map (some r)) zad kIntK (by kernel_rfl) (by kernel_rfl) (by kernel_rfl) (h2.blk (zmm _ (zms))) hg1.outer fun es3 cl3 he3=>?_
    have hput:putM (outM N1) k (.map (some r))=outM (N1++[(k,⟨r,#[],0,[]⟩)]):=by
     unfold putM
     rw [hget,if_neg (by simp),outM,outM,List.map_append];rfl
    rw [hput] at he3
    have h3:=((h2.perm (List.Perm.swap _ _ _)).put (.map es3 cl3))
    have h3':Held S _ (grB gr es3 cl3++grI (N1++[(k,⟨r,#[],0,[]⟩)])):=h3.perm (by
     have e:grI (N1++[(k,⟨r,#[],0,[]⟩)])=grI N1++[Itm.blk r (.map #[] 0)]:=by rw [grI,grI,List.map_append];rfl
     rw [e]
     exact List.Perm.cons _ (List.perm_append_comm (l₁:=[Itm.blk r (.map #[] 0)]) (l₂:=grI N1)))
    refine ⟨_,z00,rfl,es3,cl3,_,h3',⟨he3,fun t y hy=>?_⟩,fun c d=>?_,N1.length,(k,⟨r,#[],0,[]⟩),by simp,rfl⟩
    ·by_cases ht:t < N1.length
     ·rw [List.getElem?_append_left ht] at hy;exact hg1.inner t y hy
     ·rw [List.getElem?_append_right (by omega)] at hy
      have:y=(k,⟨r,#[],0,[]⟩):=by
       cases hd:t - N1.length with
       | zero=>rw [hd] at hy;simp at hy;exact hy.symm
       | succ m=>rw [hd] at hy;simp at hy
      subst this;exact zfl
    ·unfold relN
     constructor
     ·rintro ⟨y,hy,h4,h5⟩
      rcases zma.1 hy with hy | hy
      ·exact ⟨y,hy,h4,h5⟩
      ·rw [zsi.1 hy] at h5;cases h5
     ·rintro ⟨y,hy,h4,h5⟩
      exact ⟨y,List.mem_append_left _ hy,h4,h5⟩
   ·simp [evV,ev0,ev,z3z,bOf] at g2
theorem Z34 (l:List Int) (n:Int) (v:Value) (H:PH) (hl:SlR H l v) (hll:l.length≤40000000):∃i:Int,Gives Tryz.prog zcb [v,.int .i64 n] H (.int .i64 i)∧(i ≥ 0↔n∈l):=by
 by_cases hn:n∈l
 ·obtain ⟨j,hj,hfirst⟩:∃j:Nat,l[j]?=some n∧∀t:Nat,t < j→l[t]?≠some n:=by
   obtain ⟨t,ht⟩:=List.getElem?_of_mem hn
   have key:∀t:Nat,l[t]?=some n→∃j:Nat,l[j]?=some n∧∀s:Nat,s < j→l[s]?≠some n:=by
    intro t
    induction t using Nat.strongRecOn with
    | ind t ih=>
     intro ht
     by_cases h:∃s:Nat,s < t∧l[s]?=some n
     ·obtain ⟨s,hs,hsn⟩:=h;exact ih s hs hsn
     ·exact ⟨t,ht,fun s hs hsn=>h ⟨s,hs,hsn⟩⟩
   exact key t ht
  refine ⟨(j:Int),?_,⟨fun _=>hn,fun _=>by omega⟩⟩
  obtain ⟨b1,c1,rfl⟩:=hl.sl
  refine z4n [.slice b1 l.length c1,.int .i64 n] (by kernel_rfl) (by kernel_rfl) ?_
  have hjl:=(zgi.1 hj).1
  refine ⟨fun m vs K=>∃(z:Int) (k:Nat),vs=[.int .i64 z,nI k]∧k+m=l.length∧k≤j∧K=H,⟨l.length,0,0,rfl,by omega,by omega,rfl⟩,?_⟩
  rintro m vs K _ ⟨z,k,rfl,hkm,hkj,rfl⟩
  refine ⟨fun g=>?_,fun g=>?_⟩
  ·simp only [evs,evb,zdt] at g
   obtain ⟨a,ha⟩:∃a,l[k]?=some a:=⟨_,zge (by omega)⟩
   obtain ⟨r1,_,rcs,r2,r3⟩:=hl.get ha
   obtain ⟨rfl,_⟩:=csIK r2
   refine ⟨fun _=>?_,[.int .i64 a],rfl,?_,fun g2=>?_,fun g2=>?_⟩
   ·simp only [Chk.holds,evs,evb];exact ⟨r1,by omega,by omega⟩
   ·simp only [evs,evb];exact r3
   ·simp only [evs,evb] at g2
    have hna:n=a:=by simpa using g2
    subst hna
    have:k=j:=by
     rcases Nat.lt_or_ge k j with h | h
     ·exact absurd ha (hfirst k h)
     ·omega
    subst this
    exact ⟨rfl,PH.le_refl _⟩
   ·simp only [evs,evb] at g2
    have hna:n≠a:=by simpa using g2
    refine ⟨_,z00,m - 1,by omega,z,k+1,?_,by omega,?_,rfl⟩
    ·simp only [evs,evb];rw [w64 (by omega) (by omega)];rfl
    ·rcases Nat.lt_or_ge k j with h | h
     ·omega
     ·have:k=j:=by omega
      subst this
      rw [hj] at ha;cases ha;exact absurd rfl hna
  ·simp only [evs,evb,zdf] at g
   omega
 ·refine ⟨-1,?_,⟨fun h=>by omega,fun h=>absurd h hn⟩⟩
  obtain ⟨b1,c1,rfl⟩:=hl.sl
  refine z4n [.slice b1 l.length c1,.int .i64 n] (by kernel_rfl) (by kernel_rfl) ?_
  refine ⟨fun m vs K=>∃(z:Int) (k:Nat),vs=[.int .i64 z,nI k]∧k+m=l.length∧K=H,⟨l.length,0,0,rfl,by omega,rfl⟩,?_⟩
  rintro m vs K _ ⟨z,k,rfl,hkm,rfl⟩
  refine ⟨fun g=>?_,fun g=>⟨rfl,PH.le_refl _⟩⟩
  simp only [evs,evb,zdt] at g
  obtain ⟨a,ha⟩:∃a,l[k]?=some a:=⟨_,zge (by omega)⟩
  obtain ⟨r1,_,rcs,r2,r3⟩:=hl.get ha
  obtain ⟨rfl,_⟩:=csIK r2
  refine ⟨fun _=>?_,[.int .i64 a],rfl,?_,fun g2=>?_,fun g2=>?_⟩
  ·simp only [Chk.holds,evs,evb];exact ⟨r1,by omega,by omega⟩
  ·simp only [evs,evb];exact r3
  ·simp only [evs,evb] at g2
   have hna:n=a:=by simpa using g2
   exact absurd (hna ▸ zmg ha) hn
  ·refine ⟨_,z00,m - 1,by omega,z,k+1,?_,by omega,rfl⟩
   simp only [evs,evb];rw [w64 (by omega) (by omega)];rfl
theorem zv2 (l:List Int) (n:Int) (v:Value) (H:PH) (hl:SlR H l v) (hll:l.length≤40000000):Gives Tryz.prog z9s [v,.int .i64 n] H (.bool (decide (n∈l))):=by
 obtain ⟨i,h1,h2⟩:=Z34 l n v H hl hll
 obtain ⟨b1,c1,rfl⟩:=hl.sl
 refine z9d [.slice b1 l.length c1,.int .i64 n] (by kernel_rfl) (by kernel_rfl) ?_
 refine z05 [.int .i64 i] zbf h1 rfl z01 fun K1 l1=>⟨?_,l1⟩
 simp only [evs,evb]
 congr 2
 by_cases h:n∈l
 ·rw [decide_eq_true h,decide_eq_true (h2.2 h)]
 ·rw [decide_eq_false h,decide_eq_false (fun hh=>h (h2.1 hh))]
theorem zqf {N N':List (Int×GN)} {a b:Int} {Q Q':Int→Int→Prop} (h:∀c d,relN N' c d↔relN N c d∨(a≠b∧((c=a∧d=b)∨(c=b∧d=a)))) (hq:∀c d,relN N c d↔c≠d∧Q c d) (hq':∀c d,Q' c d↔Q c d∨(c=a∧d=b)∨(c=b∧d=a)) (c d:Int):relN N' c d↔c≠d∧Q' c d:=by
 rw [h,hq,hq']
 constructor
 ·rintro (⟨h1,h2⟩ | ⟨h1,h2 | h2⟩)
  ·exact ⟨h1,.inl h2⟩
  ·exact ⟨by rw [h2.1,h2.2];exact h1,.inr (.inl h2)⟩
  ·exact ⟨by rw [h2.1,h2.2];exact Ne.symm h1,.inr (.inr h2)⟩
 ·rintro ⟨h1,h2 | h2 | h2⟩
  ·exact .inl ⟨h1,h2⟩
  ·exact .inr ⟨by rw [←h2.1,←h2.2];exact h1,.inl h2⟩
  ·exact .inr ⟨by rw [←h2.1,←h2.2];exact Ne.symm h1,.inr h2⟩
def symL (t:Int) (l:List Int) (c d:Int):Prop:=(c=t∧d∈l)∨(d=t∧c∈l)
theorem zwu {t r:Int} {l:List Int} {j:Nat} (h:l[j]?=some r) (c d:Int):symL t (l.take (j+1)) c d↔symL t (l.take j) c d∨(c=t∧d=r)∨(c=r∧d=t):=by
 unfold symL
 rw [List.take_add_one,h]
 simp only [Option.toList_some,zma,zsi]
 constructor
 ·rintro (⟨h1,h2 | h2⟩ | ⟨h1,h2 | h2⟩)
  ·exact .inl (.inl ⟨h1,h2⟩)
  ·exact .inr (.inl ⟨h1,h2⟩)
  ·exact .inl (.inr ⟨h1,h2⟩)
  ·exact .inr (.inr ⟨h2,h1⟩)
 ·rintro ((⟨h1,h2⟩ | ⟨h1,h2⟩) | ⟨h1,h2⟩ | ⟨h1,h2⟩)
  ·exact .inl ⟨h1,.inl h2⟩
  ·exact .inr ⟨h1,.inl h2⟩
  ·exact .inl ⟨h1,.inr h2⟩
  ·exact .inr ⟨h2,.inr h1⟩
noncomputable def selL (x:InsX) (l:List Int):List Int:=if x.op=moveB then lessL l x.args else l
theorem zx0 {x:InsX} {l:List Int} {j:Nat} {r:Int} (h:l[j]?=some r):selL x (l.take (j+1))=selL x (l.take j)++if x.op=moveB∧r∈x.args then [] else [r]:=by
 unfold selL lessL
 rw [List.take_add_one,h]
 by_cases hm:x.op=moveB
 ·rw [if_pos hm,if_pos hm]
  simp only [Option.toList_some,List.filter_append]
  congr 1
  by_cases hr:r∈x.args
  ·rw [if_pos ⟨hm,hr⟩];simp [List.filter_cons,hr]
  ·rw [if_neg (fun hh=>hr hh.2)];simp [List.filter_cons,hr]
 ·rw [if_neg hm,if_neg hm,if_neg (fun hh=>hm hh.1)];rfl
set_option maxHeartbeats 4000000 in
theorem Zae (p:PrcX) (bv:Value) (S:PH) (hbv:SlR S p.blocks bv) (hw:p.Fit∧∀b∈p.blocks,b.e.args.length≤20000000) (hmay:mayP p=true) :
  Tri Tryz.prog zyf #[.agg (prcVs p bv).toArray] S fun x S'=>∃S1 gr es cl N,PH.le S S1∧x=.returned (.map (some gr))∧Held S1 S' (grB gr es cl++grI N)∧GrOk es cl N∧∀a b,relN N a b↔a≠b∧MeetP p a b:=by
 obtain ⟨hp,hE⟩:=hw
 have hN:=hp.n
 obtain ⟨hr0,hr1,_,_,hne⟩:=zzt hmay
 have hb0:0 < p.blocks.length:=List.length_pos_iff.2 hne
 obtain ⟨b0,c0,rfl⟩:=hbv.sl
 refine zs8 (prcVs p (.slice b0 p.blocks.length c0)) (by kernel_rfl) (by kernel_rfl) ?_
 simp only [prcVs]
 refine z1r fun gr hgr=>?_
 have h1:=(Held.nil (PH.le_refl S)).new hgr (.map #[] 0)
 refine z04 zto (h1.pure (R:=fun x S'=>∃v,x=.returned v∧SlR S' (inL p) v) (Z4z p (.slice b0 p.blocks.length c0) S hbv hp hE)) ?_
 rintro x K2 ⟨S2,l2,h2,iv,rfl,hiv⟩
 obtain ⟨b2,c2,rfl⟩:∃b c,iv=.slice b p.blocks.length c:=by rw [←Ze1 p];exact hiv.sl
 refine ⟨_,[.slice b2 p.blocks.length c2],rfl,rfl,rfl,z01,?_⟩
 simp only [cns]
 obtain ⟨a1,_,acs,a2,a3⟩:=hiv.get (Zdw (p:=p) (i:=0) hb0)
 obtain ⟨av,rfl,a4⟩:=csLK a2
 obtain ⟨ab,ac,rfl⟩:=a4.sl
 have hlen0:=zlb hp 0 0
 have ham:=a4.max
 have g0:∀{K:PH},PH.le S2 K→rowAt K (pOf (eltV (.slice b2 p.blocks.length c2) 0 1)) [.slice ab (liveL p 0 0).length ac]:=fun h=>z0u h a3
 refine ⟨fun _=>?_,[.slice ab (liveL p 0 0).length ac],rfl,?_,?_⟩
 ·simp only [Chk.holds,evs,evb];exact ⟨a1,by omega,by omega⟩
 ·simp only [evs,evb];exact g0 h2.sh
 simp only [cns]
 refine ⟨fun n vs K=>∃(i:Nat) (es:Array MapEntry) (cl:Nat) (N:List (Int×GN)),vs=[nI i]∧i+n=(liveL p 0 0).length∧Held S2 K (grB gr es cl++grI N)∧GrOk es cl N∧∀c d,relN N c d↔c≠d∧(c∈(liveL p 0 0).take i∧d∈(liveL p 0 0).take i),
  ⟨(liveL p 0 0).length,0,#[],0,[],rfl,by omega,h2,⟨EntsR.empty,fun j x h=>by simp at h⟩,fun c d=>by simp [relN]⟩,?_⟩
 rintro n vs K3 _ ⟨i,es3,cl3,N3,rfl,hin,h3,ok3,r3⟩
 simp only [cns]
 refine ⟨fun g=>?_,fun g=>?_⟩
 ·simp only [evs,evb,zdt] at g
  obtain ⟨x,hx⟩:∃x,(liveL p 0 0)[i]?=some x:=⟨_,zge (show i < (liveL p 0 0).length by omega)⟩
  obtain ⟨x1,_,xcs,x2,x3⟩:=(a4.le h3.sh).get hx
  obtain ⟨rfl,_⟩:=csIK x2
  have hcut:=a4.cut (Nat.zero_le i) (show i≤(liveL p 0 0).length by omega)
  rw [List.drop_zero] at hcut
  have hctl:((liveL p 0 0).take i).length=i:=by rw [List.length_take];omega
  refine ⟨fun _=>?_,[.int .i64 x],rfl,?_,[.slice ab (liveL p 0 0).length ac],rfl,?_,fun _=>?_,?_⟩
  ·simp only [Chk.holds,evs,evb];exact ⟨x1,by omega,by omega⟩
  ·simp only [evs,evb];exact x3
  ·simp only [evs,evb];exact g0 h3.sh
  ·have hcap:=(SlR.mk_iff.1 a4)
   have:(liveL p 0 0).length≤ac:=by
    rcases hcap.2 with ⟨h,h'⟩ | ⟨ad,c,h,h',_⟩
    ·rw [h'] at hx;simp at hx
    ·cases h;exact h'
   simp only [Chk.holds,evs,evb,slCap];omega
  simp only [cns]
  refine ⟨fun n vs K=>∃(j:Nat) (es:Array MapEntry) (cl:Nat) (N:List (Int×GN)),vs=[nI j]∧j+n=i∧Held S2 K (grB gr es cl++grI N)∧GrOk es cl N∧∀c d,relN N c d↔c≠d∧((c∈(liveL p 0 0).take i∧d∈(liveL p 0 0).take i)∨symL x ((liveL p 0 0).take j) c d),
   ⟨i,0,es3,cl3,N3,rfl,by omega,h3,ok3,fun c d=>by rw [r3];simp [symL]⟩,?_⟩
  rintro n4 vs K4 _ ⟨j,es4,cl4,N4,rfl,hjn,h4,ok4,r4⟩
  simp only [cns]
  refine ⟨fun g4=>?_,fun g4=>?_⟩
  ·have hji:j < i:=by
    simp only [evs,evb,slsV,zdt] at g4
    omega
   obtain ⟨y,hy⟩:∃y,(liveL p 0 0)[j]?=some y:=⟨_,zge (show j < (liveL p 0 0).length by omega)⟩
   have hy2:((liveL p 0 0).take i)[j]?=some y:=by rw [List.getElem?_take,if_pos hji];exact hy
   obtain ⟨y1,_,ycs,y2,y3⟩:=(hcut.le h4.sh).get hy2
   obtain ⟨rfl,_⟩:=csIK y2
   refine ⟨fun _=>?_,[.int .i64 y],rfl,?_,?_⟩
   ·simp only [Chk.holds,evs,evb]
    refine ⟨y1,by omega,?_⟩
    simp only [slsV,slLen];omega
   ·simp only [evs,evb];exact y3
   refine z04 z39 (zpi gr es4 cl4 N4 x y S2 K4 h4 ok4) ?_
   rintro e K5 ⟨es5,cl5,N5,rfl,h5,ok5,r5⟩
   refine ⟨_,[],rfl,rfl,rfl,z01,_,z00,n4 - 1,by omega,j+1,es5,cl5,N5,?_,by omega,h5,ok5,zqf r5 r4 fun c d=>?_⟩
   ·simp only [evs,evb];rw [w64 (by omega) (by omega)];rfl
   ·rw [zwu hy,or_assoc]
  ·have hji:j=i:=by
    simp only [evs,evb,slsV,zdf] at g4
    omega
   subst hji
   refine ⟨_,z17 rfl z00,n - 1,by omega,j+1,es4,cl4,N4,?_,by omega,h4,ok4,fun c d=>?_⟩
   ·simp only [evs,evb];rw [w64 (by omega) (by omega)];rfl
   ·rw [r4,List.take_add_one,hx]
    simp only [Option.toList_some,zma,zsi,symL]
    constructor
    ·rintro ⟨h1,⟨h2,h3⟩ | ⟨h2,h3⟩ | ⟨h2,h3⟩⟩
     ·exact ⟨h1,.inl h2,.inl h3⟩
     ·exact ⟨h1,.inr h2,.inl h3⟩
     ·exact ⟨h1,.inl h3,.inr h2⟩
    ·rintro ⟨h1,h2 | h2,h3 | h3⟩
     ·exact ⟨h1,.inl ⟨h2,h3⟩⟩
     ·exact ⟨h1,.inr (.inr ⟨h3,h2⟩)⟩
     ·exact ⟨h1,.inr (.inl ⟨h2,h3⟩)⟩
     ·exact absurd (h2.trans h3.symm) h1
 simp only [evs,evb,zdf] at g
 rw [ztl (by omega)] at r3
 have hbv2:=hbv.le l2
 refine ⟨fun n vs K=>∃(k:Nat) (es:Array MapEntry) (cl:Nat) (N:List (Int×GN)) (S':PH),vs=[nI k]∧k+n=p.blocks.length∧PH.le S2 S'∧Held S' K (grB gr es cl++grI N)∧GrOk es cl N∧∀c d,relN N c d↔c≠d∧((c∈liveL p 0 0∧d∈liveL p 0 0)∨∃f∈z2g p k,f.sym c d),
  ⟨p.blocks.length,0,es3,cl3,N3,S2,rfl,by omega,PH.le_refl _,h3,ok3,fun c d=>by rw [r3];simp [z2g]⟩,?_⟩
 rintro n5 vs K5 _ ⟨k,es5,cl5,N5,S5,rfl,hkn,le5,h5,ok5,r5⟩
 simp only [cns]
 refine ⟨fun g5=>?_,fun g5=>?_⟩
 rotate_left
 ·simp only [evs,evb,zdf] at g5
  have:k=p.blocks.length:=by omega
  subst this
  exact ⟨S5,gr,es5,cl5,N5,PH.le_trans l2 le5,rfl,h5,ok5,r5⟩
 simp only [evs,evb,zdt] at g5
 have hk:k < p.blocks.length:=by omega
 obtain ⟨b,hb⟩:∃b,p.blocks[k]?=some b:=⟨_,zge hk⟩
 have hbl:=hp.ins b (zmg hb)
 obtain ⟨q1,_,ces,q2,q3⟩:=(hbv2.le le5).get hb
 obtain ⟨iv,es,rfl,his,hes⟩:=blk_iff.1 q2
 obtain ⟨ev,rfl,e1,e2,hea,e3,e4,e5⟩:=end_iff.1 hes
 obtain ⟨bi,ci,rfl⟩:=his.sl
 obtain ⟨be,ce,rfl⟩:=hea.sl
 have hbe:z7u p (k:Int)=behL p k b:=by
  unfold z7u
  rw [if_neg (by omega),Int.toNat_natCast,hb]
 refine ⟨fun vs K'=>vs=[]∧∃(es:Array MapEntry) (cl:Nat) (N:List (Int×GN)) (S':PH),PH.le S5 S'∧Held S' K' (grB gr es cl++grI N)∧GrOk es cl N∧∀c d,relN N c d↔c≠d∧((c∈liveL p 0 0∧d∈liveL p 0 0)∨∃f∈z2g p (k+1),f.sym c d),?_,fun _=>?_,[.slice bi b.ins.length ci,.int .i64 b.e.kind,.int .i64 b.e.reg,.slice be b.e.args.length ce,.int .i64 b.e.to,.int .i64 b.e.next,.int .i64 b.e.els],rfl,?_,?_⟩
 ·rintro vs K' _ ⟨rfl,es',cl',N',S',l',h',ok',r'⟩
  refine ⟨_,z00,n5 - 1,by omega,k+1,es',cl',N',S',?_,by omega,PH.le_trans le5 l',h',ok',r'⟩
  simp only [evs,evb];rw [w64 (by omega) (by omega)];rfl
 ·simp only [Chk.holds,evs,evb];exact ⟨q1,by omega,by omega⟩
 ·simp only [evs,evb];exact z0u h5.sh q3
 simp only [cns]
 refine z04 zv5 (h5.pure (R:=fun x S'=>∃v,x=.returned v∧SlR S' (z7u p (k:Int)) v) (Z4c p (.slice b0 p.blocks.length c0) (k:Int) S5 (hbv2.le le5) hp hE)) ?_
 rintro x K6 ⟨S6,l6,h6,wv,rfl,hwv⟩
 rw [hbe] at hwv
 obtain ⟨b6,c6,rfl⟩:∃b' c,wv=.slice b' b.ins.length c:=by rw [←Zc2 p k b];exact hwv.sl
 refine ⟨_,[.slice b6 b.ins.length c6],rfl,rfl,rfl,z01,?_⟩
 simp only [cns]
 refine ⟨fun n vs K=>∃(i:Nat) (es:Array MapEntry) (cl:Nat) (N:List (Int×GN)),vs=[nI i]∧i+n=b.ins.length∧Held S6 K (grB gr es cl++grI N)∧GrOk es cl N∧∀c d,relN N c d↔c≠d∧(((c∈liveL p 0 0∧d∈liveL p 0 0)∨∃f∈z2g p k,f.sym c d)∨∃f∈z3g p k b i,f.sym c d),
  ⟨b.ins.length,0,es5,cl5,N5,rfl,by omega,h6,ok5,fun c d=>by rw [r5];simp [z3g]⟩,?_⟩
 rintro n7 vs K7 _ ⟨i,es7,cl7,N7,rfl,hin7,h7,ok7,r7⟩
 simp only [cns]
 refine ⟨fun g7=>?_,fun g7=>?_⟩
 ·simp only [evs,evb,zdt] at g7
  have hib:i < b.ins.length:=by omega
  obtain ⟨x,hx⟩:∃x,b.ins[i]?=some x:=⟨_,zge hib⟩
  obtain ⟨z1,_,zcs,z2,z3⟩:=(hwv.le h7.sh).get (Z1x (p:=p) (i:=k) hib)
  obtain ⟨zv,rfl,z4⟩:=csLK z2
  obtain ⟨zb,zc,rfl⟩:=z4.sl
  have hl2:=zlb hp k (i+1)
  have hisK:=(his.le l6).le h7.sh
  obtain ⟨y1,_,ycs,y2,y3⟩:=hisK.get hx
  obtain ⟨arv,dv,rfl,_,x2,hya,_,_,_,hyd,_⟩:=ins_iff.1 y2
  obtain ⟨rb,rc,rfl⟩:=hya.sl
  obtain ⟨db,dc,rfl⟩:=hyd.sl
  have hargs:x.args.length≤40000000:=by
   have h1:=Zbw hb
   have h2:=congrArg List.length (zt7 InsX.args hx)
   have h3:=zf0 InsX.args b.ins (i+1)
   have h4:=hp.regs
   have h5:b.regs.length=(b.ins.flatMap InsX.args).length+b.e.regs.length:=by unfold BlkX.regs;rw [zla]
   rw [zla] at h2
   omega
  refine ⟨fun vs K'=>vs=[]∧∃(es:Array MapEntry) (cl:Nat) (N:List (Int×GN)),Held S6 K' (grB gr es cl++grI N)∧GrOk es cl N∧∀c d,relN N c d↔c≠d∧(((c∈liveL p 0 0∧d∈liveL p 0 0)∨∃f∈z2g p k,f.sym c d)∨∃f∈z3g p k b (i+1),f.sym c d),?_,fun _=>?_,[.slice zb (liveL p k (i+1)).length zc],rfl,?_,fun _=>?_,[txt x.op,.int .i64 x.to,.slice rb x.args.length rc,.int .i64 x.const.kind,.int .i64 x.const.int,txt x.const.text,.slice db x.const.list.length dc,.int .i64 x.num],rfl,?_,fun g8=>?_,fun g8=>?_⟩
  ·rintro vs K' _ ⟨rfl,es',cl',N',h',ok',r'⟩
   refine ⟨_,z00,n7 - 1,by omega,i+1,es',cl',N',?_,by omega,h',ok',r'⟩
   simp only [evs,evb];rw [w64 (by omega) (by omega)];rfl
  ·simp only [Chk.holds,evs,evb];exact ⟨z1,by omega,by omega⟩
  ·simp only [evs,evb];exact z3
  ·simp only [Chk.holds,evs,evb];exact ⟨y1,by omega,by omega⟩
  ·simp only [evs,evb];exact y3
  ·simp only [evs,evb,Z52] at g8
   have hop:x.op=tieB:=by simpa using g8
   exact ⟨_,z00,rfl,es7,cl7,N7,h7,ok7,fun c d=>by rw [zbg hx,zcr,if_pos hop,zan];exact r7 c d⟩
  simp only [evs,evb,Z52] at g8
  have hop:x.op≠tieB:=by simpa using g8
  simp only [cns]
  refine ⟨fun n vs K=>∃(j:Nat) (es:Array MapEntry) (cl:Nat) (N:List (Int×GN)),vs=[nI j]∧j+n=(liveL p k (i+1)).length∧PH.le K7 K7∧Held S6 K (grB gr es cl++grI N)∧GrOk es cl N∧∀c d,relN N c d↔c≠d∧((((c∈liveL p 0 0∧d∈liveL p 0 0)∨∃f∈z2g p k,f.sym c d)∨∃f∈z3g p k b i,f.sym c d)∨symL x.to (selL x ((liveL p k (i+1)).take j)) c d),
   ⟨(liveL p k (i+1)).length,0,es7,cl7,N7,rfl,by omega,PH.le_refl _,h7,ok7,fun c d=>by rw [r7];simp [symL,selL,lessL]⟩,?_⟩
  rintro n8 vs K8 _ ⟨j,es8,cl8,N8,rfl,hjn,_,h8,ok8,r8⟩
  simp only [cns]
  obtain ⟨zz1,_,zzcs,zz2,zz3⟩:=hwv.get (Z1x (p:=p) (i:=k) hib)
  obtain ⟨zzv,rfl,zz4⟩:=csLK zz2
  obtain ⟨zzb,zzc,rfl⟩:=zz4.sl
  have hsame:(Value.slice zzb (liveL p k (i+1)).length zzc)=.slice zb (liveL p k (i+1)).length zc:=by
   obtain ⟨ad1,e1,f1⟩:=z3
   obtain ⟨ad2,e2,f2⟩:=z0u h7.sh zz3
   rw [e1] at e2;cases e2
   have h1:=f1 0 _ rfl
   have h2:=f2 0 _ rfl
   rw [h1] at h2;exact (Option.some.inj h2).symm
  rw [hsame] at zz4
  refine ⟨fun g9=>?_,fun g9=>?_⟩
  ·simp only [evs,evb,zdt] at g9
   obtain ⟨r,hr⟩:∃r,(liveL p k (i+1))[j]?=some r:=⟨_,zge (show j < (liveL p k (i+1)).length by omega)⟩
   obtain ⟨w1,_,wcs,w2,w3⟩:=(zz4.le h8.sh).get hr
   obtain ⟨rfl,_⟩:=csIK w2
   have hyaK:SlR K8 x.args (.slice rb x.args.length rc):=by
    obtain ⟨u1,_,ucs,u2,u3⟩:=(his.le l6).get hx
    obtain ⟨arv2,dv2,rfl,_,_,hya2,_⟩:=ins_iff.1 u2
    obtain ⟨rb2,rc2,rfl⟩:=hya2.sl
    have hs2:(Value.slice rb2 x.args.length rc2)=.slice rb x.args.length rc:=by
     obtain ⟨ad1,e1,f1⟩:=y3
     obtain ⟨ad2,e2,f2⟩:=z0u h7.sh u3
     rw [e1] at e2;cases e2
     have h1:=f1 2 _ rfl
     have h2:=f2 2 _ rfl
     rw [h1] at h2;exact (Option.some.inj h2).symm
    rw [hs2] at hya2
    exact hya2.le h8.sh
   refine ⟨fun vs K'=>vs=[]∧∃(es:Array MapEntry) (cl:Nat) (N:List (Int×GN)),Held S6 K' (grB gr es cl++grI N)∧GrOk es cl N∧∀c d,relN N c d↔c≠d∧((((c∈liveL p 0 0∧d∈liveL p 0 0)∨∃f∈z2g p k,f.sym c d)∨∃f∈z3g p k b i,f.sym c d)∨symL x.to (selL x ((liveL p k (i+1)).take (j+1))) c d),?_,fun _=>?_,[.int .i64 r],rfl,?_,?_⟩
   ·rintro vs K' _ ⟨rfl,es',cl',N',h',ok',r'⟩
    refine ⟨_,z00,n8 - 1,by omega,j+1,es',cl',N',?_,by omega,PH.le_refl _,h',ok',r'⟩
    simp only [evs,evb];rw [w64 (by omega) (by omega)];rfl
   ·simp only [Chk.holds,evs,evb];exact ⟨w1,by omega,by omega⟩
   ·simp only [evs,evb];exact w3
   simp only [cns]
   refine ⟨fun vs K'=>vs=[.bool (!decide (x.op=moveB∧r∈x.args))]∧Held S6 K' (grB gr es8 cl8++grI N8),?_,fun g10=>?_,fun g10=>?_⟩
   ·rintro vs K9 _ ⟨rfl,h9⟩
    refine ⟨fun g11=>?_,fun g11=>?_⟩
    ·simp only [evs,evb] at g11
     have hsel:¬(x.op=moveB∧r∈x.args):=fun hh=>by rw [decide_eq_true hh] at g11;cases g11
     refine z04 z39 (zpi gr es8 cl8 N8 x.to r S6 K9 h9 ok8) ?_
     rintro e K10 ⟨es10,cl10,N10,rfl,h10,ok10,r10⟩
     refine ⟨_,[],rfl,rfl,rfl,z01,_,z00,rfl,es10,cl10,N10,h10,ok10,zqf r10 r8 fun c d=>?_⟩
     rw [zx0 hr,if_neg hsel]
     unfold symL
     simp only [zma,zsi]
     constructor
     ·rintro (h | ⟨h1,h2 | h2⟩ | ⟨h1,h2 | h2⟩)
      ·exact .inl (.inl h)
      ·exact .inl (.inr (.inl ⟨h1,h2⟩))
      ·exact .inr (.inl ⟨h1,h2⟩)
      ·exact .inl (.inr (.inr ⟨h1,h2⟩))
      ·exact .inr (.inr ⟨h2,h1⟩)
     ·rintro ((h | ⟨h1,h2⟩ | ⟨h1,h2⟩) | ⟨h1,h2⟩ | ⟨h1,h2⟩)
      ·exact .inl h
      ·exact .inr (.inl ⟨h1,.inl h2⟩)
      ·exact .inr (.inr ⟨h1,.inl h2⟩)
      ·exact .inr (.inl ⟨h1,.inr h2⟩)
      ·exact .inr (.inr ⟨h2,.inr h1⟩)
    ·simp only [evs,evb] at g11
     have hsel:x.op=moveB∧r∈x.args:=Decidable.byContradiction fun hh=>by rw [decide_eq_false hh] at g11;cases g11
     exact ⟨_,z00,rfl,es8,cl8,N8,h9,ok8,fun c d=>by rw [zx0 hr,if_pos hsel,zan];exact r8 c d⟩
   ·simp only [evs,evb,Z5k] at g10
    have hmv:x.op≠moveB:=by simpa using g10
    refine ⟨_,z00,?_,h8⟩
    simp only [evs,evb]
    rw [decide_eq_false (fun hh=>hmv hh.1)];rfl
   ·simp only [evs,evb,Z5k] at g10
    have hmv:x.op=moveB:=by simpa using g10
    refine z05 [.bool (decide (r∈x.args))] z9n (zv2 x.args r _ K8 hyaK hargs) rfl z01 fun K9 l9=>?_
    refine ⟨_,z00,?_,h8.le l9⟩
    simp only [evs,evb]
    by_cases h:r∈x.args
    ·rw [decide_eq_true h,decide_eq_true (⟨hmv,h⟩:x.op=moveB∧r∈x.args)]
    ·rw [decide_eq_false h,decide_eq_false (fun hh=>h hh.2)]
  ·simp only [evs,evb,zdf] at g9
   rw [ztl (by omega)] at r8
   refine ⟨_,z17 rfl z00,rfl,es8,cl8,N8,h8,ok8,fun c d=>?_⟩
   rw [r8,zbg hx,zcr,if_neg hop]
   constructor
   ·rintro ⟨h1,(h | ⟨f,hf,hs⟩) | h⟩
    ·exact ⟨h1,.inl h⟩
    ·exact ⟨h1,.inr ⟨f,List.mem_append_left _ hf,hs⟩⟩
    ·exact ⟨h1,.inr ⟨_,List.mem_append_right _ (zsi.2 rfl),h⟩⟩
   ·rintro ⟨h1,h | ⟨f,hf,hs⟩⟩
    ·exact ⟨h1,.inl (.inl h)⟩
    ·rcases zma.1 hf with hf | hf
     ·exact ⟨h1,.inl (.inr ⟨f,hf,hs⟩)⟩
     ·rw [zsi.1 hf] at hs
      exact ⟨h1,.inr hs⟩
 simp only [evs,evb,zdf] at g7
 have:i=b.ins.length:=by omega
 subst this
 refine ⟨fun g8=>?_,fun g8=>?_⟩
 ·simp only [evs,evb] at g8
  have hc:b.e.calls=true:=by
   unfold EndX.calls
   simp only [Bool.or_eq_true,zdt] at g8
   exact decide_eq_true g8
  refine z04 zvd (h7.pure (R:=fun x S'=>∃v,x=.returned v∧SlR S' (z2b p (k:Int)) v) (Z37 p (.slice b0 p.blocks.length c0) (k:Int) S6 (hbv2.le (PH.le_trans le5 l6)) hp hE)) ?_
  rintro x K8 ⟨S8,l8,h8,av8,rfl,hav8⟩
  obtain ⟨b8,c8,rfl⟩:=hav8.sl
  have hal:=Z2v hp (k:Int)
  refine ⟨_,[.slice b8 (z2b p (k:Int)).length c8],rfl,rfl,rfl,z01,?_⟩
  simp only [cns]
  refine ⟨fun n vs K=>∃(j:Nat) (es:Array MapEntry) (cl:Nat) (N:List (Int×GN)),vs=[nI j]∧j+n=(z2b p (k:Int)).length∧Held S8 K (grB gr es cl++grI N)∧GrOk es cl N∧∀c d,relN N c d↔c≠d∧((((c∈liveL p 0 0∧d∈liveL p 0 0)∨∃f∈z2g p k,f.sym c d)∨∃f∈z3g p k b b.ins.length,f.sym c d)∨symL b.e.to ((z2b p (k:Int)).take j) c d),
   ⟨(z2b p (k:Int)).length,0,es7,cl7,N7,rfl,by omega,h8,ok7,fun c d=>by rw [r7];simp [symL]⟩,?_⟩
  rintro n9 vs K9 _ ⟨j,es9,cl9,N9,rfl,hjn,h9,ok9,r9⟩
  simp only [cns]
  refine ⟨fun g9=>?_,fun g9=>?_⟩
  ·simp only [evs,evb,zdt] at g9
   obtain ⟨r,hr⟩:∃r,(z2b p (k:Int))[j]?=some r:=⟨_,zge (show j < (z2b p (k:Int)).length by omega)⟩
   obtain ⟨w1,_,wcs,w2,w3⟩:=(hav8.le h9.sh).get hr
   obtain ⟨rfl,_⟩:=csIK w2
   refine ⟨fun _=>?_,[.int .i64 r],rfl,?_,?_⟩
   ·simp only [Chk.holds,evs,evb];exact ⟨w1,by omega,by omega⟩
   ·simp only [evs,evb];exact w3
   refine z04 z39 (zpi gr es9 cl9 N9 b.e.to r S8 K9 h9 ok9) ?_
   rintro e K10 ⟨es10,cl10,N10,rfl,h10,ok10,r10⟩
   refine ⟨_,[],rfl,rfl,rfl,z01,_,z00,n9 - 1,by omega,j+1,es10,cl10,N10,?_,by omega,h10,ok10,zqf r10 r9 fun c d=>?_⟩
   ·simp only [evs,evb];rw [w64 (by omega) (by omega)];rfl
   ·rw [zwu hr];simp only [or_assoc]
  ·simp only [evs,evb,zdf] at g9
   rw [ztl (by omega)] at r9
   refine ⟨_,z17 rfl (z17 rfl z00),rfl,es9,cl9,N9,S8,PH.le_trans l6 l8,h9,ok9,fun c d=>?_⟩
   rw [r9,ze5 hb,zcp,if_pos hc]
   constructor
   ·rintro ⟨h1,((h | ⟨f,hf,hs⟩) | ⟨f,hf,hs⟩) | h⟩
    ·exact ⟨h1,.inl h⟩
    ·exact ⟨h1,.inr ⟨f,List.mem_append_left _ hf,hs⟩⟩
    ·exact ⟨h1,.inr ⟨f,List.mem_append_right _ (List.mem_append_left _ hf),hs⟩⟩
    ·exact ⟨h1,.inr ⟨_,List.mem_append_right _ (List.mem_append_right _ (zsi.2 rfl)),h⟩⟩
   ·rintro ⟨h1,h | ⟨f,hf,hs⟩⟩
    ·exact ⟨h1,.inl (.inl (.inl h))⟩
    ·rcases zma.1 hf with hf | hf
     ·exact ⟨h1,.inl (.inl (.inr ⟨f,hf,hs⟩))⟩
     ·rcases zma.1 hf with hf | hf
      ·exact ⟨h1,.inl (.inr ⟨f,hf,hs⟩)⟩
      ·rw [zsi.1 hf] at hs
       exact ⟨h1,.inr hs⟩
 ·simp only [evs,evb] at g8
  have hc:¬b.e.calls=true:=by
   unfold EndX.calls
   simp only [zof,zdf] at g8
   simp only [zdt]
   omega
  refine ⟨_,z17 rfl z00,rfl,es7,cl7,N7,S6,l6,h7,ok7,fun c d=>?_⟩
  rw [r7,ze5 hb,zcp,if_neg hc,zan]
  constructor
  ·rintro ⟨h1,(h | ⟨f,hf,hs⟩) | ⟨f,hf,hs⟩⟩
   ·exact ⟨h1,.inl h⟩
   ·exact ⟨h1,.inr ⟨f,List.mem_append_left _ hf,hs⟩⟩
   ·exact ⟨h1,.inr ⟨f,List.mem_append_right _ hf,hs⟩⟩
  ·rintro ⟨h1,h | ⟨f,hf,hs⟩⟩
   ·exact ⟨h1,.inl (.inl h)⟩
   ·rcases zma.1 hf with hf | hf
    ·exact ⟨h1,.inl (.inr ⟨f,hf,hs⟩)⟩
    ·exact ⟨h1,.inr ⟨f,hf,hs⟩⟩
def MapS (S:PH) (v:Value) (m:List (Int×Value)):Prop:=(∃r es clock,v=.map (some r)∧S r=some (.map es clock)∧EntsR (α:=Int) es.toList clock m)∨(v=.map none∧m=[])
theorem MapS.le {S S':PH} {v:Value} {m:List (Int×Value)} (h:MapS S v m) (hl:PH.le S S'):MapS S' v m:=
 h.imp (fun ⟨r,es,clock,h1,h2,h3⟩=>⟨r,es,clock,h1,hl _ _ h2,h3⟩) id
section
variable {P:Program} {X:List PanicEntry→PH→Prop} {β:Type} {E:List Value} {L:LK} {K:β→List Value→PH→LK→Prop} {H S:PH}
theorem Zaz {t kt et ty:TypeId} {x:Operand} {ts:Array TypeId} {args:List (Nat×VE)} {k:Fm β} {m:List (Int×Value)} {v:Value} (hts:ts[0]?=some t) (ht:P.underlying t=some (.map kt et))
  (hx:argEv E args x=v) (hS:PH.le S H) (h:MapS S v m) (hb:(m.length:Int)≤9223372036854775807)
  (hk:den P X k (E++[.int .i64 m.length]) H L K):den P X (.sem (.call ⟨.builtin .len,#[x],ts⟩) ty args (.sc (.int .i64)) [] k) E H L K:=by
 rcases h with ⟨r,es,clock,h1,h2,h3⟩ | ⟨h1,h2⟩
 ·exact zjl (α:=Int) (m:=m) hts ht hx ⟨r,es,clock,h1,hS _ _ h2,h3⟩ hb z01 hk
 ·subst h2
  show wpS P (execOp (argEv E args) (bare _ ty)) _ _ H
  rw [Z1k,hx,h1]
  unfold Builtin.len_
  simp only [hts,List.getElem?_toArray,List.getElem?_cons_zero,z06,z0b ht]
  exact ⟨[.int .i64 0],rfl,rfl,z01,hk⟩
theorem Zbz (E F:List Value) (u:Value):(E++[u]++F).getD E.length (.bool false)=u:=by
 rw [zgd,zaa,List.getElem?_append_right (Nat.le_refl _)];simp
theorem zlt (E F:List Value) (u:Value) (t:Nat):argEv (E++[u]++F) [(t,.sc (.atom E.length))] (.tmp t)=u:=by
 have h1:([(t,VE.sc (.atom E.length))]:List (Nat×VE)).lookup t=some (.sc (.atom E.length)):=by simp [List.lookup]
 show (match ([(t,VE.sc (.atom E.length))]:List (Nat×VE)).lookup t with | some v=>evV (E++[u]++F) (fun _=>0) v | none=>undef)=u
 rw [h1]
 exact Zbz E F u
theorem zsy {T kt et ty ty2 ty3:TypeId} {x:Operand} {args:List (Nat×VE)} {id jid t:Nat} {tags:List Tag} {init:List SV} {t2:Tag} {body after:Fm β} {m:List (Int×Value)} {v:Value} {q mm:Nat} (hq:q=E.length) (hmm:mm=E.length+1+tags.length) (ht:P.underlying T=some (.map kt et))
  (hx:argEv E args x=v) (hS:PH.le S H) (h:MapS S v m) (htag:∀y∈m,t2.ok y.2=true) (hjid:(jid == id)=false) (Inv:List Int→List Value→PH→Nat→Obj→Prop)
  (h0:∀i o,H i=none→Inv [] (init.map (ev0 (E++[Value.pointer (some ⟨i,0,none⟩)]))) (H.upd i o) i o)
  (hcell:∀done vs H' i o,Inv done vs H' i o→H' i=some o∧PH.le S H') (hput:∀done vs H' i o o',Inv done vs H' i o→Inv done vs (H'.upd i o') i o')
  (hstep:∀done y w vs H' i o J,(y,w)∈m→y∉done→z0c tags vs=true→Inv done vs H' i o→(∀vs' H'',Inv (y::done) vs' H'' i o→J vs' H'') →
   den P X body (E++[Value.pointer (some ⟨i,0,none⟩)]++vs++[.bool true]++[.int .i64 y,w]) H' ((id,J)::L) K)
  (hend:∀done vs H' i o J,(∀y,y∈m.map (·.1)↔y∈done)→done.Nodup→z0c tags vs=true→Inv done vs H' i o→den P X after (E++[Value.pointer (some ⟨i,0,none⟩)]++vs++[.bool false]) H' ((id,J)::L) K) :
  den P X (.sem (.range T x) ty args (.sc .ptr) [] (.loop id tags init (.join jid [.bool] (.ite (.atom mm) (.sem (.entry (.tmp t)) ty2 [(t,.sc (.atom q))] (.tu [(false,[.int .i64]),(false,[t2])]) [] body) after)
   (.alt (.next (.tmp t) false) ty3 [(t,.sc (.atom q))] (.tu [(false,[.bool])]) (.tu [(false,[.bool]),(false,[.int .i64]),(false,[t2])]) (.next jid [.atom mm]) (.next jid [.atom mm]))))) E H L K:=by
 subst hq hmm
 have hat:∀(i:Nat) (vs F:List Value) (u:Value),z0c tags vs=true→ev0 (E++[Value.pointer (some ⟨i,0,none⟩)]++vs++(u::F)) (.atom (E.length+1+tags.length))=u:=by
  intro i vs F u hvs
  have hl:=z13 hvs
  show (E++[Value.pointer (some ⟨i,0,none⟩)]++vs++(u::F)).getD _ _=u
  rw [zgd,List.getElem?_append_right (by simp;omega)]
  have:E.length+1+tags.length - (E++[Value.pointer (some ⟨i,0,none⟩)]++vs).length=0:=by simp;omega
  rw [this];rfl
 rcases h with ⟨r,es,clock,rfl,hr,hents⟩ | ⟨rfl,rfl⟩
 ·refine zlj (r:=r) (es:=es) (clock:=clock) ht hx (hS _ _ hr) (fun _ _=>z01) fun i hi=>?_
  have hinit:=h0 i (.mapIter (some r) clock #[] clock) hi
  have hl0:leftM es #[]=es.toList:=by unfold leftM;simp
  have hkeys:es.toList.map (·.key)=m.map fun x=>Value.int .i64 x.1:=by
   have:=congrArg (List.map Prod.fst) hents.ents
   simp only [List.map_map,Function.comp_def] at this
   exact this
  have hent:∀e∈es.toList,∃y w,(y,w)∈m∧e.key=.int .i64 y∧e.val=w:=by
   intro e he
   have h1:(e.key,e.val)∈es.toList.map (fun e=>(e.key,e.val)):=zmp.2 ⟨e,he,rfl⟩
   rw [hents.ents] at h1
   obtain ⟨z,hz,hze⟩:=zmp.1 h1
   simp only [Prod.mk.injEq] at hze
   exact ⟨z.1,z.2,hz,hze.1.symm,hze.2.symm⟩
  have hhas:∀y∈m.map (·.1),∃e∈es.toList,e.key=.int .i64 y:=by
   intro y hy
   obtain ⟨z,hz,rfl⟩:=zmp.1 hy
   have h1:(Value.int .i64 z.1)∈es.toList.map (·.key):=by rw [hkeys];exact zmp.2 ⟨z,hz,rfl⟩
   obtain ⟨e,he,hee⟩:=zmp.1 h1
   exact ⟨e,he,hee⟩
  have huniq:∀e∈es.toList,∀e'∈es.toList,e.key=e'.key→e=e':=by
   intro e he e' he' hk
   obtain ⟨a,ha⟩:=List.getElem?_of_mem he
   obtain ⟨b,hb⟩:=List.getElem?_of_mem he'
   obtain ⟨y,w,hyw,hky,_⟩:=hent e he
   have hta:(m.map (·.1))[a]?=some y:=by
    have:=congrArg (fun l=>l[a]?) hkeys
    simp only [zem,ha,Option.map_some,hky] at this
    rw [zem]
    cases hx:m[a]? with
    | none=>rw [hx] at this;cases this
    | some z=>rw [hx] at this;simp at this;rw [this];rfl
   have htb:(m.map (·.1))[b]?=some y:=by
    have:=congrArg (fun l=>l[b]?) hkeys
    simp only [zem,hb,Option.map_some,←hk,hky] at this
    rw [zem]
    cases hx:m[b]? with
    | none=>rw [hx] at this;cases this
    | some z=>rw [hx] at this;simp at this;rw [this];rfl
   have hab:=(List.getElem?_inj (zgi.1 hta).1 hents.keys).1 (hta.trans htb.symm)
   subst hab
   rw [ha] at hb;exact Option.some.inj hb
  refine ⟨fun n vs H'=>∃(seen:Array Nat) (done:List Int),n=(leftM es seen).length∧done.Nodup∧(∀y,y∈done↔y∈m.map (·.1)∧∀e∈leftM es seen,e.key≠.int .i64 y)∧Inv done vs H' i (.mapIter (some r) clock seen clock),⟨_,#[],[],rfl,List.nodup_nil,fun y=>?_,hinit⟩,?_⟩
  ·rw [hl0]
   simp only [List.not_mem_nil,false_iff,not_and]
   intro hy hno
   obtain ⟨e,he,hk⟩:=hhas y hy
   exact hno e he hk
  rintro n vs H' hvs ⟨seen,done,rfl,hnd,hdone,hinv⟩
  obtain ⟨hc,hSH⟩:=hcell _ _ _ _ _ hinv
  refine ⟨fun us H''=>∃b:Bool,us=[.bool b]∧((b=false∧leftM es seen=[]∧H''=H')∨(b=true∧∃e∈leftM es seen,Inv done vs H'' i (.mapIter (some r) clock (seen.push e.born) clock))),?_,?_⟩
  ·rintro us H'' _ ⟨b,rfl,hcase⟩
   refine ⟨fun g=>?_,fun g=>?_⟩
   ·rw [hat i vs [] _ hvs] at g
    have hb:b=true:=g
    subst hb
    rcases hcase with ⟨h,_⟩ | ⟨_,e,he,h2⟩
    ·cases h
    have hee:e∈es.toList:=(zmf.1 he).1
    obtain ⟨y,w,hyw,hek,hev⟩:=hent e hee
    obtain ⟨p1,p2⟩:=zfd hents he
    obtain ⟨hc2,hS2⟩:=hcell _ _ _ _ _ h2
    refine zmb (i:=i) (r:=r) (es:=es) (clock:=clock) (seen:=seen) (m:=m) (e:=e) ?_ hc2 (hS2 _ _ hr) hents hee (by rw [hek,hev];exact ⟨rfl,htag _ hyw⟩) ?_
    ·rw [zaa,zlt]
    rw [hek,hev]
    have hynd:y∉done:=fun hy=>((hdone y).1 hy).2 e he hek
    refine hstep done y w vs H'' i _ _ hyw hynd hvs h2 fun vs' H3 h3=>⟨_,p1,seen.push e.born,y::done,rfl,List.nodup_cons.2 ⟨hynd,hnd⟩,fun z=>?_,h3⟩
    rw [zmc,hdone]
    constructor
    ·rintro (rfl | ⟨h4,h5⟩)
     ·refine ⟨zmp.2 ⟨_,hyw,rfl⟩,fun e' he' hk'=>?_⟩
      have he2:=(p2 e').2 (.inr he')
      have:=huniq e' (zmf.1 he2).1 e hee (hk'.trans hek.symm)
      subst this
      have hno:=(zmf.1 he').2
      simp at hno
     ·exact ⟨h4,fun e' he'=>h5 e' ((p2 e').2 (.inr he'))⟩
    ·rintro ⟨h4,h5⟩
     by_cases hz:z=y
     ·exact .inl hz
     ·refine .inr ⟨h4,fun e' he' hk'=>?_⟩
      rcases (p2 e').1 he' with rfl | h6
      ·rw [hek] at hk';cases hk';exact hz rfl
      ·exact h5 e' h6 hk'
   ·rw [hat i vs [] _ hvs] at g
    have hb:b=false:=g
    subst hb
    rcases hcase with ⟨_,hnil,rfl⟩ | ⟨h,_⟩
    ·refine hend done vs H'' i _ _ (fun y=>?_) hnd hvs hinv
     rw [hdone,hnil];simp
    ·cases h
  ·refine zpu (i:=i) (r:=r) (es:=es) (clock:=clock) (seen:=seen) (m:=m) ?_ hc (hSH _ _ hr) hents (fun e he=>?_) (fun hnil=>?_) fun e he=>?_
   ·rw [zlt]
   ·obtain ⟨y,w,hyw,hek,hev⟩:=hent e he
    rw [hek,hev];exact ⟨rfl,htag _ hyw⟩
   ·refine ⟨_,z00,false,?_,.inl ⟨rfl,hnil,rfl⟩⟩
    rw [List.map_cons,List.map_nil,hat i vs [] _ hvs]
   ·refine ⟨_,z00,true,?_,.inr ⟨rfl,e,he,hput _ _ _ _ _ _ hinv⟩⟩
    rw [List.map_cons,List.map_nil,hat i vs _ _ hvs]
 ·show wpS P (execOp (argEv E args) (bare _ ty)) _ _ H
  rw [zr7,hx]
  unfold Instr.range
  simp only [z06,z0b ht,z24]
  intro i hi
  have hinit:=h0 i (.mapIter none 0 #[] 0) hi
  refine ⟨[.pointer (some ⟨i,0,none⟩)],rfl,rfl,z01,?_⟩
  refine ⟨fun n vs H'=>Inv [] vs H' i (.mapIter none 0 #[] 0),⟨0,hinit⟩,?_⟩
  intro n vs H' hvs hinv
  obtain ⟨hc,hSH⟩:=hcell _ _ _ _ _ hinv
  refine ⟨fun us H''=>us=[.bool false]∧H''=H',?_,?_⟩
  ·rintro us H'' _ ⟨rfl,rfl⟩
   refine ⟨fun g=>?_,fun g=>?_⟩
   ·rw [hat i vs [] _ hvs] at g;cases g
   ·exact hend [] vs H'' i _ _ (fun y=>by simp) List.nodup_nil hvs hinv
  ·show wpS P (execOp (argEv _ _) (bare _ ty3)) _ _ H'
   rw [zvw,zlt]
   unfold Instr.next
   simp only [z06,z24]
   refine ⟨_,hc,rfl,?_⟩
   refine .inl ⟨[.bool false],rfl,rfl,_,z00,?_,rfl⟩
   rw [List.map_cons,List.map_nil,hat i vs [] _ hvs]
end
theorem zs9:∀(L:List (Nat×Obj)) {S H:PH} {I:List Itm},Held S H ((L.map fun x=>Itm.blk x.1 x.2)++I)→∃S',PH.le S S'∧Held S' H I∧∀x∈L,S' x.1=some x.2
 | [],S,H,I,h=>⟨S,PH.le_refl _,h,fun x hx=>by cases hx⟩
 | a::L,S,H,I,h=>by
  have h':Held S H (.blk a.1 a.2::((L.map fun x=>Itm.blk x.1 x.2)++I)):=h
  obtain ⟨l1,h1⟩:=h'.freezeB
  obtain ⟨S2,l2,h2,h3⟩:=zs9 L h1
  refine ⟨S2,PH.le_trans l1 l2,h2,fun x hx=>?_⟩
  rcases zmc.1 hx with rfl | hx
  ·exact l2 _ _ PH.upd_same
  ·exact h3 x hx
structure GraphR (S:PH) (v:Value) (N:List (Int×GN)):Prop where
 at_:∃gr es cl,v=.map (some gr)∧S gr=some (.map es cl)∧GrOk es cl N
 in_:∀x∈N,S x.2.ref=some (.map x.2.es x.2.cl)
theorem GraphR.le {S S':PH} {v:Value} {N:List (Int×GN)} (h:GraphR S v N) (hl:PH.le S S'):GraphR S' v N:=by
 obtain ⟨gr,es,cl,h1,h2,h3⟩:=h.at_
 exact ⟨⟨gr,es,cl,h1,hl _ _ h2,h3⟩,fun x hx=>hl _ _ (h.in_ x hx)⟩
theorem Z2u {S H:PH} {gr:Nat} {es:Array MapEntry} {cl:Nat} {N:List (Int×GN)} (h:Held S H (grB gr es cl++grI N)) (ok:GrOk es cl N):∃S',PH.le S S'∧PH.le S' H∧GraphR S' (.map (some gr)) N:=by
 have e:grB gr es cl++grI N=(((gr,Obj.map es cl)::N.map fun x=>(x.2.ref,Obj.map x.2.es x.2.cl)).map fun x=>Itm.blk x.1 x.2)++[]:=by
  simp [grB,grI,Function.comp_def]
 rw [e] at h
 obtain ⟨S',l1,h1,h2⟩:=zs9 _ h
 exact ⟨S',l1,h1.sh,⟨gr,es,cl,rfl,h2 _ (zms),ok⟩,fun x hx=>h2 (x.2.ref,_) (zmm _ (zmp.2 ⟨x,hx,rfl⟩))⟩
def adjN (N:List (Int×GN)) (c:Int):List Int:=match N.find? fun x=>decide (x.1=c) with
 | some x=>x.2.s
 | none=>[]
theorem zuf {N:List (Int×GN)} (hn:(N.map (·.1)).Nodup) (c:Int):(∃(j:Nat) (x:Int×GN),N[j]?=some x∧x.1=c∧adjN N c=x.2.s)∨((∀x∈N,x.1≠c)∧adjN N c=[]):=by
 unfold adjN
 cases hf:N.find? fun x=>decide (x.1=c) with
 | none=>
  rw [List.find?_eq_none] at hf
  exact .inr ⟨fun x hx e=>hf x hx (decide_eq_true e),rfl⟩
 | some x=>
  obtain ⟨j,hj⟩:=List.getElem?_of_mem (List.mem_of_find?_eq_some hf)
  have hd:=List.find?_some hf
  exact .inl ⟨j,x,hj,by simpa using hd,rfl⟩
theorem Zd6 {N:List (Int×GN)} (hn:(N.map (·.1)).Nodup) (c d:Int):d∈adjN N c↔relN N c d:=by
 rcases zuf hn c with ⟨j,x,hj,hx,he⟩ | ⟨hno,he⟩
 ·rw [he]
  constructor
  ·exact fun h=>⟨x,zmg hj,hx,h⟩
  ·rintro ⟨y,hy,h1,h2⟩
   obtain ⟨t,ht⟩:=List.getElem?_of_mem hy
   have h3:(N.map (·.1))[j]?=some c:=by rw [zem,hj,←hx];rfl
   have h4:(N.map (·.1))[t]?=some c:=by rw [zem,ht,←h1];rfl
   have:=(List.getElem?_inj (zgi.1 h3).1 hn).1 (h3.trans h4.symm)
   subst this
   rw [hj] at ht;cases ht;exact h2
 ·rw [he]
  constructor
  ·intro h;cases h
  ·rintro ⟨y,hy,h1,_⟩;exact absurd h1 (hno y hy)
theorem GraphR.keys {S:PH} {v:Value} {N:List (Int×GN)} (h:GraphR S v N):(N.map (·.1)).Nodup:=by
 obtain ⟨gr,es,cl,_,_,h3⟩:=h.at_;exact zmj h3
theorem GraphR.adj_nodup {S:PH} {v:Value} {N:List (Int×GN)} (h:GraphR S v N) (c:Int):(adjN N c).Nodup:=by
 obtain ⟨gr,es,cl,_,_,h3⟩:=h.at_
 rcases zuf h.keys c with ⟨j,x,hj,hx,he⟩ | ⟨hno,he⟩
 ·rw [he];exact (h3.inner j x hj).nodup
 ·rw [he];exact List.nodup_nil
theorem GraphR.look {S:PH} {v:Value} {N:List (Int×GN)} (h:GraphR S v N) (c:Int):MapR S v (outM N)∧∃w,(getM (outM N) c).getD (.map none)=w∧Tag.ok .map w=true∧MapS S w (encS (adjN N c)):=by
 obtain ⟨gr,es,cl,rfl,h2,h3⟩:=h.at_
 refine ⟨⟨gr,es,cl,rfl,h2,h3.outer⟩,?_⟩
 rcases zuf h.keys c with ⟨j,x,hj,hx,he⟩ | ⟨hno,he⟩
 ·have:=zjw h.keys hj
  rw [hx] at this
  rw [this,he]
  exact ⟨_,rfl,rfl,.inl ⟨x.2.ref,x.2.es,x.2.cl,rfl,h.in_ x (zmg hj),h3.inner j x hj⟩⟩
 ·rw [zmq hno,he]
  exact ⟨_,rfl,rfl,.inr ⟨rfl,rfl⟩⟩
set_option maxHeartbeats 1000000 in
theorem Z02 (l:List Int) (v:Value) (S K:PH) (I:List Itm) (h:Held S K (orow 3 l v::I)) (hl:l.length≤40000000) :
  Tri Tryz.prog zb1 #[v] K fun x K'=>x=.returned (.tuple #[])∧Held S K' (orow 3 l.reverse v::I):=by
 obtain ⟨b,c,rfl⟩:=(h.row (zms)).sl
 refine z9l [.slice b l.length c] (by kernel_rfl) (by kernel_rfl) ?_
 refine ⟨fun n vs K'=>∃(i:Nat) (m:List Int),vs=[nI i,.int .i64 ((l.length:Int) - 1 - i)]∧n=l.length - i∧i≤l.length∧RevAt l m i∧Held S K' (orow 3 m (.slice b l.length c)::I),⟨_,0,l,?_,rfl,by omega,RevAt.first l,h⟩,?_⟩
 ·simp only [evs,evb]
  rw [w64 (by omega) (by omega)]
  simp
 rintro n vs K1 _ ⟨i,m,rfl,rfl,hil,hr,h1⟩
 refine ⟨fun g=>?_,fun g=>?_⟩
 ·simp only [evs,evb,zdt] at g
  have hi2:2 * i+1 < l.length:=by omega
  obtain ⟨k,hk⟩:∃k:Nat,(l.length:Int) - 1 - i=(k:Int):=⟨l.length - 1 - i,by omega⟩
  have hk':k=l.length - 1 - i:=by omega
  rw [hk]
  obtain ⟨a,ha⟩:∃a,m[i]?=some a:=⟨_,zge (by rw [hr.len];omega)⟩
  obtain ⟨z,hz⟩:∃z,m[k]?=some z:=⟨_,zge (by rw [hr.len];omega)⟩
  obtain ⟨a1,_,acs,a2,a3⟩:=(h1.row (zms)).get ha
  obtain ⟨z1,_,zcs,z2,z3⟩:=(h1.row (zms)).get hz
  obtain ⟨rfl,a4⟩:=csIK a2
  obtain ⟨rfl,z4⟩:=csIK z2
  refine ⟨fun _=>?_,[.int .i64 z],rfl,?_,fun _=>?_,[.int .i64 a],rfl,?_,?_⟩
  ·simp only [Chk.holds,evs,evb];exact ⟨z1,by omega,by omega⟩
  ·simp only [evs,evb];exact z3
  ·simp only [Chk.holds,evs,evb];exact ⟨a1,by omega,by omega⟩
  ·simp only [evs,evb];exact a3
  refine z1n (i:=i) (a:=a) (a':=z) (us:=[.int .i64 z]) ?_ h1 ha rfl ?_ (by simp [oneC]) (z0k z4) fun K2 h2=>?_
  ·simp only [evs,evb];rfl
  ·simp only [evs,evb]
  have hz':(m.set i z)[k]?=some z:=by
   rw [List.getElem?_set,if_neg (by omega)];exact hz
  refine z1n (i:=k) (a:=z) (a':=a) (us:=[.int .i64 a]) ?_ h2 hz' rfl ?_ (by simp [oneC]) (z0k a4) fun K3 h3=>?_
  ·simp only [evs,evb];rfl
  ·simp only [evs,evb]
  refine ⟨_,z00,l.length - (i+1),by omega,i+1,(m.set i z).set k a,?_,rfl,by omega,?_,h3⟩
  ·simp only [evs,evb]
   rw [w64 (by omega) (by omega),w64 (by omega) (by omega)]
   congr 2
   congr 1
   omega
  ·subst hk';exact hr.step hi2 ha hz
 ·simp only [evs,evb,zdf] at g
  have:=hr.done (by omega)
  subst this
  exact ⟨rfl,h1⟩
def mulA:SV:=match z40 with
 | .leaf (.tu [(_,[a]),_])=>a
 | _=>.int .u64 1
def mulB:SV:=match z40 with
 | .leaf (.tu [_,(_,[b])])=>b
 | _=>.int .u64 1
theorem Zds:((List.range 2001).all fun R=>decide (iOf (ev [.int .u64 1,.int .u64 (R:Int)] (fun _=>0) mulA)=0) && decide (iOf (ev [.int .u64 1,.int .u64 (R:Int)] (fun _=>0) mulB)=(R:Int)))=true:=by decide +kernel
section
variable {P:Program} {Φ:Next→PH→Prop} {Ψ:Value→PH→Prop} {H S:PH} {ρ:Operand→Value} {I:List Itm}
theorem Z8g {x y:Operand} {ts:Array TypeId} {ty:TypeId}:wpS P (execOp ρ (bare (.call ⟨.builtin .copy,#[x,y],ts⟩) ty)) Φ Ψ H=wpS P (Builtin.copy_ ts ty #[ρ x,ρ y]) (fun v H'=>Φ (.value v) H') Ψ H:=by
 simp only [execOp,bare,resolve,z06,z0j]
 simp only [invoke,List.map_toArray,List.map_cons,List.map_nil,builtin,z06,z0j]
variable {X:List PanicEntry→PH→Prop} {β:Type} {E:List Value} {L:LK} {K:β→List Value→PH→LK→Prop}
theorem zw7 {T ty e:TypeId} {ts:Array TypeId} {x y:Operand} {args:List (Nat×VE)} {k:Fm β} {r d dl dc sl sc m:Nat} {sa:Addr} {BT:TypeId} {cs:List Value} (vs:List Value) (hts:ts[0]?=some T) (hT:P.underlying T=some (.slice e)) (hiz:(P.info? e).map (·.size)=some 1)
  (hx:argEv E args x=.slice (some ⟨r,d,none⟩) dl dc) (hy:argEv E args y=.slice (some sa) sl sc) (h:Held S H (bx r BT cs::I)) (hm:m=min sl dl) (hvs:vs.length=m) (hread:∀i v,vs[i]?=some v→H.cell? (sa.add i)=some v) (hfit:d+m≤cs.length) (h1:∀v∈vs,oneC v=true) (hml:(m:Int)≤9223372036854775807)
  (hk:∀H',Held S H' (bx r BT (cs.take d++vs++cs.drop (d+m))::I)→den P X k (E++[.int .i64 m]) H' L K):den P X (.sem (.call ⟨.builtin .copy,#[x,y],ts⟩) ty args (.sc (.int .i64)) [] k) E H L K:=by
 obtain ⟨i,hi,hz⟩:=Option.map_eq_some_iff.1 hiz
 show wpS P (execOp (argEv E args) (bare _ ty)) _ _ H
 rw [Z8g,hx,hy]
 unfold Builtin.copy_
 simp only [hts,List.getElem?_toArray,List.getElem?_cons_zero,List.getElem?_cons_succ,z06,z0b hT]
 show wpS P (Builtin.lenOf (.slice (some sa) sl sc)) _ _ H
 show wpS P (sizeOf e) _ _ H
 rw [z2s hi,hz]
 show wpS P (loadCells sa (Nat.min sl dl * 1)) _ _ H
 have hmm:Nat.min sl dl * 1=m:=by rw [Nat.mul_one,hm]
 rw [hmm]
 refine zb9 hvs hread ?_
 show wpS P (storeCells ⟨r,d,none⟩ vs.toArray.toList) _ _ H
 rw [List.toList_toArray]
 refine z1u vs d 0 cs.toArray H (h.blk (zms)) (by simp [hvs]<;>omega) h1 ?_
 have h2:=h.put (.cells (cs.take d++vs++cs.drop (d+vs.length)).toArray BT (0,0))
 have e2:z11 cs.toArray (d+0) vs=(cs.take d++vs++cs.drop (d+vs.length)).toArray:=by
  unfold z11;simp
 rw [e2]
 rw [hvs] at h2
 rw [hvs]
 refine ⟨[.int .i64 m],rfl,?_,z01,hk _ h2⟩
 show goInt (Nat.min sl dl)=_
 rw [show Nat.min sl dl=m from hm.symm];rfl
end
theorem Z3a (R:Nat) (hR:R≤2000) (H:PH):Gives Tryz.prog z6c [.int .u64 1,.int .u64 (R:Int)] H (.tuple #[.int .u64 0,.int .u64 (R:Int)]):=by
 refine z9p [.int .u64 1,.int .u64 (R:Int)] (by kernel_rfl) (by kernel_rfl) ?_
 have h:=zat.1 Zds R (List.mem_range.2 (by omega))
 rw [zba,zdt,zdt] at h
 obtain ⟨h1,h2⟩:=h
 refine ⟨?_,PH.le_refl _⟩
 show Ending.returned (.tuple #[.int .u64 (iOf (ev [.int .u64 1,.int .u64 (R:Int)] (fun _=>0) mulA)),.int .u64 (iOf (ev [.int .u64 1,.int .u64 (R:Int)] (fun _=>0) mulB))])=_
 rw [h1,h2]
theorem Z99 (R:Nat) (hR:R≤2000) (H:PH):Gives Tryz.prog zss [.int .u64 1,.int .u64 (R:Int)] H (.tuple #[.int .u64 0,.int .u64 (R:Int)]):=by
 refine zns [.int .u64 1,.int .u64 (R:Int)] (by kernel_rfl) (by kernel_rfl) ?_
 exact z05 [.int .u64 0,.int .u64 (R:Int)] zas (Z3a R hR H) rfl z01 fun K l=>⟨rfl,l⟩
theorem zv0:OneOk Tryz.prog 3 8 (.int .i64 0):=OneOk.of (by kernel_rfl) rfl
theorem Z59 (n m R:Nat) (u z:Value) (h:n+m≤R):(List.replicate n u++List.replicate (R - n) z).take n++List.replicate m u++(List.replicate n u++List.replicate (R - n) z).drop (n+m)=List.replicate (n+m) u++List.replicate (R - (n+m)) z:=by
 rw [List.take_left' (by simp),List.drop_append,List.length_replicate,Nat.add_sub_cancel_left,List.drop_of_length_le (by simp),List.nil_append,List.drop_replicate,←List.replicate_append_replicate]
 congr 2;omega
set_option maxHeartbeats 1000000 in
theorem Z7f (R:Nat) (hR:R≤2000) (a:Int) (lv:Value) (S:PH) (hl:SlR S [a] lv) :
  Tri Tryz.prog zbm #[lv,.int .i64 (R:Int)] S fun x K=>∃v,x=.returned v∧Held S K [orow 3 (List.replicate R a) v]:=by
 have hl0:=hl
 obtain ⟨b1,c1,rfl⟩:=hl.sl
 obtain ⟨ad,had⟩:∃ad,b1=some ad:=by
  rcases (SlR.mk_iff.1 hl).2 with ⟨_,h⟩ | ⟨ad,c,h,_⟩
  ·cases h
  ·cases h;exact ⟨ad,rfl⟩
 subst had
 obtain ⟨_,_,acs,q2,q3⟩:=hl0.get (i:=0) (a:=a) rfl
 obtain ⟨rfl,hai⟩:=csIK q2
 have hcell:S.cell? ad=some (.int .i64 a):=by
  obtain ⟨ad2,e1,f1⟩:=q3
  have h0:=f1 0 _ rfl
  have:ad2=ad:=by simp [eltV,pOf,z0d,Addr.add_zero] at e1;exact e1.symm
  subst this
  simpa [Addr.add_zero] using h0
 refine zag [.slice (some ad) 1 c1,.int .i64 (R:Int)] (by kernel_rfl) (by kernel_rfl) ?_
 refine ⟨fun vs K=>vs=[]∧K=S,?_,fun g=>?_,fun g=>⟨_,z00,rfl,rfl⟩⟩
 rotate_left
 ·simp only [evs,evb,zdt] at g;omega
 rintro vs K _ ⟨rfl,rfl⟩
 have hw1:IntKind.u64.wrap (1:Int)=1:=rfl
 have hw2:IntKind.u64.wrap (R:Int)=(R:Int):=by
  simp only [IntKind.wrap,IntKind.bits,IntKind.signed];simp;omega
 refine z05 [.int .u64 0,.int .u64 (R:Int)] zqn ?_ rfl z01 fun K1 l1=>?_
 ·have:=Z99 R hR K
  simp only [evs,evb,zlc,zln]
  rw [hw2]
  exact this
 simp only [cns]
 refine ⟨fun vs K'=>vs=[]∧K'=K1,?_,fun g=>?_,fun g=>⟨_,z00,rfl,rfl⟩⟩
 rotate_left
 ·simp only [evs,evb] at g
  simp only [Bool.or_eq_true,zdt] at g
  omega
 rintro vs K' _ ⟨rfl,rfl⟩
 have hw3:IntKind.i64.wrap (R:Int)=(R:Int):=by rw [w64 (by omega) (by omega)]
 simp only [List.cons_append,List.nil_append,zan]
 refine zct (n:=R) z0s zv0 (by show Value.int .i64 (IntKind.i64.wrap (R:Int))=_;rw [hw3]) (by show Value.int .i64 (IntKind.i64.wrap (R:Int))=_;rw [hw3]) (by simp only [maxLen];omega) (by omega) (Held.nil l1) fun r K2 h2 _=>?_
 have h2:=h2.rawBlk
 simp only [cns]
 have hm:min 1 R≤R:=Nat.min_le_right _ _
 refine zw7 (BT:=3) (m:=min 1 R) (sl:=1) (dl:=R) (d:=0) (sa:=ad) (sc:=c1) (dc:=R) (List.replicate (min 1 R) (.int .i64 a)) rfl z0s (by kernel_rfl) (by kernel_rfl) (by kernel_rfl) h2 rfl (by simp) (fun i v hv=>?_) (by simp;omega) (fun v hv=>by rw [(List.mem_replicate.1 hv).2];rfl) (by omega) fun K3 h3=>?_
 ·rw [List.getElem?_replicate] at hv
  split at hv
  ·rename_i hi
   have:i=0:=by omega
   subst this
   cases hv
   rw [Addr.add_zero]
   exact PH.cell_le h2.sh hcell
  ·cases hv
 have h3:Held K K3 [bx r 3 (List.replicate (min 1 R) (Value.int .i64 a)++List.replicate (R - min 1 R) (Value.int .i64 0))]:=by
  have e:=Z59 0 (min 1 R) R (Value.int .i64 a) (Value.int .i64 0) (by omega)
  simp only [List.replicate_zero,List.nil_append,Nat.zero_add,Nat.sub_zero] at e
  rw [Nat.zero_add,e] at h3
  exact h3
 simp only [cns]
 refine ⟨fun n vs K'=>∃j:Nat,vs=[nI j]∧n=R - j∧j≤R∧(j=0→R=0)∧Held K K' [bx r 3 (List.replicate j (Value.int .i64 a)++List.replicate (R - j) (Value.int .i64 0))],⟨_,min 1 R,rfl,rfl,hm,by omega,h3⟩,?_⟩
 rintro n vs K4 _ ⟨j,rfl,rfl,hjR,hj0,h4⟩
 simp only [cns]
 refine ⟨fun g=>?_,fun g=>?_⟩
 ·simp only [evs,evb,zdt] at g
  have hjl:j < R:=by omega
  refine ⟨fun _=>?_,fun _=>?_,?_⟩
  ·simp only [Chk.holds,evs,evb,slCap];omega
  ·simp only [Chk.holds,evs,evb,slCap];omega
  have hd:slsV (.slice (some ⟨r,0,none⟩) R R) (j:Int) (R:Int) 1=.slice (some ⟨r,j,none⟩) (R - j) (R - j):=by
   simp only [slsV,slCap,z0d,Int.toNat_natCast,Nat.mul_one]
   rw [if_neg (by omega)];simp [Addr.add_plain]
  have hs:slsV (.slice (some ⟨r,0,none⟩) R R) 0 (j:Int) 1=.slice (some ⟨r,0,none⟩) j R:=by
   show Value.slice (if R=0 then some ⟨r,0,none⟩ else some (Addr.add ⟨r,0,none⟩ 0)) ((j:Int).toNat - 0) (R - 0)=_
   rw [if_neg (show ¬R=0 by omega),Addr.add_plain,Int.toNat_natCast];rfl
  refine zw7 (BT:=3) (m:=min j (R - j)) (sl:=j) (dl:=R - j) (d:=j) (sa:=⟨r,0,none⟩) (sc:=R) (dc:=R - j) (List.replicate (min j (R - j)) (.int .i64 a)) rfl z0s (by kernel_rfl) ?_ ?_ h4 rfl (by simp) (fun i v hv=>?_) (by simp;omega) (fun v hv=>by rw [(List.mem_replicate.1 hv).2];rfl) (by omega) fun K5 h5=>?_
  ·exact hd
  ·exact hs
  ·rw [List.getElem?_replicate] at hv
   split at hv
   ·rename_i hi
    cases hv
    have hb:=h4.blk (zms)
    rw [Addr.add_plain,PH.cell_at hb,Nat.zero_add]
    simp only [List.getElem?_toArray]
    rw [List.getElem?_append_left (by simp;omega),List.getElem?_replicate,if_pos (by omega)]
   ·cases hv
  rw [Z59 j (min j (R - j)) R _ _ (by omega)] at h5
  refine ⟨_,z00,R - (j+min j (R - j)),by omega,j+min j (R - j),?_,rfl,by omega,by omega,h5⟩
  simp only [evs,evb];rw [w64 (by omega) (by omega)];congr 2
 ·simp only [evs,evb,zdf] at g
  have:j=R:=by omega
  subst this
  rw [Nat.sub_self,List.replicate_zero,zan] at h4
  have hrow:PV.RepRow K ((List.replicate j a).flatMap pv) (List.replicate j (Value.int .i64 a)):=by
   have:=zgv (S:=K) (l:=List.replicate j a) fun x hx=>by rw [(List.mem_replicate.1 hx).2];exact hai
   rwa [List.map_replicate] at this
  have h5:=Held.blkRow (α:=Int) (L:=List.replicate j a) rfl h4 hrow (by simp only [List.length_replicate,maxLen];omega)
  rw [List.length_replicate] at h5
  exact ⟨_,rfl,h5⟩
structure GraphOk (R:Nat) (N:List (Int×GN)):Prop where
 keys:(N.map (·.1)).Nodup
 nd:∀c,(adjN N c).Nodup
 rel:∀c d,d∈adjN N c→c∈adjN N d∧c≠d∧0≤c∧c < R∧0≤d∧d < R
def degN (N:List (Int×GN)) (gone:List Int) (u:Int):Nat:=((adjN N u).filter fun d=>decide (d∉gone)).length
theorem zz0 {R:Nat} {N:List (Int×GN)} (h:GraphOk R N) (g:List Int) (u:Int):degN N g u≤R:=by
 have h1:(adjN N u).length≤((List.range R).map Int.ofNat).length:=z0w (h.nd u) fun d hd=>by
  have:=h.rel u d hd
  exact zmp.2 ⟨d.toNat,List.mem_range.2 (by omega),show ((d.toNat:Nat):Int)=d by omega⟩
 rw [zlm,List.length_range] at h1
 exact Nat.le_trans (List.length_filter_le _ _) h1
theorem Z1l (N:List (Int×GN)) (u:Int):degN N [] u=(adjN N u).length:=by
 unfold degN;rw [List.filter_eq_self.2];intro d _;simp
theorem Z2e {l:List Int} (hn:l.Nodup) (g:List Int) (b:Int) (hb:b∉g):(l.filter fun d=>decide (d∉g++[b])).length=(l.filter fun d=>decide (d∉g)).length - (if b∈l then 1 else 0):=by
 induction l with
 | nil=>simp
 | cons a l ih=>
  obtain ⟨h1,h2⟩:=List.nodup_cons.1 hn
  have ih:=ih h2
  rw [List.filter_cons,List.filter_cons]
  by_cases e:a=b
  ·subst e
   rw [if_neg h1,Nat.sub_zero] at ih
   rw [if_neg (by simp),if_pos (by simpa using hb),if_pos (zms),ih,zlc,Nat.add_sub_cancel]
  ·have hiff:(b∈a::l)↔b∈l:=by rw [zmc];exact ⟨fun h=>h.elim (fun h=>absurd h.symm e) id,.inr⟩
   have hif:(if b∈a::l then 1 else 0)=(if b∈l then 1 else 0):=by simp only [hiff]
   rw [hif]
   by_cases hg:a∈g
   ·rw [if_neg (by simp [hg]),if_neg (by simp [hg]),ih]
   ·rw [if_pos (by simp [hg,e]),if_pos (by simp [hg]),zlc,zlc,ih]
    by_cases hbl:b∈l
    ·have hpos:0 < (l.filter fun d=>decide (d∉g)).length:=List.length_pos_iff.2 fun hnil=>by
      have:b∈l.filter fun d=>decide (d∉g):=zmf.2 ⟨hbl,by simpa using hb⟩
      rw [hnil] at this;cases this
     rw [if_pos hbl];omega
    ·rw [if_neg hbl];omega
theorem Zc4 {R:Nat} {N:List (Int×GN)} (h:GraphOk R N) {g:List Int} {b u:Int} (hb:b∉g):degN N (g++[b]) u=degN N g u - (if b∈adjN N u then 1 else 0):=Z2e (h.nd u) g b hb
theorem Z57 {N:List (Int×GN)} {g:List Int} {b u:Int} (hb:b∉g) (hu:b∈adjN N u):0 < degN N g u:=by
 unfold degN
 refine List.length_pos_iff.2 fun hnil=>?_
 have:b∈(adjN N u).filter fun d=>decide (d∉g):=zmf.2 ⟨hu,by simpa using hb⟩
 rw [hnil] at this;cases this
def OrdOk (N:List (Int×GN)) (R:Nat) (k:Int) (st:List Int):Prop:=∀(t:Nat) s,st[t]?=some s→(degN N (st.take t) s:Int) < k∨∀u:Nat,u < R→(u:Int)∉st.take t→k≤degN N (st.take t) u
theorem Z8a {R:Nat} {st:List Int} (hn:st.Nodup) (hr:∀s∈st,0≤s∧s < R) (hl:st.length < R):∃j:Nat,j < R∧(j:Int)∉st:=by
 refine Classical.byContradiction fun hno=>?_
 have hall:∀j:Nat,j < R→(j:Int)∈st:=fun j hj=>Classical.byContradiction fun h=>hno ⟨j,hj,h⟩
 have h1:((List.range R).map Int.ofNat).length≤st.length:=z0w (by
  rw [List.Nodup,List.pairwise_map]
  exact (List.nodup_range (n:=R)).imp fun h e=>h (Int.ofNat.inj e)) fun y hy=>by
   obtain ⟨i,hi,rfl⟩:=zmp.1 hy
   exact hall i (List.mem_range.1 hi)
 rw [zlm,List.length_range] at h1
 omega
set_option maxHeartbeats 4000000 in
theorem Z9b (R:Nat) (hR:R≤2000) (k:Int) (gv:Value) (N:List (Int×GN)) (S:PH) (hg:GraphR S gv N) (ok:GraphOk R N) :
  Tri Tryz.prog zyg #[gv,.int .i64 (R:Int),.int .i64 k] S fun x S'=>PH.le S S'∧∃st v,x=.returned v∧SlR S' st.reverse v∧st.Nodup∧st.length=R∧(∀s:Int,s∈st→0≤s∧s < R)∧OrdOk N R k st:=by
 obtain ⟨gr,ges,gcl,rfl,_,_⟩:=hg.at_
 refine ztu [.map (some gr),.int .i64 (R:Int),.int .i64 k] (by kernel_rfl) (by kernel_rfl) ?_
 refine ⟨fun vs K=>∃dv nv,vs=[dv,nv]∧Held S K [orow 3 (List.replicate R (0:Int)) dv,orow 4 (List.replicate R false) nv],?_,?_,?_⟩
 rotate_left
 ·refine z1p (α:=Int) (n:=R) 0 rfl (fun S=>z0k InI0) z0s zv0 (by kernel_rfl) (by kernel_rfl) (by simp only [maxLen];omega) (by omega) (Held.nil (PH.le_refl S)) fun v1 K1 h1 _=>?_
  refine z1p (α:=Bool) (n:=R) false rfl (fun S=>zhj) z9v z7f (by kernel_rfl) (by kernel_rfl) (by simp only [maxLen];omega) (by omega) h1 fun v2 K2 h2 _=>?_
  exact ⟨_,z00,v1,v2,rfl,h2.perm (List.Perm.swap _ _ _)⟩
 ·refine z1p (α:=Bool) (n:=R) false rfl (fun S=>zhj) z9v z7f (by kernel_rfl) (by kernel_rfl) (by simp only [maxLen];omega) (by omega) (Held.nil (PH.le_refl S)) fun v1 K1 h1 _=>?_
  refine z1p (α:=Int) (n:=R) 0 rfl (fun S=>z0k InI0) z0s zv0 (by kernel_rfl) (by kernel_rfl) (by simp only [maxLen];omega) (by omega) h1 fun v2 K2 h2 _=>?_
  exact ⟨_,z00,v2,v1,rfl,h2⟩
 rintro vs K1 _ ⟨dv,nv,rfl,h1⟩
 obtain ⟨db,dc,rfl⟩:∃b c,dv=.slice b R c:=by have:=(h1.row (zms)).sl;rwa [List.length_replicate] at this
 obtain ⟨nb,nc,rfl⟩:∃b c,nv=.slice b R c:=by have:=(h1.row (zmm _ (zms))).sl;rwa [List.length_replicate] at this
 simp only [cns]
 refine ⟨fun n vs K=>∃(i:Nat) (l:List Int),vs=[nI i]∧i+n=R∧l.length=R∧Held S K [orow 3 l (.slice db R dc),orow 4 (List.replicate R false) (.slice nb R nc)]∧∀j,j < i→l[j]?=some (degN N [] (j:Int):Int),
  ⟨R,0,_,rfl,by omega,by simp,h1,fun j h=>by omega⟩,?_⟩
 rintro n vs K2 _ ⟨i,l,rfl,hin,hl,h2,hd⟩
 simp only [cns]
 refine ⟨fun g=>?_,fun g=>?_⟩
 ·simp only [evs,evb,zdt] at g
  obtain ⟨hm,w,hw1,hw2,hw3⟩:=(hg.le h2.sh).look (i:Int)
  refine z34 (α:=Int) (m:=outM N) (v:=.map (some gr)) (i:Int) (.map none) zad kIntK (by kernel_rfl) (by kernel_rfl) (by kernel_rfl) hm (by rw [hw1];exact hw2) z01 ?_
  rw [hw1]
  obtain ⟨wm,rfl⟩:∃wm,w=.map wm:=by cases w<;>simp [Tag.ok] at hw2;exact ⟨_,rfl⟩
  have hdl:=zz0 ok [] (i:Int)
  have hdn:=Z1l N (i:Int)
  simp only [cns]
  refine Zaz (m:=encS (adjN N (i:Int))) (v:=.map wm) rfl zcm (by kernel_rfl) (PH.le_refl K2) hw3 (by simp [encS];omega) ?_
  obtain ⟨c,hc⟩:∃c,l[i]?=some c:=⟨_,zge (by omega)⟩
  obtain ⟨t1,_⟩:=(h2.row (zms)).get hc
  refine ⟨fun _=>?_,?_⟩
  ·simp only [Chk.holds,evs,evb];exact ⟨t1,by omega,by omega⟩
  have hlen:(encS (adjN N (i:Int))).length=degN N [] (i:Int):=by rw [hdn];simp [encS]
  rw [hlen]
  refine z1n (i:=i) (a:=c) (a':=(degN N [] (i:Int):Int)) (us:=[.int .i64 (degN N [] (i:Int):Int)]) ?_ h2 hc rfl ?_ (by simp [oneC]) (z0k (by unfold InI;omega)) fun K3 h3=>?_
  ·simp only [evs,evb];rfl
  ·simp only [evs,evb]
  refine ⟨_,z00,n - 1,by omega,i+1,l.set i _,?_,by omega,by simpa using hl,h3,fun j hj=>?_⟩
  ·simp only [evs,evb];rw [w64 (by omega) (by omega)];rfl
  ·rw [List.getElem?_set]
   by_cases e:i=j
   ·subst e;rw [if_pos rfl,if_pos (by omega)]
   ·rw [if_neg e];exact hd j (by omega)
 simp only [evs,evb,zdf] at g
 have hiR:i=R:=by omega
 subst hiR
 have h2e:=(h2.empty (α:=Int) 3)
 refine ⟨fun n vs K=>∃(st:List Int) (sv:Value) (l:List Int) (gn:List Bool) (S':PH),vs=[sv]∧n=i - st.length∧PH.le S S'∧Held S' K [orow 3 st sv,orow 3 l (.slice db i dc),orow 4 gn (.slice nb i nc)]∧st.Nodup∧(∀s:Int,s∈st→0≤s∧s < i)∧st.length≤i∧OrdOk N i k st∧l.length=i∧(∀j,j < i→l[j]?=some (degN N st (j:Int):Int))∧gn.length=i∧∀j,j < i→gn[j]?=some (decide ((j:Int)∈st)),
  ⟨i,[],.slice none 0 0,l,List.replicate i false,S,rfl,rfl,PH.le_refl S,h2e,List.nodup_nil,fun s h=>(by cases h),by simp,fun t s h=>(by simp at h),hl,hd,by simp,fun j hj=>by rw [List.getElem?_replicate,if_pos hj];simp⟩,?_⟩
 rintro n vs K3 _ ⟨st,sv,l3,gn,S3,rfl,rfl,le3,h3,hnd,hrg,hstl,hord,hl3,hd3,hgl,hgn⟩
 obtain ⟨sb,sc,rfl⟩:=(h3.row (zms)).sl
 simp only [cns]
 refine ⟨fun g=>?_,fun g=>?_⟩
 rotate_left
 ·simp only [evs,evb,zdf] at g
  have hsl:st.length=i:=by omega
  refine z04 za7 (Z02 st _ S3 K3 _ h3 (by omega)) ?_
  rintro x K4 ⟨rfl,h4⟩
  refine ⟨_,[],rfl,rfl,rfl,z01,?_⟩
  obtain ⟨S5,s5,l5,h5⟩:=h4.freeze
  exact ⟨PH.le_trans le3 (PH.le_trans l5 h5.sh),st,_,rfl,s5.le h5.sh,hnd,hsl,hrg,hord⟩
 simp only [evs,evb,zdt] at g
 have hsl:st.length < i:=by omega
 obtain ⟨j0,hj0,hj0n⟩:=Z8a hnd hrg hsl
 have hdeg:∀j,degN N st j≤i:=fun j=>zz0 ok st j
 have rdD:∀j,j < i→(z0d (.slice db i dc)).isSome=true∧rowAt K3 (pOf (eltV (.slice db i dc) (j:Int) 1)) [.int .i64 (degN N st (j:Int):Int)]:=fun j hj=>by
  obtain ⟨t1,_,tcs,t2,t3⟩:=(h3.row (zmm _ (zms))).get (hd3 j hj)
  obtain ⟨rfl,_⟩:=csIK t2
  exact ⟨t1,t3⟩
 have rdG:∀j,j < i→(z0d (.slice nb i nc)).isSome=true∧rowAt K3 (pOf (eltV (.slice nb i nc) (j:Int) 1)) [.bool (decide ((j:Int)∈st))]:=fun j hj=>by
  obtain ⟨t1,_,tcs,t2,t3⟩:=(h3.row (zmm _ (zmm _ (zms)))).get (hgn j hj)
  rw [csBK t2] at t3
  exact ⟨t1,t3⟩
 refine ⟨fun vs K=>K=K3∧∃best:Nat,vs=[nI best]∧best < i∧(best:Int)∉st∧((degN N st (best:Int):Int) < k∨∀u:Nat,u < i→(u:Int)∉st→k≤degN N st u),?_,?_⟩
 rotate_left
 ·
  refine ⟨fun n vs K=>K=K3∧∃(best:Int) (r:Nat),vs=[.int .i64 best,nI r]∧r+n=i∧((best=-1∧∀j:Nat,j < r→(j:Int)∈st)∨(0≤best∧best < r∧best∉st))∧∀u:Nat,u < r→(u:Int)∉st→k≤degN N st u,
   ⟨i,rfl,-1,0,rfl,by omega,.inl ⟨rfl,fun j h=>by omega⟩,fun u h=>by omega⟩,?_⟩
  rintro n vs K _ ⟨rfl,best,r,rfl,hrn,hbest,hall⟩
  simp only [cns]
  refine ⟨fun g2=>?_,fun g2=>?_⟩
  rotate_left
  ·simp only [evs,evb,zdf] at g2
   have hri:r=i:=by omega
   subst hri
   rcases hbest with ⟨_,hb⟩ | ⟨hb1,hb2,hb3⟩
   ·exact absurd (hb j0 hj0) hj0n
   ·obtain ⟨bn,rfl⟩:∃bn:Nat,best=(bn:Int):=⟨best.toNat,by omega⟩
    exact ⟨_,z17 rfl z00,rfl,bn,rfl,by omega,hb3,.inr hall⟩
  simp only [evs,evb,zdt] at g2
  have hri:r < i:=by omega
  obtain ⟨g3,g4⟩:=rdG r hri
  obtain ⟨d3,d4⟩:=rdD r hri
  have hdr:=hdeg (r:Int)
  refine ⟨fun vs K'=>K'=K∧∃best':Int,vs=[.int .i64 best']∧((best'=-1∧∀j:Nat,j < r+1→(j:Int)∈st)∨(0≤best'∧best' < (r+1:Nat)∧best'∉st))∧∀u:Nat,u < r+1→(u:Int)∉st→k≤degN N st u,?_,fun _=>?_,[.bool (decide ((r:Int)∈st))],rfl,?_,fun g5=>?_,fun g5=>?_⟩
  ·rintro vs K' _ ⟨rfl,best',rfl,hb',hall'⟩
   refine ⟨_,z00,n - 1,by omega,rfl,best',r+1,?_,by omega,hb',hall'⟩
   simp only [evs,evb];rw [w64 (by omega) (by omega)];rfl
  ·simp only [Chk.holds,evs,evb];exact ⟨g3,by omega,by omega⟩
  ·simp only [evs,evb];exact g4
  ·simp only [evs,evb,zdt] at g5
   refine ⟨_,z00,rfl,best,rfl,?_,fun u hu hn=>?_⟩
   ·rcases hbest with ⟨h1,h2⟩ | ⟨h1,h2,h3⟩
    ·refine .inl ⟨h1,fun j hj=>?_⟩
     by_cases e:j=r
     ·subst e;exact g5
     ·exact h2 j (by omega)
    ·exact .inr ⟨h1,by omega,h3⟩
   ·by_cases e:u=r
    ·subst e;exact absurd g5 hn
    ·exact hall u (by omega) hn
  simp only [evs,evb,zdf] at g5
  simp only [cns]
  refine ⟨fun _=>?_,[.int .i64 (degN N st (r:Int):Int)],rfl,?_,fun g6=>?_,fun g6=>?_⟩
  ·simp only [Chk.holds,evs,evb];exact ⟨d3,by omega,by omega⟩
  ·simp only [evs,evb];exact d4
  ·simp only [evs,evb,zdt] at g6
   exact ⟨_,z17 rfl (z17 rfl z00),rfl,r,rfl,hri,g5,.inl g6⟩
  simp only [evs,evb,zdf] at g6
  simp only [cns]
  have hall':∀u:Nat,u < r+1→(u:Int)∉st→k≤degN N st u:=fun u hu hn=>by
   by_cases e:u=r
   ·subst e;omega
   ·exact hall u (by omega) hn
  refine ⟨fun vs K'=>K'=K∧∃t:Bool,vs=[.bool t]∧(best < 0→t=true),?_,fun g7=>?_,fun g7=>?_,fun g7=>?_⟩
  ·rintro vs K' _ ⟨rfl,t,rfl,ht⟩
   refine ⟨_,z00,rfl,if t then (r:Int) else best,?_,?_,hall'⟩
   ·simp only [evs,evb];cases t<;>rfl
   ·cases t with
    | true=>exact .inr ⟨by simp,by simp;omega,g5⟩
    | false=>
     simp only [Bool.false_eq_true,if_false]
     rcases hbest with ⟨h1,h2⟩ | ⟨h1,h2,h3⟩
     ·have:=ht (by omega);cases this
     ·exact .inr ⟨h1,by omega,h3⟩
  ·rcases hbest with ⟨h1,h2⟩ | ⟨h1,h2,h3⟩
   ·have:=g7 ((.cmp .lss (.atom 7) (.int .i64 0)),false) (zms)
    subst h1
    simp [ev] at this
    simp [evs,evb] at this
   ·simp only [Chk.holds,evs,evb];exact ⟨d3,by omega,by omega⟩
  ·exact ⟨_,z00,rfl,true,rfl,fun _=>rfl⟩
  ·simp only [evs,evb,zdf] at g7
   rcases hbest with ⟨h1,h2⟩ | ⟨h1,h2,h3⟩
   ·omega
   obtain ⟨bn,rfl⟩:∃bn:Nat,best=(bn:Int):=⟨best.toNat,by omega⟩
   obtain ⟨e3,e4⟩:=rdD bn (by omega)
   refine ⟨[.int .i64 (degN N st (r:Int):Int)],rfl,?_,[.int .i64 (degN N st (bn:Int):Int)],rfl,?_,_,z00,rfl,_,rfl,fun h=>by omega⟩
   ·simp only [evs,evb];exact d4
   ·simp only [evs,evb];exact e4
 rintro vs K _ ⟨rfl,best,rfl,hbi,hbn,hbd⟩
 simp only [cns]
 obtain ⟨g3,g4⟩:=rdG best hbi
 refine ⟨fun _=>?_,?_⟩
 ·simp only [Chk.holds,evs,evb];exact ⟨g3,by omega,by omega⟩
 have hp1:[orow 3 st (.slice sb st.length sc),orow 3 l3 (.slice db i dc),orow 4 gn (.slice nb i nc)].Perm [orow 4 gn (.slice nb i nc),orow 3 st (.slice sb st.length sc),orow 3 l3 (.slice db i dc)]:=
  List.perm_append_comm (l₁:=[orow 3 st (.slice sb st.length sc),orow 3 l3 (.slice db i dc)]) (l₂:=[orow 4 gn (.slice nb i nc)])
 refine z1n (i:=best) (a':=true) (us:=[.bool true]) ?_ (h3.perm hp1) (hgn best hbi) rfl ?_ (by simp [oneC]) zhj fun K4 h4=>?_
 ·simp only [evs,evb];rfl
 ·simp only [evs,evb]
 refine z28 (more:=[(best:Int)]) (b:=8) [.int .i64 (best:Int)] z0s z0v rfl (by decide) (by decide) (h4.perm (List.Perm.swap _ _ _)) (by kernel_rfl) (.cons (z0k (by unfold InI;omega)) .nil) z01 (fun _=>by kernel_rfl) (fun _=>by kernel_rfl)
  (by simp only [maxLen,zlc,zln];omega) (by simp only [zlc,zln];omega) fun u v5 S5 K5 l5 h5=>⟨z01,?_⟩
 obtain ⟨sb5,sc5,rfl⟩:=(h5.row (zms)).sl
 simp only [cns]
 have le5:=PH.le_trans le3 l5
 obtain ⟨hm,w,hw1,hw2,hw3⟩:=(hg.le le5).look (best:Int)
 refine z34 (α:=Int) (m:=outM N) (v:=.map (some gr)) (best:Int) (.map none) zad kIntK (by kernel_rfl) (by kernel_rfl) (by kernel_rfl) (MapR.le hm h5.sh) (by rw [hw1];exact hw2) z01 ?_
 rw [hw1]
 obtain ⟨wm,rfl⟩:∃wm,w=.map wm:=by cases w<;>simp [Tag.ok] at hw2;exact ⟨_,rfl⟩
 simp only [cns]
 have hst5:(st++[(best:Int)]).length=st.length+1:=by simp
 refine zsy (m:=encS (adjN N (best:Int))) (v:=.map wm) rfl rfl zcm (by kernel_rfl) h5.sh hw3 (fun y hy=>by obtain ⟨z,_,rfl⟩:=zmp.1 hy;rfl) rfl
  (fun done vs K i' o=>∃l:List Int,vs=[]∧l.length=i∧Held S5 K [.blk i' o,orow 3 l (.slice db i dc),orow 3 (st++[(best:Int)]) (.slice sb5 (st++[(best:Int)]).length sc5),orow 4 (gn.set best true) (.slice nb i nc)]∧∀j,j < i→l[j]?=some ((degN N st (j:Int):Int) - (if (j:Int)∈done then 1 else 0)))
  (fun i' o hi'=>⟨l3,rfl,hl3,?_,fun j hj=>by rw [hd3 j hj];simp⟩) ?_ ?_ ?_ ?_
 ·refine (h5.new hi' o).perm (List.Perm.cons _ ?_)
  exact (List.perm_append_comm (l₁:=[orow 3 (st++[(best:Int)]) (.slice sb5 (st++[(best:Int)]).length sc5),orow 4 (gn.set best true) (.slice nb i nc)]) (l₂:=[orow 3 l3 (.slice db i dc)]))
 ·rintro done vs K i' o ⟨l,rfl,hl,h,_⟩
  exact ⟨h.blk (zms),h.sh⟩
 ·rintro done vs K i' o o' ⟨l,rfl,hl,h,hd⟩
  exact ⟨l,rfl,hl,h.put o',hd⟩
 ·rintro done y wv vs K6 i' o J hy hyd _ ⟨l,rfl,hl6,h6,hd6⟩ hJ
  obtain ⟨y',hy',hyy⟩:=zmp.1 hy
  simp only [Prod.mk.injEq] at hyy
  obtain ⟨rfl,rfl⟩:=hyy
  obtain ⟨hr1,hr2,_,_,hr3,hr4⟩:=ok.rel _ _ hy'
  obtain ⟨yn,rfl⟩:∃yn:Nat,y'=(yn:Int):=⟨y'.toNat,by omega⟩
  have hyi:yn < i:=by omega
  have hgy:=hd6 yn hyi
  rw [if_neg hyd,Int.sub_zero] at hgy
  obtain ⟨t1,_,tcs,t2,t3⟩:=(h6.row (zmm _ (zms))).get hgy
  obtain ⟨rfl,_⟩:=csIK t2
  simp only [cns]
  have hpos:=Z57 (N:=N) (g:=st) hbn hr1
  have hdy:=hdeg (yn:Int)
  refine ⟨fun _=>?_,[.int .i64 (degN N st (yn:Int):Int)],rfl,?_,?_⟩
  ·simp only [Chk.holds,evs,evb];exact ⟨t1,by omega,by omega⟩
  ·simp only [evs,evb];exact t3
  refine z1n (i:=yn) (a':=(degN N st (yn:Int):Int) - 1) (us:=[.int .i64 ((degN N st (yn:Int):Int) - 1)]) ?_ (h6.perm (List.Perm.swap _ _ _)) hgy rfl ?_ (by simp [oneC]) (z0k (by unfold InI;omega)) fun K7 h7=>?_
  ·simp only [evs,evb];rfl
  ·simp only [evs,evb];rw [w64 (by omega) (by omega)]
  refine ⟨_,z00,hJ _ _ ⟨l.set yn _,rfl,by simpa using hl6,h7.perm (List.Perm.swap _ _ _),fun j hj=>?_⟩⟩
  rw [List.getElem?_set]
  by_cases e:yn=j
  ·subst e;rw [if_pos rfl,if_pos (by omega),if_pos (zms)]
  ·rw [if_neg e,hd6 j hj]
   have h1:((j:Int)∈(yn:Int)::done)↔(j:Int)∈done:=by rw [zmc];exact ⟨fun h=>h.elim (fun h=>absurd (Int.ofNat_inj.1 h).symm e) id,.inr⟩
   simp only [h1]
 ·rintro done vs K6 i' o J hdone _ _ ⟨l,rfl,hl6,h6,hd6⟩
  have hdone':∀y,y∈done↔y∈adjN N (best:Int):=fun y=>by
   rw [←hdone,List.map_map]
   simp only [Function.comp_def,List.map_id']
  refine ⟨_,z17 rfl z00,i - (st.length+1),by omega,st++[(best:Int)],_,l,gn.set best true,S5,rfl,by rw [hst5],le5,h6.tail.perm (List.Perm.swap _ _ _),?_,?_,by omega,?_,hl6,fun j hj=>?_,by simpa using hgl,fun j hj=>?_⟩
  ·rw [List.nodup_append]
   exact ⟨hnd,by simp,fun a ha b hb=>by simp at hb;subst hb;exact fun e=>hbn (e ▸ ha)⟩
  ·intro s hs
   rcases zma.1 hs with hs | hs
   ·exact hrg s hs
   ·rw [zsi.1 hs];omega
  ·intro t s hts
   by_cases ht:t < st.length
   ·rw [List.getElem?_append_left ht] at hts
    rw [List.take_append_of_le_length (by omega)]
    exact hord t s hts
   ·have:t=st.length:=by
     have:=(zgi.1 hts).1
     omega
    subst this
    rw [List.getElem?_append_right (Nat.le_refl _),Nat.sub_self] at hts
    simp at hts;subst hts
    rw [List.take_left']
    ·exact hbd
    ·rfl
  ·rw [hd6 j hj,Zc4 ok hbn]
   have hiff:(j:Int)∈done↔(best:Int)∈adjN N (j:Int):=by
    rw [hdone']
    exact ⟨fun h=>(ok.rel _ _ h).1,fun h=>(ok.rel _ _ h).1⟩
   by_cases h:(j:Int)∈done
   ·have hpos:=Z57 (N:=N) (g:=st) hbn (hiff.1 h)
    rw [if_pos h,if_pos (hiff.1 h)]
    congr 1;omega
   ·rw [if_neg h,if_neg (fun hh=>h (hiff.2 hh))];simp
  ·rw [List.getElem?_set]
   by_cases e:best=j
   ·subst e;rw [if_pos rfl,if_pos (by omega)];simp
   ·rw [if_neg e,hgn j hj]
    congr 2
    simp only [zma,zsi,eq_iff_iff]
    exact ⟨.inl,fun h=>h.elim id fun h=>absurd (Int.ofNat_inj.1 h).symm e⟩
end Go.Proofs.YtfkclejklgoccaaGreat.Vc
