import Derived.Test.YtfkclejklgoccaaGreatNm
set_option linter.unusedSimpArgs false
set_option linter.unusedVariables false
set_option maxRecDepth 100000
set_option maxHeartbeats 4000000
namespace Go.Proofs.YtfkclejklgoccaaGreat.Vc
open Go
theorem Zp9{p:Prop}[Decidable p]{a b:Int×MaR}{n:Nat}(ha:a.2.mem.length=n)(hb:b.2.mem.length=n):(if p then a else b).2.mem.length=n:=by split<;>assumption
theorem Zf0(m:MaR)(x:InsR):(stR m x).2.mem.length=m.mem.length:=by
 unfold stR
 repeat' (first|exact rfl|apply Zp9)
 all_goals simp[MaR.put,MaR.goes]
theorem Zf2(code:List W32):∀(k:Nat)(m:MaR),(goR code k m).2.mem.length=m.mem.length
 |0,m=>rfl
 |k+1,m=>by
  rw[goR];split
  .rfl
  .split
   .rfl
   .split
    .rw[Zf2 code k,Zf0]
    .rw[Zf0]
theorem Zm6(i:ImgR)(input:List UInt8)(steps:Int):(runR i input steps).mem.length≤1048576:=by
 unfold runR;split
 .simp[noImg]
 .rename_i h;show(goR i.code steps.toNat (z66 i input)).2.mem.length≤_;rw[Zf2];unfold zvu at h;simp only[qu,zdt]at h;simp only[z66,zla,wj];omega
structure OutR where
 err:Int
 out:List UInt8
 shown:Dat
 whole:Bool
 steps:Int
def outR(h:HaltR)(syms:List (List UInt8)):OutR:=
 if h.state=6 then⟨93,h.out,.mk 0 0 [] [],false,h.steps⟩
 else if h.state=0 then(if h.value=0 then⟨0,h.out,(telX h.mem syms (h.regs.getD 1 0)).getD (.mk 0 0 [] []),(telX h.mem syms (h.regs.getD 1 0)).isSome,h.steps⟩else⟨h.value,h.out,.mk 0 0 [] [],false,h.steps⟩)
 else⟨252,h.out,.mk 0 0 [] [],false,h.steps⟩
def OutAt(o:OutR)(e:Ending)(S:PH):Prop:=∃dv,e=.returned (.agg #[vi o.err,txt o.out,vi o.shown.kind,vi o.shown.int,txt o.shown.text,dv,.bool o.whole,vi o.steps])∧o.shown.Rep S [vi o.shown.kind,vi o.shown.int,txt o.shown.text,dv]
theorem Zha{err:Int}{out:List UInt8}{steps:Int}{S:PH}:OutAt ⟨err,out,.mk 0 0 [] [],false,steps⟩ (.returned (.agg #[vi err,txt out,vi 0,vi 0,txt [],.slice none 0 0,.bool false,vi steps])) S:=
 ⟨_,rfl,z6d dC dC dC⟩
noncomputable abbrev z45(l:List ItemR):List ItemR:=rt_codeR++gc_codeR++l
def ImgAt(l:List ItemR)(syms:List (List UInt8))(stack size:Int)(e:Ending)(S:PH):Prop:=∃cv mv sv,e=.returned (.tuple #[.agg #[cv,mv,vi (32+stack+2*size)],sv,vi 0])∧SlR S (codeA (asmR (z45 l))) cv∧SlR S (memR stack size) mv∧SlR S syms sv
theorem zy8:rt_codeR.length+gc_codeR.length≤1000:=Nat.le_of_ble_eq_true kr
abbrev zey(n:Int):Ending:=.returned (.tuple #[.agg #[.slice none 0 0,.slice none 0 0,vi 0],.slice none 0 0,vi n])
def ImgOr(r:Int ⊕ List ItemR)(syms:List (List UInt8))(stack size:Int)(e:Ending)(K:PH):Prop:=
 match r with
 | .inl n=>e=zey n
 | .inr l=>ImgAt l syms stack size e K
theorem Z6t(c:CodeX)(cv:Value)(stack size:Int)(r:Int ⊕ List ItemR)(syms:List (List UInt8))(S:PH)(hc:SlR S c cv)(hck:z0u c=0)(hfit:∀p∈c,∀b∈p.blocks,b.ins.length≤4611686018427387904)(hsz:0≤size∧size≤131072)
  (hgen:∀K,PH.le S K→Tri zP 15 #[.agg #[cv],vi stack] K fun x K'=>PH.le K K'∧match r with
   | .inl n=>n≠0∧x=.returned (.tuple #[.slice none 0 0,.slice none 0 0,.int .i64 n])
   | .inr l=>(0≤stack∧stack≤131072)∧l.length≤1000000∧errA (asmR (z45 l))=0∧∃v sv,x=.returned (.tuple #[v,sv,.int .i64 0])∧SlR K' l v∧SlR K' syms sv) :
  Tri zP 24 #[.agg #[cv],vi stack,vi size] S fun e K'=>PH.le S K'∧ImgOr r syms stack size e K':=by
 have hcv:=zcx c cv S hc hfit;rw[hck]at hcv;obtain⟨cb,cc,rfl⟩:=hc.sl;have hrg:=zy8;refine qr zdv [.slice cb c.length cc,vi stack,vi size] ?_;refine z02 [vi 0] (qb 38) hcv rfl z01 fun K1 l1=>?_;simp only[cns];refine⟨fun g=>by simp[wz,arI]at g,fun _=>⟨fun g=>?_,fun _=>?_⟩⟩
 .simp only[wz,arI]at g;simp only[qu,zdt]at g;omega
 refine z03 (qb 15) (hgen K1 l1) ?_;rintro _ K2 ⟨l2,hG⟩;cases r with
 |inl n=>
  obtain⟨hn,rfl⟩:=hG;refine⟨_,[.slice none 0 0,.slice none 0 0,vi n],rfl,rfl,rfl,z01,?_⟩;simp only[cns];refine⟨fun g=>⟨wx l1 l2,rfl⟩,fun g=>?_⟩;simp only[wz,arI]at g;exact absurd (by simpa using g) hn
 |inr l=>
 obtain⟨hst,hlen,hasm,v,sv,rfl,hv,hs⟩:=hG;obtain⟨vb,vc,rfl⟩:=hv.sl;obtain⟨sb,sc,rfl⟩:=hs.sl;refine⟨_,[.slice vb l.length vc,.slice sb syms.length sc,vi 0],rfl,rfl,rfl,z01,?_⟩;simp only[cns];refine⟨fun g=>by simp[wz,arI]at g,fun _=>?_⟩;refine z03 (qb 17) (Z1y K2) ?_;rintro _ K3 ⟨v3,rfl,s3,l3⟩;obtain⟨b3,d3,hv3⟩:=s3.sl;refine⟨_,[v3],rfl,by rw[hv3];rfl,rfl,z01,?_⟩;simp only[cns];refine z03 (qb 18) (Z0d K3) ?_;rintro _ K4 ⟨v4,rfl,s4,l4⟩;obtain⟨b4,d4,hv4⟩:=s4.sl;refine⟨_,[v4],rfl,by rw[hv4];rfl,rfl,z01,?_⟩;simp only[cns];have l24:=wx l3 l4;refine z0z (α:=List ItemR) (l:=[rt_codeR,gc_codeR,l]) (b:=24) [v3,v4,.slice vb l.length vc] Zp7 Zjc rfl dC dC (Held.nil (wy K4)) kr ?_ z01 fun v5 K5 h5 _ _=>?_
 .refine .cons (csItemss.2 ⟨v3,?_,s3.le l4⟩) (.cons (csItemss.2 ⟨v4,?_,s4⟩) (.cons (csItemss.2 ⟨_,rfl,hv.le l24⟩) .nil))
  .rw[hv3];rfl
  .rw[hv4];rfl
 obtain⟨S5,s5,l5,h5⟩:=h5.freeze;simp only[cns];have hfl:[rt_codeR,gc_codeR,l].flatten=z45 l:=by simp[z45]
 refine z03 (qb 70) (Zes [rt_codeR,gc_codeR,l] v5 K5 (s5.le h5.sh) (by rw[hfl];simp only[z45,zla];omega)) ?_;rw[hfl];rintro _ K6 ⟨l6,v6,rfl,s6⟩;obtain⟨b6,d6,hv6⟩:=s6.sl;refine⟨_,[v6],rfl,by rw[hv6];rfl,rfl,z01,?_⟩;simp only[cns];refine z03 (qb 27) (zvs (z45 l) v6 K6 s6) ?_;rw[hasm];rintro _ K7 ⟨w1,w2,rfl,t1,t2,l7⟩;obtain⟨b7,d7,hw1⟩:=t1.sl;obtain⟨b8,d8,hw2⟩:=t2.sl;refine⟨_,[w1,w2,vi 0],rfl,by rw[hw1,hw2];rfl,rfl,z01,?_⟩;simp only[cns];refine⟨fun g=>by simp[wz,arI]at g,fun _=>?_⟩;have hnil:=Held.nil (wy K7);have a1:arI .add .i64 32 stack=32+stack:=w64 om om;have a2:arI .add .i64 (32+stack) size=32+stack+size:=w64 om om;have a3:arI .mul .i64 2 size=2*size:=w64 om om;have a4:arI .add .i64 (32+stack) (2*size)=32+stack+2*size:=w64 om om;refine z1v (α:=Int) (b:=8) (n:=32) 0 rfl (fun S=>z7n) z0j zb4 kr kr dC dC hnil fun mv K8 h8 l8=>?_;simp only[cns];obtain⟨mb,mc,rfl⟩:=(h8.row (e:=3) (zms)).sl;have hb:=((h8.row (e:=3) (zms)).slR h8.sh).get (i:=0) (a:=0) rfl;obtain⟨z1,_⟩:=hb;have chk:∀{E:List Value} {s i:SV} {k:Int},ev0 E s=.slice mb (List.replicate 32 (0:Int)).length mc→ev0 E i=.int .i64 k→0≤k→k<32→Chk.holds E (.inSl s i):=fun h1 h2 h3 h4=>by
  simp only[Chk.holds,h1,h2];exact⟨z1,h3,by simp[slLen,iOf];omega⟩
 refine⟨fun _=>chk rfl rfl dC dC,?_⟩;refine z1a (i:=28) (a:=0) (a':=32+stack) (us:=[vi (arI .add .i64 32 stack)]) kr h8 rfl rfl kr (by simp[oneC]) (by rw[a1];exact z0e (by unfold InI;omega)) fun K9 h9=>?_;refine⟨fun _=>chk rfl rfl dC dC,?_⟩;refine z1a (i:=29) (a:=0) (a':=32+stack+size) (us:=[vi (arI .add .i64 (arI .add .i64 32 stack) size)]) kr h9 rfl rfl kr (by simp[oneC]) (by rw[a1,a2];exact z0e (by unfold InI;omega)) fun Ka ha=>?_;refine⟨fun _=>chk rfl rfl dC dC,?_⟩;refine z1a (i:=30) (a:=0) (a':=32+stack+size) (us:=[vi (arI .add .i64 (arI .add .i64 32 stack) size)]) kr ha rfl rfl kr (by simp[oneC]) (by rw[a1,a2];exact z0e (by unfold InI;omega)) fun Kb hb=>?_;refine⟨fun _=>chk rfl rfl dC dC,?_⟩;refine z1a (i:=31) (a:=0) (a':=32+stack+2*size) (us:=[vi (arI .add .i64 (arI .add .i64 32 stack) (arI .mul .i64 2 size))]) kr hb rfl rfl kr (by simp[oneC]) (by rw[a1,a3,a4];exact z0e (by unfold InI;omega)) fun Kc hc'=>?_;obtain⟨Sd,t3,t4,t5⟩:=hc'.freeze;have l27:=wx l24 (wx l5 (wx h5.sh (wx l6 l7)));have l7e:=wx t4 t5.sh;refine⟨wx l1 (wx l2 (wx l27 l7e)),w1,.slice mb (List.replicate 32 (0:Int)).length mc,.slice sb syms.length sc,?_,t1.le l7e,t3.le t5.sh,hs.le (wx l27 l7e)⟩;have e1:32+stack+2*size=arI .add .i64 (arI .add .i64 32 stack) (arI .mul .i64 2 size):=by rw[a1,a3,a4]
 rw[e1];show Ending.returned _=Ending.returned _
 kernel_rfl
theorem zy1(c:CodeX)(cv:Value)(stack size:Int)(S:PH)(hc:SlR S c cv)(hck:z0u c=0)(hfit:∀p∈c,∀b∈p.blocks,b.ins.length≤4611686018427387904)(hsz:size<0∨131072<size):
  Gives zP 24 [.agg #[cv],vi stack,vi size] S (.tuple #[.agg #[.slice none 0 0,.slice none 0 0,vi 0],.slice none 0 0,vi 251]):=by
 have hcv:=zcx c cv S hc hfit;rw[hck]at hcv;obtain⟨cb,cc,rfl⟩:=hc.sl;refine qr zdv [.slice cb c.length cc,vi stack,vi size] ?_;refine z02 [vi 0] (qb 38) hcv rfl z01 fun K1 l1=>?_;simp only[cns];refine⟨fun g=>by simp[wz,arI]at g,fun _=>⟨fun g=>⟨rfl,l1⟩,fun g=>?_⟩⟩;simp only[wz,arI]at g;simp only[zof,zdf]at g;omega
theorem Zpo{l:List Int}(h:l.length=32):∃a0 a1 a2 a3 a4 a5 a6 a7 a8 a9 b0 b1 b2 b3 b4 b5 b6 b7 b8 b9 c0 c1 c2 c3 c4 c5 c6 c7 c8 c9 d0 d1,l=[a0,a1,a2,a3,a4,a5,a6,a7,a8,a9,b0,b1,b2,b3,b4,b5,b6,b7,b8,b9,c0,c1,c2,c3,c4,c5,c6,c7,c8,c9,d0,d1]:=by
 match l,h with
 | [a0,a1,a2,a3,a4,a5,a6,a7,a8,a9,b0,b1,b2,b3,b4,b5,b6,b7,b8,b9,c0,c1,c2,c3,c4,c5,c6,c7,c8,c9,d0,d1],_=>exact⟨_,_,_,_,_,_,_,_,_,_,_,_,_,_,_,_,_,_,_,_,_,_,_,_,_,_,_,_,_,_,_,_,rfl⟩
theorem Zf3(l:List ItemR)(syms:List (List UInt8))(cv:Value)(stack size:Int)(input:List UInt8)(steps:Int)(S:PH)(hst:0≤stack∧stack≤131072)(hsz:0≤size∧size≤131072)(h0:0≤steps)(h1:steps≤1099511627776)(hcv:∃b n c,cv=.slice b n c)
  (hb:Tri zP 24 #[.agg #[cv],vi stack,vi size] S fun e K'=>PH.le S K'∧ImgAt l syms stack size e K') :
  Tri zP 31 #[.agg #[cv],vi stack,vi size,txt input,vi steps] S fun e K'=>PH.le S K'∧OutAt (outR (runR (imgR (z45 l) stack size) input steps) syms) e K':=by
 obtain⟨cb,cn,cc,rfl⟩:=hcv;refine qr zvn [.slice cb cn cc,vi stack,vi size,txt input,vi steps] ?_;refine⟨fun g=>?_,fun _=>?_⟩
 .simp only[wz,arI,zdt]at g;omega
 refine z03 (qb 24) hb ?_;rintro _ K1 ⟨l1,kv,mv,sv,rfl,s1,s2,s3⟩;obtain⟨b1,d1,hkv⟩:=s1.sl;obtain⟨b2,d2,hmv⟩:=s2.sl;obtain⟨b3,d3,hsv⟩:=s3.sl;refine⟨_,[kv,mv,vi (32+stack+2*size),sv,vi 0],rfl,by rw[hkv,hmv,hsv];rfl,rfl,z01,?_⟩;simp only[cns];refine⟨fun g=>by simp[wz,arI]at g,fun _=>?_⟩;refine z03 (qb 77) (Zok (imgR (z45 l) stack size) input steps kv mv K1 s1 s2 h1 (by intro h;have:=congrArg List.length h;simp[imgR,memR]at this)) ?_;have hml:=Zm6 (imgR (z45 l) stack size) input steps;generalize runR (imgR (z45 l) stack size) input steps=h at hml;obtain⟨o,ho⟩:∃o,o=outR h syms:=⟨_,rfl⟩;rw[←ho];rintro _ K2 ⟨mv',l2,rfl,hm',hrl,hri⟩;obtain⟨a0,a1,a2,a3,a4,a5,a6,a7,a8,a9,b0,b1',b2',b3',b4,b5,b6,b7,b8,b9,c0,c1,c2,c3,c4,c5,c6,c7,c8,c9,e0,e1,hreg⟩:=Zpo hrl;obtain⟨mb,mc,hmv'⟩:=hm'.sl;obtain⟨st,va,ou,sp,pc,rg,me⟩:=h;simp only at hreg hm' hml hri hmv';subst hreg;unfold outR at ho;refine⟨_,haltV ⟨st,va,ou,sp,pc,_,me⟩ mv',rfl,by rw[hmv'];rfl,rfl,z01,?_⟩;simp only[haltV,q9,List.map_nil,cns];have hle:=wx l1 l2;have none_:∀K:PH,Dat.Rep K (.mk 0 0 [] []) [vi 0,vi 0,txt [],.slice none 0 0]:=fun K=>z6d dC dC dC;refine⟨fun vs K=>PH.le S K∧∃dv,vs=[vi o.err,txt o.out,vi o.shown.kind,vi o.shown.int,txt o.shown.text,dv,.bool o.whole,vi o.steps]∧o.shown.Rep K [vi o.shown.kind,vi o.shown.int,txt o.shown.text,dv],?_,fun g=>?_,fun g=>?_⟩
 .rintro vs K _ ⟨hl,dv,rfl,hd⟩;exact⟨hl,dv,rfl,hd⟩
 .simp only[wz,arI,zdt]at g;simp only at ho;rw[qj g]at ho;subst ho;exact⟨_,z00,hle,_,rfl,none_ K2⟩
 simp only[wz,arI,zdf]at g;simp only at ho;rw[qc g]at ho;refine⟨fun g2=>?_,fun g2=>?_⟩;rotate_left
 .simp only[wz,arI,zdf]at g2;rw[qc g2]at ho;subst ho;exact⟨_,z00,hle,_,rfl,none_ K2⟩
 simp only[wz,arI,zdt]at g2;rw[qj g2]at ho;refine⟨fun g3=>?_,fun g3=>?_⟩;rotate_left
 .simp only[wz,arI,zdf]at g3;rw[qc g3]at ho;subst ho;exact⟨_,z00,hle,_,rfl,none_ K2⟩
 simp only[wz,arI,zdt]at g3;rw[qj g3]at ho;refine z03 (qb 20) (Z2p me syms mv' sv a1 K2 hm' (s3.le l2) (hri a1 sM) om) ?_;rintro _ K3 ⟨l3,cs,rfl,hd⟩;obtain⟨tv,rfl,r1,r2,r3,r4⟩:=Dat.Rep_iff.1 hd;obtain⟨tb,tc,rfl⟩:=SlR.sl r4;simp only[List.getD_cons_succ,List.getD_cons_zero]at ho;generalize hsh:(telX me syms a1).getD (.mk 0 0 [] [])=sh at hd r1 r2 r3 r4 ho;generalize hwh:(telX me syms a1).isSome=wh at ho;refine⟨_,[vi sh.kind,vi sh.int,txt sh.text,.slice tb sh.list.length tc,.bool wh],rfl,rfl,rfl,z01,?_⟩;simp only[cns];subst ho;refine⟨_,z00,wx hle l3,.slice tb sh.list.length tc,?_,hd⟩;rw[←g3];rfl
theorem z74(n v:Int)(hv:8*n+2=v)(hb:0≤n∧n≤100000)(H:PH):Gives zP 34 [vi n] H (vi v):=by
 rw[←hv];exact z38 n H hb
theorem z3s{S0:PH}{l:List Int}{av:Value}(h:SlR S0 l av)(i:Nat)(r:Int)(hi:l[i]?=some r):InI r∧((z09 av).isSome=true∧(0:Int)≤(i:Int)∧(i:Int)<(slLen av:Int))∧∀K:PH,PH.le S0 K→rowAt K (pOf (eltV av (i:Int) 1)) [vi r]:=by
 obtain⟨x1,_,cs,x2,x3⟩:=h.get hi;obtain⟨rfl,x4⟩:=csIK x2;have hl:=(zgi.1 hi).1;exact⟨x4,⟨x1,om,by rw[h.len];omega⟩,fun K hK=>z0p hK x3⟩
section
variable {S0 K:PH}{x:FX}{pu nx:Int}{l l':List ItemR}{k k':Nat}{J:List Itm}
def needL(words:Int):List ItemR:=[⟨4,⟨20,26,0,0,0⟩,0,words⟩,⟨3,⟨28,31,0,0,0⟩,2,0⟩]
theorem Zp3(hx:FOk S0 x)(hp:0≤pu∧pu≤100000)(words:Int)(b_words:InI words)(h0:GnH S0 K x pu nx l (k+2) J):Tri zP 181 #[pAt x.rf,vi words] K (GnQ S0 x pu nx (l++needL words) k J):=by
 refine qr z9y [pAt x.rf,vi words] ?_;refine⟨fun _=>rfl,[pAt x.rg],rfl,h0.frow 0 1,fun _=>rfl,?_⟩;simp only[cns];refine z05 (qb 57) (h0.to (z1x 26 words dC b_words)) fun K1 h1=>?_;refine⟨[pAt x.rg],rfl,h1.frow 0 1,fun _=>rfl,?_⟩;simp only[cns];refine z05 (qb 58) (h1.to (zw3 31 2 dC dC)) fun K2 h2=>?_;exact⟨rfl,by simpa only[needL,zaa,cns]using h2⟩
def FX.madeL(x:FX)(pu r words:Int):List ItemR:=[⟨0,⟨18,26,29,0,3⟩,0,0⟩,⟨0,⟨17,26,26,0,1⟩,0,0⟩,⟨0,⟨15,29,29,0,words⟩,0,0⟩]++x.setL pu r 26
theorem Zpf(hx:FOk S0 x)(hp:0≤pu∧pu≤100000)(r words:Int)(b_words:InI words)(h_r:x.has r)(h0:GnH S0 K x pu nx l (k+4) J):Tri zP 183 #[pAt x.rf,vi r,vi words] K (GnQ S0 x pu nx (l++x.madeL pu r words) k J):=by
 refine qr z93 [pAt x.rf,vi r,vi words] ?_;refine⟨fun _=>rfl,[pAt x.rg],rfl,h0.frow 0 1,fun _=>rfl,?_⟩;simp only[cns];refine z05 (qb 97) (h0.to (z28 18 26 29 3 dC dC dC dC)) fun K1 h1=>?_;refine⟨[pAt x.rg],rfl,h1.frow 0 1,fun _=>rfl,?_⟩;simp only[cns];refine z05 (qb 97) (h1.to (z28 17 26 26 1 dC dC dC dC)) fun K2 h2=>?_;refine⟨[pAt x.rg],rfl,h2.frow 0 1,fun _=>rfl,?_⟩;simp only[cns];refine z05 (qb 97) (h2.to (z28 15 29 29 words dC dC dC b_words)) fun K3 h3=>?_;refine z05 (qb 135) (Z0w hx hp r 26 h_r dC h3) fun K4 h4=>?_;exact⟨rfl,by simpa only[FX.madeL,zaa,cns]using h4⟩
def headL(kind size:Int):List ItemR:=[⟨4,⟨20,26,0,0,0⟩,0,arI .or .i64 (arI .shl .i64 (arI .or .i64 (arI .shl .i64 size 3) kind) 3) 7⟩,⟨0,⟨23,26,29,0,0⟩,0,0⟩]
theorem Zom(hx:FOk S0 x)(hp:0≤pu∧pu≤100000)(kind size:Int)(b_kind:InI kind)(b_size:InI size)(h0:GnH S0 K x pu nx l (k+2) J):Tri zP 182 #[pAt x.rf,vi kind,vi size] K (GnQ S0 x pu nx (l++headL kind size) k J):=by
 refine qr za2 [pAt x.rf,vi kind,vi size] ?_;refine⟨fun _=>rfl,[pAt x.rg],rfl,h0.frow 0 1,fun _=>rfl,?_⟩;simp only[cns];refine z05 (qb 57) (h0.to (z1x 26 (arI .or .i64 (arI .shl .i64 (arI .or .i64 (arI .shl .i64 size 3) kind) 3) 7) dC (z2p _))) fun K1 h1=>?_;refine⟨[pAt x.rg],rfl,h1.frow 0 1,fun _=>rfl,?_⟩;simp only[cns];refine z05 (qb 54) (h1.to (z5g 26 29 0 dC dC dC)) fun K2 h2=>?_;exact⟨rfl,by simpa only[headL,zaa,cns]using h2⟩
def FX.truthL(x:FX)(pu to:Int):List ItemR:=[⟨0,⟨18,28,28,0,3⟩,0,0⟩,⟨0,⟨15,28,28,0,2⟩,0,0⟩]++x.setL pu to 28
theorem Zml(hx:FOk S0 x)(hp:0≤pu∧pu≤100000)(to:Int)(h_to:x.has to)(h0:GnH S0 K x pu nx l (k+3) J):Tri zP 187 #[pAt x.rf,vi to] K (GnQ S0 x pu nx (l++x.truthL pu to) k J):=by
 refine qr z8k [pAt x.rf,vi to] ?_;refine⟨fun _=>rfl,[pAt x.rg],rfl,h0.frow 0 1,fun _=>rfl,?_⟩;simp only[cns];refine z05 (qb 97) (h0.to (z28 18 28 28 3 dC dC dC dC)) fun K1 h1=>?_;refine⟨[pAt x.rg],rfl,h1.frow 0 1,fun _=>rfl,?_⟩;simp only[cns];refine z05 (qb 97) (h1.to (z28 15 28 28 2 dC dC dC dC)) fun K2 h2=>?_;refine z05 (qb 135) (Z0w hx hp to 28 h_to dC h2) fun K3 h3=>?_;exact⟨rfl,by simpa only[FX.truthL,zaa,cns]using h3⟩
end
def FX.storesL(x:FX)(pu:Int):Int→List Int→List ItemR
 |_,[]=>[]
 |b,r::rs=>x.getL pu r 26++[⟨0,⟨23,x.get r 26,29,0,b⟩,0,0⟩]++x.storesL pu (b+1) rs
theorem ztf(x:FX)(pu:Int):∀(rs bs:List Int)(b:Int),x.storesL pu b (rs++bs)=x.storesL pu b rs++x.storesL pu (b+rs.length) bs
 | [],bs,b=>by simp[FX.storesL]
 |r::rs,bs,b=>by
  simp only[List.cons_append,FX.storesL,ztf x pu rs bs (b+1),zaa,zlc];rw[show b+1+(rs.length:Int)=b+((rs.length+1:Nat):Int) by omega]
def FX.closureL(x:FX)(pu:Int)(rs:List Int)(to num:Int):List ItemR:=needL (2+(rs.length:Int))++headL 5 (1+(rs.length:Int))++[⟨5,⟨20,26,0,0,0⟩,x.ents.getD num.toNat 0,0⟩,⟨0,⟨18,26,26,0,3⟩,0,0⟩,⟨0,⟨23,26,29,0,1⟩,0,0⟩]++x.storesL pu 2 rs++x.madeL pu to (2+(rs.length:Int))
section
variable {S0 K:PH}{x:FX}{pu nx:Int}{l l':List ItemR}{k k':Nat}{J:List Itm}
theorem Zdd{rs:List Int}{i:Nat}{r b:Int}(h:rs[i]?=some r)(l:List ItemR):l++x.storesL pu b (rs.take i)++x.getL pu r 26++[⟨0,⟨23,x.get r 26,29,0,b+(i:Int)⟩,0,0⟩]=l++x.storesL pu b (rs.take (i+1)):=by
 have hl:(rs.take i).length=i:=by rw[List.length_take];have:=(zgi.1 h).1;omega
 rw[qZ,h,ztf,hl];simp[FX.storesL]
theorem Zgc(hx:FOk S0 x)(hp:0≤pu∧pu≤100000)(y:InsX)(av dv:Value)(hy:InR S0 y av dv)(ht:x.has y.to)(hr:∀r∈y.args,x.has r)(hn:y.args.length≤100000)(hnum:0≤y.num∧y.num<x.ents.length)(h0:GnH S0 K x pu nx l (k+(11+2*y.args.length)) J):
  Tri zP 137 #[pAt x.rf,.agg (inV y av dv).toArray] K (GnQ S0 x pu nx (l++x.closureL pu y.args y.to y.num) k J):=by
 have hargs:=hy.args;obtain⟨ab,ac,rfl⟩:=hy.args.sl;obtain⟨db,dc,rfl⟩:=hy.cl.sl;obtain⟨en,hen,hev⟩:∃en:Nat,y.num=(en:Int)∧x.ents[en]?=some (x.ents.getD y.num.toNat 0):=⟨y.num.toNat,om,by rw[zgd,zge om];rfl⟩;generalize hE:x.ents.getD y.num.toNat 0=ent at *;obtain⟨ei,eq,ed⟩:=z3s hx.en en ent hev;obtain⟨eb,ec,hev'⟩:=hx.en.sl;refine qr zhl ([pAt x.rf]++inV y (.slice ab y.args.length ac) (.slice db y.const.list.length dc)) ?_;simp only[inV,cns];generalize hN:y.args.length=n at *;have e1:arI .add .i64 2 (n:Int)=2+(n:Int):=w64 om om;have e1':arI .add .i64 1 (n:Int)=1+(n:Int):=w64 om om;have c1:Tri zP 181 #[pAt x.rf,vi (arI .add .i64 2 (n:Int))] K (GnQ S0 x pu nx (l++needL (2+(n:Int))) (k+(9+2*n)) J):=by
  rw[e1];exact Zp3 hx hp _ (inJ om om) (h0.less om)
 refine z05 (qb 181) c1 fun K1 h1=>?_;have c2:Tri zP 182 #[pAt x.rf,vi 5,vi (arI .add .i64 1 (n:Int))] K1 (GnQ S0 x pu nx (l++needL (2+(n:Int))++headL 5 (1+(n:Int))) (k+(7+2*n)) J):=by
  rw[e1'];exact Zom hx hp 5 _ dC (inJ om om) (h1.less om)
 refine z05 (qb 182) c2 fun K2 h2=>?_;refine⟨fun _=>rfl,[pAt x.rg],rfl,h2.frow 0 1,fun _=>rfl,[pAt x.rg],rfl,h2.frow 0 1,fun _=>rfl,[x.ev],by rw[hev'];rfl,h2.grow 1 1,fun _=>?_,[vi ent],rfl,?_,?_⟩
 .show(z09 x.ev).isSome=true∧0≤y.num∧y.num<(slLen x.ev:Int);rw[hen];exact eq
 .show rowAt K2 (pOf (eltV x.ev y.num 1)) _;rw[hen];exact ed _ h2.sh
 simp only[cns];refine z05 (qb 151) ((h2.less (k':=k+(6+2*n)+1) om).to (zyv 26 ent dC ei)) fun K3 h3=>?_;refine⟨[pAt x.rg],rfl,h3.frow 0 1,fun _=>rfl,?_⟩;simp only[cns];refine z05 (qb 97) ((h3.less (k':=k+(5+2*n)+1) om).to (z28 18 26 26 3 dC dC dC dC)) fun K4 h4=>?_;refine⟨[pAt x.rg],rfl,h4.frow 0 1,fun _=>rfl,?_⟩;simp only[cns];refine z05 (qb 54) ((h4.less (k':=k+(4+2*n)+1) om).to (z5g 26 29 1 dC dC dC)) fun K5 h5=>?_;generalize hl0:l++needL (2+(n:Int))++headL 5 (1+(n:Int))++[⟨5,⟨20,26,0,0,0⟩,ent,0⟩]++[⟨0,⟨18,26,26,0,3⟩,0,0⟩]++[⟨0,⟨23,26,29,0,1⟩,0,0⟩]=l0 at h5;refine⟨fun m vs K'=>∃i:Nat,i+m=n∧vs=[nI i]∧GnH S0 K' x pu nx (l0++x.storesL pu 2 (y.args.take i)) (k+(4+2*m)) J,⟨n,0,om,rfl,by rw[List.take_zero,FX.storesL,zan];exact h5⟩,?_⟩;rintro m vs K6 _ ⟨i,him,rfl,h6⟩;simp only[cns];refine⟨fun g=>?_,fun g=>?_⟩
 .simp only[wz,zdt]at g;have hi:i<n:=om;obtain⟨r,hri⟩:∃r,y.args[i]?=some r:=⟨_,zge om⟩;have hrh:=hr r (zmg hri);obtain⟨ri,q,d⟩:=z3s hargs i r hri;refine⟨fun _=>?_,[vi r],rfl,d _ h6.sh,[pAt x.rg],rfl,h6.frow 0 1,fun _=>rfl,?_⟩
  .exact⟨q.1,q.2.1,by show(i:Int)<(n:Int);omega⟩
  simp only[cns];obtain⟨j,rfl⟩:∃j,m=j+1:=⟨m-1,om⟩;refine z2w (qb 136) (zpg (k:=k+(4+2*j)+1) hx hp r 26 hrh dC (h6.less om)) (fun K4 h4=>z0o (h4.frow 0 1) z01) fun K4 h4=>?_;simp only[cns];have e2:arI .add .i64 2 (i:Int)=2+(i:Int):=w64 om om;have c2:Tri zP 54 #[pAt x.rg,vi (x.get r 26),vi 29,vi (arI .add .i64 2 (i:Int))] K4 (GnQ S0 x pu nx (l0++x.storesL pu 2 (y.args.take (i+1))) (k+(4+2*j)) J):=by
   rw[e2,←Zdd hri];exact h4.to (z5g (x.get r 26) 29 (2+(i:Int)) (zu6 hx r 26 hrh dC) dC (inJ om om))
  refine z05 (qb 54) c2 fun K5 h5=>?_;refine⟨_,z00,j,om,i+1,om,?_,h5⟩;have hw:IntKind.i64.wrap ((i:Int)+1)=((i+1:Nat):Int):=by rw[w64 om om];rfl
  simp only[wz,hw]
 .simp only[wz,zdf]at g;obtain rfl:i=n:=om;rw[ztl om]at h6;have c3:Tri zP 183 #[pAt x.rf,vi y.to,vi (arI .add .i64 2 (i:Int))] K6 (GnQ S0 x pu nx (l0++x.storesL pu 2 y.args++x.madeL pu y.to (2+(i:Int))) k J):=by
   rw[e1];exact Zpf hx hp y.to _ (inJ om om) ht (h6.less om)
  refine z05 (qb 183) c3 fun K4 h4=>?_;refine⟨rfl,?_⟩;rw[←hl0]at h4;simpa only[FX.closureL,hN,hE,zaa,cns]using h4
end
theorem FOk.le{S S':PH}{x:FX}(h:FOk S x)(l:PH.le S S'):FOk S' x:=⟨h.bl.le l,h.pl.le l,h.la.le l,h.en.le l,h.sy.le l,h.ply,h.sl,h.st⟩
section
variable {S0 K:PH}{x:FX}{pu nx:Int}{l l':List ItemR}{k k':Nat}{J:List Itm}
variable {P:Program}{X:List PanicEntry→PH→Prop}{β:Type}{E:List Value}{L:LK}{Q:β→List Value→PH→LK→Prop}
theorem GnH.jrow(h:GnH S0 K x pu nx l k J){r:Nat}{T:TypeId}{cs:List Value}(hj:bx r T cs∈J)(off n:Nat):rowAt K (some ⟨r,off,none⟩) ((cs.drop off).take n):=by
 obtain⟨_,S,iv,_,hh⟩:=h.em;exact z1k hh (zmm _ (zmm _ (zmm _ hj))) off n
theorem GnH.sub{J':List Itm}(h:GnH S0 K x pu nx l k J)(s:J'.Sublist J):GnH S0 K x pu nx l k J':=by
 obtain⟨⟨h1,S,iv,h2,h3⟩,h4,h5⟩:=h;exact⟨⟨h1,S,iv,h2,h3.sub (((s.cons_cons _).cons_cons _).cons_cons _)⟩,h4,h5⟩
theorem GnH.base{S1:PH}(h:GnH S1 K x pu nx l k J)(hl:PH.le S0 S1):GnH S0 K x pu nx l k J:=by
 obtain⟨⟨h1,S,iv,h2,h3⟩,h4,h5⟩:=h;exact⟨⟨h1,S,iv,wx hl h2,h3⟩,h4,h5⟩
theorem z69{t:TypeId}{ss:List SV}{f:Fm β}{vs:List Value}(h:GnH S0 K x pu nx l k J)(hv:ss.map (ev0 E)=vs)(hk:∀r K',PH.le K K'→GnH S0 K' x pu nx l k (bx r t vs::J)→den P X f (E++[pAt r]) K' L Q):den P X (.new t ss f) E K L Q:=by
 obtain⟨⟨h1,S,iv,h2,h3⟩,h4,h5⟩:=h;refine z1d h3 hv fun r K' hl h6=>hk r K' hl ⟨⟨h1,S,iv,h2,h6.perm ?_⟩,h4,h5⟩;exact(qA (l₁:=[_,_,_]) (l₂:=J)).symm
theorem zaz{T:TypeId}{r off:Nat}{cs:List Value}{p:SV}{ss:List SV}{f:Fm β}{vs:List Value}(hp:pOf (ev0 E p)=some ⟨r,off,none⟩)(h:GnH S0 K x pu nx l k (bx r T cs::J))(hv:ss.map (ev0 E)=vs)(ho:∀v∈vs,oneC v=true)(hl:off+vs.length≤cs.length)
  (hk:∀K',GnH S0 K' x pu nx l k (bx r T (cs.take off++vs++cs.drop (off+vs.length))::J)→den P X f E K' L Q):den P X (.store p ss f) E K L Q:=by
 obtain⟨⟨h1,S,iv,h2,h3⟩,h4,h5⟩:=h;refine z0b hp (h3.perm (qA (l₁:=[_,_,_]) (l₂:=J))) hv ho hl fun K' h6=>hk K' ⟨⟨h1,S,iv,h2,h6.perm (qA (l₁:=[_,_,_]) (l₂:=J)).symm⟩,h4,h5⟩
theorem z7s{T ty:TypeId}{n:Nat}{ps:Array (Nat×Operand)}{args:List (Nat×VE)}{f:Fm β}(ns:List Int)(hT:Tryz.prog.underlying T=some (.slice 3))(hn:ns.length=n)(h0:n≠0)(hn2:n≤1000)(hi:∀a∈ns,InI a)(h:GnH S0 K x pu nx l k J)
  (hps:ps.toList.map (fun x=>(x.1,argEv E args x.2))=idxs 0 (ns.map (Value.int .i64))) (hk:∀v S1 K',PH.le S0 S1→SlR S1 ns v→GnH S1 K' x pu nx l k J→den zP X f (E++[v]) K' L Q):den zP X (.sem (.buildSlice T n ps) ty args (.sc .sl) [] f) E K L Q:=by
 obtain⟨⟨h1,S,iv,h2,h3⟩,h4,h5⟩:=h;refine z0z (α:=Int) (l:=ns) (b:=8) (ns.map (Value.int .i64)) hT z0s hn (by show n*1≠0;omega) (by show n*1≤2^24;omega) h3 hps ?_ z01 fun v K' h6 _ _=>?_
 .clear hn hps hk
  induction ns with
  |nil=>exact .nil
  |cons a l ih=>exact .cons (z0e (hi a (zms))) (ih fun b hb=>hi b (zmm _ hb))
 .obtain⟨S1,s1,l1,h7⟩:=h6.freeze;exact hk v S1 K' (wx h2 l1) s1 ⟨⟨h1,S1,iv,wy _,h7⟩,h4,h5⟩
end
def z3h(a yes:Int):List Int→List ItemR
 | []=>[]
 |n::ns=>[⟨4,⟨20,31,0,0,0⟩,0,8*n+2⟩,⟨2,⟨24,a,31,0,0⟩,yes,0⟩]++z3h a yes ns
theorem zuz(a yes:Int):∀(l m:List Int),z3h a yes (l++m)=z3h a yes l++z3h a yes m
 | [],m=>rfl
 |n::l,m=>by simp only[List.cons_append,z3h,zuz a yes l m,List.nil_append]
def tagL(a n:Int):List ItemR:=[⟨0,⟨16,28,a,0,7⟩,0,0⟩,⟨4,⟨20,31,0,0,0⟩,0,n⟩]
def z7f(yes:Int):List Int→List ItemR
 | []=>[]
 |n::ns=>[⟨4,⟨20,31,0,0,0⟩,0,n⟩,⟨2,⟨24,28,31,0,0⟩,yes,0⟩]++z7f yes ns
theorem zt2(yes:Int):∀(l m:List Int),z7f yes (l++m)=z7f yes l++z7f yes m
 | [],m=>rfl
 |n::l,m=>by simp only[List.cons_append,z7f,zt2 yes l m,List.nil_append]
def z6o(a yes out:Int)(ns:List Int):List ItemR:=tagL a 1++[⟨2,⟨25,28,31,0,0⟩,out,0⟩,⟨0,⟨19,28,a,0,3⟩,0,0⟩,⟨0,⟨22,28,28,0,0⟩,0,0⟩,⟨0,⟨19,28,28,0,3⟩,0,0⟩,⟨0,⟨16,28,28,0,7⟩,0,0⟩]++z7f yes ns++[⟨1,⟨0,0,0,0,0⟩,out,0⟩]
section
variable {S0 K:PH}{x:FX}{pu nx:Int}{l l':List ItemR}{k k':Nat}{J:List Itm}
theorem takeM{ns:List Int}{i:Nat}{n:Int}(h:ns[i]?=some n):ns.take (i+1)=ns.take i++[n]:=by rw[qZ,h];rfl
theorem zyo(a yes:Int)(hai:InI a)(hyi:InI yes)(r9 r11 r12:Nat)(ns:List Int)(v:Value)(hv:SlR S0 ns v)(hns:∀n∈ns,0≤n∧n≤1000)(hl:ns.length≤1000)(j9:bx r9 92 [pAt x.rf]∈J)(j11:bx r11 3 [vi a]∈J)(j12:bx r12 3 [vi yes]∈J)
  (h0:GnH S0 K x pu nx l (k+2*ns.length) J):Tri zP 211 #[v,pAt r9,pAt r11,pAt r12] K (GnQ S0 x pu nx (l++z3h a yes ns) k J):=by
 have hv0:=hv;obtain⟨vb,vc,rfl⟩:=hv.sl;refine zfn [.slice vb ns.length vc,pAt r9,pAt r11,pAt r12] kr kr ?_;refine⟨fun m vs K'=>∃i:Nat,i+m=ns.length∧vs=[nI i]∧GnH S0 K' x pu nx (l++z3h a yes (ns.take i)) (k+2*m) J,⟨ns.length,0,om,rfl,by rw[List.take_zero,z3h,zan];exact h0⟩,?_⟩;rintro m vs K1 _ ⟨i,him,rfl,h1⟩;simp only[cns];refine⟨fun g=>?_,fun g=>?_⟩
 .simp only[wz,zdt]at g;obtain⟨n,hni⟩:∃n,ns[i]?=some n:=⟨_,zge om⟩;have hnb:=hns n (zmg hni);obtain⟨ri,q,d⟩:=z3s hv0 i n hni;obtain⟨j,rfl⟩:∃j,m=j+1:=⟨m-1,om⟩;refine⟨fun _=>q,[vi n],rfl,d _ h1.sh,[pAt x.rf],rfl,h1.jrow j9 0 1,fun _=>rfl,[pAt x.rg],rfl,h1.frow 0 1,fun _=>rfl,?_⟩;simp only[cns];refine z02 [vi (8*n+2)] (qb 34) (z74 n (8*n+2) rfl om _) rfl (z0o (h1.frow 0 1) (z0o (h1.jrow j9 0 1) z01)) fun K2 l2=>?_;have h2:=h1.le l2;simp only[cns];refine z05 (qb 57) ((h2.less (k':=k+(2*j+1)+1) om).to (z1x 31 (8*n+2) dC (inJ om om))) fun K3 h3=>?_;refine⟨[pAt x.rf],rfl,h3.jrow j9 0 1,fun _=>rfl,[pAt x.rg],rfl,h3.frow 0 1,fun _=>rfl,[vi a],rfl,h3.jrow j11 0 1,[vi yes],rfl,h3.jrow j12 0 1,?_⟩;simp only[cns];refine z05 (qb 59) ((h3.less (k':=k+2*j+1) om).to (If_em 24 a 31 yes dC hai dC hyi)) fun K4 h4=>?_;have hw:IntKind.i64.wrap ((i:Int)+1)=((i+1:Nat):Int):=by rw[w64 om om];rfl
  refine⟨_,z00,j,om,i+1,om,by simp only[wz,hw],?_⟩;rw[takeM hni,zuz];simpa only[z3h,zaa,cns]using h4
 .simp only[wz,zdf]at g;rw[ztl om]at h1;exact⟨rfl,h1.less om⟩
theorem Z21(a n:Int)(hai:InI a)(hni:InI n)(r9 r11:Nat)(j9:bx r9 92 [pAt x.rf]∈J)(j11:bx r11 3 [vi a]∈J)(h0:GnH S0 K x pu nx l (k+2) J):
  Tri zP 212 #[vi n,pAt r9,pAt r11] K (GnQ S0 x pu nx (l++tagL a n) k J):=by
 refine zfw [vi n,pAt r9,pAt r11] kr kr ?_;refine⟨[pAt x.rf],rfl,h0.jrow j9 0 1,fun _=>rfl,[pAt x.rg],rfl,h0.frow 0 1,fun _=>rfl,[vi a],rfl,h0.jrow j11 0 1,?_⟩;simp only[cns];refine z05 (qb 97) (h0.to (z28 16 28 a 7 dC dC hai dC)) fun K1 h1=>?_;refine⟨[pAt x.rf],rfl,h1.jrow j9 0 1,fun _=>rfl,[pAt x.rg],rfl,h1.frow 0 1,fun _=>rfl,?_⟩;simp only[cns];refine z05 (qb 57) (h1.to (z1x 31 n dC hni)) fun K2 h2=>?_;exact⟨rfl,by simpa only[tagL,zaa,cns]using h2⟩
theorem zqs(a yes:Int)(hai:InI a)(hyi:InI yes)(r9 r11 r12 r16:Nat)(ns:List Int)(v:Value)(hv:SlR S0 ns v)(hns:∀n∈ns,0≤n∧n≤1000)(hl:ns.length≤1000)(j9:bx r9 92 [pAt x.rf]∈J)(j11:bx r11 3 [vi a]∈J)(j12:bx r12 3 [vi yes]∈J)
  (j16:bx r16 105 [.func (.func 212) #[] #[pAt r9,pAt r11]]∈J)
  (h0:GnH S0 K x pu nx l (k+(10+2*ns.length)) J):Tri zP 213 #[v,pAt r9,pAt r16,pAt r11,pAt r12] K (GnQ S0 x pu (nx+1) (l++z6o a yes nx ns) k J):=by
 have hv0:=hv;have hn0:=h0.n0;have hnk:=h0.nk;obtain⟨vb,vc,rfl⟩:=hv.sl;refine zgb [.slice vb ns.length vc,pAt r9,pAt r16,pAt r11,pAt r12] kr kr ?_;generalize hN:ns.length=n at *;refine⟨[pAt x.rf],rfl,h0.jrow j9 0 1,fun _=>rfl,[pAt x.rg],rfl,h0.frow 0 1,?_⟩;simp only[cns];refine z2w (qb 42) (z48 (h0.less (k':=k+(8+2*n)+1) om)) (fun K1 h1=>z01) fun K1 h1=>?_;simp only[cns];refine⟨[.func (.func 212) #[] #[pAt r9,pAt r11]],rfl,h1.jrow j16 0 1,?_⟩;simp only[cns];refine z1l (f:=212) (first:=#[]) (caps:=#[pAt r9,pAt r11]) (by rfl) (qb 212) (Z21 a 1 hai dC r9 r11 j9 j11 (h1.less (k':=k+(6+2*n)+2) om)) ?_;rintro _ K2 ⟨rfl,h2⟩;refine⟨_,[],rfl,rfl,rfl,z01,?_⟩;simp only[zan];refine⟨[pAt x.rf],rfl,h2.jrow j9 0 1,fun _=>rfl,[pAt x.rg],rfl,h2.frow 0 1,fun _=>rfl,?_⟩;simp only[cns];refine z05 (qb 59) ((h2.less (k':=k+(5+2*n)+1) om).to (If_em 25 28 31 nx dC dC dC (inJ om om))) fun K3 h3=>?_;refine⟨[pAt x.rf],rfl,h3.jrow j9 0 1,fun _=>rfl,[pAt x.rg],rfl,h3.frow 0 1,fun _=>rfl,[vi a],rfl,h3.jrow j11 0 1,?_⟩;simp only[cns];refine z05 (qb 97) ((h3.less (k':=k+(4+2*n)+1) om).to (z28 19 28 a 3 dC dC hai dC)) fun K4 h4=>?_;refine⟨[pAt x.rf],rfl,h4.jrow j9 0 1,fun _=>rfl,[pAt x.rg],rfl,h4.frow 0 1,fun _=>rfl,?_⟩;simp only[cns];refine z05 (qb 55) ((h4.less (k':=k+(3+2*n)+1) om).to (zov 28 28 0 dC dC dC)) fun K5 h5=>?_;refine⟨[pAt x.rf],rfl,h5.jrow j9 0 1,fun _=>rfl,[pAt x.rg],rfl,h5.frow 0 1,fun _=>rfl,?_⟩;simp only[cns];refine z05 (qb 97) ((h5.less (k':=k+(2+2*n)+1) om).to (z28 19 28 28 3 dC dC dC dC)) fun K6 h6=>?_;refine⟨[pAt x.rf],rfl,h6.jrow j9 0 1,fun _=>rfl,[pAt x.rg],rfl,h6.frow 0 1,fun _=>rfl,?_⟩;simp only[cns];refine z05 (qb 97) ((h6.less (k':=k+(1+2*n)+1) om).to (z28 16 28 28 7 dC dC dC dC)) fun K7 h7=>?_;generalize hl0:l++tagL a 1++[⟨2,⟨25,28,31,0,0⟩,nx,0⟩]++[⟨0,⟨19,28,a,0,3⟩,0,0⟩]++[⟨0,⟨22,28,28,0,0⟩,0,0⟩]++[⟨0,⟨19,28,28,0,3⟩,0,0⟩]++[⟨0,⟨16,28,28,0,7⟩,0,0⟩]=l0 at h7;refine⟨fun m vs K'=>∃i:Nat,i+m=n∧vs=[nI i]∧GnH S0 K' x pu (nx+1) (l0++z7f yes (ns.take i)) (k+(1+2*m)) J,⟨n,0,om,rfl,by rw[List.take_zero,z7f,zan];exact h7⟩,?_⟩;rintro m vs K8 _ ⟨i,him,rfl,h8⟩;simp only[cns];refine⟨fun g=>?_,fun g=>?_⟩
 .simp only[wz,zdt]at g;obtain⟨c,hni⟩:∃c,ns[i]?=some c:=⟨_,zge om⟩;have hnb:=hns c (zmg hni);obtain⟨ri,q,d⟩:=z3s hv0 i c hni;obtain⟨j,rfl⟩:∃j,m=j+1:=⟨m-1,om⟩;refine⟨fun _=>⟨q.1,q.2.1,by show(i:Int)<(n:Int);omega⟩,[vi c],rfl,d _ h8.sh,[pAt x.rf],rfl,h8.jrow j9 0 1,fun _=>rfl,[pAt x.rg],rfl,h8.frow 0 1,fun _=>rfl,?_⟩;simp only[cns];refine z05 (qb 57) ((h8.less (k':=k+(2+2*j)+1) om).to (z1x 31 c dC (inJ om om))) fun K9 h9=>?_;refine⟨[pAt x.rf],rfl,h9.jrow j9 0 1,fun _=>rfl,[pAt x.rg],rfl,h9.frow 0 1,fun _=>rfl,[vi yes],rfl,h9.jrow j12 0 1,?_⟩;simp only[cns];refine z05 (qb 59) ((h9.less (k':=k+(1+2*j)+1) om).to (If_em 24 28 31 yes dC dC dC hyi)) fun Ka ha=>?_;have hw:IntKind.i64.wrap ((i:Int)+1)=((i+1:Nat):Int):=by rw[w64 om om];rfl
  refine⟨_,z00,j,om,i+1,om,by simp only[wz,hw],?_⟩;rw[takeM hni,zt2];simpa only[z7f,zaa,cns]using ha
 .simp only[wz,zdf]at g;rw[ztl om]at h8;refine⟨[pAt x.rf],rfl,h8.jrow j9 0 1,fun _=>rfl,[pAt x.rg],rfl,h8.frow 0 1,fun _=>rfl,?_⟩;simp only[cns];refine z05 (qb 51) ((h8.less (k':=k+1) om).to (z5d nx (inJ om om))) fun K9 h9=>?_;refine⟨rfl,?_⟩;rw[←hl0]at h9;simpa only[z6o,zaa,cns]using h9
end
def nullB:List UInt8:=[110,117,108,108,63]
def eofB:List UInt8:=[101,111,102,45,111,98,106,101,99,116,63]
def boolB:List UInt8:=[98,111,111,108,101,97,110,63]
def intB:List UInt8:=[105,110,116,101,103,101,114,63]
def symB:List UInt8:=[115,121,109,98,111,108,63]
def charB:List UInt8:=[99,104,97,114,63]
def pairB:List UInt8:=[112,97,105,114,63]
def vecB:List UInt8:=[118,101,99,116,111,114,63]
def strB:List UInt8:=[115,116,114,105,110,103,63]
def procB:List UInt8:=[112,114,111,99,101,100,117,114,101,63]
def zk5:List (List UInt8):=[nullB,eofB,boolB,intB,symB,charB,pairB,vecB,strB,procB]
def z2b(op:List UInt8)(a yes out:Int):List ItemR×Bool:=
 if op=nullB then(z3h a yes [2],false)
 else if op=eofB then(z3h a yes [4],false)
 else if op=boolB then(z3h a yes [0,1],false)
 else if op=intB then(tagL a 0++[⟨2,⟨24,28,31,0,0⟩,yes,0⟩],false)
 else if op=symB then(tagL a 3++[⟨2,⟨24,28,31,0,0⟩,yes,0⟩],false)
 else if op=charB then(tagL a 2++[⟨2,⟨25,28,31,0,0⟩,out,0⟩,⟨4,⟨20,31,0,0,0⟩,0,2050⟩,⟨2,⟨27,a,31,0,0⟩,yes,0⟩,⟨1,⟨0,0,0,0,0⟩,out,0⟩],true)
 else if op=pairB then(z6o a yes out [1],true)
 else if op=vecB then(z6o a yes out [2],true)
 else if op=strB then(z6o a yes out [3],true)
 else if op=procB then(z6o a yes out [5,7],true)
 else([],false)
def z0v(op:List UInt8):Int:=if(z2b op 0 0 0).2=true then 4 else 3
def FX.askedL(x:FX)(pu nx:Int)(op:List UInt8)(r to:Int):List ItemR:=
 x.getL pu r 26++(z2b op (x.get r 26) nx (nx+1+1)).1++[⟨1,⟨0,0,0,0,0⟩,nx+1,0⟩,⟨4,⟨20,28,0,0,0⟩,0,0⟩,⟨3,⟨28,0,0,0,0⟩,nx+z0v op-1,0⟩,⟨1,⟨0,0,0,0,0⟩,nx,0⟩,⟨4,⟨20,28,0,0,0⟩,0,1⟩,⟨1,⟨0,0,0,0,0⟩,nx+z0v op-1,0⟩]++x.truthL pu to
theorem Zl0(op:List UInt8)(a yes out a' yes' out':Int):(z2b op a yes out).2=(z2b op a' yes' out').2:=by
 unfold z2b
 repeat' split
 all_goals rfl
section
variable {S0 K:PH}{x:FX}{pu nx:Int}{l l':List ItemR}{k k':Nat}{J:List Itm}
theorem Znh(hx:FOk S0 x)(hp:0≤pu∧pu≤100000)(op:List UInt8)(hop:op∈zk5)(to r0 num:Int)(cst:Dat)(av dv:Value)(hy:InR S0 ⟨op,to,[r0],cst,num⟩ av dv)(ht:x.has to)(hr0:x.has r0)(h0:GnH S0 K x pu nx l (k+40) J):
  Tri zP 192 #[pAt x.rf,.agg (inV ⟨op,to,[r0],cst,num⟩ av dv).toArray] K (GnQ S0 x pu (nx+z0v op) (l++x.askedL pu nx op r0 to) k J):=by
 have hn0:=h0.n0;have hnk:=h0.nk;obtain⟨ri0,q0,d0⟩:=z3s hy.args 0 r0 rfl;obtain⟨ab,ac,rfl⟩:∃b c,av=.slice b 1 c:=hy.args.sl;obtain⟨db,dc,rfl⟩:∃b c,dv=.slice b cst.list.length c:=hy.cl.sl;refine qr zl8 ([pAt x.rf]++inV ⟨op,to,[r0],cst,num⟩ (.slice ab 1 ac) (.slice db cst.list.length dc)) ?_;simp only[inV,cns];refine z69 (vs:=[pAt x.rf]) h0 kr fun r9 K1 _ h1=>?_;simp only[cns];refine z69 (vs:=[txt op,vi to,.slice ab 1 ac,vi cst.kind,vi cst.int,txt cst.text,.slice db cst.list.length dc,vi num]) h1 kr fun r10 K2 _ h2=>?_;simp only[cns];obtain⟨J2,hJ2⟩:∃J2,J2=bx r10 34 [txt op,vi to,.slice ab 1 ac,vi cst.kind,vi cst.int,txt cst.text,.slice db cst.list.length dc,vi num]::bx r9 92 [pAt x.rf]::J:=⟨_,rfl⟩;rw[←hJ2]at h2;have j9:bx r9 92 [pAt x.rf]∈J2:=by rw[hJ2];simp
 have j10:bx r10 34 [txt op,vi to,.slice ab 1 ac,vi cst.kind,vi cst.int,txt cst.text,.slice db cst.list.length dc,vi num]∈J2:=by rw[hJ2];simp
 have sJ:J.Sublist J2:=by rw[hJ2];exact(List.sublist_cons_self _ _).trans (List.sublist_cons_self _ _)
 obtain⟨a,ha⟩:∃a,a=x.get r0 26:=⟨_,rfl⟩;have hai:InI a:=by rw[ha];exact zu6 hx r0 26 hr0 dC
 refine⟨fun vs K'=>∃r11,vs=[pAt r11]∧GnH S0 K' x pu nx (l++x.getL pu r0 26) (k+39) (bx r11 3 [vi a]::J2),?_,?_⟩;rotate_left
 .refine⟨[pAt x.rf],rfl,h2.jrow j9 0 1,fun _=>rfl,[.slice ab 1 ac],rfl,h2.jrow j10 2 1,fun _=>q0,[vi r0],rfl,d0 _ h2.sh,?_,?_⟩
  .simp only[cns];refine z2w (qb 136) (zpg hx hp r0 26 hr0 dC h2) (fun K3 h3=>z01) fun K3 h3=>?_;simp only[cns];refine z69 (vs:=[vi 0]) h3 kr fun r11 K4 _ h4=>?_;simp only[cns];refine zaz (off:=0) (vs:=[vi (x.get r0 26)]) rfl h4 kr (by simp[oneC]) sM fun K5 h5=>?_;exact⟨_,z00,r11,rfl,by rw[ha];exact h5⟩
  .simp only[cns];refine z69 (vs:=[vi 0]) h2 kr fun r11 K4 _ h4=>?_;simp only[cns];refine z2w (qb 136) (zpg hx hp r0 26 hr0 dC h4) (fun K3 h3=>z01) fun K3 h3=>?_;simp only[cns];refine zaz (off:=0) (vs:=[vi (x.get r0 26)]) rfl h3 kr (by simp[oneC]) sM fun K5 h5=>?_;exact⟨_,z00,r11,rfl,by rw[ha];exact h5⟩
 rintro vs K3 _ ⟨r11,rfl,h3⟩;simp only[cns];obtain⟨J3,hJ3⟩:∃J3,J3=bx r11 3 [vi a]::J2:=⟨_,rfl⟩;rw[←hJ3]at h3
 replace j9:bx r9 92 [pAt x.rf]∈J3:=by rw[hJ3];exact zmm _ j9
 replace j10:bx r10 34 [txt op,vi to,.slice ab 1 ac,vi cst.kind,vi cst.int,txt cst.text,.slice db cst.list.length dc,vi num]∈J3:=by rw[hJ3];exact zmm _ j10
 have j11:bx r11 3 [vi a]∈J3:=by rw[hJ3];simp
 replace sJ:J.Sublist J3:=by rw[hJ3];exact sJ.trans (List.sublist_cons_self _ _)
 refine⟨fun vs K'=>∃r12,vs=[pAt r12,vi (nx+1)]∧GnH S0 K' x pu (nx+1+1) (l++x.getL pu r0 26) (k+37) (bx r12 3 [vi nx]::J3),?_,?_⟩;rotate_left
 .refine⟨[pAt x.rf],rfl,h3.jrow j9 0 1,fun _=>rfl,[pAt x.rg],rfl,h3.frow 0 1,[pAt x.rf],rfl,h3.jrow j9 0 1,fun _=>rfl,[pAt x.rg],rfl,h3.frow 0 1,⟨?_,?_⟩⟩
  .simp only[cns];refine z2w (qb 42) (z48 h3) (fun K4 h4=>z0o (h4.frow 0 1) (z0o (h4.jrow j9 0 1) z01)) fun K4 h4=>⟨?_,?_⟩
   .simp only[cns];refine z2w (qb 42) (z48 h4) (fun K4 h4=>z01) fun K5 h5=>?_;simp only[cns];refine z69 (vs:=[vi 0]) h5 kr fun r12 K6 _ h6=>?_;simp only[cns];refine zaz (off:=0) (vs:=[vi nx]) rfl h6 kr (by simp[oneC]) sM fun K7 h7=>?_;exact⟨_,z00,r12,rfl,h7⟩
   .simp only[cns];refine z69 (vs:=[vi 0]) h4 kr fun r12 K6 _ h6=>?_;simp only[cns];refine z2w (qb 42) (z48 h6) (fun K4 h4=>z01) fun K5 h5=>?_;simp only[cns];refine zaz (off:=0) (vs:=[vi nx]) rfl h5 kr (by simp[oneC]) sM fun K7 h7=>?_;exact⟨_,z00,r12,rfl,h7⟩
  .simp only[cns];refine z69 (vs:=[vi 0]) h3 kr fun r12 K6 _ h6=>?_;simp only[cns];have j9':=zmm (bx r12 3 [vi 0]) j9;refine z2w (qb 42) (z48 h6) (fun K4 h4=>z0o (h4.frow 0 1) (z0o (h4.jrow j9' 0 1) z01)) fun K4 h4=>?_;simp only[cns];refine z2w (qb 42) (z48 h4) (fun K4 h4=>z01) fun K5 h5=>?_;simp only[cns];refine zaz (off:=0) (vs:=[vi nx]) rfl h5 kr (by simp[oneC]) sM fun K7 h7=>?_;exact⟨_,z00,r12,rfl,h7⟩
 rintro vs K4 _ ⟨r12,rfl,h4⟩;simp only[cns];refine z7r (f:=211) rfl ?_;simp only[cns];refine z7r (f:=212) rfl ?_;simp only[cns];refine z69 (vs:=[_]) h4 rfl fun r16 K5 _ h5=>?_;simp only[cns];refine zaz (off:=0) (vs:=[.func (.func 212) #[] #[pAt r9,pAt r11]]) rfl h5 kr (by simp[oneC]) sM fun K6 h6=>?_;refine z7r (f:=213) rfl ?_;simp only[cns];obtain⟨J4,hJ4⟩:∃J4,J4=bx r16 105 [.func (.func 212) #[] #[pAt r9,pAt r11]]::bx r12 3 [vi nx]::J3:=⟨_,rfl⟩;have h7:GnH S0 K6 x pu (nx+1+1) (l++x.getL pu r0 26) (k+37) J4:=by rw[hJ4];exact h6
 clear h6 h5 h4 h3 h2 h1;have j16:bx r16 105 [.func (.func 212) #[] #[pAt r9,pAt r11]]∈J4:=by rw[hJ4];simp
 have j12:bx r12 3 [vi nx]∈J4:=by rw[hJ4];simp
 replace j9:bx r9 92 [pAt x.rf]∈J4:=by rw[hJ4];exact zmm _ (zmm _ j9)
 replace j10:bx r10 34 [txt op,vi to,.slice ab 1 ac,vi cst.kind,vi cst.int,txt cst.text,.slice db cst.list.length dc,vi num]∈J4:=by rw[hJ4];exact zmm _ (zmm _ j10)
 replace j11:bx r11 3 [vi a]∈J4:=by rw[hJ4];exact zmm _ (zmm _ j11)
 replace sJ:J.Sublist J4:=by rw[hJ4];exact(sJ.trans (List.sublist_cons_self _ _)).trans (List.sublist_cons_self _ _)
 clear hJ2 hJ3 hJ4;have hyi:InI nx:=inJ om om;have hoi:InI (nx+1+1):=inJ om om;refine⟨fun vs K'=>vs=[]∧GnH S0 K' x pu (nx+z0v op-1) (l++x.getL pu r0 26++(z2b op a nx (nx+1+1)).1) (k+10) J4,?_,?_⟩
 .rintro vs K7 _ ⟨rfl,h8⟩;unfold FX.askedL;rw[←ha];have hk34:z0v op=3∨z0v op=4:=by unfold z0v;split<;>simp
  generalize z0v op=kk at *;generalize(z2b op a nx (nx+1+1)).1=mid at *;have hdi:InI (nx+kk-1):=inJ om om;refine⟨[pAt x.rf],rfl,h8.jrow j9 0 1,fun _=>rfl,[pAt x.rg],rfl,h8.frow 0 1,?_⟩;simp only[cns];refine z2w (qb 42) (z48 h8) (fun K4 h4=>z01) fun K8 h9=>?_;rw[show nx+kk-1+1=nx+kk by omega]at h9;simp only[cns];refine⟨[pAt x.rf],rfl,h9.jrow j9 0 1,fun _=>rfl,[pAt x.rg],rfl,h9.frow 0 1,fun _=>rfl,?_⟩;simp only[cns];refine z05 (qb 51) (h9.to (z5d (nx+1) (inJ om om))) fun K9 ha=>?_;refine⟨[pAt x.rf],rfl,ha.jrow j9 0 1,fun _=>rfl,[pAt x.rg],rfl,ha.frow 0 1,fun _=>rfl,?_⟩;simp only[cns];refine z05 (qb 57) (ha.to (z1x 28 0 dC dC)) fun Ka hb=>?_;refine⟨[pAt x.rf],rfl,hb.jrow j9 0 1,fun _=>rfl,[pAt x.rg],rfl,hb.frow 0 1,fun _=>rfl,?_⟩;simp only[cns];refine z05 (qb 60) (hb.to (z6v (nx+kk-1) hdi)) fun Kb hc=>?_;refine⟨[pAt x.rf],rfl,hc.jrow j9 0 1,fun _=>rfl,[pAt x.rg],rfl,hc.frow 0 1,fun _=>rfl,[vi nx],rfl,hc.jrow j12 0 1,?_⟩;simp only[cns];refine z05 (qb 51) (hc.to (z5d nx hyi)) fun Kc hd=>?_;refine⟨[pAt x.rf],rfl,hd.jrow j9 0 1,fun _=>rfl,[pAt x.rg],rfl,hd.frow 0 1,fun _=>rfl,?_⟩;simp only[cns];refine z05 (qb 57) (hd.to (z1x 28 1 dC dC)) fun Kd he=>?_;refine⟨[pAt x.rf],rfl,he.jrow j9 0 1,fun _=>rfl,[pAt x.rg],rfl,he.frow 0 1,fun _=>rfl,?_⟩;simp only[cns];refine z05 (qb 51) (he.to (z5d (nx+kk-1) hdi)) fun Ke hf=>?_;refine⟨[pAt x.rf],rfl,hf.jrow j9 0 1,fun _=>rfl,[vi to],rfl,hf.jrow j10 1 1,?_⟩;simp only[cns];refine z05 (qb 187) (Zml hx hp to ht hf) fun Kf hg=>?_;refine⟨rfl,GnH.sub ?_ sJ⟩;simpa only[zaa,cns]using hg
 refine⟨fun _=>rfl,[txt op],rfl,h7.jrow j10 0 1,?_⟩;simp only[cns];refine⟨fun g=>?_,fun g0=>?_⟩
 .have g':op=nullB:=by
   have g2:=g;simp only[wz,z06,zdt]at g2;exact g2
  clear g;subst g';have eM:(z2b nullB a nx (nx+1+1)).1=z3h a nx [2]:=kr;have eK:nx+z0v nullB-1=nx+1+1:=by rw[show z0v nullB=3 by kernel_rfl];omega
  refine z7s [2] z0j rfl dC dC dC h7 kr fun v S1 K8 l8 s8 h8=>?_;simp only[cns];refine z1l (f:=211) (first:=#[]) (caps:=#[pAt r9,pAt r11,pAt r12]) kr (qb 211) (zyo (k:=k+10) a nx hai hyi r9 r11 r12 [2] v s8 dC dC j9 j11 j12 (h8.less sM)) ?_;rintro _ K9 ⟨rfl,h9⟩;refine⟨_,[],rfl,rfl,rfl,z01,_,z00,rfl,?_⟩;have h9:=h9.base l8;rw[eM,eK];exact GnH.less (by simpa only[zaa,cns]using h9) om
 simp only[wz,z06,zdf]at g0;refine⟨fun g=>?_,fun g1=>?_⟩
 .have g':op=eofB:=by
   have g2:=g;simp only[wz,z06,zdt]at g2;exact g2
  clear g;subst g';have eM:(z2b eofB a nx (nx+1+1)).1=z3h a nx [4]:=kr;have eK:nx+z0v eofB-1=nx+1+1:=by rw[show z0v eofB=3 by kernel_rfl];omega
  refine z7s [4] z0j rfl dC dC dC h7 kr fun v S1 K8 l8 s8 h8=>?_;simp only[cns];refine z1l (f:=211) (first:=#[]) (caps:=#[pAt r9,pAt r11,pAt r12]) kr (qb 211) (zyo (k:=k+10) a nx hai hyi r9 r11 r12 [4] v s8 dC dC j9 j11 j12 (h8.less sM)) ?_;rintro _ K9 ⟨rfl,h9⟩;refine⟨_,[],rfl,rfl,rfl,z01,_,z00,rfl,?_⟩;have h9:=h9.base l8;rw[eM,eK];exact GnH.less (by simpa only[zaa,cns]using h9) om
 simp only[wz,z06,zdf]at g1;refine⟨fun g=>?_,fun g2=>?_⟩
 .have g':op=boolB:=by
   have g2:=g;simp only[wz,z06,zdt]at g2;exact g2
  clear g;subst g';have eM:(z2b boolB a nx (nx+1+1)).1=z3h a nx [0,1]:=kr;have eK:nx+z0v boolB-1=nx+1+1:=by rw[show z0v boolB=3 by kernel_rfl];omega
  refine z7s [0,1] z0j rfl dC dC dC h7 kr fun v S1 K8 l8 s8 h8=>?_;simp only[cns];refine z1l (f:=211) (first:=#[]) (caps:=#[pAt r9,pAt r11,pAt r12]) kr (qb 211) (zyo (k:=k+10) a nx hai hyi r9 r11 r12 [0,1] v s8 dC dC j9 j11 j12 (h8.less sM)) ?_;rintro _ K9 ⟨rfl,h9⟩;refine⟨_,[],rfl,rfl,rfl,z01,_,z00,rfl,?_⟩;have h9:=h9.base l8;rw[eM,eK];exact GnH.less (by simpa only[zaa,cns]using h9) om
 simp only[wz,z06,zdf]at g2;refine⟨fun g=>?_,fun g3=>?_⟩
 .have g':op=intB:=by
   have g2:=g;simp only[wz,z06,zdt]at g2;exact g2
  clear g;subst g';have eM:(z2b intB a nx (nx+1+1)).1=tagL a 0++[⟨2,⟨24,28,31,0,0⟩,nx,0⟩]:=kr;have eK:nx+z0v intB-1=nx+1+1:=by rw[show z0v intB=3 by kernel_rfl];omega
  refine⟨[.func (.func 212) #[] #[pAt r9,pAt r11]],rfl,h7.jrow j16 0 1,?_⟩;simp only[cns];refine z1l (f:=212) (first:=#[]) (caps:=#[pAt r9,pAt r11]) kr (qb 212) (Z21 (k:=k+35) a 0 hai dC r9 r11 j9 j11 h7) ?_;rintro _ K8 ⟨rfl,h8⟩;refine⟨_,[],rfl,rfl,rfl,z01,?_⟩;simp only[zan];refine⟨[pAt x.rf],rfl,h8.jrow j9 0 1,fun _=>rfl,[pAt x.rg],rfl,h8.frow 0 1,fun _=>rfl,[vi nx],rfl,h8.jrow j12 0 1,?_⟩;simp only[cns];refine z05 (qb 59) (h8.to (k':=k+34) (If_em 24 28 31 nx dC dC dC hyi)) fun K9 h9=>?_;refine⟨_,z00,rfl,?_⟩;rw[eM,eK];exact GnH.less (by simpa only[zaa,cns]using h9) om
 simp only[wz,z06,zdf]at g3;refine⟨fun g=>?_,fun g4=>?_⟩
 .have g':op=symB:=by
   have g2:=g;simp only[wz,z06,zdt]at g2;exact g2
  clear g;subst g';have eM:(z2b symB a nx (nx+1+1)).1=tagL a 3++[⟨2,⟨24,28,31,0,0⟩,nx,0⟩]:=kr;have eK:nx+z0v symB-1=nx+1+1:=by rw[show z0v symB=3 by kernel_rfl];omega
  refine⟨[.func (.func 212) #[] #[pAt r9,pAt r11]],rfl,h7.jrow j16 0 1,?_⟩;simp only[cns];refine z1l (f:=212) (first:=#[]) (caps:=#[pAt r9,pAt r11]) kr (qb 212) (Z21 (k:=k+35) a 3 hai dC r9 r11 j9 j11 h7) ?_;rintro _ K8 ⟨rfl,h8⟩;refine⟨_,[],rfl,rfl,rfl,z01,?_⟩;simp only[zan];refine⟨[pAt x.rf],rfl,h8.jrow j9 0 1,fun _=>rfl,[pAt x.rg],rfl,h8.frow 0 1,fun _=>rfl,[vi nx],rfl,h8.jrow j12 0 1,?_⟩;simp only[cns];refine z05 (qb 59) (h8.to (k':=k+34) (If_em 24 28 31 nx dC dC dC hyi)) fun K9 h9=>?_;refine⟨_,z00,rfl,?_⟩;rw[eM,eK];exact GnH.less (by simpa only[zaa,cns]using h9) om
 simp only[wz,z06,zdf]at g4;refine⟨fun g=>?_,fun g5=>?_⟩
 .have g':op=charB:=by
   have g2:=g;simp only[wz,z06,zdt]at g2;exact g2
  clear g;subst g';have eM:(z2b charB a nx (nx+1+1)).1=tagL a 2++[⟨2,⟨25,28,31,0,0⟩,nx+1+1,0⟩,⟨4,⟨20,31,0,0,0⟩,0,2050⟩,⟨2,⟨27,a,31,0,0⟩,nx,0⟩,⟨1,⟨0,0,0,0,0⟩,nx+1+1,0⟩]:=kr;have eK:nx+z0v charB-1=nx+1+1+1:=by rw[show z0v charB=4 by kernel_rfl];omega
  refine⟨[pAt x.rf],rfl,h7.jrow j9 0 1,fun _=>rfl,[pAt x.rg],rfl,h7.frow 0 1,?_⟩;simp only[cns];refine z2w (qb 42) (z48 (k:=k+36) h7) (fun K4 h4=>z01) fun K7 h0'=>?_;simp only[cns];refine⟨[.func (.func 212) #[] #[pAt r9,pAt r11]],rfl,h0'.jrow j16 0 1,?_⟩;simp only[cns];refine z1l (f:=212) (first:=#[]) (caps:=#[pAt r9,pAt r11]) kr (qb 212) (Z21 (k:=k+34) a 2 hai dC r9 r11 j9 j11 h0') ?_;rintro _ K8 ⟨rfl,h8⟩;refine⟨_,[],rfl,rfl,rfl,z01,?_⟩;simp only[zan];refine⟨[pAt x.rf],rfl,h8.jrow j9 0 1,fun _=>rfl,[pAt x.rg],rfl,h8.frow 0 1,fun _=>rfl,?_⟩;simp only[cns];refine z05 (qb 59) (h8.to (k':=k+33) (If_em 25 28 31 (nx+1+1) dC dC dC hoi)) fun K9 h10=>?_;refine⟨[pAt x.rf],rfl,h10.jrow j9 0 1,fun _=>rfl,[pAt x.rg],rfl,h10.frow 0 1,fun _=>rfl,?_⟩;simp only[cns];refine z02 [vi 2050] (qb 34) (z74 256 2050 dC dC _) rfl (z0o (h10.frow 0 1) (z0o (h10.jrow j9 0 1) z01)) fun Ka la=>?_;have h11:=h10.le la;simp only[cns];refine z05 (qb 57) (h11.to (k':=k+32) (z1x 31 2050 dC dC)) fun Kb h12=>?_;refine⟨[pAt x.rf],rfl,h12.jrow j9 0 1,fun _=>rfl,[pAt x.rg],rfl,h12.frow 0 1,fun _=>rfl,[vi a],rfl,h12.jrow j11 0 1,[vi nx],rfl,h12.jrow j12 0 1,?_⟩;simp only[cns];refine z05 (qb 59) (h12.to (k':=k+31) (If_em 27 a 31 nx dC hai dC hyi)) fun Kc h13=>?_;refine⟨[pAt x.rf],rfl,h13.jrow j9 0 1,fun _=>rfl,[pAt x.rg],rfl,h13.frow 0 1,fun _=>rfl,?_⟩;simp only[cns];refine z05 (qb 51) (h13.to (k':=k+30) (z5d (nx+1+1) hoi)) fun Kd h9=>?_;refine⟨_,z00,rfl,?_⟩;rw[eM,eK];exact GnH.less (by simpa only[zaa,cns]using h9) om
 simp only[wz,z06,zdf]at g5;refine⟨fun g=>?_,fun g6=>?_⟩
 .have g':op=pairB:=by
   have g2:=g;simp only[wz,z06,zdt]at g2;exact g2
  clear g;subst g';have eM:(z2b pairB a nx (nx+1+1)).1=z6o a nx (nx+1+1) [1]:=kr;have eK:nx+z0v pairB-1=nx+1+1+1:=by rw[show z0v pairB=4 by kernel_rfl];omega
  refine z7s [1] z0j rfl dC dC dC h7 kr fun v S1 K8 l8 s8 h8=>?_;simp only[cns];refine z1l (f:=213) (first:=#[]) (caps:=#[pAt r9,pAt r16,pAt r11,pAt r12]) kr (qb 213) (zqs (k:=k+10) a nx hai hyi r9 r11 r12 r16 [1] v s8 dC dC j9 j11 j12 j16 (h8.less sM)) ?_;rintro _ K9 ⟨rfl,h9⟩;refine⟨_,[],rfl,rfl,rfl,z01,_,z00,rfl,?_⟩;have h9:=h9.base l8;rw[eM,eK];exact GnH.less (by simpa only[zaa,cns]using h9) om
 simp only[wz,z06,zdf]at g6;refine⟨fun g=>?_,fun g7=>?_⟩
 .have g':op=vecB:=by
   have g2:=g;simp only[wz,z06,zdt]at g2;exact g2
  clear g;subst g';have eM:(z2b vecB a nx (nx+1+1)).1=z6o a nx (nx+1+1) [2]:=kr;have eK:nx+z0v vecB-1=nx+1+1+1:=by rw[show z0v vecB=4 by kernel_rfl];omega
  refine z7s [2] z0j rfl dC dC dC h7 kr fun v S1 K8 l8 s8 h8=>?_;simp only[cns];refine z1l (f:=213) (first:=#[]) (caps:=#[pAt r9,pAt r16,pAt r11,pAt r12]) kr (qb 213) (zqs (k:=k+10) a nx hai hyi r9 r11 r12 r16 [2] v s8 dC dC j9 j11 j12 j16 (h8.less sM)) ?_;rintro _ K9 ⟨rfl,h9⟩;refine⟨_,[],rfl,rfl,rfl,z01,_,z00,rfl,?_⟩;have h9:=h9.base l8;rw[eM,eK];exact GnH.less (by simpa only[zaa,cns]using h9) om
 simp only[wz,z06,zdf]at g7;refine⟨fun g=>?_,fun g8=>?_⟩
 .have g':op=strB:=by
   have g2:=g;simp only[wz,z06,zdt]at g2;exact g2
  clear g;subst g';have eM:(z2b strB a nx (nx+1+1)).1=z6o a nx (nx+1+1) [3]:=kr;have eK:nx+z0v strB-1=nx+1+1+1:=by rw[show z0v strB=4 by kernel_rfl];omega
  refine z7s [3] z0j rfl dC dC dC h7 kr fun v S1 K8 l8 s8 h8=>?_;simp only[cns];refine z1l (f:=213) (first:=#[]) (caps:=#[pAt r9,pAt r16,pAt r11,pAt r12]) kr (qb 213) (zqs (k:=k+10) a nx hai hyi r9 r11 r12 r16 [3] v s8 dC dC j9 j11 j12 j16 (h8.less sM)) ?_;rintro _ K9 ⟨rfl,h9⟩;refine⟨_,[],rfl,rfl,rfl,z01,_,z00,rfl,?_⟩;have h9:=h9.base l8;rw[eM,eK];exact GnH.less (by simpa only[zaa,cns]using h9) om
 simp only[wz,z06,zdf]at g8;refine⟨fun g=>?_,fun g9=>?_⟩
 .have g':op=procB:=by
   have g2:=g;simp only[wz,z06,zdt]at g2;exact g2
  clear g;subst g';have eM:(z2b procB a nx (nx+1+1)).1=z6o a nx (nx+1+1) [5,7]:=kr;have eK:nx+z0v procB-1=nx+1+1+1:=by rw[show z0v procB=4 by kernel_rfl];omega
  refine z7s [5,7] z0j rfl dC dC dC h7 kr fun v S1 K8 l8 s8 h8=>?_;simp only[cns];refine z1l (f:=213) (first:=#[]) (caps:=#[pAt r9,pAt r16,pAt r11,pAt r12]) kr (qb 213) (zqs (k:=k+10) a nx hai hyi r9 r11 r12 r16 [5,7] v s8 dC dC j9 j11 j12 j16 (h8.less sM)) ?_;rintro _ K9 ⟨rfl,h9⟩;refine⟨_,[],rfl,rfl,rfl,z01,_,z00,rfl,?_⟩;have h9:=h9.base l8;rw[eM,eK];exact GnH.less (by simpa only[zaa,cns]using h9) om
 simp only[wz,z06,zdf]at g9;exfalso;simp only[zk5,zmc,List.not_mem_nil,or_false]at hop;rcases hop with h|h|h|h|h|h|h|h|h|h
 .exact g0 h
 .exact g1 h
 .exact g2 h
 .exact g3 h
 .exact g4 h
 .exact g5 h
 .exact g6 h
 .exact g7 h
 .exact g8 h
 .exact g9 h
end
def prG(o:List UInt8)(n:Nat)(f:FuncId)(az:List (Bool×List GV))(st:GSt):Option (Option GV×GSt):=
 match az with
 | [(false,[.pg])]=>if f=42∧1≤st.left then some (some (.i (.nw st.nl)),⟨st.segs,st.nl+1,st.left-1⟩)else none
 | [(false,[.pf]),(false,[.i (.arg j)]),(false,[.i (.lit s)])]=>if f=136∧j<n∧InI s∧1≤st.left then some (some (.i (.get j s)),⟨st.segs++[.get j s],st.nl,st.left-1⟩)else none
 | [(false,[.pf]),(false,[.i .to]),(false,[.i g])]=>if o≠tieB∧g.ok n st.nl=true∧2≤st.left then
   (if f=135 then some (none,⟨st.segs++[.set g],st.nl,st.left-2⟩)else if f=133 then some (none,⟨st.segs++[.nmb g],st.nl,st.left-2⟩)else none)else none
 | [(false,[.pf]),(true,[.s op,.i .to,.sl,.o 0 _,.o 1 _,.o 2 _,.o 3 _,.i .num])]=>
  if f=192∧op=o∧n=1∧op∈zk5∧st.nl=0∧40≤st.left then some (none,⟨st.segs++[.ask],(z0v op).toNat,st.left-40⟩)
  else if f=137∧op=o∧op=cloB∧2100≤st.left then some (none,⟨st.segs++[.clo],st.nl,st.left-2100⟩)else none
 |_=>prE n f az st
noncomputable def tabG:List GE:=
 [⟨127,z0c zP Tryz.f127,ze5⟩,⟨34,z0c zP Tryz.f34,zcc⟩,⟨185,z0c zP Tryz.f185,z5a⟩,⟨186,z0c zP Tryz.f186,z58⟩,⟨188,z0c zP Tryz.f188,z4m⟩,⟨184,z0c zP Tryz.f184,z56⟩,⟨181,z0c zP Tryz.f181,z5w⟩,⟨183,z0c zP Tryz.f183,z60⟩,⟨182,z0c zP Tryz.f182,z5y⟩,⟨138,z0c zP Tryz.f138,z6l⟩,⟨139,z0c zP Tryz.f139,z4l⟩,⟨143,z0c zP Tryz.f143,z4o⟩,⟨187,z0c zP Tryz.f187,z5b⟩,⟨140,z0c zP Tryz.f140,z4d⟩,⟨142,z0c zP Tryz.f142,z5x⟩,⟨189,z0c zP Tryz.f189,z4c⟩,⟨190,z0c zP Tryz.f190,z5l⟩,⟨191,z0c zP Tryz.f191,z5p⟩,⟨210,z0c zP Tryz.f210,z5j⟩,⟨141,z0c zP Tryz.f141,z59⟩,⟨144,z0c zP Tryz.f144,z5t⟩]
theorem Zpa:∀e∈tabG,e.Ok zP:=
 GE.c ⟨(qb 127),@zm6⟩<|GE.c ⟨(qb 34),@zie⟩<|GE.c ⟨(qb 185),@zlg⟩<|GE.c ⟨(qb 186),@zkx⟩<|GE.c ⟨(qb 188),@zjc⟩<|GE.c ⟨(qb 184),@zlh⟩<|GE.c ⟨(qb 181),@z9y⟩<|GE.c ⟨(qb 183),@z93⟩<|GE.c ⟨(qb 182),@za2⟩<|GE.c ⟨(qb 138),@zp4⟩<|GE.c ⟨(qb 139),@zjk⟩<|GE.c ⟨(qb 143),@zia⟩<|GE.c ⟨(qb 187),@z8k⟩<|GE.c ⟨(qb 140),@zhr⟩<|GE.c ⟨(qb 142),@znx⟩<|GE.c ⟨(qb 189),@zgy⟩<|GE.c ⟨(qb 190),@zoa⟩<|GE.c ⟨(qb 191),@zoi⟩<|GE.c ⟨(qb 210),@zng⟩<|GE.c ⟨(qb 141),@zl2⟩<|GE.c ⟨(qb 144),@zmq⟩<|fun _ h=>nomatch h
noncomputable def opG(o:List UInt8)(n:Nat):Option (GOut×GSt):=
 gI n (tabF tabG) (prG o n) 300 z6h none [.pf,.s o,.i .to,.sl,.o 0 (.int .i64),.o 1 (.int .i64),.o 2 .str,.o 3 .sl,.i .num] ⟨[],0,3000⟩
def FX.gn(x:FX)(pu nx:Int)(y:InsX):GNm where
 to:=y.to
 num:=y.num
 args:=y.args
 get:=x.get
 getL:=x.getL pu
 setL:=x.setL pu
 numL:=x.numL pu
 askL:=x.askedL pu nx y.op (y.args.getD 0 0) y.to
 cloL:=x.closureL pu y.args y.to y.num
 nx:=nx
def FX.gc(x:FX)(pu nx:Int)(y:InsX)(av dv:Value):GC:=⟨x.gn pu nx y,pAt x.rf,pAt x.rg,av,fun k=>[vi y.const.kind,vi y.const.int,txt y.const.text,dv].getD k dv⟩
section
variable {S0 K:PH}{x:FX}{pu nx:Int}{l:List ItemR}{k:Nat}{J:List Itm}
theorem vs1{α β:Type}{R:α→β→Prop}{a:α}{vs:List β}(h:All2 R [a] vs):∃v,vs=[v]∧R a v:=by
 match vs,h with
 | [_],.cons h1 .nil=>exact⟨_,rfl,h1⟩
theorem vs2{α β:Type}{R:α→β→Prop}{a b:α}{vs:List β}(h:All2 R [a,b] vs):∃v w,vs=[v,w]∧R a v∧R b w:=by
 match vs,h with
 | [_,_],.cons h1 (.cons h2 .nil)=>exact⟨_,_,rfl,h1,h2⟩
theorem vs3{α β:Type}{R:α→β→Prop}{a b d:α}{vs:List β}(h:All2 R [a,b,d] vs):∃v w u,vs=[v,w,u]∧R a v∧R b w∧R d u:=by
 match vs,h with
 | [_,_,_],.cons h1 (.cons h2 (.cons h3 .nil))=>exact⟨_,_,_,rfl,h1,h2,h3⟩
theorem gok_v(hx:FOk S0 x){y:InsX}{av dv:Value}(hy:InR S0 y av dv)(hj:∀j,j<y.args.length→x.has (y.args.getD j 0)){nl:Nat}{H:PH}{l':List ItemR}{k':Nat}(h:GnH S0 H x pu (nx+(nl:Int)) l' k' J)(hn0:0≤nx){g:GI}(hg:g.ok y.args.length nl=true):InI (g.v (x.gn pu nx y)):=
 GI.ok_v hg hy.num (fun j s h1 h2=>zu6 hx _ s (hj j h1) h2) fun j h1=>by
  have:=h.nk;exact inJ (show -9223372036854775808≤nx+(j:Int) by omega) (show nx+(j:Int)≤9223372036854775807 by omega)
theorem Zqw(hn0:0≤nx)(hx:FOk S0 x)(hpu:0≤pu∧pu≤100000){y:InsX}{av dv:Value}(hy:InR S0 y av dv)(ht:y.op≠tieB→x.has y.to)(hr:∀r∈y.args,x.has r)(hn:y.args.length≤1000)(hnum:y.op=cloB→0≤y.num∧y.num<x.ents.length):
  GOk zP (x.gc pu nx y av dv) y.args.length (tabF tabG) (prG y.op y.args.length) fun st H=>GnH S0 H x pu (nx+(st.nl:Int)) (l++st.segs.flatMap (GS.l (x.gn pu nx y))) (k+st.left) J:=by
 have hj:∀j,j<y.args.length→x.has (y.args.getD j 0):=fun j h=>hr _ (by rw[zgd,zge h];exact List.getElem_mem h);refine⟨Zfi Zpa,⟨_,rfl⟩,⟨_,rfl⟩,?_,?_,fun st H _ h=>h.frow 0 1,?_,?_⟩
 .obtain⟨b,c,e⟩:=hy.args.sl;show Tag.sl.ok av=true;rw[e];rfl
 .exact hy.args.len.symm
 .intro st H j _ hI hjn;obtain⟨_,q1,q2⟩:=z3s hy.args j _ (zge hjn);refine⟨q1.1,?_⟩;have:=q2 H hI.sh;show rowAt H _ [vi (y.args.getD j 0)];rw[zgd,zge hjn];exact this
 intro f az st v st1 hp;unfold prG at hp;split at hp
 .split at hp
  case isFalse=>cases hp
  rename_i hc;obtain⟨rfl,hl⟩:=hc;cases hp;refine⟨(qb 42),fun vs H hv hI=>?_⟩;obtain⟨v1,rfl,e1⟩:=vs1 hv;rw[show v1=_ from z3n e1];have:=z48 (S0:=S0) (K:=H) (x:=x) (pu:=pu) (nx:=nx+(st.nl:Int)) (l:=l++st.segs.flatMap (GS.l (x.gn pu nx y))) (k:=k+(st.left-1)) (J:=J) (by rw[show k+(st.left-1)+1=k+st.left by omega];exact hI);refine this.mono fun e H'⟨h1,h2⟩=>⟨_,h1,rfl,?_⟩;show GnH S0 H' x pu (nx+((st.nl+1:Nat):Int)) _ _ J;rw[show nx+((st.nl+1:Nat):Int)=nx+(st.nl:Int)+1 by omega];exact h2
 .rename_i j s;split at hp
  case isFalse=>cases hp
  rename_i hc;obtain⟨rfl,hl,hs,hb⟩:=hc;cases hp;refine⟨(qb 136),fun vs H hv hI=>?_⟩;obtain⟨v1,v2,v3,rfl,e1,e2,e3⟩:=vs3 hv;rw[show v1=_ from z3n e1,show v2=_ from z3n e2,show v3=_ from z3n e3];refine(zpg (S0:=S0) (K:=H) (nx:=nx+(st.nl:Int)) (l:=l++st.segs.flatMap (GS.l (x.gn pu nx y))) (J:=J) (k:=k+(st.left-1)) hx hpu (y.args.getD j 0) s (hj j hl) hs (by rw[show k+(st.left-1)+1=k+st.left by omega];exact hI)).mono fun e H'⟨h1,h2⟩=>⟨_,h1,rfl,?_⟩;rw[List.flatMap_append,←zaa];rw[show List.flatMap (GS.l (x.gn pu nx y)) [GS.get j s]=x.getL pu (y.args.getD j 0) s from zan _];exact h2
 .rename_i g;split at hp
  case isFalse=>cases hp
  rename_i hc;obtain⟨ho,hg,hb⟩:=hc;have hgv:∀H,GnH S0 H x pu (nx+(st.nl:Int)) (l++st.segs.flatMap (GS.l (x.gn pu nx y))) (k+st.left) J→InI (g.v (x.gn pu nx y)):=fun H h=>gok_v hx hy hj h hn0 hg;split at hp
  .rename_i hf;subst hf;cases hp;refine⟨(qb 135),fun vs H hv hI=>?_⟩;obtain⟨v1,v2,v3,rfl,e1,e2,e3⟩:=vs3 hv;rw[show v1=_ from z3n e1,show v2=_ from z3n e2,show v3=_ from z3n e3];refine(Z0w (S0:=S0) (K:=H) (nx:=nx+(st.nl:Int)) (k:=k+(st.left-2)) hx hpu y.to (g.v (x.gn pu nx y)) (ht ho) (hgv H hI) (hI.less om)).mono fun e H'⟨h1,h2⟩=>⟨_,h1,rfl,?_⟩;rw[List.flatMap_append,←zaa];rw[show List.flatMap (GS.l (x.gn pu nx y)) [GS.set g]=x.setL pu y.to (g.v (x.gn pu nx y))from zan _];exact h2
  split at hp
  case isFalse=>cases hp
  rename_i hf;subst hf;cases hp;refine⟨(qb 133),fun vs H hv hI=>?_⟩;obtain⟨v1,v2,v3,rfl,e1,e2,e3⟩:=vs3 hv;rw[show v1=_ from z3n e1,show v2=_ from z3n e2,show v3=_ from z3n e3];refine(ztx (S0:=S0) (K:=H) (nx:=nx+(st.nl:Int)) (l:=l++st.segs.flatMap (GS.l (x.gn pu nx y))) (J:=J) (k:=k+(st.left-2)) hx hpu y.to (g.v (x.gn pu nx y)) (ht ho) (hgv H hI) (by rw[show k+(st.left-2)+2=k+st.left by omega];exact hI)).mono fun e H'⟨h1,h2⟩=>⟨_,h1,rfl,?_⟩;rw[List.flatMap_append,←zaa];rw[show List.flatMap (GS.l (x.gn pu nx y)) [GS.nmb g]=x.numL pu y.to (g.v (x.gn pu nx y))from zan _];exact h2
 .rename_i op t0 t1 t2 t3;have hin:∀vs,All2 (GV.argRel (x.gc pu nx y av dv)) [(false,[GV.pf]),(true,[.s op,.i .to,.sl,.o 0 t0,.o 1 t1,.o 2 t2,.o 3 t3,.i .num])] vs→op=y.op→vs=[pAt x.rf,.agg (inV y av dv).toArray]:=by
   intro vs hv e;subst e;obtain⟨v1,v2,rfl,e1,cs,e2,e3⟩:=vs2 hv;rw[show v1=_ from z3n e1,show v2=_ from e3]
   match cs,e2 with
   | [_,_,_,_,_,_,_,_],.cons a1 (.cons a2 (.cons a3 (.cons a4 (.cons a5 (.cons a6 (.cons a7 (.cons a8 .nil)))))))=>
    rw[show _=_ from a1,show _=_ from a2,show _=_ from a3,show _=_ from a4.1,show _=_ from a5.1,show _=_ from a6.1,show _=_ from a7.1,show _=_ from a8];rfl
  split at hp
  .rename_i hc;obtain⟨rfl,ho,hn1,hop,hnl,hb⟩:=hc;cases hp;refine⟨(qb 192),fun vs H hv hI=>?_⟩;rw[hin vs hv ho];obtain⟨r0,hr0⟩:∃r,y.args=[r]:=List.length_eq_one_iff.1 hn1;subst ho;obtain⟨o,to,args,cst,num⟩:=y;subst hr0;have htt:=ht fun e=>by
    have hop:o∈zk5:=hop;rw[show o=_ from e]at hop;exact absurd hop dC
   have hnn:nx+(st.nl:Int)=nx:=by rw[hnl];exact Int.add_zero _
   rw[hnn]at hI;refine(Znh (S0:=S0) (K:=H) (nx:=nx) (l:=l++st.segs.flatMap (GS.l (x.gn pu nx ⟨o,to,[r0],cst,num⟩))) (J:=J) (k:=k+(st.left-40)) hx hpu o hop to r0 num cst av dv hy htt (hr r0 sM) (by rw[show k+(st.left-40)+40=k+st.left by omega];exact hI)).mono fun e H'⟨h1,h2⟩=>⟨_,h1,rfl,?_⟩;rw[List.flatMap_append,←zaa];rw[show List.flatMap (GS.l (x.gn pu nx ⟨o,to,[r0],cst,num⟩)) [GS.ask]=x.askedL pu nx o r0 to from zan _];rw[show(((z0v o).toNat:Nat):Int)=z0v o from Int.toNat_of_nonneg (by unfold z0v;split<;>decide)];exact h2
  split at hp
  case isFalse=>cases hp
  rename_i hc;obtain⟨rfl,ho,hop,hb⟩:=hc;cases hp;refine⟨(qb 137),fun vs H hv hI=>?_⟩;rw[hin vs hv ho];subst ho;refine(Zgc (S0:=S0) (K:=H) (nx:=nx+(st.nl:Int)) (k:=k+(st.left-2100)) hx hpu y av dv hy (ht (by rw[hop];decide)) hr om (hnum hop) (hI.less om)).mono fun e H'⟨h1,h2⟩=>⟨_,h1,rfl,?_⟩;rw[List.flatMap_append,←zaa];rw[show List.flatMap (GS.l (x.gn pu nx y)) [GS.clo]=x.closureL pu y.args y.to y.num from zan _];exact h2
 .unfold prE at hp;split at hp
  case h_2=>cases hp
  rename_i ws;split at hp
  case h_2=>cases hp
  rename_i l0 hl;split at hp
  case h_2=>cases hp
  rename_i ss hs;split at hp
  case isFalse=>cases hp
  rename_i hq;cases hp;simp only[zba,zdt,zat]at hq;refine⟨Zjh hs,fun vs H hv hI=>?_⟩;cases hv with
  |cons hv1 hv2=>
  rw[Zam hl hv2,show _=_ from z3n hv1];refine(GnH.to (l':=l++st.segs.flatMap (GS.l (x.gn pu nx y))++ss.flatMap (GS.l (x.gn pu nx y))) (k':=k+(st.left-ss.length)) hI (fun hE=>Zk0 hs (fun g hg=>gok_v hx hy hj hI hn0 (hq.1 g hg)) _ H (by rw[show k+(st.left-ss.length)+ss.length=k+st.left by omega];exact hE)) om).mono fun e H'⟨h1,h2⟩=>⟨_,h1,rfl,?_⟩;rw[List.flatMap_append,←zaa];exact h2
end
def baseN:List Int:=[2,3,4,6,7,11,12,13,14,22,23]
noncomputable def FX.insL(x:FX)(pu nx:Int)(y:InsX):List ItemR:=
 if y.op=z14 then x.constL pu y else match opG y.op y.args.length with
  |some (_,st)=>st.segs.flatMap (GS.l (x.gn pu nx y))
  |none=>[]
noncomputable def insN(nx:Int)(y:InsX):Int:=
 if y.op=z14 then nx else match opG y.op y.args.length with
  |some (_,st)=>nx+(st.nl:Int)
  |none=>nx
def labG:GS→Option Nat
 | .it k _ _ _ _ _ (.nw j) _=>if k=1 then some j else none
 |_=>none
def regG:GI→Bool
 | .lit _=>true
 | .get _ s=>decide (0≤s∧s≤31)
 |_=>false
def GI.rep:GI→Int
 | .lit k=>k
 | .get _ _=>1
 |_=>0
def immG(un:Bool):GI→Option (Int×Int)
 | .lit k=>some (k,k)
 | .add (.lit k) .num=>if un=true∧0≤k∧k≤1000 then some (k,k+1000)else none
 |_=>none
def zue:GI→Bool
 | .lit _=>true
 |_=>false
def nameG(nl:Nat):GI→Bool
 | .lit k=>decide (k∈baseN)
 | .nw j=>decide (j<nl)
 |_=>false
def fineS(un:Bool)(nl:Nat):GS→Bool
 | .it k op a b d i lab w=>match immG un i with
  |some (lo,hi)=>zue op&&regG a&&regG b&&regG d&&mayR ⟨k,⟨op.rep,a.rep,b.rep,d.rep,lo⟩,lab.rep,w.rep⟩&&mayR ⟨k,⟨op.rep,a.rep,b.rep,d.rep,hi⟩,lab.rep,w.rep⟩ &&
   (if k=1 then(labG (.it k op a b d i lab w)).isSome else if k=2∨k=3∨k=5 then nameG nl lab else zue lab)&&(if k=4 then true else zue w)
  |none=>false
 | .get _ s=>decide (0≤s∧s≤31)
 | .set g=>match g with
  | .lit k=>decide (0≤k∧k≤31)
  | .get _ s=>decide (0≤s∧s≤31)
  |_=>false
 | .nmb _=>true
 |_=>false
def fineT(un:Bool)(st:GSt):Bool:=
 (match st.segs with
  | [.ask]=>true
  |_=>false)||(st.segs.all (fineS un st.nl)&&decide ((st.segs.filterMap labG).Nodup)&&(st.segs.filterMap labG).all (fun j=>decide (j<st.nl))&&(List.range st.nl).all fun j=>(st.segs.filterMap labG).contains j)
def okG(o:List UInt8):Option (GOut×GSt)→Bool
 | some (.ret none _,st)=>fineT (decide (o≠tieB)) st && (match st.segs with
  | [.ask]=>decide (o∈zk5∧(st.nl:Int)=z0v o)
  |_=>true)
 |_=>false
def opsG:List (List UInt8×Nat):=((movB,1)::(hldB,0)::(tieB,2)::(ar0.map fun o=>(o,0))++(ar1.map fun o=>(o,1))++(ar2.map fun o=>(o,2))++(ar3.map fun o=>(o,3))).filter fun p=>decide (p.1≠ccB)
theorem Zon:(opsG.all fun p=>okG p.1 (opG p.1 p.2))=true:=kr
structure MvR where
 to:Int
 fr:Int
deriving DecidableEq
instance encMvR:Enc MvR:=⟨fun m=>[.int .i64 m.to,.int .i64 m.fr],2,fun _=>rfl⟩
theorem mvR_iff{H:PH}{m:MvR}{cs:List Value}:CsR H m cs↔cs=[vi m.to,vi m.fr]∧InI m.to∧InI m.fr:=by
 show PV.RepRow H [.int .i64 m.to,.int .i64 m.fr] cs↔_;simp only[PV.RepRow,repI_iff];constructor
 .rintro⟨_,_,rfl,⟨rfl,h1⟩,_,_,rfl,⟨rfl,h2⟩,rfl⟩;exact⟨rfl,h1,h2⟩
 .rintro⟨rfl,h1,h2⟩;exact⟨_,_,rfl,⟨rfl,h1⟩,_,_,rfl,⟨rfl,h2⟩,rfl⟩
def lkM(R:List MvR)(t:Int):Option Int:=(R.find? fun m=>decide (m.to=t)).map (·.fr)
def cntM(R:List MvR)(p:Int):Nat:=(R.filter fun m=>decide (m.fr=p)).length
def dropM(R:List MvR)(t:Int):List MvR:=R.filter fun m=>decide (m.to≠t)
def moveM:Nat→List MvR→Int→List MvR→List MvR×List MvR
 |0,R,_,out=>(R,out)
 |k+1,R,to,out=>match lkM R to with
  |none=>(R,out)
  |some fr=>if 0<cntM R to then(R,out)else moveM k (dropM R to) fr (out++[⟨to,fr⟩])
def lastM:Nat→List MvR→Int→Int→Int
 |0,_,_,cur=>cur
 |k+1,R,t,cur=>if lkM R cur=some t then cur else lastM k R t ((lkM R cur).getD 0)
def turnM(R:List MvR)(last sp:Int):List MvR:=R.map fun m=>if m.to=last then⟨last,sp⟩else m
def freeM:List MvR→List MvR→List MvR→List MvR×List MvR
 | [],R,out=>(R,out)
 |m::l,R,out=>freeM l (moveM (R.length+1) R m.to out).1 (moveM (R.length+1) R m.to out).2
def z7t(sp:Int)(m:MvR)(R out:List MvR):List MvR×List MvR:=
 if(lkM R m.to).isSome=true then moveM (R.length+1) (turnM R (lastM R.length R m.to m.to) sp) m.to (out++[⟨sp,m.to⟩])else(R,out)
def z65(sp:Int):List MvR→List MvR→List MvR→List MvR×List MvR
 | [],R,out=>(R,out)
 |m::l,R,out=>z65 sp l (z7t sp m R out).1 (z7t sp m R out).2
def mayM(sp:Int):List MvR→List MvR→Bool
 |_,[]=>true
 |seen,m::l=>!((lkM seen m.to).isSome||decide (m.to=sp)||decide (m.fr=sp))&&mayM sp (seen++[m]) l
def realM(l:List MvR):List MvR:=l.filter fun m=>decide (m.to≠m.fr)
def z94(l:List MvR)(sp:Int):List MvR:=
 if l.length≤1000∧mayM sp [] l=true then(z65 sp l (freeM l (realM l) []).1 (freeM l (realM l) []).2).2 else[]
def KeyM(R:List MvR):Prop:=(R.map (·.to)).Nodup
def WantM(R:List MvR)(U:Int→Prop):Prop:=∀m∈R,¬U m.to→0<cntM R m.to
theorem cnt_pos{R:List MvR}{p:Int}:0<cntM R p↔∃m∈R,m.fr=p:=by
 unfold cntM;rw[List.length_pos_iff_exists_mem];simp only[zmf,zdt]
theorem za7{R:List MvR}{t fr:Int}(h:lkM R t=some fr):(⟨t,fr⟩:MvR)∈R:=by
 unfold lkM at h;obtain⟨m,hm,rfl⟩:=qQ.1 h;have h1:=List.find?_some hm;have h2:=List.mem_of_find?_eq_some hm;simp only[zdt]at h1;subst h1;exact h2
theorem lk_none{R:List MvR}{t:Int}:lkM R t=none↔∀m∈R,m.to≠t:=by
 unfold lkM;rw[Option.map_eq_none_iff,List.find?_eq_none];simp
theorem zjo{R:List MvR}(hk:KeyM R){m:MvR}(hm:m∈R):lkM R m.to=some m.fr:=by
 induction R with
 |nil=>cases hm
 |cons a l ih=>
  obtain⟨h1,h2⟩:=List.nodup_cons.1 (show((a::l).map (·.to)).Nodup from hk);unfold lkM;rw[List.find?_cons];rcases zmc.1 hm with rfl|hm
  .simp
  .have:a.to≠m.to:=fun e=>h1 (zmp.2 ⟨m,hm,e.symm⟩);simp only[this,decide_false];exact ih h2 hm
theorem Zq5{R:List MvR}(t q:Int):lkM (dropM R t) q=if q=t then none else lkM R q:=by
 split
 .rename_i h;subst h;rw[lk_none];intro m hm;have:=(zmf.1 hm).2;simpa using this
 .rename_i h
  induction R with
  |nil=>rfl
  |cons a l ih=>
   unfold lkM dropM at ih⊢;rw[qJ];by_cases e:a.to=t
   .rw[qc (by simp[e]),ih,List.find?_cons];have:¬a.to=q:=fun e2=>h (by rw[←e2,e]);simp[this]
   .rw[qj (by simpa using e),List.find?_cons,List.find?_cons];by_cases e2:a.to=q
    .simp[e2]
    .simp only[e2,decide_false];exact ih
theorem zyh{R:List MvR}(hk:KeyM R)(t:Int):KeyM (dropM R t):=List.Nodup.sublist (List.Sublist.map _ List.filter_sublist) hk
theorem zrs{R:List MvR}(hk:KeyM R){t fr:Int}(h:lkM R t=some fr):(dropM R t).length+1=R.length:=by
 induction R with
 |nil=>cases h
 |cons a l ih=>
  obtain⟨h1,h2⟩:=List.nodup_cons.1 (show((a::l).map (·.to)).Nodup from hk);by_cases e:a.to=t
  .have:dropM (a::l) t=l:=by
    unfold dropM;rw[qJ,qc (by simp[e]),List.filter_eq_self];intro m hm;simp only[zdt];exact fun e2=>h1 (zmp.2 ⟨m,hm,e2.trans e.symm⟩)
   rw[this];rfl
  .have hl:lkM l t=some fr:=by
    unfold lkM at h⊢;rw[List.find?_cons]at h;simpa[e]using h
   have:=ih h2 hl;unfold dropM at this⊢;rw[qJ,qj (by simpa using e)];simp only[zlc];omega
theorem Zcj{R:List MvR}(hk:KeyM R){t fr:Int}(h:lkM R t=some fr)(p:Int):cntM R p=cntM (dropM R t) p+if p=fr then 1 else 0:=by
 induction R with
 |nil=>cases h
 |cons a l ih=>
  obtain⟨h1,h2⟩:=List.nodup_cons.1 (show((a::l).map (·.to)).Nodup from hk);by_cases e:a.to=t
  .have hd:dropM (a::l) t=l:=by
    unfold dropM;rw[qJ,qc (by simp[e]),List.filter_eq_self];intro m hm;simp only[zdt];exact fun e2=>h1 (zmp.2 ⟨m,hm,e2.trans e.symm⟩)
   have hf:a.fr=fr:=by
    have:=zjo (R:=a::l) hk (zms);rw[e,h]at this;exact(qV this).symm
   rw[hd];unfold cntM;rw[qJ];by_cases e2:p=fr
   .rw[qj (by simp[hf,e2]),qj e2];rfl
   .rw[qc (by simp[hf];exact fun h=>e2 h.symm),qc e2];rfl
  .have hl:lkM l t=some fr:=by
    unfold lkM at h⊢;rw[List.find?_cons]at h;simpa[e]using h
   have:=ih h2 hl;have hd:dropM (a::l) t=a::dropM l t:=by unfold dropM;rw[qJ,qj (by simpa using e)]
   rw[hd];unfold cntM at this⊢;rw[qJ,qJ];split<;>(try simp only[zlc])<;>omega
theorem zqu{R:List MvR}{t:Int}:∀m∈dropM R t,m∈R:=fun m hm=>(zmf.1 hm).1
theorem zr7:∀(k:Nat)(R:List MvR)(to:Int)(out:List MvR)(U:Int→Prop),KeyM R→R.length<k→WantM R (fun t=>U t∨t=to) →
  KeyM (moveM k R to out).1∧WantM (moveM k R to out).1 U∧(∀m∈(moveM k R to out).1,m∈R)
 |0,R,to,out,U,hk,hl,hw=>absurd hl (Nat.not_lt_zero _)
 |k+1,R,to,out,U,hk,hl,hw=>by
  rw[moveM];cases hlk:lkM R to with
  |none=>
   refine⟨hk,fun m hm hu=>hw m hm ?_,fun m hm=>hm⟩;rintro(h|h)
   .exact hu h
   .exact lk_none.1 hlk m hm h
  |some fr=>
   simp only;split
   .rename_i hc;refine⟨hk,fun m hm hu=>?_,fun m hm=>hm⟩;by_cases e:m.to=to
    .rw[e];exact hc
    .refine hw m hm ?_;rintro(h|h)
     .exact hu h
     .exact e h
   .have hdl:=zrs hk hlk;obtain⟨h1,h2,h3⟩:=zr7 k (dropM R to) fr (out++[⟨to,fr⟩]) U (zyh hk to) om fun m hm hu=>by
     have hm':=zqu m hm;have hne:m.to≠to:=by simpa using(zmf.1 hm).2
     have h4:=hw m hm' fun h=>by
      rcases h with h|h
      .exact hu (.inl h)
      .exact hne h
     have:=Zcj hk hlk m.to;rw[qc fun e=>hu (.inr e)]at this;omega
    exact⟨h1,h2,fun m hm=>zqu m (h3 m hm)⟩
theorem Z92{R:List MvR}(hk:KeyM R)(hw:WantM R fun _=>False):(∀m∈R,∃f,lkM R m.fr=some f)∧∀a∈R,∀b∈R,a.fr=b.fr→a=b:=by
 have hsub:∀t∈R.map (·.to),t∈R.map (·.fr):=fun t ht=>by
  obtain⟨m,hm,rfl⟩:=zmp.1 ht;obtain⟨e,he,h⟩:=cnt_pos.1 (hw m hm id);exact zmp.2 ⟨e,he,h⟩
 constructor
 .intro m hm;cases h:lkM R m.fr with
  |some f=>exact⟨f,rfl⟩
  |none=>
   exfalso;have hn:=lk_none.1 h;have hmem:m.fr∈R.map (·.fr):=zmp.2 ⟨m,hm,rfl⟩;have h1:(R.map (·.to)).length≤((R.map (·.fr)).erase m.fr).length:=z0k hk fun t ht=>by
    have hne:t≠m.fr:=fun e=>by
     obtain⟨e',he',rfl⟩:=zmp.1 ht;exact hn e' he' e
    exact(List.mem_erase_of_ne hne).2 (hsub t ht)
   rw[List.length_erase_of_mem hmem,zlm,zlm]at h1;have:=List.length_pos_of_mem hm;omega
 .intro a ha b hb hab;refine Classical.byContradiction fun hne=>?_;have hto:a.to≠b.to:=fun e=>hne (by
   have h1:=zjo hk ha;have h2:=zjo hk hb;rw[e,h2]at h1;cases a;cases b;simp only at e h1;rw[e,qV h1])
  have h1:(R.map (·.to)).length≤((dropM R a.to).map (·.fr)).length:=z0k hk fun t ht=>by
   obtain⟨m,hm,rfl⟩:=zmp.1 ht;obtain⟨e,he,h⟩:=cnt_pos.1 (hw m hm id);by_cases ea:e.to=a.to
   .have h2:=zjo hk he;rw[ea,zjo hk ha]at h2;refine zmp.2 ⟨b,zmf.2 ⟨hb,by simpa using fun e=>hto e.symm⟩,?_⟩;rw[←hab,qV h2,h]
   .exact zmp.2 ⟨e,zmf.2 ⟨he,by simpa using ea⟩,h⟩
  have:=zrs hk (zjo hk ha);rw[zlm,zlm]at h1;omega
def z2f(R:List MvR):Nat→Int→Int
 |0,t=>t
 |k+1,t=>z2f R k ((lkM R t).getD 0)
theorem zef(R:List MvR):∀(k:Nat)(t:Int),z2f R (k+1) t=(lkM R (z2f R k t)).getD 0
 |0,t=>rfl
 |k+1,t=>by rw[z2f,zef R k];rfl
theorem Z0u{R:List MvR}(hk:KeyM R)(hr:∀m∈R,∃f,lkM R m.fr=some f):∀(k:Nat)(t:Int),(lkM R t).isSome=true→(lkM R (z2f R k t)).isSome=true
 |0,t,h=>h
 |k+1,t,h=>by
  obtain⟨f,hf⟩:=qG.1 h;rw[z2f];refine Z0u hk hr k _ ?_;rw[hf];obtain⟨g,hg⟩:=hr _ (za7 hf);simp only[Option.getD_some]at hg⊢;rw[hg];rfl
theorem Zih{R:List MvR}(hk:KeyM R)(hw:WantM R fun _=>False){t:Int}(ht:(lkM R t).isSome=true):∃n,n<R.length∧lkM R (z2f R n t)=some t:=by
 obtain⟨hr,hinj⟩:=Z92 hk hw;have hkey:=fun k=>Z0u hk hr k t ht;have hmem:∀k,z2f R k t∈R.map (·.to):=fun k=>by
  obtain⟨f,hf⟩:=qG.1 (hkey k);exact zmp.2 ⟨_,za7 hf,rfl⟩
 have hdup:∃i j,i<j∧j≤R.length∧z2f R i t=z2f R j t:=by
  refine Classical.byContradiction fun hno=>?_;have hn:((List.range (R.length+1)).map fun k=>z2f R k t).Nodup:=by
   rw[List.Nodup,List.pairwise_map,List.pairwise_iff_getElem];intro i j hi hj hij he;simp only[List.getElem_range]at he;rw[wi]at hj;exact hno ⟨i,j,hij,om,he⟩
  have:=z0k hn (m:=R.map (·.to)) fun x hx=>by
   obtain⟨k,_,rfl⟩:=zmp.1 hx;exact hmem k
  rw[zlm,zlm,wi]at this;omega
 have hback:∀i d,0<d→z2f R i t=z2f R (i+d) t→z2f R d t=t:=by
  intro i
  induction i with
  |zero=>intro d _ h;rw[wq]at h;exact h.symm
  |succ i ih=>
   intro d hd h;refine ih d hd ?_;rw[show i+1+d=(i+d)+1 by omega,zef,zef]at h;obtain⟨f1,hf1⟩:=qG.1 (hkey i);obtain⟨f2,hf2⟩:=qG.1 (hkey (i+d));rw[hf1,hf2]at h;simp only[Option.getD_some]at h;have:=hinj _ (za7 hf1) _ (za7 hf2) h;exact congrArg MvR.to this
 obtain⟨i,j,hij,hj,he⟩:=hdup;have h1:=hback i (j-i) om (by rw[show i+(j-i)=j by omega];exact he);obtain⟨d,hd⟩:∃d,j-i=d+1:=⟨j-i-1,om⟩;refine⟨d,om,?_⟩;rw[hd,zef]at h1;obtain⟨f,hf⟩:=qG.1 (hkey d);rw[hf]at h1⊢;rw[←h1];rfl
theorem zxn{R:List MvR}{t:Int}:∀(n k:Nat)(cur:Int),n<k→lkM R (z2f R n cur)=some t→∃m,m≤n∧lastM k R t cur=z2f R m cur∧lkM R (lastM k R t cur)=some t
 |0,k+1,cur,_,h=>by
  rw[z2f]at h;rw[lastM,qj h];exact⟨0,we _,rfl,h⟩
 |n+1,k+1,cur,hk,h=>by
  rw[lastM];split
  .rename_i h';exact⟨0,Nat.zero_le _,rfl,h'⟩
  .rw[z2f]at h;obtain⟨m,h1,h2,h3⟩:=zxn n k _ om h;exact⟨m+1,om,h2,h3⟩
theorem Zpq{R:List MvR}(last sp q:Int):lkM (turnM R last sp) q=if q=last∧(lkM R q).isSome=true then some sp else lkM R q:=by
 induction R with
 |nil=>simp[turnM,lkM]
 |cons a l ih=>
  unfold lkM turnM at ih⊢;rw[q9,List.find?_cons,List.find?_cons];by_cases e:a.to=last
  .simp only[e,if_true];by_cases eq:last=q
   .subst eq;simp
   .simp only[eq,decide_false];exact ih
  .simp only[e,if_false];by_cases eq:a.to=q
   .have:¬q=last:=fun e2=>e (by rw[eq,e2]);simp[eq,this]
   .simp only[eq,decide_false];exact ih
theorem zy7{R:List MvR}(hk:KeyM R)(last sp:Int):KeyM (turnM R last sp):=by
 unfold KeyM turnM;rw[List.map_map];have:(fun m:MvR=>m.to) ∘ (fun m=>if m.to=last then(⟨last,sp⟩:MvR)else m)=fun m=>m.to:=by
  funext m;simp only[Function.comp];split
  .rename_i h;exact h.symm
  .rfl
 rw[this];exact hk
theorem zzq{R:List MvR}(hk:KeyM R){last t sp:Int}(h:lkM R last=some t)(p:Int)(hp:p≠sp):cntM R p=cntM (turnM R last sp) p+if p=t then 1 else 0:=by
 induction R with
 |nil=>cases h
 |cons a l ih=>
  obtain⟨h1,h2⟩:=List.nodup_cons.1 (show((a::l).map (·.to)).Nodup from hk);have hc:turnM (a::l) last sp=(if a.to=last then⟨last,sp⟩else a)::turnM l last sp:=rfl;rw[hc];by_cases e:a.to=last
  .have hd:turnM l last sp=l:=by
    unfold turnM;rw[show l=l.map id by simp];rw[List.map_map];refine qN fun m hm=>?_;simp only[Function.comp,id];rw[qc fun e2=>h1 (zmp.2 ⟨m,hm,e2.trans e.symm⟩)]
   have hf:a.fr=t:=by
    have:=zjo (R:=a::l) hk (zms);rw[e,h]at this;exact(qV this).symm
   rw[hd,qj e];unfold cntM;rw[qJ,qJ,qc (show ¬(decide ((⟨last,sp⟩:MvR).fr=p))=true by simpa using fun h=>hp h.symm)];by_cases e2:p=t
   .rw[qj (by simp[hf,e2]),qj e2];rfl
   .rw[qc (by simp[hf];exact fun h=>e2 h.symm),qc e2];rfl
  .have hl:lkM l last=some t:=by
    unfold lkM at h⊢;rw[List.find?_cons]at h;simpa[e]using h
   have:=ih h2 hl;rw[qc e];unfold cntM at this⊢;rw[qJ,qJ];split<;>(try simp only[zlc])<;>omega
theorem Z8t(m:List (Int×Value))(t q:Int):getM (delM m t) q=if q=t then none else getM m q:=by
 induction m with
 |nil=>unfold getM delM;simp
 |cons a l ih=>
  unfold delM at ih⊢;rw[qJ];by_cases e:a.1=t
  .rw[qc (by simp[e]),ih,z2x];by_cases e2:q=t
   .rw[qj e2,qj e2]
   .rw[qc e2,qc e2,qc (fun h=>e2 (by rw[←h,e]))]
  .rw[qj (by simpa using e),z2x,z2x,ih];by_cases e2:a.1=q
   .rw[qj e2,qj e2,qc (fun h=>e (by rw[e2,h]))]
   .rw[qc e2,qc e2]
theorem uMapO:Tryz.prog.underlying 135=some (.map 3 3):=kr
theorem kIntO:Tryz.prog.underlying 3=some (Key.kd Int):=kr
theorem zw5:Tryz.prog.underlying 184=some (.slice 188):=kr
theorem zmh:ElemOk zP 188 2 16=true:=kr
structure OrdR(R:List MvR)(sp:Int)(fm wm:List (Int×Value)):Prop where
 f:∀q,getM fm q=(lkM R q).map (Value.int .i64)
 w:∀p,∃n:Int,(getM wm p).getD (vi 0)=.int .i64 n∧(p≠sp→n=cntM R p)
 k:KeyM R
 i:∀m∈R,InI m.to∧InI m.fr
 s:∀m∈R,m.to≠sp
def OrdH(S0 K:PH)(ro rf rw:Nat)(sp:Int)(R out:List MvR)(J:List Itm):Prop:=∃(S:PH) (es:Array MapEntry) (cl:Nat) (es2:Array MapEntry) (cl2:Nat) (fm wm:List (Int×Value)) (ov:Value),PH.le S0 S ∧
 Held S K (bx ro 248 [.map (some rf),.map (some rw),ov]::.blk rf (.map es cl)::.blk rw (.map es2 cl2)::orow 188 out ov::J)∧EntsR es.toList cl fm∧EntsR es2.toList cl2 wm∧OrdR R sp fm wm
section
variable {S0 K:PH}{ro rf rw:Nat}{sp:Int}{R out:List MvR}{J:List Itm}
theorem OrdR.pop{fm wm:List (Int×Value)}(h:OrdR R sp fm wm){to fr n:Int}(hl:lkM R to=some fr)(hn:(getM wm fr).getD (vi 0)=.int .i64 n)(hsp:fr≠sp→IntKind.i64.wrap (n-1)=n-1):
  OrdR (dropM R to) sp (delM fm to) (putM wm fr (vi (IntKind.i64.wrap (n-1)))):=by
 refine⟨fun q=>?_,fun p=>?_,zyh h.k to,fun m hm=>h.i m (zqu m hm),fun m hm=>h.s m (zqu m hm)⟩
 .rw[Z8t,Zq5];split
  .rfl
  .exact h.f q
 .rw[zdu];obtain⟨n',h1,h2⟩:=h.w p;have hc:=Zcj h.k hl p;by_cases e:p=fr
  .subst e;rw[qj rfl];refine⟨_,rfl,fun hp=>?_⟩;rw[h1]at hn;cases hn;rw[qj rfl]at hc;rw[hsp hp,h2 hp];omega
  .rw[qc e];rw[qc e]at hc;exact⟨n',h1,fun hp=>by rw[h2 hp];omega⟩
theorem cnt_le(R:List MvR)(p:Int):cntM R p≤R.length:=List.length_filter_le _ _
theorem Zcd(to:Int)(hto:InI to)(hl:R.length≤1000)(ho:out.length+R.length≤100000)(h:OrdH S0 K ro rf rw sp R out J):
  Tri zP 208 #[pAt ro,vi to] K fun e K'=>e=.returned (.tuple #[])∧OrdH S0 K' ro rf rw sp (moveM (R.length+1) R to out).1 (moveM (R.length+1) R to out).2 J:=by
 refine qr zqb [pAt ro,vi to] ?_;generalize hT:moveM (R.length+1) R to out=T;refine⟨fun n vs K'=>∃(R' out':List MvR)(to':Int),n=R'.length∧vs=[vi to']∧InI to'∧R'.length≤1000∧out'.length+R'.length≤100000∧OrdH S0 K' ro rf rw sp R' out' J∧moveM (R'.length+1) R' to' out'=T,⟨R.length,R,out,to,rfl,rfl,hto,hl,ho,h,hT⟩,?_⟩;rintro n vs K1 _ ⟨R1,o1,t1,rfl,rfl,ht1,hl1,ho1,h1,hT1⟩;obtain⟨S,es,cl,es2,cl2,fm,wm,ov,hS,hh,e1,e2,hr⟩:=h1;simp only[cns];have row:∀{S' K':PH} {I:List Itm} {u:Value} (a k:Nat),Held S' K' I→bx ro 248 [.map (some rf),.map (some rw),u]∈I→rowAt K' (some ⟨ro,a,none⟩) ((([.map (some rf),.map (some rw),u]:List Value).drop a).take k):=fun a k hh hi=>z1k hh hi a k;refine⟨fun _=>rfl,[.map (some rf)],rfl,row 0 1 hh (zms),?_⟩;simp only[cns];have hb1:K1 rf=some (.map es cl):=hh.blk (zmm _ (zms));have hb2:K1 rw=some (.map es2 cl2):=hh.blk (zmm _ (zmm _ (zms)));have hg:=hr.f t1;refine z7c (α:=Int) (m:=fm) (v:=.map (some rf)) t1 (vi 0) uMapO kIntO kr kr kr ⟨rf,es,cl,rfl,hb1,e1⟩ (by rw[hg];cases lkM R1 t1<;>rfl) z01 ?_;rw[hg];rw[moveM]at hT1;cases hlk:lkM R1 t1 with
 |none=>
  rw[hlk]at hT1;simp only at hT1;simp only[Option.map_none,Option.getD_none,Option.isSome_none,cns];refine⟨fun vs K'=>vs=[.bool true]∧K'=K1,?_,fun _=>⟨_,z00,rfl,rfl⟩,fun g=>by simp[wz]at g⟩;rintro vs K' _ ⟨rfl,rfl⟩;simp only[cns];refine⟨fun _=>⟨rfl,?_⟩,fun g=>by simp[wz]at g⟩;rw[←hT1];exact⟨S,es,cl,es2,cl2,fm,wm,ov,hS,hh,e1,e2,hr⟩
 |some fr=>
  rw[hlk]at hT1;simp only at hT1;simp only[Option.map_some,Option.getD_some,Option.isSome_some,cns];have hmem:=za7 hlk;obtain⟨nt,hnt,hnt2⟩:=hr.w t1;have hnt2:=hnt2 (hr.s _ hmem);have hfi:=(hr.i _ hmem).2;refine⟨fun vs K'=>vs=[.bool (decide (0<cntM R1 t1))]∧K'=K1,?_,fun g=>by simp[wz]at g,fun _=>?_⟩;rotate_left
  .refine⟨[.map (some rw)],rfl,row 1 1 hh (zms),?_⟩;simp only[cns];refine z1o (α:=Int) (m:=wm) (v:=.map (some rw)) t1 (vi 0) uMapO kIntO kr kr kr ⟨rw,es2,cl2,rfl,hb2,e2⟩ (by rw[hnt];rfl) z01 ?_;rw[hnt];simp only[cns];refine⟨_,z00,?_,rfl⟩;simp only[ev0,ev,evV,cns,List.getD_cons_zero,List.getD_cons_succ,q9,List.map_nil,iOf,bOf,sOf,pOf,slLen,z09,cmpI,Value.ite_bool,zqd,Z3f,zy6,Z3k,List.cons.injEq,Value.bool.injEq,and_true,decide_eq_decide];omega
  rintro vs K' _ ⟨rfl,rfl⟩;simp only[cns];refine⟨fun g=>?_,fun g=>?_⟩
  .simp only[ev0,ev,evV,cns,List.getD_cons_zero,List.getD_cons_succ,q9,List.map_nil,iOf,bOf,sOf,pOf,slLen,z09,cmpI,Value.ite_bool,zqd,Z3f,zy6,Z3k,zdt]at g;rw[qj g]at hT1;refine⟨rfl,?_⟩;rw[←hT1];exact⟨S,es,cl,es2,cl2,fm,wm,ov,hS,hh,e1,e2,hr⟩
  simp only[ev0,ev,evV,cns,List.getD_cons_zero,List.getD_cons_succ,q9,List.map_nil,iOf,bOf,sOf,pOf,slLen,z09,cmpI,Value.ite_bool,zqd,Z3f,zy6,Z3k,zdf]at g;rw[qc g]at hT1;have hdl:=zrs hr.k hlk;obtain⟨ob,oc,hov⟩:=(hh.row (e:=188) (l:=o1) (v:=ov) sM).sl;refine⟨[ov],by rw[hov];rfl,row 2 1 hh (zms),?_⟩;simp only[cns];refine z1w (b:=16) (more:=[⟨t1,fr⟩]) [.agg #[vi t1,vi fr]] zw5 zmh rfl dC dC (hh.perm (qA (l₁:=[_,_,_]) (l₂:=J))) kr (.cons (mvR_iff.2 ⟨rfl,ht1,hfi⟩) .nil) z01 (fun w=>kr) (fun w=>kr)
   (by simp only[maxLen,zlc,zln];omega) (by simp only[zlc,zln];omega) fun u v7 S7 K7 l7 h7=>⟨z01,?_⟩
  simp only[cns];obtain⟨b7,c7,hv7⟩:=(h7.row (zms)).sl;refine z0b (off:=2) (vs:=[v7]) rfl (h7.perm (qq _ _ _)) (by simp only[wz]) (by intro w hw;rw[zsi.1 hw,hv7];rfl) sM fun K8 h8=>?_;have h8:Held S7 K8 (bx ro 248 [.map (some rf),.map (some rw),v7]::orow 188 (o1++[⟨t1,fr⟩]) v7::.blk rf (.map es cl)::.blk rw (.map es2 cl2)::J):=h8;refine⟨[.map (some rf)],rfl,row 0 1 h8 (zms),?_⟩;simp only[cns];refine zs3 (α:=Int) (m:=fm) (r:=rf) (es:=es) (clock:=cl) t1 rfl uMapO kIntO kr kr (h8.blk (zmm _ (zmm _ (zms)))) e1 fun es3 cl3 he3=>?_;have h9:=(h8.perm (qA (l₁:=[_,_]) (l₂:=_::J))).put (.map es3 cl3);refine⟨[.map (some rw)],rfl,row 1 1 h9 (zmm _ (zms)),?_⟩;simp only[cns];obtain⟨nf,hnf,hnf2⟩:=hr.w fr;have hb3:=h9.blk (r:=rw) (o:=.map es2 cl2) (zmm _ (zmm _ (zmm _ (zms))));refine z1o (α:=Int) (m:=wm) (v:=.map (some rw)) fr (vi 0) uMapO kIntO kr kr kr ⟨rw,es2,cl2,rfl,hb3,e2⟩ (by rw[hnf];rfl) z01 ?_;rw[hnf];simp only[cns];refine z1s (α:=Int) (m:=wm) (r:=rw) (es:=es2) (clock:=cl2) fr (vi (IntKind.i64.wrap (nf-1))) uMapO kIntO kr kr kr hb3 e2 fun es4 cl4 he4=>?_;have ha:=(h9.perm (qA (l₁:=[_,_,_]) (l₂:=J))).put (.map es4 cl4);have hcl:=cnt_le R1 fr;have hrp:=hr.pop hlk hnf fun hp=>by rw[hnf2 hp];exact w64 om om
  refine⟨_,z00,(dropM R1 t1).length,om,dropM R1 t1,o1++[⟨t1,fr⟩],fr,rfl,rfl,hfi,om,by simp only[zla,zlc,zln];omega,⟨S7,es3,cl3,es4,cl4,_,_,v7,wx hS l7,?_,he3,he4,hrp⟩,by rw[←hT1,hdl]⟩;refine ha.perm ?_;refine(qA (l₁:=[_,_]) (l₂:=_)).trans ?_;refine List.Perm.cons _ ?_;exact(qq _ _ _)
end
theorem zts:∀(k:Nat)(R:List MvR)(to:Int)(out:List MvR),KeyM R→(moveM k R to out).2.length+(moveM k R to out).1.length=out.length+R.length
 |0,R,to,out,_=>rfl
 |k+1,R,to,out,hk=>by
  rw[moveM];cases hl:lkM R to with
  |none=>rfl
  |some fr=>
   simp only;split
   .rfl
   .have:=zrs hk hl;rw[zts k _ _ _ (zyh hk to)];simp only[zla,zlc,zln];omega
theorem Z09(A B:List MvR)(q:Int):lkM (A++B) q=(lkM A q).or (lkM B q):=by
 unfold lkM;rw[List.find?_append];cases List.find? (fun m=>decide (m.to=q)) A<;>rfl
theorem Zlr(m:MvR)(q:Int):lkM [m] q=if q=m.to then some m.fr else none:=by
 unfold lkM;rw[List.find?_cons];by_cases e:m.to=q
 .rw[qj e.symm];simp[e]
 .rw[qc (fun h=>e h.symm)];simp[e]
theorem Zpz(A B:List MvR)(p:Int):cntM (A++B) p=cntM A p+cntM B p:=by
 unfold cntM;rw[List.filter_append,zla]
theorem Zpl(m:MvR)(p:Int):cntM [m] p=if p=m.fr then 1 else 0:=by
 unfold cntM;rw[qJ];by_cases e:m.fr=p
 .rw[qj (by simpa using e),qj e.symm];rfl
 .rw[qc (by simpa using e),qc (fun h=>e h.symm)];rfl
def partM(l:List MvR)(i:Nat):List MvR:=realM (l.take i)++l.drop i
theorem zbr{l:List MvR}{i:Nat}{m:MvR}(h:l[i]?=some m):l.drop i=m::l.drop (i+1):=by
 rw[←List.getElem_cons_drop (zgi.1 h).1,(zgi.1 h).2]
theorem z4y{l:List MvR}{i:Nat}{m:MvR}(h:l[i]?=some m):l.take (i+1)=l.take i++[m]:=by rw[qZ,h];rfl
theorem zr9(A B:List MvR):realM (A++B)=realM A++realM B:=List.filter_append ..
theorem Zl8{l:List MvR}{i:Nat}{m:MvR}(h:l[i]?=some m)(hr:m.to≠m.fr):partM l (i+1)=partM l i:=by
 unfold partM;rw[z4y h,zr9,zbr h];have:realM [m]=[m]:=by unfold realM;rw[qJ,qj (by simpa using hr)];rfl
 rw[this,zaa];rfl
theorem Zas{l:List MvR}(hk:KeyM l)(i:Nat):KeyM (partM l i):=by
 unfold partM KeyM;rw[List.map_append];have h1:((l.take i).map (·.to)++(l.drop i).map (·.to)).Nodup:=by rw[←List.map_append,List.take_append_drop];exact hk
 exact h1.sublist (((List.filter_sublist (p:=fun m:MvR=>decide (m.to≠m.fr)) (l:=l.take i)).map _).append (List.Sublist.refl _))
theorem Zll{l:List MvR}(hk:KeyM l){i:Nat}{m:MvR}(h:l[i]?=some m)(hr:m.to=m.fr)(q:Int):lkM (partM l (i+1)) q=if q=m.to then none else lkM (partM l i) q:=by
 have h0:partM l (i+1)=realM (l.take i)++l.drop (i+1):=by
  unfold partM;rw[z4y h,zr9];have:realM [m]=[]:=by unfold realM;rw[qJ,qc (by simpa using hr)];rfl
  rw[this,zan]
 have h1:partM l i=realM (l.take i)++([m]++l.drop (i+1)):=by unfold partM;rw[zbr h];rfl
 rw[h0,h1,Z09,Z09,Z09,Zlr];by_cases e:q=m.to
 .rw[qj e];have hk':=Zas hk i;rw[h1]at hk';unfold KeyM at hk';rw[List.map_append,List.map_append,List.nodup_append]at hk';have n1:lkM (realM (l.take i)) q=none:=lk_none.2 fun x hx hxe=>hk'.2.2 x.to (zmp.2 ⟨x,hx,rfl⟩) m.to sM (by rw[hxe,e]);have n2:lkM (l.drop (i+1)) q=none:=lk_none.2 fun x hx hxe=>by
   have:=(List.nodup_append.1 hk'.2.1).2.2 m.to sM x.to (zmp.2 ⟨x,hx,rfl⟩);exact this (by rw[hxe,e])
  rw[n1,n2];rfl
 .rw[qc e,qc e];cases lkM (realM (l.take i)) q<;>rfl
theorem Zc6(R:List MvR)(last sp:Int):(turnM R last sp).length=R.length:=zlm _
section
variable {S0 K:PH}{ro rf rw:Nat}{sp:Int}{R out:List MvR}{J:List Itm}
theorem OrdR.turn{fm wm:List (Int×Value)}(h:OrdR R sp fm wm)(hsp:InI sp){t last n:Int}(hl:lkM R last=some t)(ht:t≠sp)(hn:(getM wm t).getD (vi 0)=.int .i64 n)(hw:IntKind.i64.wrap (n-1)=n-1):
  OrdR (turnM R last sp) sp (putM fm last (vi sp)) (putM wm t (vi (IntKind.i64.wrap (n-1)))):=by
 refine⟨fun q=>?_,fun p=>?_,zy7 h.k last sp,fun m hm=>?_,fun m hm=>?_⟩
 .rw[zdu,Zpq];by_cases e:q=last
  .subst e;rw[qj rfl,qj ⟨rfl,by rw[hl];rfl⟩];rfl
  .rw[qc e,qc (fun hh=>e hh.1)];exact h.f q
 .rw[zdu];obtain⟨n',h1,h2⟩:=h.w p;by_cases e:p=t
  .subst e;rw[qj rfl];rw[h1]at hn;cases hn;refine⟨_,rfl,fun hp=>?_⟩;have:=zzq h.k hl p hp;rw[qj rfl]at this;rw[hw,h2 hp];omega
  .rw[qc e];refine⟨n',h1,fun hp=>?_⟩;have:=zzq h.k hl p hp;rw[qc e]at this;rw[h2 hp];omega
 .obtain⟨m',hm',rfl⟩:=zmp.1 hm;split
  .rename_i e;exact⟨by rw[←e];exact(h.i m' hm').1,hsp⟩
  .exact h.i m' hm'
 .obtain⟨m',hm',rfl⟩:=zmp.1 hm;split
  .rename_i e;show last≠sp;rw[←e];exact h.s m' hm'
  .exact h.s m' hm'
theorem Zjd(hk:KeyM R)(hw:WantM R fun _=>False)(hs:∀m∈R,m.to≠sp){t last:Int}(hl:lkM R last=some t):WantM (turnM R last sp) fun q=>False∨q=t:=fun m hm hu=>by
 obtain⟨m',hm',rfl⟩:=zmp.1 hm;have hto:(if m'.to=last then(⟨last,sp⟩:MvR)else m').to=m'.to:=by
  split
  .rename_i e;exact e.symm
  .rfl
 rw[hto]at hu⊢;have h1:=hw m' hm' id;have h2:=zzq hk hl m'.to (hs m' hm');rw[qc fun e=>hu (.inr e)]at h2;omega
end
theorem Zjx(l:List MvR)(v:Value)(sp:Int)(S:PH)(hl:SlR S l v)(hsp:InI sp):Tri zP 179 #[v,vi sp] S fun e K'=>PH.le S K'∧∃w err,e=.returned (.tuple #[w,vi err])∧SlR K' (z94 l sp) w:=by
 have hl0:=hl;have hmx:maxLen=9223372036854775807:=rfl;obtain⟨lb,lc,rfl⟩:=hl.sl;have hlm:=hl.max;have nil_:∀K:PH,SlR (α:=MvR) K [] (.slice none 0 0):=fun K=>SlR.mk_iff.2 ⟨by simp[maxLen],.inl ⟨rfl,rfl⟩⟩;generalize hT:z94 l sp=T;unfold z94 at hT;refine qr Z14 [.slice lb l.length lc,vi sp] ?_;refine⟨fun g=>?_,fun g=>?_⟩
 .simp only[wz,zdt]at g;rw[qc om]at hT;rw[←hT];exact⟨wy _,_,_,rfl,nil_ S⟩
 simp only[wz,zdf]at g;have hle:l.length≤1000:=om;refine z21 fun rf hrf=>?_;have k1:=(Held.nil (wy S)).new hrf (.map #[] 0);simp only[cns];refine z21 fun rw_ hrw=>?_;have k2:=k1.new hrw (.map #[] 0);simp only[cns];refine z1d (vs:=[.map (some rf),.map (some rw_),.slice none 0 0]) k2 kr fun ro K3 _ h3=>?_;simp only[cns];have rd:∀{i:Nat} {m:MvR} {K:PH},l[i]?=some m→PH.le S K→(z09 (.slice lb l.length lc)).isSome=true∧InI m.to∧InI m.fr∧rowAt K (pOf (eltV (.slice lb l.length lc) (i:Int) 2)) [vi m.to,vi m.fr]:=fun hi hK=>by
  obtain⟨x1,_,cs,x2,x3⟩:=hl0.get hi;obtain⟨rfl,x4,x5⟩:=mvR_iff.1 x2;exact⟨x1,x4,x5,z0p hK x3⟩
 have hin:∀m∈l,InI m.to∧InI m.fr:=fun m hm=>by
  obtain⟨i,hi⟩:=qH hm;obtain⟨_,h1,h2,_⟩:=rd hi (wy S);exact⟨h1,h2⟩
 have up:∀{i:Nat},i<l.length→IntKind.i64.wrap ((i:Int)+1)=((i+1:Nat):Int):=fun h=>by rw[w64 om om];rfl
 have row:∀{S' K':PH} {I:List Itm} {u:Value} (a k:Nat),Held S' K' I→bx ro 248 [.map (some rf),.map (some rw_),u]∈I→rowAt K' (some ⟨ro,a,none⟩) ((([.map (some rf),.map (some rw_),u]:List Value).drop a).take k):=fun a k hh hi=>z1k hh hi a k;refine ⟨fun n vs K'=>∃(i:Nat) (es:Array MapEntry) (cl:Nat) (fm:List (Int×Value)),i+n=l.length∧vs=[.slice none 0 0,vi 0,nI i] ∧
   Held S K' [bx ro 248 [.map (some rf),.map (some rw_),.slice none 0 0],.blk rw_ (.map #[] 0),.blk rf (.map es cl)]∧EntsR es.toList cl fm∧(∀q,getM fm q=(lkM (l.take i) q).map (Value.int .i64))∧KeyM (l.take i)∧(∀m∈l.take i,m.to≠sp)∧mayM sp [] l=mayM sp (l.take i) (l.drop i),
  ⟨l.length,0,#[],0,[],om,rfl,h3,EntsR.empty,fun q=>rfl,List.nodup_nil,fun m hm=>by simp at hm,sM⟩,?_⟩
 rintro n vs K4 _ ⟨i,es,cl,fm,hin_,rfl,h4,e4,f4,k4,s4,m4⟩;simp only[cns];have hK4:=h4.sh;refine⟨fun g1=>?_,fun g1=>?_⟩
 .simp only[wz,zdt]at g1;obtain⟨m,hm⟩:∃m,l[i]?=some m:=⟨_,zge om⟩;obtain⟨x1,x2,x3,x4⟩:=rd hm hK4;rw[zbr hm,mayM]at m4;refine⟨fun _=>⟨x1,by show(0:Int)≤(i:Int);omega,by show(i:Int)<(l.length:Int);omega⟩,[vi m.to,vi m.fr],rfl,x4,fun _=>rfl,[.map (some rf)],rfl,row 0 1 h4 (zms),?_⟩;simp only[cns];have hg:=f4 m.to;refine z7c (α:=Int) (m:=fm) (v:=.map (some rf)) m.to (vi 0) uMapO kIntO kr kr kr ⟨rf,es,cl,rfl,h4.blk sM,e4⟩ (by rw[hg];cases lkM (l.take i) m.to<;>rfl) z01 ?_;have hsome:(getM fm m.to).isSome=(lkM (l.take i) m.to).isSome:=by rw[hg];cases lkM (l.take i) m.to<;>rfl
  rw[hsome];simp only[cns];refine⟨fun g2=>?_,fun g2=>?_⟩
  .have hno:mayM sp [] l=false:=by
    rw[m4];simp only[wz]at g2;simp only[qu,zdt]at g2;simp only[wl,qR];left;simp only[qu,zdt];exact g2
   rw[qc (by rw[hno];simp)]at hT;rw[←hT];exact⟨hK4,_,_,rfl,nil_ K4⟩
  .simp only[wz]at g2;simp only[zof,zdf]at g2;obtain⟨⟨g3,g4⟩,g5⟩:=g2;have hno:=lk_none.1 (by simpa using g3:lkM (l.take i) m.to=none);refine⟨[.map (some rf)],rfl,row 0 1 h4 (zms),?_⟩;simp only[cns];refine z1s (α:=Int) (m:=fm) (r:=rf) (es:=es) (clock:=cl) m.to (vi m.fr) uMapO kIntO kr kr kr (h4.blk sM) e4 fun es5 cl5 he5=>?_;have h5:=((h4.perm (qA (l₁:=[_,_]) (l₂:=[]))).put (.map es5 cl5)).perm (qA (l₁:=[_,_]) (l₂:=[])).symm;refine⟨_,z00,n-1,om,i+1,es5,cl5,_,om,by simp only[wz,up (show i<l.length by omega)],h5,he5,fun q=>?_,?_,fun x hx=>?_,?_⟩
   .rw[zdu,z4y hm,Z09,Zlr,f4 q];by_cases e:q=m.to
    .have:lkM (l.take i) q=none:=by rw[e];simpa using g3
     rw[qj e,qj e,this];rfl
    .rw[qc e,qc e];cases lkM (l.take i) q<;>rfl
   .unfold KeyM;rw[z4y hm,List.map_append,List.nodup_append];refine⟨k4,sM,fun a ha b hb=>?_⟩;obtain⟨x,hx,rfl⟩:=zmp.1 ha;simp at hb;rw[hb];exact hno x hx
   .rw[z4y hm]at hx;rcases zma.1 hx with hx|hx
    .exact s4 x hx
    .rw[zsi.1 hx];exact g4
   .rw[m4,z4y hm];simp[g3,g4,g5]
 simp only[wz,zdf]at g1;obtain rfl:i=l.length:=om;have hT2:mayM sp [] l=true:=by rw[m4,List.drop_length];rfl
 rw[List.take_length]at f4 k4 s4;rw[qj ⟨hle,hT2⟩]at hT;clear m4 g1;refine ⟨fun n vs K'=>∃(i:Nat) (es:Array MapEntry) (cl:Nat) (es2:Array MapEntry) (cl2:Nat) (fm wm:List (Int×Value)),i+n=l.length∧vs=[nI i] ∧
   Held S K' [bx ro 248 [.map (some rf),.map (some rw_),.slice none 0 0],.blk rw_ (.map es2 cl2),.blk rf (.map es cl)]∧EntsR es.toList cl fm∧EntsR es2.toList cl2 wm∧(∀q,getM fm q=(lkM (partM l i) q).map (Value.int .i64))∧(∀p,(getM wm p).getD (vi 0)=.int .i64 (cntM (realM (l.take i)) p:Int)),
  ⟨l.length,0,es,cl,#[],0,fm,[],om,rfl,h4,e4,EntsR.empty,f4,fun p=>rfl⟩,?_⟩
 clear h4 e4 f4;rintro n vs K4 _ ⟨i,es,cl,es2,cl2,fm,wm,hin_,rfl,h4,e4,e42,f4,w4⟩;have hK4:=h4.sh;simp only[cns];refine⟨fun g1=>?_,fun g1=>?_⟩
 .simp only[wz,zdt]at g1;obtain⟨m,hm⟩:∃m,l[i]?=some m:=⟨_,zge om⟩;obtain⟨x1,x2,x3,x4⟩:=rd hm hK4;refine ⟨fun vs K'=>vs=[]∧∃(es:Array MapEntry) (cl:Nat) (es2:Array MapEntry) (cl2:Nat) (fm wm:List (Int×Value)),
   Held S K' [bx ro 248 [.map (some rf),.map (some rw_),.slice none 0 0],.blk rw_ (.map es2 cl2),.blk rf (.map es cl)]∧EntsR es.toList cl fm∧EntsR es2.toList cl2 wm∧(∀q,getM fm q=(lkM (partM l (i+1)) q).map (Value.int .i64))∧(∀p,(getM wm p).getD (vi 0)=.int .i64 (cntM (realM (l.take (i+1))) p:Int)),?_,
   fun _=>⟨x1,by show(0:Int)≤(i:Int);omega,by show(i:Int)<(l.length:Int);omega⟩,[vi m.to,vi m.fr],rfl,x4,fun g2=>?_,fun g2=>?_⟩
  .rintro vs K5 _ ⟨rfl,es,cl,es2,cl2,fm,wm,q1,q2,q3,q4,q5⟩;refine⟨_,z00,n-1,om,i+1,es,cl,es2,cl2,fm,wm,om,by simp only[wz,up (show i<l.length by omega)],q1,q2,q3,q4,q5⟩
  .simp only[wz,zdt]at g2;refine⟨fun _=>rfl,[.map (some rf)],rfl,row 0 1 h4 (zms),?_⟩;simp only[cns];refine zs3 (α:=Int) (m:=fm) (r:=rf) (es:=es) (clock:=cl) m.to rfl uMapO kIntO kr kr (h4.blk sM) e4 fun es5 cl5 he5=>?_;have h5:=((h4.perm (qA (l₁:=[_,_]) (l₂:=[]))).put (.map es5 cl5)).perm (qA (l₁:=[_,_]) (l₂:=[])).symm;refine⟨_,z00,rfl,es5,cl5,es2,cl2,_,wm,h5,he5,e42,fun q=>?_,fun p=>?_⟩
   .rw[Z8t,Zll k4 hm g2,f4 q];split<;>rfl
   .rw[z4y hm,zr9];have:realM [m]=[]:=by unfold realM;rw[qJ,qc (by simpa using g2)];rfl
    rw[this,zan];exact w4 p
  .simp only[wz,zdf]at g2;refine⟨fun _=>rfl,[.map (some rw_)],rfl,row 1 1 h4 (zms),?_⟩;simp only[cns];have hwf:=w4 m.fr;refine z1o (α:=Int) (m:=wm) (v:=.map (some rw_)) m.fr (vi 0) uMapO kIntO kr kr kr ⟨rw_,es2,cl2,rfl,h4.blk sM,e42⟩ (by rw[hwf];rfl) z01 ?_;rw[hwf];simp only[cns];refine z1s (α:=Int) (m:=wm) (r:=rw_) (es:=es2) (clock:=cl2) m.fr (vi (IntKind.i64.wrap ((cntM (realM (l.take i)) m.fr:Int)+1))) uMapO kIntO kr kr kr (h4.blk sM) e42 fun es5 cl5 he5=>?_;have h5:=((h4.perm (qq _ _ _)).put (.map es5 cl5)).perm (qq _ _ _);have hc:=cnt_le (realM (l.take i)) m.fr;have hrl:(realM (l.take i)).length≤l.length:=Nat.le_trans (List.length_filter_le _ _) (by rw[List.length_take];omega);refine⟨_,z00,rfl,es,cl,es5,cl5,fm,_,h5,e4,he5,fun q=>by rw[Zl8 hm g2];exact f4 q,fun p=>?_⟩;rw[zdu,z4y hm,zr9,Zpz];have:realM [m]=[m]:=by unfold realM;rw[qJ,qj (by simpa using g2)];rfl
   rw[this,Zpl];by_cases e:p=m.fr
   .rw[qj e,qj e,e,w64 om om];simp only[Option.getD_some];congr 1
   .rw[qc e,qc e,w4 p];rfl
 simp only[wz,zdf]at g1;obtain rfl:i=l.length:=om;clear g1;have hpl:partM l l.length=realM l:=by unfold partM;rw[List.take_length,List.drop_length,zan]
 rw[hpl]at f4;rw[List.take_length]at w4;have rk:KeyM (realM l):=by rw[←hpl];exact Zas k4 _
 have rsub:∀m∈realM l,m∈l:=fun m hm=>(zmf.1 hm).1;have rlen:(realM l).length≤l.length:=List.length_filter_le _ _;have hord:OrdR (realM l) sp fm wm:=⟨f4,fun p=>⟨_,w4 p,fun _=>rfl⟩,rk,fun m hm=>hin m (rsub m hm),fun m hm=>s4 m (rsub m hm)⟩;have hO:OrdH S K4 ro rf rw_ sp (realM l) [] []:=⟨S,es,cl,es2,cl2,fm,wm,.slice none 0 0,wy S,by
  have:=h4.empty (α:=MvR) 188;refine this.perm ?_;refine(qA (l₁:=[_]) (l₂:=[_,_])).symm.trans ?_;refine List.Perm.cons _ ?_;exact((qq _ _ _).trans (List.Perm.cons _ (qq _ _ _))).trans (qq _ _ _),e4,e42,hord⟩
 refine ⟨fun n vs K'=>∃(i:Nat) (R out:List MvR),i+n=l.length∧vs=[nI i]∧PH.le S K'∧OrdH S K' ro rf rw_ sp R out []∧KeyM R∧(∀m∈R,m∈realM l)∧out.length+R.length≤l.length∧WantM R (fun t=>∃m∈l.drop i,m.to=t)∧freeM l (realM l) []=freeM (l.drop i) R out,
  ⟨l.length,0,realM l,[],om,rfl,hK4,hO,rk,fun m hm=>hm,by simpa using rlen,fun m hm hu=>absurd ⟨m,rsub m hm,rfl⟩ hu,rfl⟩,?_⟩
 clear hO h4 e4 e42 f4 w4 hord;rintro n vs K5 _ ⟨i,R,out,hin_,rfl,hK5,hO,hRk,hRs,hRo,hRw,hfree⟩;simp only[cns];refine⟨fun g1=>?_,fun g1=>?_⟩
 .simp only[wz,zdt]at g1;obtain⟨m,hm⟩:∃m,l[i]?=some m:=⟨_,zge om⟩;obtain⟨x1,x2,x3,x4⟩:=rd hm hK5;rw[zbr hm,freeM]at hfree;refine⟨fun _=>⟨x1,by show(0:Int)≤(i:Int);omega,by show(i:Int)<(l.length:Int);omega⟩,[vi m.to,vi m.fr],rfl,x4,?_⟩;simp only[cns];refine z03 (qb 208) (Zcd m.to x2 om om hO) ?_;rintro _ K6 ⟨rfl,hO6⟩;refine⟨_,[],rfl,rfl,rfl,z01,?_⟩;simp only[zan];obtain⟨w1,w2,w3⟩:=zr7 (R.length+1) R m.to out (fun t=>∃x∈l.drop (i+1),x.to=t) hRk om fun x hx hu=>hRw x hx fun⟨y,hy,hyt⟩=>by
   rw[zbr hm]at hy;rcases zmc.1 hy with rfl|hy
   .exact hu (.inr hyt.symm)
   .exact hu (.inl ⟨y,hy,hyt⟩)
  have hlen:=zts (R.length+1) R m.to out hRk;have hK6:PH.le S K6:=by
   obtain⟨S',_,_,_,_,_,_,_,q1,q2,_⟩:=hO6;exact wx q1 q2.sh
  exact⟨_,z00,n-1,om,i+1,_,_,om,by simp only[wz,up (show i<l.length by omega)],hK6,hO6,w1,fun x hx=>hRs x (w3 x hx),om,w2,hfree⟩
 simp only[wz,zdf]at g1;obtain rfl:i=l.length:=om;clear g1;rw[List.drop_length]at hRw hfree;rw[freeM]at hfree;rw[hfree]at hT;have hRw':WantM R fun _=>False:=fun m hm hu=>hRw m hm fun⟨x,hx,_⟩=>by cases hx
 have hRs':∀m∈R,m.to≠sp:=fun m hm=>s4 m (rsub m (hRs m hm));refine ⟨fun n vs K'=>∃(i:Nat) (R out:List MvR),i+n=l.length∧vs=[nI i]∧PH.le S K'∧OrdH S K' ro rf rw_ sp R out []∧R.length≤1000∧out.length+R.length≤l.length+i∧WantM R (fun _=>False)∧(z65 sp (l.drop i) R out).2=T,
  ⟨l.length,0,R,out,om,rfl,hK5,hO,om,om,hRw',by rw[List.drop_zero];exact hT⟩,?_⟩
 clear hO hRk hRs hRo hRw hRw' hRs' hfree hT;rintro n vs K6 _ ⟨i,R1,o1,hin1,rfl,hK6,hO6,l6,b6,w6,t6⟩;obtain⟨S1,es,cl,es2,cl2,fm,wm,ov,hS1,hh,e1,e2,hr⟩:=hO6;have k6:=hr.k;obtain⟨ob,oc,hov⟩:=(hh.row (e:=188) (l:=o1) (v:=ov) sM).sl;simp only[cns];refine⟨fun g1=>?_,fun g1=>?_⟩;rotate_left
 .simp only[wz,zdf]at g1;obtain rfl:i=l.length:=om;rw[List.drop_length,z65]at t6;refine⟨fun _=>rfl,[ov],by rw[hov];rfl,row 2 1 hh (zms),?_⟩;obtain⟨S2,s2,l2,h2⟩:=(hh.perm (qA (l₁:=[_,_,_]) (l₂:=[]))).freeze;have t6':o1=T:=t6;exact⟨hK6,ov,0,rfl,by rw[←t6'];exact s2.le h2.sh⟩
 simp only[wz,zdt]at g1;obtain⟨m,hm⟩:∃m,l[i]?=some m:=⟨_,zge om⟩;obtain⟨x1,x2,x3,x4⟩:=rd hm hK6;rw[zbr hm,z65]at t6;refine ⟨fun vs K'=>vs=[]∧∃(R2 o2:List MvR),PH.le S K'∧OrdH S K' ro rf rw_ sp R2 o2 []∧R2.length≤1000∧o2.length+R2.length≤l.length+(i+1)∧WantM R2 (fun _=>False)∧(z65 sp (l.drop (i+1)) R2 o2).2=T,?_,
  fun _=>⟨x1,by show(0:Int)≤(i:Int);omega,by show(i:Int)<(l.length:Int);omega⟩,[vi m.to,vi m.fr],rfl,x4,fun _=>rfl,[.map (some rf)],rfl,row 0 1 hh (zms),?_⟩
 .rintro vs K7 _ ⟨rfl,R2,o2,q1,q2,q3,q4,q5,q6⟩;exact⟨_,z00,n-1,om,i+1,R2,o2,om,by simp only[wz,up (show i<l.length by omega)],q1,q2,q3,q4,q5,q6⟩
 simp only[cns];have hg:=hr.f m.to;refine z7c (α:=Int) (m:=fm) (v:=.map (some rf)) m.to (vi 0) uMapO kIntO kr kr kr ⟨rf,es,cl,rfl,hh.blk sM,e1⟩ (by rw[hg];cases lkM R1 m.to<;>rfl) z01 ?_;have hsome:(getM fm m.to).isSome=(lkM R1 m.to).isSome:=by rw[hg];cases lkM R1 m.to<;>rfl
 rw[hsome];simp only[cns];unfold z7t at t6;refine⟨fun g2=>?_,fun g2=>?_⟩;rotate_left
 .simp only[wz]at g2;rw[qc (by rw[g2];simp)]at t6;exact⟨_,z00,rfl,R1,o1,hK6,⟨S1,es,cl,es2,cl2,fm,wm,ov,hS1,hh,e1,e2,hr⟩,l6,om,w6,t6⟩
 simp only[wz]at g2;rw[qj g2]at t6;obtain⟨f0,hf0⟩:=qG.1 g2;obtain⟨t,ht⟩:∃t,t=m.to:=⟨_,rfl⟩;have htsp:t≠sp:=by rw[ht];exact hr.s ⟨m.to,f0⟩ (za7 hf0)
 have hti:InI t:=by rw[ht];exact x2
 rw[←ht]at t6 g2;obtain⟨n0,hn0,hback⟩:=Zih k6 w6 g2;obtain⟨_,_,_,hlastk⟩:=zxn n0 R1.length t hn0 hback;obtain⟨last,hlast⟩:∃last,last=lastM R1.length R1 t t:=⟨_,rfl⟩;rw[←hlast]at hlastk t6;refine⟨[ov],by rw[hov];rfl,row 2 1 hh (zms),?_⟩;simp only[cns];rw[←ht];refine z1w (b:=16) (more:=[⟨sp,t⟩]) [.agg #[vi sp,vi t]] zw5 zmh rfl dC dC (hh.perm (qA (l₁:=[_,_,_]) (l₂:=[]))) kr (.cons (mvR_iff.2 ⟨rfl,hsp,hti⟩) .nil) (z0o (row 2 1 hh (zms)) z01) (fun w=>kr) (fun w=>kr)
  (by simp only[maxLen,zlc,zln];omega) (by simp only[zlc,zln];omega) fun u v7 S7 K7 l7 h7=>⟨z01,?_⟩
 simp only[cns];obtain⟨b7,c7,hv7⟩:=(h7.row (zms)).sl;refine z0b (off:=2) (vs:=[v7]) rfl (h7.perm (qq _ _ _)) (by simp only[wz]) (by intro w hw;rw[zsi.1 hw,hv7];rfl) sM fun K8 h8=>?_;have h8:Held S7 K8 (bx ro 248 [.map (some rf),.map (some rw_),v7]::orow 188 (o1++[⟨sp,t⟩]) v7::.blk rf (.map es cl)::.blk rw_ (.map es2 cl2)::[]):=h8;have b8:K8 rf=some (.map es cl):=h8.blk sM;have b8':K8 rw_=some (.map es2 cl2):=h8.blk sM;refine⟨fun n vs K'=>K'=K8∧∃(k:Nat)(cur:Int),n<k∧vs=[vi cur]∧(lkM R1 cur).isSome=true∧lkM R1 (z2f R1 n cur)=some t∧lastM k R1 t cur=last,⟨n0,rfl,R1.length,t,hn0,rfl,g2,hback,hlast.symm⟩,?_⟩;rintro n9 vs K9 _ ⟨rfl,k9,cur,hk9,rfl,hc9,hst9,hl9⟩;obtain⟨f2,hf2⟩:=qG.1 hc9;have hgc:(getM fm cur).getD (vi 0)=.int .i64 f2:=by rw[hr.f cur,hf2];rfl
 simp only[cns];refine⟨[.map (some rf)],rfl,row 0 1 h8 (zms),?_⟩;simp only[cns];refine z1o (α:=Int) (m:=fm) (v:=.map (some rf)) cur (vi 0) uMapO kIntO kr kr kr ⟨rf,es,cl,rfl,b8,e1⟩ (by rw[hgc];rfl) z01 ?_;rw[hgc];simp only[cns];obtain⟨k9,rfl⟩:∃k',k9=k'+1:=⟨k9-1,om⟩;rw[lastM,hf2]at hl9;refine⟨fun g3=>?_,fun g3=>?_⟩
 .simp only[wz,zdt]at g3;refine⟨[.map (some rf)],rfl,row 0 1 h8 (zms),?_⟩;simp only[cns];refine z1o (α:=Int) (m:=fm) (v:=.map (some rf)) cur (vi 0) uMapO kIntO kr kr kr ⟨rf,es,cl,rfl,b8,e1⟩ (by rw[hgc];rfl) z01 ?_;rw[hgc];simp only[cns];rw[qc (by simpa using g3)]at hl9;cases n9 with
  |zero=>rw[z2f,hf2]at hst9;exact absurd (qV hst9) g3
  |succ j=>
   rw[z2f,hf2]at hst9;obtain⟨f3,hf3⟩:=(Z92 k6 w6).1 _ (za7 hf2);exact⟨_,z00,j,om,rfl,k9,f2,om,rfl,by simp only at hf3;rw[hf3];rfl,hst9,hl9⟩
 .simp only[wz,zdf]at g3;have g3:f2=t:=Classical.byContradiction g3;subst g3;rw[qj rfl]at hl9;subst hl9;refine⟨[.map (some rf)],rfl,row 0 1 h8 (zms),?_⟩;simp only[cns];refine z1s (α:=Int) (m:=fm) (r:=rf) (es:=es) (clock:=cl) cur (vi sp) uMapO kIntO kr kr kr b8 e1 fun es3 cl3 he3=>?_;have h9:=(h8.perm (qA (l₁:=[_,_]) (l₂:=[_]))).put (.map es3 cl3);refine⟨[.map (some rw_)],rfl,row 1 1 h9 (zmm _ (zms)),?_⟩;simp only[cns];obtain⟨nf,hnf,hnf2⟩:=hr.w f2;have hb3:=h9.blk (r:=rw_) (o:=.map es2 cl2) (zmm _ (zmm _ (zmm _ (zms))));refine z1o (α:=Int) (m:=wm) (v:=.map (some rw_)) f2 (vi 0) uMapO kIntO kr kr kr ⟨rw_,es2,cl2,rfl,hb3,e2⟩ (by rw[hnf];rfl) z01 ?_;rw[hnf];simp only[cns];refine z1s (α:=Int) (m:=wm) (r:=rw_) (es:=es2) (clock:=cl2) f2 (vi (IntKind.i64.wrap (nf-1))) uMapO kIntO kr kr kr hb3 e2 fun es4 cl4 he4=>?_;have ha:=(h9.perm (qA (l₁:=[_,_,_]) (l₂:=[]))).put (.map es4 cl4);have hcl:=cnt_le R1 f2;have hnf3:=hnf2 htsp;have hrt:=hr.turn hsp hlastk htsp hnf (by rw[hnf3];exact w64 om om);have htl:=Zc6 R1 cur sp;have hO9:OrdH S _ ro rf rw_ sp (turnM R1 cur sp) (o1++[⟨sp,f2⟩]) []:=⟨S7,es3,cl3,es4,cl4,_,_,v7,wx hS1 l7,by
   refine ha.perm ?_;refine(qA (l₁:=[_,_]) (l₂:=_)).trans ?_;refine List.Perm.cons _ ?_;exact(qq _ _ _),he3,he4,hrt⟩
  refine z03 (qb 208) (Zcd f2 hti om (by simp only[zla,zlc,zln];omega) hO9) ?_;rw[htl];rintro _ Kb ⟨rfl,hOb⟩;refine⟨_,[],rfl,rfl,rfl,z01,?_⟩;simp only[zan];obtain⟨v1,v2,v3⟩:=zr7 (R1.length+1) (turnM R1 cur sp) f2 (o1++[⟨sp,f2⟩]) (fun _=>False) (zy7 k6 cur sp) om (Zjd k6 w6 hr.s hlastk);have hlen:=zts (R1.length+1) (turnM R1 cur sp) f2 (o1++[⟨sp,f2⟩]) (zy7 k6 cur sp);simp only[zla,zlc,zln]at hlen;have hKb:PH.le S Kb:=by
   obtain⟨S',_,_,_,_,_,_,_,q1,q2,_⟩:=hOb;exact wx q1 q2.sh
  have hR2:(moveM (R1.length+1) (turnM R1 cur sp) f2 (o1++[⟨sp,f2⟩])).1.length≤1000:=by
   have h1:((moveM (R1.length+1) (turnM R1 cur sp) f2 (o1++[⟨sp,f2⟩])).1.map (·.to)).length≤((turnM R1 cur sp).map (·.to)).length:=z0k v1 fun y hy=>by
    obtain⟨z,hz,rfl⟩:=zmp.1 hy;exact zmp.2 ⟨z,v3 z hz,rfl⟩
   rw[zlm,zlm]at h1;omega
  exact⟨_,(z2g dC).trans z00,rfl,_,_,hKb,hOb,hR2,om,v2,t6⟩
def seekG(deg:Int→Int)(gone:Int→Bool)(k:Int):List Nat→Int→Int
 | [],best=>best
 |r::l,best=>if gone (r:Int)=true then seekG deg gone k l best else if deg (r:Int)<k then(r:Int)else seekG deg gone k l (if best<0∨deg best<deg (r:Int)then(r:Int)else best)
def ordG(deg:List Int→Int→Int)(R:Nat)(k:Int):Nat→List Int→List Int
 |0,st=>st
 |n+1,st=>ordG deg R k n (st++[seekG (deg st) (fun r=>decide (r∈st)) k (List.range R) (-1)])
theorem Zgj(R:Nat)(hR:R≤2000)(k:Int)(gv:Value)(N:List (Int×GN))(S:PH)(hg:GraphR S gv N)(ok:GraphOk R N):
  Tri zP 124 #[gv,vi (R:Int),vi k] S fun x S'=>PH.le S S'∧∃st v,x=.returned v∧SlR S' st.reverse v∧st.Nodup∧st.length=R∧(∀s:Int,s∈st→0≤s∧s<R)∧OrdOk N R k st∧st=ordG (fun g u=>(degN N g u:Int)) R k R []:=by
 obtain⟨gr,ges,gcl,rfl,_,_⟩:=hg.at_;refine qr Z0i [.map (some gr),vi (R:Int),vi k] ?_;refine⟨fun vs K=>∃dv nv,vs=[dv,nv]∧Held S K [orow 3 (List.replicate R (0:Int)) dv,orow 4 (List.replicate R false) nv],?_,?_,?_⟩;rotate_left
 .refine z1v (α:=Int) (n:=R) 0 rfl (fun S=>z0e InI0) z0j Z3y kr kr (by simp only[maxLen];omega) om (Held.nil (wy S)) fun v1 K1 h1 _=>?_;refine z1v (α:=Bool) (n:=R) false rfl (fun S=>zpw) zds zab kr kr (by simp only[maxLen];omega) om h1 fun v2 K2 h2 _=>?_;exact⟨_,z00,v1,v2,rfl,h2.perm (qq _ _ _)⟩
 .refine z1v (α:=Bool) (n:=R) false rfl (fun S=>zpw) zds zab kr kr (by simp only[maxLen];omega) om (Held.nil (wy S)) fun v1 K1 h1 _=>?_;refine z1v (α:=Int) (n:=R) 0 rfl (fun S=>z0e InI0) z0j Z3y kr kr (by simp only[maxLen];omega) om h1 fun v2 K2 h2 _=>?_;exact⟨_,z00,v2,v1,rfl,h2⟩
 rintro vs K1 _ ⟨dv,nv,rfl,h1⟩;obtain⟨db,dc,rfl⟩:∃b c,dv=.slice b R c:=by have:=(h1.row (zms)).sl;rwa[wj]at this
 obtain⟨nb,nc,rfl⟩:∃b c,nv=.slice b R c:=by have:=(h1.row (zmm _ (zms))).sl;rwa[wj]at this
 simp only[cns];refine ⟨fun n vs K=>∃(i:Nat) (l:List Int),vs=[nI i]∧i+n=R∧l.length=R∧Held S K [orow 3 l (.slice db R dc),orow 4 (List.replicate R false) (.slice nb R nc)]∧∀j,j < i→l[j]?=some (degN N [] (j:Int):Int),
  ⟨R,0,_,rfl,om,sM,h1,fun j h=>om⟩,?_⟩
 rintro n vs K2 _ ⟨i,l,rfl,hin,hl,h2,hd⟩;simp only[cns];refine⟨fun g=>?_,fun g=>?_⟩
 .simp only[wz,zdt]at g;obtain⟨hm,w,hw1,hw2,hw3⟩:=(hg.le h2.sh).look (i:Int);refine z1o (α:=Int) (m:=outM N) (v:=.map (some gr)) (i:Int) (.map none) zdw kIntK kr kr kr hm (by rw[hw1];exact hw2) z01 ?_;rw[hw1];obtain⟨wm,rfl⟩:∃wm,w=.map wm:=by cases w<;>simp[Tag.ok]at hw2;exact⟨_,rfl⟩
  have hdl:=Z9k ok [] (i:Int);have hdn:=Zbo N (i:Int);simp only[cns];refine Zns (m:=encS (adjN N (i:Int))) (v:=.map wm) rfl zhy kr (wy K2) hw3 (by simp[encS];omega) ?_;obtain⟨c,hc⟩:∃c,l[i]?=some c:=⟨_,zge om⟩;obtain⟨t1,_⟩:=(h2.row (zms)).get hc;refine⟨fun _=>?_,?_⟩
  .simp only[Chk.holds,wz];exact⟨t1,om,om⟩
  have hlen:(encS (adjN N (i:Int))).length=degN N [] (i:Int):=by rw[hdn];simp[encS]
  rw[hlen];refine z1a (i:=i) (a:=c) (a':=(degN N [] (i:Int):Int)) (us:=[vi (degN N [] (i:Int):Int)]) ?_ h2 hc rfl ?_ (by simp[oneC]) (z0e (by unfold InI;omega)) fun K3 h3=>?_
  .simp only[wz];rfl
  .simp only[wz]
  refine⟨_,z00,n-1,om,i+1,l.set i _,?_,om,by simpa using hl,h3,fun j hj=>?_⟩
  .simp only[wz];rw[w64 om om];rfl
  .rw[List.getElem?_set];by_cases e:i=j
   .subst e;rw[qj rfl,qj om]
   .rw[qc e];exact hd j om
 simp only[wz,zdf]at g;have hiR:i=R:=om;subst hiR;have h2e:=(h2.empty (α:=Int) 3);refine ⟨fun n vs K=>∃(st:List Int) (sv:Value) (l:List Int) (gn:List Bool) (S':PH),vs=[sv]∧n=i - st.length∧PH.le S S'∧Held S' K [orow 3 st sv,orow 3 l (.slice db i dc),orow 4 gn (.slice nb i nc)]∧st.Nodup∧(∀s:Int,s∈st→0≤s∧s < i)∧st.length≤i∧OrdOk N i k st∧l.length=i∧(∀j,j < i→l[j]?=some (degN N st (j:Int):Int))∧gn.length=i∧(∀j,j < i→gn[j]?=some (decide ((j:Int)∈st)))∧ordG (fun g u=>(degN N g u:Int)) i k (i - st.length) st=ordG (fun g u=>(degN N g u:Int)) i k i [],
  ⟨i,[],.slice none 0 0,l,List.replicate i false,S,rfl,rfl,wy S,h2e,List.nodup_nil,fun s h=>(by cases h),sM,fun t s h=>(by simp at h),hl,hd,sM,fun j hj=>by rw[List.getElem?_replicate,qj hj];simp,rfl⟩,?_⟩
 rintro n vs K3 _ ⟨st,sv,l3,gn,S3,rfl,rfl,le3,h3,hnd,hrg,hstl,hord,hl3,hd3,hgl,hgn,hG⟩;obtain⟨sb,sc,rfl⟩:=(h3.row (zms)).sl;simp only[cns];refine⟨fun g=>?_,fun g=>?_⟩;rotate_left
 .simp only[wz,zdf]at g;have hsl:st.length=i:=om;refine z03 (qb 174) (Z98 st _ S3 K3 _ h3 om) ?_;rintro x K4 ⟨rfl,h4⟩;refine⟨_,[],rfl,rfl,rfl,z01,?_⟩;obtain⟨S5,s5,l5,h5⟩:=h4.freeze;exact⟨wx le3 (wx l5 h5.sh),st,_,rfl,s5.le h5.sh,hnd,hsl,hrg,hord,by rw[←hG,hsl,Nat.sub_self];rfl⟩
 simp only[wz,zdt]at g;have hsl:st.length<i:=om;obtain⟨j0,hj0,hj0n⟩:=Zli hnd hrg hsl;have hdeg:∀j,degN N st j≤i:=fun j=>Z9k ok st j;have rdD:∀j,j<i→(z09 (.slice db i dc)).isSome=true∧rowAt K3 (pOf (eltV (.slice db i dc) (j:Int) 1)) [vi (degN N st (j:Int):Int)]:=fun j hj=>by
  obtain⟨t1,_,tcs,t2,t3⟩:=(h3.row (zmm _ (zms))).get (hd3 j hj);obtain⟨rfl,_⟩:=csIK t2;exact⟨t1,t3⟩
 have rdG:∀j,j<i→(z09 (.slice nb i nc)).isSome=true∧rowAt K3 (pOf (eltV (.slice nb i nc) (j:Int) 1)) [.bool (decide ((j:Int)∈st))]:=fun j hj=>by
  obtain⟨t1,_,tcs,t2,t3⟩:=(h3.row (zmm _ (zmm _ (zms)))).get (hgn j hj);rw[csBK t2]at t3;exact⟨t1,t3⟩
 obtain⟨bst,hbst⟩:∃b,b=seekG (fun r=>(degN N st r:Int)) (fun r=>decide (r∈st)) k (List.range i) (-1):=⟨_,rfl⟩;refine⟨fun vs K=>K=K3∧∃best:Nat,vs=[nI best]∧best<i∧(best:Int)∉st∧(best:Int)=bst∧((degN N st (best:Int):Int)<k∨∀u:Nat,u<i→(u:Int)∉st→k≤degN N st u),?_,?_⟩;rotate_left
 ·
  refine ⟨fun n vs K=>K=K3∧∃(best:Int) (r:Nat),vs=[vi best,nI r]∧r+n=i∧((best=-1∧∀j:Nat,j < r→(j:Int)∈st)∨(0≤best∧best < r∧best∉st))∧(∀u:Nat,u < r→(u:Int)∉st→k≤degN N st u)∧seekG (fun r=>(degN N st r:Int)) (fun r=>decide (r∈st)) k ((List.range i).drop r) best=bst,
   ⟨i,rfl,-1,0,rfl,om,.inl ⟨rfl,fun j h=>om⟩,fun u h=>om,hbst.symm⟩,?_⟩
  rintro n vs K _ ⟨rfl,best,r,rfl,hrn,hbest,hall,hseek⟩;simp only[cns];refine⟨fun g2=>?_,fun g2=>?_⟩;rotate_left
  .simp only[wz,zdf]at g2;have hri:r=i:=om;subst hri;rcases hbest with⟨_,hb⟩|⟨hb1,hb2,hb3⟩
   .exact absurd (hb j0 hj0) hj0n
   .obtain⟨bn,rfl⟩:∃bn:Nat,best=(bn:Int):=⟨best.toNat,om⟩;exact⟨_,z1c rfl z00,rfl,bn,rfl,om,hb3,by rw[←hseek,List.drop_of_length_le (by rw[wi];omega)];rfl,.inr hall⟩
  simp only[wz,zdt]at g2;have hri:r<i:=om;obtain⟨g3,g4⟩:=rdG r hri;obtain⟨d3,d4⟩:=rdD r hri;have hdr:=hdeg (r:Int);have hdrop:(List.range i).drop r=r::(List.range i).drop (r+1):=by
   rw[←List.getElem_cons_drop (by rw[wi];omega:r<(List.range i).length),List.getElem_range]
  rw[hdrop,seekG]at hseek;refine⟨fun vs K'=>K'=K∧∃best':Int,vs=[vi best']∧((best'=-1∧∀j:Nat,j<r+1→(j:Int)∈st)∨(0≤best'∧best'<(r+1:Nat)∧best'∉st))∧(∀u:Nat,u<r+1→(u:Int)∉st→k≤degN N st u)∧seekG (fun r=>(degN N st r:Int)) (fun r=>decide (r∈st)) k ((List.range i).drop (r+1)) best'=bst,?_,fun _=>?_,[.bool (decide ((r:Int)∈st))],rfl,?_,fun g5=>?_,fun g5=>?_⟩
  .rintro vs K' _ ⟨rfl,best',rfl,hb',hall',hsk'⟩;refine⟨_,z00,n-1,om,rfl,best',r+1,?_,om,hb',hall',hsk'⟩;simp only[wz];rw[w64 om om];rfl
  .simp only[Chk.holds,wz];exact⟨g3,om,om⟩
  .simp only[wz];exact g4
  .simp only[wz,zdt]at g5;rw[qj (by simpa using g5)]at hseek;refine⟨_,z00,rfl,best,rfl,?_,fun u hu hn=>?_,hseek⟩
   .rcases hbest with⟨h1,h2⟩|⟨h1,h2,h3⟩
    .refine .inl ⟨h1,fun j hj=>?_⟩;by_cases e:j=r
     .subst e;exact g5
     .exact h2 j om
    .exact .inr ⟨h1,om,h3⟩
   .by_cases e:u=r
    .subst e;exact absurd g5 hn
    .exact hall u om hn
  simp only[wz,zdf]at g5;rw[qc (by simpa using g5)]at hseek;simp only[cns];refine⟨fun _=>?_,[vi (degN N st (r:Int):Int)],rfl,?_,fun g6=>?_,fun g6=>?_⟩
  .simp only[Chk.holds,wz];exact⟨d3,om,om⟩
  .simp only[wz];exact d4
  .simp only[wz,zdt]at g6;rw[qj g6]at hseek;exact⟨_,z1c rfl (z1c rfl z00),rfl,r,rfl,hri,g5,hseek,.inl g6⟩
  simp only[wz,zdf]at g6;rw[qc g6]at hseek;simp only[cns];have hall':∀u:Nat,u<r+1→(u:Int)∉st→k≤degN N st u:=fun u hu hn=>by
   by_cases e:u=r
   .subst e;omega
   .exact hall u om hn
  refine⟨fun vs K'=>K'=K∧∃t:Bool,vs=[.bool t]∧t=decide (best<0∨(degN N st best:Int)<degN N st (r:Int)),?_,fun g7=>?_,fun g7=>?_,fun g7=>?_⟩
  .rintro vs K' _ ⟨rfl,t,rfl,ht0⟩;have ht:best<0→t=true:=fun h=>by rw[ht0];simp[h]
   refine⟨_,z00,rfl,if t then(r:Int)else best,?_,?_,hall',?_⟩
   .simp only[wz];cases t<;>rfl
   .cases t with
    |true=>exact .inr ⟨sM,by simp;omega,g5⟩
    |false=>
     simp only[qp,if_false];rcases hbest with⟨h1,h2⟩|⟨h1,h2,h3⟩
     .have:=ht om;cases this
     .exact .inr ⟨h1,om,h3⟩
   .rw[←hseek,ht0];by_cases hc:best<0∨(degN N st best:Int)<degN N st (r:Int)
    .rw[qj hc,qW hc];rfl
    .rw[qc hc,qX hc];rfl
  .rcases hbest with⟨h1,h2⟩|⟨h1,h2,h3⟩
   .have:=g7 ((.cmp .lss (.atom 7) (.int .i64 0)),false) (zms);subst h1;simp[ev]at this;simp[wz]at this
   .simp only[Chk.holds,wz];exact⟨d3,om,om⟩
  .simp only[wz,zdt]at g7;exact⟨_,z00,rfl,true,rfl,by simp[g7]⟩
  .simp only[wz,zdf]at g7;rcases hbest with⟨h1,h2⟩|⟨h1,h2,h3⟩
   .omega
   obtain⟨bn,rfl⟩:∃bn:Nat,best=(bn:Int):=⟨best.toNat,om⟩;obtain⟨e3,e4⟩:=rdD bn om;refine⟨[vi (degN N st (r:Int):Int)],rfl,?_,[vi (degN N st (bn:Int):Int)],rfl,?_,_,z00,rfl,decide ((degN N st (bn:Int):Int)<(degN N st (r:Int):Int)),?_,by simp;omega⟩
   .simp only[wz];exact d4
   .simp only[wz];exact e4
   .simp only[wz,gt_iff_lt]
 rintro vs K _ ⟨rfl,best,rfl,hbi,hbn,hbst',hbd⟩;simp only[cns];obtain⟨g3,g4⟩:=rdG best hbi;refine⟨fun _=>?_,?_⟩
 .simp only[Chk.holds,wz];exact⟨g3,om,om⟩
 have hp1:[orow 3 st (.slice sb st.length sc),orow 3 l3 (.slice db i dc),orow 4 gn (.slice nb i nc)].Perm [orow 4 gn (.slice nb i nc),orow 3 st (.slice sb st.length sc),orow 3 l3 (.slice db i dc)]:=
  List.perm_append_comm (l₁:=[orow 3 st (.slice sb st.length sc),orow 3 l3 (.slice db i dc)]) (l₂:=[orow 4 gn (.slice nb i nc)])
 refine z1a (i:=best) (a':=true) (us:=[.bool true]) ?_ (h3.perm hp1) (hgn best hbi) rfl ?_ (by simp[oneC]) zpw fun K4 h4=>?_
 .simp only[wz];rfl
 .simp only[wz]
 refine z1w (more:=[(best:Int)]) (b:=8) [vi (best:Int)] z0j z0s rfl dC dC (h4.perm (qq _ _ _)) kr (.cons (z0e (by unfold InI;omega)) .nil) z01 (fun _=>kr) (fun _=>kr)
  (by simp only[maxLen,zlc,zln];omega) (by simp only[zlc,zln];omega) fun u v5 S5 K5 l5 h5=>⟨z01,?_⟩
 obtain⟨sb5,sc5,rfl⟩:=(h5.row (zms)).sl;simp only[cns];have le5:=wx le3 l5;obtain⟨hm,w,hw1,hw2,hw3⟩:=(hg.le le5).look (best:Int);refine z1o (α:=Int) (m:=outM N) (v:=.map (some gr)) (best:Int) (.map none) zdw kIntK kr kr kr (MapR.le hm h5.sh) (by rw[hw1];exact hw2) z01 ?_;rw[hw1];obtain⟨wm,rfl⟩:∃wm,w=.map wm:=by cases w<;>simp[Tag.ok]at hw2;exact⟨_,rfl⟩
 simp only[cns];have hst5:(st++[(best:Int)]).length=st.length+1:=sM;refine Z1l (m:=encS (adjN N (best:Int))) (v:=.map wm) rfl rfl zhy kr h5.sh hw3 (fun y hy=>by obtain⟨z,_,rfl⟩:=zmp.1 hy;rfl) rfl
  (fun done vs K i' o=>∃l:List Int,vs=[]∧l.length=i∧Held S5 K [.blk i' o,orow 3 l (.slice db i dc),orow 3 (st++[(best:Int)]) (.slice sb5 (st++[(best:Int)]).length sc5),orow 4 (gn.set best true) (.slice nb i nc)]∧∀j,j<i→l[j]?=some ((degN N st (j:Int):Int)-(if(j:Int)∈done then 1 else 0)))
  (fun i' o hi'=>⟨l3,rfl,hl3,?_,fun j hj=>by rw[hd3 j hj];simp⟩) ?_ ?_ ?_ ?_
 .refine(h5.new hi' o).perm (List.Perm.cons _ ?_);exact(List.perm_append_comm (l₁:=[orow 3 (st++[(best:Int)]) (.slice sb5 (st++[(best:Int)]).length sc5),orow 4 (gn.set best true) (.slice nb i nc)]) (l₂:=[orow 3 l3 (.slice db i dc)]))
 .rintro done vs K i' o ⟨l,rfl,hl,h,_⟩;exact⟨h.blk (zms),h.sh⟩
 .rintro done vs K i' o o' ⟨l,rfl,hl,h,hd⟩;exact⟨l,rfl,hl,h.put o',hd⟩
 .rintro done y wv vs K6 i' o J hy hyd _ ⟨l,rfl,hl6,h6,hd6⟩ hJ;obtain⟨y',hy',hyy⟩:=zmp.1 hy;simp only[Prod.mk.injEq]at hyy;obtain⟨rfl,rfl⟩:=hyy;obtain⟨hr1,hr2,_,_,hr3,hr4⟩:=ok.rel _ _ hy';obtain⟨yn,rfl⟩:∃yn:Nat,y'=(yn:Int):=⟨y'.toNat,om⟩;have hyi:yn<i:=om;have hgy:=hd6 yn hyi;rw[qc hyd,Int.sub_zero]at hgy;obtain⟨t1,_,tcs,t2,t3⟩:=(h6.row (zmm _ (zms))).get hgy;obtain⟨rfl,_⟩:=csIK t2;simp only[cns];have hpos:=Zf4 (N:=N) (g:=st) hbn hr1;have hdy:=hdeg (yn:Int);refine⟨fun _=>?_,[vi (degN N st (yn:Int):Int)],rfl,?_,?_⟩
  .simp only[Chk.holds,wz];exact⟨t1,om,om⟩
  .simp only[wz];exact t3
  refine z1a (i:=yn) (a':=(degN N st (yn:Int):Int)-1) (us:=[vi ((degN N st (yn:Int):Int)-1)]) ?_ (h6.perm (qq _ _ _)) hgy rfl ?_ (by simp[oneC]) (z0e (by unfold InI;omega)) fun K7 h7=>?_
  .simp only[wz];rfl
  .simp only[wz];rw[w64 om om]
  refine⟨_,z00,hJ _ _ ⟨l.set yn _,rfl,by simpa using hl6,h7.perm (qq _ _ _),fun j hj=>?_⟩⟩;rw[List.getElem?_set];by_cases e:yn=j
  .subst e;rw[qj rfl,qj om,qj (zms)]
  .rw[qc e,hd6 j hj];have h1:((j:Int)∈(yn:Int)::done)↔(j:Int)∈done:=by rw[zmc];exact⟨fun h=>h.elim (fun h=>absurd (Int.ofNat_inj.1 h).symm e) id,.inr⟩
   simp only[h1]
 .rintro done vs K6 i' o J hdone _ _ ⟨l,rfl,hl6,h6,hd6⟩;have hdone':∀y,y∈done↔y∈adjN N (best:Int):=fun y=>by
   rw[←hdone,List.map_map];simp only[Function.comp_def,List.map_id']
  refine⟨_,z1c rfl z00,i-(st.length+1),om,st++[(best:Int)],_,l,gn.set best true,S5,rfl,by rw[hst5],le5,h6.tail.perm (qq _ _ _),?_,?_,om,?_,hl6,fun j hj=>?_,by simpa using hgl,fun j hj=>?_,?_⟩
  .rw[List.nodup_append];exact⟨hnd,sM,fun a ha b hb=>by simp at hb;subst hb;exact fun e=>hbn (e▸ha)⟩
  .intro s hs;rcases zma.1 hs with hs|hs
   .exact hrg s hs
   .rw[zsi.1 hs];omega
  .intro t s hts;by_cases ht:t<st.length
   .rw[List.getElem?_append_left ht]at hts;rw[List.take_append_of_le_length om];exact hord t s hts
   .have:t=st.length:=by
     have:=(zgi.1 hts).1;omega
    subst this;rw[List.getElem?_append_right (we _),Nat.sub_self]at hts;simp at hts;subst hts;rw[List.take_left']
    .exact hbd
    .rfl
  .rw[hd6 j hj,Zn1 ok hbn];have hiff:(j:Int)∈done↔(best:Int)∈adjN N (j:Int):=by
    rw[hdone'];exact⟨fun h=>(ok.rel _ _ h).1,fun h=>(ok.rel _ _ h).1⟩
   by_cases h:(j:Int)∈done
   .have hpos:=Zf4 (N:=N) (g:=st) hbn (hiff.1 h);rw[qj h,qj (hiff.1 h)];congr 1;omega
   .rw[qc h,qc (fun hh=>h (hiff.2 hh))];simp
  .rw[List.getElem?_set];by_cases e:best=j
   .subst e;rw[qj rfl,qj om];simp
   .rw[qc e,hgn j hj];congr 2;simp only[zma,zsi,eq_iff_iff];exact⟨.inl,fun h=>h.elim id fun h=>absurd (Int.ofNat_inj.1 h).symm e⟩
  .rw[←hG];obtain⟨m,hm⟩:∃m,i-st.length=m+1:=⟨i-st.length-1,om⟩;rw[hm,ordG,show i-(st++[(best:Int)]).length=m by rw[hst5];omega,hbst',hbst]
def zio(tk:Int→Bool):Nat→Nat→Nat
 |0,j=>j
 |f+1,j=>if tk (j:Int)=true then zio tk f (j+1)else j
def putG(tk:List Int→Int→Int→Bool)(fuel:Nat)(s:List Int×Int)(r:Int):List Int×Int:=
 (s.1.set r.toNat (zio (tk s.1 r) fuel 0:Int),if((zio (tk s.1 r) fuel 0:Nat):Int)+1>s.2 then((zio (tk s.1 r) fuel 0:Nat):Int)+1 else s.2)
def colG(deg:List Int→Int→Int)(tk:List Int→Int→Int→Bool)(R:Nat)(k:Int):List Int×Int:=(ordG deg R k R []).reverse.foldl (putG tk (R+1)) (List.replicate R (-1),k)
open Classical in
noncomputable def degP(p:PrcX)(g:List Int)(u:Int):Int:=(((List.range p.regs.toNat).filter fun d:Nat=>decide (u≠d∧MeetP p u d)&&decide ((d:Int)∉g)).length:Int)
open Classical in
noncomputable def tkP(p:PrcX)(pl:List Int)(r x:Int):Bool:=(List.range p.regs.toNat).any fun q:Nat=>decide (r≠q∧MeetP p r q)&&decide (plAt pl q=x)
noncomputable def colP(p:PrcX)(k:Int):List Int×Int:=colG (degP p) (tkP p) p.regs.toNat k
def tkN(N:List (Int×GN))(pl:List Int)(r x:Int):Bool:=(adjN N r).any fun q=>decide (plAt pl q=x)
theorem Z4d(N:List (Int×GN))(pl:List Int)(r x:Int):tkN N pl r x=true↔∃q∈adjN N r,plAt pl q=x:=by
 unfold tkN;simp only[wo,zdt]
theorem Z5j{tk:Int→Bool}{j:Nat}:∀{f a:Nat},(∀x:Nat,a≤x→x<j→tk (x:Int)=true)→tk (j:Int)=false→a≤j→j<a+f→zio tk f a=j
 |0,a,_,_,h1,h2=>absurd h2 om
 |f+1,a,h,hj,h1,h2=>by
  rw[zio];by_cases e:a=j
  .subst e;rw[qc (by rw[hj];simp)]
  .rw[qj (h a (we _) om)];exact Z5j (fun x hx hxj=>h x om hxj) hj om om
theorem Zpv{p:PrcX}{N:List (Int×GN)}{R:Nat}{k:Int}(hR:p.regs=(R:Int))(ok:GraphOk R N)(hadj:∀a b,b∈adjN N a↔a≠b∧MeetP p a b):colP p k=(ordG (fun g u=>(degN N g u:Int)) R k R []).reverse.foldl (putG (tkN N) (R+1)) (List.replicate R (-1),k):=by
 classical
 have hRt:p.regs.toNat=R:=om;have hd:degP p=fun g u=>(degN N g u:Int):=by
  funext g u
  unfold degP degN;rw[hRt];congr 1;refine Nat.le_antisymm ?_ ?_
  .have h1:(((List.range R).filter fun d:Nat=>decide (u≠d∧MeetP p u d) && decide ((d:Int)∉g)).map Int.ofNat).length≤((adjN N u).filter fun d=>decide (d∉g)).length:=z0k (by
    rw[List.Nodup,List.pairwise_map];exact((List.nodup_range (n:=R)).sublist List.filter_sublist).imp fun h e=>h (Int.ofNat.inj e)) fun y hy=>by
     obtain⟨d,hd,rfl⟩:=zmp.1 hy;obtain⟨_,hd⟩:=zmf.1 hd;simp only[zba,zdt]at hd;exact zmf.2 ⟨(hadj u _).2 hd.1,by simpa using hd.2⟩
   rwa[zlm]at h1
  .have h1:((adjN N u).filter fun d=>decide (d∉g)).length≤(((List.range R).filter fun d:Nat=>decide (u≠d∧MeetP p u d)&&decide ((d:Int)∉g)).map Int.ofNat).length:=z0k ((ok.nd u).sublist List.filter_sublist) fun y hy=>by
    obtain⟨h2,h3⟩:=zmf.1 hy;have h4:=ok.rel u y h2;refine zmp.2 ⟨y.toNat,zmf.2 ⟨wg.2 om,?_⟩,show((y.toNat:Nat):Int)=y by omega⟩;have h5:=(hadj u y).1 h2;have hy':((y.toNat:Nat):Int)=y:=om;simp only[zba,zdt,hy'];exact⟨h5,by simpa using h3⟩
   rwa[zlm]at h1
 have ht:tkP p=tkN N:=by
  funext pl r x
  rw[Bool.eq_iff_iff,Z4d];unfold tkP;rw[hRt];simp only[wo,zba,zdt,wg];constructor
  .rintro⟨q,_,h1,h2⟩;exact⟨q,(hadj r q).2 h1,h2⟩
  .rintro⟨q,h1,h2⟩;have h4:=ok.rel r q h1;have hq:((q.toNat:Nat):Int)=q:=om;exact⟨q.toNat,om,by rw[hq];exact(hadj r q).1 h1,by rw[hq];exact h2⟩
 unfold colP colG;rw[hd,ht,hRt]
theorem Zgw(p:PrcX)(k:Int)(bv:Value)(S:PH)(hbv:SlR S p.blocks bv)(hw:p.Fit∧∀b∈p.blocks,b.e.args.length≤20000000):
  Tri zP 81 #[.agg (prcVs p bv).toArray,vi k] S fun x S'=>PH.le S S'∧(((k<1∨24<k)∧x=.returned (.tuple #[.slice none 0 0,vi 0,vi 1]))∨((1≤k∧k≤24)∧mayP p=false∧x=.returned (.tuple #[.slice none 0 0,vi 0,vi 150]))∨((1≤k∧k≤24)∧mayP p=true∧∃l v n,x=.returned (.tuple #[v,vi n,vi 0])∧SlR S' l v∧Placed p k n l∧l=(colP p k).1∧n=(colP p k).2-k)):=by
 obtain⟨hp,hE⟩:=hw;obtain⟨b0,c0,rfl⟩:=hbv.sl;refine qr Z1d (prcVs p (.slice b0 p.blocks.length c0)++[vi k]) ?_;simp only[prcVs,cns];refine⟨fun g=>?_,fun g=>?_⟩
 .simp only[wz]at g;simp only[qu,zdt]at g;exact⟨wy _,.inl ⟨om,rfl⟩⟩
 simp only[wz,zof,zdf]at g;have hk:1≤k∧k≤24:=om;refine z02 [.bool (mayP p)] (qb 121) (Zjp p (.slice b0 p.blocks.length c0) S hbv hp hE) rfl z01 fun K1 l1=>⟨fun g=>?_,fun g=>?_⟩
 .simp only[wz]at g;have hm:mayP p=false:=by simpa using g
  exact⟨l1,.inr (.inl ⟨hk,hm,rfl⟩)⟩
 simp only[wz]at g;have hmay:mayP p=true:=by simpa using g
 obtain⟨hr0,hr1,_,_,hne⟩:=Zbf hmay;refine z03 (qb 122) (Zkd p (.slice b0 p.blocks.length c0) K1 (hbv.le l1) ⟨hp,hE⟩ hmay) ?_;rintro x K2 ⟨S1,gr,es,cl,N,l2,rfl,h2,gok,rel⟩;refine⟨_,[.map (some gr)],rfl,rfl,rfl,z01,?_⟩;obtain⟨S3,l3,l3',hg⟩:=Zdw h2 gok;obtain⟨R,hRi⟩:∃R:Nat,p.regs=(R:Int):=⟨p.regs.toNat,om⟩;have hR2:R≤2000:=om;obtain⟨ok,hadj⟩:=Zie hRi hmay hg rel;rw[hRi];simp only[cns];refine z0z (α:=Int) (l:=[(-1:Int)]) (b:=8) [vi (-1)] z0j z0s rfl dC dC (Held.nil l3') kr (.cons (z0e (by unfold InI;omega)) .nil) z01 fun v4 K4 h4 _ _=>?_;obtain⟨S4,s4,l4,h4⟩:=h4.freeze;simp only[cns];refine z03 (qb 123) (Zh7 R hR2 (-1) v4 K4 (s4.le h4.sh)) ?_;rintro x K5 ⟨pv5,rfl,h5⟩;obtain⟨pb,pc,rfl⟩:∃b c,pv5=.slice b R c:=by have:=(h5.row (zms)).sl;rwa[wj]at this
 refine⟨_,[.slice pb R pc],rfl,rfl,rfl,z01,?_⟩;have l04:PH.le S K4:=wx l1 (wx l2 (wx l3 (wx l4 h4.sh)));have hg4:GraphR K4 (.map (some gr)) N:=hg.le (wx l4 h4.sh);simp only[cns];refine z03 (qb 124) (h5.pure (R:=fun x S'=>∃(st:List Int)(v:Value),x=.returned v∧SlR S' st.reverse v∧st.Nodup∧st.length=R∧(∀s:Int,s∈st→0≤s∧s<R)∧OrdOk N R k st∧st=ordG (fun g u=>(degN N g u:Int)) R k R []) (Zgj R hR2 k (.map (some gr)) N K4 hg4 ok)) ?_;rintro x K6 ⟨S6,l6,h6,st,ov,rfl,hov,hnd,hstl,hrg,hord,hstG⟩;obtain⟨ob,oc,rfl⟩:∃b c,ov=.slice b R c:=by have:=hov.sl;rwa[List.length_reverse,hstl]at this
 refine⟨_,[.slice ob R oc],rfl,rfl,rfl,z01,?_⟩;simp only[cns];have hg6:GraphR S6 (.map (some gr)) N:=hg4.le l6;refine ⟨fun n vs K=>∃(i:Nat) (pl:List Int) (most:Int) (S':PH),vs=[vi most,nI i]∧i+n=R∧PH.le S6 S'∧Held S' K [orow 3 pl (.slice pb R pc)]∧ColOk N R k st i pl most∧(st.reverse.take i).foldl (putG (tkN N) (R+1)) (List.replicate R (-1),k)=(pl,most),
  ⟨R,0,List.replicate R (-1),k,S6,rfl,om,wy _,h6,⟨sM,fun r hr _=>by rw [List.getElem?_replicate,qj hr],fun r a _ h=>by simp at h,fun r q a h1 _ h3=>(by
   rw[List.getElem?_replicate]at h1;split at h1
   .cases h1;omega
   .cases h1),om,om,fun s h1 h2=>om,fun h=>om,fun r a h1=>(by
   rw[List.getElem?_replicate]at h1;split at h1
   .cases h1;omega
   .cases h1)⟩,rfl⟩,?_⟩
 rintro n vs K7 _ ⟨i,pl,most,S7,rfl,hin,l7,h7,hcol,hfold⟩;simp only[cns];have hm1:=hcol.lo;have hm2:=hcol.hi;refine⟨fun g=>?_,fun g=>?_⟩;rotate_left
 .simp only[wz,zdf]at g;have:i=R:=om;subst this;obtain⟨S8,s8,l8,h8⟩:=h7.freeze;refine⟨wx l04 (wx l6 (wx l7 (wx l8 h8.sh))),.inr (.inr ⟨hk,hmay,pl,.slice pb i pc,most-k,?_,s8.le h8.sh,Zkq hRi hR2 ok hadj hnd hstl hrg hcol,?_,?_⟩)⟩
  .show Ending.returned (.tuple #[.slice pb i pc,vi (IntKind.i64.wrap (most-k)),vi 0])=_;rw[w64 om om]
  all_goals
   have hcp:=Zpv (k:=k) hRi ok hadj;rw[←hstG]at hcp;rw[ztl (by rw[List.length_reverse];omega)]at hfold;rw[hfold]at hcp;rw[hcp]
 simp only[wz,zdt]at g;have hiR:i<R:=om;obtain⟨r',hr'⟩:∃r,st.reverse[i]?=some r:=⟨_,zge (by rw[List.length_reverse];omega)⟩;have hrr:=hrg r' (List.mem_reverse.1 (zmg hr'));obtain⟨r,rfl⟩:∃r:Nat,r'=(r:Int):=⟨r'.toNat,om⟩;have hrR:r<R:=om;obtain⟨t1,_,tcs,t2,t3⟩:=(hov.le (wx l7 h7.sh)).get hr';obtain⟨rfl,_⟩:=csIK t2;refine⟨fun _=>?_,[vi (r:Int)],rfl,?_,?_⟩
 .simp only[Chk.holds,wz];exact⟨t1,om,om⟩
 .simp only[wz];exact t3
 refine z21 fun tr htr=>?_;have h8:=h7.new htr (.map #[] 0);simp only[cns];obtain⟨hm,w,hw1,hw2,hw3⟩:=(hg6.le l7).look (r:Int);refine z1o (α:=Int) (m:=outM N) (v:=.map (some gr)) (r:Int) (.map none) zdw kIntK kr kr kr (MapR.le hm h8.sh) (by rw[hw1];exact hw2) z01 ?_;rw[hw1];obtain⟨wm,rfl⟩:∃wm,w=.map wm:=by cases w<;>simp[Tag.ok]at hw2;exact⟨_,rfl⟩
 simp only[cns];refine Z1l (m:=encS (adjN N (r:Int))) (v:=.map wm) rfl rfl zhy kr h8.sh hw3 (fun y hy=>by obtain⟨z,_,rfl⟩:=zmp.1 hy;rfl) rfl
  (fun done vs K i' o=>∃(es:Array MapEntry)(cl:Nat)(s:List Int),vs=[]∧SetAt es cl s∧(∀y,y∈s↔∃q∈done,plAt pl q=y)∧Held S7 K [.blk i' o,.blk tr (.map es cl),orow 3 pl (.slice pb R pc)])
  (fun i' o hi'=>⟨#[],0,[],rfl,zlx,fun y=>sM,h8.new hi' o⟩) ?_ ?_ ?_ ?_
 .rintro done vs K i' o ⟨es,cl,s,rfl,hset,hs,h⟩;exact⟨h.blk (zms),h.sh⟩
 .rintro done vs K i' o o' ⟨es,cl,s,rfl,hset,hs,h⟩;exact⟨es,cl,s,rfl,hset,hs,h.put o'⟩
 .rintro done y wv vs K9 i' o J hy hyd _ ⟨es9,cl9,s,rfl,hset,hs,h9⟩ hJ;obtain⟨y',hy',hyy⟩:=zmp.1 hy;simp only[Prod.mk.injEq]at hyy;obtain⟨rfl,rfl⟩:=hyy;obtain⟨_,_,_,_,hr3,hr4⟩:=ok.rel _ _ hy';obtain⟨yn,rfl⟩:∃yn:Nat,y'=(yn:Int):=⟨y'.toNat,om⟩;have hgy:=Z63 (pl:=pl) (q:=yn) (by rw[hcol.len];omega);obtain⟨u1,_,ucs,u2,u3⟩:=(h9.row (zmm _ (zmm _ (zms)))).get hgy;obtain⟨rfl,_⟩:=csIK u2;simp only[cns];refine⟨fun _=>?_,[vi (plAt pl (yn:Int))],rfl,?_,?_⟩
  .simp only[Chk.holds,wz];exact⟨u1,om,om⟩
  .simp only[wz];exact u3
  refine z1s (α:=Int) (m:=encS s) (r:=tr) (es:=es9) (clock:=cl9) (plAt pl (yn:Int)) (vi 1) zhy kIntK kr kr kr (h9.blk (zmm _ (zms))) hset fun es3 cl3 he3=>?_;rw[zra]at he3;have h10:=((h9.perm (qq _ _ _)).put (.map es3 cl3)).perm (qq _ _ _);refine⟨_,z00,hJ _ _ ⟨es3,cl3,_,rfl,he3,fun z=>?_,h10⟩⟩;rw[zsg,hs];constructor
  .rintro(⟨q,hq,h⟩|rfl)
   .exact⟨q,zmm _ hq,h⟩
   .exact⟨_,zms,rfl⟩
  .rintro⟨q,hq,h⟩;rcases zmc.1 hq with rfl|hq
   .exact .inr h.symm
   .exact .inl ⟨q,hq,h⟩
 .rintro done vs K9 i' o J hdone _ _ ⟨es9,cl9,s,rfl,hset,hs,h9⟩;have hdone':∀y,y∈done↔y∈adjN N (r:Int):=fun y=>by
   rw[←hdone,List.map_map];simp only[Function.comp_def,List.map_id']
  have hs':∀y,y∈s↔∃q∈adjN N (r:Int),plAt pl q=y:=fun y=>by
   rw[hs];exact⟨fun⟨q,h1,h2⟩=>⟨q,(hdone' q).1 h1,h2⟩,fun⟨q,h1,h2⟩=>⟨q,(hdone' q).2 h1,h2⟩⟩
  have hsl:s.length≤R:=by
   have h1:s.length≤((adjN N (r:Int)).map (plAt pl)).length:=z0k hset.nodup fun y hy=>by
    obtain⟨q,h1,h2⟩:=(hs' y).1 hy;exact zmp.2 ⟨q,h1,h2⟩
   rw[zlm]at h1;have h2:=Z9k ok [] (r:Int);rw[Zbo]at h2;omega
  have hjl:∀j:Nat,(∀x:Nat,x<j→(x:Int)∈s)→j≤s.length:=fun j hj=>by
   have h1:((List.range j).map Int.ofNat).length≤s.length:=z0k (zrf j) fun y hy=>by
    obtain⟨x,hx,rfl⟩:=zmp.1 hy;exact hj x (wg.1 hx)
   rwa[zlm,wi]at h1
  simp only[cns,zan];refine⟨fun n vs K=>K=K9∧∃j:Nat,vs=[nI j]∧n=s.length-j∧∀x:Nat,x<j→(x:Int)∈s,⟨s.length,rfl,0,rfl,rfl,fun x h=>om⟩,?_⟩;rintro n2 vs K _ ⟨rfl,j,rfl,rfl,hj⟩;simp only[cns];have hjs:=hjl j hj;have hb9:K tr=some (.map es9 cl9):=h9.blk (zmm _ (zms));refine z1o (α:=Int) (m:=encS s) (v:=.map (some tr)) (j:Int) (vi 0) zhy kIntK kr kr kr ⟨tr,es9,cl9,rfl,hb9,hset⟩ (by rw[zvj];split<;>rfl) z01 ?_;rw[zvj];by_cases hin:(j:Int)∈s
  .rw[qj hin];simp only[Option.getD_some,cns];have hj2:=hjl (j+1) fun x hx=>by
    by_cases e:x=j
    .subst e;exact hin
    .exact hj x om
   refine⟨fun g2=>?_,fun g2=>?_⟩
   .refine⟨_,z00,s.length-(j+1),om,rfl,j+1,?_,rfl,fun x hx=>?_⟩
    .simp only[wz];rw[w64 om om];rfl
    .by_cases e:x=j
     .subst e;exact hin
     .exact hj x om
   .simp[wz]at g2
  .rw[qc hin];simp only[Option.getD_none,cns];refine⟨fun g2=>?_,fun g2=>?_⟩
   .simp[wz]at g2
   have hplr:∃c,pl[r]?=some c:=⟨_,zge (by rw[hcol.len];omega)⟩;obtain⟨c,hc⟩:=hplr;have h10:=h9.tail.tail;obtain⟨u1,_⟩:=(h10.row (zms)).get hc;refine⟨fun _=>?_,?_⟩
   .simp only[Chk.holds,wz];exact⟨u1,om,om⟩
   refine z1a (i:=r) (a:=c) (a':=(j:Int)) (us:=[vi (j:Int)]) ?_ h10 hc rfl ?_ (by simp[oneC]) (z0e (by unfold InI;omega)) fun K11 h11=>?_
   .simp only[wz];rfl
   .simp only[wz]
   have hstep:=Zm8 ok hk.1 hnd hstl hrg hord hcol hr' hrR (j:=j) (fun x hx=>(hs' _).1 (hj x hx)) (fun h=>hin ((hs' _).2 h)) om;refine⟨_,z1c rfl (z1c rfl z00),n-1,om,i+1,pl.set r (j:Int),_,S7,?_,om,l7,h11,hstep,?_⟩;rotate_left
   .rw[qZ,hr',List.foldl_append,hfold];show putG (tkN N) (R+1) (pl,most) (r:Int)=_;have hle:zio (tkN N pl (r:Int)) (R+1) 0=j:=Z5j (fun x _ hx=>(Z4d N pl _ _).2 ((hs' _).1 (hj x hx))) (by
     cases hq:tkN N pl (r:Int) (j:Int)with
     |false=>rfl
     |true=>exact absurd ((hs' _).2 ((Z4d N pl _ _).1 hq)) hin) (Nat.zero_le _) om
    unfold putG;rw[hle,qM]
   simp only[wz];rw[w64 (n:=(j:Int)+1) om om,w64 (n:=(i:Int)+1) om om];by_cases e:(j:Int)+1>most
   .simp[e]
   .simp[e]
theorem zv0(p:PrcX)(bv:Value)(S K:PH)(J:List Itm)(h:Held S K J)(hbv:SlR S p.blocks bv)(hp:p.Fit)(hE:∀b∈p.blocks,b.e.args.length≤20000000)(hm:mayP p=true):
  Tri zP 39 #[.agg (prcVs p bv).toArray] K fun e K'=>∃(S':PH)(rf:Nat)(pl:List Int)(pv:Value)(n:Int),e=.returned (pAt rf)∧PH.le S S'∧SlR S' pl pv∧Placed p 24 n pl∧pl=(colP p 24).1∧n=(colP p 24).2-24 ∧
   Held S' K' (bx rf 142 [.pointer none,vi p.params,vi p.holds,vi p.regs,bv,pv,vi n,.slice none 0 0,vi 0]::J):=by
 obtain⟨b0,c0,rfl⟩:=hbv.sl;refine qr Z3i (prcVs p (.slice b0 p.blocks.length c0)) ?_;simp only[prcVs];refine z1d (vs:=[.pointer none,vi p.params,vi p.holds,vi p.regs,.slice b0 p.blocks.length c0,.slice none 0 0,vi 0,.slice none 0 0,vi 0]) h kr fun rf K1 _ h1=>?_;simp only[cns];refine z03 (qb 81) (h1.pure (R:=fun x S'=>((24<(1:Int)∨24<(24:Int))∧x=.returned (.tuple #[.slice none 0 0,vi 0,vi 1]))∨((1≤(24:Int)∧(24:Int)≤24)∧mayP p=false∧x=.returned (.tuple #[.slice none 0 0,vi 0,vi 150]))∨((1≤(24:Int)∧(24:Int)≤24)∧mayP p=true∧∃l v n,x=.returned (.tuple #[v,vi n,vi 0])∧SlR S' l v∧Placed p 24 n l∧l=(colP p 24).1∧n=(colP p 24).2-24)) (Zgw p 24 (.slice b0 p.blocks.length c0) S hbv ⟨hp,hE⟩)) ?_;rintro e K2 ⟨S2,l2,h2,h|⟨_,h,_⟩|⟨_,_,pl,pv,n,rfl,hpl,hpd,hq1,hq2⟩⟩
 .omega
 .rw[hm]at h;cases h
 obtain⟨pb,pc,hpv⟩:=hpl.sl;refine⟨_,[pv,vi n,vi 0],rfl,by rw[hpv];rfl,rfl,z01,fun _=>rfl,?_⟩;simp only[cns];refine z0b (off:=5) (vs:=[pv]) rfl h2 (by simp only[wz]) (by intro u hu;rw[zsi.1 hu,hpv];rfl) sM fun K3 h3=>?_;refine z0b (off:=6) (vs:=[vi n]) rfl h3 (by simp only[wz]) (by simp[oneC]) sM fun K4 h4=>?_;exact⟨S2,rf,pl,pv,n,rfl,l2,hpl,hpd,hq1,hq2,h4⟩
theorem Zjr{R:List MvR}{t fr:Int}(h:lkM R t=some fr):(dropM R t).length+1≤R.length:=by
 have hm:=za7 h
 induction R with
 |nil=>cases hm
 |cons a l ih=>
  unfold dropM;rw[qJ];by_cases e:a.to=t
  .rw[qc (by simp[e])];have:=List.length_filter_le (fun m:MvR=>decide (m.to≠t)) l;simp only[zlc];omega
  .rw[qj (by simpa using e)];have hl:lkM l t=some fr:=by
    unfold lkM at h⊢;rw[List.find?_cons]at h;simpa[e]using h
   have:=ih hl (za7 hl);unfold dropM at this;simp only[zlc];omega
theorem zse:∀(k:Nat)(R:List MvR)(to:Int)(out:List MvR),(moveM k R to out).2.length+(moveM k R to out).1.length≤out.length+R.length
 |0,R,to,out=>we _
 |k+1,R,to,out=>by
  rw[moveM];cases hl:lkM R to with
  |none=>exact we _
  |some fr=>
   simp only;split
   .exact we _
   .have h1:=Zjr hl;have h2:=zse k (dropM R to) fr (out++[⟨to,fr⟩]);simp only[zla,zlc,zln]at h2;omega
theorem Z0t:∀(l R out:List MvR),(freeM l R out).2.length+(freeM l R out).1.length≤out.length+R.length
 | [],R,out=>we _
 |m::l,R,out=>by
  rw[freeM];have h1:=zse (R.length+1) R m.to out;have h2:=Z0t l (moveM (R.length+1) R m.to out).1 (moveM (R.length+1) R m.to out).2;omega
theorem zve(sp:Int):∀(l R out:List MvR),(z65 sp l R out).2.length+(z65 sp l R out).1.length≤out.length+R.length+l.length
 | [],R,out=>we _
 |m::l,R,out=>by
  rw[z65];have h2:=zve sp l (z7t sp m R out).1 (z7t sp m R out).2;have h1:(z7t sp m R out).2.length+(z7t sp m R out).1.length≤out.length+R.length+1:=by
   unfold z7t;split
   .have:=zse (R.length+1) (turnM R (lastM R.length R m.to m.to) sp) m.to (out++[⟨sp,m.to⟩]);rw[Zc6]at this;simp only[zla,zlc,zln]at this;omega
   .simp
  simp only[zlc];omega
theorem Zi2(l:List MvR)(sp:Int):(z94 l sp).length≤2*l.length:=by
 unfold z94;split
 .have h1:=Z0t l (realM l) [];have h2:=zve sp l (freeM l (realM l) []).1 (freeM l (realM l) []).2;have h3:(realM l).length≤l.length:=List.length_filter_le _ _;simp only[zln]at h1;omega
 .simp
def zom(ms:List MvR):List ItemR:=ms.map fun m=>⟨0,⟨15,m.to,m.fr,0,0⟩,0,0⟩
def za3(ms:List MvR):List ItemR:=zom (z94 ms 26)
section
variable {S0 K:PH}{x:FX}{pu nx:Int}{l l':List ItemR}{k k':Nat}{J:List Itm}
theorem GnH.pure{P:Program}{f:FuncId}{args:Array Value}{R:Ending→PH→Prop}(h:GnH S0 K x pu nx l k J)(ht:∀S,PH.le S0 S→Tri P f args S fun e S'=>PH.le S S'∧R e S'):Tri P f args K fun e K'=>∃S',PH.le S0 S'∧GnH S' K' x pu nx l k J∧R e S':=by
 obtain⟨⟨h1,S,iv,h2,h3⟩,h4,h5⟩:=h;refine(h3.pure (ht S h2)).mono ?_;rintro e K' ⟨S',l1,h6,h7⟩;exact⟨S',wx h2 l1,⟨⟨h1,S',iv,wy _,h6⟩,h4,h5⟩,h7⟩
theorem Zaw(ms:List MvR)(v:Value)(hv:SlR S0 ms v)(h0:GnH S0 K x pu nx l (k+2*ms.length) J):Tri zP 132 #[pAt x.rf,v] K (GnQ S0 x pu nx (l++za3 ms) k J):=by
 have hv0:=hv;obtain⟨vb,vc,rfl⟩:=hv.sl;refine qr zkm [pAt x.rf,.slice vb ms.length vc] ?_;refine z03 (qb 179) (h0.pure (R:=fun e S'=>∃w err,e=.returned (.tuple #[w,vi err])∧SlR S' (z94 ms 26) w) fun S hS=>Zjx ms _ 26 S (hv0.le hS) dC) ?_;have hol:=Zi2 ms 26;unfold za3;rintro _ K1 ⟨S1,l1,h1,w,err,rfl,hw⟩;generalize z94 ms 26=o at hw hol⊢;have hw0:=hw;obtain⟨wb,wc,rfl⟩:=hw.sl;refine⟨_,[.slice wb o.length wc,vi err],rfl,rfl,rfl,z01,?_⟩;simp only[cns];refine⟨fun n vs K'=>∃i:Nat,i+n=o.length∧vs=[nI i]∧GnH S1 K' x pu nx (l++zom (o.take i)) (k+n) J,⟨o.length,0,om,rfl,by simpa[zom]using h1.less om⟩,?_⟩;rintro n vs K2 _ ⟨i,hin,rfl,h2⟩;simp only[cns];refine⟨fun g=>?_,fun g=>?_⟩
 .simp only[wz,zdt]at g;obtain⟨m,hm⟩:∃m,o[i]?=some m:=⟨_,zge om⟩;obtain⟨x1,_,cs,x2,x3⟩:=hw0.get hm;obtain⟨rfl,q1,q2⟩:=mvR_iff.1 x2;obtain⟨j,rfl⟩:∃j,n=j+1:=⟨n-1,om⟩;refine⟨fun _=>⟨x1,by show(0:Int)≤(i:Int);omega,by show(i:Int)<(o.length:Int);omega⟩,[vi m.to,vi m.fr],rfl,z0p h2.sh x3,fun _=>rfl,[pAt x.rg],rfl,h2.frow 0 1,fun _=>rfl,?_⟩;simp only[cns];refine z05 (qb 56) ((h2.less (k':=k+j+1) om).to (zqn m.to m.fr q1 q2)) fun K3 h3=>?_;have hw:IntKind.i64.wrap ((i:Int)+1)=((i+1:Nat):Int):=by
   have:=hw0.max;simp only[maxLen]at this;rw[w64 om om];rfl
  refine⟨_,z00,j,om,i+1,om,by simp only[wz,hw],?_⟩;rw[z4y hm];simpa[zom]using h3
 .simp only[wz,zdf]at g;rw[ztl om]at h2;exact⟨rfl,(h2.less om).base l1⟩
end
noncomputable def z2o(p:PrcX)(place:List Int)(b:Int):List Int:=(z0w p b).filter fun r=>decide (place.getD r.toNat 0<24)
theorem zsh{p:PrcX}(hp:p.Fit)(b:Int):(z0w p b).length≤20000000:=by
 have h0:=Z5i hp;unfold z0w;split
 .split
  .refine Nat.le_trans (List.length_filter_le _ _) ?_;unfold liveL;exact Nat.le_trans (List.length_filter_le _ _) h0
  .simp
 .simp
theorem Z2j(place:List Int)(pv:Value)(rf:Nat)(r:Int)(K:PH)(hpl:SlR K place pv)(hrow:rowAt K (some ⟨rf,5,none⟩) [pv])(hr:0≤r∧r<place.length):Gives zP 126 [pAt rf,vi r] K (.bool (decide (place.getD r.toNat 0<24))):=by
 obtain⟨n,rfl⟩:∃n:Nat,r=(n:Int):=⟨r.toNat,om⟩;obtain⟨a,ha⟩:∃a,place[n]?=some a:=⟨_,zge om⟩;have hpl0:=hpl;obtain⟨b,c,rfl⟩:=hpl.sl;obtain⟨z1,_,cs,z2,z3⟩:=hpl0.get ha;obtain⟨rfl,_⟩:=csIK z2;rw[qM,zgd,ha];refine qr z6r [pAt rf,vi (n:Int)] ?_;refine⟨fun _=>rfl,[.slice b place.length c],rfl,hrow,fun _=>⟨z1,by show(0:Int)≤(n:Int);omega,by show(n:Int)<(place.length:Int);omega⟩,[vi a],rfl,z3,rfl,wy _⟩
abbrev zhu(gp:Value)(p:PrcX)(bv pv:Value)(slots:Int)(lv:Value)(pushed:Int):List Value:=[gp,vi p.params,vi p.holds,vi p.regs,bv,pv,vi slots,lv,vi pushed]
section
variable {p:PrcX}{bv pv lv gp:Value}{place:List Int}{rf:Nat}{slots pushed:Int}{S K:PH}{I:List Itm}
theorem Z08(h:Held S K I)(hi:bx rf 142 (zhu gp p bv pv slots lv pushed)∈I)(hbv:SlR S p.blocks bv)(hpl:SlR S place pv)(hp:p.Fit)(hE:∀b∈p.blocks,b.e.args.length≤20000000)(b:Int)(hin:∀r∈z0w p b,0≤r∧r<place.length):
  Tri zP 82 #[pAt rf,vi b] K fun e K'=>∃S' v,PH.le S S'∧Held S' K' I∧SlR S' (z2o p place b) v∧e=.returned (.tuple #[v,.bool (decide (0<p.holds))]):=by
 have hal:=zsh hp b;have hbv0:=hbv;obtain⟨bb,bc,rfl⟩:=hbv.sl;have row:∀{S' K':PH} {I':List Itm} (a n:Nat),Held S' K' I'→bx rf 142 (zhu gp p (.slice bb p.blocks.length bc) pv slots lv pushed)∈I'→rowAt K' (some ⟨rf,a,none⟩) (((zhu gp p (.slice bb p.blocks.length bc) pv slots lv pushed).drop a).take n):=fun a n hh hi=>z1k hh hi a n;refine qr zle [pAt rf,vi b] ?_;refine⟨fun _=>rfl,prcVs p (.slice bb p.blocks.length bc),rfl,row 1 4 h hi,?_⟩;simp only[prcVs,cns];refine z03 (qb 125) (h.pure (R:=fun x S'=>∃v,x=.returned v∧SlR S' (z0w p b) v) (zx3 p _ b S hbv0 hp hE)) ?_;rintro _ K1 ⟨S1,l1,h1,v,rfl,hv⟩;unfold z2o;generalize z0w p b=as_ at *;have hv0:=hv;obtain⟨vb,vc,rfl⟩:=hv.sl;refine⟨_,[.slice vb as_.length vc],rfl,rfl,rfl,z01,?_⟩;simp only[cns];have h1':=h1.empty (α:=Int) 3;refine⟨fun n vs K'=>∃(i:Nat)(u:Value)(S':PH),i+n=as_.length∧vs=[u,nI i]∧PH.le S1 S'∧Held S' K' (orow 3 ((as_.take i).filter fun r=>decide (place.getD r.toNat 0<24)) u::I),⟨as_.length,0,.slice none 0 0,S1,om,rfl,wy _,by simpa using h1'⟩,?_⟩;rintro n vs K2 _ ⟨i,u,S2,hin2,rfl,l2,h2⟩;simp only[cns];obtain⟨ub,uc,hu⟩:=(h2.row (zms)).sl;refine⟨fun g=>?_,fun g=>?_⟩
 .simp only[wz,zdt]at g;obtain⟨r,hr⟩:∃r,as_[i]?=some r:=⟨_,zge om⟩;obtain⟨ri,q,d⟩:=z3s hv0 i r hr;have hrb:=hin r (zmg hr);have hup:IntKind.i64.wrap ((i:Int)+1)=((i+1:Nat):Int):=by rw[w64 om om];rfl
  have htk:as_.take (i+1)=as_.take i++[r]:=by rw[qZ,hr];rfl
  have hfl:((as_.take i).filter fun r=>decide (place.getD r.toNat 0<24)).length≤20000000:=Nat.le_trans (List.length_filter_le _ _) (by rw[List.length_take];omega);refine⟨fun vs K'=>∃(u:Value)(S':PH),vs=[u]∧PH.le S1 S'∧Held S' K' (orow 3 ((as_.take (i+1)).filter fun r=>decide (place.getD r.toNat 0<24)) u::I),?_,fun _=>q,[vi r],rfl,d _ (wx l2 h2.sh),?_⟩
  .rintro vs K' _ ⟨u',S',rfl,q1,q2⟩;exact⟨_,z00,n-1,om,i+1,u',S',om,by simp only[wz,hup],q1,q2⟩
  simp only[cns];have hsk:=wx l1 (wx l2 h2.sh);refine z02 [.bool (decide (place.getD r.toNat 0<24))] (qb 126) (Z2j place pv rf r K2 (hpl.le hsk) (row 5 1 h2 (zmm _ hi)) hrb) rfl z01 fun K3 l3=>?_;have h3:=h2.le l3;simp only[cns];refine⟨fun g2=>?_,fun g2=>?_⟩
  .simp only[wz]at g2;refine z1w (b:=8) (more:=[r]) [vi r] z0j z0s rfl dC dC h3 kr (.cons (z0e ri) .nil) z01 (fun _=>kr) (fun _=>kr)
    (by simp only[maxLen,zlc,zln];omega) (by simp only[zlc,zln];omega) fun w v5 S5 K5 l5 h5=>⟨z01,?_⟩
   refine⟨_,z00,v5,S5,rfl,wx l2 l5,?_⟩;rw[htk,List.filter_append,qJ,qj g2];exact h5
  .simp only[wz]at g2;refine⟨_,z00,u,S2,rfl,l2,?_⟩;rw[htk,List.filter_append,qJ,qc (by rw[g2];simp),List.filter_nil,zan];exact h3
 .simp only[wz,zdf]at g;rw[ztl om]at h2;obtain⟨S3,s3,l3,h3⟩:=h2.freeze;refine⟨[vi p.holds],rfl,row 2 1 h2 (zmm _ hi),?_⟩;exact⟨S3,u,wx l1 (wx l2 l3),h3,s3,rfl⟩
def mostL(f:Nat→Int):List BlkX→Nat→Int→Int
 | [],_,m=>m
 |b::l,i,m=>mostL f l (i+1) (if b.e.kind=4∨b.e.kind=6 then(if f i+2>m then f i+2 else m)else m)
noncomputable def roomP(p:PrcX)(place:List Int)(slots:Int):Int:=slots+mostL (fun i=>((z2o p place (i:Int)).length:Int)) p.blocks 0 0
theorem zzu{f:Nat→Int}(hf:∀i,0≤f i∧f i≤20000000):∀(l:List BlkX)(i:Nat)(m:Int),0≤m∧m≤20000002→0≤mostL f l i m∧mostL f l i m≤20000002
 | [],i,m,h=>h
 |b::l,i,m,h=>by
  rw[mostL];refine zzu hf l (i+1) _ ?_;have:=hf i;split
  .split<;>omega
  .exact h
theorem Z6v(h:Held S K I)(hi:bx rf 142 (zhu gp p bv pv slots lv pushed)∈I)(hbv:SlR S p.blocks bv)(hpl:SlR S place pv)(hp:p.Fit)(hE:∀b∈p.blocks,b.e.args.length≤20000000)(hin:∀b r,r∈z0w p b→0≤r∧r<place.length)(hsl:0≤slots∧slots≤100000):
  Tri zP 40 #[pAt rf] K fun e K'=>e=.returned (vi (roomP p place slots))∧∃S',PH.le S S'∧Held S' K' I:=by
 have hbm:=hbv.max;have hmx:maxLen=9223372036854775807:=rfl;have hbv0:=hbv;obtain⟨bb,bc,hbvE⟩:=hbv.sl;have row:∀{S' K':PH} {I':List Itm} (a n:Nat),Held S' K' I'→bx rf 142 (zhu gp p bv pv slots lv pushed)∈I'→rowAt K' (some ⟨rf,a,none⟩) (((zhu gp p bv pv slots lv pushed).drop a).take n):=fun a n hh hi=>z1k hh hi a n;have hf:∀i:Nat,(0:Int)≤((z2o p place (i:Int)).length:Int)∧((z2o p place (i:Int)).length:Int)≤20000000:=fun i=>by
  have h1:=zsh hp (i:Int);have h2:(z2o p place (i:Int)).length≤(z0w p (i:Int)).length:=List.length_filter_le _ _;omega
 unfold roomP;generalize hfd:(fun i:Nat=>((z2o p place (i:Int)).length:Int))=f at *;have hf':∀i,0≤f i∧f i≤20000000:=fun i=>by rw[←hfd];exact hf i
 have hfi:∀i:Nat,((z2o p place (i:Int)).length:Int)=f i:=fun i=>by rw[←hfd]
 refine qr zoc [pAt rf] ?_;refine⟨fun _=>rfl,[bv],by rw[hbvE];rfl,row 4 1 h hi,?_⟩;simp only[cns];refine⟨fun n vs K'=>∃(i:Nat)(m:Int)(S':PH),i+n=p.blocks.length∧vs=[vi m,nI i]∧PH.le S S'∧Held S' K' I∧(0≤m∧m≤20000002)∧mostL f p.blocks 0 0=mostL f (p.blocks.drop i) i m,⟨p.blocks.length,0,0,S,om,rfl,wy _,h,om,rfl⟩,?_⟩;rintro n vs K1 _ ⟨i,m,S1,hin1,rfl,l1,h1,hm,hmost⟩;simp only[cns];have hbl:slLen bv=p.blocks.length:=hbv0.len;refine⟨fun g=>?_,fun g=>?_⟩
 .replace g:decide ((i:Int)<(slLen bv:Int))=true:=g
  rw[hbl,zdt]at g;obtain⟨b,hb⟩:∃b,p.blocks[i]?=some b:=⟨_,zge om⟩;have hdr:p.blocks.drop i=b::p.blocks.drop (i+1):=by
   rw[←List.getElem_cons_drop (zgi.1 hb).1,(zgi.1 hb).2]
  rw[hdr,mostL]at hmost;obtain⟨y1,_,ycs,y2,y3⟩:=(hbv0.le (wx l1 h1.sh)).get hb;obtain⟨iv,es,rfl,i1,i2⟩:=blk_iff.1 y2;obtain⟨av,rfl,e1,e2,e3,e4,e5,e6⟩:=end_iff.1 i2;obtain⟨ib,ic,hiv⟩:=i1.sl;obtain⟨ab,ac,hav⟩:=e3.sl;have hup:IntKind.i64.wrap ((i:Int)+1)=((i+1:Nat):Int):=by rw[w64 om om];rfl
  refine⟨fun vs K'=>∃(m':Int)(S':PH),vs=[vi m']∧PH.le S S'∧Held S' K' I∧(0≤m'∧m'≤20000002)∧m'=(if b.e.kind=4∨b.e.kind=6 then(if f i+2>m then f i+2 else m)else m),?_,fun _=>⟨y1,by show(0:Int)≤(i:Int);omega,by show(i:Int)<(slLen bv:Int);omega⟩,iv::[vi b.e.kind,vi b.e.reg,av,vi b.e.to,vi b.e.next,vi b.e.els],by rw[hiv,hav];rfl,y3,fun g2=>?_,fun g2=>?_⟩
  .rintro vs K' _ ⟨m',S',rfl,q1,q2,q3,q4⟩;exact⟨_,z00,n-1,om,i+1,m',S',om,by simp only[wz,hup],q1,q2,q3,by rw[hmost,q4]⟩
  .have g3:b.e.kind=4∨b.e.kind=6:=by
    simp only[wz]at g2;simp only[qu,zdt]at g2;exact g2
   simp only[cns];refine z03 (qb 82) (Z08 h1 hi (hbv0.le l1) (hpl.le l1) hp hE (i:Int) (hin _)) ?_;rintro _ K2 ⟨S2,v,l2,h2,hv,rfl⟩;obtain⟨vb,vc,rfl⟩:=hv.sl;refine⟨_,[.slice vb (z2o p place (i:Int)).length vc,.bool (decide (0<p.holds))],rfl,rfl,rfl,z01,?_⟩;have hfb:=hf' i;refine⟨_,z00,if f i+2>m then f i+2 else m,S2,?_,wx l1 l2,h2,by split<;>omega,by rw[qj g3]⟩;have hw:IntKind.i64.wrap (f i+2)=f i+2:=w64 om om;have hsv:(((z2o p place (i:Int)).length:Nat):Int)=f i:=hfi i;simp only[wz,hsv,hw];by_cases hc:f i+2>m
   .simp[hc]
   .simp[hc]
  .have g3:¬(b.e.kind=4∨b.e.kind=6):=by
    simp only[wz]at g2;simp only[zof,zdf]at g2;omega
   exact⟨_,z00,m,S1,rfl,l1,h1,hm,by rw[qc g3]⟩
 .replace g:decide ((i:Int)<(slLen bv:Int))=false:=g
  rw[hbl,zdf]at g;obtain rfl:i=p.blocks.length:=om;rw[List.drop_length,mostL]at hmost;refine⟨[vi slots],rfl,row 6 1 h1 hi,?_,S1,l1,h1⟩;rw[hmost];show Ending.returned (vi (IntKind.i64.wrap (slots+m)))=_;rw[w64 om om]
end
section
variable {S0 K:PH}{x:FX}{pu nx:Int}{l l':List ItemR}{k k':Nat}{J:List Itm}
theorem GnH.empty{α:Type}[Enc α](h:GnH S0 K x pu nx l k J)(e:TypeId):GnH S0 K x pu nx l k (orow (α:=α) e [] (.slice none 0 0)::J):=by
 obtain⟨⟨h1,S,iv,h2,h3⟩,h4,h5⟩:=h;exact⟨⟨h1,S,iv,h2,(h3.empty e).perm (qA (l₁:=[_,_,_]) (l₂:=J)).symm⟩,h4,h5⟩
theorem GnH.freeze{α:Type}[Enc α]{e:TypeId}{as_:List α}{v:Value}(h:GnH S0 K x pu nx l k (orow e as_ v::J)):∃S1,PH.le S0 S1∧SlR S1 as_ v∧GnH S1 K x pu nx l k J:=by
 obtain⟨⟨h1,S,iv,h2,h3⟩,h4,h5⟩:=h;obtain⟨S1,s1,l1,h6⟩:=(h3.perm (qA (l₁:=[_,_,_]) (l₂:=J))).freeze;exact⟨S1,wx h2 l1,s1,⟨⟨h1,S1,iv,wy _,h6⟩,h4,h5⟩⟩
theorem GnH.rowsl{α:Type}[Enc α]{e:TypeId}{as_:List α}{v:Value}(h:GnH S0 K x pu nx l k (orow e as_ v::J)):∃b c,v=.slice b as_.length c:=by
 obtain⟨⟨h1,S,iv,h2,h3⟩,h4,h5⟩:=h;exact(h3.row (e:=e) (l:=as_) (v:=v) sM).sl
theorem zhi{P:Program}{α:Type}[Enc α]{X:List PanicEntry→PH→Prop}{β:Type}{E:List Value}{L:LK}{Q:β→List Value→PH→LK→Prop}{e T ty ty2:TypeId}{n b:Nat}{ps:Array (Nat×Operand)}{args args2:List (Nat×VE)}{pend pend2:List (SV×List SV)}{x' y':Operand}{f:Fm β}{as_ more:List α}{v:Value}(vs:List Value)
  (hT:P.underlying T=some (.slice e)) (he:ElemOk P e (sz α) b=true) (hn:more.length=n) (h0:n*sz α≠0) (hle:n*sz α≤2^24)
  (h:GnH S0 K x pu nx l k (orow e as_ v::J)) (hps:ps.toList.map (fun x=>(x.1,argEv E args x.2))=idxs 0 vs) (hvs:∀S,PH.le S0 S→All2 (fun a v'=>CsR S a v'.cells.toList) more vs) (hp:z0l E K pend)
  (hx:∀u,argEv (E++[u]) args2 x'=v) (hy:∀u,argEv (E++[u]) args2 y'=u) (h63:as_.length+more.length≤maxLen) (hby:(as_.length+more.length)*b≤140737488355328)
  (hk:∀u v' K',GnH S0 K' x pu nx l k (orow e (as_++more) v'::J)→z0l (E++[u]) K' pend2∧den P X f (E++[u]++[v']) K' L Q) :
  den P X (.sem (.buildSlice T n ps) ty args (.sc .sl) pend (.sem (.call ⟨.builtin .append,#[x',y'],#[T,T]⟩) ty2 args2 (.sc .sl) pend2 f)) E K L Q:=by
 obtain⟨⟨h1,S,iv,h2,h3⟩,h4,h5⟩:=h;refine z1w vs hT he hn h0 hle (h3.perm (qA (l₁:=[_,_,_]) (l₂:=J))) hps (hvs S h2) hp hx hy h63 hby fun u v' S' K' l7 h7=>?_;exact hk u v' K' ⟨⟨h1,S',iv,wx h2 l7,h7.perm (qA (l₁:=[_,_,_]) (l₂:=J)).symm⟩,h4,h5⟩
structure FnOk(x:FX):Prop where
 fit:x.p.Fit
 few:∀b∈x.p.blocks,b.e.args.length≤20000000
 regs:∀r∈x.p.regl,x.has r
 plen:x.place.length≤2000
theorem FnOk.live(h:FnOk x){i j:Nat}{r:Int}(hr:r∈liveL x.p i j):x.has r:=h.regs r (z50 (liveL_mem.1 hr))
theorem FnOk.across(h:FnOk x){b r:Int}(hr:r∈z0w x.p b):x.has r:=by
 unfold z0w at hr;split at hr
 .split at hr
  .exact h.live (zmf.1 hr).1
  .cases hr
 .cases hr
theorem Z1p(p:PrcX)(i j:Nat):(liveL p i j).Nodup:=((zei p i j).imp fun h=>Int.ne_of_lt h)
theorem Za9(p:PrcX)(b:Int):(z0w p b).Nodup:=by
 unfold z0w;split
 .split
  .exact(Z1p p _ _).sublist List.filter_sublist
  .exact List.nodup_nil
 .exact List.nodup_nil
theorem Zfy{rs:List Int}(hn:rs.Nodup)(h:∀r∈rs,x.has r):rs.length≤x.place.length:=by
 have h1:=z0k hn (m:=(List.range x.place.length).map Int.ofNat) fun y hy=>by
  obtain⟨h2,h3⟩:=h y hy;exact zmp.2 ⟨y.toNat,wg.2 om,show((y.toNat:Nat):Int)=y by omega⟩
 rwa[zlm,wi]at h1
theorem FnOk.saved(h:FnOk x)(b:Int):(z2o x.p x.place b).length≤2000:=by
 have h1:(z2o x.p x.place b).length≤(z0w x.p b).length:=List.length_filter_le _ _;have h2:=Zfy (Za9 x.p b) fun r hr=>h.across hr;have:=h.plen;omega
theorem Zo0(hx:FOk S0 x)(hf:FnOk x)(b:Int)(h:GnH S0 K x pu nx l k J):Tri zP 82 #[pAt x.rf,vi b] K fun e K'=>∃S1 v,PH.le S0 S1∧GnH S1 K' x pu nx l k J∧SlR S1 (z2o x.p x.place b) v∧e=.returned (.tuple #[v,.bool (decide (0<x.p.holds))]):=by
 obtain⟨⟨h1,S,iv,h2,h3⟩,h4,h5⟩:=h;refine(Z08 (gp:=pAt x.rg) (p:=x.p) (bv:=x.bv) (pv:=x.pv) (lv:=x.lv) (place:=x.place) (slots:=x.slots) (pushed:=pu) (rf:=x.rf) h3 sM (hx.bl.le h2) (hx.pl.le h2) hf.fit hf.few b fun r hr=>hf.across hr).mono ?_;rintro e K' ⟨S',v,l1,h6,h7,h8⟩;exact⟨S',v,wx h2 l1,⟨⟨h1,S',iv,wy _,h6⟩,h4,h5⟩,h7,h8⟩
noncomputable def FX.room(x:FX):Int:=roomP x.p x.place x.slots
theorem Zpm(hx:FOk S0 x)(hf:FnOk x):0≤x.room∧x.room≤20003002:=by
 obtain⟨h1,h2⟩:=hx.sl;have:=zzu (f:=fun i=>((z2o x.p x.place (i:Int)).length:Int)) (fun i=>by have:=hf.saved (i:Int);omega) x.p.blocks 0 0 om;unfold FX.room roomP;omega
theorem Zpr(hx:FOk S0 x)(hf:FnOk x)(h:GnH S0 K x pu nx l k J):Tri zP 40 #[pAt x.rf] K (GnV (vi x.room) S0 x pu nx l k J):=by
 obtain⟨⟨h1,S,iv,h2,h3⟩,h4,h5⟩:=h;have hs:=hx.sl;refine(Z6v (gp:=pAt x.rg) (p:=x.p) (bv:=x.bv) (pv:=x.pv) (lv:=x.lv) (place:=x.place) (slots:=x.slots) (pushed:=pu) (rf:=x.rf) h3 sM (hx.bl.le h2) (hx.pl.le h2) hf.fit hf.few (fun b r hr=>hf.across hr) om).mono ?_;rintro e K' ⟨rfl,S',l1,h6⟩;exact⟨rfl,⟨h1,S',iv,wx h2 l1,h6⟩,h4,h5⟩
end
def toP(i:Nat):Int:=if i=0 then 25 else(i:Int)
def FX.passM(x:FX):Nat→List Int→List MvR
 |_,[]=>[]
 |i,r::rs=>(if x.col r=true then[⟨toP i,x.reg r⟩]else[])++x.passM (i+1) rs
def FX.passD(x:FX)(pu:Int):Nat→List Int→List ItemR
 |_,[]=>[]
 |i,r::rs=>(if x.col r=true then[]else[⟨0,⟨22,toP i,30,0,x.slot pu r⟩,0,0⟩])++x.passD pu (i+1) rs
def FX.passL(x:FX)(pu:Int)(callee:Int)(rs:List Int):List ItemR:=za3 (x.passM 0 (callee::rs))++x.passD pu 0 (callee::rs)++[⟨4,⟨20,28,0,0,0⟩,0,(rs.length:Int)⟩]
theorem zvo(x:FX):∀(a b:List Int)(i:Nat),x.passM i (a++b)=x.passM i a++x.passM (i+a.length) b
 | [],b,i=>by simp[FX.passM]
 |r::a,b,i=>by
  simp only[List.cons_append,FX.passM,zvo x a b (i+1),zaa,zlc];rw[show i+1+a.length=i+(a.length+1) by omega]
theorem Z6n(x:FX)(pu:Int):∀(a b:List Int)(i:Nat),x.passD pu i (a++b)=x.passD pu i a++x.passD pu (i+a.length) b
 | [],b,i=>by simp[FX.passD]
 |r::a,b,i=>by
  simp only[List.cons_append,FX.passD,Z6n x pu a b (i+1),zaa,zlc];rw[show i+1+a.length=i+(a.length+1) by omega]
theorem zv9(x:FX):∀(a:List Int)(i:Nat),(x.passM i a).length≤a.length
 | [],i=>by simp[FX.passM]
 |r::a,i=>by
  have:=zv9 x a (i+1);rw[FX.passM];split<;>simp only[zla,zlc,zln]<;>omega
theorem zul(i:Nat)(hi:i≤1000)(H:PH):Gives zP 193 [vi (i:Int)] H (vi (toP i)):=by
 refine qr zjz [vi (i:Int)] ?_;refine⟨fun g=>?_,fun g=>?_⟩
 .simp only[wz,zdt]at g;obtain rfl:i=0:=om;exact⟨rfl,wy _⟩
 .simp only[wz,zdf]at g;unfold toP;rw[qc om];refine⟨?_,wy _⟩;show Ending.returned (vi (IntKind.i64.wrap (IntKind.i64.wrap (1+(i:Int))-1)))=_;rw[w64 (n:=1+(i:Int)) om om,w64 om om];congr 2;omega
section
variable {S0 K:PH}{x:FX}{pu nx:Int}{l l':List ItemR}{k k':Nat}{J:List Itm}
theorem Zkw(i:Nat)(hi:i≤1000):InI (toP i):=by
 unfold toP;split
 .decide
 .exact inJ om om
theorem Zfu(hx:FOk S0 x)(hp:0≤pu∧pu≤100000)(callee:Int)(rs:List Int)(av:Value)(ha:SlR S0 rs av)(hc:x.has callee)(hr:∀r∈rs,x.has r)(hn:rs.length≤900)(hci:InI callee)(h0:GnH S0 K x pu nx l (k+(4+3*rs.length)) J):
  Tri zP 145 #[pAt x.rf,vi callee,av] K (GnQ S0 x pu nx (l++x.passL pu callee rs) k J):=by
 have ha0:=ha;obtain⟨ab,ac,rfl⟩:=ha.sl;refine qr znw [pAt x.rf,vi callee,.slice ab rs.length ac] ?_;obtain⟨⟨g1,S,iv,g2,g3⟩,g4,g5⟩:=h0;refine z0z (α:=Int) (l:=[callee]) (b:=8) [vi callee] z0j z0s rfl dC dC g3 kr (.cons (z0e hci) .nil) z01 fun v3 K3 g6 _ _=>?_;simp only[cns];refine z47 (b:=8) (more:=rs) z0j z0s kr kr g6 ((ha0.le g2).srcS g6.sh) (by simp only[maxLen,zlc,zln];omega) (by simp only[zlc,zln];omega) fun v4 K4 g7 _=>⟨z01,?_⟩;simp only[cns];obtain⟨S1,s1,l1,g8⟩:=g7.freeze;have h1:GnH S1 K4 x pu nx l (k+(4+3*rs.length)) J:=⟨⟨g1,S1,iv,wy _,g8⟩,g4,g5⟩;have l01:PH.le S0 S1:=wx g2 l1;clear g1 g3 g4 g5 g6 g7 g8;have hx1:=hx.le l01;obtain⟨ws,hws⟩:∃ws,ws=callee::rs:=⟨_,rfl⟩;have s1:SlR S1 ws v4:=by rw[hws];simpa using s1
 have hwl:ws.length=rs.length+1:=by rw[hws];rfl
 have hwh:∀r∈ws,x.has r:=fun r hr'=>by
  rw[hws]at hr';rcases zmc.1 hr' with rfl|hr'
  .exact hc
  .exact hr r hr'
 unfold FX.passL;rw[←hws];have s10:=s1;obtain⟨wb,wc,rfl⟩:=s1.sl;refine⟨fun n vs K'=>∃(i:Nat)(u:Value),i+n=ws.length∧vs=[u,nI i]∧GnH S1 K' x pu nx l (k+(4+3*rs.length)) (orow 188 (x.passM 0 (ws.take i)) u::J),⟨ws.length,0,.slice none 0 0,om,rfl,by rw[List.take_zero,FX.passM];exact h1.empty _⟩,?_⟩;rintro n vs K5 _ ⟨i,u,hin,rfl,h5⟩;simp only[cns];obtain⟨ub,uc,hu⟩:=h5.rowsl;have hup:∀{i:Nat},i<ws.length→IntKind.i64.wrap ((i:Int)+1)=((i+1:Nat):Int):=fun h=>by rw[w64 om om];rfl
 have htk:∀{i:Nat} {r:Int},ws[i]?=some r→ws.take (i+1)=ws.take i++[r]∧(ws.take i).length=i:=fun h=>⟨by rw[qZ,h];rfl,by rw[List.length_take];have:=(zgi.1 h).1;omega⟩;refine⟨fun g=>?_,fun g=>?_⟩
 .simp only[wz,zdt]at g;obtain⟨r,hri⟩:∃r,ws[i]?=some r:=⟨_,zge om⟩;have hrh:=hwh r (zmg hri);obtain⟨ri,q,d⟩:=z3s s10 i r hri;obtain⟨t1,t2⟩:=htk hri;refine⟨fun vs K'=>∃u,vs=[u]∧GnH S1 K' x pu nx l (k+(4+3*rs.length)) (orow 188 (x.passM 0 (ws.take (i+1))) u::J),?_,fun _=>q,[vi r],rfl,d _ h5.sh,?_⟩
  .rintro vs K' _ ⟨u',rfl,q1⟩;exact⟨_,z00,n-1,om,i+1,u',om,by simp only[wz,hup (show i<ws.length by omega)],q1⟩
  simp only[cns];refine z02 [.bool (x.col r)] (qb 126) (z43 hx1 h5 r hrh) rfl z01 fun K6 l6=>?_;have h6:=h5.le l6;simp only[cns];have hml:=zv9 x (ws.take i) 0;refine⟨fun g2=>?_,fun g2=>?_⟩
  .simp only[wz]at g2;refine z02 [vi (toP i)] (qb 193) (zul i om K6) rfl z01 fun K7 l7=>?_;have h7:=h6.le l7;simp only[cns];refine z02 [vi (x.reg r)] (qb 130) (zb8 hx1 h7 r hrh) rfl z01 fun K8 l8=>?_;have h8:=h7.le l8;simp only[cns];refine zhi (b:=16) (more:=[(⟨toP i,x.reg r⟩:MvR)]) [.agg #[vi (toP i),vi (x.reg r)]] zw5 zmh rfl dC dC h8 kr (fun S _=>.cons (mvR_iff.2 ⟨rfl,Zkw i om,zi8 hx1 r hrh⟩) .nil) z01 (fun _=>kr) (fun _=>kr)
    (by simp only[maxLen,zlc,zln];omega) (by simp only[zlc,zln];omega) fun w v5 K9 h9=>⟨z01,?_⟩
   refine⟨_,z00,v5,rfl,?_⟩;rw[t1,zvo,t2,FX.passM,qj g2,FX.passM,zan,wq];exact h9
  .simp only[wz]at g2;refine⟨_,z00,u,rfl,?_⟩;rw[t1,zvo,FX.passM,qc (by rw[g2];simp),FX.passM,zan,zan];exact h6
 simp only[wz,zdf]at g;obtain rfl:i=ws.length:=om;rw[List.take_length]at h5;have hml:=zv9 x ws 0;obtain⟨S2,l2,s2,h6⟩:=h5.freeze;refine z05 (qb 132) (Zaw (k:=k+(2+rs.length)) (x.passM 0 ws) u s2 (h6.less om)) fun K7 h7=>?_;have hx2:=hx1.le l2;have s12:=s10.le l2;refine⟨fun n vs K'=>∃i:Nat,i+n=ws.length∧vs=[nI i]∧GnH S2 K' x pu nx (l++za3 (x.passM 0 ws)++x.passD pu 0 (ws.take i)) (k+(1+n)) J,⟨ws.length,0,om,rfl,by rw[List.take_zero,FX.passD,zan];exact h7.less om⟩,?_⟩;rintro n vs K8 _ ⟨j,hjn,rfl,h8⟩;simp only[cns];refine⟨fun g=>?_,fun g=>?_⟩
 .simp only[wz,zdt]at g;obtain⟨r,hri⟩:∃r,ws[j]?=some r:=⟨_,zge om⟩;have hrh:=hwh r (zmg hri);obtain⟨ri,q,d⟩:=z3s s12 j r hri;obtain⟨t1,t2⟩:=htk hri;obtain⟨m,rfl⟩:∃m,n=m+1:=⟨n-1,om⟩;refine⟨fun vs K'=>vs=[]∧GnH S2 K' x pu nx (l++za3 (x.passM 0 ws)++x.passD pu 0 (ws.take (j+1))) (k+(1+m)) J,?_,fun _=>q,[vi r],rfl,d _ h8.sh,?_⟩
  .rintro vs K' _ ⟨rfl,q1⟩;exact⟨_,z00,m,om,j+1,om,by simp only[wz,hup (show j<ws.length by omega)],q1⟩
  simp only[cns];refine z02 [.bool (x.col r)] (qb 126) (z43 hx2 h8 r hrh) rfl z01 fun K9 l9=>?_;have h9:=h8.le l9;simp only[cns];rw[t1,Z6n,t2,FX.passD,FX.passD,zan,wq];refine⟨fun g2=>?_,fun g2=>?_⟩
  .simp only[wz,qy]at g2;rw[qc (by rw[g2];simp)];refine⟨fun _=>rfl,[pAt x.rg],rfl,h9.frow 0 1,fun _=>rfl,?_⟩;simp only[cns];refine z02 [vi (toP j)] (qb 193) (zul j om K9) rfl (z0o (h9.frow 0 1) z01) fun Ka la=>?_;have ha:=h9.le la;simp only[cns];refine z02 [vi (x.slot pu r)] (qb 131) (zct hx2 ha r hrh hp) rfl (z0o (ha.frow 0 1) z01) fun Kb lb=>?_;have hb:=ha.le lb;simp only[cns];refine z05 (qb 55) ((hb.less (k':=k+(1+m)+1) om).to (zov (toP j) 30 (x.slot pu r) (Zkw j om) dC (zpc hx2 r hrh hp))) fun Kc hc'=>?_;exact⟨_,z00,rfl,by rw[←zaa];exact hc'⟩
  .simp only[wz,qR]at g2;rw[qj g2,zan];exact⟨_,z00,rfl,h9.less om⟩
 .simp only[wz,zdf]at g;obtain rfl:j=ws.length:=om;rw[List.take_length]at h8;refine⟨fun _=>rfl,[pAt x.rg],rfl,h8.frow 0 1,fun _=>rfl,?_⟩;simp only[cns];refine z05 (qb 57) ((h8.less (k':=k+1) om).to (z1x 28 (rs.length:Int) dC (inJ om om))) fun K9 h9=>?_;exact⟨rfl,by simpa only[zaa]using h9.base (wx l01 l2)⟩
end
theorem zuw{α:Type}(f:Nat→α)(i:Nat):(List.range (i+1)).map f=(List.range i).map f++[f i]:=by
 rw[List.range_succ,List.map_append];rfl
noncomputable def FX.roomL(x:FX)(nx:Int):List ItemR:=if 0<x.room then[⟨4,⟨20,27,0,0,0⟩,0,32+x.stack-x.room⟩,⟨2,⟨27,27,30,0,0⟩,nx,0⟩,⟨3,⟨28,31,0,0,0⟩,6,0⟩,⟨1,⟨0,0,0,0,0⟩,nx,0⟩]else[]
noncomputable def FX.roomN(x:FX)(nx:Int):Int:=if 0<x.room then nx+1 else nx
def zeroR(j:Nat):ItemR:=⟨0,⟨23,0,30,0,(j:Int)⟩,0,0⟩
def FX.entM(x:FX)(r:Int):List MvR:=if r<x.p.params∧x.col r=true then[⟨x.reg r,1+r⟩]else[]
def FX.entD(x:FX)(r:Int):List ItemR:=if r<x.p.params∧x.col r=false then[⟨0,⟨23,1+r,30,0,x.slot 0 r⟩,0,0⟩]else[]
def FX.entN(x:FX)(r:Int):List ItemR:=if r<x.p.params then[]else x.numL 0 r 42
noncomputable def FX.entL(x:FX)(lab nx:Int):List ItemR:=[⟨1,⟨0,0,0,0,0⟩,lab,0⟩,⟨4,⟨20,26,0,0,0⟩,0,x.p.params⟩,⟨2,⟨25,26,28,0,0⟩,22,0⟩]++x.roomL nx++(List.range x.slots.toNat).map zeroR++growL x.slots++(liveL x.p 0 0).flatMap x.entD++za3 ((liveL x.p 0 0).flatMap x.entM)++(liveL x.p 0 0).flatMap x.entN
theorem zup{α β:Type}{l:List α}{i:Nat}{r:α}(h:l[i]?=some r)(f:α→List β):(l.take (i+1)).flatMap f=(l.take i).flatMap f++f r:=by rw[qZ,h];simp
theorem Za5{α β:Type}(f:α→List β)(n:Nat)(h:∀a,(f a).length≤n):∀l:List α,(l.flatMap f).length≤n*l.length
 | []=>sM
 |a::l=>by
  have h1:=Za5 f n h l;have h2:=h a;rw[qO,zla,zlc,Nat.mul_succ];omega
theorem Z9b(x:FX)(l:List Int):(l.flatMap x.entM).length≤l.length:=by
 have:=Za5 x.entM 1 (fun a=>by unfold FX.entM;split<;>simp) l;omega
section
variable {S0 K:PH}{x:FX}{pu nx:Int}{l l':List ItemR}{k k':Nat}{J:List Itm}
theorem Zlw(hx:FOk S0 x)(hf:FnOk x)(lab:Int)(hl:InI lab)(hpr:0≤x.p.params∧x.p.params≤1000000)(hb0:0<x.p.blocks.length)(h:GnH S0 K x 0 nx l (k+20000) J):
  Tri zP 84 #[pAt x.rf,vi lab] K (GnQ S0 x 0 (x.roomN nx) (l++x.entL lab nx) k J):=by
 obtain⟨bb,bc,hbv⟩:=hx.bl.sl;have hrm:=Zpm hx hf;have hst:=hx.st;have hsl:=hx.sl;have hn0:=h.n0;have hnk:=h.nk;refine qr zks [pAt x.rf,vi lab] ?_;refine⟨fun _=>rfl,[pAt x.rg],rfl,h.frow 0 1,fun _=>rfl,?_⟩;simp only[cns];refine z05 (qb 51) ((h.less (k':=k+19990+1) om).to (z5d lab hl)) fun K1 h1=>?_;refine⟨[pAt x.rg],rfl,h1.frow 0 1,fun _=>rfl,[vi x.p.params],rfl,h1.frow 1 1,?_⟩;simp only[cns];refine z05 (qb 57) ((h1.less (k':=k+19980+1) om).to (z1x 26 x.p.params dC (inJ om om))) fun K2 h2=>?_;refine⟨[pAt x.rg],rfl,h2.frow 0 1,fun _=>rfl,?_⟩;simp only[cns];refine z02 [vi 22] (qb 127) (Z3p 91 22 kr K2) rfl (z0o (h2.frow 0 1) z01) fun K3 l3=>?_;have h3:=h2.le l3;simp only[cns];refine z05 (qb 59) ((h3.less (k':=k+19970+1) om).to (If_em 25 26 28 22 dC dC dC dC)) fun K4 h4=>?_;obtain⟨lh,hlh⟩:∃lh,lh=l++[⟨1,⟨0,0,0,0,0⟩,lab,0⟩,⟨4,⟨20,26,0,0,0⟩,0,x.p.params⟩,⟨2,⟨25,26,28,0,0⟩,22,0⟩]:=⟨_,rfl⟩;have h4':GnH S0 K4 x 0 nx lh (k+19970) J:=by
  rw[hlh];simpa only[zaa,cns]using h4
 obtain⟨nx',hnx⟩:∃n,n=x.roomN nx:=⟨_,rfl⟩;obtain⟨lr,hlr⟩:∃lr,lr=lh++x.roomL nx:=⟨_,rfl⟩;have hfin:l++x.entL lab nx=lr++(List.range x.slots.toNat).map zeroR++growL x.slots++(liveL x.p 0 0).flatMap x.entD++za3 ((liveL x.p 0 0).flatMap x.entM)++(liveL x.p 0 0).flatMap x.entN:=by
  rw[hlr,hlh];simp only[FX.entL,zaa]
 rw[hfin,←hnx];refine⟨fun vs K=>vs=[]∧GnH S0 K x 0 nx' lr (k+19960) J,?_,?_⟩;rotate_left
 .refine z2w (qb 40) (Zpr hx hf h4') (fun _ _=>z01) fun K5 h5=>?_;simp only[cns];refine⟨fun g=>?_,fun g=>?_⟩
  .simp only[wz,zdt]at g;have g':0<x.room:=om;refine⟨[pAt x.rg],rfl,h5.frow 0 1,?_⟩;simp only[cns];refine z2w (qb 42) (z48 (h5.less (k':=k+19968+1) om)) (fun _ _=>z01) fun K6 h6=>?_;simp only[cns];refine⟨[pAt x.rg],rfl,h6.frow 0 1,fun _=>rfl,[pAt x.rg],rfl,h6.frow 0 1,fun _=>rfl,[vi x.stack],rfl,h6.grow 3 1,?_⟩;simp only[cns];have e1:arI .sub .i64 (arI .add .i64 32 x.stack) x.room=32+x.stack-x.room:=by
    show IntKind.i64.wrap (IntKind.i64.wrap (32+x.stack)-x.room)=_;rw[w64 (n:=32+x.stack) om om,w64 om om]
   have c1:Tri zP 57 #[pAt x.rg,vi 27,vi (arI .sub .i64 (arI .add .i64 32 x.stack) x.room)] K6 (GnQ S0 x 0 (nx+1) (lh++[⟨4,⟨20,27,0,0,0⟩,0,32+x.stack-x.room⟩]) (k+19967) J):=by
    rw[e1];exact(h6.less (k':=k+19967+1) om).to (z1x 27 _ dC (inJ om om))
   refine z05 (qb 57) c1 fun K7 h7=>?_;refine⟨[pAt x.rg],rfl,h7.frow 0 1,fun _=>rfl,?_⟩;simp only[cns];refine z05 (qb 59) ((h7.less (k':=k+19966+1) om).to (If_em 27 27 30 nx dC dC dC (inJ om om))) fun K8 h8=>?_;refine⟨[pAt x.rg],rfl,h8.frow 0 1,fun _=>rfl,?_⟩;simp only[cns];refine z05 (qb 58) ((h8.less (k':=k+19965+1) om).to (zw3 31 6 dC dC)) fun K9 h9=>?_;refine⟨[pAt x.rg],rfl,h9.frow 0 1,fun _=>rfl,?_⟩;simp only[cns];refine z05 (qb 51) ((h9.less (k':=k+19960+1) om).to (z5d nx (inJ om om))) fun Ka ha=>?_;refine⟨_,z00,rfl,?_⟩;rw[hnx,hlr];unfold FX.roomN FX.roomL;rw[qj g',qj g'];simpa only[zaa,cns]using ha
  .simp only[wz,zdf]at g;have g':¬0<x.room:=om;refine⟨_,z00,rfl,?_⟩;rw[hnx,hlr];unfold FX.roomN FX.roomL;rw[qc g',qc g',zan];exact h5.less om
 clear h1 h2 h3 h4 h4';rintro vs K5 _ ⟨rfl,h5⟩;simp only[cns];obtain⟨sn,hsn⟩:∃sn:Nat,x.slots=(sn:Int):=⟨x.slots.toNat,om⟩;rw[show x.slots.toNat=sn by omega];refine⟨[vi x.slots],rfl,h5.frow 6 1,?_⟩;simp only[cns];refine⟨fun n vs K=>∃i:Nat,i+n=sn∧vs=[nI i]∧GnH S0 K x 0 nx' (lr++(List.range i).map zeroR) (k+15000+n) J,⟨sn,0,om,rfl,by simpa using h5.less om⟩,?_⟩;rintro n vs K6 _ ⟨i,hin,rfl,h6⟩;simp only[cns];refine⟨fun g=>?_,fun g=>?_⟩
 .simp only[wz,zdt]at g;obtain⟨m,rfl⟩:∃m,n=m+1:=⟨n-1,om⟩;refine⟨[pAt x.rg],rfl,h6.frow 0 1,fun _=>rfl,?_⟩;simp only[cns];refine z05 (qb 54) ((h6.less (k':=k+15000+m+1) om).to (z5g 0 30 (i:Int) dC dC (inJ om om))) fun K7 h7=>?_;have hw:IntKind.i64.wrap ((i:Int)+1)=((i+1:Nat):Int):=by rw[w64 om om];rfl
  refine⟨_,z00,m,om,i+1,om,by simp only[wz,hw],?_⟩;rw[zuw,←zaa];exact h7
 simp only[wz,zdf]at g;obtain rfl:i=sn:=om;refine⟨[vi x.slots],rfl,h6.frow 6 1,?_⟩;simp only[cns];refine z05 (qb 128) (zpi (k:=k+14000) x.slots (inJ om om) (h6.less om)) fun K7 h7=>?_;refine⟨[vi x.p.params,vi x.p.holds,vi x.p.regs,x.bv],by rw[hbv];rfl,h7.frow 1 4,?_⟩;simp only[cns];refine z03 (qb 129) (h7.pure (R:=fun e S'=>∃v,e=.returned v∧SlR S' (inL x.p) v) fun S hS=>Zg1 x.p x.bv S (hx.bl.le hS) hf.fit hf.few) ?_;rintro _ K8 ⟨S1,l1,h8,v8,rfl,hv8⟩;have hx1:=hx.le l1;have hin0:(inL x.p)[0]?=some (liveL x.p 0 0):=by
  unfold inL;rw[zem,List.getElem?_range hb0];rfl
 obtain⟨z1,_,zcs,z2,z3'⟩:=hv8.get hin0;obtain⟨w8,rfl,hw8⟩:=csLK z2;have z3:=z0p h8.sh z3';have hlh0:∀r∈liveL x.p 0 0,x.has r:=fun r hr=>hf.live hr;have hlen:(liveL x.p 0 0).length≤2000:=Nat.le_trans (Zfy (Z1p x.p 0 0) hlh0) hf.plen;obtain⟨rs,hrs⟩:∃rs,rs=liveL x.p 0 0:=⟨_,rfl⟩;rw[←hrs]at hw8 hlh0 hlen⊢;have hw80:=hw8;obtain⟨vb,vc,rfl⟩:=hv8.sl;obtain⟨wb,wc,rfl⟩:=hw8.sl;refine⟨_,[_],rfl,rfl,rfl,z01,fun _=>?_,[_],rfl,z3,?_⟩
 .simp only[Chk.holds,wz];refine⟨z1,om,?_⟩;have:=(zgi.1 hin0).1;omega
 simp only[cns];obtain⟨l1',hl1'⟩:∃l1',l1'=lr++(List.range i).map zeroR++growL x.slots:=⟨_,rfl⟩;rw[←hl1']at h8⊢;have hup:∀{i:Nat},i<rs.length→IntKind.i64.wrap ((i:Int)+1)=((i+1:Nat):Int):=fun h=>by rw[w64 om om];rfl
 refine⟨fun n vs K'=>∃(i:Nat)(u:Value),i+n=rs.length∧vs=[u,nI i]∧GnH S1 K' x 0 nx' (l1'++(rs.take i).flatMap x.entD) (k+10000+n) (orow 188 ((rs.take i).flatMap x.entM) u::J),⟨rs.length,0,.slice none 0 0,om,rfl,by simpa using(h8.less (k':=k+10000+rs.length) om).empty _⟩,?_⟩;rintro n vs K9 _ ⟨j,u,hjn,rfl,h9⟩;simp only[cns];obtain⟨ub,uc,hu⟩:=h9.rowsl;refine⟨fun g=>?_,fun g=>?_⟩
 .simp only[wz,zdt]at g;obtain⟨r,hri⟩:∃r,rs[j]?=some r:=⟨_,zge om⟩;have hrh:=hlh0 r (zmg hri);obtain⟨hr0,hr1⟩:=hrh;have hpl:=hf.plen;obtain⟨m,rfl⟩:∃m,n=m+1:=⟨n-1,om⟩;obtain⟨ri,q,d⟩:=z3s hw80 j r hri;refine⟨fun vs K'=>∃u,vs=[u]∧GnH S1 K' x 0 nx' (l1'++(rs.take (j+1)).flatMap x.entD) (k+10000+m) (orow 188 ((rs.take (j+1)).flatMap x.entM) u::J),?_,fun _=>q,[vi r],rfl,d _ h9.sh,[vi x.p.params],rfl,h9.frow 1 1,?_⟩
  .rintro vs K' _ ⟨u',rfl,q1⟩;exact⟨_,z00,m,om,j+1,u',om,by simp only[wz,hup (show j<rs.length by omega)],q1⟩
  simp only[cns];rw[zup hri,zup hri];unfold FX.entD FX.entM;refine⟨fun g2=>?_,fun g2=>?_⟩
  .simp only[wz,zdt]at g2;refine⟨_,z00,u,rfl,?_⟩;rw[qc om,qc om,zan,zan];exact h9.less om
  simp only[wz,zdf]at g2;have g2':r<x.p.params:=om;have e1:arI .add .i64 1 r=1+r:=w64 om om;refine z02 [.bool (x.col r)] (qb 126) (z43 hx1 h9 r ⟨hr0,hr1⟩) rfl z01 fun Ka la=>?_;have ha:=h9.le la;simp only[cns];have hml:=Z9b x (rs.take j);have htl:(rs.take j).length=j:=by rw[List.length_take];omega
  refine⟨fun g3=>?_,fun g3=>?_⟩
  .simp only[wz]at g3;rw[qc (by rw[g3];simp),qj ⟨g2',g3⟩,zan];refine z02 [vi (x.reg r)] (qb 130) (zb8 hx1 ha r ⟨hr0,hr1⟩) rfl z01 fun Kb lb=>?_;have hb:=ha.le lb;simp only[cns];refine zhi (b:=16) (more:=[(⟨x.reg r,1+r⟩:MvR)]) [.agg #[vi (x.reg r),vi (arI .add .i64 1 r)]] zw5 zmh rfl dC dC hb kr (fun S _=>.cons (mvR_iff.2 ⟨by rw[e1];rfl,zi8 hx1 r ⟨hr0,hr1⟩,show InI (1+r)from inJ om om⟩) .nil) z01 (fun _=>kr) (fun _=>kr)
    (by simp only[maxLen,zlc,zln];omega) (by simp only[zlc,zln];omega) fun w v5 Kc hc=>⟨z01,?_⟩
   exact⟨_,z00,v5,rfl,hc.less om⟩
  .simp only[wz]at g3;rw[qj ⟨g2',g3⟩,qc (by rw[g3];simp),zan];refine⟨[pAt x.rg],rfl,ha.frow 0 1,fun _=>rfl,?_⟩;simp only[cns];refine z02 [vi (x.slot 0 r)] (qb 131) (zct hx1 ha r ⟨hr0,hr1⟩ om) rfl (z0o (ha.frow 0 1) z01) fun Kb lb=>?_;have hb:=ha.le lb;simp only[cns];have c2:Tri zP 54 #[pAt x.rg,vi (arI .add .i64 1 r),vi 30,vi (x.slot 0 r)] Kb (GnQ S1 x 0 nx' (l1'++(rs.take j).flatMap x.entD++[⟨0,⟨23,1+r,30,0,x.slot 0 r⟩,0,0⟩]) (k+10000+m) (orow 188 ((rs.take j).flatMap x.entM) u::J)):=by
    rw[e1];exact hb.to (z5g (1+r) 30 (x.slot 0 r) (inJ om om) dC (zpc hx1 r ⟨hr0,hr1⟩ om))
   refine z05 (qb 54) c2 fun Kc hc=>?_;refine⟨_,z00,u,rfl,?_⟩;rw[←zaa];exact hc
 simp only[wz,zdf]at g;obtain rfl:j=rs.length:=om;rw[List.take_length]at h9;have hml:=Z9b x rs;obtain⟨S2,l2,s2,ha⟩:=h9.freeze;refine z05 (qb 132) (Zaw (k:=k+5000) (rs.flatMap x.entM) u s2 (ha.less om)) fun Kb hb=>?_;have hx2:=hx1.le l2;have hw82:=hw80.le l2;refine⟨fun n vs K'=>∃i:Nat,i+n=rs.length∧vs=[nI i]∧GnH S2 K' x 0 nx' (l1'++rs.flatMap x.entD++za3 (rs.flatMap x.entM)++(rs.take i).flatMap x.entN) (k+2*n) J,⟨rs.length,0,om,rfl,by simpa using hb.less om⟩,?_⟩;rintro n vs Kc _ ⟨q0,hqn,rfl,hc⟩;simp only[cns];refine⟨fun g=>?_,fun g=>?_⟩
 .simp only[wz,zdt]at g;obtain⟨r,hri⟩:∃r,rs[q0]?=some r:=⟨_,zge om⟩;have hrh:=hlh0 r (zmg hri);obtain⟨m,rfl⟩:∃m,n=m+1:=⟨n-1,om⟩;obtain⟨ri,q,d⟩:=z3s hw82 q0 r hri;refine⟨fun vs K'=>vs=[]∧GnH S2 K' x 0 nx' (l1'++rs.flatMap x.entD++za3 (rs.flatMap x.entM)++(rs.take (q0+1)).flatMap x.entN) (k+2*m) J,?_,fun _=>q,[vi r],rfl,d _ hc.sh,[vi x.p.params],rfl,hc.frow 1 1,?_⟩
  .rintro vs K' _ ⟨rfl,q1⟩;exact⟨_,z00,m,om,q0+1,om,by simp only[wz,hup (show q0<rs.length by omega)],q1⟩
  simp only[cns];rw[zup hri];refine⟨fun g2=>?_,fun g2=>?_⟩
  .simp only[wz,zdt]at g2;refine z02 [vi 42] (qb 34) (z74 5 42 dC dC _) rfl z01 fun Kd ld=>?_;have hd:=hc.le ld;simp only[cns];refine z05 (qb 133) (ztx (k:=k+2*m) hx2 om r 42 hrh dC (hd.less om)) fun Ke he=>?_;refine⟨_,z00,rfl,?_⟩;unfold FX.entN;unfold FX.entN at he;rw[qc om,←zaa];exact he
  .simp only[wz,zdf]at g2;refine⟨_,z00,rfl,?_⟩;have:x.entN r=[]:=by unfold FX.entN;rw[qj om]
   rw[this,zan];exact hc.less om
 .simp only[wz,zdf]at g;obtain rfl:q0=rs.length:=om;rw[List.take_length]at hc;exact⟨rfl,(hc.less om).base (wx l1 l2)⟩
end
def stW:Nat→List Int→List ItemR
 |_,[]=>[]
 |j,w::ws=>⟨0,⟨23,w,30,0,(j:Int)⟩,0,0⟩::stW (j+1) ws
def ldW:Nat→List Int→List ItemR
 |_,[]=>[]
 |j,w::ws=>⟨0,⟨22,w,30,0,(j:Int)⟩,0,0⟩::ldW (j+1) ws
theorem Zfe:∀(a b:List Int)(i:Nat),stW i (a++b)=stW i a++stW (i+a.length) b
 | [],b,i=>by simp[stW]
 |w::a,b,i=>by
  simp only[List.cons_append,stW,Zfe a b (i+1),zlc];rw[show i+1+a.length=i+(a.length+1) by omega]
theorem Zf6:∀(a b:List Int)(i:Nat),ldW i (a++b)=ldW i a++ldW (i+a.length) b
 | [],b,i=>by simp[ldW]
 |w::a,b,i=>by
  simp only[List.cons_append,ldW,Zf6 a b (i+1),zlc];rw[show i+1+a.length=i+(a.length+1) by omega]
noncomputable def FX.saveW(x:FX)(b:Int):List Int:=(z2o x.p x.place b).map x.reg++(if 0<x.p.holds then[25]else[])
noncomputable def FX.callL(x:FX)(b:Int)(e:EndX)(place nx:Int):List ItemR:=
 stW 0 (x.saveW b)++[⟨5,⟨20,26,0,0,0⟩,nx,0⟩,⟨0,⟨18,26,26,0,15⟩,0,0⟩,⟨0,⟨15,26,26,0,arI .shl .i64 (arI .add .i64 x.slots ((x.saveW b).length:Int)) 3⟩,0,0⟩,⟨0,⟨23,26,30,0,((x.saveW b).length:Int)⟩,0,0⟩]
 ++ growL (((x.saveW b).length:Int)+1)++x.passL (((x.saveW b).length:Int)+1) e.reg e.args++[⟨3,⟨28,0,0,0,0⟩,place,0⟩,⟨1,⟨0,0,0,0,0⟩,nx,0⟩,⟨0,⟨15,27,1,0,0⟩,0,0⟩]
 ++ growL (-((x.saveW b).length:Int)-1)++ldW 0 (x.saveW b)++x.setL 0 e.to 27++[⟨3,⟨28,0,0,0,0⟩,x.labs.getD e.next.toNat 0,0⟩]
section
variable {S0 K:PH}{x:FX}{pu pu' nx:Int}{l l':List ItemR}{k k':Nat}{J:List Itm}
theorem Zhq{α:Type}[Enc α]{P:Program}{X:List PanicEntry→PH→Prop}{β:Type}{E:List Value}{L:LK}{Q:β→List Value→PH→LK→Prop}{e T ty:TypeId}{b:Nat}{args:List (Nat×VE)}{f:Fm β}
  (hT:P.underlying T=some (.slice e)) (he:ElemOk P e (sz α) b=true) (h:GnH S0 K x pu nx l k J) (hk:∀v K',GnH S0 K' x pu nx l k (orow (α:=α) e [] v::J)→den P X f (E++[v]) K' L Q):den P X (.sem (.buildSlice T 0 #[]) ty args (.sc .sl) [] f) E K L Q:=by
 obtain⟨⟨h1,S,iv,h2,h3⟩,h4,h5⟩:=h;refine zm5 (α:=α) hT he h3 z01 fun v K' h6 _ _=>hk v K' ?_;exact⟨⟨h1,S,iv,h2,h6.perm (qA (l₁:=[_,_,_]) (l₂:=J)).symm⟩,h4,h5⟩
theorem Zau{P:Program}{X:List PanicEntry→PH→Prop}{β:Type}{E:List Value}{L:LK}{Q:β→List Value→PH→LK→Prop}{p s:SV}{f:Fm β}(hp:pOf (ev0 E p)=some ⟨x.rf,8,none⟩)(h:GnH S0 K x pu nx l k J)(hv:ev0 E s=.int .i64 pu')(hk:∀K',GnH S0 K' x pu' nx l k J→den P X f E K' L Q):den P X (.store p [s] f) E K L Q:=by
 obtain⟨⟨h1,S,iv,h2,h3⟩,h4,h5⟩:=h;refine z0b (vs:=[vi pu']) hp (h3.perm (qA (l₁:=[_,_]) (l₂:=J))) (by simp only[q9,List.map_nil,hv]) (by simp[oneC]) sM fun K' h6=>hk K' ?_;exact⟨⟨h1,S,iv,h2,h6.perm (qA (l₁:=[_,_]) (l₂:=J)).symm⟩,h4,h5⟩
theorem zzs(hx:FOk S0 x)(h:GnH S0 K x pu nx l k J)(n:Int)(hn:0≤n∧n<x.labs.length):x.lv=.slice (z09 x.lv) x.labs.length (slCap x.lv)∧(z09 x.lv).isSome=true∧rowAt K (pOf (eltV x.lv n 1)) [vi (x.labs.getD n.toNat 0)]∧InI (x.labs.getD n.toNat 0):=by
 obtain⟨m,rfl⟩:∃m:Nat,n=(m:Int):=⟨n.toNat,om⟩;have hm:x.labs[m]?=some (x.labs.getD m 0):=by rw[zgd,zge om];rfl
 obtain⟨ei,eq,ed⟩:=z3s hx.la m _ hm;obtain⟨b,c,hv⟩:=hx.la.sl;refine⟨by rw[hv];rfl,eq.1,ed _ h.sh,ei⟩
theorem Z5u(hf:FnOk x)(b:Int):(x.saveW b).length≤2001:=by
 have:=hf.saved b;unfold FX.saveW;rw[zla,zlm];split<;>simp<;>omega
theorem Zmy{S:PH}(hx:FOk S x)(hf:FnOk x)(b w:Int)(h:w∈x.saveW b):InI w:=by
 unfold FX.saveW at h;rcases zma.1 h with h|h
 .obtain⟨r,h1,rfl⟩:=zmp.1 h;exact zi8 hx r (hf.across (zmf.1 h1).1)
 .split at h
  .rw[zsi.1 h];decide
  .cases h
theorem Zg6(hx:FOk S0 x)(hf:FnOk x)(b:Int)(e:EndX)(av:Value)(he:EnR S0 e av)(place:Int)(hpi:InI place)(hreg:x.has e.reg)(hargs:∀r∈e.args,x.has r)(hn:e.args.length≤900)(hto:x.has e.to)(hnext:0≤e.next∧e.next<x.labs.length)(h:GnH S0 K x 0 nx l (k+20000) J):
  Tri zP 146 #[pAt x.rf,vi b,.agg (enV e av).toArray,vi place] K (GnQ S0 x 0 (nx+1) (l++x.callL b e place nx) k J):=by
 obtain⟨ab,ac,hav⟩:=he.args.sl;obtain⟨s1,s2⟩:=hx.sl;have hn0:=h.n0;have hnk:=h.nk;have hwl:=Z5u hf b;have hwi:=fun w hw=>Zmy hx hf b w hw;have hsv:=hf.saved b;refine qr znv ([pAt x.rf,vi b]++enV e av++[vi place]) ?_ (by rw[hav];kernel_rfl) kr;simp only[enV,cns];refine z03 (qb 82) (Zo0 hx hf b h) ?_;rintro _ K1 ⟨S1,v1,l1,h1,q1,rfl⟩;have hx1:=hx.le l1;have hwE:x.saveW b=(z2o x.p x.place b).map x.reg++(if 0<x.p.holds then[25]else[]):=rfl;have hsh:∀r∈z2o x.p x.place b,x.has r:=fun r hr=>hf.across (zmf.1 hr).1;unfold FX.callL;generalize hws:x.saveW b=ws at *;generalize hrs:z2o x.p x.place b=rs at *;have q10:=q1;obtain⟨vb,vc,rfl⟩:=q1.sl;refine⟨_,[.slice vb rs.length vc,.bool (decide (0<x.p.holds))],rfl,rfl,rfl,z01,fun _=>rfl,[pAt x.rg],rfl,h1.frow 0 1,?_⟩;simp only[cns];refine z2w (qb 42) (z48 (h1.less (k':=k+19900+1) om)) (fun _ _=>z01) fun K2 h2=>?_;simp only[cns];refine Zhq (α:=Int) z0j z0s h2 fun v2 K3 h3=>?_;simp only[cns];have hup:∀{i n:Nat},i<n→n≤100000→IntKind.i64.wrap ((i:Int)+1)=((i+1:Nat):Int):=fun h h'=>by rw[w64 om om];rfl
 refine⟨fun n vs K'=>∃(i:Nat)(u:Value),i+n=rs.length∧vs=[u,nI i]∧GnH S1 K' x 0 (nx+1) l (k+19900) (orow 3 ((rs.take i).map x.reg) u::J),⟨rs.length,0,v2,om,rfl,by simpa using h3⟩,?_⟩;rintro n vs K4 _ ⟨i,u,hin,rfl,h4⟩;simp only[cns];obtain⟨ub,uc,hu⟩:=h4.rowsl;have hml:((rs.take i).map x.reg).length≤2000:=by rw[zlm,List.length_take];omega
 refine⟨fun g=>?_,fun g=>?_⟩
 .simp only[wz,zdt]at g;obtain⟨r,hri⟩:∃r,rs[i]?=some r:=⟨_,zge om⟩;have hrh:=hsh r (zmg hri);obtain⟨ri,q,d⟩:=z3s q10 i r hri;refine⟨fun _=>q,[vi r],rfl,d _ h4.sh,?_⟩;simp only[cns];refine z02 [vi (x.reg r)] (qb 130) (zb8 hx1 h4 r hrh) rfl z01 fun K5 l5=>?_;have h5:=h4.le l5;simp only[cns];refine zhi (b:=8) (more:=[x.reg r]) [vi (x.reg r)] z0j z0s rfl dC dC h5 kr (fun S _=>.cons (z0e (zi8 hx1 r hrh)) .nil) z01 (fun _=>kr) (fun _=>kr)
   (by simp only[maxLen,zlc,zln];omega) (by simp only[zlc,zln];omega) fun w v6 K6 h6=>⟨z01,?_⟩
  refine⟨_,z00,n-1,om,i+1,v6,om,by simp only[wz,hup (show i<rs.length by omega) om],?_⟩;rw[qZ,hri,List.map_append];exact h6
 simp only[wz,zdf]at g;obtain rfl:i=rs.length:=om;rw[List.take_length]at h4 hml;refine⟨fun vs K'=>∃u,vs=[u]∧GnH S1 K' x 0 (nx+1) l (k+19900) (orow 3 ws u::J),?_,fun g2=>?_,fun g2=>?_⟩;rotate_left
 .simp only[wz,zdt]at g2;refine zhi (b:=8) (more:=[(25:Int)]) [vi 25] z0j z0s rfl dC dC h4 kr (fun S _=>.cons (z0e dC) .nil) z01 (fun _=>kr) (fun _=>kr)
   (by simp only[maxLen,zlc,zln];omega) (by simp only[zlc,zln];omega) fun w v6 K6 h6=>⟨z01,?_⟩
  refine⟨_,z00,v6,rfl,?_⟩;rw[hwE,qj g2];exact h6
 .simp only[wz,zdf]at g2;refine⟨_,z00,u,rfl,?_⟩;rw[hwE,qc g2,zan];exact h4
 clear h1 h2 h3 h4 hu;rintro vs K5 _ ⟨u2,rfl,h5⟩;simp only[cns];obtain⟨S2,l2,q2,h6⟩:=h5.freeze;clear h5;have hx2:=hx1.le l2;have l02:=wx l1 l2;have q20:=q2;obtain⟨wb,wc,rfl⟩:=q2.sl;have htk:∀{i:Nat} {w:Int},ws[i]?=some w→ws.take (i+1)=ws.take i++[w]∧(ws.take i).length=i:=fun h=>⟨by rw[qZ,h];rfl,by rw[List.length_take];have:=(zgi.1 h).1;omega⟩;refine⟨fun n vs K'=>∃i:Nat,i+n=ws.length∧vs=[nI i]∧GnH S2 K' x 0 (nx+1) (l++stW 0 (ws.take i)) (k+17000+n) J,⟨ws.length,0,om,rfl,by simpa[stW]using h6.less om⟩,?_⟩;rintro n vs K7 _ ⟨i,hin,rfl,h7⟩;simp only[cns];refine⟨fun g=>?_,fun g=>?_⟩
 .simp only[wz,zdt]at g;obtain⟨w,hri⟩:∃r,ws[i]?=some r:=⟨_,zge om⟩;obtain⟨m,rfl⟩:∃m,n=m+1:=⟨n-1,om⟩;obtain⟨ri,q,d⟩:=z3s q20 i w hri;refine⟨fun _=>q,[vi w],rfl,d _ h7.sh,[pAt x.rg],rfl,h7.frow 0 1,fun _=>rfl,?_⟩;simp only[cns];refine z05 (qb 54) ((h7.less (k':=k+17000+m+1) om).to (z5g w 30 (i:Int) ri dC (inJ om om))) fun K8 h8=>?_;refine⟨_,z00,m,om,i+1,om,by simp only[wz,hup (show i<ws.length by omega) om],?_⟩;rw[(htk hri).1,Zfe,(htk hri).2,wq,←zaa];exact h8
 simp only[wz,zdf]at g;obtain rfl:i=ws.length:=om;rw[List.take_length]at h7;refine⟨[pAt x.rg],rfl,h7.frow 0 1,fun _=>rfl,?_⟩;simp only[cns];refine z05 (qb 151) ((h7.less (k':=k+16990+1) om).to (zyv 26 nx dC (inJ om om))) fun K8 h8=>?_;refine⟨[pAt x.rg],rfl,h8.frow 0 1,fun _=>rfl,?_⟩;simp only[cns];refine z05 (qb 97) ((h8.less (k':=k+16980+1) om).to (z28 18 26 26 15 dC dC dC dC)) fun K9 h9=>?_;refine⟨[pAt x.rg],rfl,h9.frow 0 1,fun _=>rfl,[vi x.slots],rfl,h9.frow 6 1,?_⟩;simp only[cns];refine z05 (qb 97) ((h9.less (k':=k+16970+1) om).to (z28 15 26 26 (arI .shl .i64 (arI .add .i64 x.slots (ws.length:Int)) 3) dC dC dC (z2p _))) fun Ka ha=>?_;refine⟨[pAt x.rg],rfl,ha.frow 0 1,fun _=>rfl,?_⟩;simp only[cns];refine z05 (qb 54) ((ha.less (k':=k+16960+1) om).to (z5g 26 30 (ws.length:Int) dC dC (inJ om om))) fun Kb hb=>?_;have e1:arI .add .i64 (ws.length:Int) 1=(ws.length:Int)+1:=w64 om om;obtain⟨l3,hl3⟩:∃l3,l3=l++stW 0 ws++[⟨5,⟨20,26,0,0,0⟩,nx,0⟩,⟨0,⟨18,26,26,0,15⟩,0,0⟩,⟨0,⟨15,26,26,0,arI .shl .i64 (arI .add .i64 x.slots (ws.length:Int)) 3⟩,0,0⟩,⟨0,⟨23,26,30,0,(ws.length:Int)⟩,0,0⟩]:=⟨_,rfl⟩;have hb':GnH S2 Kb x 0 (nx+1) l3 (k+16960) J:=by
  rw[hl3];simpa only[zaa,cns]using hb
 clear h6 h7 h8 h9 ha hb;have c1:Tri zP 128 #[pAt x.rf,vi (arI .add .i64 (ws.length:Int) 1)] Kb (GnQ S2 x 0 (nx+1) (l3++growL ((ws.length:Int)+1)) (k+16950) J):=by
  rw[e1];exact zpi _ (inJ om om) (hb'.less om)
 refine z05 (qb 128) c1 fun Kc hc=>?_;refine Zau (pu':=(ws.length:Int)+1) rfl hc (by simp only[wz];exact congrArg (Value.int .i64) e1) fun Kd hd=>?_;refine z05 (qb 145) (Zfu (k:=k+10000) hx2 om e.reg e.args av (he.args.le l02) hreg hargs hn he.reg (hd.less om)) fun Ke he'=>?_;refine Zau (pu':=0) rfl he' (by simp only[wz]) fun Kf hff=>?_;refine⟨[pAt x.rg],rfl,hff.frow 0 1,fun _=>rfl,?_⟩;simp only[cns];refine z05 (qb 60) ((hff.less (k':=k+9990+1) om).to (z6v place hpi)) fun Kg hg=>?_;refine⟨[pAt x.rg],rfl,hg.frow 0 1,fun _=>rfl,?_⟩;simp only[cns];refine z05 (qb 51) ((hg.less (k':=k+9980+1) om).to (z5d nx (inJ om om))) fun Kh hh=>?_;refine⟨[pAt x.rg],rfl,hh.frow 0 1,fun _=>rfl,?_⟩;simp only[cns];refine z05 (qb 56) ((hh.less (k':=k+9970+1) om).to (zqn 27 1 dC dC)) fun Ki hi=>?_;have e2:arI .sub .i64 (arI .sub .i64 0 (ws.length:Int)) 1=-(ws.length:Int)-1:=by
  show IntKind.i64.wrap (IntKind.i64.wrap (0-(ws.length:Int))-1)=_;rw[w64 (n:=0-(ws.length:Int)) om om,w64 om om];omega
 obtain⟨l4,hl4⟩:∃l4,l4=l3++growL ((ws.length:Int)+1)++x.passL ((ws.length:Int)+1) e.reg e.args++[⟨3,⟨28,0,0,0,0⟩,place,0⟩,⟨1,⟨0,0,0,0,0⟩,nx,0⟩,⟨0,⟨15,27,1,0,0⟩,0,0⟩]:=⟨_,rfl⟩;have hi':GnH S2 Ki x 0 (nx+1) l4 (k+9970) J:=by
  rw[hl4];simpa only[zaa,cns]using hi
 clear hc hd he' hff hg hh hi;have c2:Tri zP 128 #[pAt x.rf,vi (arI .sub .i64 (arI .sub .i64 0 (ws.length:Int)) 1)] Ki (GnQ S2 x 0 (nx+1) (l4++growL (-(ws.length:Int)-1)) (k+9960) J):=by
  rw[e2];exact zpi _ (inJ om om) (hi'.less om)
 refine z05 (qb 128) c2 fun Kj hj=>?_;refine⟨fun n vs K'=>∃i:Nat,i+n=ws.length∧vs=[nI i]∧GnH S2 K' x 0 (nx+1) (l4++growL (-(ws.length:Int)-1)++ldW 0 (ws.take i)) (k+7000+n) J,⟨ws.length,0,om,rfl,by simpa[ldW]using hj.less om⟩,?_⟩;rintro n vs Kk _ ⟨i,hin,rfl,hk⟩;simp only[cns];refine⟨fun g=>?_,fun g=>?_⟩
 .simp only[wz,zdt]at g;obtain⟨w,hri⟩:∃r,ws[i]?=some r:=⟨_,zge om⟩;obtain⟨m,rfl⟩:∃m,n=m+1:=⟨n-1,om⟩;obtain⟨ri,q,d⟩:=z3s q20 i w hri;refine⟨fun _=>q,[vi w],rfl,d _ hk.sh,[pAt x.rg],rfl,hk.frow 0 1,fun _=>rfl,?_⟩;simp only[cns];refine z05 (qb 55) ((hk.less (k':=k+7000+m+1) om).to (zov w 30 (i:Int) ri dC (inJ om om))) fun Kl hl=>?_;refine⟨_,z00,m,om,i+1,om,by simp only[wz,hup (show i<ws.length by omega) om],?_⟩;rw[(htk hri).1,Zf6,(htk hri).2,wq,←zaa];exact hl
 simp only[wz,zdf]at g;obtain rfl:i=ws.length:=om;rw[List.take_length]at hk;refine z05 (qb 135) (Z0w (k:=k+10) hx2 om e.to 27 hto dC (hk.less om)) fun Kl hl=>?_;obtain⟨z1,z2,z3,z4⟩:=zzs hx2 hl e.next hnext;refine⟨[pAt x.rg],rfl,hl.frow 0 1,fun _=>rfl,[x.lv],by rw[z1];rfl,hl.frow 7 1,fun _=>?_,[vi (x.labs.getD e.next.toNat 0)],rfl,z3,?_⟩
 .exact⟨z2,hnext.1,by show e.next<(slLen x.lv:Int);rw[z1];exact hnext.2⟩
 simp only[cns];refine z05 (qb 60) ((hl.less (k':=k+1) om).to (z6v _ z4)) fun Km hm=>?_;refine⟨rfl,?_⟩;rw[hl4,hl3]at hm;simpa only[zaa,cns]using hm.base l02
end
def FX.leaveL(x:FX)(e:EndX)(to:Int):List ItemR:=x.passL 0 e.reg e.args++growL (arI .sub .i64 0 x.slots)++[⟨3,⟨28,0,0,0,0⟩,to,0⟩]
def FX.lab(x:FX)(i:Int):Int:=x.labs.getD i.toNat 0
def FX.askL(x:FX)(e:EndX):List ItemR:=x.getL 0 e.reg 26++[⟨4,⟨20,28,0,0,0⟩,0,2⟩,⟨2,⟨24,x.get e.reg 26,28,0,0⟩,x.lab e.els,0⟩,⟨3,⟨28,0,0,0,0⟩,x.lab e.next,0⟩]
noncomputable def FX.endL(x:FX)(b nx:Int)(e:EndX):List ItemR:=
 if e.kind=0 then[⟨3,⟨28,0,0,0,0⟩,x.lab e.next,0⟩]
 else if e.kind=1 then x.askL e
 else if e.kind=2 then x.retL 0 e.reg
 else if e.kind=3 then x.leaveL e 3
 else if e.kind=5 then x.leaveL e 7
 else if e.kind=4 then x.callL b e 3 nx
 else if e.kind=6 then x.callL b e 7 nx
 else[]
def endN(nx:Int)(e:EndX):Int:=if e.kind=4∨e.kind=6 then nx+1 else nx
section
variable {S0 K:PH}{x:FX}{pu pu' nx:Int}{l l':List ItemR}{k k':Nat}{J:List Itm}
theorem Zqm(hx:FOk S0 x)(hf:FnOk x)(hregs:∀r,0≤r∧r<x.p.regs→x.has r)(hlabs:x.labs.length=x.p.blocks.length)(b:Int)(e:EndX)(av:Value)(he:EnR S0 e av)(hok:finOk x.p e=true)(h:GnH S0 K x 0 nx l (k+20000) J):
  Tri zP 86 #[pAt x.rf,vi b,.agg (enV e av).toArray] K (GnQ S0 x 0 (endN nx e) (l++x.endL b nx e) k J):=by
 have hg:=z7z hok;obtain⟨s1,s2⟩:=hx.sl;have hargs:∀r∈e.args,x.has r:=fun r hr=>hregs r (hg.args r hr);have hfew:=hg.few;have hin:InI (arI .sub .i64 0 x.slots):=by
  show InI (IntKind.i64.wrap (0-x.slots));rw[w64 om om];exact inJ om om
 by_cases k2:e.kind=2
 .have e1:x.endL b nx e=x.retL 0 e.reg:=by unfold FX.endL;rw[qc om,qc om,qj k2]
  have e2:endN nx e=nx:=by unfold endN;rw[qc om]
  rw[e1,e2];exact Zil hx om b e av he k2 (hregs _ (hg.reg om)) (h.less om)
 obtain⟨ab,ac,hav⟩:=he.args.sl;refine qr zb2 ([pAt x.rf,vi b]++enV e av) ?_ (by rw[hav];kernel_rfl) kr;simp only[enV,cns];have lab:∀{K':PH} {nx':Int} {l':List ItemR} {k':Nat} {n:Int},(0≤n∧n<x.p.blocks.length)→GnH S0 K' x 0 nx' l' k' J→x.lv=.slice (z09 x.lv) x.labs.length (slCap x.lv)∧((z09 x.lv).isSome=true∧(0:Int)≤n∧n<(slLen x.lv:Int))∧rowAt K' (pOf (eltV x.lv n 1)) [vi (x.lab n)]∧InI (x.lab n):=fun hn h=>by
  obtain⟨z1,z2,z3,z4⟩:=zzs hx h _ (by rw[hlabs];exact hn);refine⟨z1,⟨z2,hn.1,by rw[z1];show _<(x.labs.length:Int);rw[hlabs];exact hn.2⟩,z3,z4⟩
 refine⟨fun g=>?_,fun g=>?_⟩
 .simp only[wz,zdt]at g;have hn:=hg.next (.inl g);obtain⟨z1,z2,z3,z4⟩:=lab hn h;refine⟨fun _=>rfl,[pAt x.rg],rfl,h.frow 0 1,fun _=>rfl,[x.lv],by rw[z1];rfl,h.frow 7 1,fun _=>z2,[vi (x.lab e.next)],rfl,z3,?_⟩;simp only[cns];refine z05 (qb 60) ((h.less (k':=k+1) om).to (z6v _ z4)) fun K1 h1=>?_;refine⟨rfl,?_⟩;unfold FX.endL endN;rw[qj g,qc om];exact h1
 simp only[wz,zdf]at g;refine⟨fun g1=>?_,fun g1=>?_⟩
 .simp only[wz,zdt]at g1;have hn:=hg.next (.inr (.inl g1));have hl:=hg.els g1;have hr:=hregs _ (hg.reg g);refine z2w (qb 136) (zpg (k:=k+10) hx om e.reg 26 hr dC (h.less om)) (fun _ _=>z01) fun K1 h1=>?_;simp only[cns];refine⟨fun _=>rfl,[pAt x.rg],rfl,h1.frow 0 1,fun _=>rfl,?_⟩;simp only[cns];refine z02 [vi 2] (qb 34) (z74 0 2 dC dC _) rfl (z0o (h1.frow 0 1) z01) fun K2 l2=>?_;have h2:=h1.le l2;simp only[cns];refine z05 (qb 57) ((h2.less (k':=k+8+1) om).to (z1x 28 2 dC dC)) fun K3 h3=>?_;obtain⟨z1,z2,z3,z4⟩:=lab hl h3;refine⟨[pAt x.rg],rfl,h3.frow 0 1,fun _=>rfl,[x.lv],by rw[z1];rfl,h3.frow 7 1,fun _=>z2,[vi (x.lab e.els)],rfl,z3,?_⟩;simp only[cns];refine z05 (qb 59) ((h3.less (k':=k+7+1) om).to (If_em 24 (x.get e.reg 26) 28 (x.lab e.els) dC (zu6 hx e.reg 26 hr dC) dC z4)) fun K4 h4=>?_;obtain⟨y1,y2,y3,y4⟩:=lab hn h4;refine⟨[pAt x.rg],rfl,h4.frow 0 1,fun _=>rfl,[x.lv],by rw[z1];rfl,h4.frow 7 1,fun _=>y2,[vi (x.lab e.next)],rfl,y3,?_⟩;simp only[cns];refine z05 (qb 60) ((h4.less (k':=k+1) om).to (z6v _ y4)) fun K5 h5=>?_;refine⟨rfl,?_⟩;unfold FX.endL endN;rw[qc g,qj g1,qc om];simpa only[FX.askL,zaa,cns]using h5
 simp only[wz,zdf]at g1;refine⟨fun g2=>?_,fun _=>?_⟩
 .simp only[wz,zdt]at g2;exact absurd g2 k2
 have hr:=hregs _ (hg.reg g);refine⟨fun g3=>?_,fun g3=>?_⟩
 .have g3':e.kind=3∨e.kind=5:=by
   simp only[wz]at g3;by_cases q:e.kind=3
   .exact .inl q
   .simp only[qX q,qp,if_false,cond_false,zdt]at g3;exact .inr (by simpa using g3)
  refine z05 (qb 145) (Zfu (k:=k+10) hx om e.reg e.args av he.args hr hargs om he.reg (h.less om)) fun K1 h1=>?_;refine⟨fun _=>rfl,[vi x.slots],rfl,h1.frow 6 1,?_⟩;simp only[cns];refine z05 (qb 128) (zpi (k:=k+9) (arI .sub .i64 0 x.slots) hin (h1.less om)) fun K2 h2=>?_;refine⟨fun g4=>?_,fun g4=>?_⟩
  .simp only[wz,zdt]at g4;refine⟨[pAt x.rg],rfl,h2.frow 0 1,fun _=>rfl,?_⟩;simp only[cns];refine z05 (qb 60) ((h2.less (k':=k+1) om).to (z6v 3 dC)) fun K3 h3=>?_;refine⟨rfl,?_⟩;unfold FX.endL endN;rw[qc g,qc g1,qc k2,qj g4,qc om];simpa only[FX.leaveL,zaa,cns]using h3
  .simp only[wz,zdf]at g4;refine⟨[pAt x.rg],rfl,h2.frow 0 1,fun _=>rfl,?_⟩;simp only[cns];refine z05 (qb 60) ((h2.less (k':=k+1) om).to (z6v 7 dC)) fun K3 h3=>?_;refine⟨rfl,?_⟩;unfold FX.endL endN;rw[qc g,qc g1,qc k2,qc g4,qj (show e.kind=5 by omega),qc (show ¬(e.kind=4∨e.kind=6) by omega)];simpa only[FX.leaveL,zaa,cns]using h3
 have g3':e.kind≠3∧e.kind≠5:=by
  simp only[wz]at g3;by_cases q:e.kind=3
  .simp[q]at g3
  .exact⟨q,by simpa[q]using g3⟩
 refine⟨fun g4=>?_,fun g4=>?_⟩
 .simp only[wz,zdt]at g4;have hn:=hg.next (.inr (.inr (.inl g4)));refine z05 (qb 146) (Zg6 hx hf b e av he 3 dC hr hargs om (hregs _ (hg.to (.inl g4))) (by rw[hlabs];exact hn) h) fun K1 h1=>?_;refine⟨rfl,?_⟩;unfold FX.endL endN;rw[qc g,qc g1,qc k2,qc g3'.1,qc g3'.2,qj g4,qj om];exact h1
 simp only[wz,zdf]at g4;refine⟨fun g5=>?_,fun g5=>?_⟩
 .simp only[wz,zdt]at g5;have hn:=hg.next (.inr (.inr (.inr g5)));refine z05 (qb 146) (Zg6 hx hf b e av he 7 dC hr hargs om (hregs _ (hg.to (.inr g5))) (by rw[hlabs];exact hn) h) fun K1 h1=>?_;refine⟨rfl,?_⟩;unfold FX.endL endN;rw[qc g,qc g1,qc k2,qc g3'.1,qc g3'.2,qc g4,qj g5,qj om];exact h1
 simp only[wz,zdf]at g5;have:=hg.kind;omega
end
theorem zuv{c:CodeX}(g:GoodC c){p:PrcX}{x:InsX}(h:insOk c p x=true):x.args.length≤1000:=by
 have gx:=z8a h;unfold insOk at h;split at h
 .cases h
 split at h
 .simp only[zba,zdt]at h;omega
 split at h
 .simp only[zba,zdt]at h;omega
 split at h
 .simp only[zba,zdt]at h;omega
 split at h
 .rename_i hc;obtain⟨h1,h2,h3⟩:=gx.closure hc;have:=(g.prc (zv2 om h2).1).holds;omega
 split at h
 .simp only[zba,zdt]at h;omega
 split at h
 .cases h
 .simp only[zba,zdt]at h;have:z1g x.op≤3:=by
   unfold z1g
   repeat' split
   all_goals decide
  omega
theorem Zng{c:CodeX}(g:GoodC c){p:PrcX}{b:BlkX}(hi:∀x∈b.ins,insOk c p x=true)(hf:finOk p b.e=true):b.regs.length≤1000*b.many:=by
 have h1:∀l:List InsX,(∀x∈l,insOk c p x=true)→(l.flatMap (·.args)).length≤1000*l.length:=by
  intro l
  induction l with
  |nil=>intro _;simp
  |cons x l ih=>
   intro h;have:=zuv g (h x (zms));have:=ih fun y hy=>h y (zmm _ hy);simp only[qO,zla,zlc];omega
 have h2:=h1 b.ins hi;have h3:=(z7z hf).few;unfold BlkX.regs BlkX.many EndX.regs;rw[zla,zla];have h4:(if b.e.reads b.e.reg=true then[b.e.reg]else[]).length≤1:=by split<;>simp
 have h5:(if b.e.kind=3∨b.e.kind=4 then b.e.args else[]).length≤b.e.args.length:=by split<;>simp
 omega
theorem Zfg{α:Type}(f:α→List Int)(m:α→Nat):∀l:List α,(∀a∈l,(f a).length≤1000*m a)→(l.flatMap f).length≤1000*(l.map m).sum
 | [],_=>sM
 |a::l,h=>by
  have h1:=h a (zms);have h2:=Zfg f m l fun b hb=>h b (zmm _ hb);simp only[qO,zla,q9,List.sum_cons];omega
theorem GoodC.fit{c:CodeX}(g:GoodC c){p:PrcX}(hp:p∈c):p.Fit∧∀b∈p.blocks,b.e.args.length≤20000000:=by
 have gp:=g.prc hp;refine⟨⟨by have:=gp.blocks;omega,fun b hb=>by have:=(gp.ins b hb).1;omega,?_⟩,fun b hb=>by have:=(z7z (gp.fin b hb)).few;omega⟩;have h1:=Zfg BlkX.regs BlkX.many p.blocks fun b hb=>Zng g (gp.ins b hb).2 (gp.fin b hb);have h2:=zqy hp;have h3:=g.many;unfold PrcX.many at h2;unfold PrcX.regl;omega
theorem Zcm{p:PrcX}{e:EndX}(h:FinGood p e){r:Int}(hr:e.reads r=true):0≤r∧r<p.regs:=by
 unfold EndX.reads at hr;split at hr
 .rename_i hk;have hr:e.reg=r:=by simpa using hr
  rw[←hr];exact h.reg om
 split at hr
 .rename_i hk;simp only[qu,zdt]at hr;rcases hr with hr|hr
  .rw[←hr];exact h.reg om
  .exact h.args r hr
 .cases hr
theorem zqx{c:CodeX}{p:PrcX}(hg:GoodP c p):∀r∈p.regl,0≤r∧r<p.regs:=by
 intro r hr;obtain⟨b,hb,h1⟩:=List.mem_flatMap.1 hr;unfold BlkX.regs at h1;rcases zma.1 h1 with h|h
 .obtain⟨x,hx,h2⟩:=List.mem_flatMap.1 h;exact(z8a ((hg.ins b hb).2 x hx)).args r h2
 .have hf:=z7z (hg.fin b hb);unfold EndX.regs at h;rcases zma.1 h with h|h
  .split at h
   .rename_i hr2;rw[zsi.1 h];exact Zcm hf hr2
   .simp at h
  .split at h
   .exact hf.args r h
   .simp at h
theorem Z9e{c:CodeX}{p:PrcX}(hg:GoodP c p):mayP p=true:=by
 unfold mayP;rw[zba,zat];refine⟨?_,fun b hb=>?_⟩
 .have h1:=hg.params;have h2:=hg.regs;have h3:=hg.blocks;unfold z5q;simp only[qy,zof,zdf];omega
 .unfold BlkX.may;rw[zba,zat,zat];refine⟨fun x hx=>?_,fun r hr=>?_⟩
  .have g:=z8a ((hg.ins b hb).2 x hx);unfold InsX.may;rw[zba,zat];refine⟨fun r hr=>qW (g.args r hr),?_⟩;by_cases h:x.op=tieB
   .simp[h]
   .rw[qu];exact .inr (qW (g.to h))
  .have g:=z7z (hg.fin b hb);refine qW ?_;unfold EndX.uses at hr;split at hr
   .rw[zsi.1 hr];exact g.reg om
   split at hr
   .rcases zmc.1 hr with rfl|h
    .exact g.reg om
    .exact g.args r h
   split at hr
   .rcases zmc.1 hr with rfl|h
    .exact g.reg om
    rcases zmc.1 h with rfl|h
    .exact g.to om
    .exact g.args r h
   split at hr
   .rcases zmc.1 hr with rfl|h
    .exact g.reg om
    .rw[zsi.1 h];exact g.to om
   .simp at hr
theorem Zlb{op:List UInt8}{n:Nat}(h:z1g op=(n:Int)):(n=0∧op∈ar0)∨(n=1∧op∈ar1)∨(n=2∧op∈ar2)∨(n=3∧op∈ar3):=by
 unfold z1g at h;split at h
 .rename_i g;exact .inl ⟨om,by simpa using g⟩
 split at h
 .rename_i g;exact .inr (.inl ⟨om,by simpa using g⟩)
 split at h
 .rename_i g;exact .inr (.inr (.inl ⟨om,by simpa using g⟩))
 split at h
 .rename_i g;exact .inr (.inr (.inr ⟨om,by simpa using g⟩))
 .omega
theorem Zem{c:CodeX}{p:PrcX}{y:InsX}(h:insOk c p y=true)(e:y.op=hldB):y.args.length=0:=by
 unfold insOk at h;split at h
 .cases h
 rw[qc (show ¬y.op=z14 by rw[e];decide),qc (show ¬y.op=movB by rw[e];decide)]at h;simp only[zba,zdt]at h;exact h.1.1.1
theorem Zje{c:CodeX}{p:PrcX}{y:InsX}(h:insOk c p y=true)(hH:p.holds≤1000)(h1:y.op≠cloB)(h2:y.op≠tieB):0≤y.num∧y.num≤1000:=by
 unfold insOk at h;split at h
 .cases h
 split at h
 .simp only[zba,zdt]at h;omega
 split at h
 .simp only[zba,zdt]at h;omega
 split at h
 .simp only[zba,zdt]at h;omega
 split at h
 .cases h
 .simp only[zba,zdt]at h;omega
theorem Zfj(n:Nat):opG cloB n=some (.ret none [.pf,.s cloB,.i .to,.sl,.o 0 (.int .i64),.o 1 (.int .i64),.o 2 .str,.o 3 .sl,.i .num],⟨[.clo],0,900⟩):=kr
theorem Zav{c:CodeX}{p:PrcX}{y:InsX}(h:insOk c p y=true)(h1:y.op≠z14):(∃G st,opG y.op y.args.length=some (.ret none G,st))∧(y.op≠cloB→okG y.op (opG y.op y.args.length)=true):=by
 have hg:=z8a h;have hcc:y.op≠ccB:=fun e=>by rw[Zbe e]at h;cases h
 have key:y.op≠cloB→okG y.op (opG y.op y.args.length)=true:=fun h2=>by
  have hm:(y.op,y.args.length)∈opsG:=by
   refine zmf.2 ⟨?_,qW hcc⟩;simp only[zma,zmc,zmp,Prod.mk.injEq];by_cases e1:y.op=movB
   .exact .inl (.inl (.inl (.inl ⟨e1,hg.move e1⟩)))
   by_cases e2:y.op=hldB
   .exact .inl (.inl (.inl (.inr (.inl ⟨e2,Zem h e2⟩))))
   by_cases e3:y.op=tieB
   .exact .inl (.inl (.inl (.inr (.inr (.inl ⟨e3,(hg.tie e3).1⟩)))))
   rcases Zlb (hg.prim h1 e1 e2 h2 e3)with⟨q,m⟩|⟨q,m⟩|⟨q,m⟩|⟨q,m⟩
   .exact .inl (.inl (.inl (.inr (.inr (.inr ⟨_,m,rfl,q.symm⟩)))))
   .exact .inl (.inl (.inr ⟨_,m,rfl,q.symm⟩))
   .exact .inl (.inr ⟨_,m,rfl,q.symm⟩)
   .exact .inr ⟨_,m,rfl,q.symm⟩
  exact zat.1 Zon _ hm
 refine⟨?_,key⟩;by_cases h2:y.op=cloB
 .rw[h2];exact⟨_,_,Zfj _⟩
 .have:=key h2;unfold okG at this;split at this
  .exact⟨_,_,by assumption⟩
  .cases this
section
variable {S0 K:PH}{x:FX}{pu nx:Int}{l:List ItemR}{k:Nat}{J:List Itm}
theorem Zqj{c:CodeX}(hx:FOk S0 x)(hp:0≤pu∧pu≤100000)(gc:GoodC c)(hc:c.length≤x.ents.length)(hregs:∀r,0≤r∧r<x.p.regs→x.has r)(y:InsX)(hok:insOk c x.p y=true)(av dv:Value)(hy:InR S0 y av dv)(h0:GnH S0 K x pu nx l (k+3000) J):
  Tri zP 85 #[pAt x.rf,.agg (inV y av dv).toArray] K (GnQ S0 x pu (insN nx y) (l++x.insL pu nx y) k J):=by
 have hg:=z8a hok;by_cases e1:y.op=z14
 .have a1:x.insL pu nx y=x.constL pu y:=qj e1;have a2:insN nx y=nx:=qj e1;rw[a1,a2];exact Z9d hx hp _ av dv hy e1 (hregs _ (hg.to (by rw[e1];decide))) (h0.less om)
 obtain⟨⟨G,st,hO⟩,_⟩:=Zav hok e1;have a1:x.insL pu nx y=st.segs.flatMap (GS.l (x.gn pu nx y)):=by unfold FX.insL;rw[qc e1,hO]
 have a2:insN nx y=nx+(st.nl:Int):=by unfold insN;rw[qc e1,hO]
 rw[a1,a2];obtain⟨ab,ac,hav⟩:=hy.args.sl;obtain⟨db,dc,hdv⟩:=hy.cl.sl;refine qr zb7 ([pAt x.rf]++inV y av dv) ?_ (by rw[hav,hdv];kernel_rfl) kr;have hGok:=Zqw (l:=l) (k:=k) (J:=J) (nx:=nx) h0.n0 hx hp hy (fun e=>hregs _ (hg.to e)) (fun r hr=>hregs r (hg.args r hr)) (zuv gc hok) fun e=>by
  have:=hg.closure e;omega
 have e3:Tag.sl.ok dv=true:=by rw[hdv];rfl
 refine gI_ok hGok 300 _ _ _ _ _ hO _ _ _ _ _ (.cons rfl (.cons rfl (.cons rfl (.cons rfl (.cons ⟨rfl,rfl⟩ (.cons ⟨rfl,rfl⟩ (.cons ⟨rfl,rfl⟩ (.cons ⟨rfl,e3⟩ (.cons rfl .nil))))))))) ?_ ?_
 .show GnH S0 K x pu (nx+0) (l++[]) (k+3000) J;rw[zan,Int.add_zero];exact h0
 .intro v E H L _ hv hI;refine⟨?_,hI.less om⟩;rw[show evV E (fun _=>0) v=_ from hv]
end
noncomputable def FX.inssL(x:FX):Int→List InsX→List ItemR
 |_,[]=>[]
 |nx,y::ys=>x.insL 0 nx y++x.inssL (insN nx y) ys
noncomputable def inssN:Int→List InsX→Int
 |nx,[]=>nx
 |nx,y::ys=>inssN (insN nx y) ys
noncomputable def FX.blksL(x:FX):Nat→Int→List BlkX→List ItemR
 |_,_,[]=>[]
 |i,nx,b::bs=>[⟨1,⟨0,0,0,0,0⟩,x.lab (i:Int),0⟩]++x.inssL nx b.ins++x.endL (i:Int) (inssN nx b.ins) b.e++x.blksL (i+1) (endN (inssN nx b.ins) b.e) bs
noncomputable def blksN:Int→List BlkX→Int
 |nx,[]=>nx
 |nx,b::bs=>blksN (endN (inssN nx b.ins) b.e) bs
noncomputable def FX.funL(x:FX)(lab nx:Int):List ItemR:=x.entL lab nx++[⟨3,⟨28,0,0,0,0⟩,x.lab 0,0⟩]++x.blksL 0 (x.roomN nx) x.p.blocks
noncomputable def FX.funN(x:FX)(nx:Int):Int:=blksN (x.roomN nx) x.p.blocks
noncomputable def fxP(p:PrcX)(ents:List Int)(syms:List (List UInt8))(stack nx:Int):FX:=
 ⟨0,0,p,(colP p 24).1,(colP p 24).2-24,(List.range p.blocks.length).map fun j:Nat=>nx+(j:Int),ents,syms,stack,.bool false,.bool false,.bool false,.bool false,.bool false⟩
def FX.bare(x:FX):FX:=⟨0,0,x.p,x.place,x.slots,x.labs,x.ents,x.syms,x.stack,.bool false,.bool false,.bool false,.bool false,.bool false⟩
theorem Zkm(x:FX)(pu nx:Int)(y:InsX):x.insL pu nx y=x.bare.insL pu nx y:=kr
theorem Z2y(x:FX):∀(i:Nat)(rs:List Int),x.passM i rs=x.bare.passM i rs
 |_,[]=>rfl
 |i,r::rs=>by
  rw[FX.passM,FX.passM,Z2y x (i+1) rs];rfl
theorem Z2a(x:FX)(pu:Int):∀(i:Nat)(rs:List Int),x.passD pu i rs=x.bare.passD pu i rs
 |_,[]=>rfl
 |i,r::rs=>by
  rw[FX.passD,FX.passD,Z2a x pu (i+1) rs];rfl
theorem Z35(x:FX)(pu c:Int)(rs:List Int):x.passL pu c rs=x.bare.passL pu c rs:=by
 unfold FX.passL;rw[Z2y,Z2a]
theorem Zir(x:FX)(b nx:Int)(e:EndX):x.endL b nx e=x.bare.endL b nx e:=by
 unfold FX.endL FX.leaveL FX.callL;rw[Z35,Z35]
 kernel_rfl
theorem Z0q(x:FX):∀(ys:List InsX)(nx:Int),x.inssL nx ys=x.bare.inssL nx ys
 | [],_=>rfl
 |y::ys,nx=>by rw[FX.inssL,FX.inssL,Z0q x ys,Zkm]
theorem Z1z(x:FX):∀(bs:List BlkX)(i:Nat)(nx:Int),x.blksL i nx bs=x.bare.blksL i nx bs
 | [],_,_=>rfl
 |b::bs,i,nx=>by
  rw[FX.blksL,FX.blksL,Z1z x bs,Z0q,Zir];rfl
theorem Ziv(x:FX)(lab nx:Int):x.funL lab nx=x.bare.funL lab nx:=by
 unfold FX.funL;rw[Z1z];rfl
theorem Ziu(x:FX)(nx:Int):x.funN nx=x.bare.funN nx:=rfl
structure GeH(S0 K:PH)(rg:Nat)(sv env:Value)(nx stack:Int)(l:List ItemR)(k:Nat)(J:List Itm):Prop where
 em:EmH S0 K rg 100 [sv,env,vi nx,vi stack] l k J
 n0:0≤nx
 nk:nx+k≤2199023255552
def costB(b:BlkX):Nat:=30000+3000*b.ins.length
def z4a(l:List BlkX):Nat:=(l.map costB).sum
theorem zxg(b:BlkX)(l:List BlkX):z4a (b::l)=costB b+z4a l:=by unfold z4a;rw[q9,List.sum_cons]
theorem Zin(l:List BlkX):l.length≤z4a l:=Z37 costB (fun b=>by unfold costB;omega) l
def costP(p:PrcX):Nat:=30000+2*z4a p.blocks
section
variable {S0 K:PH}{rg:Nat}{sv env:Value}{nx stack:Int}{l:List ItemR}{k:Nat}{J:List Itm}
theorem Zet{c:CodeX}(gc:GoodC c){p:PrcX}(hpc:p∈c){ents:List Int}{syms:List (List UInt8)}(bv:Value)(lab:Int)(hlab:InI lab)(h:GeH S0 K rg sv env nx stack l (k+costP p) J)(hst:0≤stack∧stack≤131072)
  (hbv:SlR S0 p.blocks bv) (hen:SlR S0 ents env) (hel:c.length≤ents.length) (hsy:SlR S0 syms sv) :
  Tri zP 43 #[pAt rg,.agg (prcVs p bv).toArray,vi lab] K fun e K'=>e=.returned (.tuple #[])∧GeH S0 K' rg sv env ((fxP p ents syms stack nx).funN (nx+p.blocks.length)) stack (l++(fxP p ents syms stack nx).funL lab (nx+p.blocks.length)) k J:=by
 have gp:=gc.prc hpc;obtain⟨hfit,hfew⟩:=gc.fit hpc;have hmay:=Z9e gp;have hH:∀q∈c,q.holds≤1000:=fun q hq=>(gc.prc hq).holds.2;have hn0:=h.n0;have hnk:=h.nk;obtain⟨⟨hl,S,iv,hS,hh⟩,_,_⟩:=h;have hbv0:=hbv;have hblk:=gp.blocks;have hcl:=Zin p.blocks;unfold costP at hl hnk;obtain⟨b0,c0,rfl⟩:=hbv.sl;refine qr zf7 ([pAt rg]++prcVs p (.slice b0 p.blocks.length c0)++[vi lab]) ?_;simp only[prcVs,cns];refine z03 (qb 39) (zv0 p (.slice b0 p.blocks.length c0) S K _ hh (hbv0.le hS) hfit hfew hmay) ?_;rintro _ K1 ⟨S1,rf,pl,pv,n,rfl,l1,hpl,hpd,hq1,hq2,hh1⟩;refine⟨_,[pAt rf],rfl,rfl,rfl,z01,fun _=>rfl,?_⟩;simp only[cns];refine z0b (off:=0) (vs:=[pAt rg]) rfl hh1 (by simp only[wz]) (by simp[oneC]) sM fun K2 hh2=>?_;have hS1:=wx hS l1;have hup:∀{i n:Nat},i<n→n≤100000→IntKind.i64.wrap ((i:Int)+1)=((i+1:Nat):Int):=fun h h'=>by rw[w64 om om];rfl
 refine ⟨fun m vs K=>∃(i:Nat) (lv:Value) (S2:PH) (iv:Value),i+m=p.blocks.length∧vs=[nI i]∧PH.le S1 S2∧Held S2 K (bx rg 100 [iv,sv,env,vi (nx+i),vi stack]::orow 131 l iv::bx rf 142 [pAt rg,vi p.params,vi p.holds,vi p.regs,.slice b0 p.blocks.length c0,pv,vi n,lv,vi 0]::orow 3 ((List.range i).map fun j:Nat=>nx+(j:Int)) lv::J),
  ⟨p.blocks.length,0,.slice none 0 0,S1,iv,om,rfl,wy _,?_⟩,?_⟩
 .have h3:=hh2.empty (α:=Int) 3;rw[show nx+((0:Nat):Int)=nx by omega];exact h3.perm (by
   refine(qq _ _ _).trans ?_;refine List.Perm.trans ?_ (qA (l₁:=[_,_]) (l₂:=_)).symm;refine List.Perm.cons _ ?_;exact(qA (l₁:=[_,_]) (l₂:=J)).symm)
 rintro m vs K3 _ ⟨i,lv,S2,iv2,him,rfl,l2,hh3⟩;have hlr:=(hh3.row (e:=3) (l:=(List.range i).map fun j:Nat=>nx+(j:Int)) (v:=lv) sM);obtain⟨lb,lc,hlv⟩:=hlr.sl;simp only[cns];refine⟨fun g=>?_,fun g=>?_⟩
 .simp only[wz,zdt]at g;have hrf:∀off n',rowAt K3 (some ⟨rf,off,none⟩) ((([pAt rg,vi p.params,vi p.holds,vi p.regs,.slice b0 p.blocks.length c0,pv,vi n,lv,vi 0]:List Value).drop off).take n'):=fun off n'=>z1k (T:=142) hh3 sM off n';refine⟨[lv],by rw[hlv];rfl,hrf 7 1,?_⟩;simp only[cns];have hem:EmH S1 K3 rg 100 [sv,env,vi (nx+i),vi stack] l k (bx rf 142 [pAt rg,vi p.params,vi p.holds,vi p.regs,.slice b0 p.blocks.length c0,pv,vi n,lv,vi 0]::orow 3 ((List.range i).map fun j:Nat=>nx+(j:Int)) lv::J):=⟨om,S2,iv2,l2,hh3⟩;refine z03 (qb 42) (Zc5 hem om om) ?_;rintro _ K4 ⟨rfl,_,S4,iv4,l4,hh4⟩;have hrf4:∀off n',rowAt K4 (some ⟨rf,off,none⟩) ((([pAt rg,vi p.params,vi p.holds,vi p.regs,.slice b0 p.blocks.length c0,pv,vi n,lv,vi 0]:List Value).drop off).take n'):=fun off n'=>z1k (T:=142) hh4 sM off n';refine⟨_,[vi (nx+i)],rfl,rfl,rfl,z0o (hrf4 7 1) z01,?_⟩;simp only[cns];have hh5:=hh4.perm (qA (l₁:=[_,_,_]) (l₂:=J));refine z1w (b:=8) (more:=[nx+(i:Int)]) [vi (nx+i)] z0j z0s rfl dC dC hh5 kr (.cons (z0e (inJ om om)) .nil) (z0o (hrf4 7 1) z01) (fun w=>kr) (fun w=>kr)
   (by simp only[zlm,wi,maxLen,zlc,zln];omega) (by simp only[zlm,wi,zlc,zln];omega) fun w5 v5 S5 K5 l5 hh6=>⟨z01,?_⟩
  simp only[cns];obtain⟨b6,c6,hv6⟩:=(hh6.row (e:=3) (zms)).sl;refine z0b (T:=142) (off:=7) (vs:=[v5]) rfl (hh6.perm (qA (l₁:=[_,_,_]) (l₂:=J))) (by simp only[wz]) (by intro u hu;rw[zsi.1 hu,hv6];rfl) sM fun K6 hh8=>?_;refine⟨_,z00,m-1,om,i+1,v5,S5,iv4,om,by simp only[wz,hup (show i<p.blocks.length by omega) om],wx l4 l5,?_⟩;rw[show(List.range (i+1)).map (fun j:Nat=>nx+(j:Int))=(List.range i).map (fun j:Nat=>nx+(j:Int))++[nx+(i:Int)]from zuw _ i,show nx+((i+1:Nat):Int)=nx+i+1 by omega];exact hh8.perm (List.Perm.append_right J (List.perm_append_comm (l₁:=[_,_]) (l₂:=[_,_])))
 simp only[wz,zdf]at g;obtain rfl:i=p.blocks.length:=om;obtain⟨S3,s3,l3,hh4⟩:=(hh3.perm (qA (l₁:=[_,_,_]) (l₂:=J))).freeze;have hS3:=wx hS1 (wx l2 l3);obtain⟨x,hxE⟩:∃x:FX,x=⟨rg,rf,p,pl,n,(List.range p.blocks.length).map fun j:Nat=>nx+(j:Int),ents,syms,stack,.slice b0 p.blocks.length c0,pv,lv,env,sv⟩:=⟨_,rfl⟩;have hbare:x.bare=fxP p ents syms stack nx:=by rw[hxE,hq1,hq2];rfl
 rw[←hbare,←Ziv,←Ziu];have hplen:pl.length=p.regs.toNat:=hpd.len;have hreg:=gp.regs;have hpar:=gp.params;have hlo:=hpd.lo;have hhi:=hpd.hi;have hx:FOk S3 x:=by
  rw[hxE];refine⟨hbv0.le hS3,hpl.le (wx l2 l3),s3,hen.le hS3,hsy.le hS3,fun a ha=>?_,by show 0≤n∧n≤3000;omega,hst⟩;obtain⟨r,hr⟩:=qH ha;have:=hpd.all r a hr;omega
 have xrf:x.rf=rf:=by rw[hxE]
 have xrg:x.rg=rg:=by rw[hxE]
 have xp:x.p=p:=by rw[hxE]
 have xpl:x.place=pl:=by rw[hxE]
 have xla:x.labs=(List.range p.blocks.length).map fun j:Nat=>nx+(j:Int):=by rw[hxE]
 have xlv:x.lv=lv:=by rw[hxE]
 have xen:x.ents=ents:=by rw[hxE]
 have hregs:∀r,0≤r∧r<x.p.regs→x.has r:=fun r hr=>by
  rw[xp]at hr;unfold FX.has;rw[xpl];omega
 have hf:FnOk x:=⟨by rw[xp];exact hfit,by rw[xp];exact hfew,fun r hr=>hregs r (by rw[xp]at hr⊢;exact zqx gp r hr),by rw[xpl];omega⟩;have hlabs:x.labs.length=x.p.blocks.length:=by rw[xla,xp];simp
 have hg4:GnH S3 K3 x 0 (nx+p.blocks.length) l (k+30000+z4a p.blocks) J:=by
  rw[hxE];exact⟨⟨om,S3,iv2,wy _,hh4⟩,om,om⟩
 have fin:∀{K':PH} {l':List ItemR} {n':Int},GnH S3 K' x 0 n' l' k J→GeH S0 K' rg sv env n' stack l' k J:=fun h=>by
  obtain⟨⟨q1,S4,iv4,q2,q3⟩,q4,q5⟩:=h;rw[hxE]at q3;exact⟨⟨q1,S4,iv4,wx hS3 q2,(q3.perm (qA (l₁:=[_,_]) (l₂:=J))).tail⟩,q4,q5⟩
 have labR:∀{K':PH} {nx':Int} {l':List ItemR} {k':Nat} {j:Nat},j<p.blocks.length→GnH S3 K' x 0 nx' l' k' J→x.lv=.slice (z09 x.lv) x.labs.length (slCap x.lv)∧((z09 x.lv).isSome=true∧(0:Int)≤(j:Int)∧(j:Int)<(slLen x.lv:Int))∧rowAt K' (pOf (eltV x.lv (j:Int) 1)) [vi (x.lab (j:Int))]∧InI (x.lab (j:Int)):=fun{K'}{nx'}{l'}{k'}{j}hn h=>by
  have hlt:(0:Int)≤(j:Int)∧(j:Int)<(x.labs.length:Int):=by rw[hlabs,xp];omega
  obtain⟨z1,z2,z3,z4⟩:=zzs hx h (j:Int) hlt;exact⟨z1,⟨z2,hlt.1,by rw[z1];exact hlt.2⟩,z3,z4⟩
 rw[←xrf];refine z05 (qb 84) (Zlw (k:=k+10000+z4a p.blocks) hx hf lab hlab (by rw[xp];omega) (by rw[xp];omega) (hg4.less om)) fun K4 h4=>?_;obtain⟨z1,z2,z3,z4⟩:=labR (j:=0) om h4;refine⟨[pAt x.rg],rfl,h4.frow 0 1,fun _=>rfl,[x.lv],by rw[z1];rfl,h4.frow 7 1,fun _=>z2,[vi (x.lab ((0:Nat):Int))],rfl,z3,?_⟩;simp only[cns];refine z05 (qb 60) ((h4.less (k':=k+z4a p.blocks+1) om).to (z6v (x.lab ((0:Nat):Int)) z4)) fun K5 h5=>?_;obtain⟨Lf,hLf⟩:∃Lf,Lf=l++x.funL lab (nx+p.blocks.length):=⟨_,rfl⟩;obtain⟨Nf,hNf⟩:∃Nf,Nf=x.funN (nx+p.blocks.length):=⟨_,rfl⟩;rw[←hLf,←hNf];have hLf':(l++x.entL lab (nx+p.blocks.length)++[⟨3,⟨28,0,0,0,0⟩,x.lab ((0:Nat):Int),0⟩])++x.blksL 0 (x.roomN (nx+p.blocks.length)) p.blocks=Lf:=by
  rw[hLf];unfold FX.funL;rw[xp];simp only[zaa];rfl
 have hNf':blksN (x.roomN (nx+p.blocks.length)) p.blocks=Nf:=by rw[hNf];unfold FX.funN;rw[xp]
 refine⟨fun m vs K=>∃(i:Nat)(n':Int)(l':List ItemR),i+m=p.blocks.length∧vs=[nI i]∧GnH S3 K x 0 n' l' (k+z4a (p.blocks.drop i)) J∧l'++x.blksL i n' (p.blocks.drop i)=Lf∧blksN n' (p.blocks.drop i)=Nf,⟨p.blocks.length,0,_,_,om,rfl,h5,hLf',hNf'⟩,?_⟩;clear h4 h5 hg4;rintro m vs K6 _ ⟨i,n6,l6,him,rfl,h6,hL6,hN6⟩;simp only[cns];refine⟨fun g=>?_,fun g=>?_⟩;rotate_left
 .simp only[wz,zdf]at g;obtain rfl:i=p.blocks.length:=om;rw[List.drop_length]at h6 hL6 hN6;rw[FX.blksL,zan]at hL6;rw[blksN]at hN6;rw[←hL6,←hN6];exact⟨rfl,fin (h6.less om)⟩
 simp only[wz,zdt]at g;obtain⟨b,hb⟩:∃b,p.blocks[i]?=some b:=⟨_,zge om⟩;have hdr:p.blocks.drop i=b::p.blocks.drop (i+1):=by
  rw[←List.getElem_cons_drop (zgi.1 hb).1,(zgi.1 hb).2]
 have hbm:=zmg hb;rw[hdr,FX.blksL]at hL6;rw[hdr,blksN]at hN6;rw[hdr,zxg,costB]at h6;obtain⟨hil,hio⟩:=gp.ins b hbm;obtain⟨y1,_,ycs,y2,y3⟩:=(hbv0.le hS3).get hb;obtain⟨iv6,es,rfl,i1,i2⟩:=blk_iff.1 y2;obtain⟨av,rfl,e1,e2,e3,e4,e5,e6⟩:=end_iff.1 i2;obtain⟨ab,ac,hav⟩:=e3.sl;have i10:=i1;obtain⟨ib,ic,rfl⟩:=i1.sl;refine⟨fun _=>⟨y1,by show(0:Int)≤(i:Int);omega,by show(i:Int)<(p.blocks.length:Int);omega⟩,[.slice ib b.ins.length ic,vi b.e.kind,vi b.e.reg,av,vi b.e.to,vi b.e.next,vi b.e.els],by rw[hav];rfl,z0p h6.sh y3,?_⟩;simp only[cns];obtain⟨z1,z2,z3,z4⟩:=labR (j:=i) om h6;refine⟨[pAt x.rg],rfl,h6.frow 0 1,fun _=>rfl,[x.lv],by rw[z1];rfl,h6.frow 7 1,fun _=>z2,[vi (x.lab (i:Int))],rfl,z3,?_⟩;simp only[cns];refine z05 (qb 51) ((h6.less (k':=k+z4a (p.blocks.drop (i+1))+25000+3000*b.ins.length+1) om).to (z5d (x.lab (i:Int)) z4)) fun K7 h7=>?_;obtain⟨l7,hl7⟩:∃l7,l7=l6++[⟨1,⟨0,0,0,0,0⟩,x.lab (i:Int),0⟩]:=⟨_,rfl⟩;rw[←hl7]at h7;refine⟨fun q vs K=>∃(u:Nat)(n':Int)(l':List ItemR),u+q=b.ins.length∧vs=[nI u]∧GnH S3 K x 0 n' l' (k+z4a (p.blocks.drop (i+1))+25000+3000*q) J∧l'++x.inssL n' (b.ins.drop u)=l7++x.inssL n6 b.ins∧inssN n' (b.ins.drop u)=inssN n6 b.ins,⟨b.ins.length,0,n6,l7,om,rfl,h7,rfl,rfl⟩,?_⟩;clear h6 h7;rintro q vs K8 _ ⟨u,n8,l8,huq,rfl,h8,hL8,hN8⟩;simp only[cns];refine⟨fun g2=>?_,fun g2=>?_⟩
 .simp only[wz,zdt]at g2;obtain⟨y,hy⟩:∃y,b.ins[u]?=some y:=⟨_,zge om⟩;have hdy:b.ins.drop u=y::b.ins.drop (u+1):=by
   rw[←List.getElem_cons_drop (zgi.1 hy).1,(zgi.1 hy).2]
  rw[hdy,FX.inssL]at hL8;rw[hdy,inssN]at hN8;obtain⟨q',rfl⟩:∃q',q=q'+1:=⟨q-1,om⟩;obtain⟨w1,_,wcs,w2,w3⟩:=i10.get hy;obtain⟨wv,dv,rfl,q1,q2,q3,q4,q5,q6,q7,q8⟩:=ins_iff.1 w2;obtain⟨wb,wc,hwv⟩:=q3.sl;obtain⟨db,dc,hdv⟩:=q7.sl;refine⟨fun _=>⟨w1,by show(0:Int)≤(u:Int);omega,by show(u:Int)<(b.ins.length:Int);omega⟩,inV y wv dv,by rw[hwv,hdv];rfl,z0p h8.sh w3,?_⟩;simp only[inV,cns];refine z05 (qb 85) (Zqj (c:=c) (k:=k+z4a (p.blocks.drop (i+1))+25000+3000*q') hx om gc (by rw[xen];exact hel) hregs y (by rw[xp];exact hio y (zmg hy)) wv dv ⟨q1,q2,q3,q4,q5,q6,q7,q8⟩ (h8.less om)) fun K9 h9=>?_;refine⟨_,z00,q',om,u+1,_,_,om,by simp only[wz,hup (show u<b.ins.length by omega) om],h9,?_,hN8⟩;rw[zaa];exact hL8
 .simp only[wz,zdf]at g2;obtain rfl:u=b.ins.length:=om;rw[List.drop_length]at hL8 hN8;rw[FX.inssL,zan]at hL8;rw[inssN]at hN8;subst hN8;refine z05 (qb 86) (Zqm (k:=k+z4a (p.blocks.drop (i+1))) hx hf hregs hlabs (i:Int) b.e av ⟨e1,e2,e3.le (wy _),e4,e5,e6⟩ (by rw[xp];exact gp.fin b hbm) (h8.less om)) fun K9 h9=>?_;refine⟨_,(z2g dC).trans z00,m-1,om,i+1,_,_,om,by simp only[wz,hup (show i<p.blocks.length by omega) om],h9,?_,hN6⟩;rw[hL8,hl7];simpa only[zaa]using hL6
end
def gsY(acc:List (List UInt8))(y:InsX):List (List UInt8):=if y.op=z14∧y.const.kind=4∧acc.contains y.const.text=false then acc++[y.const.text]else acc
def gsB(acc:List (List UInt8))(b:BlkX):List (List UInt8):=b.ins.foldl gsY acc
def gsP(acc:List (List UInt8))(p:PrcX):List (List UInt8):=p.blocks.foldl gsB acc
def gsC(c:CodeX):List (List UInt8):=c.foldl gsP []
theorem z6k{α β:Type}{f:List β→α→List β}{m:Nat}:∀(l:List α)(acc:List β),(∀a∈l,∀acc,(f acc a).length≤acc.length+m)→(l.foldl f acc).length≤acc.length+m*l.length
 | [],acc,_=>sM
 |a::l,acc,h=>by
  have h1:=z6k l (f acc a) fun b hb=>h b (zmm _ hb);have h2:=h a (zms) acc;rw[List.foldl_cons,zlc,Nat.mul_succ];omega
theorem zry{α β:Type}{f:β→α→β}{l:List α}{i:Nat}{a:α}(h:l[i]?=some a)(acc:β):(l.take (i+1)).foldl f acc=f ((l.take i).foldl f acc) a:=by
 rw[qZ,h,List.foldl_append];rfl
theorem Zf1(y:InsX)(acc:List (List UInt8)):(gsY acc y).length≤acc.length+1:=by unfold gsY;split<;>simp
theorem Zfa{b:BlkX}(h:b.ins.length≤4096)(acc:List (List UInt8)):(gsB acc b).length≤acc.length+4096:=by
 have:=z6k (m:=1) b.ins acc fun a _ acc=>Zf1 a acc;unfold gsB;omega
theorem Zfl{c:CodeX}{p:PrcX}(h:GoodP c p)(acc:List (List UInt8)):(gsP acc p).length≤acc.length+16777216:=by
 have:=z6k (m:=4096) p.blocks acc fun b hb acc=>Zfa (h.ins b hb).1 acc;have:=h.blocks;unfold gsP;omega
theorem csTxG{H:PH}{l:List UInt8}{cs:List Value}(h:CsR H l cs):cs=[txt l]∧l.length≤maxLen:=by
 obtain⟨v,vs,rfl,⟨rfl,h2⟩,rfl⟩:=h;exact⟨rfl,h2⟩
theorem Zo2{H:PH}{l:List UInt8}(h:l.length≤maxLen):CsR H l [txt l]:=⟨_,_,rfl,⟨rfl,h⟩,rfl⟩
theorem uTxG:Tryz.prog.underlying 24=some (.slice 9):=kr
theorem Z50:ElemOk zP 9 1 16=true:=kr
theorem Zi6(l:List (List UInt8))(s:List UInt8)(v:Value)(H:PH)(hl:SlR H l v):Tri zP 35 #[v,txt s] H fun e H'=>∃n:Int,e=.returned (vi n)∧decide (0≤n)=l.contains s∧PH.le H H':=by
 obtain⟨b,c,rfl⟩:=hl.sl;have hm:=hl.max;simp only[maxLen]at hm;refine qr z3y [.slice b l.length c,txt s] ?_;refine⟨fun n vs H'=>∃k:Nat,vs=[vi 0,vi k]∧k+n=l.length∧s∉l.take k∧PH.le H H',⟨l.length,0,rfl,om,sM,wy H⟩,?_⟩;rintro n vs H' _ ⟨k,rfl,hkn,hno,hle⟩;refine⟨fun h=>?_,fun h=>?_⟩
 .simp only[wz,zdt]at h;obtain⟨a,ha⟩:∃a,l[k]?=some a:=⟨_,zge (show k<l.length by omega)⟩;obtain⟨g1,_,ces,g2,g3⟩:=(hl.le hle).get ha;obtain⟨rfl,_⟩:=csTxG g2;refine⟨fun _=>?_,[txt a],rfl,?_,fun h2=>?_,fun h2=>?_⟩
  .simp only[Chk.holds,wz];exact⟨g1,om,om⟩
  .simp only[wz];exact g3
  .simp only[wz,z06,zdt]at h2;subst h2;exact⟨k,rfl,by rw[List.contains_iff_mem.2 (zmg ha)];simp,hle⟩
  .simp only[wz,z06,zdf]at h2;refine⟨_,z00,n-1,om,k+1,?_,om,fun hx=>?_,hle⟩
   .simp only[wz];rw[w64 om om];rfl
   .rw[qZ,ha]at hx;rcases zma.1 hx with hx|hx
    .exact hno hx
    .exact h2 (zsi.1 hx)
 .simp only[wz,zdf]at h;rw[ztl om]at hno;refine⟨-1,rfl,?_,hle⟩;cases hc:l.contains s with
  |false=>rfl
  |true=>exact absurd (List.contains_iff_mem.1 hc) hno
theorem Z29(l:List (List UInt8))(s:List UInt8)(v:Value)(H:PH)(hl:SlR H l v):Gives zP 83 [v,txt s] H (.bool (l.contains s)):=by
 obtain⟨b,c,rfl⟩:=hl.sl;refine qr z7a [.slice b l.length c,txt s] ?_;refine z03 (qb 35) (Zi6 l s _ H hl) ?_;rintro e H' ⟨n,rfl,h1,h2⟩;refine⟨_,[_],rfl,rfl,rfl,z01,?_,h2⟩;simp only[wz,h1]
theorem Zh0(l:List (List UInt8))(v:Value)(S:PH)(h:SlR S l v)(hl:l.length≤6000000000):Tri zP 44 #[v] S fun x S'=>PH.le S S'∧∃v',x=.returned v'∧SlR S' l v':=by
 obtain⟨b,c,hv⟩:=h.sl;subst hv;refine qr z9d [.slice b l.length c] ?_;refine⟨fun g=>?_,fun g=>?_⟩
 .simp only[wz]at g;have:b=none:=by
   cases b with
   |none=>rfl
   |some a=>simp[z4x]at g
  subst this;refine⟨wy S,_,rfl,?_⟩;have hl0:l=[]:=by
   rcases(SlR.mk_iff.1 h).2 with⟨_,e⟩|⟨a,c',e,_⟩
   .exact e
   .cases e
  rw[hl0];exact SlR.mk_iff.2 ⟨Nat.zero_le _,.inl ⟨rfl,rfl⟩⟩
 .refine zm5 (α:=List UInt8) (b:=16) uTxG Z50 (Held.nil (wy S)) z01 fun v1 H1 h1 _ _=>?_;refine z47 (b:=16) (more:=l) uTxG Z50 kr kr h1 (h.srcS h1.sh) (by simp only[maxLen,zln];omega) (by simp only[zln];omega) fun v2 H2 h2 _=>⟨z01,?_⟩;obtain⟨S3,s3,l3,h3⟩:=h2.freeze;exact⟨wx l3 h3.sh,v2,rfl,s3.le h3.sh⟩
theorem Zd8{c:CodeX}(gc:GoodC c)(cv:Value)(S:PH)(hc:SlR S c cv):Tri zP 41 #[.agg #[cv]] S fun e S'=>PH.le S S'∧∃v,e=.returned v∧SlR S' (gsC c) v:=by
 have hcn:=gc.few;have hc0:=hc;obtain⟨cb,cc,rfl⟩:=hc.sl;have hup:∀{i n:Nat},i<n→n≤100000→IntKind.i64.wrap ((i:Int)+1)=((i+1:Nat):Int):=fun h h'=>by rw[w64 om om];rfl
 refine qr Z0h [.slice cb c.length cc] ?_;have st:=(Held.nil (wy S)).empty (α:=List UInt8) 9;refine⟨fun n vs K=>∃(i:Nat)(u:Value)(S':PH),i+n=c.length∧vs=[u,nI i]∧PH.le S S'∧Held S' K [orow 9 ((c.take i).foldl gsP []) u],⟨c.length,0,.slice none 0 0,S,om,rfl,wy _,st⟩,?_⟩;rintro n vs K1 _ ⟨i,u1,S1,hin,rfl,l1,h1⟩;obtain⟨ub,uc,hu⟩:=(h1.row (zms)).sl;simp only[cns];refine⟨fun g=>?_,fun g=>?_⟩;rotate_left
 .simp only[wz,zdf]at g;obtain rfl:i=c.length:=om;rw[List.take_length]at h1;obtain⟨S2,s2,l2,h2⟩:=h1.freeze;exact⟨wx l1 (wx l2 h2.sh),u1,rfl,s2.le h2.sh⟩
 simp only[wz,zdt]at g;obtain⟨p,hp⟩:∃p,c[i]?=some p:=⟨_,zge om⟩;have hpm:=zmg hp;have gp:=gc.prc hpm;have gpb:=gp.blocks;have hA:=z6k (m:=16777216) (f:=gsP) (c.take i) [] fun q hq acc=>Zfl (gc.prc (List.mem_of_mem_take hq)) acc;rw[List.length_take,zln]at hA;generalize hacc:(c.take i).foldl gsP []=acc at *;obtain⟨x1,_,cs,x2,x3⟩:=hc0.get hp;obtain⟨bv,rfl,p1,p2,p3,p4⟩:=prc_iff.1 x2;have p40:=p4;obtain⟨pb,pc,rfl⟩:=p4.sl;refine⟨fun _=>⟨x1,by show(0:Int)≤(i:Int);omega,by show(i:Int)<(c.length:Int);omega⟩,[vi p.params,vi p.holds,vi p.regs,.slice pb p.blocks.length pc],rfl,z0p (wx l1 h1.sh) x3,?_⟩;simp only[cns];refine⟨fun m vs K=>∃(j:Nat)(u:Value)(S':PH),j+m=p.blocks.length∧vs=[u,nI j]∧PH.le S S'∧Held S' K [orow 9 ((p.blocks.take j).foldl gsB acc) u],⟨p.blocks.length,0,u1,S1,om,rfl,l1,h1⟩,?_⟩;rintro m vs K2 _ ⟨j,u2,S2,hjm,rfl,l2,h2⟩;obtain⟨ub2,uc2,hu2⟩:=(h2.row (zms)).sl;simp only[cns];refine⟨fun g=>?_,fun g=>?_⟩;rotate_left
 .simp only[wz,zdf]at g;obtain rfl:j=p.blocks.length:=om;rw[List.take_length]at h2;refine⟨_,(z2g dC).trans z00,n-1,om,i+1,u2,S2,om,by simp only[wz,hup (show i<c.length by omega) om],l2,?_⟩;rw[zry hp,hacc];exact h2
 simp only[wz,zdt]at g;obtain⟨b,hb⟩:∃b,p.blocks[j]?=some b:=⟨_,zge om⟩;have hbm:=zmg hb;have gbi:=(gp.ins b hbm).1;have hB:=z6k (m:=4096) (f:=gsB) (p.blocks.take j) acc fun q hq acc=>Zfa (gp.ins q (List.mem_of_mem_take hq)).1 acc;rw[List.length_take]at hB;generalize hacc2:(p.blocks.take j).foldl gsB acc=acc2 at *;obtain⟨y1,_,ycs,y2,y3⟩:=p40.get hb;obtain⟨iv,es,rfl,i1,i2⟩:=blk_iff.1 y2;have i10:=i1;obtain⟨ib,ic,rfl⟩:=i1.sl;obtain⟨av,rfl,e1,e2,e3,e4,e5,e6⟩:=end_iff.1 i2;obtain⟨ab,ac,hav⟩:=e3.sl;refine⟨fun _=>⟨y1,by show(0:Int)≤(j:Int);omega,by show(j:Int)<(p.blocks.length:Int);omega⟩,[.slice ib b.ins.length ic,vi b.e.kind,vi b.e.reg,av,vi b.e.to,vi b.e.next,vi b.e.els],by rw[hav];rfl,z0p (wx l2 h2.sh) y3,?_⟩;simp only[cns];refine⟨fun m vs K=>∃(q:Nat)(u:Value)(S':PH),q+m=b.ins.length∧vs=[u,nI q]∧PH.le S S'∧Held S' K [orow 9 ((b.ins.take q).foldl gsY acc2) u],⟨b.ins.length,0,u2,S2,om,rfl,l2,h2⟩,?_⟩;rintro m3 vs K3 _ ⟨q,u3,S3,hqm,rfl,l3,h3⟩;obtain⟨ub3,uc3,hu3⟩:=(h3.row (zms)).sl;simp only[cns];refine⟨fun g=>?_,fun g=>?_⟩;rotate_left
 .simp only[wz,zdf]at g;obtain rfl:q=b.ins.length:=om;rw[List.take_length]at h3;refine⟨_,(z2g dC).trans z00,m-1,om,j+1,u3,S3,om,by simp only[wz,hup (show j<p.blocks.length by omega) om],l3,?_⟩;rw[zry hb,hacc2];exact h3
 simp only[wz,zdt]at g;obtain⟨y,hy⟩:∃y,b.ins[q]?=some y:=⟨_,zge om⟩;have hC:=z6k (m:=1) (f:=gsY) (b.ins.take q) acc2 fun a _ acc=>Zf1 a acc;rw[List.length_take]at hC;generalize hacc3:(b.ins.take q).foldl gsY acc2=acc3 at *;obtain⟨z1,_,zcs,z2,z3⟩:=i10.get hy;obtain⟨wv,dv,rfl,q1,q2,q3,q4,q5,q6,q7,q8⟩:=ins_iff.1 z2;obtain⟨wb,wc,hwv⟩:=q3.sl;obtain⟨db,dc,hdv⟩:=q7.sl;refine⟨fun vs K=>∃(u:Value)(S':PH),vs=[u]∧PH.le S S'∧Held S' K [orow 9 (gsY acc3 y) u],?_,fun _=>⟨z1,by show(0:Int)≤(q:Int);omega,by show(q:Int)<(b.ins.length:Int);omega⟩,inV y wv dv,by rw[hwv,hdv];rfl,z0p (wx l3 h3.sh) z3,?_⟩
 .rintro vs K _ ⟨u,S',rfl,l,h⟩;refine⟨_,z00,m3-1,om,q+1,u,S',om,by simp only[wz,hup (show q<b.ins.length by omega) om],l,?_⟩;rw[zry hy,hacc3];exact h
 simp only[inV,cns];refine⟨fun vs K=>vs=[.bool (decide (y.op=z14)&&decide (y.const.kind=4) && !acc3.contains y.const.text)]∧PH.le K3 K,?_,fun g2=>?_,fun g2=>?_⟩;rotate_left
 .simp only[wz,z06]at g2;simp only[zba,zdt]at g2;refine z02 [.bool (acc3.contains y.const.text)] (qb 83) (Z29 acc3 y.const.text u3 K3 ((h3.row (zms)).slR h3.sh)) rfl z01 fun K4 l4=>?_;refine⟨_,z00,?_,l4⟩;rw[qW (show y.op=z14 from g2.1),qW g2.2];rfl
 .simp only[wz,z06]at g2;refine⟨_,z00,?_,wy _⟩;have:(decide (y.op=z14)&&decide (y.const.kind=4))=false:=g2;rw[this];rfl
 rintro vs K4 _ ⟨rfl,k34⟩;simp only[cns];have h4:=h3.le k34;refine⟨fun g2=>?_,fun g2=>?_⟩
 .simp only[wz]at g2;simp only[zba,zdt,qy]at g2;have e1:gsY acc3 y=acc3++[y.const.text]:=by unfold gsY;rw[qj ⟨g2.1.1,g2.1.2,g2.2⟩]
  refine z1w (b:=16) (more:=[y.const.text]) [txt y.const.text] uTxG Z50 rfl dC dC h4 kr (.cons (Zo2 q6) .nil) z01 (fun _=>kr) (fun _=>kr)
   (by simp only[maxLen,zlc,zln];omega) (by simp only[zlc,zln];omega) fun w v5 S5 K5 l5 h5=>⟨z01,?_⟩
  refine⟨_,z00,v5,S5,rfl,wx l3 l5,by rw[e1];exact h5⟩
 .simp only[wz]at g2;have e1:gsY acc3 y=acc3:=by
   unfold gsY;rw[qc];rintro⟨a1,a2,a3⟩;rw[qW a1,qW a2,a3]at g2;cases g2
  exact⟨_,z00,u3,S3,rfl,l3,by rw[e1];exact h4⟩
noncomputable def roomF(p:PrcX):Int:=roomP p (colP p 24).1 ((colP p 24).2-24)
noncomputable def z4i(m:Int)(p:PrcX):Int:=if roomF p>m then roomF p else m
noncomputable def roomC(c:CodeX):Int:=c.foldl z4i 0+2
theorem Znu{c:CodeX}(gc:GoodC c){p:PrcX}(hp:p∈c)(hpd:Placed p 24 ((colP p 24).2-24) (colP p 24).1):0≤roomF p∧roomF p≤20003002:=by
 have gp:=gc.prc hp;obtain⟨hfit,hfew⟩:=gc.fit hp;have hlo:=hpd.lo;have hhi:=hpd.hi;have:=zzu (f:=fun i=>((z2o p (colP p 24).1 (i:Int)).length:Int)) (fun i=>by
  have h1:(z2o p (colP p 24).1 (i:Int)).length≤(z0w p (i:Int)).length:=List.length_filter_le _ _;have h2:=zsh hfit (i:Int);omega) p.blocks 0 0 om
 unfold roomF roomP;omega
def PlOk(p:PrcX):Prop:=Placed p 24 ((colP p 24).2-24) (colP p 24).1
theorem Znl(c:CodeX)(cv:Value)(S:PH)(hc:SlR S c cv)(hshort:∀p∈c,∀b∈p.blocks,b.ins.length≤4611686018427387904):Tri zP 14 #[.agg #[cv]] S fun x K=>PH.le S K∧x=.returned (.tuple #[vi (if z0u c=0 then roomC c else 0),vi (z0u c)])∧(z0u c=0→∀p∈c,PlOk p):=by
 have hcv:=zcx c cv S hc hshort;have hc0:=hc;obtain⟨cb,cc,rfl⟩:=hc.sl;refine qr Z8u [.slice cb c.length cc] ?_;refine z02 [vi (z0u c)] (qb 38) hcv rfl z01 fun K1 l1=>?_;simp only[cns];refine⟨fun g=>?_,fun g=>?_⟩
 .simp only[wz]at g;have g':¬z0u c=0:=by simpa using g
  rw[qc g'];exact⟨l1,rfl,fun h=>absurd h g'⟩
 have hck:z0u c=0:=by
  simp only[wz]at g;simpa using g
 have gc:=zek hck;have hcn:=gc.few;rw[qj hck,hck];have hup:∀{i n:Nat},i<n→n≤100000→IntKind.i64.wrap ((i:Int)+1)=((i+1:Nat):Int):=fun h h'=>by rw[w64 om om];rfl
 refine⟨fun n vs K=>∃(i:Nat)(m:Int),i+n=c.length∧vs=[vi m,nI i]∧PH.le S K∧m=(c.take i).foldl z4i 0∧(0≤m∧m≤20003002)∧∀q∈c.take i,PlOk q,⟨c.length,0,0,om,rfl,l1,rfl,om,fun q hq=>by simp at hq⟩,?_⟩;rintro n vs K2 _ ⟨i,m,hin,rfl,l2,hm,hmb,hpk⟩;simp only[cns];refine⟨fun g=>?_,fun g=>?_⟩;rotate_left
 .simp only[wz,zdf]at g;obtain rfl:i=c.length:=om;rw[List.take_length]at hm hpk;refine⟨l2,?_,fun _=>hpk⟩;show Ending.returned (.tuple #[vi (IntKind.i64.wrap (m+2)),vi 0])=_;rw[w64 om om,hm];rfl
 simp only[wz,zdt]at g;obtain⟨p,hp⟩:∃p,c[i]?=some p:=⟨_,zge om⟩;have hpm:=zmg hp;have gp:=gc.prc hpm;obtain⟨hfit,hfew⟩:=gc.fit hpm;obtain⟨x1,_,cs,x2,x3⟩:=hc0.get hp;obtain⟨bv,rfl,p1,p2,p3,p4⟩:=prc_iff.1 x2;have p40:=p4;obtain⟨pb,pc,rfl⟩:=p4.sl;refine⟨fun _=>⟨x1,by show(0:Int)≤(i:Int);omega,by show(i:Int)<(c.length:Int);omega⟩,[vi p.params,vi p.holds,vi p.regs,.slice pb p.blocks.length pc],rfl,z0p l2 x3,?_⟩;simp only[cns];refine z03 (qb 39) (zv0 p (.slice pb p.blocks.length pc) K2 K2 [] (Held.nil (wy K2)) (p40.le l2) hfit hfew (Z9e gp)) ?_;rintro _ K3 ⟨S3,rf,pl,pv,n3,rfl,l3,hpl,hpd,hq1,hq2,hh⟩;refine⟨_,[pAt rf],rfl,rfl,rfl,z01,?_⟩;simp only[cns];have hlo:=hpd.lo;have hhi:=hpd.hi;have hplen:pl.length=p.regs.toNat:=hpd.len;have hregs:=gp.regs;have hrb:=Znu gc hpm (by rw[←hq2,←hq1];exact hpd);have hrE:roomP p pl n3=roomF p:=by unfold roomF;rw[←hq2,←hq1]
 refine z03 (qb 40) (Z6v (gp:=.pointer none) (p:=p) (pv:=pv) (lv:=.slice none 0 0) (place:=pl) (slots:=n3) (pushed:=0) (rf:=rf) hh (zms) (p40.le (wx l2 l3)) hpl hfit hfew (fun b r hr=>?_) om) ?_
 .have:r∈p.regl:=by
   unfold z0w at hr;split at hr
   .split at hr
    .exact z50 (liveL_mem.1 (zmf.1 hr).1)
    .cases hr
   .cases hr
  have:=zqx gp r this;omega
 rintro _ K4 ⟨rfl,S4,l4,h4⟩;refine⟨_,[vi (roomP p pl n3)],rfl,rfl,rfl,z01,?_⟩;refine⟨_,z00,n-1,om,i+1,z4i m p,om,?_,wx l2 (wx l3 (wx l4 h4.sh)),?_,?_,fun q hq=>?_⟩
 .rw[hrE];simp only[wz,hup (show i<c.length by omega) om];unfold z4i;by_cases hc':roomF p>m
  .simp[hc']
  .simp[hc']
 .rw[qZ,hp,List.foldl_append,←hm];rfl
 .unfold z4i;split<;>omega
 .rw[qZ,hp]at hq;rcases zma.1 hq with hq|hq
  .exact hpk q hq
  .obtain rfl:q=p:=by simpa using hq
   unfold PlOk;rw[←hq2,←hq1];exact hpd
noncomputable def genF(ents:List Int)(syms:List (List UInt8))(stack:Int):Nat→Int→List ItemR→List PrcX→Option (List ItemR)
 |_,_,l,[]=>some l
 |i,nx,l,p::ps=>
  if 64536<(l++(fxP p ents syms stack nx).funL (ents.getD i 0) (nx+p.blocks.length)).length then none
  else genF ents syms stack (i+1) ((fxP p ents syms stack nx).funN (nx+p.blocks.length)) (l++(fxP p ents syms stack nx).funL (ents.getD i 0) (nx+p.blocks.length)) ps
def entA(j:Nat):Int:=if j=0 then 10 else 10000+(j:Int)
def entsC(c:CodeX):List Int:=(List.range c.length).map entA
noncomputable def genC(c:CodeX)(stack:Int):Int ⊕ List ItemR:=
 if z0u c≠0 then .inl (z0u c)
 else if stack<roomC c∨131072<stack then .inl 250
 else match genF (entsC c) (gsC c) stack 0 (10000+(c.length:Int)) [] c with
  |none=>.inl 151
  |some l=>.inr l
def GenAt(r:Int ⊕ List ItemR)(syms:List (List UInt8))(x:Ending)(K:PH):Prop:=
 match r with
 | .inl n=>x=.returned (.tuple #[.slice none 0 0,.slice none 0 0,.int .i64 n])
 | .inr l=>∃v sv,x=.returned (.tuple #[v,sv,.int .i64 0])∧SlR K l v∧SlR K syms sv∧l.length≤64536
def costC(l:List PrcX):Nat:=(l.map costP).sum
theorem Z23(p:PrcX)(l:List PrcX):costC (p::l)=costP p+costC l:=by unfold costC;rw[q9,List.sum_cons]
theorem Zod(p:PrcX):costP p≤30000+60000*p.many:=by
 have:∀l:List BlkX,z4a l≤30000*(l.map BlkX.many).sum:=by
  intro l
  induction l with
  |nil=>exact we _
  |cons b l ih=>
   rw[zxg,q9,List.sum_cons];have h1:costB b=30000+3000*b.ins.length:=rfl;have h2:b.many=1+b.ins.length:=rfl;omega
 have h1:=this p.blocks;have h2:costP p=30000+2*z4a p.blocks:=rfl;have h3:p.many=(p.blocks.map BlkX.many).sum:=rfl;omega
theorem Zob(l:List PrcX):costC l≤30000*l.length+60000*(l.map PrcX.many).sum:=by
 induction l with
 |nil=>exact we _
 |cons p l ih=>
  have:=Zod p;rw[Z23,q9,List.sum_cons,zlc];omega
theorem GeH.items{S0 K:PH}{rg:Nat}{sv env:Value}{nx stack:Int}{l:List ItemR}{k:Nat}{J:List Itm}(h:GeH S0 K rg sv env nx stack l k J):∃iv,(∀off n,rowAt K (some ⟨rg,off,none⟩) ((([iv,sv,env,vi nx,vi stack]:List Value).drop off).take n))∧SlR K l iv∧PH.le S0 K:=by
 obtain⟨⟨_,S,iv,hS,hh⟩,_,_⟩:=h;exact⟨iv,fun off n=>z1k hh (zms) off n,(hh.row (e:=131) (l:=l) (v:=iv) sM).slR hh.sh,wx hS hh.sh⟩
theorem Zjf(i:Nat):(List.range (i+1)).map entA=(List.range i).map entA++[entA i]:=zuw entA i
theorem Z4g(c:CodeX)(cv:Value)(stack:Int)(S:PH)(hc:SlR S c cv)(hshort:∀p∈c,∀b∈p.blocks,b.ins.length≤4611686018427387904)(hpr:InI stack):Tri zP 15 #[.agg #[cv],vi stack] S fun x K'=>PH.le S K'∧GenAt (genC c stack) (gsC c) x K'∧(z0u c=0→∀p∈c,PlOk p):=by
 have hrm:=Znl c cv S hc hshort;have hc0:=hc;obtain⟨cb,cc,rfl⟩:=hc.sl;have hup:∀{i n:Nat},i<n→n≤100000→IntKind.i64.wrap ((i:Int)+1)=((i+1:Nat):Int):=fun h h'=>by rw[w64 om om];rfl
 refine qr Zeo [.slice cb c.length cc,vi stack] ?_;refine z03 (qb 14) hrm ?_;rintro _ K1 ⟨l1,rfl,hpk⟩;refine⟨_,[vi (if z0u c=0 then roomC c else 0),vi (z0u c)],rfl,rfl,rfl,z01,?_⟩;simp only[cns];refine⟨fun g=>?_,fun g=>?_⟩
 .simp only[wz]at g;have g':z0u c≠0:=by simpa using g
  refine⟨l1,?_,hpk⟩;unfold genC;rw[qj g'];rfl
 have hck:z0u c=0:=by
  simp only[wz]at g;simpa using g
 have gc:=zek hck;have hcn:=gc.few;rw[qj hck];refine⟨fun g=>?_,fun g=>?_⟩
 .simp only[wz]at g;simp only[qu,zdt]at g;refine⟨l1,?_,hpk⟩;unfold genC;rw[qc om,qj om];rfl
 simp only[wz]at g;simp only[zof,zdf]at g;have hgC:genC c stack=match genF (entsC c) (gsC c) stack 0 (10000+(c.length:Int)) [] c with
  |none=>.inl 151
  |some l=>.inr l:=by
  unfold genC;rw[qc om,qc om]
  try (generalize genF _ _ _ _ _ _ _=o;cases o<;>rfl)
 have hst:0≤stack∧stack≤131072:=by
  refine⟨?_,om⟩;have h1:(0:Int)≤c.foldl z4i 0:=by
   have:∀(l:List PrcX)(m:Int),0≤m→0≤l.foldl z4i m:=by
    intro l
    induction l with
    |nil=>intro m h;exact h
    |cons p l ih=>
     intro m h;rw[List.foldl_cons];refine ih _ ?_;unfold z4i;split<;>omega
   exact this c 0 om
  have h2:roomC c=c.foldl z4i 0+2:=rfl;omega
 refine z03 (qb 41) (Zd8 gc (.slice cb c.length cc) K1 (hc0.le l1)) ?_;rintro _ K2 ⟨l2,sv,rfl,hsv⟩;have hsv0:=hsv;obtain⟨sb,sc,rfl⟩:=hsv.sl;refine⟨_,[.slice sb (gsC c).length sc],rfl,rfl,rfl,z01,?_⟩;simp only[cns];have l02:=wx l1 l2;obtain⟨svv,hsvv⟩:∃sv,sv=Value.slice sb (gsC c).length sc:=⟨_,rfl⟩;rw[←hsvv]at hsv0;refine z1d (vs:=[.slice none 0 0,svv,.slice none 0 0,vi 10000,vi stack]) (Held.nil (wy K2)) (by rw[hsvv];kernel_rfl) fun rg K3 _ h3=>?_;simp only[cns];have h3a:Held K2 K3 [bx rg 100 [.slice none 0 0,svv,.slice none 0 0,vi 10000,vi stack],orow 131 ([]:List ItemR) (.slice none 0 0),orow 3 ([]:List Int) (.slice none 0 0)]:=
  ((h3.empty (α:=Int) 3).empty (α:=ItemR) 131).perm (List.perm_append_comm (l₁:=[_,_]) (l₂:=[_]))
 refine ⟨fun n vs K=>∃(i:Nat) (env iv:Value) (S2:PH),i+n=c.length∧vs=[nI i]∧PH.le K2 S2∧Held S2 K [bx rg 100 [iv,svv,env,vi (10000+i),vi stack],orow 131 ([]:List ItemR) iv,orow 3 ((List.range i).map entA) env],
  ⟨c.length,0,.slice none 0 0,.slice none 0 0,K2,om,rfl,wy _,by rw[show((10000:Int)+((0:Nat):Int))=10000 by decide];exact h3a⟩,?_⟩
 rintro n vs K _ ⟨i,env,iv,S2,hin,rfl,l3,h4⟩;have her:=h4.row (e:=3) (l:=(List.range i).map entA) (v:=env) sM;obtain⟨eb,ec,hev⟩:=her.sl;simp only[cns];refine⟨fun g=>?_,fun g=>?_⟩
 .simp only[wz,zdt]at g;refine⟨fun vs K=>∃(env iv:Value)(S2:PH),vs=[]∧PH.le K2 S2∧Held S2 K [bx rg 100 [iv,svv,env,vi (10000+i+1),vi stack],orow 131 ([]:List ItemR) iv,orow 3 ((List.range (i+1)).map entA) env],?_,fun _=>rfl,[env],by rw[hev];rfl,z1k h4 (zms) 2 1,?_⟩
  .rintro vs K5 _ ⟨ev5,iv5,S5,rfl,l5,h5⟩;refine⟨_,z00,n-1,om,i+1,ev5,iv5,S5,om,by simp only[wz,hup (show i<c.length by omega) om],l5,?_⟩;rw[show(10000:Int)+((i+1:Nat):Int)=10000+i+1 by omega];exact h5
  simp only[cns];have hem:EmH S2 K rg 100 [svv,env,vi (10000+i),vi stack] [] 100 [orow 3 ((List.range i).map entA) env]:=⟨sM,S2,_,wy _,h4⟩;refine z03 (qb 42) (Zc5 hem om om) ?_;rintro _ K4 ⟨rfl,_,S4,iv4,l4,h5⟩;refine⟨_,[vi (10000+i)],rfl,rfl,rfl,z0o (z1k h5 (zms) 2 1) z01,?_⟩;simp only[cns];have h6:=h5.perm (List.perm_append_comm (l₁:=[_,_]) (l₂:=[_]));refine z1w (b:=8) (more:=[(10000+i:Int)]) [vi (10000+i)] z0j z0s rfl dC dC h6 kr (.cons (z0e (inJ om om)) .nil) (z0o (z1k h5 (zms) 2 1) z01) (fun w=>kr) (fun w=>kr)
   (by simp only[zlm,wi,maxLen,zlc,zln];omega) (by simp only[zlm,wi,zlc,zln];omega) fun w7 v7 S7 K7 l7 h7=>⟨z01,?_⟩
  simp only[cns];obtain⟨b7,c7,hv7⟩:=(h7.row (e:=3) (zms)).sl;refine z0b (T:=100) (off:=2) (vs:=[v7]) rfl (h7.perm (qq _ _ _)) (by simp only[wz]) (by intro u hu;rw[zsi.1 hu,hv7];rfl) sM fun K8 h8=>?_;have l27:=wx l3 (wx l4 l7);refine⟨fun g2=>?_,fun g2=>?_⟩
  .have hi0:i=0:=by
    simp only[wz,zdt]at g2;omega
   subst hi0;have h8r:=(h8.row (e:=3) (l:=(List.range 0).map entA++[(10000+(0:Nat):Int)]) (v:=v7) sM);obtain⟨z1,_⟩:=(h8r.slR h8.sh).get (i:=0) rfl;refine⟨[v7],by rw[hv7];rfl,z1k h8 (zms) 2 1,fun _=>?_,?_⟩
   .simp only[Chk.holds,wz,slLen];rw[hv7]at z1⊢;exact⟨z1,om,sM⟩
   simp only[cns];refine z1a (i:=0) (a:=(10000+(0:Nat):Int)) (a':=(10:Int)) (us:=[vi 10]) (by simp only[wz];rfl) (h8.perm (qq _ _ _)) rfl rfl (by simp only[wz]) (by simp[oneC]) (z0e dC) fun K9 h9=>?_;exact⟨_,z00,v7,iv4,S7,rfl,l27,h9.perm (by exact(qq _ _ _).trans (List.Perm.cons _ (qq _ _ _)))⟩
  .have hi0:i≠0:=by
    simp only[wz,zdf]at g2;omega
   refine⟨_,z00,v7,iv4,S7,rfl,l27,?_⟩;have e1:entA i=10000+(i:Int):=by unfold entA;rw[qc hi0]
   rw[Zjf,e1];exact h8.perm (List.Perm.cons _ (qq _ _ _))
 simp only[wz,zdf]at g;obtain rfl:i=c.length:=om;obtain⟨S5,s5,l5,h5⟩:=(h4.perm (List.perm_append_comm (l₁:=[_,_]) (l₂:=[_]))).freeze;have l25:=wx l3 l5;have l05:=wx l02 l25;have s5':SlR S5 (entsC c) env:=s5;have s50:=s5';obtain⟨eb,ec,hevE⟩:=s5'.sl;have hel:(entsC c).length=c.length:=by unfold entsC;simp
 have hcost:=Zob c;have hmany:=gc.many;have hmE:manyC c=(c.map PrcX.many).sum:=rfl;have hem:GeH S5 K rg svv env (10000+c.length) stack [] (1000000+costC c) []:=⟨⟨by rw[zln];omega,S5,iv,wy _,h5⟩,om,om⟩;refine⟨fun n vs K=>∃(i:Nat)(nx':Int)(l':List ItemR),i+n=c.length∧vs=[.slice none 0 0,.slice none 0 0,vi 0,nI i]∧GeH S5 K rg svv env nx' stack l' (1000000+costC (c.drop i)) []∧l'.length≤64536∧genF (entsC c) (gsC c) stack i nx' l' (c.drop i)=genF (entsC c) (gsC c) stack 0 (10000+(c.length:Int)) [] c,⟨c.length,0,_,_,om,rfl,hem,sM,rfl⟩,?_⟩;clear hem h4 h5;rintro n vs K6 _ ⟨i,nx6,l6,hin6,rfl,h6,hl6,hF6⟩;simp only[cns];refine⟨fun g=>?_,fun g=>?_⟩
 .simp only[wz,zdt]at g;obtain⟨p,hp⟩:∃p,c[i]?=some p:=⟨_,zge om⟩;have hpm:=zmg hp;have hdr:c.drop i=p::c.drop (i+1):=by
   rw[←List.getElem_cons_drop (zgi.1 hp).1,(zgi.1 hp).2]
  rw[hdr,Z23]at h6;rw[hdr,genF]at hF6;obtain⟨x1,_,cs,x2,x3⟩:=(hc0.le l05).get hp;obtain⟨bv,rfl,p1,p2,p3,p4⟩:=prc_iff.1 x2;have p40:=p4;obtain⟨pb,pc,rfl⟩:=p4.sl;have hent:(entsC c)[i]?=some ((entsC c).getD i 0):=by rw[zgd,zge om];rfl
  obtain⟨ei,eq,ed⟩:=z3s s50 i _ hent;obtain⟨iv6,hr6,hs6,sh6⟩:=h6.items;refine⟨fun _=>⟨x1,by show(0:Int)≤(i:Int);omega,by show(i:Int)<(c.length:Int);omega⟩,[vi p.params,vi p.holds,vi p.regs,.slice pb p.blocks.length pc],rfl,z0p sh6 x3,fun _=>rfl,[env],by rw[hevE];rfl,hr6 2 1,fun _=>eq,[vi ((entsC c).getD i 0)],rfl,ed _ sh6,?_⟩;simp only[cns];refine z03 (qb 43) (Zet (k:=1000000+costC (c.drop (i+1))) (ents:=entsC c) (syms:=gsC c) gc hpm (.slice pb p.blocks.length pc) ((entsC c).getD i 0) ei ⟨⟨by have:=h6.em.1;omega,h6.em.2⟩,h6.n0,by have:=h6.nk;omega⟩ hst p40 s50 om (hsv0.le l25)) ?_;rintro _ K7 ⟨rfl,h7⟩;refine⟨_,[],rfl,rfl,rfl,z01,?_⟩;simp only[zan];obtain⟨iv7,hr7,hs7,sh7⟩:=h7.items;obtain⟨l7,hl7⟩:∃l7,l7=l6++(fxP p (entsC c) (gsC c) stack nx6).funL ((entsC c).getD i 0) (nx6+p.blocks.length):=⟨_,rfl⟩;rw[←hl7]at h7 hs7 hF6;have hs70:=hs7;obtain⟨ib,ic,hiv⟩:=hs7.sl;refine⟨[iv7],by rw[hiv];rfl,hr7 0 1,fun g2=>?_,fun g2=>?_⟩
  .have g3:64536<l7.length:=by
    rw[hiv]at g2;simp only[wz,zdt]at g2;omega
   rw[qj g3]at hF6;refine⟨wx l05 sh7,?_,hpk⟩;rw[hgC,←hF6];rfl
  .have g3:¬64536<l7.length:=by
    rw[hiv]at g2;simp only[wz,zdf]at g2;omega
   rw[qc g3]at hF6;exact⟨_,z00,n-1,om,i+1,_,l7,om,by simp only[wz,hup (show i<c.length by omega) om],h7,om,hF6⟩
 simp only[wz,zdf]at g;obtain rfl:i=c.length:=om;rw[List.drop_length,genF]at hF6;obtain⟨iv6,hr6,hs6,sh6⟩:=h6.items;have hs60:=hs6;obtain⟨ib,ic,hiv⟩:=hs6.sl;refine⟨fun _=>rfl,[iv6],by rw[hiv];rfl,hr6 0 1,[svv],by rw[hsvv];rfl,hr6 1 1,?_⟩;simp only[cns];have hgl:(gsC c).length≤6000000000:=by
  have:=z6k (m:=16777216) (f:=gsP) c [] fun q hq acc=>Zfl (gc.prc hq) acc;rw[zln]at this;unfold gsC;omega
 refine z03 (qb 44) (Zh0 (gsC c) svv K6 (hsv0.le (wx l25 sh6)) hgl) ?_;rintro _ K8 ⟨l8,sv8,rfl,hs8⟩;refine⟨_,[sv8],rfl,?_,rfl,z0o (z0p l8 (hr6 0 1)) z01,?_⟩
 .obtain⟨b8,c8,rfl⟩:=hs8.sl;rfl
 refine⟨wx l05 (wx sh6 l8),?_,hpk⟩;rw[hgC,←hF6];exact⟨iv6,sv8,rfl,hs60.le l8,hs8,hl6⟩
def defsR(l:List ItemR):List Int:=l.filterMap fun x=>if x.kind=1 then some x.label else none
structure Fine(A:Int→Prop)(d:List Int)(l:List ItemR):Prop where
 may:∀x∈l,mayR x=true
 defs:defsR l=d
 names:∀x∈l,z1j x=true→A x.label
theorem zjs{op a b c n:Int}{f:FrmR}(hf:frmR op=f)(ho:0≤op∧op<32)(ha:regR a f.a=true)(hb:regR b f.b=true)(hc:regR c f.c=true)(hn:f.least≤n∧n≤f.most):(encR ⟨op,a,b,c,n⟩).isSome=true:=by
 have h:fitsR ⟨op,a,b,c,n⟩=true:=by
  unfold fitsR;simp only[hf,ha,hb,hc,zba,zdt,true_and];exact hn
 unfold encR;rw[qc (by show ¬(op<0∨32≤op);omega),qj h];rfl
theorem z7w{n:Int}(h:0≤n∧n≤31):regR n true=true:=by unfold regR;simp[h.1,h.2]
section
variable {A B:Int→Prop}{d e:List Int}{l m:List ItemR}{op a b c n:Int}
theorem Fine.cast(h:Fine A d l)(he:d=e):Fine A e l:=he▸h
theorem Fine.nil:Fine A [] []:=⟨sM,rfl,sM⟩
theorem Fine.app(h1:Fine A d l)(h2:Fine A e m):Fine A (d++e) (l++m):=by
 refine⟨fun x hx=>?_,?_,fun x hx=>?_⟩
 .rcases zma.1 hx with hx|hx
  .exact h1.may x hx
  .exact h2.may x hx
 .unfold defsR;rw[List.filterMap_append];exact congr (congrArg _ h1.defs) h2.defs
 .rcases zma.1 hx with hx|hx
  .exact h1.names x hx
  .exact h2.names x hx
theorem Fine.cons{x:ItemR}(hm:mayR x=true)(hk:x.kind≠1)(hn:z1j x=true→A x.label)(h:Fine A d l):Fine A d (x::l):=by
 refine⟨fun y hy=>?_,?_,fun y hy=>?_⟩
 .rcases zmc.1 hy with rfl|hy
  .exact hm
  .exact h.may y hy
 .unfold defsR;rw[List.filterMap_cons,qc hk];exact h.defs
 .rcases zmc.1 hy with rfl|hy
  .exact hn
  .exact h.names y hy
theorem Fine.ins{i:InsR}(he:(encR i).isSome=true)(h:Fine A d l):Fine A d (⟨0,i,0,0⟩::l):=
 Fine.cons (by unfold mayR;rw[qj rfl];simp[he]) (show(0:Int)≠1 by decide) (fun hn=>by cases hn) h
theorem Fine.lit{x:ItemR}(hx:(mayR x && !decide (x.kind=1) && !z1j x)=true)(h:Fine A d l):Fine A d (x::l):=by
 simp only[zba,qy,zdf]at hx;exact Fine.cons hx.1.1 hx.1.2 (fun hn=>by rw[hx.2]at hn;cases hn) h
theorem Fine.wth(hf:frmR op=withF)(ho:0≤op∧op<32)(ha:0≤a∧a≤31)(hb:0≤b∧b≤31)(hn:-32768≤n∧n≤32767)(h:Fine A d l):Fine A d (⟨0,⟨op,a,b,0,n⟩,0,0⟩::l):=
 Fine.ins (zjs hf ho (z7w ha) (z7w hb) rfl hn) h
theorem Fine.pln(hf:frmR op=Zbj)(ho:0≤op∧op<32)(ha:0≤a∧a≤31)(hb:0≤b∧b≤31)(hn:0≤n∧n≤65535)(h:Fine A d l):Fine A d (⟨0,⟨op,a,b,0,n⟩,0,0⟩::l):=
 Fine.ins (zjs hf ho (z7w ha) (z7w hb) rfl hn) h
theorem Fine.far(hf:frmR op=farF)(ho:0≤op∧op<32)(ha:0≤a∧a≤31)(hb:0≤b∧b≤31)(hn:0≤n∧n≤63)(h:Fine A d l):Fine A d (⟨0,⟨op,a,b,0,n⟩,0,0⟩::l):=
 Fine.ins (zjs hf ho (z7w ha) (z7w hb) rfl hn) h
theorem Fine.lab(h:Fine A d l):Fine A (n::d) (⟨1,⟨0,0,0,0,0⟩,n,0⟩::l):=by
 refine⟨fun y hy=>?_,?_,fun y hy=>?_⟩
 .rcases zmc.1 hy with rfl|hy
  .rfl
  .exact h.may y hy
 .unfold defsR;rw[List.filterMap_cons];exact congrArg _ h.defs
 .rcases zmc.1 hy with rfl|hy
  .intro hn;cases hn
  .exact h.names y hy
theorem Fine.bra(hf:frmR op=zpz)(ho:24≤op∧op≤27)(ha:0≤a∧a≤31)(hb:0≤b∧b≤31)(hA:A n)(h:Fine A d l):Fine A d (⟨2,⟨op,a,b,0,0⟩,n,0⟩::l):=
 Fine.cons (by
  unfold mayR;rw[qc (show ¬(2:Int)=0 by decide),qc (show ¬(2:Int)=1 by decide),qj rfl,zjs hf om (z7w ha) (z7w hb) rfl dC];simp[ho.1,ho.2]) (show(2:Int)≠1 by decide) (fun _=>hA) h
theorem Fine.jmp(ha:0≤a∧a≤31)(hA:A n)(h:Fine A d l):Fine A d (⟨3,⟨28,a,0,0,0⟩,n,0⟩::l):=
 Fine.cons (by
  unfold mayR;rw[qc (show ¬(3:Int)=0 by decide),qc (show ¬(3:Int)=1 by decide),qc (show ¬(3:Int)=2 by decide),qj rfl,zjs (f:=⟨true,false,false,21,-1048576,1048575⟩) rfl om (z7w ha) rfl rfl dC];rfl) (show(3:Int)≠1 by decide) (fun _=>hA) h
theorem Fine.num(ha:0≤a∧a≤31)(h:Fine A d l):Fine A d (⟨4,⟨20,a,0,0,0⟩,0,n⟩::l):=
 Fine.cons (by
  unfold mayR;rw[qc (show ¬(4:Int)=0 by decide),qc (show ¬(4:Int)=1 by decide),qc (show ¬(4:Int)=2 by decide),qc (show ¬(4:Int)=3 by decide),qj rfl,zjs (f:=⟨true,false,false,16,-32768,32767⟩) rfl om (z7w ha) rfl rfl dC];rfl) (show(4:Int)≠1 by decide) (fun hn=>by cases hn) h
theorem Fine.plc(ha:0≤a∧a≤31)(hA:A n)(h:Fine A d l):Fine A d (⟨5,⟨20,a,0,0,0⟩,n,0⟩::l):=
 Fine.cons (by
  unfold mayR;rw[qc (show ¬(5:Int)=0 by decide),qc (show ¬(5:Int)=1 by decide),qc (show ¬(5:Int)=2 by decide),qc (show ¬(5:Int)=3 by decide),qc (show ¬(5:Int)=4 by decide),qj rfl,zjs (f:=⟨true,false,false,16,-32768,32767⟩) rfl om (z7w ha) rfl rfl dC];rfl) (show(5:Int)≠1 by decide) (fun _=>hA) h
end
structure XW(x:FX):Prop where
 at_:∀r,0≤x.at_ r∧x.at_ r≤2100
 slots:0≤x.slots∧x.slots≤2001
 params:0≤x.p.params∧x.p.params≤6
def BaseA(A:Int→Prop):Prop:=∀n∈baseN,A n
section
variable {x:FX}{A:Int→Prop}{pu:Int}
theorem reg_b(hw:XW x){r:Int}(h:x.col r=true):0≤x.reg r∧x.reg r≤31:=by
 have:=hw.at_ r;unfold FX.col at h;unfold FX.reg;have:=qY h;omega
theorem get_b(hw:XW x){r s:Int}(hs:0≤s∧s≤31):0≤x.get r s∧x.get r s≤31:=by
 unfold FX.get;split
 .rename_i h;exact reg_b hw h
 .exact hs
theorem zvl(hw:XW x)(hp:0≤pu∧pu≤2100)(r:Int):-32768≤x.slot pu r∧x.slot pu r≤32767:=by
 have h1:=hw.at_ r;have h2:=hw.slots;unfold FX.slot;omega
theorem zf2(hw:XW x)(hp:0≤pu∧pu≤2100){r s:Int}(hs:0≤s∧s≤31):Fine A [] (x.getL pu r s):=by
 unfold FX.getL;split
 .exact Fine.nil
 .exact Fine.wth dC dC hs dC (zvl hw hp r) Fine.nil
theorem zfg(hw:XW x)(hp:0≤pu∧pu≤2100){r s:Int}(hs:0≤s∧s≤31):Fine A [] (x.setL pu r s):=by
 unfold FX.setL;split
 .rename_i h;exact Fine.wth dC dC (reg_b hw h) hs dC Fine.nil
 .exact Fine.wth dC dC hs dC (zvl hw hp r) Fine.nil
theorem zv5(hw:XW x)(hp:0≤pu∧pu≤2100){r w:Int}:Fine A [] (x.numL pu r w):=by
 unfold FX.numL;split
 .rename_i h;exact Fine.num (reg_b hw h) Fine.nil
 .exact Fine.num dC (Fine.wth dC dC dC dC (zvl hw hp r) Fine.nil)
theorem zca{n:Int}(hn:-32768≤n∧n≤32767):Fine A [] (growL n):=by
 unfold growL;split
 .exact Fine.nil
 .exact Fine.wth dC dC dC dC hn Fine.nil
end
def FineIn(A:Int→Prop)(lo hi:Int)(l:List ItemR):Prop:=lo≤hi∧∃d,Fine A d l∧d.Nodup∧∀n,n∈d↔lo≤n∧n<hi
theorem FineIn.none{A:Int→Prop}{lo:Int}{l:List ItemR}(h:Fine A [] l):FineIn A lo lo l:=⟨Int.le_refl _,[],h,List.nodup_nil,fun n=>by simp only[List.not_mem_nil,false_iff];omega⟩
theorem FineIn.app{A:Int→Prop}{a b c:Int}{l m:List ItemR}(h1:FineIn A a b l)(h2:FineIn A b c m):FineIn A a c (l++m):=by
 obtain⟨l1,d1,f1,n1,b1⟩:=h1;obtain⟨l2,d2,f2,n2,b2⟩:=h2;refine⟨om,d1++d2,f1.app f2,?_,fun n=>?_⟩
 .refine List.nodup_append.2 ⟨n1,n2,fun p hp q hq=>?_⟩;have:=(b1 p).1 hp;have:=(b2 q).1 hq;omega
 .rw[zma,b1,b2];omega
def regA(a b:Int):Prop:=b=a∨(a=1∧0≤b∧b≤31)
theorem zu3{a b:Int}{f:Bool}(h:regR a f=true)(hr:regA a b):regR b f=true:=by
 rcases hr with rfl|⟨rfl,h1,h2⟩
 .exact h
 .cases f
  .cases h
  .unfold regR;simp[h1,h2]
theorem zjf{op a b d i1 i2 a' b' d' i:Int}(h1:(encR ⟨op,a,b,d,i1⟩).isSome=true)(h2:(encR ⟨op,a,b,d,i2⟩).isSome=true)(ha:regA a a')(hb:regA b b')(hd:regA d d')(hi:i1≤i∧i≤i2):(encR ⟨op,a',b',d',i⟩).isSome=true:=by
 have key:∀j,(encR ⟨op,a,b,d,j⟩).isSome=true→¬(op<0∨32≤op)∧fitsR ⟨op,a,b,d,j⟩=true:=fun j h=>by
  unfold encR at h;split at h
  .cases h
  split at h
  .rename_i q w;exact⟨q,w⟩
  .cases h
 obtain⟨k1,k2⟩:=key _ h1;obtain⟨_,k3⟩:=key _ h2;simp only[fitsR,zba,zdt]at k2 k3;have:fitsR ⟨op,a',b',d',i⟩=true:=by
  simp only[fitsR,zba,zdt];exact⟨⟨⟨⟨zu3 k2.1.1.1.1 ha,zu3 k2.1.1.1.2 hb⟩,zu3 k2.1.1.2 hd⟩,om⟩,om⟩
 unfold encR;rw[qc k1,qj this];rfl
theorem Zm1{k op a b d i1 i2 lab w a' b' d' i lab' w':Int}(h1:mayR ⟨k,⟨op,a,b,d,i1⟩,lab,w⟩=true)(h2:mayR ⟨k,⟨op,a,b,d,i2⟩,lab,w⟩=true)(ha:regA a a')(hb:regA b b')(hd:regA d d')(hi:i1≤i∧i≤i2)
  (hl:lab'=lab∨k=1∨k=2∨k=3∨k=5) (hw:w'=w∨k=4):mayR ⟨k,⟨op,a',b',d',i⟩,lab',w'⟩=true:=by
 unfold mayR at *;by_cases k0:k=0
 .subst k0;simp only[if_true,zba,zdt]at *;exact⟨⟨zjf h1.1.1 h2.1.1 ha hb hd hi,om⟩,om⟩
 by_cases k1:k=1
 .subst k1;simp only[ins0,InsR.mk.injEq,if_true,qc k0,zba,zdt]at *;obtain⟨⟨rfl,rfl,rfl,rfl,rfl⟩,e⟩:=h1;unfold regA at ha hb hd;refine⟨⟨rfl,om,om,om,om⟩,om⟩
 by_cases k2:k=2
 .subst k2;simp only[if_true,qc k0,qc k1,zba,zdt]at *;exact⟨⟨⟨⟨zjf h1.1.1.1.1 h2.1.1.1.1 ha hb hd hi,h1.1.1.1.2⟩,h1.1.1.2⟩,om⟩,om⟩
 by_cases k3:k=3
 .subst k3;simp only[if_true,qc k0,qc k1,qc k2,zba,zdt]at *;exact⟨⟨⟨zjf h1.1.1.1 h2.1.1.1 ha hb hd hi,h1.1.1.2⟩,om⟩,om⟩
 by_cases k4:k=4
 .subst k4;simp only[if_true,qc k0,qc k1,qc k2,qc k3,zba,zdt]at *;exact⟨⟨⟨zjf h1.1.1.1 h2.1.1.1 ha hb hd hi,h1.1.1.2⟩,om⟩,om⟩
 by_cases k5:k=5
 .subst k5;simp only[if_true,qc k0,qc k1,qc k2,qc k3,qc k4,zba,zdt]at *;exact⟨⟨⟨zjf h1.1.1.1 h2.1.1.1 ha hb hd hi,h1.1.1.2⟩,om⟩,om⟩
 .simp only[qc k0,qc k1,qc k2,qc k3,qc k4,qc k5,qp]at h1
section
variable {x:FX}{A:Int→Prop}{pu nx:Int}{y:InsX}
theorem Z53(hw:XW x){g:GI}(h:regG g=true):regA g.rep (g.v (x.gn pu nx y)):=by
 cases g<;>simp only[regG,qp,zdt]at h
 .exact .inl rfl
 .exact .inr ⟨rfl,get_b hw h⟩
theorem Z41{g:GI}(h:zue g=true):g.v (x.gn pu nx y)=g.rep:=by
 cases g<;>simp only[zue,qp]at h;rfl
theorem Zos{un:Bool}{g:GI}{lo hi:Int}(h:immG un g=some (lo,hi))(hn:un=true→0≤y.num∧y.num≤1000):lo≤g.v (x.gn pu nx y)∧g.v (x.gn pu nx y)≤hi:=by
 unfold immG at h;split at h
 .cases h;exact⟨Int.le_refl _,Int.le_refl _⟩
 .rename_i k;split at h
  .rename_i hk;cases h;have:=hn hk.1;have hv:GI.v (x.gn pu nx y) (.add (.lit lo) .num)=IntKind.i64.wrap (lo+y.num):=rfl;rw[hv,w64 om om];omega
  .cases h
 .cases h
theorem Zlz(hw:XW x)(hp:0≤pu∧pu≤2100)(hA:BaseA A){un:Bool}{nl:Nat}{s:GS}(h:fineS un nl s=true)(hn:un=true→0≤y.num∧y.num≤1000)(hN:∀j:Nat,j<nl→A (nx+(j:Int))):
  Fine A ((labG s).toList.map fun j:Nat=>nx+(j:Int)) (s.l (x.gn pu nx y)):=by
 cases s with
 |it k op a b d i lab w=>
  simp only[fineS]at h;split at h
  case h_2=>cases h
  rename_i lo hi hb;simp only[zba]at h;obtain⟨⟨⟨⟨⟨⟨⟨h1,h2⟩,h3⟩,h4⟩,h5⟩,h6⟩,h7⟩,h8⟩:=h;have hlab:lab.v (x.gn pu nx y)=lab.rep∨k=1∨k=2∨k=3∨k=5:=by
   by_cases q1:k=1
   .exact .inr (.inl q1)
   rw[qc q1]at h7;by_cases q2:k=2∨k=3∨k=5
   .exact .inr (.inr q2)
   rw[qc q2]at h7;exact .inl (Z41 h7)
  have hww:w.v (x.gn pu nx y)=w.rep∨k=4:=by
   by_cases q:k=4
   .exact .inr q
   rw[qc q]at h8;exact .inl (Z41 h8)
  have hm:mayR ⟨k,⟨op.v (x.gn pu nx y),a.v (x.gn pu nx y),b.v (x.gn pu nx y),d.v (x.gn pu nx y),i.v (x.gn pu nx y)⟩,lab.v (x.gn pu nx y),w.v (x.gn pu nx y)⟩=true:=by
   rw[Z41 h1];exact Zm1 h5 h6 (Z53 hw h2) (Z53 hw h3) (Z53 hw h4) (Zos hb hn) hlab hww
  refine⟨fun z hz=>?_,?_,fun z hz hzn=>?_⟩
  .rw[zsi.1 hz];exact hm
  .by_cases q:k=1
   .rw[qj q]at h7;obtain⟨j,hj⟩:=qG.1 h7;rw[hj];unfold labG at hj;split at hj
    .rename_i heq;cases heq;rw[qj q]at hj;cases hj;unfold defsR;simp only[GS.l,List.filterMap_cons,q,if_true,List.filterMap_nil];rfl
    .cases hj
   .have:labG (.it k op a b d i lab w)=none:=by
     unfold labG;split
     .rename_i heq;cases heq;exact qc q
     .rfl
    rw[this];unfold defsR;simp only[GS.l,List.filterMap_cons,q,if_false,List.filterMap_nil];rfl
  .have e:z=_:=zsi.1 hz;subst e;simp only[z1j,qu,zdt]at hzn;have hk1:k≠1:=om;rw[qc hk1,qj om]at h7;cases lab<;>simp only[nameG,qp,zdt]at h7
   .exact hA _ h7
   .exact hN _ h7
 |get j s=>
  simp only[fineS,zdt]at h;exact zf2 hw hp h
 |set g=>
  simp only[fineS]at h;cases g<;>simp only[zdt,qp]at h
  .exact zfg hw hp h
  .exact zfg hw hp (get_b hw h)
 |nmb g=>exact zv5 hw hp
 |ask=>cases h
 |clo=>cases h
theorem Z6a(hw:XW x)(hp:0≤pu∧pu≤2100)(hA:BaseA A){un:Bool}{nl:Nat}(hn:un=true→0≤y.num∧y.num≤1000)(hN:∀j:Nat,j<nl→A (nx+(j:Int))):
  ∀{ss:List GS},ss.all (fineS un nl)=true→Fine A ((ss.filterMap labG).map fun j:Nat=>nx+(j:Int)) (ss.flatMap (GS.l (x.gn pu nx y)))
 | [],_=>Fine.nil
 |s::ss,h=>by
  simp only[List.all_cons,zba]at h;have h1:=Zlz (y:=y) hw hp hA h.1 hn hN;have h2:=Z6a hw hp hA hn hN h.2;rw[qO];refine Fine.cast (Fine.app h1 h2) ?_;rw[List.filterMap_cons];cases labG s<;>rfl
end
section
variable {x:FX}{A:Int→Prop}{pu:Int}
theorem Zhx{words:Int}(hA:BaseA A):Fine A [] (needL words):=by
 unfold needL;exact Fine.cast (Fine.num dC (Fine.jmp dC (hA _ dC) (Fine.nil))) rfl
theorem Zhl{r words:Int}(hw:XW x)(hp:0≤pu∧pu≤2100)(hwords:-32768≤words∧words≤32767):Fine A [] (x.madeL pu r words):=by
 unfold FX.madeL;exact Fine.cast (Fine.app (Fine.lit dC (Fine.lit dC (Fine.wth rfl dC dC dC hwords (Fine.nil)))) (zfg hw hp dC)) rfl
theorem Zht{kind size:Int}:Fine A [] (headL kind size):=by
 unfold headL;exact Fine.cast (Fine.num dC (Fine.lit dC (Fine.nil))) rfl
theorem Zcy{to:Int}(hw:XW x)(hp:0≤pu∧pu≤2100):Fine A [] (x.truthL pu to):=by
 unfold FX.truthL;exact Fine.cast (Fine.app (Fine.lit dC (Fine.lit dC (Fine.nil))) (zfg hw hp dC)) rfl
theorem zu7{a n:Int}(ha:0≤a∧a≤31):Fine A [] (tagL a n):=by
 unfold tagL;exact Fine.cast (Fine.pln rfl dC dC ha dC (Fine.num dC (Fine.nil))) rfl
theorem Zdl(hw:XW x)(hp:0≤pu∧pu≤2100){y:InsX}:Fine A [] (x.constL pu y):=by
 unfold FX.constL;exact zv5 hw hp
theorem Zj2(hw:XW x)(hp:0≤pu∧pu≤2100)(hA:BaseA A){r:Int}:Fine A [] (x.retL pu r):=by
 have h:=hw.slots;have e:arI .sub .i64 0 x.slots=0-x.slots:=w64 om om;unfold FX.retL;exact Fine.cast (Fine.app (Fine.app (Fine.app (zf2 hw hp dC) (Fine.wth rfl dC dC (get_b hw dC) dC Fine.nil)) (zca (by rw[e];omega))) (Fine.jmp dC (hA _ dC) Fine.nil)) rfl
theorem zug(hw:XW x)(hp:0≤pu∧pu≤2100):∀(rs:List Int)(b:Int),0≤b→b+rs.length≤32767→Fine A [] (x.storesL pu b rs)
 | [],_,_,_=>Fine.nil
 |r::rs,b,h0,h1=>by
  rw[zlc]at h1;rw[FX.storesL];exact Fine.cast (Fine.app (Fine.app (zf2 hw hp dC) (Fine.wth rfl dC (get_b hw dC) dC om Fine.nil)) (zug hw hp rs (b+1) om om)) rfl
theorem Z89(hw:XW x)(hp:0≤pu∧pu≤2100)(hA:BaseA A){to num:Int}{rs:List Int}(hl:rs.length≤1000)(he:A (x.ents.getD num.toNat 0)):Fine A [] (x.closureL pu rs to num):=by
 unfold FX.closureL;exact Fine.cast (Fine.app (Fine.app (Fine.app (Fine.app (Zhx hA) Zht) (Fine.plc dC he (Fine.far rfl dC dC dC dC (Fine.wth rfl dC dC dC dC Fine.nil)))) (zug hw hp rs 2 om om)) (Zhl hw hp om)) rfl
theorem zy0{a yes:Int}(ha:0≤a∧a≤31)(hy:A yes):∀ns:List Int,Fine A [] (z3h a yes ns)
 | []=>Fine.nil
 |n::ns=>by
  rw[z3h];exact Fine.cast (Fine.app (Fine.num dC (Fine.bra rfl dC ha dC hy Fine.nil)) (zy0 ha hy ns)) rfl
theorem zy2{yes:Int}(hy:A yes):∀ns:List Int,Fine A [] (z7f yes ns)
 | []=>Fine.nil
 |n::ns=>by
  rw[z7f];exact Fine.cast (Fine.app (Fine.num dC (Fine.bra rfl dC dC dC hy Fine.nil)) (zy2 hy ns)) rfl
theorem Ze6{a yes out:Int}(ha:0≤a∧a≤31)(hy:A yes)(ho:A out)(ns:List Int):Fine A [out] (z6o a yes out ns):=by
 unfold z6o;exact Fine.cast (Fine.app (Fine.app (Fine.app (zu7 ha) (Fine.bra rfl dC dC dC ho (Fine.far rfl dC dC ha dC (Fine.wth rfl dC dC dC dC (Fine.far rfl dC dC dC dC (Fine.pln rfl dC dC dC dC Fine.nil)))))) (zy2 hy ns)) (Fine.lab Fine.nil)) rfl
theorem Ze0{op:List UInt8}{a yes out:Int}(ha:0≤a∧a≤31)(hy:A yes)(ho:A out):Fine A (if(z2b op a yes out).2=true then[out]else[]) (z2b op a yes out).1:=by
 unfold z2b
 repeat' split
 all_goals first
  |exact zy0 ha hy _
  |exact Ze6 ha hy ho _
  |exact Fine.nil
  |exact Fine.cast (Fine.app (zu7 ha) (Fine.bra rfl dC dC dC hy Fine.nil)) rfl
  |exact Fine.cast (Fine.app (zu7 ha) (Fine.bra rfl dC dC dC ho (Fine.num dC (Fine.bra rfl dC ha dC hy (Fine.lab Fine.nil))))) rfl
  |contradiction
end
section
variable {x:FX}{A:Int→Prop}{pu nx:Int}
theorem Zdx(hw:XW x)(hp:0≤pu∧pu≤2100){op:List UInt8}{r to:Int}(hA:∀n,nx≤n→n<nx+z0v op→A n):FineIn A nx (nx+z0v op) (x.askedL pu nx op r to):=by
 have hk:z0v op=if(z2b op (x.get r 26) nx (nx+1+1)).2=true then 4 else 3:=by
  unfold z0v;rw[Zl0 op 0 0 0 (x.get r 26) nx (nx+1+1)]
 have h3:3≤z0v op:=by rw[hk];split<;>omega
 have a0:=hA nx om om;have a1:=hA (nx+1) om om;have a2:=hA (nx+1+1) om om;have a3:=hA (nx+z0v op-1) om om;have h:=(Fine.app (Fine.app (Fine.app (zf2 (A:=A) (r:=r) hw hp (s:=26) dC) (Ze0 (op:=op) (get_b hw (r:=r) (s:=26) dC) a0 a2)) (Fine.lab (n:=nx+1) (Fine.num (a:=28) (n:=0) dC (Fine.jmp (a:=0) dC a3 (Fine.lab (n:=nx) (Fine.num (a:=28) (n:=1) dC (Fine.lab (n:=nx+z0v op-1) Fine.nil))))))) (Zcy (to:=to) hw hp));refine⟨om,_,h,?_,fun n=>?_⟩
 all_goals
  rw[hk];by_cases q:(z2b op (x.get r 26) nx (nx+1+1)).2=true
 all_goals
  simp only[q,if_true,if_false,List.nil_append,zan,List.cons_append,List.nodup_cons,zmc,List.not_mem_nil,or_false,not_false_eq_true,List.nodup_nil,and_true,qp]
 all_goals omega
theorem Z62{c:CodeX}(gc:GoodC c)(hw:XW x)(hp:0≤pu∧pu≤2100)(hA:BaseA A)(hH:x.p.holds≤1000)(y:InsX)(hok:insOk c x.p y=true)(hent:∀n:Int,0≤n→n<c.length→A (x.ents.getD n.toNat 0))(hN:∀n,nx≤n→n<insN nx y→A n):FineIn A nx (insN nx y) (x.insL pu nx y):=by
 have hg:=z8a hok;by_cases e1:y.op=z14
 .rw[show x.insL pu nx y=x.constL pu y from qj e1,show insN nx y=nx from qj e1];exact FineIn.none (Zdl hw hp)
 obtain⟨⟨G,st,hO⟩,hk⟩:=Zav hok e1;have a1:x.insL pu nx y=st.segs.flatMap (GS.l (x.gn pu nx y)):=by unfold FX.insL;rw[qc e1,hO]
 have a2:insN nx y=nx+(st.nl:Int):=by unfold insN;rw[qc e1,hO]
 by_cases e4:y.op=cloB
 .obtain⟨q1,q2,q3⟩:=hg.closure e4;rw[e4,Zfj]at hO;cases hO;rw[a1,a2];have:Fine A [] (x.closureL pu y.args y.to y.num):=Z89 hw hp hA (zuv gc hok) (hent y.num om q2);rw[show nx+((0:Nat):Int)=nx from Int.add_zero _,show List.flatMap (GS.l (x.gn pu nx y)) [GS.clo]=x.closureL pu y.args y.to y.num from zan _];exact FineIn.none this
 have ho:=hk e4;rw[hO]at ho;simp only[okG,zba]at ho;obtain⟨ho,hask⟩:=ho;rw[a2]at hN;rw[a1,a2];unfold fineT at ho;rcases qu _ _ |>.mp ho with ho|ho
 .split at ho
  case h_2=>cases ho
  rename_i hs;rw[hs]at hask⊢;simp only[zdt]at hask;rw[show List.flatMap (GS.l (x.gn pu nx y)) [GS.ask]=x.askedL pu nx y.op (y.args.getD 0 0) y.to from zan _,hask.2];exact Zdx hw hp fun n h1 h2=>hN n h1 (by rw[hask.2];exact h2)
 .simp only[zba,zdt]at ho;obtain⟨⟨⟨h1,h2⟩,h3⟩,h4⟩:=ho;have hf:=Z6a (nx:=nx) (y:=y) hw hp hA (fun e=>Zje hok hH e4 (qY e)) (fun j hj=>hN _ om om) h1;refine⟨om,_,hf,?_,fun n=>?_⟩
  .exact List.Pairwise.map _ (fun a b (hab:a≠b) (e:nx+(a:Int)=nx+(b:Int))=>hab om) h2
  .simp only[zmp];constructor
   .rintro⟨j,hj,rfl⟩;have:=qY (zat.1 h3 j hj);omega
   .rintro⟨q1,q2⟩;have hm:(n-nx).toNat<st.nl:=om;have:=zat.1 h4 _ (wg.2 hm);exact⟨_,List.contains_iff_mem.1 this,om⟩
end
def PM(P:Int→Prop)(l:List MvR):Prop:=∀m∈l,P m.to∧P m.fr
theorem PM.snoc{P:Int→Prop}{l:List MvR}{m:MvR}(h:PM P l)(h1:P m.to)(h2:P m.fr):PM P (l++[m]):=fun x hx=>by
 rcases zma.1 hx with hx|hx
 .exact h x hx
 .rw[zsi.1 hx];exact⟨h1,h2⟩
theorem PM.drop{P:Int→Prop}{l:List MvR}(h:PM P l)(t:Int):PM P (dropM l t):=fun x hx=>h x (zmf.1 hx).1
theorem zzj{P:Int→Prop}:∀(k:Nat)(R:List MvR)(to:Int)(out:List MvR),PM P R→PM P out→PM P (moveM k R to out).1∧PM P (moveM k R to out).2
 |0,R,to,out,h1,h2=>⟨h1,h2⟩
 |k+1,R,to,out,h1,h2=>by
  rw[moveM];cases hl:lkM R to with
  |none=>exact⟨h1,h2⟩
  |some fr=>
   simp only;have h3:=h1 _ (za7 hl);split
   .exact⟨h1,h2⟩
   .exact zzj k (dropM R to) fr (out++[⟨to,fr⟩]) (h1.drop to) (h2.snoc h3.1 h3.2)
theorem Zay{P:Int→Prop}:∀(l R out:List MvR),PM P R→PM P out→PM P (freeM l R out).1∧PM P (freeM l R out).2
 | [],R,out,h1,h2=>⟨h1,h2⟩
 |m::l,R,out,h1,h2=>by
  rw[freeM];obtain⟨h3,h4⟩:=zzj (R.length+1) R m.to out h1 h2;exact Zay l _ _ h3 h4
theorem Z1x{P:Int→Prop}{sp:Int}(hs:P sp):∀(l R out:List MvR),PM P l→PM P R→PM P out→PM P (z65 sp l R out).2
 | [],R,out,_,_,h2=>h2
 |m::l,R,out,h0,h1,h2=>by
  rw[z65];have hm:=h0 m (zms);have h3:PM P (z7t sp m R out).1∧PM P (z7t sp m R out).2:=by
   unfold z7t;split
   .refine zzj _ _ _ _ (fun x hx=>?_) (h2.snoc hs hm.1);obtain⟨y,hy,rfl⟩:=zmp.1 hx;have:=h1 y hy;split
    .rename_i e;exact⟨e▸this.1,hs⟩
    .exact this
   .exact⟨h1,h2⟩
  exact Z1x hs l _ _ (fun x hx=>h0 x (zmm _ hx)) h3.1 h3.2
theorem Zjw{P:Int→Prop}{sp:Int}(hs:P sp){l:List MvR}(h:PM P l):PM P (z94 l sp):=by
 unfold z94;split
 .obtain⟨h1,h2⟩:=Zay l (realM l) [] (fun x hx=>h x (zmf.1 hx).1) (fun x hx=>by cases hx);exact Z1x hs l _ _ h h1 h2
 .exact fun x hx=>by cases hx
section
variable {x:FX}{A:Int→Prop}{pu nx:Int}
theorem zxq:∀{ms:List MvR},PM (fun n=>0≤n∧n≤31) ms→Fine A [] (zom ms)
 | [],_=>Fine.nil
 |m::ms,h=>by
  have h1:=h m (zms);exact Fine.wth rfl dC h1.1 h1.2 dC (zxq fun y hy=>h y (zmm _ hy))
theorem zxd{ms:List MvR}(h:PM (fun n=>0≤n∧n≤31) ms):Fine A [] (za3 ms):=zxq (Zjw dC h)
theorem toP_b{i:Nat}(h:i≤31):0≤toP i∧toP i≤31:=by unfold toP;split<;>omega
theorem Zac(hw:XW x):∀(rs:List Int)(i:Nat),i+rs.length≤32→PM (fun n=>0≤n∧n≤31) (x.passM i rs)
 | [],_,_=>fun y hy=>by cases hy
 |r::rs,i,h=>fun y hy=>by
  rw[zlc]at h;rw[FX.passM]at hy;rcases zma.1 hy with hy|hy
  .split at hy
   .rename_i hc;rw[zsi.1 hy];exact⟨toP_b om,reg_b hw hc⟩
   .cases hy
  .exact Zac hw rs (i+1) om y hy
theorem Z2i(hw:XW x)(hp:0≤pu∧pu≤2100):∀(rs:List Int)(i:Nat),i+rs.length≤32→Fine A [] (x.passD pu i rs)
 | [],_,_=>Fine.nil
 |r::rs,i,h=>by
  rw[zlc]at h;rw[FX.passD];refine Fine.cast (d:=[]++[]) (Fine.app ?_ (Z2i hw hp rs (i+1) om)) rfl;split
  .exact Fine.nil
  .exact Fine.wth rfl dC (toP_b om) dC (zvl hw hp r) Fine.nil
theorem Z0o(hw:XW x)(hp:0≤pu∧pu≤2100){c:Int}{rs:List Int}(h:rs.length≤6):Fine A [] (x.passL pu c rs):=by
 unfold FX.passL;have hl:0+(c::rs).length≤32:=by rw[zlc];omega
 exact Fine.cast (Fine.app (Fine.app (zxd (Zac hw _ 0 hl)) (Z2i hw hp _ 0 hl)) (Fine.num dC Fine.nil)) rfl
theorem Zar:∀(ws:List Int)(j:Nat),(∀w∈ws,0≤w∧w≤31)→j+ws.length≤32767→Fine A [] (stW j ws)
 | [],_,_,_=>Fine.nil
 |w::ws,j,h,hl=>by
  rw[zlc]at hl;rw[stW];exact Fine.wth rfl dC (h w (zms)) dC om (Zar ws (j+1) (fun y hy=>h y (zmm _ hy)) om)
theorem Zbv:∀(ws:List Int)(j:Nat),(∀w∈ws,0≤w∧w≤31)→j+ws.length≤32767→Fine A [] (ldW j ws)
 | [],_,_,_=>Fine.nil
 |w::ws,j,h,hl=>by
  rw[zlc]at hl;rw[ldW];exact Fine.wth rfl dC (h w (zms)) dC om (Zbv ws (j+1) (fun y hy=>h y (zmm _ hy)) om)
theorem Zou(hw:XW x)(b w:Int)(h:w∈x.saveW b):0≤w∧w≤31:=by
 unfold FX.saveW at h;rcases zma.1 h with h|h
 .obtain⟨r,h1,rfl⟩:=zmp.1 h;exact reg_b hw (zmf.1 h1).2
 .split at h
  .rw[zsi.1 h];decide
  .cases h
theorem FineIn.one{l:List ItemR}(h:Fine A [nx] l):FineIn A nx (nx+1) l:=⟨om,_,h,sM,fun n=>by simp only[zmc,List.not_mem_nil,or_false];omega⟩
theorem Z1m(hw:XW x)(hA:BaseA A){b place:Int}{e:EndX}(hl:(x.saveW b).length≤2001)(he:e.args.length≤6)(hpl:A place)(hnx:A nx)(hnext:A (x.labs.getD e.next.toNat 0)):FineIn A nx (nx+1) (x.callL b e place nx):=by
 have hs:=hw.slots;have hww:=fun w hw'=>Zou hw b w hw';unfold FX.callL;generalize x.saveW b=ws at *;have e1:arI .shl .i64 (arI .add .i64 x.slots (ws.length:Int)) 3=8*(x.slots+ws.length):=by
  have e0:arI .add .i64 x.slots (ws.length:Int)=x.slots+ws.length:=w64 om om;rw[e0];show IntKind.i64.wrap ((x.slots+ws.length)*2^3)=_;rw[w64 om om];omega
 rw[e1];have h1:Fine A [] [(⟨5,⟨20,26,0,0,0⟩,nx,0⟩:ItemR),⟨0,⟨18,26,26,0,15⟩,0,0⟩,⟨0,⟨15,26,26,0,8*(x.slots+ws.length)⟩,0,0⟩,⟨0,⟨23,26,30,0,(ws.length:Int)⟩,0,0⟩]:=
  Fine.plc dC hnx (Fine.far rfl dC dC dC dC (Fine.wth rfl dC dC dC om (Fine.wth rfl dC dC dC om Fine.nil)))
 have h2:Fine A [nx] [(⟨3,⟨28,0,0,0,0⟩,place,0⟩:ItemR),⟨1,⟨0,0,0,0,0⟩,nx,0⟩,⟨0,⟨15,27,1,0,0⟩,0,0⟩]:=
  Fine.jmp dC hpl (Fine.lab (Fine.wth rfl dC dC dC dC Fine.nil))
 exact FineIn.one (Fine.cast (Fine.app (Fine.app (Fine.app (Fine.app (Fine.app (Fine.app (Fine.app (Fine.app (Zar ws 0 hww om) h1) (zca om)) (Z0o hw om he)) h2) (zca om)) (Zbv ws 0 hww om)) (zfg hw dC dC)) (Fine.jmp dC hnext Fine.nil)) rfl)
theorem Z6h(hw:XW x)(hA:BaseA A)(hsv:∀b,(x.saveW b).length≤2001){b:Int}{e:EndX}(hok:FinGood x.p e)(hlab:∀n:Int,0≤n→n<x.p.blocks.length→A (x.lab n))(hN:∀n,nx≤n→n<endN nx e→A n):FineIn A nx (endN nx e) (x.endL b nx e):=by
 have hs:=hw.slots;have hk:=hok.kind;have hfew:=hok.few;have hnext:e.kind=0∨e.kind=1∨e.kind=4∨e.kind=6→A (x.lab e.next):=fun h=>by
  have:=hok.next h;exact hlab _ this.1 this.2
 have e0:arI .sub .i64 0 x.slots=0-x.slots:=w64 om om;have lv:∀to,A to→Fine A [] (x.leaveL e to):=fun to h=>by
  unfold FX.leaveL;exact Fine.cast (Fine.app (Fine.app (Z0o hw dC hfew) (zca (by rw[e0];omega))) (Fine.jmp dC h Fine.nil)) rfl
 unfold FX.endL endN at *;by_cases k0:e.kind=0
 .rw[qj k0,qc om];exact FineIn.none (Fine.jmp dC (hnext (.inl k0)) Fine.nil)
 rw[qc k0];by_cases k1:e.kind=1
 .rw[qj k1,qc om];have h2:=hok.els k1;refine FineIn.none ?_;unfold FX.askL;exact Fine.cast (Fine.app (zf2 hw dC dC) (Fine.num dC (Fine.bra rfl dC (get_b hw dC) dC (hlab _ h2.1 h2.2) (Fine.jmp dC (hnext (.inr (.inl k1))) Fine.nil)))) rfl
 rw[qc k1];by_cases k2:e.kind=2
 .rw[qj k2,qc (show ¬(e.kind=4∨e.kind=6) by omega)];exact FineIn.none (Zj2 hw dC hA)
 rw[qc k2];by_cases k3:e.kind=3
 .rw[qj k3,qc (show ¬(e.kind=4∨e.kind=6) by omega)];exact FineIn.none (lv 3 (hA _ dC))
 rw[qc k3];by_cases k5:e.kind=5
 .rw[qj k5,qc (show ¬(e.kind=4∨e.kind=6) by omega)];exact FineIn.none (lv 7 (hA _ dC))
 rw[qc k5];have hq:e.kind=4∨e.kind=6:=om;rw[qj hq]at hN⊢;have hn:=hnext om;have hnx:=hN nx om om;by_cases k4:e.kind=4
 .rw[qj k4];exact Z1m hw hA (hsv b) hfew (hA _ dC) hnx hn
 rw[qc k4,qj (show e.kind=6 by omega)];exact Z1m hw hA (hsv b) hfew (hA _ dC) hnx hn
end
structure FunW(c:CodeX)(x:FX):Prop where
 gc:GoodC c
 hw:XW x
 hH:x.p.holds≤1000
 hsv:∀b,(x.saveW b).length≤2001
 live0:∀r∈liveL x.p 0 0,0≤r
structure NamesA(c:CodeX)(x:FX)(A:Int→Prop):Prop where
 base:BaseA A
 ent:∀n:Int,0≤n→n<c.length→A (x.ents.getD n.toNat 0)
 lab:∀n:Int,0≤n→n<x.p.blocks.length→A (x.lab n)
theorem zpm(c:CodeX)(x:FX):NamesA c x fun _=>True:=⟨fun _ _=>trivial,fun _ _ _=>trivial,fun _ _ _=>trivial⟩
section
variable {c:CodeX}{x:FX}
theorem ztt{A:Int→Prop}{f:Int→List ItemR}:∀{rs:List Int},(∀r∈rs,Fine A [] (f r))→Fine A [] (rs.flatMap f)
 | [],_=>Fine.nil
 |r::rs,h=>by
  rw[qO];exact Fine.cast (Fine.app (h r (zms)) (ztt fun q hq=>h q (zmm _ hq))) rfl
theorem Z2s{A:Int→Prop}:∀{js:List Nat},(∀j∈js,j≤32767)→Fine A [] (js.map zeroR)
 | [],_=>Fine.nil
 |j::js,h=>by
  have:=h j (zms);rw[q9];unfold zeroR;exact Fine.wth rfl dC dC dC om (Z2s fun q hq=>h q (zmm _ hq))
theorem Z5k(W:FunW c x){A:Int→Prop}(hA:BaseA A){lab nx:Int}(hN:∀n,nx≤n→n<x.roomN nx→A n):nx≤x.roomN nx∧∃d,Fine A (lab::d) (x.entL lab nx)∧d.Nodup∧∀n,n∈d↔nx≤n∧n<x.roomN nx:=by
 have hw:=W.hw;have hs:=hw.slots;have hpr:=hw.params;have hhead:Fine A [lab] [(⟨1,⟨0,0,0,0,0⟩,lab,0⟩:ItemR),⟨4,⟨20,26,0,0,0⟩,0,x.p.params⟩,⟨2,⟨25,26,28,0,0⟩,22,0⟩]:=
  Fine.lab (Fine.num dC (Fine.bra rfl dC dC dC (hA _ dC) Fine.nil))
 have hz:Fine A [] ((List.range x.slots.toNat).map zeroR):=Z2s fun j hj=>by have:=wg.1 hj;omega
 have hD:Fine A [] ((liveL x.p 0 0).flatMap x.entD):=ztt fun r hr=>by
  have h0:=W.live0 r hr;unfold FX.entD;split
  .rename_i h;exact Fine.wth rfl dC om dC (zvl hw dC r) Fine.nil
  .exact Fine.nil
 have hM:PM (fun n=>0≤n∧n≤31) ((liveL x.p 0 0).flatMap x.entM):=fun m hm=>by
  obtain⟨r,hr,h⟩:=List.mem_flatMap.1 hm;have h0:=W.live0 r hr;unfold FX.entM at h;split at h
  .rename_i hc;rw[zsi.1 h];exact⟨reg_b hw hc.2,by show 0≤1+r∧1+r≤31;omega⟩
  .cases h
 have hNm:Fine A [] ((liveL x.p 0 0).flatMap x.entN):=ztt fun r hr=>by
  unfold FX.entN;split
  .exact Fine.nil
  .exact zv5 hw dC
 have hroom:nx≤x.roomN nx∧∃d,Fine A d (x.roomL nx)∧d.Nodup∧∀n,n∈d↔nx≤n∧n<x.roomN nx:=by
  unfold FX.roomL FX.roomN at *;by_cases h:0<x.room
  .rw[qj h]at hN;simp only[qj h];have hn:=hN nx om om;refine⟨om,[nx],Fine.num dC (Fine.bra rfl dC dC dC hn (Fine.jmp dC (hA _ dC) (Fine.lab Fine.nil))),sM,fun n=>?_⟩;simp only[zmc,List.not_mem_nil,or_false];omega
  .simp only[qc h];refine⟨om,[],Fine.nil,List.nodup_nil,fun n=>?_⟩;simp only[List.not_mem_nil,false_iff];omega
 obtain⟨hle,d,hd,hn,hdn⟩:=hroom;refine⟨hle,d,?_,hn,hdn⟩;unfold FX.entL;exact Fine.cast (Fine.app (Fine.app (Fine.app (Fine.app (Fine.app (Fine.app hhead hd) hz) (zca om)) hD) (zxd hM)) hNm) sM
theorem zhd(W:FunW c x):∀(ys:List InsX)(nx:Int)(A:Int→Prop),NamesA c x A→(∀y∈ys,insOk c x.p y=true)→(∀n,nx≤n→n<inssN nx ys→A n)→FineIn A nx (inssN nx ys) (x.inssL nx ys)
 | [],nx,A,_,_,_=>FineIn.none Fine.nil
 |y::ys,nx,A,hA,hok,hN=>by
  rw[FX.inssL,inssN];rw[inssN]at hN;have h1:=(Z62 (A:=fun _=>True) (pu:=0) W.gc W.hw dC (zpm c x).base W.hH y (hok y (zms)) (zpm c x).ent (nx:=nx) fun _ _ _=>trivial).1;have h2:=(zhd W ys (insN nx y) (fun _=>True) (zpm c x) (fun z hz=>hok z (zmm _ hz)) fun _ _ _=>trivial).1;exact FineIn.app (Z62 W.gc W.hw dC hA.base W.hH y (hok y (zms)) hA.ent fun n q1 q2=>hN n q1 om) (zhd W ys (insN nx y) A hA (fun z hz=>hok z (zmm _ hz)) fun n q1 q2=>hN n om q2)
theorem zh8(W:FunW c x)(L0:Int):∀(bs:List BlkX)(i:Nat)(nx:Int)(A:Int→Prop),NamesA c x A→(∀b∈bs,(∀y∈b.ins,insOk c x.p y=true)∧FinGood x.p b.e)→(∀j:Nat,j<i+bs.length→x.lab (j:Int)=L0+(j:Int))→L0+((i+bs.length:Nat):Int)≤nx→(∀n,nx≤n→n<blksN nx bs→A n) →
  nx≤blksN nx bs∧∃d,Fine A d (x.blksL i nx bs)∧d.Nodup∧∀n,n∈d↔(L0+(i:Int)≤n∧n<L0+((i+bs.length:Nat):Int))∨(nx≤n∧n<blksN nx bs)
 | [],i,nx,A,_,_,_,_,_=>⟨by rw[blksN];omega,[],Fine.nil,List.nodup_nil,fun n=>by simp only[List.not_mem_nil,false_iff,blksN,zln];omega⟩
 |b::bs,i,nx,A,hA,hok,hL,hlo,hN=>by
  rw[FX.blksL,blksN];rw[blksN]at hN;rw[zlc]at hL hlo⊢;have hb:=hok b (zms);have hT:=zpm c x;have t1:=(zhd W b.ins nx (fun _=>True) hT hb.1 fun _ _ _=>trivial).1;have t2:=(Z6h (A:=fun _=>True) (b:=(i:Int)) (nx:=inssN nx b.ins) W.hw hT.base W.hsv hb.2 hT.lab fun _ _ _=>trivial).1;have hok':∀b'∈bs,(∀y∈b'.ins,insOk c x.p y=true)∧FinGood x.p b'.e:=fun b' h=>hok b' (zmm _ h);have hL':∀j:Nat,j<i+1+bs.length→x.lab (j:Int)=L0+(j:Int):=fun j hj=>hL j om;have t3:=(zh8 W L0 bs (i+1) (endN (inssN nx b.ins) b.e) (fun _=>True) hT hok' hL' om fun _ _ _=>trivial).1;have f1:=zhd W b.ins nx A hA hb.1 fun n q1 q2=>hN n q1 om;have f2:=Z6h (A:=A) (b:=(i:Int)) (nx:=inssN nx b.ins) W.hw hA.base W.hsv hb.2 hA.lab fun n q1 q2=>hN n om om;obtain⟨g1,d3,g3,g4,g5⟩:=zh8 W L0 bs (i+1) (endN (inssN nx b.ins) b.e) A hA hok' hL' om fun n q1 q2=>hN n om q2;obtain⟨e1,d2,e3,e4,e5⟩:=FineIn.app f1 f2;have hlab:=hL i om;rw[hlab];refine⟨om,_,Fine.cast (Fine.app (Fine.app (Fine.lab (n:=L0+(i:Int)) Fine.nil) e3) g3 |> fun h=>(by simpa only[zaa]using h:Fine A _ _)) rfl,?_,fun n=>?_⟩
  .simp only[cns];refine List.nodup_cons.2 ⟨fun h=>?_,List.nodup_append.2 ⟨e4,g4,fun p hp q hq=>?_⟩⟩
   .rcases zma.1 h with h|h
    .have:=(e5 _).1 h;omega
    .have:=(g5 _).1 h;omega
   .have:=(e5 p).1 hp;have:=(g5 q).1 hq;omega
  .simp only[cns,zmc,zma];rw[e5,g5];omega
theorem Z5x(W:FunW c x){A:Int→Prop}(hA:NamesA c x A)(hok:∀b∈x.p.blocks,(∀y∈b.ins,insOk c x.p y=true)∧FinGood x.p b.e)(hb0:0<x.p.blocks.length){L0 lab:Int}(hL:∀j:Nat,j<x.p.blocks.length→x.lab (j:Int)=L0+(j:Int))(hlab:lab<L0)(hN:∀n,L0+(x.p.blocks.length:Int)≤n→n<x.funN (L0+x.p.blocks.length)→A n):
  L0+(x.p.blocks.length:Int)≤x.funN (L0+x.p.blocks.length)∧∃d,Fine A d (x.funL lab (L0+x.p.blocks.length))∧d.Nodup∧∀n,n∈d↔n=lab∨(L0≤n∧n<x.funN (L0+x.p.blocks.length)):=by
 have hT:=zpm c x;have hL':∀j:Nat,j<0+x.p.blocks.length→x.lab (j:Int)=L0+(j:Int):=fun j hj=>hL j om;obtain⟨t1,_⟩:=Z5k W hT.base (lab:=lab) (nx:=L0+x.p.blocks.length) fun _ _ _=>trivial;obtain⟨t2,_⟩:=zh8 W L0 x.p.blocks 0 (x.roomN (L0+x.p.blocks.length)) (fun _=>True) hT hok hL' om fun _ _ _=>trivial;have hfN:x.funN (L0+x.p.blocks.length)=blksN (x.roomN (L0+x.p.blocks.length)) x.p.blocks:=rfl;rw[hfN]at hN⊢;obtain⟨_,d1,a1,a2,a3⟩:=Z5k W hA.base (lab:=lab) (nx:=L0+x.p.blocks.length) fun n q1 q2=>hN n q1 om;obtain⟨_,d2,b1,b2,b3⟩:=zh8 W L0 x.p.blocks 0 (x.roomN (L0+x.p.blocks.length)) A hA hok hL' om fun n q1 q2=>hN n om q2;refine⟨om,_,Fine.app (Fine.app a1 (Fine.jmp (n:=x.lab 0) dC (hA.lab 0 om om) Fine.nil)) b1,?_,fun n=>?_⟩
 .simp only[zan,List.cons_append];refine List.nodup_cons.2 ⟨fun h=>?_,List.nodup_append.2 ⟨a2,b2,fun p hp q hq=>?_⟩⟩
  .rcases zma.1 h with h|h
   .have:=(a3 _).1 h;omega
   .have:=(b3 _).1 h;omega
  .have:=(a3 p).1 hp;have:=(b3 q).1 hq;omega
 .simp only[zan,List.cons_append,zmc,zma];rw[a3,b3];omega
end
theorem Zmm{i j:Nat}(h:entA i=entA j):i=j:=by
 unfold entA at h;split at h<;>split at h<;>omega
theorem Z3w{i n:Nat}(h:i<n):entA i<10000+(n:Int):=by
 unfold entA;split<;>omega
theorem Z6m{c:CodeX}{i:Nat}(h:i<c.length):(entsC c).getD i 0=entA i:=by
 unfold entsC;rw[zgd,zem,List.getElem?_range h];rfl
theorem fxP_w{c:CodeX}(gc:GoodC c){p:PrcX}(hp:p∈c)(hk:PlOk p)(ents:List Int)(syms:List (List UInt8))(stack nx:Int):FunW c (fxP p ents syms stack nx):=by
 have gp:=gc.prc hp;obtain⟨hfit,hfew⟩:=gc.fit hp;have hlo:=hk.lo;have hhi:=hk.hi;have hlen:=hk.len;have hreg:=gp.regs;have hf:FnOk (fxP p ents syms stack nx):=⟨hfit,hfew,fun r hr=>by
  have:=zqx gp r hr;show 0≤r∧r<((colP p 24).1.length:Int);omega,by show(colP p 24).1.length≤2000;omega⟩
 refine⟨gc,⟨fun r=>?_,by show 0≤(colP p 24).2-24∧(colP p 24).2-24≤2001;omega,gp.params⟩,gp.holds.2,fun b=>Z5u hf b,fun r hr=>(hf.live hr).1⟩;show 0≤(colP p 24).1.getD r.toNat 0∧(colP p 24).1.getD r.toNat 0≤2100;rw[zgd];cases h:(colP p 24).1[r.toNat]? with
 |none=>exact⟨dC,dC⟩
 |some a=>
  have:=hk.all _ a h;show 0≤a∧a≤2100;omega
noncomputable def genE(ents:List Int)(syms:List (List UInt8))(stack:Int):Int→List PrcX→Int
 |nx,[]=>nx
 |nx,p::ps=>genE ents syms stack ((fxP p ents syms stack nx).funN (nx+p.blocks.length)) ps
section
variable {c:CodeX}{syms:List (List UInt8)}{stack:Int}
theorem Z3a{p:PrcX}{ents:List Int}{nx:Int}{j:Nat}(h:j<p.blocks.length):(fxP p ents syms stack nx).lab (j:Int)=nx+(j:Int):=by
 show((List.range p.blocks.length).map fun j:Nat=>nx+(j:Int)).getD j 0=_;rw[zgd,zem,List.getElem?_range h];rfl
theorem Zj9(gc:GoodC c){p:PrcX}(hp:p∈c):∀b∈p.blocks,(∀y∈b.ins,insOk c p y=true)∧FinGood p b.e:=fun b hb=>⟨((gc.prc hp).ins b hb).2,z7z ((gc.prc hp).fin b hb)⟩
theorem Zfh(gc:GoodC c){p:PrcX}(hp:p∈c)(hk:PlOk p)(nx:Int):nx+p.blocks.length≤(fxP p (entsC c) syms stack nx).funN (nx+p.blocks.length):=
 (Z5x (x:=fxP p (entsC c) syms stack nx) (L0:=nx) (lab:=nx-1) (fxP_w gc hp hk _ _ _ _) (zpm c _) (Zj9 gc hp) (gc.prc hp).blocks.1 (fun j hj=>Z3a hj) om fun _ _ _=>trivial).1
theorem Zfr(gc:GoodC c):∀(ps:List PrcX)(nx:Int),(∀p∈ps,p∈c∧PlOk p)→nx≤genE (entsC c) syms stack nx ps
 | [],nx,_=>by rw[genE];omega
 |p::ps,nx,h=>by
  rw[genE];obtain⟨h1,h2⟩:=h p (zms);have h3:=Zfh (syms:=syms) (stack:=stack) gc h1 h2 nx;have h4:=Zfr gc ps ((fxP p (entsC c) syms stack nx).funN (nx+p.blocks.length)) fun q hq=>h q (zmm _ hq);omega
theorem Z6p(gc:GoodC c){A:Int→Prop}(hA:BaseA A)(hE:∀j,j<c.length→A (entA j)){out:List ItemR}:∀(ps:List PrcX)(i:Nat)(nx:Int)(l:List ItemR)(d:List Int),(∀p∈ps,p∈c∧PlOk p)→10000+(c.length:Int)≤nx→i+ps.length=c.length →
  Fine A d l→d.Nodup→(∀n,n∈d↔(∃j,j<i∧n=entA j)∨(10000+(c.length:Int)≤n∧n<nx))→(∀n,10000+(c.length:Int)≤n→n<genE (entsC c) syms stack nx ps→A n)→genF (entsC c) syms stack i nx l ps=some out →
  ∃d',Fine A d' out∧d'.Nodup∧out.length≤max l.length 64536∧∀n,n∈d'↔(∃j,j<c.length∧n=entA j)∨(10000+(c.length:Int)≤n∧n<genE (entsC c) syms stack nx ps)
 | [],i,nx,l,d,_,_,hi,hl,hn,hd,_,h=>by
  rw[genF]at h;obtain rfl:=qV h;rw[zln,Nat.add_zero]at hi;refine⟨d,hl,hn,om,fun n=>?_⟩;rw[hd,hi,genE]
 |p::ps,i,nx,l,d,hps,hnx,hi,hl,hn,hd,hN,h=>by
  rw[zlc]at hi;obtain⟨h1,h2⟩:=hps p (zms);have hps':∀q∈ps,q∈c∧PlOk q:=fun q hq=>hps q (zmm _ hq);rw[genE]at hN⊢;rw[genF]at h;split at h
  .cases h
  rename_i hshort;have h3:=Zfh (syms:=syms) (stack:=stack) gc h1 h2 nx;have h4:=Zfr (syms:=syms) (stack:=stack) gc ps ((fxP p (entsC c) syms stack nx).funN (nx+p.blocks.length)) hps';have hlab:(entsC c).getD i 0=entA i:=Z6m om;have hlt:entA i<nx:=by have:=Z3w (show i<c.length by omega);omega
  rw[hlab]at h hshort;obtain ⟨_,d2,f2,n2,b2⟩:=Z5x (x:=fxP p (entsC c) syms stack nx) (A:=A) (L0:=nx) (lab:=entA i) (fxP_w gc h1 h2 _ _ _ _) ⟨hA,fun n q1 q2=>by
    show A ((entsC c).getD n.toNat 0);rw[Z6m om];exact hE _ om,fun n q1 q2=>by
    obtain⟨m,rfl⟩:∃m:Nat,n=(m:Int):=⟨n.toNat,om⟩;have q3:m<p.blocks.length:=by
     have:((m:Nat):Int)<(p.blocks.length:Int):=q2;omega
    rw[Z3a q3];exact hN _ om om⟩ (Zj9 gc h1) (gc.prc h1).blocks.1 (fun j hj=>Z3a hj) hlt fun n q1 q2=>by
    have q1':nx+(p.blocks.length:Int)≤n:=q1;have q2':n<(fxP p (entsC c) syms stack nx).funN (nx+p.blocks.length):=q2;exact hN n om om
  have b2':∀n,n∈d2↔n=entA i∨(nx≤n∧n<(fxP p (entsC c) syms stack nx).funN (nx+p.blocks.length)):=b2;have f2':Fine A d2 ((fxP p (entsC c) syms stack nx).funL (entA i) (nx+p.blocks.length)):=f2;obtain ⟨d',g1,g2,g3,g4⟩:=Z6p gc hA hE ps (i+1) ((fxP p (entsC c) syms stack nx).funN (nx+p.blocks.length)) _ (d++d2) hps' om om (hl.app f2') (List.nodup_append.2 ⟨hn,n2,fun a ha b hb=>by
   rcases(hd a).1 ha with⟨j,hj,rfl⟩|ha
   .rcases(b2' b).1 hb with rfl|hb
    .exact fun e=>by have:=Zmm e;omega
    .have:=Z3w (show j<c.length by omega);omega
   .rcases(b2' b).1 hb with rfl|hb
    .have:=Z3w (show i<c.length by omega);omega
    .omega⟩) (fun n=>by
   rw[zma,hd,b2'];constructor
   .rintro((⟨j,hj,e⟩|h)|(e|h))
    .exact .inl ⟨j,om,e⟩
    .exact .inr om
    .exact .inl ⟨i,om,e⟩
    .exact .inr om
   .rintro(⟨j,hj,e⟩|h)
    .by_cases hji:j=i
     .subst hji;exact .inr (.inl e)
     .exact .inl (.inl ⟨j,om,e⟩)
    .by_cases hq:n<nx
     .exact .inl (.inr om)
     .exact .inr (.inr om)) hN h
  exact⟨d',g1,g2,om,g4⟩
end
theorem Zki{l:List ItemR}{n:Int}(h:n∈defsR l):(findR l n).isSome=true:=by
 unfold findR;rw[List.findIdx?_isSome,wo];obtain⟨x,hx,hx2⟩:=List.mem_filterMap.1 h;refine⟨x,hx,?_⟩;unfold isLab;split at hx2
 .rename_i hk;rw[hk,qV hx2];simp
 .cases hx2
theorem Zof{l:List ItemR}{n:Int}(h:(findR l n).isSome=true):n∈defsR l:=by
 unfold findR at h;rw[List.findIdx?_isSome,wo]at h;obtain⟨x,hx,h2⟩:=h;unfold isLab at h2;simp only[zba,zdt]at h2;exact List.mem_filterMap.2 ⟨x,hx,by rw[qj h2.1,h2.2]⟩
theorem Zaz:∀(l seen:List ItemR),(∀x∈l,mayR x=true)→(defsR (seen++l)).Nodup→badR seen l=0
 | [],seen,_,_=>by rw[badR]
 |x::l,seen,hm,hn=>by
  rw[badR,qc (by rw[hm x (zms)];simp)];rw[qc]
  .refine Zaz l (seen++[x]) (fun y hy=>hm y (zmm _ hy)) ?_;rw[zaa];exact hn
  .rintro⟨hk,hf⟩;have h1:=Zof hf;unfold defsR at hn;rw[List.filterMap_append,List.filterMap_cons,qj hk]at hn;exact(List.nodup_append.1 hn).2.2 _ h1 _ (zms) rfl
theorem Zoh{A:Int→Prop}{d:List Int}{l:List ItemR}(h:Fine A d l)(hn:d.Nodup)(hA:∀n,A n→n∈d)(hl:l.length≤65536):errA (asmR l)=0:=by
 have hb:=Zaz l [] h.may (by rw[List.nil_append,h.defs];exact hn);unfold asmR;rw[qc om,qc (by rw[hb];decide),qc (by rw[hb];decide),qc]
 .rfl
 .intro hany;obtain⟨x,hx,h2⟩:=wo.1 hany;simp only[zba]at h2;have h3:=Zki (l:=l) (n:=x.label) (by rw[h.defs];exact hA _ (h.names x hx h2.1));rw[Option.isNone_iff_eq_none]at h2;rw[h2.2]at h3;cases h3
noncomputable def rtD:List Int:=defsR (rt_codeR++gc_codeR)
theorem Zqi:(rt_codeR++gc_codeR).all mayR=true:=kr
theorem Zoc:(rt_codeR++gc_codeR).all (fun x=>!z1j x||rtD.contains x.label||decide (x.label=10))=true:=kr
theorem Zno:decide rtD.Nodup=true:=kr
theorem rt_lo:rtD.all (fun n=>decide (n<10000)&&decide (n≠10))=true:=kr
theorem Zot:baseN.all (fun n=>rtD.contains n)=true:=kr
theorem Z8v{c:CodeX}(gc:GoodC c){stack:Int}(hk:∀p∈c,PlOk p){l:List ItemR}(hg:genC c stack=.inr l):errA (asmR (z45 l))=0:=by
 have hF:genF (entsC c) (gsC c) stack 0 (10000+(c.length:Int)) [] c=some l:=by
  unfold genC at hg;split at hg
  .cases hg
  split at hg
  .cases hg
  cases h:genF (entsC c) (gsC c) stack 0 (10000+(c.length:Int)) [] c with
  |none=>rw[h]at hg;cases hg
  |some l'=>rw[h]at hg;rw[Sum.inr.inj hg]
 obtain⟨A,hAdef⟩:∃A:Int→Prop,A=fun n=>n∈rtD∨(∃j,j<c.length∧n=entA j)∨(10000+(c.length:Int)≤n∧n<genE (entsC c) (gsC c) stack (10000+(c.length:Int)) c):=⟨_,rfl⟩;have hbase:BaseA A:=fun n hn=>by
  rw[hAdef];exact .inl (List.contains_iff_mem.1 (zat.1 Zot n hn))
 have hcl:0<c.length:=by
  obtain⟨p,l',e,_⟩:=gc.first;rw[e];simp
 obtain⟨d,f1,n1,len1,b1⟩:=Z6p (A:=A) (syms:=gsC c) (stack:=stack) gc hbase (fun j hj=>by rw[hAdef];exact .inr (.inl ⟨j,hj,rfl⟩)) c 0 (10000+(c.length:Int)) [] [] (fun p hp=>⟨hp,hk p hp⟩) om om Fine.nil List.nodup_nil (fun n=>by simp only[List.not_mem_nil,false_iff,not_or,not_exists];exact⟨fun j h=>om,om⟩) (fun n q1 q2=>by rw[hAdef];exact .inr (.inr ⟨q1,q2⟩)) hF;have hrt:Fine A rtD (rt_codeR++gc_codeR):=by
  refine⟨fun x hx=>zat.1 Zqi x hx,rfl,fun x hx hn=>?_⟩;have:=zat.1 Zoc x hx;simp only[hn,Bool.not_true,Bool.false_or,qu,zdt]at this;rw[hAdef];rcases this with h|h
  .exact .inl (List.contains_iff_mem.1 h)
  .exact .inr (.inl ⟨0,hcl,h⟩)
 have hlo:∀n∈rtD,n<10000∧n≠10:=fun n hn=>by
  have:=zat.1 rt_lo n hn;simpa using this
 refine Zoh (hrt.app f1) (List.nodup_append.2 ⟨qY Zno,n1,fun a ha b hb e=>?_⟩) (fun n hn=>?_) ?_
 .subst e;have h1:=hlo a ha;rcases(b1 a).1 hb with⟨j,hj,e⟩|h2
  .unfold entA at e;split at e<;>omega
  .omega
 .rw[hAdef]at hn;rw[zma];rcases hn with h|h
  .exact .inl h
  .exact .inr ((b1 n).2 h)
 .have:=zy8;rw[zla,zla];simp only[zln]at len1;omega
