import Derived.Test.YtofbhllknefloaaGreatMp
import Derived.OpenShut
set_option linter.unusedSimpArgs false
set_option linter.unusedVariables false
set_option maxRecDepth 100000
namespace Go.Proofs.YtofbhllknefloaaGreat.Vc
open Go
section
variable {S K:PH} {pv:Value} {mr hr:Nat} {s:MS} {J:List Itm} {c:CodeX} {n:Nat}
theorem zjj {l:List VX} {r:Int} (h0:0≤r) (h1:r < l.length):∃(j:Nat) (y:VX),r=(j:Int)∧l[j]?=some y∧l.getD r.toNat vNone=y:=by
 refine ⟨r.toNat,l[r.toNat]'(by omega),by omega,zge _,?_⟩
 rw [zgd,zge (by omega)];rfl
theorem put15 {X:List PanicEntry→PH→Prop} {E:List Value} {L:LK} {β:Type} {k:Fm β} {Q:β→List Value→PH→LK→Prop} {ws:List ActX} {a:ActX} {x:ActM×List VX} {p:SV} {ss:List SV} {j:Nat} {y v:VX}
  (h:Held S K (machI pv mr hr s++J)) (hA:s.x.acts=ws++[a]) (hget:s.A[ws.length]?=some x) (hxa:actX' x=a) (hy:x.2[j]?=some y) (hp:pOf (ev0 E p)=pOf (eltV x.1.sl (j:Int) (sz VX))) (hs:ss.map (ev0 E)=valVs v) (hv:VFit v)
  (hk:∀K',Held S K' (machI pv mr hr { s with A:=s.A.set ws.length (x.1,x.2.set j v) }++J)→({ s with A:=s.A.set ws.length (x.1,x.2.set j v) }:MS).x=s.x.put (j:Int) v→den Tryz.prog X k E K' L Q):den Tryz.prog X (.store p ss k) E K L Q:=by
 have hpk:=zh3 hget (h.perm permA)
 refine z1t (i:=j) (a:=y) (a':=v) (us:=valVs v) hp hpk hy rfl hs (by simp [oneC]) (z80 hv) fun K1 h1=>?_
 have h2:=zby hget h1
 refine hk K1 (h2.perm (permA (s:={ s with A:=s.A.set ws.length (x.1,x.2.set j v) }) (J:=J)).symm) ?_
 have hm:s.x.put (j:Int) v={ s.x with acts:=ws++[{ a with regs:=a.regs.set j v }] }:=z2w hA _
 rw [hm]
 obtain ⟨l',x',hl',hws,hxa',hget',_⟩:=zew (show s.A.map actX'=ws++[a] from hA)
 rw [hget] at hget'
 cases hget'
 have:(s.A.set ws.length (x.1,x.2.set j v)).map actX'=ws++[{ a with regs:=a.regs.set j v }]:=by
  have hll:l'.length=ws.length:=by rw [←hws];simp
  rw [hl',←hll,List.set_append_right _ _ (Nat.le_refl _),Nat.sub_self,List.set_cons_zero,List.map_append,hws,←hxa]
  simp
 unfold MS.x
 simp only [this]
end
def InsTo (pv:Value) (mr hr:Nat) (J:List Itm) (S:PH) (s:MS) (m:MX) (to:Int) (vs:List Value) (K':PH):Prop:=∃S' s' v,vs=valVs v∧VFit v∧PH.le S S'∧Held S' K' (machI pv mr hr s'++J)∧MFit s'∧s'.A=s.A∧s'.av=s.av∧m=if s'.x.e=0 then s'.x.put to v else s'.x
theorem Z00 (d:Dat) {H:PH} {cs:List Value} (h:d.Rep H cs):VFit (z0r d):=by
 obtain ⟨sv,rfl,hk,hn,ht,hs⟩:=Dat.Rep_iff.1 h
 unfold z0r
 split
 ·exact zfh
 split
 ·exact ⟨hk,hn,by simp⟩
 split
 ·exact ⟨(by decide:InI 3),(by decide:InI 0),ht⟩
 split
 ·exact ⟨(by decide:InI 4),(by decide:InI 0),by simp⟩
 ·exact zfh
section
variable {S K:PH} {pv:Value} {mr hr:Nat} {s:MS} {J:List Itm} {c:CodeX} {n:Nat}
def zld (x:InsX) (r:MX×VX):MX:=if r.1.e=0 then r.1.put x.to r.2 else r.1
theorem Z6k {m:MX} {ws:List ActX} {a:ActX} (hA:m.acts=ws++[a]) (x:InsX):m.ins z0r x =
  if x.op=[99,111,110,115,116] then zld x (m,z0r x.const)
  else if x.op=[109,111,118,101] then zld x (m,(x.args.map (regAt a)).getD 0 vNone)
  else if x.op=[104,101,108,100] then zld x (m,(m.clos.getD a.clo.toNat default).held.getD x.num.toNat vNone)
  else if x.op=[99,108,111,115,117,114,101] then zld x (m.made ⟨0,x.num,x.args.map (regAt a),false,[]⟩)
  else if x.op=tieB then
   match m.find ((x.args.map (regAt a)).getD 0 vNone) with
   | none=>{ m with e:=80 }
   | some k=>
    let c:=m.clos.getD k default
    if (c.held.length:Int)≤x.num then { m with e:=80 }
    else { m with clos:=m.clos.set k { c with held:=c.held.set x.num.toNat ((x.args.map (regAt a)).getD 1 vNone) } }
  else zld x (m.prim x.op (x.args.map (regAt a))):=by
 unfold MX.ins;rw [z29 hA];rfl
theorem Z09 (p:List UInt8):z30 p≤3:=by
 unfold z30
 repeat' split
 all_goals omega
theorem zm2 (g:GoodC c) {p:PrcX} {x:InsX} (h:insOk c p x=true):x.args.length≤1000:=by
 have gx:=z3w h
 unfold insOk at h
 split at h
 ·cases h
 split at h
 ·simp only [zba,zdt] at h;omega
 split at h
 ·simp only [zba,zdt] at h;omega
 split at h
 ·simp only [zba,zdt] at h;omega
 split at h
 ·rename_i hc
  obtain ⟨h1,h2,h3⟩:=gx.closure hc
  have:=(g.prc (z1n (by omega) h2).1).holds
  omega
 split at h
 ·simp only [zba,zdt] at h;omega
 split at h
 ·cases h
 ·simp only [zba,zdt] at h
  have:=Z09 x.op
  omega
theorem Z54 {k:Nat} {x:CloM×List VX} (hx:s.C[k]?=some x):s.x.clos.getD k default=cloX x:=by
 show (s.C.map cloX).getD k default=_
 rw [zgd,List.getElem?_map,hx];rfl
theorem Z3n (h:Held S K (machI pv mr hr s++J)) (hf:MFit s) (g:GoodC c) (hro:RunOk c n s.x) (hn:n≤16777215) {ws:List ActX} {a:ActX} (hA:s.x.acts=ws++[a]) (he:s.x.e=0) {x:InsX} {xs:List Value} (hx:CsR S x xs) (gx:InsGood c (prcAt c a.proc) x) (hal:x.args.length≤1000) :
  Tri Tryz.prog zbd #[pAt mr,.agg xs.toArray] K (MTo pv mr hr J S (s.x.ins z0r x) vNil):=by
 obtain ⟨argsv,dv,rfl,ix1,ix2,ix3,ix4,ix5,ix6,ix7,ix8⟩:=ins_iff.1 hx
 obtain ⟨arb,arc,rfl⟩:=ix3.sl
 obtain ⟨dvb,dvc,rfl⟩:=ix7.sl
 have hmx:maxLen=9223372036854775807:=rfl
 have hco:=hro.core
 have hCl:s.C.length≤n:=by have:=hco.cn;simpa [MS.x] using this
 have hLl:s.L.length≤n:=by have:=hco.hn;simpa [MS.x,hpX] using this
 have hAl:s.A.length≤n:=by have:=hro.acts.an;simpa [MS.x] using this
 obtain ⟨ab,ac,hav⟩:=z8p h
 obtain ⟨l',xa,hl',hws,hxa,hget,hlen⟩:=zew (show s.A.map actX'=ws++[a] from hA)
 obtain ⟨x1,x2,x3,x4,x5,x6,x7,x8⟩:=zbi h hget
 have hrow:=z6g h hget
 obtain ⟨rb,rc,hrs⟩:=hrow.sl
 have x1':=x1
 have x3':=x3
 rw [hav] at x1 x3
 rw [hrs] at x3
 have hra:xa.2=a.regs:=by rw [←hxa]
 have hclo:xa.1.clo=a.clo:=by rw [←hxa]
 have hd1:IntKind.i64.wrap ((s.A.length:Int) - 1)=(ws.length:Int):=by rw [w64 (by omega) (by omega)];omega
 have haok:=hro.acts.acts a (by rw [hA];simp)
 have hregs:=haok.regs
 have gp:=g.prc (z1n haok.proc.1 haok.proc.2).1
 have hregin:∀{r:Int},0≤r∧r < (prcAt c a.proc).regs→0≤r∧r < (xa.2.length:Int):=fun hr=>by rw [hra,hregs];exact hr
 refine z9z [pAt mr,txt x.op,.int .i64 x.to,.slice arb x.args.length arc,.int .i64 x.const.kind,.int .i64 x.const.int,txt x.const.text,.slice dvb x.const.list.length dvc,.int .i64 x.num] (by kernel_rfl) (by kernel_rfl) ?_
 have hl3:∀{S' K':PH} {s':MS} {J':List Itm},Held S' K' (machI pv mr hr s'++J')→s'.A=s.A→s'.av=s.av→rowAt K' (some ⟨mr,3,none⟩) [.slice ab s.A.length ac]:=fun h' _ e2=>by rw [←hav,←e2];exact z0w h' rfl
 refine ⟨fun _=>by simp [Chk.holds,evs,evb],[.slice ab s.A.length ac],rfl,by simp only [evs,evb];exact hl3 h rfl rfl,[.slice ab s.A.length ac],rfl,by simp only [evs,evb];exact hl3 h rfl rfl,fun _=>?_,?_⟩
 ·simp only [Chk.holds,evs,evb,hd1];exact ⟨x1,by omega,by omega⟩
 simp only [cns]
 refine z1p (α:=VX) (b:=32) z4m z2h h z01 fun v11 K1 h1 _ _=>?_
 simp only [cns]
 refine ⟨fun m vs K2=>∃(k:Nat) (u:Value) (S1:PH),k+m=x.args.length∧vs=[u,nI k]∧PH.le S S1∧Held S1 K2 (orow 77 ((x.args.take k).map (regAt a)) u::(machI pv mr hr s++J)),⟨x.args.length,0,v11,S,by omega,rfl,PH.le_refl _,h1⟩,?_⟩
 rintro m vs K2 _ ⟨k,u,S1,hkm,rfl,ls,h2⟩
 simp only [cns]
 have xact:=fun {S' K':PH} {s':MS} {J':List Itm} (h':Held S' K' (machI pv mr hr s'++J')) (e1:s'.A=s.A) (e2:s'.av=s.av)=>(zbi h' (show s'.A[ws.length]?=some xa by rw [e1];exact hget)).2.2.1
 have xrow:=fun {S' K':PH} {s':MS} {J':List Itm} (h':Held S' K' (machI pv mr hr s'++J')) (e1:s'.A=s.A)=>z6g h' (show s'.A[ws.length]?=some xa by rw [e1];exact hget)
 refine ⟨fun g1=>?_,fun g1=>?_⟩
 ·simp only [evs,evb,zdt] at g1
  obtain ⟨r,hr1⟩:∃r,x.args[k]?=some r:=⟨_,zge (by omega)⟩
  have hrin:=hregin (gx.args r (List.mem_of_getElem? hr1))
  obtain ⟨j,y,hj,hy,hyd⟩:=zjj hrin.1 hrin.2
  obtain ⟨z1,_,zcs,z2,z3⟩:=ix3.get hr1
  obtain ⟨rfl,_⟩:=csIK z2
  have hra2:=xrow h2.tail rfl
  obtain ⟨y1,_,ycs,y2,y3⟩:=hra2.get hy
  obtain ⟨rfl,yf⟩:=z2r y2
  have xa2:=xact h2.tail rfl rfl
  rw [hav,hrs] at xa2
  rw [hrs] at y1 y3
  refine ⟨[.slice rb xa.2.length rc],rfl,?_,fun _=>?_,[.int .i64 r],rfl,?_,fun _=>?_,valVs y,rfl,?_,?_⟩
  ·simp only [evs,evb,hd1];exact z0a xa2 1 1
  ·simp only [Chk.holds,evs,evb];exact ⟨z1,by omega,by omega⟩
  ·simp only [evs,evb];exact z06 (PH.le_trans ls h2.sh) z3
  ·simp only [Chk.holds,evs,evb];exact ⟨y1,by omega,by omega⟩
  ·simp only [evs,evb,hj];exact y3
  simp only [cns]
  refine z0m (b:=32) (more:=[y]) [valV y] z4m z2h rfl (by decide) (by decide) h2 (by kernel_rfl) (.cons (z80 yf) .nil) z01 (fun w=>by kernel_rfl) (fun w=>by kernel_rfl)
   (by simp only [maxLen,List.length_map,List.length_take,zlc,List.length_nil];omega) (by simp only [List.length_map,List.length_take,zlc,List.length_nil];omega) fun w v7 S7 K7 l7 h7=>⟨z01,?_⟩
  refine ⟨_,z00,m - 1,by omega,k+1,v7,S7,by omega,?_,PH.le_trans ls l7,?_⟩
  ·simp only [evs,evb,up1 (by omega:k < 4611686018427387904)]
  ·rw [List.take_add_one,hr1,List.map_append]
   have:(some r).toList.map (regAt a)=[y]:=by
    show [a.regs.getD r.toNat vNone]=[y]
    rw [←hra,hyd]
   rw [this];exact h7
 simp only [evs,evb,zdf] at g1
 rw [List.take_of_length_le (by omega)] at h2
 have hins:=Z6k hA x
 generalize hM:s.x.ins z0r x=M at hins ⊢
 obtain ⟨R,hR⟩:∃R,x.args.map (regAt a)=R:=⟨_,rfl⟩
 rw [hR] at h2 hins
 have hRl:R.length=x.args.length:=by rw [←hR];simp
 obtain ⟨ub,uc,rfl⟩:∃b c',u=.slice b R.length c':=(h2.row (zms)).sl
 refine ⟨fun vs K'=>x.op≠tieB∧InsTo pv mr hr J S s M x.to vs K',?_,?_⟩
 ·rintro vs K3 _ ⟨hop,S3,s3,v,rfl,fv,l3,h3,f3,eA,eav,hm⟩
  simp only [cns]
  have hto:=hregin (gx.to hop)
  obtain ⟨j,y,hj,hy,hyd⟩:=zjj hto.1 hto.2
  refine ⟨[.int .i64 s3.e],rfl,by simp only [evs,evb];exact z0w h3 rfl,fun g2=>?_,fun g2=>?_⟩
  ·simp only [evs,evb,zdt] at g2
   have he3:s3.x.e=0:=g2
   rw [if_pos he3,hj] at hm
   have xa3:=xact h3 eA eav
   have hra3:=xrow h3 eA
   obtain ⟨y1,_,_⟩:=hra3.get hy
   rw [eav,hav,hrs] at xa3
   rw [hrs] at y1
   refine ⟨[.slice rb xa.2.length rc],rfl,?_,fun _=>?_,?_⟩
   ·simp only [evs,evb,hd1];exact z0a xa3 1 1
   ·simp only [Chk.holds,evs,evb];exact ⟨y1,by omega,by omega⟩
   have hA3:s3.x.acts=ws++[a]:=by
    show s3.A.map actX'=_
    rw [eA];exact hA
   refine put15 (v:=v) h3 hA3 (by rw [eA];exact hget) hxa hy ?_ ?_ fv fun K4 h4 hx4=>?_
   ·simp only [evs,evb,hj];rw [hrs];rfl
   ·kernel_rfl
   ·exact ⟨S3,_,l3,h4,f3,by rw [hx4,hm],rfl⟩
  ·simp only [evs,evb,zdf] at g2
   rw [if_neg (show ¬s3.x.e=0 from g2)] at hm
   exact ⟨S3,s3,l3,h3,f3,hm.symm,rfl⟩
 have hmv:∀y,R[0]?=some y→R.getD 0 vNone=y:=fun y hy=>by rw [zgd,hy];rfl
 refine ⟨fun g2=>?_,fun g2=>?_⟩
 ·simp only [evs,evb,z03,zdt] at g2
  rw [if_pos g2] at hins
  have hnt:x.op≠tieB:=by rw [g2];decide
  have hdr:x.const.Rep K2 [.int .i64 x.const.kind,.int .i64 x.const.int,txt x.const.text,.slice dvb x.const.list.length dvc]:=Dat.Rep_iff.2 ⟨_,rfl,ix4,ix5,ix6,ix7.le (PH.le_trans ls h2.sh)⟩
  refine z02 zgu (zza x.const _ K2 hdr) ?_
  rintro e K3 ⟨l3,b,rfl⟩
  refine ⟨_,valVs (z0r x.const)++[.bool b],rfl,rfl,rfl,z01,_,z00,hnt,S1,s,z0r x.const,by kernel_rfl,Z00 x.const hdr,ls,(h2.tail).le l3,hf,rfl,rfl,hins⟩
 simp only [evs,evb,z03,zdf] at g2
 rw [if_neg g2] at hins
 refine ⟨fun g3=>?_,fun g3=>?_⟩
 ·simp only [evs,evb,z03,zdt] at g3
  rw [if_pos g3] at hins
  have hnt:x.op≠tieB:=by rw [g3];decide
  have h1l:=gx.move g3
  obtain ⟨y,hy⟩:∃y,R[0]?=some y:=⟨_,zge (by omega)⟩
  obtain ⟨S2,s2,l2,h3⟩:=h2.freeze
  obtain ⟨y1,_,ycs,y2,y3⟩:=s2.get hy
  obtain ⟨rfl,yf⟩:=z2r y2
  rw [hmv y hy] at hins
  refine ⟨fun _=>?_,valVs y,rfl,by simp only [evs,evb];exact z06 h3.sh y3,_,z00,hnt,S2,s,y,by kernel_rfl,yf,PH.le_trans ls l2,h3,hf,rfl,rfl,hins⟩
  simp only [Chk.holds,evs,evb];exact ⟨y1,by omega,by omega⟩
 simp only [evs,evb,z03,zdf] at g3
 rw [if_neg g3] at hins
 refine ⟨fun g4=>?_,fun g4=>?_⟩
 ·simp only [evs,evb,z03,zdt] at g4
  rw [if_pos g4] at hins
  have hnt:x.op≠tieB:=by rw [g4];decide
  have hnum:=gx.held g4
  obtain ⟨y0,c1,c2,c3⟩:=haok.clo
  have hc0:=haok.clo0
  obtain ⟨q,hq⟩:∃q:Nat,a.clo=(q:Int):=⟨a.clo.toNat,by omega⟩
  rw [hq,Int.toNat_natCast] at c1
  have c1':(s.C.map cloX)[q]?=some y0:=c1
  rw [List.getElem?_map] at c1'
  obtain ⟨xc,hxc,hxy⟩:∃xc,s.C[q]?=some xc∧cloX xc=y0:=by
   cases hh:s.C[q]? with
   | none=>rw [hh] at c1';cases c1'
   | some xc=>rw [hh] at c1';exact ⟨xc,rfl,by simpa using c1'⟩
  have hcok:=hco.clos y0 (List.mem_of_getElem? c1)
  have hhl:=(hcok.fn c2).2
  rw [c3] at hhl
  have hheld:y0.held=xc.2:=by rw [←hxy]
  rw [hheld] at hhl
  obtain ⟨w1,w2,av4,w3,w4,w5,w6⟩:=zfr h2.tail hxc
  have hrw:=zam h2.tail hxc
  obtain ⟨hb,hcc,hxs⟩:=hrw.sl
  obtain ⟨cb,cc,hcv⟩:=zbc h2.tail
  obtain ⟨j,y,hj,hy,hyd⟩:=zjj (l:=xc.2) hnum.1 (by omega)
  obtain ⟨y1,_,ycs,y2,y3⟩:=hrw.get hy
  obtain ⟨rfl,yf⟩:=z2r y2
  rw [hcv] at w1 w3
  rw [hxs] at w3 y1 y3
  have xa2:=xact h2.tail rfl rfl
  rw [hav,hrs] at xa2
  have hqC:=(List.getElem?_eq_some_iff.1 hxc).1
  have hgd:s.x.clos.getD a.clo.toNat default=cloX xc:=by rw [hq,Int.toNat_natCast];exact Z54 hxc
  rw [hgd,show (cloX xc).held.getD x.num.toNat vNone=y from hyd] at hins
  refine ⟨[.slice cb s.C.length cc],rfl,by simp only [evs,evb];rw [←hcv];exact z0w h2.tail rfl,[.int .i64 a.clo],rfl,?_,fun _=>?_,[.slice hb xc.2.length hcc],rfl,?_,fun _=>?_,valVs y,rfl,?_,_,z00,hnt,S1,s,y,by kernel_rfl,yf,ls,h2.tail,hf,rfl,rfl,hins⟩
  ·simp only [evs,evb,hd1];rw [←hclo];exact z0a xa2 2 1
  ·simp only [Chk.holds,evs,evb,hq];exact ⟨w1,by omega,by omega⟩
  ·simp only [evs,evb,hq];exact z0a w3 2 1
  ·simp only [Chk.holds,evs,evb];exact ⟨y1,by omega,by omega⟩
  ·simp only [evs,evb,hj];exact y3
 simp only [evs,evb,z03,zdf] at g4
 rw [if_neg g4] at hins
 refine ⟨fun g5=>?_,fun g5=>?_⟩
 ·simp only [evs,evb,z03,zdt] at g5
  rw [if_pos g5] at hins
  have hnt:x.op≠tieB:=by rw [g5];decide
  refine z02 z1h (ze1 (proc:=x.num) (kont:=false) (acts:=[]) (asv:=.slice none 0 0) h2 (SlR.mk_iff.2 ⟨Nat.zero_le _,.inl ⟨rfl,rfl⟩⟩) ix8 (by omega) (by omega)) ?_
  rintro e K3 ⟨S3,s3,l3,h3,rfl,hx3,eA,eav,ew,et,_⟩
  refine ⟨_,valVs (s.x.made ⟨0,x.num,R,false,[]⟩).2,rfl,rfl,rfl,z01,_,z00,hnt,S3,s3,(s.x.made ⟨0,x.num,R,false,[]⟩).2,by kernel_rfl,?_,PH.le_trans ls l3,h3,?_,eA,eav,?_⟩
  ·refine ⟨(by decide:InI 8),?_,(by decide:([]:List UInt8).length≤maxLen)⟩
   show InI ((hpX s.L).length:Int)
   simp only [hpX,List.length_map]
   unfold InI;omega
  ·unfold MFit;rw [ew,et];exact hf
  ·rw [hx3];exact hins
 simp only [evs,evb,z03,zdf] at g5
 rw [if_neg g5] at hins
 refine ⟨fun g6=>?_,fun g6=>?_⟩
 ·simp only [evs,evb,z03,zdt] at g6
  rw [if_pos (show x.op=tieB from g6)] at hins
  obtain ⟨h2l,hnum⟩:=gx.tie g6
  obtain ⟨S2,s2,l2,h3⟩:=h2.freeze
  obtain ⟨p0,hp0⟩:∃y,R[0]?=some y:=⟨_,zge (by omega)⟩
  obtain ⟨p1,hp1⟩:∃y,R[1]?=some y:=⟨_,zge (by omega)⟩
  obtain ⟨y1,_,ycs,y2,y3⟩:=s2.get hp0
  obtain ⟨rfl,yf⟩:=z2r y2
  obtain ⟨z1,_,zcs,z2,z3⟩:=s2.get hp1
  obtain ⟨rfl,zf⟩:=z2r z2
  have hm1:R.getD 1 vNone=p1:=by rw [zgd,hp1];rfl
  rw [hmv p0 hp0,hm1] at hins
  refine ⟨fun _=>?_,valVs p0,rfl,by simp only [evs,evb];exact z06 h3.sh y3,?_⟩
  ·simp only [Chk.holds,evs,evb];exact ⟨y1,by omega,by omega⟩
  simp only [cns]
  refine z05 [.int .i64 (findI s.x p0)] z3o (zmn h3 p0 (by omega)) rfl z01 fun K3 l3=>?_
  have h3:=h3.le l3
  simp only [cns]
  refine ⟨fun vs K'=>K3=K'∧((vs=[.bool true]∧M={ s.x with e:=80 })∨(vs=[.bool false]∧∃(q:Nat) (xc:CloM×List VX),findI s.x p0=(q:Int)∧s.C[q]?=some xc∧x.num < (xc.2.length:Int)∧M={ s.x with clos:=s.x.clos.set q { cloX xc with held:=xc.2.set x.num.toNat p1 } })),?_,?_⟩
  rotate_left
  ·cases hfd:s.x.find p0 with
   | none=>
    have hfi:findI s.x p0=-1:=by unfold findI;rw [hfd]
    rw [hfd] at hins
    refine ⟨fun _=>⟨_,z00,rfl,.inl ⟨rfl,hins⟩⟩,fun g7=>?_⟩
    simp [evs,evb,hfi] at g7
   | some q=>
    have hfi:findI s.x p0=(q:Int):=by unfold findI;rw [hfd]
    rw [hfd] at hins
    obtain ⟨xc,hxc,hxcc⟩:=zv1 hfd
    simp only [hxcc] at hins
    obtain ⟨w1,w2,av4,w3,w4,w5,w6⟩:=zfr h3 hxc
    obtain ⟨hb,hcc,hxs⟩:=(zam h3 hxc).sl
    obtain ⟨cb,cc,hcv⟩:=zbc h3
    have hqC:=(List.getElem?_eq_some_iff.1 hxc).1
    rw [hcv] at w1 w3
    rw [hxs] at w3
    refine ⟨fun g7=>?_,fun _=>⟨[.slice cb s.C.length cc],rfl,by simp only [evs,evb];rw [←hcv];exact z0w h3 rfl,fun _=>?_,[.slice hb xc.2.length hcc],rfl,?_,_,z00,rfl,?_⟩⟩
    ·simp [evs,evb,hfi] at g7;omega
    ·simp only [Chk.holds,evs,evb,hfi];exact ⟨w1,by omega,by omega⟩
    ·simp only [evs,evb,hfi];exact z0a w3 2 1
    ·by_cases hle:(xc.2.length:Int)≤x.num
     ·rw [if_pos hle] at hins
      exact .inl ⟨by simp [evs,evb,hle],hins⟩
     ·rw [if_neg hle] at hins
      exact .inr ⟨by simp [evs,evb];omega,q,xc,hfi,hxc,by omega,hins⟩
  rintro vs K4 _ ⟨rfl,hJ⟩
  rcases hJ with ⟨rfl,hm⟩ | ⟨rfl,q,xc,hfi,hxc,hlt,hm⟩
  ·refine ⟨fun _=>?_,fun g7=>by simp [evs,evb] at g7⟩
   exact z5a (e:=80) h3 hf (by simp only [evs,evb];rfl) (by simp only [evs,evb]) fun K5 h5 f5=>⟨S2,_,PH.le_trans ls l2,h5,f5,hm.symm,rfl⟩
  refine ⟨fun g7=>by simp [evs,evb] at g7,fun _=>?_⟩
  obtain ⟨w1,w2,av4,w3,w4,w5,w6⟩:=zfr h3 hxc
  have hrw:=zam h3 hxc
  obtain ⟨hb,hcc,hxs⟩:=hrw.sl
  obtain ⟨cb,cc,hcv⟩:=zbc h3
  have hqC:=(List.getElem?_eq_some_iff.1 hxc).1
  obtain ⟨j,y,hj,hy,hyd⟩:=zjj (l:=xc.2) hnum hlt
  obtain ⟨v1,_,_⟩:=hrw.get hy
  rw [hcv] at w1 w3
  rw [hxs] at w3 v1
  simp only [cns]
  refine ⟨[.slice cb s.C.length cc],rfl,by simp only [evs,evb];rw [←hcv];exact z0w h3 rfl,fun _=>?_,[.slice hb xc.2.length hcc],rfl,?_,fun _=>?_,valVs p1,rfl,by simp only [evs,evb];exact z06 h3.sh z3,fun _=>?_,?_⟩
  ·simp only [Chk.holds,evs,evb,hfi];exact ⟨w1,by omega,by omega⟩
  ·simp only [evs,evb,hfi];exact z0a w3 2 1
  ·simp only [Chk.holds,evs,evb];exact ⟨z1,by omega,by omega⟩
  ·simp only [Chk.holds,evs,evb];exact ⟨v1,by omega,by omega⟩
  have hpk:=zh3 hxc (h3.perm permC)
  refine z1t (i:=j) (a:=y) (a':=p1) (us:=valVs p1) ?_ hpk hy rfl (by kernel_rfl) (by simp [oneC]) (z80 zf) fun K5 h5=>?_
  ·simp only [evs,evb,hj];rw [hxs];rfl
  have h6:=zby hxc h5
  refine ⟨S2,{ s with C:=s.C.set q (xc.1,xc.2.set j p1) },PH.le_trans ls l2,h6.perm (permC (s:={ s with C:=s.C.set q (xc.1,xc.2.set j p1) }) (J:=J)).symm,hf,?_,rfl⟩
  rw [hm]
  unfold MS.x
  simp only [List.map_set,cloX,hj,Int.toNat_natCast]
 ·simp only [evs,evb,z03,zdf] at g6
  have hnt:x.op≠tieB:=g6
  rw [if_neg hnt] at hins
  have har:=gx.prim g2 g3 g4 g5 hnt
  obtain ⟨S2,s2,l2,h3⟩:=h2.freeze
  refine z02 z9r (zzm h3 hf hco hn x.op s2 (by rw [har,hRl])) ?_
  rintro e K3 ⟨S3,s3,l3,h4,f3,hx3,rfl,fv,eA,eav⟩
  refine ⟨_,valVs (s.x.prim x.op R).2,rfl,rfl,rfl,z01,_,z00,hnt,S3,s3,(s.x.prim x.op R).2,by kernel_rfl,fv,PH.le_trans ls (PH.le_trans l2 l3),h4,f3,eA,eav,?_⟩
  rw [hx3];exact hins
end
section
variable {S K:PH} {pv:Value} {mr hr:Nat} {s:MS} {J:List Itm} {c:CodeX} {n:Nat} {m:MX}
def endOf (e:EndX) (B:Int) (a:ActX):ActX:={ a with at_:=0,block:=B,to:=e.to }
theorem Z34 (h:RunOk c n m) {ws:List ActX} {a:ActX} (hs:m.acts=ws++[a]) {e:EndX} (hx:FinGood (prcAt c a.proc) e) {B:Int} (hBr:0≤B∧B < (prcAt c a.proc).blocks.length) :
  CoreOk c n { m with acts:=ws++[endOf e B a] }∧ActsOk c n { m with acts:=ws++[endOf e B a] }∧(∀b∈ws,z8e b)∧(e.kind=4∨e.kind=6→∀b∈ws++[endOf e B a],z8e b):=by
 have hao:=h.acts.acts a (by rw [hs];simp)
 have hao':ActOk c m.clos (endOf e B a):=⟨hao.proc,hao.regs,hao.clo0,hao.clo,hBr,by show (0:Int)≤0;omega,by show (0:Int)≤_;omega⟩
 have hws:∀b∈ws,z8e b:=fun b hb=>h.wait b (by rw [hs];simpa using hb)
 refine ⟨h.core.same rfl rfl h.core.on,⟨by have:=h.acts.an;rw [hs] at this;simpa using this,fun b hb=>?_⟩,hws,fun hk b hb=>?_⟩
 ·rcases List.mem_append.1 (show b∈ws++[_] from hb) with hb | hb
  ·exact h.acts.acts b (by rw [hs];exact List.mem_append_left _ hb)
  ·rw [List.mem_singleton.1 hb];exact hao'
 ·rcases List.mem_append.1 hb with hb | hb
  ·exact hws b hb
  ·rw [List.mem_singleton.1 hb]
   have:=hx.to hk
   refine ⟨this.1,?_⟩
   show e.to < (a.regs.length:Int)
   rw [hao.regs];exact this.2
theorem Z67 {ws:List ActX} {a:ActX} (hs:m.acts=ws++[a]) (e:EndX):m.fin c e =
    (let v:=if e.kind=0 then vNone else regAt a e.reg
     let m1:MX:={ m with acts:=ws++[endOf e (if e.kind=1∧v=vNone then e.els else e.next) a] }
      if e.kind=2 then ({ m1 with acts:=ws }:MX).tell v
      else if e.kind=3 then m1.call c v (e.args.map (regAt a)) false
      else if e.kind=4 then m1.call c v (e.args.map (regAt a)) true
      else if e.kind=5 then
        let r:=m1.made ⟨0,0,[],true,ws⟩
        r.1.call c v [r.2] false
      else if e.kind=6 then
        let r:=m1.made ⟨0,0,[],true,m1.acts⟩
        r.1.call c v [r.2] true
      else m1):=by
  unfold MX.fin
  simp only [z29 hs]
  rw [z2w hs]
  simp only [List.dropLast_concat]
  rfl
theorem zlg {X:List PanicEntry→PH→Prop} {E:List Value} {L:LK} {β:Type} {k:Fm β} {Q:β→List Value→PH→LK→Prop} {p w:SV} {wv:Value} {i off:Nat} {a':ActM} {x:ActM×List VX} (h:Held S K (machI pv mr hr s++J)) (hget:s.A[i]?=some x)
  (hp:pOf (ev0 E p)=(pOf (eltV s.av (i:Int) 6)).map (·.add off)) (hw:ev0 E w=wv) (h1:oneC wv=true) (hoff:off+1≤6) (hsl:a'.sl=x.1.sl) (hu:∀ces,CsR S x.1 ces→CsR S a' (ces.take off++[wv]++ces.drop (off+1)))
  (hk:∀K',Held S K' (machI pv mr hr { s with A:=s.A.set i (a',x.2) }++J)→den Tryz.prog X k E K' L Q):den Tryz.prog X (.store p [w] k) E K L Q:=by
 have h2:=zgx (h.perm permA)
 refine ztv (i:=i) (off:=off) (a:=x.1) (a':=a') (us:=[wv]) hp h2 (by rw [List.getElem?_map,hget];rfl) hoff (by simp only [List.map_cons,List.map_nil,hw]) (by
  intro u hu'
  rw [List.mem_singleton.1 hu'];exact h1) hu fun K1 h3=>?_
 have h4:=zyr (sl:=ActM.sl) (l:=x.2) hget hsl h3
 exact hk K1 (h4.perm (permA (s:={ s with A:=s.A.set i (a',x.2) }) (J:=J)).symm)
theorem zsz (h:Held S K (machI pv mr hr s++J)):SlR K (s.A.map actX') s.av:=by
 refine zsg (f:=actX') (h.perm permA) rfl fun x _ cs h1 h2=>?_
 obtain ⟨rfl,h3⟩:=actM_iff.1 h1
 exact actX_iff.2 ⟨_,rfl,h2,h3⟩
theorem Z5y {X:List PanicEntry→PH→Prop} {E:List Value} {L:LK} {β:Type} {k:Fm β} {Q:β→List Value→PH→LK→Prop} {p w:SV} {j:Nat} (h:Held S K (machI pv mr hr s++J)) (hj:s.A.length=j+1) (hp:pOf (ev0 E p)=some ⟨mr,3,none⟩) (hw:ev0 E w=slsV s.av 0 (j:Int) 6)
  (hk:∀K' s',Held S K' (machI pv mr hr s'++J)→s'={ s with A:=s.A.take j,av:=slsV s.av 0 (j:Int) 6 }→den Tryz.prog X k E K' L Q):den Tryz.prog X (.store p [w] k) E K L Q:=by
 have h4:=ztp (h.perm permA) (n:=j) (by omega) (by omega)
 have h5:=h4.perm List.perm_middle
 obtain ⟨ab,ac,hav⟩:=z8p h
 refine z0j (off:=3) (vs:=[slsV s.av 0 (j:Int) 6]) hp h5 (by simp only [List.map_cons,List.map_nil,hw]) (by
  intro w hw
  rw [List.mem_singleton.1 hw,hav];rfl) (by simp [MS.cells]) fun K3 h6=>?_
 refine hk K3 { s with A:=s.A.take j,av:=slsV s.av 0 (j:Int) 6 } ?_ rfl
 exact (h6.perm List.perm_middle.symm).perm (permA (s:={ s with A:=s.A.take j,av:=slsV s.av 0 (j:Int) 6 }) (pv:=pv) (mr:=mr) (hr:=hr) (J:=J)).symm
theorem zf6 {LA:List (ActM×List VX)} {v:Value} {I:List Itm} (h:Held S K (nest 90 77 ActM.sl LA v++I)):∃S',SlR S' (LA.map actX') v∧PH.le S S'∧Held S' K I:=
 zvz (f:=actX') h rfl fun S x _ cs h1 h2=>by
  obtain ⟨rfl,h3⟩:=actM_iff.1 h1
  exact actX_iff.2 ⟨_,rfl,h2,h3⟩
theorem Z2d (h:Held S K (machI pv mr hr s++J)) (hf:MFit s) (hc:SlR S c pv) (g:GoodC c) (hro:RunOk c n s.x) (hn:n≤16777214) {ws:List ActX} {a:ActX} (hA:s.x.acts=ws++[a]) {e:EndX} {es:List Value} (hx:CsR S e es) (gx:FinGood (prcAt c a.proc) e) :
  Tri Tryz.prog zay #[pAt mr,.agg es.toArray] K (MTo pv mr hr J S (s.x.fin c e) vNil):=by
 obtain ⟨argsv,rfl,ex1,ex2,ex3,ex4,ex5,ex6⟩:=end_iff.1 hx
 obtain ⟨arb,arc,rfl⟩:=ex3.sl
 have hmx:maxLen=9223372036854775807:=rfl
 have hco:=hro.core
 have hCl:s.C.length≤n:=by have:=hco.cn;simpa [MS.x] using this
 have hLl:s.L.length≤n:=by have:=hco.hn;simpa [MS.x,hpX] using this
 have hAl:s.A.length≤n:=by have:=hro.acts.an;simpa [MS.x] using this
 obtain ⟨ab,ac,hav⟩:=z8p h
 obtain ⟨l',xa,hl',hws,hxa,hget,hlen⟩:=zew (show s.A.map actX'=ws++[a] from hA)
 obtain ⟨x1,x2,x3,x4,x5,x6,x7,x8⟩:=zbi h hget
 have hrow:=z6g h hget
 obtain ⟨rb,rc,hrs⟩:=hrow.sl
 have x1':=x1
 rw [hav] at x1 x3
 rw [hrs] at x3
 have hra:xa.2=a.regs:=by rw [←hxa]
 have hd1:IntKind.i64.wrap ((s.A.length:Int) - 1)=(ws.length:Int):=by rw [w64 (by omega) (by omega)];omega
 have haok:=hro.acts.acts a (by rw [hA];simp)
 have hregs:=haok.regs
 have gp:=g.prc (z1n haok.proc.1 haok.proc.2).1
 have hregin:∀{r:Int},0≤r∧r < (prcAt c a.proc).regs→0≤r∧r < (xa.2.length:Int):=fun hr=>by rw [hra,hregs];exact hr
 refine z9o [pAt mr,.int .i64 e.kind,.int .i64 e.reg,.slice arb e.args.length arc,.int .i64 e.to,.int .i64 e.next,.int .i64 e.els] (by kernel_rfl) (by kernel_rfl) ?_
 have hl3:∀{S' K':PH} {s':MS} {J':List Itm},Held S' K' (machI pv mr hr s'++J')→s'.av=s.av→rowAt K' (some ⟨mr,3,none⟩) [.slice ab s.A.length ac]:=fun h' e2=>by rw [←hav,←e2];exact z0w h' rfl
 refine ⟨fun _=>by simp [Chk.holds,evs,evb],[.slice ab s.A.length ac],rfl,by simp only [evs,evb];exact hl3 h rfl,[.slice ab s.A.length ac],rfl,by simp only [evs,evb];exact hl3 h rfl,fun _=>?_,[.int .i64 xa.1.proc,.slice rb xa.2.length rc,.int .i64 xa.1.clo,.int .i64 xa.1.block,.int .i64 xa.1.at_,.int .i64 xa.1.to],rfl,?_,?_⟩
 ·simp only [Chk.holds,evs,evb,hd1];exact ⟨x1,by omega,by omega⟩
 ·simp only [evs,evb,hd1];exact x3
 simp only [cns]
 refine z1p (α:=VX) (b:=32) z4m z2h h z01 fun v11 K1 h1 _ _=>?_
 simp only [cns]
 refine ⟨fun m vs K2=>∃(k:Nat) (u:Value) (S1:PH),k+m=e.args.length∧vs=[u,nI k]∧PH.le S S1∧Held S1 K2 (orow 77 ((e.args.take k).map (regAt a)) u::(machI pv mr hr s++J)),⟨e.args.length,0,v11,S,by omega,rfl,PH.le_refl _,h1⟩,?_⟩
 rintro m vs K2 _ ⟨k,u,S1,hkm,rfl,ls,h2⟩
 simp only [cns]
 have hfew:=gx.few
 have rget:∀{S' K':PH} {J':List Itm},Held S' K' (machI pv mr hr s++J')→∀{r:Int},0≤r∧r < (prcAt c a.proc).regs→∃j:Nat,r=(j:Int)∧j < xa.2.length∧rb.isSome=true∧VFit (regAt a r)∧rowAt K' (pOf (eltV (.slice rb xa.2.length rc) (j:Int) 3)) (valVs (regAt a r)):=fun {S' K':PH} {J':List Itm} h' {r:Int} hr=>by
  have hrin:=hregin hr
  obtain ⟨j,y,hj,hy,hyd⟩:=zjj hrin.1 hrin.2
  have hra2:=z6g h' hget
  obtain ⟨y1,_,ycs,y2,y3⟩:=hra2.get hy
  obtain ⟨rfl,yf⟩:=z2r y2
  rw [hrs] at y1 y3
  have:regAt a r=y:=by unfold regAt;rw [←hra,hyd]
  rw [this]
  exact ⟨j,hj,by omega,y1,yf,y3⟩
 refine ⟨fun g1=>?_,fun g1=>?_⟩
 ·simp only [evs,evb,zdt] at g1
  obtain ⟨r,hr1⟩:∃r,e.args[k]?=some r:=⟨_,zge (by omega)⟩
  obtain ⟨j,hj,hjl,y1,yf,y3⟩:=rget h2.tail (gx.args r (List.mem_of_getElem? hr1))
  obtain ⟨z1,_,zcs,z2,z3⟩:=ex3.get hr1
  obtain ⟨rfl,_⟩:=csIK z2
  refine ⟨fun _=>?_,[.int .i64 r],rfl,?_,fun _=>?_,valVs (regAt a r),rfl,?_,?_⟩
  ·simp only [Chk.holds,evs,evb];exact ⟨z1,by omega,by omega⟩
  ·simp only [evs,evb];exact z06 (PH.le_trans ls h2.sh) z3
  ·simp only [Chk.holds,evs,evb];exact ⟨y1,by omega,by omega⟩
  ·rw [hj] at y3 ⊢;simp only [evs,evb];exact y3
  simp only [cns]
  refine z0m (b:=32) (more:=[regAt a r]) [valV (regAt a r)] z4m z2h rfl (by decide) (by decide) h2 (by kernel_rfl) (.cons (z80 yf) .nil) z01 (fun w=>by kernel_rfl) (fun w=>by kernel_rfl)
   (by simp only [maxLen,List.length_map,List.length_take,zlc,List.length_nil];omega) (by simp only [List.length_map,List.length_take,zlc,List.length_nil];omega) fun w v7 S7 K7 l7 h7=>⟨z01,?_⟩
  refine ⟨_,z00,m - 1,by omega,k+1,v7,S7,by omega,?_,PH.le_trans ls l7,?_⟩
  ·simp only [evs,evb,up1 (by omega:k < 4611686018427387904)]
  ·rw [List.take_add_one,hr1,List.map_append];exact h7
 simp only [evs,evb,zdf] at g1
 rw [List.take_of_length_le (by omega)] at h2
 have hfin:=Z67 (c:=c) hA e
 generalize hM:s.x.fin c e=M at hfin ⊢
 obtain ⟨R,hR⟩:∃R,e.args.map (regAt a)=R:=⟨_,rfl⟩
 rw [hR] at h2 hfin
 have hRl:R.length=e.args.length:=by rw [←hR];simp
 obtain ⟨ub,uc,rfl⟩:∃b c',u=.slice b R.length c':=(h2.row (zms)).sl
 obtain ⟨S2,s2,l2,h3⟩:=h2.freeze
 obtain ⟨V,hV⟩:∃V,(if e.kind=0 then vNone else regAt a e.reg)=V:=⟨_,rfl⟩
 rw [hV] at hfin
 refine ⟨fun vs K'=>vs=valVs V∧VFit V∧K2=K',?_,fun g2=>?_,fun g2=>?_⟩
 rotate_left
 ·simp only [evs,evb,ne_eq,decide_not,Bool.not_eq_true',zdf] at g2
  rw [if_neg g2] at hV
  obtain ⟨j,hj,hjl,y1,yf,y3⟩:=rget h3 (gx.reg g2)
  rw [hV] at yf y3
  refine ⟨fun _=>?_,valVs V,rfl,?_,_,z00,by kernel_rfl,yf,rfl⟩
  ·simp only [Chk.holds,evs,evb];exact ⟨y1,by omega,by omega⟩
  ·simp only [evs,evb,hj];exact y3
 ·simp only [evs,evb,ne_eq,decide_not,Bool.not_eq_false',zdt] at g2
  rw [if_pos g2] at hV
  rw [←hV]
  exact ⟨_,z00,by kernel_rfl,zfh,rfl⟩
 rintro vs K3 _ ⟨rfl,fV,rfl⟩
 simp only [cns]
 refine ⟨[.slice ab s.A.length ac],rfl,by simp only [evs,evb];exact hl3 h3 rfl,fun _=>?_,?_⟩
 ·simp only [Chk.holds,evs,evb,hd1];exact ⟨x1,by omega,by omega⟩
 simp only [cns]
 refine zlg (off:=4) (a':={ xa.1 with at_:=0 }) h3 hget (by simp only [evs,evb,hd1];rw [hav]) rfl rfl (by omega) rfl (fun ces hce=>?_) fun K4 h4=>?_
 ·obtain ⟨rfl,q1,q2,q3,q4,q5⟩:=actM_iff.1 hce
  exact actM_iff.2 ⟨by simp only [evs,evb];rfl,q1,q2,q3,(by decide:InI 0),q5⟩
 have hlt:ws.length < s.A.length:=by omega
 refine ⟨[.slice ab s.A.length ac],rfl,by simp only [evs,evb];exact hl3 h4 rfl,fun _=>?_,?_⟩
 ·simp only [Chk.holds,evs,evb,hd1];exact ⟨x1,by omega,by omega⟩
 simp only [cns]
 refine zlg (off:=3) (a':={ xa.1 with at_:=0,block:=e.next }) h4 (i:=ws.length) (x:=({ xa.1 with at_:=0 },xa.2)) (by simp [hlt]) (by simp only [evs,evb,hd1];rw [hav]) rfl rfl (by omega) rfl (fun ces hce=>?_) fun K5 h5=>?_
 ·obtain ⟨rfl,q1,q2,q3,q4,q5⟩:=actM_iff.1 hce
  exact actM_iff.2 ⟨by simp only [evs,evb];rfl,q1,q2,ex5,q4,q5⟩
 refine ⟨[.slice ab s.A.length ac],rfl,by simp only [evs,evb];exact hl3 h5 rfl,fun _=>?_,?_⟩
 ·simp only [Chk.holds,evs,evb,hd1];exact ⟨x1,by omega,by omega⟩
 simp only [cns]
 refine zlg (off:=5) (a':={ xa.1 with at_:=0,block:=e.next,to:=e.to }) h5 (i:=ws.length) (x:=({ xa.1 with at_:=0,block:=e.next },xa.2)) (by simp [hlt]) (by simp only [evs,evb,hd1];rw [hav]) rfl rfl (by omega) rfl (fun ces hce=>?_) fun K6 h6=>?_
 ·obtain ⟨rfl,q1,q2,q3,q4,q5⟩:=actM_iff.1 hce
  exact actM_iff.2 ⟨by simp only [evs,evb];rfl,q1,q2,q3,q4,ex4⟩
 simp only [List.set_set] at h6
 obtain ⟨sA,hsA⟩:∃sA:MS,sA={ s with A:=s.A.set ws.length ({ xa.1 with at_:=0,block:=e.next,to:=e.to },xa.2) }:=⟨_,rfl⟩
 rw [←hsA] at h6
 have hset:∀B:Int,(s.A.set ws.length ({ xa.1 with at_:=0,block:=B,to:=e.to },xa.2)).map actX'=ws++[endOf e B a]:=fun B=>by
  have hll:l'.length=ws.length:=by rw [←hws];simp
  rw [hl',←hll,List.set_append_right _ _ (Nat.le_refl _),Nat.sub_self,List.set_cons_zero,List.map_append,hws,←hxa]
  simp [endOf]
 have hxA:sA.x={ s.x with acts:=ws++[endOf e e.next a] }:=by
  rw [hsA];unfold MS.x;simp only [hset]
 have hfA:MFit sA:=by rw [hsA];exact hf
 have havA:sA.av=.slice ab s.A.length ac:=by rw [hsA];exact hav
 have hAAl:sA.A.length=ws.length+1:=by rw [hsA];simp [hlen]
 have hlS:=PH.le_trans ls l2
 simp only at hfin
 have hpos:=gp.blocks.1
 have hnx:0≤e.next∧e.next < (prcAt c a.proc).blocks.length:=by have:=gx.nextA;omega
 obtain ⟨fcr,fa,fws,fall⟩:=Z34 hro hA gx hnx
 have fc:CoreOk c n sA.x:=by rw [hxA];exact fcr
 have fa':ActsOk c n sA.x:=by rw [hxA];exact fa
 have hcap:s.A.length≤ac:=by
  have:=(zb0 (h.perm permA)).slR h.sh
  rw [hav] at this
  rcases (SlR.mk_iff.1 this).2 with ⟨h',_⟩ | ⟨_,c',h',h3,_⟩
  ·obtain ⟨_,e1,e2⟩:=Value.slice.inj h';omega
  ·obtain ⟨_,e1,e2⟩:=Value.slice.inj h';simp only [List.length_map] at h3;omega
 refine ⟨fun g3=>?_,fun g3=>?_⟩
 ·simp only [evs,evb,zdt] at g3
  rw [if_neg (by omega),if_neg (by omega),if_neg (by omega),if_neg (by omega),if_neg (by omega)] at hfin
  refine zkg (a:=V) (b:=vNone) (by kernel_rfl) (by kernel_rfl) ?_
  refine ⟨fun g4=>?_,fun g4=>?_⟩
  ·simp only [evs,evb,zdt] at g4
   rw [if_pos ⟨g3,g4⟩] at hfin
   refine ⟨[.slice ab s.A.length ac],rfl,by simp only [evs,evb];rw [←havA];exact z0w h6 rfl,fun _=>?_,?_⟩
   ·simp only [Chk.holds,evs,evb,hd1];exact ⟨x1,by omega,by omega⟩
   simp only [cns]
   have hgA:sA.A[ws.length]?=some ({ xa.1 with at_:=0,block:=e.next,to:=e.to },xa.2):=by rw [hsA];simp [hlt]
   refine zlg (off:=3) (a':={ xa.1 with at_:=0,block:=e.els,to:=e.to }) h6 hgA (by simp only [evs,evb,hd1];rw [havA]) rfl rfl (by omega) rfl (fun ces hce=>?_) fun K7 h7=>?_
   ·obtain ⟨rfl,q1,q2,q3,q4,q5⟩:=actM_iff.1 hce
    exact actM_iff.2 ⟨by simp only [evs,evb];rfl,q1,q2,ex6,q4,q5⟩
   refine ⟨S2,_,hlS,h7,hfA,?_,rfl⟩
   rw [hfin,hsA]
   unfold MS.x
   simp only [List.set_set,hset]
  ·simp only [evs,evb,zdf] at g4
   rw [if_neg (fun hh=>g4 hh.2),←hxA] at hfin
   exact ⟨S2,sA,hlS,h6,hfA,hfin.symm,rfl⟩
 simp only [evs,evb,zdf] at g3
 rw [show (if e.kind=1∧V=vNone then e.els else e.next)=e.next from if_neg (fun hh=>g3 hh.1)] at hfin
 refine ⟨fun g3=>?_,fun g3=>?_⟩
 ·simp only [evs,evb,zdt] at g3
  rw [if_pos g3] at hfin
  refine ⟨[.slice ab s.A.length ac],rfl,by simp only [evs,evb];rw [←havA];exact z0w h6 rfl,fun _=>?_,?_⟩
  ·simp only [Chk.holds,evs,evb,slCap,hd1];omega
  simp only [cns]
  refine Z5y (j:=ws.length) h6 hAAl (by simp only [evs,evb];rfl) (by simp only [evs,evb,hd1];rw [havA]) fun K7 s7 h7 hs7=>?_
  have hx7:s7.x={ sA.x with acts:=ws }:=by
   rw [hs7];unfold MS.x
   simp only
   have:(sA.A.take ws.length).map actX'=ws:=by
    rw [List.map_take,show sA.A.map actX'=sA.x.acts from rfl,hxA];simp
   rw [this]
  refine z02 z3n (zpv h7 (by rw [hs7];exact hfA) fV (by rw [hs7];show (sA.A.take ws.length).length≤_;rw [List.length_take];omega) (fun ws' a' hwa=>by
   rw [hx7] at hwa
   have hwa:ws=ws'++[a']:=hwa
   exact fws a' (by rw [hwa];simp))) ?_
  rintro e8 K8 ⟨s8,h8,f8,hx8,rfl⟩
  refine ⟨_,[],rfl,rfl,rfl,z01,S2,s8,hlS,h8,f8,?_,rfl⟩
  rw [hx8,hx7,hfin,hxA]
 simp only [evs,evb,zdf] at g3
 rw [if_neg g3] at hfin
 refine ⟨fun g3=>?_,fun g3=>?_⟩
 ·simp only [evs,evb,zdt] at g3
  rw [if_pos g3,←hxA] at hfin
  refine z02 z13 (zak h6 hfA (hc.le hlS) g fc fa' (by omega) fV s2 false (fun _=>by rw [hxA];simp)) ?_
  rintro e7 K7 ⟨S7,s7,l7,h7,f7,hx7,rfl⟩
  exact ⟨_,[],rfl,rfl,rfl,z01,S7,s7,PH.le_trans hlS l7,h7,f7,by rw [hx7,hfin],rfl⟩
 simp only [evs,evb,zdf] at g3
 rw [if_neg g3] at hfin
 refine ⟨fun g3=>?_,fun g3=>?_⟩
 ·simp only [evs,evb,zdt] at g3
  rw [if_pos g3,←hxA] at hfin
  refine z02 z13 (zak h6 hfA (hc.le hlS) g fc fa' (by omega) fV s2 true (fun _=>by rw [hxA];simp)) ?_
  rintro e7 K7 ⟨S7,s7,l7,h7,f7,hx7,rfl⟩
  exact ⟨_,[],rfl,rfl,rfl,z01,S7,s7,PH.le_trans hlS l7,h7,f7,by rw [hx7,hfin],rfl⟩
 simp only [evs,evb,zdf] at g3
 rw [if_neg g3] at hfin
 refine ⟨fun g3=>?_,fun g3=>?_⟩
 ·simp only [evs,evb,zdt] at g3
  rw [if_pos g3,←hxA] at hfin
  have hcall:∀v,v=(slsV sA.av 0 (ws.length:Int) 6)→Tri Tryz.prog z3t #[v] K6 fun e' K'=>∃S' LA v',e'=.returned v'∧PH.le K6 S'∧Held S' K' (nest 90 77 ActM.sl LA v'++[])∧LA.map actX'=ws:=by
   rintro _ rfl
   refine zf8 _ _ K6 ?_ ?_ ?_
   ·have:=zsz h6
    rw [show sA.A.map actX'=sA.x.acts from rfl,hxA] at this
    have h':=this.cut (a:=0) (b:=ws.length) (by omega) (by simp)
    rw [show (({ s.x with acts:=ws++[endOf e e.next a] }:MX).acts.take ws.length).drop 0=ws by simp] at h'
    exact h'
   ·omega
   ·intro b hb
    have hb':b∈ws++[endOf e e.next a]:=List.mem_append_left _ hb
    have hbo:=fa.acts b hb'
    have:=hbo.regs
    have hp:=(g.prc (z1n hbo.proc.1 hbo.proc.2).1).regs
    omega
  refine ⟨[.slice ab s.A.length ac],rfl,by simp only [evs,evb];rw [←havA];exact z0w h6 rfl,?_⟩
  refine ⟨fun _=>?_,?_⟩
  ·simp only [Chk.holds,evs,evb,slCap,hd1];omega
  simp only [cns]
  refine z02 z3h (hcall _ ?_) ?_
  ·simp only [evs,evb,hd1];rw [havA]
  rintro e7 K7 ⟨S3,LA,v3,rfl,l3,h7,hLA⟩
  obtain ⟨b3,c3,hv3⟩:=zbq h7
  have h8:=h6.join l3 h7 (zjw LA v3)
  rw [List.append_nil] at h8
  obtain ⟨S4,s4,l4,h9⟩:=zf6 h8
  rw [hLA] at s4
  refine ⟨_,[v3],rfl,by rw [hv3];rfl,rfl,z01,?_⟩
  simp only [cns]
  refine z02 z1h (ze1 (proc:=0) (kont:=true) (held:=[]) (hv:=.slice none 0 0) (acts:=ws) (asv:=v3) (h9.empty _) s4 (by decide:InI 0) (by rw [hsA];show s.L.length≤_;omega) (by rw [hsA];show s.C.length≤_;omega)) ?_
  rintro e8 K8 ⟨S5,s5,l5,h10,rfl,hx5,eA,eav,ew,et,_⟩
  have hmade:=zaz fcr (x:=⟨0,0,[],true,ws⟩) fun i=>⟨fun _ b hb=>⟨(fa.acts b (List.mem_append_left _ hb)).mono (CloLe.add _ _),fws b hb⟩,fun hk=>(by cases hk),by show ws.length≤n+1;omega⟩
  rw [←hxA] at hmade
  rw [←hx5] at hmade
  have fr5:VFit (sA.x.made ⟨0,0,[],true,ws⟩).2:=by
   refine ⟨(by decide:InI 8),?_,(by decide:([]:List UInt8).length≤maxLen)⟩
   show InI ((hpX sA.L).length:Int)
   rw [hsA]
   simp only [hpX,List.length_map]
   unfold InI;omega
  generalize hkv:(sA.x.made ⟨0,0,[],true,ws⟩).2=kv at *
  refine ⟨_,valVs kv,rfl,rfl,rfl,z01,?_⟩
  simp only [cns]
  refine z1o (α:=VX) (l:=[kv]) (b:=32) [valV kv] z4m z2h rfl (by decide) (by decide) h10 (by kernel_rfl) (.cons (z80 fr5) .nil) z01 fun v9 K9 h11 _ _=>?_
  simp only [cns]
  obtain ⟨S6,s6,l6,h12⟩:=h11.freeze
  have hlS6:=PH.le_trans hlS (PH.le_trans l4 (PH.le_trans l5 l6))
  have ha5:s5.x.acts=ws++[endOf e e.next a]:=by
   show s5.A.map actX'=_
   rw [eA]
   show sA.x.acts=_
   rw [hxA]
  have fa5:ActsOk c (n+1) s5.x:=by
   refine ⟨by rw [ha5];exact Nat.le_succ_of_le fa.an,fun b hb=>?_⟩
   rw [ha5] at hb
   refine (fa.acts b hb).mono ?_
   have:=hmade.2
   rw [hxA] at this
   exact this
  refine z02 z13 (zak h12 (by unfold MFit;rw [ew,et];exact hfA) (hc.le hlS6) g hmade.1 fa5 (by omega) fV s6 false (fun _=>by rw [ha5];simp)) ?_
  rintro e10 K10 ⟨S7,s7,l7,h13,f13,hx13,rfl⟩
  refine ⟨_,[],rfl,rfl,rfl,z01,S7,s7,PH.le_trans hlS6 l7,h13,f13,?_,rfl⟩
  rw [hx13,hfin,hx5]
 simp only [evs,evb,zdf] at g3
 rw [if_neg g3] at hfin
 refine ⟨fun g3=>?_,fun g3=>?_⟩
 ·simp only [evs,evb,zdt] at g3
  rw [if_pos g3,←hxA] at hfin
  have hcall:∀v,v=sA.av→Tri Tryz.prog z3t #[v] K6 fun e' K'=>∃S' LA v',e'=.returned v'∧PH.le K6 S'∧Held S' K' (nest 90 77 ActM.sl LA v'++[])∧LA.map actX'=(ws++[endOf e e.next a]):=by
   rintro _ rfl
   refine zf8 _ _ K6 ?_ ?_ ?_
   ·have:=zsz h6
    rw [show sA.A.map actX'=sA.x.acts from rfl,hxA] at this
    exact this
   ·exact Nat.le_trans fa.an (by omega)
   ·intro b hb
    have hb':b∈ws++[endOf e e.next a]:=hb
    have hbo:=fa.acts b hb'
    have:=hbo.regs
    have hp:=(g.prc (z1n hbo.proc.1 hbo.proc.2).1).regs
    omega
  refine ⟨[.slice ab s.A.length ac],rfl,by simp only [evs,evb];rw [←havA];exact z0w h6 rfl,?_⟩
  simp only [cns]
  refine z02 z3h (hcall _ ?_) ?_
  ·simp only [evs,evb,hd1];rw [havA]
  rintro e7 K7 ⟨S3,LA,v3,rfl,l3,h7,hLA⟩
  obtain ⟨b3,c3,hv3⟩:=zbq h7
  have h8:=h6.join l3 h7 (zjw LA v3)
  rw [List.append_nil] at h8
  obtain ⟨S4,s4,l4,h9⟩:=zf6 h8
  rw [hLA] at s4
  refine ⟨_,[v3],rfl,by rw [hv3];rfl,rfl,z01,?_⟩
  simp only [cns]
  refine z02 z1h (ze1 (proc:=0) (kont:=true) (held:=[]) (hv:=.slice none 0 0) (acts:=(ws++[endOf e e.next a])) (asv:=v3) (h9.empty _) s4 (by decide:InI 0) (by rw [hsA];show s.L.length≤_;omega) (by rw [hsA];show s.C.length≤_;omega)) ?_
  rintro e8 K8 ⟨S5,s5,l5,h10,rfl,hx5,eA,eav,ew,et,_⟩
  have hmade:=zaz fcr (x:=⟨0,0,[],true,(ws++[endOf e e.next a])⟩) fun i=>⟨fun _ b hb=>⟨(fa.acts b hb).mono (CloLe.add _ _),fall (.inr g3) b hb⟩,fun hk=>(by cases hk),by have:=fa.an;exact Nat.le_succ_of_le this⟩
  rw [←hxA] at hmade
  rw [←hx5] at hmade
  have fr5:VFit (sA.x.made ⟨0,0,[],true,(ws++[endOf e e.next a])⟩).2:=by
   refine ⟨(by decide:InI 8),?_,(by decide:([]:List UInt8).length≤maxLen)⟩
   show InI ((hpX sA.L).length:Int)
   rw [hsA]
   simp only [hpX,List.length_map]
   unfold InI;omega
  generalize hkv:(sA.x.made ⟨0,0,[],true,(ws++[endOf e e.next a])⟩).2=kv at *
  refine ⟨_,valVs kv,rfl,rfl,rfl,z01,?_⟩
  simp only [cns]
  refine z1o (α:=VX) (l:=[kv]) (b:=32) [valV kv] z4m z2h rfl (by decide) (by decide) h10 (by kernel_rfl) (.cons (z80 fr5) .nil) z01 fun v9 K9 h11 _ _=>?_
  simp only [cns]
  obtain ⟨S6,s6,l6,h12⟩:=h11.freeze
  have hlS6:=PH.le_trans hlS (PH.le_trans l4 (PH.le_trans l5 l6))
  have ha5:s5.x.acts=ws++[endOf e e.next a]:=by
   show s5.A.map actX'=_
   rw [eA]
   show sA.x.acts=_
   rw [hxA]
  have fa5:ActsOk c (n+1) s5.x:=by
   refine ⟨by rw [ha5];exact Nat.le_succ_of_le fa.an,fun b hb=>?_⟩
   rw [ha5] at hb
   refine (fa.acts b hb).mono ?_
   have:=hmade.2
   rw [hxA] at this
   exact this
  refine z02 z13 (zak h12 (by unfold MFit;rw [ew,et];exact hfA) (hc.le hlS6) g hmade.1 fa5 (by omega) fV s6 true (fun _=>by rw [ha5];simp)) ?_
  rintro e10 K10 ⟨S7,s7,l7,h13,f13,hx13,rfl⟩
  refine ⟨_,[],rfl,rfl,rfl,z01,S7,s7,PH.le_trans hlS6 l7,h13,f13,?_,rfl⟩
  rw [hx13,hfin,hx5]
 ·simp only [evs,evb,zdf] at g3
  rw [if_neg g3,←hxA] at hfin
  exact ⟨S2,sA,hlS,h6,hfA,hfin.symm,rfl⟩
end
theorem z7x (p:PrcX) (pcs:List Value) (l:List Int) (lv:Value) (H:PH) (hp:CsR H p pcs) (hl:SlR H l lv):Gives Tryz.prog zjf [.agg pcs.toArray,lv] H (.bool (z0u p l)):=by
 obtain ⟨bv,rfl,p1,p2,p3,p4⟩:=prc_iff.1 hp
 obtain ⟨pb,pc,rfl⟩:=p4.sl
 obtain ⟨lb,lc,rfl⟩:=hl.sl
 have hmx:maxLen=9223372036854775807:=rfl
 have hlm:=hl.max
 refine zgs [.int .i64 p.params,.int .i64 p.holds,.int .i64 p.regs,.slice pb p.blocks.length pc,.slice lb l.length lc] (by kernel_rfl) (by kernel_rfl) ?_
 refine ⟨fun n vs K=>∃k:Nat,k+n=l.length∧vs=[.bool false,nI k]∧K=H∧z0u p (l.take k)=true,⟨l.length,0,by omega,rfl,rfl,rfl⟩,?_⟩
 rintro n vs K _ ⟨k,hkn,rfl,rfl,hok⟩
 refine ⟨fun g=>?_,fun g=>?_⟩
 ·simp only [evs,evb,zdt] at g
  obtain ⟨r,hr⟩:∃r,l[k]?=some r:=⟨_,zge (by omega)⟩
  obtain ⟨x1,_,cs,x2,x3⟩:=hl.get hr
  obtain ⟨rfl,_⟩:=csIK x2
  refine ⟨fun vs K2=>vs=[.bool (decide (r < 0∨p.regs≤r))]∧K=K2,?_,fun _=>?_,[.int .i64 r],rfl,by simp only [evs,evb];exact x3,fun g2=>?_,fun g2=>?_⟩
  ·rintro vs K2 _ ⟨rfl,rfl⟩
   refine ⟨fun g2=>?_,fun g2=>?_⟩
   ·simp only [evs,evb,zdt] at g2
    have:z0u p l=false:=by
     unfold z0u
     rw [List.all_eq_false]
     exact ⟨r,List.mem_of_getElem? hr,by simp;omega⟩
    rw [this]
    exact ⟨rfl,PH.le_refl _⟩
   ·simp only [evs,evb,zdf] at g2
    refine ⟨_,z00,n - 1,by omega,k+1,by omega,?_,rfl,?_⟩
    ·have hw:IntKind.i64.wrap ((k:Int)+1)=((k+1:Nat):Int):=by rw [w64 (by omega) (by omega)];rfl
     simp only [evs,evb,hw]
    ·unfold z0u at hok ⊢
     rw [List.take_add_one,hr,List.all_append,hok]
     simp;omega
  ·simp only [Chk.holds,evs,evb];exact ⟨x1,by omega,by omega⟩
  ·simp only [evs,evb,zdt] at g2
   exact ⟨_,z00,by simp [evs,evb,g2],rfl⟩
  ·simp only [evs,evb,zdf] at g2
   refine ⟨[.int .i64 r],rfl,by simp only [evs,evb];exact x3,_,z00,?_,rfl⟩
   simp [evs,evb,g2]
 ·simp only [evs,evb,zdf] at g
  rw [List.take_of_length_le (by omega)] at hok
  rw [hok]
  exact ⟨rfl,PH.le_refl _⟩
theorem zr3 {X:List PanicEntry→PH→Prop} {β:Type} {E:List Value} {H:PH} {L:LK} {K:β→List Value→PH→LK→Prop} {ty:TypeId} {ps:Array (Nat×Operand)} {args:List (Nat×VE)} {k:Fm β} {r:Int} (hr:InI r) (hps:ps.toList.map (fun x=>(x.1,argEv E args x.2))=idxs 0 [.int .i64 r])
  (hk:∀v H',PH.le H H'→SlR H' [r] v→den Tryz.prog X k (E++[v]) H' L K):den Tryz.prog X (.sem (.buildSlice 31 1 ps) ty args (.sc .sl) [] k) E H L K:=
 zxm (l:=[r]) (b:=8) [.int .i64 r] z0q z0i rfl (by decide) (by decide) hps (.cons (z0o hr) .nil) z01 fun v H' a l _=>hk v H' l a.slR
theorem zyl (d:Dat):decide (d=dat0)=z3v d:=by
 rw [Bool.eq_iff_iff,zdt];exact isDat0_iff.symm
theorem Z2z:tieB=[116,105,101]:=rfl
theorem zwc (c:CodeX) (cv:Value) (p:PrcX) (pcs:List Value) (x:InsX) (xs:List Value) (H:PH) (hc:SlR H c cv) (hp:CsR H p pcs) (hx:CsR H x xs) :
  Gives Tryz.prog zkf [.agg #[cv],.agg pcs.toArray,.agg xs.toArray] H (.bool (insOk c p x)):=by
 obtain ⟨bv,rfl,p1,p2,p3,p4⟩:=prc_iff.1 hp
 obtain ⟨pb,pc,rfl⟩:=p4.sl
 obtain ⟨argsv,dv,rfl,ix1,ix2,ix3,ix4,ix5,ix6,ix7,ix8⟩:=ins_iff.1 hx
 obtain ⟨arb,arc,rfl⟩:=ix3.sl
 obtain ⟨dvb,dvc,rfl⟩:=ix7.sl
 obtain ⟨cb,cc,rfl⟩:=hc.sl
 have hd:x.const.Rep H [.int .i64 x.const.kind,.int .i64 x.const.int,txt x.const.text,.slice dvb x.const.list.length dvc]:=Dat.Rep_iff.2 ⟨_,rfl,ix4,ix5,ix6,ix7⟩
 refine zhl [.slice cb c.length cc,.int .i64 p.params,.int .i64 p.holds,.int .i64 p.regs,.slice pb p.blocks.length pc,txt x.op,.int .i64 x.to,.slice arb x.args.length arc,.int .i64 x.const.kind,.int .i64 x.const.int,txt x.const.text,.slice dvb x.const.list.length dvc,.int .i64 x.num] (by kernel_rfl) (by kernel_rfl) ?_
 refine ⟨fun vs K=>vs=[.bool (!z0u p x.args || (!z0u p [x.to] && !decide (x.op=tieB)))]∧PH.le H K,?_,?_⟩
 rotate_left
 ·refine z05 [.bool (z0u p x.args)] z1x (z7x p _ x.args _ H hp ix3) rfl z01 fun H1 l1=>⟨fun g=>?_,fun g=>?_⟩
  ·simp only [evs,evb,Bool.not_eq_true'] at g
   exact ⟨_,z00,by simp [evs,evb,g],l1⟩
  ·simp only [evs,evb,Bool.not_eq_false'] at g
   refine zr3 ix2 (by kernel_rfl) fun v H2 l2 h2=>?_
   refine z05 [.bool (z0u p [x.to])] z1x (z7x p _ [x.to] v H2 (CsR.le (PH.le_trans l1 l2) hp) h2) rfl z01 fun H3 l3=>⟨_,z00,?_,PH.le_trans l1 (PH.le_trans l2 l3)⟩
   simp [evs,evb,zj9,g,Z2z]
   cases z0u p [x.to]
   ·simp only [Bool.not_false,Bool.true_and]
    exact congrArg _ (decide_eq_decide.2 Iff.rfl)
   ·rfl
 rintro vs K _ ⟨rfl,lK⟩
 simp only [cns]
 have hdK:=Dat.Rep.le lK x.const hd
 refine ⟨fun g=>?_,fun g=>?_⟩
 ·simp only [evs,evb] at g
  refine ⟨?_,lK⟩
  unfold insOk;rw [if_pos g]
  simp only [evs,evb]
 simp only [evs,evb] at g
 have hI:insOk c p x=if x.op=z6a then decide (x.args.length=0) && decide (x.num=0) && z6l x.const
  else if x.op=movB then decide (x.args.length=1) && decide (x.num=0) && z3v x.const
  else if x.op=hldB then decide (x.args.length=0) && decide (0≤x.num) && decide (x.num < p.holds) && z3v x.const
  else if x.op=cloB then decide (1≤x.num) && decide (x.num < c.length) && decide ((x.args.length:Int)=(prcAt c x.num).holds) && z3v x.const
  else if x.op=tieB then decide (x.args.length=2) && decide (0≤x.num) && decide (x.to=0) && z3v x.const
  else if x.op=ccB then false
  else decide (z30 x.op=x.args.length) && decide (x.num=0) && z3v x.const:=by
  unfold insOk;rw [if_neg (by rw [g];exact Bool.false_ne_true)]
 rw [hI]
 have leaf0:Dat.Rep K dat0 [.int .i64 0,.int .i64 0,txt [],.slice none 0 0]:=zfa (k:=0) (n:=0) (t:=[]) (by decide) (by decide) (by decide)
 refine z05 [.bool (decide (x.const=dat0))] z49 (zqw x.const dat0 _ _ K hdK leaf0) rfl z01 fun K1 l1=>?_
 rw [zyl]
 simp only [cns]
 have lK1:=PH.le_trans lK l1
 refine ⟨fun g2=>?_,fun g2=>?_⟩
 ·simp only [evs,evb,z03,zdt] at g2
  rw [if_pos (show x.op=z6a from g2)]
  refine ⟨fun vs K2=>vs=[.bool (decide (x.args.length=0) && decide (x.num=0) && z6l x.const)]∧PH.le K1 K2,?_,fun g3=>?_,fun g3=>?_⟩
  ·rintro vs K2 _ ⟨rfl,l2⟩
   exact ⟨by simp only [evs,evb],PH.le_trans lK1 l2⟩
  ·simp only [evs,evb] at g3
   simp only [zba,zdt] at g3
   refine z05 [.bool (z6l x.const)] zgl (zu6 x.const _ K1 (Dat.Rep.le l1 x.const hdK)) rfl z01 fun K2 l2=>⟨_,z00,?_,l2⟩
   have h0:x.args.length=0:=by omega
   simp [evs,evb,h0,g3.2]
  ·simp only [evs,evb] at g3
   refine ⟨_,z00,?_,PH.le_refl _⟩
   have:(decide (x.args.length=0) && decide (x.num=0))=false:=by
    simp only [Bool.and_eq_false_iff,zdf] at g3 ⊢
    omega
   rw [this];rfl
 simp only [evs,evb,z03,zdf] at g2
 rw [if_neg (show ¬x.op=z6a from g2)]
 have e1:∀n:Nat,decide ((x.args.length:Int)=(n:Int))=decide (x.args.length=n):=fun n=>by rw [decide_eq_decide];omega
 refine ⟨fun g3=>?_,fun g3=>?_⟩
 ·simp only [evs,evb,z03,zdt] at g3
  rw [if_pos (show x.op=movB from g3)]
  refine ⟨?_,lK1⟩
  have:=e1 1
  simp only [evs,evb,←this]
  rfl
 simp only [evs,evb,z03,zdf] at g3
 rw [if_neg (show ¬x.op=movB from g3)]
 refine ⟨fun g4=>?_,fun g4=>?_⟩
 ·simp only [evs,evb,z03,zdt] at g4
  rw [if_pos (show x.op=hldB from g4)]
  refine ⟨?_,lK1⟩
  have:=e1 0
  simp only [evs,evb,←this,ge_iff_le]
  rfl
 simp only [evs,evb,z03,zdf] at g4
 rw [if_neg (show ¬x.op=hldB from g4)]
 refine ⟨fun g5=>?_,fun g5=>?_⟩
 ·simp only [evs,evb,z03,zdt] at g5
  rw [if_pos (show x.op=cloB from g5)]
  refine ⟨fun vs K2=>vs=[.bool (decide (1≤x.num) && decide (x.num < c.length) && decide ((x.args.length:Int)=(prcAt c x.num).holds) && z3v x.const)]∧PH.le K1 K2,?_,?_⟩
  ·rintro vs K2 _ ⟨rfl,l2⟩
   exact ⟨by simp only [evs,evb],PH.le_trans lK1 l2⟩
  by_cases hb:1≤x.num∧x.num < c.length
  ·obtain ⟨m1,m2⟩:=z1n (by omega:0≤x.num) hb.2
   obtain ⟨y1,yn,ycs,y2,y3⟩:=hc.get m2
   obtain ⟨bv',rfl,_⟩:=prc_iff.1 y2
   have hj:((x.num.toNat:Nat):Int)=x.num:=Int.toNat_of_nonneg (by omega)
   rw [hj] at y3 yn
   refine ⟨fun _=>?_,fun _=>?_,fun g6=>?_,fun g6=>?_⟩
   ·simp only [Chk.holds,evs,evb];exact ⟨y1,by omega,by omega⟩
   ·simp only [Chk.holds,evs,evb];exact yn
   ·refine ⟨[.int .i64 (prcAt c x.num).holds],rfl,?_,_,z00,?_,PH.le_refl _⟩
    ·simp only [evs,evb];exact z06 lK1 (z0a y3 1 1)
    ·simp [evs,evb,hb.1,hb.2]
   ·simp only [evs,evb] at g6
    simp [hb.1,hb.2] at g6
  ·refine ⟨fun hg=>?_,fun hg=>?_,fun g6=>?_,fun g6=>?_⟩
   ·exfalso;simp [Guard.holds,evs,evb] at hg;omega
   ·exfalso;simp [Guard.holds,evs,evb] at hg;omega
   ·exfalso;simp only [evs,evb] at g6;simp at g6;omega
   ·refine ⟨_,z00,?_,PH.le_refl _⟩
    have:(decide (1≤x.num) && decide (x.num < c.length))=false:=by
     simp only [Bool.and_eq_false_iff,zdf];omega
    rw [this];rfl
 simp only [evs,evb,z03,zdf] at g5
 rw [if_neg (show ¬x.op=cloB from g5)]
 refine ⟨fun g6=>?_,fun g6=>?_⟩
 ·simp only [evs,evb,z03,zdt] at g6
  rw [if_pos (show x.op=tieB from g6)]
  refine ⟨?_,lK1⟩
  have:=e1 2
  simp only [evs,evb,←this,ge_iff_le]
  rfl
 simp only [evs,evb,z03,zdf] at g6
 rw [if_neg (show ¬x.op=tieB from g6)]
 refine ⟨fun g7=>?_,fun g7=>?_⟩
 ·simp only [evs,evb,z03,zdt] at g7
  rw [if_pos (show x.op=ccB from g7)]
  exact ⟨rfl,lK1⟩
 simp only [evs,evb,z03,zdf] at g7
 rw [if_neg (show ¬x.op=ccB from g7)]
 refine z05 [.int .i64 (z30 x.op)] zgg (zv0 x.op K1) rfl z01 fun K2 l2=>⟨?_,PH.le_trans lK1 l2⟩
 simp only [evs,evb]
theorem zvs (p:PrcX) (pcs:List Value) (e:EndX) (es:List Value) (H:PH) (hp:CsR H p pcs) (he:CsR H e es):Gives Tryz.prog zki [.agg pcs.toArray,.agg es.toArray] H (.bool (finOk p e)):=by
 obtain ⟨bv,rfl,p1,p2,p3,p4⟩:=prc_iff.1 hp
 obtain ⟨pb,pc,rfl⟩:=p4.sl
 obtain ⟨argsv,rfl,ex1,ex2,ex3,ex4,ex5,ex6⟩:=end_iff.1 he
 obtain ⟨arb,arc,rfl⟩:=ex3.sl
 refine zii [.int .i64 p.params,.int .i64 p.holds,.int .i64 p.regs,.slice pb p.blocks.length pc,.int .i64 e.kind,.int .i64 e.reg,.slice arb e.args.length arc,.int .i64 e.to,.int .i64 e.next,.int .i64 e.els] (by kernel_rfl) (by kernel_rfl) ?_
 refine zr3 ex2 (by kernel_rfl) fun v H1 l1 h1=>?_
 refine z05 [.bool (z0u p [e.reg])] z1x (z7x p _ [e.reg] v H1 (CsR.le l1 hp) h1) rfl z01 fun H2 l2=>?_
 refine zr3 ex4 (by kernel_rfl) fun v2 H3 l3 h3=>?_
 have l13:=PH.le_trans l1 (PH.le_trans l2 l3)
 refine z05 [.bool (z0u p [e.to])] z1x (z7x p _ [e.to] v2 H3 (CsR.le l13 hp) h3) rfl z01 fun H4 l4=>?_
 have l14:=PH.le_trans l13 l4
 refine z05 [.bool (z0u p e.args)] z1x (z7x p _ e.args _ H4 (CsR.le l14 hp) (ex3.le l14)) rfl z01 fun H5 l5=>?_
 have l15:=PH.le_trans l14 l5
 simp only [cns]
 have hem:e.args.isEmpty=decide ((e.args.length:Int)=0):=by
  rw [Bool.eq_iff_iff,List.isEmpty_iff,zdt]
  constructor
  ·intro h;rw [h];rfl
  ·intro h;exact List.length_eq_zero_iff.1 (by omega)
 have hfw:decide (e.args.length≤6)=decide ((e.args.length:Int)≤6):=by rw [decide_eq_decide];omega
 generalize hF:finOk p e=F
 unfold finOk at hF
 simp only [hem,hfw] at hF
 refine ⟨fun g=>?_,fun g=>?_⟩
 ·simp only [evs,evb,zdt] at g
  rw [if_pos g] at hF
  refine ⟨?_,l15⟩
  rw [←hF]
  simp only [evs,evb,ge_iff_le]
 simp only [evs,evb,zdf] at g
 rw [if_neg g] at hF
 refine ⟨fun g=>?_,fun g=>?_⟩
 ·simp only [evs,evb,zdt] at g
  rw [if_pos g] at hF
  refine ⟨?_,l15⟩
  rw [←hF]
  simp only [evs,evb,ge_iff_le]
 simp only [evs,evb,zdf] at g
 rw [if_neg g] at hF
 refine ⟨fun g=>?_,fun g=>?_⟩
 ·have g:e.kind=2∨e.kind=5:=by
   simp only [evs,evb] at g
   by_cases h2:e.kind=2
   ·exact .inl h2
   ·simp only [h2,decide_false,Bool.false_eq_true,if_false,zdt] at g;exact .inr g
  rw [if_pos g] at hF
  refine ⟨?_,l15⟩
  rw [←hF]
  simp only [evs,evb,ge_iff_le]
 have g:¬(e.kind=2∨e.kind=5):=by
  simp only [evs,evb] at g
  by_cases h2:e.kind=2
  ·simp [h2] at g
  ·simpa [h2] using g
 rw [if_neg g] at hF
 refine ⟨fun g=>?_,fun g=>?_⟩
 ·simp only [evs,evb,zdt] at g
  rw [if_pos g] at hF
  refine ⟨?_,l15⟩
  rw [←hF]
  simp only [evs,evb,ge_iff_le]
 simp only [evs,evb,zdf] at g
 rw [if_neg g] at hF
 refine ⟨fun g=>?_,fun g=>?_⟩
 ·simp only [evs,evb,zdt] at g
  rw [if_pos g] at hF
  refine ⟨?_,l15⟩
  rw [←hF]
  simp only [evs,evb,ge_iff_le]
 simp only [evs,evb,zdf] at g
 rw [if_neg g] at hF
 refine ⟨fun g=>?_,fun g=>?_⟩
 ·simp only [evs,evb,zdt] at g
  rw [if_pos g] at hF
  refine ⟨?_,l15⟩
  rw [←hF]
  simp only [evs,evb,ge_iff_le]
 simp only [evs,evb,zdf] at g
 rw [if_neg g] at hF
 rw [←hF]
 exact ⟨rfl,l15⟩
theorem zoy {α:Type} (f:α→Nat):∀(l:List α) (k:Nat),((l.take k).map f).sum≤(l.map f).sum
 | [],k=>by simp
 | a::l,0=>by simp
 | a::l,k+1=>by
  have:=zoy f l k
  simp only [List.take_succ_cons,List.map_cons,List.sum_cons];omega
theorem zp5 {α:Type} (f:α→Nat) {l:List α} {k:Nat} {a:α} (h:l[k]?=some a):((l.take (k+1)).map f).sum=((l.take k).map f).sum+f a:=by
 rw [List.take_add_one,h];simp
theorem ze7 {c:CodeX} (h:z1z c=true):z16 c=151:=by unfold z16;rw [if_pos h]
theorem zdg {c:CodeX} (h:z1z c=false) (hn:c=[]∨(∃p l,c=p::l∧(p.params≠0∨p.holds≠0))∨∃p∈c,prcOk c p=false):z16 c=150:=by
 unfold z16
 rw [if_neg (by rw [h];exact Bool.false_ne_true)]
 match c,hn with
 | [],_=>rfl
 | p::l,hn=>
  simp only
  rw [if_neg]
  intro hh
  simp only [zba,zdt,List.all_eq_true] at hh
  rcases hn with hn | ⟨p',l',e,hn⟩ | ⟨q,hq,hn⟩
  ·cases hn
  ·cases e;omega
  ·rw [hh.2 q hq] at hn;cases hn
theorem zq2 {c:CodeX} {p:PrcX} {l:CodeX} (h:z1z c=false) (e:c=p::l) (h1:p.params=0) (h2:p.holds=0) (h3:∀q∈c,prcOk c q=true):z16 c=0:=by
 unfold z16
 rw [if_neg (by rw [h];exact Bool.false_ne_true)]
 subst e
 simp only
 rw [if_pos]
 simp only [zba,zdt,List.all_eq_true]
 exact ⟨⟨h1,h2⟩,h3⟩
theorem Z3k {c:CodeX} {p:PrcX} (h:p∈c) (hr:2000 < p.regs):z1z c=true:=by
 unfold z1z
 simp only [Bool.or_eq_true,List.any_eq_true,zdt]
 exact .inl (.inl ⟨p,h,hr⟩)
theorem zvo {c:CodeX} (h:4096 < manyC c):z1z c=true:=by
 unfold z1z
 simp only [Bool.or_eq_true,List.any_eq_true,zdt]
 exact .inl (.inr h)
theorem Z2t {c:CodeX} (h:300 < c.length):z1z c=true:=by
 unfold z1z
 simp only [Bool.or_eq_true,List.any_eq_true,zdt]
 exact .inr h
theorem Z5c {c:CodeX} (h1:∀p∈c,p.regs≤2000) (h2:manyC c≤4096) (h3:c.length≤300):z1z c=false:=by
 unfold z1z
 simp only [Bool.or_eq_false_iff,zdf,List.any_eq_false,zdt]
 exact ⟨⟨fun p hp=>by have:=h1 p hp;omega,by omega⟩,by omega⟩
theorem z8h (c:CodeX) (cv:Value) (H:PH) (hc:SlR H c cv):Gives Tryz.prog zhe [.agg #[cv]] H (.int .i64 (z16 c)):=by
 obtain ⟨cb,cc,rfl⟩:=hc.sl
 have hmx:maxLen=9223372036854775807:=rfl
 have hcm:=hc.max
 refine zff [.slice cb c.length cc] (by kernel_rfl) (by kernel_rfl) ?_
 have upk:∀{k m:Nat},k < m→m≤maxLen→IntKind.i64.wrap ((k:Int)+1)=((k+1:Nat):Int):=fun h1 h2=>by rw [w64 (by omega) (by omega)];rfl
 refine ⟨fun n vs K=>∃(i many:Nat),i+n=c.length∧vs=[.int .i64 0,nI many,nI i]∧K=H∧(∀p∈c.take i,p.regs≤2000)∧many≤8193∧(many≤4096→many=manyC (c.take i))∧(4096 < many→4096 < manyC c),
  ⟨c.length,0,0,by omega,rfl,rfl,by simp,by omega,fun _=>rfl,by omega⟩,?_⟩
 rintro n vs K _ ⟨i,many,hin,rfl,rfl,hregs,hm1,hm2,hm3⟩
 simp only [cns]
 refine ⟨fun g=>?_,fun g=>?_⟩
 ·simp only [evs,evb,zdt] at g
  obtain ⟨p,hp⟩:∃p,c[i]?=some p:=⟨_,zge (by omega)⟩
  have hpm:=List.mem_of_getElem? hp
  obtain ⟨x1,_,cs,x2,x3⟩:=hc.get hp
  obtain ⟨bv,rfl,p1,p2,p3,p4⟩:=prc_iff.1 x2
  obtain ⟨pb,pc,rfl⟩:=p4.sl
  have hbm:=p4.max
  refine ⟨fun _=>?_,[.int .i64 p.params,.int .i64 p.holds,.int .i64 p.regs,.slice pb p.blocks.length pc],rfl,?_,?_⟩
  ·simp only [Chk.holds,evs,evb];exact ⟨x1,by omega,by omega⟩
  ·simp only [evs,evb];exact x3
  simp only [cns]
  refine ⟨fun g2=>?_,fun g2=>?_⟩
  ·simp only [evs,evb,zdt] at g2
   rw [ze7 (Z3k hpm (by omega))]
   exact ⟨rfl,PH.le_refl _⟩
  simp only [evs,evb,zdf] at g2
  refine ⟨fun m vs K2=>∃(k many:Nat),k+m=p.blocks.length∧vs=[.int .i64 0,nI many,nI k]∧K2=K∧many≤8193∧(many≤4096→many=manyC (c.take i)+((p.blocks.take k).map BlkX.many).sum)∧(4096 < many→4096 < manyC c),
   ⟨p.blocks.length,0,many,by omega,rfl,rfl,hm1,fun h=>by simpa using hm2 h,hm3⟩,?_⟩
  rintro m vs K2 _ ⟨k,many2,hkm,rfl,rfl,hq1,hq2,hq3⟩
  simp only [cns]
  refine ⟨fun g3=>?_,fun g3=>?_⟩
  ·simp only [evs,evb] at g3
   simp only [zba,zdt] at g3
   obtain ⟨b,hb⟩:∃b,p.blocks[k]?=some b:=⟨_,zge (by omega)⟩
   obtain ⟨y1,_,ycs,y2,y3⟩:=p4.get hb
   obtain ⟨iv,es,rfl,i1,i2⟩:=blk_iff.1 y2
   obtain ⟨ib,ic,rfl⟩:=i1.sl
   have hiv:rowAt K2 (pOf (eltV (.slice pb p.blocks.length pc) (k:Int) 7) |>.map (·.add 0)) [.slice ib b.ins.length ic]:=z0a y3 0 1
   refine ⟨fun _=>?_,[.slice ib b.ins.length ic],rfl,by simp only [evs,evb];exact hiv,fun g4=>?_,fun g4=>⟨[.slice ib b.ins.length ic],rfl,by simp only [evs,evb];exact hiv,?_⟩⟩
   ·simp only [Chk.holds,evs,evb];exact ⟨y1,by omega,by omega⟩
   ·simp only [evs,evb,zdt] at g4
    have h1:=zu3 (List.mem_of_getElem? hb)
    have h2:=zoe hpm
    rw [ze7 (zvo (by omega))]
    exact ⟨rfl,PH.le_refl _⟩
   ·simp only [evs,evb,zdf] at g4
    have hw1:IntKind.i64.wrap (IntKind.i64.wrap ((many2:Int)+1)+(b.ins.length:Int))=((many2+1+b.ins.length:Nat):Int):=by
     rw [w64 (n:=(many2:Int)+1) (by omega) (by omega),w64 (by omega) (by omega)];omega
    have hs:=zp5 BlkX.many hb
    have hbm2:BlkX.many b=1+b.ins.length:=rfl
    have h0:=hq2 (by omega)
    have hle:manyC (c.take i)+((p.blocks.take (k+1)).map BlkX.many).sum≤manyC c:=by
     have h1:=zoy BlkX.many p.blocks (k+1)
     have h2:=zp5 PrcX.many hp
     have h3:=zoy PrcX.many c (i+1)
     have h4:PrcX.many p=(p.blocks.map BlkX.many).sum:=rfl
     unfold manyC;omega
    refine ⟨_,z00,m - 1,by omega,k+1,many2+1+b.ins.length,by omega,?_,rfl,by omega,fun _=>by omega,fun _=>by omega⟩
    simp only [evs,evb,hw1,upk (by omega:k < p.blocks.length) hbm]
  ·simp only [evs,evb] at g3
   simp only [Bool.and_eq_false_iff,zdf] at g3
   refine ⟨_,(z4a (by decide)).trans z00,n - 1,by omega,i+1,many2,by omega,?_,rfl,?_,hq1,fun h=>?_,hq3⟩
   ·simp only [evs,evb,upk (by omega:i < c.length) hcm]
   ·intro q hq
    rw [List.take_add_one,hp,List.mem_append] at hq
    rcases hq with hq | hq
    ·exact hregs q hq
    ·rw [List.mem_singleton.1 hq];omega
   ·have h2:=zp5 PrcX.many hp
    have h4:PrcX.many p=(p.blocks.map BlkX.many).sum:=rfl
    have h5:=hq2 h
    rw [show p.blocks.take k=p.blocks from List.take_of_length_le (by omega)] at h5
    unfold manyC at h5 ⊢;omega
 simp only [evs,evb,zdf] at g
 rw [List.take_of_length_le (by omega)] at hregs hm2
 refine ⟨fun g2=>?_,fun g2=>?_⟩
 ·simp only [evs,evb] at g2
  simp only [Bool.or_eq_true,zdt] at g2
  have:z1z c=true:=by
   rcases g2 with g2 | g2
   ·exact zvo (hm3 (by omega))
   ·exact Z2t (by omega)
  rw [ze7 this]
  exact ⟨rfl,PH.le_refl _⟩
 simp only [evs,evb] at g2
 simp only [Bool.or_eq_false_iff,zdf] at g2
 have htm:z1z c=false:=Z5c hregs (by have:=hm2 (by omega);omega) (by omega)
 refine ⟨fun vs K2=>K=K2∧((vs=[.bool true]∧z16 c=150)∨(vs=[.bool false]∧∃p l,c=p::l∧p.params=0∧p.holds=0)),?_,?_⟩
 rotate_left
 ·cases hcl:c with
  | nil=>
   rw [hcl] at htm
   have:=zdg htm (.inl rfl)
   refine ⟨fun hg=>by exfalso;simp [Guard.holds,evs,evb] at hg,fun hg=>by exfalso;simp [Guard.holds,evs,evb] at hg,fun _=>⟨_,z00,rfl,.inl ⟨rfl,this⟩⟩,fun g3=>by simp [evs,evb] at g3⟩
  | cons p l=>
   have hp:c[0]?=some p:=by rw [hcl];rfl
   obtain ⟨x1,xn,cs,x2,x3⟩:=hc.get hp
   obtain ⟨bv,rfl,p1,p2,p3,p4⟩:=prc_iff.1 x2
   obtain ⟨pb,pc,rfl⟩:=p4.sl
   have hl1:(1:Int)≤((p::l).length:Int):=by simp;omega
   rw [hcl] at x1 xn x3 htm
   refine ⟨fun _=>?_,fun _=>?_,fun g3=>?_,fun g3=>⟨[.int .i64 p.params],rfl,?_,fun _=>?_,fun _=>?_,fun g4=>?_,fun g4=>⟨[.int .i64 p.holds],rfl,?_,?_⟩⟩⟩
   ·simp only [Chk.holds,evs,evb];exact ⟨x1,by omega,by omega⟩
   ·simp only [Chk.holds,evs,evb];exact xn
   ·simp [evs,evb] at g3;omega
   ·simp only [evs,evb];exact z0a x3 0 1
   ·simp only [Chk.holds,evs,evb];exact ⟨x1,by omega,by omega⟩
   ·simp only [Chk.holds,evs,evb];exact xn
   ·simp only [evs,evb,ne_eq,decide_not,Bool.not_eq_true',zdf] at g4
    exact ⟨_,z00,rfl,.inl ⟨rfl,zdg htm (.inr (.inl ⟨p,l,rfl,.inl g4⟩))⟩⟩
   ·simp only [evs,evb];exact z0a x3 1 1
   ·simp only [evs,evb,ne_eq,decide_not,Bool.not_eq_false',zdt] at g4
    by_cases e:p.holds=0
    ·exact ⟨_,z00,rfl,.inr ⟨by simp [evs,evb,e],p,l,rfl,g4,e⟩⟩
    ·exact ⟨_,z00,rfl,.inl ⟨by simp [evs,evb,e],zdg htm (.inr (.inl ⟨p,l,rfl,.inr e⟩))⟩⟩
 rintro vs K2 _ ⟨rfl,hJ⟩
 rcases hJ with ⟨rfl,hf⟩ | ⟨rfl,p0,l0,hcl,h00,h01⟩
 ·refine ⟨fun _=>?_,fun g3=>by simp [evs,evb] at g3⟩
  rw [hf];exact ⟨rfl,PH.le_refl _⟩
 refine ⟨fun g3=>by simp [evs,evb] at g3,fun _=>?_⟩
 simp only [cns]
 refine ⟨fun n vs K2=>∃i:Nat,i+n=c.length∧vs=[.int .i64 0,nI i]∧PH.le K K2∧∀p∈c.take i,prcOk c p=true,⟨c.length,0,by omega,rfl,PH.le_refl _,by simp⟩,?_⟩
 rintro n vs K2 _ ⟨i,hin,rfl,lK,hok⟩
 simp only [cns]
 refine ⟨fun g3=>?_,fun g3=>?_⟩
 ·simp only [evs,evb,zdt] at g3
  obtain ⟨p,hp⟩:∃p,c[i]?=some p:=⟨_,zge (by omega)⟩
  have hpm:=List.mem_of_getElem? hp
  obtain ⟨x1,_,cs,x2,x3⟩:=hc.get hp
  have x2':=x2
  obtain ⟨bv,rfl,p1,p2,p3,p4⟩:=prc_iff.1 x2
  obtain ⟨pb,pc,rfl⟩:=p4.sl
  have hbm:=p4.max
  have bad:∀{K3:PH},PH.le K K3→prcOk c p=false→Ending.returned (Value.int .i64 150)=Ending.returned (Value.int .i64 (z16 c))∧PH.le K K3:=fun l hb=>⟨by rw [zdg htm (.inr (.inr ⟨p,hpm,hb⟩))],l⟩
  refine ⟨fun _=>?_,[.int .i64 p.params,.int .i64 p.holds,.int .i64 p.regs,.slice pb p.blocks.length pc],rfl,?_,?_⟩
  ·simp only [Chk.holds,evs,evb];exact ⟨x1,by omega,by omega⟩
  ·simp only [evs,evb];exact z06 lK x3
  simp only [cns]
  refine ⟨fun g4=>?_,fun g4=>?_⟩
  ·simp only [evs,evb] at g4
   simp only [Bool.or_eq_true,zdt] at g4
   refine bad lK ?_
   unfold prcOk
   have:(decide (0≤p.params) && decide (p.params≤6) && decide (0≤p.holds) && decide (p.holds≤1000) && decide (p.params≤p.regs) && !p.blocks.isEmpty)=false:=by
    cases hh:(decide (0≤p.params) && decide (p.params≤6) && decide (0≤p.holds) && decide (p.holds≤1000) && decide (p.params≤p.regs) && !p.blocks.isEmpty) with
    | false=>rfl
    | true=>
     exfalso
     simp only [zba,zdt,Bool.not_eq_true',List.isEmpty_eq_false_iff] at hh
     have:=List.length_pos_iff.2 hh.2
     omega
   rw [this];rfl
  simp only [evs,evb] at g4
  simp only [Bool.or_eq_false_iff,zdf] at g4
  have hpre:prcOk c p=p.blocks.all fun b=>b.ins.all (insOk c p) && finOk p b.e:=by
   unfold prcOk
   have:(decide (0≤p.params) && decide (p.params≤6) && decide (0≤p.holds) && decide (p.holds≤1000) && decide (p.params≤p.regs) && !p.blocks.isEmpty)=true:=by
    simp only [zba,zdt,Bool.not_eq_true',List.isEmpty_eq_false_iff]
    have:p.blocks≠[]:=fun e=>by rw [e] at g4;simp at g4
    exact ⟨⟨⟨⟨⟨by omega,by omega⟩,by omega⟩,by omega⟩,by omega⟩,this⟩
   rw [this];rfl
  refine ⟨fun m vs K3=>∃k:Nat,k+m=p.blocks.length∧vs=[.int .i64 0,nI k]∧PH.le K K3∧∀b∈p.blocks.take k,(b.ins.all (insOk c p) && finOk p b.e)=true,⟨p.blocks.length,0,by omega,rfl,lK,by simp⟩,?_⟩
  rintro m vs K3 _ ⟨k,hkm,rfl,lK3,hbok⟩
  simp only [cns]
  refine ⟨fun g5=>?_,fun g5=>?_⟩
  ·simp only [evs,evb,zdt] at g5
   obtain ⟨b,hb⟩:∃b,p.blocks[k]?=some b:=⟨_,zge (by omega)⟩
   have hbmem:=List.mem_of_getElem? hb
   obtain ⟨y1,_,ycs,y2,y3⟩:=p4.get hb
   obtain ⟨iv,es,rfl,i1,i2⟩:=blk_iff.1 y2
   obtain ⟨ib,ic,rfl⟩:=i1.sl
   have i2':=i2
   obtain ⟨eav,rfl,_,_,e3,_⟩:=end_iff.1 i2
   obtain ⟨eb,ec,rfl⟩:=e3.sl
   have him:=i1.max
   have bad2:∀{K4:PH},PH.le K K4→(b.ins.all (insOk c p) && finOk p b.e)=false→Ending.returned (Value.int .i64 150)=Ending.returned (Value.int .i64 (z16 c))∧PH.le K K4:=fun l hb2=>bad l (by
    rw [hpre,List.all_eq_false]
    exact ⟨b,hbmem,by rw [hb2];exact Bool.false_ne_true⟩)
   refine ⟨fun _=>?_,[.slice ib b.ins.length ic,.int .i64 b.e.kind,.int .i64 b.e.reg,.slice eb b.e.args.length ec,.int .i64 b.e.to,.int .i64 b.e.next,.int .i64 b.e.els],rfl,?_,?_⟩
   ·simp only [Chk.holds,evs,evb];exact ⟨y1,by omega,by omega⟩
   ·simp only [evs,evb];exact z06 lK3 y3
   simp only [cns]
   refine ⟨fun q vs K4=>∃j:Nat,j+q=b.ins.length∧vs=[.int .i64 0,nI j]∧PH.le K K4∧∀x∈b.ins.take j,insOk c p x=true,⟨b.ins.length,0,by omega,rfl,lK3,by simp⟩,?_⟩
   rintro q vs K4 _ ⟨j,hjq,rfl,lK4,hiok⟩
   simp only [cns]
   refine ⟨fun g6=>?_,fun g6=>?_⟩
   ·simp only [evs,evb,zdt] at g6
    obtain ⟨x,hx⟩:∃x,b.ins[j]?=some x:=⟨_,zge (by omega)⟩
    obtain ⟨z1,_,zcs,z2,z3⟩:=i1.get hx
    have z2':=z2
    obtain ⟨argsv,dv,rfl,_,_,ix3,_,_,_,ix7,_⟩:=ins_iff.1 z2
    obtain ⟨arb,arc,rfl⟩:=ix3.sl
    obtain ⟨dvb,dvc,rfl⟩:=ix7.sl
    refine ⟨fun _=>?_,[txt x.op,.int .i64 x.to,.slice arb x.args.length arc,.int .i64 x.const.kind,.int .i64 x.const.int,txt x.const.text,.slice dvb x.const.list.length dvc,.int .i64 x.num],rfl,?_,?_⟩
    ·simp only [Chk.holds,evs,evb];exact ⟨z1,by omega,by omega⟩
    ·simp only [evs,evb];exact z06 lK4 z3
    simp only [cns]
    refine z05 [.bool (insOk c p x)] zjb (zwc c _ p _ x _ K4 (hc.le lK4) (CsR.le lK4 x2') (CsR.le lK4 z2')) rfl z01 fun K5 l5=>⟨fun g7=>?_,fun g7=>?_⟩
    ·simp only [evs,evb,Bool.not_eq_true'] at g7
     refine bad2 (PH.le_trans lK4 l5) ?_
     have:b.ins.all (insOk c p)=false:=by
      rw [List.all_eq_false]
      exact ⟨x,List.mem_of_getElem? hx,by rw [g7];exact Bool.false_ne_true⟩
     rw [this];rfl
    ·simp only [evs,evb,Bool.not_eq_false'] at g7
     refine ⟨_,z00,q - 1,by omega,j+1,by omega,?_,PH.le_trans lK4 l5,fun y hy=>?_⟩
     ·simp only [evs,evb,upk (by omega:j < b.ins.length) him]
     ·rw [List.take_add_one,hx,List.mem_append] at hy
      rcases hy with hy | hy
      ·exact hiok y hy
      ·rw [List.mem_singleton.1 hy];exact g7
   ·simp only [evs,evb,zdf] at g6
    rw [List.take_of_length_le (by omega)] at hiok
    have hia:b.ins.all (insOk c p)=true:=List.all_eq_true.2 hiok
    refine z05 [.bool (finOk p b.e)] zj4 (zvs p _ b.e _ K4 (CsR.le lK4 x2') (CsR.le lK4 i2')) rfl z01 fun K5 l5=>⟨fun g7=>?_,fun g7=>?_⟩
    ·simp only [evs,evb,Bool.not_eq_true'] at g7
     exact bad2 (PH.le_trans lK4 l5) (by rw [hia,g7];rfl)
    ·simp only [evs,evb,Bool.not_eq_false'] at g7
     refine ⟨_,(z4a (by decide)).trans z00,m - 1,by omega,k+1,by omega,?_,PH.le_trans lK4 l5,fun y hy=>?_⟩
     ·simp only [evs,evb,upk (by omega:k < p.blocks.length) hbm]
     ·rw [List.take_add_one,hb,List.mem_append] at hy
      rcases hy with hy | hy
      ·exact hbok y hy
      ·rw [List.mem_singleton.1 hy,hia,g7];rfl
  ·simp only [evs,evb,zdf] at g5
   rw [List.take_of_length_le (by omega)] at hbok
   refine ⟨_,(z4a (by decide)).trans z00,n - 1,by omega,i+1,by omega,?_,lK3,fun y hy=>?_⟩
   ·simp only [evs,evb,upk (by omega:i < c.length) hcm]
   ·rw [List.take_add_one,hp,List.mem_append] at hy
    rcases hy with hy | hy
    ·exact hok y hy
    ·rw [List.mem_singleton.1 hy,hpre];exact List.all_eq_true.2 hbok
 ·simp only [evs,evb,zdf] at g3
  rw [List.take_of_length_le (by omega)] at hok
  rw [zq2 htm hcl h00 h01 hok]
  exact ⟨rfl,lK⟩
structure OutX where
 err:Int
 out:List UInt8
 shown:Dat
 whole:Bool
 steps:Nat
def endX (m:MX) (n:Nat):OutX:=⟨m.e,m.out,if m.e=0 then (tellV m.h m.told).1 else dat0,if m.e=0 then (tellV m.h m.told).2 else false,n⟩
def runX (c:CodeX) (input:List UInt8) (steps:Int):OutX:=
 if steps < 0∨1000000 < steps then ⟨1,[],dat0,false,0⟩
 else if z16 c≠0 then ⟨z16 c,[],dat0,false,0⟩
 else endX (MX.go z0r c steps.toNat (MX.first c input) 0).1 (MX.go z0r c steps.toNat (MX.first c input) 0).2
def OutX.Rep (o:OutX) (H:PH) (cs:List Value):Prop:=∃ds,cs=[.int .i64 o.err,txt o.out]++ds++[.bool o.whole,nI o.steps]∧o.shown.Rep H ds
theorem go_eq (K:Dat→VX) (c:CodeX) (fuel:Nat) (m:MX) (n:Nat):MX.go K c fuel m n=if m.e≠0∨m.done=true then (m,n) else match fuel with
  | 0=>({ m with e:=93 },n)
  | fuel+1=>MX.go K c fuel (m.step K c) (n+1):=by
 cases fuel<;>rfl
theorem Z5m {K:Dat→VX} {c:CodeX} {m:MX} {ws:List ActX} {a:ActX} (hs:m.acts=ws++[a]):m.step K c=match (blkAt (prcAt c a.proc) a.block).ins[a.at_.toNat]? with
  | some x=>(m.last fun a=>{ a with at_:=a.at_+1 }).ins K x
  | none=>m.fin c (blkAt (prcAt c a.proc) a.block).e:=by
 unfold MX.step;simp only [z29 hs];rfl
def ms0 (input:List UInt8):MS:=⟨[],.slice none 0 0,[],.slice none 0 0,[],.slice none 0 0,input,[],.slice none 0 0,⟨4,0,[]⟩,vNone,false,0⟩
theorem zul (e:Int) (H:PH):(⟨e,[],dat0,false,0⟩:OutX).Rep H [.int .i64 e,txt [],.int .i64 0,.int .i64 0,txt [],.slice none 0 0,.bool false,.int .i64 0]:=
 ⟨[.int .i64 0,.int .i64 0,txt [],.slice none 0 0],rfl,zfa (k:=0) (n:=0) (t:=[]) (by decide) (by decide) (by decide)⟩
theorem zso (c:CodeX) (cv:Value) (input:List UInt8) (steps:Int) (H:PH) (hc:SlR H c cv) (hst:InI steps) :
  Tri Tryz.prog zkq #[.agg #[cv],txt input,.int .i64 steps] H fun e H'=>PH.le H H'∧∃cs,e=.returned (.agg cs.toArray)∧(runX c input steps).Rep H' cs:=by
 obtain ⟨cb,cc,hcv⟩:=hc.sl
 subst hcv
 refine zig [.slice cb c.length cc,txt input,.int .i64 steps] (by kernel_rfl) (by kernel_rfl) ?_
 refine ⟨fun g=>?_,fun g=>?_⟩
 ·simp only [evs,evb] at g
  simp only [Bool.or_eq_true,zdt,gt_iff_lt] at g
  have:runX c input steps=⟨1,[],dat0,false,0⟩:=by unfold runX;rw [if_pos g]
  rw [this]
  exact ⟨PH.le_refl _,_,rfl,zul 1 _⟩
 simp only [evs,evb] at g
 simp only [Bool.or_eq_false_iff,zdf,gt_iff_lt] at g
 have hr0:runX c input steps=if z16 c≠0 then ⟨z16 c,[],dat0,false,0⟩ else endX (MX.go z0r c steps.toNat (MX.first c input) 0).1 (MX.go z0r c steps.toNat (MX.first c input) 0).2:=by
  unfold runX;rw [if_neg (by omega)]
 refine z05 [.int .i64 (z16 c)] z2e (z8h c _ H hc) rfl z01 fun H1 l1=>⟨fun g2=>?_,fun g2=>?_⟩
 ·simp only [evs,evb,ne_eq,decide_not,Bool.not_eq_true',zdf] at g2
  rw [if_pos g2] at hr0
  rw [hr0]
  exact ⟨l1,_,rfl,zul _ _⟩
 simp only [evs,evb,ne_eq,decide_not,Bool.not_eq_false',zdt] at g2
 rw [if_neg (fun hh=>hh g2)] at hr0
 have g:=zbx g2
 obtain ⟨N,hN⟩:∃N:Nat,steps=(N:Int):=⟨steps.toNat,by omega⟩
 rw [hN,Int.toNat_natCast] at hr0
 have hN6:N≤1000000:=by omega
 have hcH:=hc.le l1
 have h0:Held H1 H1 []:=Held.nil (PH.le_refl _)
 simp only [cns]
 refine z34 (vs:=[.slice none 0 0]) h0 (by simp only [List.map_cons,List.map_nil,evs,evb];rfl) fun hr H2 l2 h2=>?_
 simp only [cns]
 refine z34 (vs:=(ms0 input).cells (.slice cb c.length cc) hr) h2 (by simp only [List.map_cons,List.map_nil,evs,evb];rfl) fun mr H3 l3 h3=>?_
 simp only [cns]
 have h4:Held H1 H3 (machI (.slice cb c.length cc) mr hr (ms0 input)++[]):=by
  have:=(((h3.empty (α:=UInt8) 5).empty (α:=ActM) 90).empty (α:=CloM) 87).empty (α:=TR) 157
  exact this.perm (List.perm_append_comm (l₁:=[orow (α:=TR) 157 [] (.slice none 0 0),orow (α:=CloM) 87 [] (.slice none 0 0),orow (α:=ActM) 90 [] (.slice none 0 0),orow (α:=UInt8) 5 [] (.slice none 0 0)]) (l₂:=[bxM (.slice cb c.length cc) mr hr (ms0 input),bx hr 75 [.slice none 0 0]]))
 have f4:MFit (ms0 input):=⟨⟨(by decide:InI 4),(by decide:InI 0),(by decide:([]:List UInt8).length≤maxLen)⟩,zfh⟩
 have nilA:∀S:PH,SlR S ([]:List ActX) (.slice none 0 0):=fun S=>SlR.mk_iff.2 ⟨Nat.zero_le _,.inl ⟨rfl,rfl⟩⟩
 refine z02 z1h (ze1 (proc:=0) (kont:=false) (held:=[]) (hv:=.slice none 0 0) (acts:=[]) (asv:=.slice none 0 0) (h4.empty _) (nilA _) (by decide:InI 0) (by show (0:Nat)≤_;omega) (by show (0:Nat)≤_;omega)) ?_
 rintro e5 K5 ⟨S5,s5,l5,h5,rfl,hx5,eA,eav,ew,et,_⟩
 have hx0:(ms0 input).x=(⟨[],[],[],input,[],⟨4,0,[]⟩,vNone,false,0⟩:MX):=rfl
 rw [hx0] at hx5
 have hfirst:MX.first c input=s5.x.call c (MX.made (⟨[],[],[],input,[],⟨4,0,[]⟩,vNone,false,0⟩:MX) ⟨0,0,[],false,[]⟩).2 [] true:=by rw [hx5];rfl
 have hco0:CoreOk c 0 (⟨[],[],[],input,[],⟨4,0,[]⟩,vNone,false,0⟩:MX):=by
  refine ⟨⟨?_,?_,?_,?_,?_,?_⟩,Nat.le_refl _,Nat.le_refl _,Nat.le_refl _,?_⟩<;>intro t ht<;>cases ht
 obtain ⟨p0,l0,hc0,hp0,hh0⟩:=g.first
 obtain ⟨k1,k2⟩:=zaz hco0 (x:=⟨0,0,[],false,[]⟩) fun i=>⟨fun hk=>(by cases hk),fun _=>⟨⟨by show (0:Int)≤0;omega,by show (0:Int) < _;rw [hc0,zlc];omega⟩,by
  show (0:Int)=(prcAt c 0).holds
  rw [hc0]
  show (0:Int)=p0.holds
  exact hh0.symm⟩,Nat.zero_le _⟩
 rw [←hx5] at k1
 have hac5:s5.x.acts=[]:=by rw [hx5];rfl
 have a1:ActsOk c 1 s5.x:=⟨by rw [hac5];simp,fun a ha=>by rw [hac5] at ha;cases ha⟩
 generalize hkv:(MX.made (⟨[],[],[],input,[],⟨4,0,[]⟩,vNone,false,0⟩:MX) ⟨0,0,[],false,[]⟩).2=kv at *
 have fkv:VFit kv:=by rw [←hkv];exact ⟨(by decide:InI 8),(by decide:InI 0),(by decide:([]:List UInt8).length≤maxLen)⟩
 refine ⟨_,valVs kv,by rw [hx0,hkv];rfl,rfl,rfl,z01,?_⟩
 simp only [cns]
 refine z02 z13 (zak h5 (by unfold MFit;rw [ew,et];exact f4) (hcH.le l5) g k1 a1 (by omega) fkv (args:=[]) (argv:=.slice none 0 0) (SlR.mk_iff.2 ⟨Nat.zero_le _,.inl ⟨rfl,rfl⟩⟩) true (fun h=>by cases h)) ?_
 rintro e6 K6 ⟨S6,s6,l6,h6,f6,hx6,rfl⟩
 refine ⟨_,[],rfl,rfl,rfl,z01,?_⟩
 rw [←hfirst] at hx6
 have ok6:StepOk c 2 s6.x:=by rw [hx6];exact zvn g input
 simp only [List.append_nil]
 generalize hF:MX.first c input=F at *
 have l06:PH.le H1 S6:=PH.le_trans l5 l6
 refine ⟨fun vs K=>∃(S7:PH) (s7:MS),PH.le H1 S7∧Held S7 K (machI (.slice cb c.length cc) mr hr s7++[])∧MFit s7∧s7.x=(MX.go z0r c N F 0).1∧vs=[nI (MX.go z0r c N F 0).2]∧HeapOk s7.x.h∧s7.x.out.length≤16777214,?_,?_⟩
 rotate_left
 ·refine ⟨fun m vs K=>∃(k:Nat) (S7:PH) (s7:MS),k+m=N∧vs=[nI k]∧PH.le H1 S7∧Held S7 K (machI (.slice cb c.length cc) mr hr s7++[])∧MFit s7∧StepOk c (2+2 * k) s7.x∧MX.go z0r c N F 0=MX.go z0r c (N - k) s7.x k,⟨N,0,S6,s6,by omega,rfl,l06,h6,f6,ok6,by rw [hx6];rfl⟩,?_⟩
  rintro m vs K _ ⟨k,S7,s7,hkm,rfl,l7,h7,f7,ok7,hgo⟩
  simp only [cns]
  have hcore:=ok7.1
  have fin7:HeapOk s7.x.h∧s7.x.out.length≤16777214:=⟨hcore.heap,by have:=hcore.on;omega⟩
  refine ⟨fun vs K'=>K=K'∧vs=[.bool (decide (s7.e=0) && !s7.done)],?_,?_⟩
  rotate_left
  ·refine ⟨fun _=>by simp [Chk.holds,evs,evb],[.int .i64 s7.e],rfl,by simp only [evs,evb];exact z0w h7 rfl,fun g3=>?_,fun g3=>?_⟩
   ·simp only [evs,evb,zdt] at g3
    refine ⟨[.bool s7.done],rfl,by simp only [evs,evb];exact z0w h7 rfl,_,z00,rfl,?_⟩
    simp [evs,evb,g3]
   ·simp only [evs,evb,zdf] at g3
    exact ⟨_,z00,rfl,by simp [evs,evb,g3]⟩
  rintro vs K' _ ⟨rfl,rfl⟩
  simp only [cns]
  have hgs:=go_eq z0r c (N - k) s7.x k
  refine ⟨fun g3=>?_,fun g3=>?_⟩
  ·simp only [evs,evb] at g3
   simp only [zba,zdt,Bool.not_eq_true'] at g3
   have he0:s7.x.e=0:=g3.1
   have hd0:s7.x.done=false:=g3.2
   rw [if_neg (by rw [he0,hd0];simp)] at hgs
   refine ⟨fun g4=>?_,fun g4=>?_⟩
   ·have g4:k=N:=by
     simp only [evs,evb,zdt] at g4;omega
    subst g4
    rw [Nat.sub_self] at hgs hgo
    simp only at hgs
    refine ⟨fun _=>by simp [Chk.holds,evs,evb],?_⟩
    refine z5a (e:=93) h7 f7 (by simp only [evs,evb];rfl) (by simp only [evs,evb]) fun K8 h8 f8=>⟨_,(z4a (by decide)).trans z00,S7,_,l7,h8,f8,?_,?_,fin7.1,fin7.2⟩
    ·rw [hgo,hgs];rfl
    ·rw [hgo,hgs];rfl
   ·have g4:¬k=N:=by
     simp only [evs,evb,zdf] at g4;omega
    have hk1:N - k=(N - (k+1))+1:=by omega
    have hgs':MX.go z0r c (N - k) s7.x k=MX.go z0r c (N - (k+1)) (s7.x.step z0r c) (k+1):=by rw [hgs,hk1]
    have hro:=ok7.2 he0 hd0
    obtain ⟨ws,a,hA⟩:=zeh hro.last
    have hAl:s7.A.length≤2+2 * k:=by have:=hro.acts.an;simpa [MS.x] using this
    obtain ⟨ab,ac,hav⟩:=z8p h7
    obtain ⟨l',xa,hl',hws,hxa,hget,hlen⟩:=zew (show s7.A.map actX'=ws++[a] from hA)
    obtain ⟨x1,x2,x3,x4,x5,x6,x7,x8⟩:=zbi h7 hget
    have haok:=hro.acts.acts a (by rw [hA];simp)
    obtain ⟨hpm,hpg⟩:=z1n haok.proc.1 haok.proc.2
    have gp:=g.prc hpm
    obtain ⟨hbm,hbg⟩:=zha haok.blk.1 haok.blk.2
    have hd1:IntKind.i64.wrap ((s7.A.length:Int) - 1)=(ws.length:Int):=by rw [w64 (by omega) (by omega)];omega
    rw [hav] at x1 x3
    have e1:xa.1.proc=a.proc:=by rw [←hxa]
    have e2:xa.1.block=a.block:=by rw [←hxa]
    have e3:xa.1.at_=a.at_:=by rw [←hxa]
    have hcS:=hcH.le l7
    obtain ⟨y1,_,pcs,y2,y3⟩:=hcS.get hpg
    obtain ⟨bv,rfl,q1,q2,q3,q4⟩:=prc_iff.1 y2
    obtain ⟨bb,bc,rfl⟩:=q4.sl
    obtain ⟨z1,_,zcs,z2,z3⟩:=q4.get hbg
    obtain ⟨iv,es,rfl,i1,i2⟩:=blk_iff.1 z2
    obtain ⟨ib,ic,rfl⟩:=i1.sl
    have i2':=i2
    obtain ⟨eav,rfl,_,_,ea3,_⟩:=end_iff.1 i2
    obtain ⟨eb,ec,rfl⟩:=ea3.sl
    have hpj:((a.proc.toNat:Nat):Int)=a.proc:=Int.toNat_of_nonneg haok.proc.1
    have hbj:((a.block.toNat:Nat):Int)=a.block:=Int.toNat_of_nonneg haok.blk.1
    rw [hpj] at y3
    rw [hbj] at z3
    have hstep:=Z5m (K:=z0r) (c:=c) hA
    generalize hB:blkAt (prcAt c a.proc) a.block=B at *
    have hat:=haok.at_
    rw [hB] at hat
    have hinl:=(gp.ins B hbm).1
    have hl3:∀{S' K':PH} {s':MS} {J':List Itm},Held S' K' (machI (.slice cb c.length cc) mr hr s'++J')→s'.av=s7.av→rowAt K' (some ⟨mr,3,none⟩) [.slice ab s7.A.length ac]:=fun h' e2=>by rw [←hav,←e2];exact z0w h' rfl
    refine ⟨fun _=>by simp [Chk.holds,evs,evb],[.slice ab s7.A.length ac],rfl,by simp only [evs,evb];exact hl3 h7 rfl,[.slice ab s7.A.length ac],rfl,by simp only [evs,evb];exact hl3 h7 rfl,fun _=>?_,[.int .i64 a.proc],rfl,?_,fun _=>?_,[.slice bb (prcAt c a.proc).blocks.length bc],rfl,?_,[.int .i64 a.block],rfl,?_,fun _=>?_,[.slice ib B.ins.length ic,.int .i64 B.e.kind,.int .i64 B.e.reg,.slice eb B.e.args.length ec,.int .i64 B.e.to,.int .i64 B.e.next,.int .i64 B.e.els],rfl,?_,[.int .i64 a.at_],rfl,?_,fun g5=>?_,fun g5=>?_⟩
    ·simp only [Chk.holds,evs,evb,hd1];exact ⟨x1,by omega,by omega⟩
    ·simp only [evs,evb,hd1];rw [←e1];exact z0a x3 0 1
    ·simp only [Chk.holds,evs,evb];exact ⟨y1,by have:=haok.proc;omega,by have:=haok.proc;omega⟩
    ·simp only [evs,evb];exact z06 h7.sh (z0a y3 3 1)
    ·simp only [evs,evb,hd1];rw [←e2];exact z0a x3 3 1
    ·simp only [Chk.holds,evs,evb];exact ⟨z1,by have:=haok.blk;omega,by have:=haok.blk;omega⟩
    ·simp only [evs,evb];exact z06 h7.sh z3
    ·simp only [evs,evb,hd1];rw [←e3];exact z0a x3 4 1
    ·simp only [evs,evb,zdt] at g5
     obtain ⟨j,hj⟩:∃j:Nat,a.at_=(j:Int):=⟨a.at_.toNat,by omega⟩
     obtain ⟨x,hx⟩:∃x,B.ins[j]?=some x:=⟨_,zge (by omega)⟩
     have hxj:B.ins[a.at_.toNat]?=some x:=by rw [hj,Int.toNat_natCast];exact hx
     rw [hxj] at hstep
     simp only at hstep
     rw [z2w hA] at hstep
     obtain ⟨w1,_,xs,w2,w3⟩:=i1.get hx
     have w2':=w2
     obtain ⟨argsv,dv,rfl,_,_,ix3,_,_,_,ix7,_⟩:=ins_iff.1 w2
     obtain ⟨arb,arc,rfl⟩:=ix3.sl
     obtain ⟨dvb,dvc,rfl⟩:=ix7.sl
     have hwj:IntKind.i64.wrap (a.at_+1)=((j+1:Nat):Int):=by rw [hj,w64 (by omega) (by omega)];rfl
     have hwj2:IntKind.i64.wrap (((j+1:Nat):Int) - 1)=(j:Int):=by rw [w64 (by omega) (by omega)];omega
     refine ⟨[.int .i64 a.at_],rfl,?_,?_⟩
     ·simp only [evs,evb,hd1];rw [←e3];exact z0a x3 4 1
     simp only [cns]
     refine zlg (off:=4) (wv:=.int .i64 ((j+1:Nat):Int)) (a':={ xa.1 with at_:=((j+1:Nat):Int) }) h7 hget (by simp only [evs,evb,hd1];rw [hav]) (by simp only [evs,evb,hwj]) rfl (by omega) rfl (fun ces hce=>?_) fun K8 h8=>?_
     ·obtain ⟨rfl,r1,r2,r3,r4,r5⟩:=actM_iff.1 hce
      exact actM_iff.2 ⟨by simp only [evs,evb];rfl,r1,r2,r3,by show InI ((j+1:Nat):Int);unfold InI;omega,r5⟩
     obtain ⟨s8,hs8⟩:∃s8:MS,s8={ s7 with A:=s7.A.set ws.length ({ xa.1 with at_:=((j+1:Nat):Int) },xa.2) }:=⟨_,rfl⟩
     rw [←hs8] at h8
     have hlt:ws.length < s7.A.length:=by omega
     have hg8:s8.A[ws.length]?=some ({ xa.1 with at_:=((j+1:Nat):Int) },xa.2):=by rw [hs8];simp [hlt]
     have hx8:s8.x={ s7.x with acts:=ws++[{ a with at_:=a.at_+1 }] }:=by
      rw [hs8];unfold MS.x
      have:(s7.A.set ws.length ({ xa.1 with at_:=((j+1:Nat):Int) },xa.2)).map actX'=ws++[{ a with at_:=a.at_+1 }]:=by
       have hll:l'.length=ws.length:=by rw [←hws];simp
       rw [hl',←hll,List.set_append_right _ _ (Nat.le_refl _),Nat.sub_self,List.set_cons_zero,List.map_append,hws,←hxa]
       simp only [List.map_cons,List.map_nil,actX']
       rw [e3,hj];rfl
      simp only [this]
     obtain ⟨v1,v2,v3,_⟩:=zbi h8 hg8
     rw [show s8.av=.slice ab s7.A.length ac by rw [hs8];exact hav] at v3
     refine ⟨[.int .i64 ((j+1:Nat):Int)],rfl,?_,fun _=>?_,[txt x.op,.int .i64 x.to,.slice arb x.args.length arc,.int .i64 x.const.kind,.int .i64 x.const.int,txt x.const.text,.slice dvb x.const.list.length dvc,.int .i64 x.num],rfl,?_,?_⟩
     ·simp only [evs,evb,hd1];exact z0a v3 4 1
     ·simp only [Chk.holds,evs,evb,hwj2];exact ⟨w1,by omega,by omega⟩
     ·simp only [evs,evb,hwj2];exact z06 h8.sh w3
     simp only [cns]
     have hro8:RunOk c (2+2 * k) s8.x:=by
      rw [hx8]
      refine ⟨hro.core.same rfl rfl hro.core.on,⟨by have:=hro.acts.an;rw [hA] at this;simpa using this,fun b hb=>?_⟩,by simp,fun b hb=>?_⟩
      ·rcases List.mem_append.1 (show b∈ws++[_] from hb) with hb | hb
       ·exact hro.acts.acts b (by rw [hA];exact List.mem_append_left _ hb)
       ·rw [List.mem_singleton.1 hb]
        exact ⟨haok.proc,haok.regs,haok.clo0,haok.clo,haok.blk,by show 0≤a.at_+1;omega,by rw [hB];show a.at_+1≤((B.ins.length:Nat):Int);omega⟩
      ·have:b∈ws:=by simpa using hb
       exact hro.wait b (by rw [hA];simpa using this)
     have hxok:=(gp.ins B hbm).2 x (List.mem_of_getElem? hx)
     have hA8:s8.x.acts=ws++[{ a with at_:=a.at_+1 }]:=by rw [hx8]
     refine z02 zav (Z3n h8 (by rw [hs8];exact f7) g hro8 (by omega) hA8 (by rw [hx8];exact he0) (CsR.le (PH.le_refl _) w2') (z3w hxok) (zm2 g hxok)) ?_
     rintro e9 K9 ⟨S9,s9,l9,h9,f9,hx9,rfl⟩
     refine ⟨_,[],rfl,rfl,rfl,z01,?_⟩
     have hst9:s9.x=s7.x.step z0r c:=by rw [hx9,hx8,hstep]
     refine ⟨_,z00,m - 1,by omega,k+1,S9,s9,by omega,?_,PH.le_trans l7 l9,h9,f9,?_,?_⟩
     ·simp only [evs,evb,up1 (by omega:k < 4611686018427387904)]
     ·rw [hst9]
      have:=zrl (K:=z0r) g hro he0 hd0
      rw [show 2+2 * (k+1)=2+2 * k+2 from by omega];exact this
     ·rw [hgo,hgs',hst9]
    ·simp only [evs,evb,zdf] at g5
     have hxj:B.ins[a.at_.toNat]?=none:=List.getElem?_eq_none (by omega)
     rw [hxj] at hstep
     simp only at hstep
     simp only [cns]
     refine z02 zal (Z2d h7 f7 hcS g hro (by omega) hA i2' (z2n (gp.fin B hbm))) ?_
     rintro e9 K9 ⟨S9,s9,l9,h9,f9,hx9,rfl⟩
     refine ⟨_,[],rfl,rfl,rfl,z01,?_⟩
     have hst9:s9.x=s7.x.step z0r c:=by rw [hx9,hstep]
     refine ⟨_,z00,m - 1,by omega,k+1,S9,s9,by omega,?_,PH.le_trans l7 l9,h9,f9,?_,?_⟩
     ·simp only [evs,evb,up1 (by omega:k < 4611686018427387904)]
     ·rw [hst9]
      have:=zrl (K:=z0r) g hro he0 hd0
      rw [show 2+2 * (k+1)=2+2 * k+2 from by omega];exact this
     ·rw [hgo,hgs',hst9]
  ·simp only [evs,evb] at g3
   simp only [Bool.and_eq_false_iff,zdf,Bool.not_eq_false'] at g3
   rw [if_pos (show s7.x.e≠0∨s7.x.done=true from g3)] at hgs
   exact ⟨_,(z4a (by decide)).trans z00,S7,s7,l7,h7,f7,by rw [hgo,hgs],by rw [hgo,hgs];rfl,fin7.1,fin7.2⟩
 rintro vs K _ ⟨S7,s7,l7,h7,f7,hx7,rfl,hh7,ho7⟩
 generalize hG:MX.go z0r c N F 0=G at *
 obtain ⟨mE,nE⟩:=G
 simp only at hx7 hr0 ⊢
 simp only [cns]
 have r13:rowAt K (some ⟨mr,13,none⟩) [.int .i64 s7.e]:=z0w h7 rfl
 have r5:rowAt K (some ⟨mr,5,none⟩) [s7.ov]:=z0w h7 rfl
 have r1:rowAt K (some ⟨mr,1,none⟩) [pAt hr]:=z0w h7 rfl
 have r9:rowAt K (some ⟨mr,9,none⟩) [.int .i64 s7.t.kind,.int .i64 s7.t.int,txt s7.t.text]:=z0w h7 rfl
 have rO:SlR K s7.out s7.ov:=((h7.perm permO).row (zms)).slR h7.sh
 have rH:=Z2m h7
 obtain ⟨ob,oc,hov⟩:=zuq h7
 rw [hov] at r5 rO
 have hHK:PH.le H K:=PH.le_trans l1 (PH.le_trans l7 h7.sh)
 have hK:Held K K []:=Held.nil (PH.le_refl _)
 have eE:mE.e=s7.e:=by rw [←hx7];rfl
 have eO:mE.out=s7.out:=by rw [←hx7];rfl
 have eH:mE.h=hpX s7.L:=by rw [←hx7];rfl
 have eT:mE.told=s7.t:=by rw [←hx7];rfl
 have hOK:HeapOk (hpX s7.L):=hh7
 clear h7
 refine ⟨fun vs K'=>∃r,vs=[pAt r]∧Held K K' [bx r 41 [.int .i64 s7.e,txt s7.out,.int .i64 0,.int .i64 0,txt [],.slice none 0 0,.bool false,nI nE]],?_,?_⟩
 rotate_left
 ·refine ⟨fun _=>by simp [Chk.holds,evs,evb],[.int .i64 s7.e],rfl,by simp only [evs,evb];exact r13,[.slice ob s7.out.length oc],rfl,by simp only [evs,evb];exact r5,?_,?_⟩
  ·refine zcp ziv zej uByte (by kernel_rfl) rO (z6i (by simp only [evs,evb];exact r13)) ?_
   simp only [cns]
   refine z34 (vs:=[.int .i64 0,txt [],.int .i64 0,.int .i64 0,txt [],.slice none 0 0,.bool false,.int .i64 0]) hK (by simp only [List.map_cons,List.map_nil,evs,evb];rfl) fun r K8 l8 h8=>?_
   simp only [cns]
   refine z0j (off:=0) (vs:=[.int .i64 s7.e,txt s7.out,.int .i64 0,.int .i64 0,txt [],.slice none 0 0,.bool false,nI nE]) (by simp only [evs,evb]) h8 (by simp only [List.map_cons,List.map_nil,evs,evb];rfl) (by
    intro u hu
    simp only [List.mem_cons,List.not_mem_nil,or_false] at hu
    rcases hu with rfl | rfl | rfl | rfl | rfl | rfl | rfl | rfl<;>rfl) (by simp) fun K9 h9=>?_
   exact ⟨_,z00,r,rfl,h9⟩
  ·refine z34 (vs:=[.int .i64 0,txt [],.int .i64 0,.int .i64 0,txt [],.slice none 0 0,.bool false,.int .i64 0]) hK (by simp only [List.map_cons,List.map_nil,evs,evb];rfl) fun r K8 l8 h8=>?_
   simp only [cns]
   refine zcp ziv zej uByte (by kernel_rfl) (rO.le l8) (z6i (by simp only [evs,evb];exact z06 l8 r13)) ?_
   simp only [cns]
   refine z0j (off:=0) (vs:=[.int .i64 s7.e,txt s7.out,.int .i64 0,.int .i64 0,txt [],.slice none 0 0,.bool false,nI nE]) (by simp only [evs,evb]) h8 (by simp only [List.map_cons,List.map_nil,evs,evb];rfl) (by
    intro u hu
    simp only [List.mem_cons,List.not_mem_nil,or_false] at hu
    rcases hu with rfl | rfl | rfl | rfl | rfl | rfl | rfl | rfl<;>rfl) (by simp) fun K9 h9=>?_
   exact ⟨_,z00,r,rfl,h9⟩
 rintro vs K2 _ ⟨r,rfl,h8⟩
 simp only [cns]
 refine ⟨fun vs K'=>vs=[]∧∃(S8:PH) (dk dn:Int) (dt:List UInt8) (dv:Value),PH.le K S8∧Held S8 K' [bx r 41 [.int .i64 s7.e,txt s7.out,.int .i64 dk,.int .i64 dn,txt dt,dv,.bool (endX mE nE).whole,nI nE]]∧(endX mE nE).shown.Rep S8 [.int .i64 dk,.int .i64 dn,txt dt,dv],?_,fun _=>by simp [Chk.holds,evs,evb],[.int .i64 s7.e],rfl,by simp only [evs,evb];exact z06 h8.sh r13,fun g3=>?_,fun g3=>?_⟩
 rotate_left
 ·simp only [evs,evb,zdt] at g3
  refine ⟨[pAt hr],rfl,by simp only [evs,evb];exact z06 h8.sh r1,[.int .i64 s7.t.kind,.int .i64 s7.t.int,txt s7.t.text],rfl,by simp only [evs,evb];exact z06 h8.sh r9,?_⟩
  simp only [cns]
  have hw:(endX mE nE).whole=(tellV (hpX s7.L) s7.t).2:=by unfold endX;simp only;rw [if_pos (eE.trans g3),eH,eT]
  have hs:(endX mE nE).shown=(tellV (hpX s7.L) s7.t).1:=by unfold endX;simp only;rw [if_pos (eE.trans g3),eH,eT]
  rw [hw,hs]
  generalize hTV:tellV (hpX s7.L) s7.t=TV
  have hcall:=h8.pure (R:=fun e S'=>∃cs,e=.returned (.tuple #[.agg cs.toArray,.bool (tellV (hpX s7.L) s7.t).2])∧(tellV (hpX s7.L) s7.t).1.Rep S' cs) (Z2n (hpX s7.L) hr hOK s7.t f7.2 K rH)
  rw [hTV] at hcall
  refine z02 zb7 hcall ?_
  rintro e9 K9 ⟨S9,l9,h9,cs,rfl,hd⟩
  obtain ⟨d,okk⟩:=TV
  obtain ⟨sv,rfl,d1,d2,d3,d4⟩:=Dat.Rep_iff.1 hd
  obtain ⟨sb,sc,rfl⟩:=SlR.sl d4
  refine ⟨_,[.int .i64 d.kind,.int .i64 d.int,txt d.text,.slice sb d.list.length sc,.bool okk],rfl,rfl,rfl,z01,fun _=>by simp [Chk.holds,evs,evb],?_⟩
  simp only [cns]
  refine z0j (off:=2) (vs:=[.int .i64 d.kind,.int .i64 d.int,txt d.text,.slice sb d.list.length sc]) (by simp only [evs,evb];rfl) h9 (by simp only [List.map_cons,List.map_nil,evs,evb]) (by
    intro u hu
    simp only [List.mem_cons,List.not_mem_nil,or_false] at hu
    rcases hu with rfl | rfl | rfl | rfl<;>rfl) (by simp) fun K10 h10=>?_
  refine z0j (off:=6) (vs:=[.bool okk]) (by simp only [evs,evb];rfl) h10 (by simp only [List.map_cons,List.map_nil,evs,evb]) (by
    intro u hu
    rw [List.mem_singleton.1 hu];rfl) (by simp) fun K11 h11=>?_
  exact ⟨_,z00,rfl,S9,d.kind,d.int,d.text,_,l9,h11,hd⟩
 ·simp only [evs,evb,zdf] at g3
  have hw:(endX mE nE).whole=false:=by unfold endX;simp only;rw [if_neg (by rw [eE];exact g3)]
  have hs:(endX mE nE).shown=dat0:=by unfold endX;simp only;rw [if_neg (by rw [eE];exact g3)]
  rw [hw,hs]
  exact ⟨_,z00,rfl,K,0,0,[],.slice none 0 0,PH.le_refl _,h8,zfa (k:=0) (n:=0) (t:=[]) (by decide) (by decide) (by decide)⟩
 rintro vs K3 _ ⟨rfl,S8,dk,dn,dt,dv,l8,h9,hd⟩
 obtain ⟨dvv,e1,d1,d2,d3,d4⟩:=Dat.Rep_iff.1 hd
 obtain ⟨sb,sc,hdv⟩:=SlR.sl d4
 have hdv':dv=.slice sb (endX mE nE).shown.list.length sc:=by
  have:dv=dvv:=by simpa using congrArg (fun l:List Value=>l.getD 3 (.bool false)) e1
  rw [this,hdv]
 simp only [List.append_nil]
 refine z0n (off:=0) [.int .i64 s7.e,txt s7.out,.int .i64 dk,.int .i64 dn,txt dt,dv,.bool (endX mE nE).whole,nI nE] (by simp only [evs,evb]) h9 (zms) rfl (by rw [hdv'];rfl) ?_
 simp only [cns]
 refine ⟨PH.le_trans hHK (PH.le_trans l8 h9.sh),_,rfl,?_⟩
 rw [hN,hr0]
 refine ⟨[.int .i64 dk,.int .i64 dn,txt dt,dv],?_,Dat.Rep.le h9.sh _ hd⟩
 have e1:(endX mE nE).err=s7.e:=eE
 have e2:(endX mE nE).out=s7.out:=eO
 rw [e1,e2]
 rfl
theorem zwe (o q:OutX) (os qs:List Value) (H:PH) (ho:o.Rep H os) (hq:q.Rep H qs) (hx:o.err=q.err∧o.out=q.out∧o.whole=q.whole∧o.shown=q.shown):Gives Tryz.prog zht [.agg os.toArray,.agg qs.toArray] H (.bool true):=by
 obtain ⟨ds,rfl,hd⟩:=ho
 obtain ⟨es,rfl,he⟩:=hq
 have hd':=hd
 have he':=he
 obtain ⟨sv,rfl,_,_,_,hs⟩:=Dat.Rep_iff.1 hd
 obtain ⟨sw,rfl,_,_,_,hw⟩:=Dat.Rep_iff.1 he
 obtain ⟨b1,c1,rfl⟩:=hs.sl
 obtain ⟨b2,c2,rfl⟩:=hw.sl
 obtain ⟨h1,h2,h3,h4⟩:=hx
 refine zf4 [.int .i64 o.err,txt o.out,.int .i64 o.shown.kind,.int .i64 o.shown.int,txt o.shown.text,.slice b1 o.shown.list.length c1,.bool o.whole,nI o.steps,.int .i64 q.err,txt q.out,.int .i64 q.shown.kind,.int .i64 q.shown.int,txt q.shown.text,.slice b2 q.shown.list.length c2,.bool q.whole,nI q.steps] (by kernel_rfl) (by kernel_rfl) ?_
 refine ⟨fun vs K=>vs=[.bool true]∧PH.le H K,?_,fun g=>?_,fun g=>?_⟩
 ·rintro vs K _ ⟨rfl,l⟩;exact ⟨rfl,l⟩
 ·refine z05 [.bool (decide (o.shown=q.shown))] z49 (zqw o.shown q.shown _ _ H hd' he') rfl z01 fun H1 l1=>⟨_,z00,?_,l1⟩
  simp [evs,evb,h4]
 ·exfalso
  simp only [evs,evb,z03,h1,h2,h3] at g
  simp at g
theorem zqz:Tryz.prog.underlying 22=some (.slice 30):=by kernel_rfl
theorem zrz:ElemOk Tryz.prog 30 4 48=true:=by kernel_rfl
theorem Z12 {K:Dat→VX} {c:CodeX} {fuel:Nat} {m:MX} {n:Nat} (h:m.e≠0∨m.done=true):MX.go K c fuel m n=(m,n):=by rw [go_eq,if_pos h]
theorem Z2i {m m':MX} (h:TermX m m') (n n':Nat):(endX m n).err=(endX m' n').err∧(endX m n).out=(endX m' n').out∧(endX m n).whole=(endX m' n').whole∧(endX m n).shown=(endX m' n').shown:=by
 obtain ⟨h1,h2,h3⟩:=h
 refine ⟨h1,h2,?_,?_⟩
 ·unfold endX
  simp only
  rw [←h1]
  split
  ·rename_i he
   obtain ⟨e1,e2⟩:=h3 he
   rw [e1,e2]
  ·rfl
 ·unfold endX
  simp only
  rw [←h1]
  split
  ·rename_i he
   obtain ⟨e1,e2⟩:=h3 he
   rw [e1,e2]
  ·rfl
theorem ztm (K:Dat→VX) (c:CodeX):∀(fuel:Nat) (m:MX) (n:Nat),(MX.go K c fuel m n).2≤n+fuel
 | 0,m,n=>by rw [go_eq];split<;>exact Nat.le_refl _
 | fuel+1,m,n=>by
  rw [go_eq]
  split
  ·show n≤_;omega
  ·have:=ztm K c fuel (m.step K c) (n+1)
   simp only;omega
theorem Z1k (c:CodeX) (input:List UInt8):(runX c input 1000).steps≤1000:=by
 unfold runX
 rw [if_neg (by omega)]
 split
 ·exact Nat.zero_le _
 ·have:=ztm z0r c 1000 (MX.first c input) 0
  show (MX.go z0r c (1000:Int).toNat (MX.first c input) 0).2≤1000
  exact Nat.le_trans this (by omega)
section
variable {c c':CodeX} {Q:PlQ} {p:PrcX} {l:List Int} {all:Int}
theorem zto (ok:PlaceOk p l all) {r:Int} (h:0≤r∧r < p.regs):0≤z07 p l r∧z07 p l r < p.params+all:=by
 obtain ⟨_,g1,g2⟩:=ok.get h.1 h.2
 have:=ok.pars
 unfold z07;omega
theorem ze5 (ok:PlaceOk p l all) {rs:List Int} (h:z0u p rs=true):z0u (z15 p l all) (rs.map (z07 p l))=true:=by
 rw [regsOk_iff] at h ⊢
 intro r hr
 obtain ⟨q,hq,rfl⟩:=List.mem_map.1 hr
 exact zto ok (h q hq)
theorem zik (hm:MovedC c c' Q) (j:Int):(prcAt c' j).holds=(prcAt c j).holds:=by
 cases hQ:Q j with
 | none=>rw [hm.none_ _ hQ]
 | some x=>rw [hm.some_ _ _ hQ];rfl
theorem Z35 (hm:MovedC c c' Q) (hl:c'.length=c.length) {x:InsX} (h:insOk c p x=true):insOk c' p x=true:=by
 unfold insOk at h ⊢
 rw [hl,zik hm];exact h
theorem zzz (hm:MovedC c c' Q) (hl:c'.length=c.length) (ok:PlaceOk p l all) {x:InsX} (h:insOk c p x=true):insOk c' (z15 p l all) (z17 p l x)=true:=by
 unfold insOk at h ⊢
 have e1:(z17 p l x).op=x.op:=rfl
 have e2:(z17 p l x).num=x.num:=rfl
 have e3:(z17 p l x).const=x.const:=rfl
 have e4:(z17 p l x).args.length=x.args.length:=by show (x.args.map _).length=_;rw [List.length_map]
 have e5:(z15 p l all).holds=p.holds:=rfl
 rw [e1,e2,e3,e4,e5,hl,zik hm]
 split at h
 ·cases h
 rename_i h0
 simp only [Bool.or_eq_true,zba,Bool.not_eq_true',zdf,not_or,not_and,Bool.not_eq_false] at h0
 have ha:=ze5 (all:=all) ok h0.1
 have hcond:(!z0u (z15 p l all) (z17 p l x).args || (!z0u (z15 p l all) [(z17 p l x).to] && !decide (x.op=tieB)))=false:=by
  have ha':z0u (z15 p l all) (z17 p l x).args=true:=ha
  rw [ha']
  by_cases hop:x.op=tieB
  ·rw [decide_eq_true hop];simp
  ·have ht:z0u p [x.to]=true:=by
    cases hr:z0u p [x.to] with
    | true=>rfl
    | false=>exact absurd (by simpa using h0.2 hr) hop
   have ht':=ze5 (all:=all) ok ht
   have e6:(z17 p l x).to=z07 p l x.to:=by show (if x.op=tieB then _ else _)=_;rw [if_neg hop]
   rw [e6]
   have:z0u (z15 p l all) [z07 p l x.to]=true:=ht'
   rw [this];simp
 rw [hcond]
 simp only [Bool.false_eq_true,if_false]
 by_cases hop:x.op=tieB
 ·have e6:(z17 p l x).to=x.to:=by show (if x.op=tieB then _ else _)=_;rw [if_pos hop]
  rw [e6];exact h
 ·split at h
  ·rename_i g;rw [if_pos g];exact h
  split at h
  ·rename_i g1 g;rw [if_neg g1,if_pos g];exact h
  split at h
  ·rename_i g1 g2 g;rw [if_neg g1,if_neg g2,if_pos g];exact h
  split at h
  ·rename_i g1 g2 g3 g;rw [if_neg g1,if_neg g2,if_neg g3,if_pos g];exact h
  rename_i g1 g2 g3 g4
  rw [if_neg g1,if_neg g2,if_neg g3,if_neg g4,if_neg hop];exact h
theorem Z0q (ok:PlaceOk p l all) {e:EndX} (h:finOk p e=true):finOk (z15 p l all) (z0t p l e)=true:=by
 have gf:=z2n h
 have hlen:(z15 p l all).blocks.length=p.blocks.length+1:=by
  show (z3j p l::p.blocks.map (z5v p l)).length=_;simp
 have hargs:z0u p e.args=true:=regsOk_iff.2 gf.args
 have ha:=ze5 (all:=all) ok hargs
 have ha':z0u (z15 p l all) (z0t p l e).args=true:=ha
 have hal:(z0t p l e).args.length=e.args.length:=by show (e.args.map _).length=_;rw [List.length_map]
 have hemp:(z0t p l e).args.isEmpty=e.args.isEmpty:=by show (e.args.map _).isEmpty=_;cases e.args<;>rfl
 have hone:∀{r:Int},z0u p [r]=true→z0u (z15 p l all) [z07 p l r]=true:=fun hr=>ze5 (all:=all) ok hr
 have hreg:e.kind≠0→(z0t p l e).reg=z07 p l e.reg:=fun hk=>by show (if e.kind=0 then _ else _)=_;rw [if_neg hk]
 have hreg0:e.kind=0→(z0t p l e).reg=e.reg:=fun hk=>by show (if e.kind=0 then _ else _)=_;rw [if_pos hk]
 have hto:e.kind=4∨e.kind=6→(z0t p l e).to=z07 p l e.to:=fun hk=>by
  have:e.calls=true:=by unfold EndX.calls;simpa using hk
  show (if e.calls then _ else _)=_;rw [if_pos this]
 have hto0:¬(e.kind=4∨e.kind=6)→(z0t p l e).to=e.to:=fun hk=>by
  have:e.calls=false:=by unfold EndX.calls;simpa using hk
  show (if e.calls then _ else _)=_;rw [this];rfl
 have hels:e.kind≠1→(z0t p l e).els=e.els:=fun hk=>by show (if e.kind=1 then _ else _)=_;rw [if_neg hk]
 have hels1:e.kind=1→(z0t p l e).els=e.els+1:=fun hk=>by show (if e.kind=1 then _ else _)=_;rw [if_pos hk]
 have hnext:(e.kind=0∨e.kind=1∨e.kind=4∨e.kind=6)→(z0t p l e).next=e.next+1:=fun hk=>by
  show (if (e.leads p.blocks.length).isEmpty then e.next else e.next+1)=_
  have h0:=gf.next hk
  have hne:e.leads p.blocks.length≠[]:=by
   refine List.ne_nil_of_mem (a:=e.next) (List.mem_filter.2 ⟨?_,by simpa using h0⟩)
   unfold EndX.ways;rw [if_pos hk];simp
  have:(e.leads p.blocks.length).isEmpty=false:=by
   cases hh:(e.leads p.blocks.length).isEmpty with
   | false=>rfl
   | true=>exact absurd (List.isEmpty_iff.1 hh) hne
  rw [this];rfl
 have hnext0:¬(e.kind=0∨e.kind=1∨e.kind=4∨e.kind=6)→(z0t p l e).next=e.next:=fun hk=>by
  show (if (e.leads p.blocks.length).isEmpty then e.next else e.next+1)=_
  have:e.leads p.blocks.length=[]:=by
   unfold EndX.leads EndX.ways
   rw [if_neg hk,if_neg (by omega)];rfl
  rw [this];rfl
 have hkind:(z0t p l e).kind=e.kind:=rfl
 unfold finOk at h ⊢
 simp only [hkind,hal,hemp,ha',hlen] at h ⊢
 by_cases k0:e.kind=0
 ·rw [if_pos k0] at h ⊢
  simp only [zba,zdt] at h ⊢
  rw [hreg0 k0,hto0 (by omega),hels (by omega),hnext (by omega)]
  have:=h.1.1.1.1
  exact ⟨⟨⟨⟨⟨by omega,by omega⟩,h.1.1.1.2⟩,h.1.1.2⟩,h.1.2⟩,h.2⟩
 rw [if_neg k0] at h ⊢
 by_cases k1:e.kind=1
 ·rw [if_pos k1] at h ⊢
  simp only [zba,zdt] at h ⊢
  rw [hreg k0,hto0 (by omega),hels1 k1,hnext (by omega)]
  have h1:=h.1.1.1.1
  have h2:=h.1.1.1.2
  exact ⟨⟨⟨⟨⟨by omega,by omega⟩,⟨by omega,by omega⟩⟩,h.1.1.2⟩,hone h.1.2⟩,h.2⟩
 rw [if_neg k1] at h ⊢
 by_cases k2:e.kind=2∨e.kind=5
 ·rw [if_pos k2] at h ⊢
  simp only [zba,zdt] at h ⊢
  rw [hreg k0,hto0 (by omega),hels (by omega),hnext0 (by omega)]
  exact ⟨⟨⟨⟨hone h.1.1.1.1,h.1.1.1.2⟩,h.1.1.2⟩,h.1.2⟩,h.2⟩
 rw [if_neg k2] at h ⊢
 by_cases k3:e.kind=3
 ·rw [if_pos k3] at h ⊢
  simp only [zba,zdt] at h ⊢
  rw [hreg k0,hto0 (by omega),hels (by omega),hnext0 (by omega)]
  exact ⟨⟨⟨⟨hone h.1.1.1.1,⟨trivial,h.1.1.1.2.2⟩⟩,h.1.1.2⟩,h.1.2⟩,h.2⟩
 rw [if_neg k3] at h ⊢
 by_cases k4:e.kind=4
 ·rw [if_pos k4] at h ⊢
  simp only [zba,zdt] at h ⊢
  rw [hreg k0,hto (by omega),hels (by omega),hnext (by omega)]
  have h1:=h.1.2
  exact ⟨⟨⟨⟨hone h.1.1.1.1,⟨trivial,h.1.1.1.2.2⟩⟩,hone h.1.1.2⟩,⟨by omega,by omega⟩⟩,h.2⟩
 rw [if_neg k4] at h ⊢
 by_cases k6:e.kind=6
 ·rw [if_pos k6] at h ⊢
  simp only [zba,zdt] at h ⊢
  rw [hreg k0,hto (by omega),hels (by omega),hnext (by omega)]
  have h1:=h.1.2
  exact ⟨⟨⟨⟨hone h.1.1.1.1,h.1.1.1.2⟩,hone h.1.1.2⟩,⟨by omega,by omega⟩⟩,h.2⟩
 rw [if_neg k6] at h
 cases h
theorem Z0f (hm:MovedC c c' Q) (hl:c'.length=c.length) (ok:PlaceOk p l all) (h:prcOk c p=true):prcOk c' (z15 p l all)=true:=by
 have hp:=ok.pars
 have hpos:=ok.pos
 unfold prcOk at h ⊢
 simp only [zba,zdt,Bool.not_eq_true',List.all_eq_true,List.isEmpty_eq_false_iff] at h ⊢
 obtain ⟨⟨⟨⟨⟨⟨h1,h2⟩,h3⟩,h4⟩,h5⟩,h6⟩,h7⟩:=h
 refine ⟨⟨⟨⟨⟨⟨h1,h2⟩,h3⟩,h4⟩,by show p.params≤p.params+all;omega⟩,by show z3j p l::_≠[];simp⟩,fun b hb=>?_⟩
 have hlen:(z15 p l all).blocks.length=p.blocks.length+1:=by
  show (z3j p l::p.blocks.map (z5v p l)).length=_;simp
 rcases List.mem_cons.1 (show b∈z3j p l::p.blocks.map (z5v p l) from hb) with rfl | hb
 ·refine ⟨fun x hx=>?_,?_⟩
  ·obtain ⟨i,hi,rfl⟩:=List.mem_map.1 (show x∈(liveP p).map (z2p p l) from hx)
   obtain ⟨⟨i0,i1⟩,_⟩:=(z99 hp.1).1 hi
   have hpi:=zto ok (r:=i) ⟨i0,by omega⟩
   unfold insOk
   have r1:z0u (z15 p l all) (z2p p l i).args=true:=by
    rw [regsOk_iff]
    intro r hr
    have:r=i:=by simpa [z2p] using hr
    subst this
    show 0≤r∧r < p.params+all
    omega
   have r2:z0u (z15 p l all) [(z2p p l i).to]=true:=by
    rw [regsOk_iff]
    intro r hr
    have:r=z07 p l i:=by simpa [z2p] using hr
    subst this
    exact hpi
   rw [r1,r2]
   simp only [Bool.not_true,Bool.false_and,Bool.or_self,Bool.false_eq_true,if_false]
   have o1:(z2p p l i).op=movB:=rfl
   rw [o1,if_neg (by decide),if_pos rfl]
   have:z3v (z2p p l i).const=true:=isDat0_iff.2 rfl
   rw [this]
   rfl
  ·have e:(z3j p l).e=⟨0,0,[],0,1,0⟩:=rfl
   rw [e]
   unfold finOk
   have hb0:=List.length_pos_iff.2 h6
   simp only [hlen]
   simp
   omega
 ·obtain ⟨q,hq,rfl⟩:=List.mem_map.1 hb
  obtain ⟨hi,hf⟩:=h7 q hq
  refine ⟨fun x hx=>?_,Z0q ok hf⟩
  obtain ⟨z,hz,rfl⟩:=List.mem_map.1 (show x∈q.ins.map (z17 p l) from hx)
  exact zzz hm hl ok (hi z hz)
theorem zwt (hc:z16 c=0) (hm:MovedC c c' Q) (hl:c'.length=c.length):z16 c'=0∨z16 c'=151:=by
 have g:=zbx hc
 cases ht:z1z c' with
 | true=>exact .inr (ze7 ht)
 | false=>
  refine .inl ?_
  obtain ⟨p0,l0,hc0,hp0,hh0⟩:=g.first
  obtain ⟨q0,m0,hq0⟩:∃q m,c'=q::m:=by
   cases c' with
   | nil=>rw [hc0] at hl;simp at hl
   | cons q m=>exact ⟨q,m,rfl⟩
  have hq:prcAt c' 0=q0:=by rw [hq0];rfl
  have hp:prcAt c 0=p0:=by rw [hc0];rfl
  refine zq2 ht hq0 ?_ ?_ fun q hqm=>?_
  ·rw [←hq,←ze3 hm,hp,hp0]
  ·rw [←hq,zik hm,hp,hh0]
  ·obtain ⟨i,hi⟩:=List.getElem?_of_mem hqm
   have hil:=(List.getElem?_eq_some_iff.1 hi).1
   have hqi:prcAt c' (i:Int)=q:=by
    unfold prcAt
    rw [Int.toNat_natCast,zgd,hi];rfl
   obtain ⟨hpm,_⟩:=z1n (c:=c) (i:=(i:Int)) (by omega) (by omega)
   have hpo:=g.prcs _ hpm
   cases hQ:Q (i:Int) with
   | none=>
    rw [hm.none_ _ hQ] at hqi
    rw [←hqi]
    unfold prcOk at hpo ⊢
    simp only [zba,List.all_eq_true] at hpo ⊢
    exact ⟨hpo.1,fun b hb=>⟨fun x hx=>Z35 hm hl ((hpo.2 b hb).1 x hx),(hpo.2 b hb).2⟩⟩
   | some x=>
    rw [hm.some_ _ _ hQ] at hqi
    rw [←hqi]
    exact Z0f hm hl (hm.ok _ _ hQ) hpo
theorem Z01 (hc:z16 c=0) (hc2:z16 c'=0) (hm:MovedC c c' Q) (input:List UInt8) (he:(runX c input 1000).err≠93) (hs:(runX c input 1000).steps≤1000) :
  let a:=runX c input 1000
  let b:=runX c' input (9 * (a.steps:Int)+9)
  a.err=b.err∧a.out=b.out∧a.whole=b.whole∧a.shown=b.shown:=by
 have ha:runX c input 1000=endX (MX.go z0r c 1000 (MX.first c input) 0).1 (MX.go z0r c 1000 (MX.first c input) 0).2:=by
  unfold runX
  rw [if_neg (by omega),if_neg (fun h=>h hc)];rfl
 have hb2:∀k:Nat,k≤1000→runX c' input (9 * (k:Int)+9)=endX (MX.go z0r c' (9 * k+9) (MX.first c' input) 0).1 (MX.go z0r c' (9 * k+9) (MX.first c' input) 0).2:=fun k hk=>by
  unfold runX
  rw [if_neg (by omega),if_neg (fun h=>h hc2)]
  rw [show (9 * (k:Int)+9).toNat=9 * k+9 from by omega]
 have hbb:=hb2 _ hs
 simp only
 rw [hbb]
 rw [ha] at he ⊢
 have hst:(endX (MX.go z0r c 1000 (MX.first c input) 0).1 (MX.go z0r c 1000 (MX.first c input) 0).2).steps=(MX.go z0r c 1000 (MX.first c input) 0).2:=rfl
 rw [hst]
 refine Z2i ?_ _ _
 have g:=zbx hc
 rcases zw1 hm g input with h | h
 ·rw [Z12 h.1,Z12 h.2.1];exact h.2.2
 ·exact Z30 hm g 1000 _ _ 0 0 _ h he (by omega)
end
structure PlFit (p:PrcX) (l:List Int) (all:Int):Prop where
 ok:PlaceOk p l all
 few:all≤1000000
 regs:p.regs≤2000
theorem PlFit.step {p:PrcX} {l:List Int} {all:Int} (h:PlFit p l all) {r:Int} (h0:0≤r) (h1:r < p.regs):∃j:Nat,r=(j:Int)∧l[j]?=some (l.getD r.toNat 0)∧IntKind.i64.wrap (p.params+l.getD r.toNat 0)=z07 p l r∧InI (z07 p l r):=by
 obtain ⟨g1,g2,g3⟩:=h.ok.get h0 h1
 have:=h.ok.pars
 have:=h.few
 refine ⟨r.toNat,by omega,g1,?_,?_⟩
 ·unfold z07;exact w64 (by omega) (by omega)
 ·unfold z07 InI;omega
theorem zlh (p:PrcX) (l:List Int) (all:Int) (hf:PlFit p l all) (rs:List Int) (rv lv:Value) (S:PH) (hr:SlR S rs rv) (hl:SlR S l lv) (hin:∀r∈rs,0≤r∧r < p.regs) (hfew:rs.length≤1000000) :
  Tri Tryz.prog zgk #[rv,lv,.int .i64 p.params] S fun x S'=>PH.le S S'∧∃v,x=.returned v∧SlR S' (rs.map (z07 p l)) v:=by
 obtain ⟨rb,rc,rfl⟩:=hr.sl
 obtain ⟨lb,lc,rfl⟩:=hl.sl
 have hll:=hf.ok.len
 refine zdw [.slice rb rs.length rc,.slice lb l.length lc,.int .i64 p.params] (by kernel_rfl) (by kernel_rfl) ?_
 refine z1p (α:=Int) (b:=8) z0q z0i (Held.nil (PH.le_refl S)) z01 fun v3 K3 h3 _ _=>?_
 simp only [cns]
 refine ⟨fun n vs K=>∃(k:Nat) (u:Value) (S1:PH),k+n=rs.length∧vs=[u,nI k]∧PH.le S S1∧Held S1 K [orow 3 ((rs.take k).map (z07 p l)) u],⟨rs.length,0,v3,S,by omega,rfl,PH.le_refl _,h3⟩,?_⟩
 rintro n vs K _ ⟨k,u,S1,hkn,rfl,ls,h1⟩
 simp only [cns]
 refine ⟨fun g=>?_,fun g=>?_⟩
 ·simp only [evs,evb,zdt] at g
  obtain ⟨r,hr1⟩:∃r,rs[k]?=some r:=⟨_,zge (by omega)⟩
  have hri:=hin r (List.mem_of_getElem? hr1)
  obtain ⟨j,rfl,hlj,hw,hi⟩:=hf.step hri.1 hri.2
  obtain ⟨x1,_,cs,x2,x3⟩:=hr.get hr1
  obtain ⟨rfl,_⟩:=csIK x2
  obtain ⟨y1,_,ycs,y2,y3⟩:=hl.get hlj
  obtain ⟨rfl,_⟩:=csIK y2
  have lK:=PH.le_trans ls h1.sh
  refine ⟨fun _=>?_,[.int .i64 (j:Int)],rfl,by simp only [evs,evb];exact z06 lK x3,fun _=>?_,[.int .i64 (l.getD (j:Int).toNat 0)],rfl,by simp only [evs,evb];exact z06 lK y3,?_⟩
  ·simp only [Chk.holds,evs,evb];exact ⟨x1,by omega,by omega⟩
  ·simp only [Chk.holds,evs,evb];exact ⟨y1,by omega,by omega⟩
  simp only [cns]
  refine z0m (b:=8) (more:=[z07 p l (j:Int)]) [.int .i64 (z07 p l (j:Int))] z0q z0i rfl (by decide) (by decide) h1 (by rw [←hw];kernel_rfl) (.cons (z0o hi) .nil) z01 (fun w=>by kernel_rfl) (fun w=>by kernel_rfl)
   (by simp only [maxLen,List.length_map,List.length_take,zlc,List.length_nil];omega) (by simp only [List.length_map,List.length_take,zlc,List.length_nil];omega) fun w v7 S7 K7 l7 h7=>⟨z01,?_⟩
  refine ⟨_,z00,n - 1,by omega,k+1,v7,S7,by omega,?_,PH.le_trans ls l7,?_⟩
  ·simp only [evs,evb,up1 (by omega:k < 4611686018427387904)]
  ·rw [List.take_add_one,hr1,List.map_append];exact h7
 ·simp only [evs,evb,zdf] at g
  rw [List.take_of_length_le (by omega)] at h1
  obtain ⟨S2,s2,l2,h2⟩:=h1.freeze
  exact ⟨PH.le_trans ls (PH.le_trans l2 h2.sh),u,rfl,s2.le h2.sh⟩
noncomputable def zc0 (p:PrcX) (k:Nat):List Int:=((List.range k).map fun i:Nat=>(i:Int)).filter fun i=>decide (i∈liveL p 0 0)
theorem zny (p:PrcX) (k:Nat):zc0 p (k+1)=zc0 p k++if (k:Int)∈liveL p 0 0 then [(k:Int)] else []:=by
 unfold zc0
 rw [List.range_succ,List.map_append,List.filter_append]
 congr 1
 by_cases h:(k:Int)∈liveL p 0 0<;>simp [h]
theorem zqj (p:PrcX) (k:Nat):(zc0 p k).length≤k:=by
 unfold zc0
 refine Nat.le_trans (List.length_filter_le _ _) ?_
 simp
set_option maxHeartbeats 4000000 in
theorem zwr (c:CodeX) (p:PrcX) (l:List Int) (all:Int) (hc:GoodC c) (hf:PlFit p l all) (hg:GoodP c p) (hp:p.Fit) (bv lv:Value) (S:PH) (hbv:SlR S p.blocks bv) (hl:SlR S l lv) :
  Tri Tryz.prog zhr #[.agg (prcVs p bv).toArray,lv,.int .i64 all] S fun x S'=>PH.le S S'∧∃v,x=.returned (.agg (prcVs (z15 p l all) v).toArray)∧SlR S' (z15 p l all).blocks v:=by
 obtain ⟨bb,bc,rfl⟩:=hbv.sl
 obtain ⟨lb,lc,rfl⟩:=hl.sl
 have hblk:=hg.blocks
 have hpar:=hg.params
 have hregs:=hg.regs
 have hfew:=hf.few
 have hpos:=hf.ok.pos
 have hll:=hf.ok.len
 refine zfj (prcVs p (.slice bb p.blocks.length bc)++[.slice lb l.length lc,.int .i64 all]) (by kernel_rfl) (by kernel_rfl) ?_
 simp only [prcVs,List.cons_append,List.nil_append]
 refine z02 z83 (zpz p (.slice bb p.blocks.length bc) S hbv hp.regs) ?_
 rintro x K1 ⟨l1,v1,rfl,s1⟩
 obtain ⟨b1,c1,rfl⟩:=s1.sl
 refine ⟨_,[.slice b1 (readL p).length c1],rfl,rfl,rfl,z01,?_⟩
 simp only [cns]
 refine z02 z7s (zph p (readL p) (.slice bb p.blocks.length bc) (.slice b1 (readL p).length c1) K1 (hbv.le l1) s1 0 0 hblk.1 (by omega) hp (by have:=zmj hp;omega)) ?_
 rintro x K2 ⟨l2,v2,rfl,s2⟩
 have s2:SlR K2 (liveL p 0 0) v2:=s2
 obtain ⟨b2,c2,rfl⟩:=s2.sl
 refine ⟨_,[.slice b2 (liveL p 0 0).length c2],rfl,rfl,rfl,z01,?_⟩
 simp only [cns]
 have lS2:=PH.le_trans l1 l2
 refine ⟨fun n vs K=>∃(k:Nat) (u:Value) (S':PH),vs=[nI k,u,.int .i64 0,.int .i64 0,.slice none 0 0,.int .i64 0,.int .i64 1,.int .i64 0]∧(k:Int)+n=p.params∧PH.le K2 S'∧Held S' K [orow 57 ((zc0 p k).map (z2p p l)) u],
  ⟨p.params.toNat,0,.slice none 0 0,K2,rfl,by omega,PH.le_refl _,(Held.nil (PH.le_refl K2)).empty (α:=InsX) 57⟩,?_⟩
 rintro n vs K _ ⟨k,u,S3,rfl,hkn,l3,h3⟩
 simp only [cns]
 have lS3:=PH.le_trans lS2 (PH.le_trans l3 h3.sh)
 refine ⟨fun g=>?_,fun g=>?_⟩
 ·simp only [evs,evb,zdt] at g
  have hfl:=zqj p k
  refine ⟨fun vs K'=>∃u S',vs=[u,.int .i64 0,.int .i64 0,.slice none 0 0,.int .i64 0,.int .i64 1,.int .i64 0]∧PH.le S3 S'∧Held S' K' [orow 57 ((zc0 p (k+1)).map (z2p p l)) u],?_,?_⟩
  ·rintro vs K' _ ⟨u',S4,rfl,l4,h4⟩
   simp only [cns]
   refine ⟨_,z00,n - 1,by omega,k+1,u',S4,?_,by omega,PH.le_trans l3 l4,h4⟩
   simp only [evs,evb,up1 (by omega:k < 4611686018427387904)]
  refine z05 [.bool (decide ((k:Int)∈liveL p 0 0))] z2u (zbs (liveL p 0 0) k _ K (s2.le (PH.le_trans l3 h3.sh))) rfl z01 fun K4 l4=>⟨fun g2=>?_,fun g2=>?_⟩
  ·simp only [evs,evb,zdt] at g2
   obtain ⟨j,hj,hlj,hw,hi⟩:=hf.step (r:=(k:Int)) (by omega) (by omega)
   obtain rfl:k=j:=by omega
   obtain ⟨y1,_,ycs,y2,y3⟩:=hl.get hlj
   obtain ⟨rfl,_⟩:=csIK y2
   have lK:=PH.le_trans lS3 l4
   refine ⟨fun _=>?_,[.int .i64 (l.getD (k:Int).toNat 0)],rfl,by simp only [evs,evb];exact z06 lK y3,?_⟩
   ·simp only [Chk.holds,evs,evb];exact ⟨y1,by omega,by omega⟩
   simp only [cns]
   refine z1o (α:=Int) (l:=[(k:Int)]) (b:=8) [nI k] z0q z0i rfl (by decide) (by decide) (h3.le l4) (by kernel_rfl) (.cons (z0o (by unfold InI;omega)) .nil) (z6i (by simp only [evs,evb];exact z06 lK y3)) fun v5 K5 h5 _ _=>?_
   obtain ⟨S5,s5,l5,k5⟩:=h5.freeze
   clear h5
   obtain ⟨b5,c5,rfl⟩:=s5.sl
   simp only [cns]
   refine z0m (more:=[z2p p l (k:Int)]) (b:=112) [.agg ([txt movB,.int .i64 (z07 p l (k:Int)),.slice b5 [(k:Int)].length c5,.int .i64 0,.int .i64 0,txt [],.slice none 0 0,.int .i64 0]:List Value).toArray] zpw zol rfl (by decide) (by decide) k5 (by rw [←hw];kernel_rfl) (.cons (ins_iff.2 ⟨_,.slice none 0 0,rfl,(by decide:movB.length≤maxLen),hi,s5,(by decide:InI 0),(by decide:InI 0),Nat.zero_le _,z4i _,(by decide:InI 0)⟩) .nil) z01 (fun w=>by kernel_rfl) (fun w=>by kernel_rfl)
    (by simp only [maxLen,List.length_map,zlc,List.length_nil];omega) (by simp only [List.length_map,zlc,List.length_nil];omega) fun w v6 S6 K6 l6 h6=>⟨z01,?_⟩
   refine ⟨_,z00,v6,S6,rfl,PH.le_trans l5 l6,?_⟩
   rw [zny,if_pos g2,List.map_append]
   exact h6
  ·simp only [evs,evb,zdf] at g2
   refine ⟨_,z00,u,S3,rfl,PH.le_refl _,?_⟩
   rw [zny,if_neg g2,List.append_nil]
   exact h3.le l4
 simp only [evs,evb,zdf] at g
 have hkp:k=p.params.toNat:=by omega
 subst hkp
 have hfl:=zqj p p.params.toNat
 obtain ⟨S4,s4,l4,h4⟩:=h3.freeze
 clear h3
 obtain ⟨b4,c4,rfl⟩:=s4.sl
 have h4:=h4.empty (α:=BlkX) 54
 refine z0m (more:=[z3j p l]) (b:=88) [.agg ([.slice b4 ((zc0 p p.params.toNat).map (z2p p l)).length c4,.int .i64 0,.int .i64 0,.slice none 0 0,.int .i64 0,.int .i64 1,.int .i64 0]:List Value).toArray] zq1 zp4 rfl (by decide) (by decide) h4 (by kernel_rfl)
  (.cons (blk_iff.2 ⟨_,_,rfl,s4,end_iff.2 ⟨.slice none 0 0,rfl,(by decide:InI 0),(by decide:InI 0),z4i _,(by decide:InI 0),(by decide:InI 1),(by decide:InI 0)⟩⟩) .nil) z01 (fun w=>by kernel_rfl) (fun w=>by kernel_rfl)
  (by simp only [maxLen,zlc,List.length_nil];omega) (by simp only [zlc,List.length_nil];omega) fun w v5 S5 K5 l5 h5=>⟨z01,?_⟩
 simp only [cns] at h5 ⊢
 have lS5:PH.le S S5:=PH.le_trans lS2 (PH.le_trans l3 (PH.le_trans l4 l5))
 clear h4
 refine ⟨fun n vs K=>∃(k:Nat) (u:Value) (S':PH),vs=[nI k,.int .i64 p.params,.int .i64 p.holds,.int .i64 (p.params+all),u]∧k+n=p.blocks.length∧PH.le S S'∧Held S' K [orow 54 (z3j p l::(p.blocks.take k).map (z5v p l)) u],
  ⟨p.blocks.length,0,v5,S5,by simp only [evs,evb,w64 (n:=p.params+all) (by omega) (by omega)];rfl,by omega,lS5,h5⟩,?_⟩
 rintro n vs K _ ⟨k,u,S6,rfl,hkn,l6,h6⟩
 simp only [cns]
 refine ⟨fun g=>?_,fun g=>?_⟩
 rotate_left
 ·simp only [evs,evb,zdf] at g
  rw [List.take_of_length_le (by omega)] at h6
  obtain ⟨S7,s7,l7,h7⟩:=h6.freeze
  exact ⟨PH.le_trans l6 (PH.le_trans l7 h7.sh),u,rfl,s7.le h7.sh⟩
 simp only [evs,evb,zdt] at g
 obtain ⟨b,hb⟩:∃b,p.blocks[k]?=some b:=⟨_,zge (by omega)⟩
 have hbm:=List.mem_of_getElem? hb
 obtain ⟨z1,_,bcs,z2,z3⟩:=hbv.get hb
 obtain ⟨iv,es,rfl,z4,z5⟩:=blk_iff.1 z2
 obtain ⟨ib,ic,rfl⟩:=z4.sl
 obtain ⟨av,rfl,e1,e2,e3,e4,e5,e6⟩:=end_iff.1 z5
 obtain ⟨ab,ac,rfl⟩:=e3.sl
 obtain ⟨hbl,hbi⟩:=hg.ins b hbm
 have hfin:=z2n (hg.fin b hbm)
 have hne:=hfin.nextA
 have lK6:=PH.le_trans l6 h6.sh
 refine ⟨fun _=>?_,[.int .i64 b.e.kind,.int .i64 b.e.reg,.slice ab b.e.args.length ac,.int .i64 b.e.to,.int .i64 b.e.next,.int .i64 b.e.els],rfl,by simp only [evs,evb];exact z0a (z06 lK6 z3) 1 6,?_⟩
 ·simp only [Chk.holds,evs,evb];exact ⟨z1,by omega,by omega⟩
 simp only [cns]
 refine ⟨fun m vs K'=>∃(j:Nat) (w:Value) (S':PH),vs=[nI j,w,.int .i64 b.e.kind,.int .i64 b.e.reg,.slice ab b.e.args.length ac,.int .i64 b.e.to,.int .i64 b.e.next,.int .i64 b.e.els]∧j+m=b.ins.length∧PH.le S6 S'∧Held S' K' [orow 57 ((b.ins.take j).map (z17 p l)) w,orow 54 (z3j p l::(p.blocks.take k).map (z5v p l)) u],
  ⟨b.ins.length,0,.slice none 0 0,S6,rfl,by omega,PH.le_refl _,h6.empty (α:=InsX) 57⟩,?_⟩
 rintro m vs K7 _ ⟨j,w,S7,rfl,hjm,l7,h7⟩
 simp only [cns]
 have lK7:=PH.le_trans l6 (PH.le_trans l7 h7.sh)
 refine ⟨[.slice ib b.ins.length ic],rfl,by simp only [evs,evb];exact z0a (z06 lK7 z3) 0 1,?_⟩
 simp only [cns]
 refine ⟨fun g3=>?_,fun g3=>?_⟩
 ·simp only [evs,evb,zdt] at g3
  obtain ⟨x,hx⟩:∃x,b.ins[j]?=some x:=⟨_,zge (by omega)⟩
  have hxm:=List.mem_of_getElem? hx
  have hgd:=z3w (hbi x hxm)
  have hxf:x.args.length≤1000000:=by have:=zm2 hc (hbi x hxm);omega
  obtain ⟨y1,_,xcs,y2,y3⟩:=z4.get hx
  obtain ⟨xv,dv,rfl,x1,x2,x3,x4,x5,x6,x7,x8⟩:=ins_iff.1 y2
  obtain ⟨xb,xc,rfl⟩:=x3.sl
  obtain ⟨db,dc,rfl⟩:=x7.sl
  have lS7:=PH.le_trans l6 l7
  refine ⟨[.slice ib b.ins.length ic],rfl,by simp only [evs,evb];exact z0a (z06 lK7 z3) 0 1,fun _=>?_,[txt x.op,.int .i64 x.to,.slice xb x.args.length xc,.int .i64 x.const.kind,.int .i64 x.const.int,txt x.const.text,.slice db x.const.list.length dc,.int .i64 x.num],rfl,by simp only [evs,evb];exact z06 lK7 y3,?_⟩
  ·simp only [Chk.holds,evs,evb];exact ⟨y1,by omega,by omega⟩
  simp only [cns]
  refine ⟨fun vs K'=>vs=[txt x.op,.int .i64 (z17 p l x).to,.slice xb x.args.length xc,.int .i64 x.const.kind,.int .i64 x.const.int,txt x.const.text,.slice db x.const.list.length dc,.int .i64 x.num]∧K7=K'∧InI (z17 p l x).to,?_,fun g4=>?_,fun g4=>?_⟩
  ·rintro vs K' _ ⟨rfl,rfl,hto⟩
   simp only [cns]
   refine z02 z68 (h7.pure (R:=fun y S'=>∃v,y=.returned v∧SlR S' (x.args.map (z07 p l)) v) (zlh p l all hf x.args (.slice xb x.args.length xc) (.slice lb l.length lc) S7 (x3.le lS7) (hl.le lS7) hgd.args hxf)) ?_
   rintro y K8 ⟨S8,l8,h8,v8,rfl,s8⟩
   obtain ⟨b8,c8,rfl⟩:=s8.sl
   refine ⟨_,[.slice b8 (x.args.map (z07 p l)).length c8],rfl,rfl,rfl,z01,?_⟩
   simp only [cns]
   have lS8:=PH.le_trans lS7 l8
   refine z0m (more:=[z17 p l x]) (b:=112) [.agg ([txt x.op,.int .i64 (z17 p l x).to,.slice b8 (x.args.map (z07 p l)).length c8,.int .i64 x.const.kind,.int .i64 x.const.int,txt x.const.text,.slice db x.const.list.length dc,.int .i64 x.num]:List Value).toArray] zpw zol rfl (by decide) (by decide) h8 (by kernel_rfl)
    (.cons (ins_iff.2 ⟨_,_,rfl,x1,hto,s8,x4,x5,x6,x7.le lS8,x8⟩) .nil) z01 (fun w=>by kernel_rfl) (fun w=>by kernel_rfl)
    (by simp only [maxLen,List.length_map,List.length_take,zlc,List.length_nil];omega) (by simp only [List.length_map,List.length_take,zlc,List.length_nil];omega) fun w9 v9 S9 K9 l9 h9=>⟨z01,?_⟩
   refine ⟨_,z00,m - 1,by omega,j+1,v9,S9,?_,by omega,PH.le_trans l7 (PH.le_trans l8 l9),?_⟩
   ·simp only [evs,evb,up1 (by omega:j < 4611686018427387904)]
   ·rw [List.take_add_one,hx,List.map_append];exact h9
  ·have g4':x.op≠tieB:=by
    simp only [evs,evb,z9e] at g4
    simpa using g4
   obtain ⟨r0,r1⟩:=hgd.to g4'
   obtain ⟨q,hq,hlq,hw,hi⟩:=hf.step r0 r1
   obtain ⟨t1,_,tcs,t2,t3⟩:=hl.get hlq
   obtain ⟨rfl,_⟩:=csIK t2
   refine ⟨fun _=>?_,[.int .i64 (l.getD x.to.toNat 0)],rfl,by simp only [evs,evb];rw [hq];rw [hq] at t3;exact z06 lK7 t3,?_⟩
   ·simp only [Chk.holds,evs,evb];exact ⟨t1,by omega,by omega⟩
   have hto:(z17 p l x).to=z07 p l x.to:=by show (if x.op=tieB then _ else _)=_;rw [if_neg g4']
   refine ⟨_,z00,?_,rfl,by rw [hto];exact hi⟩
   simp only [evs,evb,hto,hw]
  ·have g4':x.op=tieB:=by
    simp only [evs,evb,z9e] at g4
    simpa using g4
   have hto:(z17 p l x).to=x.to:=by show (if x.op=tieB then _ else _)=_;rw [if_pos g4']
   refine ⟨_,z00,?_,rfl,by rw [hto];exact x2⟩
   simp only [evs,evb,hto]
 simp only [evs,evb,zdf] at g3
 rw [List.take_of_length_le (by omega)] at h7
 obtain ⟨S8,s8,l8,h8⟩:=h7.freeze
 clear h7
 obtain ⟨wb,wc,rfl⟩:=s8.sl
 have lS8:=PH.le_trans l6 (PH.le_trans l7 l8)
 refine z02 z68 (h8.pure (R:=fun y S'=>∃v,y=.returned v∧SlR S' (b.e.args.map (z07 p l)) v) (zlh p l all hf b.e.args (.slice ab b.e.args.length ac) (.slice lb l.length lc) S8 (e3.le lS8) (hl.le lS8) hfin.args (by have:=hfin.few;omega))) ?_
 rintro y K9 ⟨S9,l9,h9,v9,rfl,s9⟩
 obtain ⟨b9,c9,rfl⟩:=s9.sl
 refine ⟨_,[.slice b9 (b.e.args.map (z07 p l)).length c9],rfl,rfl,rfl,z01,?_⟩
 simp only [cns]
 have lS9:=PH.le_trans lS8 l9
 have lK9:=PH.le_trans lS9 h9.sh
 refine ⟨fun vs K'=>vs=[.slice wb ((b.ins.map (z17 p l)).length) wc,.int .i64 b.e.kind,.int .i64 (z0t p l b.e).reg,.slice b9 (b.e.args.map (z07 p l)).length c9,.int .i64 b.e.to,.int .i64 b.e.next,.int .i64 b.e.els]∧K9=K'∧InI (z0t p l b.e).reg,?_,fun g4=>?_,fun g4=>?_⟩
 rotate_left
 ·have g4':b.e.kind≠0:=by
   simp [evs,evb] at g4
   exact g4
  obtain ⟨r0,r1⟩:=hfin.reg g4'
  obtain ⟨q,hq,hlq,hw,hi⟩:=hf.step r0 r1
  obtain ⟨t1,_,tcs,t2,t3⟩:=hl.get hlq
  obtain ⟨rfl,_⟩:=csIK t2
  refine ⟨fun _=>?_,[.int .i64 (l.getD b.e.reg.toNat 0)],rfl,by simp only [evs,evb];rw [hq];rw [hq] at t3;exact z06 lK9 t3,?_⟩
  ·simp only [Chk.holds,evs,evb];exact ⟨t1,by omega,by omega⟩
  have hto:(z0t p l b.e).reg=z07 p l b.e.reg:=by show (if b.e.kind=0 then _ else _)=_;rw [if_neg g4']
  refine ⟨_,z00,?_,rfl,by rw [hto];exact hi⟩
  simp only [evs,evb,hto,hw]
 ·have g4':b.e.kind=0:=by
   simp [evs,evb] at g4
   exact g4
  have hto:(z0t p l b.e).reg=b.e.reg:=by show (if b.e.kind=0 then _ else _)=_;rw [if_pos g4']
  refine ⟨_,z00,?_,rfl,by rw [hto];exact e2⟩
  simp only [evs,evb,hto]
 rintro vs K' _ ⟨rfl,rfl,hreg⟩
 simp only [cns]
 refine ⟨fun vs K'=>vs=[.slice wb ((b.ins.map (z17 p l)).length) wc,.int .i64 b.e.kind,.int .i64 (z0t p l b.e).reg,.slice b9 (b.e.args.map (z07 p l)).length c9,.int .i64 (z0t p l b.e).to,.int .i64 b.e.next,.int .i64 b.e.els]∧K9=K'∧InI (z0t p l b.e).to,?_,fun g4=>?_,fun g4=>?_⟩
 rotate_left
 ·have g4':b.e.kind=4∨b.e.kind=6:=by
   simp [evs,evb] at g4
   exact g4
  obtain ⟨r0,r1⟩:=hfin.to g4'
  obtain ⟨q,hq,hlq,hw,hi⟩:=hf.step r0 r1
  obtain ⟨t1,_,tcs,t2,t3⟩:=hl.get hlq
  obtain ⟨rfl,_⟩:=csIK t2
  refine ⟨fun _=>?_,[.int .i64 (l.getD b.e.to.toNat 0)],rfl,by simp only [evs,evb];rw [hq];rw [hq] at t3;exact z06 lK9 t3,?_⟩
  ·simp only [Chk.holds,evs,evb];exact ⟨t1,by omega,by omega⟩
  have hto:(z0t p l b.e).to=z07 p l b.e.to:=by show (if b.e.calls=true then _ else _)=_;rw [if_pos (by simp [EndX.calls,g4'])]
  refine ⟨_,z00,?_,rfl,by rw [hto];exact hi⟩
  simp only [evs,evb,hto,hw]
 ·have g4':¬(b.e.kind=4∨b.e.kind=6):=by
   simp [evs,evb] at g4
   omega
  have hto:(z0t p l b.e).to=b.e.to:=by show (if b.e.calls=true then _ else _)=_;rw [if_neg (by simp [EndX.calls,g4'])]
  refine ⟨_,z00,?_,rfl,by rw [hto];exact e4⟩
  simp only [evs,evb,hto]
 rintro vs K' _ ⟨rfl,rfl,hto⟩
 simp only [cns]
 refine z02 z73 (h9.pure (R:=fun y S'=>∃v,y=.returned v∧SlR S' (b.e.leads p.blocks.length) v) (zo9 p b.e (.slice bb p.blocks.length bc) (.slice ab b.e.args.length ac) S9 (hbv.le lS9) (e3.le lS9) e5 e6)) ?_
 rintro y K10 ⟨S10,l10,h10,v10,rfl,s10⟩
 obtain ⟨b10,c10,rfl⟩:=s10.sl
 refine ⟨_,[.slice b10 (b.e.leads p.blocks.length).length c10],rfl,rfl,rfl,z01,?_⟩
 simp only [cns]
 have lS10:=PH.le_trans lS9 l10
 have hnx:(if 0 < (b.e.leads p.blocks.length).length then IntKind.i64.wrap (b.e.next+1) else b.e.next)=(z0t p l b.e).next∧InI (z0t p l b.e).next:=by
  have hm:(z0t p l b.e).next=if (b.e.leads p.blocks.length).isEmpty then b.e.next else b.e.next+1:=rfl
  rw [hm,w64 (n:=b.e.next+1) (by omega) (by omega)]
  cases hle:b.e.leads p.blocks.length with
  | nil=>simp;exact e5
  | cons a t=>simp;unfold InI;omega
 have hel:(if b.e.kind=1 then IntKind.i64.wrap (b.e.els+1) else b.e.els)=(z0t p l b.e).els∧InI (z0t p l b.e).els:=by
  have hm:(z0t p l b.e).els=if b.e.kind=1 then b.e.els+1 else b.e.els:=rfl
  rw [hm]
  by_cases h1:b.e.kind=1
  ·have:=hfin.els h1
   rw [if_pos h1,if_pos h1,w64 (n:=b.e.els+1) (by omega) (by omega)]
   exact ⟨rfl,by unfold InI;omega⟩
  ·rw [if_neg h1,if_neg h1];exact ⟨rfl,e6⟩
 refine z0m (more:=[z5v p l b]) (b:=88) [.agg ([.slice wb (b.ins.map (z17 p l)).length wc,.int .i64 b.e.kind,.int .i64 (z0t p l b.e).reg,.slice b9 (b.e.args.map (z07 p l)).length c9,.int .i64 (z0t p l b.e).to,.int .i64 (z0t p l b.e).next,.int .i64 (z0t p l b.e).els]:List Value).toArray] zq1 zp4 rfl (by decide) (by decide) h10 ?_
  (.cons (blk_iff.2 ⟨_,_,rfl,s8.le (PH.le_trans l9 l10),end_iff.2 ⟨_,rfl,e1,hreg,s9.le l10,hto,hnx.2,hel.2⟩⟩) .nil) z01 (fun w=>by kernel_rfl) (fun w=>by kernel_rfl)
  (by simp only [maxLen,List.length_map,List.length_take,zlc,List.length_nil];omega) (by simp only [List.length_map,List.length_take,zlc,List.length_nil];omega) fun w11 v11 S11 K11 l11 h11=>⟨z01,?_⟩
 ·rw [←hnx.1,←hel.1]
  simp only [argEv,List.lookup,idxs,show ((181:Nat) == 181)=true from rfl,evs,evb]
  simp
  simp only [evs,evb]
  simp
  constructor<;>split<;>rfl
 refine ⟨_,z0s rfl z00,n - 1,by omega,k+1,v11,S11,?_,by omega,PH.le_trans l6 (PH.le_trans l7 (PH.le_trans l8 (PH.le_trans l9 (PH.le_trans l10 l11)))),?_⟩
 ·simp only [evs,evb,up1 (by omega:k < 4611686018427387904)]
 ·rw [List.take_add_one,hb,List.map_append];exact h11
theorem Z3a {c:CodeX} (g:GoodC c) {p:PrcX} {b:BlkX} (hi:∀x∈b.ins,insOk c p x=true) (hf:finOk p b.e=true):b.regs.length≤1000 * b.many:=by
 have h1:∀l:List InsX,(∀x∈l,insOk c p x=true)→(l.flatMap (·.args)).length≤1000 * l.length:=by
  intro l
  induction l with
  | nil=>intro _;simp
  | cons x l ih=>
   intro h
   have:=zm2 g (h x (zms))
   have:=ih fun y hy=>h y (zmm _ hy)
   simp only [List.flatMap_cons,zla,zlc];omega
 have h2:=h1 b.ins hi
 have h3:=(z2n hf).few
 unfold BlkX.regs BlkX.many EndX.regs
 rw [zla,zla]
 have h4:(if b.e.reads b.e.reg=true then [b.e.reg] else []).length≤1:=by split<;>simp
 have h5:(if b.e.kind=3∨b.e.kind=4 then b.e.args else []).length≤b.e.args.length:=by split<;>simp
 omega
theorem zxu {α:Type} (f:α→List Int) (m:α→Nat):∀l:List α,(∀a∈l,(f a).length≤1000 * m a)→(l.flatMap f).length≤1000 * (l.map m).sum
 | [],_=>by simp
 | a::l,h=>by
  have h1:=h a (zms)
  have h2:=zxu f m l fun b hb=>h b (zmm _ hb)
  simp only [List.flatMap_cons,zla,List.map_cons,List.sum_cons];omega
theorem GoodC.fit {c:CodeX} (g:GoodC c) {p:PrcX} (hp:p∈c):p.Fit∧∀b∈p.blocks,b.e.args.length≤20000000:=by
 have gp:=g.prc hp
 refine ⟨⟨by have:=gp.blocks;omega,fun b hb=>by have:=(gp.ins b hb).1;omega,?_⟩,fun b hb=>by have:=(z2n (gp.fin b hb)).few;omega⟩
 have h1:=zxu BlkX.regs BlkX.many p.blocks fun b hb=>Z3a g (gp.ins b hb).2 (gp.fin b hb)
 have h2:=zoe hp
 have h3:=g.many
 unfold PrcX.many at h2
 unfold PrcX.regl
 omega
theorem zxb {p:PrcX} {e:EndX} (h:FinGood p e) {r:Int} (hr:e.reads r=true):0≤r∧r < p.regs:=by
 unfold EndX.reads at hr
 split at hr
 ·rename_i hk
  have hr:e.reg=r:=by simpa using hr
  rw [←hr];exact h.reg (by omega)
 split at hr
 ·rename_i hk
  simp only [Bool.or_eq_true,zdt] at hr
  rcases hr with hr | hr
  ·rw [←hr];exact h.reg (by omega)
  ·exact h.args r hr
 ·cases hr
theorem zyk {c:CodeX} {p:PrcX} (hg:GoodP c p):∀r∈p.regl,0≤r∧r < p.regs:=by
 intro r hr
 obtain ⟨b,hb,h1⟩:=List.mem_flatMap.1 hr
 unfold BlkX.regs at h1
 rcases List.mem_append.1 h1 with h | h
 ·obtain ⟨x,hx,h2⟩:=List.mem_flatMap.1 h
  exact (z3w ((hg.ins b hb).2 x hx)).args r h2
 ·have hf:=z2n (hg.fin b hb)
  unfold EndX.regs at h
  rcases List.mem_append.1 h with h | h
  ·split at h
   ·rename_i hr2;rw [List.mem_singleton.1 h];exact zxb hf hr2
   ·simp at h
  ·split at h
   ·exact hf.args r h
   ·simp at h
theorem Z3d {c:CodeX} {p:PrcX} (hg:GoodP c p):mayP p=true:=by
 unfold mayP
 rw [zba,List.all_eq_true]
 refine ⟨?_,fun b hb=>?_⟩
 ·have h1:=hg.params
  have h2:=hg.regs
  have h3:=hg.blocks
  unfold z4p
  simp only [Bool.not_eq_true',Bool.or_eq_false_iff,zdf]
  omega
 ·unfold BlkX.may
  rw [zba,List.all_eq_true,List.all_eq_true]
  refine ⟨fun x hx=>?_,fun r hr=>?_⟩
  ·have g:=z3w ((hg.ins b hb).2 x hx)
   unfold InsX.may
   rw [zba,List.all_eq_true]
   refine ⟨fun r hr=>decide_eq_true (g.args r hr),?_⟩
   by_cases h:x.op=tieB
   ·simp [h]
   ·rw [Bool.or_eq_true];exact .inr (decide_eq_true (g.to h))
  ·have g:=z2n (hg.fin b hb)
   refine decide_eq_true ?_
   unfold EndX.uses at hr
   split at hr
   ·rw [List.mem_singleton.1 hr];exact g.reg (by omega)
   split at hr
   ·rcases List.mem_cons.1 hr with rfl | h
    ·exact g.reg (by omega)
    ·exact g.args r h
   split at hr
   ·rcases List.mem_cons.1 hr with rfl | h
    ·exact g.reg (by omega)
    rcases List.mem_cons.1 h with rfl | h
    ·exact g.to (by omega)
    ·exact g.args r h
   split at hr
   ·rcases List.mem_cons.1 hr with rfl | h
    ·exact g.reg (by omega)
    ·rw [List.mem_singleton.1 h];exact g.to (by omega)
   ·simp at hr
theorem zyo {p:PrcX} {k n:Int} {l:List Int} (h:Placed p k n l):n≤l.length:=by
 have h0:=h.lo
 have h1:((List.range n.toNat).map fun i:Nat=>k+(i:Int)).length≤l.length:=by
  refine z0k ?_ fun y hy=>?_
  ·refine List.Pairwise.map _ (fun a b hab=>?_) List.nodup_range
   omega
  ·obtain ⟨i,hi,rfl⟩:=List.mem_map.1 hy
   have:=List.mem_range.1 hi
   exact h.used _ (by omega) (by omega)
 rw [List.length_map,List.length_range] at h1
 omega
theorem zzh {c:CodeX} {p:PrcX} {k n:Int} {l:List Int} (hk:1≤k) (hg:GoodP c p) (h:Placed p k n l) (hpl:∀r∈liveL p 0 0,r < p.params):PlaceOk p l (k+n):=by
 have h1:=hg.params
 have h2:=hg.regs
 have h3:=h.lo
 refine ⟨by rw [h.len];omega,by omega,fun r a hr=>?_,h.apart,hpl,fun r i j hl=>zyk hg r (z4z hl),by omega,by omega,by omega⟩
 have:=h.all r a hr
 omega
structure MovedTo (c d:CodeX) (q:Nat→Option (List Int×Int)):Prop where
 len:d.length=c.length
 none_:∀j,q j=none→d[j]?=c[j]?
 some_:∀j x,q j=some x→∃p,c[j]?=some p∧d[j]?=some (z15 p x.1 x.2)∧PlaceOk p x.1 x.2
theorem MovedTo.start (c:CodeX):MovedTo c c fun _=>none:=⟨rfl,fun _ _=>rfl,fun _ _ h=>by cases h⟩
theorem MovedTo.put {c d:CodeX} {q:Nat→Option (List Int×Int)} (h:MovedTo c d q) {k:Nat} {p:PrcX} {l:List Int} {all:Int} (hp:c[k]?=some p) (ok:PlaceOk p l all):MovedTo c (d.set k (z15 p l all)) (fun j=>if j=k then some (l,all) else q j):=by
 have hk:k < d.length:=by rw [h.len];exact (List.getElem?_eq_some_iff.1 hp).1
 refine ⟨by rw [List.length_set];exact h.len,fun j hj=>?_,fun j x hj=>?_⟩
 ·by_cases e:j=k
  ·simp [e] at hj
  ·rw [if_neg e] at hj
   rw [List.getElem?_set_ne (Ne.symm e)]
   exact h.none_ j hj
 ·by_cases e:j=k
  ·subst e
   rw [if_pos rfl] at hj
   cases hj
   exact ⟨p,hp,by rw [List.getElem?_set_self hk],ok⟩
  ·rw [if_neg e] at hj
   rw [List.getElem?_set_ne (Ne.symm e)]
   exact h.some_ j x hj
theorem MovedTo.moved {c d:CodeX} {q:Nat→Option (List Int×Int)} (h:MovedTo c d q):MovedC c d fun j=>q j.toNat:=by
 refine ⟨fun j hj=>?_,fun j x hj=>?_,fun j x hj=>?_⟩
 ·unfold prcAt
  rw [zgd,zgd,h.none_ _ hj]
 ·obtain ⟨p,h1,h2,_⟩:=h.some_ _ x hj
  unfold prcAt
  rw [zgd,zgd,h1,h2];rfl
 ·obtain ⟨p,h1,_,h3⟩:=h.some_ _ x hj
  have:prcAt c j=p:=by
   unfold prcAt
   rw [zgd,h1];rfl
  rw [this];exact h3
set_option maxHeartbeats 4000000 in
theorem zh8 (p:PrcX) (k:Int) (bv:Value) (S:PH) (hbv:SlR S p.blocks bv) (hw:p.Fit∧∀b∈p.blocks,b.e.args.length≤20000000) :
  Tri Tryz.prog ztd #[.agg (prcVs p bv).toArray,.int .i64 k] S fun x S'=>PH.le S S'∧(((k < 1∨24 < k)∧x=.returned (.tuple #[.slice none 0 0,.int .i64 0,.int .i64 1]))∨((1≤k∧k≤24)∧mayP p=false∧x=.returned (.tuple #[.slice none 0 0,.int .i64 0,.int .i64 150]))∨((1≤k∧k≤24)∧mayP p=true∧∃l v n,x=.returned (.tuple #[v,.int .i64 n,.int .i64 0])∧SlR S' l v∧Placed p k n l)):=by
 obtain ⟨hp,hE⟩:=hw
 obtain ⟨b0,c0,rfl⟩:=hbv.sl
 refine zqd (prcVs p (.slice b0 p.blocks.length c0)++[.int .i64 k]) (by kernel_rfl) (by kernel_rfl) ?_
 simp only [prcVs,List.cons_append,List.nil_append]
 refine ⟨fun g=>?_,fun g=>?_⟩
 ·simp only [evs,evb] at g
  simp only [Bool.or_eq_true,zdt] at g
  exact ⟨PH.le_refl _,.inl ⟨by omega,rfl⟩⟩
 simp only [evs,evb,Bool.or_eq_false_iff,zdf] at g
 have hk:1≤k∧k≤24:=by omega
 refine z05 [.bool (mayP p)] zlf (zrv p (.slice b0 p.blocks.length c0) S hbv hp hE) rfl z01 fun K1 l1=>⟨fun g=>?_,fun g=>?_⟩
 ·simp only [evs,evb] at g
  have hm:mayP p=false:=by simpa using g
  exact ⟨l1,.inr (.inl ⟨hk,hm,rfl⟩)⟩
 simp only [evs,evb] at g
 have hmay:mayP p=true:=by simpa using g
 obtain ⟨hr0,hr1,_,_,hne⟩:=zor hmay
 refine z02 zir (zsd p (.slice b0 p.blocks.length c0) K1 (hbv.le l1) ⟨hp,hE⟩ hmay) ?_
 rintro x K2 ⟨S1,gr,es,cl,N,l2,rfl,h2,gok,rel⟩
 refine ⟨_,[.map (some gr)],rfl,rfl,rfl,z01,?_⟩
 obtain ⟨S3,l3,l3',hg⟩:=znj h2 gok
 obtain ⟨R,hRi⟩:∃R:Nat,p.regs=(R:Int):=⟨p.regs.toNat,by omega⟩
 have hR2:R≤2000:=by omega
 obtain ⟨ok,hadj⟩:=zpk hRi hmay hg rel
 rw [hRi]
 simp only [cns]
 refine z1o (α:=Int) (l:=[(-1:Int)]) (b:=8) [.int .i64 (-1)] z0q z0i rfl (by decide) (by decide) (Held.nil l3') (by kernel_rfl) (.cons (z0o (by unfold InI;omega)) .nil) z01 fun v4 K4 h4 _ _=>?_
 obtain ⟨S4,s4,l4,h4⟩:=h4.freeze
 simp only [cns]
 refine z02 zce (zyq R hR2 (-1) v4 K4 (s4.le h4.sh)) ?_
 rintro x K5 ⟨pv5,rfl,h5⟩
 obtain ⟨pb,pc,rfl⟩:∃b c,pv5=.slice b R c:=by have:=(h5.row (zms)).sl;rwa [List.length_replicate] at this
 refine ⟨_,[.slice pb R pc],rfl,rfl,rfl,z01,?_⟩
 have l04:PH.le S K4:=PH.le_trans l1 (PH.le_trans l2 (PH.le_trans l3 (PH.le_trans l4 h4.sh)))
 have hg4:GraphR K4 (.map (some gr)) N:=hg.le (PH.le_trans l4 h4.sh)
 simp only [cns]
 refine z02 zrr (h5.pure (R:=fun x S'=>∃(st:List Int) (v:Value),x=.returned v∧SlR S' st.reverse v∧st.Nodup∧st.length=R∧(∀s:Int,s∈st→0≤s∧s < R)∧OrdOk N R k st) (Z13 R hR2 k (.map (some gr)) N K4 hg4 ok)) ?_
 rintro x K6 ⟨S6,l6,h6,st,ov,rfl,hov,hnd,hstl,hrg,hord⟩
 obtain ⟨ob,oc,rfl⟩:∃b c,ov=.slice b R c:=by have:=hov.sl;rwa [List.length_reverse,hstl] at this
 refine ⟨_,[.slice ob R oc],rfl,rfl,rfl,z01,?_⟩
 simp only [cns]
 have hg6:GraphR S6 (.map (some gr)) N:=hg4.le l6
 refine ⟨fun n vs K=>∃(i:Nat) (pl:List Int) (most:Int) (S':PH),vs=[.int .i64 most,nI i]∧i+n=R∧PH.le S6 S'∧Held S' K [orow 3 pl (.slice pb R pc)]∧ColOk N R k st i pl most,
  ⟨R,0,List.replicate R (-1),k,S6,rfl,by omega,PH.le_refl _,h6,⟨by simp,fun r hr _=>by rw [List.getElem?_replicate,if_pos hr],fun r a _ h=>by simp at h,fun r q a h1 _ h3=>(by
   rw [List.getElem?_replicate] at h1;split at h1
   ·cases h1;omega
   ·cases h1),by omega,by omega,fun s h1 h2=>by omega,fun h=>by omega,fun r a h1=>(by
   rw [List.getElem?_replicate] at h1;split at h1
   ·cases h1;omega
   ·cases h1)⟩⟩,?_⟩
 rintro n vs K7 _ ⟨i,pl,most,S7,rfl,hin,l7,h7,hcol⟩
 simp only [cns]
 have hm1:=hcol.lo
 have hm2:=hcol.hi
 refine ⟨fun g=>?_,fun g=>?_⟩
 rotate_left
 ·simp only [evs,evb,zdf] at g
  have:i=R:=by omega
  subst this
  obtain ⟨S8,s8,l8,h8⟩:=h7.freeze
  refine ⟨PH.le_trans l04 (PH.le_trans l6 (PH.le_trans l7 (PH.le_trans l8 h8.sh))),.inr (.inr ⟨hk,hmay,pl,.slice pb i pc,most - k,?_,s8.le h8.sh,Z2e hRi hR2 ok hadj hnd hstl hrg hcol⟩)⟩
  show Ending.returned (.tuple #[.slice pb i pc,.int .i64 (IntKind.i64.wrap (most - k)),.int .i64 0])=_
  rw [w64 (by omega) (by omega)]
 simp only [evs,evb,zdt] at g
 have hiR:i < R:=by omega
 obtain ⟨r',hr'⟩:∃r,st.reverse[i]?=some r:=⟨_,zge (by rw [List.length_reverse];omega)⟩
 have hrr:=hrg r' (List.mem_reverse.1 (List.mem_of_getElem? hr'))
 obtain ⟨r,rfl⟩:∃r:Nat,r'=(r:Int):=⟨r'.toNat,by omega⟩
 have hrR:r < R:=by omega
 obtain ⟨t1,_,tcs,t2,t3⟩:=(hov.le (PH.le_trans l7 h7.sh)).get hr'
 obtain ⟨rfl,_⟩:=csIK t2
 refine ⟨fun _=>?_,[.int .i64 (r:Int)],rfl,?_,?_⟩
 ·simp only [Chk.holds,evs,evb];exact ⟨t1,by omega,by omega⟩
 ·simp only [evs,evb];exact t3
 refine z8g fun tr htr=>?_
 have h8:=h7.new htr (.map #[] 0)
 simp only [cns]
 obtain ⟨hm,w,hw1,hw2,hw3⟩:=(hg6.le l7).look (r:Int)
 refine z56 (α:=Int) (m:=outM N) (v:=.map (some gr)) (r:Int) (.map none) z9h kIntK (by kernel_rfl) (by kernel_rfl) (by kernel_rfl) (MapR.le hm h8.sh) (by rw [hw1];exact hw2) z01 ?_
 rw [hw1]
 obtain ⟨wm,rfl⟩:∃wm,w=.map wm:=by cases w<;>simp [Tag.ok] at hw2;exact ⟨_,rfl⟩
 simp only [cns]
 refine zed (m:=encS (adjN N (r:Int))) (v:=.map wm) rfl rfl zbp (by kernel_rfl) h8.sh hw3 (fun y hy=>by obtain ⟨z,_,rfl⟩:=List.mem_map.1 hy;rfl) rfl
  (fun done vs K i' o=>∃(es:Array MapEntry) (cl:Nat) (s:List Int),vs=[]∧SetAt es cl s∧(∀y,y∈s↔∃q∈done,plAt pl q=y)∧Held S7 K [.blk i' o,.blk tr (.map es cl),orow 3 pl (.slice pb R pc)])
  (fun i' o hi'=>⟨#[],0,[],rfl,zh2,fun y=>by simp,h8.new hi' o⟩) ?_ ?_ ?_ ?_
 ·rintro done vs K i' o ⟨es,cl,s,rfl,hset,hs,h⟩
  exact ⟨h.blk (zms),h.sh⟩
 ·rintro done vs K i' o o' ⟨es,cl,s,rfl,hset,hs,h⟩
  exact ⟨es,cl,s,rfl,hset,hs,h.put o'⟩
 ·rintro done y wv vs K9 i' o J hy hyd _ ⟨es9,cl9,s,rfl,hset,hs,h9⟩ hJ
  obtain ⟨y',hy',hyy⟩:=List.mem_map.1 hy
  simp only [Prod.mk.injEq] at hyy
  obtain ⟨rfl,rfl⟩:=hyy
  obtain ⟨_,_,_,_,hr3,hr4⟩:=ok.rel _ _ hy'
  obtain ⟨yn,rfl⟩:∃yn:Nat,y'=(yn:Int):=⟨y'.toNat,by omega⟩
  have hgy:=zsc (pl:=pl) (q:=yn) (by rw [hcol.len];omega)
  obtain ⟨u1,_,ucs,u2,u3⟩:=(h9.row (zmm _ (zmm _ (zms)))).get hgy
  obtain ⟨rfl,_⟩:=csIK u2
  simp only [cns]
  refine ⟨fun _=>?_,[.int .i64 (plAt pl (yn:Int))],rfl,?_,?_⟩
  ·simp only [Chk.holds,evs,evb];exact ⟨u1,by omega,by omega⟩
  ·simp only [evs,evb];exact u3
  refine z5k (α:=Int) (m:=encS s) (r:=tr) (es:=es9) (clock:=cl9) (plAt pl (yn:Int)) (.int .i64 1) zbp kIntK (by kernel_rfl) (by kernel_rfl) (by kernel_rfl) (h9.blk (zmm _ (zms))) hset fun es3 cl3 he3=>?_
  rw [zkk] at he3
  have h10:=((h9.perm (List.Perm.swap _ _ _)).put (.map es3 cl3)).perm (List.Perm.swap _ _ _)
  refine ⟨_,z00,hJ _ _ ⟨es3,cl3,_,rfl,he3,fun z=>?_,h10⟩⟩
  rw [zk6,hs]
  constructor
  ·rintro (⟨q,hq,h⟩ | rfl)
   ·exact ⟨q,zmm _ hq,h⟩
   ·exact ⟨_,zms,rfl⟩
  ·rintro ⟨q,hq,h⟩
   rcases List.mem_cons.1 hq with rfl | hq
   ·exact .inr h.symm
   ·exact .inl ⟨q,hq,h⟩
 ·rintro done vs K9 i' o J hdone _ _ ⟨es9,cl9,s,rfl,hset,hs,h9⟩
  have hdone':∀y,y∈done↔y∈adjN N (r:Int):=fun y=>by
   rw [←hdone,List.map_map]
   simp only [Function.comp_def,List.map_id']
  have hs':∀y,y∈s↔∃q∈adjN N (r:Int),plAt pl q=y:=fun y=>by
   rw [hs]
   exact ⟨fun ⟨q,h1,h2⟩=>⟨q,(hdone' q).1 h1,h2⟩,fun ⟨q,h1,h2⟩=>⟨q,(hdone' q).2 h1,h2⟩⟩
  have hsl:s.length≤R:=by
   have h1:s.length≤((adjN N (r:Int)).map (plAt pl)).length:=z0k hset.nodup fun y hy=>by
    obtain ⟨q,h1,h2⟩:=(hs' y).1 hy
    exact List.mem_map.2 ⟨q,h1,h2⟩
   rw [List.length_map] at h1
   have h2:=zve ok [] (r:Int)
   rw [zvi] at h2
   omega
  have hjl:∀j:Nat,(∀x:Nat,x < j→(x:Int)∈s)→j≤s.length:=fun j hj=>by
   have h1:((List.range j).map Int.ofNat).length≤s.length:=z0k (zk0 j) fun y hy=>by
    obtain ⟨x,hx,rfl⟩:=List.mem_map.1 hy
    exact hj x (List.mem_range.1 hx)
   rwa [List.length_map,List.length_range] at h1
  simp only [List.cons_append,List.nil_append,List.append_nil]
  refine ⟨fun n vs K=>K=K9∧∃j:Nat,vs=[nI j]∧n=s.length - j∧∀x:Nat,x < j→(x:Int)∈s,⟨s.length,rfl,0,rfl,rfl,fun x h=>by omega⟩,?_⟩
  rintro n2 vs K _ ⟨rfl,j,rfl,rfl,hj⟩
  simp only [cns]
  have hjs:=hjl j hj
  have hb9:K tr=some (.map es9 cl9):=h9.blk (zmm _ (zms))
  refine z56 (α:=Int) (m:=encS s) (v:=.map (some tr)) (j:Int) (.int .i64 0) zbp kIntK (by kernel_rfl) (by kernel_rfl) (by kernel_rfl) ⟨tr,es9,cl9,rfl,hb9,hset⟩ (by rw [zmc];split<;>rfl) z01 ?_
  rw [zmc]
  by_cases hin:(j:Int)∈s
  ·rw [if_pos hin]
   simp only [Option.getD_some,List.cons_append,List.nil_append]
   have hj2:=hjl (j+1) fun x hx=>by
    by_cases e:x=j
    ·subst e;exact hin
    ·exact hj x (by omega)
   refine ⟨fun g2=>?_,fun g2=>?_⟩
   ·refine ⟨_,z00,s.length - (j+1),by omega,rfl,j+1,?_,rfl,fun x hx=>?_⟩
    ·simp only [evs,evb];rw [w64 (by omega) (by omega)];rfl
    ·by_cases e:x=j
     ·subst e;exact hin
     ·exact hj x (by omega)
   ·simp [evs,evb] at g2
  ·rw [if_neg hin]
   simp only [Option.getD_none,List.cons_append,List.nil_append]
   refine ⟨fun g2=>?_,fun g2=>?_⟩
   ·simp [evs,evb] at g2
   have hplr:∃c,pl[r]?=some c:=⟨_,zge (by rw [hcol.len];omega)⟩
   obtain ⟨c,hc⟩:=hplr
   have h10:=h9.tail.tail
   obtain ⟨u1,_⟩:=(h10.row (zms)).get hc
   refine ⟨fun _=>?_,?_⟩
   ·simp only [Chk.holds,evs,evb];exact ⟨u1,by omega,by omega⟩
   refine z1t (i:=r) (a:=c) (a':=(j:Int)) (us:=[.int .i64 (j:Int)]) ?_ h10 hc rfl ?_ (by simp [oneC]) (z0o (by unfold InI;omega)) fun K11 h11=>?_
   ·simp only [evs,evb];rfl
   ·simp only [evs,evb]
   have hstep:=Z3g ok hk.1 hnd hstl hrg hord hcol hr' hrR (j:=j) (fun x hx=>(hs' _).1 (hj x hx)) (fun h=>hin ((hs' _).2 h)) (by omega)
   refine ⟨_,z0s rfl (z0s rfl z00),n - 1,by omega,i+1,pl.set r (j:Int),_,S7,?_,by omega,l7,h11,hstep⟩
   simp only [evs,evb]
   rw [w64 (n:=(j:Int)+1) (by omega) (by omega),w64 (n:=(i:Int)+1) (by omega) (by omega)]
   by_cases e:(j:Int)+1 > most
   ·simp [e]
   ·simp [e]
end Go.Proofs.YtofbhllknefloaaGreat.Vc
namespace Go.Proofs.YtofbhllknefloaaGreat.Vc
open Go Go.Sort Go.Shelf
theorem zuk {x y:Int}:cmpI2 x y < 0↔x < y:=by unfold cmpI2;split<;>(try split)<;>omega
theorem cmpI2_eq {x y:Int}:cmpI2 x y=0↔x=y:=by unfold cmpI2;split<;>(try split)<;>omega
theorem ltP (x y:Int×Int):ltOf cmpP2 x y=decide (x.1 < y.1∨(x.1=y.1∧x.2 < y.2)):=by
 unfold ltOf cmpP2 orI
 congr 1
 apply propext
 by_cases h:cmpI2 x.1 y.1=0
 ·rw [if_pos h,zuk]
  have:=cmpI2_eq.1 h
  omega
 ·rw [if_neg h,zuk]
  have:x.1≠y.1:=fun e=>h (cmpI2_eq.2 e)
  omega
theorem swoP:SWO (ltOf cmpP2) where
 irrefl x:=by rw [ltP];simp
 trans x y z h1 h2:=by rw [ltP] at *;simp at *;omega
 ntrans x y z h1 h2:=by rw [ltP] at *;simp at *;omega
theorem Z07 (blk off size:Nat) (w:World):CmpLays Tryz.prog 33 #[] encP2 2 cmpP2 blk off size w:=
 fun _ _ _ _ x y=>Tryz.closure43 x y _
theorem zu7:∀(l:List (Int×Int)) (t:Nat),t < l.length * 2→(l.flatMap encP2)[t]?=some ((encP2 (l[t / 2]!))[t % 2]!)
 | [],t,h=>by simp at h
 | a::l,0,h=>by simp [encP2]
 | a::l,1,h=>by simp [encP2]
 | a::l,t+2,h=>by
  have ih:=zu7 l t (by simp at h;omega)
  have e1:(t+2) / 2=t / 2+1:=by omega
  have e2:(t+2) % 2=t % 2:=by omega
  rw [e1,e2]
  simpa [encP2] using ih
theorem zn2 (l:List (Int×Int)):flatK encP2 2 l.toArray=(l.flatMap encP2).toArray:=by
 have hlen:∀l:List (Int×Int),(l.flatMap encP2).length=l.length * 2:=fun l=>by
  induction l with
  | nil=>rfl
  | cons a l ih=>rw [List.flatMap_cons,zla,ih];simp [encP2];omega
 refine Array.ext_getElem? fun t=>?_
 by_cases h:t < l.length * 2
 ·have h1:t < (flatK encP2 2 l.toArray).size:=by rw [size_flatK];simpa using h
  have h2:=get_flatK encP2 2 l.toArray t (by simpa using h)
  rw [Array.getElem?_eq_getElem h1,List.getElem?_toArray,zu7 l t h]
  rw [getElem!_pos _ t h1] at h2
  rw [h2];simp
 ·rw [Array.getElem?_eq_none (by rw [size_flatK];simp;omega),List.getElem?_toArray,List.getElem?_eq_none (by rw [hlen];omega)]
theorem zsb {S:PH}:∀{l:List (Int×Int)} {xs:List Value},PV.RepRow S (l.flatMap pv) xs→xs=l.flatMap encP2∧∀x∈l,InI x.1∧InI x.2
 | [],xs,h=>⟨by simpa [PV.RepRow] using h,fun x hx=>by cases hx⟩
 | a::l,xs,h=>by
  have h':PV.RepRow S (.int .i64 a.1::.int .i64 a.2::l.flatMap pv) xs:=h
  simp only [PV.RepRow,repI_iff] at h'
  obtain ⟨v1,_,rfl,⟨rfl,h1⟩,v2,ys,rfl,⟨rfl,h2⟩,hr⟩:=h'
  obtain ⟨rfl,h3⟩:=zsb hr
  exact ⟨rfl,fun x hx=>(List.mem_cons.1 hx).elim (fun e=>e ▸ ⟨h1,h2⟩) (h3 x)⟩
theorem zlb {S:PH}:∀{l:List (Int×Int)},(∀x∈l,InI x.1∧InI x.2)→PV.RepRow S (l.flatMap pv) (l.flatMap encP2)
 | [],_=>by simp [PV.RepRow]
 | a::l,h=>by
  have ih:=zlb (S:=S) (l:=l) fun x hx=>h x (zmm _ hx)
  show PV.RepRow S (.int .i64 a.1::.int .i64 a.2::l.flatMap pv) (.int .i64 a.1::.int .i64 a.2::l.flatMap encP2)
  simp only [PV.RepRow,repI_iff]
  have h0:=h a (zms)
  exact ⟨_,_,rfl,⟨rfl,h0.1⟩,_,_,rfl,⟨rfl,h0.2⟩,ih⟩
theorem Z4o {l:List (Int×Int)} {cur:Array Value} (h:l.length * 2≤cur.size):(putCells id 0 (flatK encP2 2 l.toArray) cur).toList.take (l.length * 2)=l.flatMap encP2:=by
 rw [zn2]
 have hlen:(l.flatMap encP2).length=l.length * 2:=by
  have:=size_flatK encP2 2 l.toArray
  rw [zn2] at this;simpa using this
 refine List.ext_getElem? fun i=>?_
 rw [List.getElem?_take]
 by_cases hi:i < l.length * 2
 ·rw [if_pos hi,Array.getElem?_toList]
  unfold putCells
  rw [Array.getElem?_mapIdx]
  have hc:i < cur.size:=by omega
  have hi2:i < (l.flatMap encP2).length:=by omega
  rw [Array.getElem?_eq_getElem hc,Option.map_some,if_pos (by simp only [List.size_toArray];omega),Nat.sub_zero]
  rw [zge hi2]
  simp [hi2]
  rw [zge hi2]
  rfl
 ·rw [if_neg hi,List.getElem?_eq_none (by omega)]
set_option maxHeartbeats 1000000 in
theorem Z0y (l:List (Int×Int)) (v:Value) (S K:PH) (I:List Itm) (h:Held S K (orow 49 l v::I)) (hl:l.length≤40000000) (hnd:l.Nodup) :
  Tri Tryz.prog 32 #[v,.func (.func 33) #[] #[]] K fun x K'=>x=.returned (.tuple #[])∧∃l',Held S K' (orow 49 l' v::I)∧l'.Pairwise lexLt∧∀x,x∈l'↔x∈l:=by
 intro w hv
 have hr:=h.row (zms)
 obtain ⟨xs,ho,hrow⟩:=hr.own
 obtain ⟨rfl,hin⟩:=zsb hrow
 rcases ho.2 with ⟨rfl,hn⟩ | ⟨g,cap,cur,rfl,hg,h2,h3,h4,h5⟩
 ·have:l=[]:=List.length_eq_zero_iff.1 hn
  subst this
  refine (Tryz.sort42none none 0 _ w).mono ?_
  rintro e w' ⟨rfl,rfl⟩
  exact ⟨K,.refl hv,rfl,[],h,.nil,fun x=>Iff.rfl⟩
 ·have hsz:sz (Int×Int)=2:=rfl
  rw [hsz] at h4 h5
  have hw:=hv _ _ hg
  have hflen:(l.flatMap encP2).length=l.length * 2:=by rw [ho.1,hsz]
  have hcur:∀j,j < l.length * 2→cur[j]?=(l.flatMap encP2)[j]?:=fun j hj=>by
   have:=congrArg (fun x=>x[j]?) h5
   simp only [List.getElem?_take,if_pos hj,Array.getElem?_toList] at this
   exact this
  have hH:HoldsK encP2 2 w g 0 l.toArray:=by
   intro j hj
   rw [size_flatK,List.size_toArray] at hj
   refine ⟨?_,?_⟩
   ·unfold World.cell?
    simp only [hw,Nat.zero_add]
    have:=hcur j hj
    rw [zge (by omega)] at this
    simp only [Option.isSome_none,Bool.false_eq_true,if_false,this,id]
    rw [zn2,getElem!_pos _ j (by simpa using (by omega:j < (l.flatMap encP2).length))]
    simp
   ·unfold World.frozen?
    simp [hw]
  have eg:∀args w,(callFunc 33 args).run Tryz.prog w=.ok (.enter 33 args) w:=enters_of Tryz.func33 (by kernel_rfl) rfl
  have hcon:=AnyQ.slices_SortFunc Tryz.sortPairs 2 Tryz.isAgg49 Tryz.sizeOf49 encP2 (fun _=>rfl) (fun x v hv=>by simp [encP2] at hv;rcases hv with rfl | rfl<;>rfl) cmpP2 swoP 33 #[] g 0 cap l.toArray w eg (Z07 g 0 l.toArray.size w) hH (hv.lt hg) (by simp only [List.size_toArray];omega)
  rw [List.size_toArray] at hcon
  refine Calls.mono hcon ?_
  rintro e w' ⟨rfl,d',n,os,hp,hs,rfl⟩
  obtain ⟨l',rfl⟩:∃l':List (Int×Int),d'=l'.toArray:=⟨d'.toList,by simp⟩
  obtain ⟨hp1,_,hp3⟩:=hp
  simp only [List.size_toArray] at hp1
  have hperm:l'.Perm l:=by
   have e1:∀m:List (Int×Int),m.length=l.length→(m.toArray.extract 0 l.length).toList=m:=fun m hm=>by
    rw [←hm];simp
   rw [e1 l' hp1,e1 l rfl] at hp3
   exact hp3
  obtain ⟨cur',hcur'⟩:∃c,c=putCells id 0 (flatK encP2 2 l'.toArray) cur:=⟨_,rfl⟩
  have hadv:Adv K w (K.upd g (.cells cur' 49 (0,0))) (putRowK encP2 2 (Sort.ahead w n) g 0 l'.toArray):=by
   refine Adv.put (w':=putRowK encP2 2 (Sort.ahead w n) g 0 l'.toArray) hv hg ?_ ?_ rfl rfl rfl
   ·simp [putRowK,Sort.putRow,Sort.mapBlock,Sort.ahead]
   ·intro k
    show (w.heap.modify g _)[k]?=_
    rw [Array.getElem?_modify]
    by_cases e:k=g
    ·subst e;rw [if_pos rfl,if_pos rfl,hw,hcur'];rfl
    ·rw [if_neg e,if_neg (Ne.symm e)]
  have hSg:S g=none:=hr.off g rfl
  have hle:PH.le S (K.upd g (.cells cur' 49 (0,0))):=fun k o hk=>by
   rw [PH.upd_other (fun e=>by rw [e,hSg] at hk;cases hk)];exact h.sh k o hk
  refine ⟨_,hadv.trans (zua hadv.vis os),rfl,l',?_,?_,fun x=>hperm.mem_iff⟩
  ·refine h.went ⟨hr.off,l'.flatMap encP2,⟨by have:=size_flatK encP2 2 l'.toArray;rw [zn2] at this;simpa [hsz] using this,.inr ⟨g,cap,cur',by rw [hp1],PH.upd_same,by rw [hp1];exact h2,h3,?_,?_⟩⟩,zlb fun x hx=>hin x (hperm.mem_iff.1 hx)⟩ hle ⟨fun k o hk hn=>?_,fun k hk=>.inl hk⟩
   ·rw [hcur',hsz,←h4];simp [putCells]
   ·rw [hcur',hsz]
    exact Z4o (by rw [hp1];omega)
   ·rw [PH.upd_other (fun e=>hn (by rw [e];rfl))];exact hk
  ·have hnd':l'.Nodup:=hperm.nodup_iff.2 hnd
   rw [List.pairwise_iff_getElem]
   intro i j hi hj hij
   have h1:=hs i j (Nat.zero_le _) hij (by rw [←hp1];exact hj)
   rw [getElem!_pos _ i (by simpa using hi),getElem!_pos _ j (by simpa using hj)] at h1
   simp only [List.getElem_toArray] at h1
   rw [ltP,zdf] at h1
   have hne:l'[i]≠l'[j]:=fun e=>by
    have:=(List.getElem_inj hnd').1 e
    omega
   have hne2:¬(l'[i].1=l'[j].1∧l'[i].2=l'[j].2):=fun e=>hne (Prod.ext e.1 e.2)
   unfold lexLt
   omega
theorem Z0s {l:List (Int×Int)} (hn:l.Nodup) (h:∀x∈l,(0≤x.1∧x.1 < 2000)∧0≤x.2∧x.2 < 2000):l.length≤40000000:=by
 have h1:(l.map fun x=>x.1 * 2000+x.2).length≤((List.range 4000000).map Int.ofNat).length:=z0k (by
  rw [List.Nodup,List.pairwise_map]
  refine List.Pairwise.imp_of_mem ?_ hn
  intro a b ha hb hne he
  have h1:=h a ha
  have h2:=h b hb
  exact hne (Prod.ext (by omega) (by omega))) fun y hy=>by
   obtain ⟨x,hx,rfl⟩:=List.mem_map.1 hy
   have h1:=h x hx
   exact List.mem_map.2 ⟨(x.1 * 2000+x.2).toNat,List.mem_range.2 (by omega),show (((x.1 * 2000+x.2).toNat:Nat):Int)=x.1 * 2000+x.2 by omega⟩
 rw [List.length_map,List.length_map,List.length_range] at h1
 exact Nat.le_trans h1 (by omega)
set_option maxHeartbeats 4000000 in
theorem Z0t (p:PrcX) (bv:Value) (S:PH) (hbv:SlR S p.blocks bv) (hw:p.wt≤1048576) :
  Tri Tryz.prog zt4 #[.agg (prcVs p bv).toArray] S fun x S'=>PH.le S S'∧((mayP p=false∧x=.returned (.tuple #[.slice none 0 0,.int .i64 150]))∨(mayP p=true∧∃l v,x=.returned (.tuple #[v,.int .i64 0])∧SlR S' l v∧EdgesOf p l)):=by
 obtain ⟨hp,hE⟩:=PrcX.fit_wt hw
 obtain ⟨b0,c0,rfl⟩:=hbv.sl
 refine zq3 (prcVs p (.slice b0 p.blocks.length c0)) (by kernel_rfl) (by kernel_rfl) ?_
 simp only [prcVs]
 refine z05 [.bool (mayP p)] zlf (zrv p (.slice b0 p.blocks.length c0) S hbv hp hE) rfl z01 fun K1 l1=>⟨fun g=>?_,fun g=>?_⟩
 ·simp only [evs,evb] at g
  have hm:mayP p=false:=by simpa using g
  exact ⟨l1,.inl ⟨hm,rfl⟩⟩
 simp only [evs,evb] at g
 have hmay:mayP p=true:=by simpa using g
 obtain ⟨hr0,hr1,_,_,hne⟩:=zor hmay
 refine z02 zir (zsd p (.slice b0 p.blocks.length c0) K1 (hbv.le l1) ⟨hp,hE⟩ hmay) ?_
 rintro x K2 ⟨S1,gr,es,cl,N,l2,rfl,h2,gok,rel⟩
 refine ⟨_,[.map (some gr)],rfl,rfl,rfl,z01,?_⟩
 obtain ⟨S3,l3,l3',hg⟩:=znj h2 gok
 obtain ⟨R,hRi⟩:∃R:Nat,p.regs=(R:Int):=⟨p.regs.toNat,by omega⟩
 have hR2:R≤2000:=by omega
 obtain ⟨ok,hadj⟩:=zpk hRi hmay hg rel
 have l03:PH.le S S3:=PH.le_trans l1 (PH.le_trans l2 l3)
 have hmS:MapS S3 (.map (some gr)) (outM N):=by
  obtain ⟨gr',es',cl',h1,h2,h3⟩:=hg.at_
  exact .inl ⟨gr',es',cl',h1,h2,h3.outer⟩
 have hfew:∀l:List (Int×Int),l.Nodup→(∀x y:Int,(x,y)∈l→y∈adjN N x)→l.length≤40000000:=fun l hn hl=>Z0s hn fun z hz=>by
  obtain ⟨zx,zy⟩:=z
  have h1:=ok.rel _ _ (hl zx zy hz)
  simp only
  omega
 simp only [cns]
 refine zed (m:=outM N) (v:=.map (some gr)) rfl rfl z9h (by kernel_rfl) l3' hmS (fun y hy=>by obtain ⟨z,_,rfl⟩:=List.mem_map.1 hy;rfl) rfl
  (fun done vs K i o=>∃(l:List (Int×Int)) (v:Value) (S':PH),vs=[v]∧PH.le S3 S'∧Held S' K [.blk i o,orow 49 l v]∧l.Nodup∧∀x y:Int,(x,y)∈l↔x∈done∧y∈adjN N x∧x < y)
  (fun i o hi=>⟨[],.slice none 0 0,S3,rfl,PH.le_refl _,((Held.nil l3').empty (α:=Int×Int) 49).new hi o,List.nodup_nil,fun x y=>by simp⟩) ?_ ?_ ?_ ?_
 ·rintro done vs K i o ⟨l,v,S',rfl,le,h,hn,hm⟩
  exact ⟨h.blk (zms),PH.le_trans le h.sh⟩
 ·rintro done vs K i o o' ⟨l,v,S',rfl,le,h,hn,hm⟩
  exact ⟨l,v,S',rfl,le,h.put o',hn,hm⟩
 ·rintro done a wv vs K4 i o J hy hyd _ ⟨l4,v4,S4,rfl,le4,h4,hn4,hm4⟩ hJ
  obtain ⟨x,hx,hxx⟩:=List.mem_map.1 hy
  simp only [Prod.mk.injEq] at hxx
  obtain ⟨rfl,rfl⟩:=hxx
  obtain ⟨j,hj⟩:=List.getElem?_of_mem hx
  obtain ⟨_,w,hw1,hw2,hw3⟩:=hg.look x.1
  rw [zfw hg.keys hj] at hw1
  have hw1':w=.map (some x.2.ref):=hw1.symm
  subst hw1'
  simp only [cns]
  refine zed (m:=encS (adjN N x.1)) (v:=.map (some x.2.ref)) rfl rfl zbp (by kernel_rfl) (PH.le_trans le4 h4.sh) hw3 (fun y hy=>by obtain ⟨z,_,rfl⟩:=List.mem_map.1 hy;rfl) rfl
   (fun done2 vs K i2 o2=>(∀y∈done2,y∈adjN N x.1)∧∃(l:List (Int×Int)) (v:Value) (S':PH),vs=[v]∧PH.le S3 S'∧Held S' K [.blk i2 o2,.blk i o,orow 49 l v]∧l.Nodup∧∀c d:Int,(c,d)∈l↔(c∈done∧d∈adjN N c∧c < d)∨(c=x.1∧d∈done2∧c < d))
   (fun i2 o2 hi2=>⟨fun y hy=>by (cases hy),l4,v4,S4,rfl,le4,h4.new hi2 o2,hn4,fun c d=>by rw [hm4];simp⟩) ?_ ?_ ?_ ?_
  ·rintro done2 vs K i2 o2 ⟨_,l,v,S',rfl,le,h,hn,hm⟩
   exact ⟨h.blk (zms),PH.le_trans le h.sh⟩
  ·rintro done2 vs K i2 o2 o' ⟨hd2,l,v,S',rfl,le,h,hn,hm⟩
   exact ⟨hd2,l,v,S',rfl,le,h.put o',hn,hm⟩
  ·rintro done2 b wb vs K5 i2 o2 J2 hyb hybd _ ⟨hd2,l5,v5,S5,rfl,le5,h5,hn5,hm5⟩ hJ2
   obtain ⟨b',hb',hbb⟩:=List.mem_map.1 hyb
   simp only [Prod.mk.injEq] at hbb
   obtain ⟨rfl,rfl⟩:=hbb
   have hrel:=ok.rel _ _ hb'
   simp only [cns]
   refine ⟨fun g=>?_,fun g=>?_⟩
   ·simp only [evs,evb,zdt] at g
    have hnew:(x.1,b')∉l5:=fun hh=>by
     rcases (hm5 _ _).1 hh with ⟨h1,_⟩ | ⟨_,h1,_⟩
     ·exact hyd h1
     ·exact hybd h1
    have hn6:(l5++[(x.1,b')]).Nodup:=by
     rw [List.nodup_append]
     exact ⟨hn5,by simp,fun a ha b hb=>by rw [List.mem_singleton.1 hb];exact fun e=>hnew (e ▸ ha)⟩
    have hm6:∀c d:Int,(c,d)∈l5++[(x.1,b')]↔(c∈done∧d∈adjN N c∧c < d)∨(c=x.1∧d∈b'::done2∧c < d):=fun c d=>by
     rw [List.mem_append,hm5,List.mem_singleton,Prod.mk.injEq]
     constructor
     ·rintro ((h | ⟨h1,h2,h3⟩) | ⟨rfl,rfl⟩)
      ·exact .inl h
      ·exact .inr ⟨h1,zmm _ h2,h3⟩
      ·exact .inr ⟨rfl,zms,g⟩
     ·rintro (h | ⟨h1,h2,h3⟩)
      ·exact .inl (.inl h)
      ·rcases List.mem_cons.1 h2 with rfl | h2
       ·exact .inr ⟨h1,rfl⟩
       ·exact .inl (.inr ⟨h1,h2,h3⟩)
    have hd3:∀y∈b'::done2,y∈adjN N x.1:=fun y hy=>(List.mem_cons.1 hy).elim (fun e=>e ▸ hb') (hd2 y)
    have hlen:=hfew _ hn6 fun c d hcd=>by
     rcases (hm6 c d).1 hcd with ⟨_,h1,_⟩ | ⟨rfl,h1,_⟩
     ·exact h1
     ·exact hd3 _ h1
    rw [zla,zlc,List.length_nil] at hlen
    have hp:[Itm.blk i2 o2,.blk i o,orow 49 l5 v5].Perm [orow 49 l5 v5,.blk i2 o2,.blk i o]:=
     List.perm_append_comm (l₁:=[Itm.blk i2 o2,.blk i o]) (l₂:=[orow 49 l5 v5])
    refine z0m (more:=[(x.1,b')]) (b:=16) [.agg ([.int .i64 x.1,.int .i64 b']:List Value).toArray] Z5e Z27 rfl (by decide) (by decide) (h5.perm hp) (by kernel_rfl) (.cons (pair_iff.2 ⟨rfl,by unfold InI;simp only;omega,by unfold InI;simp only;omega⟩) .nil) z01 (fun _=>by kernel_rfl) (fun _=>by kernel_rfl)
     (by simp only [maxLen,zlc,List.length_nil];omega) (by simp only [zlc,List.length_nil];omega) fun u v' S7 K7 l7 h7=>⟨z01,_,z00,hJ2 _ _ ⟨hd3,_,v',S7,rfl,PH.le_trans le5 l7,h7.perm ?_,hn6,hm6⟩⟩
    exact List.perm_append_comm (l₁:=[orow 49 (l5++[(x.1,b')]) v']) (l₂:=[Itm.blk i2 o2,.blk i o])
   ·simp only [evs,evb,zdf] at g
    refine ⟨_,z00,hJ2 _ _ ⟨fun y hy=>(List.mem_cons.1 hy).elim (fun e=>e ▸ hb') (hd2 y),l5,v5,S5,rfl,le5,h5,hn5,fun c d=>?_⟩⟩
    rw [hm5]
    constructor
    ·rintro (h | ⟨h1,h2,h3⟩)
     ·exact .inl h
     ·exact .inr ⟨h1,zmm _ h2,h3⟩
    ·rintro (h | ⟨h1,h2,h3⟩)
     ·exact .inl h
     ·rcases List.mem_cons.1 h2 with rfl | h2
      ·subst h1;exact absurd h3 g
      ·exact .inr ⟨h1,h2,h3⟩
  ·rintro done2 vs K5 i2 o2 J2 hdone2 _ _ ⟨hd2,l5,v5,S5,rfl,le5,h5,hn5,hm5⟩
   have hdone':∀y,y∈done2↔y∈adjN N x.1:=fun y=>by
    rw [←hdone2,List.map_map]
    simp only [Function.comp_def,List.map_id']
   refine ⟨_,z0s rfl z00,hJ _ _ ⟨l5,v5,S5,rfl,le5,h5.tail,hn5,fun c d=>?_⟩⟩
   rw [hm5]
   constructor
   ·rintro (⟨h1,h2,h3⟩ | ⟨rfl,h2,h3⟩)
    ·exact ⟨zmm _ h1,h2,h3⟩
    ·exact ⟨zms,hd2 _ h2,h3⟩
   ·rintro ⟨h1,h2,h3⟩
    rcases List.mem_cons.1 h1 with rfl | h1
    ·exact .inr ⟨rfl,(hdone' _).2 h2,h3⟩
    ·exact .inl ⟨h1,h2,h3⟩
 ·rintro done vs K4 i o J hdone _ _ ⟨l4,v4,S4,rfl,le4,h4,hn4,hm4⟩
  simp only [cns]
  have hmem:∀x y:Int,(x,y)∈l4↔y∈adjN N x∧x < y:=fun x y=>by
   rw [hm4]
   constructor
   ·rintro ⟨_,h1,h2⟩;exact ⟨h1,h2⟩
   ·rintro ⟨h1,h2⟩
    refine ⟨(hdone x).1 ?_,h1,h2⟩
    rcases zmr hg.keys x with ⟨j,z,hj,hz,_⟩ | ⟨_,he⟩
    ·rw [List.map_map]
     exact List.mem_map.2 ⟨z,List.mem_of_getElem? hj,hz⟩
    ·rw [he] at h1;cases h1
  refine z02 (by kernel_rfl) (Z0y l4 v4 S4 K4 [] h4.tail (hfew l4 hn4 fun x y hxy=>((hmem x y).1 hxy).1) hn4) ?_
  rintro x K5 ⟨rfl,l',h5,hpw,hl'⟩
  refine ⟨_,[],rfl,rfl,rfl,z01,?_⟩
  obtain ⟨S6,s6,l6,h6⟩:=h5.freeze
  refine ⟨PH.le_trans l03 (PH.le_trans le4 (PH.le_trans l6 h6.sh)),.inr ⟨hmay,l',v4,rfl,s6.le h6.sh,hpw,fun a b=>?_⟩⟩
  rw [hl',hmem,hadj]
  constructor
  ·rintro ⟨⟨h1,h2⟩,h3⟩
   have:=zxe hmay h2
   exact ⟨this.1.1,h3,this.2.2,h2⟩
  ·rintro ⟨h1,h2,h3,h4⟩
   exact ⟨⟨by omega,h4⟩,h2⟩
section
variable {P:Program} {Ψ:Value→PH→Prop} {H:PH}
theorem zt2 {d:Nat} {t e:TypeId} {a b c f:Value} (ht:P.underlying t=some (.array 2 e)) (hiz:(P.info? e).map (·.size)=some 1) {k:IntKind} (he:P.underlying e=some (.int k)) {x1 x2 y1 y2:Int} (ha:a=.int k x1) (hb:b=.int k x2) (hc:c=.int k y1) (hf:f=.int k y2) {Φ:Bool→PH→Prop} :
  wpS P (Op.equalIn (d+2) t (.agg #[a,b]) (.agg #[c,f])) Φ Ψ H=Φ (decide (x1=y1∧x2=y2)) H:=by
 subst ha hb hc hf
 obtain ⟨i,hi,hz⟩:=Option.map_eq_some_iff.1 hiz
 have hm:∀m n:Int,(match P.underlying e,Value.int k m,Value.int k n with
  | some (.int _),.int k _,.int k' _=>decide (k=k')
  | some .string,.string _,.string _=>true
  | some .bool,.bool _,.bool _=>true
  | _,_,_=>false)=true:=fun m n=>by rw [he];exact decide_eq_true rfl
 have hfl:flatB (.int k)=true:=rfl
 have hr:List.range' 0 2 1=[0,1]:=rfl
 unfold Op.equalIn
 simp only [z04,z09 ht,z33 hi,hz,Std.Legacy.Range.forIn_eq_forIn_range',Std.Legacy.Range.size]
 show wpS P (forIn (List.range' 0 2 1) _ _) _ Ψ H=_
 rw [hr,List.forIn_cons]
 simp only [z04,Nat.zero_mul,Nat.one_mul,zb1 he hfl (show (#[Value.int k x1,.int k x2]:Array Value)[0]?=some (.int k x1) from rfl),zb1 he hfl (show (#[Value.int k y1,.int k y2]:Array Value)[0]?=some (.int k y1) from rfl),zem (hm x1 y1)]
 by_cases h1:x1=y1
 ·have e1:z3c (.int k x1) (.int k y1)=true:=by simp [z3c,h1]
  simp only [e1,Bool.not_true,Bool.false_eq_true,if_false,z0d]
  rw [List.forIn_cons]
  simp only [z04,Nat.zero_mul,Nat.one_mul,zb1 he hfl (show (#[Value.int k x1,.int k x2]:Array Value)[1]?=some (.int k x2) from rfl),zb1 he hfl (show (#[Value.int k y1,.int k y2]:Array Value)[1]?=some (.int k y2) from rfl),zem (hm x2 y2)]
  by_cases h2:x2=y2
  ·have e2:z3c (.int k x2) (.int k y2)=true:=by simp [z3c,h2]
   rw [show decide (x1=y1∧x2=y2)=true from decide_eq_true ⟨h1,h2⟩]
   simp [e2,z0d]
  ·have e2:z3c (.int k x2) (.int k y2)=false:=by simp [z3c,h2]
   rw [show decide (x1=y1∧x2=y2)=false from decide_eq_false fun h=>h2 h.2]
   simp [e2,z0d]
 ·have e1:z3c (.int k x1) (.int k y1)=false:=by simp [z3c,h1]
  simp [e1,h1,z0d]
theorem zx0 {op:BinOp} {t:TypeId} {x y:Operand} {u v:Array Value} (hop:op=.eql∨op=.neq) (hg:P.eqGuardType P.depth t=false) {Ξ:Unit→PH→Prop}:wpS P (eqGuard op t x y (.agg u) (.agg v)) Ξ Ψ H=Ξ () H:=by
 rcases hop with rfl | rfl
 ·show wpS P (if (!P.eqGuardType P.depth t)=true then _ else _) Ξ Ψ H=_
  rw [if_pos (by rw [hg];rfl)];rfl
 ·show wpS P (if (!P.eqGuardType P.depth t)=true then _ else _) Ξ Ψ H=_
  rw [if_pos (by rw [hg];rfl)];rfl
variable {X:List PanicEntry→PH→Prop} {β:Type} {E:List Value} {L:LK} {K:β→List Value→PH→LK→Prop}
theorem zx4 {t e U ty:TypeId} {x y:Operand} {args:List (Nat×VE)} {k:Fm β} {x1 x2 y1 y2:Int} (ht:P.underlying t=some (.array 2 e)) (hiz:(P.info? e).map (·.size)=some 1) (he:P.underlying e=some (.int .i64)) (hg:P.eqGuardType P.depth t=false)
  (hx:argEv E args x=.agg #[.int .i64 x1,.int .i64 x2]) (hy:argEv E args y=.agg #[.int .i64 y1,.int .i64 y2]) (hk:den P X k (E++[.bool (decide (x1=y1∧x2=y2))]) H L K):den P X (.sem (.binOp .eql t x y U) ty args (.sc .bool) [] k) E H L K:=by
 show wpS P (execOp (argEv E args) (bare _ ty)) _ _ H
 rw [zpd,hx,hy,zx0 (.inl rfl) hg]
 show wpS P (do pure (Value.bool (←Op.equal t (.agg #[.int .i64 x1,.int .i64 x2]) (.agg #[.int .i64 y1,.int .i64 y2]))):Sem Value) _ _ H
 rw [z04]
 show wpS P (Op.equalIn (9998+2) t _ _) _ _ H
 rw [zt2 ht hiz he rfl rfl rfl rfl]
 exact ⟨[_],rfl,rfl,z01,hk⟩
end
theorem uPair:Tryz.prog.underlying 49=some (.array 2 3):=by kernel_rfl
theorem Z6o:(Tryz.prog.info? 3).map (·.size)=some 1:=by kernel_rfl
theorem gPair:Tryz.prog.eqGuardType Tryz.prog.depth 49=false:=by kernel_rfl
theorem Z3y {p:PrcX} {b:BlkX} (hb:p.blocks=[b]) (hw:b.e.ways=[]) (x:Int) (k:Nat):z0p p x 0 k↔thru x (b.ins.drop k) (b.e.reads x=true):=by
 have h1:∀L,z6o b.e p.blocks.length x L↔b.e.reads x=true:=fun L=>by
  unfold z6o EndX.leads
  rw [hw];simp
 constructor
 ·rintro ⟨c,hc,h⟩
  rw [hb] at hc
  have:b=c:=by simpa using hc
  subst this
  exact z54 (h1 _).1 h
 ·intro h
  exact ⟨b,by rw [hb];rfl,z54 (h1 _).2 h⟩
theorem Z18 {p:PrcX} {b:BlkX} (hb:p.blocks=[b]) (hc:b.e.calls=false):zl9 p=z2j p 0 b b.ins.length:=by
 unfold zl9 z3b zek
 rw [hb]
 simp [hc]
def smC1:InsX:=⟨[99,111,110,115,116],1,[],.mk 0 0 [] [],0⟩
def smC2:InsX:=⟨[99,111,110,115,116],2,[],.mk 0 0 [] [],0⟩
def smP:InsX:=⟨[43],3,[1,2],.mk 0 0 [] [],0⟩
def smB:BlkX:=⟨[smC1,smC2,smP],⟨2,3,[],0,0,0⟩⟩
def smPr:PrcX:=⟨0,0,4,[smB]⟩
theorem sm_at (x:Int) (k:Nat):z0p smPr x 0 k↔thru x (smB.ins.drop k) (x=3):=by
 rw [Z3y (b:=smB) rfl rfl]
 have h:(smB.e.reads x=true)↔x=3:=by
  show decide ((3:Int)=x)=true↔x=3
  exact ⟨fun h=>(of_decide_eq_true h).symm,fun h=>decide_eq_true h.symm⟩
 exact ⟨z54 h.1,z54 h.2⟩
theorem sm0:liveL smPr 0 0=[]:=zmv (by decide) fun x=>by
 rw [sm_at];simp [smB,smC1,smC2,smP,thru,InsX.fills,tieB];omega
theorem sm1:liveL smPr 0 1=[1]:=zmv (by decide) fun x=>by
 rw [sm_at];simp [smB,smC1,smC2,smP,thru,InsX.fills,tieB];omega
theorem sm2:liveL smPr 0 2=[1,2]:=zmv (by decide) fun x=>by
 rw [sm_at];simp [smB,smC1,smC2,smP,thru,InsX.fills,tieB];omega
theorem sm3:liveL smPr 0 3=[3]:=zmv (by decide) fun x=>by
 rw [sm_at];simp [smB,smC1,smC2,smP,thru,InsX.fills,tieB]
theorem Z2w:zl9 smPr=[⟨1,-1,[1]⟩,⟨2,-1,[1,2]⟩,⟨3,-1,[3]⟩]:=by
 rw [Z18 (b:=smB) rfl rfl]
 show z2j smPr 0 smB 3=_
 rw [z5d (x:=smP) rfl,z5d (x:=smC2) rfl,z5d (x:=smC1) rfl]
 unfold z2j zb5
 rw [if_neg (by decide),if_neg (by decide),if_neg (by decide),if_neg (by decide),if_neg (by decide),if_neg (by decide),sm1,sm2,sm3]
 rfl
theorem zmy (a b:Int):MeetP smPr a b↔(a=1∧b=1)∨(a=2∧(b=1∨b=2))∨(b=2∧(a=1∨a=2))∨(a=3∧b=3):=by
 unfold MeetP
 rw [sm0,Z2w]
 simp [FillX.sym]
 omega
theorem ztw:mayP smPr=true:=by decide
theorem sm_wt:smPr.wt≤1048576:=by decide
theorem Z2x {l:List (Int×Int)} (h:EdgesOf smPr l):l=[(1,2)]:=by
 refine Z06 h.sorted (List.pairwise_singleton _ _) fun x=>?_
 obtain ⟨a,b⟩:=x
 rw [h.mem,zmy,List.mem_singleton,Prod.mk.injEq]
 simp only [smPr]
 omega
theorem Z63 {l:List Int} {n:Int} (h:Placed smPr 2 n l):n=0:=by
 have h0:=h.lo
 by_cases hn:0 < n
 ·obtain ⟨U,hU,i,hi,hUi⟩:=h.tight hn
  obtain ⟨f,hf,hc⟩:=hU i hi hUi
  have hi4:i < 4:=hi
  have hno:∀j,j < 4→f j=true→(i=1∧j=2)∨(i=2∧j=1):=fun j hj hfj=>by
   obtain ⟨_,h1,h2⟩:=hf j hj hfj
   rw [zmy] at h2
   omega
  have hle:cntB f 4≤1:=by
   have hb:∀j,j < 4→(i≠1∨j≠2)→(i≠2∨j≠1)→f j=false:=fun j hj h1 h2=>by
    cases hfj:f j with
    | false=>rfl
    | true=>have:=hno j hj hfj;omega
   simp only [cntB]
   have e0:=hb 0 (by omega) (by omega) (by omega)
   have e3:=hb 3 (by omega) (by omega) (by omega)
   rw [e0,e3]
   by_cases hi1:i=1
   ·rw [hb 1 (by omega) (by omega) (by omega)];cases f 2<;>simp
   ·rw [hb 2 (by omega) (by omega) (by omega)];cases f 1<;>simp
  have hc':(2:Int)≤(cntB f 4:Int):=hc
  omega
 ·omega
theorem zvw {l:List Int} {k n:Int} (h:Placed smPr k n l):∃a b c d:Int,l=[a,b,c,d]∧b≠c:=by
 have hl:l.length=4:=h.len
 match l,hl with
 | [a,b,c,d],_=>
  refine ⟨a,b,c,d,rfl,fun e=>?_⟩
  subst e
  exact h.apart 1 2 b rfl rfl (by omega) ((zmy _ _).2 (by simp))
theorem Z5u {l:List Int} {n:Int} (h:Placed smPr 1 n l):n=1:=by
 obtain ⟨a,b,c,d,rfl,hne⟩:=zvw h
 have h0:=h.lo
 have hb:=h.all 1 b rfl
 have hc:=h.all 2 c rfl
 by_cases h2:n≤1
 ·omega
 ·obtain ⟨r,hr⟩:=List.getElem?_of_mem (h.used n (by omega) (by omega))
  obtain ⟨m,hm1,hm2,hm3⟩:=h.few r n hr
  have h1:m.length≤[3 - (r:Int)].length:=z0k hm1 fun y hy=>by
   have:=(hm2 y hy)
   rw [zmy] at this
   rw [List.mem_singleton]
   omega
  rw [zlc,List.length_nil] at h1
  omega
theorem zoh {S:PH} {op:List UInt8} {to:Int} {args:List Int} {av:Value} (ha:SlR S args av) (ho:op.length≤maxLen) (ht:InI to):CsR S (⟨op,to,args,.mk 0 0 [] [],0⟩:InsX) [txt op,.int .i64 to,av,.int .i64 0,.int .i64 0,txt [],.slice none 0 0,.int .i64 0]:=
 ins_iff.2 ⟨av,.slice none 0 0,rfl,ho,ht,ha,(by decide:InI 0),(by decide:InI 0),Nat.zero_le _,z4i _,(by decide:InI 0)⟩
theorem Z4e {S:PH} {kind reg:Int} (hk:InI kind) (hr:InI reg):CsR S (⟨kind,reg,[],0,0,0⟩:EndX) [.int .i64 kind,.int .i64 reg,.slice none 0 0,.int .i64 0,.int .i64 0,.int .i64 0]:=
 end_iff.2 ⟨.slice none 0 0,rfl,hk,hr,z4i _,(by decide:InI 0),(by decide:InI 0),(by decide:InI 0)⟩
set_option maxHeartbeats 1000000 in
theorem zds (H:PH):Tri Tryz.prog zgf #[] H fun x S'=>PH.le H S'∧∃v,x=.returned (.agg (prcVs smPr v).toArray)∧SlR S' smPr.blocks v:=by
 refine ze4 [] (by kernel_rfl) (by kernel_rfl) ?_
 refine z1o (α:=Int) (l:=[(1:Int),2]) (b:=8) [.int .i64 1,.int .i64 2] z0q z0i rfl (by decide) (by decide) (Held.nil (PH.le_refl H)) (by kernel_rfl) (.cons (z0o (by unfold InI;omega)) (.cons (z0o (by unfold InI;omega)) .nil)) z01 fun v1 K1 h1 _ _=>?_
 obtain ⟨S1,s1,l1,k1⟩:=h1.freeze
 obtain ⟨b1,c1,rfl⟩:=s1.sl
 simp only [cns]
 refine z1o (α:=InsX) (l:=[smC1,smC2,smP]) (b:=112) [.agg ([txt smC1.op,.int .i64 1,.slice none 0 0,.int .i64 0,.int .i64 0,txt [],.slice none 0 0,.int .i64 0]:List Value).toArray,.agg ([txt smC2.op,.int .i64 2,.slice none 0 0,.int .i64 0,.int .i64 0,txt [],.slice none 0 0,.int .i64 0]:List Value).toArray,.agg ([txt smP.op,.int .i64 3,.slice b1 [(1:Int),2].length c1,.int .i64 0,.int .i64 0,txt [],.slice none 0 0,.int .i64 0]:List Value).toArray] zpw zol rfl (by decide) (by decide) k1 (by kernel_rfl) (.cons (zoh (z4i _) (by decide) (by decide)) (.cons (zoh (z4i _) (by decide) (by decide)) (.cons (zoh s1 (by decide) (by decide)) .nil))) z01 fun v2 K2 h2 _ _=>?_
 obtain ⟨S2,s2,l2,k2⟩:=h2.freeze
 obtain ⟨b2,c2,rfl⟩:=s2.sl
 simp only [cns]
 refine z1o (α:=BlkX) (l:=[smB]) (b:=88) [.agg ([.slice b2 [smC1,smC2,smP].length c2,.int .i64 2,.int .i64 3,.slice none 0 0,.int .i64 0,.int .i64 0,.int .i64 0]:List Value).toArray] zq1 zp4 rfl (by decide) (by decide) k2 (by kernel_rfl) (.cons (blk_iff.2 ⟨_,_,rfl,s2,Z4e (by decide) (by decide)⟩) .nil) z01 fun v3 K3 h3 _ _=>?_
 obtain ⟨S3,s3,l3,k3⟩:=h3.freeze
 exact ⟨PH.le_trans l1 (PH.le_trans l2 (PH.le_trans l3 k3.sh)),v3,rfl,s3.le k3.sh⟩
set_option maxHeartbeats 2000000 in
theorem zkx (H:PH):Gives Tryz.prog zhy [] H (.bool true):=by
 refine zfu [] (by kernel_rfl) (by kernel_rfl) ?_
 refine z02 z28 (zds H) ?_
 rintro x K1 ⟨l1,v1,rfl,h1⟩
 obtain ⟨b1,c1,rfl⟩:=h1.sl
 refine ⟨_,[.int .i64 0,.int .i64 0,.int .i64 4,.slice b1 smPr.blocks.length c1],rfl,rfl,rfl,z01,?_⟩
 simp only [cns]
 refine z02 zqy (Z0t smPr _ K1 h1 sm_wt) ?_
 rintro x K2 ⟨l2,⟨hm,_⟩ | ⟨_,l,v2,rfl,h2,he⟩⟩
 ·rw [ztw] at hm;cases hm
 have hl:=Z2x he
 subst hl
 obtain ⟨b2,c2,rfl⟩:=h2.sl
 refine ⟨_,[.slice b2 [((1:Int),(2:Int))].length c2,.int .i64 0],rfl,rfl,rfl,z01,?_⟩
 simp only [cns]
 refine z02 z28 (zds K2) ?_
 rintro x K3 ⟨l3,v3,rfl,h3⟩
 obtain ⟨b3,c3,rfl⟩:=h3.sl
 refine ⟨_,[.int .i64 0,.int .i64 0,.int .i64 4,.slice b3 smPr.blocks.length c3],rfl,rfl,rfl,z01,?_⟩
 simp only [cns]
 refine z02 z6m (zh8 smPr 2 _ K3 h3 (PrcX.fit_wt sm_wt)) ?_
 rintro x K4 ⟨l4,⟨hb,_⟩ | ⟨_,hm,_⟩ | ⟨_,_,l,v4,n,rfl,h4,hpl⟩⟩
 ·omega
 ·rw [ztw] at hm;cases hm
 have hn:=Z63 hpl
 obtain ⟨a,b,c,d,rfl,hne⟩:=zvw hpl
 subst hn
 obtain ⟨b4,c4,rfl⟩:=h4.sl
 refine ⟨_,[.slice b4 [a,b,c,d].length c4,.int .i64 0,.int .i64 0],rfl,rfl,rfl,z01,?_⟩
 simp only [cns]
 refine z02 z28 (zds K4) ?_
 rintro x K5 ⟨l5,v5,rfl,h5⟩
 obtain ⟨b5,c5,rfl⟩:=h5.sl
 refine ⟨_,[.int .i64 0,.int .i64 0,.int .i64 4,.slice b5 smPr.blocks.length c5],rfl,rfl,rfl,z01,?_⟩
 simp only [cns]
 refine z02 z6m (zh8 smPr 1 _ K5 h5 (PrcX.fit_wt sm_wt)) ?_
 rintro x K6 ⟨l6,⟨hb,_⟩ | ⟨_,hm,_⟩ | ⟨_,_,l,v6,n,rfl,h6,hpl6⟩⟩
 ·omega
 ·rw [ztw] at hm;cases hm
 have hn:=Z5u hpl6
 subst hn
 obtain ⟨b6,c6,rfl⟩:=h6.sl
 refine ⟨_,[.slice b6 l.length c6,.int .i64 1,.int .i64 0],rfl,rfl,rfl,z01,?_⟩
 simp only [cns]
 refine z02 z28 (zds K6) ?_
 rintro x K7 ⟨l7,v7,rfl,h7⟩
 obtain ⟨b7,c7,rfl⟩:=h7.sl
 refine ⟨_,[.int .i64 0,.int .i64 0,.int .i64 4,.slice b7 smPr.blocks.length c7],rfl,rfl,rfl,z01,?_⟩
 simp only [cns]
 refine z02 z6m (zh8 smPr 0 _ K7 h7 (PrcX.fit_wt sm_wt)) ?_
 rintro x K8 ⟨l8,⟨_,rfl⟩ | ⟨hb,_⟩ | ⟨hb,_⟩⟩
 rotate_left
 ·omega
 ·omega
 refine ⟨_,[.slice none 0 0,.int .i64 0,.int .i64 1],rfl,rfl,rfl,z01,?_⟩
 simp only [cns]
 have l48:PH.le K4 K8:=PH.le_trans l5 (PH.le_trans l6 (PH.le_trans l7 l8))
 have l28:PH.le K2 K8:=PH.le_trans l3 (PH.le_trans l4 l48)
 have l08:PH.le H K8:=PH.le_trans l1 (PH.le_trans l2 l28)
 obtain ⟨p1,_,pcs,p2,p3⟩:=(h2.le l28).get (i:=0) (a:=((1:Int),(2:Int))) rfl
 obtain ⟨rfl,_⟩:=pair_iff.1 p2
 obtain ⟨q1,_,qcs,q2,q3⟩:=(h4.le l48).get (i:=1) (a:=b) rfl
 obtain ⟨rfl,_⟩:=csIK q2
 obtain ⟨r1,_,rcs,r2,r3⟩:=(h4.le l48).get (i:=2) (a:=c) rfl
 obtain ⟨rfl,_⟩:=csIK r2
 refine ⟨fun vs K=>vs=[.bool true]∧PH.le H K,?_,fun _=>?_,fun g=>?_,fun g=>?_⟩
 ·rintro vs K _ ⟨rfl,h⟩
  exact ⟨rfl,h⟩
 ·simp only [Chk.holds,evs,evb];exact ⟨p1,by simp,by simp⟩
 rotate_left
 ·simp [evs,evb] at g
 refine ⟨[.int .i64 1,.int .i64 2],rfl,?_,?_⟩
 ·simp only [evs,evb];exact p3
 simp only [cns]
 refine zx4 (x1:=1) (x2:=2) (y1:=1) (y2:=2) uPair Z6o uIntK gPair (by kernel_rfl) (by kernel_rfl) ?_
 simp only [cns]
 refine ⟨fun _=>?_,fun _=>?_,fun g=>?_,fun g=>?_⟩
 ·simp only [Chk.holds,evs,evb];exact ⟨q1,by simp,by simp⟩
 ·simp only [Chk.holds,evs,evb];exact ⟨r1,by simp,by simp⟩
 ·refine ⟨[.int .i64 b],rfl,?_,[.int .i64 c],rfl,?_,_,z00,?_,l08⟩
  ·simp only [evs,evb];exact q3
  ·simp only [evs,evb];exact r3
  ·simp [evs,evb,hne]
 ·simp [evs,evb] at g
set_option maxHeartbeats 4000000 in
theorem zog (c:CodeX) (cv:Value) (k:Int) (input:List UInt8) (H:PH) (hc:SlR H c cv) :
  Gives Tryz.prog zax [.agg #[cv],.int .i64 k,txt input] H (.bool true):=by
 obtain ⟨cb,cc,rfl⟩:=hc.sl
 have hmx:maxLen=9223372036854775807:=rfl
 have hcm:=hc.max
 refine z9k [.slice cb c.length cc,.int .i64 k,txt input] (by kernel_rfl) (by kernel_rfl) ?_
 refine ⟨fun vs K=>∃b:Bool,vs=[.bool b]∧PH.le H K∧(b=false→z16 c=0∧1≤k∧k≤24),?_,?_⟩
 rotate_left
 ·refine z05 [.bool true] z74 (zkx H) rfl z01 fun K1 l1=>⟨fun g=>by simp [evs,evb] at g,fun _=>?_⟩
  simp only [cns]
  refine z05 [.int .i64 (z16 c)] z2e (z8h c _ K1 (hc.le l1)) rfl z01 fun K2 l2=>⟨_,z00,(!decide (z16 c=0) || decide (k < 1) || decide (24 < k)),?_,PH.le_trans l1 l2,fun hb=>?_⟩
  ·simp [evs,evb]
  ·simp at hb
   omega
 rintro vs K1 _ ⟨b,rfl,l1,hb⟩
 simp only [cns]
 refine ⟨fun g=>?_,fun g=>?_⟩
 ·exact z05 [.bool true] z74 (zkx K1) rfl z01 fun K2 l2=>⟨rfl,PH.le_trans l1 l2⟩
 have hb0:b=false:=by simpa [evs,evb] using g
 obtain ⟨hck,hk1,hk2⟩:=hb hb0
 clear hb g
 subst hb0
 have gc:=zbx hck
 have hfewc:=gc.few
 have hc1:=hc.le l1
 refine z1p (α:=PrcX) (b:=48) zqz zrz (Held.nil (PH.le_refl K1)) z01 fun v4 K2 h2 _ _=>?_
 simp only [cns]
 refine z8s (b:=48) (more:=c) zqz zrz (by kernel_rfl) (by kernel_rfl) h2 (hc1.srcS h2.sh) (by simp only [maxLen,List.length_nil];omega) (by simp only [List.length_nil];omega) fun v5 K3 h3 _=>⟨z01,?_⟩
 rw [List.nil_append] at h3
 obtain ⟨eb,ec,rfl⟩:=(h3.row (zms)).sl
 simp only [cns]
 refine ⟨fun n vs K=>∃(i:Nat) (q:Nat→Option (List Int×Int)) (d:CodeX) (S':PH),vs=[.bool false,nI i]∧i+n=c.length∧PH.le K1 S'∧MovedTo c d q∧(∀j,i≤j→q j=none)∧Held S' K [orow 30 d (.slice eb c.length ec)],
  ⟨c.length,0,fun _=>none,c,K1,rfl,by omega,PH.le_refl _,.start c,fun _ _=>rfl,h3⟩,?_⟩
 rintro n vs K _ ⟨i,q,d,S2,rfl,hin,l2,hmv,hq,h4⟩
 simp only [cns]
 have l4:=PH.le_trans l2 h4.sh
 refine ⟨fun g=>?_,fun g=>?_⟩
 ·simp only [evs,evb,zdt] at g
  obtain ⟨p,hp⟩:∃p,c[i]?=some p:=⟨_,zge (by omega)⟩
  have hpm:=List.mem_of_getElem? hp
  have gp:=gc.prc hpm
  obtain ⟨hfit,hfitE⟩:=gc.fit hpm
  have hmay:=Z3d gp
  have hpar:=gp.params
  have hrg:=gp.regs
  have hbk:=gp.blocks
  obtain ⟨x1,_,pcs,x2,x3⟩:=hc1.get hp
  obtain ⟨bv,rfl,p1,p2,p3,p4⟩:=prc_iff.1 x2
  obtain ⟨bb,bc,rfl⟩:=p4.sl
  refine ⟨fun vs K'=>∃(q:Nat→Option (List Int×Int)) (d:CodeX) (S':PH),vs=[.bool false]∧PH.le K1 S'∧MovedTo c d q∧(∀j,i+1≤j→q j=none)∧Held S' K' [orow 30 d (.slice eb c.length ec)],?_,?_⟩
  ·rintro vs K' _ ⟨q',d',S',rfl,l',hmv',hq',h'⟩
   simp only [cns]
   refine ⟨_,z00,n - 1,by omega,i+1,q',d',S',?_,by omega,l',hmv',hq',h'⟩
   simp only [evs,evb,up1 (by omega:i < 4611686018427387904)]
  refine ⟨fun _=>?_,[.int .i64 p.params,.int .i64 p.holds,.int .i64 p.regs,.slice bb p.blocks.length bc],rfl,by simp only [evs,evb];exact z06 l4 x3,fun g2=>?_,fun g2=>?_⟩
  ·simp only [Chk.holds,evs,evb];exact ⟨x1,by omega,by omega⟩
  ·exact ⟨rfl,PH.le_trans l1 l4⟩
  simp only [evs,evb,zdf] at g2
  simp only [cns]
  refine z02 z83 (h4.pure (R:=fun x S'=>∃v,x=.returned v∧SlR S' (readL p) v) (zpz p (.slice bb p.blocks.length bc) S2 (p4.le l2) hfit.regs)) ?_
  rintro x K5 ⟨S5,l5,h5,v5,rfl,s5⟩
  obtain ⟨b5,c5,rfl⟩:=s5.sl
  refine ⟨_,[.slice b5 (readL p).length c5],rfl,rfl,rfl,z01,?_⟩
  simp only [cns]
  refine z02 z7s (h5.pure (R:=fun x S'=>∃v,x=.returned v∧SlR S' (liveL p 0 0) v) (zph p (readL p) (.slice bb p.blocks.length bc) (.slice b5 (readL p).length c5) S5 (p4.le (PH.le_trans l2 l5)) s5 0 0 hbk.1 (by omega) hfit (by have:=zmj hfit;omega))) ?_
  rintro x K6 ⟨S6,l6,h6,v6,rfl,s6⟩
  obtain ⟨b6,c6,rfl⟩:=s6.sl
  refine ⟨_,[.slice b6 (liveL p 0 0).length c6],rfl,rfl,rfl,z01,?_⟩
  simp only [cns]
  have l26:=PH.le_trans l2 (PH.le_trans l5 l6)
  have l16:=PH.le_trans l26 h6.sh
  have hll:=zh0 hfit 0 0
  refine ⟨fun m vs K'=>∃(j:Nat),vs=[.bool (((liveL p 0 0).take j).all fun r=>decide (r < p.params)),nI j]∧j+m=(liveL p 0 0).length∧K'=K6,⟨(liveL p 0 0).length,0,rfl,by omega,rfl⟩,?_⟩
  rintro m vs K' _ ⟨j,rfl,hjm,rfl⟩
  simp only [cns]
  refine ⟨fun g3=>?_,fun g3=>?_⟩
  ·simp only [evs,evb,zdt] at g3
   obtain ⟨r,hr⟩:∃r,(liveL p 0 0)[j]?=some r:=⟨_,zge (by omega)⟩
   obtain ⟨y1,_,ycs,y2,y3⟩:=(s6.le h6.sh).get hr
   obtain ⟨rfl,_⟩:=csIK y2
   refine ⟨fun vs K''=>vs=[.bool (((liveL p 0 0).take (j+1)).all fun r=>decide (r < p.params))]∧K''=K',?_,fun _=>?_,fun g4=>?_,fun g4=>?_⟩
   ·rintro vs K'' _ ⟨rfl,rfl⟩
    simp only [cns]
    refine ⟨_,z00,m - 1,by omega,j+1,?_,by omega,rfl⟩
    simp only [evs,evb,up1 (by omega:j < 4611686018427387904)]
   ·simp only [Chk.holds,evs,evb];exact ⟨y1,by omega,by omega⟩
   ·simp only [evs,evb] at g4
    refine ⟨[.int .i64 r],rfl,by simp only [evs,evb];exact y3,_,z00,?_,rfl⟩
    rw [z8i _ hr,g4]
    simp only [evs,evb,Bool.true_and]
   ·simp only [evs,evb] at g4
    refine ⟨_,z00,?_,rfl⟩
    rw [z8i _ hr,g4]
    simp only [evs,evb,Bool.false_and]
  simp only [evs,evb,zdf] at g3
  rw [List.take_of_length_le (by omega)]
  refine ⟨fun g4=>?_,fun g4=>?_⟩
  ·exact ⟨_,z0s rfl z00,q,d,S6,by simp only [evs,evb],l26,hmv,fun j hj=>hq j (by omega),h6⟩
  simp only [evs,evb,Bool.not_eq_false'] at g4
  have hplain:∀r∈liveL p 0 0,r < p.params:=fun r hr=>of_decide_eq_true (List.all_eq_true.1 g4 r hr)
  clear g4
  refine z02 z6m (h6.pure (R:=fun x S'=>∃l v n,x=.returned (.tuple #[v,.int .i64 n,.int .i64 0])∧SlR S' l v∧Placed p k n l) ((zh8 p k (.slice bb p.blocks.length bc) S6 (p4.le l26) ⟨hfit,hfitE⟩).mono fun x S' h=>?_)) ?_
  ·obtain ⟨hl,h1⟩:=h
   refine ⟨hl,?_⟩
   rcases h1 with ⟨hk,_⟩ | ⟨_,hm,_⟩ | ⟨_,_,l,v,n,rfl,hv,hpl⟩
   ·omega
   ·rw [hmay] at hm;cases hm
   ·exact ⟨l,v,n,rfl,hv,hpl⟩
  rintro x K7 ⟨S7,l7,h7,l,v7,nn,rfl,s7,hpl⟩
  obtain ⟨b7,c7,rfl⟩:=s7.sl
  refine ⟨_,[.slice b7 l.length c7,.int .i64 nn,.int .i64 0],rfl,rfl,rfl,z01,?_⟩
  simp only [cns]
  have hnl:=zyo hpl
  have hlen:(l.length:Int)=p.regs:=by rw [hpl.len];omega
  have hn0:=hpl.lo
  have hw:IntKind.i64.wrap (k+nn)=k+nn:=w64 (by omega) (by omega)
  have l17:=PH.le_trans l26 l7
  refine ⟨fun g5=>?_,fun g5=>?_⟩
  ·exfalso
   simp [evs,evb] at g5
   omega
  refine ⟨fun m vs K'=>∃(j:Nat),vs=[.bool false,nI j]∧(j:Int)+m=p.regs∧K'=K7,⟨p.regs.toNat,0,rfl,by omega,rfl⟩,?_⟩
  rintro m vs K' _ ⟨j,rfl,hjm,rfl⟩
  simp only [cns]
  refine ⟨fun g6=>?_,fun g6=>?_⟩
  ·simp only [evs,evb,zdt] at g6
   obtain ⟨a,ha⟩:∃a,l[j]?=some a:=⟨_,zge (by omega)⟩
   obtain ⟨y1,_,ycs,y2,y3⟩:=(s7.le h7.sh).get ha
   obtain ⟨rfl,_⟩:=csIK y2
   have hrange:=hpl.all _ _ ha
   refine ⟨fun vs K''=>vs=[.bool false]∧K''=K',?_,fun _=>?_,[.int .i64 a],rfl,by simp only [evs,evb];exact y3,fun g7=>?_,fun g7=>?_⟩
   ·rintro vs K'' _ ⟨rfl,rfl⟩
    simp only [cns]
    refine ⟨fun g8=>by simp [evs,evb] at g8,fun _=>⟨_,z00,m - 1,by omega,j+1,?_,by omega,rfl⟩⟩
    simp only [evs,evb,up1 (by omega:j < 4611686018427387904)]
   ·simp only [Chk.holds,evs,evb];exact ⟨y1,by omega,by omega⟩
   ·simp only [evs,evb,zdt] at g7;omega
   ·refine ⟨[.int .i64 a],rfl,by simp only [evs,evb];exact y3,_,z00,?_,rfl⟩
    simp only [evs,evb,hw]
    rw [decide_eq_false (by omega)]
  simp only [evs,evb,zdf] at g6
  have hplok:=zzh hk1 gp hpl hplain
  refine z02 zgb (by
   simp only [List.map_cons,List.map_nil,evs,evb,hw]
   exact h7.pure (R:=fun x S'=>∃v,x=.returned (.agg (prcVs (z15 p l (k+nn)) v).toArray)∧SlR S' (z15 p l (k+nn)).blocks v) (zwr c p l (k+nn) gc ⟨hplok,by omega,by omega⟩ gp hfit (.slice bb p.blocks.length bc) (.slice b7 l.length c7) S7 (p4.le l17) s7)) ?_
  rintro x K8 ⟨S8,l8,h8,v8,rfl,s8⟩
  obtain ⟨b8,c8,rfl⟩:=s8.sl
  refine ⟨_,prcVs (z15 p l (k+nn)) (.slice b8 (z15 p l (k+nn)).blocks.length c8),rfl,rfl,rfl,z01,?_⟩
  simp only [prcVs,List.cons_append,List.nil_append]
  have hdi:d[i]?=some p:=(hmv.none_ i (hq i (Nat.le_refl _))).trans hp
  refine ⟨fun _=>?_,?_⟩
  ·obtain ⟨w1,_⟩:=((h8.row (zms)).slR h8.sh).get hdi
   simp only [Chk.holds,evs,evb];exact ⟨w1,by omega,by omega⟩
  refine z1t (i:=i) (a:=p) (a':=z15 p l (k+nn)) (us:=[.int .i64 (z15 p l (k+nn)).params,.int .i64 (z15 p l (k+nn)).holds,.int .i64 (z15 p l (k+nn)).regs,.slice b8 (z15 p l (k+nn)).blocks.length c8]) (by simp only [evs,evb];rfl) h8 hdi rfl (by simp only [List.map_cons,List.map_nil,evs,evb]) (by
   intro u hu
   simp only [List.mem_cons,List.not_mem_nil,or_false] at hu
   rcases hu with rfl | rfl | rfl | rfl<;>rfl) (prc_iff.2 ⟨_,rfl,p1,p2,by show InI (p.params+(k+nn));unfold InI;omega,s8⟩) fun K9 h9=>?_
  refine ⟨_,z0s rfl (z0s rfl z00),_,_,S8,?_,PH.le_trans l17 l8,hmv.put hp hplok,fun j hj=>?_,h9⟩
  ·simp only [evs,evb]
  ·rw [if_neg (by omega)];exact hq j (by omega)
 simp only [evs,evb,zdf] at g
 obtain ⟨S7,s7,l7,h7⟩:=h4.freeze
 have s7K:=s7.le h7.sh
 have hdl:=hmv.len
 have hMC:=hmv.moved
 have hcd:=zwt hck hMC hdl
 refine z02 z91 (zso c (.slice cb c.length cc) input 1000 K (hc1.le l4) (by decide:InI 1000)) ?_
 rintro e18 K18 ⟨l18,rcs,rfl,hrep⟩
 have hst:=Z1k c input
 obtain ⟨ds,rfl,hds⟩:=hrep
 obtain ⟨dsv,rfl,_,_,_,hdsl⟩:=Dat.Rep_iff.1 hds
 obtain ⟨sb,sc,rfl⟩:=SlR.sl hdsl
 generalize hR:runX c input 1000=R at *
 refine ⟨_,[.int .i64 R.err,txt R.out,.int .i64 R.shown.kind,.int .i64 R.shown.int,txt R.shown.text,.slice sb R.shown.list.length sc,.bool R.whole,nI R.steps],rfl,rfl,rfl,z01,?_⟩
 simp only [cns]
 have lHK:=PH.le_trans l1 (PH.le_trans l4 l18)
 refine ⟨fun vs K'=>vs=[.bool (decide (R.err=93∨z16 d≠0))]∧PH.le K18 K',?_,fun g4=>?_,fun g4=>?_⟩
 rotate_left
 ·simp only [evs,evb,zdt] at g4
  exact ⟨_,z00,by simp [evs,evb,g4],PH.le_refl _⟩
 ·simp only [evs,evb,zdf] at g4
  refine z05 [.int .i64 (z16 d)] z2e (z8h d _ K18 (s7K.le l18)) rfl z01 fun K19 l19=>⟨_,z00,?_,l19⟩
  simp [evs,evb,g4]
 rintro vs K19 _ ⟨rfl,l19⟩
 simp only [cns]
 refine ⟨fun g5=>?_,fun g5=>?_⟩
 ·simp only [evs,evb,zdt] at g5
  refine ⟨fun vs K'=>vs=[.bool true]∧PH.le K19 K',?_,fun g6=>?_,fun g6=>?_⟩
  ·rintro vs K' _ ⟨rfl,l20⟩
   exact ⟨rfl,PH.le_trans lHK (PH.le_trans l19 l20)⟩
  ·exact ⟨_,z00,by simp only [evs,evb],PH.le_refl _⟩
  ·simp only [evs,evb,zdf] at g6
   have h151:z16 d=151:=by omega
   refine z05 [.int .i64 (z16 d)] z2e (z8h d _ K19 ((s7K.le l18).le l19)) rfl z01 fun K20 l20=>⟨_,z00,?_,l20⟩
   simp [evs,evb,h151]
 simp only [evs,evb,zdf,not_or,ne_eq,Decidable.not_not] at g5
 have hw2:IntKind.i64.wrap (IntKind.i64.wrap (9 * (R.steps:Int))+9)=9 * (R.steps:Int)+9:=by
  rw [w64 (n:=9 * (R.steps:Int)) (by omega) (by omega),w64 (by omega) (by omega)]
 refine z02 z91 (by
  have:=zso d _ input (9 * (R.steps:Int)+9) K19 ((s7K.le l18).le l19) (by unfold InI;omega)
  simp only [List.map_cons,List.map_nil,evs,evb,hw2]
  exact this) ?_
 rintro e20 K20 ⟨l20,qcs,rfl,hrepq⟩
 obtain ⟨es,rfl,hes⟩:=hrepq
 obtain ⟨esv,rfl,_,_,_,hesl⟩:=Dat.Rep_iff.1 hes
 obtain ⟨sb2,sc2,rfl⟩:=SlR.sl hesl
 have halike:=Z01 hck g5.2 hMC input (by rw [hR];exact g5.1) (by rw [hR];exact hst)
 simp only [hR] at halike
 generalize hQ:runX d input (9 * (R.steps:Int)+9)=Q at *
 refine ⟨_,[.int .i64 Q.err,txt Q.out,.int .i64 Q.shown.kind,.int .i64 Q.shown.int,txt Q.shown.text,.slice sb2 Q.shown.list.length sc2,.bool Q.whole,nI Q.steps],rfl,rfl,rfl,z01,?_⟩
 simp only [cns]
 have hlast:=PH.le_trans lHK (PH.le_trans l19 l20)
 have repR:R.Rep K20 [.int .i64 R.err,txt R.out,.int .i64 R.shown.kind,.int .i64 R.shown.int,txt R.shown.text,.slice sb R.shown.list.length sc,.bool R.whole,nI R.steps]:=⟨_,rfl,Dat.Rep.le (PH.le_trans l19 l20) _ hds⟩
 have repQ:Q.Rep K20 [.int .i64 Q.err,txt Q.out,.int .i64 Q.shown.kind,.int .i64 Q.shown.int,txt Q.shown.text,.slice sb2 Q.shown.list.length sc2,.bool Q.whole,nI Q.steps]:=⟨_,rfl,hes⟩
 exact z05 [.bool true] zg8 (zwe R Q _ _ K20 repR repQ halike) rfl z01 fun K21 l21=>⟨rfl,PH.le_trans hlast l21⟩
end Go.Proofs.YtofbhllknefloaaGreat.Vc
namespace Go.Proofs.YtofbhllknefloaaGreat.Vc
open Go Go.ChangeShapes Go.WideShapes Go.ChangeAt Go.RowKit
noncomputable def codeFields:Array Field:=match Tryz.prog.underlying 24 with
 | some (.struct fs)=>fs
 | _=>#[]
theorem Z26:Tryz.prog.underlying 24=some (.struct codeFields):=by kernel_rfl
theorem codeF:codeFields.toList.map (fun f=>(f.type,f.offset))=[(22,0)]:=by kernel_rfl
theorem Z6b:Tryz.prog.cellsOf 24=1:=by kernel_rfl
theorem Z5b:Tryz.prog.cellsOf 22=1:=by kernel_rfl
theorem zzl {H:Type} {enc:TypeId×Value→H} {w:World} {fuel:Nat} {cs:List Value} {d:DataW H} {ps:List MemPlace} (h:zc7 enc Tryz.prog w fuel 24 cs d ps) :
  ∃(c:CodeX) (cv:Value),cs=[cv]∧SlR (whole w) c cv:=by
 obtain ⟨ys,k,rfl,e0,hc0,hl0,hi0⟩:=z5p Z26 codeF h
 rw [Z6b] at hc0
 match ys,hl0 with
 | [y0],_=>
 match cs,hc0 with
 | [c0],_=>
 have u0:=hi0 0 22 0 y0 rfl rfl
 rw [Z5b] at u0
 simp only [List.drop_zero,List.take_succ_cons,List.take_zero] at u0
 obtain ⟨l,v,hlv,hls,_⟩:=z5r (α:=PrcX) (wt:=PrcX.wt) zqz cPrcC (fun j hj=>Z0g j) u0
 have hv:c0=v:=by simpa using hlv
 subst hv
 exact ⟨l,c0,rfl,hls⟩
theorem Z4g {H:Type} {enc:TypeId×Value→H} {w:World} {v:Value} {d:DataW H} {p:List MemPlace} {r:_root_.Go.Reach} {b:Nat} (hval:Value.okWide Tryz.prog w r b 24 v) (h:DataW.Trod enc Tryz.prog w 0 (fun _=>true) true 24 v d p) :
  ∃(c:CodeX) (cv:Value),v=.agg #[cv]∧SlR (whole w) c cv:=by
 obtain ⟨cs,rfl,_⟩:=okWide_struct Z26 hval
 obtain ⟨fuel,h⟩:=h
 obtain ⟨c,cv,h1,h2⟩:=zzl h
 refine ⟨c,cv,?_,h2⟩
 have h1:cs.toList=[cv]:=h1
 obtain ⟨l⟩:=cs
 have h1:l=[cv]:=h1
 rw [h1]
end Go.Proofs.YtofbhllknefloaaGreat.Vc
