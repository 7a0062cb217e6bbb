import Derived.Test.YtfkclejklgoccaaGreatPm
set_option linter.unusedSimpArgs false
set_option linter.unusedVariables false
set_option maxRecDepth 100000
set_option maxHeartbeats 4000000
namespace Go.Proofs.YtfkclejklgoccaaGreat.Vc
open Go
def nullB:List UInt8:=[110,117,108,108,63]
def eofB:List UInt8:=[101,111,102,45,111,98,106,101,99,116,63]
def boolB:List UInt8:=[98,111,111,108,101,97,110,63]
def intB:List UInt8:=[105,110,116,101,103,101,114,63]
def symB:List UInt8:=[115,121,109,98,111,108,63]
def charB:List UInt8:=[99,104,97,114,63]
def pairB:List UInt8:=[112,97,105,114,63]
def vecB:List UInt8:=[118,101,99,116,111,114,63]
def strB:List UInt8:=[115,116,114,105,110,103,63]
def procB:List UInt8:=[112,114,111,99,101,100,117,114,101,63]
def zi3:List (List UInt8):=[nullB,eofB,boolB,intB,symB,charB,pairB,vecB,strB,procB]
def z2d(op:List UInt8)(a yes out:Int):List ItemR×Bool:=
 if op=nullB then(z3k a yes [2],false)
 else if op=eofB then(z3k a yes [4],false)
 else if op=boolB then(z3k a yes [0,1],false)
 else if op=intB then(tagL a 0++[⟨2,⟨24,28,31,0,0⟩,yes,0⟩],false)
 else if op=symB then(tagL a 3++[⟨2,⟨24,28,31,0,0⟩,yes,0⟩],false)
 else if op=charB then(tagL a 2++[⟨2,⟨25,28,31,0,0⟩,out,0⟩,⟨4,⟨20,31,0,0,0⟩,0,2050⟩,⟨2,⟨27,a,31,0,0⟩,yes,0⟩,⟨1,⟨0,0,0,0,0⟩,out,0⟩],true)
 else if op=pairB then(z6r a yes out [1],true)
 else if op=vecB then(z6r a yes out [2],true)
 else if op=strB then(z6r a yes out [3],true)
 else if op=procB then(z6r a yes out [5,7],true)
 else([],false)
def z0x(op:List UInt8):Int:=if(z2d op 0 0 0).2=true then 4 else 3
def FX.askedL(x:FX)(pu nx:Int)(op:List UInt8)(r to:Int):List ItemR:=
 x.getL pu r 26++(z2d op (x.get r 26) nx (nx+1+1)).1++[⟨1,⟨0,0,0,0,0⟩,nx+1,0⟩,⟨4,⟨20,28,0,0,0⟩,0,0⟩,⟨3,⟨28,0,0,0,0⟩,nx+z0x op-1,0⟩,⟨1,⟨0,0,0,0,0⟩,nx,0⟩,⟨4,⟨20,28,0,0,0⟩,0,1⟩,⟨1,⟨0,0,0,0,0⟩,nx+z0x op-1,0⟩]++x.truthL pu to
theorem Zgo(op:List UInt8)(a yes out a' yes' out':Int):(z2d op a yes out).2=(z2d op a' yes' out').2:=by
 unfold z2d
 repeat' split
 all_goals rfl
section
variable {S0 K:PH}{x:FX}{pu nx:Int}{l l':List ItemR}{k k':Nat}{J:List Itm}
theorem Zke(hx:FOk S0 x)(hp:0≤pu∧pu≤100000)(op:List UInt8)(hop:op∈zi3)(to r0 num:Int)(cst:Dat)(av dv:Value)(hy:InR S0 ⟨op,to,[r0],cst,num⟩ av dv)(ht:x.has to)(hr0:x.has r0)(h0:GnH S0 K x pu nx l (k+40) J):
  Tri zP 192 #[pAt x.rf,.agg (inV ⟨op,to,[r0],cst,num⟩ av dv).toArray] K (GnQ S0 x pu (nx+z0x op) (l++x.askedL pu nx op r0 to) k J):=by
 have hn0:=h0.n0;have hnk:=h0.nk;obtain⟨ri0,q0,d0⟩:=z3s hy.args 0 r0 rfl;obtain⟨ab,ac,rfl⟩:∃b c,av=.slice b 1 c:=hy.args.sl;obtain⟨db,dc,rfl⟩:∃b c,dv=.slice b cst.list.length c:=hy.cl.sl;refine qr zk3 ([pAt x.rf]++inV ⟨op,to,[r0],cst,num⟩ (.slice ab 1 ac) (.slice db cst.list.length dc)) ?_;simp only[inV,cns];refine z6a (vs:=[pAt x.rf]) h0 kr fun r9 K1 _ h1=>?_;simp only[cns];refine z6a (vs:=[txt op,vi to,.slice ab 1 ac,vi cst.kind,vi cst.int,txt cst.text,.slice db cst.list.length dc,vi num]) h1 kr fun r10 K2 _ h2=>?_;simp only[cns];obtain⟨J2,hJ2⟩:∃J2,J2=bx r10 34 [txt op,vi to,.slice ab 1 ac,vi cst.kind,vi cst.int,txt cst.text,.slice db cst.list.length dc,vi num]::bx r9 92 [pAt x.rf]::J:=⟨_,rfl⟩;rw[←hJ2]at h2;have j9:bx r9 92 [pAt x.rf]∈J2:=by rw[hJ2];simp
 have j10:bx r10 34 [txt op,vi to,.slice ab 1 ac,vi cst.kind,vi cst.int,txt cst.text,.slice db cst.list.length dc,vi num]∈J2:=by rw[hJ2];simp
 have sJ:J.Sublist J2:=by rw[hJ2];exact(List.sublist_cons_self _ _).trans (List.sublist_cons_self _ _)
 obtain⟨a,ha⟩:∃a,a=x.get r0 26:=⟨_,rfl⟩;have hai:InI a:=by rw[ha];exact zsc hx r0 26 hr0 dC
 refine⟨fun vs K'=>∃r11,vs=[pAt r11]∧GnH S0 K' x pu nx (l++x.getL pu r0 26) (k+39) (bx r11 3 [vi a]::J2),?_,?_⟩;rotate_left
 .refine⟨[pAt x.rf],rfl,h2.jrow j9 0 1,fun _=>rfl,[.slice ab 1 ac],rfl,h2.jrow j10 2 1,fun _=>q0,[vi r0],rfl,d0 _ h2.sh,?_,?_⟩
  .simp only[cns];refine z2y (qb 136) (zob hx hp r0 26 hr0 dC h2) (fun K3 h3=>z01) fun K3 h3=>?_;simp only[cns];refine z6a (vs:=[vi 0]) h3 kr fun r11 K4 _ h4=>?_;simp only[cns];refine zap (off:=0) (vs:=[vi (x.get r0 26)]) rfl h4 kr (by simp[oneC]) sM fun K5 h5=>?_;exact⟨_,z00,r11,rfl,by rw[ha];exact h5⟩
  .simp only[cns];refine z6a (vs:=[vi 0]) h2 kr fun r11 K4 _ h4=>?_;simp only[cns];refine z2y (qb 136) (zob hx hp r0 26 hr0 dC h4) (fun K3 h3=>z01) fun K3 h3=>?_;simp only[cns];refine zap (off:=0) (vs:=[vi (x.get r0 26)]) rfl h3 kr (by simp[oneC]) sM fun K5 h5=>?_;exact⟨_,z00,r11,rfl,by rw[ha];exact h5⟩
 rintro vs K3 _ ⟨r11,rfl,h3⟩;simp only[cns];obtain⟨J3,hJ3⟩:∃J3,J3=bx r11 3 [vi a]::J2:=⟨_,rfl⟩;rw[←hJ3]at h3
 replace j9:bx r9 92 [pAt x.rf]∈J3:=by rw[hJ3];exact zmm _ j9
 replace j10:bx r10 34 [txt op,vi to,.slice ab 1 ac,vi cst.kind,vi cst.int,txt cst.text,.slice db cst.list.length dc,vi num]∈J3:=by rw[hJ3];exact zmm _ j10
 have j11:bx r11 3 [vi a]∈J3:=by rw[hJ3];simp
 replace sJ:J.Sublist J3:=by rw[hJ3];exact sJ.trans (List.sublist_cons_self _ _)
 refine⟨fun vs K'=>∃r12,vs=[pAt r12,vi (nx+1)]∧GnH S0 K' x pu (nx+1+1) (l++x.getL pu r0 26) (k+37) (bx r12 3 [vi nx]::J3),?_,?_⟩;rotate_left
 .refine⟨[pAt x.rf],rfl,h3.jrow j9 0 1,fun _=>rfl,[pAt x.rg],rfl,h3.frow 0 1,[pAt x.rf],rfl,h3.jrow j9 0 1,fun _=>rfl,[pAt x.rg],rfl,h3.frow 0 1,⟨?_,?_⟩⟩
  .simp only[cns];refine z2y (qb 42) (z4h h3) (fun K4 h4=>z0w (h4.frow 0 1) (z0w (h4.jrow j9 0 1) z01)) fun K4 h4=>⟨?_,?_⟩
   .simp only[cns];refine z2y (qb 42) (z4h h4) (fun K4 h4=>z01) fun K5 h5=>?_;simp only[cns];refine z6a (vs:=[vi 0]) h5 kr fun r12 K6 _ h6=>?_;simp only[cns];refine zap (off:=0) (vs:=[vi nx]) rfl h6 kr (by simp[oneC]) sM fun K7 h7=>?_;exact⟨_,z00,r12,rfl,h7⟩
   .simp only[cns];refine z6a (vs:=[vi 0]) h4 kr fun r12 K6 _ h6=>?_;simp only[cns];refine z2y (qb 42) (z4h h6) (fun K4 h4=>z01) fun K5 h5=>?_;simp only[cns];refine zap (off:=0) (vs:=[vi nx]) rfl h5 kr (by simp[oneC]) sM fun K7 h7=>?_;exact⟨_,z00,r12,rfl,h7⟩
  .simp only[cns];refine z6a (vs:=[vi 0]) h3 kr fun r12 K6 _ h6=>?_;simp only[cns];have j9':=zmm (bx r12 3 [vi 0]) j9;refine z2y (qb 42) (z4h h6) (fun K4 h4=>z0w (h4.frow 0 1) (z0w (h4.jrow j9' 0 1) z01)) fun K4 h4=>?_;simp only[cns];refine z2y (qb 42) (z4h h4) (fun K4 h4=>z01) fun K5 h5=>?_;simp only[cns];refine zap (off:=0) (vs:=[vi nx]) rfl h5 kr (by simp[oneC]) sM fun K7 h7=>?_;exact⟨_,z00,r12,rfl,h7⟩
 rintro vs K4 _ ⟨r12,rfl,h4⟩;simp only[cns];refine z7z (f:=211) rfl ?_;simp only[cns];refine z7z (f:=212) rfl ?_;simp only[cns];refine z6a (vs:=[_]) h4 rfl fun r16 K5 _ h5=>?_;simp only[cns];refine zap (off:=0) (vs:=[.func (.func 212) #[] #[pAt r9,pAt r11]]) rfl h5 kr (by simp[oneC]) sM fun K6 h6=>?_;refine z7z (f:=213) rfl ?_;simp only[cns];obtain⟨J4,hJ4⟩:∃J4,J4=bx r16 105 [.func (.func 212) #[] #[pAt r9,pAt r11]]::bx r12 3 [vi nx]::J3:=⟨_,rfl⟩;have h7:GnH S0 K6 x pu (nx+1+1) (l++x.getL pu r0 26) (k+37) J4:=by rw[hJ4];exact h6
 clear h6 h5 h4 h3 h2 h1;have j16:bx r16 105 [.func (.func 212) #[] #[pAt r9,pAt r11]]∈J4:=by rw[hJ4];simp
 have j12:bx r12 3 [vi nx]∈J4:=by rw[hJ4];simp
 replace j9:bx r9 92 [pAt x.rf]∈J4:=by rw[hJ4];exact zmm _ (zmm _ j9)
 replace j10:bx r10 34 [txt op,vi to,.slice ab 1 ac,vi cst.kind,vi cst.int,txt cst.text,.slice db cst.list.length dc,vi num]∈J4:=by rw[hJ4];exact zmm _ (zmm _ j10)
 replace j11:bx r11 3 [vi a]∈J4:=by rw[hJ4];exact zmm _ (zmm _ j11)
 replace sJ:J.Sublist J4:=by rw[hJ4];exact(sJ.trans (List.sublist_cons_self _ _)).trans (List.sublist_cons_self _ _)
 clear hJ2 hJ3 hJ4;have hyi:InI nx:=inJ om om;have hoi:InI (nx+1+1):=inJ om om;refine⟨fun vs K'=>vs=[]∧GnH S0 K' x pu (nx+z0x op-1) (l++x.getL pu r0 26++(z2d op a nx (nx+1+1)).1) (k+10) J4,?_,?_⟩
 .rintro vs K7 _ ⟨rfl,h8⟩;unfold FX.askedL;rw[←ha];have hk34:z0x op=3∨z0x op=4:=by unfold z0x;split<;>simp
  generalize z0x op=kk at *;generalize(z2d op a nx (nx+1+1)).1=mid at *;have hdi:InI (nx+kk-1):=inJ om om;refine⟨[pAt x.rf],rfl,h8.jrow j9 0 1,fun _=>rfl,[pAt x.rg],rfl,h8.frow 0 1,?_⟩;simp only[cns];refine z2y (qb 42) (z4h h8) (fun K4 h4=>z01) fun K8 h9=>?_;rw[show nx+kk-1+1=nx+kk by omega]at h9;simp only[cns];refine⟨[pAt x.rf],rfl,h9.jrow j9 0 1,fun _=>rfl,[pAt x.rg],rfl,h9.frow 0 1,fun _=>rfl,?_⟩;simp only[cns];refine z05 (qb 51) (h9.to (z5j (nx+1) (inJ om om))) fun K9 ha=>?_;refine⟨[pAt x.rf],rfl,ha.jrow j9 0 1,fun _=>rfl,[pAt x.rg],rfl,ha.frow 0 1,fun _=>rfl,?_⟩;simp only[cns];refine z05 (qb 57) (ha.to (z1r 28 0 dC dC)) fun Ka hb=>?_;refine⟨[pAt x.rf],rfl,hb.jrow j9 0 1,fun _=>rfl,[pAt x.rg],rfl,hb.frow 0 1,fun _=>rfl,?_⟩;simp only[cns];refine z05 (qb 60) (hb.to (z6v (nx+kk-1) hdi)) fun Kb hc=>?_;refine⟨[pAt x.rf],rfl,hc.jrow j9 0 1,fun _=>rfl,[pAt x.rg],rfl,hc.frow 0 1,fun _=>rfl,[vi nx],rfl,hc.jrow j12 0 1,?_⟩;simp only[cns];refine z05 (qb 51) (hc.to (z5j nx hyi)) fun Kc hd=>?_;refine⟨[pAt x.rf],rfl,hd.jrow j9 0 1,fun _=>rfl,[pAt x.rg],rfl,hd.frow 0 1,fun _=>rfl,?_⟩;simp only[cns];refine z05 (qb 57) (hd.to (z1r 28 1 dC dC)) fun Kd he=>?_;refine⟨[pAt x.rf],rfl,he.jrow j9 0 1,fun _=>rfl,[pAt x.rg],rfl,he.frow 0 1,fun _=>rfl,?_⟩;simp only[cns];refine z05 (qb 51) (he.to (z5j (nx+kk-1) hdi)) fun Ke hf=>?_;refine⟨[pAt x.rf],rfl,hf.jrow j9 0 1,fun _=>rfl,[vi to],rfl,hf.jrow j10 1 1,?_⟩;simp only[cns];refine z05 (qb 187) (Zj9 hx hp to ht hf) fun Kf hg=>?_;refine⟨rfl,GnH.sub ?_ sJ⟩;simpa only[zaa,cns]using hg
 refine⟨fun _=>rfl,[txt op],rfl,h7.jrow j10 0 1,?_⟩;simp only[cns];refine⟨fun g=>?_,fun g0=>?_⟩
 .have g':op=nullB:=by
   have g2:=g;simp only[wy,z0m,zdt]at g2;exact g2
  clear g;subst g';have eM:(z2d nullB a nx (nx+1+1)).1=z3k a nx [2]:=kr;have eK:nx+z0x nullB-1=nx+1+1:=by rw[show z0x nullB=3 by kernel_rfl];omega
  refine z7y [2] z0g rfl dC dC dC h7 kr fun v S1 K8 l8 s8 h8=>?_;simp only[cns];refine z1m (f:=211) (first:=#[]) (caps:=#[pAt r9,pAt r11,pAt r12]) kr (qb 211) (zvw (k:=k+10) a nx hai hyi r9 r11 r12 [2] v s8 dC dC j9 j11 j12 (h8.less sM)) ?_;rintro _ K9 ⟨rfl,h9⟩;refine⟨_,[],rfl,rfl,rfl,z01,_,z00,rfl,?_⟩;have h9:=h9.base l8;rw[eM,eK];exact GnH.less (by simpa only[zaa,cns]using h9) om
 simp only[wy,z0m,zdf]at g0;refine⟨fun g=>?_,fun g1=>?_⟩
 .have g':op=eofB:=by
   have g2:=g;simp only[wy,z0m,zdt]at g2;exact g2
  clear g;subst g';have eM:(z2d eofB a nx (nx+1+1)).1=z3k a nx [4]:=kr;have eK:nx+z0x eofB-1=nx+1+1:=by rw[show z0x eofB=3 by kernel_rfl];omega
  refine z7y [4] z0g rfl dC dC dC h7 kr fun v S1 K8 l8 s8 h8=>?_;simp only[cns];refine z1m (f:=211) (first:=#[]) (caps:=#[pAt r9,pAt r11,pAt r12]) kr (qb 211) (zvw (k:=k+10) a nx hai hyi r9 r11 r12 [4] v s8 dC dC j9 j11 j12 (h8.less sM)) ?_;rintro _ K9 ⟨rfl,h9⟩;refine⟨_,[],rfl,rfl,rfl,z01,_,z00,rfl,?_⟩;have h9:=h9.base l8;rw[eM,eK];exact GnH.less (by simpa only[zaa,cns]using h9) om
 simp only[wy,z0m,zdf]at g1;refine⟨fun g=>?_,fun g2=>?_⟩
 .have g':op=boolB:=by
   have g2:=g;simp only[wy,z0m,zdt]at g2;exact g2
  clear g;subst g';have eM:(z2d boolB a nx (nx+1+1)).1=z3k a nx [0,1]:=kr;have eK:nx+z0x boolB-1=nx+1+1:=by rw[show z0x boolB=3 by kernel_rfl];omega
  refine z7y [0,1] z0g rfl dC dC dC h7 kr fun v S1 K8 l8 s8 h8=>?_;simp only[cns];refine z1m (f:=211) (first:=#[]) (caps:=#[pAt r9,pAt r11,pAt r12]) kr (qb 211) (zvw (k:=k+10) a nx hai hyi r9 r11 r12 [0,1] v s8 dC dC j9 j11 j12 (h8.less sM)) ?_;rintro _ K9 ⟨rfl,h9⟩;refine⟨_,[],rfl,rfl,rfl,z01,_,z00,rfl,?_⟩;have h9:=h9.base l8;rw[eM,eK];exact GnH.less (by simpa only[zaa,cns]using h9) om
 simp only[wy,z0m,zdf]at g2;refine⟨fun g=>?_,fun g3=>?_⟩
 .have g':op=intB:=by
   have g2:=g;simp only[wy,z0m,zdt]at g2;exact g2
  clear g;subst g';have eM:(z2d intB a nx (nx+1+1)).1=tagL a 0++[⟨2,⟨24,28,31,0,0⟩,nx,0⟩]:=kr;have eK:nx+z0x intB-1=nx+1+1:=by rw[show z0x intB=3 by kernel_rfl];omega
  refine⟨[.func (.func 212) #[] #[pAt r9,pAt r11]],rfl,h7.jrow j16 0 1,?_⟩;simp only[cns];refine z1m (f:=212) (first:=#[]) (caps:=#[pAt r9,pAt r11]) kr (qb 212) (zyj (k:=k+35) a 0 hai dC r9 r11 j9 j11 h7) ?_;rintro _ K8 ⟨rfl,h8⟩;refine⟨_,[],rfl,rfl,rfl,z01,?_⟩;simp only[zan];refine⟨[pAt x.rf],rfl,h8.jrow j9 0 1,fun _=>rfl,[pAt x.rg],rfl,h8.frow 0 1,fun _=>rfl,[vi nx],rfl,h8.jrow j12 0 1,?_⟩;simp only[cns];refine z05 (qb 59) (h8.to (k':=k+34) (If_em 24 28 31 nx dC dC dC hyi)) fun K9 h9=>?_;refine⟨_,z00,rfl,?_⟩;rw[eM,eK];exact GnH.less (by simpa only[zaa,cns]using h9) om
 simp only[wy,z0m,zdf]at g3;refine⟨fun g=>?_,fun g4=>?_⟩
 .have g':op=symB:=by
   have g2:=g;simp only[wy,z0m,zdt]at g2;exact g2
  clear g;subst g';have eM:(z2d symB a nx (nx+1+1)).1=tagL a 3++[⟨2,⟨24,28,31,0,0⟩,nx,0⟩]:=kr;have eK:nx+z0x symB-1=nx+1+1:=by rw[show z0x symB=3 by kernel_rfl];omega
  refine⟨[.func (.func 212) #[] #[pAt r9,pAt r11]],rfl,h7.jrow j16 0 1,?_⟩;simp only[cns];refine z1m (f:=212) (first:=#[]) (caps:=#[pAt r9,pAt r11]) kr (qb 212) (zyj (k:=k+35) a 3 hai dC r9 r11 j9 j11 h7) ?_;rintro _ K8 ⟨rfl,h8⟩;refine⟨_,[],rfl,rfl,rfl,z01,?_⟩;simp only[zan];refine⟨[pAt x.rf],rfl,h8.jrow j9 0 1,fun _=>rfl,[pAt x.rg],rfl,h8.frow 0 1,fun _=>rfl,[vi nx],rfl,h8.jrow j12 0 1,?_⟩;simp only[cns];refine z05 (qb 59) (h8.to (k':=k+34) (If_em 24 28 31 nx dC dC dC hyi)) fun K9 h9=>?_;refine⟨_,z00,rfl,?_⟩;rw[eM,eK];exact GnH.less (by simpa only[zaa,cns]using h9) om
 simp only[wy,z0m,zdf]at g4;refine⟨fun g=>?_,fun g5=>?_⟩
 .have g':op=charB:=by
   have g2:=g;simp only[wy,z0m,zdt]at g2;exact g2
  clear g;subst g';have eM:(z2d charB a nx (nx+1+1)).1=tagL a 2++[⟨2,⟨25,28,31,0,0⟩,nx+1+1,0⟩,⟨4,⟨20,31,0,0,0⟩,0,2050⟩,⟨2,⟨27,a,31,0,0⟩,nx,0⟩,⟨1,⟨0,0,0,0,0⟩,nx+1+1,0⟩]:=kr;have eK:nx+z0x charB-1=nx+1+1+1:=by rw[show z0x charB=4 by kernel_rfl];omega
  refine⟨[pAt x.rf],rfl,h7.jrow j9 0 1,fun _=>rfl,[pAt x.rg],rfl,h7.frow 0 1,?_⟩;simp only[cns];refine z2y (qb 42) (z4h (k:=k+36) h7) (fun K4 h4=>z01) fun K7 h0'=>?_;simp only[cns];refine⟨[.func (.func 212) #[] #[pAt r9,pAt r11]],rfl,h0'.jrow j16 0 1,?_⟩;simp only[cns];refine z1m (f:=212) (first:=#[]) (caps:=#[pAt r9,pAt r11]) kr (qb 212) (zyj (k:=k+34) a 2 hai dC r9 r11 j9 j11 h0') ?_;rintro _ K8 ⟨rfl,h8⟩;refine⟨_,[],rfl,rfl,rfl,z01,?_⟩;simp only[zan];refine⟨[pAt x.rf],rfl,h8.jrow j9 0 1,fun _=>rfl,[pAt x.rg],rfl,h8.frow 0 1,fun _=>rfl,?_⟩;simp only[cns];refine z05 (qb 59) (h8.to (k':=k+33) (If_em 25 28 31 (nx+1+1) dC dC dC hoi)) fun K9 h10=>?_;refine⟨[pAt x.rf],rfl,h10.jrow j9 0 1,fun _=>rfl,[pAt x.rg],rfl,h10.frow 0 1,fun _=>rfl,?_⟩;simp only[cns];refine z03 [vi 2050] (qb 34) (z70 256 2050 dC dC _) rfl (z0w (h10.frow 0 1) (z0w (h10.jrow j9 0 1) z01)) fun Ka la=>?_;have h11:=h10.le la;simp only[cns];refine z05 (qb 57) (h11.to (k':=k+32) (z1r 31 2050 dC dC)) fun Kb h12=>?_;refine⟨[pAt x.rf],rfl,h12.jrow j9 0 1,fun _=>rfl,[pAt x.rg],rfl,h12.frow 0 1,fun _=>rfl,[vi a],rfl,h12.jrow j11 0 1,[vi nx],rfl,h12.jrow j12 0 1,?_⟩;simp only[cns];refine z05 (qb 59) (h12.to (k':=k+31) (If_em 27 a 31 nx dC hai dC hyi)) fun Kc h13=>?_;refine⟨[pAt x.rf],rfl,h13.jrow j9 0 1,fun _=>rfl,[pAt x.rg],rfl,h13.frow 0 1,fun _=>rfl,?_⟩;simp only[cns];refine z05 (qb 51) (h13.to (k':=k+30) (z5j (nx+1+1) hoi)) fun Kd h9=>?_;refine⟨_,z00,rfl,?_⟩;rw[eM,eK];exact GnH.less (by simpa only[zaa,cns]using h9) om
 simp only[wy,z0m,zdf]at g5;refine⟨fun g=>?_,fun g6=>?_⟩
 .have g':op=pairB:=by
   have g2:=g;simp only[wy,z0m,zdt]at g2;exact g2
  clear g;subst g';have eM:(z2d pairB a nx (nx+1+1)).1=z6r a nx (nx+1+1) [1]:=kr;have eK:nx+z0x pairB-1=nx+1+1+1:=by rw[show z0x pairB=4 by kernel_rfl];omega
  refine z7y [1] z0g rfl dC dC dC h7 kr fun v S1 K8 l8 s8 h8=>?_;simp only[cns];refine z1m (f:=213) (first:=#[]) (caps:=#[pAt r9,pAt r16,pAt r11,pAt r12]) kr (qb 213) (zoo (k:=k+10) a nx hai hyi r9 r11 r12 r16 [1] v s8 dC dC j9 j11 j12 j16 (h8.less sM)) ?_;rintro _ K9 ⟨rfl,h9⟩;refine⟨_,[],rfl,rfl,rfl,z01,_,z00,rfl,?_⟩;have h9:=h9.base l8;rw[eM,eK];exact GnH.less (by simpa only[zaa,cns]using h9) om
 simp only[wy,z0m,zdf]at g6;refine⟨fun g=>?_,fun g7=>?_⟩
 .have g':op=vecB:=by
   have g2:=g;simp only[wy,z0m,zdt]at g2;exact g2
  clear g;subst g';have eM:(z2d vecB a nx (nx+1+1)).1=z6r a nx (nx+1+1) [2]:=kr;have eK:nx+z0x vecB-1=nx+1+1+1:=by rw[show z0x vecB=4 by kernel_rfl];omega
  refine z7y [2] z0g rfl dC dC dC h7 kr fun v S1 K8 l8 s8 h8=>?_;simp only[cns];refine z1m (f:=213) (first:=#[]) (caps:=#[pAt r9,pAt r16,pAt r11,pAt r12]) kr (qb 213) (zoo (k:=k+10) a nx hai hyi r9 r11 r12 r16 [2] v s8 dC dC j9 j11 j12 j16 (h8.less sM)) ?_;rintro _ K9 ⟨rfl,h9⟩;refine⟨_,[],rfl,rfl,rfl,z01,_,z00,rfl,?_⟩;have h9:=h9.base l8;rw[eM,eK];exact GnH.less (by simpa only[zaa,cns]using h9) om
 simp only[wy,z0m,zdf]at g7;refine⟨fun g=>?_,fun g8=>?_⟩
 .have g':op=strB:=by
   have g2:=g;simp only[wy,z0m,zdt]at g2;exact g2
  clear g;subst g';have eM:(z2d strB a nx (nx+1+1)).1=z6r a nx (nx+1+1) [3]:=kr;have eK:nx+z0x strB-1=nx+1+1+1:=by rw[show z0x strB=4 by kernel_rfl];omega
  refine z7y [3] z0g rfl dC dC dC h7 kr fun v S1 K8 l8 s8 h8=>?_;simp only[cns];refine z1m (f:=213) (first:=#[]) (caps:=#[pAt r9,pAt r16,pAt r11,pAt r12]) kr (qb 213) (zoo (k:=k+10) a nx hai hyi r9 r11 r12 r16 [3] v s8 dC dC j9 j11 j12 j16 (h8.less sM)) ?_;rintro _ K9 ⟨rfl,h9⟩;refine⟨_,[],rfl,rfl,rfl,z01,_,z00,rfl,?_⟩;have h9:=h9.base l8;rw[eM,eK];exact GnH.less (by simpa only[zaa,cns]using h9) om
 simp only[wy,z0m,zdf]at g8;refine⟨fun g=>?_,fun g9=>?_⟩
 .have g':op=procB:=by
   have g2:=g;simp only[wy,z0m,zdt]at g2;exact g2
  clear g;subst g';have eM:(z2d procB a nx (nx+1+1)).1=z6r a nx (nx+1+1) [5,7]:=kr;have eK:nx+z0x procB-1=nx+1+1+1:=by rw[show z0x procB=4 by kernel_rfl];omega
  refine z7y [5,7] z0g rfl dC dC dC h7 kr fun v S1 K8 l8 s8 h8=>?_;simp only[cns];refine z1m (f:=213) (first:=#[]) (caps:=#[pAt r9,pAt r16,pAt r11,pAt r12]) kr (qb 213) (zoo (k:=k+10) a nx hai hyi r9 r11 r12 r16 [5,7] v s8 dC dC j9 j11 j12 j16 (h8.less sM)) ?_;rintro _ K9 ⟨rfl,h9⟩;refine⟨_,[],rfl,rfl,rfl,z01,_,z00,rfl,?_⟩;have h9:=h9.base l8;rw[eM,eK];exact GnH.less (by simpa only[zaa,cns]using h9) om
 simp only[wy,z0m,zdf]at g9;exfalso;simp only[zi3,zmc,List.not_mem_nil,or_false]at hop;rcases hop with h|h|h|h|h|h|h|h|h|h
 .exact g0 h
 .exact g1 h
 .exact g2 h
 .exact g3 h
 .exact g4 h
 .exact g5 h
 .exact g6 h
 .exact g7 h
 .exact g8 h
 .exact g9 h
end
structure MvR where
 to:Int
 fr:Int
deriving DecidableEq
instance encMvR:Enc MvR:=⟨fun m=>[.int .i64 m.to,.int .i64 m.fr],2,fun _=>rfl⟩
theorem mvR_iff{H:PH}{m:MvR}{cs:List Value}:CsR H m cs↔cs=[vi m.to,vi m.fr]∧InI m.to∧InI m.fr:=by
 show PV.RepRow H [.int .i64 m.to,.int .i64 m.fr] cs↔_;simp only[PV.RepRow,repI_iff];constructor
 .rintro⟨_,_,rfl,⟨rfl,h1⟩,_,_,rfl,⟨rfl,h2⟩,rfl⟩;exact⟨rfl,h1,h2⟩
 .rintro⟨rfl,h1,h2⟩;exact⟨_,_,rfl,⟨rfl,h1⟩,_,_,rfl,⟨rfl,h2⟩,rfl⟩
def lkM(R:List MvR)(t:Int):Option Int:=(R.find? fun m=>decide (m.to=t)).map (·.fr)
def cntM(R:List MvR)(p:Int):Nat:=(R.filter fun m=>decide (m.fr=p)).length
def dropM(R:List MvR)(t:Int):List MvR:=R.filter fun m=>decide (m.to≠t)
def moveM:Nat→List MvR→Int→List MvR→List MvR×List MvR
 |0,R,_,out=>(R,out)
 |k+1,R,to,out=>match lkM R to with
  |none=>(R,out)
  |some fr=>if 0<cntM R to then(R,out)else moveM k (dropM R to) fr (out++[⟨to,fr⟩])
def lastM:Nat→List MvR→Int→Int→Int
 |0,_,_,cur=>cur
 |k+1,R,t,cur=>if lkM R cur=some t then cur else lastM k R t ((lkM R cur).getD 0)
def turnM(R:List MvR)(last sp:Int):List MvR:=R.map fun m=>if m.to=last then⟨last,sp⟩else m
def freeM:List MvR→List MvR→List MvR→List MvR×List MvR
 | [],R,out=>(R,out)
 |m::l,R,out=>freeM l (moveM (R.length+1) R m.to out).1 (moveM (R.length+1) R m.to out).2
def z7d(sp:Int)(m:MvR)(R out:List MvR):List MvR×List MvR:=
 if(lkM R m.to).isSome=true then moveM (R.length+1) (turnM R (lastM R.length R m.to m.to) sp) m.to (out++[⟨sp,m.to⟩])else(R,out)
def z5w(sp:Int):List MvR→List MvR→List MvR→List MvR×List MvR
 | [],R,out=>(R,out)
 |m::l,R,out=>z5w sp l (z7d sp m R out).1 (z7d sp m R out).2
def mayM(sp:Int):List MvR→List MvR→Bool
 |_,[]=>true
 |seen,m::l=>!((lkM seen m.to).isSome||decide (m.to=sp)||decide (m.fr=sp))&&mayM sp (seen++[m]) l
def realM(l:List MvR):List MvR:=l.filter fun m=>decide (m.to≠m.fr)
def z90(l:List MvR)(sp:Int):List MvR:=
 if l.length≤1000∧mayM sp [] l=true then(z5w sp l (freeM l (realM l) []).1 (freeM l (realM l) []).2).2 else[]
def KeyM(R:List MvR):Prop:=(R.map (·.to)).Nodup
def WantM(R:List MvR)(U:Int→Prop):Prop:=∀m∈R,¬U m.to→0<cntM R m.to
theorem cnt_pos{R:List MvR}{p:Int}:0<cntM R p↔∃m∈R,m.fr=p:=by
 unfold cntM;rw[List.length_pos_iff_exists_mem];simp only[zmf,zdt]
theorem z95{R:List MvR}{t fr:Int}(h:lkM R t=some fr):(⟨t,fr⟩:MvR)∈R:=by
 unfold lkM at h;obtain⟨m,hm,rfl⟩:=qR.1 h;have h1:=List.find?_some hm;have h2:=List.mem_of_find?_eq_some hm;simp only[zdt]at h1;subst h1;exact h2
theorem lk_none{R:List MvR}{t:Int}:lkM R t=none↔∀m∈R,m.to≠t:=by
 unfold lkM;rw[Option.map_eq_none_iff,List.find?_eq_none];simp
theorem zha{R:List MvR}(hk:KeyM R){m:MvR}(hm:m∈R):lkM R m.to=some m.fr:=by
 induction R with
 |nil=>cases hm
 |cons a l ih=>
  obtain⟨h1,h2⟩:=List.nodup_cons.1 (show((a::l).map (·.to)).Nodup from hk);unfold lkM;rw[List.find?_cons];rcases zmc.1 hm with rfl|hm
  .simp
  .have:a.to≠m.to:=fun e=>h1 (zmp.2 ⟨m,hm,e.symm⟩);simp only[this,decide_false];exact ih h2 hm
theorem Zl9{R:List MvR}(t q:Int):lkM (dropM R t) q=if q=t then none else lkM R q:=by
 split
 .rename_i h;subst h;rw[lk_none];intro m hm;have:=(zmf.1 hm).2;simpa using this
 .rename_i h
  induction R with
  |nil=>rfl
  |cons a l ih=>
   unfold lkM dropM at ih⊢;rw[qM];by_cases e:a.to=t
   .rw[qc (by simp[e]),ih,List.find?_cons];have:¬a.to=q:=fun e2=>h (by rw[←e2,e]);simp[this]
   .rw[qj (by simpa using e),List.find?_cons,List.find?_cons];by_cases e2:a.to=q
    .simp[e2]
    .simp only[e2,decide_false];exact ih
theorem zv6{R:List MvR}(hk:KeyM R)(t:Int):KeyM (dropM R t):=List.Nodup.sublist (List.Sublist.map _ List.filter_sublist) hk
theorem zpy{R:List MvR}(hk:KeyM R){t fr:Int}(h:lkM R t=some fr):(dropM R t).length+1=R.length:=by
 induction R with
 |nil=>cases h
 |cons a l ih=>
  obtain⟨h1,h2⟩:=List.nodup_cons.1 (show((a::l).map (·.to)).Nodup from hk);by_cases e:a.to=t
  .have:dropM (a::l) t=l:=by
    unfold dropM;rw[qM,qc (by simp[e]),List.filter_eq_self];intro m hm;simp only[zdt];exact fun e2=>h1 (zmp.2 ⟨m,hm,e2.trans e.symm⟩)
   rw[this];rfl
  .have hl:lkM l t=some fr:=by
    unfold lkM at h⊢;rw[List.find?_cons]at h;simpa[e]using h
   have:=ih h2 hl;unfold dropM at this⊢;rw[qM,qj (by simpa using e)];simp only[zlc];omega
theorem Z5l{R:List MvR}(hk:KeyM R){t fr:Int}(h:lkM R t=some fr)(p:Int):cntM R p=cntM (dropM R t) p+if p=fr then 1 else 0:=by
 induction R with
 |nil=>cases h
 |cons a l ih=>
  obtain⟨h1,h2⟩:=List.nodup_cons.1 (show((a::l).map (·.to)).Nodup from hk);by_cases e:a.to=t
  .have hd:dropM (a::l) t=l:=by
    unfold dropM;rw[qM,qc (by simp[e]),List.filter_eq_self];intro m hm;simp only[zdt];exact fun e2=>h1 (zmp.2 ⟨m,hm,e2.trans e.symm⟩)
   have hf:a.fr=fr:=by
    have:=zha (R:=a::l) hk (zms);rw[e,h]at this;exact(qW this).symm
   rw[hd];unfold cntM;rw[qM];by_cases e2:p=fr
   .rw[qj (by simp[hf,e2]),qj e2];rfl
   .rw[qc (by simp[hf];exact fun h=>e2 h.symm),qc e2];rfl
  .have hl:lkM l t=some fr:=by
    unfold lkM at h⊢;rw[List.find?_cons]at h;simpa[e]using h
   have:=ih h2 hl;have hd:dropM (a::l) t=a::dropM l t:=by unfold dropM;rw[qM,qj (by simpa using e)]
   rw[hd];unfold cntM at this⊢;rw[qM,qM];split<;>(try simp only[zlc])<;>omega
theorem zpl{R:List MvR}{t:Int}:∀m∈dropM R t,m∈R:=fun m hm=>(zmf.1 hm).1
theorem zpj:∀(k:Nat)(R:List MvR)(to:Int)(out:List MvR)(U:Int→Prop),KeyM R→R.length<k→WantM R (fun t=>U t∨t=to) →
  KeyM (moveM k R to out).1∧WantM (moveM k R to out).1 U∧(∀m∈(moveM k R to out).1,m∈R)
 |0,R,to,out,U,hk,hl,hw=>absurd hl (Nat.not_lt_zero _)
 |k+1,R,to,out,U,hk,hl,hw=>by
  rw[moveM];cases hlk:lkM R to with
  |none=>
   refine⟨hk,fun m hm hu=>hw m hm ?_,fun m hm=>hm⟩;rintro(h|h)
   .exact hu h
   .exact lk_none.1 hlk m hm h
  |some fr=>
   simp only;split
   .rename_i hc;refine⟨hk,fun m hm hu=>?_,fun m hm=>hm⟩;by_cases e:m.to=to
    .rw[e];exact hc
    .refine hw m hm ?_;rintro(h|h)
     .exact hu h
     .exact e h
   .have hdl:=zpy hk hlk;obtain⟨h1,h2,h3⟩:=zpj k (dropM R to) fr (out++[⟨to,fr⟩]) U (zv6 hk to) om fun m hm hu=>by
     have hm':=zpl m hm;have hne:m.to≠to:=by simpa using(zmf.1 hm).2
     have h4:=hw m hm' fun h=>by
      rcases h with h|h
      .exact hu (.inl h)
      .exact hne h
     have:=Z5l hk hlk m.to;rw[qc fun e=>hu (.inr e)]at this;omega
    exact⟨h1,h2,fun m hm=>zpl m (h3 m hm)⟩
theorem Z5b{R:List MvR}(hk:KeyM R)(hw:WantM R fun _=>False):(∀m∈R,∃f,lkM R m.fr=some f)∧∀a∈R,∀b∈R,a.fr=b.fr→a=b:=by
 have hsub:∀t∈R.map (·.to),t∈R.map (·.fr):=fun t ht=>by
  obtain⟨m,hm,rfl⟩:=zmp.1 ht;obtain⟨e,he,h⟩:=cnt_pos.1 (hw m hm id);exact zmp.2 ⟨e,he,h⟩
 constructor
 .intro m hm;cases h:lkM R m.fr with
  |some f=>exact⟨f,rfl⟩
  |none=>
   exfalso;have hn:=lk_none.1 h;have hmem:m.fr∈R.map (·.fr):=zmp.2 ⟨m,hm,rfl⟩;have h1:(R.map (·.to)).length≤((R.map (·.fr)).erase m.fr).length:=z0n hk fun t ht=>by
    have hne:t≠m.fr:=fun e=>by
     obtain⟨e',he',rfl⟩:=zmp.1 ht;exact hn e' he' e
    exact(List.mem_erase_of_ne hne).2 (hsub t ht)
   rw[List.length_erase_of_mem hmem,zlm,zlm]at h1;have:=List.length_pos_of_mem hm;omega
 .intro a ha b hb hab;refine Classical.byContradiction fun hne=>?_;have hto:a.to≠b.to:=fun e=>hne (by
   have h1:=zha hk ha;have h2:=zha hk hb;rw[e,h2]at h1;cases a;cases b;simp only at e h1;rw[e,qW h1])
  have h1:(R.map (·.to)).length≤((dropM R a.to).map (·.fr)).length:=z0n hk fun t ht=>by
   obtain⟨m,hm,rfl⟩:=zmp.1 ht;obtain⟨e,he,h⟩:=cnt_pos.1 (hw m hm id);by_cases ea:e.to=a.to
   .have h2:=zha hk he;rw[ea,zha hk ha]at h2;refine zmp.2 ⟨b,zmf.2 ⟨hb,by simpa using fun e=>hto e.symm⟩,?_⟩;rw[←hab,qW h2,h]
   .exact zmp.2 ⟨e,zmf.2 ⟨he,by simpa using ea⟩,h⟩
  have:=zpy hk (zha hk ha);rw[zlm,zlm]at h1;omega
def z2h(R:List MvR):Nat→Int→Int
 |0,t=>t
 |k+1,t=>z2h R k ((lkM R t).getD 0)
theorem zdu(R:List MvR):∀(k:Nat)(t:Int),z2h R (k+1) t=(lkM R (z2h R k t)).getD 0
 |0,t=>rfl
 |k+1,t=>by rw[z2h,zdu R k];rfl
theorem zx8{R:List MvR}(hk:KeyM R)(hr:∀m∈R,∃f,lkM R m.fr=some f):∀(k:Nat)(t:Int),(lkM R t).isSome=true→(lkM R (z2h R k t)).isSome=true
 |0,t,h=>h
 |k+1,t,h=>by
  obtain⟨f,hf⟩:=qH.1 h;rw[z2h];refine zx8 hk hr k _ ?_;rw[hf];obtain⟨g,hg⟩:=hr _ (z95 hf);simp only[Option.getD_some]at hg⊢;rw[hg];rfl
theorem Zd5{R:List MvR}(hk:KeyM R)(hw:WantM R fun _=>False){t:Int}(ht:(lkM R t).isSome=true):∃n,n<R.length∧lkM R (z2h R n t)=some t:=by
 obtain⟨hr,hinj⟩:=Z5b hk hw;have hkey:=fun k=>zx8 hk hr k t ht;have hmem:∀k,z2h R k t∈R.map (·.to):=fun k=>by
  obtain⟨f,hf⟩:=qH.1 (hkey k);exact zmp.2 ⟨_,z95 hf,rfl⟩
 have hdup:∃i j,i<j∧j≤R.length∧z2h R i t=z2h R j t:=by
  refine Classical.byContradiction fun hno=>?_;have hn:((List.range (R.length+1)).map fun k=>z2h R k t).Nodup:=by
   rw[List.Nodup,List.pairwise_map,List.pairwise_iff_getElem];intro i j hi hj hij he;simp only[List.getElem_range]at he;rw[wh]at hj;exact hno ⟨i,j,hij,om,he⟩
  have:=z0n hn (m:=R.map (·.to)) fun x hx=>by
   obtain⟨k,_,rfl⟩:=zmp.1 hx;exact hmem k
  rw[zlm,zlm,wh]at this;omega
 have hback:∀i d,0<d→z2h R i t=z2h R (i+d) t→z2h R d t=t:=by
  intro i
  induction i with
  |zero=>intro d _ h;rw[wo]at h;exact h.symm
  |succ i ih=>
   intro d hd h;refine ih d hd ?_;rw[show i+1+d=(i+d)+1 by omega,zdu,zdu]at h;obtain⟨f1,hf1⟩:=qH.1 (hkey i);obtain⟨f2,hf2⟩:=qH.1 (hkey (i+d));rw[hf1,hf2]at h;simp only[Option.getD_some]at h;have:=hinj _ (z95 hf1) _ (z95 hf2) h;exact congrArg MvR.to this
 obtain⟨i,j,hij,hj,he⟩:=hdup;have h1:=hback i (j-i) om (by rw[show i+(j-i)=j by omega];exact he);obtain⟨d,hd⟩:∃d,j-i=d+1:=⟨j-i-1,om⟩;refine⟨d,om,?_⟩;rw[hd,zdu]at h1;obtain⟨f,hf⟩:=qH.1 (hkey d);rw[hf]at h1⊢;rw[←h1];rfl
theorem zue{R:List MvR}{t:Int}:∀(n k:Nat)(cur:Int),n<k→lkM R (z2h R n cur)=some t→∃m,m≤n∧lastM k R t cur=z2h R m cur∧lkM R (lastM k R t cur)=some t
 |0,k+1,cur,_,h=>by
  rw[z2h]at h;rw[lastM,qj h];exact⟨0,we _,rfl,h⟩
 |n+1,k+1,cur,hk,h=>by
  rw[lastM];split
  .rename_i h';exact⟨0,Nat.zero_le _,rfl,h'⟩
  .rw[z2h]at h;obtain⟨m,h1,h2,h3⟩:=zue n k _ om h;exact⟨m+1,om,h2,h3⟩
theorem Zl5{R:List MvR}(last sp q:Int):lkM (turnM R last sp) q=if q=last∧(lkM R q).isSome=true then some sp else lkM R q:=by
 induction R with
 |nil=>simp[turnM,lkM]
 |cons a l ih=>
  unfold lkM turnM at ih⊢;rw[wa,List.find?_cons,List.find?_cons];by_cases e:a.to=last
  .simp only[e,if_true];by_cases eq:last=q
   .subst eq;simp
   .simp only[eq,decide_false];exact ih
  .simp only[e,if_false];by_cases eq:a.to=q
   .have:¬q=last:=fun e2=>e (by rw[eq,e2]);simp[eq,this]
   .simp only[eq,decide_false];exact ih
theorem zw0{R:List MvR}(hk:KeyM R)(last sp:Int):KeyM (turnM R last sp):=by
 unfold KeyM turnM;rw[List.map_map];have:(fun m:MvR=>m.to) ∘ (fun m=>if m.to=last then(⟨last,sp⟩:MvR)else m)=fun m=>m.to:=by
  funext m;simp only[Function.comp];split
  .rename_i h;exact h.symm
  .rfl
 rw[this];exact hk
theorem zw5{R:List MvR}(hk:KeyM R){last t sp:Int}(h:lkM R last=some t)(p:Int)(hp:p≠sp):cntM R p=cntM (turnM R last sp) p+if p=t then 1 else 0:=by
 induction R with
 |nil=>cases h
 |cons a l ih=>
  obtain⟨h1,h2⟩:=List.nodup_cons.1 (show((a::l).map (·.to)).Nodup from hk);have hc:turnM (a::l) last sp=(if a.to=last then⟨last,sp⟩else a)::turnM l last sp:=rfl;rw[hc];by_cases e:a.to=last
  .have hd:turnM l last sp=l:=by
    unfold turnM;rw[show l=l.map id by simp];rw[List.map_map];refine qO fun m hm=>?_;simp only[Function.comp,id];rw[qc fun e2=>h1 (zmp.2 ⟨m,hm,e2.trans e.symm⟩)]
   have hf:a.fr=t:=by
    have:=zha (R:=a::l) hk (zms);rw[e,h]at this;exact(qW this).symm
   rw[hd,qj e];unfold cntM;rw[qM,qM,qc (show ¬(decide ((⟨last,sp⟩:MvR).fr=p))=true by simpa using fun h=>hp h.symm)];by_cases e2:p=t
   .rw[qj (by simp[hf,e2]),qj e2];rfl
   .rw[qc (by simp[hf];exact fun h=>e2 h.symm),qc e2];rfl
  .have hl:lkM l last=some t:=by
    unfold lkM at h⊢;rw[List.find?_cons]at h;simpa[e]using h
   have:=ih h2 hl;rw[qc e];unfold cntM at this⊢;rw[qM,qM];split<;>(try simp only[zlc])<;>omega
theorem Z7c(m:List (Int×Value))(t q:Int):getM (delM m t) q=if q=t then none else getM m q:=by
 induction m with
 |nil=>unfold getM delM;simp
 |cons a l ih=>
  unfold delM at ih⊢;rw[qM];by_cases e:a.1=t
  .rw[qc (by simp[e]),ih,z30];by_cases e2:q=t
   .rw[qj e2,qj e2]
   .rw[qc e2,qc e2,qc (fun h=>e2 (by rw[←h,e]))]
  .rw[qj (by simpa using e),z30,z30,ih];by_cases e2:a.1=q
   .rw[qj e2,qj e2,qc (fun h=>e (by rw[e2,h]))]
   .rw[qc e2,qc e2]
theorem uMapO:Tryz.prog.underlying 135=some (.map 3 3):=kr
theorem kIntO:Tryz.prog.underlying 3=some (Key.kd Int):=kr
theorem zte:Tryz.prog.underlying 184=some (.slice 188):=kr
theorem zkg:ElemOk zP 188 2 16=true:=kr
structure OrdR(R:List MvR)(sp:Int)(fm wm:List (Int×Value)):Prop where
 f:∀q,getM fm q=(lkM R q).map (Value.int .i64)
 w:∀p,∃n:Int,(getM wm p).getD (vi 0)=.int .i64 n∧(p≠sp→n=cntM R p)
 k:KeyM R
 i:∀m∈R,InI m.to∧InI m.fr
 s:∀m∈R,m.to≠sp
def OrdH(S0 K:PH)(ro rf rw:Nat)(sp:Int)(R out:List MvR)(J:List Itm):Prop:=∃(S:PH) (es:Array MapEntry) (cl:Nat) (es2:Array MapEntry) (cl2:Nat) (fm wm:List (Int×Value)) (ov:Value),PH.le S0 S ∧
 Held S K (bx ro 248 [.map (some rf),.map (some rw),ov]::.blk rf (.map es cl)::.blk rw (.map es2 cl2)::orow 188 out ov::J)∧EntsR es.toList cl fm∧EntsR es2.toList cl2 wm∧OrdR R sp fm wm
section
variable {S0 K:PH}{ro rf rw:Nat}{sp:Int}{R out:List MvR}{J:List Itm}
theorem OrdR.pop{fm wm:List (Int×Value)}(h:OrdR R sp fm wm){to fr n:Int}(hl:lkM R to=some fr)(hn:(getM wm fr).getD (vi 0)=.int .i64 n)(hsp:fr≠sp→IntKind.i64.wrap (n-1)=n-1):
  OrdR (dropM R to) sp (delM fm to) (putM wm fr (vi (IntKind.i64.wrap (n-1)))):=by
 refine⟨fun q=>?_,fun p=>?_,zv6 h.k to,fun m hm=>h.i m (zpl m hm),fun m hm=>h.s m (zpl m hm)⟩
 .rw[Z7c,Zl9];split
  .rfl
  .exact h.f q
 .rw[zhl];obtain⟨n',h1,h2⟩:=h.w p;have hc:=Z5l h.k hl p;by_cases e:p=fr
  .subst e;rw[qj rfl];refine⟨_,rfl,fun hp=>?_⟩;rw[h1]at hn;cases hn;rw[qj rfl]at hc;rw[hsp hp,h2 hp];omega
  .rw[qc e];rw[qc e]at hc;exact⟨n',h1,fun hp=>by rw[h2 hp];omega⟩
theorem Z4n(R:List MvR)(p:Int):cntM R p≤R.length:=List.length_filter_le _ _
theorem Z7r(to:Int)(hto:InI to)(hl:R.length≤1000)(ho:out.length+R.length≤100000)(h:OrdH S0 K ro rf rw sp R out J):
  Tri zP 208 #[pAt ro,vi to] K fun e K'=>e=.returned (.tuple #[])∧OrdH S0 K' ro rf rw sp (moveM (R.length+1) R to out).1 (moveM (R.length+1) R to out).2 J:=by
 refine qr zo5 [pAt ro,vi to] ?_;generalize hT:moveM (R.length+1) R to out=T;refine⟨fun n vs K'=>∃(R' out':List MvR)(to':Int),n=R'.length∧vs=[vi to']∧InI to'∧R'.length≤1000∧out'.length+R'.length≤100000∧OrdH S0 K' ro rf rw sp R' out' J∧moveM (R'.length+1) R' to' out'=T,⟨R.length,R,out,to,rfl,rfl,hto,hl,ho,h,hT⟩,?_⟩;rintro n vs K1 _ ⟨R1,o1,t1,rfl,rfl,ht1,hl1,ho1,h1,hT1⟩;obtain⟨S,es,cl,es2,cl2,fm,wm,ov,hS,hh,e1,e2,hr⟩:=h1;simp only[cns];have row:∀{S' K':PH} {I:List Itm} {u:Value} (a k:Nat),Held S' K' I→bx ro 248 [.map (some rf),.map (some rw),u]∈I→rowAt K' (some ⟨ro,a,none⟩) ((([.map (some rf),.map (some rw),u]:List Value).drop a).take k):=fun a k hh hi=>z0r hh hi a k;refine⟨fun _=>rfl,[.map (some rf)],rfl,row 0 1 hh (zms),?_⟩;simp only[cns];have hb1:K1 rf=some (.map es cl):=hh.blk (zmm _ (zms));have hb2:K1 rw=some (.map es2 cl2):=hh.blk (zmm _ (zmm _ (zms)));have hg:=hr.f t1;refine zij (α:=Int) (m:=fm) (v:=.map (some rf)) t1 (vi 0) uMapO kIntO kr kr kr ⟨rf,es,cl,rfl,hb1,e1⟩ (by rw[hg];cases lkM R1 t1<;>rfl) z01 ?_;rw[hg];rw[moveM]at hT1;cases hlk:lkM R1 t1 with
 |none=>
  rw[hlk]at hT1;simp only at hT1;simp only[Option.map_none,Option.getD_none,Option.isSome_none,cns];refine⟨fun vs K'=>vs=[.bool true]∧K'=K1,?_,fun _=>⟨_,z00,rfl,rfl⟩,fun g=>by simp[wy]at g⟩;rintro vs K' _ ⟨rfl,rfl⟩;simp only[cns];refine⟨fun _=>⟨rfl,?_⟩,fun g=>by simp[wy]at g⟩;rw[←hT1];exact⟨S,es,cl,es2,cl2,fm,wm,ov,hS,hh,e1,e2,hr⟩
 |some fr=>
  rw[hlk]at hT1;simp only at hT1;simp only[Option.map_some,Option.getD_some,Option.isSome_some,cns];have hmem:=z95 hlk;obtain⟨nt,hnt,hnt2⟩:=hr.w t1;have hnt2:=hnt2 (hr.s _ hmem);have hfi:=(hr.i _ hmem).2;refine⟨fun vs K'=>vs=[.bool (decide (0<cntM R1 t1))]∧K'=K1,?_,fun g=>by simp[wy]at g,fun _=>?_⟩;rotate_left
  .refine⟨[.map (some rw)],rfl,row 1 1 hh (zms),?_⟩;simp only[cns];refine z29 (α:=Int) (m:=wm) (v:=.map (some rw)) t1 (vi 0) uMapO kIntO kr kr kr ⟨rw,es2,cl2,rfl,hb2,e2⟩ (by rw[hnt];rfl) z01 ?_;rw[hnt];simp only[cns];refine⟨_,z00,?_,rfl⟩;simp only[ev0,ev,evV,cns,List.getD_cons_zero,List.getD_cons_succ,wa,List.map_nil,iOf,bOf,sOf,pOf,slLen,z0b,cmpI,Value.ite_bool,Z1i,Z1h,zvn,Z0y,List.cons.injEq,Value.bool.injEq,and_true,decide_eq_decide];omega
  rintro vs K' _ ⟨rfl,rfl⟩;simp only[cns];refine⟨fun g=>?_,fun g=>?_⟩
  .simp only[ev0,ev,evV,cns,List.getD_cons_zero,List.getD_cons_succ,wa,List.map_nil,iOf,bOf,sOf,pOf,slLen,z0b,cmpI,Value.ite_bool,Z1i,Z1h,zvn,Z0y,zdt]at g;rw[qj g]at hT1;refine⟨rfl,?_⟩;rw[←hT1];exact⟨S,es,cl,es2,cl2,fm,wm,ov,hS,hh,e1,e2,hr⟩
  simp only[ev0,ev,evV,cns,List.getD_cons_zero,List.getD_cons_succ,wa,List.map_nil,iOf,bOf,sOf,pOf,slLen,z0b,cmpI,Value.ite_bool,Z1i,Z1h,zvn,Z0y,zdf]at g;rw[qc g]at hT1;have hdl:=zpy hr.k hlk;obtain⟨ob,oc,hov⟩:=(hh.row (e:=188) (l:=o1) (v:=ov) sM).sl;refine⟨[ov],by rw[hov];rfl,row 2 1 hh (zms),?_⟩;simp only[cns];refine z0t (b:=16) (more:=[⟨t1,fr⟩]) [.agg #[vi t1,vi fr]] zte zkg rfl dC dC (hh.perm (qA (l₁:=[_,_,_]) (l₂:=J))) kr (.cons (mvR_iff.2 ⟨rfl,ht1,hfi⟩) .nil) z01 (fun w=>kr) (fun w=>kr)
   (by simp only[maxLen,zlc,zln];omega) (by simp only[zlc,zln];omega) fun u v7 S7 K7 l7 h7=>⟨z01,?_⟩
  simp only[cns];obtain⟨b7,c7,hv7⟩:=(h7.row (zms)).sl;refine z06 (off:=2) (vs:=[v7]) rfl (h7.perm (qq _ _ _)) (by simp only[wy]) (by intro w hw;rw[zsi.1 hw,hv7];rfl) sM fun K8 h8=>?_;have h8:Held S7 K8 (bx ro 248 [.map (some rf),.map (some rw),v7]::orow 188 (o1++[⟨t1,fr⟩]) v7::.blk rf (.map es cl)::.blk rw (.map es2 cl2)::J):=h8;refine⟨[.map (some rf)],rfl,row 0 1 h8 (zms),?_⟩;simp only[cns];refine zq4 (α:=Int) (m:=fm) (r:=rf) (es:=es) (clock:=cl) t1 rfl uMapO kIntO kr kr (h8.blk (zmm _ (zmm _ (zms)))) e1 fun es3 cl3 he3=>?_;have h9:=(h8.perm (qA (l₁:=[_,_]) (l₂:=_::J))).put (.map es3 cl3);refine⟨[.map (some rw)],rfl,row 1 1 h9 (zmm _ (zms)),?_⟩;simp only[cns];obtain⟨nf,hnf,hnf2⟩:=hr.w fr;have hb3:=h9.blk (r:=rw) (o:=.map es2 cl2) (zmm _ (zmm _ (zmm _ (zms))));refine z29 (α:=Int) (m:=wm) (v:=.map (some rw)) fr (vi 0) uMapO kIntO kr kr kr ⟨rw,es2,cl2,rfl,hb3,e2⟩ (by rw[hnf];rfl) z01 ?_;rw[hnf];simp only[cns];refine z1y (α:=Int) (m:=wm) (r:=rw) (es:=es2) (clock:=cl2) fr (vi (IntKind.i64.wrap (nf-1))) uMapO kIntO kr kr kr hb3 e2 fun es4 cl4 he4=>?_;have ha:=(h9.perm (qA (l₁:=[_,_,_]) (l₂:=J))).put (.map es4 cl4);have hcl:=Z4n R1 fr;have hrp:=hr.pop hlk hnf fun hp=>by rw[hnf2 hp];exact w64 om om
  refine⟨_,z00,(dropM R1 t1).length,om,dropM R1 t1,o1++[⟨t1,fr⟩],fr,rfl,rfl,hfi,om,by simp only[zla,zlc,zln];omega,⟨S7,es3,cl3,es4,cl4,_,_,v7,ww hS l7,?_,he3,he4,hrp⟩,by rw[←hT1,hdl]⟩;refine ha.perm ?_;refine(qA (l₁:=[_,_]) (l₂:=_)).trans ?_;refine List.Perm.cons _ ?_;exact(qq _ _ _)
end
theorem zrk:∀(k:Nat)(R:List MvR)(to:Int)(out:List MvR),KeyM R→(moveM k R to out).2.length+(moveM k R to out).1.length=out.length+R.length
 |0,R,to,out,_=>rfl
 |k+1,R,to,out,hk=>by
  rw[moveM];cases hl:lkM R to with
  |none=>rfl
  |some fr=>
   simp only;split
   .rfl
   .have:=zpy hk hl;rw[zrk k _ _ _ (zv6 hk to)];simp only[zla,zlc,zln];omega
theorem zyn(A B:List MvR)(q:Int):lkM (A++B) q=(lkM A q).or (lkM B q):=by
 unfold lkM;rw[List.find?_append];cases List.find? (fun m=>decide (m.to=q)) A<;>rfl
theorem Zhe(m:MvR)(q:Int):lkM [m] q=if q=m.to then some m.fr else none:=by
 unfold lkM;rw[List.find?_cons];by_cases e:m.to=q
 .rw[qj e.symm];simp[e]
 .rw[qc (fun h=>e h.symm)];simp[e]
theorem Zlm(A B:List MvR)(p:Int):cntM (A++B) p=cntM A p+cntM B p:=by
 unfold cntM;rw[List.filter_append,zla]
theorem Zlj(m:MvR)(p:Int):cntM [m] p=if p=m.fr then 1 else 0:=by
 unfold cntM;rw[qM];by_cases e:m.fr=p
 .rw[qj (by simpa using e),qj e.symm];rfl
 .rw[qc (by simpa using e),qc (fun h=>e h.symm)];rfl
def partM(l:List MvR)(i:Nat):List MvR:=realM (l.take i)++l.drop i
theorem zbj{l:List MvR}{i:Nat}{m:MvR}(h:l[i]?=some m):l.drop i=m::l.drop (i+1):=by
 rw[←List.getElem_cons_drop (zgi.1 h).1,(zgi.1 h).2]
theorem z59{l:List MvR}{i:Nat}{m:MvR}(h:l[i]?=some m):l.take (i+1)=l.take i++[m]:=by rw[q9,h];rfl
theorem zp6(A B:List MvR):realM (A++B)=realM A++realM B:=List.filter_append ..
theorem Zgu{l:List MvR}{i:Nat}{m:MvR}(h:l[i]?=some m)(hr:m.to≠m.fr):partM l (i+1)=partM l i:=by
 unfold partM;rw[z59 h,zp6,zbj h];have:realM [m]=[m]:=by unfold realM;rw[qM,qj (by simpa using hr)];rfl
 rw[this,zaa];rfl
theorem Z8g{l:List MvR}(hk:KeyM l)(i:Nat):KeyM (partM l i):=by
 unfold partM KeyM;rw[List.map_append];have h1:((l.take i).map (·.to)++(l.drop i).map (·.to)).Nodup:=by rw[←List.map_append,List.take_append_drop];exact hk
 exact h1.sublist (((List.filter_sublist (p:=fun m:MvR=>decide (m.to≠m.fr)) (l:=l.take i)).map _).append (List.Sublist.refl _))
theorem Zho{l:List MvR}(hk:KeyM l){i:Nat}{m:MvR}(h:l[i]?=some m)(hr:m.to=m.fr)(q:Int):lkM (partM l (i+1)) q=if q=m.to then none else lkM (partM l i) q:=by
 have h0:partM l (i+1)=realM (l.take i)++l.drop (i+1):=by
  unfold partM;rw[z59 h,zp6];have:realM [m]=[]:=by unfold realM;rw[qM,qc (by simpa using hr)];rfl
  rw[this,zan]
 have h1:partM l i=realM (l.take i)++([m]++l.drop (i+1)):=by unfold partM;rw[zbj h];rfl
 rw[h0,h1,zyn,zyn,zyn,Zhe];by_cases e:q=m.to
 .rw[qj e];have hk':=Z8g hk i;rw[h1]at hk';unfold KeyM at hk';rw[List.map_append,List.map_append,List.nodup_append]at hk';have n1:lkM (realM (l.take i)) q=none:=lk_none.2 fun x hx hxe=>hk'.2.2 x.to (zmp.2 ⟨x,hx,rfl⟩) m.to sM (by rw[hxe,e]);have n2:lkM (l.drop (i+1)) q=none:=lk_none.2 fun x hx hxe=>by
   have:=(List.nodup_append.1 hk'.2.1).2.2 m.to sM x.to (zmp.2 ⟨x,hx,rfl⟩);exact this (by rw[hxe,e])
  rw[n1,n2];rfl
 .rw[qc e,qc e];cases lkM (realM (l.take i)) q<;>rfl
theorem Z7y(R:List MvR)(last sp:Int):(turnM R last sp).length=R.length:=zlm _
section
variable {S0 K:PH}{ro rf rw:Nat}{sp:Int}{R out:List MvR}{J:List Itm}
theorem OrdR.turn{fm wm:List (Int×Value)}(h:OrdR R sp fm wm)(hsp:InI sp){t last n:Int}(hl:lkM R last=some t)(ht:t≠sp)(hn:(getM wm t).getD (vi 0)=.int .i64 n)(hw:IntKind.i64.wrap (n-1)=n-1):
  OrdR (turnM R last sp) sp (putM fm last (vi sp)) (putM wm t (vi (IntKind.i64.wrap (n-1)))):=by
 refine⟨fun q=>?_,fun p=>?_,zw0 h.k last sp,fun m hm=>?_,fun m hm=>?_⟩
 .rw[zhl,Zl5];by_cases e:q=last
  .subst e;rw[qj rfl,qj ⟨rfl,by rw[hl];rfl⟩];rfl
  .rw[qc e,qc (fun hh=>e hh.1)];exact h.f q
 .rw[zhl];obtain⟨n',h1,h2⟩:=h.w p;by_cases e:p=t
  .subst e;rw[qj rfl];rw[h1]at hn;cases hn;refine⟨_,rfl,fun hp=>?_⟩;have:=zw5 h.k hl p hp;rw[qj rfl]at this;rw[hw,h2 hp];omega
  .rw[qc e];refine⟨n',h1,fun hp=>?_⟩;have:=zw5 h.k hl p hp;rw[qc e]at this;rw[h2 hp];omega
 .obtain⟨m',hm',rfl⟩:=zmp.1 hm;split
  .rename_i e;exact⟨by rw[←e];exact(h.i m' hm').1,hsp⟩
  .exact h.i m' hm'
 .obtain⟨m',hm',rfl⟩:=zmp.1 hm;split
  .rename_i e;show last≠sp;rw[←e];exact h.s m' hm'
  .exact h.s m' hm'
theorem Zg3(hk:KeyM R)(hw:WantM R fun _=>False)(hs:∀m∈R,m.to≠sp){t last:Int}(hl:lkM R last=some t):WantM (turnM R last sp) fun q=>False∨q=t:=fun m hm hu=>by
 obtain⟨m',hm',rfl⟩:=zmp.1 hm;have hto:(if m'.to=last then(⟨last,sp⟩:MvR)else m').to=m'.to:=by
  split
  .rename_i e;exact e.symm
  .rfl
 rw[hto]at hu⊢;have h1:=hw m' hm' id;have h2:=zw5 hk hl m'.to (hs m' hm');rw[qc fun e=>hu (.inr e)]at h2;omega
end
theorem Zgm(l:List MvR)(v:Value)(sp:Int)(S:PH)(hl:SlR S l v)(hsp:InI sp):Tri zP 179 #[v,vi sp] S fun e K'=>PH.le S K'∧∃w err,e=.returned (.tuple #[w,vi err])∧SlR K' (z90 l sp) w:=by
 have hl0:=hl;have hmx:maxLen=9223372036854775807:=rfl;obtain⟨lb,lc,rfl⟩:=hl.sl;have hlm:=hl.max;have nil_:∀K:PH,SlR (α:=MvR) K [] (.slice none 0 0):=fun K=>SlR.mk_iff.2 ⟨by simp[maxLen],.inl ⟨rfl,rfl⟩⟩;generalize hT:z90 l sp=T;unfold z90 at hT;refine qr zxa [.slice lb l.length lc,vi sp] ?_;refine⟨fun g=>?_,fun g=>?_⟩
 .simp only[wy,zdt]at g;rw[qc om]at hT;rw[←hT];exact⟨wx _,_,_,rfl,nil_ S⟩
 simp only[wy,zdf]at g;have hle:l.length≤1000:=om;refine z5g fun rf hrf=>?_;have k1:=(Held.nil (wx S)).new hrf (.map #[] 0);simp only[cns];refine z5g fun rw_ hrw=>?_;have k2:=k1.new hrw (.map #[] 0);simp only[cns];refine z31 (vs:=[.map (some rf),.map (some rw_),.slice none 0 0]) k2 kr fun ro K3 _ h3=>?_;simp only[cns];have rd:∀{i:Nat} {m:MvR} {K:PH},l[i]?=some m→PH.le S K→(z0b (.slice lb l.length lc)).isSome=true∧InI m.to∧InI m.fr∧rowAt K (pOf (eltV (.slice lb l.length lc) (i:Int) 2)) [vi m.to,vi m.fr]:=fun hi hK=>by
  obtain⟨x1,_,cs,x2,x3⟩:=hl0.get hi;obtain⟨rfl,x4,x5⟩:=mvR_iff.1 x2;exact⟨x1,x4,x5,z0v hK x3⟩
 have hin:∀m∈l,InI m.to∧InI m.fr:=fun m hm=>by
  obtain⟨i,hi⟩:=qJ hm;obtain⟨_,h1,h2,_⟩:=rd hi (wx S);exact⟨h1,h2⟩
 have up:∀{i:Nat},i<l.length→IntKind.i64.wrap ((i:Int)+1)=((i+1:Nat):Int):=fun h=>by rw[w64 om om];rfl
 have row:∀{S' K':PH} {I:List Itm} {u:Value} (a k:Nat),Held S' K' I→bx ro 248 [.map (some rf),.map (some rw_),u]∈I→rowAt K' (some ⟨ro,a,none⟩) ((([.map (some rf),.map (some rw_),u]:List Value).drop a).take k):=fun a k hh hi=>z0r hh hi a k;refine ⟨fun n vs K'=>∃(i:Nat) (es:Array MapEntry) (cl:Nat) (fm:List (Int×Value)),i+n=l.length∧vs=[.slice none 0 0,vi 0,nI i] ∧
   Held S K' [bx ro 248 [.map (some rf),.map (some rw_),.slice none 0 0],.blk rw_ (.map #[] 0),.blk rf (.map es cl)]∧EntsR es.toList cl fm∧(∀q,getM fm q=(lkM (l.take i) q).map (Value.int .i64))∧KeyM (l.take i)∧(∀m∈l.take i,m.to≠sp)∧mayM sp [] l=mayM sp (l.take i) (l.drop i),
  ⟨l.length,0,#[],0,[],om,rfl,h3,EntsR.empty,fun q=>rfl,List.nodup_nil,fun m hm=>by simp at hm,sM⟩,?_⟩
 rintro n vs K4 _ ⟨i,es,cl,fm,hin_,rfl,h4,e4,f4,k4,s4,m4⟩;simp only[cns];have hK4:=h4.sh;refine⟨fun g1=>?_,fun g1=>?_⟩
 .simp only[wy,zdt]at g1;obtain⟨m,hm⟩:∃m,l[i]?=some m:=⟨_,zge om⟩;obtain⟨x1,x2,x3,x4⟩:=rd hm hK4;rw[zbj hm,mayM]at m4;refine⟨fun _=>⟨x1,by show(0:Int)≤(i:Int);omega,by show(i:Int)<(l.length:Int);omega⟩,[vi m.to,vi m.fr],rfl,x4,fun _=>rfl,[.map (some rf)],rfl,row 0 1 h4 (zms),?_⟩;simp only[cns];have hg:=f4 m.to;refine zij (α:=Int) (m:=fm) (v:=.map (some rf)) m.to (vi 0) uMapO kIntO kr kr kr ⟨rf,es,cl,rfl,h4.blk sM,e4⟩ (by rw[hg];cases lkM (l.take i) m.to<;>rfl) z01 ?_;have hsome:(getM fm m.to).isSome=(lkM (l.take i) m.to).isSome:=by rw[hg];cases lkM (l.take i) m.to<;>rfl
  rw[hsome];simp only[cns];refine⟨fun g2=>?_,fun g2=>?_⟩
  .have hno:mayM sp [] l=false:=by
    rw[m4];simp only[wy]at g2;simp only[qu,zdt]at g2;simp only[wj,qU];left;simp only[qu,zdt];exact g2
   rw[qc (by rw[hno];simp)]at hT;rw[←hT];exact⟨hK4,_,_,rfl,nil_ K4⟩
  .simp only[wy]at g2;simp only[zof,zdf]at g2;obtain⟨⟨g3,g4⟩,g5⟩:=g2;have hno:=lk_none.1 (by simpa using g3:lkM (l.take i) m.to=none);refine⟨[.map (some rf)],rfl,row 0 1 h4 (zms),?_⟩;simp only[cns];refine z1y (α:=Int) (m:=fm) (r:=rf) (es:=es) (clock:=cl) m.to (vi m.fr) uMapO kIntO kr kr kr (h4.blk sM) e4 fun es5 cl5 he5=>?_;have h5:=((h4.perm (qA (l₁:=[_,_]) (l₂:=[]))).put (.map es5 cl5)).perm (qA (l₁:=[_,_]) (l₂:=[])).symm;refine⟨_,z00,n-1,om,i+1,es5,cl5,_,om,by simp only[wy,up (show i<l.length by omega)],h5,he5,fun q=>?_,?_,fun x hx=>?_,?_⟩
   .rw[zhl,z59 hm,zyn,Zhe,f4 q];by_cases e:q=m.to
    .have:lkM (l.take i) q=none:=by rw[e];simpa using g3
     rw[qj e,qj e,this];rfl
    .rw[qc e,qc e];cases lkM (l.take i) q<;>rfl
   .unfold KeyM;rw[z59 hm,List.map_append,List.nodup_append];refine⟨k4,sM,fun a ha b hb=>?_⟩;obtain⟨x,hx,rfl⟩:=zmp.1 ha;simp at hb;rw[hb];exact hno x hx
   .rw[z59 hm]at hx;rcases zma.1 hx with hx|hx
    .exact s4 x hx
    .rw[zsi.1 hx];exact g4
   .rw[m4,z59 hm];simp[g3,g4,g5]
 simp only[wy,zdf]at g1;obtain rfl:i=l.length:=om;have hT2:mayM sp [] l=true:=by rw[m4,List.drop_length];rfl
 rw[List.take_length]at f4 k4 s4;rw[qj ⟨hle,hT2⟩]at hT;clear m4 g1;refine ⟨fun n vs K'=>∃(i:Nat) (es:Array MapEntry) (cl:Nat) (es2:Array MapEntry) (cl2:Nat) (fm wm:List (Int×Value)),i+n=l.length∧vs=[nI i] ∧
   Held S K' [bx ro 248 [.map (some rf),.map (some rw_),.slice none 0 0],.blk rw_ (.map es2 cl2),.blk rf (.map es cl)]∧EntsR es.toList cl fm∧EntsR es2.toList cl2 wm∧(∀q,getM fm q=(lkM (partM l i) q).map (Value.int .i64))∧(∀p,(getM wm p).getD (vi 0)=.int .i64 (cntM (realM (l.take i)) p:Int)),
  ⟨l.length,0,es,cl,#[],0,fm,[],om,rfl,h4,e4,EntsR.empty,f4,fun p=>rfl⟩,?_⟩
 clear h4 e4 f4;rintro n vs K4 _ ⟨i,es,cl,es2,cl2,fm,wm,hin_,rfl,h4,e4,e42,f4,w4⟩;have hK4:=h4.sh;simp only[cns];refine⟨fun g1=>?_,fun g1=>?_⟩
 .simp only[wy,zdt]at g1;obtain⟨m,hm⟩:∃m,l[i]?=some m:=⟨_,zge om⟩;obtain⟨x1,x2,x3,x4⟩:=rd hm hK4;refine ⟨fun vs K'=>vs=[]∧∃(es:Array MapEntry) (cl:Nat) (es2:Array MapEntry) (cl2:Nat) (fm wm:List (Int×Value)),
   Held S K' [bx ro 248 [.map (some rf),.map (some rw_),.slice none 0 0],.blk rw_ (.map es2 cl2),.blk rf (.map es cl)]∧EntsR es.toList cl fm∧EntsR es2.toList cl2 wm∧(∀q,getM fm q=(lkM (partM l (i+1)) q).map (Value.int .i64))∧(∀p,(getM wm p).getD (vi 0)=.int .i64 (cntM (realM (l.take (i+1))) p:Int)),?_,
   fun _=>⟨x1,by show(0:Int)≤(i:Int);omega,by show(i:Int)<(l.length:Int);omega⟩,[vi m.to,vi m.fr],rfl,x4,fun g2=>?_,fun g2=>?_⟩
  .rintro vs K5 _ ⟨rfl,es,cl,es2,cl2,fm,wm,q1,q2,q3,q4,q5⟩;refine⟨_,z00,n-1,om,i+1,es,cl,es2,cl2,fm,wm,om,by simp only[wy,up (show i<l.length by omega)],q1,q2,q3,q4,q5⟩
  .simp only[wy,zdt]at g2;refine⟨fun _=>rfl,[.map (some rf)],rfl,row 0 1 h4 (zms),?_⟩;simp only[cns];refine zq4 (α:=Int) (m:=fm) (r:=rf) (es:=es) (clock:=cl) m.to rfl uMapO kIntO kr kr (h4.blk sM) e4 fun es5 cl5 he5=>?_;have h5:=((h4.perm (qA (l₁:=[_,_]) (l₂:=[]))).put (.map es5 cl5)).perm (qA (l₁:=[_,_]) (l₂:=[])).symm;refine⟨_,z00,rfl,es5,cl5,es2,cl2,_,wm,h5,he5,e42,fun q=>?_,fun p=>?_⟩
   .rw[Z7c,Zho k4 hm g2,f4 q];split<;>rfl
   .rw[z59 hm,zp6];have:realM [m]=[]:=by unfold realM;rw[qM,qc (by simpa using g2)];rfl
    rw[this,zan];exact w4 p
  .simp only[wy,zdf]at g2;refine⟨fun _=>rfl,[.map (some rw_)],rfl,row 1 1 h4 (zms),?_⟩;simp only[cns];have hwf:=w4 m.fr;refine z29 (α:=Int) (m:=wm) (v:=.map (some rw_)) m.fr (vi 0) uMapO kIntO kr kr kr ⟨rw_,es2,cl2,rfl,h4.blk sM,e42⟩ (by rw[hwf];rfl) z01 ?_;rw[hwf];simp only[cns];refine z1y (α:=Int) (m:=wm) (r:=rw_) (es:=es2) (clock:=cl2) m.fr (vi (IntKind.i64.wrap ((cntM (realM (l.take i)) m.fr:Int)+1))) uMapO kIntO kr kr kr (h4.blk sM) e42 fun es5 cl5 he5=>?_;have h5:=((h4.perm (qq _ _ _)).put (.map es5 cl5)).perm (qq _ _ _);have hc:=Z4n (realM (l.take i)) m.fr;have hrl:(realM (l.take i)).length≤l.length:=Nat.le_trans (List.length_filter_le _ _) (by rw[List.length_take];omega);refine⟨_,z00,rfl,es,cl,es5,cl5,fm,_,h5,e4,he5,fun q=>by rw[Zgu hm g2];exact f4 q,fun p=>?_⟩;rw[zhl,z59 hm,zp6,Zlm];have:realM [m]=[m]:=by unfold realM;rw[qM,qj (by simpa using g2)];rfl
   rw[this,Zlj];by_cases e:p=m.fr
   .rw[qj e,qj e,e,w64 om om];simp only[Option.getD_some];congr 1
   .rw[qc e,qc e,w4 p];rfl
 simp only[wy,zdf]at g1;obtain rfl:i=l.length:=om;clear g1;have hpl:partM l l.length=realM l:=by unfold partM;rw[List.take_length,List.drop_length,zan]
 rw[hpl]at f4;rw[List.take_length]at w4;have rk:KeyM (realM l):=by rw[←hpl];exact Z8g k4 _
 have rsub:∀m∈realM l,m∈l:=fun m hm=>(zmf.1 hm).1;have rlen:(realM l).length≤l.length:=List.length_filter_le _ _;have hord:OrdR (realM l) sp fm wm:=⟨f4,fun p=>⟨_,w4 p,fun _=>rfl⟩,rk,fun m hm=>hin m (rsub m hm),fun m hm=>s4 m (rsub m hm)⟩;have hO:OrdH S K4 ro rf rw_ sp (realM l) [] []:=⟨S,es,cl,es2,cl2,fm,wm,.slice none 0 0,wx S,by
  have:=h4.empty (α:=MvR) 188;refine this.perm ?_;refine(qA (l₁:=[_]) (l₂:=[_,_])).symm.trans ?_;refine List.Perm.cons _ ?_;exact((qq _ _ _).trans (List.Perm.cons _ (qq _ _ _))).trans (qq _ _ _),e4,e42,hord⟩
 refine ⟨fun n vs K'=>∃(i:Nat) (R out:List MvR),i+n=l.length∧vs=[nI i]∧PH.le S K'∧OrdH S K' ro rf rw_ sp R out []∧KeyM R∧(∀m∈R,m∈realM l)∧out.length+R.length≤l.length∧WantM R (fun t=>∃m∈l.drop i,m.to=t)∧freeM l (realM l) []=freeM (l.drop i) R out,
  ⟨l.length,0,realM l,[],om,rfl,hK4,hO,rk,fun m hm=>hm,by simpa using rlen,fun m hm hu=>absurd ⟨m,rsub m hm,rfl⟩ hu,rfl⟩,?_⟩
 clear hO h4 e4 e42 f4 w4 hord;rintro n vs K5 _ ⟨i,R,out,hin_,rfl,hK5,hO,hRk,hRs,hRo,hRw,hfree⟩;simp only[cns];refine⟨fun g1=>?_,fun g1=>?_⟩
 .simp only[wy,zdt]at g1;obtain⟨m,hm⟩:∃m,l[i]?=some m:=⟨_,zge om⟩;obtain⟨x1,x2,x3,x4⟩:=rd hm hK5;rw[zbj hm,freeM]at hfree;refine⟨fun _=>⟨x1,by show(0:Int)≤(i:Int);omega,by show(i:Int)<(l.length:Int);omega⟩,[vi m.to,vi m.fr],rfl,x4,?_⟩;simp only[cns];refine z02 (qb 208) (Z7r m.to x2 om om hO) ?_;rintro _ K6 ⟨rfl,hO6⟩;refine⟨_,[],rfl,rfl,rfl,z01,?_⟩;simp only[zan];obtain⟨w1,w2,w3⟩:=zpj (R.length+1) R m.to out (fun t=>∃x∈l.drop (i+1),x.to=t) hRk om fun x hx hu=>hRw x hx fun⟨y,hy,hyt⟩=>by
   rw[zbj hm]at hy;rcases zmc.1 hy with rfl|hy
   .exact hu (.inr hyt.symm)
   .exact hu (.inl ⟨y,hy,hyt⟩)
  have hlen:=zrk (R.length+1) R m.to out hRk;have hK6:PH.le S K6:=by
   obtain⟨S',_,_,_,_,_,_,_,q1,q2,_⟩:=hO6;exact ww q1 q2.sh
  exact⟨_,z00,n-1,om,i+1,_,_,om,by simp only[wy,up (show i<l.length by omega)],hK6,hO6,w1,fun x hx=>hRs x (w3 x hx),om,w2,hfree⟩
 simp only[wy,zdf]at g1;obtain rfl:i=l.length:=om;clear g1;rw[List.drop_length]at hRw hfree;rw[freeM]at hfree;rw[hfree]at hT;have hRw':WantM R fun _=>False:=fun m hm hu=>hRw m hm fun⟨x,hx,_⟩=>by cases hx
 have hRs':∀m∈R,m.to≠sp:=fun m hm=>s4 m (rsub m (hRs m hm));refine ⟨fun n vs K'=>∃(i:Nat) (R out:List MvR),i+n=l.length∧vs=[nI i]∧PH.le S K'∧OrdH S K' ro rf rw_ sp R out []∧R.length≤1000∧out.length+R.length≤l.length+i∧WantM R (fun _=>False)∧(z5w sp (l.drop i) R out).2=T,
  ⟨l.length,0,R,out,om,rfl,hK5,hO,om,om,hRw',by rw[List.drop_zero];exact hT⟩,?_⟩
 clear hO hRk hRs hRo hRw hRw' hRs' hfree hT;rintro n vs K6 _ ⟨i,R1,o1,hin1,rfl,hK6,hO6,l6,b6,w6,t6⟩;obtain⟨S1,es,cl,es2,cl2,fm,wm,ov,hS1,hh,e1,e2,hr⟩:=hO6;have k6:=hr.k;obtain⟨ob,oc,hov⟩:=(hh.row (e:=188) (l:=o1) (v:=ov) sM).sl;simp only[cns];refine⟨fun g1=>?_,fun g1=>?_⟩;rotate_left
 .simp only[wy,zdf]at g1;obtain rfl:i=l.length:=om;rw[List.drop_length,z5w]at t6;refine⟨fun _=>rfl,[ov],by rw[hov];rfl,row 2 1 hh (zms),?_⟩;obtain⟨S2,s2,l2,h2⟩:=(hh.perm (qA (l₁:=[_,_,_]) (l₂:=[]))).freeze;have t6':o1=T:=t6;exact⟨hK6,ov,0,rfl,by rw[←t6'];exact s2.le h2.sh⟩
 simp only[wy,zdt]at g1;obtain⟨m,hm⟩:∃m,l[i]?=some m:=⟨_,zge om⟩;obtain⟨x1,x2,x3,x4⟩:=rd hm hK6;rw[zbj hm,z5w]at t6;refine ⟨fun vs K'=>vs=[]∧∃(R2 o2:List MvR),PH.le S K'∧OrdH S K' ro rf rw_ sp R2 o2 []∧R2.length≤1000∧o2.length+R2.length≤l.length+(i+1)∧WantM R2 (fun _=>False)∧(z5w sp (l.drop (i+1)) R2 o2).2=T,?_,
  fun _=>⟨x1,by show(0:Int)≤(i:Int);omega,by show(i:Int)<(l.length:Int);omega⟩,[vi m.to,vi m.fr],rfl,x4,fun _=>rfl,[.map (some rf)],rfl,row 0 1 hh (zms),?_⟩
 .rintro vs K7 _ ⟨rfl,R2,o2,q1,q2,q3,q4,q5,q6⟩;exact⟨_,z00,n-1,om,i+1,R2,o2,om,by simp only[wy,up (show i<l.length by omega)],q1,q2,q3,q4,q5,q6⟩
 simp only[cns];have hg:=hr.f m.to;refine zij (α:=Int) (m:=fm) (v:=.map (some rf)) m.to (vi 0) uMapO kIntO kr kr kr ⟨rf,es,cl,rfl,hh.blk sM,e1⟩ (by rw[hg];cases lkM R1 m.to<;>rfl) z01 ?_;have hsome:(getM fm m.to).isSome=(lkM R1 m.to).isSome:=by rw[hg];cases lkM R1 m.to<;>rfl
 rw[hsome];simp only[cns];unfold z7d at t6;refine⟨fun g2=>?_,fun g2=>?_⟩;rotate_left
 .simp only[wy]at g2;rw[qc (by rw[g2];simp)]at t6;exact⟨_,z00,rfl,R1,o1,hK6,⟨S1,es,cl,es2,cl2,fm,wm,ov,hS1,hh,e1,e2,hr⟩,l6,om,w6,t6⟩
 simp only[wy]at g2;rw[qj g2]at t6;obtain⟨f0,hf0⟩:=qH.1 g2;obtain⟨t,ht⟩:∃t,t=m.to:=⟨_,rfl⟩;have htsp:t≠sp:=by rw[ht];exact hr.s ⟨m.to,f0⟩ (z95 hf0)
 have hti:InI t:=by rw[ht];exact x2
 rw[←ht]at t6 g2;obtain⟨n0,hn0,hback⟩:=Zd5 k6 w6 g2;obtain⟨_,_,_,hlastk⟩:=zue n0 R1.length t hn0 hback;obtain⟨last,hlast⟩:∃last,last=lastM R1.length R1 t t:=⟨_,rfl⟩;rw[←hlast]at hlastk t6;refine⟨[ov],by rw[hov];rfl,row 2 1 hh (zms),?_⟩;simp only[cns];rw[←ht];refine z0t (b:=16) (more:=[⟨sp,t⟩]) [.agg #[vi sp,vi t]] zte zkg rfl dC dC (hh.perm (qA (l₁:=[_,_,_]) (l₂:=[]))) kr (.cons (mvR_iff.2 ⟨rfl,hsp,hti⟩) .nil) (z0w (row 2 1 hh (zms)) z01) (fun w=>kr) (fun w=>kr)
  (by simp only[maxLen,zlc,zln];omega) (by simp only[zlc,zln];omega) fun u v7 S7 K7 l7 h7=>⟨z01,?_⟩
 simp only[cns];obtain⟨b7,c7,hv7⟩:=(h7.row (zms)).sl;refine z06 (off:=2) (vs:=[v7]) rfl (h7.perm (qq _ _ _)) (by simp only[wy]) (by intro w hw;rw[zsi.1 hw,hv7];rfl) sM fun K8 h8=>?_;have h8:Held S7 K8 (bx ro 248 [.map (some rf),.map (some rw_),v7]::orow 188 (o1++[⟨sp,t⟩]) v7::.blk rf (.map es cl)::.blk rw_ (.map es2 cl2)::[]):=h8;have b8:K8 rf=some (.map es cl):=h8.blk sM;have b8':K8 rw_=some (.map es2 cl2):=h8.blk sM;refine⟨fun n vs K'=>K'=K8∧∃(k:Nat)(cur:Int),n<k∧vs=[vi cur]∧(lkM R1 cur).isSome=true∧lkM R1 (z2h R1 n cur)=some t∧lastM k R1 t cur=last,⟨n0,rfl,R1.length,t,hn0,rfl,g2,hback,hlast.symm⟩,?_⟩;rintro n9 vs K9 _ ⟨rfl,k9,cur,hk9,rfl,hc9,hst9,hl9⟩;obtain⟨f2,hf2⟩:=qH.1 hc9;have hgc:(getM fm cur).getD (vi 0)=.int .i64 f2:=by rw[hr.f cur,hf2];rfl
 simp only[cns];refine⟨[.map (some rf)],rfl,row 0 1 h8 (zms),?_⟩;simp only[cns];refine z29 (α:=Int) (m:=fm) (v:=.map (some rf)) cur (vi 0) uMapO kIntO kr kr kr ⟨rf,es,cl,rfl,b8,e1⟩ (by rw[hgc];rfl) z01 ?_;rw[hgc];simp only[cns];obtain⟨k9,rfl⟩:∃k',k9=k'+1:=⟨k9-1,om⟩;rw[lastM,hf2]at hl9;refine⟨fun g3=>?_,fun g3=>?_⟩
 .simp only[wy,zdt]at g3;refine⟨[.map (some rf)],rfl,row 0 1 h8 (zms),?_⟩;simp only[cns];refine z29 (α:=Int) (m:=fm) (v:=.map (some rf)) cur (vi 0) uMapO kIntO kr kr kr ⟨rf,es,cl,rfl,b8,e1⟩ (by rw[hgc];rfl) z01 ?_;rw[hgc];simp only[cns];rw[qc (by simpa using g3)]at hl9;cases n9 with
  |zero=>rw[z2h,hf2]at hst9;exact absurd (qW hst9) g3
  |succ j=>
   rw[z2h,hf2]at hst9;obtain⟨f3,hf3⟩:=(Z5b k6 w6).1 _ (z95 hf2);exact⟨_,z00,j,om,rfl,k9,f2,om,rfl,by simp only at hf3;rw[hf3];rfl,hst9,hl9⟩
 .simp only[wy,zdf]at g3;have g3:f2=t:=Classical.byContradiction g3;subst g3;rw[qj rfl]at hl9;subst hl9;refine⟨[.map (some rf)],rfl,row 0 1 h8 (zms),?_⟩;simp only[cns];refine z1y (α:=Int) (m:=fm) (r:=rf) (es:=es) (clock:=cl) cur (vi sp) uMapO kIntO kr kr kr b8 e1 fun es3 cl3 he3=>?_;have h9:=(h8.perm (qA (l₁:=[_,_]) (l₂:=[_]))).put (.map es3 cl3);refine⟨[.map (some rw_)],rfl,row 1 1 h9 (zmm _ (zms)),?_⟩;simp only[cns];obtain⟨nf,hnf,hnf2⟩:=hr.w f2;have hb3:=h9.blk (r:=rw_) (o:=.map es2 cl2) (zmm _ (zmm _ (zmm _ (zms))));refine z29 (α:=Int) (m:=wm) (v:=.map (some rw_)) f2 (vi 0) uMapO kIntO kr kr kr ⟨rw_,es2,cl2,rfl,hb3,e2⟩ (by rw[hnf];rfl) z01 ?_;rw[hnf];simp only[cns];refine z1y (α:=Int) (m:=wm) (r:=rw_) (es:=es2) (clock:=cl2) f2 (vi (IntKind.i64.wrap (nf-1))) uMapO kIntO kr kr kr hb3 e2 fun es4 cl4 he4=>?_;have ha:=(h9.perm (qA (l₁:=[_,_,_]) (l₂:=[]))).put (.map es4 cl4);have hcl:=Z4n R1 f2;have hnf3:=hnf2 htsp;have hrt:=hr.turn hsp hlastk htsp hnf (by rw[hnf3];exact w64 om om);have htl:=Z7y R1 cur sp;have hO9:OrdH S _ ro rf rw_ sp (turnM R1 cur sp) (o1++[⟨sp,f2⟩]) []:=⟨S7,es3,cl3,es4,cl4,_,_,v7,ww hS1 l7,by
   refine ha.perm ?_;refine(qA (l₁:=[_,_]) (l₂:=_)).trans ?_;refine List.Perm.cons _ ?_;exact(qq _ _ _),he3,he4,hrt⟩
  refine z02 (qb 208) (Z7r f2 hti om (by simp only[zla,zlc,zln];omega) hO9) ?_;rw[htl];rintro _ Kb ⟨rfl,hOb⟩;refine⟨_,[],rfl,rfl,rfl,z01,?_⟩;simp only[zan];obtain⟨v1,v2,v3⟩:=zpj (R1.length+1) (turnM R1 cur sp) f2 (o1++[⟨sp,f2⟩]) (fun _=>False) (zw0 k6 cur sp) om (Zg3 k6 w6 hr.s hlastk);have hlen:=zrk (R1.length+1) (turnM R1 cur sp) f2 (o1++[⟨sp,f2⟩]) (zw0 k6 cur sp);simp only[zla,zlc,zln]at hlen;have hKb:PH.le S Kb:=by
   obtain⟨S',_,_,_,_,_,_,_,q1,q2,_⟩:=hOb;exact ww q1 q2.sh
  have hR2:(moveM (R1.length+1) (turnM R1 cur sp) f2 (o1++[⟨sp,f2⟩])).1.length≤1000:=by
   have h1:((moveM (R1.length+1) (turnM R1 cur sp) f2 (o1++[⟨sp,f2⟩])).1.map (·.to)).length≤((turnM R1 cur sp).map (·.to)).length:=z0n v1 fun y hy=>by
    obtain⟨z,hz,rfl⟩:=zmp.1 hy;exact zmp.2 ⟨z,v3 z hz,rfl⟩
   rw[zlm,zlm]at h1;omega
  exact⟨_,(z1f dC).trans z00,rfl,_,_,hKb,hOb,hR2,om,v2,t6⟩
def seekG(deg:Int→Int)(gone:Int→Bool)(k:Int):List Nat→Int→Int
 | [],best=>best
 |r::l,best=>if gone (r:Int)=true then seekG deg gone k l best else if deg (r:Int)<k then(r:Int)else seekG deg gone k l (if best<0∨deg best<deg (r:Int)then(r:Int)else best)
def ordG(deg:List Int→Int→Int)(R:Nat)(k:Int):Nat→List Int→List Int
 |0,st=>st
 |n+1,st=>ordG deg R k n (st++[seekG (deg st) (fun r=>decide (r∈st)) k (List.range R) (-1)])
theorem Zcp(R:Nat)(hR:R≤2000)(k:Int)(gv:Value)(N:List (Int×GN))(S:PH)(hg:GraphR S gv N)(ok:GraphOk R N):
  Tri zP 124 #[gv,vi (R:Int),vi k] S fun x S'=>PH.le S S'∧∃st v,x=.returned v∧SlR S' st.reverse v∧st.Nodup∧st.length=R∧(∀s:Int,s∈st→0≤s∧s<R)∧OrdOk N R k st∧st=ordG (fun g u=>(degN N g u:Int)) R k R []:=by
 obtain⟨gr,ges,gcl,rfl,_,_⟩:=hg.at_;refine qr zxt [.map (some gr),vi (R:Int),vi k] ?_;refine⟨fun vs K=>∃dv nv,vs=[dv,nv]∧Held S K [orow 3 (List.replicate R (0:Int)) dv,orow 4 (List.replicate R false) nv],?_,?_,?_⟩;rotate_left
 .refine z55 (α:=Int) (n:=R) 0 rfl (fun S=>z09 InI0) z0g Z07 kr kr (by simp only[maxLen];omega) om (Held.nil (wx S)) fun v1 K1 h1 _=>?_;refine z55 (α:=Bool) (n:=R) false rfl (fun S=>zgr) zta zos kr kr (by simp only[maxLen];omega) om h1 fun v2 K2 h2 _=>?_;exact⟨_,z00,v1,v2,rfl,h2.perm (qq _ _ _)⟩
 .refine z55 (α:=Bool) (n:=R) false rfl (fun S=>zgr) zta zos kr kr (by simp only[maxLen];omega) om (Held.nil (wx S)) fun v1 K1 h1 _=>?_;refine z55 (α:=Int) (n:=R) 0 rfl (fun S=>z09 InI0) z0g Z07 kr kr (by simp only[maxLen];omega) om h1 fun v2 K2 h2 _=>?_;exact⟨_,z00,v2,v1,rfl,h2⟩
 rintro vs K1 _ ⟨dv,nv,rfl,h1⟩;obtain⟨db,dc,rfl⟩:∃b c,dv=.slice b R c:=by have:=(h1.row (zms)).sl;rwa[wi]at this
 obtain⟨nb,nc,rfl⟩:∃b c,nv=.slice b R c:=by have:=(h1.row (zmm _ (zms))).sl;rwa[wi]at this
 simp only[cns];refine ⟨fun n vs K=>∃(i:Nat) (l:List Int),vs=[nI i]∧i+n=R∧l.length=R∧Held S K [orow 3 l (.slice db R dc),orow 4 (List.replicate R false) (.slice nb R nc)]∧∀j,j < i→l[j]?=some (degN N [] (j:Int):Int),
  ⟨R,0,_,rfl,om,sM,h1,fun j h=>om⟩,?_⟩
 rintro n vs K2 _ ⟨i,l,rfl,hin,hl,h2,hd⟩;simp only[cns];refine⟨fun g=>?_,fun g=>?_⟩
 .simp only[wy,zdt]at g;obtain⟨hm,w,hw1,hw2,hw3⟩:=(hg.le h2.sh).look (i:Int);refine z29 (α:=Int) (m:=outM N) (v:=.map (some gr)) (i:Int) (.map none) zd9 kIntK kr kr kr hm (by rw[hw1];exact hw2) z01 ?_;rw[hw1];obtain⟨wm,rfl⟩:∃wm,w=.map wm:=by cases w<;>simp[Tag.ok]at hw2;exact⟨_,rfl⟩
  have hdl:=Z8a ok [] (i:Int);have hdn:=Z82 N (i:Int);simp only[cns];refine Zja (m:=encS (adjN N (i:Int))) (v:=.map wm) rfl zh0 kr (wx K2) hw3 (by simp[encS];omega) ?_;obtain⟨c,hc⟩:∃c,l[i]?=some c:=⟨_,zge om⟩;obtain⟨t1,_⟩:=(h2.row (zms)).get hc;refine⟨fun _=>?_,?_⟩
  .simp only[Chk.holds,wy];exact⟨t1,om,om⟩
  have hlen:(encS (adjN N (i:Int))).length=degN N [] (i:Int):=by rw[hdn];simp[encS]
  rw[hlen];refine z1i (i:=i) (a:=c) (a':=(degN N [] (i:Int):Int)) (us:=[vi (degN N [] (i:Int):Int)]) ?_ h2 hc rfl ?_ (by simp[oneC]) (z09 (by unfold InI;omega)) fun K3 h3=>?_
  .simp only[wy];rfl
  .simp only[wy]
  refine⟨_,z00,n-1,om,i+1,l.set i _,?_,om,by simpa using hl,h3,fun j hj=>?_⟩
  .simp only[wy];rw[w64 om om];rfl
  .rw[List.getElem?_set];by_cases e:i=j
   .subst e;rw[qj rfl,qj om]
   .rw[qc e];exact hd j om
 simp only[wy,zdf]at g;have hiR:i=R:=om;subst hiR;have h2e:=(h2.empty (α:=Int) 3);refine ⟨fun n vs K=>∃(st:List Int) (sv:Value) (l:List Int) (gn:List Bool) (S':PH),vs=[sv]∧n=i - st.length∧PH.le S S'∧Held S' K [orow 3 st sv,orow 3 l (.slice db i dc),orow 4 gn (.slice nb i nc)]∧st.Nodup∧(∀s:Int,s∈st→0≤s∧s < i)∧st.length≤i∧OrdOk N i k st∧l.length=i∧(∀j,j < i→l[j]?=some (degN N st (j:Int):Int))∧gn.length=i∧(∀j,j < i→gn[j]?=some (decide ((j:Int)∈st)))∧ordG (fun g u=>(degN N g u:Int)) i k (i - st.length) st=ordG (fun g u=>(degN N g u:Int)) i k i [],
  ⟨i,[],.slice none 0 0,l,List.replicate i false,S,rfl,rfl,wx S,h2e,List.nodup_nil,fun s h=>(by cases h),sM,fun t s h=>(by simp at h),hl,hd,sM,fun j hj=>by rw[List.getElem?_replicate,qj hj];simp,rfl⟩,?_⟩
 rintro n vs K3 _ ⟨st,sv,l3,gn,S3,rfl,rfl,le3,h3,hnd,hrg,hstl,hord,hl3,hd3,hgl,hgn,hG⟩;obtain⟨sb,sc,rfl⟩:=(h3.row (zms)).sl;simp only[cns];refine⟨fun g=>?_,fun g=>?_⟩;rotate_left
 .simp only[wy,zdf]at g;have hsl:st.length=i:=om;refine z02 (qb 174) (Z7k st _ S3 K3 _ h3 om) ?_;rintro x K4 ⟨rfl,h4⟩;refine⟨_,[],rfl,rfl,rfl,z01,?_⟩;obtain⟨S5,s5,l5,h5⟩:=h4.freeze;exact⟨ww le3 (ww l5 h5.sh),st,_,rfl,s5.le h5.sh,hnd,hsl,hrg,hord,by rw[←hG,hsl,Nat.sub_self];rfl⟩
 simp only[wy,zdt]at g;have hsl:st.length<i:=om;obtain⟨j0,hj0,hj0n⟩:=Zfe hnd hrg hsl;have hdeg:∀j,degN N st j≤i:=fun j=>Z8a ok st j;have rdD:∀j,j<i→(z0b (.slice db i dc)).isSome=true∧rowAt K3 (pOf (eltV (.slice db i dc) (j:Int) 1)) [vi (degN N st (j:Int):Int)]:=fun j hj=>by
  obtain⟨t1,_,tcs,t2,t3⟩:=(h3.row (zmm _ (zms))).get (hd3 j hj);obtain⟨rfl,_⟩:=csIK t2;exact⟨t1,t3⟩
 have rdG:∀j,j<i→(z0b (.slice nb i nc)).isSome=true∧rowAt K3 (pOf (eltV (.slice nb i nc) (j:Int) 1)) [.bool (decide ((j:Int)∈st))]:=fun j hj=>by
  obtain⟨t1,_,tcs,t2,t3⟩:=(h3.row (zmm _ (zmm _ (zms)))).get (hgn j hj);rw[csBK t2]at t3;exact⟨t1,t3⟩
 obtain⟨bst,hbst⟩:∃b,b=seekG (fun r=>(degN N st r:Int)) (fun r=>decide (r∈st)) k (List.range i) (-1):=⟨_,rfl⟩;refine⟨fun vs K=>K=K3∧∃best:Nat,vs=[nI best]∧best<i∧(best:Int)∉st∧(best:Int)=bst∧((degN N st (best:Int):Int)<k∨∀u:Nat,u<i→(u:Int)∉st→k≤degN N st u),?_,?_⟩;rotate_left
 ·
  refine ⟨fun n vs K=>K=K3∧∃(best:Int) (r:Nat),vs=[vi best,nI r]∧r+n=i∧((best=-1∧∀j:Nat,j < r→(j:Int)∈st)∨(0≤best∧best < r∧best∉st))∧(∀u:Nat,u < r→(u:Int)∉st→k≤degN N st u)∧seekG (fun r=>(degN N st r:Int)) (fun r=>decide (r∈st)) k ((List.range i).drop r) best=bst,
   ⟨i,rfl,-1,0,rfl,om,.inl ⟨rfl,fun j h=>om⟩,fun u h=>om,hbst.symm⟩,?_⟩
  rintro n vs K _ ⟨rfl,best,r,rfl,hrn,hbest,hall,hseek⟩;simp only[cns];refine⟨fun g2=>?_,fun g2=>?_⟩;rotate_left
  .simp only[wy,zdf]at g2;have hri:r=i:=om;subst hri;rcases hbest with⟨_,hb⟩|⟨hb1,hb2,hb3⟩
   .exact absurd (hb j0 hj0) hj0n
   .obtain⟨bn,rfl⟩:∃bn:Nat,best=(bn:Int):=⟨best.toNat,om⟩;exact⟨_,z1e rfl z00,rfl,bn,rfl,om,hb3,by rw[←hseek,List.drop_of_length_le (by rw[wh];omega)];rfl,.inr hall⟩
  simp only[wy,zdt]at g2;have hri:r<i:=om;obtain⟨g3,g4⟩:=rdG r hri;obtain⟨d3,d4⟩:=rdD r hri;have hdr:=hdeg (r:Int);have hdrop:(List.range i).drop r=r::(List.range i).drop (r+1):=by
   rw[←List.getElem_cons_drop (by rw[wh];omega:r<(List.range i).length),List.getElem_range]
  rw[hdrop,seekG]at hseek;refine⟨fun vs K'=>K'=K∧∃best':Int,vs=[vi best']∧((best'=-1∧∀j:Nat,j<r+1→(j:Int)∈st)∨(0≤best'∧best'<(r+1:Nat)∧best'∉st))∧(∀u:Nat,u<r+1→(u:Int)∉st→k≤degN N st u)∧seekG (fun r=>(degN N st r:Int)) (fun r=>decide (r∈st)) k ((List.range i).drop (r+1)) best'=bst,?_,fun _=>?_,[.bool (decide ((r:Int)∈st))],rfl,?_,fun g5=>?_,fun g5=>?_⟩
  .rintro vs K' _ ⟨rfl,best',rfl,hb',hall',hsk'⟩;refine⟨_,z00,n-1,om,rfl,best',r+1,?_,om,hb',hall',hsk'⟩;simp only[wy];rw[w64 om om];rfl
  .simp only[Chk.holds,wy];exact⟨g3,om,om⟩
  .simp only[wy];exact g4
  .simp only[wy,zdt]at g5;rw[qj (by simpa using g5)]at hseek;refine⟨_,z00,rfl,best,rfl,?_,fun u hu hn=>?_,hseek⟩
   .rcases hbest with⟨h1,h2⟩|⟨h1,h2,h3⟩
    .refine .inl ⟨h1,fun j hj=>?_⟩;by_cases e:j=r
     .subst e;exact g5
     .exact h2 j om
    .exact .inr ⟨h1,om,h3⟩
   .by_cases e:u=r
    .subst e;exact absurd g5 hn
    .exact hall u om hn
  simp only[wy,zdf]at g5;rw[qc (by simpa using g5)]at hseek;simp only[cns];refine⟨fun _=>?_,[vi (degN N st (r:Int):Int)],rfl,?_,fun g6=>?_,fun g6=>?_⟩
  .simp only[Chk.holds,wy];exact⟨d3,om,om⟩
  .simp only[wy];exact d4
  .simp only[wy,zdt]at g6;rw[qj g6]at hseek;exact⟨_,z1e rfl (z1e rfl z00),rfl,r,rfl,hri,g5,hseek,.inl g6⟩
  simp only[wy,zdf]at g6;rw[qc g6]at hseek;simp only[cns];have hall':∀u:Nat,u<r+1→(u:Int)∉st→k≤degN N st u:=fun u hu hn=>by
   by_cases e:u=r
   .subst e;omega
   .exact hall u om hn
  refine⟨fun vs K'=>K'=K∧∃t:Bool,vs=[.bool t]∧t=decide (best<0∨(degN N st best:Int)<degN N st (r:Int)),?_,fun g7=>?_,fun g7=>?_,fun g7=>?_⟩
  .rintro vs K' _ ⟨rfl,t,rfl,ht0⟩;have ht:best<0→t=true:=fun h=>by rw[ht0];simp[h]
   refine⟨_,z00,rfl,if t then(r:Int)else best,?_,?_,hall',?_⟩
   .simp only[wy];cases t<;>rfl
   .cases t with
    |true=>exact .inr ⟨sM,by simp;omega,g5⟩
    |false=>
     simp only[qp,if_false];rcases hbest with⟨h1,h2⟩|⟨h1,h2,h3⟩
     .have:=ht om;cases this
     .exact .inr ⟨h1,om,h3⟩
   .rw[←hseek,ht0];by_cases hc:best<0∨(degN N st best:Int)<degN N st (r:Int)
    .rw[qj hc,qX hc];rfl
    .rw[qc hc,qY hc];rfl
  .rcases hbest with⟨h1,h2⟩|⟨h1,h2,h3⟩
   .have:=g7 ((.cmp .lss (.atom 7) (.int .i64 0)),false) (zms);subst h1;simp[ev]at this;simp[wy]at this
   .simp only[Chk.holds,wy];exact⟨d3,om,om⟩
  .simp only[wy,zdt]at g7;exact⟨_,z00,rfl,true,rfl,by simp[g7]⟩
  .simp only[wy,zdf]at g7;rcases hbest with⟨h1,h2⟩|⟨h1,h2,h3⟩
   .omega
   obtain⟨bn,rfl⟩:∃bn:Nat,best=(bn:Int):=⟨best.toNat,om⟩;obtain⟨e3,e4⟩:=rdD bn om;refine⟨[vi (degN N st (r:Int):Int)],rfl,?_,[vi (degN N st (bn:Int):Int)],rfl,?_,_,z00,rfl,decide ((degN N st (bn:Int):Int)<(degN N st (r:Int):Int)),?_,by simp;omega⟩
   .simp only[wy];exact d4
   .simp only[wy];exact e4
   .simp only[wy,gt_iff_lt]
 rintro vs K _ ⟨rfl,best,rfl,hbi,hbn,hbst',hbd⟩;simp only[cns];obtain⟨g3,g4⟩:=rdG best hbi;refine⟨fun _=>?_,?_⟩
 .simp only[Chk.holds,wy];exact⟨g3,om,om⟩
 have hp1:[orow 3 st (.slice sb st.length sc),orow 3 l3 (.slice db i dc),orow 4 gn (.slice nb i nc)].Perm [orow 4 gn (.slice nb i nc),orow 3 st (.slice sb st.length sc),orow 3 l3 (.slice db i dc)]:=
  List.perm_append_comm (l₁:=[orow 3 st (.slice sb st.length sc),orow 3 l3 (.slice db i dc)]) (l₂:=[orow 4 gn (.slice nb i nc)])
 refine z1i (i:=best) (a':=true) (us:=[.bool true]) ?_ (h3.perm hp1) (hgn best hbi) rfl ?_ (by simp[oneC]) zgr fun K4 h4=>?_
 .simp only[wy];rfl
 .simp only[wy]
 refine z0t (more:=[(best:Int)]) (b:=8) [vi (best:Int)] z0g z0e rfl dC dC (h4.perm (qq _ _ _)) kr (.cons (z09 (by unfold InI;omega)) .nil) z01 (fun _=>kr) (fun _=>kr)
  (by simp only[maxLen,zlc,zln];omega) (by simp only[zlc,zln];omega) fun u v5 S5 K5 l5 h5=>⟨z01,?_⟩
 obtain⟨sb5,sc5,rfl⟩:=(h5.row (zms)).sl;simp only[cns];have le5:=ww le3 l5;obtain⟨hm,w,hw1,hw2,hw3⟩:=(hg.le le5).look (best:Int);refine z29 (α:=Int) (m:=outM N) (v:=.map (some gr)) (best:Int) (.map none) zd9 kIntK kr kr kr (MapR.le hm h5.sh) (by rw[hw1];exact hw2) z01 ?_;rw[hw1];obtain⟨wm,rfl⟩:∃wm,w=.map wm:=by cases w<;>simp[Tag.ok]at hw2;exact⟨_,rfl⟩
 simp only[cns];have hst5:(st++[(best:Int)]).length=st.length+1:=sM;refine zym (m:=encS (adjN N (best:Int))) (v:=.map wm) rfl rfl zh0 kr h5.sh hw3 (fun y hy=>by obtain⟨z,_,rfl⟩:=zmp.1 hy;rfl) rfl
  (fun done vs K i' o=>∃l:List Int,vs=[]∧l.length=i∧Held S5 K [.blk i' o,orow 3 l (.slice db i dc),orow 3 (st++[(best:Int)]) (.slice sb5 (st++[(best:Int)]).length sc5),orow 4 (gn.set best true) (.slice nb i nc)]∧∀j,j<i→l[j]?=some ((degN N st (j:Int):Int)-(if(j:Int)∈done then 1 else 0)))
  (fun i' o hi'=>⟨l3,rfl,hl3,?_,fun j hj=>by rw[hd3 j hj];simp⟩) ?_ ?_ ?_ ?_
 .refine(h5.new hi' o).perm (List.Perm.cons _ ?_);exact(List.perm_append_comm (l₁:=[orow 3 (st++[(best:Int)]) (.slice sb5 (st++[(best:Int)]).length sc5),orow 4 (gn.set best true) (.slice nb i nc)]) (l₂:=[orow 3 l3 (.slice db i dc)]))
 .rintro done vs K i' o ⟨l,rfl,hl,h,_⟩;exact⟨h.blk (zms),h.sh⟩
 .rintro done vs K i' o o' ⟨l,rfl,hl,h,hd⟩;exact⟨l,rfl,hl,h.put o',hd⟩
 .rintro done y wv vs K6 i' o J hy hyd _ ⟨l,rfl,hl6,h6,hd6⟩ hJ;obtain⟨y',hy',hyy⟩:=zmp.1 hy;simp only[Prod.mk.injEq]at hyy;obtain⟨rfl,rfl⟩:=hyy;obtain⟨hr1,hr2,_,_,hr3,hr4⟩:=ok.rel _ _ hy';obtain⟨yn,rfl⟩:∃yn:Nat,y'=(yn:Int):=⟨y'.toNat,om⟩;have hyi:yn<i:=om;have hgy:=hd6 yn hyi;rw[qc hyd,Int.sub_zero]at hgy;obtain⟨t1,_,tcs,t2,t3⟩:=(h6.row (zmm _ (zms))).get hgy;obtain⟨rfl,_⟩:=csIK t2;simp only[cns];have hpos:=Zb0 (N:=N) (g:=st) hbn hr1;have hdy:=hdeg (yn:Int);refine⟨fun _=>?_,[vi (degN N st (yn:Int):Int)],rfl,?_,?_⟩
  .simp only[Chk.holds,wy];exact⟨t1,om,om⟩
  .simp only[wy];exact t3
  refine z1i (i:=yn) (a':=(degN N st (yn:Int):Int)-1) (us:=[vi ((degN N st (yn:Int):Int)-1)]) ?_ (h6.perm (qq _ _ _)) hgy rfl ?_ (by simp[oneC]) (z09 (by unfold InI;omega)) fun K7 h7=>?_
  .simp only[wy];rfl
  .simp only[wy];rw[w64 om om]
  refine⟨_,z00,hJ _ _ ⟨l.set yn _,rfl,by simpa using hl6,h7.perm (qq _ _ _),fun j hj=>?_⟩⟩;rw[List.getElem?_set];by_cases e:yn=j
  .subst e;rw[qj rfl,qj om,qj (zms)]
  .rw[qc e,hd6 j hj];have h1:((j:Int)∈(yn:Int)::done)↔(j:Int)∈done:=by rw[zmc];exact⟨fun h=>h.elim (fun h=>absurd (Int.ofNat_inj.1 h).symm e) id,.inr⟩
   simp only[h1]
 .rintro done vs K6 i' o J hdone _ _ ⟨l,rfl,hl6,h6,hd6⟩;have hdone':∀y,y∈done↔y∈adjN N (best:Int):=fun y=>by
   rw[←hdone,List.map_map];simp only[Function.comp_def,List.map_id']
  refine⟨_,z1e rfl z00,i-(st.length+1),om,st++[(best:Int)],_,l,gn.set best true,S5,rfl,by rw[hst5],le5,h6.tail.perm (qq _ _ _),?_,?_,om,?_,hl6,fun j hj=>?_,by simpa using hgl,fun j hj=>?_,?_⟩
  .rw[List.nodup_append];exact⟨hnd,sM,fun a ha b hb=>by simp at hb;subst hb;exact fun e=>hbn (e▸ha)⟩
  .intro s hs;rcases zma.1 hs with hs|hs
   .exact hrg s hs
   .rw[zsi.1 hs];omega
  .intro t s hts;by_cases ht:t<st.length
   .rw[List.getElem?_append_left ht]at hts;rw[List.take_append_of_le_length om];exact hord t s hts
   .have:t=st.length:=by
     have:=(zgi.1 hts).1;omega
    subst this;rw[List.getElem?_append_right (we _),Nat.sub_self]at hts;simp at hts;subst hts;rw[List.take_left']
    .exact hbd
    .rfl
  .rw[hd6 j hj,Zk3 ok hbn];have hiff:(j:Int)∈done↔(best:Int)∈adjN N (j:Int):=by
    rw[hdone'];exact⟨fun h=>(ok.rel _ _ h).1,fun h=>(ok.rel _ _ h).1⟩
   by_cases h:(j:Int)∈done
   .have hpos:=Zb0 (N:=N) (g:=st) hbn (hiff.1 h);rw[qj h,qj (hiff.1 h)];congr 1;omega
   .rw[qc h,qc (fun hh=>h (hiff.2 hh))];simp
  .rw[List.getElem?_set];by_cases e:best=j
   .subst e;rw[qj rfl,qj om];simp
   .rw[qc e,hgn j hj];congr 2;simp only[zma,zsi,eq_iff_iff];exact⟨.inl,fun h=>h.elim id fun h=>absurd (Int.ofNat_inj.1 h).symm e⟩
  .rw[←hG];obtain⟨m,hm⟩:∃m,i-st.length=m+1:=⟨i-st.length-1,om⟩;rw[hm,ordG,show i-(st++[(best:Int)]).length=m by rw[hst5];omega,hbst',hbst]
def zek(tk:Int→Bool):Nat→Nat→Nat
 |0,j=>j
 |f+1,j=>if tk (j:Int)=true then zek tk f (j+1)else j
def putG(tk:List Int→Int→Int→Bool)(fuel:Nat)(s:List Int×Int)(r:Int):List Int×Int:=
 (s.1.set r.toNat (zek (tk s.1 r) fuel 0:Int),if((zek (tk s.1 r) fuel 0:Nat):Int)+1>s.2 then((zek (tk s.1 r) fuel 0:Nat):Int)+1 else s.2)
def colG(deg:List Int→Int→Int)(tk:List Int→Int→Int→Bool)(R:Nat)(k:Int):List Int×Int:=(ordG deg R k R []).reverse.foldl (putG tk (R+1)) (List.replicate R (-1),k)
open Classical in
noncomputable def degP(p:PrcX)(g:List Int)(u:Int):Int:=(((List.range p.regs.toNat).filter fun d:Nat=>decide (u≠d∧MeetP p u d)&&decide ((d:Int)∉g)).length:Int)
open Classical in
noncomputable def tkP(p:PrcX)(pl:List Int)(r x:Int):Bool:=(List.range p.regs.toNat).any fun q:Nat=>decide (r≠q∧MeetP p r q)&&decide (plAt pl q=x)
noncomputable def colP(p:PrcX)(k:Int):List Int×Int:=colG (degP p) (tkP p) p.regs.toNat k
def tkN(N:List (Int×GN))(pl:List Int)(r x:Int):Bool:=(adjN N r).any fun q=>decide (plAt pl q=x)
theorem Z18(N:List (Int×GN))(pl:List Int)(r x:Int):tkN N pl r x=true↔∃q∈adjN N r,plAt pl q=x:=by
 unfold tkN;simp only[wl,zdt]
theorem zsr{tk:Int→Bool}{j:Nat}:∀{f a:Nat},(∀x:Nat,a≤x→x<j→tk (x:Int)=true)→tk (j:Int)=false→a≤j→j<a+f→zek tk f a=j
 |0,a,_,_,h1,h2=>absurd h2 om
 |f+1,a,h,hj,h1,h2=>by
  rw[zek];by_cases e:a=j
  .subst e;rw[qc (by rw[hj];simp)]
  .rw[qj (h a (we _) om)];exact zsr (fun x hx hxj=>h x om hxj) hj om om
theorem Zko{p:PrcX}{N:List (Int×GN)}{R:Nat}{k:Int}(hR:p.regs=(R:Int))(ok:GraphOk R N)(hadj:∀a b,b∈adjN N a↔a≠b∧MeetP p a b):colP p k=(ordG (fun g u=>(degN N g u:Int)) R k R []).reverse.foldl (putG (tkN N) (R+1)) (List.replicate R (-1),k):=by
 classical
 have hRt:p.regs.toNat=R:=om;have hd:degP p=fun g u=>(degN N g u:Int):=by
  funext g u
  unfold degP degN;rw[hRt];congr 1;refine Nat.le_antisymm ?_ ?_
  .have h1:(((List.range R).filter fun d:Nat=>decide (u≠d∧MeetP p u d) && decide ((d:Int)∉g)).map Int.ofNat).length≤((adjN N u).filter fun d=>decide (d∉g)).length:=z0n (by
    rw[List.Nodup,List.pairwise_map];exact((List.nodup_range (n:=R)).sublist List.filter_sublist).imp fun h e=>h (Int.ofNat.inj e)) fun y hy=>by
     obtain⟨d,hd,rfl⟩:=zmp.1 hy;obtain⟨_,hd⟩:=zmf.1 hd;simp only[zba,zdt]at hd;exact zmf.2 ⟨(hadj u _).2 hd.1,by simpa using hd.2⟩
   rwa[zlm]at h1
  .have h1:((adjN N u).filter fun d=>decide (d∉g)).length≤(((List.range R).filter fun d:Nat=>decide (u≠d∧MeetP p u d)&&decide ((d:Int)∉g)).map Int.ofNat).length:=z0n ((ok.nd u).sublist List.filter_sublist) fun y hy=>by
    obtain⟨h2,h3⟩:=zmf.1 hy;have h4:=ok.rel u y h2;refine zmp.2 ⟨y.toNat,zmf.2 ⟨wg.2 om,?_⟩,show((y.toNat:Nat):Int)=y by omega⟩;have h5:=(hadj u y).1 h2;have hy':((y.toNat:Nat):Int)=y:=om;simp only[zba,zdt,hy'];exact⟨h5,by simpa using h3⟩
   rwa[zlm]at h1
 have ht:tkP p=tkN N:=by
  funext pl r x
  rw[Bool.eq_iff_iff,Z18];unfold tkP;rw[hRt];simp only[wl,zba,zdt,wg];constructor
  .rintro⟨q,_,h1,h2⟩;exact⟨q,(hadj r q).2 h1,h2⟩
  .rintro⟨q,h1,h2⟩;have h4:=ok.rel r q h1;have hq:((q.toNat:Nat):Int)=q:=om;exact⟨q.toNat,om,by rw[hq];exact(hadj r q).1 h1,by rw[hq];exact h2⟩
 unfold colP colG;rw[hd,ht,hRt]
theorem Zco(p:PrcX)(k:Int)(bv:Value)(S:PH)(hbv:SlR S p.blocks bv)(hw:p.Fit∧∀b∈p.blocks,b.e.args.length≤20000000):
  Tri zP 81 #[.agg (prcVs p bv).toArray,vi k] S fun x S'=>PH.le S S'∧(((k<1∨24<k)∧x=.returned (.tuple #[.slice none 0 0,vi 0,vi 1]))∨((1≤k∧k≤24)∧mayP p=false∧x=.returned (.tuple #[.slice none 0 0,vi 0,vi 150]))∨((1≤k∧k≤24)∧mayP p=true∧∃l v n,x=.returned (.tuple #[v,vi n,vi 0])∧SlR S' l v∧Placed p k n l∧l=(colP p k).1∧n=(colP p k).2-k)):=by
 obtain⟨hp,hE⟩:=hw;obtain⟨b0,c0,rfl⟩:=hbv.sl;refine qr zwd (prcVs p (.slice b0 p.blocks.length c0)++[vi k]) ?_;simp only[prcVs,cns];refine⟨fun g=>?_,fun g=>?_⟩
 .simp only[wy]at g;simp only[qu,zdt]at g;exact⟨wx _,.inl ⟨om,rfl⟩⟩
 simp only[wy,zof,zdf]at g;have hk:1≤k∧k≤24:=om;refine z03 [.bool (mayP p)] (qb 121) (Zhw p (.slice b0 p.blocks.length c0) S hbv hp hE) rfl z01 fun K1 l1=>⟨fun g=>?_,fun g=>?_⟩
 .simp only[wy]at g;have hm:mayP p=false:=by simpa using g
  exact⟨l1,.inr (.inl ⟨hk,hm,rfl⟩)⟩
 simp only[wy]at g;have hmay:mayP p=true:=by simpa using g
 obtain⟨hr0,hr1,_,_,hne⟩:=Z70 hmay;refine z02 (qb 122) (Zfd p (.slice b0 p.blocks.length c0) K1 (hbv.le l1) ⟨hp,hE⟩ hmay) ?_;rintro x K2 ⟨S1,gr,es,cl,N,l2,rfl,h2,gok,rel⟩;refine⟨_,[.map (some gr)],rfl,rfl,rfl,z01,?_⟩;obtain⟨S3,l3,l3',hg⟩:=Z9n h2 gok;obtain⟨R,hRi⟩:∃R:Nat,p.regs=(R:Int):=⟨p.regs.toNat,om⟩;have hR2:R≤2000:=om;obtain⟨ok,hadj⟩:=Ze6 hRi hmay hg rel;rw[hRi];simp only[cns];refine z0k (α:=Int) (l:=[(-1:Int)]) (b:=8) [vi (-1)] z0g z0e rfl dC dC (Held.nil l3') kr (.cons (z09 (by unfold InI;omega)) .nil) z01 fun v4 K4 h4 _ _=>?_;obtain⟨S4,s4,l4,h4⟩:=h4.freeze;simp only[cns];refine z02 (qb 123) (Zdj R hR2 (-1) v4 K4 (s4.le h4.sh)) ?_;rintro x K5 ⟨pv5,rfl,h5⟩;obtain⟨pb,pc,rfl⟩:∃b c,pv5=.slice b R c:=by have:=(h5.row (zms)).sl;rwa[wi]at this
 refine⟨_,[.slice pb R pc],rfl,rfl,rfl,z01,?_⟩;have l04:PH.le S K4:=ww l1 (ww l2 (ww l3 (ww l4 h4.sh)));have hg4:GraphR K4 (.map (some gr)) N:=hg.le (ww l4 h4.sh);simp only[cns];refine z02 (qb 124) (h5.pure (R:=fun x S'=>∃(st:List Int)(v:Value),x=.returned v∧SlR S' st.reverse v∧st.Nodup∧st.length=R∧(∀s:Int,s∈st→0≤s∧s<R)∧OrdOk N R k st∧st=ordG (fun g u=>(degN N g u:Int)) R k R []) (Zcp R hR2 k (.map (some gr)) N K4 hg4 ok)) ?_;rintro x K6 ⟨S6,l6,h6,st,ov,rfl,hov,hnd,hstl,hrg,hord,hstG⟩;obtain⟨ob,oc,rfl⟩:∃b c,ov=.slice b R c:=by have:=hov.sl;rwa[List.length_reverse,hstl]at this
 refine⟨_,[.slice ob R oc],rfl,rfl,rfl,z01,?_⟩;simp only[cns];have hg6:GraphR S6 (.map (some gr)) N:=hg4.le l6;refine ⟨fun n vs K=>∃(i:Nat) (pl:List Int) (most:Int) (S':PH),vs=[vi most,nI i]∧i+n=R∧PH.le S6 S'∧Held S' K [orow 3 pl (.slice pb R pc)]∧ColOk N R k st i pl most∧(st.reverse.take i).foldl (putG (tkN N) (R+1)) (List.replicate R (-1),k)=(pl,most),
  ⟨R,0,List.replicate R (-1),k,S6,rfl,om,wx _,h6,⟨sM,fun r hr _=>by rw [List.getElem?_replicate,qj hr],fun r a _ h=>by simp at h,fun r q a h1 _ h3=>(by
   rw[List.getElem?_replicate]at h1;split at h1
   .cases h1;omega
   .cases h1),om,om,fun s h1 h2=>om,fun h=>om,fun r a h1=>(by
   rw[List.getElem?_replicate]at h1;split at h1
   .cases h1;omega
   .cases h1)⟩,rfl⟩,?_⟩
 rintro n vs K7 _ ⟨i,pl,most,S7,rfl,hin,l7,h7,hcol,hfold⟩;simp only[cns];have hm1:=hcol.lo;have hm2:=hcol.hi;refine⟨fun g=>?_,fun g=>?_⟩;rotate_left
 .simp only[wy,zdf]at g;have:i=R:=om;subst this;obtain⟨S8,s8,l8,h8⟩:=h7.freeze;refine⟨ww l04 (ww l6 (ww l7 (ww l8 h8.sh))),.inr (.inr ⟨hk,hmay,pl,.slice pb i pc,most-k,?_,s8.le h8.sh,Zhl hRi hR2 ok hadj hnd hstl hrg hcol,?_,?_⟩)⟩
  .show Ending.returned (.tuple #[.slice pb i pc,vi (IntKind.i64.wrap (most-k)),vi 0])=_;rw[w64 om om]
  all_goals
   have hcp:=Zko (k:=k) hRi ok hadj;rw[←hstG]at hcp;rw[ztl (by rw[List.length_reverse];omega)]at hfold;rw[hfold]at hcp;rw[hcp]
 simp only[wy,zdt]at g;have hiR:i<R:=om;obtain⟨r',hr'⟩:∃r,st.reverse[i]?=some r:=⟨_,zge (by rw[List.length_reverse];omega)⟩;have hrr:=hrg r' (List.mem_reverse.1 (zmg hr'));obtain⟨r,rfl⟩:∃r:Nat,r'=(r:Int):=⟨r'.toNat,om⟩;have hrR:r<R:=om;obtain⟨t1,_,tcs,t2,t3⟩:=(hov.le (ww l7 h7.sh)).get hr';obtain⟨rfl,_⟩:=csIK t2;refine⟨fun _=>?_,[vi (r:Int)],rfl,?_,?_⟩
 .simp only[Chk.holds,wy];exact⟨t1,om,om⟩
 .simp only[wy];exact t3
 refine z5g fun tr htr=>?_;have h8:=h7.new htr (.map #[] 0);simp only[cns];obtain⟨hm,w,hw1,hw2,hw3⟩:=(hg6.le l7).look (r:Int);refine z29 (α:=Int) (m:=outM N) (v:=.map (some gr)) (r:Int) (.map none) zd9 kIntK kr kr kr (MapR.le hm h8.sh) (by rw[hw1];exact hw2) z01 ?_;rw[hw1];obtain⟨wm,rfl⟩:∃wm,w=.map wm:=by cases w<;>simp[Tag.ok]at hw2;exact⟨_,rfl⟩
 simp only[cns];refine zym (m:=encS (adjN N (r:Int))) (v:=.map wm) rfl rfl zh0 kr h8.sh hw3 (fun y hy=>by obtain⟨z,_,rfl⟩:=zmp.1 hy;rfl) rfl
  (fun done vs K i' o=>∃(es:Array MapEntry)(cl:Nat)(s:List Int),vs=[]∧SetAt es cl s∧(∀y,y∈s↔∃q∈done,plAt pl q=y)∧Held S7 K [.blk i' o,.blk tr (.map es cl),orow 3 pl (.slice pb R pc)])
  (fun i' o hi'=>⟨#[],0,[],rfl,zk6,fun y=>sM,h8.new hi' o⟩) ?_ ?_ ?_ ?_
 .rintro done vs K i' o ⟨es,cl,s,rfl,hset,hs,h⟩;exact⟨h.blk (zms),h.sh⟩
 .rintro done vs K i' o o' ⟨es,cl,s,rfl,hset,hs,h⟩;exact⟨es,cl,s,rfl,hset,hs,h.put o'⟩
 .rintro done y wv vs K9 i' o J hy hyd _ ⟨es9,cl9,s,rfl,hset,hs,h9⟩ hJ;obtain⟨y',hy',hyy⟩:=zmp.1 hy;simp only[Prod.mk.injEq]at hyy;obtain⟨rfl,rfl⟩:=hyy;obtain⟨_,_,_,_,hr3,hr4⟩:=ok.rel _ _ hy';obtain⟨yn,rfl⟩:∃yn:Nat,y'=(yn:Int):=⟨y'.toNat,om⟩;have hgy:=Z2q (pl:=pl) (q:=yn) (by rw[hcol.len];omega);obtain⟨u1,_,ucs,u2,u3⟩:=(h9.row (zmm _ (zmm _ (zms)))).get hgy;obtain⟨rfl,_⟩:=csIK u2;simp only[cns];refine⟨fun _=>?_,[vi (plAt pl (yn:Int))],rfl,?_,?_⟩
  .simp only[Chk.holds,wy];exact⟨u1,om,om⟩
  .simp only[wy];exact u3
  refine z1y (α:=Int) (m:=encS s) (r:=tr) (es:=es9) (clock:=cl9) (plAt pl (yn:Int)) (vi 1) zh0 kIntK kr kr kr (h9.blk (zmm _ (zms))) hset fun es3 cl3 he3=>?_;rw[zpt]at he3;have h10:=((h9.perm (qq _ _ _)).put (.map es3 cl3)).perm (qq _ _ _);refine⟨_,z00,hJ _ _ ⟨es3,cl3,_,rfl,he3,fun z=>?_,h10⟩⟩;rw[zpo,hs];constructor
  .rintro(⟨q,hq,h⟩|rfl)
   .exact⟨q,zmm _ hq,h⟩
   .exact⟨_,zms,rfl⟩
  .rintro⟨q,hq,h⟩;rcases zmc.1 hq with rfl|hq
   .exact .inr h.symm
   .exact .inl ⟨q,hq,h⟩
 .rintro done vs K9 i' o J hdone _ _ ⟨es9,cl9,s,rfl,hset,hs,h9⟩;have hdone':∀y,y∈done↔y∈adjN N (r:Int):=fun y=>by
   rw[←hdone,List.map_map];simp only[Function.comp_def,List.map_id']
  have hs':∀y,y∈s↔∃q∈adjN N (r:Int),plAt pl q=y:=fun y=>by
   rw[hs];exact⟨fun⟨q,h1,h2⟩=>⟨q,(hdone' q).1 h1,h2⟩,fun⟨q,h1,h2⟩=>⟨q,(hdone' q).2 h1,h2⟩⟩
  have hsl:s.length≤R:=by
   have h1:s.length≤((adjN N (r:Int)).map (plAt pl)).length:=z0n hset.nodup fun y hy=>by
    obtain⟨q,h1,h2⟩:=(hs' y).1 hy;exact zmp.2 ⟨q,h1,h2⟩
   rw[zlm]at h1;have h2:=Z8a ok [] (r:Int);rw[Z82]at h2;omega
  have hjl:∀j:Nat,(∀x:Nat,x<j→(x:Int)∈s)→j≤s.length:=fun j hj=>by
   have h1:((List.range j).map Int.ofNat).length≤s.length:=z0n (zpu j) fun y hy=>by
    obtain⟨x,hx,rfl⟩:=zmp.1 hy;exact hj x (wg.1 hx)
   rwa[zlm,wh]at h1
  simp only[cns,zan];refine⟨fun n vs K=>K=K9∧∃j:Nat,vs=[nI j]∧n=s.length-j∧∀x:Nat,x<j→(x:Int)∈s,⟨s.length,rfl,0,rfl,rfl,fun x h=>om⟩,?_⟩;rintro n2 vs K _ ⟨rfl,j,rfl,rfl,hj⟩;simp only[cns];have hjs:=hjl j hj;have hb9:K tr=some (.map es9 cl9):=h9.blk (zmm _ (zms));refine z29 (α:=Int) (m:=encS s) (v:=.map (some tr)) (j:Int) (vi 0) zh0 kIntK kr kr kr ⟨tr,es9,cl9,rfl,hb9,hset⟩ (by rw[zsh];split<;>rfl) z01 ?_;rw[zsh];by_cases hin:(j:Int)∈s
  .rw[qj hin];simp only[Option.getD_some,cns];have hj2:=hjl (j+1) fun x hx=>by
    by_cases e:x=j
    .subst e;exact hin
    .exact hj x om
   refine⟨fun g2=>?_,fun g2=>?_⟩
   .refine⟨_,z00,s.length-(j+1),om,rfl,j+1,?_,rfl,fun x hx=>?_⟩
    .simp only[wy];rw[w64 om om];rfl
    .by_cases e:x=j
     .subst e;exact hin
     .exact hj x om
   .simp[wy]at g2
  .rw[qc hin];simp only[Option.getD_none,cns];refine⟨fun g2=>?_,fun g2=>?_⟩
   .simp[wy]at g2
   have hplr:∃c,pl[r]?=some c:=⟨_,zge (by rw[hcol.len];omega)⟩;obtain⟨c,hc⟩:=hplr;have h10:=h9.tail.tail;obtain⟨u1,_⟩:=(h10.row (zms)).get hc;refine⟨fun _=>?_,?_⟩
   .simp only[Chk.holds,wy];exact⟨u1,om,om⟩
   refine z1i (i:=r) (a:=c) (a':=(j:Int)) (us:=[vi (j:Int)]) ?_ h10 hc rfl ?_ (by simp[oneC]) (z09 (by unfold InI;omega)) fun K11 h11=>?_
   .simp only[wy];rfl
   .simp only[wy]
   have hstep:=Ziv ok hk.1 hnd hstl hrg hord hcol hr' hrR (j:=j) (fun x hx=>(hs' _).1 (hj x hx)) (fun h=>hin ((hs' _).2 h)) om;refine⟨_,z1e rfl (z1e rfl z00),n-1,om,i+1,pl.set r (j:Int),_,S7,?_,om,l7,h11,hstep,?_⟩;rotate_left
   .rw[q9,hr',List.foldl_append,hfold];show putG (tkN N) (R+1) (pl,most) (r:Int)=_;have hle:zek (tkN N pl (r:Int)) (R+1) 0=j:=zsr (fun x _ hx=>(Z18 N pl _ _).2 ((hs' _).1 (hj x hx))) (by
     cases hq:tkN N pl (r:Int) (j:Int)with
     |false=>rfl
     |true=>exact absurd ((hs' _).2 ((Z18 N pl _ _).1 hq)) hin) (Nat.zero_le _) om
    unfold putG;rw[hle,qN]
   simp only[wy];rw[w64 (n:=(j:Int)+1) om om,w64 (n:=(i:Int)+1) om om];by_cases e:(j:Int)+1>most
   .simp[e]
   .simp[e]
def thruB(r:Int):List InsX→Bool→Bool
 | [],q=>q
 |x::xs,q=>decide (r∈x.args)||(!(decide (x.op≠tieB)&&decide (x.to=r))&&thruB r xs q)
def zvk(e:EndX)(n:Nat)(r:Int)(L:List Bool):Bool:=e.reads r||(!(e.calls&&decide (e.to=r))&&(e.leads n).any fun b=>L.getD b.toNat false)
def blkB(p:PrcX)(r:Int)(L:List Bool)(i a:Nat):Bool:=match p.blocks[i]? with
 |some b=>thruB r (b.ins.drop a) (zvk b.e p.blocks.length r L)
 |none=>false
def stepB(p:PrcX)(r:Int)(L:List Bool):List Bool:=(List.range p.blocks.length).map fun j=>blkB p r L j 0
def iterB(p:PrcX)(r:Int):Nat→List Bool
 |0=>[]
 |k+1=>stepB p r (iterB p r k)
abbrev isB(L:List Bool)(b:Nat):Prop:=L.getD b false=true
theorem Z1o{r:Int}{q:Bool}:∀{l:List InsX},thruB r l q=true↔thru r l (q=true)
 | []=>Iff.rfl
 |x::xs=>by
  rw[thruB,thru,←Z1o (l:=xs)];simp[InsX.fills,Decidable.or_iff_not_imp_left]
theorem endB_iff{e:EndX}{n:Nat}{r:Int}{L:List Bool}:zvk e n r L=true↔zb2 e n r (isB L):=by
 unfold zvk zb2;simp only[qu,zba,qy,wj,zdf,wl];refine or_congr Iff.rfl (and_congr ?_ ⟨?_,?_⟩)
 .cases e.calls<;>simp
 .rintro⟨b,hb,h⟩;have h0:0≤b:=by
   unfold EndX.leads at hb;have:=(zmf.1 hb).2;simp only[zdt]at this;exact this.1
  exact⟨b.toNat,by rw[show((b.toNat:Nat):Int)=b by omega];exact hb,h⟩
 .rintro⟨b,hb,h⟩;exact⟨b,hb,h⟩
theorem blkB_iff{p:PrcX}{r:Int}{L:List Bool}{i a:Nat}:blkB p r L i a=true↔z86 p r (isB L) i a:=by
 unfold blkB z86;cases h:p.blocks[i]? with
 |none=>simp
 |some b=>
  simp only[qG,exists_eq_left'];rw[Z1o];exact⟨fun h=>zbg endB_iff.1 h,fun h=>zbg endB_iff.2 h⟩
theorem zx6{p:PrcX}{r:Int}:∀(k j:Nat),isB (iterB p r k) j→LiveB p r j
 |0,j,h=>by simp[isB,iterB]at h
 |k+1,j,h=>by
  have hj:j<p.blocks.length:=by
   rcases Nat.lt_or_ge j p.blocks.length with g|g
   .exact g
   .simp[isB,iterB,stepB,wu (l:=List.range p.blocks.length) (i:=j) (by simpa using g)]at h
  have h:blkB p r (iterB p r k) j 0=true:=by
   simpa[isB,iterB,stepB,List.getElem?_range hj]using h
  exact zhz (z2u (fun i hi=>zx6 k i hi) (blkB_iff.1 h))
theorem Zkv{p:PrcX}{r:Int}{k:Nat}(h:iterB p r (k+1)=iterB p r k){i a:Nat}:z3u p r i a↔blkB p r (iterB p r k) i a=true:=by
 rw[blkB_iff];refine⟨fun hl=>z2u (fun j hj=>hj _ fun i hi=>?_) hl,fun hl=>z2u (fun j hj=>zx6 k j hj) hl⟩;have hb:=blkB_iff.2 hi;have hi':i<p.blocks.length:=by
  rcases Nat.lt_or_ge i p.blocks.length with g|g
  .exact g
  .unfold blkB at hb;rw[wu g]at hb;cases hb
 show(iterB p r k).getD i false=true;rw[←h];simpa[iterB,stepB,List.getElem?_range hi']using hb
def liveF(k:Nat)(p:PrcX)(i a:Nat):List Int:=(readL p).filter fun r=>blkB p r (iterB p r k) i a
def fixB(k:Nat)(p:PrcX):Bool:=(readL p).all fun r=>decide (iterB p r (k+1)=iterB p r k)
theorem Z4x{k:Nat}{p:PrcX}(h:fixB k p=true):liveL p=liveF k p:=by
 funext i a
 unfold liveL liveF;refine List.filter_congr fun r hr=>?_;have hf:iterB p r (k+1)=iterB p r k:=qZ (zat.1 h r hr);rw[Bool.eq_iff_iff,Z2i,Zkv hf]
def fsymB(f:FillX)(a b:Int):Bool:=(decide (a=f.to)&&decide (b∈f.live))||(decide (b=f.to)&&decide (a∈f.live))
def meetB(l0:List Int)(fl:List FillX)(a b:Int):Bool:=(decide (a∈l0)&&decide (b∈l0))||fl.any fun f=>fsymB f a b
theorem Z1v{p:PrcX}{l0:List Int}{fl:List FillX}(h0:liveL p 0 0=l0)(h1:zmr p=fl){a b:Int}:MeetP p a b↔meetB l0 fl a b=true:=by
 subst h0 h1;unfold MeetP meetB fsymB FillX.sym;simp
def degB(R:Nat)(l0:List Int)(fl:List FillX)(g:List Int)(u:Int):Int:=(((List.range R).filter fun d:Nat=>(decide (u≠d)&&meetB l0 fl u d)&&decide ((d:Int)∉g)).length:Int)
def tkB(R:Nat)(l0:List Int)(fl:List FillX)(pl:List Int)(r x:Int):Bool:=(List.range R).any fun q:Nat=>(decide (r≠q)&&meetB l0 fl r q)&&decide (plAt pl q=x)
theorem Zlc{p:PrcX}{l0:List Int}{fl:List FillX}{R:Nat}(h0:liveL p 0 0=l0)(h1:zmr p=fl)(hR:p.regs.toNat=R)(k:Int):colP p k=colG (degB R l0 fl) (tkB R l0 fl) R k:=by
 have e1:degP p=degB R l0 fl:=by
  funext g u
  unfold degP degB;rw[hR];refine congrArg (fun l:List Nat=>(l.length:Int)) (List.filter_congr fun d _=>?_);rw[Bool.eq_iff_iff];simp[Z1v h0 h1]
 have e2:tkP p=tkB R l0 fl:=by
  funext pl r x
  unfold tkP tkB;rw[hR,Bool.eq_iff_iff];simp[Z1v h0 h1]
 unfold colP;rw[e1,e2,hR]
theorem zsw(p:PrcX)(bv:Value)(S K:PH)(J:List Itm)(h:Held S K J)(hbv:SlR S p.blocks bv)(hp:p.Fit)(hE:∀b∈p.blocks,b.e.args.length≤20000000)(hm:mayP p=true):
  Tri zP 39 #[.agg (prcVs p bv).toArray] K fun e K'=>∃(S':PH)(rf:Nat)(pl:List Int)(pv:Value)(n:Int),e=.returned (pAt rf)∧PH.le S S'∧SlR S' pl pv∧Placed p 24 n pl∧pl=(colP p 24).1∧n=(colP p 24).2-24 ∧
   Held S' K' (bx rf 142 [.pointer none,vi p.params,vi p.holds,vi p.regs,bv,pv,vi n,.slice none 0 0,vi 0]::J):=by
 obtain⟨b0,c0,rfl⟩:=hbv.sl;refine qr Z1f (prcVs p (.slice b0 p.blocks.length c0)) ?_;simp only[prcVs];refine z31 (vs:=[.pointer none,vi p.params,vi p.holds,vi p.regs,.slice b0 p.blocks.length c0,.slice none 0 0,vi 0,.slice none 0 0,vi 0]) h kr fun rf K1 _ h1=>?_;simp only[cns];refine z02 (qb 81) (h1.pure (R:=fun x S'=>((24<(1:Int)∨24<(24:Int))∧x=.returned (.tuple #[.slice none 0 0,vi 0,vi 1]))∨((1≤(24:Int)∧(24:Int)≤24)∧mayP p=false∧x=.returned (.tuple #[.slice none 0 0,vi 0,vi 150]))∨((1≤(24:Int)∧(24:Int)≤24)∧mayP p=true∧∃l v n,x=.returned (.tuple #[v,vi n,vi 0])∧SlR S' l v∧Placed p 24 n l∧l=(colP p 24).1∧n=(colP p 24).2-24)) (Zco p 24 (.slice b0 p.blocks.length c0) S hbv ⟨hp,hE⟩)) ?_;rintro e K2 ⟨S2,l2,h2,h|⟨_,h,_⟩|⟨_,_,pl,pv,n,rfl,hpl,hpd,hq1,hq2⟩⟩
 .omega
 .rw[hm]at h;cases h
 obtain⟨pb,pc,hpv⟩:=hpl.sl;refine⟨_,[pv,vi n,vi 0],rfl,by rw[hpv];rfl,rfl,z01,fun _=>rfl,?_⟩;simp only[cns];refine z06 (off:=5) (vs:=[pv]) rfl h2 (by simp only[wy]) (by intro u hu;rw[zsi.1 hu,hpv];rfl) sM fun K3 h3=>?_;refine z06 (off:=6) (vs:=[vi n]) rfl h3 (by simp only[wy]) (by simp[oneC]) sM fun K4 h4=>?_;exact⟨S2,rf,pl,pv,n,rfl,l2,hpl,hpd,hq1,hq2,h4⟩
theorem Zgd{R:List MvR}{t fr:Int}(h:lkM R t=some fr):(dropM R t).length+1≤R.length:=by
 have hm:=z95 h
 induction R with
 |nil=>cases hm
 |cons a l ih=>
  unfold dropM;rw[qM];by_cases e:a.to=t
  .rw[qc (by simp[e])];have:=List.length_filter_le (fun m:MvR=>decide (m.to≠t)) l;simp only[zlc];omega
  .rw[qj (by simpa using e)];have hl:lkM l t=some fr:=by
    unfold lkM at h⊢;rw[List.find?_cons]at h;simpa[e]using h
   have:=ih hl (z95 hl);unfold dropM at this;simp only[zlc];omega
theorem zp8:∀(k:Nat)(R:List MvR)(to:Int)(out:List MvR),(moveM k R to out).2.length+(moveM k R to out).1.length≤out.length+R.length
 |0,R,to,out=>we _
 |k+1,R,to,out=>by
  rw[moveM];cases hl:lkM R to with
  |none=>exact we _
  |some fr=>
   simp only;split
   .exact we _
   .have h1:=Zgd hl;have h2:=zp8 k (dropM R to) fr (out++[⟨to,fr⟩]);simp only[zla,zlc,zln]at h2;omega
theorem zxx:∀(l R out:List MvR),(freeM l R out).2.length+(freeM l R out).1.length≤out.length+R.length
 | [],R,out=>we _
 |m::l,R,out=>by
  rw[freeM];have h1:=zp8 (R.length+1) R m.to out;have h2:=zxx l (moveM (R.length+1) R m.to out).1 (moveM (R.length+1) R m.to out).2;omega
theorem zrx(sp:Int):∀(l R out:List MvR),(z5w sp l R out).2.length+(z5w sp l R out).1.length≤out.length+R.length+l.length
 | [],R,out=>we _
 |m::l,R,out=>by
  rw[z5w];have h2:=zrx sp l (z7d sp m R out).1 (z7d sp m R out).2;have h1:(z7d sp m R out).2.length+(z7d sp m R out).1.length≤out.length+R.length+1:=by
   unfold z7d;split
   .have:=zp8 (R.length+1) (turnM R (lastM R.length R m.to m.to) sp) m.to (out++[⟨sp,m.to⟩]);rw[Z7y]at this;simp only[zla,zlc,zln]at this;omega
   .simp
  simp only[zlc];omega
theorem Zdk(l:List MvR)(sp:Int):(z90 l sp).length≤2*l.length:=by
 unfold z90;split
 .have h1:=zxx l (realM l) [];have h2:=zrx sp l (freeM l (realM l) []).1 (freeM l (realM l) []).2;have h3:(realM l).length≤l.length:=List.length_filter_le _ _;simp only[zln]at h1;omega
 .simp
def znv(ms:List MvR):List ItemR:=ms.map fun m=>⟨0,⟨15,m.to,m.fr,0,0⟩,0,0⟩
def z7v(ms:List MvR):List ItemR:=znv (z90 ms 26)
section
variable {S0 K:PH}{x:FX}{pu nx:Int}{l l':List ItemR}{k k':Nat}{J:List Itm}
theorem GnH.pure{P:Program}{f:FuncId}{args:Array Value}{R:Ending→PH→Prop}(h:GnH S0 K x pu nx l k J)(ht:∀S,PH.le S0 S→Tri P f args S fun e S'=>PH.le S S'∧R e S'):Tri P f args K fun e K'=>∃S',PH.le S0 S'∧GnH S' K' x pu nx l k J∧R e S':=by
 obtain⟨⟨h1,S,iv,h2,h3⟩,h4,h5⟩:=h;refine(h3.pure (ht S h2)).mono ?_;rintro e K' ⟨S',l1,h6,h7⟩;exact⟨S',ww h2 l1,⟨⟨h1,S',iv,wx _,h6⟩,h4,h5⟩,h7⟩
theorem Z52(ms:List MvR)(v:Value)(hv:SlR S0 ms v)(h0:GnH S0 K x pu nx l (k+2*ms.length) J):Tri zP 132 #[pAt x.rf,v] K (GnQ S0 x pu nx (l++z7v ms) k J):=by
 have hv0:=hv;obtain⟨vb,vc,rfl⟩:=hv.sl;refine qr zjg [pAt x.rf,.slice vb ms.length vc] ?_;refine z02 (qb 179) (h0.pure (R:=fun e S'=>∃w err,e=.returned (.tuple #[w,vi err])∧SlR S' (z90 ms 26) w) fun S hS=>Zgm ms _ 26 S (hv0.le hS) dC) ?_;have hol:=Zdk ms 26;unfold z7v;rintro _ K1 ⟨S1,l1,h1,w,err,rfl,hw⟩;generalize z90 ms 26=o at hw hol⊢;have hw0:=hw;obtain⟨wb,wc,rfl⟩:=hw.sl;refine⟨_,[.slice wb o.length wc,vi err],rfl,rfl,rfl,z01,?_⟩;simp only[cns];refine⟨fun n vs K'=>∃i:Nat,i+n=o.length∧vs=[nI i]∧GnH S1 K' x pu nx (l++znv (o.take i)) (k+n) J,⟨o.length,0,om,rfl,by simpa[znv]using h1.less om⟩,?_⟩;rintro n vs K2 _ ⟨i,hin,rfl,h2⟩;simp only[cns];refine⟨fun g=>?_,fun g=>?_⟩
 .simp only[wy,zdt]at g;obtain⟨m,hm⟩:∃m,o[i]?=some m:=⟨_,zge om⟩;obtain⟨x1,_,cs,x2,x3⟩:=hw0.get hm;obtain⟨rfl,q1,q2⟩:=mvR_iff.1 x2;obtain⟨j,rfl⟩:∃j,n=j+1:=⟨n-1,om⟩;refine⟨fun _=>⟨x1,by show(0:Int)≤(i:Int);omega,by show(i:Int)<(o.length:Int);omega⟩,[vi m.to,vi m.fr],rfl,z0v h2.sh x3,fun _=>rfl,[pAt x.rg],rfl,h2.frow 0 1,fun _=>rfl,?_⟩;simp only[cns];refine z05 (qb 56) ((h2.less (k':=k+j+1) om).to (zn4 m.to m.fr q1 q2)) fun K3 h3=>?_;have hw:IntKind.i64.wrap ((i:Int)+1)=((i+1:Nat):Int):=by
   have:=hw0.max;simp only[maxLen]at this;rw[w64 om om];rfl
  refine⟨_,z00,j,om,i+1,om,by simp only[wy,hw],?_⟩;rw[z59 hm];simpa[znv]using h3
 .simp only[wy,zdf]at g;rw[ztl om]at h2;exact⟨rfl,(h2.less om).base l1⟩
end
noncomputable def z1o(p:PrcX)(place:List Int)(b:Int):List Int:=(z0y p b).filter fun r=>decide (place.getD r.toNat 0<24)
theorem zq0{p:PrcX}(hp:p.Fit)(b:Int):(z0y p b).length≤20000000:=by
 have h0:=Z2t hp;unfold z0y;split
 .split
  .refine Nat.le_trans (List.length_filter_le _ _) ?_;unfold liveL;exact Nat.le_trans (List.length_filter_le _ _) h0
  .simp
 .simp
theorem zxn(place:List Int)(pv:Value)(rf:Nat)(r:Int)(K:PH)(hpl:SlR K place pv)(hrow:rowAt K (some ⟨rf,5,none⟩) [pv])(hr:0≤r∧r<place.length):Gives zP 126 [pAt rf,vi r] K (.bool (decide (place.getD r.toNat 0<24))):=by
 obtain⟨n,rfl⟩:∃n:Nat,r=(n:Int):=⟨r.toNat,om⟩;obtain⟨a,ha⟩:∃a,place[n]?=some a:=⟨_,zge om⟩;have hpl0:=hpl;obtain⟨b,c,rfl⟩:=hpl.sl;obtain⟨z1,_,cs,z2,z3⟩:=hpl0.get ha;obtain⟨rfl,_⟩:=csIK z2;rw[qN,zgd,ha];refine qr z6q [pAt rf,vi (n:Int)] ?_;refine⟨fun _=>rfl,[.slice b place.length c],rfl,hrow,fun _=>⟨z1,by show(0:Int)≤(n:Int);omega,by show(n:Int)<(place.length:Int);omega⟩,[vi a],rfl,z3,rfl,wx _⟩
abbrev zgv(gp:Value)(p:PrcX)(bv pv:Value)(slots:Int)(lv:Value)(pushed:Int):List Value:=[gp,vi p.params,vi p.holds,vi p.regs,bv,pv,vi slots,lv,vi pushed]
section
variable {p:PrcX}{bv pv lv gp:Value}{place:List Int}{rf:Nat}{slots pushed:Int}{S K:PH}{I:List Itm}
theorem zy1(h:Held S K I)(hi:bx rf 142 (zgv gp p bv pv slots lv pushed)∈I)(hbv:SlR S p.blocks bv)(hpl:SlR S place pv)(hp:p.Fit)(hE:∀b∈p.blocks,b.e.args.length≤20000000)(b:Int)(hin:∀r∈z0y p b,0≤r∧r<place.length):
  Tri zP 82 #[pAt rf,vi b] K fun e K'=>∃S' v,PH.le S S'∧Held S' K' I∧SlR S' (z1o p place b) v∧e=.returned (.tuple #[v,.bool (decide (0<p.holds))]):=by
 have hal:=zq0 hp b;have hbv0:=hbv;obtain⟨bb,bc,rfl⟩:=hbv.sl;have row:∀{S' K':PH} {I':List Itm} (a n:Nat),Held S' K' I'→bx rf 142 (zgv gp p (.slice bb p.blocks.length bc) pv slots lv pushed)∈I'→rowAt K' (some ⟨rf,a,none⟩) (((zgv gp p (.slice bb p.blocks.length bc) pv slots lv pushed).drop a).take n):=fun a n hh hi=>z0r hh hi a n;refine qr zjp [pAt rf,vi b] ?_;refine⟨fun _=>rfl,prcVs p (.slice bb p.blocks.length bc),rfl,row 1 4 h hi,?_⟩;simp only[prcVs,cns];refine z02 (qb 125) (h.pure (R:=fun x S'=>∃v,x=.returned v∧SlR S' (z0y p b) v) (zu4 p _ b S hbv0 hp hE)) ?_;rintro _ K1 ⟨S1,l1,h1,v,rfl,hv⟩;unfold z1o;generalize z0y p b=as_ at *;have hv0:=hv;obtain⟨vb,vc,rfl⟩:=hv.sl;refine⟨_,[.slice vb as_.length vc],rfl,rfl,rfl,z01,?_⟩;simp only[cns];have h1':=h1.empty (α:=Int) 3;refine⟨fun n vs K'=>∃(i:Nat)(u:Value)(S':PH),i+n=as_.length∧vs=[u,nI i]∧PH.le S1 S'∧Held S' K' (orow 3 ((as_.take i).filter fun r=>decide (place.getD r.toNat 0<24)) u::I),⟨as_.length,0,.slice none 0 0,S1,om,rfl,wx _,by simpa using h1'⟩,?_⟩;rintro n vs K2 _ ⟨i,u,S2,hin2,rfl,l2,h2⟩;simp only[cns];obtain⟨ub,uc,hu⟩:=(h2.row (zms)).sl;refine⟨fun g=>?_,fun g=>?_⟩
 .simp only[wy,zdt]at g;obtain⟨r,hr⟩:∃r,as_[i]?=some r:=⟨_,zge om⟩;obtain⟨ri,q,d⟩:=z3s hv0 i r hr;have hrb:=hin r (zmg hr);have hup:IntKind.i64.wrap ((i:Int)+1)=((i+1:Nat):Int):=by rw[w64 om om];rfl
  have htk:as_.take (i+1)=as_.take i++[r]:=by rw[q9,hr];rfl
  have hfl:((as_.take i).filter fun r=>decide (place.getD r.toNat 0<24)).length≤20000000:=Nat.le_trans (List.length_filter_le _ _) (by rw[List.length_take];omega);refine⟨fun vs K'=>∃(u:Value)(S':PH),vs=[u]∧PH.le S1 S'∧Held S' K' (orow 3 ((as_.take (i+1)).filter fun r=>decide (place.getD r.toNat 0<24)) u::I),?_,fun _=>q,[vi r],rfl,d _ (ww l2 h2.sh),?_⟩
  .rintro vs K' _ ⟨u',S',rfl,q1,q2⟩;exact⟨_,z00,n-1,om,i+1,u',S',om,by simp only[wy,hup],q1,q2⟩
  simp only[cns];have hsk:=ww l1 (ww l2 h2.sh);refine z03 [.bool (decide (place.getD r.toNat 0<24))] (qb 126) (zxn place pv rf r K2 (hpl.le hsk) (row 5 1 h2 (zmm _ hi)) hrb) rfl z01 fun K3 l3=>?_;have h3:=h2.le l3;simp only[cns];refine⟨fun g2=>?_,fun g2=>?_⟩
  .simp only[wy]at g2;refine z0t (b:=8) (more:=[r]) [vi r] z0g z0e rfl dC dC h3 kr (.cons (z09 ri) .nil) z01 (fun _=>kr) (fun _=>kr)
    (by simp only[maxLen,zlc,zln];omega) (by simp only[zlc,zln];omega) fun w v5 S5 K5 l5 h5=>⟨z01,?_⟩
   refine⟨_,z00,v5,S5,rfl,ww l2 l5,?_⟩;rw[htk,List.filter_append,qM,qj g2];exact h5
  .simp only[wy]at g2;refine⟨_,z00,u,S2,rfl,l2,?_⟩;rw[htk,List.filter_append,qM,qc (by rw[g2];simp),List.filter_nil,zan];exact h3
 .simp only[wy,zdf]at g;rw[ztl om]at h2;obtain⟨S3,s3,l3,h3⟩:=h2.freeze;refine⟨[vi p.holds],rfl,row 2 1 h2 (zmm _ hi),?_⟩;exact⟨S3,u,ww l1 (ww l2 l3),h3,s3,rfl⟩
def mostL(f:Nat→Int):List BlkX→Nat→Int→Int
 | [],_,m=>m
 |b::l,i,m=>mostL f l (i+1) (if b.e.kind=4∨b.e.kind=6 then(if f i+2>m then f i+2 else m)else m)
noncomputable def roomP(p:PrcX)(place:List Int)(slots:Int):Int:=slots+mostL (fun i=>((z1o p place (i:Int)).length:Int)) p.blocks 0 0
theorem zvt{f:Nat→Int}(hf:∀i,0≤f i∧f i≤20000000):∀(l:List BlkX)(i:Nat)(m:Int),0≤m∧m≤20000002→0≤mostL f l i m∧mostL f l i m≤20000002
 | [],i,m,h=>h
 |b::l,i,m,h=>by
  rw[mostL];refine zvt hf l (i+1) _ ?_;have:=hf i;split
  .split<;>omega
  .exact h
theorem Z2k(h:Held S K I)(hi:bx rf 142 (zgv gp p bv pv slots lv pushed)∈I)(hbv:SlR S p.blocks bv)(hpl:SlR S place pv)(hp:p.Fit)(hE:∀b∈p.blocks,b.e.args.length≤20000000)(hin:∀b r,r∈z0y p b→0≤r∧r<place.length)(hsl:0≤slots∧slots≤100000):
  Tri zP 40 #[pAt rf] K fun e K'=>e=.returned (vi (roomP p place slots))∧∃S',PH.le S S'∧Held S' K' I:=by
 have hbm:=hbv.max;have hmx:maxLen=9223372036854775807:=rfl;have hbv0:=hbv;obtain⟨bb,bc,hbvE⟩:=hbv.sl;have row:∀{S' K':PH} {I':List Itm} (a n:Nat),Held S' K' I'→bx rf 142 (zgv gp p bv pv slots lv pushed)∈I'→rowAt K' (some ⟨rf,a,none⟩) (((zgv gp p bv pv slots lv pushed).drop a).take n):=fun a n hh hi=>z0r hh hi a n;have hf:∀i:Nat,(0:Int)≤((z1o p place (i:Int)).length:Int)∧((z1o p place (i:Int)).length:Int)≤20000000:=fun i=>by
  have h1:=zq0 hp (i:Int);have h2:(z1o p place (i:Int)).length≤(z0y p (i:Int)).length:=List.length_filter_le _ _;omega
 unfold roomP;generalize hfd:(fun i:Nat=>((z1o p place (i:Int)).length:Int))=f at *;have hf':∀i,0≤f i∧f i≤20000000:=fun i=>by rw[←hfd];exact hf i
 have hfi:∀i:Nat,((z1o p place (i:Int)).length:Int)=f i:=fun i=>by rw[←hfd]
 refine qr zky [pAt rf] ?_;refine⟨fun _=>rfl,[bv],by rw[hbvE];rfl,row 4 1 h hi,?_⟩;simp only[cns];refine⟨fun n vs K'=>∃(i:Nat)(m:Int)(S':PH),i+n=p.blocks.length∧vs=[vi m,nI i]∧PH.le S S'∧Held S' K' I∧(0≤m∧m≤20000002)∧mostL f p.blocks 0 0=mostL f (p.blocks.drop i) i m,⟨p.blocks.length,0,0,S,om,rfl,wx _,h,om,rfl⟩,?_⟩;rintro n vs K1 _ ⟨i,m,S1,hin1,rfl,l1,h1,hm,hmost⟩;simp only[cns];have hbl:slLen bv=p.blocks.length:=hbv0.len;refine⟨fun g=>?_,fun g=>?_⟩
 .replace g:decide ((i:Int)<(slLen bv:Int))=true:=g
  rw[hbl,zdt]at g;obtain⟨b,hb⟩:∃b,p.blocks[i]?=some b:=⟨_,zge om⟩;have hdr:p.blocks.drop i=b::p.blocks.drop (i+1):=by
   rw[←List.getElem_cons_drop (zgi.1 hb).1,(zgi.1 hb).2]
  rw[hdr,mostL]at hmost;obtain⟨y1,_,ycs,y2,y3⟩:=(hbv0.le (ww l1 h1.sh)).get hb;obtain⟨iv,es,rfl,i1,i2⟩:=blk_iff.1 y2;obtain⟨av,rfl,e1,e2,e3,e4,e5,e6⟩:=end_iff.1 i2;obtain⟨ib,ic,hiv⟩:=i1.sl;obtain⟨ab,ac,hav⟩:=e3.sl;have hup:IntKind.i64.wrap ((i:Int)+1)=((i+1:Nat):Int):=by rw[w64 om om];rfl
  refine⟨fun vs K'=>∃(m':Int)(S':PH),vs=[vi m']∧PH.le S S'∧Held S' K' I∧(0≤m'∧m'≤20000002)∧m'=(if b.e.kind=4∨b.e.kind=6 then(if f i+2>m then f i+2 else m)else m),?_,fun _=>⟨y1,by show(0:Int)≤(i:Int);omega,by show(i:Int)<(slLen bv:Int);omega⟩,iv::[vi b.e.kind,vi b.e.reg,av,vi b.e.to,vi b.e.next,vi b.e.els],by rw[hiv,hav];rfl,y3,fun g2=>?_,fun g2=>?_⟩
  .rintro vs K' _ ⟨m',S',rfl,q1,q2,q3,q4⟩;exact⟨_,z00,n-1,om,i+1,m',S',om,by simp only[wy,hup],q1,q2,q3,by rw[hmost,q4]⟩
  .have g3:b.e.kind=4∨b.e.kind=6:=by
    simp only[wy]at g2;simp only[qu,zdt]at g2;exact g2
   simp only[cns];refine z02 (qb 82) (zy1 h1 hi (hbv0.le l1) (hpl.le l1) hp hE (i:Int) (hin _)) ?_;rintro _ K2 ⟨S2,v,l2,h2,hv,rfl⟩;obtain⟨vb,vc,rfl⟩:=hv.sl;refine⟨_,[.slice vb (z1o p place (i:Int)).length vc,.bool (decide (0<p.holds))],rfl,rfl,rfl,z01,?_⟩;have hfb:=hf' i;refine⟨_,z00,if f i+2>m then f i+2 else m,S2,?_,ww l1 l2,h2,by split<;>omega,by rw[qj g3]⟩;have hw:IntKind.i64.wrap (f i+2)=f i+2:=w64 om om;have hsv:(((z1o p place (i:Int)).length:Nat):Int)=f i:=hfi i;simp only[wy,hsv,hw];by_cases hc:f i+2>m
   .simp[hc]
   .simp[hc]
  .have g3:¬(b.e.kind=4∨b.e.kind=6):=by
    simp only[wy]at g2;simp only[zof,zdf]at g2;omega
   exact⟨_,z00,m,S1,rfl,l1,h1,hm,by rw[qc g3]⟩
 .replace g:decide ((i:Int)<(slLen bv:Int))=false:=g
  rw[hbl,zdf]at g;obtain rfl:i=p.blocks.length:=om;rw[List.drop_length,mostL]at hmost;refine⟨[vi slots],rfl,row 6 1 h1 hi,?_,S1,l1,h1⟩;rw[hmost];show Ending.returned (vi (IntKind.i64.wrap (slots+m)))=_;rw[w64 om om]
end
section
variable {S0 K:PH}{x:FX}{pu nx:Int}{l l':List ItemR}{k k':Nat}{J:List Itm}
theorem GnH.empty{α:Type}[Enc α](h:GnH S0 K x pu nx l k J)(e:TypeId):GnH S0 K x pu nx l k (orow (α:=α) e [] (.slice none 0 0)::J):=by
 obtain⟨⟨h1,S,iv,h2,h3⟩,h4,h5⟩:=h;exact⟨⟨h1,S,iv,h2,(h3.empty e).perm (qA (l₁:=[_,_,_]) (l₂:=J)).symm⟩,h4,h5⟩
theorem GnH.freeze{α:Type}[Enc α]{e:TypeId}{as_:List α}{v:Value}(h:GnH S0 K x pu nx l k (orow e as_ v::J)):∃S1,PH.le S0 S1∧SlR S1 as_ v∧GnH S1 K x pu nx l k J:=by
 obtain⟨⟨h1,S,iv,h2,h3⟩,h4,h5⟩:=h;obtain⟨S1,s1,l1,h6⟩:=(h3.perm (qA (l₁:=[_,_,_]) (l₂:=J))).freeze;exact⟨S1,ww h2 l1,s1,⟨⟨h1,S1,iv,wx _,h6⟩,h4,h5⟩⟩
theorem GnH.rowsl{α:Type}[Enc α]{e:TypeId}{as_:List α}{v:Value}(h:GnH S0 K x pu nx l k (orow e as_ v::J)):∃b c,v=.slice b as_.length c:=by
 obtain⟨⟨h1,S,iv,h2,h3⟩,h4,h5⟩:=h;exact(h3.row (e:=e) (l:=as_) (v:=v) sM).sl
theorem zfs{P:Program}{α:Type}[Enc α]{X:List PanicEntry→PH→Prop}{β:Type}{E:List Value}{L:LK}{Q:β→List Value→PH→LK→Prop}{e T ty ty2:TypeId}{n b:Nat}{ps:Array (Nat×Operand)}{args args2:List (Nat×VE)}{pend pend2:List (SV×List SV)}{x' y':Operand}{f:Fm β}{as_ more:List α}{v:Value}(vs:List Value)
  (hT:P.underlying T=some (.slice e)) (he:ElemOk P e (sz α) b=true) (hn:more.length=n) (h0:n*sz α≠0) (hle:n*sz α≤2^24)
  (h:GnH S0 K x pu nx l k (orow e as_ v::J)) (hps:ps.toList.map (fun x=>(x.1,argEv E args x.2))=idxs 0 vs) (hvs:∀S,PH.le S0 S→All2 (fun a v'=>CsR S a v'.cells.toList) more vs) (hp:z0s E K pend)
  (hx:∀u,argEv (E++[u]) args2 x'=v) (hy:∀u,argEv (E++[u]) args2 y'=u) (h63:as_.length+more.length≤maxLen) (hby:(as_.length+more.length)*b≤140737488355328)
  (hk:∀u v' K',GnH S0 K' x pu nx l k (orow e (as_++more) v'::J)→z0s (E++[u]) K' pend2∧den P X f (E++[u]++[v']) K' L Q) :
  den P X (.sem (.buildSlice T n ps) ty args (.sc .sl) pend (.sem (.call ⟨.builtin .append,#[x',y'],#[T,T]⟩) ty2 args2 (.sc .sl) pend2 f)) E K L Q:=by
 obtain⟨⟨h1,S,iv,h2,h3⟩,h4,h5⟩:=h;refine z0t vs hT he hn h0 hle (h3.perm (qA (l₁:=[_,_,_]) (l₂:=J))) hps (hvs S h2) hp hx hy h63 hby fun u v' S' K' l7 h7=>?_;exact hk u v' K' ⟨⟨h1,S',iv,ww h2 l7,h7.perm (qA (l₁:=[_,_,_]) (l₂:=J)).symm⟩,h4,h5⟩
structure FnOk(x:FX):Prop where
 fit:x.p.Fit
 few:∀b∈x.p.blocks,b.e.args.length≤20000000
 regs:∀r∈x.p.regl,x.has r
 plen:x.place.length≤2000
theorem FnOk.live(h:FnOk x){i j:Nat}{r:Int}(hr:r∈liveL x.p i j):x.has r:=h.regs r (z51 (liveL_mem.1 hr))
theorem FnOk.across(h:FnOk x){b r:Int}(hr:r∈z0y x.p b):x.has r:=by
 unfold z0y at hr;split at hr
 .split at hr
  .exact h.live (zmf.1 hr).1
  .cases hr
 .cases hr
theorem zz6(p:PrcX)(i j:Nat):(liveL p i j).Nodup:=((z93 p i j).imp fun h=>Int.ne_of_lt h)
theorem Z6c(p:PrcX)(b:Int):(z0y p b).Nodup:=by
 unfold z0y;split
 .split
  .exact(zz6 p _ _).sublist List.filter_sublist
  .exact List.nodup_nil
 .exact List.nodup_nil
theorem Zb7{rs:List Int}(hn:rs.Nodup)(h:∀r∈rs,x.has r):rs.length≤x.place.length:=by
 have h1:=z0n hn (m:=(List.range x.place.length).map Int.ofNat) fun y hy=>by
  obtain⟨h2,h3⟩:=h y hy;exact zmp.2 ⟨y.toNat,wg.2 om,show((y.toNat:Nat):Int)=y by omega⟩
 rwa[zlm,wh]at h1
theorem FnOk.saved(h:FnOk x)(b:Int):(z1o x.p x.place b).length≤2000:=by
 have h1:(z1o x.p x.place b).length≤(z0y x.p b).length:=List.length_filter_le _ _;have h2:=Zb7 (Z6c x.p b) fun r hr=>h.across hr;have:=h.plen;omega
theorem Zju(hx:FOk S0 x)(hf:FnOk x)(b:Int)(h:GnH S0 K x pu nx l k J):Tri zP 82 #[pAt x.rf,vi b] K fun e K'=>∃S1 v,PH.le S0 S1∧GnH S1 K' x pu nx l k J∧SlR S1 (z1o x.p x.place b) v∧e=.returned (.tuple #[v,.bool (decide (0<x.p.holds))]):=by
 obtain⟨⟨h1,S,iv,h2,h3⟩,h4,h5⟩:=h;refine(zy1 (gp:=pAt x.rg) (p:=x.p) (bv:=x.bv) (pv:=x.pv) (lv:=x.lv) (place:=x.place) (slots:=x.slots) (pushed:=pu) (rf:=x.rf) h3 sM (hx.bl.le h2) (hx.pl.le h2) hf.fit hf.few b fun r hr=>hf.across hr).mono ?_;rintro e K' ⟨S',v,l1,h6,h7,h8⟩;exact⟨S',v,ww h2 l1,⟨⟨h1,S',iv,wx _,h6⟩,h4,h5⟩,h7,h8⟩
noncomputable def FX.room(x:FX):Int:=roomP x.p x.place x.slots
theorem Zl3(hx:FOk S0 x)(hf:FnOk x):0≤x.room∧x.room≤20003002:=by
 obtain⟨h1,h2⟩:=hx.sl;have:=zvt (f:=fun i=>((z1o x.p x.place (i:Int)).length:Int)) (fun i=>by have:=hf.saved (i:Int);omega) x.p.blocks 0 0 om;unfold FX.room roomP;omega
theorem Zm5(hx:FOk S0 x)(hf:FnOk x)(h:GnH S0 K x pu nx l k J):Tri zP 40 #[pAt x.rf] K (GnV (vi x.room) S0 x pu nx l k J):=by
 obtain⟨⟨h1,S,iv,h2,h3⟩,h4,h5⟩:=h;have hs:=hx.sl;refine(Z2k (gp:=pAt x.rg) (p:=x.p) (bv:=x.bv) (pv:=x.pv) (lv:=x.lv) (place:=x.place) (slots:=x.slots) (pushed:=pu) (rf:=x.rf) h3 sM (hx.bl.le h2) (hx.pl.le h2) hf.fit hf.few (fun b r hr=>hf.across hr) om).mono ?_;rintro e K' ⟨rfl,S',l1,h6⟩;exact⟨rfl,⟨h1,S',iv,ww h2 l1,h6⟩,h4,h5⟩
end
def toP(i:Nat):Int:=if i=0 then 25 else(i:Int)
def FX.passM(x:FX):Nat→List Int→List MvR
 |_,[]=>[]
 |i,r::rs=>(if x.col r=true then[⟨toP i,x.reg r⟩]else[])++x.passM (i+1) rs
def FX.passD(x:FX)(pu:Int):Nat→List Int→List ItemR
 |_,[]=>[]
 |i,r::rs=>(if x.col r=true then[]else[⟨0,⟨22,toP i,30,0,x.slot pu r⟩,0,0⟩])++x.passD pu (i+1) rs
def FX.passL(x:FX)(pu:Int)(callee:Int)(rs:List Int):List ItemR:=z7v (x.passM 0 (callee::rs))++x.passD pu 0 (callee::rs)++[⟨4,⟨20,28,0,0,0⟩,0,(rs.length:Int)⟩]
theorem zs2(x:FX):∀(a b:List Int)(i:Nat),x.passM i (a++b)=x.passM i a++x.passM (i+a.length) b
 | [],b,i=>by simp[FX.passM]
 |r::a,b,i=>by
  simp only[List.cons_append,FX.passM,zs2 x a b (i+1),zaa,zlc];rw[show i+1+a.length=i+(a.length+1) by omega]
theorem Z26(x:FX)(pu:Int):∀(a b:List Int)(i:Nat),x.passD pu i (a++b)=x.passD pu i a++x.passD pu (i+a.length) b
 | [],b,i=>by simp[FX.passD]
 |r::a,b,i=>by
  simp only[List.cons_append,FX.passD,Z26 x pu a b (i+1),zaa,zlc];rw[show i+1+a.length=i+(a.length+1) by omega]
theorem zrg(x:FX):∀(a:List Int)(i:Nat),(x.passM i a).length≤a.length
 | [],i=>by simp[FX.passM]
 |r::a,i=>by
  have:=zrg x a (i+1);rw[FX.passM];split<;>simp only[zla,zlc,zln]<;>omega
theorem zsy(i:Nat)(hi:i≤1000)(H:PH):Gives zP 193 [vi (i:Int)] H (vi (toP i)):=by
 refine qr zho [vi (i:Int)] ?_;refine⟨fun g=>?_,fun g=>?_⟩
 .simp only[wy,zdt]at g;obtain rfl:i=0:=om;exact⟨rfl,wx _⟩
 .simp only[wy,zdf]at g;unfold toP;rw[qc om];refine⟨?_,wx _⟩;show Ending.returned (vi (IntKind.i64.wrap (IntKind.i64.wrap (1+(i:Int))-1)))=_;rw[w64 (n:=1+(i:Int)) om om,w64 om om];congr 2;omega
section
variable {S0 K:PH}{x:FX}{pu nx:Int}{l l':List ItemR}{k k':Nat}{J:List Itm}
theorem Zfj(i:Nat)(hi:i≤1000):InI (toP i):=by
 unfold toP;split
 .decide
 .exact inJ om om
theorem Zas(hx:FOk S0 x)(hp:0≤pu∧pu≤100000)(callee:Int)(rs:List Int)(av:Value)(ha:SlR S0 rs av)(hc:x.has callee)(hr:∀r∈rs,x.has r)(hn:rs.length≤900)(hci:InI callee)(h0:GnH S0 K x pu nx l (k+(4+3*rs.length)) J):
  Tri zP 145 #[pAt x.rf,vi callee,av] K (GnQ S0 x pu nx (l++x.passL pu callee rs) k J):=by
 have ha0:=ha;obtain⟨ab,ac,rfl⟩:=ha.sl;refine qr zlz [pAt x.rf,vi callee,.slice ab rs.length ac] ?_;obtain⟨⟨g1,S,iv,g2,g3⟩,g4,g5⟩:=h0;refine z0k (α:=Int) (l:=[callee]) (b:=8) [vi callee] z0g z0e rfl dC dC g3 kr (.cons (z09 hci) .nil) z01 fun v3 K3 g6 _ _=>?_;simp only[cns];refine z6k (b:=8) (more:=rs) z0g z0e kr kr g6 ((ha0.le g2).srcS g6.sh) (by simp only[maxLen,zlc,zln];omega) (by simp only[zlc,zln];omega) fun v4 K4 g7 _=>⟨z01,?_⟩;simp only[cns];obtain⟨S1,s1,l1,g8⟩:=g7.freeze;have h1:GnH S1 K4 x pu nx l (k+(4+3*rs.length)) J:=⟨⟨g1,S1,iv,wx _,g8⟩,g4,g5⟩;have l01:PH.le S0 S1:=ww g2 l1;clear g1 g3 g4 g5 g6 g7 g8;have hx1:=hx.le l01;obtain⟨ws,hws⟩:∃ws,ws=callee::rs:=⟨_,rfl⟩;have s1:SlR S1 ws v4:=by rw[hws];simpa using s1
 have hwl:ws.length=rs.length+1:=by rw[hws];rfl
 have hwh:∀r∈ws,x.has r:=fun r hr'=>by
  rw[hws]at hr';rcases zmc.1 hr' with rfl|hr'
  .exact hc
  .exact hr r hr'
 unfold FX.passL;rw[←hws];have s10:=s1;obtain⟨wb,wc,rfl⟩:=s1.sl;refine⟨fun n vs K'=>∃(i:Nat)(u:Value),i+n=ws.length∧vs=[u,nI i]∧GnH S1 K' x pu nx l (k+(4+3*rs.length)) (orow 188 (x.passM 0 (ws.take i)) u::J),⟨ws.length,0,.slice none 0 0,om,rfl,by rw[List.take_zero,FX.passM];exact h1.empty _⟩,?_⟩;rintro n vs K5 _ ⟨i,u,hin,rfl,h5⟩;simp only[cns];obtain⟨ub,uc,hu⟩:=h5.rowsl;have hup:∀{i:Nat},i<ws.length→IntKind.i64.wrap ((i:Int)+1)=((i+1:Nat):Int):=fun h=>by rw[w64 om om];rfl
 have htk:∀{i:Nat} {r:Int},ws[i]?=some r→ws.take (i+1)=ws.take i++[r]∧(ws.take i).length=i:=fun h=>⟨by rw[q9,h];rfl,by rw[List.length_take];have:=(zgi.1 h).1;omega⟩;refine⟨fun g=>?_,fun g=>?_⟩
 .simp only[wy,zdt]at g;obtain⟨r,hri⟩:∃r,ws[i]?=some r:=⟨_,zge om⟩;have hrh:=hwh r (zmg hri);obtain⟨ri,q,d⟩:=z3s s10 i r hri;obtain⟨t1,t2⟩:=htk hri;refine⟨fun vs K'=>∃u,vs=[u]∧GnH S1 K' x pu nx l (k+(4+3*rs.length)) (orow 188 (x.passM 0 (ws.take (i+1))) u::J),?_,fun _=>q,[vi r],rfl,d _ h5.sh,?_⟩
  .rintro vs K' _ ⟨u',rfl,q1⟩;exact⟨_,z00,n-1,om,i+1,u',om,by simp only[wy,hup (show i<ws.length by omega)],q1⟩
  simp only[cns];refine z03 [.bool (x.col r)] (qb 126) (z48 hx1 h5 r hrh) rfl z01 fun K6 l6=>?_;have h6:=h5.le l6;simp only[cns];have hml:=zrg x (ws.take i) 0;refine⟨fun g2=>?_,fun g2=>?_⟩
  .simp only[wy]at g2;refine z03 [vi (toP i)] (qb 193) (zsy i om K6) rfl z01 fun K7 l7=>?_;have h7:=h6.le l7;simp only[cns];refine z03 [vi (x.reg r)] (qb 130) (zab hx1 h7 r hrh) rfl z01 fun K8 l8=>?_;have h8:=h7.le l8;simp only[cns];refine zfs (b:=16) (more:=[(⟨toP i,x.reg r⟩:MvR)]) [.agg #[vi (toP i),vi (x.reg r)]] zte zkg rfl dC dC h8 kr (fun S _=>.cons (mvR_iff.2 ⟨rfl,Zfj i om,zik hx1 r hrh⟩) .nil) z01 (fun _=>kr) (fun _=>kr)
    (by simp only[maxLen,zlc,zln];omega) (by simp only[zlc,zln];omega) fun w v5 K9 h9=>⟨z01,?_⟩
   refine⟨_,z00,v5,rfl,?_⟩;rw[t1,zs2,t2,FX.passM,qj g2,FX.passM,zan,wo];exact h9
  .simp only[wy]at g2;refine⟨_,z00,u,rfl,?_⟩;rw[t1,zs2,FX.passM,qc (by rw[g2];simp),FX.passM,zan,zan];exact h6
 simp only[wy,zdf]at g;obtain rfl:i=ws.length:=om;rw[List.take_length]at h5;have hml:=zrg x ws 0;obtain⟨S2,l2,s2,h6⟩:=h5.freeze;refine z05 (qb 132) (Z52 (k:=k+(2+rs.length)) (x.passM 0 ws) u s2 (h6.less om)) fun K7 h7=>?_;have hx2:=hx1.le l2;have s12:=s10.le l2;refine⟨fun n vs K'=>∃i:Nat,i+n=ws.length∧vs=[nI i]∧GnH S2 K' x pu nx (l++z7v (x.passM 0 ws)++x.passD pu 0 (ws.take i)) (k+(1+n)) J,⟨ws.length,0,om,rfl,by rw[List.take_zero,FX.passD,zan];exact h7.less om⟩,?_⟩;rintro n vs K8 _ ⟨j,hjn,rfl,h8⟩;simp only[cns];refine⟨fun g=>?_,fun g=>?_⟩
 .simp only[wy,zdt]at g;obtain⟨r,hri⟩:∃r,ws[j]?=some r:=⟨_,zge om⟩;have hrh:=hwh r (zmg hri);obtain⟨ri,q,d⟩:=z3s s12 j r hri;obtain⟨t1,t2⟩:=htk hri;obtain⟨m,rfl⟩:∃m,n=m+1:=⟨n-1,om⟩;refine⟨fun vs K'=>vs=[]∧GnH S2 K' x pu nx (l++z7v (x.passM 0 ws)++x.passD pu 0 (ws.take (j+1))) (k+(1+m)) J,?_,fun _=>q,[vi r],rfl,d _ h8.sh,?_⟩
  .rintro vs K' _ ⟨rfl,q1⟩;exact⟨_,z00,m,om,j+1,om,by simp only[wy,hup (show j<ws.length by omega)],q1⟩
  simp only[cns];refine z03 [.bool (x.col r)] (qb 126) (z48 hx2 h8 r hrh) rfl z01 fun K9 l9=>?_;have h9:=h8.le l9;simp only[cns];rw[t1,Z26,t2,FX.passD,FX.passD,zan,wo];refine⟨fun g2=>?_,fun g2=>?_⟩
  .simp only[wy,qy]at g2;rw[qc (by rw[g2];simp)];refine⟨fun _=>rfl,[pAt x.rg],rfl,h9.frow 0 1,fun _=>rfl,?_⟩;simp only[cns];refine z03 [vi (toP j)] (qb 193) (zsy j om K9) rfl (z0w (h9.frow 0 1) z01) fun Ka la=>?_;have ha:=h9.le la;simp only[cns];refine z03 [vi (x.slot pu r)] (qb 131) (zch hx2 ha r hrh hp) rfl (z0w (ha.frow 0 1) z01) fun Kb lb=>?_;have hb:=ha.le lb;simp only[cns];refine z05 (qb 55) ((hb.less (k':=k+(1+m)+1) om).to (znu (toP j) 30 (x.slot pu r) (Zfj j om) dC (zns hx2 r hrh hp))) fun Kc hc'=>?_;exact⟨_,z00,rfl,by rw[←zaa];exact hc'⟩
  .simp only[wy,qU]at g2;rw[qj g2,zan];exact⟨_,z00,rfl,h9.less om⟩
 .simp only[wy,zdf]at g;obtain rfl:j=ws.length:=om;rw[List.take_length]at h8;refine⟨fun _=>rfl,[pAt x.rg],rfl,h8.frow 0 1,fun _=>rfl,?_⟩;simp only[cns];refine z05 (qb 57) ((h8.less (k':=k+1) om).to (z1r 28 (rs.length:Int) dC (inJ om om))) fun K9 h9=>?_;exact⟨rfl,by simpa only[zaa]using h9.base (ww l01 l2)⟩
end
theorem zrl{α:Type}(f:Nat→α)(i:Nat):(List.range (i+1)).map f=(List.range i).map f++[f i]:=by
 rw[List.range_succ,List.map_append];rfl
noncomputable def FX.roomL(x:FX)(nx:Int):List ItemR:=if 0<x.room then[⟨4,⟨20,27,0,0,0⟩,0,32+x.stack-x.room⟩,⟨2,⟨27,27,30,0,0⟩,nx,0⟩,⟨3,⟨28,31,0,0,0⟩,6,0⟩,⟨1,⟨0,0,0,0,0⟩,nx,0⟩]else[]
noncomputable def FX.roomN(x:FX)(nx:Int):Int:=if 0<x.room then nx+1 else nx
def zeroR(j:Nat):ItemR:=⟨0,⟨23,0,30,0,(j:Int)⟩,0,0⟩
def FX.entM(x:FX)(r:Int):List MvR:=if r<x.p.params∧x.col r=true then[⟨x.reg r,1+r⟩]else[]
def FX.entD(x:FX)(r:Int):List ItemR:=if r<x.p.params∧x.col r=false then[⟨0,⟨23,1+r,30,0,x.slot 0 r⟩,0,0⟩]else[]
def FX.entN(x:FX)(r:Int):List ItemR:=if r<x.p.params then[]else x.numL 0 r 42
noncomputable def FX.entL(x:FX)(lab nx:Int):List ItemR:=[⟨1,⟨0,0,0,0,0⟩,lab,0⟩,⟨4,⟨20,26,0,0,0⟩,0,x.p.params⟩,⟨2,⟨25,26,28,0,0⟩,22,0⟩]++x.roomL nx++(List.range x.slots.toNat).map zeroR++growL x.slots++(liveL x.p 0 0).flatMap x.entD++z7v ((liveL x.p 0 0).flatMap x.entM)++(liveL x.p 0 0).flatMap x.entN
theorem zt1{α β:Type}{l:List α}{i:Nat}{r:α}(h:l[i]?=some r)(f:α→List β):(l.take (i+1)).flatMap f=(l.take i).flatMap f++f r:=by rw[q9,h];simp
theorem zwb{α β:Type}(f:α→List β)(n:Nat)(h:∀a,(f a).length≤n):∀l:List α,(l.flatMap f).length≤n*l.length
 | []=>sM
 |a::l=>by
  have h1:=zwb f n h l;have h2:=h a;rw[qQ,zla,zlc,Nat.mul_succ];omega
theorem Z5h(x:FX)(l:List Int):(l.flatMap x.entM).length≤l.length:=by
 have:=zwb x.entM 1 (fun a=>by unfold FX.entM;split<;>simp) l;omega
section
variable {S0 K:PH}{x:FX}{pu nx:Int}{l l':List ItemR}{k k':Nat}{J:List Itm}
theorem Zk9(hx:FOk S0 x)(hf:FnOk x)(lab:Int)(hl:InI lab)(hpr:0≤x.p.params∧x.p.params≤1000000)(hb0:0<x.p.blocks.length)(h:GnH S0 K x 0 nx l (k+20000) J):
  Tri zP 84 #[pAt x.rf,vi lab] K (GnQ S0 x 0 (x.roomN nx) (l++x.entL lab nx) k J):=by
 obtain⟨bb,bc,hbv⟩:=hx.bl.sl;have hrm:=Zl3 hx hf;have hst:=hx.st;have hsl:=hx.sl;have hn0:=h.n0;have hnk:=h.nk;refine qr zjm [pAt x.rf,vi lab] ?_;refine⟨fun _=>rfl,[pAt x.rg],rfl,h.frow 0 1,fun _=>rfl,?_⟩;simp only[cns];refine z05 (qb 51) ((h.less (k':=k+19990+1) om).to (z5j lab hl)) fun K1 h1=>?_;refine⟨[pAt x.rg],rfl,h1.frow 0 1,fun _=>rfl,[vi x.p.params],rfl,h1.frow 1 1,?_⟩;simp only[cns];refine z05 (qb 57) ((h1.less (k':=k+19980+1) om).to (z1r 26 x.p.params dC (inJ om om))) fun K2 h2=>?_;refine⟨[pAt x.rg],rfl,h2.frow 0 1,fun _=>rfl,?_⟩;simp only[cns];refine z03 [vi 22] (qb 127) (zze 91 22 kr K2) rfl (z0w (h2.frow 0 1) z01) fun K3 l3=>?_;have h3:=h2.le l3;simp only[cns];refine z05 (qb 59) ((h3.less (k':=k+19970+1) om).to (If_em 25 26 28 22 dC dC dC dC)) fun K4 h4=>?_;obtain⟨lh,hlh⟩:∃lh,lh=l++[⟨1,⟨0,0,0,0,0⟩,lab,0⟩,⟨4,⟨20,26,0,0,0⟩,0,x.p.params⟩,⟨2,⟨25,26,28,0,0⟩,22,0⟩]:=⟨_,rfl⟩;have h4':GnH S0 K4 x 0 nx lh (k+19970) J:=by
  rw[hlh];simpa only[zaa,cns]using h4
 obtain⟨nx',hnx⟩:∃n,n=x.roomN nx:=⟨_,rfl⟩;obtain⟨lr,hlr⟩:∃lr,lr=lh++x.roomL nx:=⟨_,rfl⟩;have hfin:l++x.entL lab nx=lr++(List.range x.slots.toNat).map zeroR++growL x.slots++(liveL x.p 0 0).flatMap x.entD++z7v ((liveL x.p 0 0).flatMap x.entM)++(liveL x.p 0 0).flatMap x.entN:=by
  rw[hlr,hlh];simp only[FX.entL,zaa]
 rw[hfin,←hnx];refine⟨fun vs K=>vs=[]∧GnH S0 K x 0 nx' lr (k+19960) J,?_,?_⟩;rotate_left
 .refine z2y (qb 40) (Zm5 hx hf h4') (fun _ _=>z01) fun K5 h5=>?_;simp only[cns];refine⟨fun g=>?_,fun g=>?_⟩
  .simp only[wy,zdt]at g;have g':0<x.room:=om;refine⟨[pAt x.rg],rfl,h5.frow 0 1,?_⟩;simp only[cns];refine z2y (qb 42) (z4h (h5.less (k':=k+19968+1) om)) (fun _ _=>z01) fun K6 h6=>?_;simp only[cns];refine⟨[pAt x.rg],rfl,h6.frow 0 1,fun _=>rfl,[pAt x.rg],rfl,h6.frow 0 1,fun _=>rfl,[vi x.stack],rfl,h6.grow 3 1,?_⟩;simp only[cns];have e1:arI .sub .i64 (arI .add .i64 32 x.stack) x.room=32+x.stack-x.room:=by
    show IntKind.i64.wrap (IntKind.i64.wrap (32+x.stack)-x.room)=_;rw[w64 (n:=32+x.stack) om om,w64 om om]
   have c1:Tri zP 57 #[pAt x.rg,vi 27,vi (arI .sub .i64 (arI .add .i64 32 x.stack) x.room)] K6 (GnQ S0 x 0 (nx+1) (lh++[⟨4,⟨20,27,0,0,0⟩,0,32+x.stack-x.room⟩]) (k+19967) J):=by
    rw[e1];exact(h6.less (k':=k+19967+1) om).to (z1r 27 _ dC (inJ om om))
   refine z05 (qb 57) c1 fun K7 h7=>?_;refine⟨[pAt x.rg],rfl,h7.frow 0 1,fun _=>rfl,?_⟩;simp only[cns];refine z05 (qb 59) ((h7.less (k':=k+19966+1) om).to (If_em 27 27 30 nx dC dC dC (inJ om om))) fun K8 h8=>?_;refine⟨[pAt x.rg],rfl,h8.frow 0 1,fun _=>rfl,?_⟩;simp only[cns];refine z05 (qb 58) ((h8.less (k':=k+19965+1) om).to (ztc 31 6 dC dC)) fun K9 h9=>?_;refine⟨[pAt x.rg],rfl,h9.frow 0 1,fun _=>rfl,?_⟩;simp only[cns];refine z05 (qb 51) ((h9.less (k':=k+19960+1) om).to (z5j nx (inJ om om))) fun Ka ha=>?_;refine⟨_,z00,rfl,?_⟩;rw[hnx,hlr];unfold FX.roomN FX.roomL;rw[qj g',qj g'];simpa only[zaa,cns]using ha
  .simp only[wy,zdf]at g;have g':¬0<x.room:=om;refine⟨_,z00,rfl,?_⟩;rw[hnx,hlr];unfold FX.roomN FX.roomL;rw[qc g',qc g',zan];exact h5.less om
 clear h1 h2 h3 h4 h4';rintro vs K5 _ ⟨rfl,h5⟩;simp only[cns];obtain⟨sn,hsn⟩:∃sn:Nat,x.slots=(sn:Int):=⟨x.slots.toNat,om⟩;rw[show x.slots.toNat=sn by omega];refine⟨[vi x.slots],rfl,h5.frow 6 1,?_⟩;simp only[cns];refine⟨fun n vs K=>∃i:Nat,i+n=sn∧vs=[nI i]∧GnH S0 K x 0 nx' (lr++(List.range i).map zeroR) (k+15000+n) J,⟨sn,0,om,rfl,by simpa using h5.less om⟩,?_⟩;rintro n vs K6 _ ⟨i,hin,rfl,h6⟩;simp only[cns];refine⟨fun g=>?_,fun g=>?_⟩
 .simp only[wy,zdt]at g;obtain⟨m,rfl⟩:∃m,n=m+1:=⟨n-1,om⟩;refine⟨[pAt x.rg],rfl,h6.frow 0 1,fun _=>rfl,?_⟩;simp only[cns];refine z05 (qb 54) ((h6.less (k':=k+15000+m+1) om).to (z5h 0 30 (i:Int) dC dC (inJ om om))) fun K7 h7=>?_;have hw:IntKind.i64.wrap ((i:Int)+1)=((i+1:Nat):Int):=by rw[w64 om om];rfl
  refine⟨_,z00,m,om,i+1,om,by simp only[wy,hw],?_⟩;rw[zrl,←zaa];exact h7
 simp only[wy,zdf]at g;obtain rfl:i=sn:=om;refine⟨[vi x.slots],rfl,h6.frow 6 1,?_⟩;simp only[cns];refine z05 (qb 128) (znx (k:=k+14000) x.slots (inJ om om) (h6.less om)) fun K7 h7=>?_;refine⟨[vi x.p.params,vi x.p.holds,vi x.p.regs,x.bv],by rw[hbv];rfl,h7.frow 1 4,?_⟩;simp only[cns];refine z02 (qb 129) (h7.pure (R:=fun e S'=>∃v,e=.returned v∧SlR S' (inL x.p) v) fun S hS=>Zc7 x.p x.bv S (hx.bl.le hS) hf.fit hf.few) ?_;rintro _ K8 ⟨S1,l1,h8,v8,rfl,hv8⟩;have hx1:=hx.le l1;have hin0:(inL x.p)[0]?=some (liveL x.p 0 0):=by
  unfold inL;rw[zem,List.getElem?_range hb0];rfl
 obtain⟨z1,_,zcs,z2,z3'⟩:=hv8.get hin0;obtain⟨w8,rfl,hw8⟩:=csLK z2;have z3:=z0v h8.sh z3';have hlh0:∀r∈liveL x.p 0 0,x.has r:=fun r hr=>hf.live hr;have hlen:(liveL x.p 0 0).length≤2000:=Nat.le_trans (Zb7 (zz6 x.p 0 0) hlh0) hf.plen;obtain⟨rs,hrs⟩:∃rs,rs=liveL x.p 0 0:=⟨_,rfl⟩;rw[←hrs]at hw8 hlh0 hlen⊢;have hw80:=hw8;obtain⟨vb,vc,rfl⟩:=hv8.sl;obtain⟨wb,wc,rfl⟩:=hw8.sl;refine⟨_,[_],rfl,rfl,rfl,z01,fun _=>?_,[_],rfl,z3,?_⟩
 .simp only[Chk.holds,wy];refine⟨z1,om,?_⟩;have:=(zgi.1 hin0).1;omega
 simp only[cns];obtain⟨l1',hl1'⟩:∃l1',l1'=lr++(List.range i).map zeroR++growL x.slots:=⟨_,rfl⟩;rw[←hl1']at h8⊢;have hup:∀{i:Nat},i<rs.length→IntKind.i64.wrap ((i:Int)+1)=((i+1:Nat):Int):=fun h=>by rw[w64 om om];rfl
 refine⟨fun n vs K'=>∃(i:Nat)(u:Value),i+n=rs.length∧vs=[u,nI i]∧GnH S1 K' x 0 nx' (l1'++(rs.take i).flatMap x.entD) (k+10000+n) (orow 188 ((rs.take i).flatMap x.entM) u::J),⟨rs.length,0,.slice none 0 0,om,rfl,by simpa using(h8.less (k':=k+10000+rs.length) om).empty _⟩,?_⟩;rintro n vs K9 _ ⟨j,u,hjn,rfl,h9⟩;simp only[cns];obtain⟨ub,uc,hu⟩:=h9.rowsl;refine⟨fun g=>?_,fun g=>?_⟩
 .simp only[wy,zdt]at g;obtain⟨r,hri⟩:∃r,rs[j]?=some r:=⟨_,zge om⟩;have hrh:=hlh0 r (zmg hri);obtain⟨hr0,hr1⟩:=hrh;have hpl:=hf.plen;obtain⟨m,rfl⟩:∃m,n=m+1:=⟨n-1,om⟩;obtain⟨ri,q,d⟩:=z3s hw80 j r hri;refine⟨fun vs K'=>∃u,vs=[u]∧GnH S1 K' x 0 nx' (l1'++(rs.take (j+1)).flatMap x.entD) (k+10000+m) (orow 188 ((rs.take (j+1)).flatMap x.entM) u::J),?_,fun _=>q,[vi r],rfl,d _ h9.sh,[vi x.p.params],rfl,h9.frow 1 1,?_⟩
  .rintro vs K' _ ⟨u',rfl,q1⟩;exact⟨_,z00,m,om,j+1,u',om,by simp only[wy,hup (show j<rs.length by omega)],q1⟩
  simp only[cns];rw[zt1 hri,zt1 hri];unfold FX.entD FX.entM;refine⟨fun g2=>?_,fun g2=>?_⟩
  .simp only[wy,zdt]at g2;refine⟨_,z00,u,rfl,?_⟩;rw[qc om,qc om,zan,zan];exact h9.less om
  simp only[wy,zdf]at g2;have g2':r<x.p.params:=om;have e1:arI .add .i64 1 r=1+r:=w64 om om;refine z03 [.bool (x.col r)] (qb 126) (z48 hx1 h9 r ⟨hr0,hr1⟩) rfl z01 fun Ka la=>?_;have ha:=h9.le la;simp only[cns];have hml:=Z5h x (rs.take j);have htl:(rs.take j).length=j:=by rw[List.length_take];omega
  refine⟨fun g3=>?_,fun g3=>?_⟩
  .simp only[wy]at g3;rw[qc (by rw[g3];simp),qj ⟨g2',g3⟩,zan];refine z03 [vi (x.reg r)] (qb 130) (zab hx1 ha r ⟨hr0,hr1⟩) rfl z01 fun Kb lb=>?_;have hb:=ha.le lb;simp only[cns];refine zfs (b:=16) (more:=[(⟨x.reg r,1+r⟩:MvR)]) [.agg #[vi (x.reg r),vi (arI .add .i64 1 r)]] zte zkg rfl dC dC hb kr (fun S _=>.cons (mvR_iff.2 ⟨by rw[e1];rfl,zik hx1 r ⟨hr0,hr1⟩,show InI (1+r)from inJ om om⟩) .nil) z01 (fun _=>kr) (fun _=>kr)
    (by simp only[maxLen,zlc,zln];omega) (by simp only[zlc,zln];omega) fun w v5 Kc hc=>⟨z01,?_⟩
   exact⟨_,z00,v5,rfl,hc.less om⟩
  .simp only[wy]at g3;rw[qj ⟨g2',g3⟩,qc (by rw[g3];simp),zan];refine⟨[pAt x.rg],rfl,ha.frow 0 1,fun _=>rfl,?_⟩;simp only[cns];refine z03 [vi (x.slot 0 r)] (qb 131) (zch hx1 ha r ⟨hr0,hr1⟩ om) rfl (z0w (ha.frow 0 1) z01) fun Kb lb=>?_;have hb:=ha.le lb;simp only[cns];have c2:Tri zP 54 #[pAt x.rg,vi (arI .add .i64 1 r),vi 30,vi (x.slot 0 r)] Kb (GnQ S1 x 0 nx' (l1'++(rs.take j).flatMap x.entD++[⟨0,⟨23,1+r,30,0,x.slot 0 r⟩,0,0⟩]) (k+10000+m) (orow 188 ((rs.take j).flatMap x.entM) u::J)):=by
    rw[e1];exact hb.to (z5h (1+r) 30 (x.slot 0 r) (inJ om om) dC (zns hx1 r ⟨hr0,hr1⟩ om))
   refine z05 (qb 54) c2 fun Kc hc=>?_;refine⟨_,z00,u,rfl,?_⟩;rw[←zaa];exact hc
 simp only[wy,zdf]at g;obtain rfl:j=rs.length:=om;rw[List.take_length]at h9;have hml:=Z5h x rs;obtain⟨S2,l2,s2,ha⟩:=h9.freeze;refine z05 (qb 132) (Z52 (k:=k+5000) (rs.flatMap x.entM) u s2 (ha.less om)) fun Kb hb=>?_;have hx2:=hx1.le l2;have hw82:=hw80.le l2;refine⟨fun n vs K'=>∃i:Nat,i+n=rs.length∧vs=[nI i]∧GnH S2 K' x 0 nx' (l1'++rs.flatMap x.entD++z7v (rs.flatMap x.entM)++(rs.take i).flatMap x.entN) (k+2*n) J,⟨rs.length,0,om,rfl,by simpa using hb.less om⟩,?_⟩;rintro n vs Kc _ ⟨q0,hqn,rfl,hc⟩;simp only[cns];refine⟨fun g=>?_,fun g=>?_⟩
 .simp only[wy,zdt]at g;obtain⟨r,hri⟩:∃r,rs[q0]?=some r:=⟨_,zge om⟩;have hrh:=hlh0 r (zmg hri);obtain⟨m,rfl⟩:∃m,n=m+1:=⟨n-1,om⟩;obtain⟨ri,q,d⟩:=z3s hw82 q0 r hri;refine⟨fun vs K'=>vs=[]∧GnH S2 K' x 0 nx' (l1'++rs.flatMap x.entD++z7v (rs.flatMap x.entM)++(rs.take (q0+1)).flatMap x.entN) (k+2*m) J,?_,fun _=>q,[vi r],rfl,d _ hc.sh,[vi x.p.params],rfl,hc.frow 1 1,?_⟩
  .rintro vs K' _ ⟨rfl,q1⟩;exact⟨_,z00,m,om,q0+1,om,by simp only[wy,hup (show q0<rs.length by omega)],q1⟩
  simp only[cns];rw[zt1 hri];refine⟨fun g2=>?_,fun g2=>?_⟩
  .simp only[wy,zdt]at g2;refine z03 [vi 42] (qb 34) (z70 5 42 dC dC _) rfl z01 fun Kd ld=>?_;have hd:=hc.le ld;simp only[cns];refine z05 (qb 133) (zso (k:=k+2*m) hx2 om r 42 hrh dC (hd.less om)) fun Ke he=>?_;refine⟨_,z00,rfl,?_⟩;unfold FX.entN;unfold FX.entN at he;rw[qc om,←zaa];exact he
  .simp only[wy,zdf]at g2;refine⟨_,z00,rfl,?_⟩;have:x.entN r=[]:=by unfold FX.entN;rw[qj om]
   rw[this,zan];exact hc.less om
 .simp only[wy,zdf]at g;obtain rfl:q0=rs.length:=om;rw[List.take_length]at hc;exact⟨rfl,(hc.less om).base (ww l1 l2)⟩
end
abbrev mmY(op:List UInt8)(to:Int)(args:List Int)(n:Int):InsX:=⟨op,to,args,.mk 0 0 [] [],n⟩
abbrev mmK(to v:Int):InsX:=⟨constB,to,[],.mk 1 v [] [],0⟩
def mmCs(vs:List Int):List InsX:=vs.zipIdx.map fun x=>mmK (x.2:Int) x.1
def mmB0(vs:List Int)(call:Bool):List InsX:=mmCs vs++if call=true then[mmY cloB (vs.length:Int) [] 1]else[]
def mmR(k i:Nat):List InsX:=[mmK ((k:Int)+1) ((i:Int)+1),mmY [42] ((k:Int)+1) [(k:Int)+1,(i:Int)] 0,mmY [43] (k:Int) [(k:Int),(k:Int)+1] 0]
def mmB1(k:Nat):List InsX:=mmK (k:Int) 0::(List.range k).flatMap (mmR k)
def mmE0(k:Nat)(call:Bool):EndX:=if call=true then⟨4,(k:Int),[0],(k:Int),1,0⟩else⟨0,0,[],0,1,0⟩
def mmE1(k:Nat):EndX:=⟨2,(k:Int),[],0,0,0⟩
def mmP(vs:List Int)(call:Bool):PrcX:=⟨0,0,(vs.length:Int)+2,[⟨mmB0 vs call,mmE0 vs.length call⟩,⟨mmB1 vs.length,mmE1 vs.length⟩]⟩
def boxB:List UInt8:=[37,98,111,120]
def mmI:PrcX:=⟨1,0,30,[⟨(List.range 29).map fun i:Nat=>mmY boxB ((i:Int)+1) [(i:Int)] 0,⟨2,0,[],0,0,0⟩⟩]⟩
def z1x(vs:List Int)(call:Bool):CodeX:=[mmP vs call,mmI]
theorem zl4{r:Int}{q:Prop}{x:InsX}{B:List InsX}(hx:r∈x.args):∀{A:List InsX},(∀y∈A,¬y.fills r)→thru r (A++x::B) q
 | [],_=>.inl hx
 |a::A,h=>.inr ⟨h a (zms),zl4 hx fun y hy=>h y (zmm _ hy)⟩
theorem z82{r:Int}{q:Prop}{x:InsX}{B:List InsX}(hx:r∉x.args)(hf:x.fills r):∀{A:List InsX},(∀y∈A,r∉y.args)→¬thru r (A++x::B) q
 | [],_,h=>h.elim hx fun h=>h.1 hf
 |a::A,hA,h=>h.elim (hA a (zms)) fun h=>z82 hx hf (fun y hy=>hA y (zmm _ hy)) h.2
theorem Z33{r:Int}{q:Prop}(hq:q):∀{A:List InsX},(∀y∈A,¬y.fills r)→thru r A q
 | [],_=>hq
 |a::A,h=>.inr ⟨h a (zms),Z33 hq fun y hy=>h y (zmm _ hy)⟩
theorem z7c{k i:Nat}(h:i<k):List.range k=List.range i++i::(List.range k).drop (i+1):=by
 have h1:(List.range k).take i=List.range i:=by rw[List.take_range];congr 1;omega
 rw[←h1];have h2:=List.take_append_drop i (List.range k);rw[List.drop_eq_getElem_cons (by simpa using h),List.getElem_range]at h2;exact h2.symm
theorem mmK_fills{a v r:Int}:(mmK a v).fills r↔a=r:=by simp[InsX.fills,constB,tieB]
theorem Zgg{k i:Nat}{r:Int}{y:InsX}(hy:y∈mmR k i)(hf:y.fills r):r=(k:Int)∨r=(k:Int)+1:=by
 simp only[mmR,zmc,List.not_mem_nil,or_false]at hy;rcases hy with rfl|rfl|rfl<;>simp[InsX.fills]at hf<;>omega
theorem Zdu{k:Nat}{l:List Nat}{r:Int}{y:InsX}(hy:y∈l.flatMap (mmR k))(hf:y.fills r):r=(k:Int)∨r=(k:Int)+1:=by
 obtain⟨i,_,h⟩:=List.mem_flatMap.1 hy;exact Zgg h hf
theorem zw1{vs:List Int}{y:InsX}(hy:y∈mmCs vs):∃(i:Nat)(v:Int),vs[i]?=some v∧y=mmK (i:Int) v:=by
 obtain⟨⟨v,i⟩,h,rfl⟩:=zmp.1 hy;obtain⟨n,hn⟩:=qJ h;rw[List.getElem?_zipIdx]at hn;obtain⟨a,ha,he⟩:=qR.1 hn;simp only[Prod.mk.injEq]at he;obtain⟨rfl,rfl⟩:=he;exact⟨0+n,a,by rw[wo];exact ha,rfl⟩
theorem zd8(vs:List Int):(mmCs vs).length=vs.length:=by simp[mmCs]
theorem Z0w{vs:List Int}{i:Nat}{v:Int}(h:vs[i]?=some v):(mmCs vs)[i]?=some (mmK (i:Int) v):=by
 unfold mmCs;rw[zem,List.getElem?_zipIdx,h];simp
section
variable {vs:List Int}{call:Bool}
theorem Z0n{i:Nat}(hi:i<vs.length)(q:Prop)(a:Nat)(ha:a≤2):thru (i:Int) ((mmB1 vs.length).drop a) q:=by
 have e:mmB1 vs.length=(mmK (vs.length:Int) 0::(List.range i).flatMap (mmR vs.length)++[mmK ((vs.length:Int)+1) ((i:Int)+1)])++mmY [42] ((vs.length:Int)+1) [(vs.length:Int)+1,(i:Int)] 0::(mmY [43] (vs.length:Int) [(vs.length:Int),(vs.length:Int)+1] 0::((List.range vs.length).drop (i+1)).flatMap (mmR vs.length)):=by
  unfold mmB1
  conv=>lhs;rw[z7c hi]
  simp[mmR]
 rw[e,List.drop_append_of_le_length (by simp;omega)];refine zl4 sM fun y hy=>?_;have hy:=List.mem_of_mem_drop hy;rw[zma,zmc,zsi]at hy;rcases hy with(rfl|hy)|rfl
 .rw[mmK_fills];omega
 .intro hf;have:=Zdu hy hf;omega
 .rw[mmK_fills];omega
theorem Zlv(hk:0<vs.length)(q:Prop):thru (vs.length:Int) ((mmB1 vs.length).drop 2) q:=by
 have e:(mmB1 vs.length).drop 2=[mmY [42] ((vs.length:Int)+1) [(vs.length:Int)+1,((0:Nat):Int)] 0]++mmY [43] (vs.length:Int) [(vs.length:Int),(vs.length:Int)+1] 0::((List.range vs.length).drop (0+1)).flatMap (mmR vs.length):=by
  unfold mmB1
  conv=>lhs;rw[z7c hk]
  simp[mmR]
 rw[e];refine zl4 sM fun y hy=>?_;rw[zsi.1 hy];rintro⟨_,h⟩;have h:(vs.length:Int)+1=(vs.length:Int):=h;omega
theorem g_at1{r:Int}{a:Nat}(h:∀q,thru r ((mmB1 vs.length).drop a) q):z3u (mmP vs call) r 1 a:=⟨_,rfl,h _⟩
theorem zld{r:Int}(hk:0<vs.length):z3u (mmP vs call) r 1 0↔∃i:Nat,i<vs.length∧r=(i:Int):=by
 constructor
 .rintro⟨b,hb,h⟩;obtain rfl:b=⟨mmB1 vs.length,mmE1 vs.length⟩:=(qW hb).symm;rw[List.drop_zero]at h;rcases ze6 h with hr|he
  .rw[List.mem_flatMap]at hr;obtain⟨y,hy,hr⟩:=hr;unfold mmB1 at hy;rcases zmc.1 hy with rfl|hy
   .cases hr
   obtain⟨i,hi,hy⟩:=List.mem_flatMap.1 hy;have hi:=wg.1 hi;by_cases hrk:r=(vs.length:Int)
   .exfalso;subst hrk;exact z82 (A:=[]) (x:=mmK (vs.length:Int) 0) (B:=(List.range vs.length).flatMap (mmR vs.length)) sM (mmK_fills.2 rfl) sM h
   by_cases hrk1:r=(vs.length:Int)+1
   .exfalso;subst hrk1;unfold mmB1 at h;rw[z7c hk]at h;exact z82 (A:=[mmK (vs.length:Int) 0]) (x:=mmK ((vs.length:Int)+1) (((0:Nat):Int)+1)) sM (mmK_fills.2 rfl) sM h
   simp only[mmR,zmc,List.not_mem_nil,or_false]at hy;rcases hy with rfl|rfl|rfl
   .cases hr
   .simp only[zmc,List.not_mem_nil,or_false]at hr;exact⟨i,hi,om⟩
   .simp only[zmc,List.not_mem_nil,or_false]at hr;omega
  .exfalso;rcases he with he|⟨_,b,hb,_⟩
   .have hr:r=(vs.length:Int):=by
     have:decide ((vs.length:Int)=r)=true:=he;exact(qZ this).symm
    subst hr;exact z82 (A:=[]) (x:=mmK (vs.length:Int) 0) (B:=(List.range vs.length).flatMap (mmR vs.length)) sM (mmK_fills.2 rfl) sM h
   .simp[EndX.leads,EndX.ways,mmE1]at hb
 .rintro⟨i,hi,rfl⟩;exact g_at1 fun q=>Z0n hi q 0 om
theorem zqa:(mmE0 vs.length call).leads 2=[1]:=by cases call<;>simp[mmE0,EndX.leads,EndX.ways]
theorem Zmn{i j:Nat}(hij:i<j)(hj:j<vs.length):z3u (mmP vs call) (i:Int) 0 (j+1):=by
 refine⟨_,rfl,Z33 ?_ fun y hy=>?_⟩
 .refine .inr ⟨?_,1,?_,zhz ((zld om).2 ⟨i,om,rfl⟩)⟩
  .rintro⟨_,h⟩;cases call
   .simp[mmE0,EndX.calls]at *
   .have:(vs.length:Int)=(i:Int):=h;omega
  .show((1:Nat):Int)∈(mmE0 vs.length call).leads 2;rw[zqa];simp
 .obtain⟨n,hn⟩:=qJ hy;rw[List.getElem?_drop]at hn;have hn:(mmB0 vs call)[j+1+n]?=some y:=hn;unfold mmB0 at hn;rw[List.getElem?_append]at hn;split at hn
  .rename_i hl;rw[zd8]at hl;rw[Z0w (zge hl)]at hn;rw[←qW hn,mmK_fills];omega
  .cases call
   .simp at hn
   .have hm:=zmg hn;rw[qj rfl,zsi]at hm;rw[hm];simp[InsX.fills];intro _;omega
theorem Z7i:constB≠tieB:=dC
theorem Z7q:constB≠moveB:=dC
theorem zsu{p:PrcX}{i k:Nat}{b:BlkX}{x:InsX}(hb:p.blocks[i]?=some b)(hx:b.ins[k]?=some x)(hop:x.op≠tieB){r:Int}(hr:z3u p r i (k+1))(hmv:x.op≠moveB):MeetP p x.to r:=by
 refine .inr ⟨⟨x.to,-1,if x.op=moveB then lessL (liveL p i (k+1)) x.args else liveL p i (k+1)⟩,?_,.inl ⟨rfl,?_⟩⟩
 .refine List.mem_flatMap.2 ⟨i,wg.2 (zgi.1 hb).1,?_⟩;rw[hb];refine List.mem_append_left _ (List.mem_flatMap.2 ⟨k,wg.2 (zgi.1 hx).1,?_⟩);rw[hx];simp only[zdr];rw[qc hop];exact zsi.2 rfl
 .show r∈(if x.op=moveB then lessL (liveL p i (k+1)) x.args else liveL p i (k+1));rw[qc hmv];exact liveL_mem.2 hr
theorem Zfb{a b:Nat}(hk:0<vs.length)(hab:a<b)(hb:b<vs.length+2):MeetP (mmP vs call) (b:Int) (a:Int):=by
 rcases(by omega:b<vs.length∨b=vs.length∨b=vs.length+1)with h|rfl|rfl
 .obtain⟨v,hv⟩:∃v,vs[b]?=some v:=⟨_,zge h⟩;refine zsu (i:=0) (k:=b) (x:=mmK (b:Int) v) rfl ?_ Z7i (Zmn hab h) Z7q;show(mmB0 vs call)[b]?=_;unfold mmB0;rw[List.getElem?_append_left (by rw[zd8];exact h)];exact Z0w hv
 .exact zsu (i:=1) (k:=0) (x:=mmK (vs.length:Int) 0) rfl rfl Z7i (g_at1 fun q=>Z0n hab q 1 om) Z7q
 .have hx:(mmB1 vs.length)[1]?=some (mmK ((vs.length:Int)+1) (((0:Nat):Int)+1)):=by
   unfold mmB1;rw[z7c hk];simp[mmR]
  refine zsu (i:=1) (k:=1) (x:=mmK ((vs.length:Int)+1) (((0:Nat):Int)+1)) rfl hx Z7i ?_ Z7q;rcases(by omega:a<vs.length∨a=vs.length)with h|rfl
  .exact g_at1 fun q=>Z0n h q 2 om
  .exact g_at1 fun q=>Zlv hk q
theorem Zlx(hk:0<vs.length):liveL (mmP vs call) 0 0=[]:=by
 refine List.eq_nil_iff_forall_not_mem.2 fun r hr=>?_;obtain⟨b,hb,h⟩:=liveL_mem.1 hr;obtain rfl:b=⟨mmB0 vs call,mmE0 vs.length call⟩:=(qW hb).symm;rw[List.drop_zero]at h;have hargs:∀y∈mmCs vs,r∉y.args:=fun y hy=>by
  obtain⟨i,v,_,rfl⟩:=zw1 hy;simp
 by_cases hi:∃i:Nat,i<vs.length∧r=(i:Int)
 .obtain⟨i,hi,rfl⟩:=hi;obtain⟨v,hv⟩:∃v,vs[i]?=some v:=⟨_,zge hi⟩;have hc:=Z0w hv;have hl:i<(mmCs vs).length:=by rw[zd8];exact hi
  have e:mmB0 vs call=(mmCs vs).take i++mmK (i:Int) v::((mmCs vs).drop (i+1)++if call=true then[mmY cloB (vs.length:Int) [] 1]else[]):=by
   unfold mmB0
   conv=>lhs;rw[←List.take_append_drop i (mmCs vs),List.drop_eq_getElem_cons hl]
   have hg:(mmCs vs)[i]=mmK (i:Int) v:=by
    rw[zge hl]at hc;exact qW hc
   rw[hg];simp
  have h:thru (i:Int) (mmB0 vs call) _:=h;rw[e]at h;exact z82 sM (mmK_fills.2 rfl) (fun y hy=>hargs y (List.mem_of_mem_take hy)) h
 have hend:∀L,LiveB (mmP vs call) r 1→L:=fun L hL=>absurd ((zld hk).1 (zh8 hL)) hi;have h:thru r (mmB0 vs call) (zb2 (mmE0 vs.length call) 2 r (LiveB (mmP vs call) r)):=h;unfold mmB0 at h;cases call with
 |false=>
  rw[qc dC,zan]at h;rcases ze6 h with h|h
  .obtain⟨y,hy,h⟩:=List.mem_flatMap.1 h;exact hargs y hy h
  .rcases h with h|⟨_,b,hb,h⟩
   .simp[mmE0,EndX.reads]at h
   .rw[zqa]at hb;have:b=1:=by have:=zsi.1 hb;omega
    subst this;exact hend _ h
 |true=>
  rw[qj rfl]at h;by_cases hrk:r=(vs.length:Int)
  .subst hrk;exact z82 (B:=[]) sM (by simp[InsX.fills,cloB,tieB]) hargs h
  .rcases ze6 h with h|h
   .obtain⟨y,hy,h⟩:=List.mem_flatMap.1 h;rcases zma.1 hy with hy|hy
    .exact hargs y hy h
    .rw[zsi.1 hy]at h;cases h
   .rcases h with h|⟨_,b,hb,h⟩
    .simp[mmE0,EndX.reads]at h;rcases h with h|h
     .exact hrk h.symm
     .exact hi ⟨0,hk,h⟩
    .rw[zqa]at hb;have:b=1:=by have:=zsi.1 hb;omega
     subst this;exact hend _ h
end
def prG(o:List UInt8)(n:Nat)(f:FuncId)(az:List (Bool×List GV))(st:GSt):Option (Option GV×GSt):=
 match az with
 | [(false,[.pg])]=>if f=42∧1≤st.left then some (some (.i (.nw st.nl)),⟨st.segs,st.nl+1,st.left-1⟩)else none
 | [(false,[.pf]),(false,[.i (.arg j)]),(false,[.i (.lit s)])]=>if f=136∧j<n∧InI s∧1≤st.left then some (some (.i (.get j s)),⟨st.segs++[.get j s],st.nl,st.left-1⟩)else none
 | [(false,[.pf]),(false,[.i .to]),(false,[.i g])]=>if o≠tieB∧g.ok n st.nl=true∧2≤st.left then
   (if f=135 then some (none,⟨st.segs++[.set g],st.nl,st.left-2⟩)else if f=133 then some (none,⟨st.segs++[.nmb g],st.nl,st.left-2⟩)else none)else none
 | [(false,[.pf]),(true,[.s op,.i .to,.sl,.o 0 _,.o 1 _,.o 2 _,.o 3 _,.i .num])]=>
  if f=192∧op=o∧n=1∧op∈zi3∧st.nl=0∧40≤st.left then some (none,⟨st.segs++[.ask],(z0x op).toNat,st.left-40⟩)
  else if f=137∧op=o∧op=cloB∧2100≤st.left then some (none,⟨st.segs++[.clo],st.nl,st.left-2100⟩)else none
 |_=>prE n f az st
noncomputable def tabG:List GE:=
 [⟨127,z0c zP Tryz.f127,zdg⟩,⟨34,z0c zP Tryz.f34,zbz⟩,⟨185,z0c zP Tryz.f185,z5d⟩,⟨186,z0c zP Tryz.f186,z5f⟩,⟨188,z0c zP Tryz.f188,z4x⟩,⟨184,z0c zP Tryz.f184,z5k⟩,⟨181,z0c zP Tryz.f181,z60⟩,⟨183,z0c zP Tryz.f183,z5u⟩,⟨182,z0c zP Tryz.f182,z5z⟩,⟨138,z0c zP Tryz.f138,z6j⟩,⟨139,z0c zP Tryz.f139,z4u⟩,⟨143,z0c zP Tryz.f143,z4v⟩,⟨187,z0c zP Tryz.f187,z5l⟩,⟨140,z0c zP Tryz.f140,z4i⟩,⟨142,z0c zP Tryz.f142,z62⟩,⟨189,z0c zP Tryz.f189,z4f⟩,⟨190,z0c zP Tryz.f190,z5q⟩,⟨191,z0c zP Tryz.f191,z67⟩,⟨210,z0c zP Tryz.f210,z66⟩,⟨141,z0c zP Tryz.f141,z5a⟩,⟨144,z0c zP Tryz.f144,z5o⟩]
theorem Zm6:∀e∈tabG,e.Ok zP:=
 GE.c ⟨(qb 127),@zkm⟩<|GE.c ⟨(qb 34),@zis⟩<|GE.c ⟨(qb 185),@zj6⟩<|GE.c ⟨(qb 186),@zj5⟩<|GE.c ⟨(qb 188),@zie⟩<|GE.c ⟨(qb 184),@zj4⟩<|GE.c ⟨(qb 181),@z96⟩<|GE.c ⟨(qb 183),@z9c⟩<|GE.c ⟨(qb 182),@z97⟩<|GE.c ⟨(qb 138),@zn5⟩<|GE.c ⟨(qb 139),@zh6⟩<|GE.c ⟨(qb 143),@zh3⟩<|GE.c ⟨(qb 187),@z8h⟩<|GE.c ⟨(qb 140),@zgk⟩<|GE.c ⟨(qb 142),@zm9⟩<|GE.c ⟨(qb 189),@zfv⟩<|GE.c ⟨(qb 190),@zmd⟩<|GE.c ⟨(qb 191),@zks⟩<|GE.c ⟨(qb 210),@zkr⟩<|GE.c ⟨(qb 141),@zk1⟩<|GE.c ⟨(qb 144),@zm7⟩<|fun _ h=>nomatch h
noncomputable def opG(o:List UInt8)(n:Nat):Option (GOut×GSt):=
 gI n (tabF tabG) (prG o n) 300 z6n none [.pf,.s o,.i .to,.sl,.o 0 (.int .i64),.o 1 (.int .i64),.o 2 .str,.o 3 .sl,.i .num] ⟨[],0,3000⟩
def FX.gn(x:FX)(pu nx:Int)(y:InsX):GNm where
 to:=y.to
 num:=y.num
 args:=y.args
 get:=x.get
 getL:=x.getL pu
 setL:=x.setL pu
 numL:=x.numL pu
 askL:=x.askedL pu nx y.op (y.args.getD 0 0) y.to
 cloL:=x.closureL pu y.args y.to y.num
 nx:=nx
def FX.gc(x:FX)(pu nx:Int)(y:InsX)(av dv:Value):GC:=⟨x.gn pu nx y,pAt x.rf,pAt x.rg,av,fun k=>[vi y.const.kind,vi y.const.int,txt y.const.text,dv].getD k dv⟩
section
variable {S0 K:PH}{x:FX}{pu nx:Int}{l:List ItemR}{k:Nat}{J:List Itm}
theorem vs1{α β:Type}{R:α→β→Prop}{a:α}{vs:List β}(h:All2 R [a] vs):∃v,vs=[v]∧R a v:=by
 match vs,h with
 | [_],.cons h1 .nil=>exact⟨_,rfl,h1⟩
theorem vs2{α β:Type}{R:α→β→Prop}{a b:α}{vs:List β}(h:All2 R [a,b] vs):∃v w,vs=[v,w]∧R a v∧R b w:=by
 match vs,h with
 | [_,_],.cons h1 (.cons h2 .nil)=>exact⟨_,_,rfl,h1,h2⟩
theorem vs3{α β:Type}{R:α→β→Prop}{a b d:α}{vs:List β}(h:All2 R [a,b,d] vs):∃v w u,vs=[v,w,u]∧R a v∧R b w∧R d u:=by
 match vs,h with
 | [_,_,_],.cons h1 (.cons h2 (.cons h3 .nil))=>exact⟨_,_,_,rfl,h1,h2,h3⟩
theorem gok_v(hx:FOk S0 x){y:InsX}{av dv:Value}(hy:InR S0 y av dv)(hj:∀j,j<y.args.length→x.has (y.args.getD j 0)){nl:Nat}{H:PH}{l':List ItemR}{k':Nat}(h:GnH S0 H x pu (nx+(nl:Int)) l' k' J)(hn0:0≤nx){g:GI}(hg:g.ok y.args.length nl=true):InI (g.v (x.gn pu nx y)):=
 GI.ok_v hg hy.num (fun j s h1 h2=>zsc hx _ s (hj j h1) h2) fun j h1=>by
  have:=h.nk;exact inJ (show -9223372036854775808≤nx+(j:Int) by omega) (show nx+(j:Int)≤9223372036854775807 by omega)
theorem Znw(hn0:0≤nx)(hx:FOk S0 x)(hpu:0≤pu∧pu≤100000){y:InsX}{av dv:Value}(hy:InR S0 y av dv)(ht:y.op≠tieB→x.has y.to)(hr:∀r∈y.args,x.has r)(hn:y.args.length≤1000)(hnum:y.op=cloB→0≤y.num∧y.num<x.ents.length):
  GOk zP (x.gc pu nx y av dv) y.args.length (tabF tabG) (prG y.op y.args.length) fun st H=>GnH S0 H x pu (nx+(st.nl:Int)) (l++st.segs.flatMap (GS.l (x.gn pu nx y))) (k+st.left) J:=by
 have hj:∀j,j<y.args.length→x.has (y.args.getD j 0):=fun j h=>hr _ (by rw[zgd,zge h];exact List.getElem_mem h);refine⟨Zbr Zm6,⟨_,rfl⟩,⟨_,rfl⟩,?_,?_,fun st H _ h=>h.frow 0 1,?_,?_⟩
 .obtain⟨b,c,e⟩:=hy.args.sl;show Tag.sl.ok av=true;rw[e];rfl
 .exact hy.args.len.symm
 .intro st H j _ hI hjn;obtain⟨_,q1,q2⟩:=z3s hy.args j _ (zge hjn);refine⟨q1.1,?_⟩;have:=q2 H hI.sh;show rowAt H _ [vi (y.args.getD j 0)];rw[zgd,zge hjn];exact this
 intro f az st v st1 hp;unfold prG at hp;split at hp
 .split at hp
  case isFalse=>cases hp
  rename_i hc;obtain⟨rfl,hl⟩:=hc;cases hp;refine⟨(qb 42),fun vs H hv hI=>?_⟩;obtain⟨v1,rfl,e1⟩:=vs1 hv;rw[show v1=_ from z3o e1];have:=z4h (S0:=S0) (K:=H) (x:=x) (pu:=pu) (nx:=nx+(st.nl:Int)) (l:=l++st.segs.flatMap (GS.l (x.gn pu nx y))) (k:=k+(st.left-1)) (J:=J) (by rw[show k+(st.left-1)+1=k+st.left by omega];exact hI);refine this.mono fun e H'⟨h1,h2⟩=>⟨_,h1,rfl,?_⟩;show GnH S0 H' x pu (nx+((st.nl+1:Nat):Int)) _ _ J;rw[show nx+((st.nl+1:Nat):Int)=nx+(st.nl:Int)+1 by omega];exact h2
 .rename_i j s;split at hp
  case isFalse=>cases hp
  rename_i hc;obtain⟨rfl,hl,hs,hb⟩:=hc;cases hp;refine⟨(qb 136),fun vs H hv hI=>?_⟩;obtain⟨v1,v2,v3,rfl,e1,e2,e3⟩:=vs3 hv;rw[show v1=_ from z3o e1,show v2=_ from z3o e2,show v3=_ from z3o e3];refine(zob (S0:=S0) (K:=H) (nx:=nx+(st.nl:Int)) (l:=l++st.segs.flatMap (GS.l (x.gn pu nx y))) (J:=J) (k:=k+(st.left-1)) hx hpu (y.args.getD j 0) s (hj j hl) hs (by rw[show k+(st.left-1)+1=k+st.left by omega];exact hI)).mono fun e H'⟨h1,h2⟩=>⟨_,h1,rfl,?_⟩;rw[List.flatMap_append,←zaa];rw[show List.flatMap (GS.l (x.gn pu nx y)) [GS.get j s]=x.getL pu (y.args.getD j 0) s from zan _];exact h2
 .rename_i g;split at hp
  case isFalse=>cases hp
  rename_i hc;obtain⟨ho,hg,hb⟩:=hc;have hgv:∀H,GnH S0 H x pu (nx+(st.nl:Int)) (l++st.segs.flatMap (GS.l (x.gn pu nx y))) (k+st.left) J→InI (g.v (x.gn pu nx y)):=fun H h=>gok_v hx hy hj h hn0 hg;split at hp
  .rename_i hf;subst hf;cases hp;refine⟨(qb 135),fun vs H hv hI=>?_⟩;obtain⟨v1,v2,v3,rfl,e1,e2,e3⟩:=vs3 hv;rw[show v1=_ from z3o e1,show v2=_ from z3o e2,show v3=_ from z3o e3];refine(zxq (S0:=S0) (K:=H) (nx:=nx+(st.nl:Int)) (k:=k+(st.left-2)) hx hpu y.to (g.v (x.gn pu nx y)) (ht ho) (hgv H hI) (hI.less om)).mono fun e H'⟨h1,h2⟩=>⟨_,h1,rfl,?_⟩;rw[List.flatMap_append,←zaa];rw[show List.flatMap (GS.l (x.gn pu nx y)) [GS.set g]=x.setL pu y.to (g.v (x.gn pu nx y))from zan _];exact h2
  split at hp
  case isFalse=>cases hp
  rename_i hf;subst hf;cases hp;refine⟨(qb 133),fun vs H hv hI=>?_⟩;obtain⟨v1,v2,v3,rfl,e1,e2,e3⟩:=vs3 hv;rw[show v1=_ from z3o e1,show v2=_ from z3o e2,show v3=_ from z3o e3];refine(zso (S0:=S0) (K:=H) (nx:=nx+(st.nl:Int)) (l:=l++st.segs.flatMap (GS.l (x.gn pu nx y))) (J:=J) (k:=k+(st.left-2)) hx hpu y.to (g.v (x.gn pu nx y)) (ht ho) (hgv H hI) (by rw[show k+(st.left-2)+2=k+st.left by omega];exact hI)).mono fun e H'⟨h1,h2⟩=>⟨_,h1,rfl,?_⟩;rw[List.flatMap_append,←zaa];rw[show List.flatMap (GS.l (x.gn pu nx y)) [GS.nmb g]=x.numL pu y.to (g.v (x.gn pu nx y))from zan _];exact h2
 .rename_i op t0 t1 t2 t3;have hin:∀vs,All2 (GV.argRel (x.gc pu nx y av dv)) [(false,[GV.pf]),(true,[.s op,.i .to,.sl,.o 0 t0,.o 1 t1,.o 2 t2,.o 3 t3,.i .num])] vs→op=y.op→vs=[pAt x.rf,.agg (inV y av dv).toArray]:=by
   intro vs hv e;subst e;obtain⟨v1,v2,rfl,e1,cs,e2,e3⟩:=vs2 hv;rw[show v1=_ from z3o e1,show v2=_ from e3]
   match cs,e2 with
   | [_,_,_,_,_,_,_,_],.cons a1 (.cons a2 (.cons a3 (.cons a4 (.cons a5 (.cons a6 (.cons a7 (.cons a8 .nil)))))))=>
    rw[show _=_ from a1,show _=_ from a2,show _=_ from a3,show _=_ from a4.1,show _=_ from a5.1,show _=_ from a6.1,show _=_ from a7.1,show _=_ from a8];rfl
  split at hp
  .rename_i hc;obtain⟨rfl,ho,hn1,hop,hnl,hb⟩:=hc;cases hp;refine⟨(qb 192),fun vs H hv hI=>?_⟩;rw[hin vs hv ho];obtain⟨r0,hr0⟩:∃r,y.args=[r]:=List.length_eq_one_iff.1 hn1;subst ho;obtain⟨o,to,args,cst,num⟩:=y;subst hr0;have htt:=ht fun e=>by
    have hop:o∈zi3:=hop;rw[show o=_ from e]at hop;exact absurd hop dC
   have hnn:nx+(st.nl:Int)=nx:=by rw[hnl];exact Int.add_zero _
   rw[hnn]at hI;refine(Zke (S0:=S0) (K:=H) (nx:=nx) (l:=l++st.segs.flatMap (GS.l (x.gn pu nx ⟨o,to,[r0],cst,num⟩))) (J:=J) (k:=k+(st.left-40)) hx hpu o hop to r0 num cst av dv hy htt (hr r0 sM) (by rw[show k+(st.left-40)+40=k+st.left by omega];exact hI)).mono fun e H'⟨h1,h2⟩=>⟨_,h1,rfl,?_⟩;rw[List.flatMap_append,←zaa];rw[show List.flatMap (GS.l (x.gn pu nx ⟨o,to,[r0],cst,num⟩)) [GS.ask]=x.askedL pu nx o r0 to from zan _];rw[show(((z0x o).toNat:Nat):Int)=z0x o from Int.toNat_of_nonneg (by unfold z0x;split<;>decide)];exact h2
  split at hp
  case isFalse=>cases hp
  rename_i hc;obtain⟨rfl,ho,hop,hb⟩:=hc;cases hp;refine⟨(qb 137),fun vs H hv hI=>?_⟩;rw[hin vs hv ho];subst ho;refine(Zcu (S0:=S0) (K:=H) (nx:=nx+(st.nl:Int)) (k:=k+(st.left-2100)) hx hpu y av dv hy (ht (by rw[hop];decide)) hr om (hnum hop) (hI.less om)).mono fun e H'⟨h1,h2⟩=>⟨_,h1,rfl,?_⟩;rw[List.flatMap_append,←zaa];rw[show List.flatMap (GS.l (x.gn pu nx y)) [GS.clo]=x.closureL pu y.args y.to y.num from zan _];exact h2
 .unfold prE at hp;split at hp
  case h_2=>cases hp
  rename_i ws;split at hp
  case h_2=>cases hp
  rename_i l0 hl;split at hp
  case h_2=>cases hp
  rename_i ss hs;split at hp
  case isFalse=>cases hp
  rename_i hq;cases hp;simp only[zba,zdt,zat]at hq;refine⟨Zfk hs,fun vs H hv hI=>?_⟩;cases hv with
  |cons hv1 hv2=>
  rw[Z4t hl hv2,show _=_ from z3o hv1];refine(GnH.to (l':=l++st.segs.flatMap (GS.l (x.gn pu nx y))++ss.flatMap (GS.l (x.gn pu nx y))) (k':=k+(st.left-ss.length)) hI (fun hE=>Zf5 hs (fun g hg=>gok_v hx hy hj hI hn0 (hq.1 g hg)) _ H (by rw[show k+(st.left-ss.length)+ss.length=k+st.left by omega];exact hE)) om).mono fun e H'⟨h1,h2⟩=>⟨_,h1,rfl,?_⟩;rw[List.flatMap_append,←zaa];exact h2
end
def baseN:List Int:=[2,3,4,6,7,11,12,13,14,22,23]
noncomputable def FX.insL(x:FX)(pu nx:Int)(y:InsX):List ItemR:=
 if y.op=constB then x.constL pu y else match opG y.op y.args.length with
  |some (_,st)=>st.segs.flatMap (GS.l (x.gn pu nx y))
  |none=>[]
noncomputable def insN(nx:Int)(y:InsX):Int:=
 if y.op=constB then nx else match opG y.op y.args.length with
  |some (_,st)=>nx+(st.nl:Int)
  |none=>nx
def labG:GS→Option Nat
 | .it k _ _ _ _ _ (.nw j) _=>if k=1 then some j else none
 |_=>none
def regG:GI→Bool
 | .lit _=>true
 | .get _ s=>decide (0≤s∧s≤31)
 |_=>false
def GI.rep:GI→Int
 | .lit k=>k
 | .get _ _=>1
 |_=>0
def immG(un:Bool):GI→Option (Int×Int)
 | .lit k=>some (k,k)
 | .add (.lit k) .num=>if un=true∧0≤k∧k≤1000 then some (k,k+1000)else none
 |_=>none
def zs5:GI→Bool
 | .lit _=>true
 |_=>false
def nameG(nl:Nat):GI→Bool
 | .lit k=>decide (k∈baseN)
 | .nw j=>decide (j<nl)
 |_=>false
def fineS(un:Bool)(nl:Nat):GS→Bool
 | .it k op a b d i lab w=>match immG un i with
  |some (lo,hi)=>zs5 op&&regG a&&regG b&&regG d&&mayR ⟨k,⟨op.rep,a.rep,b.rep,d.rep,lo⟩,lab.rep,w.rep⟩&&mayR ⟨k,⟨op.rep,a.rep,b.rep,d.rep,hi⟩,lab.rep,w.rep⟩ &&
   (if k=1 then(labG (.it k op a b d i lab w)).isSome else if k=2∨k=3∨k=5 then nameG nl lab else zs5 lab)&&(if k=4 then true else zs5 w)
  |none=>false
 | .get _ s=>decide (0≤s∧s≤31)
 | .set g=>match g with
  | .lit k=>decide (0≤k∧k≤31)
  | .get _ s=>decide (0≤s∧s≤31)
  |_=>false
 | .nmb _=>true
 |_=>false
def fineT(un:Bool)(st:GSt):Bool:=
 (match st.segs with
  | [.ask]=>true
  |_=>false)||(st.segs.all (fineS un st.nl)&&decide ((st.segs.filterMap labG).Nodup)&&(st.segs.filterMap labG).all (fun j=>decide (j<st.nl))&&(List.range st.nl).all fun j=>(st.segs.filterMap labG).contains j)
def okG(o:List UInt8):Option (GOut×GSt)→Bool
 | some (.ret none _,st)=>fineT (decide (o≠tieB)) st && (match st.segs with
  | [.ask]=>decide (o∈zi3∧(st.nl:Int)=z0x o)
  |_=>true)
 |_=>false
def opsG:List (List UInt8×Nat):=((movB,1)::(hldB,0)::(tieB,2)::(ar0.map fun o=>(o,0))++(ar1.map fun o=>(o,1))++(ar2.map fun o=>(o,2))++(ar3.map fun o=>(o,3))).filter fun p=>decide (p.1≠ccB)
theorem Zly:(opsG.all fun p=>okG p.1 (opG p.1 p.2))=true:=kr
def stW:Nat→List Int→List ItemR
 |_,[]=>[]
 |j,w::ws=>⟨0,⟨23,w,30,0,(j:Int)⟩,0,0⟩::stW (j+1) ws
def ldW:Nat→List Int→List ItemR
 |_,[]=>[]
 |j,w::ws=>⟨0,⟨22,w,30,0,(j:Int)⟩,0,0⟩::ldW (j+1) ws
theorem Zbk:∀(a b:List Int)(i:Nat),stW i (a++b)=stW i a++stW (i+a.length) b
 | [],b,i=>by simp[stW]
 |w::a,b,i=>by
  simp only[List.cons_append,stW,Zbk a b (i+1),zlc];rw[show i+1+a.length=i+(a.length+1) by omega]
theorem Zc0:∀(a b:List Int)(i:Nat),ldW i (a++b)=ldW i a++ldW (i+a.length) b
 | [],b,i=>by simp[ldW]
 |w::a,b,i=>by
  simp only[List.cons_append,ldW,Zc0 a b (i+1),zlc];rw[show i+1+a.length=i+(a.length+1) by omega]
noncomputable def FX.saveW(x:FX)(b:Int):List Int:=(z1o x.p x.place b).map x.reg++(if 0<x.p.holds then[25]else[])
noncomputable def FX.callL(x:FX)(b:Int)(e:EndX)(place nx:Int):List ItemR:=
 stW 0 (x.saveW b)++[⟨5,⟨20,26,0,0,0⟩,nx,0⟩,⟨0,⟨18,26,26,0,15⟩,0,0⟩,⟨0,⟨15,26,26,0,arI .shl .i64 (arI .add .i64 x.slots ((x.saveW b).length:Int)) 3⟩,0,0⟩,⟨0,⟨23,26,30,0,((x.saveW b).length:Int)⟩,0,0⟩]
 ++ growL (((x.saveW b).length:Int)+1)++x.passL (((x.saveW b).length:Int)+1) e.reg e.args++[⟨3,⟨28,0,0,0,0⟩,place,0⟩,⟨1,⟨0,0,0,0,0⟩,nx,0⟩,⟨0,⟨15,27,1,0,0⟩,0,0⟩]
 ++ growL (-((x.saveW b).length:Int)-1)++ldW 0 (x.saveW b)++x.setL 0 e.to 27++[⟨3,⟨28,0,0,0,0⟩,x.labs.getD e.next.toNat 0,0⟩]
section
variable {S0 K:PH}{x:FX}{pu pu' nx:Int}{l l':List ItemR}{k k':Nat}{J:List Itm}
theorem Zda{α:Type}[Enc α]{P:Program}{X:List PanicEntry→PH→Prop}{β:Type}{E:List Value}{L:LK}{Q:β→List Value→PH→LK→Prop}{e T ty:TypeId}{b:Nat}{args:List (Nat×VE)}{f:Fm β}
  (hT:P.underlying T=some (.slice e)) (he:ElemOk P e (sz α) b=true) (h:GnH S0 K x pu nx l k J) (hk:∀v K',GnH S0 K' x pu nx l k (orow (α:=α) e [] v::J)→den P X f (E++[v]) K' L Q):den P X (.sem (.buildSlice T 0 #[]) ty args (.sc .sl) [] f) E K L Q:=by
 obtain⟨⟨h1,S,iv,h2,h3⟩,h4,h5⟩:=h;refine zk8 (α:=α) hT he h3 z01 fun v K' h6 _ _=>hk v K' ?_;exact⟨⟨h1,S,iv,h2,h6.perm (qA (l₁:=[_,_,_]) (l₂:=J)).symm⟩,h4,h5⟩
theorem Z4m{P:Program}{X:List PanicEntry→PH→Prop}{β:Type}{E:List Value}{L:LK}{Q:β→List Value→PH→LK→Prop}{p s:SV}{f:Fm β}(hp:pOf (ev0 E p)=some ⟨x.rf,8,none⟩)(h:GnH S0 K x pu nx l k J)(hv:ev0 E s=.int .i64 pu')(hk:∀K',GnH S0 K' x pu' nx l k J→den P X f E K' L Q):den P X (.store p [s] f) E K L Q:=by
 obtain⟨⟨h1,S,iv,h2,h3⟩,h4,h5⟩:=h;refine z06 (vs:=[vi pu']) hp (h3.perm (qA (l₁:=[_,_]) (l₂:=J))) (by simp only[wa,List.map_nil,hv]) (by simp[oneC]) sM fun K' h6=>hk K' ?_;exact⟨⟨h1,S,iv,h2,h6.perm (qA (l₁:=[_,_]) (l₂:=J)).symm⟩,h4,h5⟩
theorem zvc(hx:FOk S0 x)(h:GnH S0 K x pu nx l k J)(n:Int)(hn:0≤n∧n<x.labs.length):x.lv=.slice (z0b x.lv) x.labs.length (slCap x.lv)∧(z0b x.lv).isSome=true∧rowAt K (pOf (eltV x.lv n 1)) [vi (x.labs.getD n.toNat 0)]∧InI (x.labs.getD n.toNat 0):=by
 obtain⟨m,rfl⟩:∃m:Nat,n=(m:Int):=⟨n.toNat,om⟩;have hm:x.labs[m]?=some (x.labs.getD m 0):=by rw[zgd,zge om];rfl
 obtain⟨ei,eq,ed⟩:=z3s hx.la m _ hm;obtain⟨b,c,hv⟩:=hx.la.sl;refine⟨by rw[hv];rfl,eq.1,ed _ h.sh,ei⟩
theorem Z2e(hf:FnOk x)(b:Int):(x.saveW b).length≤2001:=by
 have:=hf.saved b;unfold FX.saveW;rw[zla,zlm];split<;>simp<;>omega
theorem Zj3{S:PH}(hx:FOk S x)(hf:FnOk x)(b w:Int)(h:w∈x.saveW b):InI w:=by
 unfold FX.saveW at h;rcases zma.1 h with h|h
 .obtain⟨r,h1,rfl⟩:=zmp.1 h;exact zik hx r (hf.across (zmf.1 h1).1)
 .split at h
  .rw[zsi.1 h];decide
  .cases h
theorem Zbn(hx:FOk S0 x)(hf:FnOk x)(b:Int)(e:EndX)(av:Value)(he:EnR S0 e av)(place:Int)(hpi:InI place)(hreg:x.has e.reg)(hargs:∀r∈e.args,x.has r)(hn:e.args.length≤900)(hto:x.has e.to)(hnext:0≤e.next∧e.next<x.labs.length)(h:GnH S0 K x 0 nx l (k+20000) J):
  Tri zP 146 #[pAt x.rf,vi b,.agg (enV e av).toArray,vi place] K (GnQ S0 x 0 (nx+1) (l++x.callL b e place nx) k J):=by
 obtain⟨ab,ac,hav⟩:=he.args.sl;obtain⟨s1,s2⟩:=hx.sl;have hn0:=h.n0;have hnk:=h.nk;have hwl:=Z2e hf b;have hwi:=fun w hw=>Zj3 hx hf b w hw;have hsv:=hf.saved b;refine qr zkp ([pAt x.rf,vi b]++enV e av++[vi place]) ?_ (by rw[hav];kernel_rfl) kr;simp only[enV,cns];refine z02 (qb 82) (Zju hx hf b h) ?_;rintro _ K1 ⟨S1,v1,l1,h1,q1,rfl⟩;have hx1:=hx.le l1;have hwE:x.saveW b=(z1o x.p x.place b).map x.reg++(if 0<x.p.holds then[25]else[]):=rfl;have hsh:∀r∈z1o x.p x.place b,x.has r:=fun r hr=>hf.across (zmf.1 hr).1;unfold FX.callL;generalize hws:x.saveW b=ws at *;generalize hrs:z1o x.p x.place b=rs at *;have q10:=q1;obtain⟨vb,vc,rfl⟩:=q1.sl;refine⟨_,[.slice vb rs.length vc,.bool (decide (0<x.p.holds))],rfl,rfl,rfl,z01,fun _=>rfl,[pAt x.rg],rfl,h1.frow 0 1,?_⟩;simp only[cns];refine z2y (qb 42) (z4h (h1.less (k':=k+19900+1) om)) (fun _ _=>z01) fun K2 h2=>?_;simp only[cns];refine Zda (α:=Int) z0g z0e h2 fun v2 K3 h3=>?_;simp only[cns];have hup:∀{i n:Nat},i<n→n≤100000→IntKind.i64.wrap ((i:Int)+1)=((i+1:Nat):Int):=fun h h'=>by rw[w64 om om];rfl
 refine⟨fun n vs K'=>∃(i:Nat)(u:Value),i+n=rs.length∧vs=[u,nI i]∧GnH S1 K' x 0 (nx+1) l (k+19900) (orow 3 ((rs.take i).map x.reg) u::J),⟨rs.length,0,v2,om,rfl,by simpa using h3⟩,?_⟩;rintro n vs K4 _ ⟨i,u,hin,rfl,h4⟩;simp only[cns];obtain⟨ub,uc,hu⟩:=h4.rowsl;have hml:((rs.take i).map x.reg).length≤2000:=by rw[zlm,List.length_take];omega
 refine⟨fun g=>?_,fun g=>?_⟩
 .simp only[wy,zdt]at g;obtain⟨r,hri⟩:∃r,rs[i]?=some r:=⟨_,zge om⟩;have hrh:=hsh r (zmg hri);obtain⟨ri,q,d⟩:=z3s q10 i r hri;refine⟨fun _=>q,[vi r],rfl,d _ h4.sh,?_⟩;simp only[cns];refine z03 [vi (x.reg r)] (qb 130) (zab hx1 h4 r hrh) rfl z01 fun K5 l5=>?_;have h5:=h4.le l5;simp only[cns];refine zfs (b:=8) (more:=[x.reg r]) [vi (x.reg r)] z0g z0e rfl dC dC h5 kr (fun S _=>.cons (z09 (zik hx1 r hrh)) .nil) z01 (fun _=>kr) (fun _=>kr)
   (by simp only[maxLen,zlc,zln];omega) (by simp only[zlc,zln];omega) fun w v6 K6 h6=>⟨z01,?_⟩
  refine⟨_,z00,n-1,om,i+1,v6,om,by simp only[wy,hup (show i<rs.length by omega) om],?_⟩;rw[q9,hri,List.map_append];exact h6
 simp only[wy,zdf]at g;obtain rfl:i=rs.length:=om;rw[List.take_length]at h4 hml;refine⟨fun vs K'=>∃u,vs=[u]∧GnH S1 K' x 0 (nx+1) l (k+19900) (orow 3 ws u::J),?_,fun g2=>?_,fun g2=>?_⟩;rotate_left
 .simp only[wy,zdt]at g2;refine zfs (b:=8) (more:=[(25:Int)]) [vi 25] z0g z0e rfl dC dC h4 kr (fun S _=>.cons (z09 dC) .nil) z01 (fun _=>kr) (fun _=>kr)
   (by simp only[maxLen,zlc,zln];omega) (by simp only[zlc,zln];omega) fun w v6 K6 h6=>⟨z01,?_⟩
  refine⟨_,z00,v6,rfl,?_⟩;rw[hwE,qj g2];exact h6
 .simp only[wy,zdf]at g2;refine⟨_,z00,u,rfl,?_⟩;rw[hwE,qc g2,zan];exact h4
 clear h1 h2 h3 h4 hu;rintro vs K5 _ ⟨u2,rfl,h5⟩;simp only[cns];obtain⟨S2,l2,q2,h6⟩:=h5.freeze;clear h5;have hx2:=hx1.le l2;have l02:=ww l1 l2;have q20:=q2;obtain⟨wb,wc,rfl⟩:=q2.sl;have htk:∀{i:Nat} {w:Int},ws[i]?=some w→ws.take (i+1)=ws.take i++[w]∧(ws.take i).length=i:=fun h=>⟨by rw[q9,h];rfl,by rw[List.length_take];have:=(zgi.1 h).1;omega⟩;refine⟨fun n vs K'=>∃i:Nat,i+n=ws.length∧vs=[nI i]∧GnH S2 K' x 0 (nx+1) (l++stW 0 (ws.take i)) (k+17000+n) J,⟨ws.length,0,om,rfl,by simpa[stW]using h6.less om⟩,?_⟩;rintro n vs K7 _ ⟨i,hin,rfl,h7⟩;simp only[cns];refine⟨fun g=>?_,fun g=>?_⟩
 .simp only[wy,zdt]at g;obtain⟨w,hri⟩:∃r,ws[i]?=some r:=⟨_,zge om⟩;obtain⟨m,rfl⟩:∃m,n=m+1:=⟨n-1,om⟩;obtain⟨ri,q,d⟩:=z3s q20 i w hri;refine⟨fun _=>q,[vi w],rfl,d _ h7.sh,[pAt x.rg],rfl,h7.frow 0 1,fun _=>rfl,?_⟩;simp only[cns];refine z05 (qb 54) ((h7.less (k':=k+17000+m+1) om).to (z5h w 30 (i:Int) ri dC (inJ om om))) fun K8 h8=>?_;refine⟨_,z00,m,om,i+1,om,by simp only[wy,hup (show i<ws.length by omega) om],?_⟩;rw[(htk hri).1,Zbk,(htk hri).2,wo,←zaa];exact h8
 simp only[wy,zdf]at g;obtain rfl:i=ws.length:=om;rw[List.take_length]at h7;refine⟨[pAt x.rg],rfl,h7.frow 0 1,fun _=>rfl,?_⟩;simp only[cns];refine z05 (qb 151) ((h7.less (k':=k+16990+1) om).to (zvl 26 nx dC (inJ om om))) fun K8 h8=>?_;refine⟨[pAt x.rg],rfl,h8.frow 0 1,fun _=>rfl,?_⟩;simp only[cns];refine z05 (qb 97) ((h8.less (k':=k+16980+1) om).to (z24 18 26 26 15 dC dC dC dC)) fun K9 h9=>?_;refine⟨[pAt x.rg],rfl,h9.frow 0 1,fun _=>rfl,[vi x.slots],rfl,h9.frow 6 1,?_⟩;simp only[cns];refine z05 (qb 97) ((h9.less (k':=k+16970+1) om).to (z24 15 26 26 (arI .shl .i64 (arI .add .i64 x.slots (ws.length:Int)) 3) dC dC dC (z2g _))) fun Ka ha=>?_;refine⟨[pAt x.rg],rfl,ha.frow 0 1,fun _=>rfl,?_⟩;simp only[cns];refine z05 (qb 54) ((ha.less (k':=k+16960+1) om).to (z5h 26 30 (ws.length:Int) dC dC (inJ om om))) fun Kb hb=>?_;have e1:arI .add .i64 (ws.length:Int) 1=(ws.length:Int)+1:=w64 om om;obtain⟨l3,hl3⟩:∃l3,l3=l++stW 0 ws++[⟨5,⟨20,26,0,0,0⟩,nx,0⟩,⟨0,⟨18,26,26,0,15⟩,0,0⟩,⟨0,⟨15,26,26,0,arI .shl .i64 (arI .add .i64 x.slots (ws.length:Int)) 3⟩,0,0⟩,⟨0,⟨23,26,30,0,(ws.length:Int)⟩,0,0⟩]:=⟨_,rfl⟩;have hb':GnH S2 Kb x 0 (nx+1) l3 (k+16960) J:=by
  rw[hl3];simpa only[zaa,cns]using hb
 clear h6 h7 h8 h9 ha hb;have c1:Tri zP 128 #[pAt x.rf,vi (arI .add .i64 (ws.length:Int) 1)] Kb (GnQ S2 x 0 (nx+1) (l3++growL ((ws.length:Int)+1)) (k+16950) J):=by
  rw[e1];exact znx _ (inJ om om) (hb'.less om)
 refine z05 (qb 128) c1 fun Kc hc=>?_;refine Z4m (pu':=(ws.length:Int)+1) rfl hc (by simp only[wy];exact congrArg (Value.int .i64) e1) fun Kd hd=>?_;refine z05 (qb 145) (Zas (k:=k+10000) hx2 om e.reg e.args av (he.args.le l02) hreg hargs hn he.reg (hd.less om)) fun Ke he'=>?_;refine Z4m (pu':=0) rfl he' (by simp only[wy]) fun Kf hff=>?_;refine⟨[pAt x.rg],rfl,hff.frow 0 1,fun _=>rfl,?_⟩;simp only[cns];refine z05 (qb 60) ((hff.less (k':=k+9990+1) om).to (z6v place hpi)) fun Kg hg=>?_;refine⟨[pAt x.rg],rfl,hg.frow 0 1,fun _=>rfl,?_⟩;simp only[cns];refine z05 (qb 51) ((hg.less (k':=k+9980+1) om).to (z5j nx (inJ om om))) fun Kh hh=>?_;refine⟨[pAt x.rg],rfl,hh.frow 0 1,fun _=>rfl,?_⟩;simp only[cns];refine z05 (qb 56) ((hh.less (k':=k+9970+1) om).to (zn4 27 1 dC dC)) fun Ki hi=>?_;have e2:arI .sub .i64 (arI .sub .i64 0 (ws.length:Int)) 1=-(ws.length:Int)-1:=by
  show IntKind.i64.wrap (IntKind.i64.wrap (0-(ws.length:Int))-1)=_;rw[w64 (n:=0-(ws.length:Int)) om om,w64 om om];omega
 obtain⟨l4,hl4⟩:∃l4,l4=l3++growL ((ws.length:Int)+1)++x.passL ((ws.length:Int)+1) e.reg e.args++[⟨3,⟨28,0,0,0,0⟩,place,0⟩,⟨1,⟨0,0,0,0,0⟩,nx,0⟩,⟨0,⟨15,27,1,0,0⟩,0,0⟩]:=⟨_,rfl⟩;have hi':GnH S2 Ki x 0 (nx+1) l4 (k+9970) J:=by
  rw[hl4];simpa only[zaa,cns]using hi
 clear hc hd he' hff hg hh hi;have c2:Tri zP 128 #[pAt x.rf,vi (arI .sub .i64 (arI .sub .i64 0 (ws.length:Int)) 1)] Ki (GnQ S2 x 0 (nx+1) (l4++growL (-(ws.length:Int)-1)) (k+9960) J):=by
  rw[e2];exact znx _ (inJ om om) (hi'.less om)
 refine z05 (qb 128) c2 fun Kj hj=>?_;refine⟨fun n vs K'=>∃i:Nat,i+n=ws.length∧vs=[nI i]∧GnH S2 K' x 0 (nx+1) (l4++growL (-(ws.length:Int)-1)++ldW 0 (ws.take i)) (k+7000+n) J,⟨ws.length,0,om,rfl,by simpa[ldW]using hj.less om⟩,?_⟩;rintro n vs Kk _ ⟨i,hin,rfl,hk⟩;simp only[cns];refine⟨fun g=>?_,fun g=>?_⟩
 .simp only[wy,zdt]at g;obtain⟨w,hri⟩:∃r,ws[i]?=some r:=⟨_,zge om⟩;obtain⟨m,rfl⟩:∃m,n=m+1:=⟨n-1,om⟩;obtain⟨ri,q,d⟩:=z3s q20 i w hri;refine⟨fun _=>q,[vi w],rfl,d _ hk.sh,[pAt x.rg],rfl,hk.frow 0 1,fun _=>rfl,?_⟩;simp only[cns];refine z05 (qb 55) ((hk.less (k':=k+7000+m+1) om).to (znu w 30 (i:Int) ri dC (inJ om om))) fun Kl hl=>?_;refine⟨_,z00,m,om,i+1,om,by simp only[wy,hup (show i<ws.length by omega) om],?_⟩;rw[(htk hri).1,Zc0,(htk hri).2,wo,←zaa];exact hl
 simp only[wy,zdf]at g;obtain rfl:i=ws.length:=om;rw[List.take_length]at hk;refine z05 (qb 135) (zxq (k:=k+10) hx2 om e.to 27 hto dC (hk.less om)) fun Kl hl=>?_;obtain⟨z1,z2,z3,z4⟩:=zvc hx2 hl e.next hnext;refine⟨[pAt x.rg],rfl,hl.frow 0 1,fun _=>rfl,[x.lv],by rw[z1];rfl,hl.frow 7 1,fun _=>?_,[vi (x.labs.getD e.next.toNat 0)],rfl,z3,?_⟩
 .exact⟨z2,hnext.1,by show e.next<(slLen x.lv:Int);rw[z1];exact hnext.2⟩
 simp only[cns];refine z05 (qb 60) ((hl.less (k':=k+1) om).to (z6v _ z4)) fun Km hm=>?_;refine⟨rfl,?_⟩;rw[hl4,hl3]at hm;simpa only[zaa,cns]using hm.base l02
end
def FX.leaveL(x:FX)(e:EndX)(to:Int):List ItemR:=x.passL 0 e.reg e.args++growL (arI .sub .i64 0 x.slots)++[⟨3,⟨28,0,0,0,0⟩,to,0⟩]
def FX.lab(x:FX)(i:Int):Int:=x.labs.getD i.toNat 0
def FX.askL(x:FX)(e:EndX):List ItemR:=x.getL 0 e.reg 26++[⟨4,⟨20,28,0,0,0⟩,0,2⟩,⟨2,⟨24,x.get e.reg 26,28,0,0⟩,x.lab e.els,0⟩,⟨3,⟨28,0,0,0,0⟩,x.lab e.next,0⟩]
noncomputable def FX.endL(x:FX)(b nx:Int)(e:EndX):List ItemR:=
 if e.kind=0 then[⟨3,⟨28,0,0,0,0⟩,x.lab e.next,0⟩]
 else if e.kind=1 then x.askL e
 else if e.kind=2 then x.retL 0 e.reg
 else if e.kind=3 then x.leaveL e 3
 else if e.kind=5 then x.leaveL e 7
 else if e.kind=4 then x.callL b e 3 nx
 else if e.kind=6 then x.callL b e 7 nx
 else[]
def endN(nx:Int)(e:EndX):Int:=if e.kind=4∨e.kind=6 then nx+1 else nx
section
variable {S0 K:PH}{x:FX}{pu pu' nx:Int}{l l':List ItemR}{k k':Nat}{J:List Itm}
theorem Znl(hx:FOk S0 x)(hf:FnOk x)(hregs:∀r,0≤r∧r<x.p.regs→x.has r)(hlabs:x.labs.length=x.p.blocks.length)(b:Int)(e:EndX)(av:Value)(he:EnR S0 e av)(hok:finOk x.p e=true)(h:GnH S0 K x 0 nx l (k+20000) J):
  Tri zP 86 #[pAt x.rf,vi b,.agg (enV e av).toArray] K (GnQ S0 x 0 (endN nx e) (l++x.endL b nx e) k J):=by
 have hg:=z81 hok;obtain⟨s1,s2⟩:=hx.sl;have hargs:∀r∈e.args,x.has r:=fun r hr=>hregs r (hg.args r hr);have hfew:=hg.few;have hin:InI (arI .sub .i64 0 x.slots):=by
  show InI (IntKind.i64.wrap (0-x.slots));rw[w64 om om];exact inJ om om
 by_cases k2:e.kind=2
 .have e1:x.endL b nx e=x.retL 0 e.reg:=by unfold FX.endL;rw[qc om,qc om,qj k2]
  have e2:endN nx e=nx:=by unfold endN;rw[qc om]
  rw[e1,e2];exact Zd4 hx om b e av he k2 (hregs _ (hg.reg om)) (h.less om)
 obtain⟨ab,ac,hav⟩:=he.args.sl;refine qr zak ([pAt x.rf,vi b]++enV e av) ?_ (by rw[hav];kernel_rfl) kr;simp only[enV,cns];have lab:∀{K':PH} {nx':Int} {l':List ItemR} {k':Nat} {n:Int},(0≤n∧n<x.p.blocks.length)→GnH S0 K' x 0 nx' l' k' J→x.lv=.slice (z0b x.lv) x.labs.length (slCap x.lv)∧((z0b x.lv).isSome=true∧(0:Int)≤n∧n<(slLen x.lv:Int))∧rowAt K' (pOf (eltV x.lv n 1)) [vi (x.lab n)]∧InI (x.lab n):=fun hn h=>by
  obtain⟨z1,z2,z3,z4⟩:=zvc hx h _ (by rw[hlabs];exact hn);refine⟨z1,⟨z2,hn.1,by rw[z1];show _<(x.labs.length:Int);rw[hlabs];exact hn.2⟩,z3,z4⟩
 refine⟨fun g=>?_,fun g=>?_⟩
 .simp only[wy,zdt]at g;have hn:=hg.next (.inl g);obtain⟨z1,z2,z3,z4⟩:=lab hn h;refine⟨fun _=>rfl,[pAt x.rg],rfl,h.frow 0 1,fun _=>rfl,[x.lv],by rw[z1];rfl,h.frow 7 1,fun _=>z2,[vi (x.lab e.next)],rfl,z3,?_⟩;simp only[cns];refine z05 (qb 60) ((h.less (k':=k+1) om).to (z6v _ z4)) fun K1 h1=>?_;refine⟨rfl,?_⟩;unfold FX.endL endN;rw[qj g,qc om];exact h1
 simp only[wy,zdf]at g;refine⟨fun g1=>?_,fun g1=>?_⟩
 .simp only[wy,zdt]at g1;have hn:=hg.next (.inr (.inl g1));have hl:=hg.els g1;have hr:=hregs _ (hg.reg g);refine z2y (qb 136) (zob (k:=k+10) hx om e.reg 26 hr dC (h.less om)) (fun _ _=>z01) fun K1 h1=>?_;simp only[cns];refine⟨fun _=>rfl,[pAt x.rg],rfl,h1.frow 0 1,fun _=>rfl,?_⟩;simp only[cns];refine z03 [vi 2] (qb 34) (z70 0 2 dC dC _) rfl (z0w (h1.frow 0 1) z01) fun K2 l2=>?_;have h2:=h1.le l2;simp only[cns];refine z05 (qb 57) ((h2.less (k':=k+8+1) om).to (z1r 28 2 dC dC)) fun K3 h3=>?_;obtain⟨z1,z2,z3,z4⟩:=lab hl h3;refine⟨[pAt x.rg],rfl,h3.frow 0 1,fun _=>rfl,[x.lv],by rw[z1];rfl,h3.frow 7 1,fun _=>z2,[vi (x.lab e.els)],rfl,z3,?_⟩;simp only[cns];refine z05 (qb 59) ((h3.less (k':=k+7+1) om).to (If_em 24 (x.get e.reg 26) 28 (x.lab e.els) dC (zsc hx e.reg 26 hr dC) dC z4)) fun K4 h4=>?_;obtain⟨y1,y2,y3,y4⟩:=lab hn h4;refine⟨[pAt x.rg],rfl,h4.frow 0 1,fun _=>rfl,[x.lv],by rw[z1];rfl,h4.frow 7 1,fun _=>y2,[vi (x.lab e.next)],rfl,y3,?_⟩;simp only[cns];refine z05 (qb 60) ((h4.less (k':=k+1) om).to (z6v _ y4)) fun K5 h5=>?_;refine⟨rfl,?_⟩;unfold FX.endL endN;rw[qc g,qj g1,qc om];simpa only[FX.askL,zaa,cns]using h5
 simp only[wy,zdf]at g1;refine⟨fun g2=>?_,fun _=>?_⟩
 .simp only[wy,zdt]at g2;exact absurd g2 k2
 have hr:=hregs _ (hg.reg g);refine⟨fun g3=>?_,fun g3=>?_⟩
 .have g3':e.kind=3∨e.kind=5:=by
   simp only[wy]at g3;by_cases q:e.kind=3
   .exact .inl q
   .simp only[qY q,qp,if_false,cond_false,zdt]at g3;exact .inr (by simpa using g3)
  refine z05 (qb 145) (Zas (k:=k+10) hx om e.reg e.args av he.args hr hargs om he.reg (h.less om)) fun K1 h1=>?_;refine⟨fun _=>rfl,[vi x.slots],rfl,h1.frow 6 1,?_⟩;simp only[cns];refine z05 (qb 128) (znx (k:=k+9) (arI .sub .i64 0 x.slots) hin (h1.less om)) fun K2 h2=>?_;refine⟨fun g4=>?_,fun g4=>?_⟩
  .simp only[wy,zdt]at g4;refine⟨[pAt x.rg],rfl,h2.frow 0 1,fun _=>rfl,?_⟩;simp only[cns];refine z05 (qb 60) ((h2.less (k':=k+1) om).to (z6v 3 dC)) fun K3 h3=>?_;refine⟨rfl,?_⟩;unfold FX.endL endN;rw[qc g,qc g1,qc k2,qj g4,qc om];simpa only[FX.leaveL,zaa,cns]using h3
  .simp only[wy,zdf]at g4;refine⟨[pAt x.rg],rfl,h2.frow 0 1,fun _=>rfl,?_⟩;simp only[cns];refine z05 (qb 60) ((h2.less (k':=k+1) om).to (z6v 7 dC)) fun K3 h3=>?_;refine⟨rfl,?_⟩;unfold FX.endL endN;rw[qc g,qc g1,qc k2,qc g4,qj (show e.kind=5 by omega),qc (show ¬(e.kind=4∨e.kind=6) by omega)];simpa only[FX.leaveL,zaa,cns]using h3
 have g3':e.kind≠3∧e.kind≠5:=by
  simp only[wy]at g3;by_cases q:e.kind=3
  .simp[q]at g3
  .exact⟨q,by simpa[q]using g3⟩
 refine⟨fun g4=>?_,fun g4=>?_⟩
 .simp only[wy,zdt]at g4;have hn:=hg.next (.inr (.inr (.inl g4)));refine z05 (qb 146) (Zbn hx hf b e av he 3 dC hr hargs om (hregs _ (hg.to (.inl g4))) (by rw[hlabs];exact hn) h) fun K1 h1=>?_;refine⟨rfl,?_⟩;unfold FX.endL endN;rw[qc g,qc g1,qc k2,qc g3'.1,qc g3'.2,qj g4,qj om];exact h1
 simp only[wy,zdf]at g4;refine⟨fun g5=>?_,fun g5=>?_⟩
 .simp only[wy,zdt]at g5;have hn:=hg.next (.inr (.inr (.inr g5)));refine z05 (qb 146) (Zbn hx hf b e av he 7 dC hr hargs om (hregs _ (hg.to (.inr g5))) (by rw[hlabs];exact hn) h) fun K1 h1=>?_;refine⟨rfl,?_⟩;unfold FX.endL endN;rw[qc g,qc g1,qc k2,qc g3'.1,qc g3'.2,qc g4,qj g5,qj om];exact h1
 simp only[wy,zdf]at g5;have:=hg.kind;omega
end
theorem zsv{c:CodeX}(g:GoodC c){p:PrcX}{x:InsX}(h:insOk c p x=true):x.args.length≤1000:=by
 have gx:=z83 h;unfold insOk at h;split at h
 .cases h
 split at h
 .simp only[zba,zdt]at h;omega
 split at h
 .simp only[zba,zdt]at h;omega
 split at h
 .simp only[zba,zdt]at h;omega
 split at h
 .rename_i hc;obtain⟨h1,h2,h3⟩:=gx.closure hc;have:=(g.prc (Z1z om h2).1).holds;omega
 split at h
 .simp only[zba,zdt]at h;omega
 split at h
 .cases h
 .simp only[zba,zdt]at h;have:z33 x.op≤3:=by
   unfold z33
   repeat' split
   all_goals decide
  omega
theorem Zj1{c:CodeX}(g:GoodC c){p:PrcX}{b:BlkX}(hi:∀x∈b.ins,insOk c p x=true)(hf:finOk p b.e=true):b.regs.length≤1000*b.many:=by
 have h1:∀l:List InsX,(∀x∈l,insOk c p x=true)→(l.flatMap (·.args)).length≤1000*l.length:=by
  intro l
  induction l with
  |nil=>intro _;simp
  |cons x l ih=>
   intro h;have:=zsv g (h x (zms));have:=ih fun y hy=>h y (zmm _ hy);simp only[qQ,zla,zlc];omega
 have h2:=h1 b.ins hi;have h3:=(z81 hf).few;unfold BlkX.regs BlkX.many EndX.regs;rw[zla,zla];have h4:(if b.e.reads b.e.reg=true then[b.e.reg]else[]).length≤1:=by split<;>simp
 have h5:(if b.e.kind=3∨b.e.kind=4 then b.e.args else[]).length≤b.e.args.length:=by split<;>simp
 omega
theorem Zax{α:Type}(f:α→List Int)(m:α→Nat):∀l:List α,(∀a∈l,(f a).length≤1000*m a)→(l.flatMap f).length≤1000*(l.map m).sum
 | [],_=>sM
 |a::l,h=>by
  have h1:=h a (zms);have h2:=Zax f m l fun b hb=>h b (zmm _ hb);simp only[qQ,zla,wa,List.sum_cons];omega
theorem GoodC.fit{c:CodeX}(g:GoodC c){p:PrcX}(hp:p∈c):p.Fit∧∀b∈p.blocks,b.e.args.length≤20000000:=by
 have gp:=g.prc hp;refine⟨⟨by have:=gp.blocks;omega,fun b hb=>by have:=(gp.ins b hb).1;omega,?_⟩,fun b hb=>by have:=(z81 (gp.fin b hb)).few;omega⟩;have h1:=Zax BlkX.regs BlkX.many p.blocks fun b hb=>Zj1 g (gp.ins b hb).2 (gp.fin b hb);have h2:=zvb hp;have h3:=g.many;unfold PrcX.many at h2;unfold PrcX.regl;omega
theorem Za9{p:PrcX}{e:EndX}(h:FinGood p e){r:Int}(hr:e.reads r=true):0≤r∧r<p.regs:=by
 unfold EndX.reads at hr;split at hr
 .rename_i hk;have hr:e.reg=r:=by simpa using hr
  rw[←hr];exact h.reg om
 split at hr
 .rename_i hk;simp only[qu,zdt]at hr;rcases hr with hr|hr
  .rw[←hr];exact h.reg om
  .exact h.args r hr
 .cases hr
theorem zou{c:CodeX}{p:PrcX}(hg:GoodP c p):∀r∈p.regl,0≤r∧r<p.regs:=by
 intro r hr;obtain⟨b,hb,h1⟩:=List.mem_flatMap.1 hr;unfold BlkX.regs at h1;rcases zma.1 h1 with h|h
 .obtain⟨x,hx,h2⟩:=List.mem_flatMap.1 h;exact(z83 ((hg.ins b hb).2 x hx)).args r h2
 .have hf:=z81 (hg.fin b hb);unfold EndX.regs at h;rcases zma.1 h with h|h
  .split at h
   .rename_i hr2;rw[zsi.1 h];exact Za9 hf hr2
   .simp at h
  .split at h
   .exact hf.args r h
   .simp at h
theorem zvi{c:CodeX}{p:PrcX}(hg:GoodP c p):mayP p=true:=by
 unfold mayP;rw[zba,zat];refine⟨?_,fun b hb=>?_⟩
 .have h1:=hg.params;have h2:=hg.regs;have h3:=hg.blocks;unfold z5v;simp only[qy,zof,zdf];omega
 .unfold BlkX.may;rw[zba,zat,zat];refine⟨fun x hx=>?_,fun r hr=>?_⟩
  .have g:=z83 ((hg.ins b hb).2 x hx);unfold InsX.may;rw[zba,zat];refine⟨fun r hr=>qX (g.args r hr),?_⟩;by_cases h:x.op=tieB
   .simp[h]
   .rw[qu];exact .inr (qX (g.to h))
  .have g:=z81 (hg.fin b hb);refine qX ?_;unfold EndX.uses at hr;split at hr
   .rw[zsi.1 hr];exact g.reg om
   split at hr
   .rcases zmc.1 hr with rfl|h
    .exact g.reg om
    .exact g.args r h
   split at hr
   .rcases zmc.1 hr with rfl|h
    .exact g.reg om
    rcases zmc.1 h with rfl|h
    .exact g.to om
    .exact g.args r h
   split at hr
   .rcases zmc.1 hr with rfl|h
    .exact g.reg om
    .rw[zsi.1 h];exact g.to om
   .simp at hr
theorem Zhy{op:List UInt8}{n:Nat}(h:z33 op=(n:Int)):(n=0∧op∈ar0)∨(n=1∧op∈ar1)∨(n=2∧op∈ar2)∨(n=3∧op∈ar3):=by
 unfold z33 at h;split at h
 .rename_i g;exact .inl ⟨om,by simpa using g⟩
 split at h
 .rename_i g;exact .inr (.inl ⟨om,by simpa using g⟩)
 split at h
 .rename_i g;exact .inr (.inr (.inl ⟨om,by simpa using g⟩))
 split at h
 .rename_i g;exact .inr (.inr (.inr ⟨om,by simpa using g⟩))
 .omega
theorem Z9k{c:CodeX}{p:PrcX}{y:InsX}(h:insOk c p y=true)(e:y.op=hldB):y.args.length=0:=by
 unfold insOk at h;split at h
 .cases h
 rw[qc (show ¬y.op=constB by rw[e];decide),qc (show ¬y.op=movB by rw[e];decide)]at h;simp only[zba,zdt]at h;exact h.1.1.1
theorem Zfr{c:CodeX}{p:PrcX}{y:InsX}(h:insOk c p y=true)(hH:p.holds≤1000)(h1:y.op≠cloB)(h2:y.op≠tieB):0≤y.num∧y.num≤1000:=by
 unfold insOk at h;split at h
 .cases h
 split at h
 .simp only[zba,zdt]at h;omega
 split at h
 .simp only[zba,zdt]at h;omega
 split at h
 .simp only[zba,zdt]at h;omega
 split at h
 .cases h
 .simp only[zba,zdt]at h;omega
theorem Zbu(n:Nat):opG cloB n=some (.ret none [.pf,.s cloB,.i .to,.sl,.o 0 (.int .i64),.o 1 (.int .i64),.o 2 .str,.o 3 .sl,.i .num],⟨[.clo],0,900⟩):=kr
theorem Z6s{c:CodeX}{p:PrcX}{y:InsX}(h:insOk c p y=true)(h1:y.op≠constB):(∃G st,opG y.op y.args.length=some (.ret none G,st))∧(y.op≠cloB→okG y.op (opG y.op y.args.length)=true):=by
 have hg:=z83 h;have hcc:y.op≠ccB:=fun e=>by rw[Z6l e]at h;cases h
 have key:y.op≠cloB→okG y.op (opG y.op y.args.length)=true:=fun h2=>by
  have hm:(y.op,y.args.length)∈opsG:=by
   refine zmf.2 ⟨?_,qX hcc⟩;simp only[zma,zmc,zmp,Prod.mk.injEq];by_cases e1:y.op=movB
   .exact .inl (.inl (.inl (.inl ⟨e1,hg.move e1⟩)))
   by_cases e2:y.op=hldB
   .exact .inl (.inl (.inl (.inr (.inl ⟨e2,Z9k h e2⟩))))
   by_cases e3:y.op=tieB
   .exact .inl (.inl (.inl (.inr (.inr (.inl ⟨e3,(hg.tie e3).1⟩)))))
   rcases Zhy (hg.prim h1 e1 e2 h2 e3)with⟨q,m⟩|⟨q,m⟩|⟨q,m⟩|⟨q,m⟩
   .exact .inl (.inl (.inl (.inr (.inr (.inr ⟨_,m,rfl,q.symm⟩)))))
   .exact .inl (.inl (.inr ⟨_,m,rfl,q.symm⟩))
   .exact .inl (.inr ⟨_,m,rfl,q.symm⟩)
   .exact .inr ⟨_,m,rfl,q.symm⟩
  exact zat.1 Zly _ hm
 refine⟨?_,key⟩;by_cases h2:y.op=cloB
 .rw[h2];exact⟨_,_,Zbu _⟩
 .have:=key h2;unfold okG at this;split at this
  .exact⟨_,_,by assumption⟩
  .cases this
section
variable {S0 K:PH}{x:FX}{pu nx:Int}{l:List ItemR}{k:Nat}{J:List Itm}
theorem Zn7{c:CodeX}(hx:FOk S0 x)(hp:0≤pu∧pu≤100000)(gc:GoodC c)(hc:c.length≤x.ents.length)(hregs:∀r,0≤r∧r<x.p.regs→x.has r)(y:InsX)(hok:insOk c x.p y=true)(av dv:Value)(hy:InR S0 y av dv)(h0:GnH S0 K x pu nx l (k+3000) J):
  Tri zP 85 #[pAt x.rf,.agg (inV y av dv).toArray] K (GnQ S0 x pu (insN nx y) (l++x.insL pu nx y) k J):=by
 have hg:=z83 hok;by_cases e1:y.op=constB
 .have a1:x.insL pu nx y=x.constL pu y:=qj e1;have a2:insN nx y=nx:=qj e1;rw[a1,a2];exact Z61 hx hp _ av dv hy e1 (hregs _ (hg.to (by rw[e1];decide))) (h0.less om)
 obtain⟨⟨G,st,hO⟩,_⟩:=Z6s hok e1;have a1:x.insL pu nx y=st.segs.flatMap (GS.l (x.gn pu nx y)):=by unfold FX.insL;rw[qc e1,hO]
 have a2:insN nx y=nx+(st.nl:Int):=by unfold insN;rw[qc e1,hO]
 rw[a1,a2];obtain⟨ab,ac,hav⟩:=hy.args.sl;obtain⟨db,dc,hdv⟩:=hy.cl.sl;refine qr zbi ([pAt x.rf]++inV y av dv) ?_ (by rw[hav,hdv];kernel_rfl) kr;have hGok:=Znw (l:=l) (k:=k) (J:=J) (nx:=nx) h0.n0 hx hp hy (fun e=>hregs _ (hg.to e)) (fun r hr=>hregs r (hg.args r hr)) (zsv gc hok) fun e=>by
  have:=hg.closure e;omega
 have e3:Tag.sl.ok dv=true:=by rw[hdv];rfl
 refine gI_ok hGok 300 _ _ _ _ _ hO _ _ _ _ _ (.cons rfl (.cons rfl (.cons rfl (.cons rfl (.cons ⟨rfl,rfl⟩ (.cons ⟨rfl,rfl⟩ (.cons ⟨rfl,rfl⟩ (.cons ⟨rfl,e3⟩ (.cons rfl .nil))))))))) ?_ ?_
 .show GnH S0 K x pu (nx+0) (l++[]) (k+3000) J;rw[zan,Int.add_zero];exact h0
 .intro v E H L _ hv hI;refine⟨?_,hI.less om⟩;rw[show evV E (fun _=>0) v=_ from hv]
end
noncomputable def FX.inssL(x:FX):Int→List InsX→List ItemR
 |_,[]=>[]
 |nx,y::ys=>x.insL 0 nx y++x.inssL (insN nx y) ys
noncomputable def inssN:Int→List InsX→Int
 |nx,[]=>nx
 |nx,y::ys=>inssN (insN nx y) ys
noncomputable def FX.blksL(x:FX):Nat→Int→List BlkX→List ItemR
 |_,_,[]=>[]
 |i,nx,b::bs=>[⟨1,⟨0,0,0,0,0⟩,x.lab (i:Int),0⟩]++x.inssL nx b.ins++x.endL (i:Int) (inssN nx b.ins) b.e++x.blksL (i+1) (endN (inssN nx b.ins) b.e) bs
noncomputable def blksN:Int→List BlkX→Int
 |nx,[]=>nx
 |nx,b::bs=>blksN (endN (inssN nx b.ins) b.e) bs
noncomputable def FX.funL(x:FX)(lab nx:Int):List ItemR:=x.entL lab nx++[⟨3,⟨28,0,0,0,0⟩,x.lab 0,0⟩]++x.blksL 0 (x.roomN nx) x.p.blocks
noncomputable def FX.funN(x:FX)(nx:Int):Int:=blksN (x.roomN nx) x.p.blocks
noncomputable def fxP(p:PrcX)(ents:List Int)(syms:List (List UInt8))(stack nx:Int):FX:=
 ⟨0,0,p,(colP p 24).1,(colP p 24).2-24,(List.range p.blocks.length).map fun j:Nat=>nx+(j:Int),ents,syms,stack,.bool false,.bool false,.bool false,.bool false,.bool false⟩
def FX.bare(x:FX):FX:=⟨0,0,x.p,x.place,x.slots,x.labs,x.ents,x.syms,x.stack,.bool false,.bool false,.bool false,.bool false,.bool false⟩
theorem Zfi(x:FX)(pu nx:Int)(y:InsX):x.insL pu nx y=x.bare.insL pu nx y:=kr
theorem zxr(x:FX):∀(i:Nat)(rs:List Int),x.passM i rs=x.bare.passM i rs
 |_,[]=>rfl
 |i,r::rs=>by
  rw[FX.passM,FX.passM,zxr x (i+1) rs];rfl
theorem zwh(x:FX)(pu:Int):∀(i:Nat)(rs:List Int),x.passD pu i rs=x.bare.passD pu i rs
 |_,[]=>rfl
 |i,r::rs=>by
  rw[FX.passD,FX.passD,zwh x pu (i+1) rs];rfl
theorem zyu(x:FX)(pu c:Int)(rs:List Int):x.passL pu c rs=x.bare.passL pu c rs:=by
 unfold FX.passL;rw[zxr,zwh]
theorem Zg4(x:FX)(b nx:Int)(e:EndX):x.endL b nx e=x.bare.endL b nx e:=by
 unfold FX.endL FX.leaveL FX.callL;rw[zyu,zyu]
 kernel_rfl
theorem zz0(x:FX):∀(ys:List InsX)(nx:Int),x.inssL nx ys=x.bare.inssL nx ys
 | [],_=>rfl
 |y::ys,nx=>by rw[FX.inssL,FX.inssL,zz0 x ys,Zfi]
theorem zy6(x:FX):∀(bs:List BlkX)(i:Nat)(nx:Int),x.blksL i nx bs=x.bare.blksL i nx bs
 | [],_,_=>rfl
 |b::bs,i,nx=>by
  rw[FX.blksL,FX.blksL,zy6 x bs,zz0,Zg4];rfl
theorem Zfs(x:FX)(lab nx:Int):x.funL lab nx=x.bare.funL lab nx:=by
 unfold FX.funL;rw[zy6];rfl
theorem Zh0(x:FX)(nx:Int):x.funN nx=x.bare.funN nx:=rfl
structure GeH(S0 K:PH)(rg:Nat)(sv env:Value)(nx stack:Int)(l:List ItemR)(k:Nat)(J:List Itm):Prop where
 em:EmH S0 K rg 100 [sv,env,vi nx,vi stack] l k J
 n0:0≤nx
 nk:nx+k≤2199023255552
def costB(b:BlkX):Nat:=30000+3000*b.ins.length
def z4g(l:List BlkX):Nat:=(l.map costB).sum
theorem zu3(b:BlkX)(l:List BlkX):z4g (b::l)=costB b+z4g l:=by unfold z4g;rw[wa,List.sum_cons]
theorem Zdo(l:List BlkX):l.length≤z4g l:=Z0j costB (fun b=>by unfold costB;omega) l
def costP(p:PrcX):Nat:=30000+2*z4g p.blocks
section
variable {S0 K:PH}{rg:Nat}{sv env:Value}{nx stack:Int}{l:List ItemR}{k:Nat}{J:List Itm}
theorem Z9t{c:CodeX}(gc:GoodC c){p:PrcX}(hpc:p∈c){ents:List Int}{syms:List (List UInt8)}(bv:Value)(lab:Int)(hlab:InI lab)(h:GeH S0 K rg sv env nx stack l (k+costP p) J)(hst:0≤stack∧stack≤131072)
  (hbv:SlR S0 p.blocks bv) (hen:SlR S0 ents env) (hel:c.length≤ents.length) (hsy:SlR S0 syms sv) :
  Tri zP 43 #[pAt rg,.agg (prcVs p bv).toArray,vi lab] K fun e K'=>e=.returned (.tuple #[])∧GeH S0 K' rg sv env ((fxP p ents syms stack nx).funN (nx+p.blocks.length)) stack (l++(fxP p ents syms stack nx).funL lab (nx+p.blocks.length)) k J:=by
 have gp:=gc.prc hpc;obtain⟨hfit,hfew⟩:=gc.fit hpc;have hmay:=zvi gp;have hH:∀q∈c,q.holds≤1000:=fun q hq=>(gc.prc hq).holds.2;have hn0:=h.n0;have hnk:=h.nk;obtain⟨⟨hl,S,iv,hS,hh⟩,_,_⟩:=h;have hbv0:=hbv;have hblk:=gp.blocks;have hcl:=Zdo p.blocks;unfold costP at hl hnk;obtain⟨b0,c0,rfl⟩:=hbv.sl;refine qr ze9 ([pAt rg]++prcVs p (.slice b0 p.blocks.length c0)++[vi lab]) ?_;simp only[prcVs,cns];refine z02 (qb 39) (zsw p (.slice b0 p.blocks.length c0) S K _ hh (hbv0.le hS) hfit hfew hmay) ?_;rintro _ K1 ⟨S1,rf,pl,pv,n,rfl,l1,hpl,hpd,hq1,hq2,hh1⟩;refine⟨_,[pAt rf],rfl,rfl,rfl,z01,fun _=>rfl,?_⟩;simp only[cns];refine z06 (off:=0) (vs:=[pAt rg]) rfl hh1 (by simp only[wy]) (by simp[oneC]) sM fun K2 hh2=>?_;have hS1:=ww hS l1;have hup:∀{i n:Nat},i<n→n≤100000→IntKind.i64.wrap ((i:Int)+1)=((i+1:Nat):Int):=fun h h'=>by rw[w64 om om];rfl
 refine ⟨fun m vs K=>∃(i:Nat) (lv:Value) (S2:PH) (iv:Value),i+m=p.blocks.length∧vs=[nI i]∧PH.le S1 S2∧Held S2 K (bx rg 100 [iv,sv,env,vi (nx+i),vi stack]::orow 131 l iv::bx rf 142 [pAt rg,vi p.params,vi p.holds,vi p.regs,.slice b0 p.blocks.length c0,pv,vi n,lv,vi 0]::orow 3 ((List.range i).map fun j:Nat=>nx+(j:Int)) lv::J),
  ⟨p.blocks.length,0,.slice none 0 0,S1,iv,om,rfl,wx _,?_⟩,?_⟩
 .have h3:=hh2.empty (α:=Int) 3;rw[show nx+((0:Nat):Int)=nx by omega];exact h3.perm (by
   refine(qq _ _ _).trans ?_;refine List.Perm.trans ?_ (qA (l₁:=[_,_]) (l₂:=_)).symm;refine List.Perm.cons _ ?_;exact(qA (l₁:=[_,_]) (l₂:=J)).symm)
 rintro m vs K3 _ ⟨i,lv,S2,iv2,him,rfl,l2,hh3⟩;have hlr:=(hh3.row (e:=3) (l:=(List.range i).map fun j:Nat=>nx+(j:Int)) (v:=lv) sM);obtain⟨lb,lc,hlv⟩:=hlr.sl;simp only[cns];refine⟨fun g=>?_,fun g=>?_⟩
 .simp only[wy,zdt]at g;have hrf:∀off n',rowAt K3 (some ⟨rf,off,none⟩) ((([pAt rg,vi p.params,vi p.holds,vi p.regs,.slice b0 p.blocks.length c0,pv,vi n,lv,vi 0]:List Value).drop off).take n'):=fun off n'=>z0r (T:=142) hh3 sM off n';refine⟨[lv],by rw[hlv];rfl,hrf 7 1,?_⟩;simp only[cns];have hem:EmH S1 K3 rg 100 [sv,env,vi (nx+i),vi stack] l k (bx rf 142 [pAt rg,vi p.params,vi p.holds,vi p.regs,.slice b0 p.blocks.length c0,pv,vi n,lv,vi 0]::orow 3 ((List.range i).map fun j:Nat=>nx+(j:Int)) lv::J):=⟨om,S2,iv2,l2,hh3⟩;refine z02 (qb 42) (Z81 hem om om) ?_;rintro _ K4 ⟨rfl,_,S4,iv4,l4,hh4⟩;have hrf4:∀off n',rowAt K4 (some ⟨rf,off,none⟩) ((([pAt rg,vi p.params,vi p.holds,vi p.regs,.slice b0 p.blocks.length c0,pv,vi n,lv,vi 0]:List Value).drop off).take n'):=fun off n'=>z0r (T:=142) hh4 sM off n';refine⟨_,[vi (nx+i)],rfl,rfl,rfl,z0w (hrf4 7 1) z01,?_⟩;simp only[cns];have hh5:=hh4.perm (qA (l₁:=[_,_,_]) (l₂:=J));refine z0t (b:=8) (more:=[nx+(i:Int)]) [vi (nx+i)] z0g z0e rfl dC dC hh5 kr (.cons (z09 (inJ om om)) .nil) (z0w (hrf4 7 1) z01) (fun w=>kr) (fun w=>kr)
   (by simp only[zlm,wh,maxLen,zlc,zln];omega) (by simp only[zlm,wh,zlc,zln];omega) fun w5 v5 S5 K5 l5 hh6=>⟨z01,?_⟩
  simp only[cns];obtain⟨b6,c6,hv6⟩:=(hh6.row (e:=3) (zms)).sl;refine z06 (T:=142) (off:=7) (vs:=[v5]) rfl (hh6.perm (qA (l₁:=[_,_,_]) (l₂:=J))) (by simp only[wy]) (by intro u hu;rw[zsi.1 hu,hv6];rfl) sM fun K6 hh8=>?_;refine⟨_,z00,m-1,om,i+1,v5,S5,iv4,om,by simp only[wy,hup (show i<p.blocks.length by omega) om],ww l4 l5,?_⟩;rw[show(List.range (i+1)).map (fun j:Nat=>nx+(j:Int))=(List.range i).map (fun j:Nat=>nx+(j:Int))++[nx+(i:Int)]from zrl _ i,show nx+((i+1:Nat):Int)=nx+i+1 by omega];exact hh8.perm (List.Perm.append_right J (List.perm_append_comm (l₁:=[_,_]) (l₂:=[_,_])))
 simp only[wy,zdf]at g;obtain rfl:i=p.blocks.length:=om;obtain⟨S3,s3,l3,hh4⟩:=(hh3.perm (qA (l₁:=[_,_,_]) (l₂:=J))).freeze;have hS3:=ww hS1 (ww l2 l3);obtain⟨x,hxE⟩:∃x:FX,x=⟨rg,rf,p,pl,n,(List.range p.blocks.length).map fun j:Nat=>nx+(j:Int),ents,syms,stack,.slice b0 p.blocks.length c0,pv,lv,env,sv⟩:=⟨_,rfl⟩;have hbare:x.bare=fxP p ents syms stack nx:=by rw[hxE,hq1,hq2];rfl
 rw[←hbare,←Zfs,←Zh0];have hplen:pl.length=p.regs.toNat:=hpd.len;have hreg:=gp.regs;have hpar:=gp.params;have hlo:=hpd.lo;have hhi:=hpd.hi;have hx:FOk S3 x:=by
  rw[hxE];refine⟨hbv0.le hS3,hpl.le (ww l2 l3),s3,hen.le hS3,hsy.le hS3,fun a ha=>?_,by show 0≤n∧n≤3000;omega,hst⟩;obtain⟨r,hr⟩:=qJ ha;have:=hpd.all r a hr;omega
 have xrf:x.rf=rf:=by rw[hxE]
 have xrg:x.rg=rg:=by rw[hxE]
 have xp:x.p=p:=by rw[hxE]
 have xpl:x.place=pl:=by rw[hxE]
 have xla:x.labs=(List.range p.blocks.length).map fun j:Nat=>nx+(j:Int):=by rw[hxE]
 have xlv:x.lv=lv:=by rw[hxE]
 have xen:x.ents=ents:=by rw[hxE]
 have hregs:∀r,0≤r∧r<x.p.regs→x.has r:=fun r hr=>by
  rw[xp]at hr;unfold FX.has;rw[xpl];omega
 have hf:FnOk x:=⟨by rw[xp];exact hfit,by rw[xp];exact hfew,fun r hr=>hregs r (by rw[xp]at hr⊢;exact zou gp r hr),by rw[xpl];omega⟩;have hlabs:x.labs.length=x.p.blocks.length:=by rw[xla,xp];simp
 have hg4:GnH S3 K3 x 0 (nx+p.blocks.length) l (k+30000+z4g p.blocks) J:=by
  rw[hxE];exact⟨⟨om,S3,iv2,wx _,hh4⟩,om,om⟩
 have fin:∀{K':PH} {l':List ItemR} {n':Int},GnH S3 K' x 0 n' l' k J→GeH S0 K' rg sv env n' stack l' k J:=fun h=>by
  obtain⟨⟨q1,S4,iv4,q2,q3⟩,q4,q5⟩:=h;rw[hxE]at q3;exact⟨⟨q1,S4,iv4,ww hS3 q2,(q3.perm (qA (l₁:=[_,_]) (l₂:=J))).tail⟩,q4,q5⟩
 have labR:∀{K':PH} {nx':Int} {l':List ItemR} {k':Nat} {j:Nat},j<p.blocks.length→GnH S3 K' x 0 nx' l' k' J→x.lv=.slice (z0b x.lv) x.labs.length (slCap x.lv)∧((z0b x.lv).isSome=true∧(0:Int)≤(j:Int)∧(j:Int)<(slLen x.lv:Int))∧rowAt K' (pOf (eltV x.lv (j:Int) 1)) [vi (x.lab (j:Int))]∧InI (x.lab (j:Int)):=fun{K'}{nx'}{l'}{k'}{j}hn h=>by
  have hlt:(0:Int)≤(j:Int)∧(j:Int)<(x.labs.length:Int):=by rw[hlabs,xp];omega
  obtain⟨z1,z2,z3,z4⟩:=zvc hx h (j:Int) hlt;exact⟨z1,⟨z2,hlt.1,by rw[z1];exact hlt.2⟩,z3,z4⟩
 rw[←xrf];refine z05 (qb 84) (Zk9 (k:=k+10000+z4g p.blocks) hx hf lab hlab (by rw[xp];omega) (by rw[xp];omega) (hg4.less om)) fun K4 h4=>?_;obtain⟨z1,z2,z3,z4⟩:=labR (j:=0) om h4;refine⟨[pAt x.rg],rfl,h4.frow 0 1,fun _=>rfl,[x.lv],by rw[z1];rfl,h4.frow 7 1,fun _=>z2,[vi (x.lab ((0:Nat):Int))],rfl,z3,?_⟩;simp only[cns];refine z05 (qb 60) ((h4.less (k':=k+z4g p.blocks+1) om).to (z6v (x.lab ((0:Nat):Int)) z4)) fun K5 h5=>?_;obtain⟨Lf,hLf⟩:∃Lf,Lf=l++x.funL lab (nx+p.blocks.length):=⟨_,rfl⟩;obtain⟨Nf,hNf⟩:∃Nf,Nf=x.funN (nx+p.blocks.length):=⟨_,rfl⟩;rw[←hLf,←hNf];have hLf':(l++x.entL lab (nx+p.blocks.length)++[⟨3,⟨28,0,0,0,0⟩,x.lab ((0:Nat):Int),0⟩])++x.blksL 0 (x.roomN (nx+p.blocks.length)) p.blocks=Lf:=by
  rw[hLf];unfold FX.funL;rw[xp];simp only[zaa];rfl
 have hNf':blksN (x.roomN (nx+p.blocks.length)) p.blocks=Nf:=by rw[hNf];unfold FX.funN;rw[xp]
 refine⟨fun m vs K=>∃(i:Nat)(n':Int)(l':List ItemR),i+m=p.blocks.length∧vs=[nI i]∧GnH S3 K x 0 n' l' (k+z4g (p.blocks.drop i)) J∧l'++x.blksL i n' (p.blocks.drop i)=Lf∧blksN n' (p.blocks.drop i)=Nf,⟨p.blocks.length,0,_,_,om,rfl,h5,hLf',hNf'⟩,?_⟩;clear h4 h5 hg4;rintro m vs K6 _ ⟨i,n6,l6,him,rfl,h6,hL6,hN6⟩;simp only[cns];refine⟨fun g=>?_,fun g=>?_⟩;rotate_left
 .simp only[wy,zdf]at g;obtain rfl:i=p.blocks.length:=om;rw[List.drop_length]at h6 hL6 hN6;rw[FX.blksL,zan]at hL6;rw[blksN]at hN6;rw[←hL6,←hN6];exact⟨rfl,fin (h6.less om)⟩
 simp only[wy,zdt]at g;obtain⟨b,hb⟩:∃b,p.blocks[i]?=some b:=⟨_,zge om⟩;have hdr:p.blocks.drop i=b::p.blocks.drop (i+1):=by
  rw[←List.getElem_cons_drop (zgi.1 hb).1,(zgi.1 hb).2]
 have hbm:=zmg hb;rw[hdr,FX.blksL]at hL6;rw[hdr,blksN]at hN6;rw[hdr,zu3,costB]at h6;obtain⟨hil,hio⟩:=gp.ins b hbm;obtain⟨y1,_,ycs,y2,y3⟩:=(hbv0.le hS3).get hb;obtain⟨iv6,es,rfl,i1,i2⟩:=blk_iff.1 y2;obtain⟨av,rfl,e1,e2,e3,e4,e5,e6⟩:=end_iff.1 i2;obtain⟨ab,ac,hav⟩:=e3.sl;have i10:=i1;obtain⟨ib,ic,rfl⟩:=i1.sl;refine⟨fun _=>⟨y1,by show(0:Int)≤(i:Int);omega,by show(i:Int)<(p.blocks.length:Int);omega⟩,[.slice ib b.ins.length ic,vi b.e.kind,vi b.e.reg,av,vi b.e.to,vi b.e.next,vi b.e.els],by rw[hav];rfl,z0v h6.sh y3,?_⟩;simp only[cns];obtain⟨z1,z2,z3,z4⟩:=labR (j:=i) om h6;refine⟨[pAt x.rg],rfl,h6.frow 0 1,fun _=>rfl,[x.lv],by rw[z1];rfl,h6.frow 7 1,fun _=>z2,[vi (x.lab (i:Int))],rfl,z3,?_⟩;simp only[cns];refine z05 (qb 51) ((h6.less (k':=k+z4g (p.blocks.drop (i+1))+25000+3000*b.ins.length+1) om).to (z5j (x.lab (i:Int)) z4)) fun K7 h7=>?_;obtain⟨l7,hl7⟩:∃l7,l7=l6++[⟨1,⟨0,0,0,0,0⟩,x.lab (i:Int),0⟩]:=⟨_,rfl⟩;rw[←hl7]at h7;refine⟨fun q vs K=>∃(u:Nat)(n':Int)(l':List ItemR),u+q=b.ins.length∧vs=[nI u]∧GnH S3 K x 0 n' l' (k+z4g (p.blocks.drop (i+1))+25000+3000*q) J∧l'++x.inssL n' (b.ins.drop u)=l7++x.inssL n6 b.ins∧inssN n' (b.ins.drop u)=inssN n6 b.ins,⟨b.ins.length,0,n6,l7,om,rfl,h7,rfl,rfl⟩,?_⟩;clear h6 h7;rintro q vs K8 _ ⟨u,n8,l8,huq,rfl,h8,hL8,hN8⟩;simp only[cns];refine⟨fun g2=>?_,fun g2=>?_⟩
 .simp only[wy,zdt]at g2;obtain⟨y,hy⟩:∃y,b.ins[u]?=some y:=⟨_,zge om⟩;have hdy:b.ins.drop u=y::b.ins.drop (u+1):=by
   rw[←List.getElem_cons_drop (zgi.1 hy).1,(zgi.1 hy).2]
  rw[hdy,FX.inssL]at hL8;rw[hdy,inssN]at hN8;obtain⟨q',rfl⟩:∃q',q=q'+1:=⟨q-1,om⟩;obtain⟨w1,_,wcs,w2,w3⟩:=i10.get hy;obtain⟨wv,dv,rfl,q1,q2,q3,q4,q5,q6,q7,q8⟩:=ins_iff.1 w2;obtain⟨wb,wc,hwv⟩:=q3.sl;obtain⟨db,dc,hdv⟩:=q7.sl;refine⟨fun _=>⟨w1,by show(0:Int)≤(u:Int);omega,by show(u:Int)<(b.ins.length:Int);omega⟩,inV y wv dv,by rw[hwv,hdv];rfl,z0v h8.sh w3,?_⟩;simp only[inV,cns];refine z05 (qb 85) (Zn7 (c:=c) (k:=k+z4g (p.blocks.drop (i+1))+25000+3000*q') hx om gc (by rw[xen];exact hel) hregs y (by rw[xp];exact hio y (zmg hy)) wv dv ⟨q1,q2,q3,q4,q5,q6,q7,q8⟩ (h8.less om)) fun K9 h9=>?_;refine⟨_,z00,q',om,u+1,_,_,om,by simp only[wy,hup (show u<b.ins.length by omega) om],h9,?_,hN8⟩;rw[zaa];exact hL8
 .simp only[wy,zdf]at g2;obtain rfl:u=b.ins.length:=om;rw[List.drop_length]at hL8 hN8;rw[FX.inssL,zan]at hL8;rw[inssN]at hN8;subst hN8;refine z05 (qb 86) (Znl (k:=k+z4g (p.blocks.drop (i+1))) hx hf hregs hlabs (i:Int) b.e av ⟨e1,e2,e3.le (wx _),e4,e5,e6⟩ (by rw[xp];exact gp.fin b hbm) (h8.less om)) fun K9 h9=>?_;refine⟨_,(z1f dC).trans z00,m-1,om,i+1,_,_,om,by simp only[wy,hup (show i<p.blocks.length by omega) om],h9,?_,hN6⟩;rw[hL8,hl7];simpa only[zaa]using hL6
end
def gsY(acc:List (List UInt8))(y:InsX):List (List UInt8):=if y.op=constB∧y.const.kind=4∧acc.contains y.const.text=false then acc++[y.const.text]else acc
def gsB(acc:List (List UInt8))(b:BlkX):List (List UInt8):=b.ins.foldl gsY acc
def gsP(acc:List (List UInt8))(p:PrcX):List (List UInt8):=p.blocks.foldl gsB acc
def gsC(c:CodeX):List (List UInt8):=c.foldl gsP []
theorem z6m{α β:Type}{f:List β→α→List β}{m:Nat}:∀(l:List α)(acc:List β),(∀a∈l,∀acc,(f acc a).length≤acc.length+m)→(l.foldl f acc).length≤acc.length+m*l.length
 | [],acc,_=>sM
 |a::l,acc,h=>by
  have h1:=z6m l (f acc a) fun b hb=>h b (zmm _ hb);have h2:=h a (zms) acc;rw[List.foldl_cons,zlc,Nat.mul_succ];omega
theorem zon{α β:Type}{f:β→α→β}{l:List α}{i:Nat}{a:α}(h:l[i]?=some a)(acc:β):(l.take (i+1)).foldl f acc=f ((l.take i).foldl f acc) a:=by
 rw[q9,h,List.foldl_append];rfl
theorem Zce(y:InsX)(acc:List (List UInt8)):(gsY acc y).length≤acc.length+1:=by unfold gsY;split<;>simp
theorem Zbw{b:BlkX}(h:b.ins.length≤4096)(acc:List (List UInt8)):(gsB acc b).length≤acc.length+4096:=by
 have:=z6m (m:=1) b.ins acc fun a _ acc=>Zce a acc;unfold gsB;omega
theorem Zbe{c:CodeX}{p:PrcX}(h:GoodP c p)(acc:List (List UInt8)):(gsP acc p).length≤acc.length+16777216:=by
 have:=z6m (m:=4096) p.blocks acc fun b hb acc=>Zbw (h.ins b hb).1 acc;have:=h.blocks;unfold gsP;omega
theorem csTxG{H:PH}{l:List UInt8}{cs:List Value}(h:CsR H l cs):cs=[txt l]∧l.length≤maxLen:=by
 obtain⟨v,vs,rfl,⟨rfl,h2⟩,rfl⟩:=h;exact⟨rfl,h2⟩
theorem Zis{H:PH}{l:List UInt8}(h:l.length≤maxLen):CsR H l [txt l]:=⟨_,_,rfl,⟨rfl,h⟩,rfl⟩
theorem uTxG:Tryz.prog.underlying 24=some (.slice 9):=kr
theorem zzk:ElemOk zP 9 1 16=true:=kr
theorem Zeg(l:List (List UInt8))(s:List UInt8)(v:Value)(H:PH)(hl:SlR H l v):Tri zP 35 #[v,txt s] H fun e H'=>∃n:Int,e=.returned (vi n)∧decide (0≤n)=l.contains s∧PH.le H H':=by
 obtain⟨b,c,rfl⟩:=hl.sl;have hm:=hl.max;simp only[maxLen]at hm;refine qr z42 [.slice b l.length c,txt s] ?_;refine⟨fun n vs H'=>∃k:Nat,vs=[vi 0,vi k]∧k+n=l.length∧s∉l.take k∧PH.le H H',⟨l.length,0,rfl,om,sM,wx H⟩,?_⟩;rintro n vs H' _ ⟨k,rfl,hkn,hno,hle⟩;refine⟨fun h=>?_,fun h=>?_⟩
 .simp only[wy,zdt]at h;obtain⟨a,ha⟩:∃a,l[k]?=some a:=⟨_,zge (show k<l.length by omega)⟩;obtain⟨g1,_,ces,g2,g3⟩:=(hl.le hle).get ha;obtain⟨rfl,_⟩:=csTxG g2;refine⟨fun _=>?_,[txt a],rfl,?_,fun h2=>?_,fun h2=>?_⟩
  .simp only[Chk.holds,wy];exact⟨g1,om,om⟩
  .simp only[wy];exact g3
  .simp only[wy,z0m,zdt]at h2;subst h2;exact⟨k,rfl,by rw[List.contains_iff_mem.2 (zmg ha)];simp,hle⟩
  .simp only[wy,z0m,zdf]at h2;refine⟨_,z00,n-1,om,k+1,?_,om,fun hx=>?_,hle⟩
   .simp only[wy];rw[w64 om om];rfl
   .rw[q9,ha]at hx;rcases zma.1 hx with hx|hx
    .exact hno hx
    .exact h2 (zsi.1 hx)
 .simp only[wy,zdf]at h;rw[ztl om]at hno;refine⟨-1,rfl,?_,hle⟩;cases hc:l.contains s with
  |false=>rfl
  |true=>exact absurd (List.contains_iff_mem.1 hc) hno
theorem zxk(l:List (List UInt8))(s:List UInt8)(v:Value)(H:PH)(hl:SlR H l v):Gives zP 83 [v,txt s] H (.bool (l.contains s)):=by
 obtain⟨b,c,rfl⟩:=hl.sl;refine qr z77 [.slice b l.length c,txt s] ?_;refine z02 (qb 35) (Zeg l s _ H hl) ?_;rintro e H' ⟨n,rfl,h1,h2⟩;refine⟨_,[_],rfl,rfl,rfl,z01,?_,h2⟩;simp only[wy,h1]
theorem Zek(l:List (List UInt8))(v:Value)(S:PH)(h:SlR S l v)(hl:l.length≤6000000000):Tri zP 44 #[v] S fun x S'=>PH.le S S'∧∃v',x=.returned v'∧SlR S' l v':=by
 obtain⟨b,c,hv⟩:=h.sl;subst hv;refine qr z9x [.slice b l.length c] ?_;refine⟨fun g=>?_,fun g=>?_⟩
 .simp only[wy]at g;have:b=none:=by
   cases b with
   |none=>rfl
   |some a=>simp[z61]at g
  subst this;refine⟨wx S,_,rfl,?_⟩;have hl0:l=[]:=by
   rcases(SlR.mk_iff.1 h).2 with⟨_,e⟩|⟨a,c',e,_⟩
   .exact e
   .cases e
  rw[hl0];exact SlR.mk_iff.2 ⟨Nat.zero_le _,.inl ⟨rfl,rfl⟩⟩
 .refine zk8 (α:=List UInt8) (b:=16) uTxG zzk (Held.nil (wx S)) z01 fun v1 H1 h1 _ _=>?_;refine z6k (b:=16) (more:=l) uTxG zzk kr kr h1 (h.srcS h1.sh) (by simp only[maxLen,zln];omega) (by simp only[zln];omega) fun v2 H2 h2 _=>⟨z01,?_⟩;obtain⟨S3,s3,l3,h3⟩:=h2.freeze;exact⟨ww l3 h3.sh,v2,rfl,s3.le h3.sh⟩
theorem Zac{c:CodeX}(gc:GoodC c)(cv:Value)(S:PH)(hc:SlR S c cv):Tri zP 41 #[.agg #[cv]] S fun e S'=>PH.le S S'∧∃v,e=.returned v∧SlR S' (gsC c) v:=by
 have hcn:=gc.few;have hc0:=hc;obtain⟨cb,cc,rfl⟩:=hc.sl;have hup:∀{i n:Nat},i<n→n≤100000→IntKind.i64.wrap ((i:Int)+1)=((i+1:Nat):Int):=fun h h'=>by rw[w64 om om];rfl
 refine qr zwz [.slice cb c.length cc] ?_;have st:=(Held.nil (wx S)).empty (α:=List UInt8) 9;refine⟨fun n vs K=>∃(i:Nat)(u:Value)(S':PH),i+n=c.length∧vs=[u,nI i]∧PH.le S S'∧Held S' K [orow 9 ((c.take i).foldl gsP []) u],⟨c.length,0,.slice none 0 0,S,om,rfl,wx _,st⟩,?_⟩;rintro n vs K1 _ ⟨i,u1,S1,hin,rfl,l1,h1⟩;obtain⟨ub,uc,hu⟩:=(h1.row (zms)).sl;simp only[cns];refine⟨fun g=>?_,fun g=>?_⟩;rotate_left
 .simp only[wy,zdf]at g;obtain rfl:i=c.length:=om;rw[List.take_length]at h1;obtain⟨S2,s2,l2,h2⟩:=h1.freeze;exact⟨ww l1 (ww l2 h2.sh),u1,rfl,s2.le h2.sh⟩
 simp only[wy,zdt]at g;obtain⟨p,hp⟩:∃p,c[i]?=some p:=⟨_,zge om⟩;have hpm:=zmg hp;have gp:=gc.prc hpm;have gpb:=gp.blocks;have hA:=z6m (m:=16777216) (f:=gsP) (c.take i) [] fun q hq acc=>Zbe (gc.prc (List.mem_of_mem_take hq)) acc;rw[List.length_take,zln]at hA;generalize hacc:(c.take i).foldl gsP []=acc at *;obtain⟨x1,_,cs,x2,x3⟩:=hc0.get hp;obtain⟨bv,rfl,p1,p2,p3,p4⟩:=prc_iff.1 x2;have p40:=p4;obtain⟨pb,pc,rfl⟩:=p4.sl;refine⟨fun _=>⟨x1,by show(0:Int)≤(i:Int);omega,by show(i:Int)<(c.length:Int);omega⟩,[vi p.params,vi p.holds,vi p.regs,.slice pb p.blocks.length pc],rfl,z0v (ww l1 h1.sh) x3,?_⟩;simp only[cns];refine⟨fun m vs K=>∃(j:Nat)(u:Value)(S':PH),j+m=p.blocks.length∧vs=[u,nI j]∧PH.le S S'∧Held S' K [orow 9 ((p.blocks.take j).foldl gsB acc) u],⟨p.blocks.length,0,u1,S1,om,rfl,l1,h1⟩,?_⟩;rintro m vs K2 _ ⟨j,u2,S2,hjm,rfl,l2,h2⟩;obtain⟨ub2,uc2,hu2⟩:=(h2.row (zms)).sl;simp only[cns];refine⟨fun g=>?_,fun g=>?_⟩;rotate_left
 .simp only[wy,zdf]at g;obtain rfl:j=p.blocks.length:=om;rw[List.take_length]at h2;refine⟨_,(z1f dC).trans z00,n-1,om,i+1,u2,S2,om,by simp only[wy,hup (show i<c.length by omega) om],l2,?_⟩;rw[zon hp,hacc];exact h2
 simp only[wy,zdt]at g;obtain⟨b,hb⟩:∃b,p.blocks[j]?=some b:=⟨_,zge om⟩;have hbm:=zmg hb;have gbi:=(gp.ins b hbm).1;have hB:=z6m (m:=4096) (f:=gsB) (p.blocks.take j) acc fun q hq acc=>Zbw (gp.ins q (List.mem_of_mem_take hq)).1 acc;rw[List.length_take]at hB;generalize hacc2:(p.blocks.take j).foldl gsB acc=acc2 at *;obtain⟨y1,_,ycs,y2,y3⟩:=p40.get hb;obtain⟨iv,es,rfl,i1,i2⟩:=blk_iff.1 y2;have i10:=i1;obtain⟨ib,ic,rfl⟩:=i1.sl;obtain⟨av,rfl,e1,e2,e3,e4,e5,e6⟩:=end_iff.1 i2;obtain⟨ab,ac,hav⟩:=e3.sl;refine⟨fun _=>⟨y1,by show(0:Int)≤(j:Int);omega,by show(j:Int)<(p.blocks.length:Int);omega⟩,[.slice ib b.ins.length ic,vi b.e.kind,vi b.e.reg,av,vi b.e.to,vi b.e.next,vi b.e.els],by rw[hav];rfl,z0v (ww l2 h2.sh) y3,?_⟩;simp only[cns];refine⟨fun m vs K=>∃(q:Nat)(u:Value)(S':PH),q+m=b.ins.length∧vs=[u,nI q]∧PH.le S S'∧Held S' K [orow 9 ((b.ins.take q).foldl gsY acc2) u],⟨b.ins.length,0,u2,S2,om,rfl,l2,h2⟩,?_⟩;rintro m3 vs K3 _ ⟨q,u3,S3,hqm,rfl,l3,h3⟩;obtain⟨ub3,uc3,hu3⟩:=(h3.row (zms)).sl;simp only[cns];refine⟨fun g=>?_,fun g=>?_⟩;rotate_left
 .simp only[wy,zdf]at g;obtain rfl:q=b.ins.length:=om;rw[List.take_length]at h3;refine⟨_,(z1f dC).trans z00,m-1,om,j+1,u3,S3,om,by simp only[wy,hup (show j<p.blocks.length by omega) om],l3,?_⟩;rw[zon hb,hacc2];exact h3
 simp only[wy,zdt]at g;obtain⟨y,hy⟩:∃y,b.ins[q]?=some y:=⟨_,zge om⟩;have hC:=z6m (m:=1) (f:=gsY) (b.ins.take q) acc2 fun a _ acc=>Zce a acc;rw[List.length_take]at hC;generalize hacc3:(b.ins.take q).foldl gsY acc2=acc3 at *;obtain⟨z1,_,zcs,z2,z3⟩:=i10.get hy;obtain⟨wv,dv,rfl,q1,q2,q3,q4,q5,q6,q7,q8⟩:=ins_iff.1 z2;obtain⟨wb,wc,hwv⟩:=q3.sl;obtain⟨db,dc,hdv⟩:=q7.sl;refine⟨fun vs K=>∃(u:Value)(S':PH),vs=[u]∧PH.le S S'∧Held S' K [orow 9 (gsY acc3 y) u],?_,fun _=>⟨z1,by show(0:Int)≤(q:Int);omega,by show(q:Int)<(b.ins.length:Int);omega⟩,inV y wv dv,by rw[hwv,hdv];rfl,z0v (ww l3 h3.sh) z3,?_⟩
 .rintro vs K _ ⟨u,S',rfl,l,h⟩;refine⟨_,z00,m3-1,om,q+1,u,S',om,by simp only[wy,hup (show q<b.ins.length by omega) om],l,?_⟩;rw[zon hy,hacc3];exact h
 simp only[inV,cns];refine⟨fun vs K=>vs=[.bool (decide (y.op=constB)&&decide (y.const.kind=4) && !acc3.contains y.const.text)]∧PH.le K3 K,?_,fun g2=>?_,fun g2=>?_⟩;rotate_left
 .simp only[wy,z0m]at g2;simp only[zba,zdt]at g2;refine z03 [.bool (acc3.contains y.const.text)] (qb 83) (zxk acc3 y.const.text u3 K3 ((h3.row (zms)).slR h3.sh)) rfl z01 fun K4 l4=>?_;refine⟨_,z00,?_,l4⟩;rw[qX (show y.op=constB from g2.1),qX g2.2];rfl
 .simp only[wy,z0m]at g2;refine⟨_,z00,?_,wx _⟩;have:(decide (y.op=constB)&&decide (y.const.kind=4))=false:=g2;rw[this];rfl
 rintro vs K4 _ ⟨rfl,k34⟩;simp only[cns];have h4:=h3.le k34;refine⟨fun g2=>?_,fun g2=>?_⟩
 .simp only[wy]at g2;simp only[zba,zdt,qy]at g2;have e1:gsY acc3 y=acc3++[y.const.text]:=by unfold gsY;rw[qj ⟨g2.1.1,g2.1.2,g2.2⟩]
  refine z0t (b:=16) (more:=[y.const.text]) [txt y.const.text] uTxG zzk rfl dC dC h4 kr (.cons (Zis q6) .nil) z01 (fun _=>kr) (fun _=>kr)
   (by simp only[maxLen,zlc,zln];omega) (by simp only[zlc,zln];omega) fun w v5 S5 K5 l5 h5=>⟨z01,?_⟩
  refine⟨_,z00,v5,S5,rfl,ww l3 l5,by rw[e1];exact h5⟩
 .simp only[wy]at g2;have e1:gsY acc3 y=acc3:=by
   unfold gsY;rw[qc];rintro⟨a1,a2,a3⟩;rw[qX a1,qX a2,a3]at g2;cases g2
  exact⟨_,z00,u3,S3,rfl,l3,by rw[e1];exact h4⟩
noncomputable def roomF(p:PrcX):Int:=roomP p (colP p 24).1 ((colP p 24).2-24)
noncomputable def z3q(m:Int)(p:PrcX):Int:=if roomF p>m then roomF p else m
noncomputable def roomC(c:CodeX):Int:=c.foldl z3q 0+2
theorem Zi7{c:CodeX}(gc:GoodC c){p:PrcX}(hp:p∈c)(hpd:Placed p 24 ((colP p 24).2-24) (colP p 24).1):0≤roomF p∧roomF p≤20003002:=by
 have gp:=gc.prc hp;obtain⟨hfit,hfew⟩:=gc.fit hp;have hlo:=hpd.lo;have hhi:=hpd.hi;have:=zvt (f:=fun i=>((z1o p (colP p 24).1 (i:Int)).length:Int)) (fun i=>by
  have h1:(z1o p (colP p 24).1 (i:Int)).length≤(z0y p (i:Int)).length:=List.length_filter_le _ _;have h2:=zq0 hfit (i:Int);omega) p.blocks 0 0 om
 unfold roomF roomP;omega
def PlOk(p:PrcX):Prop:=Placed p 24 ((colP p 24).2-24) (colP p 24).1
theorem zw9(c:CodeX)(cv:Value)(S:PH)(hc:SlR S c cv)(hshort:∀p∈c,∀b∈p.blocks,b.ins.length≤4611686018427387904):Tri zP 14 #[.agg #[cv]] S fun x K=>PH.le S K∧x=.returned (.tuple #[vi (if z1h c=0 then roomC c else 0),vi (z1h c)])∧(z1h c=0→∀p∈c,PlOk p):=by
 have hcv:=Z5x c cv S hc hshort;have hc0:=hc;obtain⟨cb,cc,rfl⟩:=hc.sl;refine qr Z7s [.slice cb c.length cc] ?_;refine z03 [vi (z1h c)] (qb 38) hcv rfl z01 fun K1 l1=>?_;simp only[cns];refine⟨fun g=>?_,fun g=>?_⟩
 .simp only[wy]at g;have g':¬z1h c=0:=by simpa using g
  rw[qc g'];exact⟨l1,rfl,fun h=>absurd h g'⟩
 have hck:z1h c=0:=by
  simp only[wy]at g;simpa using g
 have gc:=zdy hck;have hcn:=gc.few;rw[qj hck,hck];have hup:∀{i n:Nat},i<n→n≤100000→IntKind.i64.wrap ((i:Int)+1)=((i+1:Nat):Int):=fun h h'=>by rw[w64 om om];rfl
 refine⟨fun n vs K=>∃(i:Nat)(m:Int),i+n=c.length∧vs=[vi m,nI i]∧PH.le S K∧m=(c.take i).foldl z3q 0∧(0≤m∧m≤20003002)∧∀q∈c.take i,PlOk q,⟨c.length,0,0,om,rfl,l1,rfl,om,fun q hq=>by simp at hq⟩,?_⟩;rintro n vs K2 _ ⟨i,m,hin,rfl,l2,hm,hmb,hpk⟩;simp only[cns];refine⟨fun g=>?_,fun g=>?_⟩;rotate_left
 .simp only[wy,zdf]at g;obtain rfl:i=c.length:=om;rw[List.take_length]at hm hpk;refine⟨l2,?_,fun _=>hpk⟩;show Ending.returned (.tuple #[vi (IntKind.i64.wrap (m+2)),vi 0])=_;rw[w64 om om,hm];rfl
 simp only[wy,zdt]at g;obtain⟨p,hp⟩:∃p,c[i]?=some p:=⟨_,zge om⟩;have hpm:=zmg hp;have gp:=gc.prc hpm;obtain⟨hfit,hfew⟩:=gc.fit hpm;obtain⟨x1,_,cs,x2,x3⟩:=hc0.get hp;obtain⟨bv,rfl,p1,p2,p3,p4⟩:=prc_iff.1 x2;have p40:=p4;obtain⟨pb,pc,rfl⟩:=p4.sl;refine⟨fun _=>⟨x1,by show(0:Int)≤(i:Int);omega,by show(i:Int)<(c.length:Int);omega⟩,[vi p.params,vi p.holds,vi p.regs,.slice pb p.blocks.length pc],rfl,z0v l2 x3,?_⟩;simp only[cns];refine z02 (qb 39) (zsw p (.slice pb p.blocks.length pc) K2 K2 [] (Held.nil (wx K2)) (p40.le l2) hfit hfew (zvi gp)) ?_;rintro _ K3 ⟨S3,rf,pl,pv,n3,rfl,l3,hpl,hpd,hq1,hq2,hh⟩;refine⟨_,[pAt rf],rfl,rfl,rfl,z01,?_⟩;simp only[cns];have hlo:=hpd.lo;have hhi:=hpd.hi;have hplen:pl.length=p.regs.toNat:=hpd.len;have hregs:=gp.regs;have hrb:=Zi7 gc hpm (by rw[←hq2,←hq1];exact hpd);have hrE:roomP p pl n3=roomF p:=by unfold roomF;rw[←hq2,←hq1]
 refine z02 (qb 40) (Z2k (gp:=.pointer none) (p:=p) (pv:=pv) (lv:=.slice none 0 0) (place:=pl) (slots:=n3) (pushed:=0) (rf:=rf) hh (zms) (p40.le (ww l2 l3)) hpl hfit hfew (fun b r hr=>?_) om) ?_
 .have:r∈p.regl:=by
   unfold z0y at hr;split at hr
   .split at hr
    .exact z51 (liveL_mem.1 (zmf.1 hr).1)
    .cases hr
   .cases hr
  have:=zou gp r this;omega
 rintro _ K4 ⟨rfl,S4,l4,h4⟩;refine⟨_,[vi (roomP p pl n3)],rfl,rfl,rfl,z01,?_⟩;refine⟨_,z00,n-1,om,i+1,z3q m p,om,?_,ww l2 (ww l3 (ww l4 h4.sh)),?_,?_,fun q hq=>?_⟩
 .rw[hrE];simp only[wy,hup (show i<c.length by omega) om];unfold z3q;by_cases hc':roomF p>m
  .simp[hc']
  .simp[hc']
 .rw[q9,hp,List.foldl_append,←hm];rfl
 .unfold z3q;split<;>omega
 .rw[q9,hp]at hq;rcases zma.1 hq with hq|hq
  .exact hpk q hq
  .obtain rfl:q=p:=by simpa using hq
   unfold PlOk;rw[←hq2,←hq1];exact hpd
noncomputable def genF(ents:List Int)(syms:List (List UInt8))(stack:Int):Nat→Int→List ItemR→List PrcX→Option (List ItemR)
 |_,_,l,[]=>some l
 |i,nx,l,p::ps=>
  if 64536<(l++(fxP p ents syms stack nx).funL (ents.getD i 0) (nx+p.blocks.length)).length then none
  else genF ents syms stack (i+1) ((fxP p ents syms stack nx).funN (nx+p.blocks.length)) (l++(fxP p ents syms stack nx).funL (ents.getD i 0) (nx+p.blocks.length)) ps
def entA(j:Nat):Int:=if j=0 then 10 else 10000+(j:Int)
def entsC(c:CodeX):List Int:=(List.range c.length).map entA
noncomputable def genC(c:CodeX)(stack:Int):Int ⊕ List ItemR:=
 if z1h c≠0 then .inl (z1h c)
 else if stack<roomC c∨131072<stack then .inl 250
 else match genF (entsC c) (gsC c) stack 0 (10000+(c.length:Int)) [] c with
  |none=>.inl 151
  |some l=>.inr l
def GenAt(r:Int ⊕ List ItemR)(syms:List (List UInt8))(x:Ending)(K:PH):Prop:=
 match r with
 | .inl n=>x=.returned (.tuple #[.slice none 0 0,.slice none 0 0,.int .i64 n])
 | .inr l=>∃v sv,x=.returned (.tuple #[v,sv,.int .i64 0])∧SlR K l v∧SlR K syms sv∧l.length≤64536
def costC(l:List PrcX):Nat:=(l.map costP).sum
theorem zx9(p:PrcX)(l:List PrcX):costC (p::l)=costP p+costC l:=by unfold costC;rw[wa,List.sum_cons]
theorem Zjd(p:PrcX):costP p≤30000+60000*p.many:=by
 have:∀l:List BlkX,z4g l≤30000*(l.map BlkX.many).sum:=by
  intro l
  induction l with
  |nil=>exact we _
  |cons b l ih=>
   rw[zu3,wa,List.sum_cons];have h1:costB b=30000+3000*b.ins.length:=rfl;have h2:b.many=1+b.ins.length:=rfl;omega
 have h1:=this p.blocks;have h2:costP p=30000+2*z4g p.blocks:=rfl;have h3:p.many=(p.blocks.map BlkX.many).sum:=rfl;omega
theorem Zjl(l:List PrcX):costC l≤30000*l.length+60000*(l.map PrcX.many).sum:=by
 induction l with
 |nil=>exact we _
 |cons p l ih=>
  have:=Zjd p;rw[zx9,wa,List.sum_cons,zlc];omega
theorem GeH.items{S0 K:PH}{rg:Nat}{sv env:Value}{nx stack:Int}{l:List ItemR}{k:Nat}{J:List Itm}(h:GeH S0 K rg sv env nx stack l k J):∃iv,(∀off n,rowAt K (some ⟨rg,off,none⟩) ((([iv,sv,env,vi nx,vi stack]:List Value).drop off).take n))∧SlR K l iv∧PH.le S0 K:=by
 obtain⟨⟨_,S,iv,hS,hh⟩,_,_⟩:=h;exact⟨iv,fun off n=>z0r hh (zms) off n,(hh.row (e:=131) (l:=l) (v:=iv) sM).slR hh.sh,ww hS hh.sh⟩
theorem Zby{v:Int}(h:-1152921504606846976≤v∧v≤1152921504606846975):z2b (.mk 1 v [] [])=true:=by
 have hf:z78 (.mk 1 v [] [])=true:=by
  unfold z78;rw[qc (by show ¬(1:Int)=0;decide),qj (by rfl)];show(decide (([]:List UInt8)=[])&&true&&decide (-1152921504606846976≤v)&&decide (v<1152921504606846976))=true;rw[qX h.1,qX (show v<1152921504606846976 by omega)];rfl
 unfold z2b;rw[Dat.chk_eq,qc dC,qc (by show ¬(z3t 1=true∧_);simp[z3t]),qc (by rw[hf];decide)];rfl
section
variable {vs:List Int}{call:Bool}
theorem zp2{l:List Int}(h:∀r∈l,0≤r∧r<(vs.length:Int)+2):z0a (mmP vs call) l=true:=by
 unfold z0a;rw[zat];intro r hr;exact qX (h r hr)
theorem Z5c{to v:Int}(ht:0≤to∧to<(vs.length:Int)+2)(hv:-1152921504606846976≤v∧v≤1152921504606846975):insOk (z1x vs call) (mmP vs call) (mmK to v)=true:=by
 unfold insOk;have h1:z0a (mmP vs call) (mmK to v).args=true:=rfl;have h2:z0a (mmP vs call) [(mmK to v).to]=true:=zp2 fun r hr=>by rw[zsi.1 hr];exact ht
 rw[h1,h2,qc sM,qj rfl];show(decide ((0:Nat)=0)&&decide ((0:Int)=0)&&z2b (.mk 1 v [] []))=true;rw[Zby hv];rfl
theorem g_ins(hk:0<vs.length)(h50:vs.length≤50)(hv:∀v∈vs,-100000<v∧v<100000):∀b∈(mmP vs call).blocks,(b.ins.all (insOk (z1x vs call) (mmP vs call))&&finOk (mmP vs call) b.e)=true:=by
 have hk1:∀r:Int,z0a (mmP vs call) [r]=decide (0≤r∧r<(vs.length:Int)+2):=fun r=>by
  show(decide (0≤r∧r<(vs.length:Int)+2)&&true)=_;rw[Bool.and_true]
 intro b hb;rw[zba,zat];rcases zmc.1 hb with rfl|hb
 .refine⟨fun y hy=>?_,?_⟩
  .have hy:y∈mmB0 vs call:=hy;unfold mmB0 at hy;rcases zma.1 hy with hy|hy
   .obtain⟨i,v,hi,rfl⟩:=zw1 hy;have:=(zgi.1 hi).1;have:=hv v (zmg hi);exact Z5c om om
   .cases call with
    |false=>simp at hy
    |true=>
     rw[qj rfl,zsi]at hy;subst hy;unfold insOk;have h2:z0a (mmP vs true) [(vs.length:Int)]=true:=zp2 fun r hr=>by rw[zsi.1 hr];omega
     rw[show(mmY cloB (vs.length:Int) [] 1).args=[]from rfl,show(mmY cloB (vs.length:Int) [] 1).to=(vs.length:Int)from rfl,show z0a (mmP vs true) []=true from rfl,h2,qc sM];rw[qc (by show cloB≠constB;decide),qc (by show cloB≠movB;decide),qc (by show cloB≠hldB;decide),qj rfl];exact(show(decide (1≤(1:Int))&&decide ((1:Int)<((z1x vs true).length:Int))&&decide (((0:Nat):Int)=(prcAt (z1x vs true) 1).holds)&&z4o (.mk 0 0 [] []))=true from by kernel_rfl)
  .show finOk (mmP vs call) (mmE0 vs.length call)=true;cases call with
   |false=>rfl
   |true=>
    simp[finOk,mmE0,z0a,mmP];omega
 .rw[zsi.1 hb];refine⟨fun y hy=>?_,?_⟩
  .have hy:y∈mmB1 vs.length:=hy;unfold mmB1 at hy;rcases zmc.1 hy with rfl|hy
   .exact Z5c om dC
   obtain⟨i,hi,hy⟩:=List.mem_flatMap.1 hy;have hi:=wg.1 hi;simp only[mmR,zmc,List.not_mem_nil,or_false]at hy;rcases hy with rfl|rfl|rfl
   .exact Z5c om om
   .unfold insOk;rw [show (mmY [42] ((vs.length:Int)+1) [(vs.length:Int)+1,(i:Int)] 0).args=[(vs.length:Int)+1,(i:Int)] from rfl,zp2 (l:=[(vs.length:Int)+1,(i:Int)]) (fun r hr=>by
     simp only[zmc,List.not_mem_nil,or_false]at hr;omega),show(mmY [42] ((vs.length:Int)+1) [(vs.length:Int)+1,(i:Int)] 0).to=(vs.length:Int)+1 from rfl,hk1,qX om,qc sM]
    rfl
   .unfold insOk;rw [show (mmY [43] (vs.length:Int) [(vs.length:Int),(vs.length:Int)+1] 0).args=[(vs.length:Int),(vs.length:Int)+1] from rfl,zp2 (l:=[(vs.length:Int),(vs.length:Int)+1]) (fun r hr=>by
     simp only[zmc,List.not_mem_nil,or_false]at hr;omega),show(mmY [43] (vs.length:Int) [(vs.length:Int),(vs.length:Int)+1] 0).to=(vs.length:Int)from rfl,hk1,qX om,qc sM]
    rfl
  .show finOk (mmP vs call) (mmE1 vs.length)=true;simp[finOk,mmE1,z0a,mmP];omega
theorem zzj(hk:0<vs.length)(h50:vs.length≤50)(hv:∀v∈vs,-100000<v∧v<100000):z1h (z1x vs call)=0:=by
 have hB0:(mmB0 vs call).length≤51:=by
  unfold mmB0;rw[zla,zd8];cases call<;>simp<;>omega
 have hB1:(mmB1 vs.length).length≤151:=by
  unfold mmB1;rw[zlc,List.length_flatMap,show(List.map (fun a=>(mmR vs.length a).length) (List.range vs.length))=(List.range vs.length).map fun _=>3 from rfl];rw[List.map_const',wh];simp;omega
 have hm:z2p (z1x vs call)=false:=by
  unfold z2p z1x;have h1:manyC [mmP vs call,mmI]≤4096:=by
   show(1+(mmB0 vs call).length)+((1+(mmB1 vs.length).length)+0)+(mmI.many+0)≤4096;have:mmI.many=30:=dC;omega
  rw[qY (by omega:¬4096<manyC [mmP vs call,mmI])];have h2:decide (2000<(mmP vs call).regs)=false:=qY (by show ¬2000<(vs.length:Int)+2;omega);simp[h2,mmI]
 have hI:prcOk (z1x vs call) mmI=true:=kr;have hP:prcOk (z1x vs call) (mmP vs call)=true:=by
  unfold prcOk;rw[zat.2 (g_ins (call:=call) hk h50 hv)];have:decide ((mmP vs call).params≤(mmP vs call).regs)=true:=qX (by show(0:Int)≤(vs.length:Int)+2;omega);rw[this];rfl
 unfold z1h;rw[qc (by rw[hm];decide)];show(if(decide ((mmP vs call).params=0)&&decide ((mmP vs call).holds=0)&&([mmP vs call,mmI].all (prcOk (z1x vs call))))=true then(0:Int)else 150)=0;rw[qj];simp only[List.all_cons,List.all_nil,hI,hP];rfl
theorem g_may(hk:0<vs.length)(h50:vs.length≤50)(hv:∀v∈vs,-100000<v∧v<100000):mayP (mmP vs call)=true:=
 zvi ((zdy (zzj (call:=call) hk h50 hv)).prc (zms))
theorem Zjh(hk:0<vs.length):liveL (mmP vs call) 1 0=(List.range vs.length).map fun i:Nat=>(i:Int):=by
 refine zd6 (z93 _ 1 0) ?_ fun x=>?_
 .rw[List.pairwise_map];exact List.pairwise_lt_range.imp fun h=>om
 .rw[liveL_mem,zld hk,zmp];exact⟨fun⟨i,hi,e⟩=>⟨i,wg.2 hi,e.symm⟩,fun⟨i,hi,e⟩=>⟨i,wg.1 hi,e.symm⟩⟩
theorem Zi4(hk:0<vs.length):z0y (mmP vs call) 0=if call=true then(List.range vs.length).map fun i:Nat=>(i:Int)else[]:=by
 unfold z0y;show(if BlkX.crosses ⟨mmB0 vs call,mmE0 vs.length call⟩ 2 then(liveL (mmP vs call) (mmE0 vs.length call).next.toNat 0).filter (fun x=>decide (x≠(mmE0 vs.length call).to))else([]:List Int))=_;cases call with
 |false=>
  rw[qc,qc dC];rintro⟨h,_⟩;simp[mmE0,EndX.calls]at h
 |true=>
  rw[qj ⟨rfl,by show(0:Int)≤1;decide,by show(1:Int)<2;decide⟩,qj rfl,show(mmE0 vs.length true).next.toNat=1 from rfl,Zjh hk,List.filter_eq_self];intro a ha;obtain⟨i,hi,rfl⟩:=zmp.1 ha;have:=wg.1 hi;have:(i:Int)≠(vs.length:Int):=om;exact qX this
def degK(R:Nat)(g:List Int)(u:Int):Int:=if 0≤u∧u<(R:Int)then(((List.range R).filter fun d:Nat=>decide (u≠(d:Int))&&decide ((d:Int)∉g)).length:Int)else 0
def tkK(R:Nat)(pl:List Int)(r x:Int):Bool:=decide (0≤r∧r<(R:Int))&&(List.range R).any fun q:Nat=>decide (r≠(q:Int))&&decide (plAt pl q=x)
theorem ztb(hk:0<vs.length)(h50:vs.length≤50)(hv:∀v∈vs,-100000<v∧v<100000){u:Int}{d:Nat}(hd:d<vs.length+2)(hne:u≠(d:Int)):MeetP (mmP vs call) u d↔0≤u∧u<((vs.length+2:Nat):Int):=by
 constructor
 .intro h;have:=Zav (g_may hk h50 hv) h;have e:(mmP vs call).regs=(vs.length:Int)+2:=rfl;omega
 .rintro⟨h0,h1⟩;obtain⟨a,rfl⟩:∃a:Nat,u=a:=⟨u.toNat,om⟩;rcases Nat.lt_or_gt_of_ne (fun e=>hne (by rw[e]):a≠d)with h|h
  .exact Z1n (Zfb hk h hd)
  .exact Zfb hk h om
theorem g_col(hk:0<vs.length)(h50:vs.length≤50)(hv:∀v∈vs,-100000<v∧v<100000):colP (mmP vs call) 24=colG (degK (vs.length+2)) (tkK (vs.length+2)) (vs.length+2) 24:=by
 have hR:(mmP vs call).regs.toNat=vs.length+2:=by show((vs.length:Int)+2).toNat=_;omega
 classical
 have e1:degP (mmP vs call)=degK (vs.length+2):=by
  funext g u
  unfold degP degK;rw[hR];by_cases h:0≤u∧u<((vs.length+2:Nat):Int)
  .rw[qj h];refine congrArg (fun l:List Nat=>(l.length:Int)) (List.filter_congr fun d hd=>?_);have hd:=wg.1 hd;rw[Bool.eq_iff_iff];simp only[zba,zdt];exact and_congr ⟨fun h2=>h2.1,fun h2=>⟨h2,(ztb hk h50 hv hd h2).2 h⟩⟩ Iff.rfl
  .rw[qc h];have:((List.range (vs.length+2)).filter fun d:Nat=>decide (u≠d∧MeetP (mmP vs call) u d)&&decide ((d:Int)∉g))=[]:=by
    rw[List.filter_eq_nil_iff];intro d hd h2;simp only[zba,zdt]at h2;exact h ((ztb hk h50 hv (wg.1 hd) h2.1.1).1 h2.1.2)
   rw[this];rfl
 have e2:tkP (mmP vs call)=tkK (vs.length+2):=by
  funext pl r x
  unfold tkP tkK;rw[hR,Bool.eq_iff_iff];simp only[wl,zba,zdt];constructor
  .rintro⟨q,hq,⟨h1,h2⟩,h3⟩;exact⟨(ztb hk h50 hv (wg.1 hq) h1).1 h2,q,hq,h1,h3⟩
  .rintro⟨h0,q,hq,h1,h3⟩;exact⟨q,hq,⟨h1,(ztb hk h50 hv (wg.1 hq) h1).2 h0⟩,h3⟩
 unfold colP;rw[e1,e2,hR]
end
def plcK(R:Nat):List Int:=(List.range R).map fun r:Nat=>(R:Int)-1-r
def upK(j:Nat):List Int:=(List.range j).map fun i:Nat=>(i:Int)
theorem mem_upK{j:Nat}{d:Nat}:(d:Int)∈upK j↔d<j:=by
 unfold upK;rw[zmp];exact⟨fun⟨i,hi,e⟩=>by have:=wg.1 hi;omega,fun h=>⟨d,wg.2 h,rfl⟩⟩
theorem Z7b(j:Nat):upK (j+1)=upK j++[(j:Int)]:=by unfold upK;rw[List.range_succ,List.map_append];rfl
theorem cntK{j u:Nat}(h:j≤u):∀n:Nat,((List.range n).filter fun d:Nat=>decide ((u:Int)≠(d:Int))&&decide ((d:Int)∉upK j)).length=(n-j)-(if u<n then 1 else 0)
 |0=>sM
 |n+1=>by
  have hp:(decide ((u:Int)≠(n:Int))&&decide ((n:Int)∉upK j))=decide (u≠n∧¬n<j):=by
   rw[Bool.eq_iff_iff];simp only[zba,zdt,mem_upK];omega
  have hs:((List.filter (fun d:Nat=>decide ((u:Int)≠(d:Int))&&decide ((d:Int)∉upK j)) [n])).length=if u≠n∧¬n<j then 1 else 0:=by
   rw[qM,hp,List.filter_nil];by_cases e:u≠n∧¬n<j
   .rw[qj (qX e),qj e];rfl
   .rw[qc (by rw[qY e];decide),qc e];rfl
  rw[List.range_succ,List.filter_append,zla,cntK h n,hs];split<;>split<;>split<;>omega
theorem Zat{R j u:Nat}(h:j≤u)(hu:u<R):degK R (upK j) (u:Int)=((R-j-1:Nat):Int):=by
 unfold degK;rw[qj om,cntK h R,qj hu]
theorem Z4o{deg:Int→Int}{gone:Int→Bool}{best:Int}(hb:0≤best):∀(l:List Nat),(∀r∈l,gone (r:Int)=false∧deg (r:Int)=deg best∧¬deg best<24)→seekG deg gone 24 l best=best
 | [],_=>rfl
 |r::l,h=>by
  obtain⟨h1,h2,h3⟩:=h r (zms);rw[seekG,qc (by rw[h1];decide),qc (by rw[h2];exact h3),qc om];exact Z4o hb l fun r hr=>h r (zmm _ hr)
theorem Z1w{deg:Int→Int}{gone:Int→Bool}{best:Int}:∀(a b:List Nat),(∀r∈a,gone (r:Int)=true)→seekG deg gone 24 (a++b) best=seekG deg gone 24 b best
 | [],_,_=>rfl
 |r::a,b,h=>by
  rw[List.cons_append,seekG,qj (h r (zms))];exact Z1w a b fun r hr=>h r (zmm _ hr)
theorem Zl1{R j:Nat}(h:j<R):seekG (degK R (upK j)) (fun r=>decide (r∈upK j)) 24 (List.range R) (-1)=(j:Int):=by
 rw[z7c h,Z1w _ _ fun r hr=>qX (mem_upK.2 (wg.1 hr)),seekG,qc (by rw[zdt,mem_upK];omega)];by_cases hd:degK R (upK j) (j:Int)<24
 .rw[qj hd]
 .rw[qc hd,qj (.inl dC)];refine Z4o om _ fun r hr=>?_;have hr2:j<r∧r<R:=by
   obtain⟨n,hn⟩:=qJ hr;rw[List.getElem?_drop]at hn;obtain⟨h1,h2⟩:=zgi.1 hn;rw[wh]at h1;rw[List.getElem_range]at h2;omega
  refine⟨qY fun h=>by have:=mem_upK.1 h;omega,?_,hd⟩;rw[Zat om hr2.2,Zat (we _) h]
theorem Zg9{R:Nat}:∀(n j:Nat),j+n≤R→ordG (degK R) R 24 n (upK j)=upK (j+n)
 |0,_,_=>rfl
 |n+1,j,h=>by
  rw[ordG,Zl1 om,←Z7b,Zg9 n (j+1) om,show j+1+n=j+(n+1) by omega]
def plN(R n:Nat):List Int:=(List.range R).map fun r:Nat=>if n≤r then(R:Int)-1-r else -1
theorem Zg0{R n q:Nat}(h:q<R):plAt (plN R n) (q:Int)=if n≤q then(R:Int)-1-q else -1:=by
 unfold plAt plN;simp[zgd,h]
theorem Zhk{R n x:Nat}(h:n<R):tkK R (plN R (n+1)) (n:Int) (x:Int)=decide (x<R-1-n):=by
 unfold tkK;rw[qX om,Bool.true_and,Bool.eq_iff_iff,wl,zdt];constructor
 .rintro⟨q,hq,h2⟩;have hq:=wg.1 hq;rw[Zg0 hq,zba,zdt,zdt]at h2;obtain⟨h3,h4⟩:=h2;split at h4<;>omega
 .intro hx;refine⟨R-1-x,wg.2 om,?_⟩;rw[Zg0 om,zba,zdt,zdt,qj om];omega
theorem Zks{R n:Nat}(h:n<R):(plN R (n+1)).set n ((R-1-n:Nat):Int)=plN R n:=by
 unfold plN;refine List.ext_getElem sM fun i h1 h2=>?_;have hi:i<R:=by simpa using h2
 rw[List.getElem_set];simp only[List.getElem_map,List.getElem_range];by_cases e:n=i
 .subst e;rw[qj rfl,qj (we _)];omega
 .rw[qc e];by_cases g:n≤i
  .rw[qj om,qj g]
  .rw[qc om,qc g]
def mostN(m:Nat):Int:=if m≤24 then 24 else(m:Int)
theorem Zi1{R:Nat}:∀n:Nat,n≤R→(upK n).reverse.foldl (putG (tkK R) (R+1)) (plN R n,mostN (R-n))=(plN R 0,mostN R)
 |0,_=>rfl
 |n+1,h=>by
  rw[Z7b,List.reverse_append,List.reverse_singleton,List.singleton_append,List.foldl_cons];have hl:zek (tkK R (plN R (n+1)) (n:Int)) (R+1) 0=R-1-n:=
   zsr (fun x _ hx=>by rw[Zhk om];exact qX hx) (by rw[Zhk om];exact qY om) (Nat.zero_le _) om
  have:putG (tkK R) (R+1) (plN R (n+1),mostN (R-(n+1))) (n:Int)=(plN R n,mostN (R-n)):=by
   unfold putG;simp only[hl,qN];rw[Zks om];refine congrArg (Prod.mk _) ?_;unfold mostN;split<;>split<;>(try split)<;>omega
  rw[this];exact Zi1 n om
theorem Zc3(R:Nat):colG (degK R) (tkK R) R 24=(plcK R,mostN R):=by
 unfold colG;have h0:=Zg9 (R:=R) R 0 om;rw[wo]at h0;have h1:List.replicate R (-1:Int)=plN R R:=by
  unfold plN;refine List.ext_getElem sM fun i a b=>?_;have hi:i<R:=by simpa using a
  simp only[List.getElem_replicate,List.getElem_map,List.getElem_range];rw[qc om]
 have h2:(24:Int)=mostN (R-R):=by rw[Nat.sub_self];rfl
 rw[show([]:List Int)=upK 0 from rfl,h0,h1];have h3:=Zi1 (R:=R) R (we _);rw[←h2]at h3;rw[h3];refine congrArg (fun l=>(l,mostN R)) ?_;unfold plN plcK;exact qO fun r _=>by rw[qj (Nat.zero_le _)]
theorem Zfh(i:Nat):(List.range (i+1)).map entA=(List.range i).map entA++[entA i]:=zrl entA i
theorem Z03(c:CodeX)(cv:Value)(stack:Int)(S:PH)(hc:SlR S c cv)(hshort:∀p∈c,∀b∈p.blocks,b.ins.length≤4611686018427387904)(hpr:InI stack):Tri zP 15 #[.agg #[cv],vi stack] S fun x K'=>PH.le S K'∧GenAt (genC c stack) (gsC c) x K'∧(z1h c=0→∀p∈c,PlOk p):=by
 have hrm:=zw9 c cv S hc hshort;have hc0:=hc;obtain⟨cb,cc,rfl⟩:=hc.sl;have hup:∀{i n:Nat},i<n→n≤100000→IntKind.i64.wrap ((i:Int)+1)=((i+1:Nat):Int):=fun h h'=>by rw[w64 om om];rfl
 refine qr Z8p [.slice cb c.length cc,vi stack] ?_;refine z02 (qb 14) hrm ?_;rintro _ K1 ⟨l1,rfl,hpk⟩;refine⟨_,[vi (if z1h c=0 then roomC c else 0),vi (z1h c)],rfl,rfl,rfl,z01,?_⟩;simp only[cns];refine⟨fun g=>?_,fun g=>?_⟩
 .simp only[wy]at g;have g':z1h c≠0:=by simpa using g
  refine⟨l1,?_,hpk⟩;unfold genC;rw[qj g'];rfl
 have hck:z1h c=0:=by
  simp only[wy]at g;simpa using g
 have gc:=zdy hck;have hcn:=gc.few;rw[qj hck];refine⟨fun g=>?_,fun g=>?_⟩
 .simp only[wy]at g;simp only[qu,zdt]at g;refine⟨l1,?_,hpk⟩;unfold genC;rw[qc om,qj om];rfl
 simp only[wy]at g;simp only[zof,zdf]at g;have hgC:genC c stack=match genF (entsC c) (gsC c) stack 0 (10000+(c.length:Int)) [] c with
  |none=>.inl 151
  |some l=>.inr l:=by
  unfold genC;rw[qc om,qc om]
  try (generalize genF _ _ _ _ _ _ _=o;cases o<;>rfl)
 have hst:0≤stack∧stack≤131072:=by
  refine⟨?_,om⟩;have h1:(0:Int)≤c.foldl z3q 0:=by
   have:∀(l:List PrcX)(m:Int),0≤m→0≤l.foldl z3q m:=by
    intro l
    induction l with
    |nil=>intro m h;exact h
    |cons p l ih=>
     intro m h;rw[List.foldl_cons];refine ih _ ?_;unfold z3q;split<;>omega
   exact this c 0 om
  have h2:roomC c=c.foldl z3q 0+2:=rfl;omega
 refine z02 (qb 41) (Zac gc (.slice cb c.length cc) K1 (hc0.le l1)) ?_;rintro _ K2 ⟨l2,sv,rfl,hsv⟩;have hsv0:=hsv;obtain⟨sb,sc,rfl⟩:=hsv.sl;refine⟨_,[.slice sb (gsC c).length sc],rfl,rfl,rfl,z01,?_⟩;simp only[cns];have l02:=ww l1 l2;obtain⟨svv,hsvv⟩:∃sv,sv=Value.slice sb (gsC c).length sc:=⟨_,rfl⟩;rw[←hsvv]at hsv0;refine z31 (vs:=[.slice none 0 0,svv,.slice none 0 0,vi 10000,vi stack]) (Held.nil (wx K2)) (by rw[hsvv];kernel_rfl) fun rg K3 _ h3=>?_;simp only[cns];have h3a:Held K2 K3 [bx rg 100 [.slice none 0 0,svv,.slice none 0 0,vi 10000,vi stack],orow 131 ([]:List ItemR) (.slice none 0 0),orow 3 ([]:List Int) (.slice none 0 0)]:=
  ((h3.empty (α:=Int) 3).empty (α:=ItemR) 131).perm (List.perm_append_comm (l₁:=[_,_]) (l₂:=[_]))
 refine ⟨fun n vs K=>∃(i:Nat) (env iv:Value) (S2:PH),i+n=c.length∧vs=[nI i]∧PH.le K2 S2∧Held S2 K [bx rg 100 [iv,svv,env,vi (10000+i),vi stack],orow 131 ([]:List ItemR) iv,orow 3 ((List.range i).map entA) env],
  ⟨c.length,0,.slice none 0 0,.slice none 0 0,K2,om,rfl,wx _,by rw[show((10000:Int)+((0:Nat):Int))=10000 by decide];exact h3a⟩,?_⟩
 rintro n vs K _ ⟨i,env,iv,S2,hin,rfl,l3,h4⟩;have her:=h4.row (e:=3) (l:=(List.range i).map entA) (v:=env) sM;obtain⟨eb,ec,hev⟩:=her.sl;simp only[cns];refine⟨fun g=>?_,fun g=>?_⟩
 .simp only[wy,zdt]at g;refine⟨fun vs K=>∃(env iv:Value)(S2:PH),vs=[]∧PH.le K2 S2∧Held S2 K [bx rg 100 [iv,svv,env,vi (10000+i+1),vi stack],orow 131 ([]:List ItemR) iv,orow 3 ((List.range (i+1)).map entA) env],?_,fun _=>rfl,[env],by rw[hev];rfl,z0r h4 (zms) 2 1,?_⟩
  .rintro vs K5 _ ⟨ev5,iv5,S5,rfl,l5,h5⟩;refine⟨_,z00,n-1,om,i+1,ev5,iv5,S5,om,by simp only[wy,hup (show i<c.length by omega) om],l5,?_⟩;rw[show(10000:Int)+((i+1:Nat):Int)=10000+i+1 by omega];exact h5
  simp only[cns];have hem:EmH S2 K rg 100 [svv,env,vi (10000+i),vi stack] [] 100 [orow 3 ((List.range i).map entA) env]:=⟨sM,S2,_,wx _,h4⟩;refine z02 (qb 42) (Z81 hem om om) ?_;rintro _ K4 ⟨rfl,_,S4,iv4,l4,h5⟩;refine⟨_,[vi (10000+i)],rfl,rfl,rfl,z0w (z0r h5 (zms) 2 1) z01,?_⟩;simp only[cns];have h6:=h5.perm (List.perm_append_comm (l₁:=[_,_]) (l₂:=[_]));refine z0t (b:=8) (more:=[(10000+i:Int)]) [vi (10000+i)] z0g z0e rfl dC dC h6 kr (.cons (z09 (inJ om om)) .nil) (z0w (z0r h5 (zms) 2 1) z01) (fun w=>kr) (fun w=>kr)
   (by simp only[zlm,wh,maxLen,zlc,zln];omega) (by simp only[zlm,wh,zlc,zln];omega) fun w7 v7 S7 K7 l7 h7=>⟨z01,?_⟩
  simp only[cns];obtain⟨b7,c7,hv7⟩:=(h7.row (e:=3) (zms)).sl;refine z06 (T:=100) (off:=2) (vs:=[v7]) rfl (h7.perm (qq _ _ _)) (by simp only[wy]) (by intro u hu;rw[zsi.1 hu,hv7];rfl) sM fun K8 h8=>?_;have l27:=ww l3 (ww l4 l7);refine⟨fun g2=>?_,fun g2=>?_⟩
  .have hi0:i=0:=by
    simp only[wy,zdt]at g2;omega
   subst hi0;have h8r:=(h8.row (e:=3) (l:=(List.range 0).map entA++[(10000+(0:Nat):Int)]) (v:=v7) sM);obtain⟨z1,_⟩:=(h8r.slR h8.sh).get (i:=0) rfl;refine⟨[v7],by rw[hv7];rfl,z0r h8 (zms) 2 1,fun _=>?_,?_⟩
   .simp only[Chk.holds,wy,slLen];rw[hv7]at z1⊢;exact⟨z1,om,sM⟩
   simp only[cns];refine z1i (i:=0) (a:=(10000+(0:Nat):Int)) (a':=(10:Int)) (us:=[vi 10]) (by simp only[wy];rfl) (h8.perm (qq _ _ _)) rfl rfl (by simp only[wy]) (by simp[oneC]) (z09 dC) fun K9 h9=>?_;exact⟨_,z00,v7,iv4,S7,rfl,l27,h9.perm (by exact(qq _ _ _).trans (List.Perm.cons _ (qq _ _ _)))⟩
  .have hi0:i≠0:=by
    simp only[wy,zdf]at g2;omega
   refine⟨_,z00,v7,iv4,S7,rfl,l27,?_⟩;have e1:entA i=10000+(i:Int):=by unfold entA;rw[qc hi0]
   rw[Zfh,e1];exact h8.perm (List.Perm.cons _ (qq _ _ _))
 simp only[wy,zdf]at g;obtain rfl:i=c.length:=om;obtain⟨S5,s5,l5,h5⟩:=(h4.perm (List.perm_append_comm (l₁:=[_,_]) (l₂:=[_]))).freeze;have l25:=ww l3 l5;have l05:=ww l02 l25;have s5':SlR S5 (entsC c) env:=s5;have s50:=s5';obtain⟨eb,ec,hevE⟩:=s5'.sl;have hel:(entsC c).length=c.length:=by unfold entsC;simp
 have hcost:=Zjl c;have hmany:=gc.many;have hmE:manyC c=(c.map PrcX.many).sum:=rfl;have hem:GeH S5 K rg svv env (10000+c.length) stack [] (1000000+costC c) []:=⟨⟨by rw[zln];omega,S5,iv,wx _,h5⟩,om,om⟩;refine⟨fun n vs K=>∃(i:Nat)(nx':Int)(l':List ItemR),i+n=c.length∧vs=[.slice none 0 0,.slice none 0 0,vi 0,nI i]∧GeH S5 K rg svv env nx' stack l' (1000000+costC (c.drop i)) []∧l'.length≤64536∧genF (entsC c) (gsC c) stack i nx' l' (c.drop i)=genF (entsC c) (gsC c) stack 0 (10000+(c.length:Int)) [] c,⟨c.length,0,_,_,om,rfl,hem,sM,rfl⟩,?_⟩;clear hem h4 h5;rintro n vs K6 _ ⟨i,nx6,l6,hin6,rfl,h6,hl6,hF6⟩;simp only[cns];refine⟨fun g=>?_,fun g=>?_⟩
 .simp only[wy,zdt]at g;obtain⟨p,hp⟩:∃p,c[i]?=some p:=⟨_,zge om⟩;have hpm:=zmg hp;have hdr:c.drop i=p::c.drop (i+1):=by
   rw[←List.getElem_cons_drop (zgi.1 hp).1,(zgi.1 hp).2]
  rw[hdr,zx9]at h6;rw[hdr,genF]at hF6;obtain⟨x1,_,cs,x2,x3⟩:=(hc0.le l05).get hp;obtain⟨bv,rfl,p1,p2,p3,p4⟩:=prc_iff.1 x2;have p40:=p4;obtain⟨pb,pc,rfl⟩:=p4.sl;have hent:(entsC c)[i]?=some ((entsC c).getD i 0):=by rw[zgd,zge om];rfl
  obtain⟨ei,eq,ed⟩:=z3s s50 i _ hent;obtain⟨iv6,hr6,hs6,sh6⟩:=h6.items;refine⟨fun _=>⟨x1,by show(0:Int)≤(i:Int);omega,by show(i:Int)<(c.length:Int);omega⟩,[vi p.params,vi p.holds,vi p.regs,.slice pb p.blocks.length pc],rfl,z0v sh6 x3,fun _=>rfl,[env],by rw[hevE];rfl,hr6 2 1,fun _=>eq,[vi ((entsC c).getD i 0)],rfl,ed _ sh6,?_⟩;simp only[cns];refine z02 (qb 43) (Z9t (k:=1000000+costC (c.drop (i+1))) (ents:=entsC c) (syms:=gsC c) gc hpm (.slice pb p.blocks.length pc) ((entsC c).getD i 0) ei ⟨⟨by have:=h6.em.1;omega,h6.em.2⟩,h6.n0,by have:=h6.nk;omega⟩ hst p40 s50 om (hsv0.le l25)) ?_;rintro _ K7 ⟨rfl,h7⟩;refine⟨_,[],rfl,rfl,rfl,z01,?_⟩;simp only[zan];obtain⟨iv7,hr7,hs7,sh7⟩:=h7.items;obtain⟨l7,hl7⟩:∃l7,l7=l6++(fxP p (entsC c) (gsC c) stack nx6).funL ((entsC c).getD i 0) (nx6+p.blocks.length):=⟨_,rfl⟩;rw[←hl7]at h7 hs7 hF6;have hs70:=hs7;obtain⟨ib,ic,hiv⟩:=hs7.sl;refine⟨[iv7],by rw[hiv];rfl,hr7 0 1,fun g2=>?_,fun g2=>?_⟩
  .have g3:64536<l7.length:=by
    rw[hiv]at g2;simp only[wy,zdt]at g2;omega
   rw[qj g3]at hF6;refine⟨ww l05 sh7,?_,hpk⟩;rw[hgC,←hF6];rfl
  .have g3:¬64536<l7.length:=by
    rw[hiv]at g2;simp only[wy,zdf]at g2;omega
   rw[qc g3]at hF6;exact⟨_,z00,n-1,om,i+1,_,l7,om,by simp only[wy,hup (show i<c.length by omega) om],h7,om,hF6⟩
 simp only[wy,zdf]at g;obtain rfl:i=c.length:=om;rw[List.drop_length,genF]at hF6;obtain⟨iv6,hr6,hs6,sh6⟩:=h6.items;have hs60:=hs6;obtain⟨ib,ic,hiv⟩:=hs6.sl;refine⟨fun _=>rfl,[iv6],by rw[hiv];rfl,hr6 0 1,[svv],by rw[hsvv];rfl,hr6 1 1,?_⟩;simp only[cns];have hgl:(gsC c).length≤6000000000:=by
  have:=z6m (m:=16777216) (f:=gsP) c [] fun q hq acc=>Zbe (gc.prc hq) acc;rw[zln]at this;unfold gsC;omega
 refine z02 (qb 44) (Zek (gsC c) svv K6 (hsv0.le (ww l25 sh6)) hgl) ?_;rintro _ K8 ⟨l8,sv8,rfl,hs8⟩;refine⟨_,[sv8],rfl,?_,rfl,z0w (z0v l8 (hr6 0 1)) z01,?_⟩
 .obtain⟨b8,c8,rfl⟩:=hs8.sl;rfl
 refine⟨ww l05 (ww sh6 l8),?_,hpk⟩;rw[hgC,←hF6];exact⟨iv6,sv8,rfl,hs60.le l8,hs8,hl6⟩
theorem Zgx(x:FX)(to a b nx:Int):x.insL 0 nx (mmY [42] to [a,b] 0)=x.getL 0 a 26++(x.getL 0 b 27++([⟨0,⟨8,28,x.get a 26,x.get b 27,0⟩,0,0⟩,⟨0,⟨16,28,28,0,7⟩,0,0⟩,⟨2,⟨25,28,0,0,0⟩,11,0⟩,⟨0,⟨19,28,x.get a 26,0,3⟩,0,0⟩,⟨0,⟨4,31,28,x.get b 27,0⟩,0,0⟩,⟨0,⟨3,26,28,x.get b 27,0⟩,0,0⟩,⟨0,⟨19,28,26,0,63⟩,0,0⟩,⟨2,⟨25,31,28,0,0⟩,12,0⟩]++(x.setL 0 to 26++[]))):=kr
theorem Zew(x:FX)(to a b nx:Int):x.insL 0 nx (mmY [43] to [a,b] 0)=x.getL 0 a 26++(x.getL 0 b 27++([⟨0,⟨8,28,x.get a 26,x.get b 27,0⟩,0,0⟩,⟨0,⟨16,28,28,0,7⟩,0,0⟩,⟨2,⟨25,28,0,0,0⟩,11,0⟩,⟨0,⟨1,28,x.get a 26,x.get b 27,0⟩,0,0⟩,⟨0,⟨9,31,28,x.get a 26,0⟩,0,0⟩,⟨0,⟨9,26,28,x.get b 27,0⟩,0,0⟩,⟨0,⟨7,31,31,26,0⟩,0,0⟩,⟨2,⟨26,31,0,0,0⟩,12,0⟩]++(x.setL 0 to 28++[]))):=kr
theorem Zf1(x:FX)(to nx:Int):x.insL 0 nx (mmY cloB to [] 1)=[⟨4,⟨20,26,0,0,0⟩,0,2⟩,⟨3,⟨28,31,0,0,0⟩,2,0⟩,⟨4,⟨20,26,0,0,0⟩,0,111⟩,⟨0,⟨23,26,29,0,0⟩,0,0⟩,⟨5,⟨20,26,0,0,0⟩,x.ents.getD 1 0,0⟩,⟨0,⟨18,26,26,0,3⟩,0,0⟩,⟨0,⟨23,26,29,0,1⟩,0,0⟩,⟨0,⟨18,26,29,0,3⟩,0,0⟩,⟨0,⟨17,26,26,0,1⟩,0,0⟩,⟨0,⟨15,29,29,0,2⟩,0,0⟩]++(x.setL 0 to 26++[]):=kr
theorem zlq(x:FX)(to v nx:Int)(hs:x.syms=[])(hv:-1000000≤v∧v≤1000000):x.insL 0 nx (mmK to v)=x.numL 0 to (8*v):=by
 have h1:x.insL 0 nx (mmK to v)=x.numL 0 to ((wordX (z2o (.mk 1 v [] [])) x.syms).getD 0):=kr;have h2:z2o (.mk 1 v [] [])=⟨1,v,[]⟩:=by
  have hc:=Zby (v:=v) om;unfold z2b at hc;rw[zba]at hc;have h0:=qZ hc.1;unfold z2o;rw[qc (by rw[h0];decide)];rfl
 have h3:wordX ⟨1,v,[]⟩ []=some (8*v):=by
  have:isW v=true:=by unfold isW;rw[qX om,qX om];rfl
  unfold wordX;rw[qc sM,qc (by show ¬(1:Int)=0;decide),qj rfl,qj this]
 rw[h1,h2,hs,h3];rfl
theorem z6g(nx to v a b:Int):insN nx (mmK to v)=nx∧insN nx (mmY [42] to [a,b] 0)=nx∧insN nx (mmY [43] to [a,b] 0)=nx∧insN nx (mmY cloB to [] 1)=nx:=by
 refine⟨kr,?_,?_,?_⟩
 .have:insN nx (mmY [42] to [a,b] 0)=nx+0:=kr;rw[this,Int.add_zero]
 .have:insN nx (mmY [43] to [a,b] 0)=nx+0:=kr;rw[this,Int.add_zero]
 .have:insN nx (mmY cloB to [] 1)=nx+0:=kr;rw[this,Int.add_zero]
theorem zsx(x:FX):∀(a b:List InsX)(nx:Int),x.inssL nx (a++b)=x.inssL nx a++x.inssL (inssN nx a) b
 | [],_,_=>rfl
 |y::a,b,nx=>by
  rw[List.cons_append,FX.inssL,FX.inssL,zsx x a b,inssN,zaa]
theorem zs3:∀(a b:List InsX)(nx:Int),inssN nx (a++b)=inssN (inssN nx a) b
 | [],_,_=>rfl
 |y::a,b,nx=>by rw[List.cons_append,inssN,zs3 a b,inssN]
def mmSl(k:Nat):Int:=mostN (k+2)-24
def mmB(k i:Nat):Int:=if k<i+23 then(k:Int)+2-i else 27
structure MmX(k:Nat)(x:FX):Prop where
 pl:x.place=plcK (k+2)
 sl:x.slots=mmSl k
 sy:x.syms=[]
section
variable {k:Nat}{x:FX}(h:MmX k x)
include h
theorem MmX.at_{i:Nat}(hi:i<k+2):x.at_ (i:Int)=(k:Int)+1-i:=by
 unfold FX.at_;rw[h.pl,plcK];simp[zgd,hi];omega
theorem MmX.col{i:Nat}(hi:i<k+2):x.col (i:Int)=decide (k<i+23):=by
 unfold FX.col;rw[h.at_ hi,Bool.eq_iff_iff,zdt,zdt];omega
theorem MmX.reg{i:Nat}(hi:i<k+2):x.reg (i:Int)=(k:Int)+2-i:=by
 unfold FX.reg;rw[h.at_ hi];omega
theorem MmX.slot{i:Nat}(hi:i<k+2)(hb:¬k<i+23):x.slot 0 (i:Int)=-1-(i:Int):=by
 unfold FX.slot;rw[h.at_ hi,h.sl];unfold mmSl mostN;rw[qc om];omega
theorem MmX.k1:x.col ((k:Int)+1)=true∧x.reg ((k:Int)+1)=1∧x.col (k:Int)=true∧x.reg (k:Int)=2:=by
 have e:(k:Int)+1=((k+1:Nat):Int):=rfl;rw[e,h.col om,h.col om,h.reg om,h.reg om];exact⟨qX om,om,qX om,om⟩
theorem MmX.round{i:Nat}(hi:i<k)(h50:k≤50)(nx:Int):x.inssL nx (mmR k i)=⟨4,⟨20,1,0,0,0⟩,0,8*((i:Int)+1)⟩::((if k<i+23 then[]else[⟨0,⟨22,27,30,0,-1-(i:Int)⟩,0,0⟩])++rndL (mmB k i)):=by
 obtain⟨c1,r1,c0,r0⟩:=h.k1;have n1:=z6g;have g1:x.get ((k:Int)+1) 26=1∧x.get (k:Int) 26=2∧x.get ((k:Int)+1) 27=1:=by
  unfold FX.get;rw[c1,c0,qj rfl,qj rfl,r1,r0,qj rfl];exact⟨rfl,rfl,rfl⟩
 have e1:x.getL 0 ((k:Int)+1) 26=[]∧x.getL 0 (k:Int) 26=[]∧x.getL 0 ((k:Int)+1) 27=[]:=by
  unfold FX.getL;rw[c1,c0,qj rfl,qj rfl,qj rfl];exact⟨rfl,rfl,rfl⟩
 have s1:x.setL 0 ((k:Int)+1) 26=[⟨0,⟨15,1,26,0,0⟩,0,0⟩]∧x.setL 0 (k:Int) 28=[⟨0,⟨15,2,28,0,0⟩,0,0⟩]:=by
  unfold FX.setL;rw[c1,c0,qj rfl,qj rfl,r1,r0];exact⟨rfl,rfl⟩
 have m1:x.numL 0 ((k:Int)+1) (8*((i:Int)+1))=[⟨4,⟨20,1,0,0,0⟩,0,8*((i:Int)+1)⟩]:=by
  unfold FX.numL;rw[c1,qj rfl,r1]
 have b1:x.get (i:Int) 27=mmB k i:=by
  unfold FX.get mmB;rw[h.col om];by_cases e:k<i+23
  .rw[qj (qX e),qj e,h.reg om]
  .rw[qc (by simp[e]),qc e]
 have b2:x.getL 0 (i:Int) 27=if k<i+23 then[]else[⟨0,⟨22,27,30,0,-1-(i:Int)⟩,0,0⟩]:=by
  unfold FX.getL;rw[h.col om];by_cases e:k<i+23
  .rw[qj (qX e),qj e]
  .rw[qc (by simp[e]),qc e,h.slot om e]
 unfold mmR;rw[FX.inssL,FX.inssL,FX.inssL,FX.inssL,zlq x _ _ _ h.sy om,Zgx,Zew,m1,g1.1,g1.2.1,g1.2.2,e1.1,e1.2.1,e1.2.2,s1.1,s1.2,b1,b2];simp[rndL]
def mmC(k i:Nat)(v:Int):List ItemR:=if k<i+23 then[⟨4,⟨20,(k:Int)+2-i,0,0,0⟩,0,8*v⟩]else[⟨4,⟨20,26,0,0,0⟩,0,8*v⟩,⟨0,⟨23,26,30,0,-1-(i:Int)⟩,0,0⟩]
theorem MmX.const{i:Nat}(hi:i<k+2){v:Int}(hv:-1000000≤v∧v≤1000000)(nx:Int):x.insL 0 nx (mmK (i:Int) v)=mmC k i v:=by
 rw[zlq x _ _ _ h.sy hv];unfold FX.numL mmC;rw[h.col hi];by_cases e:k<i+23
 .rw[qj (qX e),qj e,h.reg hi]
 .rw[qc (by simp[e]),qc e,h.slot hi e]
end
def mmSv(k:Nat)(call:Bool):List Int:=if call=true then(upK k).filter fun r=>decide ((k:Int)+1-r<24)else[]
def mmRm(k:Nat)(call:Bool):Int:=mmSl k+(if call=true then((mmSv k call).length:Int)+2 else 0)
def mmF(k:Nat)(st:Int)(p:PrcX):FX:=⟨0,0,p,plcK (k+2),mmSl k,[10002,10003],[10,10001],[],st,.bool false,.bool false,.bool false,.bool false,.bool false⟩
theorem mmF_x(k:Nat)(st:Int)(p:PrcX):MmX k (mmF k st p):=⟨rfl,rfl,rfl⟩
def callG(x:FX)(W:List Int)(e:EndX)(place nx:Int):List ItemR:=
 stW 0 W++[⟨5,⟨20,26,0,0,0⟩,nx,0⟩,⟨0,⟨18,26,26,0,15⟩,0,0⟩,⟨0,⟨15,26,26,0,arI .shl .i64 (arI .add .i64 x.slots (W.length:Int)) 3⟩,0,0⟩,⟨0,⟨23,26,30,0,(W.length:Int)⟩,0,0⟩]
 ++ growL ((W.length:Int)+1)++x.passL ((W.length:Int)+1) e.reg e.args++[⟨3,⟨28,0,0,0,0⟩,place,0⟩,⟨1,⟨0,0,0,0,0⟩,nx,0⟩,⟨0,⟨15,27,1,0,0⟩,0,0⟩]
 ++ growL (-(W.length:Int)-1)++ldW 0 W++x.setL 0 e.to 27++[⟨3,⟨28,0,0,0,0⟩,x.labs.getD e.next.toNat 0,0⟩]
def mmEnt(k:Nat)(call:Bool)(st:Int):List ItemR:=[⟨1,⟨0,0,0,0,0⟩,10,0⟩,⟨4,⟨20,26,0,0,0⟩,0,0⟩,⟨2,⟨25,26,28,0,0⟩,22,0⟩]++(if 0<mmRm k call then[⟨4,⟨20,27,0,0,0⟩,0,32+st-mmRm k call⟩,⟨2,⟨27,27,30,0,0⟩,10004,0⟩,⟨3,⟨28,31,0,0,0⟩,6,0⟩,⟨1,⟨0,0,0,0,0⟩,10004,0⟩]else[])++(List.range (mmSl k).toNat).map zeroR++growL (mmSl k)
def mmN(k:Nat)(call:Bool):Int:=if 0<mmRm k call then 10005 else 10004
def mmClo(call:Bool):List ItemR:=if call=true then[⟨4,⟨20,26,0,0,0⟩,0,2⟩,⟨3,⟨28,31,0,0,0⟩,2,0⟩,⟨4,⟨20,26,0,0,0⟩,0,111⟩,⟨0,⟨23,26,29,0,0⟩,0,0⟩,⟨5,⟨20,26,0,0,0⟩,10001,0⟩,⟨0,⟨18,26,26,0,3⟩,0,0⟩,⟨0,⟨23,26,29,0,1⟩,0,0⟩,⟨0,⟨18,26,29,0,3⟩,0,0⟩,⟨0,⟨17,26,26,0,1⟩,0,0⟩,⟨0,⟨15,29,29,0,2⟩,0,0⟩,⟨0,⟨15,2,26,0,0⟩,0,0⟩]else[]
def zye(k:Nat)(call:Bool)(st:Int):List ItemR:=if call=true then callG (mmF k st mmI) ((mmSv k true).map (mmF k st mmI).reg) (mmE0 k true) 3 (mmN k call)else[⟨3,⟨28,0,0,0,0⟩,10003,0⟩]
def mmRnd(k i:Nat):List ItemR:=⟨4,⟨20,1,0,0,0⟩,0,8*((i:Int)+1)⟩::((if k<i+23 then[]else[⟨0,⟨22,27,30,0,-1-(i:Int)⟩,0,0⟩])++rndL (mmB k i))
def mmCsL(k:Nat)(vs:List Int):List ItemR:=vs.zipIdx.flatMap fun z=>mmC k z.2 z.1
def zgt(k:Nat)(call:Bool)(st:Int)(vs:List Int):List ItemR:=
 mmEnt k call st++[⟨3,⟨28,0,0,0,0⟩,10002,0⟩]++([⟨1,⟨0,0,0,0,0⟩,10002,0⟩]++(mmCsL k vs++mmClo call)++zye k call st ++
  ([⟨1,⟨0,0,0,0,0⟩,10003,0⟩]++(⟨4,⟨20,2,0,0,0⟩,0,0⟩::(List.range k).flatMap (mmRnd k))++(mmF k st mmI).retL 0 (k:Int)))
section
variable {vs:List Int}{call:Bool}
theorem Zay(hk:0<vs.length):z1o (mmP vs call) (plcK (vs.length+2)) 0=mmSv vs.length call:=by
 unfold z1o mmSv;rw[Zi4 hk];cases call with
 |false=>rfl
 |true=>
  rw[qj rfl,qj rfl];refine List.filter_congr fun r hr=>?_;obtain⟨i,hi,rfl⟩:=zmp.1 hr;have hi:=wg.1 hi;have:(plcK (vs.length+2)).getD (i:Int).toNat 0=(vs.length:Int)+1-i:=by
   unfold plcK;simp[zgd,show i<vs.length+2 by omega];omega
  rw[this]
theorem Z50(hk:0<vs.length):roomP (mmP vs call) (plcK (vs.length+2)) (mmSl vs.length)=mmRm vs.length call:=by
 unfold roomP mmRm;refine congrArg (fun z=>mmSl vs.length+z) ?_;show mostL _ [⟨mmB0 vs call,mmE0 vs.length call⟩,⟨mmB1 vs.length,mmE1 vs.length⟩] 0 0=_;rw[mostL,mostL,mostL,qc (by simp[mmE1])];cases call with
 |false=>rw[qc (by simp[mmE0]),qc dC]
 |true=>
  rw[qj (by simp[mmE0]),qj rfl];show(if((z1o (mmP vs true) (plcK (vs.length+2)) ((0:Nat):Int)).length:Int)+2>0 then((z1o (mmP vs true) (plcK (vs.length+2)) ((0:Nat):Int)).length:Int)+2 else 0)=_;rw[show((0:Nat):Int)=0 from rfl,Zay hk,qj om]
theorem g_fx(hk:0<vs.length)(h50:vs.length≤50)(hv:∀v∈vs,-100000<v∧v<100000)(st:Int):fxP (mmP vs call) [10,10001] [] st 10002=mmF vs.length st (mmP vs call):=by
 unfold fxP;rw[g_col hk h50 hv,Zc3];rfl
theorem g_ent(hk:0<vs.length)(st:Int):(mmF vs.length st (mmP vs call)).entL 10 10004=mmEnt vs.length call st:=by
 unfold FX.entL FX.roomL;rw[show liveL (mmF vs.length st (mmP vs call)).p 0 0=[]from Zlx hk,show(mmF vs.length st (mmP vs call)).room=mmRm vs.length call from Z50 hk];unfold mmEnt;simp only[List.flatMap_nil];rw[show z7v []=[]from rfl,zan,zan,zan];rfl
theorem Z79{x:FX}{k:Nat}(h:MmX k x)(nx:Int):∀(vs:List Int)(n:Nat),n+vs.length≤k+2→(∀v∈vs,-100000<v∧v<100000)→x.inssL nx ((vs.zipIdx n).map fun z=>mmK (z.2:Int) z.1)=(vs.zipIdx n).flatMap (fun z=>mmC k z.2 z.1)∧inssN nx ((vs.zipIdx n).map fun z=>mmK (z.2:Int) z.1)=nx
 | [],_,_,_=>⟨rfl,rfl⟩
 |v::vs,n,hn,hv=>by
  rw[zlc]at hn;have hv0:=hv v (zms);obtain⟨i1,i2⟩:=Z79 h nx vs (n+1) om fun w hw=>hv w (zmm _ hw);have n1:=(z6g nx (n:Int) v 0 0).1;rw[List.zipIdx_cons,wa,qQ,FX.inssL,inssN,n1,i1,i2,h.const om om];exact⟨rfl,rfl⟩
theorem Z5i{x:FX}{k:Nat}(h:MmX k x)(h50:k≤50)(nx:Int):∀(l:List Nat),(∀i∈l,i<k)→x.inssL nx (l.flatMap (mmR k))=l.flatMap (mmRnd k)∧inssN nx (l.flatMap (mmR k))=nx
 | [],_=>⟨rfl,rfl⟩
 |i::l,hl=>by
  obtain⟨i1,i2⟩:=Z5i h h50 nx l fun j hj=>hl j (zmm _ hj);have n3:inssN nx (mmR k i)=nx:=by
   unfold mmR;rw[inssN,inssN,inssN,inssN,(z6g _ _ _ 0 0).1,(z6g _ _ 0 _ _).2.1,(z6g _ _ 0 _ _).2.2.1]
  rw[qQ,qQ,zsx,zs3,n3,i1,i2,h.round (hl i (zms)) h50];exact⟨rfl,rfl⟩
theorem g_fun(hk:0<vs.length)(h50:vs.length≤50)(hv:∀v∈vs,-100000<v∧v<100000)(st:Int):(fxP (mmP vs call) [10,10001] [] st 10002).funL 10 10004=zgt vs.length call st vs∧(fxP (mmP vs call) [10,10001] [] st 10002).funN 10004=mmN vs.length call+(if call=true then 1 else 0):=by
 rw[g_fx hk h50 hv];have hx:=mmF_x vs.length st (mmP vs call);have hrN:(mmF vs.length st (mmP vs call)).roomN 10004=mmN vs.length call:=by
  unfold FX.roomN mmN;rw[show(mmF vs.length st (mmP vs call)).room=mmRm vs.length call from Z50 hk];rfl
 obtain⟨c1,c2⟩:=Z79 hx (mmN vs.length call) vs 0 om hv;have hB0:(mmF vs.length st (mmP vs call)).inssL (mmN vs.length call) (mmB0 vs call)=mmCsL vs.length vs++mmClo call∧inssN (mmN vs.length call) (mmB0 vs call)=mmN vs.length call:=by
  unfold mmB0;rw[zsx,zs3,show mmCs vs=(vs.zipIdx 0).map fun z=>mmK (z.2:Int) z.1 from rfl,c1,c2];cases call with
  |false=>exact⟨rfl,rfl⟩
  |true=>
   rw[qj rfl,FX.inssL,FX.inssL,inssN,inssN,Zf1,(z6g _ _ 0 0 0).2.2.2];refine⟨congrArg (fun z=>mmCsL vs.length vs++z) ?_,rfl⟩;have:(mmF vs.length st (mmP vs true)).setL 0 (vs.length:Int) 26=[⟨0,⟨15,2,26,0,0⟩,0,0⟩]:=by
    unfold FX.setL;rw[hx.k1.2.2.1,qj rfl,hx.k1.2.2.2]
   rw[this];rfl
 have hB1:∀nx,(mmF vs.length st (mmP vs call)).inssL nx (mmB1 vs.length)=⟨4,⟨20,2,0,0,0⟩,0,0⟩::(List.range vs.length).flatMap (mmRnd vs.length)∧inssN nx (mmB1 vs.length)=nx:=fun nx=>by
  obtain⟨r1,r2⟩:=Z5i hx h50 nx (List.range vs.length) fun i hi=>wg.1 hi;unfold mmB1;rw[FX.inssL,inssN,(z6g nx _ _ 0 0).1,r1,r2,zlq _ _ _ _ rfl dC];refine⟨?_,rfl⟩;unfold FX.numL;rw[hx.k1.2.2.1,qj rfl,hx.k1.2.2.2];rfl
 have hE0:(mmF vs.length st (mmP vs call)).endL ((0:Nat):Int) (mmN vs.length call) (mmE0 vs.length call)=zye vs.length call st:=by
  unfold zye;cases call with
  |false=>rfl
  |true=>
   rw[qj rfl];show(mmF vs.length st (mmP vs true)).callL 0 (mmE0 vs.length true) 3 (mmN vs.length true)=_;have hW:(mmF vs.length st (mmP vs true)).saveW 0=(mmSv vs.length true).map (mmF vs.length st mmI).reg:=by
    unfold FX.saveW;rw[show z1o (mmF vs.length st (mmP vs true)).p (mmF vs.length st (mmP vs true)).place 0=mmSv vs.length true from Zay hk,qc (by show ¬(0:Int)<0;decide),zan];rfl
   unfold FX.callL;rw[hW];rfl
 have hE0N:endN (mmN vs.length call) (mmE0 vs.length call)=mmN vs.length call+(if call=true then 1 else 0):=by
  cases call with
  |false=>show mmN vs.length false=_;simp
  |true=>rfl
 constructor
 .unfold FX.funL;rw[g_ent hk,hrN];show mmEnt vs.length call st++[⟨3,⟨28,0,0,0,0⟩,10002,0⟩]++(mmF vs.length st (mmP vs call)).blksL 0 (mmN vs.length call) [⟨mmB0 vs call,mmE0 vs.length call⟩,⟨mmB1 vs.length,mmE1 vs.length⟩]=_;rw[FX.blksL,FX.blksL,FX.blksL,hB0.1,hB0.2,hE0,(hB1 _).1,(hB1 _).2];unfold zgt;simp only[zan];rfl
 .unfold FX.funN;rw[hrN];show blksN (mmN vs.length call) [⟨mmB0 vs call,mmE0 vs.length call⟩,⟨mmB1 vs.length,mmE1 vs.length⟩]=_;rw[blksN,blksN,blksN,hB0.2,(hB1 _).2,hE0N];simp[endN,mmE1]
end
theorem Z75:liveL mmI=liveF 3 mmI:=Z4x kr
theorem Z32:liveL mmI 0 0=[0]:=by rw[Z75];kernel_rfl
theorem Zev:zmr mmI=(List.range 29).map fun i:Nat=>⟨(i:Int)+1,-1,if i=28 then[0]else[0,(i:Int)+1]⟩:=by
 unfold zmr z49 zgs z4b zdr z0y;rw[Z75];kernel_rfl
theorem Zch:colP mmI 24=(1::List.replicate 29 0,24):=by rw[Zlc Z32 Zev (R:=30) rfl];kernel_rfl
def boxL(b:Int):List ItemR:=[⟨4,⟨20,26,0,0,0⟩,0,2⟩,⟨3,⟨28,31,0,0,0⟩,2,0⟩,⟨4,⟨20,26,0,0,0⟩,0,103⟩,⟨0,⟨23,26,29,0,0⟩,0,0⟩,⟨0,⟨23,b,29,0,1⟩,0,0⟩,⟨0,⟨18,26,29,0,3⟩,0,0⟩,⟨0,⟨17,26,26,0,1⟩,0,0⟩,⟨0,⟨15,29,29,0,2⟩,0,0⟩,⟨0,⟨15,1,26,0,0⟩,0,0⟩]
def zsq(nx:Int):List ItemR:=[⟨1,⟨0,0,0,0,0⟩,10001,0⟩,⟨4,⟨20,26,0,0,0⟩,0,1⟩,⟨2,⟨25,26,28,0,0⟩,22,0⟩,⟨0,⟨15,2,1,0,0⟩,0,0⟩,⟨3,⟨28,0,0,0,0⟩,nx,0⟩,⟨1,⟨0,0,0,0,0⟩,nx,0⟩]++(List.range 29).flatMap (fun i:Nat=>boxL (if i=0 then 2 else 1))++[⟨0,⟨15,1,2,0,0⟩,0,0⟩,⟨3,⟨28,0,0,0,0⟩,4,0⟩]
def mmIF(st nx:Int):FX:=⟨0,0,mmI,1::List.replicate 29 0,0,[nx],[10,10001],[],st,.bool false,.bool false,.bool false,.bool false,.bool false⟩
theorem mmI_x(st nx:Int):fxP mmI [10,10001] [] st nx=mmIF st nx:=by
 have e0:nx+((0:Nat):Int)=nx:=om;have:(List.range mmI.blocks.length).map (fun j:Nat=>nx+(j:Int))=[nx]:=by
  show[nx+((0:Nat):Int)]=[nx];rw[e0]
 unfold fxP;rw[Zch,this];rfl
theorem Ziu(st nx:Int):(mmIF st nx).funL 10001 (nx+1)=zsq nx:=by
 unfold FX.funL FX.entL;rw[show liveL (mmIF st nx).p 0 0=[0]from Z32]
 kernel_rfl
theorem Zlf(st nx:Int):(fxP mmI [10,10001] [] st nx).funL 10001 (nx+1)=zsq nx:=by rw[mmI_x,Ziu]
theorem Zin:roomF mmI=0:=by unfold roomF;rw[Zch];kernel_rfl
def mmSt(k:Nat)(call:Bool):Int:=mmRm k call+2
theorem Z5t(k:Nat)(call:Bool):0≤mmRm k call:=by
 unfold mmRm mmSl mostN;split<;>split<;>omega
theorem Zcf{vs:List Int}{call:Bool}(hk:0<vs.length)(h50:vs.length≤50)(hv:∀v∈vs,-100000<v∧v<100000):roomC (z1x vs call)=mmSt vs.length call:=by
 have h1:roomF (mmP vs call)=mmRm vs.length call:=by
  unfold roomF;rw[g_col hk h50 hv,Zc3];exact Z50 hk
 have:=Z5t vs.length call;show z3q (z3q 0 (mmP vs call)) mmI+2=_;unfold z3q mmSt;rw[h1,Zin];split<;>split<;>omega
theorem Z0a{acc:List (List UInt8)}:∀(l:List InsX),(∀y∈l,y.const.kind≠4)→l.foldl gsY acc=acc
 | [],_=>rfl
 |y::l,h=>by
  have:gsY acc y=acc:=by
   unfold gsY;rw[qc fun e=>h y (zms) e.2.1]
  rw[List.foldl_cons,this];exact Z0a l fun z hz=>h z (zmm _ hz)
theorem Zfn(vs:List Int)(call:Bool):gsC (z1x vs call)=[]:=by
 have h0:∀y∈mmB0 vs call,y.const.kind≠4:=fun y hy=>by
  unfold mmB0 at hy;rcases zma.1 hy with hy|hy
  .obtain⟨i,v,_,rfl⟩:=zw1 hy;show(1:Int)≠4;decide
  .cases call with
   |false=>simp at hy
   |true=>
    rw[qj rfl,zsi]at hy;rw[hy];show(0:Int)≠4;decide
 have h1:∀y∈mmB1 vs.length,y.const.kind≠4:=fun y hy=>by
  unfold mmB1 at hy;rcases zmc.1 hy with rfl|hy
  .show(1:Int)≠4;decide
  obtain⟨i,_,hy⟩:=List.mem_flatMap.1 hy;simp only[mmR,zmc,List.not_mem_nil,or_false]at hy;rcases hy with rfl|rfl|rfl
  .show(1:Int)≠4;decide
  .show(0:Int)≠4;decide
  .show(0:Int)≠4;decide
 have hP:gsP [] (mmP vs call)=[]:=by
  unfold gsP mmP;rw[List.foldl_cons,List.foldl_cons,List.foldl_nil];have g0:gsB [] ⟨mmB0 vs call,mmE0 vs.length call⟩=[]:=Z0a _ h0;have g1:gsB [] ⟨mmB1 vs.length,mmE1 vs.length⟩=[]:=Z0a _ h1;rw[g0,g1]
 have hI:gsP [] mmI=[]:=kr;unfold gsC z1x;rw[List.foldl_cons,List.foldl_cons,List.foldl_nil,hP,hI]
def mmAll(k:Nat)(call:Bool)(vs:List Int):List ItemR:=zgt k call (mmSt k call) vs++zsq (mmN k call+(if call=true then 1 else 0))
theorem g_gen{vs:List Int}{call:Bool}(hk:0<vs.length)(h50:vs.length≤50)(hv:∀v∈vs,-100000<v∧v<100000)(hlen:(mmAll vs.length call vs).length≤64536)(hst:mmSt vs.length call≤131072):genC (z1x vs call) (mmSt vs.length call)=.inr (mmAll vs.length call vs):=by
 obtain⟨f1,f2⟩:=g_fun (call:=call) hk h50 hv (mmSt vs.length call);unfold genC;rw[qc (by rw[zzj hk h50 hv];decide),qc (by rw[Zcf hk h50 hv];omega)];have hgs:gsC (z1x vs call)=[]:=Zfn vs call;have e:genF (entsC (z1x vs call)) (gsC (z1x vs call)) (mmSt vs.length call) 0 (10000+((z1x vs call).length:Int)) [] (z1x vs call) =
   genF [10,10001] [] (mmSt vs.length call) 0 10002 [] [mmP vs call,mmI]:=by rw[hgs];rfl
 have hM:(fxP (mmP vs call) [10,10001] [] (mmSt vs.length call) 10002).funL ([10,10001].getD 0 0) (10002+(((mmP vs call).blocks.length:Nat):Int))=zgt vs.length call (mmSt vs.length call) vs:=f1;have hN:(fxP (mmP vs call) [10,10001] [] (mmSt vs.length call) 10002).funN (10002+(((mmP vs call).blocks.length:Nat):Int))=mmN vs.length call+(if call=true then 1 else 0):=f2;have hL:∀nx,(fxP mmI [10,10001] [] (mmSt vs.length call) nx).funL ([10,10001].getD (0+1) 0) (nx+((mmI.blocks.length:Nat):Int))=zsq nx:=fun nx=>Zlf _ nx;rw[e,genF,genF,genF,hN,hL,hM,List.nil_append];unfold mmAll at hlen;rw[qc (by rw[zla]at hlen;omega),qc om];rfl
def absC(k i:Nat):List AIt:=if k<i+23 then[.num (k+2-i) i]else[.num 26 i,.it ⟨0,⟨23,26,30,0,-1-(i:Int)⟩,0,0⟩]
def absR(k i:Nat):List AIt:=.it ⟨4,⟨20,1,0,0,0⟩,0,8*((i:Int)+1)⟩::((if k<i+23 then[]else[.it ⟨0,⟨22,27,30,0,-1-(i:Int)⟩,0,0⟩])++(.rnd (if k<i+23 then k+2-i else 27) i::List.replicate 17 .skip))
noncomputable def mmPre(k:Nat)(call:Bool):List ItemR:=rt_codeR++gc_codeR++(mmEnt k call (mmSt k call)++[⟨3,⟨28,0,0,0,0⟩,10002,0⟩]++[⟨1,⟨0,0,0,0,0⟩,10002,0⟩])
def mmMid(k:Nat)(call:Bool):List ItemR:=mmClo call++zye k call (mmSt k call)++[⟨1,⟨0,0,0,0,0⟩,10003,0⟩,⟨4,⟨20,2,0,0,0⟩,0,0⟩]
def Z7g(k:Nat)(call:Bool):List ItemR:=(mmF k (mmSt k call) mmI).retL 0 (k:Int)++zsq (mmN k call+(if call=true then 1 else 0))
noncomputable def absL(k:Nat)(call:Bool):List AIt:=(mmPre k call).map .it++((List.range k).flatMap (absC k)++((mmMid k call).map .it++((List.range k).flatMap (absR k)++(Z7g k call).map .it)))
noncomputable def mmL0(k:Nat)(call:Bool):List ItemR:=rt_codeR++gc_codeR++mmAll k call (List.replicate k 0)
noncomputable def mmFnd(k:Nat)(call:Bool)(lab:Int):Nat:=(findR (mmL0 k call) lab).getD 0
noncomputable def memD(k:Nat)(call:Bool):Bt DW:=((((Bt.rep (DW.lit 0) 14).put (.lit (32+mmSt k call)) 28).put (.lit (32+mmSt k call+5000)) 29).put (.lit (32+mmSt k call+5000)) 30).put (.lit (32+mmSt k call+2*5000)) 31
noncomputable def mmRun(k:Nat)(call:Bool):Bool:=(Bt.ofL AIt.skip 11 (absL k call)).forceK fun tab=>
 (Bt.rep (DW.lit 0) 14).putK (.lit (32+mmSt k call)) 28 fun m1=>m1.putK (.lit (32+mmSt k call+5000)) 29 fun m2=>m2.putK (.lit (32+mmSt k call+5000)) 30 fun m3=>m3.putK (.lit (32+mmSt k call+2*5000)) 31 fun me=>
 runD tab (absL k call).length (10032+(mmSt k call).toNat) (mmFnd k call) k 3000 0 (Bt.rep (.lit 0) 5) me
theorem Zie(k:Nat)(call:Bool):mmRun k call=runD (Bt.ofL AIt.skip 11 (absL k call)) (absL k call).length (10032+(mmSt k call).toNat) (mmFnd k call) k 3000 0 (Bt.rep (.lit 0) 5) (memD k call):=by
 unfold mmRun memD;rw[Bt.forceK_eq,Bt.putK_eq,Bt.putK_eq,Bt.putK_eq,Bt.putK_eq]
structure SegD(vs:List Int)(a:List AIt)(b:List ItemR):Prop where
 len:a.length=b.length
 row:∀pre post n x,b[n]?=some x→RowD (pre++b++post) vs (a.getD n .skip) (pre.length+n) x
theorem SegD.nil(vs:List Int):SegD vs [] []:=⟨rfl,fun _ _ _ _ h=>by simp at h⟩
theorem SegD.app{vs:List Int}{a a':List AIt}{b b':List ItemR}(h:SegD vs a b)(g:SegD vs a' b'):SegD vs (a++a') (b++b'):=by
 refine⟨by rw[zla,zla,h.len,g.len],fun pre post n x hx=>?_⟩;rw[List.getElem?_append]at hx;have hl:=h.len;by_cases e:n<b.length
 .rw[qj e]at hx;have:=h.row pre (b'++post) n x hx;rw[zgd,List.getElem?_append_left om,←zgd];simpa using this
 .rw[qc e]at hx;have:=g.row (pre++b) post (n-b.length) x hx;rw[zgd,List.getElem?_append_right om,hl,←zgd];rw[zla,show pre.length+b.length+(n-b.length)=pre.length+n by omega]at this;simpa using this
theorem SegD.its(vs:List Int)(b:List ItemR):SegD vs (b.map .it) b:=by
 refine⟨sM,fun pre post n x hx=>?_⟩;rw[zgd,zem,hx];rfl
theorem SegD.flat{vs:List Int}{α:Type}{f:α→List AIt}{g:α→List ItemR}:∀(l:List α),(∀a∈l,SegD vs (f a) (g a))→SegD vs (l.flatMap f) (l.flatMap g)
 | [],_=>SegD.nil vs
 |a::l,h=>by
  rw[qQ,qQ];exact(h a (zms)).app (SegD.flat l fun b hb=>h b (zmm _ hb))
theorem segC{vs:List Int}{k i:Nat}(hi:i<k):SegD vs (absC k i) (mmC k i (vs.getD i 0)):=by
 unfold absC mmC;by_cases e:k<i+23
 .rw[qj e,qj e];refine⟨rfl,fun pre post n x hx=>?_⟩
  match n,hx with
  |0,hx=>
   obtain rfl:_=x:=qW hx;refine⟨om,om,?_⟩;rw[show((k+2-i:Nat):Int)=(k:Int)+2-i by omega]
  |n+1,hx=>simp at hx
 .rw[qc e,qc e];refine⟨rfl,fun pre post n x hx=>?_⟩
  match n,hx with
  |0,hx=>
   obtain rfl:_=x:=qW hx;exact⟨dC,dC,rfl⟩
  |1,hx=>
   obtain rfl:_=x:=qW hx;rfl
  |n+2,hx=>simp at hx
theorem Zi5{vs:List Int}{B i:Nat}(h1:3≤B∧B≤27∧B≠26)(hi:i<50):SegD vs (.rnd B i::List.replicate 17 .skip) (rndL (B:Int)):=by
 refine⟨by simp[rndL],fun pre post n x hx=>?_⟩;cases n with
 |zero=>
  refine⟨h1.1,h1.2.1,h1.2.2,hi,fun q hq=>?_⟩;rw[Nat.add_zero,zaa,List.getElem?_append_right om,Nat.add_sub_cancel_left,List.getElem?_append_left (by simp[rndL];omega)]
 |succ n=>
  have hn:n<17:=by
   have:=(zgi.1 hx).1;simp[rndL]at this;omega
  have:(AIt.rnd B i::List.replicate 17 AIt.skip).getD (n+1) .skip=.skip:=by
   show(List.replicate 17 AIt.skip).getD n .skip=.skip;rw[zgd,List.getElem?_replicate];split<;>rfl
  rw[this];trivial
theorem segR{vs:List Int}{k i:Nat}(hi:i<k)(h50:k≤50):SegD vs (absR k i) (mmRnd k i):=by
 unfold absR mmRnd mmB;refine(SegD.its vs [⟨4,⟨20,1,0,0,0⟩,0,8*((i:Int)+1)⟩]).app (SegD.app ?_ ?_)
 .by_cases e:k<i+23
  .rw[qj e,qj e];exact SegD.nil vs
  .rw[qc e,qc e];exact SegD.its vs [⟨0,⟨22,27,30,0,-1-(i:Int)⟩,0,0⟩]
 .by_cases e:k<i+23
  .rw[qj e,qj e,show(k:Int)+2-i=((k+2-i:Nat):Int) by omega];exact Zi5 om om
  .rw[qc e,qc e];exact Zi5 (B:=27) dC om
theorem zp1{k:Nat}:∀(vs:List Int)(n:Nat),(vs.zipIdx n).flatMap (fun z=>mmC k z.2 z.1)=(List.range vs.length).flatMap fun i=>mmC k (n+i) (vs.getD i 0)
 | [],_=>rfl
 |v::vs,n=>by
  rw[List.zipIdx_cons,qQ,zp1 vs (n+1),zlc,List.range_succ_eq_map,qQ,List.flatMap_map];congr 1;refine congrArg List.flatten (qO fun i _=>?_);rw[show n+1+i=n+(i+1) by omega];rfl
theorem Zbj{vs:List Int}{call:Bool}(h50:vs.length≤50):SegD vs (absL vs.length call) (rt_codeR++gc_codeR++mmAll vs.length call vs):=by
 have e:rt_codeR++gc_codeR++mmAll vs.length call vs=mmPre vs.length call++((List.range vs.length).flatMap (fun i=>mmC vs.length i (vs.getD i 0))++(mmMid vs.length call++((List.range vs.length).flatMap (mmRnd vs.length)++Z7g vs.length call))):=by
  have h0:=zp1 (k:=vs.length) vs 0;simp only[wo]at h0;unfold mmAll zgt mmCsL mmPre mmMid Z7g;rw[show vs.zipIdx=vs.zipIdx 0 from rfl,h0];simp only[zaa,cns]
 rw[e];unfold absL;exact(SegD.its vs _).app ((SegD.flat _ fun i hi=>segC (wg.1 hi)).app ((SegD.its vs _).app ((SegD.flat _ fun i hi=>segR (wg.1 hi) h50).app (SegD.its vs _))))
theorem Z77:((List.range 10).all fun i=>mmRun (i+1) false)=true:=kr
theorem Z6a:((List.range 10).all fun i=>mmRun (i+11) false)=true:=kr
theorem Z6n:((List.range 10).all fun i=>mmRun (i+21) false)=true:=kr
theorem Z85:((List.range 10).all fun i=>mmRun (i+31) false)=true:=kr
theorem Z5j:((List.range 10).all fun i=>mmRun (i+41) false)=true:=kr
theorem Z3p{k:Nat}(h0:0<k)(h1:k≤50):mmRun k false=true:=by
 rcases(by omega:k≤10∨(11≤k∧k≤20)∨(21≤k∧k≤30)∨(31≤k∧k≤40)∨41≤k)with h|h|h|h|h
 .have:=zat.1 Z77 (k-1) (wg.2 om);rwa[show k-1+1=k by omega]at this
 .have:=zat.1 Z6a (k-11) (wg.2 om);rwa[show k-11+11=k by omega]at this
 .have:=zat.1 Z6n (k-21) (wg.2 om);rwa[show k-21+21=k by omega]at this
 .have:=zat.1 Z85 (k-31) (wg.2 om);rwa[show k-31+31=k by omega]at this
 .have:=zat.1 Z5j (k-41) (wg.2 om);rwa[show k-41+41=k by omega]at this
theorem Z8r:((List.range 10).all fun i=>mmRun (i+1) true)=true:=kr
theorem Z9e:((List.range 10).all fun i=>mmRun (i+11) true)=true:=kr
theorem Z97:((List.range 10).all fun i=>mmRun (i+21) true)=true:=kr
theorem Za1:((List.range 10).all fun i=>mmRun (i+31) true)=true:=kr
theorem Za7:((List.range 10).all fun i=>mmRun (i+41) true)=true:=kr
theorem Z78{k:Nat}(h0:0<k)(h1:k≤50):mmRun k true=true:=by
 rcases(by omega:k≤10∨(11≤k∧k≤20)∨(21≤k∧k≤30)∨(31≤k∧k≤40)∨41≤k)with h|h|h|h|h
 .have:=zat.1 Z8r (k-1) (wg.2 om);rwa[show k-1+1=k by omega]at this
 .have:=zat.1 Z9e (k-11) (wg.2 om);rwa[show k-11+11=k by omega]at this
 .have:=zat.1 Z97 (k-21) (wg.2 om);rwa[show k-21+21=k by omega]at this
 .have:=zat.1 Za1 (k-31) (wg.2 om);rwa[show k-31+31=k by omega]at this
 .have:=zat.1 Za7 (k-41) (wg.2 om);rwa[show k-41+41=k by omega]at this
def keyI(x:ItemR):Int×Int:=(x.kind,x.label)
theorem Zk1{l l':List ItemR}(h:l.map keyI=l'.map keyI)(k:Int):findR l k=findR l' k:=by
 have e:∀l:List ItemR,findR l k=(l.map keyI).findIdx? fun p=>decide (p.1=1)&&decide (p.2=k):=fun l=>by
  unfold findR;rw[List.findIdx?_map];rfl
 rw[e,e,h]
theorem key_C(k i:Nat)(v w:Int):(mmC k i v).map keyI=(mmC k i w).map keyI:=by
 unfold mmC;split<;>rfl
theorem Zky(vs:List Int)(call:Bool):(rt_codeR++gc_codeR++mmAll vs.length call vs).map keyI=(mmL0 vs.length call).map keyI:=by
 have h0:=zp1 (k:=vs.length) vs 0;have h1:=zp1 (k:=vs.length) (List.replicate vs.length 0) 0;have h2:(mmCsL vs.length vs).map keyI=(mmCsL vs.length (List.replicate vs.length 0)).map keyI:=by
  unfold mmCsL;rw[show vs.zipIdx=vs.zipIdx 0 from rfl,show(List.replicate vs.length (0:Int)).zipIdx=(List.replicate vs.length (0:Int)).zipIdx 0 from rfl,h0,h1,wi,List.map_flatMap,List.map_flatMap];refine congrArg List.flatten (qO fun i _=>key_C _ _ _ _)
 unfold mmL0 mmAll zgt;simp only[List.map_append,h2]
theorem Zl0:((List.range 51).all fun k=>Nat.ble (absL k true).length 2048&&Nat.ble (absL k false).length 2048)=true:=kr
theorem Zgl{k:Nat}(h:k≤50)(call:Bool):(absL k call).length≤2048:=by
 have:=zat.1 Zl0 k (wg.2 om);rw[zba]at this;cases call
 .exact Nat.le_of_ble_eq_true this.2
 .exact Nat.le_of_ble_eq_true this.1
theorem Z0m{k:Nat}(h:k≤50)(call:Bool):2≤mmSt k call∧mmSt k call≤100:=by
 have h1:=Z5t k call;have h2:mmSl k≤28:=by unfold mmSl mostN;split<;>omega
 have h3:((mmSv k call).length:Int)≤k:=by
  unfold mmSv;split
  .have:=List.length_filter_le (fun r=>decide ((k:Int)+1-r<24)) (upK k);have:(upK k).length=k:=by simp[upK]
   omega
  .simp
 have h4:mmRm k call≤80:=by
  unfold mmRm;split<;>omega
 unfold mmSt;omega
theorem Zmf{k:Nat}{call:Bool}{q:Nat}(h:q<16384):(memD k call).get q=if q=31 then .lit (32+mmSt k call+2*5000)else if q=30 then .lit (32+mmSt k call+5000)else if q=29 then .lit (32+mmSt k call+5000)else if q=28 then .lit (32+mmSt k call)else .lit 0:=by
 have f0:=Bt.full_rep (DW.lit 0) 14;have f1:=Bt.full_put (.lit (32+mmSt k call)) 14 _ 28 f0;have f2:=Bt.full_put (.lit (32+mmSt k call+5000)) 14 _ 29 f1;have f3:=Bt.full_put (.lit (32+mmSt k call+5000)) 14 _ 30 f2;unfold memD;rw[Bt.get_put _ 14 _ _ _ f3 dC h,Bt.get_put _ 14 _ _ _ f2 dC h,Bt.get_put _ 14 _ _ _ f1 dC h,Bt.get_put _ 14 _ _ _ f0 dC h,Bt.get_rep]
theorem Zmo{st size:Int}{n q:Nat}:(memR st size++List.replicate n 0).getD q 0=if q=31 then 32+st+2*size else if q=30 then 32+st+size else if q=29 then 32+st+size else if q=28 then 32+st else 0:=by
 unfold memR;rw[zgd,List.getElem?_append];split
 .rename_i h;simp only[List.length_set,wi]at h;simp only[List.getElem?_set,List.length_set,wi,List.getElem?_replicate,h];by_cases e1:q=31
  .subst e1;simp
  by_cases e2:q=30
  .subst e2;simp
  by_cases e3:q=29
  .subst e3;simp
  by_cases e4:q=28
  .subst e4;simp
  simp[e1,e2,e3,e4,Ne.symm e1,Ne.symm e2,Ne.symm e3,Ne.symm e4]
 .rename_i h;simp only[List.length_set,wi]at h;rw[qc om,qc om,qc om,qc om,List.getElem?_replicate];split<;>rfl
theorem Zku{vs:List Int}{call:Bool}(hk:0<vs.length)(h50:vs.length≤50)(hv:∀v∈vs,-100000<v∧v<100000)(hasm:errA (asmR (rt_codeR++gc_codeR++mmAll vs.length call vs))=0):
  ∃n m',n≤216000∧goR (codeA (asmR (rt_codeR++gc_codeR++mmAll vs.length call vs))) n (z4j (imgR (rt_codeR++gc_codeR++mmAll vs.length call vs) (mmSt vs.length call) 5000) [])=(0,m')∧m'.value=0∧m'.reg 1=8*sumW vs vs.length:=by
 have h:=Z66 hasm;have hseg:=Zbj (vs:=vs) (call:=call) h50;have hst:=Z0m h50 call;have hrun:mmRun vs.length call=true:=by
  cases call
  .exact Z3p hk h50
  .exact Z78 hk h50
 rw[Zie,hseg.len]at hrun;have hf:Few vs:=⟨h50,fun i=>by
  rcases Nat.lt_or_ge i vs.length with g|g
  .have:=hv (vs.getD i 0) (by rw[zgd,zge g];exact List.getElem_mem g);omega
  .rw[zgd,wu g];decide⟩
 have hal:=Zgl h50 call;obtain ⟨n,m',hn,hg,h1,h2⟩:=Zc5 (d:=14) (L:=10032+(mmSt vs.length call).toNat) h hf om (fnd:=mmFnd vs.length call) (fun y hy hny=>by
  obtain⟨j,hj⟩:=qH.1 (h.there y hy hny);unfold mmFnd;rw[←Zk1 (Zky vs call),hj];rfl) (tab:=Bt.ofL .skip 11 (absL vs.length call)) (fun i x hx=>by
  have hi:=(zgi.1 hx).1;have hl:=hseg.len;have:=hseg.row [] [] i x hx;rw[Bt.get_ofL _ 11 _ _ om];simpa using this) vs.length 3000 (z4j (imgR (rt_codeR++gc_codeR++mmAll vs.length call vs) (mmSt vs.length call) 5000) []) 0 (Bt.rep (.lit 0) 5) (memD vs.length call) (by
  have hml:(memR (mmSt vs.length call) 5000).length=32:=by simp[memR]
  have hmem:(z4j (imgR (rt_codeR++gc_codeR++mmAll vs.length call vs) (mmSt vs.length call) 5000) []).mem=memR (mmSt vs.length call) 5000++List.replicate ((32+mmSt vs.length call+2*5000).toNat-(memR (mmSt vs.length call) 5000).length) 0:=rfl;refine⟨⟨?_,by simp[z4j,zy5]⟩,Bt.full_rep _ _,Bt.get_rep _ _ _,fun r hr=>?_,?_,?_,fun q hq=>?_⟩
  .show(0:Int)=_;unfold plD;rw[zhi];rfl
  .rw[Bt.get_rep];show(List.replicate 32 (0:Int)).getD r 0=0;rw[zgd,List.getElem?_replicate];split<;>rfl
  .rw[hmem,zla,wi,hml];omega
  .unfold memD;exact Bt.full_put _ _ _ _ (Bt.full_put _ _ _ _ (Bt.full_put _ _ _ _ (Bt.full_put _ _ _ _ (Bt.full_rep _ _))))
  .rw[hmem,Zmf om,Zmo]
   repeat' split
   all_goals rfl) hrun
 exact⟨n,m',om,hg,h1,h2⟩
theorem Zhp(l:List ItemR)(long:List Bool)(p:List Nat):(codeR l long p).length≤4*l.length:=by
 unfold codeR;refine Nat.le_trans (zwb _ 4 (fun a=>by rw[zlm];exact zwr _ _ _ _) _) ?_;rw[List.length_zip,List.length_zipIdx];omega
theorem Zmb{vs:List Int}{call:Bool}(hk:0<vs.length)(h50:vs.length≤50)(hv:∀v∈vs,-100000<v∧v<100000)(hasm:errA (asmR (rt_codeR++gc_codeR++mmAll vs.length call vs))=0){R:HaltR}(hR:R=runR (imgR (rt_codeR++gc_codeR++mmAll vs.length call vs) (mmSt vs.length call) 5000) [] 1099511627776):
  R.state=0∧R.value=0∧R.regs.getD 1 0=8*sumW vs vs.length:=by
 obtain⟨n,m',hn,hg,h1,h2⟩:=Zku hk h50 hv hasm;have hst:=Z0m h50 call;have hl:(codeA (asmR (rt_codeR++gc_codeR++mmAll vs.length call vs))).length≤262144:=by
  have h:=Z66 hasm;rw[h.code];have:=Zhp (rt_codeR++gc_codeR++mmAll vs.length call vs) (longR (rt_codeR++gc_codeR++mmAll vs.length call vs)) (z0f 0 (rt_codeR++gc_codeR++mmAll vs.length call vs) (longR (rt_codeR++gc_codeR++mmAll vs.length call vs)));have:=h.few;omega
 have hb:znj (imgR (rt_codeR++gc_codeR++mmAll vs.length call vs) (mmSt vs.length call) 5000) 1099511627776=false:=by
  have hml:(memR (mmSt vs.length call) 5000).length=32:=by simp[memR]
  unfold znj imgR;simp only[hml];rw[qY om,qY om,qY om,qY om,qY om];rfl
 subst hR;unfold runR;rw[qc (by rw[hb];decide)];have hgo:=Z4k dC n (1099511627776-n) _ hg;rw[show n+(1099511627776-n)=(1099511627776:Int).toNat by omega]at hgo;rw[show(imgR (rt_codeR++gc_codeR++mmAll vs.length call vs) (mmSt vs.length call) 5000).code=codeA (asmR (rt_codeR++gc_codeR++mmAll vs.length call vs))from rfl,hgo];exact⟨rfl,h1,h2⟩
def defsR(l:List ItemR):List Int:=l.filterMap fun x=>if x.kind=1 then some x.label else none
structure Fine(A:Int→Prop)(d:List Int)(l:List ItemR):Prop where
 may:∀x∈l,mayR x=true
 defs:defsR l=d
 names:∀x∈l,z0z x=true→A x.label
theorem zit{op a b c n:Int}{f:FrmR}(hf:frmR op=f)(ho:0≤op∧op<32)(ha:regR a f.a=true)(hb:regR b f.b=true)(hc:regR c f.c=true)(hn:f.least≤n∧n≤f.most):(encR ⟨op,a,b,c,n⟩).isSome=true:=by
 have h:fitsR ⟨op,a,b,c,n⟩=true:=by
  unfold fitsR;simp only[hf,ha,hb,hc,zba,zdt,true_and];exact hn
 unfold encR;rw[qc (by show ¬(op<0∨32≤op);omega),qj h];rfl
theorem z7x{n:Int}(h:0≤n∧n≤31):regR n true=true:=by unfold regR;simp[h.1,h.2]
section
variable {A B:Int→Prop}{d e:List Int}{l m:List ItemR}{op a b c n:Int}
theorem Fine.cast(h:Fine A d l)(he:d=e):Fine A e l:=he▸h
theorem Fine.nil:Fine A [] []:=⟨sM,rfl,sM⟩
theorem Fine.app(h1:Fine A d l)(h2:Fine A e m):Fine A (d++e) (l++m):=by
 refine⟨fun x hx=>?_,?_,fun x hx=>?_⟩
 .rcases zma.1 hx with hx|hx
  .exact h1.may x hx
  .exact h2.may x hx
 .unfold defsR;rw[List.filterMap_append];exact congr (congrArg _ h1.defs) h2.defs
 .rcases zma.1 hx with hx|hx
  .exact h1.names x hx
  .exact h2.names x hx
theorem Fine.cons{x:ItemR}(hm:mayR x=true)(hk:x.kind≠1)(hn:z0z x=true→A x.label)(h:Fine A d l):Fine A d (x::l):=by
 refine⟨fun y hy=>?_,?_,fun y hy=>?_⟩
 .rcases zmc.1 hy with rfl|hy
  .exact hm
  .exact h.may y hy
 .unfold defsR;rw[List.filterMap_cons,qc hk];exact h.defs
 .rcases zmc.1 hy with rfl|hy
  .exact hn
  .exact h.names y hy
theorem Fine.ins{i:InsR}(he:(encR i).isSome=true)(h:Fine A d l):Fine A d (⟨0,i,0,0⟩::l):=
 Fine.cons (by unfold mayR;rw[qj rfl];simp[he]) (show(0:Int)≠1 by decide) (fun hn=>by cases hn) h
theorem Fine.lit{x:ItemR}(hx:(mayR x && !decide (x.kind=1) && !z0z x)=true)(h:Fine A d l):Fine A d (x::l):=by
 simp only[zba,qy,zdf]at hx;exact Fine.cons hx.1.1 hx.1.2 (fun hn=>by rw[hx.2]at hn;cases hn) h
theorem Fine.wth(hf:frmR op=withF)(ho:0≤op∧op<32)(ha:0≤a∧a≤31)(hb:0≤b∧b≤31)(hn:-32768≤n∧n≤32767)(h:Fine A d l):Fine A d (⟨0,⟨op,a,b,0,n⟩,0,0⟩::l):=
 Fine.ins (zit hf ho (z7x ha) (z7x hb) rfl hn) h
theorem Fine.pln(hf:frmR op=zcl)(ho:0≤op∧op<32)(ha:0≤a∧a≤31)(hb:0≤b∧b≤31)(hn:0≤n∧n≤65535)(h:Fine A d l):Fine A d (⟨0,⟨op,a,b,0,n⟩,0,0⟩::l):=
 Fine.ins (zit hf ho (z7x ha) (z7x hb) rfl hn) h
theorem Fine.far(hf:frmR op=farF)(ho:0≤op∧op<32)(ha:0≤a∧a≤31)(hb:0≤b∧b≤31)(hn:0≤n∧n≤63)(h:Fine A d l):Fine A d (⟨0,⟨op,a,b,0,n⟩,0,0⟩::l):=
 Fine.ins (zit hf ho (z7x ha) (z7x hb) rfl hn) h
theorem Fine.lab(h:Fine A d l):Fine A (n::d) (⟨1,⟨0,0,0,0,0⟩,n,0⟩::l):=by
 refine⟨fun y hy=>?_,?_,fun y hy=>?_⟩
 .rcases zmc.1 hy with rfl|hy
  .rfl
  .exact h.may y hy
 .unfold defsR;rw[List.filterMap_cons];exact congrArg _ h.defs
 .rcases zmc.1 hy with rfl|hy
  .intro hn;cases hn
  .exact h.names y hy
theorem Fine.bra(hf:frmR op=z20)(ho:24≤op∧op≤27)(ha:0≤a∧a≤31)(hb:0≤b∧b≤31)(hA:A n)(h:Fine A d l):Fine A d (⟨2,⟨op,a,b,0,0⟩,n,0⟩::l):=
 Fine.cons (by
  unfold mayR;rw[qc (show ¬(2:Int)=0 by decide),qc (show ¬(2:Int)=1 by decide),qj rfl,zit hf om (z7x ha) (z7x hb) rfl dC];simp[ho.1,ho.2]) (show(2:Int)≠1 by decide) (fun _=>hA) h
theorem Fine.jmp(ha:0≤a∧a≤31)(hA:A n)(h:Fine A d l):Fine A d (⟨3,⟨28,a,0,0,0⟩,n,0⟩::l):=
 Fine.cons (by
  unfold mayR;rw[qc (show ¬(3:Int)=0 by decide),qc (show ¬(3:Int)=1 by decide),qc (show ¬(3:Int)=2 by decide),qj rfl,zit (f:=⟨true,false,false,21,-1048576,1048575⟩) rfl om (z7x ha) rfl rfl dC];rfl) (show(3:Int)≠1 by decide) (fun _=>hA) h
theorem Fine.num(ha:0≤a∧a≤31)(h:Fine A d l):Fine A d (⟨4,⟨20,a,0,0,0⟩,0,n⟩::l):=
 Fine.cons (by
  unfold mayR;rw[qc (show ¬(4:Int)=0 by decide),qc (show ¬(4:Int)=1 by decide),qc (show ¬(4:Int)=2 by decide),qc (show ¬(4:Int)=3 by decide),qj rfl,zit (f:=⟨true,false,false,16,-32768,32767⟩) rfl om (z7x ha) rfl rfl dC];rfl) (show(4:Int)≠1 by decide) (fun hn=>by cases hn) h
theorem Fine.plc(ha:0≤a∧a≤31)(hA:A n)(h:Fine A d l):Fine A d (⟨5,⟨20,a,0,0,0⟩,n,0⟩::l):=
 Fine.cons (by
  unfold mayR;rw[qc (show ¬(5:Int)=0 by decide),qc (show ¬(5:Int)=1 by decide),qc (show ¬(5:Int)=2 by decide),qc (show ¬(5:Int)=3 by decide),qc (show ¬(5:Int)=4 by decide),qj rfl,zit (f:=⟨true,false,false,16,-32768,32767⟩) rfl om (z7x ha) rfl rfl dC];rfl) (show(5:Int)≠1 by decide) (fun _=>hA) h
end
structure XW(x:FX):Prop where
 at_:∀r,0≤x.at_ r∧x.at_ r≤2100
 slots:0≤x.slots∧x.slots≤2001
 params:0≤x.p.params∧x.p.params≤6
def BaseA(A:Int→Prop):Prop:=∀n∈baseN,A n
section
variable {x:FX}{A:Int→Prop}{pu:Int}
theorem reg_b(hw:XW x){r:Int}(h:x.col r=true):0≤x.reg r∧x.reg r≤31:=by
 have:=hw.at_ r;unfold FX.col at h;unfold FX.reg;have:=qZ h;omega
theorem get_b(hw:XW x){r s:Int}(hs:0≤s∧s≤31):0≤x.get r s∧x.get r s≤31:=by
 unfold FX.get;split
 .rename_i h;exact reg_b hw h
 .exact hs
theorem zsm(hw:XW x)(hp:0≤pu∧pu≤2100)(r:Int):-32768≤x.slot pu r∧x.slot pu r≤32767:=by
 have h1:=hw.at_ r;have h2:=hw.slots;unfold FX.slot;omega
theorem ze0(hw:XW x)(hp:0≤pu∧pu≤2100){r s:Int}(hs:0≤s∧s≤31):Fine A [] (x.getL pu r s):=by
 unfold FX.getL;split
 .exact Fine.nil
 .exact Fine.wth dC dC hs dC (zsm hw hp r) Fine.nil
theorem zei(hw:XW x)(hp:0≤pu∧pu≤2100){r s:Int}(hs:0≤s∧s≤31):Fine A [] (x.setL pu r s):=by
 unfold FX.setL;split
 .rename_i h;exact Fine.wth dC dC (reg_b hw h) hs dC Fine.nil
 .exact Fine.wth dC dC hs dC (zsm hw hp r) Fine.nil
theorem zsl(hw:XW x)(hp:0≤pu∧pu≤2100){r w:Int}:Fine A [] (x.numL pu r w):=by
 unfold FX.numL;split
 .rename_i h;exact Fine.num (reg_b hw h) Fine.nil
 .exact Fine.num dC (Fine.wth dC dC dC dC (zsm hw hp r) Fine.nil)
theorem zcb{n:Int}(hn:-32768≤n∧n≤32767):Fine A [] (growL n):=by
 unfold growL;split
 .exact Fine.nil
 .exact Fine.wth dC dC dC dC hn Fine.nil
end
def FineIn(A:Int→Prop)(lo hi:Int)(l:List ItemR):Prop:=lo≤hi∧∃d,Fine A d l∧d.Nodup∧∀n,n∈d↔lo≤n∧n<hi
theorem FineIn.none{A:Int→Prop}{lo:Int}{l:List ItemR}(h:Fine A [] l):FineIn A lo lo l:=⟨Int.le_refl _,[],h,List.nodup_nil,fun n=>by simp only[List.not_mem_nil,false_iff];omega⟩
theorem FineIn.app{A:Int→Prop}{a b c:Int}{l m:List ItemR}(h1:FineIn A a b l)(h2:FineIn A b c m):FineIn A a c (l++m):=by
 obtain⟨l1,d1,f1,n1,b1⟩:=h1;obtain⟨l2,d2,f2,n2,b2⟩:=h2;refine⟨om,d1++d2,f1.app f2,?_,fun n=>?_⟩
 .refine List.nodup_append.2 ⟨n1,n2,fun p hp q hq=>?_⟩;have:=(b1 p).1 hp;have:=(b2 q).1 hq;omega
 .rw[zma,b1,b2];omega
def regA(a b:Int):Prop:=b=a∨(a=1∧0≤b∧b≤31)
theorem zsp{a b:Int}{f:Bool}(h:regR a f=true)(hr:regA a b):regR b f=true:=by
 rcases hr with rfl|⟨rfl,h1,h2⟩
 .exact h
 .cases f
  .cases h
  .unfold regR;simp[h1,h2]
theorem zil{op a b d i1 i2 a' b' d' i:Int}(h1:(encR ⟨op,a,b,d,i1⟩).isSome=true)(h2:(encR ⟨op,a,b,d,i2⟩).isSome=true)(ha:regA a a')(hb:regA b b')(hd:regA d d')(hi:i1≤i∧i≤i2):(encR ⟨op,a',b',d',i⟩).isSome=true:=by
 have key:∀j,(encR ⟨op,a,b,d,j⟩).isSome=true→¬(op<0∨32≤op)∧fitsR ⟨op,a,b,d,j⟩=true:=fun j h=>by
  unfold encR at h;split at h
  .cases h
  split at h
  .rename_i q w;exact⟨q,w⟩
  .cases h
 obtain⟨k1,k2⟩:=key _ h1;obtain⟨_,k3⟩:=key _ h2;simp only[fitsR,zba,zdt]at k2 k3;have:fitsR ⟨op,a',b',d',i⟩=true:=by
  simp only[fitsR,zba,zdt];exact⟨⟨⟨⟨zsp k2.1.1.1.1 ha,zsp k2.1.1.1.2 hb⟩,zsp k2.1.1.2 hd⟩,om⟩,om⟩
 unfold encR;rw[qc k1,qj this];rfl
theorem Zii{k op a b d i1 i2 lab w a' b' d' i lab' w':Int}(h1:mayR ⟨k,⟨op,a,b,d,i1⟩,lab,w⟩=true)(h2:mayR ⟨k,⟨op,a,b,d,i2⟩,lab,w⟩=true)(ha:regA a a')(hb:regA b b')(hd:regA d d')(hi:i1≤i∧i≤i2)
  (hl:lab'=lab∨k=1∨k=2∨k=3∨k=5) (hw:w'=w∨k=4):mayR ⟨k,⟨op,a',b',d',i⟩,lab',w'⟩=true:=by
 unfold mayR at *;by_cases k0:k=0
 .subst k0;simp only[if_true,zba,zdt]at *;exact⟨⟨zil h1.1.1 h2.1.1 ha hb hd hi,om⟩,om⟩
 by_cases k1:k=1
 .subst k1;simp only[ins0,InsR.mk.injEq,if_true,qc k0,zba,zdt]at *;obtain⟨⟨rfl,rfl,rfl,rfl,rfl⟩,e⟩:=h1;unfold regA at ha hb hd;refine⟨⟨rfl,om,om,om,om⟩,om⟩
 by_cases k2:k=2
 .subst k2;simp only[if_true,qc k0,qc k1,zba,zdt]at *;exact⟨⟨⟨⟨zil h1.1.1.1.1 h2.1.1.1.1 ha hb hd hi,h1.1.1.1.2⟩,h1.1.1.2⟩,om⟩,om⟩
 by_cases k3:k=3
 .subst k3;simp only[if_true,qc k0,qc k1,qc k2,zba,zdt]at *;exact⟨⟨⟨zil h1.1.1.1 h2.1.1.1 ha hb hd hi,h1.1.1.2⟩,om⟩,om⟩
 by_cases k4:k=4
 .subst k4;simp only[if_true,qc k0,qc k1,qc k2,qc k3,zba,zdt]at *;exact⟨⟨⟨zil h1.1.1.1 h2.1.1.1 ha hb hd hi,h1.1.1.2⟩,om⟩,om⟩
 by_cases k5:k=5
 .subst k5;simp only[if_true,qc k0,qc k1,qc k2,qc k3,qc k4,zba,zdt]at *;exact⟨⟨⟨zil h1.1.1.1 h2.1.1.1 ha hb hd hi,h1.1.1.2⟩,om⟩,om⟩
 .simp only[qc k0,qc k1,qc k2,qc k3,qc k4,qc k5,qp]at h1
section
variable {x:FX}{A:Int→Prop}{pu nx:Int}{y:InsX}
theorem Z0p(hw:XW x){g:GI}(h:regG g=true):regA g.rep (g.v (x.gn pu nx y)):=by
 cases g<;>simp only[regG,qp,zdt]at h
 .exact .inl rfl
 .exact .inr ⟨rfl,get_b hw h⟩
theorem Z1e{g:GI}(h:zs5 g=true):g.v (x.gn pu nx y)=g.rep:=by
 cases g<;>simp only[zs5,qp]at h;rfl
theorem Zmv{un:Bool}{g:GI}{lo hi:Int}(h:immG un g=some (lo,hi))(hn:un=true→0≤y.num∧y.num≤1000):lo≤g.v (x.gn pu nx y)∧g.v (x.gn pu nx y)≤hi:=by
 unfold immG at h;split at h
 .cases h;exact⟨Int.le_refl _,Int.le_refl _⟩
 .rename_i k;split at h
  .rename_i hk;cases h;have:=hn hk.1;have hv:GI.v (x.gn pu nx y) (.add (.lit lo) .num)=IntKind.i64.wrap (lo+y.num):=rfl;rw[hv,w64 om om];omega
  .cases h
 .cases h
theorem Zi9(hw:XW x)(hp:0≤pu∧pu≤2100)(hA:BaseA A){un:Bool}{nl:Nat}{s:GS}(h:fineS un nl s=true)(hn:un=true→0≤y.num∧y.num≤1000)(hN:∀j:Nat,j<nl→A (nx+(j:Int))):
  Fine A ((labG s).toList.map fun j:Nat=>nx+(j:Int)) (s.l (x.gn pu nx y)):=by
 cases s with
 |it k op a b d i lab w=>
  simp only[fineS]at h;split at h
  case h_2=>cases h
  rename_i lo hi hb;simp only[zba]at h;obtain⟨⟨⟨⟨⟨⟨⟨h1,h2⟩,h3⟩,h4⟩,h5⟩,h6⟩,h7⟩,h8⟩:=h;have hlab:lab.v (x.gn pu nx y)=lab.rep∨k=1∨k=2∨k=3∨k=5:=by
   by_cases q1:k=1
   .exact .inr (.inl q1)
   rw[qc q1]at h7;by_cases q2:k=2∨k=3∨k=5
   .exact .inr (.inr q2)
   rw[qc q2]at h7;exact .inl (Z1e h7)
  have hww:w.v (x.gn pu nx y)=w.rep∨k=4:=by
   by_cases q:k=4
   .exact .inr q
   rw[qc q]at h8;exact .inl (Z1e h8)
  have hm:mayR ⟨k,⟨op.v (x.gn pu nx y),a.v (x.gn pu nx y),b.v (x.gn pu nx y),d.v (x.gn pu nx y),i.v (x.gn pu nx y)⟩,lab.v (x.gn pu nx y),w.v (x.gn pu nx y)⟩=true:=by
   rw[Z1e h1];exact Zii h5 h6 (Z0p hw h2) (Z0p hw h3) (Z0p hw h4) (Zmv hb hn) hlab hww
  refine⟨fun z hz=>?_,?_,fun z hz hzn=>?_⟩
  .rw[zsi.1 hz];exact hm
  .by_cases q:k=1
   .rw[qj q]at h7;obtain⟨j,hj⟩:=qH.1 h7;rw[hj];unfold labG at hj;split at hj
    .rename_i heq;cases heq;rw[qj q]at hj;cases hj;unfold defsR;simp only[GS.l,List.filterMap_cons,q,if_true,List.filterMap_nil];rfl
    .cases hj
   .have:labG (.it k op a b d i lab w)=none:=by
     unfold labG;split
     .rename_i heq;cases heq;exact qc q
     .rfl
    rw[this];unfold defsR;simp only[GS.l,List.filterMap_cons,q,if_false,List.filterMap_nil];rfl
  .have e:z=_:=zsi.1 hz;subst e;simp only[z0z,qu,zdt]at hzn;have hk1:k≠1:=om;rw[qc hk1,qj om]at h7;cases lab<;>simp only[nameG,qp,zdt]at h7
   .exact hA _ h7
   .exact hN _ h7
 |get j s=>
  simp only[fineS,zdt]at h;exact ze0 hw hp h
 |set g=>
  simp only[fineS]at h;cases g<;>simp only[zdt,qp]at h
  .exact zei hw hp h
  .exact zei hw hp (get_b hw h)
 |nmb g=>exact zsl hw hp
 |ask=>cases h
 |clo=>cases h
theorem Z20(hw:XW x)(hp:0≤pu∧pu≤2100)(hA:BaseA A){un:Bool}{nl:Nat}(hn:un=true→0≤y.num∧y.num≤1000)(hN:∀j:Nat,j<nl→A (nx+(j:Int))):
  ∀{ss:List GS},ss.all (fineS un nl)=true→Fine A ((ss.filterMap labG).map fun j:Nat=>nx+(j:Int)) (ss.flatMap (GS.l (x.gn pu nx y)))
 | [],_=>Fine.nil
 |s::ss,h=>by
  simp only[List.all_cons,zba]at h;have h1:=Zi9 (y:=y) hw hp hA h.1 hn hN;have h2:=Z20 hw hp hA hn hN h.2;rw[qQ];refine Fine.cast (Fine.app h1 h2) ?_;rw[List.filterMap_cons];cases labG s<;>rfl
end
section
variable {x:FX}{A:Int→Prop}{pu:Int}
theorem Zdx{words:Int}(hA:BaseA A):Fine A [] (needL words):=by
 unfold needL;exact Fine.cast (Fine.num dC (Fine.jmp dC (hA _ dC) (Fine.nil))) rfl
theorem Zcy{r words:Int}(hw:XW x)(hp:0≤pu∧pu≤2100)(hwords:-32768≤words∧words≤32767):Fine A [] (x.madeL pu r words):=by
 unfold FX.madeL;exact Fine.cast (Fine.app (Fine.lit dC (Fine.lit dC (Fine.wth rfl dC dC dC hwords (Fine.nil)))) (zei hw hp dC)) rfl
theorem Zdm{kind size:Int}:Fine A [] (headL kind size):=by
 unfold headL;exact Fine.cast (Fine.num dC (Fine.lit dC (Fine.nil))) rfl
theorem Z9w{to:Int}(hw:XW x)(hp:0≤pu∧pu≤2100):Fine A [] (x.truthL pu to):=by
 unfold FX.truthL;exact Fine.cast (Fine.app (Fine.lit dC (Fine.lit dC (Fine.nil))) (zei hw hp dC)) rfl
theorem zsj{a n:Int}(ha:0≤a∧a≤31):Fine A [] (tagL a n):=by
 unfold tagL;exact Fine.cast (Fine.pln rfl dC dC ha dC (Fine.num dC (Fine.nil))) rfl
theorem Z9m(hw:XW x)(hp:0≤pu∧pu≤2100){y:InsX}:Fine A [] (x.constL pu y):=by
 unfold FX.constL;exact zsl hw hp
theorem Zf9(hw:XW x)(hp:0≤pu∧pu≤2100)(hA:BaseA A){r:Int}:Fine A [] (x.retL pu r):=by
 have h:=hw.slots;have e:arI .sub .i64 0 x.slots=0-x.slots:=w64 om om;unfold FX.retL;exact Fine.cast (Fine.app (Fine.app (Fine.app (ze0 hw hp dC) (Fine.wth rfl dC dC (get_b hw dC) dC Fine.nil)) (zcb (by rw[e];omega))) (Fine.jmp dC (hA _ dC) Fine.nil)) rfl
theorem zt6(hw:XW x)(hp:0≤pu∧pu≤2100):∀(rs:List Int)(b:Int),0≤b→b+rs.length≤32767→Fine A [] (x.storesL pu b rs)
 | [],_,_,_=>Fine.nil
 |r::rs,b,h0,h1=>by
  rw[zlc]at h1;rw[FX.storesL];exact Fine.cast (Fine.app (Fine.app (ze0 hw hp dC) (Fine.wth rfl dC (get_b hw dC) dC om Fine.nil)) (zt6 hw hp rs (b+1) om om)) rfl
theorem Z40(hw:XW x)(hp:0≤pu∧pu≤2100)(hA:BaseA A){to num:Int}{rs:List Int}(hl:rs.length≤1000)(he:A (x.ents.getD num.toNat 0)):Fine A [] (x.closureL pu rs to num):=by
 unfold FX.closureL;exact Fine.cast (Fine.app (Fine.app (Fine.app (Fine.app (Zdx hA) Zdm) (Fine.plc dC he (Fine.far rfl dC dC dC dC (Fine.wth rfl dC dC dC dC Fine.nil)))) (zt6 hw hp rs 2 om om)) (Zcy hw hp om)) rfl
theorem zu8{a yes:Int}(ha:0≤a∧a≤31)(hy:A yes):∀ns:List Int,Fine A [] (z3k a yes ns)
 | []=>Fine.nil
 |n::ns=>by
  rw[z3k];exact Fine.cast (Fine.app (Fine.num dC (Fine.bra rfl dC ha dC hy Fine.nil)) (zu8 ha hy ns)) rfl
theorem zub{yes:Int}(hy:A yes):∀ns:List Int,Fine A [] (z7h yes ns)
 | []=>Fine.nil
 |n::ns=>by
  rw[z7h];exact Fine.cast (Fine.app (Fine.num dC (Fine.bra rfl dC dC dC hy Fine.nil)) (zub hy ns)) rfl
theorem Z9r{a yes out:Int}(ha:0≤a∧a≤31)(hy:A yes)(ho:A out)(ns:List Int):Fine A [out] (z6r a yes out ns):=by
 unfold z6r;exact Fine.cast (Fine.app (Fine.app (Fine.app (zsj ha) (Fine.bra rfl dC dC dC ho (Fine.far rfl dC dC ha dC (Fine.wth rfl dC dC dC dC (Fine.far rfl dC dC dC dC (Fine.pln rfl dC dC dC dC Fine.nil)))))) (zub hy ns)) (Fine.lab Fine.nil)) rfl
theorem Za0{op:List UInt8}{a yes out:Int}(ha:0≤a∧a≤31)(hy:A yes)(ho:A out):Fine A (if(z2d op a yes out).2=true then[out]else[]) (z2d op a yes out).1:=by
 unfold z2d
 repeat' split
 all_goals first
  |exact zu8 ha hy _
  |exact Z9r ha hy ho _
  |exact Fine.nil
  |exact Fine.cast (Fine.app (zsj ha) (Fine.bra rfl dC dC dC hy Fine.nil)) rfl
  |exact Fine.cast (Fine.app (zsj ha) (Fine.bra rfl dC dC dC ho (Fine.num dC (Fine.bra rfl dC ha dC hy (Fine.lab Fine.nil))))) rfl
  |contradiction
end
section
variable {x:FX}{A:Int→Prop}{pu nx:Int}
theorem Zap(hw:XW x)(hp:0≤pu∧pu≤2100){op:List UInt8}{r to:Int}(hA:∀n,nx≤n→n<nx+z0x op→A n):FineIn A nx (nx+z0x op) (x.askedL pu nx op r to):=by
 have hk:z0x op=if(z2d op (x.get r 26) nx (nx+1+1)).2=true then 4 else 3:=by
  unfold z0x;rw[Zgo op 0 0 0 (x.get r 26) nx (nx+1+1)]
 have h3:3≤z0x op:=by rw[hk];split<;>omega
 have a0:=hA nx om om;have a1:=hA (nx+1) om om;have a2:=hA (nx+1+1) om om;have a3:=hA (nx+z0x op-1) om om;have h:=(Fine.app (Fine.app (Fine.app (ze0 (A:=A) (r:=r) hw hp (s:=26) dC) (Za0 (op:=op) (get_b hw (r:=r) (s:=26) dC) a0 a2)) (Fine.lab (n:=nx+1) (Fine.num (a:=28) (n:=0) dC (Fine.jmp (a:=0) dC a3 (Fine.lab (n:=nx) (Fine.num (a:=28) (n:=1) dC (Fine.lab (n:=nx+z0x op-1) Fine.nil))))))) (Z9w (to:=to) hw hp));refine⟨om,_,h,?_,fun n=>?_⟩
 all_goals
  rw[hk];by_cases q:(z2d op (x.get r 26) nx (nx+1+1)).2=true
 all_goals
  simp only[q,if_true,if_false,List.nil_append,zan,List.cons_append,List.nodup_cons,zmc,List.not_mem_nil,or_false,not_false_eq_true,List.nodup_nil,and_true,qp]
 all_goals omega
theorem Z24{c:CodeX}(gc:GoodC c)(hw:XW x)(hp:0≤pu∧pu≤2100)(hA:BaseA A)(hH:x.p.holds≤1000)(y:InsX)(hok:insOk c x.p y=true)(hent:∀n:Int,0≤n→n<c.length→A (x.ents.getD n.toNat 0))(hN:∀n,nx≤n→n<insN nx y→A n):FineIn A nx (insN nx y) (x.insL pu nx y):=by
 have hg:=z83 hok;by_cases e1:y.op=constB
 .rw[show x.insL pu nx y=x.constL pu y from qj e1,show insN nx y=nx from qj e1];exact FineIn.none (Z9m hw hp)
 obtain⟨⟨G,st,hO⟩,hk⟩:=Z6s hok e1;have a1:x.insL pu nx y=st.segs.flatMap (GS.l (x.gn pu nx y)):=by unfold FX.insL;rw[qc e1,hO]
 have a2:insN nx y=nx+(st.nl:Int):=by unfold insN;rw[qc e1,hO]
 by_cases e4:y.op=cloB
 .obtain⟨q1,q2,q3⟩:=hg.closure e4;rw[e4,Zbu]at hO;cases hO;rw[a1,a2];have:Fine A [] (x.closureL pu y.args y.to y.num):=Z40 hw hp hA (zsv gc hok) (hent y.num om q2);rw[show nx+((0:Nat):Int)=nx from Int.add_zero _,show List.flatMap (GS.l (x.gn pu nx y)) [GS.clo]=x.closureL pu y.args y.to y.num from zan _];exact FineIn.none this
 have ho:=hk e4;rw[hO]at ho;simp only[okG,zba]at ho;obtain⟨ho,hask⟩:=ho;rw[a2]at hN;rw[a1,a2];unfold fineT at ho;rcases qu _ _ |>.mp ho with ho|ho
 .split at ho
  case h_2=>cases ho
  rename_i hs;rw[hs]at hask⊢;simp only[zdt]at hask;rw[show List.flatMap (GS.l (x.gn pu nx y)) [GS.ask]=x.askedL pu nx y.op (y.args.getD 0 0) y.to from zan _,hask.2];exact Zap hw hp fun n h1 h2=>hN n h1 (by rw[hask.2];exact h2)
 .simp only[zba,zdt]at ho;obtain⟨⟨⟨h1,h2⟩,h3⟩,h4⟩:=ho;have hf:=Z20 (nx:=nx) (y:=y) hw hp hA (fun e=>Zfr hok hH e4 (qZ e)) (fun j hj=>hN _ om om) h1;refine⟨om,_,hf,?_,fun n=>?_⟩
  .exact List.Pairwise.map _ (fun a b (hab:a≠b) (e:nx+(a:Int)=nx+(b:Int))=>hab om) h2
  .simp only[zmp];constructor
   .rintro⟨j,hj,rfl⟩;have:=qZ (zat.1 h3 j hj);omega
   .rintro⟨q1,q2⟩;have hm:(n-nx).toNat<st.nl:=om;have:=zat.1 h4 _ (wg.2 hm);exact⟨_,List.contains_iff_mem.1 this,om⟩
end
