import Derived.Test.YtfkclejklgoccaaGreatPe
import Derived.Shelf.Small.Strs
import Derived.Shelf.Strings.Search1
import Derived.Shelf.Bits.Mul64
import Derived.Ground.SlgmProg
import Derived.Shelf.SortM.Plain
import Derived.Shelf.SortM.SortNone
import Derived.Test.YtfkclejklgoccaaGreatProg
set_option linter.unusedSimpArgs false
set_option linter.unusedVariables false
set_option maxRecDepth 100000
namespace Go.Proofs
open Go.Shelf
def Tryz.lays137_ren:Go.Shelf.Ren:=⟨fun |137=>252|217=>253|266=>254|n=>n,fun |9=>9|5=>5|3=>3|n=>n,fun |n=>n⟩
theorem Tryz.lays137:Go.Proofs.Lays.n137 Tryz.prog Tryz.lays137_ren:={
 mixed:=by kernel_rfl
 f137:=Tryz.func252.trans (congrArg some (by kernel_rfl))
 f217:=Tryz.func253.trans (congrArg some (by kernel_rfl))
 f266:=Tryz.func254.trans (congrArg some (by kernel_rfl))
 t3:=Tryz.underlying3
 a3:=Tryz.isAgg3
 z3:=Tryz.sizeOf3
 v3:=Tryz.zeroValue3
 t5:=Tryz.underlying5
 a5:=Tryz.isAgg5
 z5:=Tryz.sizeOf5
 v5:=Tryz.zeroValue5
 t9:=Tryz.underlying9
 a9:=Tryz.isAgg9
 z9:=Tryz.sizeOf9
 v9:=Tryz.zeroValue9 }
open Go.RowKit in
theorem Tryz.strings_IndexByte(s:ByteArray)(c:Int)(w:World):
  Calls Tryz.prog 252 #[.string s,.int .u8 c] w fun e w'=>e=.returned (.int .i64 (Lib.indexByte s.data.toList c.toNat.toUInt8))∧w'=w:=Any.strings_IndexByte Tryz.lays137 s c w
def Tryz.laysSlM5_f207_ren:Go.Shelf.Ren:=⟨fun |5=>207|8=>222|7=>221|19=>234|20=>235|10=>225|11=>226|12=>227|13=>228|14=>229|15=>230|16=>231|17=>232|18=>233|30=>240|31=>241|32=>242|33=>243|34=>244|35=>245|40=>248|n=>n,fun |23=>29|25=>3|3=>3|32=>90|22=>29|0=>0|44=>121|46=>198|4=>4|36=>261|35=>260|41=>25|5=>5|9=>9|53=>270|57=>274|63=>276|64=>201|n=>n,fun |n=>n⟩
theorem Tryz.laysSlM5_f207:Go.Proofs.SlLaysM.n5 Tryz.prog Tryz.laysSlM5_f207_ren:={
 mixed:=by kernel_rfl
 f5:=⟨Tryz.f207.name,by decide,Tryz.func207.trans (congrArg some (by kernel_rfl))⟩
 f7:=⟨Tryz.f221.name,by decide,Tryz.func221.trans (congrArg some (by kernel_rfl))⟩
 f8:=Tryz.func222.trans (congrArg some (by kernel_rfl))
 f10:=⟨Tryz.f225.name,by decide,Tryz.func225.trans (congrArg some (by kernel_rfl))⟩
 f11:=⟨Tryz.f226.name,by decide,Tryz.func226.trans (congrArg some (by kernel_rfl))⟩
 f12:=⟨Tryz.f227.name,by decide,Tryz.func227.trans (congrArg some (by kernel_rfl))⟩
 f13:=⟨Tryz.f228.name,by decide,Tryz.func228.trans (congrArg some (by kernel_rfl))⟩
 f14:=⟨Tryz.f229.name,by decide,Tryz.func229.trans (congrArg some (by kernel_rfl))⟩
 f15:=⟨Tryz.f230.name,by decide,Tryz.func230.trans (congrArg some (by kernel_rfl))⟩
 f16:=⟨Tryz.f231.name,by decide,Tryz.func231.trans (congrArg some (by kernel_rfl))⟩
 f17:=⟨Tryz.f232.name,by decide,Tryz.func232.trans (congrArg some (by kernel_rfl))⟩
 f18:=⟨Tryz.f233.name,by decide,Tryz.func233.trans (congrArg some (by kernel_rfl))⟩
 f19:=Tryz.func234.trans (congrArg some (by kernel_rfl))
 f20:=Tryz.func235.trans (congrArg some (by kernel_rfl))
 f30:=⟨Tryz.f240.name,by decide,Tryz.func240.trans (congrArg some (by kernel_rfl))⟩
 f31:=Tryz.func241.trans (congrArg some (by kernel_rfl))
 f32:=Tryz.func242.trans (congrArg some (by kernel_rfl))
 f33:=⟨Tryz.f243.name,by decide,Tryz.func243.trans (congrArg some (by kernel_rfl))⟩
 f34:=⟨Tryz.f244.name,by decide,Tryz.func244.trans (congrArg some (by kernel_rfl))⟩
 f35:=⟨Tryz.f245.name,by decide,Tryz.func245.trans (congrArg some (by kernel_rfl))⟩
 f40:=⟨Tryz.f248.name,by decide,Tryz.func248.trans (congrArg some (by kernel_rfl))⟩
 t0:=Tryz.underlying0
 a0:=Tryz.isAgg0
 z0:=Tryz.sizeOf0
 v0:=Tryz.zeroValue0
 t3:=Tryz.underlying3
 a3:=Tryz.isAgg3
 z3:=Tryz.sizeOf3
 v3:=Tryz.zeroValue3
 t4:=Tryz.underlying4
 a4:=Tryz.isAgg4
 z4:=Tryz.sizeOf4
 v4:=Tryz.zeroValue4
 t5:=Tryz.underlying5
 a5:=Tryz.isAgg5
 z5:=Tryz.sizeOf5
 v5:=Tryz.zeroValue5
 t9:=Tryz.underlying9
 a9:=Tryz.isAgg9
 z9:=Tryz.sizeOf9
 v9:=Tryz.zeroValue9
 t22:=Tryz.underlying29
 a22:=Tryz.isAgg29
 z22:=Tryz.sizeOf29
 v22:=Tryz.zeroValue29
 t23:=Tryz.underlying29
 a23:=Tryz.isAgg29
 z23:=Tryz.sizeOf29
 v23:=Tryz.zeroValue29
 t25:=Tryz.underlying3
 a25:=Tryz.isAgg3
 z25:=Tryz.sizeOf3
 v25:=Tryz.zeroValue3
 t32:=Tryz.underlying90
 a32:=Tryz.isAgg90
 z32:=Tryz.sizeOf90
 v32:=Tryz.zeroValue90
 t35:=Tryz.underlying260
 a35:=Tryz.isAgg260
 z35:=Tryz.sizeOf260
 v35:=Tryz.zeroValue260
 t36:=Tryz.underlying261
 a36:=Tryz.isAgg261
 z36:=Tryz.sizeOf261
 v36:=Tryz.zeroValue261
 t41:=Tryz.underlying25
 a41:=Tryz.isAgg25
 z41:=Tryz.sizeOf25
 v41:=Tryz.zeroValue25
 t44:=Tryz.underlying121
 a44:=Tryz.isAgg121
 z44:=Tryz.sizeOf121
 v44:=Tryz.zeroValue121
 t46:=Tryz.underlying198
 a46:=Tryz.isAgg198
 z46:=Tryz.sizeOf198
 v46:=Tryz.zeroValue198
 t53:=Tryz.underlying270
 a53:=Tryz.isAgg270
 z53:=Tryz.sizeOf270
 v53:=Tryz.zeroValue270
 t57:=Tryz.underlying274
 a57:=Tryz.isAgg274
 z57:=Tryz.sizeOf274
 v57:=Tryz.zeroValue274
 t63:=Tryz.underlying276
 a63:=Tryz.isAgg276
 z63:=Tryz.sizeOf276
 v63:=Tryz.zeroValue276
 t64:=Tryz.underlying201
 a64:=Tryz.isAgg201
 z64:=Tryz.sizeOf201
 v64:=Tryz.zeroValue201 }
open Go.Sort Go.RowKit in
theorem Tryz.slices_Sort_int(blk off cap:Nat)(zs:List Int)(w:World)(hH:Holds (Value.int .i64) w blk off zs.toArray)(hblk:blk<w.heap.size)(hsz:zs.length<4611686018427387904):
  Calls Tryz.prog 207 #[.slice (some ⟨blk,off,none⟩) zs.length cap] w fun e w'=>
   e=.returned (.tuple #[])∧∃n os,w'=grow (putRow (Value.int .i64) (Sort.ahead w n) blk off (zs.mergeSort fun x y=>decide (x≤y)).toArray) os:=AnyM.slices_Sort_int Tryz.laysSlM5_f207 blk off cap zs w hH hblk hsz
open Go.RowKit Go.Sort in
theorem Tryz.slices_Sort_int_none(p:Option Addr)(cap:Nat)(w:World):
  Calls Tryz.prog 207 #[.slice p 0 cap] w fun e w'=>e=.returned (.tuple #[])∧w'=w:=AnyM.slices_Sort_int_none Tryz.laysSlM5_f207 p cap w
end Go.Proofs
namespace Go.Proofs.YtfkclejklgoccaaGreat.Vc
open Go
theorem zl0{anc:List Nat}{i:Nat}:∀{l:List Edge},(l.foldr (fun e m=>if Region.binds .any e then(1 <<< e.on) ||| (anc.getD e.on 0 ||| m)else m) 0).testBit i=true →
  ∃e∈l,Region.binds .any e=true∧(e.on=i∨waits anc i e.on=true)
 | [],h=>by simp at h
 |e::l,h=>by
  simp only[List.foldr_cons]at h;split at h
  .rename_i hb;simp only[Nat.testBit_or,qu]at h;rcases h with h|h|h
   .refine⟨e,zms,hb,.inl ?_⟩;rw[Nat.shiftLeft_eq,Nat.one_mul,Nat.testBit_two_pow]at h;exact qZ h
   .exact⟨e,zms,hb,.inr h⟩
   .obtain⟨f,hf,h2⟩:=zl0 h;exact⟨f,zmm _ hf,h2⟩
  .obtain⟨f,hf,h2⟩:=zl0 h;exact⟨f,zmm _ hf,h2⟩
def z7b(ops:Array Oper)(anc:List Nat)(i:Nat):List Nat:=(List.range ops.size).filter (waits anc i)
theorem Z6e{ops:Array Oper}{anc:List Nat}(h:ancOk ops anc=true){i j:Nat}(hw:waits anc i j=true):j<ops.size:=by
 simp only[ancOk,zba,beq_iff_eq]at h;rcases Nat.lt_or_ge j ops.size with hj|hj
 .exact hj
 .unfold waits at hw;rw[zgd,wu om]at hw;simp at hw
theorem zdv{ops:Array Oper}{anc:List Nat}(h:ancOk ops anc=true){i j:Nat}:j∈z7b ops anc i↔waits anc i j=true:=by
 unfold z7b;rw[zmf,wg];exact⟨fun h=>h.2,fun hw=>⟨Z6e h hw,hw⟩⟩
theorem Z7j{ops:Array Oper}{anc:List Nat}(h:ancOk ops anc=true){i:Nat}:∀k∈z7b ops anc i,∃ok,ops[k]?=some ok∧∃e∈ok.after,Region.binds .any e=true∧(e.on=i∨e.on∈z7b ops anc i):=by
 intro k hk;have hw:=(zdv h).1 hk;have hlt:=Z6e h hw;simp only[ancOk,zba,beq_iff_eq]at h;have h2:=zat.1 h.2 k (wg.2 hlt);have hok:ops[k]?=some ops[k]:=by simp[hlt]
 rw[hok]at h2;simp only[beq_iff_eq]at h2;unfold waits at hw;rw[h2]at hw;obtain⟨e,he,hb,hon⟩:=zl0 (anc:=anc) (i:=i) hw;refine⟨_,hok,e,Array.mem_toList_iff.1 he,hb,?_⟩;rcases hon with hon|hon
 .exact .inl hon
 .refine .inr ?_;unfold z7b;rw[zmf,wg];refine⟨?_,hon⟩;rcases Nat.lt_or_ge e.on ops.size with hj|hj
  .exact hj
  .unfold waits at hon;rw[zgd,wu om]at hon;simp at hon
structure UpIs(ops:Array Oper)(listed:Array Bool)(done:List Nat):Prop where
 size:listed.size=ops.size
 up:∀k,upOf listed k=done.contains k
theorem UpIs.step{ops:Array Oper}{listed:Array Bool}{done:List Nat}(h:UpIs ops listed done){i:Nat}(hi:i<ops.size):UpIs ops (listed.setIfInBounds i true) (i::done):=by
 refine⟨by simp[h.size],fun k=>?_⟩;by_cases e:k=i
 .subst e;unfold upOf;simp[h.size,hi]
 .rw[znr e,h.up,List.contains_cons];simp[e]
theorem UpIs.getT{ops:Array Oper}{listed:Array Bool}{done:List Nat}(h:UpIs ops listed done){k:Nat}(hk:k<ops.size):listed.getD k true=done.contains k:=by
 rw[←h.up];unfold upOf;simp[h.size,hk]
theorem UpIs.ready{ops:Array Oper}{listed:Array Bool}{done:List Nat}(h:UpIs ops listed done):Region.ready .any ops listed=zbw ops done:=by
 unfold Region.ready zbw;refine List.filter_congr fun i hi=>?_;rw[h.getT (wg.1 hi)];congr 2;congr 1
 funext o
 congr 1
 funext e
 have:=h.up e.on;unfold upOf at this;rw[this]
theorem zg5{E F:List Value}{H:PH}{l:List (SV×List SV)}(hu:pendU E.length l=true):z0s (E++F) H l↔z0s E H l:=by
 have key:∀x∈l,ev0 (E++F) x.1=ev0 E x.1∧x.2.map (ev0 (E++F))=x.2.map (ev0 E):=by
  intro x hx;have:=zat.1 hu x hx;simp only[zba]at this;exact⟨z2q _ this.1,qO fun s hs=>z2q s (zat.1 this.2 s hs)⟩
 constructor
 .intro h x hx;have:=h x hx;rwa[(key x hx).1,(key x hx).2]at this
 .intro h x hx;have:=h x hx;rwa[(key x hx).1,(key x hx).2]
abbrev HE:=Hold×(World→Prop)
structure HOk(E:List Value)(H:PH)(w:World)(x:HE):Prop where
 pend:z0s E H x.1.2
 now:x.2 w
 stab:∀H' w',(Adv H w H' w'∨(x.1.2≠[]∧Vis H' w'))→z0s E H' x.1.2→x.2 w'
def Asks(anc:List Nat)(S:Up→World→Prop)(done:List Nat)(HL:List HE):Prop:=
 ∀(D:Up)(w':World),(∀k∈done,D k=true)→(∀x∈HL,(∀k,waits anc x.1.1 k=true→D k=true→k∈done)→x.2 w')→S D w'
theorem Asks.held{ops:Array Oper}{anc:List Nat}(ha:ancOk ops anc=true){S:Up→World→Prop}{done:List Nat}{HL:List HE}(h:Asks anc S done HL){i:Nat}(hi:i∉done)(pr:List (SV×List SV))(φ:World→Prop):
  Asks anc (held S i (z7b ops anc i) φ) (i::done) (((i,pr),φ)::HL):=by
 intro D w' hD hx;have hiD:D i=true:=hD i (zms);refine⟨h D w' (fun k hk=>hD k (zmm _ hk)) fun x hm hw=>hx x (zmm _ hm) fun k h1 h2=>zmm _ (hw k h1 h2),fun hno=>⟨?_,?_⟩⟩
 .refine h (D.less i) w' (fun k hk=>?_) fun x hm hw=>hx x (zmm _ hm) fun k h1 h2=>?_
  .have hne:k≠i:=fun e=>hi (by rw[←e];exact hk);simp[Up.less,hne,hD k (zmm _ hk)]
  .by_cases e:k=i
   .subst e;exact zms
   .exact zmm _ (hw k h1 (by simp[Up.less,e,h2]))
 .exact hx ((i,pr),φ) (zms) fun k h1 h2=>by
   have:=hno k ((zdv ha).2 h1);rw[h2]at this;cases this
theorem Asks.drop{anc:List Nat}{S:Up→World→Prop}{done:List Nat}{HL:List HE}{h:Hold}{φ:World→Prop}(hφ:∀w,φ w)(hA:Asks anc S done ((h,φ)::HL)):Asks anc S done HL:=by
 intro D w' hD hx;refine hA D w' hD fun x hm hw=>?_;rcases zmc.1 hm with rfl|hm
 .exact hφ w'
 .exact hx x hm hw
theorem Asks.step{anc:List Nat}{S:Up→World→Prop}{done:List Nat}{HL HL':List HE}(h:Asks anc S done HL){i:Nat}(hi:i∉done)(hsub:∀x∈HL,waits anc x.1.1 i=false→x∈HL'):Asks anc S (i::done) HL':=by
 intro D w' hD hx;refine h D w' (fun k hk=>hD k (zmm _ hk)) fun x hm hw=>?_;have hn:waits anc x.1.1 i=false:=by
  cases hc:waits anc x.1.1 i with
  |false=>rfl
  |true=>exact absurd (hw i hc (hD i (zms))) hi
 exact hx x (hsub x hm hn) fun k h1 h2=>zmm _ (hw k h1 h2)
theorem Asks.here{anc:List Nat}{S:Up→World→Prop}{done:List Nat}{HL:List HE}(h:Asks anc S done HL){i:Nat}(hi:i∉done){D:Up}(hD:∀k,D k=(i::done).contains k){w':World}(hx:∀x∈HL,waits anc x.1.1 i=false→x.2 w'):S D w':=by
 refine h D w' (fun k hk=>by rw[hD];simp[hk]) fun x hm hw=>hx x hm ?_;cases hc:waits anc x.1.1 i with
 |false=>rfl
 |true=>exact absurd (hw i hc (by rw[hD];simp)) hi
section
variable {P:Program}{D:Prot}{H0:PH}{w0:World}{st:St}{E:List Value}{r:Nat→Nat}{H:PH}{a:Act}{w:World}{X:List PanicEntry→PH→Prop}{L:LK}{ops:Array Oper}{anc:List Nat}
def ztg(st:St)(E:List Value)(r:Nat→Nat)(w':World):Prop:=∀b∈st.bx,w'.heap[r b.id]?=some (.cells (b.cs.map (ev E r)).toArray b.ty)
theorem Rel.view(hR:Rel D H0 w0 st E r H a w){o:Oper}{w':World}(hb:zn6 o=true→ztg st E r w'):Rel D.thin (fun _=>none) { w' with heap:=#[] } (zrp st o) E r (fun _=>none) a w':=by
 have hadv:Adv (fun _=>none) { w' with heap:=#[] } (fun _=>none) w':=⟨Nat.zero_le _,(fun k o h=>by cases h),(fun k hk=>absurd hk (Nat.not_lt_zero k)),rfl,rfl,rfl⟩;unfold zrp;cases hl:zn6 o with
 |true=>
  simp only[if_true];exact {
      adv:=hadv,tags:=hR.tags,size:=hR.size,df:=hR.df,wk:=trivial,fr:=hR.fr,inj:=hR.inj,nd:=hR.nd,asu:=hR.asu,kn:=hR.kn,
      bx:=fun b hm=>⟨hb hl b hm,rfl,Nat.zero_le _,(hR.bx b hm).2.2.2⟩ }
 |false=>
  simp only[qp,if_false];exact {
      adv:=hadv,tags:=hR.tags,size:=hR.size,df:=hR.df,wk:=trivial,fr:=hR.fr,asu:=hR.asu,kn:=hR.kn,
      inj:=(fun b hm=>by cases hm),nd:=List.nodup_nil,bx:=(fun b hm=>by cases hm) }
def lightφ(st:St)(E:List Value)(r:Nat→Nat)(o:Oper)(w':World):Prop:=zn6 o=true→ztg st E r w'
theorem zsb(hR:Rel D H0 w0 st E r H a w){o:Oper}{G:Guard}{cks:List Chk}{v:VE}(hw0:D.may o)(hg:z45 ops st o=.ctx G)(hl:z13 P (zrp st o) G o.op=some (cks,v))
  (hc:∀c∈cks,c.noBox=true∧(Guard.holds E r G→c.holds E)) :
  ∃u,YieldsIf P ops (lightφ st E r o) o u a∧Rel D H0 w0 (learn (st.set o.dst ⟨G,v⟩) G cks) E r H (a.put o.dst u) w:=by
 have hw:=zdz hR hg;by_cases hG:Guard.holds E r G
 .have hck:∀c∈cks,c.noBox=true∧c.holds E:=fun c hc'=>⟨(hc c hc').1,(hc c hc').2 hG⟩;refine⟨evV E r v,.inl ⟨hw.1 hG,fun w' hφ=>?_⟩,(hR.put o.dst G v _ (fun _=>rfl) (fun h=>absurd hG h) hw0).learn (fun _=>hck)⟩;exact zrv (hR.view hφ) hG hl hck o.dst o.type o.pos o.after o.guard
 .exact⟨undef,.inr ⟨hw.2 hG,rfl⟩,(hR.put o.dst G v undef (fun h=>absurd h hG) (fun _=>rfl) hw0).learn (fun h=>absurd (by subst h;exact fun x hx=>by cases hx) hG)⟩
theorem zt2(hR:Rel D H0 w0 st E r H a w):ztg st E r w:=fun b hb=>(hR.bx b hb).1
theorem Zea(hR:Rel D H0 w0 st E r H a w){H':PH}{w':World}(h:Adv H w H' w'):ztg st E r w':=fun b hb=>by
 obtain⟨x1,x2,_,_⟩:=hR.bx b hb;have hlt:r b.id<w.heap.size:=by
  rcases Nat.lt_or_ge (r b.id) w.heap.size with h|h
  .exact h
  .simp[Array.getElem?_eq_none h]at x1
 rw[(h.old _ hlt x2).1];exact x1
theorem zui{o:Oper}:(zir P ops st o=.never→z45 ops st o=.never) ∧
  (∀G cks v,zir P ops st o=.light G cks v→z45 ops st o=.ctx G∧z13 P (zrp st o) G o.op=some (cks,v)) ∧
  (∀T s,zir P ops st o=.load T s→z45 ops st o=.ctx []∧∃p,o.op=.load T p∧ops1 st [] p=some s∧s.under st.tags.length=true):=by
 unfold zir;split
 .rename_i h;exact⟨fun _=>h,fun _ _ _ h=>by(cases h),fun _ _ h=>by(cases h)⟩
 .exact⟨fun h=>by(cases h),fun _ _ _ h=>by(cases h),fun _ _ h=>by(cases h)⟩
 .rename_i G hG;split
  .rename_i cks v hl;refine⟨fun h=>by(cases h),fun G' cks' v' h=>?_,fun _ _ h=>by(cases h)⟩;cases h;exact⟨hG,hl⟩
  .split
   .rename_i T p hop _;split
    .rename_i s hs;split
     .rename_i hu;refine⟨fun h=>by(cases h),fun _ _ _ h=>by(cases h),fun T' s' h=>?_⟩;cases h;exact⟨hG,p,hop,hs,hu⟩
     .exact⟨fun h=>by(cases h),fun _ _ _ h=>by(cases h),fun _ _ h=>by(cases h)⟩
    .exact⟨fun h=>by(cases h),fun _ _ _ h=>by(cases h),fun _ _ h=>by(cases h)⟩
   .exact⟨fun h=>by(cases h),fun _ _ _ h=>by(cases h),fun _ _ h=>by(cases h)⟩
theorem Za5(hR:Rel D H0 w0 st E r H a w)(hu:st.under=true){pub:List Nat}{o:Oper}{T:TypeId}{p:Operand}{s:SV}(hw0:D.may o)(ho:o.op=.load T p)(hs:ops1 st [] p=some s)(hsu:s.under st.tags.length=true)(hg:z45 ops st o=.ctx []){K:St→List Value→PH→LK→Prop}
  (hden:den P X (zcm P pub st o []) E H L K) :
  ∃vs st' φ,st'.nl=st.nl∧YieldsIf P ops φ o ((z6s P T).pack vs) a∧Rel D H0 w0 st' (E++vs) r H (a.put o.dst ((z6s P T).pack vs)) w∧K st' (E++vs) H L ∧
   HOk (E++vs) H w ((0,[(s,z1v st.tags.length (z27 P 12 T))]),φ):=by
 have g0:Guard.holds E r ([]:Guard):=fun x hx=>by cases hx
 have hw:=zdz hR hg;have hp:=z0q hR g0 hs;have hlen:st.tags.length=E.length:=z1a hR.tags;have hden2:∃i,P.info? T=some i∧den P X (loadH P st o T i.size s) E H L K:=by
  unfold zcm at hden;rw[ho]at hden;simp only[hs]at hden;cases hi:P.info? T with
  |none=>rw[hi]at hden;exact hden.elim
  |some i=>rw[hi]at hden;exact⟨i,rfl,hden⟩
 obtain⟨i,hi,hden⟩:=hden2;unfold loadH at hden;split at hden
 .rename_i hc;obtain⟨ht,hnb,hl,hrs,hun⟩:=hc;obtain⟨vs,hts,⟨ad,had,hrow⟩,hk⟩:=hden;obtain⟨d,hd⟩:=qH.1 hun;have e1:=zhd (z0u hR ht);rw[z14 hnb,had]at e1;have hf:(z6s P T).fine:=by unfold z6s;split<;>trivial
  refine⟨vs,_,fun w'=>∀j v,vs[j]?=some v→w'.cell? (ad.add j)=some v,?_,.inl ⟨hw.1 g0,fun w' hφ=>?_⟩,hR.res hu hf (by rw[hrs];exact hts) o.dst hw0,hk,?_⟩
  .cases o.dst<;>rfl
  .have hload:=zum hi hts hl hrs hd hφ;obtain⟨dst,op,ty,pos,af,gd⟩:=o;cases ho;simp[execOp,Instr.loadAt,hp,z14 hnb,e1,Instr.sureAddr,hload]
  .have hrow':(z1v st.tags.length (z27 P 12 T)).map (ev0 (E++vs))=vs:=by rw[hlen];exact zc0 (r:=fun _=>0) _ E vs hts
   have hs':ev0 (E++vs) s=ev0 E s:=z2q s (by rw[←hlen];exact hsu);refine⟨?_,fun j v hj=>hR.vis.cell (hrow j v hj),?_⟩
   .intro x hx;rw[zsi.1 hx];exact⟨ad,by rw[hs'];exact had,fun j v hj=>hrow j v (by rw[hrow']at hj;exact hj)⟩
   .intro H' w' hadv hpd j v hj;obtain⟨ad',h1,h2⟩:=hpd _ (zsi.2 rfl);rw[hs',had]at h1;cases h1;exact(hadv.elim (·.vis) (·.2)).cell (h2 j v (by rw[hrow'];exact hj))
 .exact hden.elim
end
section
variable {P:Program}{D:Prot}{H0:PH}{w0:World}{X:List PanicEntry→PH→Prop}{L:LK}{ops:Array Oper}{anc:List Nat}{N:Act→World→Prop}
theorem QX.put{o:Oper}{v:Value}(hw:D.may o)(c:List PanicEntry)(a:Act)(w:World)(h:QX D H0 w0 X N (.panic c) (a.put o.dst v) w):QX D H0 w0 X N (.panic c) a w:=by
 obtain⟨h1,h2⟩:=h;refine⟨h1,?_⟩;cases hd:o.dst with
 |none=>rw[hd]at h2;exact h2
 |some d=>rw[hd]at h2;exact D.back a d v (hw d hd) h2
theorem zov{done:List Nat}{i:Nat}(h:i∈zbw ops done):i<ops.size∧i∉done:=by
 unfold zbw at h;obtain⟨h1,h2⟩:=zmf.1 h;simp only[zba,qy,List.contains_eq_mem,zdf]at h2;exact⟨wg.1 h1,h2.1⟩
theorem zq6(ha:ancOk ops anc=true)(hns:Region.noSelect ops=true){E:List Value}{H:PH}{a:Act}{w:World}{S:Up→World→Prop}{done:List Nat}{HL:List HE}{listed:Array Bool}{f i:Nat}{o:Oper}{φ:World→Prop}{v:Value}
  (hU:UpIs ops listed done) (him:i∈zbw ops done) (hw0:D.may o) (ho:ops[i]?=some o) (hfree:freeL ops anc done i o=true) (hy:YieldsIf P ops φ o v a) (hφ:φ w) (hS:Asks anc S done HL) (hHL:∀x∈HL,HOk E H w x)
  (hk:z92 P .any ops (QX D H0 w0 X N) (held S i (z7b ops anc i) φ) f (listed.setIfInBounds i true) (a.put o.dst v) w):z92 P .any ops (QX D H0 w0 X N) S (f+1) listed a w:=by
 obtain⟨hlt,hnd⟩:=zov him;simp only[freeL,zba]at hfree;refine Z5e ho (Region.noSelect_spec hns) (QX.put hw0) (Z7j ha) f listed a w ?_ ?_ (by rw[hU.ready];exact him) hy hφ ?_ hk
 .intro j oj hj hne hun hW;have hjl:j<ops.size:=(Array.getElem?_eq_some_iff.1 hj).1;have h2:=zat.1 hfree.2 j (wg.2 hjl);rw[hU.getT hjl]at hun;have hw:waits anc i j=false:=by
   cases hc:waits anc i j with
   |false=>rfl
   |true=>exact absurd ((zdv ha).2 hc) hW
  rw[hj,hun,hw]at h2;simpa[hne]using h2
 .intro k hk;rw[hU.up];cases hc:done.contains k with
  |false=>rfl
  |true=>
   have h1:=zat.1 hfree.1 k (by simpa using hc);rw[(zdv ha).1 hk]at h1;cases h1
 .exact hS.here hnd (hU.step hlt).up fun x hx _=>(hHL x hx).now
theorem Z27{E:List Value}{H:PH}{K:St→List Value→PH→LK→Prop}:∀{l:List (Fm St)} {a:Fm St},den P X (bothL a l) E H L K→∀b∈a::l,den P X b E H L K
 | [],a,h,b,hb=>by rw[zsi.1 hb];exact h
 |c::l,a,h,b,hb=>by
  obtain⟨h1,h2⟩:=h;rcases zmc.1 hb with rfl|hb
  .exact h1
  .exact Z27 h2 b hb
theorem Z6y(s:St)(d:Option Nat)(e:Ent):(s.set d e).nl=s.nl:=by cases d<;>rfl
theorem Z8n(s:St)(d:Option Nat)(e:Ent)(G:Guard)(cks:List Chk):(learn (s.set d e) G cks).nl=s.nl:=by unfold learn;split<;>exact Z6y _ _ _
theorem Zad(hmay:∀(i:Nat)(o:Oper),ops[i]?=some o→D.may o)(ha:ancOk ops anc=true)(hns:Region.noSelect ops=true){pub:List Nat}{K:St→List Value→PH→LK→Prop}:
  ∀(n:Nat)(done:List Nat)(hold:List Hold)(st:St)(E:List Value)(r:Nat→Nat)(H:PH)(a:Act)(w:World)(S:Up→World→Prop)(HL:List HE)(listed:Array Bool)(fuel:Nat),
   UpIs ops listed done→fuel+done.length=ops.size→HL.map (·.1)=hold→(∀x∈HL,HOk E H w x)→Asks anc S done HL→Rel D H0 w0 st E r H a w →
   den P X (drawL P pub ops anc n done hold st) E H L K →
   (∀st' F r' H' a' w',st'.nl=st.nl→Rel D H0 w0 st' (E++F) r' H' a' w'→K st' (E++F) H' L→N a' w') →
   z92 P .any ops (QX D H0 w0 X N) S fuel listed a w:=by
 intro n
 induction n with
 |zero=>intro done hold st E r H a w S HL listed fuel _ _ _ _ _ _ hden;exact hden.elim
 |succ n ih=>
  intro done hold st E r H a w S HL listed fuel hU hfl hHL hHO hS hR hden hK;have hrdy:=hU.ready;simp only[drawL]at hden;cases hrd:zbw ops done with
  |nil=>
   rw[hrd]at hden;exact Zao (hrdy.trans hrd) (hK st [] r H a w rfl (by rw[zan];exact hR) (by rw[zan];exact hden)) _
  |cons i0 l0=>
   rw[hrd]at hden;simp only at hden;split at hden
   case isFalse=>exact hden.elim
   rename_i hlt;obtain⟨f,rfl⟩:∃f,fuel=f+1:=⟨fuel-1,om⟩;have hfl':∀i,f+(i::done).length=ops.size:=fun i=>by simp only[zlc];omega
   split at hden
   .rename_i i hfind;have him:i∈zbw ops done:=by rw[hrd];exact List.mem_of_find?_eq_some hfind
    obtain⟨hil,hnd⟩:=zov him;have hat:=List.find?_some hfind;split at hden
    case h_2=>exact hden.elim
    rename_i o ho;simp only[Zcc,ho,zba]at hat;have hfree:=hat.2;obtain⟨k1,k2,k3⟩:=zui (P:=P) (ops:=ops) (st:=st) (o:=o);unfold Z22 at hden;split at hden
    .rename_i hk;refine zq6 ha hns hU him (hmay _ _ ho) ho hfree (v:=undef) (φ:=fun _=>True) (.inr ⟨zfb hR (k1 hk),rfl⟩) trivial hS hHO ?_;refine ih (i::done) hold _ E r H _ w _ HL _ f (hU.step hil) (hfl' i) hHL hHO ((hS.held ha hnd [] _).drop fun _=>trivial) (hR.put o.dst [] (.tu []) undef (fun _=>rfl) (fun _=>rfl) (hmay _ _ ho)) hden ?_;intro st' F r' H' a' w' h1 h2 h3;exact hK st' F r' H' a' w' (h1.trans (Z6y _ _ _)) h2 h3
    .rename_i G cks v hk;obtain⟨hg,hl⟩:=k2 _ _ _ hk;obtain⟨hc,hd⟩:=zkk (r:=r) hden;obtain⟨u,hy,hR'⟩:=zsb hR (hmay _ _ ho) hg hl hc;refine zq6 ha hns hU him (hmay _ _ ho) ho hfree hy (fun _=>zt2 hR) hS hHO ?_;have hK':∀st' F r' H' a' w',st'.nl=(learn (st.set o.dst ⟨G,v⟩) G cks).nl→Rel D H0 w0 st' (E++F) r' H' a' w'→K st' (E++F) H' L→N a' w':=
      fun st' F r' H' a' w' h1 h2 h3=>hK st' F r' H' a' w' (h1.trans (Z8n _ _ _ _ _)) h2 h3
     cases hil':zn6 o with
     |true=>
      rw[hil']at hd;refine ih (i::done) _ _ E r H _ w _ (((i,[]),lightφ st E r o)::HL) _ f (hU.step hil) (hfl' i) (by rw[wa,hHL];rfl) ?_ (hS.held ha hnd [] _) hR' hd hK';intro x hx;rcases zmc.1 hx with rfl|hx
      .exact⟨(fun x hx=>by cases hx),fun _=>zt2 hR,fun H' w' hadv _ _=>Zea hR (hadv.resolve_right fun h=>h.1 rfl)⟩
      .exact hHO x hx
     |false=>
      rw[hil']at hd;exact ih (i::done) hold _ E r H _ w _ HL _ f (hU.step hil) (hfl' i) hHL hHO ((hS.held ha hnd [] _).drop fun _ h=>by rw[hil']at h;cases h) hR' hd hK'
    .rename_i T s hk;obtain⟨hg,p,hop,hs,hsu⟩:=k3 _ _ hk;split at hden
     case isFalse=>exact hden.elim
     rename_i hu;rw[z3b]at hden;obtain⟨vs,st',φ,e1,hy,hR',hd,hO⟩:=Za5 hR hu.1 (hmay _ _ ho) hop hs hsu hg hden;refine zq6 ha hns hU him (hmay _ _ ho) ho hfree hy hO.now hS hHO ?_;refine ih (i::done) _ st' (E++vs) r H _ w _ (((i,[(s,z1v st.tags.length (z27 P 12 T))]),φ)::HL) _ f (hU.step hil) (hfl' i) (by rw[wa,hHL]) ?_ (hS.held ha hnd _ _) hR' hd ?_
     .intro x hx;rcases zmc.1 hx with rfl|hx
      .exact⟨hO.pend,hO.now,hO.stab⟩
      .have hpu:pendU E.length x.1.2=true:=by
        rw[←z1a hR.tags];exact zat.1 hu.2 x.1 (by rw[←hHL];exact zmp.2 ⟨x,hx,rfl⟩)
       have:=hHO x hx;exact⟨(zg5 hpu).2 this.pend,this.now,fun H' w' h1 h2=>this.stab H' w' h1 ((zg5 hpu).1 h2)⟩
     .intro st'' F r' H' a' w' h1 h2 h3;rw[zaa]at h2 h3;exact hK st'' (vs++F) r' H' a' w' (h1.trans e1) h2 h3
    .exact hden.elim
   .split at hden
    .rename_i c _;split at hden
     .rename_i hc;have hb:=zbf (z0u hR hc.2);have hb0:bOf (ev0 E c)=bOf (ev E r c):=by rw[z14 hc.1]
      cases hbb:bOf (ev E r c)with
      |true=>
       rw[hbb]at hb hb0;exact ih done hold _ E r H a w S HL listed (f+1) hU hfl hHL hHO hS (hR.assume hb) (hden.1 hb0) hK
      |false=>
       rw[hbb]at hb hb0;exact ih done hold _ E r H a w S HL listed (f+1) hU hfl hHL hHO hS (hR.assume hb) (hden.2 hb0) hK
     .exact hden.elim
    .refine⟨fun h=>(by rw[hrdy,hrd]at h;cases h),fun i hi=>?_⟩;have him:i∈zbw ops done:=by rw[←hrdy];exact hi
     obtain⟨hil,hnd⟩:=zov him;have hd1:den P X (zhu P pub ops anc (drawL P pub ops anc n) done hold st i) E H L K:=by
      refine Z27 hden _ ?_;rw[←wa (f:=zhu P pub ops anc (drawL P pub ops anc n) done hold st),←hrd];exact zmp.2 ⟨i,him,rfl⟩
     unfold zhu at hd1;split at hd1
     .exact hd1.elim
     rename_i o ho;obtain⟨k1,k2,k3⟩:=zui (P:=P) (ops:=ops) (st:=st) (o:=o);have hSn:S (upOf (listed.setIfInBounds i true)) w:=hS.here hnd (hU.step hil).up fun x hx _=>(hHO x hx).now;split at hd1
     .rename_i hk;refine YieldsIf.wpOp (S:=fun _=>True) (v:=undef) ho (.inr ⟨zfb hR (k1 hk),rfl⟩) trivial ⟨hSn,?_⟩;refine ih (i::done) hold _ E r H _ w S HL _ f (hU.step hil) (hfl' i) hHL hHO (hS.step hnd fun x hx _=>hx) (hR.put o.dst [] (.tu []) undef (fun _=>rfl) (fun _=>rfl) (hmay _ _ ho)) hd1 ?_;intro st' F r' H' a' w' h1 h2 h3;exact hK st' F r' H' a' w' (h1.trans (Z6y _ _ _)) h2 h3
     .rename_i G cks v hk;obtain⟨hg,hl⟩:=k2 _ _ _ hk;obtain⟨hc,hd⟩:=zkk (r:=r) hd1;obtain⟨u,hy,hR'⟩:=zsb hR (hmay _ _ ho) hg hl hc;refine YieldsIf.wpOp ho hy (fun _=>zt2 hR) ⟨hSn,?_⟩;refine ih (i::done) hold _ E r H _ w S HL _ f (hU.step hil) (hfl' i) hHL hHO (hS.step hnd fun x hx _=>hx) hR' hd ?_;intro st' F r' H' a' w' h1 h2 h3;exact hK st' F r' H' a' w' (h1.trans (Z8n _ _ _ _ _)) h2 h3
     .split at hd1
      .rename_i hg;split at hd1
       case isFalse=>exact hd1.elim
       rename_i hu;rw[z3b]at hd1;have hG:Guard.holds E r ([]:Guard):=fun x hx=>by cases hx
       have hw:=(zdz hR hg).1 hG;have hpd:z0s E H (zzr anc hold i):=by
        intro x hx;obtain⟨h,hh,hxh⟩:=List.mem_flatMap.1 hx;have hh':=(zmf.1 hh).1;rw[←hHL]at hh';obtain⟨y,hy,rfl⟩:=zmp.1 hh';exact(hHO y hy).pend x hxh
       have hpu0:∀x∈HL,waits anc x.1.1 i=false→(z7a st o=false∨x.1.2≠[])∧pendU E.length x.1.2=true:=by
        intro x hx hwx;have:=zat.1 hu.2 x.1 (by rw[←hHL];exact zmp.2 ⟨x,hx,rfl⟩);rw[hwx]at this;simp only[Bool.false_or,zba,qy,qu]at this;rw[←z1a hR.tags];refine⟨this.1.imp id fun h e=>?_,this.2⟩;rw[e]at h;exact absurd h sM
       have hh:HeavyOk P o a w (fun v w'=>∃st' F r' H',st'.nl=st.nl∧Rel D H0 w0 st' (E++F) r' H' (a.put o.dst v) w'∧(∀x∈HL,waits anc x.1.1 i=false→z0s E H' x.1.2∧(Adv H w H' w'∨(x.1.2≠[]∧Vis H' w')))∧den P X (drawL P pub ops anc n (i::done) (hold.filter fun h=>!waits anc h.1 i) st') (E++F) H' L K) (PanOf H0 w0 X):=by
        cases hbs:z7a st o with
        |true=>
         refine(Z7v hR hbs hd1).mono (fun v w'⟨st',r',h1,h2,h3⟩=>⟨st',[],r',H,h1,by rw[zan];exact h2,fun x hx hwx=>⟨(hHO x hx).pend,?_⟩,by rw[zan];exact h3⟩) fun _ _ h=>h;rcases(hpu0 x hx hwx).1 with h|h
         .rw[hbs]at h;cases h
         .exact .inr ⟨h,h2.vis⟩
        |false=>
         refine(zrm (pend:=zzr anc hold i) hR hu.1 hpd (hmay _ _ ho) hd1).mono (fun v w'⟨st',F,r',H',h1,h2,h3,h4⟩=>⟨st',F,r',H',h1,h2,fun x hx hwx=>?_,h4⟩) fun _ _ h=>h;obtain⟨h5,h6⟩:=h3 hbs;refine⟨fun y hy=>h5 y ?_,.inl h6⟩;refine List.mem_flatMap.2 ⟨x.1,zmf.2 ⟨?_,by simp[hwx]⟩,hy⟩;rw[←hHL];exact zmp.2 ⟨x,hx,rfl⟩
       unfold wpOp;rw[ho];simp only[hw,if_true];refine .inl (hh _ _ a rfl ?_ ?_)
       .rintro v w' ⟨st',F,r',H',h1,h2,hpx,h4⟩;have hst:=hpu0;have hnow:∀x∈HL,waits anc x.1.1 i=false→x.2 w':=fun x hx hwx=>(hHO x hx).stab H' w' (hpx x hx hwx).2 (hpx x hx hwx).1;refine⟨hS.here hnd (hU.step hil).up hnow,?_⟩;refine ih (i::done) _ st' (E++F) r' H' _ w' S (HL.filter fun x=>!waits anc x.1.1 i) _ f (hU.step hil) (hfl' i) ?_ ?_ (hS.step hnd fun x hx hwx=>zmf.2 ⟨hx,by simp[hwx]⟩) h2 h4 ?_
        .rw[←hHL,List.filter_map];rfl
        .intro x hx;obtain⟨hx,hwx⟩:=zmf.1 hx;simp only[qy]at hwx;obtain⟨p1,p2⟩:=hpx x hx hwx;have hpu:=(hst x hx hwx).2;exact⟨(zg5 hpu).2 p1,hnow x hx hwx,fun H'' w'' g1 g2=>(hHO x hx).stab H'' w'' (p2.elim (fun p=>g1.elim (fun g=>.inl (p.trans g)) .inr) fun p=>.inr ⟨p.1,g1.elim (·.vis) (·.2)⟩) ((zg5 hpu).1 g2)⟩
        .intro st'' F' r'' H'' a'' w'' g1 g2 g3;rw[zaa]at g2 g3;exact hK st'' (F++F') r'' H'' a'' w'' (g1.trans h1) g2 g3
       .intro ch w' hp;exact⟨hp,hR.df⟩
      .exact hd1.elim
end
theorem zkh(P:Program)(pub:List Nat):zb6 P pub:=by
 intro D H0 w0 X L ops hmay st E r H a w K N hm hR hden hK;unfold drawR at hden;simp only at hden;split at hden
 .rename_i hc;refine Z2u (S:=fun _ _=>True) _ _ _ _ ?_
  .have hR':Rel D H0 w0 st E r H a { w with drawn:=w.drawn+1 }:=
    { hR with adv:=⟨hR.adv.size,hR.adv.vis,hR.adv.old,hR.adv.os,hR.adv.tape,hR.adv.out⟩,wk:=D.same hR.wk rfl,bx:=hR.bx }
   refine Zad (fun i o ho=>hmay o (Array.mem_toList_iff.2 (Array.mem_of_getElem? ho))) hc.1 hc.2 400 [] [] st E r H a _ _ [] _ ops.size ⟨sM,fun k=>?_⟩ sM rfl (fun x hx=>by cases hx) (fun _ _ _ _=>trivial) hR' hden hK;unfold upOf;by_cases h:k<ops.size<;>simp[h]
 .exact hden.elim
theorem Zf7{P:Program}{op:Opt}{f:FuncId}{fn:Func}{E:List Value}{args:Array Value}{H:PH}{R:Ending→PH→Prop}(hf:P.funcs[f]?=some fn)(hE:z07 ((z0c P fn).flatMap RS.tags) E=true)(hargs:args.toList=z19 (z0c P fn) E)
  (hden:den P (fun c H'=>R (.panicked c) H') (execF P op fn) E H [] (fun ve E' H' _=>R (.returned (evV E' (fun _=>0) ve)) H')):Tri P f args H R:=
 Za4 (zkh P op.pub) hf hE hargs hden
