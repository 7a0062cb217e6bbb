import Derived.Test.YtfkclejklgoccaaGreatPj
import Derived.Laws.Strings
import Derived.Lib.IndexAny
set_option linter.unusedSimpArgs false
set_option linter.unusedVariables false
set_option maxRecDepth 100000
namespace Go.Proofs.YtfkclejklgoccaaGreat.Vc
open Go
abbrev wz:Prop:=(∀E s,ev0 E s=ev E (fun _=>0) s)∧(∀E r i,ev E r (.atom i)=E.getD i (.bool false))∧(∀E r k n,ev E r (.int k n)=.int k n)∧(∀E r b,ev E r (.bool b)=.bool b)∧(∀E r l,ev E r (.str l)=.string ⟨l.toArray⟩)∧(∀E r c,ev E r (.nil c)=nilV c) ∧
  (∀E r f,ev E r (.fn f)=.func (.func f) #[] #[])∧(∀E r op k a b,ev E r (.ar op k a b)=.int k (arI op k (iOf (ev E r a)) (iOf (ev E r b))))∧(∀E r op a b,ev E r (.cmp op a b)=.bool (cmpI op (iOf (ev E r a)) (iOf (ev E r b)))) ∧
  (∀E r op a b,ev E r (.scmp op a b)=.bool (cmpS op (sOf (ev E r a)) (sOf (ev E r b))))∧(∀E r a b,ev E r (.beq a b)=.bool (bOf (ev E r a)==bOf (ev E r b)))∧(∀E r a,ev E r (.isnil a)=.bool (z61 (ev E r a)))∧(∀E r c a b,ev E r (.pick c a b)=if bOf (ev E r c)then ev E r a else ev E r b) ∧
  (∀E r a,ev E r (.not a)=.bool (!bOf (ev E r a)))∧(∀E r k a,ev E r (.conv k a)=.int k (k.wrap (iOf (ev E r a))))∧(∀E r a,ev E r (.len a)=.int .i64 (slLen (ev E r a)))∧(∀E r a,ev E r (.cap a)=.int .i64 (slCap (ev E r a)))∧(∀E r a,ev E r (.slen a)=.int .i64 (sOf (ev E r a)).size) ∧
  (∀E r p n,ev E r (.padd p n)=.pointer ((pOf (ev E r p)).map (·.add n)))∧(∀E r s i sz,ev E r (.elt s i sz)=eltV (ev E r s) (iOf (ev E r i)) sz)∧(∀E r s i,ev E r (.sidx s i)=.int .u8 (((sOf (ev E r s))[(iOf (ev E r i)).toNat]?).getD 0).toNat) ∧
  (∀E r s lo hi,ev E r (.ssub s lo hi)=.string ((sOf (ev E r s)).extract (iOf (ev E r lo)).toNat (iOf (ev E r hi)).toNat))∧(∀E r a b,ev E r (.cat a b)=.string (sOf (ev E r a)++sOf (ev E r b)))∧(∀E r s lo hi sz,ev E r (.sls s lo hi sz)=slsV (ev E r s) (iOf (ev E r lo)) (iOf (ev E r hi)) sz) ∧
  (∀E r s,evV E r (.sc s)=ev E r s)∧(∀E r cs,evV E r (.ag cs)=.agg (cs.map (ev E r)).toArray)∧(∀E r vs,evV E r (.tu vs)=.tuple (vs.map (partV E r)).toArray) ∧
  (∀(a:Value)(l m:List Value),a::l++m=a::(l++m))∧(∀l:List Value,[]++l=l)∧(∀(a d:Value)(l:List Value),(a::l).getD 0 d=a)∧(∀(a d:Value)(l:List Value)(n:Nat),(a::l).getD (n+1) d=l.getD n d) ∧
  (∀(α:Type)(f:α→Value)(a:α)(l:List α),(a::l).map f=f a::l.map f)∧(∀(α:Type)(f:α→Value),[].map f=[]) ∧
  (∀k n,iOf (.int k n)=n)∧(∀b,bOf (.bool b)=b)∧(∀s,sOf (.string s)=s)∧(∀p,pOf (.pointer p)=p)∧(∀b n c,slLen (.slice b n c)=n)∧(∀b n c,z0b (.slice b n c)=b) ∧
  (∀x y,cmpI .eql x y=(x==y))∧(∀x y,cmpI .neq x y=(x != y))∧(∀x y,cmpI .lss x y=decide (x<y))∧(∀x y,cmpI .leq x y=decide (x≤y))∧(∀x y,cmpI .gtr x y=decide (x>y))∧(∀x y,cmpI .geq x y=decide (x≥y)) ∧
  (∀k x y,arI .add k x y=k.wrap (x+y))∧(∀k x y,arI .sub k x y=k.wrap (x-y))∧(∀k x y,arI .mul k x y=k.wrap (x*y))∧(∀k x y,arI .quo k x y=k.wrap (x.tdiv y))∧(∀k x y,arI .rem k x y=x.tmod y) ∧
  (∀(p:Bool)(a b:Bool),(if p=true then Value.bool a else Value.bool b)=Value.bool (if p=true then a else b))
theorem evs:wz:=
 ⟨fun _ _=>rfl,fun _ _ _=>rfl,fun _ _ _ _=>rfl,fun _ _ _=>rfl,fun _ _ _=>rfl,fun _ _ _=>rfl,fun _ _ _=>rfl,fun _ _ _ _ _ _=>rfl,fun _ _ _ _ _=>rfl,fun _ _ _ _ _=>rfl,fun _ _ _ _=>rfl,fun _ _ _=>rfl,fun _ _ _ _ _=>rfl,fun _ _ _=>rfl,fun _ _ _ _=>rfl,fun _ _ _=>rfl,fun _ _ _=>rfl,fun _ _ _=>rfl,fun _ _ _ _=>rfl,fun _ _ _ _ _=>rfl,fun _ _ _ _=>rfl,fun _ _ _ _ _=>rfl,fun _ _ _ _=>rfl,fun _ _ _ _ _ _=>rfl,
  fun _ _ _=>rfl,fun _ _ _=>rfl,fun _ _ _=>rfl,fun _ _ _=>rfl,fun _=>rfl,fun _ _ _=>rfl,fun _ _ _ _=>rfl,fun _ _ _ _=>rfl,fun _ _=>rfl,fun _ _=>rfl,fun _=>rfl,fun _=>rfl,fun _=>rfl,fun _ _ _=>rfl,fun _ _ _=>rfl,
  fun _ _=>rfl,fun _ _=>rfl,fun _ _=>rfl,fun _ _=>rfl,fun _ _=>rfl,fun _ _=>rfl,fun _ _ _=>rfl,fun _ _ _=>rfl,fun _ _ _=>rfl,fun _ _ _=>rfl,fun _ _ _=>rfl,fun p a b=>by cases p<;>rfl⟩
abbrev wA:Prop:=(∀a b:Int,(a==b)=decide (a=b))∧(∀a b:Int,(a != b)=decide (a≠b))∧(∀a b:Bool,(if a=true then b else false)=(a&&b))∧(∀a b:Bool,(if a=true then true else b)=(a||b))
theorem evb:wA:=
 ⟨fun a b=>by by_cases h:a=b<;>simp[h],fun a b=>by by_cases h:a=b<;>simp[h],fun a b=>by cases a<;>rfl,fun a b=>by cases a<;>rfl⟩
theorem wy:wz∧wA:=⟨evs,evb⟩
theorem zl6:(∀(α:Type)(a:α)(l m:List α),a::l++m=a::(l++m))∧(∀(α:Type)(l:List α),[]++l=l)∧(∀(α:Type)(a d:α)(l:List α),(a::l).getD 0 d=a)∧(∀(α:Type)(a d:α)(l:List α)(n:Nat),(a::l).getD (n+1) d=l.getD n d)∧(∀(α β:Type)(f:α→β)(a:α)(l:List α),(a::l).map f=f a::l.map f)∧(∀(α β:Type)(f:α→β),[].map f=[]):=
 ⟨fun _ _ _ _=>rfl,fun _ _=>rfl,fun _ _ _ _=>rfl,fun _ _ _ _ _=>rfl,fun _ _ _ _ _=>rfl,fun _ _ _=>rfl⟩
theorem zb5:(∀a b:Int,(a==b)=decide (a=b))∧(∀a b:Int,(a != b)=decide (a≠b))∧(∀a b:Bool,(if a=true then b else false)=(a&&b))∧(∀a b:Bool,(if a=true then true else b)=(a||b))∧(∀(p:Bool)(a b:Bool),(if p=true then Value.bool a else Value.bool b)=Value.bool (if p=true then a else b)):=
 ⟨fun a b=>by by_cases h:a=b<;>simp[h],fun a b=>by by_cases h:a=b<;>simp[h],fun a b=>by cases a<;>rfl,fun a b=>by cases a<;>rfl,fun p a b=>by cases p<;>rfl⟩
theorem cns:(∀(α:Type)(a:α)(l m:List α),a::l++m=a::(l++m))∧(∀(α:Type)(l:List α),[]++l=l):=⟨fun _ _ _ _=>rfl,fun _ _=>rfl⟩
theorem Tri.ofKept{P:Program}{f:FuncId}{args:List Value}{H:PH}{v:Value}(h:∀w,Calls P f args.toArray w fun e w'=>e=.returned v∧w'=w):Gives P f args H v:=
 fun w hv=>(h w).mono fun e w'⟨h1,h2⟩=>by subst h2;exact⟨H,.refl hv,h1,wx H⟩
theorem Zlr(l:List UInt8)(i:Nat):(⟨l.toArray⟩:ByteArray)[i]?=l[i]?:=by
 by_cases h:i<l.length
 .rw[getElem?_pos _ _ (by simpa[ByteArray.size]using h),ByteArray.getElem_eq_getElem_data];simp[h]
 .rw[getElem?_neg _ _ (by simpa[ByteArray.size]using h)];simp;omega
theorem zs4{a b:List UInt8}:((⟨a.toArray⟩:ByteArray).toList==(⟨b.toArray⟩:ByteArray).toList)=decide (a=b):=by
 rw[ByteArray.toList_mk,ByteArray.toList_mk];by_cases e:a=b<;>simp[e]
def z9g(c:Int):Bool:=if 48≤c then decide (c≤57)else false
theorem zqm(c:Int)(H:PH):Gives zP 251 [.int .u8 c] H (.bool (z9g c)):=by
 refine qr zv4 [.int .u8 c] ⟨?_,wx H⟩;simp[evV,ev,cmpI,iOf,bOf,z9g]
theorem zx0(s:ByteArray)(c:Int)(H:PH):Gives zP 252 [.string s,.int .u8 c] H (vi (Lib.indexByte s.data.toList c.toNat.toUInt8)):=
 Tri.ofKept fun w=>Tryz.strings_IndexByte s c w
def signsL:List UInt8:=[33,36,37,38,42,47,58,60,61,62,63,94,95,126,43,45,46,64]
def nameB(c:UInt8):Bool:=z9g c.toNat||(decide (97≤c)&&decide (c≤122))||(decide (65≤c)&&decide (c≤90))||signsL.contains c
theorem Zbd{l:List UInt8}{k:Nat}{x:UInt8}(h:l[k]?=some x):((⟨l.toArray⟩:ByteArray)[((k:Int)).toNat]?).getD 0=x:=by rw[qN,Zlr,h];rfl
theorem zxw(a b:UInt8):((a.toNat:Int)==(b.toNat:Int))=decide (a=b):=by
 by_cases h:a=b
 .simp[h]
 .have:¬a.toNat=b.toNat:=fun e=>h (UInt8.toNat_inj.1 e);simp[h];omega
theorem u8_le(a b:UInt8):((a.toNat:Int)≤(b.toNat:Int))↔a≤b:=by rw[UInt8.le_iff_toNat_le];omega
theorem Z4u(c:UInt8):nameB c=if(if(if z9g c.toNat=true then true else if decide (97≤(c.toNat:Int))=true then decide ((c.toNat:Int)≤122)else false)=true then true else if decide (65≤(c.toNat:Int))=true then decide ((c.toNat:Int)≤90)else false)=true then true else signsL.contains c:=by
 have h1:=u8_le 97 c;have h2:=u8_le c 122;have h3:=u8_le 65 c;have h4:=u8_le c 90;have e1:decide (97≤(c.toNat:Int))=decide (97≤c):=by simpa using h1
 have e2:decide ((c.toNat:Int)≤122)=decide (c≤122):=by simpa using h2
 have e3:decide (65≤(c.toNat:Int))=decide (65≤c):=by simpa using h3
 have e4:decide ((c.toNat:Int)≤90)=decide (c≤90):=by simpa using h4
 unfold nameB;rw[e1,e2,e3,e4];cases z9g c.toNat<;>cases decide (97≤c)<;>cases decide (c≤122)<;>cases decide (65≤c)<;>cases decide (c≤90)<;>simp
theorem Z5u(c:UInt8)(H:PH):Gives zP 249 [.int .u8 c.toNat] H (.bool (nameB c)):=by
 refine qr zxy [.int .u8 c.toNat] ?_;refine⟨fun vs H'=>vs=[.bool (nameB c)]∧PH.le H H',?_,?_⟩
 .rintro vs H' ht ⟨rfl,hl⟩;exact⟨rfl,hl⟩
 .refine z03 [.bool (z9g c.toNat)] (qb 251) (zqm _ _) rfl z01 fun H1 h1=>?_;refine⟨fun hc=>?_,fun hc=>?_⟩
  .simp only[evs]at hc;exact⟨_,z00,by rw[Z4u,qj hc];rfl,h1⟩
  .simp only[evs]at hc;refine z03 [vi (Lib.indexByte signsL c)] (qb 252) ?_ rfl z01 fun H2 h2=>?_
   .have:=zx0 ⟨signsL.toArray⟩ (c.toNat:Int) H1;have e:((c.toNat:Int)).toNat.toUInt8=c:=sM;rw[e]at this;exact this
   .refine⟨_,z00,?_,ww h1 h2⟩;rw[Z4u,qc (by rw[hc];simp),Lib.contains_iff_indexByte];rfl
theorem Z4v{P:Program}{X:List PanicEntry→PH→Prop}{id f n s:Nat}{p:UInt8→Bool}{l:List UInt8}{init:SV}{k0:Nat}{rest:Fm VE}{E:List Value}{H:PH}{L:LK}{K:VE→List Value→PH→LK→Prop}
  (hn:E.length=n) (hs:E[s]?=some (txt l)) (hl:l.length≤maxLen) (hi:ev0 E init=.int .i64 k0) (hk0:k0≤l.length) (hok:callB P f=true) (hf:∀(c:UInt8)H',PH.le H H'→Gives P f [.int .u8 c.toNat] H' (.bool (p c)))
  (hK:∀E' H' L',PH.le H H'→(l.drop k0).all p=false→K (.sc (.bool false)) E' H' L') (hrest:∀H' L',PH.le H H'→(l.drop k0).all p=true→den P X rest (E++[.bool false,vi l.length]) H' L' K) :
  den P X (.loop id [.bool,.int .i64] [.bool false,init] (.ite (.cmp .lss (.atom (n+1)) (.slen (.atom s))) (.chk [] (.inStr (.atom s) (.atom (n+1))) (.call (.fn f) [.sc (.sidx (.atom s) (.atom (n+1)))] (.sc .bool) []
   (.ite (.not (.atom (n+2))) (.leaf (.sc (.bool false))) (.next id [.atom n,.ar .add .i64 (.atom (n+1)) (.int .i64 1)])))) rest)) E H L K:=by
 have hsn:s<n:=by
  rcases Nat.lt_or_ge s n with h|h
  .exact h
  .rw[wu om]at hs;cases hs
 refine⟨fun m vs H'=>∃k:Nat,vs=[.bool false,vi k]∧k0≤k∧k+m=l.length∧((l.take k).drop k0).all p=true∧PH.le H H',⟨l.length-k0,k0,?_,we _,om,?_,wx H⟩,?_⟩
 .simp only[wa,List.map_nil,hi];rfl
 .rw[List.drop_eq_nil_of_le (by simp;omega)];rfl
 rintro m vs H' ht ⟨k,rfl,hk,hkm,hall,hle⟩;have a1:(E++[Value.bool false,Value.int .i64 k]).getD (n+1) (Value.bool false)=.int .i64 k:=by subst hn;simp[zgd]
 have a0:(E++[Value.bool false,Value.int .i64 k]).getD n (Value.bool false)=.bool false:=by subst hn;simp[zgd]
 have a2:(E++[Value.bool false,Value.int .i64 k]).getD s (Value.bool false)=txt l:=by
  simp[zgd,List.getElem?_append_left (show s<E.length by omega),hs]
 simp only[maxLen]at hl;refine⟨fun hlt=>?_,fun hge=>?_⟩
 .simp only[ev0,ev,a1,a2,iOf,bOf,sOf,cmpI,z2e,zdt]at hlt;have hkl:k<l.length:=om;obtain⟨c,hc⟩:∃c,l[k]?=some c:=⟨_,zge hkl⟩;refine⟨fun _=>?_,?_⟩
  .simp only[Chk.holds,ev0,ev,a1,a2,iOf,sOf,z2e];omega
  .refine z03 [.bool (p c)] hok ?_ rfl z01 fun H2 h2=>?_
   .simp only[wa,List.map_nil,evV,ev,a1,a2,iOf,sOf,Zbd hc];exact hf c H' hle
   have b0:(E++[Value.bool false,Value.int .i64 k]++[Value.bool (p c)]).getD n (Value.bool false)=.bool false:=by subst hn;simp[zgd]
   have b1:(E++[Value.bool false,Value.int .i64 k]++[Value.bool (p c)]).getD (n+1) (Value.bool false)=.int .i64 k:=by subst hn;simp[zgd]
   have b2:(E++[Value.bool false,Value.int .i64 k]++[Value.bool (p c)]).getD (n+2) (Value.bool false)=.bool (p c):=by subst hn;simp[zgd]
   have hcd:c∈l.drop k0:=by
    refine zmg (i:=k-k0) ?_;rw[List.getElem?_drop,show k0+(k-k0)=k by omega];exact hc
   refine⟨fun hb=>?_,fun hb=>?_⟩
   .simp only[ev0,ev,b2,bOf,qy]at hb;refine hK _ H2 _ (ww hle h2) ?_;rw[List.all_eq_false];exact⟨c,hcd,by simp[hb]⟩
   .simp only[ev0,ev,b2,bOf,qU]at hb;refine⟨_,z00,m-1,om,k+1,?_,om,om,?_,ww hle h2⟩
    .simp only[wa,List.map_nil,ev0,ev,b0,b1,iOf,arI];rw[w64 om om];rfl
    .rw[q9,hc,List.drop_append_of_le_length (by simp;omega),List.all_append,hall];simp[hb]
 .simp only[ev0,ev,a1,a2,iOf,bOf,sOf,cmpI,z2e,zdf]at hge;have hkl:k=l.length:=om;subst hkl;refine hrest H' _ hle ?_;rw[List.take_length]at hall;exact hall
def numB(l:List UInt8):Bool:=match l with
 | []=>false
 |c::r=>if c==43||c==45 then !r.isEmpty&&r.all (fun c=>z9g c.toNat)else(c::r).all fun c=>z9g c.toNat
def ze1(l:List UInt8):Bool:=l.all nameB && !l.isEmpty&&decide (l.length≤64)&&decide (l≠[46]) && !numB l
theorem z68(a b:List UInt8):cmpS .neq ⟨a.toArray⟩ ⟨b.toArray⟩=decide (a≠b):=by
 simp only[cmpS,zs4];by_cases h:a=b<;>simp[h]
theorem z0m(a b:List UInt8):cmpS .eql ⟨a.toArray⟩ ⟨b.toArray⟩=decide (a=b):=by
 simp only[cmpS,zs4]
def signB(l:List UInt8):Bool:=match l with
 | []=>false
 |c::_=>c==43||c==45
theorem Zb8(l:List UInt8):numB l=(decide ((if signB l then 1 else 0)<l.length)&&(l.drop (if signB l then 1 else 0)).all fun c=>z9g c.toNat):=by
 cases l with
 |nil=>rfl
 |cons c r=>
  simp only[numB,signB];by_cases h:(c==43||c==45)=true
  .simp only[h,if_true];cases r<;>simp
  .simp only[h];simp
theorem zlt(l:List UInt8)(a b:Nat):(⟨l.toArray⟩:ByteArray).extract a b=⟨((l.take b).drop a).toArray⟩:=by
 apply ByteArray.ext;rw[ByteArray.data_extract];apply Array.ext';simp[List.drop_take]
theorem Zl7(l:List UInt8)(k:Nat):decide (l.drop k≠[])=decide (k<l.length):=by simp[List.drop_eq_nil_iff]
theorem Z0l(l:List UInt8)(hl:l.length≤maxLen)(H:PH):Gives zP 250 [txt l] H (.bool (numB l)):=by
 refine qr zts [txt l] ?_;have hm:=hl;simp only[maxLen]at hm;refine⟨fun vs H'=>vs=[txt (l.drop (if signB l then 1 else 0))]∧PH.le H H',?_,?_⟩
 .rintro vs H' ht ⟨rfl,hle⟩;refine Z4v (n:=2) (s:=1) (p:=fun c=>z9g c.toNat) (k0:=0) (l:=l.drop (if signB l then 1 else 0)) rfl rfl (by simp;omega) rfl om (qb 251) (fun c H' _=>zqm _ _) ?_ ?_
  .intro E' H' L' h1 h2;rw[List.drop_zero]at h2;refine⟨?_,ww hle h1⟩;rw[Zb8,h2];simp[evV,ev]
  .intro H' L' h1 h2;rw[List.drop_zero]at h2;refine⟨?_,ww hle h1⟩;rw[Zb8,h2];simp only[evs,z68,Bool.and_true,Zl7]
 .have hp:∀c r,l=c::r→((⟨l.toArray⟩:ByteArray)[(0:Int).toNat]?).getD 0=c:=fun c r h=>by subst h;exact Zbd (k:=0) rfl
  have hne:l≠[]→0<l.length:=fun h=>by cases l with|nil=>exact absurd rfl h|cons c r=>simp
  refine⟨fun hh=>?_,fun hh=>?_,fun hh=>?_,fun hh=>?_⟩
  .have:=hh (.scmp .neq (.atom 0) (.str []),true) sM;simp only[evs,z68,zdt]at this;have:=hne this;simp only[Chk.holds,evs,z2e];omega
  .have:=hh (.scmp .neq (.atom 0) (.str []),true) sM;simp only[evs,z68,zdt]at this;have:=hne this;simp only[Chk.holds,evs,z2e];omega
  .simp only[evs,z68]at hh;have hsg:signB l=true:=by
    cases l with
    |nil=>simp at hh
    |cons c r=>
     have e1:((c.toNat:Int)==43)=(c==43):=zxw c 43;have e2:((c.toNat:Int)==45)=(c==45):=zxw c 45;simp only[hp c r rfl,e1,e2]at hh;simp only[signB];by_cases h1:c=43
     .simp[h1]
     .simp[h1]at hh⊢;exact hh
   have h1l:1≤l.length:=by
    cases l with
    |nil=>simp[signB]at hsg
    |cons c r=>simp
   refine⟨fun _=>?_,?_⟩
   .simp only[Chk.holds,evs,z2e];omega
   .refine⟨_,z00,?_,wx H⟩;simp only[evs,z2e,hsg,if_true,zlt];simp
  .simp only[evs,z68]at hh;have hsg:signB l=false:=by
    cases l with
    |nil=>rfl
    |cons c r=>
     have e1:((c.toNat:Int)==43)=(c==43):=zxw c 43;have e2:((c.toNat:Int)==45)=(c==45):=zxw c 45;simp only[hp c r rfl,e1,e2]at hh;simp only[signB];by_cases h1:c=43
     .simp[h1]at hh
     .simp[h1]at hh⊢;exact hh
   exact⟨_,z00,by simp only[evs,hsg];simp,wx H⟩
theorem Zdb(l:List UInt8)(hl:l.length≤maxLen)(H:PH):Gives zP 246 [txt l] H (.bool (ze1 l)):=by
 refine qr Z44 [txt l] ?_;refine Z4v (n:=1) (s:=0) (p:=nameB) (k0:=0) rfl rfl hl rfl om (qb 249) (fun c H' _=>Z5u c H') ?_ ?_
 .intro E' H' L' h1 h2;rw[List.drop_zero]at h2;refine⟨?_,h1⟩;simp[ze1,h2,evV,ev]
 .intro H' L' h1 h2;rw[List.drop_zero]at h2;refine⟨fun vs H'=>vs=[.bool (ze1 l)]∧PH.le H H',?_,?_⟩
  .rintro vs H' ht ⟨rfl,hl⟩;exact⟨rfl,hl⟩
  .refine⟨fun hh=>?_,fun hh=>?_⟩
   .simp only[evs,z68,z2e]at hh;refine z03 [.bool (numB l)] (qb 250) (Z0l l hl H') rfl z01 fun H2 h3=>?_;refine⟨_,z00,?_,ww h1 h3⟩;simp only[evs,ze1,h2];cases l with
    |nil=>simp at hh
    |cons c r=>
     by_cases h64:(c::r).length≤64
     .by_cases hd:c::r=[46]
      .simp[hd]at hh
      .simp at h64;simp[hd,h64]
     .simp at h64;simp at hh;omega
   .simp only[evs,z68,z2e]at hh;refine⟨_,z00,?_,h1⟩;simp only[evs,ze1,h2];cases l with
    |nil=>simp
    |cons c r=>
     by_cases h64:(c::r).length≤64
     .by_cases hd:c::r=[46]
      .simp[hd]
      .simp at h64;simp[hd]at hh;omega
     .simp at h64;simp;omega
inductive Dat where
 |mk (kind int:Int) (text:List UInt8) (list:List Dat)
def Dat.kind:Dat→Int
 | .mk k _ _ _=>k
def Dat.int:Dat→Int
 | .mk _ n _ _=>n
def Dat.text:Dat→List UInt8
 | .mk _ _ t _=>t
def Dat.list:Dat→List Dat
 | .mk _ _ _ l=>l
def InI(n:Int):Prop:=-9223372036854775808≤n∧n≤9223372036854775807
mutual
def Dat.pv:Dat→List PV
 | .mk k n t l=>[.int .i64 k,.int .i64 n,.str t,.sl (Dats.pvs l)]
def Dats.pvs:List Dat→List (List PV)
 | []=>[]
 |d::l=>Dat.pv d::Dats.pvs l
end
theorem Dats.pvs_eq:∀l:List Dat,Dats.pvs l=l.map Dat.pv
 | []=>by simp only[Dats.pvs,List.map_nil]
 |d::l=>by simp only[Dats.pvs,wa,Dats.pvs_eq l]
instance encDat:Enc Dat:=⟨Dat.pv,4,fun d=>by cases d;simp only[Dat.pv,zlc,zln]⟩
abbrev Dat.Rep(H:PH)(d:Dat)(cs:List Value):Prop:=CsR H d cs
abbrev SlRep(H:PH)(l:List Dat)(sv:Value):Prop:=SlR H l sv
theorem inI64{n:Int}:(IntKind.i64.min≤n∧n≤IntKind.i64.max)↔InI n:=Iff.rfl
theorem Dat.Rep_iff{H:PH}{d:Dat}{cs:List Value}:d.Rep H cs↔∃sv,cs=[vi d.kind,vi d.int,txt d.text,sv]∧InI d.kind∧InI d.int∧d.text.length≤maxLen∧SlRep H d.list sv:=by
 obtain⟨k,n,t,l⟩:=d;unfold Dat.Rep CsR SlRep SlR slp;show PV.RepRow H (Dat.pv _) cs↔_;simp only[Dat.pv,PV.RepRow,Dat.kind,Dat.int,Dat.text,Dat.list,Dats.pvs_eq];constructor
 .rintro⟨v1,vs1,rfl,h1,v2,vs2,rfl,h2,v3,vs3,rfl,h3,v4,vs4,rfl,h4,rfl⟩;simp only[PV.Rep]at h1 h2 h3;obtain⟨rfl,h1⟩:=h1;obtain⟨rfl,h2⟩:=h2;obtain⟨rfl,h3⟩:=h3;exact⟨v4,rfl,inI64.1 h1,inI64.1 h2,h3,h4⟩
 .rintro⟨sv,rfl,h1,h2,h3,h4⟩;refine⟨_,_,rfl,?_,_,_,rfl,?_,_,_,rfl,?_,_,_,rfl,h4,rfl⟩
  .simp only[PV.Rep];exact⟨trivial,inI64.2 h1⟩
  .simp only[PV.Rep];exact⟨trivial,inI64.2 h2⟩
  .simp only[PV.Rep];exact⟨trivial,h3⟩
theorem Dat.Rep.le{H H':PH}(h:PH.le H H')(d:Dat){cs:List Value}(hd:d.Rep H cs):d.Rep H' cs:=CsR.le h hd
theorem SlRep.le{H H':PH}(h:PH.le H H'){l:List Dat}{sv:Value}(hs:SlRep H l sv):SlRep H' l sv:=SlR.le h hs
theorem SlRep.sl{H:PH}{l:List Dat}{sv:Value}(h:SlRep H l sv):∃b c,sv=.slice b l.length c:=SlR.sl h
theorem SlRep.max{H:PH}{l:List Dat}{sv:Value}(h:SlRep H l sv):l.length≤maxLen:=SlR.max h
theorem SlRep.get{H:PH}{l:List Dat}{sv:Value}(h:SlRep H l sv){i:Nat}{d:Dat}(hi:l[i]?=some d):
  (z0b sv).isSome=true∧∃cs,d.Rep H cs∧rowAt H (pOf (eltV sv (i:Int) 4)) cs∧rowAt H ((pOf (eltV sv (i:Int) 4)).map (·.add 0)) [vi d.kind]∧(pOf (eltV sv (i:Int) 4)).isSome=true:=by
 obtain⟨h1,h2,cs,h3,h4⟩:=SlR.get h hi;refine⟨h1,cs,h3,h4,?_,h2⟩;obtain⟨sv',h7,_⟩:=Dat.Rep_iff.1 h3;have:=z54 h4 0 1;rw[h7]at this;exact this
theorem Dat.Rep.tags{H:PH}{d:Dat}{cs:List Value}(h:d.Rep H cs):z07 [.int .i64,.int .i64,.str,.sl] cs=true:=by
 obtain⟨sv,rfl,_,_,_,hs⟩:=Dat.Rep_iff.1 h;obtain⟨b,c,rfl⟩:=hs.sl;rfl
theorem Z1i(a b:Int):(a==b)=decide (a=b):=by by_cases h:a=b<;>simp[h]
theorem Z1h(a b:Int):(a != b)=decide (a≠b):=by by_cases h:a=b<;>simp[h]
theorem zvn(a b:Bool):(if a=true then b else false)=(a&&b):=by cases a<;>rfl
theorem Z0y(a b:Bool):(if a=true then true else b)=(a||b):=by cases a<;>rfl
def z3t(k:Int):Bool:=decide (k=5)||decide (k=6)||decide (k=7)
theorem znl(k n:Int)(t:List UInt8)(b:Option Addr)(m c:Nat)(H:PH):Gives zP 236 [.agg #[vi k,vi n,txt t,.slice b m c]] H (.bool (z3t k)):=by
 refine qr zty [vi k,vi n,txt t,.slice b m c] ⟨?_,wx H⟩;have:(if decide (k≥5)=true then decide (k≤7)else false)=z3t k:=by
  unfold z3t;by_cases h:5≤k
  .by_cases h2:k≤7
   .have:k=5∨k=6∨k=7:=om;rcases this with rfl|rfl|rfl<;>rfl
   .have h5:k≠5:=om;have h6:k≠6:=om;have h7:k≠7:=om;simp[h2,h5,h6,h7]
  .have h5:k≠5:=om;have h6:k≠6:=om;have h7:k≠7:=om;simp[h,h5,h6,h7]
 simp only[evs,this]
def z78(d:Dat):Bool:=
 if d.kind=0 then decide (d.text=[])&&d.list.isEmpty&&(decide (d.int=0)||decide (d.int=1))
 else if d.kind=1 then decide (d.text=[])&&d.list.isEmpty&&decide (-1152921504606846976≤d.int)&&decide (d.int<1152921504606846976)
 else if d.kind=2 then decide (d.text=[])&&d.list.isEmpty&&decide (0≤d.int)&&decide (d.int≤255)
 else if d.kind=3 then decide (d.int=0)&&d.list.isEmpty&&decide (d.text.length≤4096)
 else if d.kind=4 then decide (d.int=0)&&d.list.isEmpty&&ze1 d.text
 else if d.kind=5∨d.kind=7 then decide (d.int=0)&&decide (d.text=[])
 else if d.kind=6 then decide (d.int=0)&&decide (d.text=[])&&decide (2≤d.list.length)&&(match d.list[d.list.length-1]? with|some e=>decide (e.kind≠5)&&decide (e.kind≠6)|none=>false)
 else false
theorem zoj{α:Type}(l:List α):decide ((l.length:Int)=0)=l.isEmpty:=by cases l<;>simp;omega
theorem zhr(n:Int)(k:Nat)(hk:k≤62):arI .and .i64 n ((2^k-1:Nat):Int)=n%(2^k:Nat):=by
 have hpos:0<2^k:=Nat.two_pow_pos k;have hle:2^k≤2^62:=Nat.pow_le_pow_right om hk;show IntKind.i64.wrap (((BitVec.ofInt 64 n &&& BitVec.ofInt 64 ((2^k-1:Nat):Int)).toNat:Nat):Int)=_;rw[BitVec.toNat_and,BitVec.toNat_ofInt,BitVec.toNat_ofInt];have e1:((((2^k-1:Nat):Int))%((2^64:Nat):Int)).toNat=2^k-1:=om;rw[e1,Nat.and_two_pow_sub_one_eq_mod];have e2:(((n%((2^64:Nat):Int)).toNat%2^k:Nat):Int)=n%(2^k:Nat):=by
  rw[Int.natCast_emod,Int.toNat_of_nonneg om];refine Int.emod_emod_of_dvd _ ?_;exact Int.natCast_dvd_natCast.2 (Nat.pow_dvd_pow 2 om)
 rw[e2];have:=Int.emod_lt_of_pos n (show(0:Int)<(2^k:Nat) by omega);have:=Int.emod_nonneg n (show((2^k:Nat):Int)≠0 by omega);exact w64 om om
theorem and_1(n:Int):arI .and .i64 n 1=n%2:=zhr n 1 om
theorem Zbx(n:Int):arI .and .i64 n 255=n%256:=zhr n 8 om
def dInts(d:Dat):Int:=
 if d.kind=0 then d.int%2 else if d.kind=1 then(if 1152921504606846975<(if -1152921504606846976>d.int then -1152921504606846976 else d.int)then 1152921504606846975 else(if -1152921504606846976>d.int then -1152921504606846976 else d.int))
 else if d.kind=2 then d.int%256 else 0
def z3i(d:Dat):List UInt8:=if d.kind=3 then d.text.take (min d.text.length 4096)else if d.kind=4 then d.text else[]
def dBad(d:Dat):Bool:=if d.int≠dInts d∨d.text≠z3i d then true else if 0<d.list.length then !z3t d.kind else false
def zyq(d:Dat):Bool:=match d.list[d.list.length-1]? with|some e=>decide (e.kind≠5)&&decide (e.kind≠6)|none=>false
def dForm(d:Dat):Bool:=if dBad d then false else if d.kind=4 then ze1 d.text else if d.kind=6 then(if 1<d.list.length then zyq d else false)else decide (0≤d.kind)&&decide (d.kind<8)
theorem zxz{α:Type}(l:List α):l.isEmpty=!decide (0<l.length):=by cases l<;>simp
theorem Zjv(d:Dat):dForm d=z78 d:=by
 obtain⟨k,n,t,l⟩:=d;simp only[dForm,z78,dBad,dInts,z3i,Dat.kind,Dat.int,Dat.text,Dat.list,zxz,z3t,zyq];have htk:t=t.take (min t.length 4096)↔t.length≤4096:=by
  constructor
  .intro h;have:=congrArg List.length h;simp at this;omega
  .intro h;rw[Nat.min_eq_left h,List.take_length]
 have hne:t=[]∨0<t.length:=by cases t<;>simp
 by_cases h0:k=0
 .subst h0;simp;grind
 by_cases h1:k=1
 .subst h1;simp;grind
 by_cases h2:k=2
 .subst h2;simp;grind
 by_cases h3:k=3
 .subst h3;simp;grind
 by_cases h4:k=4
 .subst h4;simp;grind
 by_cases h5:k=5
 .subst h5;simp;grind
 by_cases h7:k=7
 .subst h7;simp;grind
 by_cases h6:k=6
 .subst h6;simp;grind
 .simp[h0,h1,h2,h3,h4,h5,h7,h6];grind
theorem Zka(l:List UInt8)(n:Nat):(⟨l.toArray⟩:ByteArray).extract 0 n=⟨(l.take n).toArray⟩:=by rw[zlt];simp
theorem Z95(d:Dat){cs:List Value}(H:PH)(hd:d.Rep H cs):Gives zP 237 [.agg cs.toArray] H (.bool (z78 d)):=by
 rw[←Zjv];obtain⟨sv,rfl,hk,hn,ht,hs⟩:=Dat.Rep_iff.1 hd;obtain⟨b,c,rfl⟩:=hs.sl;refine qr Z3x [vi d.kind,vi d.int,txt d.text,.slice b d.list.length c] ?_;have hlen:d.list.length≤maxLen:=hs.max;simp only[maxLen]at hlen ht;refine⟨fun vs H'=>vs=[vi (dInts d),txt (z3i d)]∧PH.le H H',?_,?_⟩
 .rintro vs H1 _ ⟨rfl,hl1⟩;refine⟨fun vs H'=>vs=[.bool (dBad d)]∧PH.le H H',?_,?_⟩
  .rintro vs H2 _ ⟨rfl,hl2⟩;refine⟨fun hb=>?_,fun hb=>?_⟩
   .simp only[wy]at hb;refine⟨?_,hl2⟩;simp only[dForm,hb,if_true];rfl
   simp only[wy]at hb;refine⟨fun h4=>?_,fun h4=>?_⟩
   .simp only[wy,zdt]at h4;refine z03 [.bool (ze1 d.text)] (qb 246) (Zdb d.text (by simp only[maxLen];omega) H2) rfl z01 fun H3 h3=>?_;refine⟨?_,ww hl2 h3⟩;simp only[dForm,hb,qp,if_false,qj h4];rfl
   simp only[wy,zdf]at h4;refine⟨fun h6=>?_,fun h6=>?_⟩
   .simp only[wy,zdt]at h6;have hfo:dForm d=if 1<d.list.length then zyq d else false:=by
     simp only[dForm,hb,qp,if_false,qc h4,qj h6]
    refine⟨fun vs H'=>vs=[.bool (dForm d)]∧PH.le H H',?_,?_⟩
    .rintro vs H' _ ⟨rfl,hl⟩;exact⟨rfl,hl⟩
    have hs2:=hs.le hl2;have hcond:∀E:List Value,E.getD 3 (Value.bool false)=.slice b d.list.length c→bOf (ev0 E (.cmp .gtr (.len (.atom 3)) (.int .i64 1)))=decide (1<d.list.length):=by
     intro E e3;simp only[wy,e3];simp;omega
    have hidx:∀E:List Value,E.getD 3 (Value.bool false)=.slice b d.list.length c→1<d.list.length→ev0 E (.ar .sub .i64 (.len (.atom 3)) (.int .i64 1))=.int .i64 ((d.list.length-1:Nat):Int):=by
     intro E e3 h2;simp only[wy,e3];rw[w64 om om];congr 1;omega
    have hlast:1<d.list.length→∃e,d.list[d.list.length-1]?=some e:=fun h2=>⟨_,zge om⟩;have hin:∀E:List Value,E.getD 3 (Value.bool false)=.slice b d.list.length c→1<d.list.length→Chk.holds E (.inSl (.atom 3) (.ar .sub .i64 (.len (.atom 3)) (.int .i64 1))):=by
     intro E e3 h2;obtain⟨e,he⟩:=hlast h2;have:=(hs2.get he).1;show(z0b (E.getD 3 (Value.bool false))).isSome=true∧0≤iOf (ev0 E _)∧iOf (ev0 E _)<slLen (E.getD 3 (Value.bool false));rw[hidx E e3 h2,e3];exact⟨this,by simp only[iOf];omega,by simp only[iOf,slLen];omega⟩
    have hso:∀E:List Value,E.getD 3 (Value.bool false)=.slice b d.list.length c→1<d.list.length→Chk.holds E (.some (.elt (.atom 3) (.ar .sub .i64 (.len (.atom 3)) (.int .i64 1)) 4)):=by
     intro E e3 h2;obtain⟨e,he⟩:=hlast h2;obtain⟨_,_,_,_,_,h⟩:=hs2.get he;show(pOf (eltV (E.getD 3 (Value.bool false)) (iOf (ev0 E _)) 4)).isSome=true;rw[hidx E e3 h2,e3];exact h
    have hrow:∀E:List Value,E.getD 3 (Value.bool false)=.slice b d.list.length c→1<d.list.length→∀e,d.list[d.list.length-1]?=some e→rowAt H2 (pOf (ev0 E (.padd (.elt (.atom 3) (.ar .sub .i64 (.len (.atom 3)) (.int .i64 1)) 4) 0))) [.int .i64 e.kind]:=by
     intro E e3 h2 e he;obtain⟨_,_,_,_,h,_⟩:=hs2.get he;show rowAt H2 ((pOf (eltV (E.getD 3 (Value.bool false)) (iOf (ev0 E _)) 4)).map (·.add 0)) _;rw[hidx E e3 h2,e3];exact h
    refine⟨fun hg=>?_,fun hg=>?_,fun hc=>?_,fun hc=>?_⟩
    .exact hin _ rfl (qZ ((hcond _ rfl).symm.trans (hg _ (zsi.2 rfl))))
    .exact hso _ rfl (qZ ((hcond _ rfl).symm.trans (hg _ (zsi.2 rfl))))
    .rw[hcond _ rfl,zdt]at hc;obtain⟨e,he⟩:=hlast hc;rw[qj hc]at hfo;simp only[zyq,he]at hfo;refine⟨[vi e.kind],rfl,hrow _ rfl hc e he,fun _=>hin _ rfl hc,fun _=>hso _ rfl hc,fun hx=>?_,fun hx=>?_⟩
     .simp only[wy,zdt]at hx;refine⟨[vi e.kind],rfl,hrow _ rfl hc e he,_,z00,?_,hl2⟩;rw[hfo];simp only[wy];simp[hx]
     .simp only[wy,zdf]at hx;refine⟨_,z00,?_,hl2⟩;rw[hfo];simp only[wy];simp[hx]
    .rw[hcond _ rfl,zdf]at hc;rw[qc hc]at hfo;exact⟨_,z00,by rw[hfo];rfl,hl2⟩
   .simp only[wy,zdf]at h6;refine⟨?_,hl2⟩;simp only[dForm,hb,qp,if_false,qc h4,qc h6,wy,ge_iff_le]
  .refine⟨fun hb=>?_,fun hb=>?_⟩
   .simp only[wy,z68,zdt]at hb;have hb':d.int≠dInts d∨d.text≠z3i d:=by
     by_cases hx:d.int=dInts d
     .simp[hx,bOf]at hb;exact .inr hb
     .exact .inl hx
    refine⟨_,z00,?_,hl1⟩;have:dBad d=true:=by unfold dBad;rw[qj hb']
    rw[this];rfl
   simp only[wy,z68,zdt]at hb;have hb':¬(d.int≠dInts d∨d.text≠z3i d):=by
    by_cases hx:d.int=dInts d
    .simp[←hx,bOf]at hb;rw[hb];simp[←hx]
    .simp[hx,bOf]at hb
   refine⟨fun hl=>?_,fun hl=>?_⟩
   .simp only[wy,zdt]at hl;have hl':0<d.list.length:=om;refine z03 [.bool (z3t d.kind)] (qb 236) (znl _ _ _ _ _ _ H1) rfl z01 fun H3 h3=>?_;refine⟨_,z00,?_,ww hl1 h3⟩;have:dBad d=!z3t d.kind:=by unfold dBad;rw[qc hb',qj hl']
    rw[this];rfl
   .simp only[wy,zdf]at hl;have hl':¬0<d.list.length:=om;refine⟨_,z00,?_,hl1⟩;have:dBad d=false:=by unfold dBad;rw[qc hb',qc hl']
    rw[this];rfl
 .refine⟨fun h0=>?_,fun h0=>?_⟩
  .simp only[wy,zdt]at h0;refine⟨_,z00,?_,wx H⟩;have e1:dInts d=d.int%2:=by simp[dInts,h0]
   have e2:z3i d=[]:=by simp[z3i,h0]
   rw[e1,e2,←and_1];rfl
  simp only[wy,zdf]at h0;refine⟨fun h1=>?_,fun h1=>?_⟩
  .simp only[wy,zdt]at h1;refine⟨_,z00,?_,wx H⟩;have e2:z3i d=[]:=by simp[z3i,h1]
   rw[e2];simp only[wy,dInts,qc h0,qj h1];congr 1;by_cases hx:-1152921504606846976>d.int
   .simp[hx,iOf,bOf]
   .by_cases hy:1152921504606846975<d.int<;>simp[hx,hy,iOf,bOf]
  simp only[wy,zdf]at h1;refine⟨fun h2=>?_,fun h2=>?_⟩
  .simp only[wy,zdt]at h2;refine⟨_,z00,?_,wx H⟩;have e1:dInts d=d.int%256:=by simp[dInts,h2]
   have e2:z3i d=[]:=by simp[z3i,h2]
   rw[e1,e2,←Zbx];rfl
  simp only[wy,zdf]at h2;have e1:dInts d=0:=by simp[dInts,h0,h1,h2]
  refine⟨fun h3=>?_,fun h3=>?_⟩
  .simp only[wy,zdt]at h3;have e2:z3i d=d.text.take (min d.text.length 4096):=by simp[z3i,h3]
   have hmin:ev0 [.int .i64 d.kind,.int .i64 d.int,txt d.text,.slice b d.list.length c] (.pick (.cmp .lss (.int .i64 4096) (.slen (.atom 2))) (.int .i64 4096) (.slen (.atom 2)))=.int .i64 ((min d.text.length 4096:Nat):Int):=by
    simp only[wy,z2e];by_cases hx:(4096:Int)<d.text.length
    .rw[qj (by simpa using hx)];congr 1;omega
    .rw[qc (by simpa using hx)];congr 1;omega
   refine⟨fun _=>?_,_,z00,?_,wx H⟩
   .simp only[Chk.holds,hmin];simp only[wy,z2e];omega
   .rw[e1,e2];simp only[ev0]at hmin;simp only[wa,List.map_nil,ev0];rw[show ∀(E:List Value)(a b c:SV),ev E (fun _=>0) (.ssub a b c)=.string ((sOf (ev E (fun _=>0) a)).extract (iOf (ev E (fun _=>0) b)).toNat (iOf (ev E (fun _=>0) c)).toNat)from fun _ _ _ _=>rfl,hmin];simp only[wy];rw[qN];simp only[Int.toNat_zero,Zka]
  .simp only[wy,zdf]at h3;refine⟨_,z00,?_,wx H⟩;rw[e1];by_cases h4:d.kind=4
   .have e2:z3i d=d.text:=by simp[z3i,h4]
    rw[e2];simp only[wy];simp[h4]
   .have e2:z3i d=[]:=by simp[z3i,h3,h4]
    rw[e2];simp only[wy];simp[h4]
mutual
theorem Dat.ind{p:Dat→Prop}(h:∀d,(∀e∈d.list,p e)→p d):∀d,p d
 | .mk _ _ _ l=>h _ (Dats.ind h l)
theorem Dats.ind{p:Dat→Prop}(h:∀d,(∀e∈d.list,p e)→p d):∀(l:List Dat),∀e∈l,p e
 | [],e,he=>by cases he
 |d::l,e,he=>(zmc.1 he).elim (fun h1=>h1▸Dat.ind h d) (fun h1=>Dats.ind h l e h1)
end
mutual
def Dat.chk:Dat→Nat→Nat→Nat×Int
 | .mk k n t l,deep,seen=>if seen=4096 then(seen,22)else if z3t k=true∧deep=32 then(seen+1,21)else if z78 (.mk k n t l)=false then(seen+1,20)else Dats.chk l (deep+1) (seen+1)
def Dats.chk:List Dat→Nat→Nat→Nat×Int
 | [],_,seen=>(seen,0)
 |d::l,deep,seen=>if(Dat.chk d deep seen).2≠0 then Dat.chk d deep seen else Dats.chk l deep (Dat.chk d deep seen).1
end
theorem Dat.chk_eq(d:Dat)(deep seen:Nat):d.chk deep seen=if seen=4096 then(seen,22)else if z3t d.kind=true∧deep=32 then(seen+1,21)else if z78 d=false then(seen+1,20)else Dats.chk d.list (deep+1) (seen+1):=by
 cases d;simp only[Dat.chk,Dat.kind,Dat.list];rfl
mutual
theorem Dat.chk_le:∀(d:Dat)(deep seen:Nat),seen≤4096→(d.chk deep seen).1≤4096
 | .mk k n t l,deep,seen,h=>by
  simp only[Dat.chk];split
  .exact h
  split
  .simp only;omega
  split
  .simp only;omega
  .exact Dats.chk_le l _ _ om
theorem Dats.chk_le:∀(l:List Dat)(deep seen:Nat),seen≤4096→(Dats.chk l deep seen).1≤4096
 | [],_,seen,h=>by simp only[Dats.chk];exact h
 |d::l,deep,seen,h=>by
  simp only[Dats.chk];split
  .exact Dat.chk_le d _ _ h
  .exact Dats.chk_le l _ _ (Dat.chk_le d _ _ h)
end
theorem Z3q{d:Dat}(h:z78 d=true)(hl:d.list≠[]):z3t d.kind=true:=by
 obtain⟨k,n,t,l⟩:=d;simp only[z78,z3t,Dat.kind,Dat.list,Dat.int,Dat.text]at *;have:l.isEmpty=false:=by cases l<;>simp at hl⊢
 grind
theorem Zes:∀(d:Dat)(cs:List Value)(H:PH)(wr deep seen:Nat)(T:TypeId),d.Rep (H.del wr) cs→H wr=some (.cells #[vi seen] T (0,0))→deep≤32→seen≤4096 →
  Tri zP 223 #[.pointer (some ⟨wr,0,none⟩),.agg cs.toArray,vi deep] H fun e H'=>e=.returned (vi (d.chk deep seen).2)∧H' wr=some (.cells #[vi (d.chk deep seen).1] T (0,0))∧PH.le (H.del wr) (H'.del wr):=by
 refine Dat.ind ?_;intro d ih cs H wr deep seen T hd hwr hdeep hseen;have hd':=hd;obtain⟨sv,rfl,hk,hn,ht,hs⟩:=Dat.Rep_iff.1 hd;obtain⟨b,c,rfl⟩:=hs.sl;have hlen:d.list.length≤maxLen:=hs.max;simp only[maxLen]at hlen ht;rw[Dat.chk_eq];refine qr zjy [.pointer (some ⟨wr,0,none⟩),vi d.kind,vi d.int,txt d.text,.slice b d.list.length c,vi deep] ?_;have hrow:rowAt H (some ⟨wr,0,none⟩) [vi seen]:=⟨_,rfl,fun i v hi=>by
  rw[Addr.add_plain,PH.cell_at hwr];cases i with
  |zero=>simpa using hi
  |succ i=>simp at hi⟩
 have hs1:IntKind.i64.wrap ((seen:Int)+1)=((seen+1:Nat):Int):=by rw[w64 om om];omega
 refine⟨fun _=>rfl,[vi seen],rfl,hrow,?_⟩;refine⟨fun h0=>?_,fun h0=>?_⟩
 .simp only[wy,zdt]at h0;have h0':seen=4096:=om;refine⟨?_,?_,wx _⟩
  .rw[qj h0'];rfl
  .rw[qj h0'];exact hwr
 simp only[wy,zdf]at h0;rw[qc (show ¬seen=4096 by omega)];refine⟨[vi seen],rfl,hrow,⟨wr,0,none⟩,rfl,?_⟩;refine z3a _ 0 0 #[vi seen] H hwr sM (by simp[ev0,ev,oneC]) ?_;have hsp:z1b #[Value.int .i64 seen] (0+0) (List.map (ev0 ([.pointer (some ⟨wr,0,none⟩),.int .i64 d.kind,.int .i64 d.int,txt d.text,.slice b d.list.length c,.int .i64 deep]++[.int .i64 seen]++[.int .i64 seen])) [.ar .add .i64 (.atom 7) (.int .i64 1)])=#[.int .i64 ((seen+1:Nat):Int)]:=by
  simp only[wy,hs1];rfl
 rw[hsp];have hw1:(H.upd wr (.cells #[vi ((seen+1:Nat):Int)] T (0,0))) wr=some (.cells #[vi ((seen+1:Nat):Int)] T (0,0)):=PH.upd_same;have hdl:PH.le (H.del wr) ((H.upd wr (.cells #[vi ((seen+1:Nat):Int)] T (0,0))).del wr):=by rw[PH.del_upd];exact wx _
 generalize H.upd wr (.cells #[vi ((seen+1:Nat):Int)] T (0,0))=H1 at hw1 hdl⊢;refine z03 [.bool (z3t d.kind)] (qb 236) (znl _ _ _ _ _ _ H1) rfl z01 fun H2 h2=>?_;have hw2:=h2 _ _ hw1;have hd2:=ww hdl (PH.del_mono h2 wr);refine⟨fun h3=>?_,fun h3=>?_⟩
 .simp only[wy,zba,zdt]at h3;have h3':z3t d.kind=true∧deep=32:=⟨h3.1,om⟩;refine⟨?_,?_,hd2⟩
  .rw[qj h3'];rfl
  .rw[qj h3'];exact hw2
 simp only[wy]at h3;rw[qc (fun h=>by simp[h.1,h.2]at h3)];refine z03 [.bool (z78 d)] (qb 237) (Z95 d H2 (Dat.Rep.le (ww hd2 (PH.del_le _ _)) d hd')) rfl z01 fun H3 h4=>?_;have hw3:=h4 _ _ hw2;have hd3:=ww hd2 (PH.del_mono h4 wr);refine⟨fun h5=>?_,fun h5=>?_⟩
 .simp only[wy,qy]at h5;refine⟨?_,?_,hd3⟩
  .rw[qj h5];rfl
  .rw[qj h5];exact hw3
 simp only[wy,qU]at h5;rw[qc (show ¬z78 d=false by rw[h5];simp)];refine ⟨fun n vs H'=>∃(k s:Nat) (x:Int),vs=[vi x,vi k]∧k+n=d.list.length∧s≤4096∧Dats.chk d.list (deep+1) (seen+1)=Dats.chk (d.list.drop k) (deep+1) s∧H' wr=some (.cells #[vi s] T (0,0))∧PH.le (H.del wr) (H'.del wr),
  ⟨d.list.length,0,seen+1,0,rfl,om,om,sM,hw3,hd3⟩,?_⟩
 rintro n vs H' _ ⟨k,s,x,rfl,hkn,hs4,heq,hw,hle⟩;refine⟨fun h6=>?_,fun h6=>?_⟩
 .simp only[wy,zdt]at h6;have hkl:k<d.list.length:=om;obtain⟨e,he⟩:∃e,d.list[k]?=some e:=⟨_,zge hkl⟩;obtain⟨g1,ces,g2,g3,_,_⟩:=(hs.le hle).get he;have hnest:z3t d.kind=true:=Z3q h5 (fun h=>by rw[h]at hkl;simp at hkl);have hdp:deep≠32:=fun h=>by simp[hnest,h]at h3
  have hd1:IntKind.i64.wrap ((deep:Int)+1)=((deep+1:Nat):Int):=by rw[w64 om om];omega
  refine⟨fun _=>?_,?_⟩
  .simp only[Chk.holds,wy];exact⟨g1,om,om⟩
  have htags:=g2.tags;have hcall:=ih e (zmg he) ces H' wr (deep+1) s T g2 hw om hs4;obtain⟨sve,rfl,_⟩:=Dat.Rep_iff.1 g2;refine⟨_,htags,?_,?_⟩
  .simp only[wy];exact z0v (PH.del_le _ _) g3
  refine z02 (R:=fun e' H''=>e'=.returned (vi (e.chk (deep+1) s).2)∧H'' wr=some (.cells #[vi (e.chk (deep+1) s).1] T (0,0))∧PH.le (H'.del wr) (H''.del wr)) (qb 223) ?_ ?_
  .simp only[wy,hd1];exact hcall
  rintro e' H4 ⟨rfl,hw4,hl4⟩;refine⟨_,[vi (e.chk (deep+1) s).2],rfl,rfl,rfl,z01,?_⟩;have hle4:=ww hle hl4;have hdrop:d.list.drop k=e::d.list.drop (k+1):=by
   rw[List.drop_eq_getElem_cons hkl];congr 1;rw[zge hkl]at he;exact qW he
  rw[hdrop]at heq;simp only[Dats.chk]at heq;refine⟨fun h7=>?_,fun h7=>?_⟩
  .simp only[wy,zdt]at h7;rw[qj h7]at heq;refine⟨?_,?_,hle4⟩
   .rw[heq];rfl
   .rw[heq];exact hw4
  .simp only[wy,zdf,ne_eq,Decidable.not_not]at h7;rw[qc (by simp[h7])]at heq;refine⟨_,z00,n-1,om,k+1,(e.chk (deep+1) s).1,x,?_,om,Dat.chk_le e _ _ hs4,heq,hw4,hle4⟩;simp only[wy];rw[w64 om om];rfl
 .simp only[wy,zdf]at h6;have:k=d.list.length:=om;subst this;rw[List.drop_length]at heq;simp only[Dats.chk]at heq;refine⟨?_,?_,hle⟩
  .rw[heq];rfl
  .rw[heq];exact hw
theorem Z47(d:Dat)(cs:List Value)(H:PH)(hd:d.Rep H cs):Gives zP 209 [.agg cs.toArray] H (vi (d.chk 0 0).2):=by
 have hd':=hd;obtain⟨sv,rfl,hk,hn,ht,hs⟩:=Dat.Rep_iff.1 hd;obtain⟨b,c,rfl⟩:=hs.sl;refine qr Z1k [vi d.kind,vi d.int,txt d.text,.slice b d.list.length c] ?_;intro r hr;refine z02 (qb 223) (Zes d _ _ r 0 0 _ (Dat.Rep.le (PH.del_new H r _ hr) d hd') PH.upd_same om om) ?_;rintro e' H4 ⟨rfl,hw4,hl4⟩;refine⟨_,[vi (d.chk 0 0).2],rfl,rfl,rfl,z01,rfl,?_⟩;exact ww (PH.del_new H r _ hr) (ww hl4 (PH.del_le _ _))
theorem Zey:Tryz.prog.underlying 112=some (.slice 5):=kr
theorem Zlo:Tryz.prog.underlying 9=some .string:=kr
theorem uByte:Tryz.prog.underlying 5=some (.int .u8):=kr
