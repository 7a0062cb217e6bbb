import Derived.Test.YtfkclejklgoccaaGreatNj
import Derived.Laws.Strings
import Derived.Lib.IndexAny
set_option linter.unusedSimpArgs false
set_option linter.unusedVariables false
set_option maxRecDepth 100000
namespace Go.Proofs.YtfkclejklgoccaaGreat.Vc
open Go
theorem evs:(∀E s,ev0 E s=ev E (fun _=>0) s)∧(∀E r i,ev E r (.atom i)=E.getD i (.bool false))∧(∀E r k n,ev E r (.int k n)=.int k n)∧(∀E r b,ev E r (.bool b)=.bool b)∧(∀E r l,ev E r (.str l)=.string ⟨l.toArray⟩)∧(∀E r c,ev E r (.nil c)=nilV c) ∧
  (∀E r f,ev E r (.fn f)=.func (.func f) #[] #[])∧(∀E r op k a b,ev E r (.ar op k a b)=.int k (arI op k (iOf (ev E r a)) (iOf (ev E r b))))∧(∀E r op a b,ev E r (.cmp op a b)=.bool (cmpI op (iOf (ev E r a)) (iOf (ev E r b)))) ∧
  (∀E r op a b,ev E r (.scmp op a b)=.bool (cmpS op (sOf (ev E r a)) (sOf (ev E r b))))∧(∀E r a b,ev E r (.beq a b)=.bool (bOf (ev E r a) == bOf (ev E r b)))∧(∀E r a,ev E r (.isnil a)=.bool (z3z (ev E r a)))∧(∀E r c a b,ev E r (.pick c a b)=if bOf (ev E r c) then ev E r a else ev E r b) ∧
  (∀E r a,ev E r (.not a)=.bool (!bOf (ev E r a)))∧(∀E r k a,ev E r (.conv k a)=.int k (k.wrap (iOf (ev E r a))))∧(∀E r a,ev E r (.len a)=.int .i64 (slLen (ev E r a)))∧(∀E r a,ev E r (.cap a)=.int .i64 (slCap (ev E r a)))∧(∀E r a,ev E r (.slen a)=.int .i64 (sOf (ev E r a)).size) ∧
  (∀E r p n,ev E r (.padd p n)=.pointer ((pOf (ev E r p)).map (·.add n)))∧(∀E r s i sz,ev E r (.elt s i sz)=eltV (ev E r s) (iOf (ev E r i)) sz)∧(∀E r s i,ev E r (.sidx s i)=.int .u8 (((sOf (ev E r s))[(iOf (ev E r i)).toNat]?).getD 0).toNat) ∧
  (∀E r s lo hi,ev E r (.ssub s lo hi)=.string ((sOf (ev E r s)).extract (iOf (ev E r lo)).toNat (iOf (ev E r hi)).toNat))∧(∀E r a b,ev E r (.cat a b)=.string (sOf (ev E r a)++sOf (ev E r b)))∧(∀E r s lo hi sz,ev E r (.sls s lo hi sz)=slsV (ev E r s) (iOf (ev E r lo)) (iOf (ev E r hi)) sz) ∧
  (∀E r s,evV E r (.sc s)=ev E r s)∧(∀E r cs,evV E r (.ag cs)=.agg (cs.map (ev E r)).toArray)∧(∀E r vs,evV E r (.tu vs)=.tuple (vs.map (partV E r)).toArray) ∧
  (∀(a:Value) (l m:List Value),a::l++m=a::(l++m))∧(∀l:List Value,[]++l=l)∧(∀(a d:Value) (l:List Value),(a::l).getD 0 d=a)∧(∀(a d:Value) (l:List Value) (n:Nat),(a::l).getD (n+1) d=l.getD n d) ∧
  (∀(α:Type) (f:α→Value) (a:α) (l:List α),(a::l).map f=f a::l.map f)∧(∀(α:Type) (f:α→Value),[].map f=[]) ∧
  (∀k n,iOf (.int k n)=n)∧(∀b,bOf (.bool b)=b)∧(∀s,sOf (.string s)=s)∧(∀p,pOf (.pointer p)=p)∧(∀b n c,slLen (.slice b n c)=n)∧(∀b n c,z0d (.slice b n c)=b) ∧
  (∀x y,cmpI .eql x y=(x == y))∧(∀x y,cmpI .neq x y=(x != y))∧(∀x y,cmpI .lss x y=decide (x < y))∧(∀x y,cmpI .leq x y=decide (x≤y))∧(∀x y,cmpI .gtr x y=decide (x > y))∧(∀x y,cmpI .geq x y=decide (x ≥ y)) ∧
  (∀k x y,arI .add k x y=k.wrap (x+y))∧(∀k x y,arI .sub k x y=k.wrap (x - y))∧(∀k x y,arI .mul k x y=k.wrap (x * y))∧(∀k x y,arI .quo k x y=k.wrap (x.tdiv y))∧(∀k x y,arI .rem k x y=x.tmod y) ∧
  (∀(p:Bool) (a b:Bool),(if p=true then Value.bool a else Value.bool b)=Value.bool (if p=true then a else b)):=
 ⟨fun _ _=>rfl,fun _ _ _=>rfl,fun _ _ _ _=>rfl,fun _ _ _=>rfl,fun _ _ _=>rfl,fun _ _ _=>rfl,fun _ _ _=>rfl,fun _ _ _ _ _ _=>rfl,fun _ _ _ _ _=>rfl,fun _ _ _ _ _=>rfl,fun _ _ _ _=>rfl,fun _ _ _=>rfl,fun _ _ _ _ _=>rfl,fun _ _ _=>rfl,fun _ _ _ _=>rfl,fun _ _ _=>rfl,fun _ _ _=>rfl,fun _ _ _=>rfl,fun _ _ _ _=>rfl,fun _ _ _ _ _=>rfl,fun _ _ _ _=>rfl,fun _ _ _ _ _=>rfl,fun _ _ _ _=>rfl,fun _ _ _ _ _ _=>rfl,
  fun _ _ _=>rfl,fun _ _ _=>rfl,fun _ _ _=>rfl,fun _ _ _=>rfl,fun _=>rfl,fun _ _ _=>rfl,fun _ _ _ _=>rfl,fun _ _ _ _=>rfl,fun _ _=>rfl,fun _ _=>rfl,fun _=>rfl,fun _=>rfl,fun _=>rfl,fun _ _ _=>rfl,fun _ _ _=>rfl,
  fun _ _=>rfl,fun _ _=>rfl,fun _ _=>rfl,fun _ _=>rfl,fun _ _=>rfl,fun _ _=>rfl,fun _ _ _=>rfl,fun _ _ _=>rfl,fun _ _ _=>rfl,fun _ _ _=>rfl,fun _ _ _=>rfl,fun p a b=>by cases p<;>rfl⟩
theorem evb:(∀a b:Int,(a == b)=decide (a=b))∧(∀a b:Int,(a != b)=decide (a≠b))∧(∀a b:Bool,(if a=true then b else false)=(a && b))∧(∀a b:Bool,(if a=true then true else b)=(a || b)):=
 ⟨fun a b=>by by_cases h:a=b<;>simp [h],fun a b=>by by_cases h:a=b<;>simp [h],fun a b=>by cases a<;>rfl,fun a b=>by cases a<;>rfl⟩
theorem zl6:(∀(α:Type) (a:α) (l m:List α),a::l++m=a::(l++m))∧(∀(α:Type) (l:List α),[]++l=l)∧(∀(α:Type) (a d:α) (l:List α),(a::l).getD 0 d=a)∧(∀(α:Type) (a d:α) (l:List α) (n:Nat),(a::l).getD (n+1) d=l.getD n d)∧(∀(α β:Type) (f:α→β) (a:α) (l:List α),(a::l).map f=f a::l.map f)∧(∀(α β:Type) (f:α→β),[].map f=[]):=
 ⟨fun _ _ _ _=>rfl,fun _ _=>rfl,fun _ _ _ _=>rfl,fun _ _ _ _ _=>rfl,fun _ _ _ _ _=>rfl,fun _ _ _=>rfl⟩
theorem zb5:(∀a b:Int,(a == b)=decide (a=b))∧(∀a b:Int,(a != b)=decide (a≠b))∧(∀a b:Bool,(if a=true then b else false)=(a && b))∧(∀a b:Bool,(if a=true then true else b)=(a || b))∧(∀(p:Bool) (a b:Bool),(if p=true then Value.bool a else Value.bool b)=Value.bool (if p=true then a else b)):=
 ⟨fun a b=>by by_cases h:a=b<;>simp [h],fun a b=>by by_cases h:a=b<;>simp [h],fun a b=>by cases a<;>rfl,fun a b=>by cases a<;>rfl,fun p a b=>by cases p<;>rfl⟩
theorem cns:(∀(α:Type) (a:α) (l m:List α),a::l++m=a::(l++m))∧(∀(α:Type) (l:List α),[]++l=l):=⟨fun _ _ _ _=>rfl,fun _ _=>rfl⟩
theorem Tri.ofKept {P:Program} {f:FuncId} {args:List Value} {H:PH} {v:Value} (h:∀w,Calls P f args.toArray w fun e w'=>e=.returned v∧w'=w):Gives P f args H v:=
 fun w hv=>(h w).mono fun e w' ⟨h1,h2⟩=>by subst h2;exact ⟨H,.refl hv,h1,PH.le_refl H⟩
theorem Ze3 (l:List UInt8) (i:Nat):(⟨l.toArray⟩:ByteArray)[i]?=l[i]?:=by
 by_cases h:i < l.length
 ·rw [getElem?_pos _ _ (by simpa [ByteArray.size] using h),ByteArray.getElem_eq_getElem_data];simp [h]
 ·rw [getElem?_neg _ _ (by simpa [ByteArray.size] using h)];simp;omega
theorem zlz {a b:List UInt8}:((⟨a.toArray⟩:ByteArray).toList == (⟨b.toArray⟩:ByteArray).toList)=decide (a=b):=by
 rw [ByteArray.toList_mk,ByteArray.toList_mk]
 by_cases e:a=b<;>simp [e]
def z6m (c:Int):Bool:=if 48≤c then decide (c≤57) else false
theorem zkm (c:Int) (H:PH):Gives Tryz.prog zul [.int .u8 c] H (.bool (z6m c)):=by
 refine zq1 [.int .u8 c] (by kernel_rfl) (by kernel_rfl) ⟨?_,PH.le_refl H⟩
 simp [evV,ev,cmpI,iOf,bOf,z6m]
theorem zs6 (s:ByteArray) (c:Int) (H:PH):Gives Tryz.prog zl3 [.string s,.int .u8 c] H (.int .i64 (Lib.indexByte s.data.toList c.toNat.toUInt8)):=
 Tri.ofKept fun w=>Tryz.strings_IndexByte s c w
def signsL:List UInt8:=[33,36,37,38,42,47,58,60,61,62,63,94,95,126,43,45,46,64]
def nameB (c:UInt8):Bool:=z6m c.toNat || (decide (97≤c) && decide (c≤122)) || (decide (65≤c) && decide (c≤90)) || signsL.contains c
theorem Z5m {l:List UInt8} {k:Nat} {x:UInt8} (h:l[k]?=some x):((⟨l.toArray⟩:ByteArray)[((k:Int)).toNat]?).getD 0=x:=by rw [Int.toNat_natCast,Ze3,h];rfl
theorem ztd (a b:UInt8):((a.toNat:Int) == (b.toNat:Int))=decide (a=b):=by
 by_cases h:a=b
 ·simp [h]
 ·have:¬a.toNat=b.toNat:=fun e=>h (UInt8.toNat_inj.1 e)
  simp [h];omega
theorem u8_le (a b:UInt8):((a.toNat:Int)≤(b.toNat:Int))↔a≤b:=by rw [UInt8.le_iff_toNat_le];omega
theorem zyu (c:UInt8):nameB c=if (if (if z6m c.toNat=true then true else if decide (97≤(c.toNat:Int))=true then decide ((c.toNat:Int)≤122) else false)=true then true else if decide (65≤(c.toNat:Int))=true then decide ((c.toNat:Int)≤90) else false)=true then true else signsL.contains c:=by
 have h1:=u8_le 97 c
 have h2:=u8_le c 122
 have h3:=u8_le 65 c
 have h4:=u8_le c 90
 have e1:decide (97≤(c.toNat:Int))=decide (97≤c):=by simpa using h1
 have e2:decide ((c.toNat:Int)≤122)=decide (c≤122):=by simpa using h2
 have e3:decide (65≤(c.toNat:Int))=decide (65≤c):=by simpa using h3
 have e4:decide ((c.toNat:Int)≤90)=decide (c≤90):=by simpa using h4
 unfold nameB
 rw [e1,e2,e3,e4]
 cases z6m c.toNat<;>cases decide (97≤c)<;>cases decide (c≤122)<;>cases decide (65≤c)<;>cases decide (c≤90)<;>simp
theorem Z0n (c:UInt8) (H:PH):Gives Tryz.prog zy9 [.int .u8 c.toNat] H (.bool (nameB c)):=by
 refine zrq [.int .u8 c.toNat] (by kernel_rfl) (by kernel_rfl) ?_
 refine ⟨fun vs H'=>vs=[.bool (nameB c)]∧PH.le H H',?_,?_⟩
 ·rintro vs H' ht ⟨rfl,hl⟩
  exact ⟨rfl,hl⟩
 ·refine z05 [.bool (z6m c.toNat)] zfc (zkm _ _) rfl z01 fun H1 h1=>?_
  refine ⟨fun hc=>?_,fun hc=>?_⟩
  ·simp only [evs] at hc
   exact ⟨_,z00,by rw [zyu,if_pos hc];rfl,h1⟩
  ·simp only [evs] at hc
   refine z05 [.int .i64 (Lib.indexByte signsL c)] zjo ?_ rfl z01 fun H2 h2=>?_
   ·have:=zs6 ⟨signsL.toArray⟩ (c.toNat:Int) H1
    have e:((c.toNat:Int)).toNat.toUInt8=c:=by simp
    rw [e] at this
    exact this
   ·refine ⟨_,z00,?_,PH.le_trans h1 h2⟩
    rw [zyu,if_neg (by rw [hc];simp),Lib.contains_iff_indexByte]
    rfl
theorem Z0y {P:Program} {X:List PanicEntry→PH→Prop} {id f n s:Nat} {p:UInt8→Bool} {l:List UInt8} {init:SV} {k0:Nat} {rest:Fm VE} {E:List Value} {H:PH} {L:LK} {K:VE→List Value→PH→LK→Prop}
  (hn:E.length=n) (hs:E[s]?=some (txt l)) (hl:l.length≤maxLen) (hi:ev0 E init=.int .i64 k0) (hk0:k0≤l.length) (hok:callB P f=true) (hf:∀(c:UInt8) H',PH.le H H'→Gives P f [.int .u8 c.toNat] H' (.bool (p c)))
  (hK:∀E' H' L',PH.le H H'→(l.drop k0).all p=false→K (.sc (.bool false)) E' H' L') (hrest:∀H' L',PH.le H H'→(l.drop k0).all p=true→den P X rest (E++[.bool false,.int .i64 l.length]) H' L' K) :
  den P X (.loop id [.bool,.int .i64] [.bool false,init] (.ite (.cmp .lss (.atom (n+1)) (.slen (.atom s))) (.chk [] (.inStr (.atom s) (.atom (n+1))) (.call (.fn f) [.sc (.sidx (.atom s) (.atom (n+1)))] (.sc .bool) []
   (.ite (.not (.atom (n+2))) (.leaf (.sc (.bool false))) (.next id [.atom n,.ar .add .i64 (.atom (n+1)) (.int .i64 1)])))) rest)) E H L K:=by
 have hsn:s < n:=by
  rcases Nat.lt_or_ge s n with h | h
  ·exact h
  ·rw [List.getElem?_eq_none (by omega)] at hs;cases hs
 refine ⟨fun m vs H'=>∃k:Nat,vs=[.bool false,.int .i64 k]∧k0≤k∧k+m=l.length∧((l.take k).drop k0).all p=true∧PH.le H H',⟨l.length - k0,k0,?_,Nat.le_refl _,by omega,?_,PH.le_refl H⟩,?_⟩
 ·simp only [List.map_cons,List.map_nil,hi];rfl
 ·rw [List.drop_eq_nil_of_le (by simp;omega)];rfl
 rintro m vs H' ht ⟨k,rfl,hk,hkm,hall,hle⟩
 have a1:(E++[Value.bool false,Value.int .i64 k]).getD (n+1) (Value.bool false)=.int .i64 k:=by subst hn;simp [zgd]
 have a0:(E++[Value.bool false,Value.int .i64 k]).getD n (Value.bool false)=.bool false:=by subst hn;simp [zgd]
 have a2:(E++[Value.bool false,Value.int .i64 k]).getD s (Value.bool false)=txt l:=by
  simp [zgd,List.getElem?_append_left (show s < E.length by omega),hs]
 simp only [maxLen] at hl
 refine ⟨fun hlt=>?_,fun hge=>?_⟩
 ·simp only [ev0,ev,a1,a2,iOf,bOf,sOf,cmpI,z29,zdt] at hlt
  have hkl:k < l.length:=by omega
  obtain ⟨c,hc⟩:∃c,l[k]?=some c:=⟨_,zge hkl⟩
  refine ⟨fun _=>?_,?_⟩
  ·simp only [Chk.holds,ev0,ev,a1,a2,iOf,sOf,z29];omega
  ·refine z05 [.bool (p c)] hok ?_ rfl z01 fun H2 h2=>?_
   ·simp only [List.map_cons,List.map_nil,evV,ev,a1,a2,iOf,sOf,Z5m hc]
    exact hf c H' hle
   have b0:(E++[Value.bool false,Value.int .i64 k]++[Value.bool (p c)]).getD n (Value.bool false)=.bool false:=by subst hn;simp [zgd]
   have b1:(E++[Value.bool false,Value.int .i64 k]++[Value.bool (p c)]).getD (n+1) (Value.bool false)=.int .i64 k:=by subst hn;simp [zgd]
   have b2:(E++[Value.bool false,Value.int .i64 k]++[Value.bool (p c)]).getD (n+2) (Value.bool false)=.bool (p c):=by subst hn;simp [zgd]
   have hcd:c∈l.drop k0:=by
    refine zmg (i:=k - k0) ?_
    rw [List.getElem?_drop,show k0+(k - k0)=k by omega];exact hc
   refine ⟨fun hb=>?_,fun hb=>?_⟩
   ·simp only [ev0,ev,b2,bOf,Bool.not_eq_true'] at hb
    refine hK _ H2 _ (PH.le_trans hle h2) ?_
    rw [List.all_eq_false]
    exact ⟨c,hcd,by simp [hb]⟩
   ·simp only [ev0,ev,b2,bOf,Bool.not_eq_false'] at hb
    refine ⟨_,z00,m - 1,by omega,k+1,?_,by omega,by omega,?_,PH.le_trans hle h2⟩
    ·simp only [List.map_cons,List.map_nil,ev0,ev,b0,b1,iOf,arI]
     rw [w64 (by omega) (by omega)]
     rfl
    ·rw [List.take_add_one,hc,List.drop_append_of_le_length (by simp;omega),List.all_append,hall]
     simp [hb]
 ·simp only [ev0,ev,a1,a2,iOf,bOf,sOf,cmpI,z29,zdf] at hge
  have hkl:k=l.length:=by omega
  subst hkl
  refine hrest H' _ hle ?_
  rw [List.take_length] at hall;exact hall
def numB (l:List UInt8):Bool:=match l with
 | []=>false
 | c::r=>if c == 43 || c == 45 then !r.isEmpty && r.all (fun c=>z6m c.toNat) else (c::r).all fun c=>z6m c.toNat
def z6r (l:List UInt8):Bool:=l.all nameB && !l.isEmpty && decide (l.length≤64) && decide (l≠[46]) && !numB l
theorem z2j (a b:List UInt8):cmpS .neq ⟨a.toArray⟩ ⟨b.toArray⟩=decide (a≠b):=by
 simp only [cmpS,zlz];by_cases h:a=b<;>simp [h]
theorem z1h (a b:List UInt8):cmpS .eql ⟨a.toArray⟩ ⟨b.toArray⟩=decide (a=b):=by
 simp only [cmpS,zlz]
def signB (l:List UInt8):Bool:=match l with
 | []=>false
 | c::_=>c == 43 || c == 45
theorem Z4h (l:List UInt8):numB l=(decide ((if signB l then 1 else 0) < l.length) && (l.drop (if signB l then 1 else 0)).all fun c=>z6m c.toNat):=by
 cases l with
 | nil=>rfl
 | cons c r=>
  simp only [numB,signB]
  by_cases h:(c == 43 || c == 45)=true
  ·simp only [h,if_true];cases r<;>simp
  ·simp only [h];simp
theorem zgs (l:List UInt8) (a b:Nat):(⟨l.toArray⟩:ByteArray).extract a b=⟨((l.take b).drop a).toArray⟩:=by
 apply ByteArray.ext
 rw [ByteArray.data_extract]
 apply Array.ext'
 simp [List.drop_take]
theorem Zdd (l:List UInt8) (k:Nat):decide (l.drop k≠[])=decide (k < l.length):=by simp [List.drop_eq_nil_iff]
theorem ztw (l:List UInt8) (hl:l.length≤maxLen) (H:PH):Gives Tryz.prog zt0 [txt l] H (.bool (numB l)):=by
 refine znq [txt l] (by kernel_rfl) (by kernel_rfl) ?_
 have hm:=hl
 simp only [maxLen] at hm
 refine ⟨fun vs H'=>vs=[txt (l.drop (if signB l then 1 else 0))]∧PH.le H H',?_,?_⟩
 ·rintro vs H' ht ⟨rfl,hle⟩
  refine Z0y (n:=2) (s:=1) (p:=fun c=>z6m c.toNat) (k0:=0) (l:=l.drop (if signB l then 1 else 0)) rfl rfl (by simp;omega) rfl (by omega) zfc (fun c H' _=>zkm _ _) ?_ ?_
  ·intro E' H' L' h1 h2
   rw [List.drop_zero] at h2
   refine ⟨?_,PH.le_trans hle h1⟩
   rw [Z4h,h2];simp [evV,ev]
  ·intro H' L' h1 h2
   rw [List.drop_zero] at h2
   refine ⟨?_,PH.le_trans hle h1⟩
   rw [Z4h,h2]
   simp only [evs,z2j,Bool.and_true,Zdd]
 ·have hp:∀c r,l=c::r→((⟨l.toArray⟩:ByteArray)[(0:Int).toNat]?).getD 0=c:=fun c r h=>by subst h;exact Z5m (k:=0) rfl
  have hne:l≠[]→0 < l.length:=fun h=>by cases l with | nil=>exact absurd rfl h | cons c r=>simp
  refine ⟨fun hh=>?_,fun hh=>?_,fun hh=>?_,fun hh=>?_⟩
  ·have:=hh (.scmp .neq (.atom 0) (.str []),true) (by simp)
   simp only [evs,z2j,zdt] at this
   have:=hne this
   simp only [Chk.holds,evs,z29];omega
  ·have:=hh (.scmp .neq (.atom 0) (.str []),true) (by simp)
   simp only [evs,z2j,zdt] at this
   have:=hne this
   simp only [Chk.holds,evs,z29];omega
  ·simp only [evs,z2j] at hh
   have hsg:signB l=true:=by
    cases l with
    | nil=>simp at hh
    | cons c r=>
     have e1:((c.toNat:Int) == 43)=(c == 43):=ztd c 43
     have e2:((c.toNat:Int) == 45)=(c == 45):=ztd c 45
     simp only [hp c r rfl,e1,e2] at hh
     simp only [signB]
     by_cases h1:c=43
     ·simp [h1]
     ·simp [h1] at hh ⊢;exact hh
   have h1l:1≤l.length:=by
    cases l with
    | nil=>simp [signB] at hsg
    | cons c r=>simp
   refine ⟨fun _=>?_,?_⟩
   ·simp only [Chk.holds,evs,z29];omega
   ·refine ⟨_,z00,?_,PH.le_refl H⟩
    simp only [evs,z29,hsg,if_true,zgs]
    simp
  ·simp only [evs,z2j] at hh
   have hsg:signB l=false:=by
    cases l with
    | nil=>rfl
    | cons c r=>
     have e1:((c.toNat:Int) == 43)=(c == 43):=ztd c 43
     have e2:((c.toNat:Int) == 45)=(c == 45):=ztd c 45
     simp only [hp c r rfl,e1,e2] at hh
     simp only [signB]
     by_cases h1:c=43
     ·simp [h1] at hh
     ·simp [h1] at hh ⊢;exact hh
   exact ⟨_,z00,by simp only [evs,hsg];simp,PH.le_refl H⟩
theorem Z71 (l:List UInt8) (hl:l.length≤maxLen) (H:PH):Gives Tryz.prog Z3x [txt l] H (.bool (z6r l)):=by
 refine zya [txt l] (by kernel_rfl) (by kernel_rfl) ?_
 refine Z0y (n:=1) (s:=0) (p:=nameB) (k0:=0) rfl rfl hl rfl (by omega) zvf (fun c H' _=>Z0n c H') ?_ ?_
 ·intro E' H' L' h1 h2
  rw [List.drop_zero] at h2
  refine ⟨?_,h1⟩
  simp [z6r,h2,evV,ev]
 ·intro H' L' h1 h2
  rw [List.drop_zero] at h2
  refine ⟨fun vs H'=>vs=[.bool (z6r l)]∧PH.le H H',?_,?_⟩
  ·rintro vs H' ht ⟨rfl,hl⟩;exact ⟨rfl,hl⟩
  ·refine ⟨fun hh=>?_,fun hh=>?_⟩
   ·simp only [evs,z2j,z29] at hh
    refine z05 [.bool (numB l)] zqc (ztw l hl H') rfl z01 fun H2 h3=>?_
    refine ⟨_,z00,?_,PH.le_trans h1 h3⟩
    simp only [evs,z6r,h2]
    cases l with
    | nil=>simp at hh
    | cons c r=>
     by_cases h64:(c::r).length≤64
     ·by_cases hd:c::r=[46]
      ·simp [hd] at hh
      ·simp at h64;simp [hd,h64]
     ·simp at h64;simp at hh;omega
   ·simp only [evs,z2j,z29] at hh
    refine ⟨_,z00,?_,h1⟩
    simp only [evs,z6r,h2]
    cases l with
    | nil=>simp
    | cons c r=>
     by_cases h64:(c::r).length≤64
     ·by_cases hd:c::r=[46]
      ·simp [hd]
      ·simp at h64;simp [hd] at hh;omega
     ·simp at h64;simp;omega
inductive Dat where
 | mk (kind int:Int) (text:List UInt8) (list:List Dat)
def Dat.kind:Dat→Int
 | .mk k _ _ _=>k
def Dat.int:Dat→Int
 | .mk _ n _ _=>n
def Dat.text:Dat→List UInt8
 | .mk _ _ t _=>t
def Dat.list:Dat→List Dat
 | .mk _ _ _ l=>l
def InI (n:Int):Prop:=-9223372036854775808≤n∧n≤9223372036854775807
mutual
def Dat.pv:Dat→List PV
 | .mk k n t l=>[.int .i64 k,.int .i64 n,.str t,.sl (Dats.pvs l)]
def Dats.pvs:List Dat→List (List PV)
 | []=>[]
 | d::l=>Dat.pv d::Dats.pvs l
end
theorem Dats.pvs_eq:∀l:List Dat,Dats.pvs l=l.map Dat.pv
 | []=>by simp only [Dats.pvs,List.map_nil]
 | d::l=>by simp only [Dats.pvs,List.map_cons,Dats.pvs_eq l]
instance encDat:Enc Dat:=⟨Dat.pv,4,fun d=>by cases d;simp only [Dat.pv,zlc,zln]⟩
abbrev Dat.Rep (H:PH) (d:Dat) (cs:List Value):Prop:=CsR H d cs
abbrev SlRep (H:PH) (l:List Dat) (sv:Value):Prop:=SlR H l sv
theorem inI64 {n:Int}:(IntKind.i64.min≤n∧n≤IntKind.i64.max)↔InI n:=Iff.rfl
theorem Dat.Rep_iff {H:PH} {d:Dat} {cs:List Value}:d.Rep H cs↔∃sv,cs=[.int .i64 d.kind,.int .i64 d.int,txt d.text,sv]∧InI d.kind∧InI d.int∧d.text.length≤maxLen∧SlRep H d.list sv:=by
 obtain ⟨k,n,t,l⟩:=d
 unfold Dat.Rep CsR SlRep SlR slp
 show PV.RepRow H (Dat.pv _) cs↔_
 simp only [Dat.pv,PV.RepRow,Dat.kind,Dat.int,Dat.text,Dat.list,Dats.pvs_eq]
 constructor
 ·rintro ⟨v1,vs1,rfl,h1,v2,vs2,rfl,h2,v3,vs3,rfl,h3,v4,vs4,rfl,h4,rfl⟩
  simp only [PV.Rep] at h1 h2 h3
  obtain ⟨rfl,h1⟩:=h1
  obtain ⟨rfl,h2⟩:=h2
  obtain ⟨rfl,h3⟩:=h3
  exact ⟨v4,rfl,inI64.1 h1,inI64.1 h2,h3,h4⟩
 ·rintro ⟨sv,rfl,h1,h2,h3,h4⟩
  refine ⟨_,_,rfl,?_,_,_,rfl,?_,_,_,rfl,?_,_,_,rfl,h4,rfl⟩
  ·simp only [PV.Rep];exact ⟨trivial,inI64.2 h1⟩
  ·simp only [PV.Rep];exact ⟨trivial,inI64.2 h2⟩
  ·simp only [PV.Rep];exact ⟨trivial,h3⟩
theorem Dat.Rep.le {H H':PH} (h:PH.le H H') (d:Dat) {cs:List Value} (hd:d.Rep H cs):d.Rep H' cs:=CsR.le h hd
theorem SlRep.le {H H':PH} (h:PH.le H H') {l:List Dat} {sv:Value} (hs:SlRep H l sv):SlRep H' l sv:=SlR.le h hs
theorem SlRep.len {H:PH} {l:List Dat} {sv:Value} (h:SlRep H l sv):slLen sv=l.length:=SlR.len h
theorem SlRep.sl {H:PH} {l:List Dat} {sv:Value} (h:SlRep H l sv):∃b c,sv=.slice b l.length c:=SlR.sl h
theorem SlRep.max {H:PH} {l:List Dat} {sv:Value} (h:SlRep H l sv):l.length≤maxLen:=SlR.max h
theorem SlRep.get {H:PH} {l:List Dat} {sv:Value} (h:SlRep H l sv) {i:Nat} {d:Dat} (hi:l[i]?=some d) :
  (z0d sv).isSome=true∧∃cs,d.Rep H cs∧rowAt H (pOf (eltV sv (i:Int) 4)) cs∧rowAt H ((pOf (eltV sv (i:Int) 4)).map (·.add 0)) [.int .i64 d.kind]∧(pOf (eltV sv (i:Int) 4)).isSome=true:=by
 obtain ⟨h1,h2,cs,h3,h4⟩:=SlR.get h hi
 refine ⟨h1,cs,h3,h4,?_,h2⟩
 obtain ⟨sv',h7,_⟩:=Dat.Rep_iff.1 h3
 have:=z4o h4 0 1
 rw [h7] at this
 exact this
theorem Dat.Rep.tags {H:PH} {d:Dat} {cs:List Value} (h:d.Rep H cs):z0c [.int .i64,.int .i64,.str,.sl] cs=true:=by
 obtain ⟨sv,rfl,_,_,_,hs⟩:=Dat.Rep_iff.1 h
 obtain ⟨b,c,rfl⟩:=hs.sl
 rfl
theorem znd (a b:Int):(a == b)=decide (a=b):=by by_cases h:a=b<;>simp [h]
theorem Zfg (a b:Int):(a != b)=decide (a≠b):=by by_cases h:a=b<;>simp [h]
theorem Zfe (a b:Bool):(if a=true then b else false)=(a && b):=by cases a<;>rfl
theorem Zff (a b:Bool):(if a=true then true else b)=(a || b):=by cases a<;>rfl
def z3k (k:Int):Bool:=decide (k=5) || decide (k=6) || decide (k=7)
theorem zhl (k n:Int) (t:List UInt8) (b:Option Addr) (m c:Nat) (H:PH):Gives Tryz.prog zro [.agg #[.int .i64 k,.int .i64 n,txt t,.slice b m c]] H (.bool (z3k k)):=by
 refine znw [.int .i64 k,.int .i64 n,txt t,.slice b m c] (by kernel_rfl) (by kernel_rfl) ⟨?_,PH.le_refl H⟩
 have:(if decide (k ≥ 5)=true then decide (k≤7) else false)=z3k k:=by
  unfold z3k
  by_cases h:5≤k
  ·by_cases h2:k≤7
   ·have:k=5∨k=6∨k=7:=by omega
    rcases this with rfl | rfl | rfl<;>rfl
   ·have h5:k≠5:=by omega
    have h6:k≠6:=by omega
    have h7:k≠7:=by omega
    simp [h2,h5,h6,h7]
  ·have h5:k≠5:=by omega
   have h6:k≠6:=by omega
   have h7:k≠7:=by omega
   simp [h,h5,h6,h7]
 simp only [evs,this]
def z3v (d:Dat):Bool:=
 if d.kind=0 then decide (d.text=[]) && d.list.isEmpty && (decide (d.int=0) || decide (d.int=1))
 else if d.kind=1 then decide (d.text=[]) && d.list.isEmpty && decide (-1152921504606846976≤d.int) && decide (d.int < 1152921504606846976)
 else if d.kind=2 then decide (d.text=[]) && d.list.isEmpty && decide (0≤d.int) && decide (d.int≤255)
 else if d.kind=3 then decide (d.int=0) && d.list.isEmpty && decide (d.text.length≤4096)
 else if d.kind=4 then decide (d.int=0) && d.list.isEmpty && z6r d.text
 else if d.kind=5∨d.kind=7 then decide (d.int=0) && decide (d.text=[])
 else if d.kind=6 then decide (d.int=0) && decide (d.text=[]) && decide (2≤d.list.length) && (match d.list[d.list.length - 1]? with | some e=>decide (e.kind≠5) && decide (e.kind≠6) | none=>false)
 else false
theorem zj8 {α:Type} (l:List α):decide ((l.length:Int)=0)=l.isEmpty:=by cases l<;>simp;omega
theorem zdm (n:Int) (k:Nat) (hk:k≤62):arI .and .i64 n ((2 ^ k - 1:Nat):Int)=n % (2 ^ k:Nat):=by
 have hpos:0 < 2 ^ k:=Nat.two_pow_pos k
 have hle:2 ^ k≤2 ^ 62:=Nat.pow_le_pow_right (by omega) hk
 show IntKind.i64.wrap (((BitVec.ofInt 64 n &&& BitVec.ofInt 64 ((2 ^ k - 1:Nat):Int)).toNat:Nat):Int)=_
 rw [BitVec.toNat_and,BitVec.toNat_ofInt,BitVec.toNat_ofInt]
 have e1:((((2 ^ k - 1:Nat):Int)) % ((2 ^ 64:Nat):Int)).toNat=2 ^ k - 1:=by omega
 rw [e1,Nat.and_two_pow_sub_one_eq_mod]
 have e2:(((n % ((2 ^ 64:Nat):Int)).toNat % 2 ^ k:Nat):Int)=n % (2 ^ k:Nat):=by
  rw [Int.natCast_emod,Int.toNat_of_nonneg (by omega)]
  refine Int.emod_emod_of_dvd _ ?_
  exact Int.natCast_dvd_natCast.2 (Nat.pow_dvd_pow 2 (by omega))
 rw [e2]
 have:=Int.emod_lt_of_pos n (show (0:Int) < (2 ^ k:Nat) by omega)
 have:=Int.emod_nonneg n (show ((2 ^ k:Nat):Int)≠0 by omega)
 exact w64 (by omega) (by omega)
theorem and_1 (n:Int):arI .and .i64 n 1=n % 2:=zdm n 1 (by omega)
theorem ztz (n:Int):arI .and .i64 n 255=n % 256:=zdm n 8 (by omega)
def dInts (d:Dat):Int:=
 if d.kind=0 then d.int % 2 else if d.kind=1 then (if 1152921504606846975 < (if -1152921504606846976 > d.int then -1152921504606846976 else d.int) then 1152921504606846975 else (if -1152921504606846976 > d.int then -1152921504606846976 else d.int))
 else if d.kind=2 then d.int % 256 else 0
def z2u (d:Dat):List UInt8:=if d.kind=3 then d.text.take (min d.text.length 4096) else if d.kind=4 then d.text else []
def dBad (d:Dat):Bool:=if d.int≠dInts d∨d.text≠z2u d then true else if 0 < d.list.length then !z3k d.kind else false
def zsb (d:Dat):Bool:=match d.list[d.list.length - 1]? with | some e=>decide (e.kind≠5) && decide (e.kind≠6) | none=>false
def dForm (d:Dat):Bool:=if dBad d then false else if d.kind=4 then z6r d.text else if d.kind=6 then (if 1 < d.list.length then zsb d else false) else decide (0≤d.kind) && decide (d.kind < 8)
theorem zqs {α:Type} (l:List α):l.isEmpty=!decide (0 < l.length):=by cases l<;>simp
theorem Zc5 (d:Dat):dForm d=z3v d:=by
 obtain ⟨k,n,t,l⟩:=d
 simp only [dForm,z3v,dBad,dInts,z2u,Dat.kind,Dat.int,Dat.text,Dat.list,zqs,z3k,zsb]
 have htk:t=t.take (min t.length 4096)↔t.length≤4096:=by
  constructor
  ·intro h
   have:=congrArg List.length h
   simp at this;omega
  ·intro h
   rw [Nat.min_eq_left h,List.take_length]
 have hne:t=[]∨0 < t.length:=by cases t<;>simp
 by_cases h0:k=0
 ·subst h0;simp;grind
 by_cases h1:k=1
 ·subst h1;simp;grind
 by_cases h2:k=2
 ·subst h2;simp;grind
 by_cases h3:k=3
 ·subst h3;simp;grind
 by_cases h4:k=4
 ·subst h4;simp;grind
 by_cases h5:k=5
 ·subst h5;simp;grind
 by_cases h7:k=7
 ·subst h7;simp;grind
 by_cases h6:k=6
 ·subst h6;simp;grind
 ·simp [h0,h1,h2,h3,h4,h5,h7,h6];grind
theorem Zbc (l:List UInt8) (n:Nat):(⟨l.toArray⟩:ByteArray).extract 0 n=⟨(l.take n).toArray⟩:=by rw [zgs];simp
theorem Z2q (d:Dat) {cs:List Value} (H:PH) (hd:d.Rep H cs):Gives Tryz.prog Z3j [.agg cs.toArray] H (.bool (z3v d)):=by
 rw [←Zc5]
 obtain ⟨sv,rfl,hk,hn,ht,hs⟩:=Dat.Rep_iff.1 hd
 obtain ⟨b,c,rfl⟩:=hs.sl
 refine zxb [.int .i64 d.kind,.int .i64 d.int,txt d.text,.slice b d.list.length c] (by kernel_rfl) (by kernel_rfl) ?_
 have hlen:d.list.length≤maxLen:=hs.max
 simp only [maxLen] at hlen ht
 refine ⟨fun vs H'=>vs=[.int .i64 (dInts d),txt (z2u d)]∧PH.le H H',?_,?_⟩
 ·rintro vs H1 _ ⟨rfl,hl1⟩
  refine ⟨fun vs H'=>vs=[.bool (dBad d)]∧PH.le H H',?_,?_⟩
  ·rintro vs H2 _ ⟨rfl,hl2⟩
   refine ⟨fun hb=>?_,fun hb=>?_⟩
   ·simp only [evs,evb] at hb
    refine ⟨?_,hl2⟩
    simp only [dForm,hb,if_true];rfl
   simp only [evs,evb] at hb
   refine ⟨fun h4=>?_,fun h4=>?_⟩
   ·simp only [evs,evb,zdt] at h4
    refine z05 [.bool (z6r d.text)] Z1b (Z71 d.text (by simp only [maxLen];omega) H2) rfl z01 fun H3 h3=>?_
    refine ⟨?_,PH.le_trans hl2 h3⟩
    simp only [dForm,hb,Bool.false_eq_true,if_false,if_pos h4];rfl
   simp only [evs,evb,zdf] at h4
   refine ⟨fun h6=>?_,fun h6=>?_⟩
   ·simp only [evs,evb,zdt] at h6
    have hfo:dForm d=if 1 < d.list.length then zsb d else false:=by
     simp only [dForm,hb,Bool.false_eq_true,if_false,if_neg h4,if_pos h6]
    refine ⟨fun vs H'=>vs=[.bool (dForm d)]∧PH.le H H',?_,?_⟩
    ·rintro vs H' _ ⟨rfl,hl⟩;exact ⟨rfl,hl⟩
    have hs2:=hs.le hl2
    have hcond:∀E:List Value,E.getD 3 (Value.bool false)=.slice b d.list.length c→bOf (ev0 E (.cmp .gtr (.len (.atom 3)) (.int .i64 1)))=decide (1 < d.list.length):=by
     intro E e3
     simp only [evs,evb,e3]
     simp;omega
    have hidx:∀E:List Value,E.getD 3 (Value.bool false)=.slice b d.list.length c→1 < d.list.length→ev0 E (.ar .sub .i64 (.len (.atom 3)) (.int .i64 1))=.int .i64 ((d.list.length - 1:Nat):Int):=by
     intro E e3 h2
     simp only [evs,evb,e3]
     rw [w64 (by omega) (by omega)]
     congr 1;omega
    have hlast:1 < d.list.length→∃e,d.list[d.list.length - 1]?=some e:=fun h2=>⟨_,zge (by omega)⟩
    have hin:∀E:List Value,E.getD 3 (Value.bool false)=.slice b d.list.length c→1 < d.list.length→Chk.holds E (.inSl (.atom 3) (.ar .sub .i64 (.len (.atom 3)) (.int .i64 1))):=by
     intro E e3 h2
     obtain ⟨e,he⟩:=hlast h2
     have:=(hs2.get he).1
     show (z0d (E.getD 3 (Value.bool false))).isSome=true∧0≤iOf (ev0 E _)∧iOf (ev0 E _) < slLen (E.getD 3 (Value.bool false))
     rw [hidx E e3 h2,e3]
     exact ⟨this,by simp only [iOf];omega,by simp only [iOf,slLen];omega⟩
    have hso:∀E:List Value,E.getD 3 (Value.bool false)=.slice b d.list.length c→1 < d.list.length→Chk.holds E (.some (.elt (.atom 3) (.ar .sub .i64 (.len (.atom 3)) (.int .i64 1)) 4)):=by
     intro E e3 h2
     obtain ⟨e,he⟩:=hlast h2
     obtain ⟨_,_,_,_,_,h⟩:=hs2.get he
     show (pOf (eltV (E.getD 3 (Value.bool false)) (iOf (ev0 E _)) 4)).isSome=true
     rw [hidx E e3 h2,e3];exact h
    have hrow:∀E:List Value,E.getD 3 (Value.bool false)=.slice b d.list.length c→1 < d.list.length→∀e,d.list[d.list.length - 1]?=some e→rowAt H2 (pOf (ev0 E (.padd (.elt (.atom 3) (.ar .sub .i64 (.len (.atom 3)) (.int .i64 1)) 4) 0))) [.int .i64 e.kind]:=by
     intro E e3 h2 e he
     obtain ⟨_,_,_,_,h,_⟩:=hs2.get he
     show rowAt H2 ((pOf (eltV (E.getD 3 (Value.bool false)) (iOf (ev0 E _)) 4)).map (·.add 0)) _
     rw [hidx E e3 h2,e3];exact h
    refine ⟨fun hg=>?_,fun hg=>?_,fun hc=>?_,fun hc=>?_⟩
    ·exact hin _ rfl (of_decide_eq_true ((hcond _ rfl).symm.trans (hg _ (zsi.2 rfl))))
    ·exact hso _ rfl (of_decide_eq_true ((hcond _ rfl).symm.trans (hg _ (zsi.2 rfl))))
    ·rw [hcond _ rfl,zdt] at hc
     obtain ⟨e,he⟩:=hlast hc
     rw [if_pos hc] at hfo
     simp only [zsb,he] at hfo
     refine ⟨[.int .i64 e.kind],rfl,hrow _ rfl hc e he,fun _=>hin _ rfl hc,fun _=>hso _ rfl hc,fun hx=>?_,fun hx=>?_⟩
     ·simp only [evs,evb,zdt] at hx
      refine ⟨[.int .i64 e.kind],rfl,hrow _ rfl hc e he,_,z00,?_,hl2⟩
      rw [hfo]
      simp only [evs,evb]
      simp [hx]
     ·simp only [evs,evb,zdf] at hx
      refine ⟨_,z00,?_,hl2⟩
      rw [hfo]
      simp only [evs,evb]
      simp [hx]
    ·rw [hcond _ rfl,zdf] at hc
     rw [if_neg hc] at hfo
     exact ⟨_,z00,by rw [hfo];rfl,hl2⟩
   ·simp only [evs,evb,zdf] at h6
    refine ⟨?_,hl2⟩
    simp only [dForm,hb,Bool.false_eq_true,if_false,if_neg h4,if_neg h6,evs,evb,ge_iff_le]
  ·refine ⟨fun hb=>?_,fun hb=>?_⟩
   ·simp only [evs,evb,z2j,zdt] at hb
    have hb':d.int≠dInts d∨d.text≠z2u d:=by
     by_cases hx:d.int=dInts d
     ·simp [hx,bOf] at hb;exact .inr hb
     ·exact .inl hx
    refine ⟨_,z00,?_,hl1⟩
    have:dBad d=true:=by unfold dBad;rw [if_pos hb']
    rw [this];rfl
   simp only [evs,evb,z2j,zdt] at hb
   have hb':¬(d.int≠dInts d∨d.text≠z2u d):=by
    by_cases hx:d.int=dInts d
    ·simp [←hx,bOf] at hb;rw [hb];simp [←hx]
    ·simp [hx,bOf] at hb
   refine ⟨fun hl=>?_,fun hl=>?_⟩
   ·simp only [evs,evb,zdt] at hl
    have hl':0 < d.list.length:=by omega
    refine z05 [.bool (z3k d.kind)] zd9 (zhl _ _ _ _ _ _ H1) rfl z01 fun H3 h3=>?_
    refine ⟨_,z00,?_,PH.le_trans hl1 h3⟩
    have:dBad d=!z3k d.kind:=by unfold dBad;rw [if_neg hb',if_pos hl']
    rw [this];rfl
   ·simp only [evs,evb,zdf] at hl
    have hl':¬0 < d.list.length:=by omega
    refine ⟨_,z00,?_,hl1⟩
    have:dBad d=false:=by unfold dBad;rw [if_neg hb',if_neg hl']
    rw [this];rfl
 ·refine ⟨fun h0=>?_,fun h0=>?_⟩
  ·simp only [evs,evb,zdt] at h0
   refine ⟨_,z00,?_,PH.le_refl H⟩
   have e1:dInts d=d.int % 2:=by simp [dInts,h0]
   have e2:z2u d=[]:=by simp [z2u,h0]
   rw [e1,e2,←and_1];rfl
  simp only [evs,evb,zdf] at h0
  refine ⟨fun h1=>?_,fun h1=>?_⟩
  ·simp only [evs,evb,zdt] at h1
   refine ⟨_,z00,?_,PH.le_refl H⟩
   have e2:z2u d=[]:=by simp [z2u,h1]
   rw [e2]
   simp only [evs,evb,dInts,if_neg h0,if_pos h1]
   congr 1
   by_cases hx:-1152921504606846976 > d.int
   ·simp [hx,iOf,bOf]
   ·by_cases hy:1152921504606846975 < d.int<;>simp [hx,hy,iOf,bOf]
  simp only [evs,evb,zdf] at h1
  refine ⟨fun h2=>?_,fun h2=>?_⟩
  ·simp only [evs,evb,zdt] at h2
   refine ⟨_,z00,?_,PH.le_refl H⟩
   have e1:dInts d=d.int % 256:=by simp [dInts,h2]
   have e2:z2u d=[]:=by simp [z2u,h2]
   rw [e1,e2,←ztz];rfl
  simp only [evs,evb,zdf] at h2
  have e1:dInts d=0:=by simp [dInts,h0,h1,h2]
  refine ⟨fun h3=>?_,fun h3=>?_⟩
  ·simp only [evs,evb,zdt] at h3
   have e2:z2u d=d.text.take (min d.text.length 4096):=by simp [z2u,h3]
   have hmin:ev0 [.int .i64 d.kind,.int .i64 d.int,txt d.text,.slice b d.list.length c] (.pick (.cmp .lss (.int .i64 4096) (.slen (.atom 2))) (.int .i64 4096) (.slen (.atom 2)))=.int .i64 ((min d.text.length 4096:Nat):Int):=by
    simp only [evs,evb,z29]
    by_cases hx:(4096:Int) < d.text.length
    ·rw [if_pos (by simpa using hx)];congr 1;omega
    ·rw [if_neg (by simpa using hx)];congr 1;omega
   refine ⟨fun _=>?_,_,z00,?_,PH.le_refl H⟩
   ·simp only [Chk.holds,hmin]
    simp only [evs,evb,z29];omega
   ·rw [e1,e2]
    simp only [ev0] at hmin
    simp only [List.map_cons,List.map_nil,ev0]
    rw [show ∀(E:List Value) (a b c:SV),ev E (fun _=>0) (.ssub a b c)=.string ((sOf (ev E (fun _=>0) a)).extract (iOf (ev E (fun _=>0) b)).toNat (iOf (ev E (fun _=>0) c)).toNat) from fun _ _ _ _=>rfl,hmin]
    simp only [evs,evb]
    rw [Int.toNat_natCast]
    simp only [Int.toNat_zero,Zbc]
  ·simp only [evs,evb,zdf] at h3
   refine ⟨_,z00,?_,PH.le_refl H⟩
   rw [e1]
   by_cases h4:d.kind=4
   ·have e2:z2u d=d.text:=by simp [z2u,h4]
    rw [e2];simp only [evs,evb];simp [h4]
   ·have e2:z2u d=[]:=by simp [z2u,h3,h4]
    rw [e2];simp only [evs,evb];simp [h4]
mutual
theorem Dat.ind {p:Dat→Prop} (h:∀d,(∀e∈d.list,p e)→p d):∀d,p d
 | .mk _ _ _ l=>h _ (Dats.ind h l)
theorem Dats.ind {p:Dat→Prop} (h:∀d,(∀e∈d.list,p e)→p d):∀(l:List Dat),∀e∈l,p e
 | [],e,he=>by cases he
 | d::l,e,he=>(zmc.1 he).elim (fun h1=>h1 ▸ Dat.ind h d) (fun h1=>Dats.ind h l e h1)
end
mutual
def Dat.chk:Dat→Nat→Nat→Nat×Int
 | .mk k n t l,deep,seen=>if seen=4096 then (seen,22) else if z3k k=true∧deep=32 then (seen+1,21) else if z3v (.mk k n t l)=false then (seen+1,20) else Dats.chk l (deep+1) (seen+1)
def Dats.chk:List Dat→Nat→Nat→Nat×Int
 | [],_,seen=>(seen,0)
 | d::l,deep,seen=>if (Dat.chk d deep seen).2≠0 then Dat.chk d deep seen else Dats.chk l deep (Dat.chk d deep seen).1
end
theorem Dat.chk_eq (d:Dat) (deep seen:Nat):d.chk deep seen=if seen=4096 then (seen,22) else if z3k d.kind=true∧deep=32 then (seen+1,21) else if z3v d=false then (seen+1,20) else Dats.chk d.list (deep+1) (seen+1):=by
 cases d;simp only [Dat.chk,Dat.kind,Dat.list];rfl
mutual
theorem Dat.chk_le:∀(d:Dat) (deep seen:Nat),seen≤4096→(d.chk deep seen).1≤4096
 | .mk k n t l,deep,seen,h=>by
  simp only [Dat.chk]
  split
  ·exact h
  split
  ·simp only;omega
  split
  ·simp only;omega
  ·exact Dats.chk_le l _ _ (by omega)
theorem Dats.chk_le:∀(l:List Dat) (deep seen:Nat),seen≤4096→(Dats.chk l deep seen).1≤4096
 | [],_,seen,h=>by simp only [Dats.chk];exact h
 | d::l,deep,seen,h=>by
  simp only [Dats.chk]
  split
  ·exact Dat.chk_le d _ _ h
  ·exact Dats.chk_le l _ _ (Dat.chk_le d _ _ h)
end
theorem zke {d:Dat} (h:z3v d=true) (hl:d.list≠[]):z3k d.kind=true:=by
 obtain ⟨k,n,t,l⟩:=d
 simp only [z3v,z3k,Dat.kind,Dat.list,Dat.int,Dat.text] at *
 have:l.isEmpty=false:=by cases l<;>simp at hl ⊢
 grind
theorem Z6b:∀(d:Dat) (cs:List Value) (H:PH) (wr deep seen:Nat) (T:TypeId),d.Rep (H.del wr) cs→H wr=some (.cells #[.int .i64 seen] T (0,0))→deep≤32→seen≤4096 →
  Tri Tryz.prog zhp #[.pointer (some ⟨wr,0,none⟩),.agg cs.toArray,.int .i64 deep] H fun e H'=>e=.returned (.int .i64 (d.chk deep seen).2)∧H' wr=some (.cells #[.int .i64 (d.chk deep seen).1] T (0,0))∧PH.le (H.del wr) (H'.del wr):=by
 refine Dat.ind ?_
 intro d ih cs H wr deep seen T hd hwr hdeep hseen
 have hd':=hd
 obtain ⟨sv,rfl,hk,hn,ht,hs⟩:=Dat.Rep_iff.1 hd
 obtain ⟨b,c,rfl⟩:=hs.sl
 have hlen:d.list.length≤maxLen:=hs.max
 simp only [maxLen] at hlen ht
 rw [Dat.chk_eq]
 refine zew [.pointer (some ⟨wr,0,none⟩),.int .i64 d.kind,.int .i64 d.int,txt d.text,.slice b d.list.length c,.int .i64 deep] (by kernel_rfl) (by kernel_rfl) ?_
 have hrow:rowAt H (some ⟨wr,0,none⟩) [.int .i64 seen]:=⟨_,rfl,fun i v hi=>by
  rw [Addr.add_plain,PH.cell_at hwr]
  cases i with
  | zero=>simpa using hi
  | succ i=>simp at hi⟩
 have hs1:IntKind.i64.wrap ((seen:Int)+1)=((seen+1:Nat):Int):=by rw [w64 (by omega) (by omega)];omega
 refine ⟨fun _=>rfl,[.int .i64 seen],rfl,hrow,?_⟩
 refine ⟨fun h0=>?_,fun h0=>?_⟩
 ·simp only [evs,evb,zdt] at h0
  have h0':seen=4096:=by omega
  refine ⟨?_,?_,PH.le_refl _⟩
  ·rw [if_pos h0'];rfl
  ·rw [if_pos h0'];exact hwr
 simp only [evs,evb,zdf] at h0
 rw [if_neg (show ¬seen=4096 by omega)]
 refine ⟨[.int .i64 seen],rfl,hrow,⟨wr,0,none⟩,rfl,?_⟩
 refine z1u _ 0 0 #[.int .i64 seen] H hwr (by simp) (by simp [ev0,ev,oneC]) ?_
 have hsp:z11 #[Value.int .i64 seen] (0+0) (List.map (ev0 ([.pointer (some ⟨wr,0,none⟩),.int .i64 d.kind,.int .i64 d.int,txt d.text,.slice b d.list.length c,.int .i64 deep]++[.int .i64 seen]++[.int .i64 seen])) [.ar .add .i64 (.atom 7) (.int .i64 1)])=#[.int .i64 ((seen+1:Nat):Int)]:=by
  simp only [evs,evb,hs1];rfl
 rw [hsp]
 have hw1:(H.upd wr (.cells #[.int .i64 ((seen+1:Nat):Int)] T (0,0))) wr=some (.cells #[.int .i64 ((seen+1:Nat):Int)] T (0,0)):=PH.upd_same
 have hdl:PH.le (H.del wr) ((H.upd wr (.cells #[.int .i64 ((seen+1:Nat):Int)] T (0,0))).del wr):=by rw [PH.del_upd];exact PH.le_refl _
 generalize H.upd wr (.cells #[.int .i64 ((seen+1:Nat):Int)] T (0,0))=H1 at hw1 hdl ⊢
 refine z05 [.bool (z3k d.kind)] zd9 (zhl _ _ _ _ _ _ H1) rfl z01 fun H2 h2=>?_
 have hw2:=h2 _ _ hw1
 have hd2:=PH.le_trans hdl (PH.del_mono h2 wr)
 refine ⟨fun h3=>?_,fun h3=>?_⟩
 ·simp only [evs,evb,zba,zdt] at h3
  have h3':z3k d.kind=true∧deep=32:=⟨h3.1,by omega⟩
  refine ⟨?_,?_,hd2⟩
  ·rw [if_pos h3'];rfl
  ·rw [if_pos h3'];exact hw2
 simp only [evs,evb] at h3
 rw [if_neg (fun h=>by simp [h.1,h.2] at h3)]
 refine z05 [.bool (z3v d)] Z11 (Z2q d H2 (Dat.Rep.le (PH.le_trans hd2 (PH.del_le _ _)) d hd')) rfl z01 fun H3 h4=>?_
 have hw3:=h4 _ _ hw2
 have hd3:=PH.le_trans hd2 (PH.del_mono h4 wr)
 refine ⟨fun h5=>?_,fun h5=>?_⟩
 ·simp only [evs,evb,Bool.not_eq_true'] at h5
  refine ⟨?_,?_,hd3⟩
  ·rw [if_pos h5];rfl
  ·rw [if_pos h5];exact hw3
 simp only [evs,evb,Bool.not_eq_false'] at h5
 rw [if_neg (show ¬z3v d=false by rw [h5];simp)]
 refine ⟨fun n vs H'=>∃(k s:Nat) (x:Int),vs=[.int .i64 x,.int .i64 k]∧k+n=d.list.length∧s≤4096∧Dats.chk d.list (deep+1) (seen+1)=Dats.chk (d.list.drop k) (deep+1) s∧H' wr=some (.cells #[.int .i64 s] T (0,0))∧PH.le (H.del wr) (H'.del wr),
  ⟨d.list.length,0,seen+1,0,rfl,by omega,by omega,by simp,hw3,hd3⟩,?_⟩
 rintro n vs H' _ ⟨k,s,x,rfl,hkn,hs4,heq,hw,hle⟩
 refine ⟨fun h6=>?_,fun h6=>?_⟩
 ·simp only [evs,evb,zdt] at h6
  have hkl:k < d.list.length:=by omega
  obtain ⟨e,he⟩:∃e,d.list[k]?=some e:=⟨_,zge hkl⟩
  obtain ⟨g1,ces,g2,g3,_,_⟩:=(hs.le hle).get he
  have hnest:z3k d.kind=true:=zke h5 (fun h=>by rw [h] at hkl;simp at hkl)
  have hdp:deep≠32:=fun h=>by simp [hnest,h] at h3
  have hd1:IntKind.i64.wrap ((deep:Int)+1)=((deep+1:Nat):Int):=by rw [w64 (by omega) (by omega)];omega
  refine ⟨fun _=>?_,?_⟩
  ·simp only [Chk.holds,evs,evb];exact ⟨g1,by omega,by omega⟩
  have htags:=g2.tags
  have hcall:=ih e (zmg he) ces H' wr (deep+1) s T g2 hw (by omega) hs4
  obtain ⟨sve,rfl,_⟩:=Dat.Rep_iff.1 g2
  refine ⟨_,htags,?_,?_⟩
  ·simp only [evs,evb];exact z0u (PH.del_le _ _) g3
  refine z04 (R:=fun e' H''=>e'=.returned (.int .i64 (e.chk (deep+1) s).2)∧H'' wr=some (.cells #[.int .i64 (e.chk (deep+1) s).1] T (0,0))∧PH.le (H'.del wr) (H''.del wr)) z70 ?_ ?_
  ·simp only [evs,evb,hd1]
   exact hcall
  rintro e' H4 ⟨rfl,hw4,hl4⟩
  refine ⟨_,[.int .i64 (e.chk (deep+1) s).2],rfl,rfl,rfl,z01,?_⟩
  have hle4:=PH.le_trans hle hl4
  have hdrop:d.list.drop k=e::d.list.drop (k+1):=by
   rw [List.drop_eq_getElem_cons hkl]
   congr 1
   rw [zge hkl] at he
   exact Option.some.inj he
  rw [hdrop] at heq
  simp only [Dats.chk] at heq
  refine ⟨fun h7=>?_,fun h7=>?_⟩
  ·simp only [evs,evb,zdt] at h7
   rw [if_pos h7] at heq
   refine ⟨?_,?_,hle4⟩
   ·rw [heq];rfl
   ·rw [heq];exact hw4
  ·simp only [evs,evb,zdf,ne_eq,Decidable.not_not] at h7
   rw [if_neg (by simp [h7])] at heq
   refine ⟨_,z00,n - 1,by omega,k+1,(e.chk (deep+1) s).1,x,?_,by omega,Dat.chk_le e _ _ hs4,heq,hw4,hle4⟩
   simp only [evs,evb]
   rw [w64 (by omega) (by omega)]
   rfl
 ·simp only [evs,evb,zdf] at h6
  have:k=d.list.length:=by omega
  subst this
  rw [List.drop_length] at heq
  simp only [Dats.chk] at heq
  refine ⟨?_,?_,hle⟩
  ·rw [heq];rfl
  ·rw [heq];exact hw
theorem zxo (d:Dat) (cs:List Value) (H:PH) (hd:d.Rep H cs):Gives Tryz.prog zzn [.agg cs.toArray] H (.int .i64 (d.chk 0 0).2):=by
 have hd':=hd
 obtain ⟨sv,rfl,hk,hn,ht,hs⟩:=Dat.Rep_iff.1 hd
 obtain ⟨b,c,rfl⟩:=hs.sl
 refine zuy [.int .i64 d.kind,.int .i64 d.int,txt d.text,.slice b d.list.length c] (by kernel_rfl) (by kernel_rfl) ?_
 intro r hr
 refine z04 z70 (Z6b d _ _ r 0 0 _ (Dat.Rep.le (PH.del_new H r _ hr) d hd') PH.upd_same (by omega) (by omega)) ?_
 rintro e' H4 ⟨rfl,hw4,hl4⟩
 refine ⟨_,[.int .i64 (d.chk 0 0).2],rfl,rfl,rfl,z01,rfl,?_⟩
 exact PH.le_trans (PH.del_new H r _ hr) (PH.le_trans hl4 (PH.del_le _ _))
def hexL:List UInt8:=[48,49,50,51,52,53,54,55,56,57,97,98,99,100,101,102]
def hexB (n:Nat):UInt8:=hexL.getD n 0
def twoL (c:UInt8):List UInt8:=[hexB (c.toNat / 16),hexB (c.toNat % 16)]
theorem z5c:Tryz.prog.underlying 112=some (.slice 5):=by kernel_rfl
theorem z8g:Tryz.prog.underlying 9=some .string:=by kernel_rfl
theorem uByte:Tryz.prog.underlying 5=some (.int .u8):=by kernel_rfl
def charL (c:UInt8):List UInt8:=
 if c=32 then [35,92,115,112,97,99,101] else if c=10 then [35,92,110,101,119,108,105,110,101] else if 32 < c∧c < 127 then [35,92,c] else [35,92,120]++twoL c
def zr1 (c:UInt8):List UInt8:=if c=34∨c=92 then [92,c] else if c=10 then [92,110] else if c < 32∨126 < c then [92,120]++twoL c else [c]
def zup (l:List UInt8):List UInt8:=[34]++l.flatMap zr1++[34]
theorem Z7m (c:UInt8):(zr1 c).length≤4:=by
 unfold zr1;split
 ·simp
 split
 ·simp
 split
 ·simp [twoL]
 ·simp
theorem Z6l (l:List UInt8):(l.flatMap zr1).length≤4 * l.length:=by
 induction l with
 | nil=>simp
 | cons c l ih=>
  have:=Z7m c
  simp only [List.flatMap_cons,zla,zlc];omega
end Go.Proofs.YtfkclejklgoccaaGreat.Vc
