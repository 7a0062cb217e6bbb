import Derived.Test.YtofbhllknefloaaGreatMl
import Derived.Laws.Strings
import Derived.Lib.IndexAny
set_option linter.unusedSimpArgs false
set_option linter.unusedVariables false
set_option maxRecDepth 100000
namespace Go.Proofs.YtofbhllknefloaaGreat.Vc
open Go
theorem evs:(∀E s,ev0 E s=ev E (fun _=>0) s)∧(∀E r i,ev E r (.atom i)=E.getD i (.bool false))∧(∀E r k n,ev E r (.int k n)=.int k n)∧(∀E r b,ev E r (.bool b)=.bool b)∧(∀E r l,ev E r (.str l)=.string ⟨l.toArray⟩)∧(∀E r c,ev E r (.nil c)=nilV c) ∧
  (∀E r f,ev E r (.fn f)=.func (.func f) #[] #[])∧(∀E r op k a b,ev E r (.ar op k a b)=.int k (arI op k (iOf (ev E r a)) (iOf (ev E r b))))∧(∀E r op a b,ev E r (.cmp op a b)=.bool (cmpI op (iOf (ev E r a)) (iOf (ev E r b)))) ∧
  (∀E r op a b,ev E r (.scmp op a b)=.bool (cmpS op (sOf (ev E r a)) (sOf (ev E r b))))∧(∀E r a b,ev E r (.beq a b)=.bool (bOf (ev E r a) == bOf (ev E r b)))∧(∀E r a,ev E r (.isnil a)=.bool (z5e (ev E r a)))∧(∀E r c a b,ev E r (.pick c a b)=if bOf (ev E r c) then ev E r a else ev E r b) ∧
  (∀E r a,ev E r (.not a)=.bool (!bOf (ev E r a)))∧(∀E r k a,ev E r (.conv k a)=.int k (k.wrap (iOf (ev E r a))))∧(∀E r a,ev E r (.len a)=.int .i64 (slLen (ev E r a)))∧(∀E r a,ev E r (.cap a)=.int .i64 (slCap (ev E r a)))∧(∀E r a,ev E r (.slen a)=.int .i64 (sOf (ev E r a)).size) ∧
  (∀E r p n,ev E r (.padd p n)=.pointer ((pOf (ev E r p)).map (·.add n)))∧(∀E r s i sz,ev E r (.elt s i sz)=eltV (ev E r s) (iOf (ev E r i)) sz)∧(∀E r s i,ev E r (.sidx s i)=.int .u8 (((sOf (ev E r s))[(iOf (ev E r i)).toNat]?).getD 0).toNat) ∧
  (∀E r s lo hi,ev E r (.ssub s lo hi)=.string ((sOf (ev E r s)).extract (iOf (ev E r lo)).toNat (iOf (ev E r hi)).toNat))∧(∀E r a b,ev E r (.cat a b)=.string (sOf (ev E r a)++sOf (ev E r b)))∧(∀E r s lo hi sz,ev E r (.sls s lo hi sz)=slsV (ev E r s) (iOf (ev E r lo)) (iOf (ev E r hi)) sz) ∧
  (∀E r s,evV E r (.sc s)=ev E r s)∧(∀E r cs,evV E r (.ag cs)=.agg (cs.map (ev E r)).toArray)∧(∀E r vs,evV E r (.tu vs)=.tuple (vs.map (partV E r)).toArray) ∧
  (∀(a:Value) (l m:List Value),a::l++m=a::(l++m))∧(∀l:List Value,[]++l=l)∧(∀(a d:Value) (l:List Value),(a::l).getD 0 d=a)∧(∀(a d:Value) (l:List Value) (n:Nat),(a::l).getD (n+1) d=l.getD n d) ∧
  (∀(α:Type) (f:α→Value) (a:α) (l:List α),(a::l).map f=f a::l.map f)∧(∀(α:Type) (f:α→Value),[].map f=[]) ∧
  (∀k n,iOf (.int k n)=n)∧(∀b,bOf (.bool b)=b)∧(∀s,sOf (.string s)=s)∧(∀p,pOf (.pointer p)=p)∧(∀b n c,slLen (.slice b n c)=n)∧(∀b n c,z0v (.slice b n c)=b) ∧
  (∀x y,cmpI .eql x y=(x == y))∧(∀x y,cmpI .neq x y=(x != y))∧(∀x y,cmpI .lss x y=decide (x < y))∧(∀x y,cmpI .leq x y=decide (x≤y))∧(∀x y,cmpI .gtr x y=decide (x > y))∧(∀x y,cmpI .geq x y=decide (x ≥ y)) ∧
  (∀k x y,arI .add k x y=k.wrap (x+y))∧(∀k x y,arI .sub k x y=k.wrap (x - y))∧(∀k x y,arI .mul k x y=k.wrap (x * y))∧(∀k x y,arI .quo k x y=k.wrap (x.tdiv y))∧(∀k x y,arI .rem k x y=x.tmod y) ∧
  (∀(p:Bool) (a b:Bool),(if p=true then Value.bool a else Value.bool b)=Value.bool (if p=true then a else b)):=
 ⟨fun _ _=>rfl,fun _ _ _=>rfl,fun _ _ _ _=>rfl,fun _ _ _=>rfl,fun _ _ _=>rfl,fun _ _ _=>rfl,fun _ _ _=>rfl,fun _ _ _ _ _ _=>rfl,fun _ _ _ _ _=>rfl,fun _ _ _ _ _=>rfl,fun _ _ _ _=>rfl,fun _ _ _=>rfl,fun _ _ _ _ _=>rfl,fun _ _ _=>rfl,fun _ _ _ _=>rfl,fun _ _ _=>rfl,fun _ _ _=>rfl,fun _ _ _=>rfl,fun _ _ _ _=>rfl,fun _ _ _ _ _=>rfl,fun _ _ _ _=>rfl,fun _ _ _ _ _=>rfl,fun _ _ _ _=>rfl,fun _ _ _ _ _ _=>rfl,
  fun _ _ _=>rfl,fun _ _ _=>rfl,fun _ _ _=>rfl,fun _ _ _=>rfl,fun _=>rfl,fun _ _ _=>rfl,fun _ _ _ _=>rfl,fun _ _ _ _=>rfl,fun _ _=>rfl,fun _ _=>rfl,fun _=>rfl,fun _=>rfl,fun _=>rfl,fun _ _ _=>rfl,fun _ _ _=>rfl,
  fun _ _=>rfl,fun _ _=>rfl,fun _ _=>rfl,fun _ _=>rfl,fun _ _=>rfl,fun _ _=>rfl,fun _ _ _=>rfl,fun _ _ _=>rfl,fun _ _ _=>rfl,fun _ _ _=>rfl,fun _ _ _=>rfl,fun p a b=>by cases p<;>rfl⟩
theorem evb:(∀a b:Int,(a == b)=decide (a=b))∧(∀a b:Int,(a != b)=decide (a≠b))∧(∀a b:Bool,(if a=true then b else false)=(a && b))∧(∀a b:Bool,(if a=true then true else b)=(a || b)):=
 ⟨fun a b=>by by_cases h:a=b<;>simp [h],fun a b=>by by_cases h:a=b<;>simp [h],fun a b=>by cases a<;>rfl,fun a b=>by cases a<;>rfl⟩
theorem cns:(∀(α:Type) (a:α) (l m:List α),a::l++m=a::(l++m))∧(∀(α:Type) (l:List α),[]++l=l):=⟨fun _ _ _ _=>rfl,fun _ _=>rfl⟩
theorem Z4z (l:List UInt8) (i:Nat):(⟨l.toArray⟩:ByteArray)[i]?=l[i]?:=by
 by_cases h:i < l.length
 ·rw [getElem?_pos _ _ (by simpa [ByteArray.size] using h),ByteArray.getElem_eq_getElem_data];simp [h]
 ·rw [getElem?_neg _ _ (by simpa [ByteArray.size] using h)];simp;omega
theorem zl8 {a b:List UInt8}:((⟨a.toArray⟩:ByteArray).toList == (⟨b.toArray⟩:ByteArray).toList)=decide (a=b):=by
 rw [ByteArray.toList_mk,ByteArray.toList_mk]
 by_cases e:a=b<;>simp [e]
def z7q (c:Int):Bool:=if 48≤c then decide (c≤57) else false
theorem zo8 (c:Int) (H:PH):Gives Tryz.prog zic [.int .u8 c] H (.bool (z7q c)):=by
 refine zg2 [.int .u8 c] (by kernel_rfl) (by kernel_rfl) ⟨?_,PH.le_refl H⟩
 simp [evV,ev,cmpI,iOf,bOf,z7q]
def signsL:List UInt8:=[33,36,37,38,42,47,58,60,61,62,63,94,95,126,43,45,46,64]
def nameB (c:UInt8):Bool:=z7q c.toNat || (decide (97≤c) && decide (c≤122)) || (decide (65≤c) && decide (c≤90)) || signsL.contains c
theorem zn7 {l:List UInt8} {k:Nat} {x:UInt8} (h:l[k]?=some x):((⟨l.toArray⟩:ByteArray)[((k:Int)).toNat]?).getD 0=x:=by rw [Int.toNat_natCast,Z4z,h];rfl
theorem zqt (a b:UInt8):((a.toNat:Int) == (b.toNat:Int))=decide (a=b):=by
 by_cases h:a=b
 ·simp [h]
 ·have:¬a.toNat=b.toNat:=fun e=>h (UInt8.toNat_inj.1 e)
  simp [h];omega
theorem u8_le (a b:UInt8):((a.toNat:Int)≤(b.toNat:Int))↔a≤b:=by rw [UInt8.le_iff_toNat_le];omega
theorem zup (c:UInt8):nameB c=if (if (if z7q c.toNat=true then true else if decide (97≤(c.toNat:Int))=true then decide ((c.toNat:Int)≤122) else false)=true then true else if decide (65≤(c.toNat:Int))=true then decide ((c.toNat:Int)≤90) else false)=true then true else signsL.contains c:=by
 have h1:=u8_le 97 c
 have h2:=u8_le c 122
 have h3:=u8_le 65 c
 have h4:=u8_le c 90
 have e1:decide (97≤(c.toNat:Int))=decide (97≤c):=by simpa using h1
 have e2:decide ((c.toNat:Int)≤122)=decide (c≤122):=by simpa using h2
 have e3:decide (65≤(c.toNat:Int))=decide (65≤c):=by simpa using h3
 have e4:decide ((c.toNat:Int)≤90)=decide (c≤90):=by simpa using h4
 unfold nameB
 rw [e1,e2,e3,e4]
 cases z7q c.toNat<;>cases decide (97≤c)<;>cases decide (c≤122)<;>cases decide (65≤c)<;>cases decide (c≤90)<;>simp
theorem zyn (c:UInt8) (H:PH):Gives Tryz.prog zjd [.int .u8 c.toNat] H (.bool (nameB c)):=by
 refine zgq [.int .u8 c.toNat] (by kernel_rfl) (by kernel_rfl) ?_
 refine z05 [.bool (z7q c.toNat)] z7a (zo8 _ _) rfl z01 fun H1 h1=>?_
 refine ⟨fun hc=>?_,fun hc=>?_⟩
 ·refine ⟨?_,h1⟩
  simp only [evs] at hc
  rw [zup,if_pos hc];rfl
 ·simp only [evs] at hc
  have hc':nameB c=signsL.contains c:=by rw [zup,if_neg (by rw [hc];simp)]
  rw [hc']
  refine ⟨fun n vs H'=>∃k:Nat,vs=[.bool false,.int .i64 k]∧k+n=18∧(∀j,j < k→signsL[j]?≠some c)∧PH.le H H',⟨18,0,rfl,rfl,fun j hj=>by omega,h1⟩,?_⟩
  rintro n vs H' ht ⟨k,rfl,hn,hk,hl⟩
  refine ⟨fun hlt=>?_,fun hge=>?_⟩
  ·simp only [evs,zdt] at hlt
   have hk18:k < 18:=by omega
   refine ⟨fun _=>?_,fun he=>?_,fun he=>?_⟩
   ·simp only [Chk.holds,evs]
    refine ⟨by omega,?_⟩
    simp [ByteArray.size];omega
   ·simp only [evs] at he
    refine ⟨?_,hl⟩
    obtain ⟨x,hx⟩:∃x,signsL[k]?=some x:=⟨_,zge (show k < signsL.length from hk18)⟩
    rw [zn7 (l:=[33,36,37,38,42,47,58,60,61,62,63,94,95,126,43,45,46,64]) hx,zqt,zdt] at he
    subst he
    have:signsL.contains x=true:=by simpa using List.mem_of_getElem? hx
    rw [this];rfl
   ·obtain ⟨x,hx⟩:∃x,signsL[k]?=some x:=⟨_,zge (show k < signsL.length from hk18)⟩
    simp only [evs] at he
    rw [zn7 (l:=[33,36,37,38,42,47,58,60,61,62,63,94,95,126,43,45,46,64]) hx,zqt,zdf] at he
    refine ⟨_,z00,n - 1,by omega,k+1,?_,by omega,?_,hl⟩
    ·simp only [evs]
     rw [w64 (by omega) (by omega)]
     rfl
    ·intro j hj
     by_cases e:j=k
     ·subst e;rw [hx];intro h;cases h;exact he rfl
     ·exact hk j (by omega)
  ·simp only [evs,zdf] at hge
   refine ⟨?_,hl⟩
   have hno:signsL.contains c=false:=by
    cases hc:signsL.contains c with
    | false=>rfl
    | true=>
     obtain ⟨j,hj,hjc⟩:=List.getElem_of_mem (by simpa using hc:c∈signsL)
     have h18:signsL.length=18:=rfl
     exact absurd (by rw [zge hj,hjc]) (hk j (by omega))
   rw [hno];rfl
theorem zv3 {P:Program} {X:List PanicEntry→PH→Prop} {id f n s:Nat} {p:UInt8→Bool} {l:List UInt8} {init:SV} {k0:Nat} {rest:Fm VE} {E:List Value} {H:PH} {L:LK} {K:VE→List Value→PH→LK→Prop}
  (hn:E.length=n) (hs:E[s]?=some (txt l)) (hl:l.length≤maxLen) (hi:ev0 E init=.int .i64 k0) (hk0:k0≤l.length) (hok:callB P f=true) (hf:∀(c:UInt8) H',PH.le H H'→Gives P f [.int .u8 c.toNat] H' (.bool (p c)))
  (hK:∀E' H' L',PH.le H H'→(l.drop k0).all p=false→K (.sc (.bool false)) E' H' L') (hrest:∀H' L',PH.le H H'→(l.drop k0).all p=true→den P X rest (E++[.bool false,.int .i64 l.length]) H' L' K) :
  den P X (.loop id [.bool,.int .i64] [.bool false,init] (.ite (.cmp .lss (.atom (n+1)) (.slen (.atom s))) (.chk [] (.inStr (.atom s) (.atom (n+1))) (.call (.fn f) [.sc (.sidx (.atom s) (.atom (n+1)))] (.sc .bool) []
   (.ite (.not (.atom (n+2))) (.leaf (.sc (.bool false))) (.next id [.atom n,.ar .add .i64 (.atom (n+1)) (.int .i64 1)])))) rest)) E H L K:=by
 have hsn:s < n:=by
  rcases Nat.lt_or_ge s n with h | h
  ·exact h
  ·rw [List.getElem?_eq_none (by omega)] at hs;cases hs
 refine ⟨fun m vs H'=>∃k:Nat,vs=[.bool false,.int .i64 k]∧k0≤k∧k+m=l.length∧((l.take k).drop k0).all p=true∧PH.le H H',⟨l.length - k0,k0,?_,Nat.le_refl _,by omega,?_,PH.le_refl H⟩,?_⟩
 ·simp only [List.map_cons,List.map_nil,hi];rfl
 ·rw [List.drop_eq_nil_of_le (by simp;omega)];rfl
 rintro m vs H' ht ⟨k,rfl,hk,hkm,hall,hle⟩
 have a1:(E++[Value.bool false,Value.int .i64 k]).getD (n+1) (Value.bool false)=.int .i64 k:=by subst hn;simp [zgd]
 have a0:(E++[Value.bool false,Value.int .i64 k]).getD n (Value.bool false)=.bool false:=by subst hn;simp [zgd]
 have a2:(E++[Value.bool false,Value.int .i64 k]).getD s (Value.bool false)=txt l:=by
  simp [zgd,List.getElem?_append_left (show s < E.length by omega),hs]
 simp only [maxLen] at hl
 refine ⟨fun hlt=>?_,fun hge=>?_⟩
 ·simp only [ev0,ev,a1,a2,iOf,bOf,sOf,cmpI,z1l,zdt] at hlt
  have hkl:k < l.length:=by omega
  obtain ⟨c,hc⟩:∃c,l[k]?=some c:=⟨_,zge hkl⟩
  refine ⟨fun _=>?_,?_⟩
  ·simp only [Chk.holds,ev0,ev,a1,a2,iOf,sOf,z1l];omega
  ·refine z05 [.bool (p c)] hok ?_ rfl z01 fun H2 h2=>?_
   ·simp only [List.map_cons,List.map_nil,evV,ev,a1,a2,iOf,sOf,zn7 hc]
    exact hf c H' hle
   have b0:(E++[Value.bool false,Value.int .i64 k]++[Value.bool (p c)]).getD n (Value.bool false)=.bool false:=by subst hn;simp [zgd]
   have b1:(E++[Value.bool false,Value.int .i64 k]++[Value.bool (p c)]).getD (n+1) (Value.bool false)=.int .i64 k:=by subst hn;simp [zgd]
   have b2:(E++[Value.bool false,Value.int .i64 k]++[Value.bool (p c)]).getD (n+2) (Value.bool false)=.bool (p c):=by subst hn;simp [zgd]
   have hcd:c∈l.drop k0:=by
    refine List.mem_of_getElem? (i:=k - k0) ?_
    rw [List.getElem?_drop,show k0+(k - k0)=k by omega];exact hc
   refine ⟨fun hb=>?_,fun hb=>?_⟩
   ·simp only [ev0,ev,b2,bOf,Bool.not_eq_true'] at hb
    refine hK _ H2 _ (PH.le_trans hle h2) ?_
    rw [List.all_eq_false]
    exact ⟨c,hcd,by simp [hb]⟩
   ·simp only [ev0,ev,b2,bOf,Bool.not_eq_false'] at hb
    refine ⟨_,z00,m - 1,by omega,k+1,?_,by omega,by omega,?_,PH.le_trans hle h2⟩
    ·simp only [List.map_cons,List.map_nil,ev0,ev,b0,b1,iOf,arI]
     rw [w64 (by omega) (by omega)]
     rfl
    ·rw [List.take_add_one,hc,List.drop_append_of_le_length (by simp;omega),List.all_append,hall]
     simp [hb]
 ·simp only [ev0,ev,a1,a2,iOf,bOf,sOf,cmpI,z1l,zdf] at hge
  have hkl:k=l.length:=by omega
  subst hkl
  refine hrest H' _ hle ?_
  rw [List.take_length] at hall;exact hall
def numB (l:List UInt8):Bool:=match l with
 | []=>false
 | c::r=>if c == 43 || c == 45 then !r.isEmpty && r.all (fun c=>z7q c.toNat) else (c::r).all fun c=>z7q c.toNat
def z5b (l:List UInt8):Bool:=l.all nameB && !l.isEmpty && decide (l.length≤64) && decide (l≠[46]) && !numB l
theorem zj9 (a b:List UInt8):cmpS .neq ⟨a.toArray⟩ ⟨b.toArray⟩=decide (a≠b):=by
 simp only [cmpS,zl8];by_cases h:a=b<;>simp [h]
theorem z03 (a b:List UInt8):cmpS .eql ⟨a.toArray⟩ ⟨b.toArray⟩=decide (a=b):=by
 simp only [cmpS,zl8]
def signB (l:List UInt8):Bool:=match l with
 | []=>false
 | c::_=>c == 43 || c == 45
theorem zxn (l:List UInt8):numB l=(decide ((if signB l then 1 else 0) < l.length) && (l.drop (if signB l then 1 else 0)).all fun c=>z7q c.toNat):=by
 cases l with
 | nil=>rfl
 | cons c r=>
  simp only [numB,signB]
  by_cases h:(c == 43 || c == 45)=true
  ·simp only [h,if_true];cases r<;>simp
  ·simp only [h];simp
theorem zts (l:List UInt8) (hl:l.length≤maxLen) (H:PH):Gives Tryz.prog zgp [txt l] H (.bool (numB l)):=by
 refine ze0 [txt l] (by kernel_rfl) (by kernel_rfl) ?_
 have hm:=hl
 simp only [maxLen] at hm
 have hsign:∀(E:List Value),E.getD 0 (Value.bool false)=txt l→ev0 E (.pick (.pick (.cmp .gtr (.slen (.atom 0)) (.int .i64 0)) (.pick (.cmp .eql (.sidx (.atom 0) (.int .i64 0)) (.int .u8 43)) (.bool true) (.cmp .eql (.sidx (.atom 0) (.int .i64 0)) (.int .u8 45))) (.bool false)) (.int .i64 1) (.int .i64 0))=.int .i64 ((if signB l then 1 else 0:Nat):Int):=by
  intro E hE
  cases l with
  | nil=>simp only [evs,hE,z1l];simp [signB]
  | cons c r=>
   have hg:((⟨(c::r).toArray⟩:ByteArray)[(0:Int).toNat]?).getD 0=c:=zn7 (k:=0) rfl
   have e1:((c.toNat:Int) == 43)=(c == 43):=zqt c 43
   have e2:((c.toNat:Int) == 45)=(c == 45):=zqt c 45
   simp only [evs,hE,z1l,hg,e1,e2,signB]
   by_cases h1:c=43
   ·subst h1;simp
   ·by_cases h2:c=45
    ·subst h2;simp
    ·simp [h1,h2]
 refine ⟨fun _=>?_,fun _=>?_,?_⟩
 ·rename_i hh
  have:=hh (.cmp .gtr (.slen (.atom 0)) (.int .i64 0),true) (by simp)
  simp only [evs,z1l,zdt] at this
  simp only [Chk.holds,evs,z1l];omega
 ·rename_i hh
  have:=hh (.cmp .gtr (.slen (.atom 0)) (.int .i64 0),true) (by simp)
  simp only [evs,z1l,zdt] at this
  simp only [Chk.holds,evs,z1l];omega
 ·refine zv3 (n:=1) (s:=0) (p:=fun c=>z7q c.toNat) (k0:=if signB l then 1 else 0) rfl rfl hl (hsign _ rfl) ?_ z7a (fun c H' _=>zo8 _ _) ?_ ?_
  ·cases l with
   | nil=>simp [signB]
   | cons c r=>simp;split<;>omega
  ·intro E' H' L' h1 h2
   refine ⟨?_,h1⟩
   rw [zxn,h2];simp [evV,ev]
  ·intro H' L' h1 h2
   refine ⟨?_,h1⟩
   have hs:=hsign ([txt l]++[Value.bool false,Value.int .i64 l.length]) rfl
   rw [zxn,h2]
   simp only [evV,ev0] at hs ⊢
   rw [ev,hs]
   simp only [ev,iOf,sOf,cmpI,List.cons_append,List.nil_append,List.getD_cons_zero,z1l,Bool.and_true]
   congr 2
   simp
theorem zwq (l:List UInt8) (a b:Nat):(⟨l.toArray⟩:ByteArray).extract a b=⟨((l.take b).drop a).toArray⟩:=by
 apply ByteArray.ext
 rw [ByteArray.data_extract]
 apply Array.ext'
 simp [List.drop_take]
theorem zo3 (l:List UInt8) (hl:l.length≤maxLen) (H:PH):Gives Tryz.prog zj6 [txt l] H (.bool (z5b l)):=by
 refine zgh [txt l] (by kernel_rfl) (by kernel_rfl) ?_
 refine ⟨fun vs H'=>vs=[.bool (decide (l.length < 1) || decide (64 < l.length) || decide (l=[46]) || numB l)]∧PH.le H H',?_,?_⟩
 ·rintro vs H' ht ⟨rfl,hle⟩
  refine ⟨fun hh=>?_,fun hh=>?_⟩
  ·simp only [evs] at hh
   refine ⟨?_,hle⟩
   simp only [evV,ev,z5b]
   congr 2
   cases l with
   | nil=>simp
   | cons c r=>
    simp at hh ⊢
    rcases hh with (hh | hh) | hh
    ·intros;omega
    ·intros;simp_all
    ·intros;simp_all
  ·simp only [evs] at hh
   simp only [Bool.or_eq_false_iff,zdf] at hh
   obtain ⟨⟨⟨h1,h2⟩,h3⟩,h4⟩:=hh
   refine zv3 (n:=2) (s:=0) (p:=nameB) (k0:=0) rfl rfl hl rfl (by omega) zid (fun c H' _=>zyn c H') ?_ ?_
   ·intro E' H' L' g1 g2
    rw [List.drop_zero] at g2
    refine ⟨?_,PH.le_trans hle g1⟩
    simp [z5b,g2,evV,ev]
   ·intro H' L' g1 g2
    rw [List.drop_zero] at g2
    refine ⟨?_,PH.le_trans hle g1⟩
    simp only [evV,ev,z5b,g2]
    have:l≠[]:=by rintro rfl;simp at h1
    cases l with
    | nil=>simp at h1
    | cons c r=>simp at h2 h3 ⊢;simp [h4];exact ⟨by omega,Decidable.not_or_of_imp h3⟩
 ·refine ⟨fun hh=>?_,fun hh=>?_⟩
  ·simp only [evs,z03,z1l] at hh
   refine ⟨_,z00,?_,PH.le_refl H⟩
   simp only [evs]
   congr 2
   symm
   by_cases h1:l.length < 1
   ·simp [h1]
   ·by_cases h2:64 < l.length
    ·simp [h2]
    ·by_cases h3:l=[46]
     ·simp [h3]
     ·simp [h3] at hh;omega
  ·simp only [evs,z03,z1l] at hh
   refine z05 [.bool (numB l)] zfs (zts l hl H) rfl z01 fun H2 h3=>?_
   refine ⟨_,z00,?_,h3⟩
   simp only [evs]
   congr 2
   by_cases h1:l.length < 1
   ·simp at hh;omega
   ·by_cases h2:64 < l.length
    ·simp at hh;omega
    ·by_cases h3:l=[46]
     ·simp [h3] at hh
     ·simp [h1,h2,h3]
inductive Dat where
 | mk (kind int:Int) (text:List UInt8) (list:List Dat)
def Dat.kind:Dat→Int
 | .mk k _ _ _=>k
def Dat.int:Dat→Int
 | .mk _ n _ _=>n
def Dat.text:Dat→List UInt8
 | .mk _ _ t _=>t
def Dat.list:Dat→List Dat
 | .mk _ _ _ l=>l
def InI (n:Int):Prop:=-9223372036854775808≤n∧n≤9223372036854775807
mutual
def Dat.pv:Dat→List PV
 | .mk k n t l=>[.int .i64 k,.int .i64 n,.str t,.sl (Dats.pvs l)]
def Dats.pvs:List Dat→List (List PV)
 | []=>[]
 | d::l=>Dat.pv d::Dats.pvs l
end
theorem Dats.pvs_eq:∀l:List Dat,Dats.pvs l=l.map Dat.pv
 | []=>by simp only [Dats.pvs,List.map_nil]
 | d::l=>by simp only [Dats.pvs,List.map_cons,Dats.pvs_eq l]
instance encDat:Enc Dat:=⟨Dat.pv,4,fun d=>by cases d;simp only [Dat.pv,zlc,List.length_nil]⟩
abbrev Dat.Rep (H:PH) (d:Dat) (cs:List Value):Prop:=CsR H d cs
abbrev SlRep (H:PH) (l:List Dat) (sv:Value):Prop:=SlR H l sv
theorem inI64 {n:Int}:(IntKind.i64.min≤n∧n≤IntKind.i64.max)↔InI n:=Iff.rfl
theorem Dat.Rep_iff {H:PH} {d:Dat} {cs:List Value}:d.Rep H cs↔∃sv,cs=[.int .i64 d.kind,.int .i64 d.int,txt d.text,sv]∧InI d.kind∧InI d.int∧d.text.length≤maxLen∧SlRep H d.list sv:=by
 obtain ⟨k,n,t,l⟩:=d
 unfold Dat.Rep CsR SlRep SlR slp
 show PV.RepRow H (Dat.pv _) cs↔_
 simp only [Dat.pv,PV.RepRow,Dat.kind,Dat.int,Dat.text,Dat.list,Dats.pvs_eq]
 constructor
 ·rintro ⟨v1,vs1,rfl,h1,v2,vs2,rfl,h2,v3,vs3,rfl,h3,v4,vs4,rfl,h4,rfl⟩
  simp only [PV.Rep] at h1 h2 h3
  obtain ⟨rfl,h1⟩:=h1
  obtain ⟨rfl,h2⟩:=h2
  obtain ⟨rfl,h3⟩:=h3
  exact ⟨v4,rfl,inI64.1 h1,inI64.1 h2,h3,h4⟩
 ·rintro ⟨sv,rfl,h1,h2,h3,h4⟩
  refine ⟨_,_,rfl,?_,_,_,rfl,?_,_,_,rfl,?_,_,_,rfl,h4,rfl⟩
  ·simp only [PV.Rep];exact ⟨trivial,inI64.2 h1⟩
  ·simp only [PV.Rep];exact ⟨trivial,inI64.2 h2⟩
  ·simp only [PV.Rep];exact ⟨trivial,h3⟩
theorem Dat.Rep.le {H H':PH} (h:PH.le H H') (d:Dat) {cs:List Value} (hd:d.Rep H cs):d.Rep H' cs:=CsR.le h hd
theorem SlRep.le {H H':PH} (h:PH.le H H') {l:List Dat} {sv:Value} (hs:SlRep H l sv):SlRep H' l sv:=SlR.le h hs
theorem SlRep.len {H:PH} {l:List Dat} {sv:Value} (h:SlRep H l sv):slLen sv=l.length:=SlR.len h
theorem SlRep.sl {H:PH} {l:List Dat} {sv:Value} (h:SlRep H l sv):∃b c,sv=.slice b l.length c:=SlR.sl h
theorem SlRep.max {H:PH} {l:List Dat} {sv:Value} (h:SlRep H l sv):l.length≤maxLen:=SlR.max h
theorem SlRep.get {H:PH} {l:List Dat} {sv:Value} (h:SlRep H l sv) {i:Nat} {d:Dat} (hi:l[i]?=some d) :
  (z0v sv).isSome=true∧∃cs,d.Rep H cs∧rowAt H (pOf (eltV sv (i:Int) 4)) cs∧rowAt H ((pOf (eltV sv (i:Int) 4)).map (·.add 0)) [.int .i64 d.kind]∧(pOf (eltV sv (i:Int) 4)).isSome=true:=by
 obtain ⟨h1,h2,cs,h3,h4⟩:=SlR.get h hi
 refine ⟨h1,cs,h3,h4,?_,h2⟩
 obtain ⟨sv',h7,_⟩:=Dat.Rep_iff.1 h3
 have:=z0a h4 0 1
 rw [h7] at this
 exact this
theorem Dat.Rep.tags {H:PH} {d:Dat} {cs:List Value} (h:d.Rep H cs):z08 [.int .i64,.int .i64,.str,.sl] cs=true:=by
 obtain ⟨sv,rfl,_,_,_,hs⟩:=Dat.Rep_iff.1 h
 obtain ⟨b,c,rfl⟩:=hs.sl
 rfl
theorem zmp (a b:Int):(a == b)=decide (a=b):=by by_cases h:a=b<;>simp [h]
theorem zxl (a b:Int):(a != b)=decide (a≠b):=by by_cases h:a=b<;>simp [h]
theorem zu0 (a b:Bool):(if a=true then b else false)=(a && b):=by cases a<;>rfl
theorem zya (a b:Bool):(if a=true then true else b)=(a || b):=by cases a<;>rfl
def zaa (k:Int):Bool:=decide (k=5) || decide (k=6) || decide (k=7)
theorem ztq (k n:Int) (t:List UInt8) (b:Option Addr) (m c:Nat) (H:PH):Gives Tryz.prog zgm [.agg #[.int .i64 k,.int .i64 n,txt t,.slice b m c]] H (.bool (zaa k)):=by
 refine zeb [.int .i64 k,.int .i64 n,txt t,.slice b m c] (by kernel_rfl) (by kernel_rfl) ⟨?_,PH.le_refl H⟩
 simp only [evs,evb,zaa]
def z1f (d:Dat):Bool:=
 if d.kind=0 then decide (d.text=[]) && d.list.isEmpty && (decide (d.int=0) || decide (d.int=1))
 else if d.kind=1 then decide (d.text=[]) && d.list.isEmpty && decide (-1152921504606846976≤d.int) && decide (d.int < 1152921504606846976)
 else if d.kind=2 then decide (d.text=[]) && d.list.isEmpty && decide (0≤d.int) && decide (d.int≤255)
 else if d.kind=3 then decide (d.int=0) && d.list.isEmpty && decide (d.text.length≤4096)
 else if d.kind=4 then decide (d.int=0) && d.list.isEmpty && z5b d.text
 else if d.kind=5∨d.kind=7 then decide (d.int=0) && decide (d.text=[])
 else if d.kind=6 then decide (d.int=0) && decide (d.text=[]) && decide (2≤d.list.length) && (match d.list[d.list.length - 1]? with | some e=>decide (e.kind≠5) && decide (e.kind≠6) | none=>false)
 else false
theorem z58 {α:Type} (l:List α):decide ((l.length:Int)=0)=l.isEmpty:=by cases l<;>simp;omega
theorem zwp (d:Dat) {cs:List Value} (H:PH) (hd:d.Rep H cs):Gives Tryz.prog zjt [.agg cs.toArray] H (.bool (z1f d)):=by
 obtain ⟨sv,rfl,hk,hn,ht,hs⟩:=Dat.Rep_iff.1 hd
 obtain ⟨b,c,rfl⟩:=hs.sl
 refine zg6 [.int .i64 d.kind,.int .i64 d.int,txt d.text,.slice b d.list.length c] (by kernel_rfl) (by kernel_rfl) ?_
 have hlen:d.list.length≤maxLen:=hs.max
 simp only [maxLen] at hlen
 have leaf:∀(x:Bool),x=z1f d→(Ending.returned (.bool x)=Ending.returned (.bool (z1f d))∧PH.le H H):=fun x hx=>⟨by rw [hx],PH.le_refl H⟩
 refine ⟨fun h0=>?_,fun h0=>?_⟩
 ·simp only [evs,evb,zdt] at h0
  refine ⟨?_,PH.le_refl H⟩
  simp only [z1f,if_pos h0,evs,evb,z03,z58]
 simp only [evs,evb,zdf] at h0
 refine ⟨fun h1=>?_,fun h1=>?_⟩
 ·simp only [evs,evb,zdt] at h1
  refine ⟨?_,PH.le_refl H⟩
  simp only [z1f,if_neg h0,if_pos h1,evs,evb,z03,z58,ge_iff_le]
 simp only [evs,evb,zdf] at h1
 refine ⟨fun h2=>?_,fun h2=>?_⟩
 ·simp only [evs,evb,zdt] at h2
  refine ⟨?_,PH.le_refl H⟩
  simp only [z1f,if_neg h0,if_neg h1,if_pos h2,evs,evb,z03,z58,ge_iff_le]
 simp only [evs,evb,zdf] at h2
 refine ⟨fun h3=>?_,fun h3=>?_⟩
 ·simp only [evs,evb,zdt] at h3
  refine ⟨?_,PH.le_refl H⟩
  simp only [z1f,if_neg h0,if_neg h1,if_neg h2,if_pos h3,evs,evb,z03,z58,z1l]
  congr 3
  simp;omega
 simp only [evs,evb,zdf] at h3
 refine ⟨fun h4=>?_,fun h4=>?_⟩
 ·simp only [evs,evb,zdt] at h4
  refine ⟨fun vs H'=>vs=[.bool (z1f d)]∧PH.le H H',?_,?_⟩
  ·rintro vs H' _ ⟨rfl,hl⟩;exact ⟨rfl,hl⟩
  ·have hfo:z1f d=(decide (d.int=0) && d.list.isEmpty && z5b d.text):=by
    simp only [z1f,if_neg h0,if_neg h1,if_neg h2,if_neg h3,if_pos h4]
   refine ⟨fun hb=>?_,fun hb=>?_⟩
   ·simp only [evs,evb,z58] at hb
    refine z05 [.bool (z5b d.text)] z89 (zo3 d.text ht H) rfl z01 fun H2 h2=>?_
    refine ⟨_,z00,?_,h2⟩
    rw [hfo,hb];rfl
   ·simp only [evs,evb,z58] at hb
    refine ⟨_,z00,?_,PH.le_refl H⟩
    rw [hfo,hb];rfl
 simp only [evs,evb,zdf] at h4
 refine ⟨fun h5=>?_,fun h5=>?_⟩
 ·simp only [evs,evb] at h5
  have h57:d.kind=5∨d.kind=7:=by
   by_cases h:d.kind=5
   ·exact .inl h
   ·simp [h] at h5;exact .inr h5
  refine ⟨?_,PH.le_refl H⟩
  simp only [z1f,if_neg h0,if_neg h1,if_neg h2,if_neg h3,if_neg h4,if_pos h57,evs,evb,z03]
 simp only [evs,evb] at h5
 have h57:¬(d.kind=5∨d.kind=7):=by
  rintro (h | h)
  ·simp [h] at h5
  ·simp [h] at h5
 refine ⟨fun h6=>?_,fun h6=>?_⟩
 ·simp only [evs,evb,zdt] at h6
  have hfo:z1f d=(decide (d.int=0) && decide (d.text=[]) && decide (2≤d.list.length) && (match d.list[d.list.length - 1]? with | some e=>decide (e.kind≠5) && decide (e.kind≠6) | none=>false)):=by
   simp only [z1f,if_neg h0,if_neg h1,if_neg h2,if_neg h3,if_neg h4,if_neg h57,if_pos h6]
  refine ⟨fun vs H'=>vs=[.bool (z1f d)]∧PH.le H H',?_,?_⟩
  ·rintro vs H' _ ⟨rfl,hl⟩;exact ⟨rfl,hl⟩
  have hcond:∀E:List Value,E.getD 1 (Value.bool false)=.int .i64 d.int→E.getD 2 (Value.bool false)=txt d.text→E.getD 3 (Value.bool false)=.slice b d.list.length c →
    bOf (ev0 E (.pick (.pick (.cmp .eql (.atom 1) (.int .i64 0)) (.scmp .eql (.atom 2) (.str [])) (.bool false)) (.cmp .geq (.len (.atom 3)) (.int .i64 2)) (.bool false)))=(decide (d.int=0) && decide (d.text=[]) && decide (2≤d.list.length)):=by
   intro E e1 e2 e3
   simp only [evs,evb,e1,e2,e3,z03]
   congr 1
   simp;omega
  have hidx:∀E:List Value,E.getD 3 (Value.bool false)=.slice b d.list.length c→2≤d.list.length→ev0 E (.ar .sub .i64 (.len (.atom 3)) (.int .i64 1))=.int .i64 ((d.list.length - 1:Nat):Int):=by
   intro E e3 h2
   simp only [evs,evb,e3]
   rw [w64 (by omega) (by omega)]
   congr 1;omega
  have hlast:2≤d.list.length→∃e,d.list[d.list.length - 1]?=some e:=fun h2=>⟨_,zge (by omega)⟩
  have hin:∀E:List Value,E.getD 3 (Value.bool false)=.slice b d.list.length c→2≤d.list.length→Chk.holds E (.inSl (.atom 3) (.ar .sub .i64 (.len (.atom 3)) (.int .i64 1))):=by
   intro E e3 h2
   obtain ⟨e,he⟩:=hlast h2
   have:=(hs.get he).1
   show (z0v (E.getD 3 (Value.bool false))).isSome=true∧0≤iOf (ev0 E _)∧iOf (ev0 E _) < slLen (E.getD 3 (Value.bool false))
   rw [hidx E e3 h2,e3]
   exact ⟨this,by simp only [iOf];omega,by simp only [iOf,slLen];omega⟩
  have hso:∀E:List Value,E.getD 3 (Value.bool false)=.slice b d.list.length c→2≤d.list.length→Chk.holds E (.some (.elt (.atom 3) (.ar .sub .i64 (.len (.atom 3)) (.int .i64 1)) 4)):=by
   intro E e3 h2
   obtain ⟨e,he⟩:=hlast h2
   obtain ⟨_,_,_,_,_,h⟩:=hs.get he
   show (pOf (eltV (E.getD 3 (Value.bool false)) (iOf (ev0 E _)) 4)).isSome=true
   rw [hidx E e3 h2,e3];exact h
  have hrow:∀E:List Value,E.getD 3 (Value.bool false)=.slice b d.list.length c→2≤d.list.length→∀e,d.list[d.list.length - 1]?=some e→rowAt H (pOf (ev0 E (.padd (.elt (.atom 3) (.ar .sub .i64 (.len (.atom 3)) (.int .i64 1)) 4) 0))) [.int .i64 e.kind]:=by
   intro E e3 h2 e he
   obtain ⟨_,_,_,_,h,_⟩:=hs.get he
   show rowAt H ((pOf (eltV (E.getD 3 (Value.bool false)) (iOf (ev0 E _)) 4)).map (·.add 0)) _
   rw [hidx E e3 h2,e3];exact h
  have h2of:(decide (d.int=0) && decide (d.text=[]) && decide (2≤d.list.length))=true→2≤d.list.length:=fun h=>by
   simp only [zba,zdt] at h;exact h.2
  refine ⟨fun hg=>?_,fun hg=>?_,fun hc=>?_,fun hc=>?_⟩
  ·exact hin _ rfl (h2of ((hcond _ rfl rfl rfl).symm.trans (hg _ (List.mem_singleton.2 rfl))))
  ·exact hso _ rfl (h2of ((hcond _ rfl rfl rfl).symm.trans (hg _ (List.mem_singleton.2 rfl))))
  ·rw [hcond _ rfl rfl rfl] at hc
   have h2:=h2of hc
   obtain ⟨e,he⟩:=hlast h2
   rw [hc,he] at hfo
   refine ⟨[.int .i64 e.kind],rfl,hrow _ rfl h2 e he,fun _=>hin _ rfl h2,fun _=>hso _ rfl h2,fun hx=>?_,fun hx=>?_⟩
   ·simp only [evs,evb,zdt] at hx
    refine ⟨[.int .i64 e.kind],rfl,hrow _ rfl h2 e he,_,z00,?_,PH.le_refl H⟩
    rw [hfo]
    simp only [evs,evb]
    simp [hx]
   ·simp only [evs,evb,zdf] at hx
    refine ⟨_,z00,?_,PH.le_refl H⟩
    rw [hfo]
    simp only [evs,evb]
    simp [hx]
  ·rw [hcond _ rfl rfl rfl] at hc
   rw [hc] at hfo
   exact ⟨_,z00,by rw [hfo];rfl,PH.le_refl H⟩
 ·simp only [evs,evb,zdf] at h6
  refine ⟨?_,PH.le_refl H⟩
  simp only [z1f,if_neg h0,if_neg h1,if_neg h2,if_neg h3,if_neg h4,if_neg h57,if_neg h6]
  rfl
mutual
theorem Dat.ind {p:Dat→Prop} (h:∀d,(∀e∈d.list,p e)→p d):∀d,p d
 | .mk _ _ _ l=>h _ (Dats.ind h l)
theorem Dats.ind {p:Dat→Prop} (h:∀d,(∀e∈d.list,p e)→p d):∀(l:List Dat),∀e∈l,p e
 | [],e,he=>by cases he
 | d::l,e,he=>(List.mem_cons.1 he).elim (fun h1=>h1 ▸ Dat.ind h d) (fun h1=>Dats.ind h l e h1)
end
mutual
def Dat.chk:Dat→Nat→Nat→Nat×Int
 | .mk k n t l,deep,seen=>if seen=4096 then (seen,22) else if zaa k=true∧deep=32 then (seen+1,21) else if z1f (.mk k n t l)=false then (seen+1,20) else Dats.chk l (deep+1) (seen+1)
def Dats.chk:List Dat→Nat→Nat→Nat×Int
 | [],_,seen=>(seen,0)
 | d::l,deep,seen=>if (Dat.chk d deep seen).2≠0 then Dat.chk d deep seen else Dats.chk l deep (Dat.chk d deep seen).1
end
theorem Dat.chk_eq (d:Dat) (deep seen:Nat):d.chk deep seen=if seen=4096 then (seen,22) else if zaa d.kind=true∧deep=32 then (seen+1,21) else if z1f d=false then (seen+1,20) else Dats.chk d.list (deep+1) (seen+1):=by
 cases d;simp only [Dat.chk,Dat.kind,Dat.list];rfl
mutual
theorem Dat.chk_le:∀(d:Dat) (deep seen:Nat),seen≤4096→(d.chk deep seen).1≤4096
 | .mk k n t l,deep,seen,h=>by
  simp only [Dat.chk]
  split
  ·exact h
  split
  ·simp only;omega
  split
  ·simp only;omega
  ·exact Dats.chk_le l _ _ (by omega)
theorem Dats.chk_le:∀(l:List Dat) (deep seen:Nat),seen≤4096→(Dats.chk l deep seen).1≤4096
 | [],_,seen,h=>by simp only [Dats.chk];exact h
 | d::l,deep,seen,h=>by
  simp only [Dats.chk]
  split
  ·exact Dat.chk_le d _ _ h
  ·exact Dats.chk_le l _ _ (Dat.chk_le d _ _ h)
end
theorem zr1 (E:List Value) (r:Nat→Nat) (a b:SV):evV E r (.tu [(false,[a]),(false,[b])])=.tuple #[ev E r a,ev E r b]:=rfl
theorem zl0 {d:Dat} (h:z1f d=true) (hl:d.list≠[]):zaa d.kind=true:=by
 obtain ⟨k,n,t,l⟩:=d
 simp only [z1f,zaa,Dat.kind,Dat.list,Dat.int,Dat.text] at *
 have:l.isEmpty=false:=by cases l<;>simp at hl ⊢
 grind
theorem zvh:∀(d:Dat) (cs:List Value) (H:PH) (deep seen:Nat),d.Rep H cs→deep≤32→seen≤4096 →
  Gives Tryz.prog zi7 [.agg cs.toArray,.int .i64 deep,.int .i64 seen] H (.tuple #[.int .i64 (d.chk deep seen).1,.int .i64 (d.chk deep seen).2]):=by
 refine Dat.ind ?_
 intro d ih cs H deep seen hd hdeep hseen
 have hd':=hd
 obtain ⟨sv,rfl,hk,hn,ht,hs⟩:=Dat.Rep_iff.1 hd
 obtain ⟨b,c,rfl⟩:=hs.sl
 have hlen:d.list.length≤maxLen:=hs.max
 simp only [maxLen] at hlen ht
 rw [Dat.chk_eq]
 refine zg1 [.int .i64 d.kind,.int .i64 d.int,txt d.text,.slice b d.list.length c,.int .i64 deep,.int .i64 seen] (by kernel_rfl) (by kernel_rfl) ?_
 refine ⟨fun h0=>?_,fun h0=>?_⟩
 ·simp only [evs,evb,zdt] at h0
  refine ⟨?_,PH.le_refl H⟩
  rw [if_pos (by omega)];rfl
 simp only [evs,evb,zdf] at h0
 rw [if_neg (by omega)]
 have hs1:IntKind.i64.wrap ((seen:Int)+1)=((seen+1:Nat):Int):=by rw [w64 (by omega) (by omega)];omega
 refine z05 [.bool (zaa d.kind)] zf1 (ztq _ _ _ _ _ _ H) rfl z01 fun H1 h1=>?_
 refine ⟨fun h2=>?_,fun h2=>?_⟩
 ·simp only [evs,evb,zba,zdt] at h2
  refine ⟨?_,h1⟩
  rw [if_pos ⟨h2.1,by omega⟩]
  rw [zr1]
  simp only [evs,evb,hs1]
 simp only [evs,evb] at h2
 rw [if_neg (fun h=>by simp [h.1,h.2] at h2)]
 refine z05 [.bool (z1f d)] zhj (zwp d H1 (Dat.Rep.le h1 d hd')) rfl z01 fun H2 h3=>?_
 refine ⟨fun h4=>?_,fun h4=>?_⟩
 ·simp only [evs,evb,Bool.not_eq_true'] at h4
  refine ⟨?_,PH.le_trans h1 h3⟩
  rw [if_pos h4]
  rw [zr1]
  simp only [evs,evb,hs1]
 simp only [evs,evb,Bool.not_eq_false'] at h4
 rw [if_neg (by rw [h4];simp)]
 refine ⟨fun n vs H'=>∃(k s:Nat) (x y z:Int),vs=[.int .i64 s,.int .i64 x,.int .i64 y,.int .i64 z,.int .i64 k]∧k+n=d.list.length∧s≤4096∧Dats.chk d.list (deep+1) (seen+1)=Dats.chk (d.list.drop k) (deep+1) s∧PH.le H H',
  ⟨d.list.length,0,seen+1,0,0,0,?_,by omega,by omega,by simp,PH.le_trans h1 h3⟩,?_⟩
 ·simp only [evs,evb,hs1];rfl
 rintro n vs H' _ ⟨k,s,x,y,z,rfl,hkn,hs4,heq,hle⟩
 refine ⟨fun h5=>?_,fun h5=>?_⟩
 ·simp only [evs,evb,zdt] at h5
  have hkl:k < d.list.length:=by omega
  obtain ⟨e,he⟩:∃e,d.list[k]?=some e:=⟨_,zge hkl⟩
  obtain ⟨g1,ces,g2,g3,_,_⟩:=(hs.le hle).get he
  have hnest:zaa d.kind=true:=zl0 h4 (fun h=>by rw [h] at hkl;simp at hkl)
  have hdp:deep≠32:=fun h=>by simp [hnest,h] at h2
  have hd1:IntKind.i64.wrap ((deep:Int)+1)=((deep+1:Nat):Int):=by rw [w64 (by omega) (by omega)];omega
  refine ⟨fun _=>?_,?_⟩
  ·simp only [Chk.holds,evs,evb];exact ⟨g1,by omega,by omega⟩
  have htags:=g2.tags
  have hcall:=ih e (List.mem_of_getElem? he) ces H' (deep+1) s g2 (by omega) hs4
  obtain ⟨sve,rfl,_⟩:=Dat.Rep_iff.1 g2
  refine ⟨_,htags,?_,?_⟩
  ·simp only [evs,evb];exact g3
  refine z05 [.int .i64 (e.chk (deep+1) s).1,.int .i64 (e.chk (deep+1) s).2] z7b ?_ rfl z01 fun H3 h6=>?_
  ·simp only [evs,evb,hd1]
   exact hcall
  have hdrop:d.list.drop k=e::d.list.drop (k+1):=by
   rw [List.drop_eq_getElem_cons hkl]
   congr 1
   rw [zge hkl] at he
   exact Option.some.inj he
  rw [hdrop] at heq
  simp only [Dats.chk] at heq
  refine ⟨fun h7=>?_,fun h7=>?_⟩
  ·simp only [evs,evb,zdt] at h7
   refine ⟨?_,PH.le_trans hle h6⟩
   rw [heq,if_pos h7,zr1]
   simp only [evs,evb]
  ·simp only [evs,evb,zdf,ne_eq,Decidable.not_not] at h7
   rw [if_neg (by simp [h7])] at heq
   refine ⟨_,z00,n - 1,by omega,k+1,(e.chk (deep+1) s).1,x,y,(e.chk (deep+1) s).2,?_,by omega,Dat.chk_le e _ _ hs4,heq,PH.le_trans hle h6⟩
   simp only [evs,evb]
   rw [w64 (by omega) (by omega)]
   rfl
 ·simp only [evs,evb,zdf] at h5
  refine ⟨?_,hle⟩
  have:k=d.list.length:=by omega
  subst this
  rw [heq,List.drop_length]
  simp only [Dats.chk]
  rfl
theorem zl2 (d:Dat) (cs:List Value) (H:PH) (hd:d.Rep H cs):Gives Tryz.prog zhx [.agg cs.toArray] H (.int .i64 (d.chk 0 0).2):=by
 have hc:=zvh d cs H 0 0 hd (by omega) (by omega)
 obtain ⟨sv,rfl,hk,hn,ht,hs⟩:=Dat.Rep_iff.1 hd
 obtain ⟨b,c,rfl⟩:=hs.sl
 refine zfm [.int .i64 d.kind,.int .i64 d.int,txt d.text,.slice b d.list.length c] (by kernel_rfl) (by kernel_rfl) ?_
 refine z05 [.int .i64 (d.chk 0 0).1,.int .i64 (d.chk 0 0).2] z7b hc rfl z01 fun H3 h6=>⟨rfl,h6⟩
def hexL:List UInt8:=[48,49,50,51,52,53,54,55,56,57,97,98,99,100,101,102]
def hexB (n:Nat):UInt8:=hexL.getD n 0
def twoL (c:UInt8):List UInt8:=[hexB (c.toNat / 16),hexB (c.toNat % 16)]
theorem ziv:Tryz.prog.underlying 80=some (.slice 5):=by kernel_rfl
theorem zej:Tryz.prog.underlying 9=some .string:=by kernel_rfl
theorem uByte:Tryz.prog.underlying 5=some (.int .u8):=by kernel_rfl
def charL (c:UInt8):List UInt8:=
 if c=32 then [35,92,115,112,97,99,101] else if c=10 then [35,92,110,101,119,108,105,110,101] else if 32 < c∧c < 127 then [35,92,c] else [35,92,120]++twoL c
def zq8 (c:UInt8):List UInt8:=if c=34∨c=92 then [92,c] else if c=10 then [92,110] else if c < 32∨126 < c then [92,120]++twoL c else [c]
def zrd (l:List UInt8):List UInt8:=[34]++l.flatMap zq8++[34]
theorem zys (c:UInt8):(zq8 c).length≤4:=by
 unfold zq8;split
 ·simp
 split
 ·simp
 split
 ·simp [twoL]
 ·simp
theorem zye (l:List UInt8):(l.flatMap zq8).length≤4 * l.length:=by
 induction l with
 | nil=>simp
 | cons c l ih=>
  have:=zys c
  simp only [List.flatMap_cons,zla,zlc];omega
end Go.Proofs.YtofbhllknefloaaGreat.Vc
