import Derived.Test.YtfkclejklgoccaaGreatPa
import Derived.OrdersHeld
set_option linter.unusedSimpArgs false
set_option linter.unusedVariables false
set_option maxRecDepth 100000
namespace Go.Proofs.YtfkclejklgoccaaGreat.Vc
open Go
abbrev Up:=Nat→Bool
def upOf(listed:Array Bool):Up:=fun k=>listed.getD k false
def Up.less(D:Up)(i:Nat):Up:=fun k=>k != i&&D k
section
variable {P:Program}{ops:Array Oper}{Q:Exit→Act→World→Prop}{md:Region.Mode}
def z92(P:Program)(md:Region.Mode)(ops:Array Oper)(Q:Exit→Act→World→Prop)(S:Up→World→Prop):Nat→Array Bool→Act→World→Prop
 |0,listed,a,w=>Region.ready md ops listed=[]∧Q .normal a w
 |fuel+1,listed,a,w=>
  (Region.ready md ops listed=[]→Q .normal a w) ∧
  ∀i∈Region.ready md ops listed,wpOp P ops Q i (fun a' w'=>S (upOf (listed.setIfInBounds i true)) w'∧z92 P md ops Q S fuel (listed.setIfInBounds i true) a' w') a w
theorem Z2u{S:Up→World→Prop}:∀(fuel:Nat)(listed:Array Bool)(a:Act)(w:World),z92 P md ops Q S fuel listed a w→wpAny P md ops Q fuel listed a w
 |0,_,_,_,h=>h
 |fuel+1,_,_,_,h=>⟨h.1,fun i hi=>wpOp_mono (fun a' w' h'=>Z2u fuel _ a' w' h'.2) (h.2 i hi)⟩
theorem zlj{S S':Up→World→Prop}(hS:∀D w,S' D w→S D w):∀(fuel:Nat)(listed:Array Bool)(a:Act)(w:World),z92 P md ops Q S' fuel listed a w→z92 P md ops Q S fuel listed a w
 |0,_,_,_,h=>h
 |fuel+1,_,_,_,h=>⟨h.1,fun i hi=>wpOp_mono (fun a' w' h'=>⟨hS _ _ h'.1,zlj hS fuel _ a' w' h'.2⟩) (h.2 i hi)⟩
theorem znr{listed:Array Bool}{i k:Nat}(h:k≠i):upOf (listed.setIfInBounds i true) k=upOf listed k:=by
 unfold upOf;exact getD_set_ne false (Ne.symm h)
def held(S:Up→World→Prop)(i:Nat)(W:List Nat)(φ:World→Prop)(D:Up)(w:World):Prop:=
 S D w∧((∀k∈W,D k=false)→S (D.less i) w∧φ w)
theorem Z5e{i:Nat}{oi:Oper}{v:Value}{W:List Nat}{φ:World→Prop}{S:Up→World→Prop}(hi:ops[i]?=some oi)(hsel:∀(j:Nat)(o:Oper)cs b,ops[j]?=some o→o.op≠.select cs b)
  (hQ:∀c a w,Q (.panic c) (a.put oi.dst v) w→Q (.panic c) a w)
  (hW:∀k∈W,∃ok,ops[k]?=some ok∧∃e∈ok.after,Region.binds md e=true∧(e.on=i∨e.on∈W)) :
  ∀(fuel:Nat)(listed:Array Bool)(a:Act)(w:World),
   (∀j oj,ops[j]?=some oj→j≠i→listed.getD j true=false→j∉W→oi.apart ops oj=true) →
   (∀k∈W,upOf listed k=false) →
   i∈Region.ready md ops listed→YieldsIf P ops φ oi v a→φ w→S (upOf (listed.setIfInBounds i true)) w →
   z92 P md ops Q (held S i W φ) fuel (listed.setIfInBounds i true) (a.put oi.dst v) w→z92 P md ops Q S (fuel+1) listed a w:=by
 have hmono:∀D w,held S i W φ D w→S D w:=fun D w h=>h.1;have notW:∀(listed:Array Bool)(j:Nat),(∀k∈W,upOf listed k=false)→upOf listed i=false→j∈Region.ready md ops listed→j∉W:=by
  intro listed j hno hii hj hjW;obtain⟨ok,hok,e,he,hb,hon⟩:=hW j hjW;obtain⟨_,o,ho,hall⟩:=mem_ready.1 hj;rw[hok]at ho;cases ho;have h1:upOf listed e.on=true:=hall e he hb;rcases hon with h|h
  .rw[h,hii]at h1;cases h1
  .rw[hno _ h]at h1;cases h1
 have unl:∀listed:Array Bool,i∈Region.ready md ops listed→upOf listed i=false:=by
  intro listed hr;have h0:=(mem_ready.1 hr).1;unfold upOf;rcases Nat.lt_or_ge i listed.size with h'|h'
  .simp[h']at h0⊢;exact h0
  .simp[Array.getElem?_eq_none h']
 intro fuel
 induction fuel with
 |zero=>
  intro listed a w _ _ hr hy hφ hS H;refine⟨fun h=>(by rw[h]at hr;cases hr),fun j hj=>?_⟩;by_cases hji:j=i
  .subst hji;exact hy.wpOp hi hφ ⟨hS,zlj hmono _ _ _ _ H⟩
  .have:=ready_mono hj hji;rw[H.1]at this;cases this
 |succ fuel ih=>
  intro listed a w hfree hno hr hy hφ hS H;refine⟨fun h=>(by rw[h]at hr;cases hr),fun j hj=>?_⟩;by_cases hji:j=i
  .subst hji;exact hy.wpOp hi hφ ⟨hS,zlj hmono _ _ _ _ H⟩
  .have h1:=H.2 j (ready_mono hj hji);obtain⟨hjun,oj,hoj,hall⟩:=mem_ready.1 hj;have hii:=unl listed hr;have hjW:=notW listed j hno hii hj;have hiW:=notW listed i hno hii hr;have h2:=wpOp_putIf hoj (hfree j oj hoj hji hjun hjW) (fun cs b=>hsel i oi cs b hi) (fun cs b=>hsel j oj cs b hoj) hQ hy h1;have hfree':∀k ok,ops[k]?=some ok→k≠i→(listed.setIfInBounds j true).getD k true=false→k∉W→oi.apart ops ok=true:=fun k ok hk hki hun hno=>by
    refine hfree k ok hk hki ?_ hno;by_cases hjk:j=k
    .subst hjk;exact hjun
    .rw[getD_set_ne true hjk]at hun;exact hun
   have hno':∀k∈W,upOf (listed.setIfInBounds j true) k=false:=fun k hk=>by
    rw[znr (fun e=>hjW (by rw[←e];exact hk))];exact hno k hk
   have hno2:∀k∈W,upOf ((listed.setIfInBounds i true).setIfInBounds j true) k=false:=fun k hk=>by
    rw[znr (fun e=>hjW (by rw[←e];exact hk)),znr (fun e=>hiW (by rw[←e];exact hk))];exact hno k hk
   have hless:Up.less (upOf ((listed.setIfInBounds i true).setIfInBounds j true)) i=upOf (listed.setIfInBounds j true):=by
    funext k
    unfold Up.less;by_cases e:k=i
    .subst e;rw[znr (listed:=listed) (Ne.symm hji),hii];simp
    .rw[Array.setIfInBounds_comm _ _ (Ne.symm hji),znr e];simp[e]
   refine wpOp_mono (fun a' w' h3=>?_) h2;obtain⟨hya,⟨hs1,hs2⟩,hK⟩:=h3;obtain⟨hs3,hs4⟩:=hs2 hno2;rw[hless]at hs3;refine⟨hs3,ih (listed.setIfInBounds j true) a' w' hfree' hno' (ready_mono hr (Ne.symm hji)) hya hs4 ?_ ?_⟩
   .rw[Array.setIfInBounds_comm _ _ hji];exact hs1
   .rw[Array.setIfInBounds_comm _ _ hji];exact hK
theorem Zao{S:Up→World→Prop}{listed:Array Bool}{a:Act}{w:World}(hr:Region.ready md ops listed=[])(h:Q .normal a w):
  ∀fuel,z92 P md ops Q S fuel listed a w
 |0=>⟨hr,h⟩
 |_+1=>⟨fun _=>h,by rw[hr];simp⟩
end
