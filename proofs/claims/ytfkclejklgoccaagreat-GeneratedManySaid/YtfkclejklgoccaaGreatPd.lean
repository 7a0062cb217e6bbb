import Derived.Test.YtfkclejklgoccaaGreatPc
import Derived.Deep.LoopGhost
set_option linter.unusedSimpArgs false
set_option linter.unusedVariables false
set_option maxRecDepth 100000
namespace Go.Proofs.YtfkclejklgoccaaGreat.Vc
open Go
section
variable {P:Program}{D:Prot}{H0:PH}{w0:World}{E:List Value}{r:Nat→Nat}{H:PH}{a:Act}{w:World}
theorem Zid{E':List Value}{n:Nat}(hE:∀s:SV,s.under n=true→ev E' r s=ev E r s){e v:VE}(h:e.same v=true)(hu:v.under n=true):evV E' r v=evV E r e:=by
 cases e<;>cases v<;>simp only[VE.same]at h<;>first
  |exact absurd h qk
  |skip
 .rename_i x y;rw[z1q h]at *;exact hE _ hu
 .rename_i xs ys;simp only[zba,beq_iff_eq]at h;have:xs=ys:=by
   obtain⟨hl,ha⟩:=h;clear hu
   induction xs generalizing ys with
   |nil=>cases ys with
    |nil=>rfl
    |cons y ys=>simp at hl
   |cons x xs ih=>cases ys with
    |nil=>simp at hl
    |cons y ys=>
     simp only[List.zip_cons_cons,List.all_cons,zba]at ha;rw[z1q ha.1,ih ys (by simpa using hl) ha.2]
  subst this;simp only[evV];rw[qO fun s hs=>hE s (zat.1 hu s hs)]
 .rename_i xs ys;simp only[zba,beq_iff_eq]at h;have h1:xs=[]:=qV.1 h.1;have h2:ys=[]:=qV.1 h.2;subst h1 h2;rfl
def Z0i(E E':List Value)(r:Nat→Nat)(l:List (Nat×SV)):Prop:=∀x∈l,E'.getD x.1 (.bool false)=ev E r x.2
theorem Zdp{E':List Value}{n:Nat}(hE:∀s:SV,s.under n=true→ev E' r s=ev E r s){e eT:Ent}{l:List (Nat×SV)}(h:fitE n e eT=some l)(hl:Z0i E E' r l){val:Value}
  (hv:(e.v=.junk→False)→(Guard.holds E r e.g→val=evV E r e.v)∧(¬Guard.holds E r e.g→val=undef)) (hj:eT.v=.junk→False) :
  (Guard.holds E' r eT.g→val=evV E' r eT.v)∧(¬Guard.holds E' r eT.g→val=undef):=by
 have hnil:∀F:List Value,Guard.holds F r ([]:Guard):=fun F x hx=>by cases hx
 unfold fitE at h;split at h
 .rename_i hjj;exact absurd hjj (fun h=>hj h)
 .rename_i i hi;split at h
  .split at h
   .rename_i s hg hs;split at h
    .rename_i hc;cases h;simp only[zba]at hc;have hgT:eT.g=[]:=List.isEmpty_iff.1 hc.2;have h1:=(hv (by rw[hs];intro h;cases h)).1 (by rw[hg];exact hnil E);rw[hs]at h1;rw[hgT,hi];refine⟨fun _=>?_,fun h=>absurd (hnil _) h⟩;rw[h1];exact(hl _ (zsi.2 rfl)).symm
    .cases h
   .cases h
  .split at h
   .rename_i hlt s hg hs;split at h
    .rename_i hc;cases h;simp only[zba]at hc;have hgT:eT.g=[]:=List.isEmpty_iff.1 hc.2;have h1:=(hv (by rw[hs];intro h;cases h)).1 (by rw[hg];exact hnil E);rw[hs]at h1;rw[hgT,hi];refine⟨fun _=>?_,fun h=>absurd (hnil _) h⟩;rw[h1,z1q hc.1];exact(hE (.atom i) (by simp only[SV.under];exact qX om)).symm
    .cases h
   .cases h
 .rename_i v hv1 hv2;split at h
  .rename_i hc;cases h;simp only[zba]at hc;obtain⟨⟨⟨c1,c2⟩,c3⟩,c4⟩:=hc;have hg:e.g=[]:=List.isEmpty_iff.1 c1;have hgT:eT.g=[]:=List.isEmpty_iff.1 c2;have hne:e.v=.junk→False:=fun hh=>by rw[hh]at c3;cases eT.v<;>exact absurd c3 qk
   have h1:=(hv hne).1 (by rw[hg];exact hnil E);rw[hgT];refine⟨fun _=>?_,fun h=>absurd (hnil _) h⟩;rw[h1];exact(Zid hE c3 c4).symm
  .cases h
theorem Z1m{n:Nat}:∀{es fs:List Ent} {l:List (Nat×SV)},fitEs n es fs=some l→es.length=fs.length∧∀(t:Nat)(e f:Ent),es[t]?=some e→fs[t]?=some f→∃k,fitE n e f=some k∧∀x∈k,x∈l
 | [],[],l,h=>⟨rfl,fun t e f he=>by simp at he⟩
 | [],f::fs,l,h=>by simp[fitEs]at h
 |e::es,[],l,h=>by simp[fitEs]at h
 |e::es,f::fs,l,h=>by
  simp only[fitEs]at h;split at h
  .rename_i x y hx hy;cases h;obtain⟨i1,i2⟩:=Z1m hy;refine⟨by simp[i1],fun t e' f' he hf=>?_⟩;cases t with
   |zero=>
    simp at he hf;subst he hf;exact⟨x,hx,fun z hz=>zma.2 (.inl hz)⟩
   |succ t=>
    simp at he hf;obtain⟨k,h1,h2⟩:=i2 t e' f' he hf;exact⟨k,h1,fun z hz=>zma.2 (.inr (h2 z hz))⟩
  .cases h
theorem Z6z{E':List Value}{n:Nat}(hE:∀s:SV,s.under n=true→ev E' r s=ev E r s):∀{cs ds:List SV} {l:List (Nat×SV)},fitCs n cs ds=some l→Z0i E E' r l→ds.map (ev E' r)=cs.map (ev E r)
 | [],[],l,h,_=>rfl
 | [],f::fs,l,h,_=>by simp[fitCs]at h
 |e::es,[],l,h,_=>by simp[fitCs]at h
 |e::es,f::fs,l,h,hl=>by
  simp only[fitCs]at h;split at h
  .rename_i x y hx hy;cases h;have h2:=Z6z hE hy (fun z hz=>hl z (zma.2 (.inr hz)));simp only[wa,h2];congr 1;unfold fitC at hx;split at hx
   .rename_i i;split at hx
    .split at hx
     .cases hx;exact hl _ (zma.2 (.inl (zsi.2 rfl)))
     .cases hx
    .split at hx
     .rename_i hlt hs;rw[z1q hs];exact hE (.atom i) (by simp only[SV.under];exact qX om)
     .cases hx
   .split at hx
    .rename_i hc;simp only[zba]at hc;rw[z1q hc.1];exact hE _ hc.2
    .cases hx
  .cases h
theorem zkf{n:Nat}{s:St}:∀{bs:List Bx} {l:List (Nat×SV)},fitBs n s bs=some l→∀b∈bs,∃c k,c∈s.bx∧c.id=b.id∧c.ty=b.ty∧fitCs n c.cs b.cs=some k∧∀x∈k,x∈l
 | [],l,h,b,hb=>by cases hb
 |d::bs,l,h,b,hb=>by
  simp only[fitBs]at h;split at h
  .rename_i c rr hc hr;split at h
   .rename_i hty;split at h
    .rename_i x hx;cases h;obtain⟨hm,hid⟩:=zfy hc;rcases zmc.1 hb with rfl|hb
     .exact⟨c,x,hm,hid,hty,hx,fun z hz=>zma.2 (.inl hz)⟩
     .obtain⟨c',k,h1,h2,h3,h4,h5⟩:=zkf hr b hb;exact⟨c',k,h1,h2,h3,h4,fun z hz=>zma.2 (.inr (h5 z hz))⟩
    .cases h
   .cases h
  .cases h
theorem Z59:∀{l:List Nat},zwo l=true→l.Nodup
 | [],_=>List.nodup_nil
 |a::l,h=>by
  simp only[zwo,zba]at h;refine List.nodup_cons.2 ⟨?_,Z59 h.2⟩;intro hm;have:=h.1;rw[List.contains_iff_mem.2 hm]at this;exact absurd this dC
theorem zuv{n:Nat}:∀{es fs:List Ent} {l:List (Nat×SV)},fitEs n es fs=some l→∀x∈l,x.2.noBox=true
 | [],[],l,h,x,hx=>by simp[fitEs]at h;subst h;cases hx
 | [],f::fs,l,h,x,hx=>by simp[fitEs]at h
 |e::es,[],l,h,x,hx=>by simp[fitEs]at h
 |e::es,f::fs,l,h,x,hx=>by
  simp only[fitEs]at h;split at h
  .rename_i u v hu hv;cases h;rcases zma.1 hx with hx|hx
   .unfold fitE at hu;split at hu
    .cases hu;cases hx
    .split at hu
     .split at hu
      .split at hu
       .rename_i hc;cases hu;simp only[zba]at hc;rw[zsi.1 hx];exact hc.1
       .cases hu
      .cases hu
     .split at hu
      .split at hu
       .cases hu;cases hx
       .cases hu
      .cases hu
    .split at hu
     .cases hu;cases hx
     .cases hu
   .exact zuv hv x hx
  .cases h
theorem zup{n:Nat}:∀{es fs:List SV} {l:List (Nat×SV)},fitCs n es fs=some l→∀x∈l,x.2.noBox=true
 | [],[],l,h,x,hx=>by simp[fitCs]at h;subst h;cases hx
 | [],f::fs,l,h,x,hx=>by simp[fitCs]at h
 |e::es,[],l,h,x,hx=>by simp[fitCs]at h
 |e::es,f::fs,l,h,x,hx=>by
  simp only[fitCs]at h;split at h
  .rename_i u v hu hv;cases h;rcases zma.1 hx with hx|hx
   .unfold fitC at hu;split at hu
    .split at hu
     .split at hu
      .rename_i hc;cases hu;rw[zsi.1 hx];exact hc
      .cases hu
     .split at hu
      .cases hu;cases hx
      .cases hu
    .split at hu
     .cases hu;cases hx
     .cases hu
   .exact zup hv x hx
  .cases h
theorem zuc{n:Nat}{s:St}:∀{bs:List Bx} {l:List (Nat×SV)},fitBs n s bs=some l→∀x∈l,x.2.noBox=true
 | [],l,h,x,hx=>by simp[fitBs]at h;subst h;cases hx
 |d::bs,l,h,x,hx=>by
  simp only[fitBs]at h;split at h
  .rename_i c rr hc hr;split at h
   .split at h
    .rename_i y hy;cases h;rcases zma.1 hx with hx|hx
     .exact zup hy x hx
     .exact zuc hr x hx
    .cases h
   .cases h
  .cases h
theorem zpd{s sT:St}(hR:Rel D H0 w0 s E r H a w){n:Nat}{vs:List SV}(h:fits s sT n=some vs):
  Rel D H0 w0 sT (E.take n++vs.map (ev0 E)) r H a w∧z07 (sT.tags.drop n) (vs.map (ev0 E))=true∧n≤E.length∧(E.take n).length=n:=by
 unfold fits at h;split at h
 .rename_i la lb hla hlb;simp only at h;split at h
  .rename_i hc;cases h;simp only[zba,zdt]at hc;obtain⟨⟨⟨⟨⟨⟨⟨⟨⟨c1,c2⟩,c3⟩,c4⟩,c5⟩,c6⟩,c7⟩,c8⟩,c9⟩,c10⟩:=hc;have hlen:s.tags.length=E.length:=z1a hR.tags;have hn:n≤E.length:=om;have hnb:∀x∈la++lb,x.2.noBox=true:=fun x hx=>by
    rcases zma.1 hx with hx|hx
    .exact zuv hla x hx
    .exact zuc hlb x hx
   have hE:∀t:SV,t.under n=true→ev (E.take n++((la++lb).map (·.2)).map (ev0 E)) r t=ev E r t:=fun t ht=>zv3 hn t ht;have hP:Z0i E (E.take n++((la++lb).map (·.2)).map (ev0 E)) r (la++lb):=by
    intro x hx;obtain⟨j,hj,hxj⟩:=List.mem_iff_getElem.1 hx;have h1:x.1=n+j:=by
     have:=congrArg (fun l=>l[j]?) c1;simp only[zem,zge hj,hxj,Option.map_some,List.getElem?_range' hj]at this;simpa using this
    rw[h1,zgd,List.getElem?_append_right (by simp;omega)];have:n+j-(E.take n).length=j:=by simp;omega
    rw[this];simp only[zem,zge hj,hxj,Option.map_some,Option.getD_some];exact(z14 (hnb x hx)).symm
   have htags:z07 sT.tags (E.take n++((la++lb).map (·.2)).map (ev0 E))=true∧z07 (sT.tags.drop n) (((la++lb).map (·.2)).map (ev0 E))=true:=by
    have h2:z07 (sT.tags.drop n) (((la++lb).map (·.2)).map (ev0 E))=true:=by
     rw[←c2];have key:∀l:List SV,z07 (l.map (tagOf s.tags)) (l.map (ev0 E))=true:=by
      intro l
      induction l with
      |nil=>rfl
      |cons x l ih=>simp only[wa,z07,zba];exact⟨zkx _ hR.tags x,ih⟩
     exact key _
    have h1:z07 (sT.tags.take n) (E.take n)=true:=by rw[c3];exact zlw hR.tags n
    have:=zf4 h1 h2;rw[List.take_append_drop]at this;exact⟨this,h2⟩
   obtain⟨i1,i2⟩:=Z1m hla;refine⟨{ adv:=hR.adv,tags:=htags.1,size:=by rw[hR.size,i1],df:=hR.df,wk:=hR.wk,fr:=?_,bx:=?_,inj:=?_,nd:=Z59 c6,asu:=?_,kn:=?_ },htags.2,hn,by simp;omega⟩
   .intro t f hf hj;have hlt:t<s.fr.length:=by
     rw[i1];rcases Nat.lt_or_ge t sT.fr.length with h|h
     .exact h
     .simp[wu h]at hf
    have he:s.fr[t]?=some s.fr[t]:=zge hlt;obtain⟨k,h1,h2⟩:=i2 t _ f he hf;exact Zdp hE h1 (fun x hx=>hP x (zma.2 (.inl (h2 x hx)))) (fun hne=>hR.fr t _ he hne) hj
   .intro b hb;obtain⟨c,k,h1,h2,h3,h4,h5⟩:=zkf hlb b hb;obtain⟨x1,x2,x3,x4⟩:=hR.bx c h1;rw[h2]at x1 x2 x3;refine⟨?_,x2,x3,qZ (zat.1 c7 b hb)⟩;rw[x1,Z6z hE h4 (fun x hx=>hP x (zma.2 (.inr (h5 x hx)))),h3]
   .intro b hb c hc he;obtain⟨b',_,h1,h2,_⟩:=zkf hlb b hb;obtain⟨c',_,g1,g2,_⟩:=zkf hlb c hc;rw[←h2,←g2]at he⊢;exact hR.inj b' h1 c' g1 he
   .intro x hx;have h1:x∈s.asu:=by
     have:=zat.1 c8 x hx;exact z7e this
    rw[hE _ (zat.1 c9 x hx)];exact hR.asu x h1
   .intro c hc';have h1:=zat.1 c10 c hc';simp only[zba]at h1;obtain⟨d,hd,he⟩:=wl.1 h1.1;have:=zb8 he;subst this;obtain⟨g1,g2⟩:=hR.kn _ hd;refine⟨g1,?_⟩;have hu:c.under n=true:=h1.2;have hE0:∀t:SV,t.under n=true→ev0 (E.take n++((la++lb).map (·.2)).map (ev0 E)) t=ev0 E t:=fun t ht=>zv3 hn t ht;cases c<;>simp only[Chk.under,zba]at hu<;>simp only[Chk.holds]at g2⊢
    .rw[hE0 _ hu.1,hE0 _ hu.2];exact g2
    .rw[hE0 _ hu.1,hE0 _ hu.2];exact g2
    .rw[hE0 _ hu.1.1,hE0 _ hu.1.2,hE0 _ hu.2];exact g2
    .rw[hE0 _ hu];exact g2
    .rw[hE0 _ hu];exact g2
    .rw[hE0 _ hu];exact g2
    .rw[hE0 _ hu.1,hE0 _ hu.2];exact g2
  .cases h
 .cases h
end
