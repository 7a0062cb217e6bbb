import Derived.Test.YtjhlndokjkeilaaGreatDoorMh
import Derived.Recover
set_option linter.unusedSimpArgs false
set_option linter.unusedVariables false
set_option maxRecDepth 100000
namespace Go.Proofs.YtjhlndokjkeilaaGreatDoor.Vc
open Go
section
variable {P:Program} {D:Prot} {H0:PH} {w0:World} {X:List PanicEntry→PH→Prop}
end
section
variable {P:Program}
def Prot.keep (l:List Deferred) (pr:List (Nat×Value)):Prot:=
 {
  ok:=fun a=>a.defers=l∧∀y∈pr,a.tmps.getD y.1 undef=y.2
  free:=fun d=>pr.all fun y=>decide (y.1≠d)
  stable:=fun a d v hd h=>⟨h.1,fun y hy=>by
   have:=List.all_eq_true.1 hd y hy
   rw [zdt] at this
   rw [←h.2 y hy]
   simp only [Act.put,Array.getD_eq_getD_getElem?,Array.getElem?_setIfInBounds,if_neg (Ne.symm this)]⟩
  back:=fun a d v hd h=>⟨h.1,fun y hy=>by
   have:=List.all_eq_true.1 hd y hy
   rw [zdt] at this
   rw [←h.2 y hy]
   simp only [Act.put,Array.getD_eq_getD_getElem?,Array.getElem?_setIfInBounds,if_neg (Ne.symm this)]⟩ }
inductive Recov:FrameMode→Value→FrameMode→Prop
 | none:Recov .returning .nilIface .returning
 | some (v:Value) (older:List PanicEntry):Recov (.panicking ({ v,recovered:=false,goexit:=false }::older)) v (.panicking ({ v,recovered:=true,goexit:=false }::older))
end
section
variable {P:Program} {X:List PanicEntry→PH→Prop} {β:Type} {E:List Value} {H:PH} {L:LK} {K:β→List Value→PH→LK→Prop}
theorem zsn {fn:Fn} {first caps:Array Operand} {ty:TypeId} {args:List (Nat×VE)} {k:Fm β} {f:FuncId} (hf:fn=.func f) (hk:den P X k (E++[.func (.func f) (first.map (argEv E args)) (caps.map (argEv E args))]) H L K) :
  den P X (.sem (.makeFunc fn first caps) ty args (.sc .any) [] k) E H L K:=by
 subst hf
 exact ⟨[_],rfl,rfl,z05,hk⟩
theorem zr3 {i:Nat} {f:FuncId} {first caps:Array Value} {args:List VE} {rs:RS} {pend:List (SV×List SV)} {k:Fm β} {R:Ending→PH→Prop} (hi:E.getD i (.bool false)=.func (.func f) first caps) (hok:callB P f=true)
  (hc:Tri P f (first++(args.map (evV E fun _=>0)).toArray++caps) H R)
  (hk:∀e H',R e H'→∃v vs,e=.returned v∧z0c rs.tags vs=true∧v=rs.pack vs∧z0m E H' pend∧den P X k (E++vs) H' L K):den P X (.call (.atom i) args rs pend k) E H L K:=by
 refine ⟨f,first,caps,hi,zkw hok,hc.mono fun e H' hr=>?_⟩
 obtain ⟨v,vs,rfl,h1,h2,h3,h4⟩:=hk e H' hr
 exact ⟨vs,h1,h2,h3,h4⟩
end
end Go.Proofs.YtjhlndokjkeilaaGreatDoor.Vc
