import Derived.Test.YtjhlndokjkeilaaGreatDoorMp
import Derived.Test.YtjhlndokjkeilaaGreatDoorCards
import Derived.Test.YtjhlndokjkeilaaGreatDoorTie
import Derived.ProofKit
set_option linter.unusedSimpArgs false
set_option linter.unusedVariables false
set_option maxRecDepth 100000
namespace Go.Proofs.YtjhlndokjkeilaaGreatDoor.NamedOrderP
open Go Go.ChangeShapes Go.WideShapes Go.ChangeAt Go.RowKit Go.Proofs.YtjhlndokjkeilaaGreatDoor.Vc
theorem contract (H:Type) (enc:TypeId×Value→H) (W:World) (base:Nat) (args:Array Value) (ds gs:List (DataW H)) (before:List MemPlace)
  (hval:∀(j:Nat) t v,Tryz.f5.params[j]?=some t→args[j]?=some v→Value.okWide Tryz.prog W .any base t v)
  (hW:DataW.Whole enc Tryz.prog Tryz.f5.params.toList Rows.namedOrderSpec.vars false W args.toList ds gs before) (hL:laidMetH Tryz.prog tabs W) :
  Calls Tryz.prog 5 args W fun e W'=>∃v,e=.returned v∧Rows.namedOrderSpec.post enc Tryz.prog Tryz.f5 false true false false W args v W':=by
 have hW':=hW
 obtain ⟨p,q,hA0,hV,rfl,hfz,hnd⟩:=hW
 have hA:DataW.TrodAll enc Tryz.prog W 0 (fun _=>true) true Tryz.f5.params.toList args.toList ds p:=hA0
 rw [Tryz.params5] at hA hval
 obtain ⟨v0,vs0,d0,ds0,p0,q0,hargs,rfl,rfl,h0,r0⟩:=trodAll_cons hA
 obtain ⟨v1,vs1,d1,ds1,p1,q1,rfl,rfl,rfl,h1,r1⟩:=trodAll_cons r0
 obtain ⟨rfl,rfl,rfl⟩:=trodAll_nil r1
 obtain rfl:args=#[v0,v1]:=by cases args;simp_all
 obtain ⟨rfl,rfl⟩:=trodVars_none hV
 obtain ⟨l0,hl0,hw0⟩:=Z01 (hval 0 _ v0 rfl rfl) h0
 obtain ⟨n1,rfl,hn1⟩:=Z22 (hval 1 _ v1 rfl rfl) h1
 exact Z0x rfl rfl (by kernel_rfl) Tryz.underlying4 Z1p Z2p (by decide +kernel) hW' (zqo l0 n1 _ _ hl0 (zvr hL))
noncomputable abbrev wargs:Array Value:=#[.slice none 0 0,.int .i64 0]
theorem laid_met (os:Os):laidMet Tryz.prog Rows.namedOrderRow.laid ((zld os).forCall (fun _ _=>0) ⟨#[],wargs,[]⟩).memory:=
 laidMet_of_run' 8 (by kernel_rfl) (by kernel_rfl)
theorem reads (os:Os) {H:Type} (enc:TypeId×Value→H):∃places,DataW.whole enc Tryz.prog ((zld os).forCall (fun _ _=>0) ⟨#[],wargs,[]⟩).memory Tryz.f5.params.toList Rows.namedOrderSpec.vars false wargs.toList 8=some ([.nil,.lit (.int .i64 0)],[],places):=
 ⟨[],by kernel_rfl⟩
set_option maxRecDepth 100000 in
theorem lifted (os:Os) (started:os.Started) (H:Type) (enc:TypeId×Value→H) (F:Stop.Interp) :
  ReturnsInHanded {} Tryz.checked os 5 .any ((OpenSpec.ofChange Rows.namedOrderSpec).preRow enc Tryz.prog Tryz.f5 Rows.namedOrderRow.domain false Rows.namedOrderRow.laid) (((OpenSpec.ofChange Rows.namedOrderSpec).at F).post enc Tryz.prog Tryz.f5 false true false false):=by
 obtain ⟨places,hx⟩:=reads os enc
 refine returnsInHanded_of_row (C:=Tryz.checked) (s:=OpenSpec.ofChange Rows.namedOrderSpec) Z3j started (by kernel_rfl) Tryz.func5
  (witness_row_at (enc:=enc) (C:=Tryz.checked) false (zld os) wargs rfl (by kernel_rfl) (by kernel_rfl) (by kernel_rfl)
   (OpenSpec.preRow_of_cond 8 hx (by kernel_rfl) (fun k hk=>by cases hk) (by kernel_rfl) (laid_met os))) ?_
 intro W base args ds gs before hval hW _ _ _ hL _ _
 exact contract H enc W base args ds gs before hval hW hL
theorem said:Rows.NamedOrderSaid:=
 OpenClaim.holds_of_cond 5 Tryz.f5 rfl rfl rfl rfl rfl rfl rfl ⟨rfl,rfl,rfl,rfl,rfl⟩ rfl rfl rfl rfl rfl (by kernel_rfl) Tryz.func5 (by kernel_rfl)
  (of_decide_eq_true (by kernel_rfl)) (by unfold Func.isWrapper;first | (rw [if_pos (by decide +kernel)];kernel_rfl) | (rw [if_neg (by decide +kernel)];exact ⟨rfl,rfl⟩))
  (fun os started H enc _ F=>by rw [OpenClaim.pre_eq_preRow];exact lifted os started H enc F)
theorem plain (f : FuncId) (fn : Func) (hf : Tryz.pinned.checked.prog.funcNamed "scrimshaw/scrimshawlaw13.NamedOrder" = some f) (hfn : Tryz.pinned.checked.prog.funcs[f]? = some fn) :
  false=Tryz.pinned.checked.prog.looks []∧∀(j:Nat) t,fn.params[j]?=some t→Tryz.pinned.checked.prog.wantsStandIn t=false:=by
 obtain rfl : f = 5 := Option.some.inj ((show Tryz.prog.funcNamed "scrimshaw/scrimshawlaw13.NamedOrder" = some 5 by kernel_rfl).symm.trans hf) |>.symm
 obtain rfl:fn=Tryz.f5:=(Option.some.inj (Tryz.func5.symm.trans hfn)).symm
 refine ⟨by kernel_rfl,fun j t ht=>?_⟩
 rw [Tryz.params5] at ht
 have hm:t=36∨t=3:=by simpa using Array.mem_of_getElem? ht
 rcases hm with rfl | rfl
 ·exact (show Tryz.prog.wantsStandIn 36=false by kernel_rfl)
 ·exact (show Tryz.prog.wantsStandIn 3=false by kernel_rfl)
theorem card:Rows.NamedOrderCardSaid:=
 Claim7.holds_tied_plain_at .later [] _ _ _ _ said (fun _ h=>by cases h) (by kernel_rfl) (fun _ h=>by cases h) namedOrder_row_tie rfl ⟨rfl,rfl⟩ (by kernel_rfl) rfl plain (by kernel_rfl)
end Go.Proofs.YtjhlndokjkeilaaGreatDoor.NamedOrderP
