import Derived.Test.YtfkclejklgoccaaGreatNo
import Derived.Test.YtfkclejklgoccaaGreatRows
import Derived.WalkKit
import Derived.ProofKit
import Derived.OpenShut
import Derived.Lay
set_option linter.unusedSimpArgs false
set_option linter.unusedVariables false
set_option maxRecDepth 100000
namespace Go.Proofs.YtfkclejklgoccaaGreat.LinkedBuildsP
open Go Go.ChangeShapes Go.WideShapes Go.ChangeAt Go.RowKit Go.Proofs.YtfkclejklgoccaaGreat.Vc
theorem contract(H:Type)(enc:TypeId×Value→H)(W:World)(base:Nat)(args:Array Value)(ds gs:List (DataW H))(before:List MemPlace)
  (hval:∀(j:Nat)t v,Tryz.f7.params[j]?=some t→args[j]?=some v→Value.okWide Tryz.prog W .any base t v)
  (hW:DataW.Whole enc Tryz.prog Tryz.f7.params.toList Rows.linkedBuildsSpec.vars false W args.toList ds gs before) (hb:Rows.uptoBulkAll (ds++gs)≤1048576) :
  Calls Tryz.prog 7 args W fun e W'=>∃v,e=.returned v∧Rows.linkedBuildsSpec.post enc Tryz.prog Tryz.f7 false true false false W args v W':=by
 have hW':=hW;obtain⟨p,q,hA0,hV,rfl,hfz,hnd⟩:=hW;have hA:DataW.TrodAll enc Tryz.prog W 0 (fun _=>true) true Tryz.f7.params.toList args.toList ds p:=hA0;rw[Tryz.params7]at hA hval;obtain⟨v0,vs0,d0,ds0,p0,q0,hargs,rfl,rfl,h0,r0⟩:=trodAll_cons hA;obtain⟨v1,vs1,d1,ds1,p1,q1,rfl,rfl,rfl,h1,r1⟩:=trodAll_cons r0;obtain⟨v2,vs2,d2,ds2,p2,q2,rfl,rfl,rfl,h2,r2⟩:=trodAll_cons r1;obtain⟨rfl,rfl,rfl⟩:=trodAll_nil r2;obtain rfl:args=#[v0,v1,v2]:=by cases args;simp_all
 obtain⟨rfl,rfl⟩:=trodVars_none hV;obtain⟨c0,cv0,rfl,hc0,hw0⟩:=Zoi (hval 0 _ v0 rfl rfl) h0;obtain⟨n1,rfl,hi1⟩:=Zby (hval 1 _ v1 rfl rfl) h1;obtain⟨n2,rfl,hi2⟩:=Zby (hval 2 _ v2 rfl rfl) h2;simp only[cns,Rows.uptoBulkAll]at hb;exact Zjk rfl rfl (by kernel_rfl) Tryz.underlying4 Zn9 Zmk (by decide +kernel) hW' (zzo c0 cv0 n1 n2 _ hc0 (Zge hw0 (by omega)) hi1 hi2)
noncomputable abbrev wargs:Array Value:=#[.agg #[.slice none 0 0],vi 0,vi 0]
noncomputable def laidWY(os:Os):World:=World.laidAll Tryz.prog os []
theorem laidMY(os:Os):laidMet Tryz.prog Rows.linkedBuildsUptoRow.laid ((laidWY os).forCall (fun _ _=>0) ⟨#[],wargs,[]⟩).memory:=
 laidMet_laidAll _ (by kernel_rfl) (by kernel_rfl)
theorem reads(os:Os){H:Type}(enc:TypeId×Value→H):∃places,DataW.whole enc Tryz.prog ((laidWY os).forCall (fun _ _=>0) ⟨#[],wargs,[]⟩).memory Tryz.f7.params.toList Rows.linkedBuildsSpec.vars false wargs.toList 8=some ([.agg [.nil],.lit (.int .i64 0),.lit (.int .i64 0)],[],places):=
 ⟨[],by kernel_rfl⟩
theorem ownK:ownKnob Tryz.prog.godebug=none:=by kernel_rfl
set_option maxRecDepth 100000 in
theorem lifted(os:Os)(started:os.Started)(H:Type)(enc:TypeId×Value→H)(F:Stop.Interp):
  ReturnsInHanded {} Tryz.checked os 7 .any ((Rows.OpenSpec.upto Rows.linkedBuildsSpec).preRow enc Tryz.prog Tryz.f7 Rows.linkedBuildsUptoRow.domain false Rows.linkedBuildsUptoRow.laid) (((Rows.OpenSpec.upto Rows.linkedBuildsSpec).at F).post enc Tryz.prog Tryz.f7 false true false false):=by
 obtain⟨places,hx⟩:=reads os enc;refine returnsInHanded_of_row (C:=Tryz.checked) (s:=Rows.OpenSpec.upto Rows.linkedBuildsSpec) ownK started (by kernel_rfl) Tryz.func7
  (witness_row_at (enc:=enc) (C:=Tryz.checked) false (laidWY os) wargs rfl (by kernel_rfl) (by kernel_rfl) (by kernel_rfl)
   (OpenSpec.preRow_of_cond 8 hx (by kernel_rfl) (fun k hk=>by cases hk;rfl) (by kernel_rfl) (laidMY os))) ?_
 intro W base args ds gs before hval hW _ hk _ hL _ _;exact contract H enc W base args ds gs before hval hW (of_decide_eq_true (hk _ rfl))
theorem named5:(Tryz.pinned).checked.prog.funcNamed Rows.linkedBuildsUptoRow.func=some 7:=by kernel_rfl
theorem closed5:joinedFacts (Tryz.pinned).checked.prog 7 Tryz.f7 (Rows.OpenSpec.upto Rows.linkedBuildsSpec).bare Rows.linkedBuildsUptoRow=true:=by kernel_rfl
theorem said:Rows.LinkedBuildsUptoSaid:=
 OpenClaim.holds_of_cond 7 Tryz.f7 rfl rfl rfl rfl rfl rfl rfl ⟨rfl,rfl,rfl,rfl,rfl⟩ rfl rfl rfl rfl rfl named5 Tryz.func7 closed5
  (of_decide_eq_true (by kernel_rfl)) (by unfold Func.isWrapper;first|(rw[if_pos (by decide +kernel)];kernel_rfl)|(rw[if_neg (by decide +kernel)];exact⟨rfl,rfl⟩))
  (fun os started H enc _ F=>by rw[OpenClaim.pre_eq_preRow];exact lifted os started H enc F)
end Go.Proofs.YtfkclejklgoccaaGreat.LinkedBuildsP
