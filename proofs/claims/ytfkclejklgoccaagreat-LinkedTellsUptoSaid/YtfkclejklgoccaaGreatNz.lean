import Derived.Test.YtfkclejklgoccaaGreatNo
import Derived.Test.YtfkclejklgoccaaGreatRows
import Derived.WalkKit
import Derived.ProofKit
import Derived.OpenShut
import Derived.Lay
set_option linter.unusedSimpArgs false
set_option linter.unusedVariables false
set_option maxRecDepth 100000
namespace Go.Proofs.YtfkclejklgoccaaGreat.LinkedTellsP
open Go Go.ChangeShapes Go.WideShapes Go.ChangeAt Go.RowKit Go.Proofs.YtfkclejklgoccaaGreat.Vc
theorem contract (H:Type) (enc:TypeId×Value→H) (W:World) (base:Nat) (args:Array Value) (ds gs:List (DataW H)) (before:List MemPlace)
  (hval:∀(j:Nat) t v,Tryz.f6.params[j]?=some t→args[j]?=some v→Value.okWide Tryz.prog W .any base t v)
  (hW:DataW.Whole enc Tryz.prog Tryz.f6.params.toList Rows.linkedTellsSpec.vars false W args.toList ds gs before) (hb:Rows.uptoBulkAll (ds++gs)≤1048576) :
  Calls Tryz.prog 6 args W fun e W'=>∃v,e=.returned v∧Rows.linkedTellsSpec.post enc Tryz.prog Tryz.f6 false true false false W args v W':=by
 have hW':=hW
 obtain ⟨p,q,hA0,hV,rfl,hfz,hnd⟩:=hW
 have hA:DataW.TrodAll enc Tryz.prog W 0 (fun _=>true) true Tryz.f6.params.toList args.toList ds p:=hA0
 rw [Tryz.params6] at hA hval
 obtain ⟨v0,vs0,d0,ds0,p0,q0,hargs,rfl,rfl,h0,r0⟩:=trodAll_cons hA
 obtain ⟨v1,vs1,d1,ds1,p1,q1,rfl,rfl,rfl,h1,r1⟩:=trodAll_cons r0
 obtain ⟨v2,vs2,d2,ds2,p2,q2,rfl,rfl,rfl,h2,r2⟩:=trodAll_cons r1
 obtain ⟨rfl,rfl,rfl⟩:=trodAll_nil r2
 obtain rfl:args=#[v0,v1,v2]:=by cases args;simp_all
 obtain ⟨rfl,rfl⟩:=trodVars_none hV
 obtain ⟨l0,hl0,hw0⟩:=Z9m (hval 0 _ v0 rfl rfl) h0
 obtain ⟨n1,rfl,hi1⟩:=Zcq (hval 1 _ v1 rfl rfl) h1
 obtain ⟨l2,hl2⟩:=Za8 (hval 2 _ v2 rfl rfl) h2
 simp only [List.cons_append,List.nil_append,Rows.uptoBulkAll] at hb
 exact Z8c rfl rfl (by kernel_rfl) Tryz.underlying4 Zbg Zbx (by decide +kernel) hW' (zr4 l0 n1 l2 _ _ _ hl0 hl2 hi1 (by omega))
noncomputable abbrev wargs:Array Value:=#[.slice none 0 0,.int .i64 0,.slice none 0 0]
noncomputable def zW (os:Os):World:=World.laidAll Tryz.prog os []
theorem zM (os:Os):laidMet Tryz.prog Rows.linkedTellsUptoRow.laid ((zW os).forCall (fun _ _=>0) ⟨#[],wargs,[]⟩).memory:=
 laidMet_laidAll _ (by kernel_rfl) (by kernel_rfl)
theorem reads (os:Os) {H:Type} (enc:TypeId × Value→H):∃places,DataW.whole enc Tryz.prog ((zW os).forCall (fun _ _=>0) ⟨#[],wargs,[]⟩).memory Tryz.f6.params.toList Rows.linkedTellsSpec.vars false wargs.toList 8=some ([.nil,.lit (.int .i64 0),.nil],[],places):=
 ⟨[],by kernel_rfl⟩
theorem ownK:ownKnob Tryz.prog.godebug=none:=by kernel_rfl
set_option maxRecDepth 100000 in
theorem lifted (os:Os) (started:os.Started) (H:Type) (enc:TypeId × Value→H) (F:Stop.Interp) :
  ReturnsInHanded {} Tryz.checked os 6 .any ((Rows.OpenSpec.upto Rows.linkedTellsSpec).preRow enc Tryz.prog Tryz.f6 Rows.linkedTellsUptoRow.domain false Rows.linkedTellsUptoRow.laid) (((Rows.OpenSpec.upto Rows.linkedTellsSpec).at F).post enc Tryz.prog Tryz.f6 false true false false):=by
 obtain ⟨places,hx⟩:=reads os enc
 refine returnsInHanded_of_row (C:=Tryz.checked) (s:=Rows.OpenSpec.upto Rows.linkedTellsSpec) ownK started (by kernel_rfl) Tryz.func6
  (witness_row_at (enc:=enc) (C:=Tryz.checked) false (zW os) wargs rfl (by kernel_rfl) (by kernel_rfl) (by kernel_rfl)
   (OpenSpec.preRow_of_cond 8 hx (by kernel_rfl) (fun k hk=>by cases hk;rfl) (by kernel_rfl) (zM os))) ?_
 intro W base args ds gs before hval hW _ hk _ hL _ _
 exact contract H enc W base args ds gs before hval hW (of_decide_eq_true (hk _ rfl))
theorem said:Rows.LinkedTellsUptoSaid:=
 OpenClaim.holds_of_cond 6 Tryz.f6 rfl rfl rfl rfl rfl rfl rfl ⟨rfl,rfl,rfl,rfl,rfl⟩ rfl rfl rfl rfl rfl (by kernel_rfl) Tryz.func6 (by kernel_rfl)
  (of_decide_eq_true (by kernel_rfl)) (by unfold Func.isWrapper;first | (rw [if_pos (by decide +kernel)];kernel_rfl) | (rw [if_neg (by decide +kernel)];exact ⟨rfl,rfl⟩))
  (fun os started H enc _ F=>by rw [OpenClaim.pre_eq_preRow];exact lifted os started H enc F)
end Go.Proofs.YtfkclejklgoccaaGreat.LinkedTellsP
