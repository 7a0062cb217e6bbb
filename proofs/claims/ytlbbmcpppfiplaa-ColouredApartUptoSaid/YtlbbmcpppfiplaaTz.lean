/-
  ColouredApart: of every argument of bulk at most 1048576, in whatever memory, the law's call returns true and its arguments read as they did. Conditions: those of its given row alone.
-/
import Derived.Test.YtlbbmcpppfiplaaTp
import Derived.Test.YtlbbmcpppfiplaaRows
import Derived.WalkKit
import Derived.ProofKit
import Derived.OpenShut
import Derived.Lay
set_option linter.unusedSimpArgs false
set_option linter.unusedVariables false
set_option maxRecDepth 100000
namespace Go.Proofs.Ytlbbmcpppfiplaa.ColouredApartP
open Go Go.ChangeShapes Go.WideShapes Go.ChangeAt Go.RowKit Go.Proofs.Ytlbbmcpppfiplaa.Vc

theorem contract (H : Type) (enc : TypeId × Value → H) (W : World) (base : Nat) (args : Array Value) (ds gs : List (DataW H)) (before : List MemPlace)
    (hval : ∀ (j : Nat) t v, Try.f8.params[j]? = some t → args[j]? = some v → Value.okWide Try.prog W .any base t v)
    (hW : DataW.Whole enc Try.prog Try.f8.params.toList Rows.colouredApartSpec.vars false W args.toList ds gs before) (hb : Rows.uptoBulkAll (ds ++ gs) ≤ 1048576) :
    Calls Try.prog 8 args W fun e W' => ∃ v, e = .returned v ∧ Rows.colouredApartSpec.post enc Try.prog Try.f8 false true false false W args v W' := by
  have hW' := hW
  obtain ⟨p, q, hA0, hV, rfl, hfz, hnd⟩ := hW
  have hA : DataW.TrodAll enc Try.prog W 0 (fun _ => true) true Try.f8.params.toList args.toList ds p := hA0
  rw [Try.params8] at hA hval
  obtain ⟨v0, vs0, d0, ds0, p0, q0, hargs, rfl, rfl, h0, r0⟩ := trodAll_cons hA
  obtain ⟨v1, vs1, d1, ds1, p1, q1, rfl, rfl, rfl, h1, r1⟩ := trodAll_cons r0
  obtain ⟨rfl, rfl, rfl⟩ := trodAll_nil r1
  obtain rfl : args = #[v0, v1] := by cases args; simp_all
  obtain ⟨rfl, rfl⟩ := trodVars_none hV
  obtain ⟨pr0, bv0, rfl, hr0, hi0, hw0⟩ := arg_prc (hval 0 _ v0 rfl rfl) h0
  obtain ⟨n1, rfl, hi1⟩ := arg_intK (hval 1 _ v1 rfl rfl) h1
  simp only [List.cons_append, List.nil_append, Rows.uptoBulkAll] at hb
  exact law_close rfl rfl (by kernel_rfl) Try.underlying4 kidsTry fullTry (by decide +kernel) hW' (ColouredApart_law pr0 n1 bv0 _ hr0 (by omega))

noncomputable abbrev wargs : Array Value := #[.agg #[.int .i64 0, .int .i64 0, .int .i64 0, .slice none 0 0], .int .i64 0]
noncomputable def laidWorld (os : Os) : World := World.laidAll Try.prog os []
theorem laid_met (os : Os) : laidMet Try.prog Rows.colouredApartUptoRow.laid ((laidWorld os).forCall (fun _ _ => 0) ⟨#[], wargs, []⟩).memory :=
  laidMet_laidAll _ (by kernel_rfl) (by kernel_rfl)
theorem reads (os : Os) {H : Type} (enc : TypeId × Value → H) : ∃ places, DataW.whole enc Try.prog ((laidWorld os).forCall (fun _ _ => 0) ⟨#[], wargs, []⟩).memory Try.f8.params.toList Rows.colouredApartSpec.vars false wargs.toList 8 = some ([.agg [.lit (.int .i64 0), .lit (.int .i64 0), .lit (.int .i64 0), .nil], .lit (.int .i64 0)], [], places) :=
  ⟨[], by kernel_rfl⟩

theorem ownK : ownKnob Try.prog.godebug = none := by kernel_rfl
set_option maxRecDepth 100000 in
theorem lifted (os : Os) (started : os.Started) (H : Type) (enc : TypeId × Value → H) (F : Stop.Interp) :
    ReturnsInHanded {} Try.checked os 8 .any ((Rows.OpenSpec.upto Rows.colouredApartSpec).preRow enc Try.prog Try.f8 Rows.colouredApartUptoRow.domain false Rows.colouredApartUptoRow.laid) (((Rows.OpenSpec.upto Rows.colouredApartSpec).at F).post enc Try.prog Try.f8 false true false false) := by
  obtain ⟨places, hx⟩ := reads os enc
  refine returnsInHanded_of_row (C := Try.checked) (s := Rows.OpenSpec.upto Rows.colouredApartSpec) ownK started (by kernel_rfl) Try.func8
    (witness_row_at (enc := enc) (C := Try.checked) false (laidWorld os) wargs rfl (by kernel_rfl) (by kernel_rfl) (by kernel_rfl)
      (OpenSpec.preRow_of_cond 8 hx (by kernel_rfl) (fun k hk => by cases hk; rfl) (by kernel_rfl) (laid_met os))) ?_
  intro W base args ds gs before hval hW _ hk _ hL _ _
  exact contract H enc W base args ds gs before hval hW (of_decide_eq_true (hk _ rfl))

theorem said : Rows.ColouredApartUptoSaid :=
  OpenClaim.holds_of_cond 8 Try.f8 rfl rfl rfl rfl rfl rfl rfl ⟨rfl, rfl, rfl, rfl, rfl⟩ rfl rfl rfl rfl rfl (by kernel_rfl) Try.func8 (by kernel_rfl)
    (of_decide_eq_true (by kernel_rfl)) (by unfold Func.isWrapper; first | (rw [if_pos (by decide +kernel)]; kernel_rfl) | (rw [if_neg (by decide +kernel)]; exact ⟨rfl, rfl⟩))
    (fun os started H enc _ F => by rw [OpenClaim.pre_eq_preRow]; exact lifted os started H enc F)
end Go.Proofs.Ytlbbmcpppfiplaa.ColouredApartP
