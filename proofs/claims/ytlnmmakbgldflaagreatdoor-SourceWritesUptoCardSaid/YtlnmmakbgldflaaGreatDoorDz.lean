import Derived.Test.YtlnmmakbgldflaaGreatDoorDn
import Derived.Test.YtlnmmakbgldflaaGreatDoorWg
import Derived.Test.YtlnmmakbgldflaaGreatDoorDt
import Derived.Test.YtlnmmakbgldflaaGreatDoorWh
set_option linter.unusedSimpArgs false
set_option linter.unusedVariables false
set_option maxRecDepth 100000
/-
  DATA: the fixed calls; the law of the checks.
-/
namespace Go.Proofs.YtlnmmakbgldflaaGreatDoor.Vc
open Go

theorem uDats : Tryz.prog.underlying 22 = some (.slice 34) := by kernel_rfl
theorem elemDat : ElemOk Tryz.prog 34 4 56 = true := by kernel_rfl
instance decInI (n : Int) : Decidable (InI n) := inferInstanceAs (Decidable (_ ∧ _))
end Go.Proofs.YtlnmmakbgldflaaGreatDoor.Vc
/-
  DATA that come in.
-/
namespace Go.Proofs.YtlnmmakbgldflaaGreatDoor.Vc
open Go Go.ChangeShapes Go.WideShapes Go.ChangeAt Go.RowKit

mutual
def Dat.wt : Dat → Nat
  | .mk _ _ t l => t.length + 5 + Dats.wt l
def Dats.wt : List Dat → Nat
  | [] => 0
  | d :: l => Dat.wt d + Dats.wt l
end
theorem Dats.wt_eq : ∀ l : List Dat, Dats.wt l = sumWt Dat.wt l
  | [] => by simp only [Dats.wt, sumWt]
  | d :: l => by simp only [Dats.wt, sumWt, Dats.wt_eq l]
theorem Dat.wt_eq (d : Dat) : d.wt = d.text.length + 5 + sumWt Dat.wt d.list := by
  cases d; simp only [Dat.wt, Dat.text, Dat.list, Dats.wt_eq]
noncomputable def datFields : Array Field := match Tryz.prog.underlying 34 with
  | some (.struct fs) => fs
  | _ => #[]
theorem uDat : Tryz.prog.underlying 34 = some (.struct datFields) := by kernel_rfl
theorem datF : datFields.toList.map (fun f => (f.type, f.offset)) = [(3, 0), (3, 1), (9, 2), (22, 3)] := by kernel_rfl
theorem uInt : Tryz.prog.underlying 3 = some (.int .i64) := by kernel_rfl
theorem cInt : Tryz.prog.cellsOf 3 = 1 := by kernel_rfl
theorem cStr : Tryz.prog.cellsOf 9 = 1 := by kernel_rfl
theorem cDats : Tryz.prog.cellsOf 22 = 1 := by kernel_rfl
theorem cDat : Tryz.prog.cellsOf 34 = 4 := by kernel_rfl
theorem csInt {H : PH} {n : Int} {v : Value} (h : CsR H n [v]) : v = .int .i64 n ∧ InI n := by
  have h' : PV.RepRow H [.int .i64 n] [v] := h
  simp only [PV.RepRow, PV.Rep] at h'
  obtain ⟨v', vs, e, ⟨rfl, h1⟩, rfl⟩ := h'
  simp only [List.cons.injEq, and_true] at e
  exact ⟨e, h1⟩
theorem csTxt {H : PH} {l : List UInt8} {v : Value} (h : CsR H l [v]) : v = txt l ∧ l.length ≤ maxLen := by
  have h' : PV.RepRow H [.str l] [v] := h
  simp only [PV.RepRow, PV.Rep] at h'
  obtain ⟨v', vs, e, ⟨rfl, h1⟩, rfl⟩ := h'
  simp only [List.cons.injEq, and_true] at e
  exact ⟨e, h1⟩
theorem opens_dat {H : Type} {enc : TypeId × Value → H} {w : World} : ∀ fuel, Opens (α := Dat) enc Tryz.prog w Dat.wt 34 fuel := by
  intro fuel
  induction fuel using Nat.strongRecOn with
  | ind fuel ih =>
    intro cs d ps h
    obtain ⟨xs, n, rfl, rfl, hc, hl, hi⟩ := trod_fields uDat datF h
    rw [cDat] at hc
    match xs, hl with
    | [x0, x1, x2, x3], _ =>
    match cs, hc with
    | [c0, c1, c2, c3], _ =>
    have t0 := hi 0 3 0 x0 rfl rfl
    have t1 := hi 1 3 1 x1 rfl rfl
    have t2 := hi 2 9 2 x2 rfl rfl
    have t3 := hi 3 22 3 x3 rfl rfl
    rw [cInt] at t0 t1
    rw [cStr] at t2
    rw [cDats] at t3
    obtain ⟨k, hk, hkw⟩ := opens_int uInt n _ _ _ t0
    obtain ⟨m, hm, hmw⟩ := opens_int uInt n _ _ _ t1
    obtain ⟨s, hs, hsw⟩ := opens_txt uString n _ _ _ t2
    obtain ⟨l, v, hlv, hls, hlw⟩ := opens_slice (α := Dat) uDats cDat (fun j hj => ih j (by omega)) t3
    have hv : c3 = v := by simpa using hlv
    subst hv
    obtain ⟨rfl, hk1⟩ := csInt hk
    obtain ⟨rfl, hm1⟩ := csInt hm
    obtain ⟨rfl, hs1⟩ := csTxt hs
    refine ⟨.mk k m s l, Dat.Rep_iff.2 ⟨_, rfl, hk1, hm1, hs1, hls⟩, ?_⟩
    simp only at hkw hmw hsw
    simp only [Dat.wt, Dats.wt_eq, Rows.uptoBulk, Rows.uptoBulkAll, List.map_cons, List.map_nil]
    omega
/-- a datum as an argument -/
theorem arg_dat {H : Type} {enc : TypeId × Value → H} {w : World} {v : Value} {d : DataW H} {p : List MemPlace} {r : Reach} {b : Nat} (hval : Value.okWide Tryz.prog w r b 34 v) (h : DataW.Trod enc Tryz.prog w 0 (fun _ => true) true 34 v d p) :
    ∃ (a : Dat) (cs : List Value), v = .agg cs.toArray ∧ a.Rep (whole w) cs ∧ a.wt ≤ Rows.uptoBulk d := by
  obtain ⟨cs, rfl, _⟩ := okWide_struct uDat hval
  obtain ⟨fuel, h⟩ := h
  obtain ⟨a, h1, h2⟩ := opens_dat fuel _ _ _ h
  exact ⟨a, cs.toList, by simp, h1, h2⟩
theorem arg_txt {H : Type} {enc : TypeId × Value → H} {w : World} {v : Value} {d : DataW H} {p : List MemPlace} {r : Reach} {b : Nat} (hval : Value.okWide Tryz.prog w r b 9 v) (h : DataW.Trod enc Tryz.prog w 0 (fun _ => true) true 9 v d p) :
    ∃ s : List UInt8, v = txt s ∧ s.length ≤ maxLen ∧ s.length + 1 ≤ Rows.uptoBulk d := by
  obtain ⟨s, rfl, rfl, rfl, hs⟩ := ChangeMaps.open_string uString hval h
  refine ⟨s.data.toList, rfl, by have hs' : s.data.size ≤ maxLen := hs; rwa [Array.length_toList], by simp [Rows.uptoBulk]⟩
theorem arg_dats {H : Type} {enc : TypeId × Value → H} {w : World} {v : Value} {d : DataW H} {p : List MemPlace} {r : Reach} {b : Nat} (hval : Value.okWide Tryz.prog w r b 22 v) (h : DataW.Trod enc Tryz.prog w 0 (fun _ => true) true 22 v d p) :
    ∃ l : List Dat, SlR (whole w) l v ∧ sumWt Dat.wt l + 1 ≤ Rows.uptoBulk d := by
  obtain ⟨a, len, cap, rfl⟩ := okWide_slice uDats hval
  obtain ⟨fuel, h⟩ := h
  obtain ⟨l, v, e, h1, h2⟩ := opens_slice (α := Dat) uDats cDat (fun j _ => opens_dat j) h
  have : v = .slice a len cap := by simpa [Value.cells] using e.symm
  subst this
  exact ⟨l, h1, h2⟩

/-! ### what all statements of this seat ask -/
theorem ownTryz : ownKnob Tryz.prog.godebug = none := by kernel_rfl
theorem laidOutTryz : laidOutB Tryz.prog = true := by kernel_rfl
theorem mapsRowedTryz : mapsRowed Tryz.prog = true := by kernel_rfl
theorem kidsTryz : Kids Tryz.prog (· < Tryz.prog.types.size) := kids_rows laidOutTryz mapsRowedTryz
theorem fullTryz : ∀ t e, t < Tryz.prog.types.size → Tryz.prog.underlying t = some (.slice e) → 0 < Tryz.prog.cellsOf e := slices_full_of Tryz.prog (by kernel_rfl)
theorem gPow : Tryz.prog.globalNamed "internal/strconv.uint64pow10" = some 3 := by kernel_rfl
theorem tPow : (Tryz.prog.globals[3]?).map (·.type) = some 147 := by kernel_rfl
theorem uPow : Tryz.prog.underlying 147 = some (.array 20 120) := by kernel_rfl
theorem uPowE : Tryz.prog.underlying 120 = some (.int .u64) := by kernel_rfl
theorem cPowE : Tryz.prog.cellsOf 120 = 1 := by kernel_rfl
theorem cPow : Tryz.prog.cellsOf 147 = 20 := by kernel_rfl
end Go.Proofs.YtlnmmakbgldflaaGreatDoor.Vc
/-
  DATA: the laws of the texts and of their parts, at the level of calls.
-/
namespace Go.Proofs.YtlnmmakbgldflaaGreatDoor.Vc
open Go

def Dat.Mono (d : Dat) : Prop := ∀ (deep seen deep' seen' : Nat), deep ≤ 32 → deep' ≤ deep → seen' ≤ seen → seen ≤ 4096 → (d.chk deep seen).2 = 0 → (d.chk deep' seen').2 = 0 ∧ (d.chk deep' seen').1 + seen = (d.chk deep seen).1 + seen'
theorem Dats.mono : ∀ (l : List Dat), (∀ e ∈ l, e.Mono) → ∀ (deep seen deep' seen' : Nat), deep ≤ 32 → deep' ≤ deep → seen' ≤ seen → seen ≤ 4096 → (Dats.chk l deep seen).2 = 0 → (Dats.chk l deep' seen').2 = 0 ∧ (Dats.chk l deep' seen').1 + seen = (Dats.chk l deep seen).1 + seen'
  | [], _, deep, seen, deep', seen', _, _, _, _, _ => by simp only [Dats.chk]; exact ⟨trivial, by omega⟩
  | d :: l, hl, deep, seen, deep', seen', h1, h2, h3, h4, h => by
    simp only [Dats.chk] at h ⊢
    split at h
    · rename_i hx; exact absurd h hx
    rename_i hx
    have hx : (d.chk deep seen).2 = 0 := by simpa using hx
    obtain ⟨g1, g2⟩ := hl d (List.mem_cons_self ..) deep seen deep' seen' h1 h2 h3 h4 hx
    have g3 := Dats.mono l (fun e he => hl e (List.mem_cons_of_mem _ he)) deep (d.chk deep seen).1 deep' (d.chk deep' seen').1 h1 h2 (by omega) (Dat.chk_le d deep seen h4) h
    rw [if_neg (by simp [g1]), if_neg (by simp [hx])]
    exact ⟨g3.1, by omega⟩
/-- what may be within more may be within less; and counts as many -/
theorem Dat.mono : ∀ d : Dat, d.Mono := by
  refine Dat.ind ?_
  intro d ih deep seen deep' seen' h1 h2 h3 h4 h
  rw [Dat.chk_eq] at h
  rw [Dat.chk_eq d deep' seen', Dat.chk_eq d deep seen]
  split at h
  · simp at h
  rename_i h0
  split at h
  · simp at h
  rename_i h5
  split at h
  · simp at h
  rename_i h6
  have hn : nested d.kind = true → deep < 32 := fun x => by
    rcases Nat.lt_or_ge deep 32 with y | y
    · exact y
    · exact absurd ⟨x, by omega⟩ h5
  rw [if_neg h0, if_neg h5, if_neg h6, if_neg (show ¬ seen' = 4096 by omega), if_neg (fun x => by have := hn x.1; omega), if_neg h6]
  by_cases hl : d.list = []
  · rw [hl]; simp only [Dats.chk]; exact ⟨trivial, by omega⟩
  · have hn' := hn (formOk_nested (by simpa using h6) hl)
    have g := Dats.mono d.list ih (deep + 1) (seen + 1) (deep' + 1) (seen' + 1) (by omega) (by omega) (by omega) (by omega) h
    exact ⟨g.1, by omega⟩
end Go.Proofs.YtlnmmakbgldflaaGreatDoor.Vc
/-
  DATA: when two are the same; Huge.
-/
namespace Go.Proofs.YtlnmmakbgldflaaGreatDoor.Vc
open Go

noncomputable instance decDat : DecidableEq Dat := fun a b => Classical.propDecidable (a = b)
noncomputable instance decDats : DecidableEq (List Dat) := fun a b => Classical.propDecidable (a = b)
theorem Dat.eq_iff {a b : Dat} : a = b ↔ a.kind = b.kind ∧ a.int = b.int ∧ a.text = b.text ∧ a.list = b.list := by
  cases a; cases b; simp [Dat.kind, Dat.int, Dat.text, Dat.list]
/-- a call of a function value by a contract -/
theorem den_givesF {P : Program} {X : List PanicEntry → PH → Prop} {α : Type} {E : List Value} {H : PH} {L : LK} {K : α → List Value → PH → LK → Prop} {i f : Nat} {args : List VE} {rs : RS} {pend : List (SV × List SV)} {k : Fm α} (vs : List Value) (hi : E.getD i (.bool false) = .func (.func f) #[] #[]) (hok : callB P f = true)
    (hc : Gives P f (args.map (evV E fun _ => 0)) H (rs.pack vs)) (ht : tagsOk rs.tags vs = true) (hp : pendOk E H pend) (hk : ∀ H', PH.le H H' → den P X k (E ++ vs) H' L K) : den P X (.call (.atom i) args rs pend k) E H L K := by
  refine ⟨f, #[], #[], hi, callOk_of hok, ?_⟩
  have e : (#[] : Array Value) ++ (args.map (evV E fun _ => 0)).toArray ++ #[] = (args.map (evV E fun _ => 0)).toArray := by simp
  rw [e]
  exact Tri.mono hc fun e H' ⟨he, hl⟩ => by subst he; exact ⟨vs, ht, rfl, pendOk_le hp hl, hk H' hl⟩
theorem take_eq_succ {l m : List Dat} {k : Nat} {a b : Dat} (h : l.take k = m.take k) (ha : l[k]? = some a) (hb : m[k]? = some b) (hab : a = b) : l.take (k + 1) = m.take (k + 1) := by
  rw [List.take_add_one, List.take_add_one, h, ha, hb, hab]

def SameAt (f : FuncId) (a : Dat) : Prop := ∀ (b : Dat) (ca cb : List Value) (H : PH), a.Rep H ca → b.Rep H cb → Gives Tryz.prog f [.agg ca.toArray, .agg cb.toArray] H (.bool (decide (a = b)))
theorem EqualFunc_gives (l m : List Dat) (va vb : Value) (H : PH) (hl : SlR H l va) (hm : SlR H m vb) (ih : ∀ e ∈ l, SameAt n_data_Equal e) :
    Gives Tryz.prog n_slices_EqualFunc___api_Datum___api_Datum_api_Datum_api_Datum_ [va, vb, .func (.func n_data_Equal) #[] #[]] H (.bool (decide (l = m))) := by
  obtain ⟨b1, c1, rfl⟩ := hl.sl
  obtain ⟨b2, c2, rfl⟩ := hm.sl
  have m1 := hl.max
  have m2 := hm.max
  simp only [maxLen] at m1 m2
  refine tri_slices_EqualFunc___api_Datum___api_Datum_api_Datum_api_Datum_ [.slice b1 l.length c1, .slice b2 m.length c2, .func (.func n_data_Equal) #[] #[]] (by kernel_rfl) (by kernel_rfl) ?_
  refine ⟨fun h => ?_, fun h => ?_⟩
  · simp only [ev0, ev, evV, List.cons_append, List.nil_append, List.getD_cons_zero, List.getD_cons_succ, List.map_cons, List.map_nil, iOf, bOf, sOf, pOf, slLen, slBase, cmpI, arI, Value.ite_bool, int_beq, int_bne, ite_band, ite_bor, decide_eq_true_eq] at h
    refine ⟨?_, PH.le_refl H⟩
    have : ¬ l = m := fun e => h (by rw [e])
    simp only [ev0, ev, evV, List.cons_append, List.nil_append, List.getD_cons_zero, List.getD_cons_succ, List.map_cons, List.map_nil, iOf, bOf, sOf, pOf, slLen, slBase, cmpI, arI, Value.ite_bool, int_beq, int_bne, ite_band, ite_bor, decide_eq_false this]
  simp only [ev0, ev, evV, List.cons_append, List.nil_append, List.getD_cons_zero, List.getD_cons_succ, List.map_cons, List.map_nil, iOf, bOf, sOf, pOf, slLen, slBase, cmpI, arI, Value.ite_bool, int_beq, int_bne, ite_band, ite_bor, decide_eq_false_iff_not, ne_eq, Decidable.not_not] at h
  have hlen : l.length = m.length := by omega
  refine ⟨fun n vs H' => ∃ k : Nat, vs = [.bool false, .int .i64 k] ∧ k + n = l.length ∧ l.take k = m.take k ∧ PH.le H H', ⟨l.length, 0, rfl, by omega, by simp, PH.le_refl H⟩, ?_⟩
  rintro n vs H' _ ⟨k, rfl, hkn, htk, hle⟩
  refine ⟨fun h5 => ?_, fun h5 => ?_⟩
  · simp only [ev0, ev, evV, List.cons_append, List.nil_append, List.getD_cons_zero, List.getD_cons_succ, List.map_cons, List.map_nil, iOf, bOf, sOf, pOf, slLen, slBase, cmpI, arI, Value.ite_bool, int_beq, int_bne, ite_band, ite_bor, decide_eq_true_eq] at h5
    obtain ⟨e, he⟩ : ∃ e, l[k]? = some e := ⟨_, List.getElem?_eq_getElem (show k < l.length by omega)⟩
    obtain ⟨e', he'⟩ : ∃ e, m[k]? = some e := ⟨_, List.getElem?_eq_getElem (show k < m.length by omega)⟩
    obtain ⟨g1, ces, g2, g3, _, _⟩ := SlRep.get (hl.le hle) he
    obtain ⟨g1', ces', g2', g3', _, _⟩ := SlRep.get (hm.le hle) he'
    have htags := g2.tags
    have htags' := g2'.tags
    have hcall := ih e (List.mem_of_getElem? he) e' ces ces' H' g2 g2'
    obtain ⟨sve, rfl, _⟩ := Dat.Rep_iff.1 g2
    obtain ⟨sve', rfl, _⟩ := Dat.Rep_iff.1 g2'
    refine ⟨fun _ => ?_, _, htags, by simp only [ev0, ev, evV, List.cons_append, List.nil_append, List.getD_cons_zero, List.getD_cons_succ, List.map_cons, List.map_nil, iOf, bOf, sOf, pOf, slLen, slBase, cmpI, arI, Value.ite_bool, int_beq, int_bne, ite_band, ite_bor]; exact g3, fun _ => ?_, _, htags', by simp only [ev0, ev, evV, List.cons_append, List.nil_append, List.getD_cons_zero, List.getD_cons_succ, List.map_cons, List.map_nil, iOf, bOf, sOf, pOf, slLen, slBase, cmpI, arI, Value.ite_bool, int_beq, int_bne, ite_band, ite_bor]; exact g3', ?_⟩
    · simp only [Chk.holds, ev0, ev, evV, List.cons_append, List.nil_append, List.getD_cons_zero, List.getD_cons_succ, List.map_cons, List.map_nil, iOf, bOf, sOf, pOf, slLen, slBase, cmpI, arI, Value.ite_bool, int_beq, int_bne, ite_band, ite_bor]; exact ⟨g1, by omega, by omega⟩
    · simp only [Chk.holds, ev0, ev, evV, List.cons_append, List.nil_append, List.getD_cons_zero, List.getD_cons_succ, List.map_cons, List.map_nil, iOf, bOf, sOf, pOf, slLen, slBase, cmpI, arI, Value.ite_bool, int_beq, int_bne, ite_band, ite_bor]; exact ⟨g1', by omega, by omega⟩
    refine den_givesF [.bool (decide (e = e'))] rfl cb_data_Equal hcall rfl pendNil fun H2 h2 => ⟨fun h6 => ?_, fun h6 => ?_⟩
    · simp only [ev0, ev, evV, List.cons_append, List.nil_append, List.getD_cons_zero, List.getD_cons_succ, List.map_cons, List.map_nil, iOf, bOf, sOf, pOf, slLen, slBase, cmpI, arI, Value.ite_bool, int_beq, int_bne, ite_band, ite_bor, Bool.not_eq_true', decide_eq_false_iff_not] at h6
      refine ⟨?_, PH.le_trans hle h2⟩
      have : ¬ l = m := fun x => h6 (by subst x; rw [he] at he'; exact Option.some.inj he')
      simp only [ev0, ev, evV, List.cons_append, List.nil_append, List.getD_cons_zero, List.getD_cons_succ, List.map_cons, List.map_nil, iOf, bOf, sOf, pOf, slLen, slBase, cmpI, arI, Value.ite_bool, int_beq, int_bne, ite_band, ite_bor, decide_eq_false this]
    · simp only [ev0, ev, evV, List.cons_append, List.nil_append, List.getD_cons_zero, List.getD_cons_succ, List.map_cons, List.map_nil, iOf, bOf, sOf, pOf, slLen, slBase, cmpI, arI, Value.ite_bool, int_beq, int_bne, ite_band, ite_bor, Bool.not_eq_false', decide_eq_true_eq] at h6
      refine ⟨_, lookup_hit, n - 1, by omega, k + 1, ?_, by omega, take_eq_succ htk he he' h6, PH.le_trans hle h2⟩
      simp only [ev0, ev, evV, List.cons_append, List.nil_append, List.getD_cons_zero, List.getD_cons_succ, List.map_cons, List.map_nil, iOf, bOf, sOf, pOf, slLen, slBase, cmpI, arI, Value.ite_bool, int_beq, int_bne, ite_band, ite_bor]
      rw [w64 (by omega) (by omega)]
      rfl
  · simp only [ev0, ev, evV, List.cons_append, List.nil_append, List.getD_cons_zero, List.getD_cons_succ, List.map_cons, List.map_nil, iOf, bOf, sOf, pOf, slLen, slBase, cmpI, arI, Value.ite_bool, int_beq, int_bne, ite_band, ite_bor, decide_eq_false_iff_not] at h5
    refine ⟨?_, hle⟩
    have : l = m := by rw [List.take_of_length_le (by omega), List.take_of_length_le (by omega)] at htk; exact htk
    simp only [ev0, ev, evV, List.cons_append, List.nil_append, List.getD_cons_zero, List.getD_cons_succ, List.map_cons, List.map_nil, iOf, bOf, sOf, pOf, slLen, slBase, cmpI, arI, Value.ite_bool, int_beq, int_bne, ite_band, ite_bor, decide_eq_true this]
theorem Equal_gives : ∀ a, SameAt n_data_Equal a := by
  refine Dat.ind ?_
  intro a ih b ca cb H ha hb
  obtain ⟨s1, rfl, _, _, _, hs1⟩ := Dat.Rep_iff.1 ha
  obtain ⟨s2, rfl, _, _, _, hs2⟩ := Dat.Rep_iff.1 hb
  have hcall := EqualFunc_gives a.list b.list s1 s2 H hs1 hs2 ih
  obtain ⟨b1, c1, rfl⟩ := hs1.sl
  obtain ⟨b2, c2, rfl⟩ := hs2.sl
  refine tri_data_Equal [.int .i64 a.kind, .int .i64 a.int, txt a.text, .slice b1 a.list.length c1, .int .i64 b.kind, .int .i64 b.int, txt b.text, .slice b2 b.list.length c2] (by kernel_rfl) (by kernel_rfl) ?_
  refine ⟨fun vs H' => vs = [.bool (decide (a = b))] ∧ PH.le H H', ?_, ?_⟩
  · rintro vs H' _ ⟨rfl, h⟩; exact ⟨rfl, h⟩
  refine ⟨fun h => ?_, fun h => ?_⟩
  · simp only [ev0, ev, evV, List.cons_append, List.nil_append, List.getD_cons_zero, List.getD_cons_succ, List.map_cons, List.map_nil, iOf, bOf, sOf, pOf, slLen, slBase, cmpI, arI, Value.ite_bool, int_beq, int_bne, ite_band, ite_bor, txt_eql] at h
    simp only [Bool.and_eq_true, decide_eq_true_eq] at h
    refine den_gives [.bool (decide (a.list = b.list))] cb_slices_EqualFunc___api_Datum___api_Datum_api_Datum_api_Datum_ hcall rfl pendNil fun H2 h2 => ⟨_, lookup_hit, ?_, h2⟩
    have : (a = b) ↔ a.list = b.list := by rw [Dat.eq_iff]; simp [h.1.1, h.1.2, h.2]
    simp only [ev0, ev, evV, List.cons_append, List.nil_append, List.getD_cons_zero, List.getD_cons_succ, List.map_cons, List.map_nil, iOf, bOf, sOf, pOf, slLen, slBase, cmpI, arI, Value.ite_bool, int_beq, int_bne, ite_band, ite_bor, decide_eq_decide.2 this]
  · simp only [ev0, ev, evV, List.cons_append, List.nil_append, List.getD_cons_zero, List.getD_cons_succ, List.map_cons, List.map_nil, iOf, bOf, sOf, pOf, slLen, slBase, cmpI, arI, Value.ite_bool, int_beq, int_bne, ite_band, ite_bor, txt_eql] at h
    refine ⟨_, lookup_hit, ?_, PH.le_refl H⟩
    have : ¬ a = b := fun e => by subst e; simp at h
    simp only [ev0, ev, evV, List.cons_append, List.nil_append, List.getD_cons_zero, List.getD_cons_succ, List.map_cons, List.map_nil, iOf, bOf, sOf, pOf, slLen, slBase, cmpI, arI, Value.ite_bool, int_beq, int_bne, ite_band, ite_bor, decide_eq_false this]
theorem Same_gives : ∀ a, SameAt n_scrimshawref02_Same a := by
  refine Dat.ind ?_
  intro a ih b ca cb H ha hb
  obtain ⟨s1, rfl, _, _, _, hl⟩ := Dat.Rep_iff.1 ha
  obtain ⟨s2, rfl, _, _, _, hm⟩ := Dat.Rep_iff.1 hb
  obtain ⟨b1, c1, rfl⟩ := hl.sl
  obtain ⟨b2, c2, rfl⟩ := hm.sl
  have m1 := hl.max
  have m2 := hm.max
  simp only [maxLen] at m1 m2
  refine tri_scrimshawref02_Same [.int .i64 a.kind, .int .i64 a.int, txt a.text, .slice b1 a.list.length c1, .int .i64 b.kind, .int .i64 b.int, txt b.text, .slice b2 b.list.length c2] (by kernel_rfl) (by kernel_rfl) ?_
  refine ⟨fun h => ?_, fun h => ?_⟩
  · simp only [ev0, ev, evV, List.cons_append, List.nil_append, List.getD_cons_zero, List.getD_cons_succ, List.map_cons, List.map_nil, iOf, bOf, sOf, pOf, slLen, slBase, cmpI, arI, Value.ite_bool, int_beq, int_bne, ite_band, ite_bor, txt_neq] at h
    refine ⟨?_, PH.le_refl H⟩
    have : ¬ a = b := fun e => by subst e; simp at h
    simp only [ev0, ev, evV, List.cons_append, List.nil_append, List.getD_cons_zero, List.getD_cons_succ, List.map_cons, List.map_nil, iOf, bOf, sOf, pOf, slLen, slBase, cmpI, arI, Value.ite_bool, int_beq, int_bne, ite_band, ite_bor, decide_eq_false this]
  simp only [ev0, ev, evV, List.cons_append, List.nil_append, List.getD_cons_zero, List.getD_cons_succ, List.map_cons, List.map_nil, iOf, bOf, sOf, pOf, slLen, slBase, cmpI, arI, Value.ite_bool, int_beq, int_bne, ite_band, ite_bor, txt_neq] at h
  simp only [Bool.or_eq_false_iff, decide_eq_false_iff_not, ne_eq, Decidable.not_not] at h
  obtain ⟨⟨⟨h1, h2⟩, h3⟩, h4⟩ := h
  have heq : (a = b) ↔ a.list = b.list := by rw [Dat.eq_iff]; simp [h1, h2, h3]
  have hlen : a.list.length = b.list.length := by omega
  refine ⟨fun n vs H' => ∃ k : Nat, vs = [.bool false, .int .i64 k] ∧ k + n = a.list.length ∧ a.list.take k = b.list.take k ∧ PH.le H H', ⟨a.list.length, 0, rfl, by omega, by simp, PH.le_refl H⟩, ?_⟩
  rintro n vs H' _ ⟨k, rfl, hkn, htk, hle⟩
  refine ⟨fun h5 => ?_, fun h5 => ?_⟩
  · simp only [ev0, ev, evV, List.cons_append, List.nil_append, List.getD_cons_zero, List.getD_cons_succ, List.map_cons, List.map_nil, iOf, bOf, sOf, pOf, slLen, slBase, cmpI, arI, Value.ite_bool, int_beq, int_bne, ite_band, ite_bor, decide_eq_true_eq] at h5
    obtain ⟨e, he⟩ : ∃ e, a.list[k]? = some e := ⟨_, List.getElem?_eq_getElem (show k < a.list.length by omega)⟩
    obtain ⟨e', he'⟩ : ∃ e, b.list[k]? = some e := ⟨_, List.getElem?_eq_getElem (show k < b.list.length by omega)⟩
    obtain ⟨g1, ces, g2, g3, _, _⟩ := SlRep.get (hl.le hle) he
    obtain ⟨g1', ces', g2', g3', _, _⟩ := SlRep.get (hm.le hle) he'
    have htags := g2.tags
    have htags' := g2'.tags
    have hcall := ih e (List.mem_of_getElem? he) e' ces ces' H' g2 g2'
    obtain ⟨sve, rfl, _⟩ := Dat.Rep_iff.1 g2
    obtain ⟨sve', rfl, _⟩ := Dat.Rep_iff.1 g2'
    refine ⟨fun _ => ?_, _, htags, by simp only [ev0, ev, evV, List.cons_append, List.nil_append, List.getD_cons_zero, List.getD_cons_succ, List.map_cons, List.map_nil, iOf, bOf, sOf, pOf, slLen, slBase, cmpI, arI, Value.ite_bool, int_beq, int_bne, ite_band, ite_bor]; exact g3, fun _ => ?_, _, htags', by simp only [ev0, ev, evV, List.cons_append, List.nil_append, List.getD_cons_zero, List.getD_cons_succ, List.map_cons, List.map_nil, iOf, bOf, sOf, pOf, slLen, slBase, cmpI, arI, Value.ite_bool, int_beq, int_bne, ite_band, ite_bor]; exact g3', ?_⟩
    · simp only [Chk.holds, ev0, ev, evV, List.cons_append, List.nil_append, List.getD_cons_zero, List.getD_cons_succ, List.map_cons, List.map_nil, iOf, bOf, sOf, pOf, slLen, slBase, cmpI, arI, Value.ite_bool, int_beq, int_bne, ite_band, ite_bor]; exact ⟨g1, by omega, by omega⟩
    · simp only [Chk.holds, ev0, ev, evV, List.cons_append, List.nil_append, List.getD_cons_zero, List.getD_cons_succ, List.map_cons, List.map_nil, iOf, bOf, sOf, pOf, slLen, slBase, cmpI, arI, Value.ite_bool, int_beq, int_bne, ite_band, ite_bor]; exact ⟨g1', by omega, by omega⟩
    refine den_gives [.bool (decide (e = e'))] cb_scrimshawref02_Same hcall rfl pendNil fun H2 h2 => ⟨fun h6 => ?_, fun h6 => ?_⟩
    · simp only [ev0, ev, evV, List.cons_append, List.nil_append, List.getD_cons_zero, List.getD_cons_succ, List.map_cons, List.map_nil, iOf, bOf, sOf, pOf, slLen, slBase, cmpI, arI, Value.ite_bool, int_beq, int_bne, ite_band, ite_bor, Bool.not_eq_true', decide_eq_false_iff_not] at h6
      refine ⟨?_, PH.le_trans hle h2⟩
      have : ¬ a = b := fun x => h6 (by subst x; rw [he] at he'; exact Option.some.inj he')
      simp only [ev0, ev, evV, List.cons_append, List.nil_append, List.getD_cons_zero, List.getD_cons_succ, List.map_cons, List.map_nil, iOf, bOf, sOf, pOf, slLen, slBase, cmpI, arI, Value.ite_bool, int_beq, int_bne, ite_band, ite_bor, decide_eq_false this]
    · simp only [ev0, ev, evV, List.cons_append, List.nil_append, List.getD_cons_zero, List.getD_cons_succ, List.map_cons, List.map_nil, iOf, bOf, sOf, pOf, slLen, slBase, cmpI, arI, Value.ite_bool, int_beq, int_bne, ite_band, ite_bor, Bool.not_eq_false', decide_eq_true_eq] at h6
      refine ⟨_, lookup_hit, n - 1, by omega, k + 1, ?_, by omega, take_eq_succ htk he he' h6, PH.le_trans hle h2⟩
      simp only [ev0, ev, evV, List.cons_append, List.nil_append, List.getD_cons_zero, List.getD_cons_succ, List.map_cons, List.map_nil, iOf, bOf, sOf, pOf, slLen, slBase, cmpI, arI, Value.ite_bool, int_beq, int_bne, ite_band, ite_bor]
      rw [w64 (by omega) (by omega)]
      rfl
  · simp only [ev0, ev, evV, List.cons_append, List.nil_append, List.getD_cons_zero, List.getD_cons_succ, List.map_cons, List.map_nil, iOf, bOf, sOf, pOf, slLen, slBase, cmpI, arI, Value.ite_bool, int_beq, int_bne, ite_band, ite_bor, decide_eq_false_iff_not] at h5
    refine ⟨?_, hle⟩
    have : a = b := heq.2 (by rw [List.take_of_length_le (by omega), List.take_of_length_le (by omega)] at htk; exact htk)
    simp only [ev0, ev, evV, List.cons_append, List.nil_append, List.getD_cons_zero, List.getD_cons_succ, List.map_cons, List.map_nil, iOf, bOf, sOf, pOf, slLen, slBase, cmpI, arI, Value.ite_bool, int_beq, int_bne, ite_band, ite_bor, decide_eq_true this]

/-! ### how many data there are in some, up to 100001 -/
mutual
def Dat.cnt : Dat → Nat
  | .mk _ _ _ l => 1 + Dats.cnt l
def Dats.cnt : List Dat → Nat
  | [] => 0
  | d :: l => Dat.cnt d + Dats.cnt l
end
theorem Dat.cnt_eq (d : Dat) : d.cnt = 1 + Dats.cnt d.list := by cases d; simp only [Dat.cnt, Dat.list]
theorem Dats.cnt_le : ∀ l : List Dat, l.length ≤ Dats.cnt l
  | [] => by simp
  | d :: l => by
    have := Dats.cnt_le l
    have h := Dat.cnt_eq d
    simp only [Dats.cnt, List.length_cons]; omega
theorem Dats.cnt_append : ∀ l m : List Dat, Dats.cnt (l ++ m) = Dats.cnt l + Dats.cnt m
  | [], m => by simp [Dats.cnt]
  | d :: l, m => by simp only [List.cons_append, Dats.cnt, Dats.cnt_append l m]; omega
theorem Dats.cnt_mem : ∀ {l : List Dat} {d : Dat}, d ∈ l → d.cnt ≤ Dats.cnt l
  | [], d, h => by cases h
  | e :: l, d, h => by
    simp only [Dats.cnt]
    rcases List.mem_cons.1 h with rfl | h
    · omega
    · have := Dats.cnt_mem h; omega
theorem Dats.cnt_take_succ {l : List Dat} {k : Nat} {d : Dat} (h : l[k]? = some d) : Dats.cnt (l.take (k + 1)) = Dats.cnt (l.take k) + d.cnt := by
  rw [List.take_add_one, h, Dats.cnt_append]; simp [Dats.cnt]
end Go.Proofs.YtlnmmakbgldflaaGreatDoor.Vc
/-
  DATA that may be have the same text just if they are the same: the theorem; and the law, at the level of calls.
-/
namespace Go.Proofs.YtlnmmakbgldflaaGreatDoor.Vc
open Go

/-- a number or a name: a word of name bytes, no dot; told apart by what it says -/
theorem word_text {d : Dat} (h : d.kind = 1 ∨ (d.kind = 4 ∧ nameOk d.text = true)) : ∃ c t, d.txtL false = c :: t ∧ nameB c = true ∧ (d.txtL false).all nameB = true ∧ d.txtL false ≠ [46] ∧ numB (d.txtL false) = decide (d.kind = 1) := by
  have key : (d.txtL false).all nameB = true ∧ d.txtL false ≠ [] ∧ d.txtL false ≠ [46] ∧ numB (d.txtL false) = decide (d.kind = 1) := by
    rw [Dat.txtL_eq]
    rcases h with h | ⟨h, hn⟩
    · have e0 : ¬ d.kind = 0 := by omega
      rw [if_neg e0, if_pos h]
      have hi := itoa_name d.int
      refine ⟨hi.1, hi.2, fun x => ?_, by rw [itoa_num]; simp [h]⟩
      have := itoa_num d.int
      rw [x] at this; revert this; decide
    · have e0 : ¬ d.kind = 0 := by omega
      have e1 : ¬ d.kind = 1 := by omega
      have e2 : ¬ d.kind = 2 := by omega
      have e3 : ¬ d.kind = 3 := by omega
      rw [if_neg e0, if_neg e1, if_neg e2, if_neg e3, if_pos h]
      obtain ⟨h1, h2, h3, h4⟩ := name_ne hn
      exact ⟨h2, h1, h3, by rw [h4]; simp [h]⟩
  obtain ⟨h1, h2, h3, h4⟩ := key
  cases hl : d.txtL false with
  | nil => exact absurd hl h2
  | cons c t =>
    rw [hl] at h1 h3 h4
    have h1' := h1
    simp only [List.all_cons, Bool.and_eq_true] at h1'
    exact ⟨c, t, rfl, h1'.1, h1, h3, h4⟩
theorem txt_head {d : Dat} (h : formOk d = true) : ∃ c t, d.txtL false = c :: t ∧ c ≠ 41 ∧ c ≠ 32 := by
  rcases form_cases h with h | h | h | h | h | h | h | h
  · obtain ⟨hk, hi, _⟩ := h
    rw [Dat.txtL_eq, if_pos hk]
    rcases hi with hi | hi <;> rw [hi] <;> exact ⟨_, _, rfl, by decide, by decide⟩
  · obtain ⟨c, t, h1, h2, _⟩ := word_text (.inl h.1)
    exact ⟨c, t, h1, (by rintro rfl; revert h2; decide), (by rintro rfl; revert h2; decide)⟩
  · obtain ⟨hk, _⟩ := h
    rw [Dat.txtL_eq, hk]
    obtain ⟨a, w, h1, _⟩ := char_parts (byteOf d.int)
    exact ⟨35, 92 :: a :: w, h1, by decide, by decide⟩
  · obtain ⟨hk, _⟩ := h
    rw [Dat.txtL_eq, hk]; exact ⟨34, _, rfl, by decide, by decide⟩
  · obtain ⟨c, t, h1, h2, _⟩ := word_text (.inr ⟨h.1, h.2.2.2⟩)
    exact ⟨c, t, h1, (by rintro rfl; revert h2; decide), (by rintro rfl; revert h2; decide)⟩
  · obtain ⟨hk, _⟩ := h
    rw [Dat.txtL_eq, hk]; exact ⟨40, _, rfl, by decide, by decide⟩
  · obtain ⟨hk, _⟩ := h
    rw [Dat.txtL_eq, hk]; exact ⟨40, _, rfl, by decide, by decide⟩
  · obtain ⟨hk, _⟩ := h
    rw [Dat.txtL_eq, hk]; exact ⟨35, _, rfl, by decide, by decide⟩
theorem delim_rest (p : Bool) (l : List Dat) (r : List UInt8) : Delim (Dats.txtL false p false l ++ 41 :: r) := by
  cases l with
  | nil => exact .inr ⟨41, r, by simp [Dats.txtL], .inr rfl⟩
  | cons d l =>
    refine .inr ⟨32, (if (p && l.isEmpty) = true then [46, 32] else []) ++ Dat.txtL false d ++ Dats.txtL false p false l ++ 41 :: r, ?_, .inl rfl⟩
    simp only [Dats.txtL, Bool.false_eq_true, if_false, List.cons_append, List.nil_append, List.append_assoc]
end Go.Proofs.YtlnmmakbgldflaaGreatDoor.Vc
/-
  DATA: what is made of items and a tail; a datum's items.
-/
namespace Go.Proofs.YtlnmmakbgldflaaGreatDoor.Vc
open Go

/-- a call that gives a datum in new memory -/
def GivesD (f : FuncId) (args : List Value) (H : PH) (d : Dat) : Prop := Tri Tryz.prog f args.toArray H fun e H' => ∃ cs, e = .returned (.agg cs.toArray) ∧ PH.le H H' ∧ d.Rep H' cs
def CopyAt (d : Dat) : Prop := ∀ (cs : List Value) (H : PH), d.Rep H cs → d.cnt ≤ 100000 → GivesD n_data_copied [.agg cs.toArray] H d
theorem all_tri (l : List Dat) (ih : ∀ e ∈ l, CopyAt e) (v : Value) (H : PH) (hs : SlR H l v) (hc : Dats.cnt l ≤ 100000) : Tri Tryz.prog n_data_all #[v] H fun e H' => ∃ v', e = .returned v' ∧ Acc H H' 34 l v' := by
  obtain ⟨b, c, rfl⟩ := hs.sl
  have hll := Dats.cnt_le l
  refine tri_data_all [.slice b l.length c] (by kernel_rfl) (by kernel_rfl) ?_
  refine ⟨fun m vs H' => ∃ (k : Nat) (out : Value), vs = [out, .int .i64 k] ∧ k + m = l.length ∧ Acc H H' 34 (l.take k) out, ⟨l.length, 0, .slice none 0 0, rfl, by omega, by rw [List.take_zero]; exact Acc.nil H 34⟩, ?_⟩
  rintro m vs H' _ ⟨k, out, rfl, hkm, hacc⟩
  refine ⟨fun h5 => ?_, fun h5 => ?_⟩
  · simp only [ev0, ev, evV, List.cons_append, List.nil_append, List.getD_cons_zero, List.getD_cons_succ, List.map_cons, List.map_nil, iOf, bOf, sOf, pOf, slLen, slBase, cmpI, arI, Value.ite_bool, int_beq, int_bne, ite_band, ite_bor, decide_eq_true_eq] at h5
    obtain ⟨e, he⟩ : ∃ e, l[k]? = some e := ⟨_, List.getElem?_eq_getElem (show k < l.length by omega)⟩
    obtain ⟨g1, ces, g2, g3, _, _⟩ := SlRep.get (hs.le hacc.le) he
    have htags := g2.tags
    have hec := Dats.cnt_mem (List.mem_of_getElem? he)
    have hcall := hacc.call (fun e K h => by obtain ⟨cs, _, h, _⟩ := h; exact h) (ih e (List.mem_of_getElem? he) ces _ g2 (by omega))
    obtain ⟨sve, rfl, _⟩ := Dat.Rep_iff.1 g2
    refine ⟨fun _ => ?_, _, htags, by simp only [ev0, ev, evV, List.cons_append, List.nil_append, List.getD_cons_zero, List.getD_cons_succ, List.map_cons, List.map_nil, iOf, bOf, sOf, pOf, slLen, slBase, cmpI, arI, Value.ite_bool, int_beq, int_bne, ite_band, ite_bor]; exact rowAt_le (delV_le _ _) g3, ?_⟩
    · simp only [Chk.holds, ev0, ev, evV, List.cons_append, List.nil_append, List.getD_cons_zero, List.getD_cons_succ, List.map_cons, List.map_nil, iOf, bOf, sOf, pOf, slLen, slBase, cmpI, arI, Value.ite_bool, int_beq, int_bne, ite_band, ite_bor]; exact ⟨g1, by omega, by omega⟩
    refine den_call cb_data_copied hcall ?_
    rintro x H2 ⟨⟨cs, rfl, h1, h2⟩, hacc2, h3⟩
    have ht2 := h2.tags
    have h2' := h2
    obtain ⟨sv2, rfl, _⟩ := Dat.Rep_iff.1 h2
    refine ⟨_, _, rfl, ht2, rfl, pendNil, ?_⟩
    refine den_push (more := [e]) (b := 56) [.agg #[.int .i64 e.kind, .int .i64 e.int, txt e.text, sv2]] uDats elemDat rfl (by decide) (by decide) rfl (.cons h2' .nil) pendNil hacc2 (fun _ => rfl) (fun _ => rfl)
      (by simp only [maxLen, List.length_take, List.length_cons, List.length_nil]; omega) (by simp only [List.length_take, List.length_cons, List.length_nil]; omega) fun u v' H3 h4 h5 => ⟨pendNil, _, lookup_hit, m - 1, by omega, k + 1, v', ?_, by omega, ?_⟩
    · simp only [ev0, ev, evV, List.cons_append, List.nil_append, List.getD_cons_zero, List.getD_cons_succ, List.map_cons, List.map_nil, iOf, bOf, sOf, pOf, slLen, slBase, cmpI, arI, Value.ite_bool, int_beq, int_bne, ite_band, ite_bor]
      rw [w64 (by omega) (by omega)]
      rfl
    · rw [List.take_add_one, he]; exact h4
  · simp only [ev0, ev, evV, List.cons_append, List.nil_append, List.getD_cons_zero, List.getD_cons_succ, List.map_cons, List.map_nil, iOf, bOf, sOf, pOf, slLen, slBase, cmpI, arI, Value.ite_bool, int_beq, int_bne, ite_band, ite_bor, decide_eq_false_iff_not] at h5
    have : k = l.length := by omega
    subst this
    rw [List.take_length] at hacc
    exact ⟨out, rfl, hacc⟩
theorem copied_tri : ∀ d, CopyAt d := by
  refine Dat.ind ?_
  intro d ih cs H hd hc
  obtain ⟨sv, rfl, g1, g2, g3, hs⟩ := Dat.Rep_iff.1 hd
  rw [Dat.cnt_eq] at hc
  have hcall := all_tri d.list ih sv H hs (by omega)
  obtain ⟨b, c, rfl⟩ := hs.sl
  refine tri_data_copied [.int .i64 d.kind, .int .i64 d.int, txt d.text, .slice b d.list.length c] (by kernel_rfl) (by kernel_rfl) ?_
  refine den_call cb_data_all hcall ?_
  rintro x H2 ⟨v', rfl, hacc⟩
  obtain ⟨b2, c2, hv⟩ := hacc.sl
  refine ⟨_, [v'], rfl, by rw [hv]; rfl, rfl, pendNil, [.int .i64 d.kind, .int .i64 d.int, txt d.text, v'], rfl, hacc.all, Dat.Rep_iff.2 ⟨_, rfl, g1, g2, g3, hacc.slR⟩⟩
theorem allD_tri (l : List Dat) (v : Value) (H : PH) (hs : SlR H l v) (hc : Dats.cnt l ≤ 100000) : Tri Tryz.prog n_data_all #[v] H fun e H' => ∃ v', e = .returned v' ∧ Acc H H' 34 l v' := all_tri l (fun e _ => copied_tri e) v H hs hc

def makeD (l : List Dat) (d : Dat) : Dat := if l.length = 0 then d else if d.kind = 5 ∨ d.kind = 6 then .mk d.kind 0 [] (l ++ d.list) else .mk 6 0 [] (l ++ [d])
theorem or_if (p q : Prop) [Decidable p] [Decidable q] : (if decide p = true then true else decide q) = decide (p ∨ q) := by by_cases hp : p <;> simp [hp]
theorem DMake_gives (l : List Dat) (d : Dat) (v : Value) (cs : List Value) (H : PH) (hl : SlR H l v) (hd : d.Rep H cs) (hc1 : Dats.cnt l ≤ 100000) (hc2 : d.cnt ≤ 100000) : GivesD n_data_Make [v, .agg cs.toArray] H (makeD l d) := by
  have hll := Dats.cnt_le l
  have hdl := Dats.cnt_le d.list
  have hcd := Dat.cnt_eq d
  have hd' := hd
  obtain ⟨sv, rfl, g1, g2, g3, hs⟩ := Dat.Rep_iff.1 hd
  have c1 := copied_tri d _ H hd' hc2
  have c2 := allD_tri l v H hl hc1
  obtain ⟨b0, c0, rfl⟩ := hl.sl
  obtain ⟨b, c, rfl⟩ := hs.sl
  refine tri_data_Make [.slice b0 l.length c0, .int .i64 d.kind, .int .i64 d.int, txt d.text, .slice b d.list.length c] (by kernel_rfl) (by kernel_rfl) ?_
  refine ⟨fun h => ?_, fun h => ?_⟩
  · simp only [ev0, ev, evV, List.cons_append, List.nil_append, List.getD_cons_zero, List.getD_cons_succ, List.map_cons, List.map_nil, iOf, bOf, sOf, pOf, slLen, slBase, cmpI, arI, Value.ite_bool, int_beq, int_bne, ite_band, ite_bor, decide_eq_true_eq] at h
    rw [makeD, if_pos (by omega)]
    refine den_call cb_data_copied c1 ?_
    rintro x H2 ⟨cs, rfl, h1, h2⟩
    have ht2 := h2.tags
    have h2' := h2
    obtain ⟨sv2, rfl, _⟩ := Dat.Rep_iff.1 h2
    exact ⟨_, _, rfl, ht2, rfl, pendNil, _, rfl, h1, h2'⟩
  simp only [ev0, ev, evV, List.cons_append, List.nil_append, List.getD_cons_zero, List.getD_cons_succ, List.map_cons, List.map_nil, iOf, bOf, sOf, pOf, slLen, slBase, cmpI, arI, Value.ite_bool, int_beq, int_bne, ite_band, ite_bor, decide_eq_false_iff_not] at h
  refine ⟨fun h2 => ?_, fun h2 => ?_⟩
  · simp only [ev0, ev, evV, List.cons_append, List.nil_append, List.getD_cons_zero, List.getD_cons_succ, List.map_cons, List.map_nil, iOf, bOf, sOf, pOf, slLen, slBase, cmpI, arI, Value.ite_bool, int_beq, or_if] at h2
    rw [decide_eq_true_eq] at h2
    rw [makeD, if_neg (by omega), if_pos h2]
    refine den_call cb_data_all c2 ?_
    rintro x H2 ⟨v5, rfl, a5⟩
    obtain ⟨b5, c5, e5⟩ := a5.sl
    have c3 := a5.call (fun e K h => by obtain ⟨v', _, h⟩ := h; exact h.all) (allD_tri d.list _ _ (hs.le a5.le) (by omega))
    refine ⟨_, [v5], rfl, by rw [e5]; rfl, rfl, pendNil, ?_⟩
    refine den_call cb_data_all c3 ?_
    rintro x H3 ⟨⟨v6, rfl, a6⟩, a53, l3⟩
    obtain ⟨b6, c6, e6⟩ := a6.sl
    refine ⟨_, [v6], rfl, by rw [e6]; rfl, rfl, pendNil, ?_⟩
    refine den_append (b := 56) uDats elemDat rfl rfl a53 a6.slR (by simp only [maxLen]; omega) (by omega) fun v' H4 a7 w7 => ⟨pendNil, [.int .i64 d.kind, .int .i64 0, txt [], v'], rfl, a7.all, ?_⟩
    exact Dat.Rep_iff.2 ⟨_, rfl, g1, (by decide : InI 0), Nat.zero_le _, a7.slR⟩
  · simp only [ev0, ev, evV, List.cons_append, List.nil_append, List.getD_cons_zero, List.getD_cons_succ, List.map_cons, List.map_nil, iOf, bOf, sOf, pOf, slLen, slBase, cmpI, arI, Value.ite_bool, int_beq, or_if] at h2
    rw [decide_eq_false_iff_not] at h2
    rw [makeD, if_neg (by omega), if_neg h2]
    refine den_call cb_data_all c2 ?_
    rintro x H2 ⟨v5, rfl, a5⟩
    obtain ⟨b5, c5, e5⟩ := a5.sl
    have c3 := a5.call (fun e K h => by obtain ⟨cs, _, h, _⟩ := h; exact h) (copied_tri d _ _ (Dat.Rep.le a5.le d hd') hc2)
    refine ⟨_, [v5], rfl, by rw [e5]; rfl, rfl, pendNil, ?_⟩
    refine den_call cb_data_copied c3 ?_
    rintro x H3 ⟨⟨cs, rfl, l2, r2⟩, a53, l3⟩
    have ht2 := r2.tags
    have r2' := r2
    obtain ⟨sv2, rfl, _⟩ := Dat.Rep_iff.1 r2
    refine ⟨_, _, rfl, ht2, rfl, pendNil, ?_⟩
    refine den_push (more := [d]) (b := 56) [.agg #[.int .i64 d.kind, .int .i64 d.int, txt d.text, sv2]] uDats elemDat rfl (by decide) (by decide) rfl (.cons r2' .nil) pendNil a53 (fun _ => rfl) (fun _ => rfl)
      (by simp only [maxLen, List.length_cons, List.length_nil]; omega) (by simp only [List.length_cons, List.length_nil]; omega) fun u v' H4 a7 w7 => ⟨pendNil, [.int .i64 6, .int .i64 0, txt [], v'], rfl, a7.all, ?_⟩
    exact Dat.Rep_iff.2 ⟨_, rfl, (by decide : InI 6), (by decide : InI 0), Nat.zero_le _, a7.slR⟩
theorem SameAll_gives (l m : List Dat) (va vb : Value) (H : PH) (hl : SlR H l va) (hm : SlR H m vb) : Gives Tryz.prog n_scrimshawref02_SameAll [va, vb] H (.bool (decide (l = m))) := by
  have r1 : Dat.Rep H (.mk 0 0 [] l) [.int .i64 0, .int .i64 0, txt [], va] := Dat.Rep_iff.2 ⟨_, rfl, (by decide : InI 0), (by decide : InI 0), Nat.zero_le _, hl⟩
  have r2 : Dat.Rep H (.mk 0 0 [] m) [.int .i64 0, .int .i64 0, txt [], vb] := Dat.Rep_iff.2 ⟨_, rfl, (by decide : InI 0), (by decide : InI 0), Nat.zero_le _, hm⟩
  have hc := Same_gives _ _ _ _ H r1 r2
  have e : decide (Dat.mk 0 0 [] l = Dat.mk 0 0 [] m) = decide (l = m) := decide_eq_decide.2 (by simp)
  rw [e] at hc
  obtain ⟨b1, c1, rfl⟩ := hl.sl
  obtain ⟨b2, c2, rfl⟩ := hm.sl
  refine tri_scrimshawref02_SameAll [.slice b1 l.length c1, .slice b2 m.length c2] (by kernel_rfl) (by kernel_rfl) ?_
  exact den_gives [_] cb_scrimshawref02_Same hc rfl pendNil fun H2 h2 => ⟨rfl, h2⟩

end Go.Proofs.YtlnmmakbgldflaaGreatDoor.Vc

