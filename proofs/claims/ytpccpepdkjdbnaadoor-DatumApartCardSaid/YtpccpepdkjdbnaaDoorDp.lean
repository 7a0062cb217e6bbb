/-
  DATA that come in.
-/
import Derived.Test.YtpccpepdkjdbnaaDoorDo
import Derived.Test.YtpccpepdkjdbnaaDoorWg
set_option linter.unusedSimpArgs false
set_option linter.unusedVariables false
namespace Go.Proofs.YtpccpepdkjdbnaaDoor.Vc
open Go Go.ChangeShapes Go.WideShapes Go.ChangeAt Go.RowKit

mutual
def Dat.wt : Dat → Nat
  | .mk _ _ t l => t.length + 5 + Dats.wt l
def Dats.wt : List Dat → Nat
  | [] => 0
  | d :: l => Dat.wt d + Dats.wt l
end
theorem Dats.wt_eq : ∀ l : List Dat, Dats.wt l = sumWt Dat.wt l
  | [] => by simp only [Dats.wt, sumWt]
  | d :: l => by simp only [Dats.wt, sumWt, Dats.wt_eq l]
theorem Dat.wt_eq (d : Dat) : d.wt = d.text.length + 5 + sumWt Dat.wt d.list := by
  cases d; simp only [Dat.wt, Dat.text, Dat.list, Dats.wt_eq]
noncomputable def datFields : Array Field := match Tryd.prog.underlying 24 with
  | some (.struct fs) => fs
  | _ => #[]
theorem uDat : Tryd.prog.underlying 24 = some (.struct datFields) := by kernel_rfl
theorem datF : datFields.toList.map (fun f => (f.type, f.offset)) = [(3, 0), (3, 1), (9, 2), (22, 3)] := by kernel_rfl
theorem uInt : Tryd.prog.underlying 3 = some (.int .i64) := by kernel_rfl
theorem cInt : Tryd.prog.cellsOf 3 = 1 := by kernel_rfl
theorem cStr : Tryd.prog.cellsOf 9 = 1 := by kernel_rfl
theorem cDats : Tryd.prog.cellsOf 22 = 1 := by kernel_rfl
theorem cDat : Tryd.prog.cellsOf 24 = 4 := by kernel_rfl
theorem csInt {H : PH} {n : Int} {v : Value} (h : CsR H n [v]) : v = .int .i64 n ∧ InI n := by
  have h' : PV.RepRow H [.int .i64 n] [v] := h
  simp only [PV.RepRow, PV.Rep] at h'
  obtain ⟨v', vs, e, ⟨rfl, h1⟩, rfl⟩ := h'
  simp only [List.cons.injEq, and_true] at e
  exact ⟨e, h1⟩
theorem csTxt {H : PH} {l : List UInt8} {v : Value} (h : CsR H l [v]) : v = txt l ∧ l.length ≤ maxLen := by
  have h' : PV.RepRow H [.str l] [v] := h
  simp only [PV.RepRow, PV.Rep] at h'
  obtain ⟨v', vs, e, ⟨rfl, h1⟩, rfl⟩ := h'
  simp only [List.cons.injEq, and_true] at e
  exact ⟨e, h1⟩
theorem opens_dat {H : Type} {enc : TypeId × Value → H} {w : World} : ∀ fuel, Opens (α := Dat) enc Tryd.prog w Dat.wt 24 fuel := by
  intro fuel
  induction fuel using Nat.strongRecOn with
  | ind fuel ih =>
    intro cs d ps h
    obtain ⟨xs, n, rfl, rfl, hc, hl, hi⟩ := trod_fields uDat datF h
    rw [cDat] at hc
    match xs, hl with
    | [x0, x1, x2, x3], _ =>
    match cs, hc with
    | [c0, c1, c2, c3], _ =>
    have t0 := hi 0 3 0 x0 rfl rfl
    have t1 := hi 1 3 1 x1 rfl rfl
    have t2 := hi 2 9 2 x2 rfl rfl
    have t3 := hi 3 22 3 x3 rfl rfl
    rw [cInt] at t0 t1
    rw [cStr] at t2
    rw [cDats] at t3
    obtain ⟨k, hk, hkw⟩ := opens_int uInt n _ _ _ t0
    obtain ⟨m, hm, hmw⟩ := opens_int uInt n _ _ _ t1
    obtain ⟨s, hs, hsw⟩ := opens_txt uString n _ _ _ t2
    obtain ⟨l, v, hlv, hls, hlw⟩ := opens_slice (α := Dat) uDats cDat (fun j hj => ih j (by omega)) t3
    have hv : c3 = v := by simpa using hlv
    subst hv
    obtain ⟨rfl, hk1⟩ := csInt hk
    obtain ⟨rfl, hm1⟩ := csInt hm
    obtain ⟨rfl, hs1⟩ := csTxt hs
    refine ⟨.mk k m s l, Dat.Rep_iff.2 ⟨_, rfl, hk1, hm1, hs1, hls⟩, ?_⟩
    simp only at hkw hmw hsw
    simp only [Dat.wt, Dats.wt_eq, Rows.uptoBulk, Rows.uptoBulkAll, List.map_cons, List.map_nil]
    omega
/-- a datum as an argument -/
theorem arg_dat {H : Type} {enc : TypeId × Value → H} {w : World} {v : Value} {d : DataW H} {p : List MemPlace} {r : Reach} {b : Nat} (hval : Value.okWide Tryd.prog w r b 24 v) (h : DataW.Trod enc Tryd.prog w 0 (fun _ => true) true 24 v d p) :
    ∃ (a : Dat) (cs : List Value), v = .agg cs.toArray ∧ a.Rep (whole w) cs ∧ a.wt ≤ Rows.uptoBulk d := by
  obtain ⟨cs, rfl, _⟩ := okWide_struct uDat hval
  obtain ⟨fuel, h⟩ := h
  obtain ⟨a, h1, h2⟩ := opens_dat fuel _ _ _ h
  exact ⟨a, cs.toList, by simp, h1, h2⟩
theorem arg_txt {H : Type} {enc : TypeId × Value → H} {w : World} {v : Value} {d : DataW H} {p : List MemPlace} {r : Reach} {b : Nat} (hval : Value.okWide Tryd.prog w r b 9 v) (h : DataW.Trod enc Tryd.prog w 0 (fun _ => true) true 9 v d p) :
    ∃ s : List UInt8, v = txt s ∧ s.length ≤ maxLen ∧ s.length + 1 ≤ Rows.uptoBulk d := by
  obtain ⟨s, rfl, rfl, rfl, hs⟩ := ChangeMaps.open_string uString hval h
  refine ⟨s.data.toList, rfl, by have hs' : s.data.size ≤ maxLen := hs; rwa [Array.length_toList], by simp [Rows.uptoBulk]⟩
theorem arg_dats {H : Type} {enc : TypeId × Value → H} {w : World} {v : Value} {d : DataW H} {p : List MemPlace} {r : Reach} {b : Nat} (hval : Value.okWide Tryd.prog w r b 22 v) (h : DataW.Trod enc Tryd.prog w 0 (fun _ => true) true 22 v d p) :
    ∃ l : List Dat, SlR (whole w) l v ∧ sumWt Dat.wt l + 1 ≤ Rows.uptoBulk d := by
  obtain ⟨a, len, cap, rfl⟩ := okWide_slice uDats hval
  obtain ⟨fuel, h⟩ := h
  obtain ⟨l, v, e, h1, h2⟩ := opens_slice (α := Dat) uDats cDat (fun j _ => opens_dat j) h
  have : v = .slice a len cap := by simpa [Value.cells] using e.symm
  subst this
  exact ⟨l, h1, h2⟩

/-! ### what all statements of this seat ask -/
theorem ownTryd : ownKnob Tryd.prog.godebug = none := by kernel_rfl
theorem laidOutTryd : laidOutB Tryd.prog = true := by kernel_rfl
theorem mapsRowedTryd : mapsRowed Tryd.prog = true := by kernel_rfl
theorem kidsTryd : Kids Tryd.prog (· < Tryd.prog.types.size) := kids_rows laidOutTryd mapsRowedTryd
theorem fullTryd : ∀ t e, t < Tryd.prog.types.size → Tryd.prog.underlying t = some (.slice e) → 0 < Tryd.prog.cellsOf e := slices_full_of Tryd.prog (by kernel_rfl)
abbrev tabs : List (String × DataW Unit) := [("math/bits.deBruijn32tab", Rows.laid_math_bits_deBruijn32tab), ("math/bits.deBruijn64tab", Rows.laid_math_bits_deBruijn64tab), ("internal/strconv.uint64pow10", Rows.laid_internal_strconv_uint64pow10)]
theorem gPow : Tryd.prog.globalNamed "internal/strconv.uint64pow10" = some 1 := by kernel_rfl
theorem tPow : (Tryd.prog.globals[1]?).map (·.type) = some 75 := by kernel_rfl
theorem uPow : Tryd.prog.underlying 75 = some (.array 20 66) := by kernel_rfl
theorem uPowE : Tryd.prog.underlying 66 = some (.int .u64) := by kernel_rfl
theorem cPowE : Tryd.prog.cellsOf 66 = 1 := by kernel_rfl
theorem cPow : Tryd.prog.cellsOf 75 = 20 := by kernel_rfl
theorem tab_of_laid {W : World} (h : laidMetH Tryd.prog tabs W) : Tab (whole W) := by
  have h1 : laidMet Tryd.prog tabs W := h
  have h3 := laidMet_tail (laidMet_tail h1)
  have ht : Lib.TabIs Tryd.prog W "internal/strconv.uint64pow10" .u64 Lib.pow10Tab := Lib.tabIs_of_head (rest := []) gPow tPow uPow uPowE cPowE cPow h3
  unfold Lib.TabIs World.var? at ht
  rw [gPow] at ht
  simp only [Option.bind_some] at ht
  cases hb : W.heap[1]? with
  | none => rw [hb] at ht; cases ht
  | some o =>
    rw [hb] at ht
    cases o with
    | cells cs e f =>
      simp only [Option.some.injEq] at ht
      exact ⟨1, e, f, gPow, by unfold whole; rw [hb, ht]⟩
    | _ => cases ht
/-- a block of integers set -/
def layInts (k : IntKind) (zs : List Int) : Obj → Obj
  | .cells _ t f => .cells (zs.map fun z => Value.int k z).toArray t f
  | o => o
/-- a world for the witnesses: the tables as the start lays them -/
noncomputable def laidWorld (os : Os) : World :=
  let w := World.holding Tryd.prog os ⟨#[], #[], []⟩
  { w with heap := ((w.heap.modify 1 (layInts .u64 Lib.pow10Tab)).modify 2 (layInts .u8 [0, 1, 28, 2, 29, 14, 24, 3, 30, 22, 20, 15, 25, 17, 4, 8, 31, 27, 13, 23, 21, 19, 16, 7, 26, 12, 18, 6, 11, 5, 10, 9])).modify 3 (layInts .u8 [0, 1, 56, 2, 57, 49, 28, 3, 61, 58, 42, 50, 38, 29, 17, 4, 62, 47, 59, 36, 45, 43, 51, 22, 53, 39, 33, 30, 24, 18, 12, 5, 63, 55, 48, 27, 60, 41, 37, 16, 46, 35, 44, 21, 52, 32, 23, 11, 54, 26, 40, 15, 34, 20, 31, 10, 25, 14, 19, 9, 13, 8, 7, 6]) }
end Go.Proofs.YtpccpepdkjdbnaaDoor.Vc
