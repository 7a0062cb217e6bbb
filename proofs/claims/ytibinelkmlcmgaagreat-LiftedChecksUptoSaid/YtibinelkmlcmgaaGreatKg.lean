/-
  Texts on the way to the statement, one behind the other, without what it does not reach.
-/
import Derived.Test.YtibinelkmlcmgaaGreatKf
import Derived.Test.YtibinelkmlcmgaaGreatRows
import Derived.KernelRfl
set_option linter.unusedSimpArgs false
set_option linter.unusedVariables false
set_option maxRecDepth 100000
/-
  THE FORMULAS of the program's functions, as the executor gives them; each is checked by the kernel. Printed by a program of our own.
-/
namespace Go.Proofs.YtibinelkmlcmgaaGreat.Vc
open Go
/-- what a function's formula tells of it -/
def TriOf (P : Program) (f : FuncId) (fn : Func) (fm : Fm VE) : Prop := ∀ (E : List Value) {args : Array Value} {H : PH} {R : Ending → PH → Prop}, tagsOk ((paramRS P fn).flatMap RS.tags) E = true → args.toList = packAll (paramRS P fn) E →
  den P (fun c H' => R (.panicked c) H') fm E H [] (fun ve E' H' _ => R (.returned (evV E' (fun _ => 0) ve)) H') → Tri P f args H R
theorem triOf {P : Program} {f : FuncId} {fn : Func} {fm : Fm VE} {op : Opt} (hf : P.funcs[f]? = some fn) (he : execF P op fn = fm) : TriOf P f fn fm :=
  fun E _ _ _ hE ha hd => execF_tri (op := op) hf hE ha (by rw [he]; exact hd)
/-- the same of a closure: its captures stand behind its parameters -/
def TriOfC (P : Program) (f : FuncId) (rsl : List RS) (fm : Fm VE) : Prop := ∀ (E : List Value) {args : Array Value} {H : PH} {R : Ending → PH → Prop}, tagsOk (rsl.flatMap RS.tags) E = true → args.toList = packAll rsl E →
  den P (fun c H' => R (.panicked c) H') fm E H [] (fun ve E' H' _ => R (.returned (evV E' (fun _ => 0) ve)) H') → Tri P f args H R
theorem triOfC {P : Program} {f : FuncId} {fn : Func} {rsl : List RS} {fm : Fm VE} {op : Opt} (hf : P.funcs[f]? = some fn) (he : execFC P op fn rsl = fm) : TriOfC P f rsl fm :=
  fun E _ _ _ hE ha hd => execFC_tri (op := op) hf hE ha (by rw [he]; exact hd)

/-- scrimshaw/scrimshawlaw14.LiftedChecks -/
abbrev n_scrimshawlaw14_LiftedChecks : FuncId := 3
def fm_scrimshawlaw14_LiftedChecks : Fm VE :=
 (.call (.fn 4) [(.ag [(.atom 0), (.atom 1), (.atom 2), (.atom 3), (.atom 4), (.atom 5), (.atom 6), (.atom 7), (.atom 8)])] (.tu [(true, [.int .i64, .str, .sl, .int .i64, .int .i64, .str, .sl, .sl]), (false, [.int .i64])]) []
 (.call (.fn 5) [(.ag [(.atom 0), (.atom 1), (.atom 2), (.atom 3), (.atom 4), (.atom 5), (.atom 6), (.atom 7), (.atom 8)])] (.tu [(true, [.int .i64, .str, .sl, .int .i64, .int .i64, .str, .sl, .sl]), (false, [.int .i64])]) []
 (.join 3 [.bool]
  (.leaf (.sc (.atom 27)))
  (.call (.fn 6) [] (.sc (.bool)) []
  (.ite (.atom 27)
   (.call (.fn 7) [(.ag [(.atom 0), (.atom 1), (.atom 2), (.atom 3), (.atom 4), (.atom 5), (.atom 6), (.atom 7), (.atom 8)])] (.sc (.int .i64)) []
   (.call (.fn 8) [(.ag [(.atom 0), (.atom 1), (.atom 2), (.atom 3), (.atom 4), (.atom 5), (.atom 6), (.atom 7), (.atom 8)])] (.sc (.int .i64)) []
   (.ite (.pick (.cmp .eql (.atom 28) (.atom 29)) (.cmp .eql (.atom 17) (.atom 26)) (.bool false))
    (.call (.fn 9) [(.ag [(.atom 9), (.atom 10), (.atom 11), (.atom 12), (.atom 13), (.atom 14), (.atom 15), (.atom 16)]), (.ag [(.atom 18), (.atom 19), (.atom 20), (.atom 21), (.atom 22), (.atom 23), (.atom 24), (.atom 25)])] (.sc (.bool)) []
    (.next 3 [(.atom 30)]))
    (.next 3 [(.bool false)]))))
   (.next 3 [(.bool false)]))))))
theorem fm_scrimshawlaw14_LiftedChecks_eq : execF Tryz.prog { pub := [], nojoin := false } Tryz.f3 = fm_scrimshawlaw14_LiftedChecks := by kernel_rfl
theorem tri_scrimshawlaw14_LiftedChecks : TriOf Tryz.prog 3 Tryz.f3 fm_scrimshawlaw14_LiftedChecks := triOf Tryz.func3 fm_scrimshawlaw14_LiftedChecks_eq

/-- scrimshaw/lift.Lower -/
abbrev n_lift_Lower : FuncId := 4
def fm_lift_Lower : Fm VE :=
 (.call (.fn 7) [(.ag [(.atom 0), (.atom 1), (.atom 2), (.atom 3), (.atom 4), (.atom 5), (.atom 6), (.atom 7), (.atom 8)])] (.sc (.int .i64)) []
 (.ite (.cmp .neq (.atom 9) (.int .i64 0))
  (.leaf (.tu [(true, [(.int .i64 0), (.str []), (.nil 1), (.int .i64 0), (.int .i64 0), (.str []), (.nil 1), (.nil 1)]), (false, [(.atom 9)])]))
  (.call (.fn 11) [(.ag [(.atom 0), (.atom 1), (.atom 2), (.atom 3), (.atom 4), (.atom 5), (.atom 6), (.atom 7), (.atom 8)]), (.ag [(.atom 1), (.atom 2), (.atom 3), (.atom 4), (.atom 5), (.atom 6), (.atom 7), (.atom 8)])] (.ag [.int .i64, .str, .sl, .int .i64, .int .i64, .str, .sl, .sl]) []
  (.call (.fn 10) [(.ag [(.atom 10), (.atom 11), (.atom 12), (.atom 13), (.atom 14), (.atom 15), (.atom 16), (.atom 17)])] (.tu [(true, [.int .i64, .str, .sl, .int .i64, .int .i64, .str, .sl, .sl]), (false, [.int .i64])]) []
  (.leaf (.tu [(true, [(.atom 18), (.atom 19), (.atom 20), (.atom 21), (.atom 22), (.atom 23), (.atom 24), (.atom 25)]), (false, [(.atom 26)])]))))))
theorem fm_lift_Lower_eq : execF Tryz.prog { pub := [], nojoin := false } Tryz.f4 = fm_lift_Lower := by kernel_rfl
theorem cb_lift_Lower : callB Tryz.prog 4 = true := by kernel_rfl
theorem tri_lift_Lower : TriOf Tryz.prog 4 Tryz.f4 fm_lift_Lower := triOf Tryz.func4 fm_lift_Lower_eq

/-- scrimshaw/scrimshawref14.Lower -/
abbrev n_scrimshawref14_Lower : FuncId := 5
def fm_scrimshawref14_Lower : Fm VE :=
 (.call (.fn 8) [(.ag [(.atom 0), (.atom 1), (.atom 2), (.atom 3), (.atom 4), (.atom 5), (.atom 6), (.atom 7), (.atom 8)])] (.sc (.int .i64)) []
 (.ite (.cmp .neq (.atom 9) (.int .i64 0))
  (.leaf (.tu [(true, [(.int .i64 0), (.str []), (.nil 1), (.int .i64 0), (.int .i64 0), (.str []), (.nil 1), (.nil 1)]), (false, [(.atom 9)])]))
  (.call (.fn 12) [(.ag [(.atom 1), (.atom 2), (.atom 3), (.atom 4), (.atom 5), (.atom 6), (.atom 7), (.atom 8)]), (.ag [(.atom 0), (.atom 1), (.atom 2), (.atom 3), (.atom 4), (.atom 5), (.atom 6), (.atom 7), (.atom 8)])] (.ag [.int .i64, .str, .sl, .int .i64, .int .i64, .str, .sl, .sl]) []
  (.leaf (.tu [(true, [(.atom 10), (.atom 11), (.atom 12), (.atom 13), (.atom 14), (.atom 15), (.atom 16), (.atom 17)]), (false, [(.int .i64 0)])])))))
theorem fm_scrimshawref14_Lower_eq : execF Tryz.prog { pub := [], nojoin := false } Tryz.f5 = fm_scrimshawref14_Lower := by kernel_rfl
theorem cb_scrimshawref14_Lower : callB Tryz.prog 5 = true := by kernel_rfl
theorem tri_scrimshawref14_Lower : TriOf Tryz.prog 5 Tryz.f5 fm_scrimshawref14_Lower := triOf Tryz.func5 fm_scrimshawref14_Lower_eq

/-- scrimshaw/scrimshawlaw14.fixed -/
abbrev n_scrimshawlaw14_fixed : FuncId := 6
def fm_scrimshawlaw14_fixed : Fm VE :=
 (.call (.fn 13) [(.sc (.str [120]))] (.ag [.int .i64, .str, .sl, .int .i64, .int .i64, .str, .sl, .sl]) []
 (.call (.fn 13) [(.sc (.str [121]))] (.ag [.int .i64, .str, .sl, .int .i64, .int .i64, .str, .sl, .sl]) []
 (.sem (.buildSlice 27 2 #[(0, (.tmp 10)), (1, (.tmp 12))]) 27 [(10, (.ag [(.atom 0), (.atom 1), (.atom 2), (.atom 3), (.atom 4), (.atom 5), (.atom 6), (.atom 7)])), (12, (.ag [(.atom 8), (.atom 9), (.atom 10), (.atom 11), (.atom 12), (.atom 13), (.atom 14), (.atom 15)]))] (.sc (.sl)) []
 (.sem (.buildSlice 23 1 #[(0, (.const (.string ⟨#[121]⟩)))]) 23 [] (.sc (.sl)) []
 (.sem (.buildSlice 27 1 #[(0, (.tmp 16))]) 27 [(16, (.ag [(.int .i64 7), (.str [43]), (.nil 1), (.int .i64 0), (.int .i64 0), (.str []), (.nil 1), (.atom 16)]))] (.sc (.sl)) []
 (.sem (.buildSlice 27 1 #[(0, (.tmp 18))]) 27 [(18, (.ag [(.int .i64 5), (.str []), (.nil 1), (.int .i64 0), (.int .i64 0), (.str []), (.nil 1), (.atom 18)]))] (.sc (.sl)) []
 (.sem (.buildSlice 23 1 #[(0, (.const (.string ⟨#[120]⟩)))]) 23 [] (.sc (.sl)) []
 (.sem (.buildSlice 27 2 #[(0, (.tmp 23)), (1, (.tmp 24))]) 27 [(23, (.ag [(.int .i64 0), (.str []), (.nil 1), (.int .i64 1), (.int .i64 1), (.str []), (.nil 1), (.nil 1)])), (24, (.ag [(.int .i64 5), (.str []), (.atom 17), (.int .i64 0), (.int .i64 0), (.str []), (.nil 1), (.atom 19)]))] (.sc (.sl)) []
 (.call (.fn 14) [(.ag [(.int .i64 8), (.str []), (.atom 20), (.int .i64 0), (.int .i64 0), (.str []), (.nil 1), (.atom 21)])] (.tu [(true, [.sl, .int .i64, .str, .sl, .int .i64, .int .i64, .str, .sl, .sl]), (false, [.int .i64])]) []
 (.call (.fn 14) [(.ag [(.int .i64 7), (.str [43]), (.nil 1), (.int .i64 0), (.int .i64 0), (.str []), (.nil 1), (.atom 16)])] (.tu [(true, [.sl, .int .i64, .str, .sl, .int .i64, .int .i64, .str, .sl, .sl]), (false, [.int .i64])]) []
 (.join 7 [.bool]
  (.leaf (.sc (.atom 42)))
  (.chk [((.pick (.cmp .eql (.atom 31) (.int .i64 0)) (.cmp .eql (.len (.atom 22)) (.int .i64 2)) (.bool false)), true)] (.inSl (.atom 22) (.int .i64 1))
  (.chk [((.pick (.cmp .eql (.atom 31) (.int .i64 0)) (.cmp .eql (.len (.atom 22)) (.int .i64 2)) (.bool false)), true)] (.some (.elt (.atom 22) (.int .i64 1) 10))
  (.ite (.pick (.cmp .eql (.atom 31) (.int .i64 0)) (.cmp .eql (.len (.atom 22)) (.int .i64 2)) (.bool false))
   (.load (.padd (.elt (.atom 22) (.int .i64 1) 10) 1) [.sl]
   (.sem (.buildSlice 23 2 #[(0, (.const (.string ⟨#[120]⟩))), (1, (.const (.string ⟨#[121]⟩)))]) 23 [] (.sc (.sl)) []
   (.call (.fn 15) [(.sc (.atom 42)), (.sc (.atom 43))] (.sc (.bool)) []
   (.chk [((.atom 44), true)] (.inSl (.atom 22) (.int .i64 0))
   (.chk [((.atom 44), true)] (.some (.elt (.atom 22) (.int .i64 0) 10))
   (.ite (.atom 44)
    (.load (.padd (.elt (.atom 22) (.int .i64 0) 10) 1) [.sl]
    (.sem (.buildSlice 23 1 #[(0, (.const (.string ⟨#[120]⟩)))]) 23 [] (.sc (.sl)) []
    (.call (.fn 15) [(.sc (.atom 45)), (.sc (.atom 46))] (.sc (.bool)) []
    (.chk [((.atom 47), true)] (.inSl (.atom 30) (.int .i64 1))
    (.chk [((.atom 47), true)] (.some (.elt (.atom 30) (.int .i64 1) 8))
    (.ite (.atom 47)
     (.load (.padd (.elt (.atom 30) (.int .i64 1) 8) 0) [.int .i64]
     (.next 7 [(.pick (.cmp .eql (.atom 48) (.int .i64 11)) (.cmp .eql (.atom 41) (.int .i64 100)) (.bool false))]))
     (.next 7 [(.bool false)])))))))
    (.next 7 [(.bool false)])))))))
   (.next 7 [(.bool false)])))))))))))))))
theorem fm_scrimshawlaw14_fixed_eq : execF Tryz.prog { pub := [], nojoin := false } Tryz.f6 = fm_scrimshawlaw14_fixed := by kernel_rfl
theorem cb_scrimshawlaw14_fixed : callB Tryz.prog 6 = true := by kernel_rfl
theorem tri_scrimshawlaw14_fixed : TriOf Tryz.prog 6 Tryz.f6 fm_scrimshawlaw14_fixed := triOf Tryz.func6 fm_scrimshawlaw14_fixed_eq

/-- scrimshaw/lift.Check -/
abbrev n_lift_Check : FuncId := 7
def fm_lift_Check : Fm VE :=
 (.sem (.makeSlice 49 (.tmp 11) (.tmp 11)) 49 [(11, (.sc (.len (.atom 0)))), (11, (.sc (.len (.atom 0))))] (.sc (.sl)) []
 (.new 51 [(.atom 0), (.atom 1), (.atom 2), (.atom 3), (.atom 4), (.atom 5), (.atom 6), (.atom 7), (.atom 8), (.int .i64 0), (.bool false), (.bool false), (.atom 9)]
 (.ite (.cmp .gtr (.len (.atom 0)) (.int .i64 4096))
  (.leaf (.sc (.int .i64 101)))
  (.call (.fn 16) [(.sc (.atom 10)), (.ag [(.atom 1), (.atom 2), (.atom 3), (.atom 4), (.atom 5), (.atom 6), (.atom 7), (.atom 8)]), (.sc (.int .i64 1))] (.tu []) []
  (.loop 7 [.int .i64] [(.int .i64 0)]
   (.ite (.cmp .lss (.atom 11) (.len (.atom 0)))
    (.chk [] (.inSl (.atom 0) (.atom 11))
    (.load (.elt (.atom 0) (.atom 11) 10) [.sl, .sl, .int .i64, .str, .sl, .int .i64, .int .i64, .str, .sl, .sl]
    (.call (.fn 16) [(.sc (.atom 10)), (.ag [(.atom 14), (.atom 15), (.atom 16), (.atom 17), (.atom 18), (.atom 19), (.atom 20), (.atom 21)]), (.sc (.int .i64 1))] (.tu []) []
    (.next 7 [(.ar .add .i64 (.atom 11) (.int .i64 1))]))))
    (.join 11 [.bool]
     (.ite (.atom 12)
      (.leaf (.sc (.int .i64 101)))
      (.call (.fn 17) [(.sc (.atom 10)), (.ag [(.atom 1), (.atom 2), (.atom 3), (.atom 4), (.atom 5), (.atom 6), (.atom 7), (.atom 8)]), (.sc (.int .i64 (-1)))] (.tu []) []
      (.loop 15 [.int .i64] [(.int .i64 0)]
       (.ite (.cmp .lss (.atom 13) (.len (.atom 0)))
        (.join 18 []
         (.next 15 [(.ar .add .i64 (.atom 13) (.int .i64 1))])
         (.chk [] (.inSl (.atom 0) (.atom 13))
         (.load (.elt (.atom 0) (.atom 13) 10) [.sl, .sl, .int .i64, .str, .sl, .int .i64, .int .i64, .str, .sl, .sl]
         (.call (.fn 17) [(.sc (.atom 10)), (.ag [(.atom 16), (.atom 17), (.atom 18), (.atom 19), (.atom 20), (.atom 21), (.atom 22), (.atom 23)]), (.sc (.atom 13))] (.tu []) []
         (.chk [] (.some (.atom 10))
         (.load (.padd (.atom 10) 11) [.bool]
         (.ite (.atom 24)
          (.store (.padd (.atom 10) 11) [(.bool true)]
          (.next 18 []))
          (.call (.fn 18) [(.ag [(.atom 14), (.atom 15), (.atom 16), (.atom 17), (.atom 18), (.atom 19), (.atom 20), (.atom 21), (.atom 22), (.atom 23)]), (.ag [(.atom 0), (.atom 1), (.atom 2), (.atom 3), (.atom 4), (.atom 5), (.atom 6), (.atom 7), (.atom 8)])] (.sc (.bool)) []
          (.store (.padd (.atom 10) 11) [(.not (.atom 25))]
          (.next 18 []))))))))))
        (.join 19 [.bool]
         (.ite (.atom 14)
          (.leaf (.sc (.int .i64 100)))
          (.leaf (.sc (.int .i64 0))))
         (.chk [] (.some (.atom 10))
         (.load (.padd (.atom 10) 11) [.bool]
         (.ite (.atom 14)
          (.next 19 [(.bool true)])
          (.load (.padd (.atom 10) 12) [.sl]
          (.call (.fn 19) [(.sc (.atom 15)), (.sc (.fn 20))] (.sc (.bool)) []
          (.ite (.atom 16)
           (.next 19 [(.bool true)])
           (.call (.fn 22) [(.ag [(.atom 1), (.atom 2), (.atom 3), (.atom 4), (.atom 5), (.atom 6), (.atom 7), (.atom 8)])] (.ag [.int .i64, .str, .sl, .int .i64, .int .i64, .str, .sl, .sl]) []
           (.call (.fn 21) [(.ag [(.atom 17), (.atom 18), (.atom 19), (.atom 20), (.atom 21), (.atom 22), (.atom 23), (.atom 24)])] (.sc (.sl)) []
           (.ite (.cmp .gtr (.len (.atom 25)) (.int .i64 0))
            (.next 19 [(.bool true)])
            (.call (.fn 11) [(.ag [(.atom 0), (.atom 1), (.atom 2), (.atom 3), (.atom 4), (.atom 5), (.atom 6), (.atom 7), (.atom 8)]), (.ag [(.atom 1), (.atom 2), (.atom 3), (.atom 4), (.atom 5), (.atom 6), (.atom 7), (.atom 8)])] (.ag [.int .i64, .str, .sl, .int .i64, .int .i64, .str, .sl, .sl]) []
            (.call (.fn 23) [(.ag [(.atom 26), (.atom 27), (.atom 28), (.atom 29), (.atom 30), (.atom 31), (.atom 32), (.atom 33)])] (.sc (.int .i64)) []
            (.next 19 [(.cmp .neq (.atom 34) (.int .i64 0))])))))))))))))))))
     (.chk [] (.some (.atom 10))
     (.load (.padd (.atom 10) 10) [.bool]
     (.ite (.atom 12)
      (.next 11 [(.bool true)])
      (.load (.padd (.atom 10) 9) [.int .i64]
      (.next 11 [(.cmp .gtr (.atom 13) (.int .i64 4096))]))))))))))))
theorem fm_lift_Check_eq : execF Tryz.prog { pub := [14], nojoin := false } Tryz.f7 = fm_lift_Check := by kernel_rfl
theorem cb_lift_Check : callB Tryz.prog 7 = true := by kernel_rfl
theorem tri_lift_Check : TriOf Tryz.prog 7 Tryz.f7 fm_lift_Check := triOf Tryz.func7 fm_lift_Check_eq

/-- scrimshaw/scrimshawref14.Check -/
abbrev n_scrimshawref14_Check : FuncId := 8
def fm_scrimshawref14_Check : Fm VE :=
 (.ite (.cmp .gtr (.len (.atom 0)) (.int .i64 4096))
  (.leaf (.sc (.int .i64 101)))
  (.call (.fn 24) [(.ag [(.atom 1), (.atom 2), (.atom 3), (.atom 4), (.atom 5), (.atom 6), (.atom 7), (.atom 8)]), (.sc (.int .i64 1)), (.sc (.int .i64 4096))] (.tu [(false, [.int .i64]), (false, [.bool])]) []
  (.loop 6 [.int .i64, .bool, .int .i64] [(.atom 9), (.atom 10), (.int .i64 0)]
   (.ite (.pick (.cmp .lss (.atom 13) (.len (.atom 0))) (.atom 12) (.bool false))
    (.chk [] (.inSl (.atom 0) (.atom 13))
    (.load (.padd (.elt (.atom 0) (.atom 13) 10) 2) [.int .i64, .str, .sl, .int .i64, .int .i64, .str, .sl, .sl]
    (.call (.fn 24) [(.ag [(.atom 14), (.atom 15), (.atom 16), (.atom 17), (.atom 18), (.atom 19), (.atom 20), (.atom 21)]), (.sc (.int .i64 1)), (.sc (.atom 11))] (.tu [(false, [.int .i64]), (false, [.bool])]) []
    (.next 6 [(.atom 22), (.atom 23), (.ar .add .i64 (.atom 13) (.int .i64 1))]))))
    (.ite (.not (.atom 12))
     (.leaf (.sc (.int .i64 101)))
     (.sem (.makeSlice 49 (.tmp 46) (.tmp 46)) 49 [(46, (.sc (.len (.atom 0)))), (46, (.sc (.len (.atom 0))))] (.sc (.sl)) []
     (.loop 14 [.int .i64, .int .i64] [(.int .i64 0), (.int .i64 (-1))]
      (.ite (.cmp .lss (.atom 16) (.len (.atom 0)))
       (.sem (.buildSlice 49 0 #[]) 49 [] (.sc (.sl)) []
       (.join 19 [.sl]
        (.loop 21 [.int .i64, .int .i64] [(.atom 15), (.int .i64 0)]
         (.ite (.cmp .lss (.atom 20) (.len (.atom 18)))
          (.join 26 [.bool]
           (.ite (.atom 21)
            (.leaf (.sc (.int .i64 100)))
            (.chk [] (.inSl (.atom 18) (.atom 20))
            (.load (.elt (.atom 18) (.atom 20) 1) [.int .i64]
            (.chk [] (.inSl (.atom 14) (.atom 22))
            (.load (.elt (.atom 14) (.atom 22) 1) [.int .i64]
            (.store (.elt (.atom 14) (.atom 22) 1) [(.ar .add .i64 (.atom 23) (.int .i64 1))]
            (.next 21 [(.atom 19), (.ar .add .i64 (.atom 20) (.int .i64 1))])))))))
           (.chk [] (.inSl (.atom 18) (.atom 20))
           (.load (.elt (.atom 18) (.atom 20) 1) [.int .i64]
           (.ite (.cmp .leq (.atom 21) (.atom 16))
            (.next 26 [(.bool true)])
            (.load (.elt (.atom 18) (.atom 20) 1) [.int .i64]
            (.next 26 [(.cmp .lss (.atom 22) (.int .i64 0))]))))))
          (.next 14 [(.atom 19), (.ar .add .i64 (.atom 16) (.int .i64 1))])))
        (.ite (.cmp .lss (.atom 16) (.int .i64 0))
         (.call (.fn 25) [(.ag [(.atom 1), (.atom 2), (.atom 3), (.atom 4), (.atom 5), (.atom 6), (.atom 7), (.atom 8)]), (.ag [(.atom 0), (.atom 1), (.atom 2), (.atom 3), (.atom 4), (.atom 5), (.atom 6), (.atom 7), (.atom 8)]), (.sc (.nil 1))] (.sc (.sl)) []
         (.next 19 [(.atom 18)]))
         (.chk [] (.inSl (.atom 0) (.atom 16))
         (.load (.padd (.elt (.atom 0) (.atom 16) 10) 2) [.int .i64, .str, .sl, .int .i64, .int .i64, .str, .sl, .sl]
         (.call (.fn 25) [(.ag [(.atom 18), (.atom 19), (.atom 20), (.atom 21), (.atom 22), (.atom 23), (.atom 24), (.atom 25)]), (.ag [(.atom 0), (.atom 1), (.atom 2), (.atom 3), (.atom 4), (.atom 5), (.atom 6), (.atom 7), (.atom 8)]), (.sc (.nil 1))] (.sc (.sl)) []
         (.load (.elt (.atom 0) (.atom 16) 10) [.sl, .sl, .int .i64, .str, .sl, .int .i64, .int .i64, .str, .sl, .sl]
         (.call (.fn 26) [(.ag [(.atom 27), (.atom 28), (.atom 29), (.atom 30), (.atom 31), (.atom 32), (.atom 33), (.atom 34), (.atom 35), (.atom 36)])] (.sc (.bool)) []
         (.ite (.not (.atom 37))
          (.leaf (.sc (.int .i64 100)))
          (.next 19 [(.atom 26)]))))))))))
       (.loop 19 [.int .i64, .int .i64] [(.atom 15), (.int .i64 0)]
        (.ite (.cmp .lss (.atom 18) (.len (.atom 14)))
         (.chk [] (.inSl (.atom 14) (.atom 18))
         (.load (.elt (.atom 14) (.atom 18) 1) [.int .i64]
         (.ite (.cmp .neq (.atom 19) (.int .i64 1))
          (.leaf (.sc (.int .i64 100)))
          (.next 19 [(.atom 17), (.ar .add .i64 (.atom 18) (.int .i64 1))]))))
         (.join 23 [.bool]
          (.ite (.atom 19)
           (.leaf (.sc (.int .i64 100)))
           (.leaf (.sc (.int .i64 0))))
          (.call (.fn 27) [(.ag [(.atom 1), (.atom 2), (.atom 3), (.atom 4), (.atom 5), (.atom 6), (.atom 7), (.atom 8)]), (.sc (.nil 1)), (.sc (.nil 1))] (.sc (.sl)) []
          (.ite (.cmp .gtr (.len (.atom 19)) (.int .i64 0))
           (.next 23 [(.bool true)])
           (.call (.fn 12) [(.ag [(.atom 1), (.atom 2), (.atom 3), (.atom 4), (.atom 5), (.atom 6), (.atom 7), (.atom 8)]), (.ag [(.atom 0), (.atom 1), (.atom 2), (.atom 3), (.atom 4), (.atom 5), (.atom 6), (.atom 7), (.atom 8)])] (.ag [.int .i64, .str, .sl, .int .i64, .int .i64, .str, .sl, .sl]) []
           (.call (.fn 28) [(.ag [(.atom 20), (.atom 21), (.atom 22), (.atom 23), (.atom 24), (.atom 25), (.atom 26), (.atom 27)])] (.sc (.int .i64)) []
           (.next 23 [(.cmp .neq (.atom 28) (.int .i64 0))]))))))))))))))))
theorem fm_scrimshawref14_Check_eq : execF Tryz.prog { pub := [], nojoin := false } Tryz.f8 = fm_scrimshawref14_Check := by kernel_rfl
theorem cb_scrimshawref14_Check : callB Tryz.prog 8 = true := by kernel_rfl
theorem tri_scrimshawref14_Check : TriOf Tryz.prog 8 Tryz.f8 fm_scrimshawref14_Check := triOf Tryz.func8 fm_scrimshawref14_Check_eq

/-- scrimshaw/scrimshawref06.Same -/
abbrev n_scrimshawref06_Same : FuncId := 9
def fm_scrimshawref06_Same : Fm VE :=
 (.join 2 [.bool]
  (.ite (.atom 16)
   (.leaf (.sc (.bool false)))
   (.loop 5 [.bool, .int .i64] [(.bool false), (.int .i64 0)]
    (.ite (.cmp .lss (.atom 18) (.len (.atom 7)))
     (.chk [] (.inSl (.atom 7) (.atom 18))
     (.load (.elt (.atom 7) (.atom 18) 8) [.int .i64, .str, .sl, .int .i64, .int .i64, .str, .sl, .sl]
     (.chk [] (.inSl (.atom 15) (.atom 18))
     (.load (.elt (.atom 15) (.atom 18) 8) [.int .i64, .str, .sl, .int .i64, .int .i64, .str, .sl, .sl]
     (.call (.fn 9) [(.ag [(.atom 19), (.atom 20), (.atom 21), (.atom 22), (.atom 23), (.atom 24), (.atom 25), (.atom 26)]), (.ag [(.atom 27), (.atom 28), (.atom 29), (.atom 30), (.atom 31), (.atom 32), (.atom 33), (.atom 34)])] (.sc (.bool)) []
     (.ite (.not (.atom 35))
      (.leaf (.sc (.bool false)))
      (.next 5 [(.atom 17), (.ar .add .i64 (.atom 18) (.int .i64 1))])))))))
     (.leaf (.sc (.bool true))))))
  (.ite (.pick (.cmp .neq (.atom 0) (.atom 8)) (.bool true) (.scmp .neq (.atom 1) (.atom 9)))
   (.next 2 [(.bool true)])
   (.call (.fn 15) [(.sc (.atom 2)), (.sc (.atom 10))] (.sc (.bool)) []
   (.ite (.not (.atom 16))
    (.next 2 [(.bool true)])
    (.call (.fn 29) [(.ag [(.atom 3), (.atom 4), (.atom 5), (.atom 6)]), (.ag [(.atom 11), (.atom 12), (.atom 13), (.atom 14)])] (.sc (.bool)) []
    (.next 2 [(.pick (.not (.atom 17)) (.bool true) (.cmp .neq (.len (.atom 7)) (.len (.atom 15))))]))))))
theorem fm_scrimshawref06_Same_eq : execF Tryz.prog { pub := [], nojoin := false } Tryz.f9 = fm_scrimshawref06_Same := by kernel_rfl
theorem cb_scrimshawref06_Same : callB Tryz.prog 9 = true := by kernel_rfl
theorem tri_scrimshawref06_Same : TriOf Tryz.prog 9 Tryz.f9 fm_scrimshawref06_Same := triOf Tryz.func9 fm_scrimshawref06_Same_eq

/-- scrimshaw/pass.Told -/
abbrev n_pass_Told : FuncId := 10
def fm_pass_Told : Fm VE :=
 (.call (.fn 23) [(.ag [(.atom 0), (.atom 1), (.atom 2), (.atom 3), (.atom 4), (.atom 5), (.atom 6), (.atom 7)])] (.sc (.int .i64)) []
 (.ite (.cmp .neq (.atom 8) (.int .i64 0))
  (.leaf (.tu [(true, [(.int .i64 0), (.str []), (.nil 1), (.int .i64 0), (.int .i64 0), (.str []), (.nil 1), (.nil 1)]), (false, [(.int .i64 101)])]))
  (.call (.fn 30) [(.ag [(.atom 0), (.atom 1), (.atom 2), (.atom 3), (.atom 4), (.atom 5), (.atom 6), (.atom 7)])] (.ag [.int .i64, .str, .sl, .int .i64, .int .i64, .str, .sl, .sl]) []
  (.leaf (.tu [(true, [(.atom 9), (.atom 10), (.atom 11), (.atom 12), (.atom 13), (.atom 14), (.atom 15), (.atom 16)]), (false, [(.int .i64 0)])])))))
theorem fm_pass_Told_eq : execF Tryz.prog { pub := [], nojoin := false } Tryz.f10 = fm_pass_Told := by kernel_rfl
theorem cb_pass_Told : callB Tryz.prog 10 = true := by kernel_rfl
theorem tri_pass_Told : TriOf Tryz.prog 10 Tryz.f10 fm_pass_Told := triOf Tryz.func10 fm_pass_Told_eq

/-- scrimshaw/lift.lower -/
abbrev n_lift_lower : FuncId := 11
def fm_lift_lower : Fm VE :=
 (.new 31 [(.atom 0), (.atom 1), (.atom 2), (.atom 3), (.atom 4), (.atom 5), (.atom 6), (.atom 7), (.atom 8)]
 (.ite (.cmp .neq (.atom 9) (.int .i64 11))
  (.sem (.makeFunc (.func 32) #[] #[(.tmp 2)]) 57 [(2, (.sc (.atom 17)))] (.sc (.any)) []
  (.call (.fn 31) [(.ag [(.atom 9), (.atom 10), (.atom 11), (.atom 12), (.atom 13), (.atom 14), (.atom 15), (.atom 16)]), (.sc (.atom 18))] (.ag [.int .i64, .str, .sl, .int .i64, .int .i64, .str, .sl, .sl]) []
  (.leaf (.ag [(.atom 19), (.atom 20), (.atom 21), (.atom 22), (.atom 23), (.atom 24), (.atom 25), (.atom 26)]))))
  (.chk [] (.some (.atom 17))
  (.load (.padd (.atom 17) 0) [.sl]
  (.chk [] (.inSl (.atom 18) (.atom 13))
  (.load (.elt (.atom 18) (.atom 13) 10) [.sl, .sl, .int .i64, .str, .sl, .int .i64, .int .i64, .str, .sl, .sl]
  (.load (.atom 17) [.sl, .int .i64, .str, .sl, .int .i64, .int .i64, .str, .sl, .sl]
  (.call (.fn 11) [(.ag [(.atom 29), (.atom 30), (.atom 31), (.atom 32), (.atom 33), (.atom 34), (.atom 35), (.atom 36), (.atom 37)]), (.ag [(.atom 21), (.atom 22), (.atom 23), (.atom 24), (.atom 25), (.atom 26), (.atom 27), (.atom 28)])] (.ag [.int .i64, .str, .sl, .int .i64, .int .i64, .str, .sl, .sl]) []
  (.sem (.buildSlice 27 1 #[(0, (.tmp 24))]) 27 [(24, (.ag [(.atom 38), (.atom 39), (.atom 40), (.atom 41), (.atom 42), (.atom 43), (.atom 44), (.atom 45)]))] (.sc (.sl)) []
  (.leaf (.ag [(.int .i64 5), (.str []), (.atom 19), (.int .i64 0), (.int .i64 0), (.str []), (.nil 1), (.atom 46)])))))))))))
theorem fm_lift_lower_eq : execF Tryz.prog { pub := [2], nojoin := false } Tryz.f11 = fm_lift_lower := by kernel_rfl
theorem cb_lift_lower : callB Tryz.prog 11 = true := by kernel_rfl
theorem tri_lift_lower : TriOf Tryz.prog 11 Tryz.f11 fm_lift_lower := triOf Tryz.func11 fm_lift_lower_eq

/-- scrimshaw/scrimshawref14.lower -/
abbrev n_scrimshawref14_lower : FuncId := 12
def fm_scrimshawref14_lower : Fm VE :=
 (.ite (.cmp .eql (.atom 0) (.int .i64 11))
  (.chk [] (.inSl (.atom 8) (.atom 4))
  (.load (.elt (.atom 8) (.atom 4) 10) [.sl, .sl, .int .i64, .str, .sl, .int .i64, .int .i64, .str, .sl, .sl]
  (.call (.fn 12) [(.ag [(.atom 19), (.atom 20), (.atom 21), (.atom 22), (.atom 23), (.atom 24), (.atom 25), (.atom 26)]), (.ag [(.atom 8), (.atom 9), (.atom 10), (.atom 11), (.atom 12), (.atom 13), (.atom 14), (.atom 15), (.atom 16)])] (.ag [.int .i64, .str, .sl, .int .i64, .int .i64, .str, .sl, .sl]) []
  (.sem (.buildSlice 27 1 #[(0, (.tmp 23))]) 27 [(23, (.ag [(.atom 27), (.atom 28), (.atom 29), (.atom 30), (.atom 31), (.atom 32), (.atom 33), (.atom 34)]))] (.sc (.sl)) []
  (.leaf (.ag [(.int .i64 5), (.str []), (.atom 17), (.int .i64 0), (.int .i64 0), (.str []), (.nil 1), (.atom 35)]))))))
  (.loop 6 [.int .i64, .int .i64, .str, .sl, .int .i64, .int .i64, .str, .sl, .sl] [(.int .i64 0), (.atom 0), (.atom 1), (.atom 2), (.atom 3), (.atom 4), (.atom 5), (.atom 6), (.nil 1)]
   (.ite (.cmp .lss (.atom 17) (.len (.atom 7)))
    (.chk [] (.inSl (.atom 7) (.atom 17))
    (.load (.elt (.atom 7) (.atom 17) 8) [.int .i64, .str, .sl, .int .i64, .int .i64, .str, .sl, .sl]
    (.call (.fn 12) [(.ag [(.atom 26), (.atom 27), (.atom 28), (.atom 29), (.atom 30), (.atom 31), (.atom 32), (.atom 33)]), (.ag [(.atom 8), (.atom 9), (.atom 10), (.atom 11), (.atom 12), (.atom 13), (.atom 14), (.atom 15), (.atom 16)])] (.ag [.int .i64, .str, .sl, .int .i64, .int .i64, .str, .sl, .sl]) []
    (.sem (.buildSlice 27 1 #[(0, (.tmp 50))]) 27 [(50, (.ag [(.atom 34), (.atom 35), (.atom 36), (.atom 37), (.atom 38), (.atom 39), (.atom 40), (.atom 41)]))] (.sc (.sl)) []
    (.sem (.call ⟨.builtin .append, #[(.tmp 43), (.tmp 51)], #[27, 27]⟩) 27 [(43, (.sc (.atom 25))), (51, (.sc (.atom 42)))] (.sc (.sl)) []
    (.next 6 [(.ar .add .i64 (.atom 17) (.int .i64 1)), (.atom 18), (.atom 19), (.atom 20), (.atom 21), (.atom 22), (.atom 23), (.atom 24), (.atom 43)]))))))
    (.leaf (.ag [(.atom 18), (.atom 19), (.atom 20), (.atom 21), (.atom 22), (.atom 23), (.atom 24), (.atom 25)])))))
theorem fm_scrimshawref14_lower_eq : execF Tryz.prog { pub := [], nojoin := false } Tryz.f12 = fm_scrimshawref14_lower := by kernel_rfl
theorem cb_scrimshawref14_lower : callB Tryz.prog 12 = true := by kernel_rfl
theorem tri_scrimshawref14_lower : TriOf Tryz.prog 12 Tryz.f12 fm_scrimshawref14_lower := triOf Tryz.func12 fm_scrimshawref14_lower_eq

/-- scrimshaw/scrimshawlaw14.fixed$1 -/
abbrev n_scrimshawlaw14_fixed_1 : FuncId := 13
def fm_scrimshawlaw14_fixed_1 : Fm VE :=
 (.leaf (.ag [(.int .i64 1), (.atom 0), (.nil 1), (.int .i64 0), (.int .i64 0), (.str []), (.nil 1), (.nil 1)]))
theorem fm_scrimshawlaw14_fixed_1_eq : execF Tryz.prog { pub := [], nojoin := false } Tryz.f13 = fm_scrimshawlaw14_fixed_1 := by kernel_rfl
theorem cb_scrimshawlaw14_fixed_1 : callB Tryz.prog 13 = true := by kernel_rfl
theorem tri_scrimshawlaw14_fixed_1 : TriOf Tryz.prog 13 Tryz.f13 fm_scrimshawlaw14_fixed_1 := triOf Tryz.func13 fm_scrimshawlaw14_fixed_1_eq

/-- scrimshaw/lift.Lift -/
abbrev n_lift_Lift : FuncId := 14
def fm_lift_Lift : Fm VE :=
 (.join 2 [.bool]
  (.ite (.atom 8)
   (.leaf (.tu [(true, [(.nil 1), (.int .i64 0), (.str []), (.nil 1), (.int .i64 0), (.int .i64 0), (.str []), (.nil 1), (.nil 1)]), (false, [(.int .i64 100)])]))
   (.call (.fn 10) [(.ag [(.atom 0), (.atom 1), (.atom 2), (.atom 3), (.atom 4), (.atom 5), (.atom 6), (.atom 7)])] (.tu [(true, [.int .i64, .str, .sl, .int .i64, .int .i64, .str, .sl, .sl]), (false, [.int .i64])]) []
   (.new 70 [(.nil 1)]
   (.call (.fn 35) [(.sc (.atom 18)), (.ag [(.atom 9), (.atom 10), (.atom 11), (.atom 12), (.atom 13), (.atom 14), (.atom 15), (.atom 16)])] (.ag [.int .i64, .str, .sl, .int .i64, .int .i64, .str, .sl, .sl]) []
   (.chk [] (.some (.atom 18))
   (.load (.padd (.atom 18) 0) [.sl]
   (.leaf (.tu [(true, [(.atom 27), (.atom 19), (.atom 20), (.atom 21), (.atom 22), (.atom 23), (.atom 24), (.atom 25), (.atom 26)]), (false, [(.int .i64 0)])]))))))))
  (.call (.fn 23) [(.ag [(.atom 0), (.atom 1), (.atom 2), (.atom 3), (.atom 4), (.atom 5), (.atom 6), (.atom 7)])] (.sc (.int .i64)) []
  (.ite (.cmp .neq (.atom 8) (.int .i64 0))
   (.next 2 [(.bool true)])
   (.call (.fn 21) [(.ag [(.atom 0), (.atom 1), (.atom 2), (.atom 3), (.atom 4), (.atom 5), (.atom 6), (.atom 7)])] (.sc (.sl)) []
   (.ite (.cmp .gtr (.len (.atom 9)) (.int .i64 0))
    (.next 2 [(.bool true)])
    (.call (.fn 33) [(.ag [(.atom 0), (.atom 1), (.atom 2), (.atom 3), (.atom 4), (.atom 5), (.atom 6), (.atom 7)]), (.sc (.fn 34))] (.sc (.bool)) []
    (.next 2 [(.atom 10)])))))))
theorem fm_lift_Lift_eq : execF Tryz.prog { pub := [28], nojoin := false } Tryz.f14 = fm_lift_Lift := by kernel_rfl
theorem cb_lift_Lift : callB Tryz.prog 14 = true := by kernel_rfl
theorem tri_lift_Lift : TriOf Tryz.prog 14 Tryz.f14 fm_lift_Lift := triOf Tryz.func14 fm_lift_Lift_eq

/-- scrimshaw/scrimshawref06.SameTexts -/
abbrev n_scrimshawref06_SameTexts : FuncId := 15
def fm_scrimshawref06_SameTexts : Fm VE :=
 (.ite (.cmp .neq (.len (.atom 0)) (.len (.atom 1)))
  (.leaf (.sc (.bool false)))
  (.loop 5 [.bool, .int .i64] [(.bool false), (.int .i64 0)]
   (.ite (.cmp .lss (.atom 3) (.len (.atom 0)))
    (.chk [] (.inSl (.atom 0) (.atom 3))
    (.load (.elt (.atom 0) (.atom 3) 1) [.str]
    (.chk [] (.inSl (.atom 1) (.atom 3))
    (.load (.elt (.atom 1) (.atom 3) 1) [.str]
    (.ite (.scmp .neq (.atom 4) (.atom 5))
     (.leaf (.sc (.bool false)))
     (.next 5 [(.atom 2), (.ar .add .i64 (.atom 3) (.int .i64 1))]))))))
    (.leaf (.sc (.bool true))))))
theorem fm_scrimshawref06_SameTexts_eq : execF Tryz.prog { pub := [], nojoin := false } Tryz.f15 = fm_scrimshawref06_SameTexts := by kernel_rfl
theorem cb_scrimshawref06_SameTexts : callB Tryz.prog 15 = true := by kernel_rfl
theorem tri_scrimshawref06_SameTexts : TriOf Tryz.prog 15 Tryz.f15 fm_scrimshawref06_SameTexts := triOf Tryz.func15 fm_scrimshawref06_SameTexts_eq

/-- (*scrimshaw/lift.checker).count -/
abbrev n_lift_checker__count : FuncId := 16
def fm_lift_checker__count : Fm VE :=
 (.chk [] (.some (.atom 0))
 (.load (.padd (.atom 0) 9) [.int .i64]
 (.store (.padd (.atom 0) 9) [(.ar .add .i64 (.atom 10) (.int .i64 1))]
 (.load (.padd (.atom 0) 10) [.bool]
 (.store (.padd (.atom 0) 10) [(.pick (.atom 11) (.bool true) (.cmp .gtr (.atom 9) (.int .i64 250)))]
 (.join 4 [.bool]
  (.ite (.atom 12)
   (.leaf (.tu []))
   (.loop 6 [.int .i64] [(.int .i64 0)]
    (.ite (.cmp .lss (.atom 13) (.len (.atom 8)))
     (.chk [] (.inSl (.atom 8) (.atom 13))
     (.load (.elt (.atom 8) (.atom 13) 8) [.int .i64, .str, .sl, .int .i64, .int .i64, .str, .sl, .sl]
     (.call (.fn 16) [(.sc (.atom 0)), (.ag [(.atom 14), (.atom 15), (.atom 16), (.atom 17), (.atom 18), (.atom 19), (.atom 20), (.atom 21)]), (.sc (.ar .add .i64 (.atom 9) (.int .i64 1)))] (.tu []) []
     (.next 6 [(.ar .add .i64 (.atom 13) (.int .i64 1))]))))
     (.leaf (.tu [])))))
  (.load (.padd (.atom 0) 10) [.bool]
  (.ite (.atom 12)
   (.next 4 [(.bool true)])
   (.load (.padd (.atom 0) 9) [.int .i64]
   (.next 4 [(.cmp .gtr (.atom 13) (.int .i64 4096))]))))))))))
theorem fm_lift_checker__count_eq : execF Tryz.prog { pub := [], nojoin := false } Tryz.f16 = fm_lift_checker__count := by kernel_rfl
theorem cb_lift_checker__count : callB Tryz.prog 16 = true := by kernel_rfl
theorem tri_lift_checker__count : TriOf Tryz.prog 16 Tryz.f16 fm_lift_checker__count := triOf Tryz.func16 fm_lift_checker__count_eq

/-- (*scrimshaw/lift.checker).body -/
abbrev n_lift_checker__body : FuncId := 17
def fm_lift_checker__body : Fm VE :=
 (.join 1 []
  (.loop 3 [.int .i64] [(.int .i64 0)]
   (.ite (.cmp .lss (.atom 10) (.len (.atom 8)))
    (.chk [] (.inSl (.atom 8) (.atom 10))
    (.load (.elt (.atom 8) (.atom 10) 8) [.int .i64, .str, .sl, .int .i64, .int .i64, .str, .sl, .sl]
    (.call (.fn 17) [(.sc (.atom 0)), (.ag [(.atom 11), (.atom 12), (.atom 13), (.atom 14), (.atom 15), (.atom 16), (.atom 17), (.atom 18)]), (.sc (.atom 9))] (.tu []) []
    (.next 3 [(.ar .add .i64 (.atom 10) (.int .i64 1))]))))
    (.leaf (.tu []))))
  (.ite (.cmp .eql (.atom 1) (.int .i64 11))
   (.call (.fn 36) [(.sc (.atom 0)), (.ag [(.atom 1), (.atom 2), (.atom 3), (.atom 4), (.atom 5), (.atom 6), (.atom 7), (.atom 8)]), (.sc (.atom 9))] (.tu []) []
   (.leaf (.tu [])))
   (.join 4 [.bool]
    (.ite (.atom 10)
     (.chk [] (.some (.atom 0))
     (.store (.padd (.atom 0) 11) [(.bool true)]
     (.next 1 [])))
     (.next 1 []))
    (.ite (.cmp .eql (.atom 1) (.int .i64 5))
     (.next 4 [(.cmp .eql (.atom 1) (.int .i64 5))])
     (.next 4 [(.pick (.cmp .eql (.atom 1) (.int .i64 9)) (.cmp .eql (.atom 1) (.int .i64 9)) (.cmp .eql (.atom 1) (.int .i64 2)))])))))
theorem fm_lift_checker__body_eq : execF Tryz.prog { pub := [], nojoin := false } Tryz.f17 = fm_lift_checker__body := by kernel_rfl
theorem cb_lift_checker__body : callB Tryz.prog 17 = true := by kernel_rfl
theorem tri_lift_checker__body : TriOf Tryz.prog 17 Tryz.f17 fm_lift_checker__body := triOf Tryz.func17 fm_lift_checker__body_eq

/-- scrimshaw/lift.within -/
abbrev n_lift_within : FuncId := 18
def fm_lift_within : Fm VE :=
 (.sem (.buildSlice 87 2 #[(0, (.tmp 10)), (1, (.tmp 12))]) 87 [(10, (.sc (.atom 0))), (12, (.sc (.atom 1)))] (.sc (.sl)) []
 (.call (.fn 37) [(.sc (.atom 19))] (.sc (.sl)) []
 (.loop 4 [.bool, .int .i64] [(.bool false), (.int .i64 0)]
  (.ite (.cmp .lss (.atom 22) (.len (.atom 20)))
   (.chk [] (.inSl (.atom 20) (.atom 22))
   (.load (.elt (.atom 20) (.atom 22) 1) [.str]
   (.join 9 [.bool]
    (.ite (.atom 24)
     (.leaf (.sc (.bool false)))
     (.next 4 [(.atom 21), (.ar .add .i64 (.atom 22) (.int .i64 1))]))
    (.call (.fn 38) [(.sc (.atom 23))] (.sc (.bool)) []
    (.chk [((.not (.atom 24)), false)] (.sub (.cap (.atom 20)) (.int .i64 0) (.atom 22))
    (.ite (.not (.atom 24))
     (.next 9 [(.bool true)])
     (.call (.fn 39) [(.sc (.sls (.atom 20) (.int .i64 0) (.atom 22) 1)), (.sc (.atom 23))] (.sc (.bool)) []
     (.next 9 [(.atom 25)]))))))))
   (.call (.fn 22) [(.ag [(.atom 2), (.atom 3), (.atom 4), (.atom 5), (.atom 6), (.atom 7), (.atom 8), (.atom 9)])] (.ag [.int .i64, .str, .sl, .int .i64, .int .i64, .str, .sl, .sl]) []
   (.sem (.buildSlice 27 1 #[(0, (.tmp 36))]) 27 [(36, (.ag [(.atom 23), (.atom 24), (.atom 25), (.atom 26), (.atom 27), (.atom 28), (.atom 29), (.atom 30)]))] (.sc (.sl)) []
   (.join 8 [.bool]
    (.leaf (.sc (.atom 32)))
    (.ite (.cmp .leq (.len (.atom 0)) (.int .i64 6))
     (.call (.fn 21) [(.ag [(.int .i64 5), (.str []), (.atom 20), (.int .i64 0), (.int .i64 0), (.str []), (.nil 1), (.atom 31)])] (.sc (.sl)) []
     (.next 8 [(.cmp .eql (.len (.atom 32)) (.int .i64 0))]))
     (.next 8 [(.bool false)])))))))))
theorem fm_lift_within_eq : execF Tryz.prog { pub := [], nojoin := false } Tryz.f18 = fm_lift_within := by kernel_rfl
theorem cb_lift_within : callB Tryz.prog 18 = true := by kernel_rfl
theorem tri_lift_within : TriOf Tryz.prog 18 Tryz.f18 fm_lift_within := triOf Tryz.func18 fm_lift_within_eq

/-- slices.ContainsFunc[[]int,int] -/
abbrev n_slices_ContainsFunc___int_int_ : FuncId := 19
def fm_slices_ContainsFunc___int_int_ : Fm VE :=
 (.call (.fn 40) [(.sc (.atom 0)), (.sc (.atom 1))] (.sc (.int .i64)) []
 (.leaf (.sc (.cmp .geq (.atom 2) (.int .i64 0)))))
theorem fm_slices_ContainsFunc___int_int__eq : execF Tryz.prog { pub := [], nojoin := false } Tryz.f19 = fm_slices_ContainsFunc___int_int_ := by kernel_rfl
theorem cb_slices_ContainsFunc___int_int_ : callB Tryz.prog 19 = true := by kernel_rfl
theorem tri_slices_ContainsFunc___int_int_ : TriOf Tryz.prog 19 Tryz.f19 fm_slices_ContainsFunc___int_int_ := triOf Tryz.func19 fm_slices_ContainsFunc___int_int__eq

/-- scrimshaw/lift.Check$1 -/
abbrev n_lift_Check_1 : FuncId := 20
def fm_lift_Check_1 : Fm VE :=
 (.leaf (.sc (.cmp .neq (.atom 0) (.int .i64 1))))
theorem fm_lift_Check_1_eq : execF Tryz.prog { pub := [], nojoin := false } Tryz.f20 = fm_lift_Check_1 := by kernel_rfl
theorem cb_lift_Check_1 : callB Tryz.prog 20 = true := by kernel_rfl
theorem tri_lift_Check_1 : TriOf Tryz.prog 20 Tryz.f20 fm_lift_Check_1 := triOf Tryz.func20 fm_lift_Check_1_eq

/-- scrimshaw/core.Free -/
abbrev n_core_Free : FuncId := 21
def fm_core_Free : Fm VE :=
 (.sem (.makeMap 75 none) 75 [] (.sc (.map)) []
 (.sem (.makeMap 75 none) 75 [] (.sc (.map)) []
 (.call (.fn 41) [(.ag [(.atom 0), (.atom 1), (.atom 2), (.atom 3), (.atom 4), (.atom 5), (.atom 6), (.atom 7)]), (.sc (.atom 9)), (.sc (.atom 8))] (.tu []) []
 (.call (.fn 43) [(.sc (.atom 8))] (.sc (.any)) []
 (.call (.fn 42) [(.sc (.atom 10))] (.sc (.sl)) []
 (.leaf (.sc (.atom 11))))))))
theorem fm_core_Free_eq : execF Tryz.prog { pub := [], nojoin := false } Tryz.f21 = fm_core_Free := by kernel_rfl
theorem cb_core_Free : callB Tryz.prog 21 = true := by kernel_rfl
theorem tri_core_Free : TriOf Tryz.prog 21 Tryz.f21 fm_core_Free := triOf Tryz.func21 fm_core_Free_eq

/-- scrimshaw/lift.shown -/
abbrev n_lift_shown : FuncId := 22
def fm_lift_shown : Fm VE :=
 (.ite (.cmp .neq (.atom 0) (.int .i64 11))
  (.call (.fn 31) [(.ag [(.atom 0), (.atom 1), (.atom 2), (.atom 3), (.atom 4), (.atom 5), (.atom 6), (.atom 7)]), (.sc (.fn 22))] (.ag [.int .i64, .str, .sl, .int .i64, .int .i64, .str, .sl, .sl]) []
  (.leaf (.ag [(.atom 8), (.atom 9), (.atom 10), (.atom 11), (.atom 12), (.atom 13), (.atom 14), (.atom 15)])))
  (.loop 6 [.int .i64, .int .i64, .str, .sl, .int .i64, .int .i64, .str, .sl, .sl] [(.int .i64 0), (.int .i64 6), (.str []), (.nil 1), (.int .i64 0), (.int .i64 0), (.str []), (.nil 1), (.nil 1)]
   (.ite (.cmp .lss (.atom 8) (.len (.atom 2)))
    (.chk [] (.inSl (.atom 2) (.atom 8))
    (.load (.elt (.atom 2) (.atom 8) 1) [.str]
    (.call (.fn 44) [(.sc (.atom 17))] (.ag [.int .i64, .str, .sl, .int .i64, .int .i64, .str, .sl, .sl]) []
    (.sem (.buildSlice 27 1 #[(0, (.tmp 22))]) 27 [(22, (.ag [(.atom 18), (.atom 19), (.atom 20), (.atom 21), (.atom 22), (.atom 23), (.atom 24), (.atom 25)]))] (.sc (.sl)) []
    (.sem (.call ⟨.builtin .append, #[(.tmp 20), (.tmp 23)], #[27, 27]⟩) 27 [(20, (.sc (.atom 16))), (23, (.sc (.atom 26)))] (.sc (.sl)) []
    (.next 6 [(.ar .add .i64 (.atom 8) (.int .i64 1)), (.atom 9), (.atom 10), (.atom 11), (.atom 12), (.atom 13), (.atom 14), (.atom 15), (.atom 27)]))))))
    (.leaf (.ag [(.atom 9), (.atom 10), (.atom 11), (.atom 12), (.atom 13), (.atom 14), (.atom 15), (.atom 16)])))))
theorem fm_lift_shown_eq : execF Tryz.prog { pub := [], nojoin := false } Tryz.f22 = fm_lift_shown := by kernel_rfl
theorem cb_lift_shown : callB Tryz.prog 22 = true := by kernel_rfl
theorem tri_lift_shown : TriOf Tryz.prog 22 Tryz.f22 fm_lift_shown := triOf Tryz.func22 fm_lift_shown_eq

/-- scrimshaw/core.Check -/
abbrev n_core_Check : FuncId := 23
def fm_core_Check : Fm VE :=
 (.new 3 [(.int .i64 0)]
 (.call (.fn 45) [(.ag [(.atom 0), (.atom 1), (.atom 2), (.atom 3), (.atom 4), (.atom 5), (.atom 6), (.atom 7)]), (.sc (.int .i64 0)), (.sc (.atom 8))] (.sc (.int .i64)) []
 (.leaf (.sc (.atom 9)))))
theorem fm_core_Check_eq : execF Tryz.prog { pub := [4], nojoin := false } Tryz.f23 = fm_core_Check := by kernel_rfl
theorem cb_core_Check : callB Tryz.prog 23 = true := by kernel_rfl
theorem tri_core_Check : TriOf Tryz.prog 23 Tryz.f23 fm_core_Check := triOf Tryz.func23 fm_core_Check_eq

/-- scrimshaw/scrimshawref14.within -/
abbrev n_scrimshawref14_within : FuncId := 24
def fm_scrimshawref14_within : Fm VE :=
 (.ite (.pick (.cmp .eql (.atom 9) (.int .i64 0)) (.bool true) (.cmp .gtr (.atom 8) (.int .i64 250)))
  (.leaf (.tu [(false, [(.int .i64 0)]), (false, [(.bool false)])]))
  (.loop 7 [.int .i64, .bool, .int .i64] [(.ar .sub .i64 (.atom 9) (.int .i64 1)), (.bool true), (.int .i64 0)]
   (.ite (.pick (.cmp .lss (.atom 12) (.len (.atom 7))) (.atom 11) (.bool false))
    (.chk [] (.inSl (.atom 7) (.atom 12))
    (.load (.elt (.atom 7) (.atom 12) 8) [.int .i64, .str, .sl, .int .i64, .int .i64, .str, .sl, .sl]
    (.call (.fn 24) [(.ag [(.atom 13), (.atom 14), (.atom 15), (.atom 16), (.atom 17), (.atom 18), (.atom 19), (.atom 20)]), (.sc (.ar .add .i64 (.atom 8) (.int .i64 1))), (.sc (.atom 10))] (.tu [(false, [.int .i64]), (false, [.bool])]) []
    (.next 7 [(.atom 21), (.atom 22), (.ar .add .i64 (.atom 12) (.int .i64 1))]))))
    (.leaf (.tu [(false, [(.atom 10)]), (false, [(.atom 11)])])))))
theorem fm_scrimshawref14_within_eq : execF Tryz.prog { pub := [], nojoin := false } Tryz.f24 = fm_scrimshawref14_within := by kernel_rfl
theorem cb_scrimshawref14_within : callB Tryz.prog 24 = true := by kernel_rfl
theorem tri_scrimshawref14_within : TriOf Tryz.prog 24 Tryz.f24 fm_scrimshawref14_within := triOf Tryz.func24 fm_scrimshawref14_within_eq

/-- scrimshaw/scrimshawref14.closures -/
abbrev n_scrimshawref14_closures : FuncId := 25
def fm_scrimshawref14_closures : Fm VE :=
 (.ite (.cmp .eql (.atom 0) (.int .i64 11))
  (.join 4 [.bool]
   (.join 6 [.bool]
    (.ite (.atom 19)
     (.sem (.buildSlice 49 1 #[(0, (.const (.int .i64 (-1))))]) 49 [] (.sc (.sl)) []
     (.sem (.call ⟨.builtin .append, #[(.tmp 57), (.tmp 58)], #[49, 49]⟩) 49 [(57, (.sc (.atom 17))), (58, (.sc (.atom 20)))] (.sc (.sl)) []
     (.leaf (.sc (.atom 21)))))
     (.sem (.buildSlice 49 1 #[(0, (.tmp 61))]) 49 [(61, (.sc (.atom 4)))] (.sc (.sl)) []
     (.sem (.call ⟨.builtin .append, #[(.tmp 60), (.tmp 62)], #[49, 49]⟩) 49 [(60, (.sc (.atom 17))), (62, (.sc (.atom 20)))] (.sc (.sl)) []
     (.leaf (.sc (.atom 21))))))
    (.chk [((.not (.atom 18)), false)] (.inSl (.atom 8) (.atom 4))
    (.chk [((.not (.atom 18)), false)] (.some (.elt (.atom 8) (.atom 4) 10))
    (.ite (.not (.atom 18))
     (.next 6 [(.bool true)])
     (.load (.padd (.elt (.atom 8) (.atom 4) 10) 1) [.sl]
     (.call (.fn 15) [(.sc (.atom 19)), (.sc (.atom 2))] (.sc (.bool)) []
     (.next 6 [(.not (.atom 20))])))))))
   (.ite (.pick (.scmp .eql (.atom 1) (.str [])) (.cmp .eql (.len (.atom 7)) (.int .i64 0)) (.bool false))
    (.call (.fn 29) [(.ag [(.atom 3), (.atom 4), (.atom 5), (.atom 6)]), (.ag [(.int .i64 1), (.atom 4), (.str []), (.nil 1)])] (.sc (.bool)) []
    (.next 4 [(.pick (.pick (.atom 18) (.cmp .geq (.atom 4) (.int .i64 0)) (.bool false)) (.cmp .lss (.atom 4) (.len (.atom 8))) (.bool false))]))
    (.next 4 [(.bool false)])))
  (.join 3 [.sl]
   (.loop 6 [.sl, .int .i64] [(.atom 18), (.int .i64 0)]
    (.ite (.cmp .lss (.atom 20) (.len (.atom 7)))
     (.chk [] (.inSl (.atom 7) (.atom 20))
     (.load (.elt (.atom 7) (.atom 20) 8) [.int .i64, .str, .sl, .int .i64, .int .i64, .str, .sl, .sl]
     (.call (.fn 25) [(.ag [(.atom 21), (.atom 22), (.atom 23), (.atom 24), (.atom 25), (.atom 26), (.atom 27), (.atom 28)]), (.ag [(.atom 8), (.atom 9), (.atom 10), (.atom 11), (.atom 12), (.atom 13), (.atom 14), (.atom 15), (.atom 16)]), (.sc (.atom 19))] (.sc (.sl)) []
     (.next 6 [(.atom 29), (.ar .add .i64 (.atom 20) (.int .i64 1))]))))
     (.leaf (.sc (.atom 19)))))
   (.ite (.pick (.pick (.cmp .eql (.atom 0) (.int .i64 2)) (.bool true) (.cmp .eql (.atom 0) (.int .i64 5))) (.bool true) (.cmp .eql (.atom 0) (.int .i64 9)))
    (.sem (.buildSlice 49 1 #[(0, (.const (.int .i64 (-1))))]) 49 [] (.sc (.sl)) []
    (.sem (.call ⟨.builtin .append, #[(.tmp 77), (.tmp 78)], #[49, 49]⟩) 49 [(77, (.sc (.atom 17))), (78, (.sc (.atom 18)))] (.sc (.sl)) []
    (.next 3 [(.atom 19)])))
    (.next 3 [(.atom 17)]))))
theorem fm_scrimshawref14_closures_eq : execF Tryz.prog { pub := [], nojoin := false } Tryz.f25 = fm_scrimshawref14_closures := by kernel_rfl
theorem cb_scrimshawref14_closures : callB Tryz.prog 25 = true := by kernel_rfl
theorem tri_scrimshawref14_closures : TriOf Tryz.prog 25 Tryz.f25 fm_scrimshawref14_closures := triOf Tryz.func25 fm_scrimshawref14_closures_eq

/-- scrimshaw/scrimshawref14.names -/
abbrev n_scrimshawref14_names : FuncId := 26
def fm_scrimshawref14_names : Fm VE :=
 (.sem (.buildSlice 23 0 #[]) 23 [] (.sc (.sl)) []
 (.sem (.call ⟨.builtin .append, #[(.tmp 5), (.tmp 7)], #[23, 23]⟩) 23 [(5, (.sc (.atom 10))), (7, (.sc (.atom 0)))] (.sc (.sl)) []
 (.sem (.call ⟨.builtin .append, #[(.tmp 8), (.tmp 10)], #[23, 23]⟩) 23 [(8, (.sc (.atom 11))), (10, (.sc (.atom 1)))] (.sc (.sl)) []
 (.loop 4 [.bool, .int .i64] [(.bool false), (.int .i64 0)]
  (.ite (.cmp .lss (.atom 14) (.len (.atom 12)))
   (.join 8 [.bool]
    (.ite (.atom 15)
     (.leaf (.sc (.bool false)))
     (.next 4 [(.atom 13), (.ar .add .i64 (.atom 14) (.int .i64 1))]))
    (.chk [] (.inSl (.atom 12) (.atom 14))
    (.load (.elt (.atom 12) (.atom 14) 1) [.str]
    (.call (.fn 46) [(.sc (.atom 15))] (.sc (.bool)) []
    (.chk [((.not (.atom 16)), false)] (.sub (.cap (.atom 12)) (.int .i64 0) (.atom 14))
    (.ite (.not (.atom 16))
     (.next 8 [(.bool true)])
     (.load (.elt (.atom 12) (.atom 14) 1) [.str]
     (.call (.fn 47) [(.sc (.sls (.atom 12) (.int .i64 0) (.atom 14) 1)), (.sc (.atom 17))] (.sc (.bool)) []
     (.next 8 [(.atom 18)])))))))))
   (.join 7 [.bool]
    (.leaf (.sc (.atom 15)))
    (.ite (.cmp .leq (.len (.atom 0)) (.int .i64 6))
     (.call (.fn 27) [(.ag [(.atom 2), (.atom 3), (.atom 4), (.atom 5), (.atom 6), (.atom 7), (.atom 8), (.atom 9)]), (.sc (.atom 12)), (.sc (.nil 1))] (.sc (.sl)) []
     (.next 7 [(.cmp .eql (.len (.atom 15)) (.int .i64 0))]))
     (.next 7 [(.bool false)]))))))))
theorem fm_scrimshawref14_names_eq : execF Tryz.prog { pub := [], nojoin := false } Tryz.f26 = fm_scrimshawref14_names := by kernel_rfl
theorem cb_scrimshawref14_names : callB Tryz.prog 26 = true := by kernel_rfl
theorem tri_scrimshawref14_names : TriOf Tryz.prog 26 Tryz.f26 fm_scrimshawref14_names := triOf Tryz.func26 fm_scrimshawref14_names_eq

/-- scrimshaw/scrimshawref14.free -/
abbrev n_scrimshawref14_free : FuncId := 27
def fm_scrimshawref14_free : Fm VE :=
 (.ite (.cmp .eql (.atom 0) (.int .i64 11))
  (.loop 5 [.sl, .int .i64] [(.atom 9), (.int .i64 0)]
   (.ite (.cmp .lss (.atom 11) (.len (.atom 2)))
    (.join 8 [.sl]
     (.next 5 [(.atom 12), (.ar .add .i64 (.atom 11) (.int .i64 1))])
     (.chk [] (.inSl (.atom 2) (.atom 11))
     (.load (.elt (.atom 2) (.atom 11) 1) [.str]
     (.call (.fn 47) [(.sc (.atom 8)), (.sc (.atom 12))] (.sc (.bool)) []
     (.ite (.not (.atom 13))
      (.load (.elt (.atom 2) (.atom 11) 1) [.str]
      (.sem (.buildSlice 23 1 #[(0, (.tmp 33))]) 23 [(33, (.sc (.atom 14)))] (.sc (.sl)) []
      (.sem (.call ⟨.builtin .append, #[(.tmp 28), (.tmp 34)], #[23, 23]⟩) 23 [(28, (.sc (.atom 10))), (34, (.sc (.atom 15)))] (.sc (.sl)) []
      (.next 8 [(.atom 16)]))))
      (.next 8 [(.atom 10)]))))))
    (.leaf (.sc (.atom 10)))))
  (.join 3 [.sl]
   (.loop 6 [.sl, .int .i64] [(.atom 10), (.int .i64 0)]
    (.ite (.cmp .lss (.atom 12) (.len (.atom 7)))
     (.join 11 [.sl]
      (.chk [] (.inSl (.atom 7) (.atom 12))
      (.load (.elt (.atom 7) (.atom 12) 8) [.int .i64, .str, .sl, .int .i64, .int .i64, .str, .sl, .sl]
      (.call (.fn 27) [(.ag [(.atom 14), (.atom 15), (.atom 16), (.atom 17), (.atom 18), (.atom 19), (.atom 20), (.atom 21)]), (.sc (.atom 13)), (.sc (.atom 11))] (.sc (.sl)) []
      (.next 6 [(.atom 22), (.ar .add .i64 (.atom 12) (.int .i64 1))]))))
      (.call (.fn 48) [(.ag [(.atom 0), (.atom 1), (.atom 2), (.atom 3), (.atom 4), (.atom 5), (.atom 6), (.atom 7)]), (.sc (.atom 12))] (.sc (.bool)) []
      (.ite (.atom 13)
       (.sem (.buildSlice 23 0 #[]) 23 [] (.sc (.sl)) []
       (.sem (.call ⟨.builtin .append, #[(.tmp 63), (.tmp 64)], #[23, 23]⟩) 23 [(63, (.sc (.atom 14))), (64, (.sc (.atom 8)))] (.sc (.sl)) []
       (.sem (.call ⟨.builtin .append, #[(.tmp 65), (.tmp 67)], #[23, 23]⟩) 23 [(65, (.sc (.atom 15))), (67, (.sc (.atom 2)))] (.sc (.sl)) []
       (.next 11 [(.atom 16)]))))
       (.next 11 [(.atom 8)]))))
     (.leaf (.sc (.atom 11)))))
   (.join 4 [.bool]
    (.ite (.atom 10)
     (.sem (.buildSlice 23 1 #[(0, (.tmp 49))]) 23 [(49, (.sc (.atom 1)))] (.sc (.sl)) []
     (.sem (.call ⟨.builtin .append, #[(.tmp 47), (.tmp 50)], #[23, 23]⟩) 23 [(47, (.sc (.atom 9))), (50, (.sc (.atom 11)))] (.sc (.sl)) []
     (.next 3 [(.atom 12)])))
     (.next 3 [(.atom 9)]))
    (.ite (.cmp .eql (.atom 0) (.int .i64 1))
     (.call (.fn 47) [(.sc (.atom 8)), (.sc (.atom 1))] (.sc (.bool)) []
     (.next 4 [(.not (.atom 10))]))
     (.next 4 [(.bool false)])))))
theorem fm_scrimshawref14_free_eq : execF Tryz.prog { pub := [], nojoin := false } Tryz.f27 = fm_scrimshawref14_free := by kernel_rfl
theorem cb_scrimshawref14_free : callB Tryz.prog 27 = true := by kernel_rfl
theorem tri_scrimshawref14_free : TriOf Tryz.prog 27 Tryz.f27 fm_scrimshawref14_free := triOf Tryz.func27 fm_scrimshawref14_free_eq

/-- scrimshaw/scrimshawref06.Check -/
abbrev n_scrimshawref06_Check : FuncId := 28
def fm_scrimshawref06_Check : Fm VE :=
 (.call (.fn 49) [(.ag [(.atom 0), (.atom 1), (.atom 2), (.atom 3), (.atom 4), (.atom 5), (.atom 6), (.atom 7)]), (.sc (.int .i64 0)), (.sc (.int .i64 0))] (.tu [(false, [.int .i64]), (false, [.int .i64])]) []
 (.leaf (.sc (.atom 9))))
theorem fm_scrimshawref06_Check_eq : execF Tryz.prog { pub := [], nojoin := false } Tryz.f28 = fm_scrimshawref06_Check := by kernel_rfl
theorem cb_scrimshawref06_Check : callB Tryz.prog 28 = true := by kernel_rfl
theorem tri_scrimshawref06_Check : TriOf Tryz.prog 28 Tryz.f28 fm_scrimshawref06_Check := triOf Tryz.func28 fm_scrimshawref06_Check_eq

/-- scrimshaw/scrimshawref02.Same -/
abbrev n_scrimshawref02_Same : FuncId := 29
def fm_scrimshawref02_Same : Fm VE :=
 (.ite (.pick (.pick (.pick (.cmp .neq (.atom 0) (.atom 4)) (.bool true) (.cmp .neq (.atom 1) (.atom 5))) (.bool true) (.scmp .neq (.atom 2) (.atom 6))) (.bool true) (.cmp .neq (.len (.atom 3)) (.len (.atom 7))))
  (.leaf (.sc (.bool false)))
  (.loop 5 [.bool, .int .i64] [(.bool false), (.int .i64 0)]
   (.ite (.cmp .lss (.atom 9) (.len (.atom 3)))
    (.chk [] (.inSl (.atom 3) (.atom 9))
    (.load (.elt (.atom 3) (.atom 9) 4) [.int .i64, .int .i64, .str, .sl]
    (.chk [] (.inSl (.atom 7) (.atom 9))
    (.load (.elt (.atom 7) (.atom 9) 4) [.int .i64, .int .i64, .str, .sl]
    (.call (.fn 29) [(.ag [(.atom 10), (.atom 11), (.atom 12), (.atom 13)]), (.ag [(.atom 14), (.atom 15), (.atom 16), (.atom 17)])] (.sc (.bool)) []
    (.ite (.not (.atom 18))
     (.leaf (.sc (.bool false)))
     (.next 5 [(.atom 8), (.ar .add .i64 (.atom 9) (.int .i64 1))])))))))
    (.leaf (.sc (.bool true))))))
theorem fm_scrimshawref02_Same_eq : execF Tryz.prog { pub := [], nojoin := false } Tryz.f29 = fm_scrimshawref02_Same := by kernel_rfl
theorem cb_scrimshawref02_Same : callB Tryz.prog 29 = true := by kernel_rfl
theorem tri_scrimshawref02_Same : TriOf Tryz.prog 29 Tryz.f29 fm_scrimshawref02_Same := triOf Tryz.func29 fm_scrimshawref02_Same_eq

/-- scrimshaw/pass.copied -/
abbrev n_pass_copied : FuncId := 30
def fm_pass_copied : Fm VE :=
 (.call (.fn 50) [(.sc (.atom 2))] (.sc (.sl)) []
 (.call (.fn 31) [(.ag [(.atom 0), (.atom 1), (.atom 8), (.atom 3), (.atom 4), (.atom 5), (.atom 6), (.atom 7)]), (.sc (.fn 30))] (.ag [.int .i64, .str, .sl, .int .i64, .int .i64, .str, .sl, .sl]) []
 (.leaf (.ag [(.atom 9), (.atom 10), (.atom 11), (.atom 12), (.atom 13), (.atom 14), (.atom 15), (.atom 16)]))))
theorem fm_pass_copied_eq : execF Tryz.prog { pub := [], nojoin := false } Tryz.f30 = fm_pass_copied := by kernel_rfl
theorem cb_pass_copied : callB Tryz.prog 30 = true := by kernel_rfl
theorem tri_pass_copied : TriOf Tryz.prog 30 Tryz.f30 fm_pass_copied := triOf Tryz.func30 fm_pass_copied_eq

/-- scrimshaw/pass.Map -/
abbrev n_pass_Map : FuncId := 31
def fm_pass_Map : Fm VE :=
 (.loop 4 [.sl, .int .i64] [(.nil 1), (.int .i64 0)]
  (.ite (.cmp .lss (.atom 10) (.len (.atom 7)))
   (.chk [] (.inSl (.atom 7) (.atom 10))
   (.load (.elt (.atom 7) (.atom 10) 8) [.int .i64, .str, .sl, .int .i64, .int .i64, .str, .sl, .sl]
   (.call (.atom 8) [(.ag [(.atom 11), (.atom 12), (.atom 13), (.atom 14), (.atom 15), (.atom 16), (.atom 17), (.atom 18)])] (.ag [.int .i64, .str, .sl, .int .i64, .int .i64, .str, .sl, .sl]) []
   (.sem (.buildSlice 27 1 #[(0, (.tmp 18))]) 27 [(18, (.ag [(.atom 19), (.atom 20), (.atom 21), (.atom 22), (.atom 23), (.atom 24), (.atom 25), (.atom 26)]))] (.sc (.sl)) []
   (.sem (.call ⟨.builtin .append, #[(.tmp 15), (.tmp 19)], #[27, 27]⟩) 27 [(15, (.sc (.atom 9))), (19, (.sc (.atom 27)))] (.sc (.sl)) []
   (.next 4 [(.atom 28), (.ar .add .i64 (.atom 10) (.int .i64 1))]))))))
   (.leaf (.ag [(.atom 0), (.atom 1), (.atom 2), (.atom 3), (.atom 4), (.atom 5), (.atom 6), (.atom 9)]))))
theorem fm_pass_Map_eq : execF Tryz.prog { pub := [], nojoin := false } Tryz.f31 = fm_pass_Map := by kernel_rfl
theorem cb_pass_Map : callB Tryz.prog 31 = true := by kernel_rfl
theorem tri_pass_Map : TriOf Tryz.prog 31 Tryz.f31 fm_pass_Map := triOf Tryz.func31 fm_pass_Map_eq

/-- scrimshaw/lift.lower$1 -/
abbrev n_lift_lower_1 : FuncId := 32
def fm_lift_lower_1 : Fm VE :=
 (.load (.atom 8) [.sl, .int .i64, .str, .sl, .int .i64, .int .i64, .str, .sl, .sl]
 (.call (.fn 11) [(.ag [(.atom 9), (.atom 10), (.atom 11), (.atom 12), (.atom 13), (.atom 14), (.atom 15), (.atom 16), (.atom 17)]), (.ag [(.atom 0), (.atom 1), (.atom 2), (.atom 3), (.atom 4), (.atom 5), (.atom 6), (.atom 7)])] (.ag [.int .i64, .str, .sl, .int .i64, .int .i64, .str, .sl, .sl]) []
 (.leaf (.ag [(.atom 18), (.atom 19), (.atom 20), (.atom 21), (.atom 22), (.atom 23), (.atom 24), (.atom 25)]))))
theorem fm_lift_lower_1_eq : execFC Tryz.prog { pub := [], nojoin := false } Tryz.f32 [(.ag [.int .i64, .str, .sl, .int .i64, .int .i64, .str, .sl, .sl]), (.sc (.ptr))] = fm_lift_lower_1 := by kernel_rfl
theorem cb_lift_lower_1 : callB Tryz.prog 32 = true := by kernel_rfl
theorem tri_lift_lower_1 : TriOfC Tryz.prog 32 [(.ag [.int .i64, .str, .sl, .int .i64, .int .i64, .str, .sl, .sl]), (.sc (.ptr))] fm_lift_lower_1 := triOfC Tryz.func32 fm_lift_lower_1_eq

/-- scrimshaw/pass.Any -/
abbrev n_pass_Any : FuncId := 33
def fm_pass_Any : Fm VE :=
 (.call (.atom 8) [(.ag [(.atom 0), (.atom 1), (.atom 2), (.atom 3), (.atom 4), (.atom 5), (.atom 6), (.atom 7)])] (.sc (.bool)) []
 (.ite (.atom 9)
  (.leaf (.sc (.bool true)))
  (.loop 5 [.bool, .int .i64] [(.bool false), (.int .i64 0)]
   (.ite (.cmp .lss (.atom 11) (.len (.atom 7)))
    (.chk [] (.inSl (.atom 7) (.atom 11))
    (.load (.elt (.atom 7) (.atom 11) 8) [.int .i64, .str, .sl, .int .i64, .int .i64, .str, .sl, .sl]
    (.call (.fn 33) [(.ag [(.atom 12), (.atom 13), (.atom 14), (.atom 15), (.atom 16), (.atom 17), (.atom 18), (.atom 19)]), (.sc (.atom 8))] (.sc (.bool)) []
    (.ite (.atom 20)
     (.leaf (.sc (.bool true)))
     (.next 5 [(.atom 10), (.ar .add .i64 (.atom 11) (.int .i64 1))])))))
    (.leaf (.sc (.bool false)))))))
theorem fm_pass_Any_eq : execF Tryz.prog { pub := [], nojoin := false } Tryz.f33 = fm_pass_Any := by kernel_rfl
theorem cb_pass_Any : callB Tryz.prog 33 = true := by kernel_rfl
theorem tri_pass_Any : TriOf Tryz.prog 33 Tryz.f33 fm_pass_Any := triOf Tryz.func33 fm_pass_Any_eq

/-- scrimshaw/lift.isBad -/
abbrev n_lift_isBad : FuncId := 34
def fm_lift_isBad : Fm VE :=
 (.leaf (.sc (.pick (.cmp .eql (.atom 0) (.int .i64 9)) (.bool true) (.cmp .eql (.atom 0) (.int .i64 2)))))
theorem fm_lift_isBad_eq : execF Tryz.prog { pub := [], nojoin := false } Tryz.f34 = fm_lift_isBad := by kernel_rfl
theorem cb_lift_isBad : callB Tryz.prog 34 = true := by kernel_rfl
theorem tri_lift_isBad : TriOf Tryz.prog 34 Tryz.f34 fm_lift_isBad := triOf Tryz.func34 fm_lift_isBad_eq

/-- (*scrimshaw/lift.lifter).lift -/
abbrev n_lift_lifter__lift : FuncId := 35
def fm_lift_lifter__lift : Fm VE :=
 (.ite (.cmp .neq (.atom 1) (.int .i64 5))
  (.sem (.makeFunc (.func 35) #[(.tmp 12)] #[]) 57 [(12, (.sc (.atom 0)))] (.sc (.any)) []
  (.call (.fn 31) [(.ag [(.atom 1), (.atom 2), (.atom 3), (.atom 4), (.atom 5), (.atom 6), (.atom 7), (.atom 8)]), (.sc (.atom 9))] (.ag [.int .i64, .str, .sl, .int .i64, .int .i64, .str, .sl, .sl]) []
  (.leaf (.ag [(.atom 10), (.atom 11), (.atom 12), (.atom 13), (.atom 14), (.atom 15), (.atom 16), (.atom 17)]))))
  (.chk [] (.some (.atom 0))
  (.load (.padd (.atom 0) 0) [.sl]
  (.call (.fn 21) [(.ag [(.atom 1), (.atom 2), (.atom 3), (.atom 4), (.atom 5), (.atom 6), (.atom 7), (.atom 8)])] (.sc (.sl)) []
  (.load (.padd (.atom 0) 0) [.sl]
  (.call (.fn 50) [(.sc (.atom 3))] (.sc (.sl)) [((.padd (.atom 0) 0), [(.atom 11)])]
  (.sem (.buildSlice 22 1 #[(0, (.tmp 31))]) 22 [(31, (.ag [(.atom 12), (.atom 10), (.int .i64 0), (.str []), (.nil 1), (.int .i64 0), (.int .i64 0), (.str []), (.nil 1), (.nil 1)]))] (.sc (.sl)) [((.padd (.atom 0) 0), [(.atom 11)])]
  (.sem (.call ⟨.builtin .append, #[(.tmp 26), (.tmp 32)], #[22, 22]⟩) 22 [(26, (.sc (.atom 11))), (32, (.sc (.atom 13)))] (.sc (.sl)) []
  (.store (.padd (.atom 0) 0) [(.atom 14)]
  (.chk [] (.inSl (.atom 8) (.int .i64 0))
  (.load (.elt (.atom 8) (.int .i64 0) 8) [.int .i64, .str, .sl, .int .i64, .int .i64, .str, .sl, .sl]
  (.call (.fn 35) [(.sc (.atom 0)), (.ag [(.atom 15), (.atom 16), (.atom 17), (.atom 18), (.atom 19), (.atom 20), (.atom 21), (.atom 22)])] (.ag [.int .i64, .str, .sl, .int .i64, .int .i64, .str, .sl, .sl]) []
  (.load (.padd (.atom 0) 0) [.sl]
  (.chk [] (.inSl (.atom 31) (.len (.atom 9)))
  (.store (.padd (.elt (.atom 31) (.len (.atom 9)) 10) 2) [(.atom 23), (.atom 24), (.atom 25), (.atom 26), (.atom 27), (.atom 28), (.atom 29), (.atom 30)]
  (.call (.fn 50) [(.sc (.atom 10))] (.sc (.sl)) []
  (.leaf (.ag [(.int .i64 11), (.str []), (.atom 32), (.int .i64 1), (.len (.atom 9)), (.str []), (.nil 1), (.nil 1)]))))))))))))))))))
theorem fm_lift_lifter__lift_eq : execF Tryz.prog { pub := [], nojoin := false } Tryz.f35 = fm_lift_lifter__lift := by kernel_rfl
theorem cb_lift_lifter__lift : callB Tryz.prog 35 = true := by kernel_rfl
theorem tri_lift_lifter__lift : TriOf Tryz.prog 35 Tryz.f35 fm_lift_lifter__lift := triOf Tryz.func35 fm_lift_lifter__lift_eq

/-- (*scrimshaw/lift.checker).clo -/
abbrev n_lift_checker__clo : FuncId := 36
def fm_lift_checker__clo : Fm VE :=
 (.join 2 [.bool]
  (.ite (.not (.atom 10))
   (.chk [] (.some (.atom 0))
   (.store (.padd (.atom 0) 11) [(.bool true)]
   (.leaf (.tu []))))
   (.chk [] (.some (.atom 0))
   (.load (.padd (.atom 0) 12) [.sl]
   (.chk [] (.inSl (.atom 11) (.atom 5))
   (.load (.elt (.atom 11) (.atom 5) 1) [.int .i64]
   (.store (.elt (.atom 11) (.atom 5) 1) [(.ar .add .i64 (.atom 12) (.int .i64 1))]
   (.leaf (.tu []))))))))
  (.ite (.pick (.scmp .eql (.atom 2) (.str [])) (.cmp .eql (.len (.atom 8)) (.int .i64 0)) (.bool false))
   (.call (.fn 51) [(.ag [(.atom 4), (.atom 5), (.atom 6), (.atom 7)]), (.ag [(.int .i64 1), (.atom 5), (.str []), (.nil 1)])] (.sc (.bool)) []
   (.chk [((.pick (.atom 10) (.cmp .gtr (.atom 5) (.atom 9)) (.bool false)), true)] (.some (.atom 0))
   (.chk [((.pick (.atom 10) (.cmp .gtr (.atom 5) (.atom 9)) (.bool false)), true)] (.some (.atom 0))
   (.chk [((.pick (.atom 10) (.cmp .gtr (.atom 5) (.atom 9)) (.bool false)), true)] (.some (.padd (.atom 0) 0))
   (.ite (.pick (.atom 10) (.cmp .gtr (.atom 5) (.atom 9)) (.bool false))
    (.load (.padd (.padd (.atom 0) 0) 0) [.sl]
    (.chk [((.cmp .lss (.atom 5) (.len (.atom 11))), true)] (.some (.atom 0))
    (.chk [((.cmp .lss (.atom 5) (.len (.atom 11))), true)] (.some (.atom 0))
    (.chk [((.cmp .lss (.atom 5) (.len (.atom 11))), true)] (.some (.padd (.atom 0) 0))
    (.ite (.cmp .lss (.atom 5) (.len (.atom 11)))
     (.load (.padd (.padd (.atom 0) 0) 0) [.sl]
     (.chk [] (.inSl (.atom 12) (.atom 5))
     (.load (.padd (.elt (.atom 12) (.atom 5) 10) 1) [.sl]
     (.call (.fn 52) [(.sc (.atom 13)), (.sc (.atom 3))] (.sc (.bool)) []
     (.next 2 [(.atom 14)])))))
     (.next 2 [(.bool false)]))))))
    (.next 2 [(.bool false)]))))))
   (.next 2 [(.bool false)])))
theorem fm_lift_checker__clo_eq : execF Tryz.prog { pub := [], nojoin := false } Tryz.f36 = fm_lift_checker__clo := by kernel_rfl
theorem cb_lift_checker__clo : callB Tryz.prog 36 = true := by kernel_rfl
theorem tri_lift_checker__clo : TriOf Tryz.prog 36 Tryz.f36 fm_lift_checker__clo := triOf Tryz.func36 fm_lift_checker__clo_eq

/-- slices.Concat[[]string,string] -/
abbrev n_slices_Concat___string_string_ : FuncId := 37
def fm_slices_Concat___string_string_ : Fm VE :=
 (.loop 4 [.int .i64, .int .i64] [(.int .i64 0), (.int .i64 0)]
  (.ite (.cmp .lss (.atom 2) (.len (.atom 0)))
   (.join 7 [.int .i64]
    (.next 4 [(.atom 3), (.ar .add .i64 (.atom 2) (.int .i64 1))])
    (.chk [] (.inSl (.atom 0) (.atom 2))
    (.load (.elt (.atom 0) (.atom 2) 1) [.sl]
    (.ite (.cmp .lss (.ar .add .i64 (.atom 1) (.len (.atom 3))) (.int .i64 0))
     (.sem (.makeInterface 9 (.const (.string ⟨#[108, 101, 110, 32, 111, 117, 116, 32, 111, 102, 32, 114, 97, 110, 103, 101]⟩))) 20 [] (.sc (.any)) []
     (.sem (.panic (.tmp 21)) 0 [(21, (.sc (.atom 4)))] (.tu []) []
     (.next 7 [(.ar .add .i64 (.atom 1) (.len (.atom 3)))])))
     (.next 7 [(.ar .add .i64 (.atom 1) (.len (.atom 3)))])))))
   (.call (.fn 53) [(.sc (.nil 1)), (.sc (.atom 1))] (.sc (.sl)) []
   (.loop 10 [.sl, .int .i64] [(.atom 3), (.int .i64 0)]
    (.ite (.cmp .lss (.atom 5) (.len (.atom 0)))
     (.chk [] (.inSl (.atom 0) (.atom 5))
     (.load (.elt (.atom 0) (.atom 5) 1) [.sl]
     (.sem (.call ⟨.builtin .append, #[(.tmp 31), (.tmp 32)], #[23, 23]⟩) 23 [(31, (.sc (.atom 4))), (32, (.sc (.atom 6)))] (.sc (.sl)) []
     (.next 10 [(.atom 7), (.ar .add .i64 (.atom 5) (.int .i64 1))]))))
     (.leaf (.sc (.atom 4))))))))
theorem fm_slices_Concat___string_string__eq : execF Tryz.prog { pub := [], nojoin := false } Tryz.f37 = fm_slices_Concat___string_string_ := by kernel_rfl
theorem tri_slices_Concat___string_string_ : TriOf Tryz.prog 37 Tryz.f37 fm_slices_Concat___string_string_ := triOf Tryz.func37 fm_slices_Concat___string_string__eq

/-- scrimshaw/data.Name -/
abbrev n_data_Name : FuncId := 38
def fm_data_Name : Fm VE :=
 (.loop 3 [.bool, .int .i64] [(.bool false), (.int .i64 0)]
  (.ite (.cmp .lss (.atom 2) (.slen (.atom 0)))
   (.chk [] (.inStr (.atom 0) (.atom 2))
   (.call (.fn 54) [(.sc (.sidx (.atom 0) (.atom 2)))] (.sc (.bool)) []
   (.ite (.not (.atom 3))
    (.leaf (.sc (.bool false)))
    (.next 3 [(.atom 1), (.ar .add .i64 (.atom 2) (.int .i64 1))]))))
   (.join 6 [.bool]
    (.leaf (.sc (.atom 3)))
    (.ite (.pick (.pick (.scmp .neq (.atom 0) (.str [])) (.cmp .leq (.slen (.atom 0)) (.int .i64 64)) (.bool false)) (.scmp .neq (.atom 0) (.str [46])) (.bool false))
     (.call (.fn 55) [(.sc (.atom 0))] (.sc (.bool)) []
     (.next 6 [(.not (.atom 3))]))
     (.next 6 [(.bool false)])))))
theorem fm_data_Name_eq : execF Tryz.prog { pub := [], nojoin := false } Tryz.f38 = fm_data_Name := by kernel_rfl
theorem cb_data_Name : callB Tryz.prog 38 = true := by kernel_rfl
theorem tri_data_Name : TriOf Tryz.prog 38 Tryz.f38 fm_data_Name := triOf Tryz.func38 fm_data_Name_eq

/-- slices.Contains[[]string,string] -/
abbrev n_slices_Contains___string_string_ : FuncId := 39
def fm_slices_Contains___string_string_ : Fm VE :=
 (.call (.fn 56) [(.sc (.atom 0)), (.sc (.atom 1))] (.sc (.int .i64)) []
 (.leaf (.sc (.cmp .geq (.atom 2) (.int .i64 0)))))
theorem fm_slices_Contains___string_string__eq : execF Tryz.prog { pub := [], nojoin := false } Tryz.f39 = fm_slices_Contains___string_string_ := by kernel_rfl
theorem cb_slices_Contains___string_string_ : callB Tryz.prog 39 = true := by kernel_rfl
theorem tri_slices_Contains___string_string_ : TriOf Tryz.prog 39 Tryz.f39 fm_slices_Contains___string_string_ := triOf Tryz.func39 fm_slices_Contains___string_string__eq

/-- slices.IndexFunc[[]int,int] -/
abbrev n_slices_IndexFunc___int_int_ : FuncId := 40
def fm_slices_IndexFunc___int_int_ : Fm VE :=
 (.loop 3 [.int .i64, .int .i64] [(.int .i64 0), (.int .i64 0)]
  (.ite (.cmp .lss (.atom 3) (.len (.atom 0)))
   (.chk [] (.inSl (.atom 0) (.atom 3))
   (.load (.elt (.atom 0) (.atom 3) 1) [.int .i64]
   (.call (.atom 1) [(.sc (.atom 4))] (.sc (.bool)) []
   (.ite (.atom 5)
    (.leaf (.sc (.atom 3)))
    (.next 3 [(.atom 2), (.ar .add .i64 (.atom 3) (.int .i64 1))])))))
   (.leaf (.sc (.int .i64 (-1))))))
theorem fm_slices_IndexFunc___int_int__eq : execF Tryz.prog { pub := [], nojoin := false } Tryz.f40 = fm_slices_IndexFunc___int_int_ := by kernel_rfl
theorem cb_slices_IndexFunc___int_int_ : callB Tryz.prog 40 = true := by kernel_rfl
theorem tri_slices_IndexFunc___int_int_ : TriOf Tryz.prog 40 Tryz.f40 fm_slices_IndexFunc___int_int_ := triOf Tryz.func40 fm_slices_IndexFunc___int_int__eq

/-- scrimshaw/core.free -/
abbrev n_core_free : FuncId := 41
def fm_core_free : Fm VE :=
 (.join 1 []
  (.loop 3 [.int .i64] [(.int .i64 0)]
   (.ite (.cmp .lss (.atom 10) (.len (.atom 7)))
    (.chk [] (.inSl (.atom 7) (.atom 10))
    (.load (.elt (.atom 7) (.atom 10) 8) [.int .i64, .str, .sl, .int .i64, .int .i64, .str, .sl, .sl]
    (.call (.fn 57) [(.ag [(.atom 0), (.atom 1), (.atom 2), (.atom 3), (.atom 4), (.atom 5), (.atom 6), (.atom 7)]), (.sc (.atom 10))] (.sc (.bool)) []
    (.loop 13 [.int .i64] [(.int .i64 0)]
     (.ite (.cmp .lss (.atom 20) (.len (.atom 2)))
      (.chk [] (.inSl (.atom 2) (.atom 20))
      (.load (.elt (.atom 2) (.atom 20) 1) [.str]
      (.sem (.lookup 75 (.tmp 49) (.tmp 50) false) 3 [(49, (.sc (.atom 8))), (50, (.sc (.atom 21)))] (.sc (.int .i64)) []
      (.sem (.mapUpdate 75 (.tmp 49) (.tmp 50) (.tmp 53)) 0 [(49, (.sc (.atom 8))), (50, (.sc (.atom 21))), (53, (.sc (.ar .add .i64 (.atom 22) (.pick (.atom 19) (.int .i64 1) (.int .i64 0)))))] (.tu []) []
      (.next 13 [(.ar .add .i64 (.atom 20) (.int .i64 1))])))))
      (.call (.fn 41) [(.ag [(.atom 11), (.atom 12), (.atom 13), (.atom 14), (.atom 15), (.atom 16), (.atom 17), (.atom 18)]), (.sc (.atom 8)), (.sc (.atom 9))] (.tu []) []
      (.loop 18 [.int .i64] [(.int .i64 0)]
       (.ite (.cmp .lss (.atom 21) (.len (.atom 2)))
        (.chk [] (.inSl (.atom 2) (.atom 21))
        (.load (.elt (.atom 2) (.atom 21) 1) [.str]
        (.sem (.lookup 75 (.tmp 66) (.tmp 67) false) 3 [(66, (.sc (.atom 8))), (67, (.sc (.atom 22)))] (.sc (.int .i64)) []
        (.sem (.mapUpdate 75 (.tmp 66) (.tmp 67) (.tmp 70)) 0 [(66, (.sc (.atom 8))), (67, (.sc (.atom 22))), (70, (.sc (.ar .sub .i64 (.atom 23) (.pick (.atom 19) (.int .i64 1) (.int .i64 0)))))] (.tu []) []
        (.next 18 [(.ar .add .i64 (.atom 21) (.int .i64 1))])))))
        (.next 3 [(.ar .add .i64 (.atom 10) (.int .i64 1))])))))))))
    (.leaf (.tu []))))
  (.join 2 [.bool]
   (.ite (.atom 10)
    (.sem (.mapUpdate 75 (.tmp 28) (.tmp 30) (.const (.int .i64 1))) 0 [(28, (.sc (.atom 9))), (30, (.sc (.atom 1)))] (.tu []) []
    (.next 1 []))
    (.next 1 []))
   (.ite (.pick (.cmp .eql (.atom 0) (.int .i64 1)) (.bool true) (.cmp .eql (.atom 0) (.int .i64 2)))
    (.sem (.lookup 75 (.tmp 22) (.tmp 24) false) 3 [(22, (.sc (.atom 8))), (24, (.sc (.atom 1)))] (.sc (.int .i64)) []
    (.next 2 [(.cmp .eql (.atom 10) (.int .i64 0))]))
    (.next 2 [(.bool false)]))))
theorem fm_core_free_eq : execF Tryz.prog { pub := [], nojoin := false } Tryz.f41 = fm_core_free := by kernel_rfl
theorem cb_core_free : callB Tryz.prog 41 = true := by kernel_rfl
theorem tri_core_free : TriOf Tryz.prog 41 Tryz.f41 fm_core_free := triOf Tryz.func41 fm_core_free_eq

/-- scrimshaw/pass.Ref -/
abbrev n_pass_Ref : FuncId := 44
def fm_pass_Ref : Fm VE :=
 (.leaf (.ag [(.int .i64 1), (.atom 0), (.nil 1), (.int .i64 0), (.int .i64 0), (.str []), (.nil 1), (.nil 1)]))
theorem fm_pass_Ref_eq : execF Tryz.prog { pub := [], nojoin := false } Tryz.f44 = fm_pass_Ref := by kernel_rfl
theorem cb_pass_Ref : callB Tryz.prog 44 = true := by kernel_rfl
theorem tri_pass_Ref : TriOf Tryz.prog 44 Tryz.f44 fm_pass_Ref := triOf Tryz.func44 fm_pass_Ref_eq

/-- scrimshaw/core.check -/
abbrev n_core_check : FuncId := 45
def fm_core_check : Fm VE :=
 (.chk [] (.some (.atom 9))
 (.load (.atom 9) [.int .i64]
 (.ite (.cmp .eql (.atom 10) (.int .i64 4096))
  (.leaf (.sc (.int .i64 62)))
  (.load (.atom 9) [.int .i64]
  (.store (.atom 9) [(.ar .add .i64 (.atom 11) (.int .i64 1))]
  (.ite (.cmp .geq (.atom 8) (.int .i64 250))
   (.leaf (.sc (.int .i64 61)))
   (.call (.fn 61) [(.ag [(.atom 0), (.atom 1), (.atom 2), (.atom 3), (.atom 4), (.atom 5), (.atom 6), (.atom 7)])] (.sc (.bool)) []
   (.ite (.not (.atom 12))
    (.leaf (.sc (.int .i64 60)))
    (.loop 10 [.int .i64, .int .i64] [(.int .i64 0), (.int .i64 0)]
     (.ite (.cmp .lss (.atom 14) (.len (.atom 7)))
      (.chk [] (.inSl (.atom 7) (.atom 14))
      (.load (.elt (.atom 7) (.atom 14) 8) [.int .i64, .str, .sl, .int .i64, .int .i64, .str, .sl, .sl]
      (.call (.fn 45) [(.ag [(.atom 15), (.atom 16), (.atom 17), (.atom 18), (.atom 19), (.atom 20), (.atom 21), (.atom 22)]), (.sc (.ar .add .i64 (.atom 8) (.int .i64 1))), (.sc (.atom 9))] (.sc (.int .i64)) []
      (.ite (.cmp .neq (.atom 23) (.int .i64 0))
       (.leaf (.sc (.atom 23)))
       (.next 10 [(.atom 13), (.ar .add .i64 (.atom 14) (.int .i64 1))])))))
      (.leaf (.sc (.int .i64 0)))))))))))))
theorem fm_core_check_eq : execF Tryz.prog { pub := [], nojoin := false } Tryz.f45 = fm_core_check := by kernel_rfl
theorem cb_core_check : callB Tryz.prog 45 = true := by kernel_rfl
theorem tri_core_check : TriOf Tryz.prog 45 Tryz.f45 fm_core_check := triOf Tryz.func45 fm_core_check_eq

/-- scrimshaw/scrimshawref02.Name -/
abbrev n_scrimshawref02_Name : FuncId := 46
def fm_scrimshawref02_Name : Fm VE :=
 (.join 2 [.bool]
  (.ite (.atom 1)
   (.leaf (.sc (.bool false)))
   (.loop 5 [.bool, .int .i64] [(.bool false), (.int .i64 0)]
    (.ite (.cmp .lss (.atom 3) (.slen (.atom 0)))
     (.chk [] (.inStr (.atom 0) (.atom 3))
     (.call (.fn 63) [(.sc (.sidx (.atom 0) (.atom 3)))] (.sc (.bool)) []
     (.ite (.not (.atom 4))
      (.leaf (.sc (.bool false)))
      (.next 5 [(.atom 2), (.ar .add .i64 (.atom 3) (.int .i64 1))]))))
     (.leaf (.sc (.bool true))))))
  (.ite (.pick (.pick (.cmp .lss (.slen (.atom 0)) (.int .i64 1)) (.bool true) (.cmp .gtr (.slen (.atom 0)) (.int .i64 64))) (.bool true) (.scmp .eql (.atom 0) (.str [46])))
   (.next 2 [(.bool true)])
   (.call (.fn 62) [(.sc (.atom 0))] (.sc (.bool)) []
   (.next 2 [(.atom 1)]))))
theorem fm_scrimshawref02_Name_eq : execF Tryz.prog { pub := [], nojoin := false } Tryz.f46 = fm_scrimshawref02_Name := by kernel_rfl
theorem cb_scrimshawref02_Name : callB Tryz.prog 46 = true := by kernel_rfl
theorem tri_scrimshawref02_Name : TriOf Tryz.prog 46 Tryz.f46 fm_scrimshawref02_Name := triOf Tryz.func46 fm_scrimshawref02_Name_eq

/-- scrimshaw/scrimshawref06.Has -/
abbrev n_scrimshawref06_Has : FuncId := 47
def fm_scrimshawref06_Has : Fm VE :=
 (.loop 3 [.bool, .int .i64] [(.bool false), (.int .i64 0)]
  (.ite (.cmp .lss (.atom 3) (.len (.atom 0)))
   (.chk [] (.inSl (.atom 0) (.atom 3))
   (.load (.elt (.atom 0) (.atom 3) 1) [.str]
   (.ite (.scmp .eql (.atom 4) (.atom 1))
    (.leaf (.sc (.bool true)))
    (.next 3 [(.atom 2), (.ar .add .i64 (.atom 3) (.int .i64 1))]))))
   (.leaf (.sc (.bool false)))))
theorem fm_scrimshawref06_Has_eq : execF Tryz.prog { pub := [], nojoin := false } Tryz.f47 = fm_scrimshawref06_Has := by kernel_rfl
theorem cb_scrimshawref06_Has : callB Tryz.prog 47 = true := by kernel_rfl
theorem tri_scrimshawref06_Has : TriOf Tryz.prog 47 Tryz.f47 fm_scrimshawref06_Has := triOf Tryz.func47 fm_scrimshawref06_Has_eq

/-- scrimshaw/scrimshawref06.Binds -/
abbrev n_scrimshawref06_Binds : FuncId := 48
def fm_scrimshawref06_Binds : Fm VE :=
 (.leaf (.sc (.pick (.pick (.pick (.cmp .eql (.atom 0) (.int .i64 5)) (.bool true) (.cmp .eql (.atom 0) (.int .i64 9))) (.bool true) (.cmp .eql (.atom 0) (.int .i64 10))) (.bool true) (.pick (.cmp .eql (.atom 0) (.int .i64 8)) (.cmp .eql (.atom 8) (.ar .sub .i64 (.len (.atom 7)) (.int .i64 1))) (.bool false)))))
theorem fm_scrimshawref06_Binds_eq : execF Tryz.prog { pub := [], nojoin := false } Tryz.f48 = fm_scrimshawref06_Binds := by kernel_rfl
theorem cb_scrimshawref06_Binds : callB Tryz.prog 48 = true := by kernel_rfl
theorem tri_scrimshawref06_Binds : TriOf Tryz.prog 48 Tryz.f48 fm_scrimshawref06_Binds := triOf Tryz.func48 fm_scrimshawref06_Binds_eq

/-- scrimshaw/scrimshawref06.check -/
abbrev n_scrimshawref06_check : FuncId := 49
def fm_scrimshawref06_check : Fm VE :=
 (.ite (.cmp .eql (.atom 9) (.int .i64 4096))
  (.leaf (.tu [(false, [(.atom 9)]), (false, [(.int .i64 62)])]))
  (.ite (.cmp .geq (.atom 8) (.int .i64 250))
   (.leaf (.tu [(false, [(.ar .add .i64 (.atom 9) (.int .i64 1))]), (false, [(.int .i64 61)])]))
   (.call (.fn 64) [(.ag [(.atom 0), (.atom 1), (.atom 2), (.atom 3), (.atom 4), (.atom 5), (.atom 6), (.atom 7)])] (.sc (.bool)) []
   (.ite (.not (.atom 10))
    (.leaf (.tu [(false, [(.ar .add .i64 (.atom 9) (.int .i64 1))]), (false, [(.int .i64 60)])]))
    (.loop 11 [.int .i64, .int .i64, .int .i64, .int .i64, .int .i64] [(.ar .add .i64 (.atom 9) (.int .i64 1)), (.int .i64 0), (.int .i64 0), (.int .i64 0), (.int .i64 0)]
     (.ite (.cmp .lss (.atom 15) (.len (.atom 7)))
      (.chk [] (.inSl (.atom 7) (.atom 15))
      (.load (.elt (.atom 7) (.atom 15) 8) [.int .i64, .str, .sl, .int .i64, .int .i64, .str, .sl, .sl]
      (.call (.fn 49) [(.ag [(.atom 16), (.atom 17), (.atom 18), (.atom 19), (.atom 20), (.atom 21), (.atom 22), (.atom 23)]), (.sc (.ar .add .i64 (.atom 8) (.int .i64 1))), (.sc (.atom 11))] (.tu [(false, [.int .i64]), (false, [.int .i64])]) []
      (.ite (.cmp .neq (.atom 25) (.int .i64 0))
       (.leaf (.tu [(false, [(.atom 24)]), (false, [(.atom 25)])]))
       (.next 11 [(.atom 24), (.atom 12), (.atom 13), (.atom 25), (.ar .add .i64 (.atom 15) (.int .i64 1))])))))
      (.leaf (.tu [(false, [(.atom 11)]), (false, [(.int .i64 0)])]))))))))
theorem fm_scrimshawref06_check_eq : execF Tryz.prog { pub := [], nojoin := false } Tryz.f49 = fm_scrimshawref06_check := by kernel_rfl
theorem cb_scrimshawref06_check : callB Tryz.prog 49 = true := by kernel_rfl
theorem tri_scrimshawref06_check : TriOf Tryz.prog 49 Tryz.f49 fm_scrimshawref06_check := triOf Tryz.func49 fm_scrimshawref06_check_eq

/-- slices.Clone[[]string,string] -/
abbrev n_slices_Clone___string_string_ : FuncId := 50
def fm_slices_Clone___string_string_ : Fm VE :=
 (.ite (.isnil (.atom 0))
  (.leaf (.sc (.nil 1)))
  (.sem (.buildSlice 23 0 #[]) 23 [] (.sc (.sl)) []
  (.sem (.call ⟨.builtin .append, #[(.tmp 5), (.tmp 6)], #[23, 23]⟩) 23 [(5, (.sc (.atom 1))), (6, (.sc (.atom 0)))] (.sc (.sl)) []
  (.leaf (.sc (.atom 2))))))
theorem fm_slices_Clone___string_string__eq : execF Tryz.prog { pub := [], nojoin := false } Tryz.f50 = fm_slices_Clone___string_string_ := by kernel_rfl
theorem tri_slices_Clone___string_string_ : TriOf Tryz.prog 50 Tryz.f50 fm_slices_Clone___string_string_ := triOf Tryz.func50 fm_slices_Clone___string_string__eq

/-- scrimshaw/data.Equal -/
abbrev n_data_Equal : FuncId := 51
def fm_data_Equal : Fm VE :=
 (.join 1 [.bool]
  (.leaf (.sc (.atom 8)))
  (.ite (.pick (.pick (.cmp .eql (.atom 0) (.atom 4)) (.cmp .eql (.atom 1) (.atom 5)) (.bool false)) (.scmp .eql (.atom 2) (.atom 6)) (.bool false))
   (.call (.fn 65) [(.sc (.atom 3)), (.sc (.atom 7)), (.sc (.fn 51))] (.sc (.bool)) []
   (.next 1 [(.atom 8)]))
   (.next 1 [(.bool false)])))
theorem fm_data_Equal_eq : execF Tryz.prog { pub := [], nojoin := false } Tryz.f51 = fm_data_Equal := by kernel_rfl
theorem cb_data_Equal : callB Tryz.prog 51 = true := by kernel_rfl
theorem tri_data_Equal : TriOf Tryz.prog 51 Tryz.f51 fm_data_Equal := triOf Tryz.func51 fm_data_Equal_eq

/-- slices.Equal[[]string,string] -/
abbrev n_slices_Equal___string_string_ : FuncId := 52
def fm_slices_Equal___string_string_ : Fm VE :=
 (.ite (.cmp .neq (.len (.atom 0)) (.len (.atom 1)))
  (.leaf (.sc (.bool false)))
  (.loop 5 [.bool, .int .i64] [(.bool false), (.int .i64 0)]
   (.ite (.cmp .lss (.atom 3) (.len (.atom 0)))
    (.chk [] (.inSl (.atom 0) (.atom 3))
    (.load (.elt (.atom 0) (.atom 3) 1) [.str]
    (.chk [] (.inSl (.atom 1) (.atom 3))
    (.load (.elt (.atom 1) (.atom 3) 1) [.str]
    (.ite (.scmp .neq (.atom 4) (.atom 5))
     (.leaf (.sc (.bool false)))
     (.next 5 [(.atom 2), (.ar .add .i64 (.atom 3) (.int .i64 1))]))))))
    (.leaf (.sc (.bool true))))))
theorem fm_slices_Equal___string_string__eq : execF Tryz.prog { pub := [], nojoin := false } Tryz.f52 = fm_slices_Equal___string_string_ := by kernel_rfl
theorem cb_slices_Equal___string_string_ : callB Tryz.prog 52 = true := by kernel_rfl
theorem tri_slices_Equal___string_string_ : TriOf Tryz.prog 52 Tryz.f52 fm_slices_Equal___string_string_ := triOf Tryz.func52 fm_slices_Equal___string_string__eq

/-- slices.Grow[[]string,string] -/
abbrev n_slices_Grow___string_string_ : FuncId := 53
def fm_slices_Grow___string_string_ : Fm VE :=
 (.join 1 []
  (.join 2 [.sl, .int .i64]
   (.leaf (.sc (.atom 2)))
   (.ite (.cmp .gtr (.ar .sub .i64 (.atom 1) (.ar .sub .i64 (.cap (.atom 0)) (.len (.atom 0)))) (.int .i64 0))
    (.chk [] (.sub (.cap (.atom 0)) (.int .i64 0) (.cap (.atom 0)))
    (.sem (.call ⟨.builtin .append, #[(.tmp 20), (.tmp 21)], #[23, 3]⟩) 23 [(20, (.sc (.sls (.atom 0) (.int .i64 0) (.cap (.atom 0)) 1))), (21, (.sc (.ar .sub .i64 (.atom 1) (.ar .sub .i64 (.cap (.atom 0)) (.len (.atom 0))))))] (.sc (.sl)) []
    (.chk [] (.sub (.cap (.atom 2)) (.int .i64 0) (.len (.atom 0)))
    (.next 2 [(.sls (.atom 2) (.int .i64 0) (.len (.atom 0)) 1), (.ar .sub .i64 (.atom 1) (.ar .sub .i64 (.cap (.atom 0)) (.len (.atom 0))))]))))
    (.next 2 [(.atom 0), (.ar .sub .i64 (.atom 1) (.ar .sub .i64 (.cap (.atom 0)) (.len (.atom 0))))])))
  (.ite (.cmp .lss (.atom 1) (.int .i64 0))
   (.sem (.makeInterface 9 (.const (.string ⟨#[99, 97, 110, 110, 111, 116, 32, 98, 101, 32, 110, 101, 103, 97, 116, 105, 118, 101]⟩))) 20 [] (.sc (.any)) []
   (.sem (.panic (.tmp 7)) 0 [(7, (.sc (.atom 2)))] (.tu []) []
   (.next 1 [])))
   (.next 1 [])))
theorem fm_slices_Grow___string_string__eq : execF Tryz.prog { pub := [], nojoin := false } Tryz.f53 = fm_slices_Grow___string_string_ := by kernel_rfl
theorem tri_slices_Grow___string_string_ : TriOf Tryz.prog 53 Tryz.f53 fm_slices_Grow___string_string_ := triOf Tryz.func53 fm_slices_Grow___string_string__eq

/-- scrimshaw/data.isName -/
abbrev n_data_isName : FuncId := 54
def fm_data_isName : Fm VE :=
 (.join 1 [.bool]
  (.leaf (.sc (.atom 1)))
  (.call (.fn 66) [(.sc (.atom 0))] (.sc (.bool)) []
  (.ite (.pick (.pick (.atom 1) (.bool true) (.pick (.cmp .geq (.atom 0) (.int .u8 97)) (.cmp .leq (.atom 0) (.int .u8 122)) (.bool false))) (.bool true) (.pick (.cmp .geq (.atom 0) (.int .u8 65)) (.cmp .leq (.atom 0) (.int .u8 90)) (.bool false)))
   (.next 1 [(.bool true)])
   (.call (.fn 67) [(.sc (.str [33, 36, 37, 38, 42, 47, 58, 60, 61, 62, 63, 94, 95, 126, 43, 45, 46, 64])), (.sc (.atom 0))] (.sc (.int .i64)) []
   (.next 1 [(.cmp .geq (.atom 2) (.int .i64 0))])))))
theorem fm_data_isName_eq : execF Tryz.prog { pub := [], nojoin := false } Tryz.f54 = fm_data_isName := by kernel_rfl
theorem cb_data_isName : callB Tryz.prog 54 = true := by kernel_rfl
theorem tri_data_isName : TriOf Tryz.prog 54 Tryz.f54 fm_data_isName := triOf Tryz.func54 fm_data_isName_eq

/-- scrimshaw/data.isNumber -/
abbrev n_data_isNumber : FuncId := 55
def fm_data_isNumber : Fm VE :=
 (.join 1 [.str]
  (.loop 4 [.bool, .int .i64] [(.bool false), (.int .i64 0)]
   (.ite (.cmp .lss (.atom 3) (.slen (.atom 1)))
    (.chk [] (.inStr (.atom 1) (.atom 3))
    (.call (.fn 66) [(.sc (.sidx (.atom 1) (.atom 3)))] (.sc (.bool)) []
    (.ite (.not (.atom 4))
     (.leaf (.sc (.bool false)))
     (.next 4 [(.atom 2), (.ar .add .i64 (.atom 3) (.int .i64 1))]))))
    (.leaf (.sc (.scmp .neq (.atom 1) (.str []))))))
  (.chk [((.scmp .neq (.atom 0) (.str [])), true)] (.inStr (.atom 0) (.int .i64 0))
  (.chk [((.scmp .neq (.atom 0) (.str [])), true), ((.cmp .eql (.sidx (.atom 0) (.int .i64 0)) (.int .u8 43)), false)] (.inStr (.atom 0) (.int .i64 0))
  (.ite (.pick (.scmp .neq (.atom 0) (.str [])) (.pick (.cmp .eql (.sidx (.atom 0) (.int .i64 0)) (.int .u8 43)) (.bool true) (.cmp .eql (.sidx (.atom 0) (.int .i64 0)) (.int .u8 45))) (.bool false))
   (.chk [] (.sub (.slen (.atom 0)) (.int .i64 1) (.slen (.atom 0)))
   (.next 1 [(.ssub (.atom 0) (.int .i64 1) (.slen (.atom 0)))]))
   (.next 1 [(.atom 0)])))))
theorem fm_data_isNumber_eq : execF Tryz.prog { pub := [], nojoin := false } Tryz.f55 = fm_data_isNumber := by kernel_rfl
theorem cb_data_isNumber : callB Tryz.prog 55 = true := by kernel_rfl
theorem tri_data_isNumber : TriOf Tryz.prog 55 Tryz.f55 fm_data_isNumber := triOf Tryz.func55 fm_data_isNumber_eq

/-- slices.Index[[]string,string] -/
abbrev n_slices_Index___string_string_ : FuncId := 56
def fm_slices_Index___string_string_ : Fm VE :=
 (.loop 3 [.int .i64, .int .i64] [(.int .i64 0), (.int .i64 0)]
  (.ite (.cmp .lss (.atom 3) (.len (.atom 0)))
   (.chk [] (.inSl (.atom 0) (.atom 3))
   (.load (.elt (.atom 0) (.atom 3) 1) [.str]
   (.ite (.scmp .eql (.atom 1) (.atom 4))
    (.leaf (.sc (.atom 3)))
    (.next 3 [(.atom 2), (.ar .add .i64 (.atom 3) (.int .i64 1))]))))
   (.leaf (.sc (.int .i64 (-1))))))
theorem fm_slices_Index___string_string__eq : execF Tryz.prog { pub := [], nojoin := false } Tryz.f56 = fm_slices_Index___string_string_ := by kernel_rfl
theorem cb_slices_Index___string_string_ : callB Tryz.prog 56 = true := by kernel_rfl
theorem tri_slices_Index___string_string_ : TriOf Tryz.prog 56 Tryz.f56 fm_slices_Index___string_string_ := triOf Tryz.func56 fm_slices_Index___string_string__eq

/-- scrimshaw/core.binds -/
abbrev n_core_binds : FuncId := 57
def fm_core_binds : Fm VE :=
 (.join 3 [.bool]
  (.ite (.atom 9)
   (.leaf (.sc (.bool true)))
   (.ite (.cmp .eql (.atom 0) (.int .i64 8))
    (.leaf (.sc (.cmp .eql (.atom 8) (.ar .sub .i64 (.len (.atom 7)) (.int .i64 1)))))
    (.leaf (.sc (.bool false)))))
  (.ite (.cmp .eql (.atom 0) (.int .i64 5))
   (.next 3 [(.cmp .eql (.atom 0) (.int .i64 5))])
   (.next 3 [(.pick (.cmp .eql (.atom 0) (.int .i64 9)) (.cmp .eql (.atom 0) (.int .i64 9)) (.cmp .eql (.atom 0) (.int .i64 10)))])))
theorem fm_core_binds_eq : execF Tryz.prog { pub := [], nojoin := false } Tryz.f57 = fm_core_binds := by kernel_rfl
theorem cb_core_binds : callB Tryz.prog 57 = true := by kernel_rfl
theorem tri_core_binds : TriOf Tryz.prog 57 Tryz.f57 fm_core_binds := triOf Tryz.func57 fm_core_binds_eq

/-- scrimshaw/core.form -/
abbrev n_core_form : FuncId := 61
def fm_core_form : Fm VE :=
 (.call (.fn 71) [(.ag [(.atom 0), (.atom 1), (.atom 2), (.atom 3), (.atom 4), (.atom 5), (.atom 6), (.atom 7)])] (.tu [(true, [.bool, .bool, .int .i64, .int .i64]), (false, [.bool])]) []
 (.join 3 [.bool]
  (.ite (.atom 13)
   (.leaf (.sc (.bool false)))
   (.join 5 [.bool]
    (.ite (.atom 14)
     (.leaf (.sc (.bool false)))
     (.ite (.cmp .eql (.atom 0) (.int .i64 0))
      (.call (.fn 73) [(.ag [(.atom 3), (.atom 4), (.atom 5), (.atom 6)])] (.sc (.bool)) []
      (.leaf (.sc (.atom 15))))
      (.join 8 [.bool]
       (.join 9 [.bool]
        (.leaf (.sc (.atom 16)))
        (.ite (.atom 15)
         (.call (.fn 51) [(.ag [(.atom 3), (.atom 4), (.atom 5), (.atom 6)]), (.ag [(.int .i64 0), (.int .i64 0), (.str []), (.nil 1)])] (.sc (.bool)) []
         (.next 9 [(.atom 16)]))
         (.next 9 [(.bool false)])))
       (.chk [((.cmp .neq (.atom 0) (.int .i64 10)), false)] (.sub (.cap (.atom 7)) (.int .i64 0) (.len (.atom 2)))
       (.ite (.cmp .neq (.atom 0) (.int .i64 10))
        (.next 8 [(.bool true)])
        (.call (.fn 74) [(.sc (.sls (.atom 7) (.int .i64 0) (.len (.atom 2)) 8)), (.sc (.fn 75))] (.sc (.bool)) []
        (.next 8 [(.not (.atom 15))])))))))
    (.ite (.pick (.atom 8) (.cmp .neq (.atom 0) (.int .i64 7)) (.bool false))
     (.call (.fn 38) [(.sc (.atom 1))] (.sc (.bool)) []
     (.next 5 [(.pick (.not (.atom 14)) (.bool true) (.pick (.not (.atom 8)) (.scmp .neq (.atom 1) (.str [])) (.bool false)))]))
     (.next 5 [(.pick (.not (.atom 8)) (.scmp .neq (.atom 1) (.str [])) (.bool false))]))))
  (.ite (.pick (.pick (.pick (.not (.atom 12)) (.bool true) (.cmp .lss (.len (.atom 7)) (.atom 10))) (.bool true) (.cmp .gtr (.len (.atom 7)) (.atom 11))) (.bool true) (.pick (.cmp .gtr (.len (.atom 2)) (.int .i64 0)) (.not (.atom 9)) (.bool false)))
   (.next 3 [(.bool true)])
   (.call (.fn 72) [(.sc (.atom 2))] (.sc (.bool)) []
   (.next 3 [(.not (.atom 13))])))))
theorem fm_core_form_eq : execF Tryz.prog { pub := [], nojoin := false } Tryz.f61 = fm_core_form := by kernel_rfl
theorem cb_core_form : callB Tryz.prog 61 = true := by kernel_rfl
theorem tri_core_form : TriOf Tryz.prog 61 Tryz.f61 fm_core_form := triOf Tryz.func61 fm_core_form_eq

/-- scrimshaw/scrimshawref02.Number -/
abbrev n_scrimshawref02_Number : FuncId := 62
def fm_scrimshawref02_Number : Fm VE :=
 (.chk [((.cmp .gtr (.slen (.atom 0)) (.int .i64 0)), true)] (.inStr (.atom 0) (.int .i64 0))
 (.chk [((.cmp .gtr (.slen (.atom 0)) (.int .i64 0)), true), ((.cmp .eql (.sidx (.atom 0) (.int .i64 0)) (.int .u8 43)), false)] (.inStr (.atom 0) (.int .i64 0))
 (.loop 6 [.bool, .int .i64] [(.bool false), (.pick (.pick (.cmp .gtr (.slen (.atom 0)) (.int .i64 0)) (.pick (.cmp .eql (.sidx (.atom 0) (.int .i64 0)) (.int .u8 43)) (.bool true) (.cmp .eql (.sidx (.atom 0) (.int .i64 0)) (.int .u8 45))) (.bool false)) (.int .i64 1) (.int .i64 0))]
  (.ite (.cmp .lss (.atom 2) (.slen (.atom 0)))
   (.chk [] (.inStr (.atom 0) (.atom 2))
   (.call (.fn 76) [(.sc (.sidx (.atom 0) (.atom 2)))] (.sc (.bool)) []
   (.ite (.not (.atom 3))
    (.leaf (.sc (.bool false)))
    (.next 6 [(.atom 1), (.ar .add .i64 (.atom 2) (.int .i64 1))]))))
   (.leaf (.sc (.cmp .gtr (.slen (.atom 0)) (.pick (.pick (.cmp .gtr (.slen (.atom 0)) (.int .i64 0)) (.pick (.cmp .eql (.sidx (.atom 0) (.int .i64 0)) (.int .u8 43)) (.bool true) (.cmp .eql (.sidx (.atom 0) (.int .i64 0)) (.int .u8 45))) (.bool false)) (.int .i64 1) (.int .i64 0)))))))))
theorem fm_scrimshawref02_Number_eq : execF Tryz.prog { pub := [], nojoin := false } Tryz.f62 = fm_scrimshawref02_Number := by kernel_rfl
theorem cb_scrimshawref02_Number : callB Tryz.prog 62 = true := by kernel_rfl
theorem tri_scrimshawref02_Number : TriOf Tryz.prog 62 Tryz.f62 fm_scrimshawref02_Number := triOf Tryz.func62 fm_scrimshawref02_Number_eq

/-- scrimshaw/scrimshawref02.Byte -/
abbrev n_scrimshawref02_Byte : FuncId := 63
def fm_scrimshawref02_Byte : Fm VE :=
 (.call (.fn 76) [(.sc (.atom 0))] (.sc (.bool)) []
 (.ite (.pick (.pick (.atom 1) (.bool true) (.pick (.cmp .geq (.atom 0) (.int .u8 97)) (.cmp .leq (.atom 0) (.int .u8 122)) (.bool false))) (.bool true) (.pick (.cmp .geq (.atom 0) (.int .u8 65)) (.cmp .leq (.atom 0) (.int .u8 90)) (.bool false)))
  (.leaf (.sc (.bool true)))
  (.loop 6 [.bool, .int .i64] [(.bool false), (.int .i64 0)]
   (.ite (.cmp .lss (.atom 3) (.int .i64 18))
    (.chk [] (.inStr (.str [33, 36, 37, 38, 42, 47, 58, 60, 61, 62, 63, 94, 95, 126, 43, 45, 46, 64]) (.atom 3))
    (.ite (.cmp .eql (.sidx (.str [33, 36, 37, 38, 42, 47, 58, 60, 61, 62, 63, 94, 95, 126, 43, 45, 46, 64]) (.atom 3)) (.atom 0))
     (.leaf (.sc (.bool true)))
     (.next 6 [(.atom 2), (.ar .add .i64 (.atom 3) (.int .i64 1))])))
    (.leaf (.sc (.bool false)))))))
theorem fm_scrimshawref02_Byte_eq : execF Tryz.prog { pub := [], nojoin := false } Tryz.f63 = fm_scrimshawref02_Byte := by kernel_rfl
theorem cb_scrimshawref02_Byte : callB Tryz.prog 63 = true := by kernel_rfl
theorem tri_scrimshawref02_Byte : TriOf Tryz.prog 63 Tryz.f63 fm_scrimshawref02_Byte := triOf Tryz.func63 fm_scrimshawref02_Byte_eq

/-- scrimshaw/scrimshawref06.form -/
abbrev n_scrimshawref06_form : FuncId := 64
def fm_scrimshawref06_form : Fm VE :=
 (.ite (.cmp .eql (.atom 0) (.int .i64 0))
  (.join 3 [.bool]
   (.leaf (.sc (.atom 8)))
   (.ite (.pick (.pick (.scmp .eql (.atom 1) (.str [])) (.cmp .eql (.len (.atom 2)) (.int .i64 0)) (.bool false)) (.cmp .eql (.len (.atom 7)) (.int .i64 0)) (.bool false))
    (.call (.fn 77) [(.ag [(.atom 3), (.atom 4), (.atom 5), (.atom 6)])] (.sc (.bool)) []
    (.next 3 [(.atom 8)]))
    (.next 3 [(.bool false)])))
  (.join 4 [.bool]
   (.ite (.atom 8)
    (.leaf (.sc (.bool false)))
    (.call (.fn 46) [(.sc (.atom 1))] (.sc (.bool)) []
    (.ite (.cmp .eql (.atom 0) (.int .i64 1))
     (.leaf (.sc (.pick (.pick (.atom 9) (.cmp .eql (.len (.atom 2)) (.int .i64 0)) (.bool false)) (.cmp .eql (.len (.atom 7)) (.int .i64 0)) (.bool false))))
     (.ite (.cmp .eql (.atom 0) (.int .i64 2))
      (.leaf (.sc (.pick (.pick (.atom 9) (.cmp .eql (.len (.atom 2)) (.int .i64 0)) (.bool false)) (.cmp .eql (.len (.atom 7)) (.int .i64 1)) (.bool false))))
      (.ite (.cmp .eql (.atom 0) (.int .i64 3))
       (.leaf (.sc (.pick (.pick (.scmp .eql (.atom 1) (.str [])) (.cmp .eql (.len (.atom 2)) (.int .i64 0)) (.bool false)) (.cmp .eql (.len (.atom 7)) (.int .i64 3)) (.bool false))))
       (.ite (.cmp .eql (.atom 0) (.int .i64 4))
        (.leaf (.sc (.pick (.pick (.scmp .eql (.atom 1) (.str [])) (.cmp .eql (.len (.atom 2)) (.int .i64 0)) (.bool false)) (.cmp .geq (.len (.atom 7)) (.int .i64 2)) (.bool false))))
        (.ite (.cmp .eql (.atom 0) (.int .i64 5))
         (.leaf (.sc (.pick (.pick (.scmp .eql (.atom 1) (.str [])) (.cmp .leq (.len (.atom 2)) (.int .i64 6)) (.bool false)) (.cmp .eql (.len (.atom 7)) (.int .i64 1)) (.bool false))))
         (.ite (.cmp .eql (.atom 0) (.int .i64 6))
          (.leaf (.sc (.pick (.pick (.pick (.scmp .eql (.atom 1) (.str [])) (.cmp .eql (.len (.atom 2)) (.int .i64 0)) (.bool false)) (.cmp .geq (.len (.atom 7)) (.int .i64 1)) (.bool false)) (.cmp .leq (.len (.atom 7)) (.int .i64 7)) (.bool false))))
          (.ite (.cmp .eql (.atom 0) (.int .i64 7))
           (.join 18 [.bool]
            (.leaf (.sc (.atom 10)))
            (.ite (.cmp .eql (.len (.atom 2)) (.int .i64 0))
             (.call (.fn 79) [(.sc (.atom 1))] (.sc (.int .i64)) []
             (.next 18 [(.cmp .eql (.atom 10) (.len (.atom 7)))]))
             (.next 18 [(.bool false)])))
           (.ite (.pick (.cmp .eql (.atom 0) (.int .i64 8)) (.cmp .eql (.atom 0) (.int .i64 8)) (.cmp .eql (.atom 0) (.int .i64 9)))
            (.leaf (.sc (.pick (.scmp .eql (.atom 1) (.str [])) (.cmp .eql (.len (.atom 7)) (.ar .add .i64 (.len (.atom 2)) (.int .i64 1))) (.bool false))))
            (.ite (.cmp .eql (.atom 0) (.int .i64 10))
             (.ite (.pick (.pick (.scmp .neq (.atom 1) (.str [])) (.bool true) (.cmp .lss (.len (.atom 2)) (.int .i64 1))) (.bool true) (.cmp .neq (.len (.atom 7)) (.ar .add .i64 (.len (.atom 2)) (.int .i64 1))))
              (.leaf (.sc (.bool false)))
              (.loop 25 [.bool, .int .i64] [(.bool false), (.int .i64 0)]
               (.ite (.cmp .lss (.atom 11) (.len (.atom 2)))
                (.chk [] (.inSl (.atom 7) (.atom 11))
                (.load (.padd (.elt (.atom 7) (.atom 11) 8) 0) [.int .i64]
                (.ite (.cmp .neq (.atom 12) (.int .i64 5))
                 (.leaf (.sc (.bool false)))
                 (.next 25 [(.atom 10), (.ar .add .i64 (.atom 11) (.int .i64 1))]))))
                (.leaf (.sc (.bool true))))))
             (.leaf (.sc (.bool false))))))))))))))
   (.call (.fn 29) [(.ag [(.atom 3), (.atom 4), (.atom 5), (.atom 6)]), (.ag [(.int .i64 0), (.int .i64 0), (.str []), (.nil 1)])] (.sc (.bool)) []
   (.ite (.not (.atom 8))
    (.next 4 [(.bool true)])
    (.call (.fn 78) [(.sc (.atom 2))] (.sc (.bool)) []
    (.next 4 [(.not (.atom 9))]))))))
theorem fm_scrimshawref06_form_eq : execF Tryz.prog { pub := [], nojoin := false } Tryz.f64 = fm_scrimshawref06_form := by kernel_rfl
theorem cb_scrimshawref06_form : callB Tryz.prog 64 = true := by kernel_rfl
theorem tri_scrimshawref06_form : TriOf Tryz.prog 64 Tryz.f64 fm_scrimshawref06_form := triOf Tryz.func64 fm_scrimshawref06_form_eq

/-- slices.EqualFunc[[]scrimshaw/api.Datum,[]scrimshaw/api.Datum,scrimshaw/api.Datum,scrimshaw/api.Datum] -/
abbrev n_slices_EqualFunc___api_Datum___api_Datum_api_Datum_api_Datum_ : FuncId := 65
def fm_slices_EqualFunc___api_Datum___api_Datum_api_Datum_api_Datum_ : Fm VE :=
 (.ite (.cmp .neq (.len (.atom 0)) (.len (.atom 1)))
  (.leaf (.sc (.bool false)))
  (.loop 5 [.bool, .int .i64] [(.bool false), (.int .i64 0)]
   (.ite (.cmp .lss (.atom 4) (.len (.atom 0)))
    (.chk [] (.inSl (.atom 0) (.atom 4))
    (.load (.elt (.atom 0) (.atom 4) 4) [.int .i64, .int .i64, .str, .sl]
    (.chk [] (.inSl (.atom 1) (.atom 4))
    (.load (.elt (.atom 1) (.atom 4) 4) [.int .i64, .int .i64, .str, .sl]
    (.call (.atom 2) [(.ag [(.atom 5), (.atom 6), (.atom 7), (.atom 8)]), (.ag [(.atom 9), (.atom 10), (.atom 11), (.atom 12)])] (.sc (.bool)) []
    (.ite (.not (.atom 13))
     (.leaf (.sc (.bool false)))
     (.next 5 [(.atom 3), (.ar .add .i64 (.atom 4) (.int .i64 1))])))))))
    (.leaf (.sc (.bool true))))))
theorem fm_slices_EqualFunc___api_Datum___api_Datum_api_Datum_api_Datum__eq : execF Tryz.prog { pub := [], nojoin := false } Tryz.f65 = fm_slices_EqualFunc___api_Datum___api_Datum_api_Datum_api_Datum_ := by kernel_rfl
theorem cb_slices_EqualFunc___api_Datum___api_Datum_api_Datum_api_Datum_ : callB Tryz.prog 65 = true := by kernel_rfl
theorem tri_slices_EqualFunc___api_Datum___api_Datum_api_Datum_api_Datum_ : TriOf Tryz.prog 65 Tryz.f65 fm_slices_EqualFunc___api_Datum___api_Datum_api_Datum_api_Datum_ := triOf Tryz.func65 fm_slices_EqualFunc___api_Datum___api_Datum_api_Datum_api_Datum__eq

/-- scrimshaw/data.isDigit -/
abbrev n_data_isDigit : FuncId := 66
def fm_data_isDigit : Fm VE :=
 (.leaf (.sc (.pick (.cmp .geq (.atom 0) (.int .u8 48)) (.cmp .leq (.atom 0) (.int .u8 57)) (.bool false))))
theorem fm_data_isDigit_eq : execF Tryz.prog { pub := [], nojoin := false } Tryz.f66 = fm_data_isDigit := by kernel_rfl
theorem cb_data_isDigit : callB Tryz.prog 66 = true := by kernel_rfl
theorem tri_data_isDigit : TriOf Tryz.prog 66 Tryz.f66 fm_data_isDigit := triOf Tryz.func66 fm_data_isDigit_eq

/-- strings.IndexByte -/
abbrev n_strings_IndexByte : FuncId := 67
theorem cb_strings_IndexByte : callB Tryz.prog 67 = true := by kernel_rfl
/-- scrimshaw/core.shaped -/
abbrev n_core_shaped : FuncId := 71
def fm_core_shaped : Fm VE :=
 (.ite (.cmp .eql (.atom 0) (.int .i64 0))
  (.leaf (.tu [(true, [(.bool false), (.bool false), (.int .i64 0), (.int .i64 0)]), (false, [(.bool true)])]))
  (.ite (.cmp .eql (.atom 0) (.int .i64 1))
   (.leaf (.tu [(true, [(.bool true), (.bool false), (.int .i64 0), (.int .i64 0)]), (false, [(.bool true)])]))
   (.ite (.cmp .eql (.atom 0) (.int .i64 2))
    (.leaf (.tu [(true, [(.bool true), (.bool false), (.int .i64 1), (.int .i64 1)]), (false, [(.bool true)])]))
    (.ite (.cmp .eql (.atom 0) (.int .i64 3))
     (.leaf (.tu [(true, [(.bool false), (.bool false), (.int .i64 3), (.int .i64 3)]), (false, [(.bool true)])]))
     (.ite (.cmp .eql (.atom 0) (.int .i64 4))
      (.leaf (.tu [(true, [(.bool false), (.bool false), (.int .i64 2), (.int .i64 4096)]), (false, [(.bool true)])]))
      (.ite (.cmp .eql (.atom 0) (.int .i64 5))
       (.leaf (.tu [(true, [(.bool false), (.bool true), (.int .i64 1), (.int .i64 1)]), (false, [(.cmp .leq (.len (.atom 2)) (.int .i64 6))])]))
       (.ite (.cmp .eql (.atom 0) (.int .i64 6))
        (.leaf (.tu [(true, [(.bool false), (.bool false), (.int .i64 1), (.int .i64 7)]), (false, [(.bool true)])]))
        (.ite (.cmp .eql (.atom 0) (.int .i64 7))
         (.call (.fn 92) [(.sc (.atom 1))] (.sc (.int .i64)) []
         (.leaf (.tu [(true, [(.bool true), (.bool false), (.atom 8), (.atom 8)]), (false, [(.cmp .geq (.atom 8) (.int .i64 0))])])))
         (.ite (.pick (.cmp .eql (.atom 0) (.int .i64 8)) (.cmp .eql (.atom 0) (.int .i64 8)) (.cmp .eql (.atom 0) (.int .i64 9)))
          (.leaf (.tu [(true, [(.bool false), (.bool true), (.ar .add .i64 (.len (.atom 2)) (.int .i64 1)), (.ar .add .i64 (.len (.atom 2)) (.int .i64 1))]), (false, [(.bool true)])]))
          (.ite (.cmp .eql (.atom 0) (.int .i64 10))
           (.leaf (.tu [(true, [(.bool false), (.bool true), (.ar .add .i64 (.len (.atom 2)) (.int .i64 1)), (.ar .add .i64 (.len (.atom 2)) (.int .i64 1))]), (false, [(.cmp .gtr (.len (.atom 2)) (.int .i64 0))])]))
           (.leaf (.tu [(true, [(.bool false), (.bool false), (.int .i64 0), (.int .i64 0)]), (false, [(.bool false)])]))))))))))))
theorem fm_core_shaped_eq : execF Tryz.prog { pub := [], nojoin := false } Tryz.f71 = fm_core_shaped := by kernel_rfl
theorem cb_core_shaped : callB Tryz.prog 71 = true := by kernel_rfl
theorem tri_core_shaped : TriOf Tryz.prog 71 Tryz.f71 fm_core_shaped := triOf Tryz.func71 fm_core_shaped_eq

/-- scrimshaw/core.names -/
abbrev n_core_names : FuncId := 72
def fm_core_names : Fm VE :=
 (.loop 3 [.bool, .int .i64] [(.bool false), (.int .i64 0)]
  (.ite (.cmp .lss (.atom 2) (.len (.atom 0)))
   (.chk [] (.inSl (.atom 0) (.atom 2))
   (.load (.elt (.atom 0) (.atom 2) 1) [.str]
   (.join 8 [.bool]
    (.ite (.atom 4)
     (.leaf (.sc (.bool false)))
     (.next 3 [(.atom 1), (.ar .add .i64 (.atom 2) (.int .i64 1))]))
    (.call (.fn 38) [(.sc (.atom 3))] (.sc (.bool)) []
    (.chk [((.not (.atom 4)), false)] (.sub (.cap (.atom 0)) (.int .i64 0) (.atom 2))
    (.ite (.not (.atom 4))
     (.next 8 [(.bool true)])
     (.call (.fn 39) [(.sc (.sls (.atom 0) (.int .i64 0) (.atom 2) 1)), (.sc (.atom 3))] (.sc (.bool)) []
     (.next 8 [(.atom 5)]))))))))
   (.leaf (.sc (.bool true)))))
theorem fm_core_names_eq : execF Tryz.prog { pub := [], nojoin := false } Tryz.f72 = fm_core_names := by kernel_rfl
theorem cb_core_names : callB Tryz.prog 72 = true := by kernel_rfl
theorem tri_core_names : TriOf Tryz.prog 72 Tryz.f72 fm_core_names := triOf Tryz.func72 fm_core_names_eq

/-- scrimshaw/core.isConst -/
abbrev n_core_isConst : FuncId := 73
def fm_core_isConst : Fm VE :=
 (.call (.fn 93) [(.ag [(.atom 0), (.atom 1), (.atom 2), (.atom 3)])] (.sc (.int .i64)) []
 (.leaf (.sc (.pick (.pick (.cmp .eql (.atom 4) (.int .i64 0)) (.cmp .neq (.atom 0) (.int .i64 3)) (.bool false)) (.pick (.cmp .lss (.atom 0) (.int .i64 5)) (.bool true) (.pick (.cmp .eql (.atom 0) (.int .i64 5)) (.cmp .eql (.len (.atom 3)) (.int .i64 0)) (.bool false))) (.bool false)))))
theorem fm_core_isConst_eq : execF Tryz.prog { pub := [], nojoin := false } Tryz.f73 = fm_core_isConst := by kernel_rfl
theorem cb_core_isConst : callB Tryz.prog 73 = true := by kernel_rfl
theorem tri_core_isConst : TriOf Tryz.prog 73 Tryz.f73 fm_core_isConst := triOf Tryz.func73 fm_core_isConst_eq

/-- slices.ContainsFunc[[]scrimshaw/api.Expr,scrimshaw/api.Expr] -/
abbrev n_slices_ContainsFunc___api_Expr_api_Expr_ : FuncId := 74
def fm_slices_ContainsFunc___api_Expr_api_Expr_ : Fm VE :=
 (.call (.fn 94) [(.sc (.atom 0)), (.sc (.atom 1))] (.sc (.int .i64)) []
 (.leaf (.sc (.cmp .geq (.atom 2) (.int .i64 0)))))
theorem fm_slices_ContainsFunc___api_Expr_api_Expr__eq : execF Tryz.prog { pub := [], nojoin := false } Tryz.f74 = fm_slices_ContainsFunc___api_Expr_api_Expr_ := by kernel_rfl
theorem cb_slices_ContainsFunc___api_Expr_api_Expr_ : callB Tryz.prog 74 = true := by kernel_rfl
theorem tri_slices_ContainsFunc___api_Expr_api_Expr_ : TriOf Tryz.prog 74 Tryz.f74 fm_slices_ContainsFunc___api_Expr_api_Expr_ := triOf Tryz.func74 fm_slices_ContainsFunc___api_Expr_api_Expr__eq

/-- scrimshaw/core.form$1 -/
abbrev n_core_form_1 : FuncId := 75
def fm_core_form_1 : Fm VE :=
 (.leaf (.sc (.cmp .neq (.atom 0) (.int .i64 5))))
theorem fm_core_form_1_eq : execF Tryz.prog { pub := [], nojoin := false } Tryz.f75 = fm_core_form_1 := by kernel_rfl
theorem cb_core_form_1 : callB Tryz.prog 75 = true := by kernel_rfl
theorem tri_core_form_1 : TriOf Tryz.prog 75 Tryz.f75 fm_core_form_1 := triOf Tryz.func75 fm_core_form_1_eq

/-- scrimshaw/scrimshawref02.Digit -/
abbrev n_scrimshawref02_Digit : FuncId := 76
def fm_scrimshawref02_Digit : Fm VE :=
 (.leaf (.sc (.pick (.cmp .geq (.atom 0) (.int .u8 48)) (.cmp .leq (.atom 0) (.int .u8 57)) (.bool false))))
theorem fm_scrimshawref02_Digit_eq : execF Tryz.prog { pub := [], nojoin := false } Tryz.f76 = fm_scrimshawref02_Digit := by kernel_rfl
theorem cb_scrimshawref02_Digit : callB Tryz.prog 76 = true := by kernel_rfl
theorem tri_scrimshawref02_Digit : TriOf Tryz.prog 76 Tryz.f76 fm_scrimshawref02_Digit := triOf Tryz.func76 fm_scrimshawref02_Digit_eq

/-- scrimshaw/scrimshawref06.Const -/
abbrev n_scrimshawref06_Const : FuncId := 77
def fm_scrimshawref06_Const : Fm VE :=
 (.call (.fn 95) [(.ag [(.atom 0), (.atom 1), (.atom 2), (.atom 3)])] (.sc (.int .i64)) []
 (.ite (.cmp .neq (.atom 4) (.int .i64 0))
  (.leaf (.sc (.bool false)))
  (.leaf (.sc (.pick (.pick (.pick (.pick (.cmp .eql (.atom 0) (.int .i64 0)) (.bool true) (.cmp .eql (.atom 0) (.int .i64 1))) (.bool true) (.cmp .eql (.atom 0) (.int .i64 2))) (.bool true) (.cmp .eql (.atom 0) (.int .i64 4))) (.bool true) (.pick (.cmp .eql (.atom 0) (.int .i64 5)) (.cmp .eql (.len (.atom 3)) (.int .i64 0)) (.bool false)))))))
theorem fm_scrimshawref06_Const_eq : execF Tryz.prog { pub := [], nojoin := false } Tryz.f77 = fm_scrimshawref06_Const := by kernel_rfl
theorem cb_scrimshawref06_Const : callB Tryz.prog 77 = true := by kernel_rfl
theorem tri_scrimshawref06_Const : TriOf Tryz.prog 77 Tryz.f77 fm_scrimshawref06_Const := triOf Tryz.func77 fm_scrimshawref06_Const_eq

/-- scrimshaw/scrimshawref06.names -/
abbrev n_scrimshawref06_names : FuncId := 78
def fm_scrimshawref06_names : Fm VE :=
 (.loop 3 [.bool, .int .i64] [(.bool false), (.int .i64 0)]
  (.ite (.cmp .lss (.atom 2) (.len (.atom 0)))
   (.join 7 [.bool]
    (.ite (.atom 3)
     (.leaf (.sc (.bool false)))
     (.next 3 [(.atom 1), (.ar .add .i64 (.atom 2) (.int .i64 1))]))
    (.chk [] (.inSl (.atom 0) (.atom 2))
    (.load (.elt (.atom 0) (.atom 2) 1) [.str]
    (.call (.fn 46) [(.sc (.atom 3))] (.sc (.bool)) []
    (.chk [((.not (.atom 4)), false)] (.sub (.cap (.atom 0)) (.int .i64 0) (.atom 2))
    (.ite (.not (.atom 4))
     (.next 7 [(.bool true)])
     (.load (.elt (.atom 0) (.atom 2) 1) [.str]
     (.call (.fn 47) [(.sc (.sls (.atom 0) (.int .i64 0) (.atom 2) 1)), (.sc (.atom 5))] (.sc (.bool)) []
     (.next 7 [(.atom 6)])))))))))
   (.leaf (.sc (.bool true)))))
theorem fm_scrimshawref06_names_eq : execF Tryz.prog { pub := [], nojoin := false } Tryz.f78 = fm_scrimshawref06_names := by kernel_rfl
theorem cb_scrimshawref06_names : callB Tryz.prog 78 = true := by kernel_rfl
theorem tri_scrimshawref06_names : TriOf Tryz.prog 78 Tryz.f78 fm_scrimshawref06_names := triOf Tryz.func78 fm_scrimshawref06_names_eq

/-- scrimshaw/scrimshawref06.Arity -/
abbrev n_scrimshawref06_Arity : FuncId := 79
def fm_scrimshawref06_Arity : Fm VE :=
 (.join 3 [.bool]
  (.ite (.atom 1)
   (.leaf (.sc (.int .i64 0)))
   (.join 4 [.bool]
    (.ite (.atom 2)
     (.leaf (.sc (.int .i64 1)))
     (.join 5 [.bool]
      (.ite (.atom 3)
       (.leaf (.sc (.int .i64 1)))
       (.join 6 [.bool]
        (.ite (.atom 4)
         (.leaf (.sc (.int .i64 2)))
         (.join 7 [.bool]
          (.ite (.atom 5)
           (.leaf (.sc (.int .i64 2)))
           (.ite (.pick (.scmp .eql (.atom 0) (.str [118, 101, 99, 116, 111, 114, 45, 115, 101, 116, 33])) (.scmp .eql (.atom 0) (.str [118, 101, 99, 116, 111, 114, 45, 115, 101, 116, 33])) (.scmp .eql (.atom 0) (.str [115, 116, 114, 105, 110, 103, 45, 115, 101, 116, 33])))
            (.leaf (.sc (.int .i64 3)))
            (.leaf (.sc (.int .i64 (-1))))))
          (.ite (.scmp .eql (.atom 0) (.str [109, 97, 107, 101, 45, 118, 101, 99, 116, 111, 114]))
           (.next 7 [(.scmp .eql (.atom 0) (.str [109, 97, 107, 101, 45, 118, 101, 99, 116, 111, 114]))])
           (.ite (.scmp .eql (.atom 0) (.str [118, 101, 99, 116, 111, 114, 45, 114, 101, 102]))
            (.next 7 [(.scmp .eql (.atom 0) (.str [118, 101, 99, 116, 111, 114, 45, 114, 101, 102]))])
            (.ite (.scmp .eql (.atom 0) (.str [109, 97, 107, 101, 45, 115, 116, 114, 105, 110, 103]))
             (.next 7 [(.scmp .eql (.atom 0) (.str [109, 97, 107, 101, 45, 115, 116, 114, 105, 110, 103]))])
             (.next 7 [(.pick (.scmp .eql (.atom 0) (.str [115, 116, 114, 105, 110, 103, 45, 114, 101, 102])) (.scmp .eql (.atom 0) (.str [115, 116, 114, 105, 110, 103, 45, 114, 101, 102])) (.scmp .eql (.atom 0) (.str [37, 115, 101, 116, 45, 98, 111, 120, 33])))]))))))
        (.ite (.scmp .eql (.atom 0) (.str [43]))
         (.next 6 [(.scmp .eql (.atom 0) (.str [43]))])
         (.ite (.scmp .eql (.atom 0) (.str [45]))
          (.next 6 [(.scmp .eql (.atom 0) (.str [45]))])
          (.ite (.scmp .eql (.atom 0) (.str [42]))
           (.next 6 [(.scmp .eql (.atom 0) (.str [42]))])
           (.ite (.scmp .eql (.atom 0) (.str [113, 117, 111, 116, 105, 101, 110, 116]))
            (.next 6 [(.scmp .eql (.atom 0) (.str [113, 117, 111, 116, 105, 101, 110, 116]))])
            (.ite (.scmp .eql (.atom 0) (.str [114, 101, 109, 97, 105, 110, 100, 101, 114]))
             (.next 6 [(.scmp .eql (.atom 0) (.str [114, 101, 109, 97, 105, 110, 100, 101, 114]))])
             (.ite (.scmp .eql (.atom 0) (.str [60]))
              (.next 6 [(.scmp .eql (.atom 0) (.str [60]))])
              (.ite (.scmp .eql (.atom 0) (.str [61]))
               (.next 6 [(.scmp .eql (.atom 0) (.str [61]))])
               (.ite (.scmp .eql (.atom 0) (.str [101, 113, 63]))
                (.next 6 [(.scmp .eql (.atom 0) (.str [101, 113, 63]))])
                (.ite (.scmp .eql (.atom 0) (.str [99, 111, 110, 115]))
                 (.next 6 [(.scmp .eql (.atom 0) (.str [99, 111, 110, 115]))])
                 (.next 6 [(.pick (.scmp .eql (.atom 0) (.str [115, 101, 116, 45, 99, 97, 114, 33])) (.scmp .eql (.atom 0) (.str [115, 101, 116, 45, 99, 97, 114, 33])) (.scmp .eql (.atom 0) (.str [115, 101, 116, 45, 99, 100, 114, 33])))]))))))))))))
      (.ite (.scmp .eql (.atom 0) (.str [99, 97, 114]))
       (.next 5 [(.scmp .eql (.atom 0) (.str [99, 97, 114]))])
       (.ite (.scmp .eql (.atom 0) (.str [99, 100, 114]))
        (.next 5 [(.scmp .eql (.atom 0) (.str [99, 100, 114]))])
        (.ite (.scmp .eql (.atom 0) (.str [118, 101, 99, 116, 111, 114, 45, 108, 101, 110, 103, 116, 104]))
         (.next 5 [(.scmp .eql (.atom 0) (.str [118, 101, 99, 116, 111, 114, 45, 108, 101, 110, 103, 116, 104]))])
         (.ite (.scmp .eql (.atom 0) (.str [115, 116, 114, 105, 110, 103, 45, 108, 101, 110, 103, 116, 104]))
          (.next 5 [(.scmp .eql (.atom 0) (.str [115, 116, 114, 105, 110, 103, 45, 108, 101, 110, 103, 116, 104]))])
          (.ite (.scmp .eql (.atom 0) (.str [99, 104, 97, 114, 45, 62, 105, 110, 116, 101, 103, 101, 114]))
           (.next 5 [(.scmp .eql (.atom 0) (.str [99, 104, 97, 114, 45, 62, 105, 110, 116, 101, 103, 101, 114]))])
           (.ite (.scmp .eql (.atom 0) (.str [105, 110, 116, 101, 103, 101, 114, 45, 62, 99, 104, 97, 114]))
            (.next 5 [(.scmp .eql (.atom 0) (.str [105, 110, 116, 101, 103, 101, 114, 45, 62, 99, 104, 97, 114]))])
            (.ite (.scmp .eql (.atom 0) (.str [119, 114, 105, 116, 101, 45, 117, 56]))
             (.next 5 [(.scmp .eql (.atom 0) (.str [119, 114, 105, 116, 101, 45, 117, 56]))])
             (.ite (.scmp .eql (.atom 0) (.str [37, 98, 111, 120]))
              (.next 5 [(.scmp .eql (.atom 0) (.str [37, 98, 111, 120]))])
              (.ite (.scmp .eql (.atom 0) (.str [37, 117, 110, 98, 111, 120]))
               (.next 5 [(.scmp .eql (.atom 0) (.str [37, 117, 110, 98, 111, 120]))])
               (.next 5 [(.pick (.scmp .eql (.atom 0) (.str [37, 119, 105, 110, 100, 33])) (.scmp .eql (.atom 0) (.str [37, 119, 105, 110, 100, 33])) (.scmp .eql (.atom 0) (.str [37, 99, 97, 108, 108, 99, 99])))]))))))))))))
    (.ite (.scmp .eql (.atom 0) (.str [110, 117, 108, 108, 63]))
     (.next 4 [(.scmp .eql (.atom 0) (.str [110, 117, 108, 108, 63]))])
     (.ite (.scmp .eql (.atom 0) (.str [112, 97, 105, 114, 63]))
      (.next 4 [(.scmp .eql (.atom 0) (.str [112, 97, 105, 114, 63]))])
      (.ite (.scmp .eql (.atom 0) (.str [118, 101, 99, 116, 111, 114, 63]))
       (.next 4 [(.scmp .eql (.atom 0) (.str [118, 101, 99, 116, 111, 114, 63]))])
       (.ite (.scmp .eql (.atom 0) (.str [115, 116, 114, 105, 110, 103, 63]))
        (.next 4 [(.scmp .eql (.atom 0) (.str [115, 116, 114, 105, 110, 103, 63]))])
        (.ite (.scmp .eql (.atom 0) (.str [115, 121, 109, 98, 111, 108, 63]))
         (.next 4 [(.scmp .eql (.atom 0) (.str [115, 121, 109, 98, 111, 108, 63]))])
         (.ite (.scmp .eql (.atom 0) (.str [99, 104, 97, 114, 63]))
          (.next 4 [(.scmp .eql (.atom 0) (.str [99, 104, 97, 114, 63]))])
          (.ite (.scmp .eql (.atom 0) (.str [105, 110, 116, 101, 103, 101, 114, 63]))
           (.next 4 [(.scmp .eql (.atom 0) (.str [105, 110, 116, 101, 103, 101, 114, 63]))])
           (.ite (.scmp .eql (.atom 0) (.str [98, 111, 111, 108, 101, 97, 110, 63]))
            (.next 4 [(.scmp .eql (.atom 0) (.str [98, 111, 111, 108, 101, 97, 110, 63]))])
            (.next 4 [(.pick (.scmp .eql (.atom 0) (.str [112, 114, 111, 99, 101, 100, 117, 114, 101, 63])) (.scmp .eql (.atom 0) (.str [112, 114, 111, 99, 101, 100, 117, 114, 101, 63])) (.scmp .eql (.atom 0) (.str [101, 111, 102, 45, 111, 98, 106, 101, 99, 116, 63])))])))))))))))
  (.ite (.scmp .eql (.atom 0) (.str [114, 101, 97, 100, 45, 117, 56]))
   (.next 3 [(.scmp .eql (.atom 0) (.str [114, 101, 97, 100, 45, 117, 56]))])
   (.ite (.scmp .eql (.atom 0) (.str [101, 114, 114, 111, 114]))
    (.next 3 [(.scmp .eql (.atom 0) (.str [101, 114, 114, 111, 114]))])
    (.ite (.scmp .eql (.atom 0) (.str [118, 111, 105, 100]))
     (.next 3 [(.scmp .eql (.atom 0) (.str [118, 111, 105, 100]))])
     (.next 3 [(.pick (.scmp .eql (.atom 0) (.str [37, 119, 105, 110, 100, 101, 114, 115])) (.scmp .eql (.atom 0) (.str [37, 119, 105, 110, 100, 101, 114, 115])) (.scmp .eql (.atom 0) (.str [37, 117, 110, 115, 101, 116])))])))))
theorem fm_scrimshawref06_Arity_eq : execF Tryz.prog { pub := [], nojoin := false } Tryz.f79 = fm_scrimshawref06_Arity := by kernel_rfl
theorem cb_scrimshawref06_Arity : callB Tryz.prog 79 = true := by kernel_rfl
theorem tri_scrimshawref06_Arity : TriOf Tryz.prog 79 Tryz.f79 fm_scrimshawref06_Arity := triOf Tryz.func79 fm_scrimshawref06_Arity_eq

/-- scrimshaw/core.Arity -/
abbrev n_core_Arity : FuncId := 92
def fm_core_Arity : Fm VE :=
 (.join 3 [.bool]
  (.ite (.atom 1)
   (.leaf (.sc (.int .i64 0)))
   (.join 4 [.bool]
    (.ite (.atom 2)
     (.leaf (.sc (.int .i64 1)))
     (.join 5 [.bool]
      (.ite (.atom 3)
       (.leaf (.sc (.int .i64 2)))
       (.ite (.pick (.scmp .eql (.atom 0) (.str [118, 101, 99, 116, 111, 114, 45, 115, 101, 116, 33])) (.scmp .eql (.atom 0) (.str [118, 101, 99, 116, 111, 114, 45, 115, 101, 116, 33])) (.scmp .eql (.atom 0) (.str [115, 116, 114, 105, 110, 103, 45, 115, 101, 116, 33])))
        (.leaf (.sc (.int .i64 3)))
        (.leaf (.sc (.int .i64 (-1))))))
      (.ite (.scmp .eql (.atom 0) (.str [43]))
       (.next 5 [(.scmp .eql (.atom 0) (.str [43]))])
       (.ite (.scmp .eql (.atom 0) (.str [45]))
        (.next 5 [(.scmp .eql (.atom 0) (.str [45]))])
        (.ite (.scmp .eql (.atom 0) (.str [42]))
         (.next 5 [(.scmp .eql (.atom 0) (.str [42]))])
         (.ite (.scmp .eql (.atom 0) (.str [113, 117, 111, 116, 105, 101, 110, 116]))
          (.next 5 [(.scmp .eql (.atom 0) (.str [113, 117, 111, 116, 105, 101, 110, 116]))])
          (.ite (.scmp .eql (.atom 0) (.str [114, 101, 109, 97, 105, 110, 100, 101, 114]))
           (.next 5 [(.scmp .eql (.atom 0) (.str [114, 101, 109, 97, 105, 110, 100, 101, 114]))])
           (.ite (.scmp .eql (.atom 0) (.str [60]))
            (.next 5 [(.scmp .eql (.atom 0) (.str [60]))])
            (.ite (.scmp .eql (.atom 0) (.str [61]))
             (.next 5 [(.scmp .eql (.atom 0) (.str [61]))])
             (.ite (.scmp .eql (.atom 0) (.str [101, 113, 63]))
              (.next 5 [(.scmp .eql (.atom 0) (.str [101, 113, 63]))])
              (.ite (.scmp .eql (.atom 0) (.str [99, 111, 110, 115]))
               (.next 5 [(.scmp .eql (.atom 0) (.str [99, 111, 110, 115]))])
               (.ite (.scmp .eql (.atom 0) (.str [115, 101, 116, 45, 99, 97, 114, 33]))
                (.next 5 [(.scmp .eql (.atom 0) (.str [115, 101, 116, 45, 99, 97, 114, 33]))])
                (.ite (.scmp .eql (.atom 0) (.str [115, 101, 116, 45, 99, 100, 114, 33]))
                 (.next 5 [(.scmp .eql (.atom 0) (.str [115, 101, 116, 45, 99, 100, 114, 33]))])
                 (.ite (.scmp .eql (.atom 0) (.str [109, 97, 107, 101, 45, 118, 101, 99, 116, 111, 114]))
                  (.next 5 [(.scmp .eql (.atom 0) (.str [109, 97, 107, 101, 45, 118, 101, 99, 116, 111, 114]))])
                  (.ite (.scmp .eql (.atom 0) (.str [118, 101, 99, 116, 111, 114, 45, 114, 101, 102]))
                   (.next 5 [(.scmp .eql (.atom 0) (.str [118, 101, 99, 116, 111, 114, 45, 114, 101, 102]))])
                   (.ite (.scmp .eql (.atom 0) (.str [109, 97, 107, 101, 45, 115, 116, 114, 105, 110, 103]))
                    (.next 5 [(.scmp .eql (.atom 0) (.str [109, 97, 107, 101, 45, 115, 116, 114, 105, 110, 103]))])
                    (.next 5 [(.pick (.scmp .eql (.atom 0) (.str [115, 116, 114, 105, 110, 103, 45, 114, 101, 102])) (.scmp .eql (.atom 0) (.str [115, 116, 114, 105, 110, 103, 45, 114, 101, 102])) (.scmp .eql (.atom 0) (.str [37, 115, 101, 116, 45, 98, 111, 120, 33])))])))))))))))))))))
    (.ite (.scmp .eql (.atom 0) (.str [110, 117, 108, 108, 63]))
     (.next 4 [(.scmp .eql (.atom 0) (.str [110, 117, 108, 108, 63]))])
     (.ite (.scmp .eql (.atom 0) (.str [112, 97, 105, 114, 63]))
      (.next 4 [(.scmp .eql (.atom 0) (.str [112, 97, 105, 114, 63]))])
      (.ite (.scmp .eql (.atom 0) (.str [118, 101, 99, 116, 111, 114, 63]))
       (.next 4 [(.scmp .eql (.atom 0) (.str [118, 101, 99, 116, 111, 114, 63]))])
       (.ite (.scmp .eql (.atom 0) (.str [115, 116, 114, 105, 110, 103, 63]))
        (.next 4 [(.scmp .eql (.atom 0) (.str [115, 116, 114, 105, 110, 103, 63]))])
        (.ite (.scmp .eql (.atom 0) (.str [115, 121, 109, 98, 111, 108, 63]))
         (.next 4 [(.scmp .eql (.atom 0) (.str [115, 121, 109, 98, 111, 108, 63]))])
         (.ite (.scmp .eql (.atom 0) (.str [99, 104, 97, 114, 63]))
          (.next 4 [(.scmp .eql (.atom 0) (.str [99, 104, 97, 114, 63]))])
          (.ite (.scmp .eql (.atom 0) (.str [105, 110, 116, 101, 103, 101, 114, 63]))
           (.next 4 [(.scmp .eql (.atom 0) (.str [105, 110, 116, 101, 103, 101, 114, 63]))])
           (.ite (.scmp .eql (.atom 0) (.str [98, 111, 111, 108, 101, 97, 110, 63]))
            (.next 4 [(.scmp .eql (.atom 0) (.str [98, 111, 111, 108, 101, 97, 110, 63]))])
            (.ite (.scmp .eql (.atom 0) (.str [112, 114, 111, 99, 101, 100, 117, 114, 101, 63]))
             (.next 4 [(.scmp .eql (.atom 0) (.str [112, 114, 111, 99, 101, 100, 117, 114, 101, 63]))])
             (.ite (.scmp .eql (.atom 0) (.str [101, 111, 102, 45, 111, 98, 106, 101, 99, 116, 63]))
              (.next 4 [(.scmp .eql (.atom 0) (.str [101, 111, 102, 45, 111, 98, 106, 101, 99, 116, 63]))])
              (.ite (.scmp .eql (.atom 0) (.str [99, 97, 114]))
               (.next 4 [(.scmp .eql (.atom 0) (.str [99, 97, 114]))])
               (.ite (.scmp .eql (.atom 0) (.str [99, 100, 114]))
                (.next 4 [(.scmp .eql (.atom 0) (.str [99, 100, 114]))])
                (.ite (.scmp .eql (.atom 0) (.str [118, 101, 99, 116, 111, 114, 45, 108, 101, 110, 103, 116, 104]))
                 (.next 4 [(.scmp .eql (.atom 0) (.str [118, 101, 99, 116, 111, 114, 45, 108, 101, 110, 103, 116, 104]))])
                 (.ite (.scmp .eql (.atom 0) (.str [115, 116, 114, 105, 110, 103, 45, 108, 101, 110, 103, 116, 104]))
                  (.next 4 [(.scmp .eql (.atom 0) (.str [115, 116, 114, 105, 110, 103, 45, 108, 101, 110, 103, 116, 104]))])
                  (.ite (.scmp .eql (.atom 0) (.str [99, 104, 97, 114, 45, 62, 105, 110, 116, 101, 103, 101, 114]))
                   (.next 4 [(.scmp .eql (.atom 0) (.str [99, 104, 97, 114, 45, 62, 105, 110, 116, 101, 103, 101, 114]))])
                   (.ite (.scmp .eql (.atom 0) (.str [105, 110, 116, 101, 103, 101, 114, 45, 62, 99, 104, 97, 114]))
                    (.next 4 [(.scmp .eql (.atom 0) (.str [105, 110, 116, 101, 103, 101, 114, 45, 62, 99, 104, 97, 114]))])
                    (.ite (.scmp .eql (.atom 0) (.str [119, 114, 105, 116, 101, 45, 117, 56]))
                     (.next 4 [(.scmp .eql (.atom 0) (.str [119, 114, 105, 116, 101, 45, 117, 56]))])
                     (.ite (.scmp .eql (.atom 0) (.str [37, 98, 111, 120]))
                      (.next 4 [(.scmp .eql (.atom 0) (.str [37, 98, 111, 120]))])
                      (.ite (.scmp .eql (.atom 0) (.str [37, 117, 110, 98, 111, 120]))
                       (.next 4 [(.scmp .eql (.atom 0) (.str [37, 117, 110, 98, 111, 120]))])
                       (.next 4 [(.pick (.scmp .eql (.atom 0) (.str [37, 119, 105, 110, 100, 33])) (.scmp .eql (.atom 0) (.str [37, 119, 105, 110, 100, 33])) (.scmp .eql (.atom 0) (.str [37, 99, 97, 108, 108, 99, 99])))]))))))))))))))))))))))
  (.ite (.scmp .eql (.atom 0) (.str [114, 101, 97, 100, 45, 117, 56]))
   (.next 3 [(.scmp .eql (.atom 0) (.str [114, 101, 97, 100, 45, 117, 56]))])
   (.ite (.scmp .eql (.atom 0) (.str [101, 114, 114, 111, 114]))
    (.next 3 [(.scmp .eql (.atom 0) (.str [101, 114, 114, 111, 114]))])
    (.ite (.scmp .eql (.atom 0) (.str [118, 111, 105, 100]))
     (.next 3 [(.scmp .eql (.atom 0) (.str [118, 111, 105, 100]))])
     (.next 3 [(.pick (.scmp .eql (.atom 0) (.str [37, 119, 105, 110, 100, 101, 114, 115])) (.scmp .eql (.atom 0) (.str [37, 119, 105, 110, 100, 101, 114, 115])) (.scmp .eql (.atom 0) (.str [37, 117, 110, 115, 101, 116])))])))))
theorem fm_core_Arity_eq : execF Tryz.prog { pub := [], nojoin := false } Tryz.f92 = fm_core_Arity := by kernel_rfl
theorem cb_core_Arity : callB Tryz.prog 92 = true := by kernel_rfl
theorem tri_core_Arity : TriOf Tryz.prog 92 Tryz.f92 fm_core_Arity := triOf Tryz.func92 fm_core_Arity_eq

/-- scrimshaw/data.Check -/
abbrev n_data_Check : FuncId := 93
def fm_data_Check : Fm VE :=
 (.new 127 [(.int .i64 0)]
 (.call (.fn 103) [(.sc (.atom 4)), (.ag [(.atom 0), (.atom 1), (.atom 2), (.atom 3)]), (.sc (.int .i64 0))] (.sc (.int .i64)) []
 (.leaf (.sc (.atom 5)))))
theorem fm_data_Check_eq : execF Tryz.prog { pub := [3], nojoin := false } Tryz.f93 = fm_data_Check := by kernel_rfl
theorem cb_data_Check : callB Tryz.prog 93 = true := by kernel_rfl
theorem tri_data_Check : TriOf Tryz.prog 93 Tryz.f93 fm_data_Check := triOf Tryz.func93 fm_data_Check_eq

/-- slices.IndexFunc[[]scrimshaw/api.Expr,scrimshaw/api.Expr] -/
abbrev n_slices_IndexFunc___api_Expr_api_Expr_ : FuncId := 94
def fm_slices_IndexFunc___api_Expr_api_Expr_ : Fm VE :=
 (.loop 3 [.int .i64, .int .i64] [(.int .i64 0), (.int .i64 0)]
  (.ite (.cmp .lss (.atom 3) (.len (.atom 0)))
   (.chk [] (.inSl (.atom 0) (.atom 3))
   (.load (.elt (.atom 0) (.atom 3) 8) [.int .i64, .str, .sl, .int .i64, .int .i64, .str, .sl, .sl]
   (.call (.atom 1) [(.ag [(.atom 4), (.atom 5), (.atom 6), (.atom 7), (.atom 8), (.atom 9), (.atom 10), (.atom 11)])] (.sc (.bool)) []
   (.ite (.atom 12)
    (.leaf (.sc (.atom 3)))
    (.next 3 [(.atom 2), (.ar .add .i64 (.atom 3) (.int .i64 1))])))))
   (.leaf (.sc (.int .i64 (-1))))))
theorem fm_slices_IndexFunc___api_Expr_api_Expr__eq : execF Tryz.prog { pub := [], nojoin := false } Tryz.f94 = fm_slices_IndexFunc___api_Expr_api_Expr_ := by kernel_rfl
theorem cb_slices_IndexFunc___api_Expr_api_Expr_ : callB Tryz.prog 94 = true := by kernel_rfl
theorem tri_slices_IndexFunc___api_Expr_api_Expr_ : TriOf Tryz.prog 94 Tryz.f94 fm_slices_IndexFunc___api_Expr_api_Expr_ := triOf Tryz.func94 fm_slices_IndexFunc___api_Expr_api_Expr__eq

/-- scrimshaw/scrimshawref02.Check -/
abbrev n_scrimshawref02_Check : FuncId := 95
def fm_scrimshawref02_Check : Fm VE :=
 (.call (.fn 104) [(.ag [(.atom 0), (.atom 1), (.atom 2), (.atom 3)]), (.sc (.int .i64 0)), (.sc (.int .i64 0))] (.tu [(false, [.int .i64]), (false, [.int .i64])]) []
 (.leaf (.sc (.atom 5))))
theorem fm_scrimshawref02_Check_eq : execF Tryz.prog { pub := [], nojoin := false } Tryz.f95 = fm_scrimshawref02_Check := by kernel_rfl
theorem cb_scrimshawref02_Check : callB Tryz.prog 95 = true := by kernel_rfl
theorem tri_scrimshawref02_Check : TriOf Tryz.prog 95 Tryz.f95 fm_scrimshawref02_Check := triOf Tryz.func95 fm_scrimshawref02_Check_eq

/-- (*scrimshaw/data.checker).check -/
abbrev n_data_checker__check : FuncId := 103
def fm_data_checker__check : Fm VE :=
 (.chk [] (.some (.atom 0))
 (.load (.padd (.atom 0) 0) [.int .i64]
 (.ite (.cmp .eql (.atom 6) (.int .i64 4096))
  (.leaf (.sc (.int .i64 22)))
  (.load (.padd (.atom 0) 0) [.int .i64]
  (.store (.padd (.atom 0) 0) [(.ar .add .i64 (.atom 7) (.int .i64 1))]
  (.call (.fn 106) [(.ag [(.atom 1), (.atom 2), (.atom 3), (.atom 4)])] (.sc (.bool)) []
  (.ite (.pick (.atom 8) (.cmp .eql (.atom 5) (.int .i64 32)) (.bool false))
   (.leaf (.sc (.int .i64 21)))
   (.call (.fn 107) [(.ag [(.atom 1), (.atom 2), (.atom 3), (.atom 4)])] (.sc (.bool)) []
   (.ite (.not (.atom 9))
    (.leaf (.sc (.int .i64 20)))
    (.loop 10 [.int .i64, .int .i64] [(.int .i64 0), (.int .i64 0)]
     (.ite (.cmp .lss (.atom 11) (.len (.atom 4)))
      (.chk [] (.inSl (.atom 4) (.atom 11))
      (.load (.elt (.atom 4) (.atom 11) 4) [.int .i64, .int .i64, .str, .sl]
      (.call (.fn 103) [(.sc (.atom 0)), (.ag [(.atom 12), (.atom 13), (.atom 14), (.atom 15)]), (.sc (.ar .add .i64 (.atom 5) (.int .i64 1)))] (.sc (.int .i64)) []
      (.ite (.cmp .neq (.atom 16) (.int .i64 0))
       (.leaf (.sc (.atom 16)))
       (.next 10 [(.atom 10), (.ar .add .i64 (.atom 11) (.int .i64 1))])))))
      (.leaf (.sc (.int .i64 0))))))))))))))
theorem fm_data_checker__check_eq : execF Tryz.prog { pub := [], nojoin := false } Tryz.f103 = fm_data_checker__check := by kernel_rfl
theorem cb_data_checker__check : callB Tryz.prog 103 = true := by kernel_rfl
theorem tri_data_checker__check : TriOf Tryz.prog 103 Tryz.f103 fm_data_checker__check := triOf Tryz.func103 fm_data_checker__check_eq

/-- scrimshaw/scrimshawref02.check -/
abbrev n_scrimshawref02_check : FuncId := 104
def fm_scrimshawref02_check : Fm VE :=
 (.ite (.cmp .eql (.atom 5) (.int .i64 4096))
  (.leaf (.tu [(false, [(.atom 5)]), (false, [(.int .i64 22)])]))
  (.call (.fn 108) [(.ag [(.atom 0), (.atom 1), (.atom 2), (.atom 3)])] (.sc (.bool)) []
  (.ite (.pick (.atom 6) (.cmp .eql (.atom 4) (.int .i64 32)) (.bool false))
   (.leaf (.tu [(false, [(.ar .add .i64 (.atom 5) (.int .i64 1))]), (false, [(.int .i64 21)])]))
   (.call (.fn 109) [(.ag [(.atom 0), (.atom 1), (.atom 2), (.atom 3)])] (.sc (.bool)) []
   (.ite (.not (.atom 7))
    (.leaf (.tu [(false, [(.ar .add .i64 (.atom 5) (.int .i64 1))]), (false, [(.int .i64 20)])]))
    (.loop 11 [.int .i64, .int .i64, .int .i64, .int .i64, .int .i64] [(.ar .add .i64 (.atom 5) (.int .i64 1)), (.int .i64 0), (.int .i64 0), (.int .i64 0), (.int .i64 0)]
     (.ite (.cmp .lss (.atom 12) (.len (.atom 3)))
      (.chk [] (.inSl (.atom 3) (.atom 12))
      (.load (.elt (.atom 3) (.atom 12) 4) [.int .i64, .int .i64, .str, .sl]
      (.call (.fn 104) [(.ag [(.atom 13), (.atom 14), (.atom 15), (.atom 16)]), (.sc (.ar .add .i64 (.atom 4) (.int .i64 1))), (.sc (.atom 8))] (.tu [(false, [.int .i64]), (false, [.int .i64])]) []
      (.ite (.cmp .neq (.atom 18) (.int .i64 0))
       (.leaf (.tu [(false, [(.atom 17)]), (false, [(.atom 18)])]))
       (.next 11 [(.atom 17), (.atom 9), (.atom 10), (.atom 18), (.ar .add .i64 (.atom 12) (.int .i64 1))])))))
      (.leaf (.tu [(false, [(.atom 8)]), (false, [(.int .i64 0)])])))))))))
theorem fm_scrimshawref02_check_eq : execF Tryz.prog { pub := [], nojoin := false } Tryz.f104 = fm_scrimshawref02_check := by kernel_rfl
theorem cb_scrimshawref02_check : callB Tryz.prog 104 = true := by kernel_rfl
theorem tri_scrimshawref02_check : TriOf Tryz.prog 104 Tryz.f104 fm_scrimshawref02_check := triOf Tryz.func104 fm_scrimshawref02_check_eq

/-- scrimshaw/data.hasItems -/
abbrev n_data_hasItems : FuncId := 106
def fm_data_hasItems : Fm VE :=
 (.leaf (.sc (.pick (.cmp .geq (.atom 0) (.int .i64 5)) (.cmp .leq (.atom 0) (.int .i64 7)) (.bool false))))
theorem fm_data_hasItems_eq : execF Tryz.prog { pub := [], nojoin := false } Tryz.f106 = fm_data_hasItems := by kernel_rfl
theorem cb_data_hasItems : callB Tryz.prog 106 = true := by kernel_rfl
theorem tri_data_hasItems : TriOf Tryz.prog 106 Tryz.f106 fm_data_hasItems := triOf Tryz.func106 fm_data_hasItems_eq

/-- scrimshaw/data.form -/
abbrev n_data_form : FuncId := 107
def fm_data_form : Fm VE :=
 (.join 2 [.int .i64, .str]
  (.join 4 [.bool]
   (.ite (.atom 6)
    (.leaf (.sc (.bool false)))
    (.ite (.cmp .eql (.atom 0) (.int .i64 4))
     (.call (.fn 38) [(.sc (.atom 2))] (.sc (.bool)) []
     (.leaf (.sc (.atom 7))))
     (.ite (.cmp .eql (.atom 0) (.int .i64 6))
      (.join 9 [.bool]
       (.leaf (.sc (.atom 7)))
       (.chk [((.cmp .gtr (.len (.atom 3)) (.int .i64 1)), true)] (.inSl (.atom 3) (.ar .sub .i64 (.len (.atom 3)) (.int .i64 1)))
       (.chk [((.cmp .gtr (.len (.atom 3)) (.int .i64 1)), true)] (.some (.elt (.atom 3) (.ar .sub .i64 (.len (.atom 3)) (.int .i64 1)) 4))
       (.ite (.cmp .gtr (.len (.atom 3)) (.int .i64 1))
        (.load (.padd (.elt (.atom 3) (.ar .sub .i64 (.len (.atom 3)) (.int .i64 1)) 4) 0) [.int .i64]
        (.chk [((.cmp .neq (.atom 7) (.int .i64 5)), true)] (.inSl (.atom 3) (.ar .sub .i64 (.len (.atom 3)) (.int .i64 1)))
        (.chk [((.cmp .neq (.atom 7) (.int .i64 5)), true)] (.some (.elt (.atom 3) (.ar .sub .i64 (.len (.atom 3)) (.int .i64 1)) 4))
        (.ite (.cmp .neq (.atom 7) (.int .i64 5))
         (.load (.padd (.elt (.atom 3) (.ar .sub .i64 (.len (.atom 3)) (.int .i64 1)) 4) 0) [.int .i64]
         (.next 9 [(.cmp .neq (.atom 8) (.int .i64 6))]))
         (.next 9 [(.bool false)])))))
        (.next 9 [(.bool false)])))))
      (.leaf (.sc (.pick (.cmp .geq (.atom 0) (.int .i64 0)) (.cmp .lss (.atom 0) (.int .i64 8)) (.bool false)))))))
   (.ite (.pick (.cmp .neq (.atom 1) (.atom 4)) (.bool true) (.scmp .neq (.atom 2) (.atom 5)))
    (.next 4 [(.bool true)])
    (.ite (.cmp .gtr (.len (.atom 3)) (.int .i64 0))
     (.call (.fn 106) [(.ag [(.atom 0), (.atom 1), (.atom 2), (.atom 3)])] (.sc (.bool)) []
     (.next 4 [(.not (.atom 6))]))
     (.next 4 [(.bool false)]))))
  (.ite (.cmp .eql (.atom 0) (.int .i64 0))
   (.next 2 [(.ar .and .i64 (.atom 1) (.int .i64 1)), (.str [])])
   (.ite (.cmp .eql (.atom 0) (.int .i64 1))
    (.next 2 [(.pick (.cmp .lss (.int .i64 1152921504606846975) (.pick (.cmp .gtr (.int .i64 (-1152921504606846976)) (.atom 1)) (.int .i64 (-1152921504606846976)) (.atom 1))) (.int .i64 1152921504606846975) (.pick (.cmp .gtr (.int .i64 (-1152921504606846976)) (.atom 1)) (.int .i64 (-1152921504606846976)) (.atom 1))), (.str [])])
    (.ite (.cmp .eql (.atom 0) (.int .i64 2))
     (.next 2 [(.ar .and .i64 (.atom 1) (.int .i64 255)), (.str [])])
     (.ite (.cmp .eql (.atom 0) (.int .i64 3))
      (.chk [] (.sub (.slen (.atom 2)) (.int .i64 0) (.pick (.cmp .lss (.int .i64 4096) (.slen (.atom 2))) (.int .i64 4096) (.slen (.atom 2))))
      (.next 2 [(.int .i64 0), (.ssub (.atom 2) (.int .i64 0) (.pick (.cmp .lss (.int .i64 4096) (.slen (.atom 2))) (.int .i64 4096) (.slen (.atom 2))))]))
      (.next 2 [(.int .i64 0), (.pick (.cmp .eql (.atom 0) (.int .i64 4)) (.atom 2) (.str []))]))))))
theorem fm_data_form_eq : execF Tryz.prog { pub := [], nojoin := false } Tryz.f107 = fm_data_form := by kernel_rfl
theorem cb_data_form : callB Tryz.prog 107 = true := by kernel_rfl
theorem tri_data_form : TriOf Tryz.prog 107 Tryz.f107 fm_data_form := triOf Tryz.func107 fm_data_form_eq

/-- scrimshaw/scrimshawref02.Nested -/
abbrev n_scrimshawref02_Nested : FuncId := 108
def fm_scrimshawref02_Nested : Fm VE :=
 (.leaf (.sc (.pick (.pick (.cmp .eql (.atom 0) (.int .i64 5)) (.bool true) (.cmp .eql (.atom 0) (.int .i64 6))) (.bool true) (.cmp .eql (.atom 0) (.int .i64 7)))))
theorem fm_scrimshawref02_Nested_eq : execF Tryz.prog { pub := [], nojoin := false } Tryz.f108 = fm_scrimshawref02_Nested := by kernel_rfl
theorem cb_scrimshawref02_Nested : callB Tryz.prog 108 = true := by kernel_rfl
theorem tri_scrimshawref02_Nested : TriOf Tryz.prog 108 Tryz.f108 fm_scrimshawref02_Nested := triOf Tryz.func108 fm_scrimshawref02_Nested_eq

/-- scrimshaw/scrimshawref02.form -/
abbrev n_scrimshawref02_form : FuncId := 109
def fm_scrimshawref02_form : Fm VE :=
 (.ite (.cmp .eql (.atom 0) (.int .i64 0))
  (.leaf (.sc (.pick (.pick (.scmp .eql (.atom 2) (.str [])) (.cmp .eql (.len (.atom 3)) (.int .i64 0)) (.bool false)) (.pick (.cmp .eql (.atom 1) (.int .i64 0)) (.bool true) (.cmp .eql (.atom 1) (.int .i64 1))) (.bool false))))
  (.ite (.cmp .eql (.atom 0) (.int .i64 1))
   (.leaf (.sc (.pick (.pick (.pick (.scmp .eql (.atom 2) (.str [])) (.cmp .eql (.len (.atom 3)) (.int .i64 0)) (.bool false)) (.cmp .geq (.atom 1) (.int .i64 (-1152921504606846976))) (.bool false)) (.cmp .lss (.atom 1) (.int .i64 1152921504606846976)) (.bool false))))
   (.ite (.cmp .eql (.atom 0) (.int .i64 2))
    (.leaf (.sc (.pick (.pick (.pick (.scmp .eql (.atom 2) (.str [])) (.cmp .eql (.len (.atom 3)) (.int .i64 0)) (.bool false)) (.cmp .geq (.atom 1) (.int .i64 0)) (.bool false)) (.cmp .leq (.atom 1) (.int .i64 255)) (.bool false))))
    (.ite (.cmp .eql (.atom 0) (.int .i64 3))
     (.leaf (.sc (.pick (.pick (.cmp .eql (.atom 1) (.int .i64 0)) (.cmp .eql (.len (.atom 3)) (.int .i64 0)) (.bool false)) (.cmp .leq (.slen (.atom 2)) (.int .i64 4096)) (.bool false))))
     (.ite (.cmp .eql (.atom 0) (.int .i64 4))
      (.join 10 [.bool]
       (.leaf (.sc (.atom 4)))
       (.ite (.pick (.cmp .eql (.atom 1) (.int .i64 0)) (.cmp .eql (.len (.atom 3)) (.int .i64 0)) (.bool false))
        (.call (.fn 46) [(.sc (.atom 2))] (.sc (.bool)) []
        (.next 10 [(.atom 4)]))
        (.next 10 [(.bool false)])))
      (.ite (.pick (.cmp .eql (.atom 0) (.int .i64 5)) (.cmp .eql (.atom 0) (.int .i64 5)) (.cmp .eql (.atom 0) (.int .i64 7)))
       (.leaf (.sc (.pick (.cmp .eql (.atom 1) (.int .i64 0)) (.scmp .eql (.atom 2) (.str [])) (.bool false))))
       (.ite (.cmp .eql (.atom 0) (.int .i64 6))
        (.join 14 [.bool]
         (.leaf (.sc (.atom 4)))
         (.chk [((.pick (.pick (.cmp .eql (.atom 1) (.int .i64 0)) (.scmp .eql (.atom 2) (.str [])) (.bool false)) (.cmp .geq (.len (.atom 3)) (.int .i64 2)) (.bool false)), true)] (.inSl (.atom 3) (.ar .sub .i64 (.len (.atom 3)) (.int .i64 1)))
         (.chk [((.pick (.pick (.cmp .eql (.atom 1) (.int .i64 0)) (.scmp .eql (.atom 2) (.str [])) (.bool false)) (.cmp .geq (.len (.atom 3)) (.int .i64 2)) (.bool false)), true)] (.some (.elt (.atom 3) (.ar .sub .i64 (.len (.atom 3)) (.int .i64 1)) 4))
         (.ite (.pick (.pick (.cmp .eql (.atom 1) (.int .i64 0)) (.scmp .eql (.atom 2) (.str [])) (.bool false)) (.cmp .geq (.len (.atom 3)) (.int .i64 2)) (.bool false))
          (.load (.padd (.elt (.atom 3) (.ar .sub .i64 (.len (.atom 3)) (.int .i64 1)) 4) 0) [.int .i64]
          (.chk [((.cmp .neq (.atom 4) (.int .i64 5)), true)] (.inSl (.atom 3) (.ar .sub .i64 (.len (.atom 3)) (.int .i64 1)))
          (.chk [((.cmp .neq (.atom 4) (.int .i64 5)), true)] (.some (.elt (.atom 3) (.ar .sub .i64 (.len (.atom 3)) (.int .i64 1)) 4))
          (.ite (.cmp .neq (.atom 4) (.int .i64 5))
           (.load (.padd (.elt (.atom 3) (.ar .sub .i64 (.len (.atom 3)) (.int .i64 1)) 4) 0) [.int .i64]
           (.next 14 [(.cmp .neq (.atom 5) (.int .i64 6))]))
           (.next 14 [(.bool false)])))))
          (.next 14 [(.bool false)])))))
        (.leaf (.sc (.bool false))))))))))
theorem fm_scrimshawref02_form_eq : execF Tryz.prog { pub := [], nojoin := false } Tryz.f109 = fm_scrimshawref02_form := by kernel_rfl
theorem cb_scrimshawref02_form : callB Tryz.prog 109 = true := by kernel_rfl
theorem tri_scrimshawref02_form : TriOf Tryz.prog 109 Tryz.f109 fm_scrimshawref02_form := triOf Tryz.func109 fm_scrimshawref02_form_eq

end Go.Proofs.YtibinelkmlcmgaaGreat.Vc
/-
  A FUNCTION WITHOUT ARGUMENTS gives true, by its run.
-/
namespace Go.Proofs.YtibinelkmlcmgaaGreat.Vc
open Go

theorem gives_run {P : Program} {f : FuncId} {fn : Func} {fm : Fm VE} {tab : List CK} {S0 : PH} (h : TriOf P f fn fm) (hp : tagsOk ((paramRS P fn).flatMap RS.tags) [] = true) (ha : ([] : List Value) = packAll (paramRS P fn) []) (htab : TabOk P S0 tab) (hr : runsTrue P tab fm = true) : Gives P f [] S0 (.bool true) :=
  h [] (H := S0) (R := fun e H' => e = .returned (.bool true) ∧ PH.le S0 H') hp ha (runs_true (R := fun e H' => e = .returned (.bool true) ∧ PH.le S0 H') htab hr fun H' hl => ⟨rfl, hl⟩)
end Go.Proofs.YtibinelkmlcmgaaGreat.Vc
