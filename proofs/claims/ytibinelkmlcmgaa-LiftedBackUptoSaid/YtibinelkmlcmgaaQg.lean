/-
  Texts on the way to the statement, one behind the other, without what it does not reach.
-/
import Derived.Test.YtibinelkmlcmgaaQf
import Derived.Test.YtibinelkmlcmgaaRows
import Derived.KernelRfl
set_option linter.unusedSimpArgs false
set_option linter.unusedVariables false
set_option maxRecDepth 100000
/-
  THE FORMULAS of the program's functions, as the executor gives them; each is checked by the kernel. Printed by a program of our own.
-/
namespace Go.Proofs.Ytibinelkmlcmgaa.Vc
open Go
/-- what a function's formula tells of it -/
def TriOf (P : Program) (f : FuncId) (fn : Func) (fm : Fm VE) : Prop := ∀ (E : List Value) {args : Array Value} {H : PH} {R : Ending → PH → Prop}, tagsOk ((paramRS P fn).flatMap RS.tags) E = true → args.toList = packAll (paramRS P fn) E →
  den P (fun c H' => R (.panicked c) H') fm E H [] (fun ve E' H' _ => R (.returned (evV E' (fun _ => 0) ve)) H') → Tri P f args H R
theorem triOf {P : Program} {f : FuncId} {fn : Func} {fm : Fm VE} {op : Opt} (hf : P.funcs[f]? = some fn) (he : execF P op fn = fm) : TriOf P f fn fm :=
  fun E _ _ _ hE ha hd => execF_tri (op := op) hf hE ha (by rw [he]; exact hd)
/-- the same of a closure: its captures stand behind its parameters -/
def TriOfC (P : Program) (f : FuncId) (rsl : List RS) (fm : Fm VE) : Prop := ∀ (E : List Value) {args : Array Value} {H : PH} {R : Ending → PH → Prop}, tagsOk (rsl.flatMap RS.tags) E = true → args.toList = packAll rsl E →
  den P (fun c H' => R (.panicked c) H') fm E H [] (fun ve E' H' _ => R (.returned (evV E' (fun _ => 0) ve)) H') → Tri P f args H R
theorem triOfC {P : Program} {f : FuncId} {fn : Func} {rsl : List RS} {fm : Fm VE} {op : Opt} (hf : P.funcs[f]? = some fn) (he : execFC P op fn rsl = fm) : TriOfC P f rsl fm :=
  fun E _ _ _ hE ha hd => execFC_tri (op := op) hf hE ha (by rw [he]; exact hd)

/-- scrimshaw/scrimshawlaw14.LiftedBack -/
abbrev n_scrimshawlaw14_LiftedBack : FuncId := 5
def fm_scrimshawlaw14_LiftedBack : Fm VE :=
 (.call (.fn 6) [(.ag [(.atom 0), (.atom 1), (.atom 2), (.atom 3), (.atom 4), (.atom 5), (.atom 6), (.atom 7)])] (.tu [(true, [.sl, .int .i64, .str, .sl, .int .i64, .int .i64, .str, .sl, .sl]), (false, [.int .i64])]) []
 (.call (.fn 8) [] (.sc (.bool)) []
 (.ite (.not (.atom 27))
  (.leaf (.sc (.bool false)))
  (.join 4 []
   (.call (.fn 14) [(.ag [(.atom 8), (.atom 9), (.atom 10), (.atom 11), (.atom 12), (.atom 13), (.atom 14), (.atom 15), (.atom 16)])] (.tu [(true, [.int .i64, .str, .sl, .int .i64, .int .i64, .str, .sl, .sl]), (false, [.int .i64])]) []
   (.ite (.cmp .neq (.atom 36) (.int .i64 0))
    (.call (.fn 16) [(.ag [(.atom 28), (.atom 29), (.atom 30), (.atom 31), (.atom 32), (.atom 33), (.atom 34), (.atom 35)]), (.ag [(.int .i64 0), (.str []), (.nil 1), (.int .i64 0), (.int .i64 0), (.str []), (.nil 1), (.nil 1)])] (.sc (.bool)) []
    (.leaf (.sc (.atom 37))))
    (.call (.fn 6) [(.ag [(.atom 28), (.atom 29), (.atom 30), (.atom 31), (.atom 32), (.atom 33), (.atom 34), (.atom 35)])] (.tu [(true, [.sl, .int .i64, .str, .sl, .int .i64, .int .i64, .str, .sl, .sl]), (false, [.int .i64])]) []
    (.ite (.pick (.cmp .neq (.atom 46) (.int .i64 0)) (.bool true) (.cmp .neq (.len (.atom 37)) (.len (.atom 8))))
     (.leaf (.sc (.bool false)))
     (.loop 13 [.bool, .int .i64] [(.bool false), (.int .i64 0)]
      (.ite (.cmp .lss (.atom 48) (.len (.atom 37)))
       (.loop 18 [.bool, .int .i64] [(.atom 47), (.int .i64 0)]
        (.chk [] (.inSl (.atom 37) (.atom 48))
        (.load (.padd (.elt (.atom 37) (.atom 48) 10) 1) [.sl]
        (.ite (.cmp .lss (.atom 50) (.len (.atom 51)))
         (.load (.padd (.elt (.atom 37) (.atom 48) 10) 1) [.sl]
         (.chk [] (.inSl (.atom 52) (.atom 50))
         (.load (.elt (.atom 52) (.atom 50) 1) [.str]
         (.load (.padd (.elt (.atom 37) (.atom 48) 10) 1) [.sl]
         (.chk [] (.inSl (.atom 54) (.atom 50))
         (.load (.elt (.atom 54) (.atom 50) 1) [.str]
         (.call (.fn 17) [(.ag [(.atom 8), (.atom 9), (.atom 10), (.atom 11), (.atom 12), (.atom 13), (.atom 14), (.atom 15), (.atom 16)]), (.sc (.atom 53))] (.sc (.sl)) [((.elt (.atom 54) (.atom 50) 1), [(.atom 55)]), ((.padd (.elt (.atom 37) (.atom 48) 10) 1), [(.atom 54)])]
         (.call (.fn 11) [(.sc (.atom 56)), (.sc (.atom 55))] (.sc (.bool)) []
         (.ite (.not (.atom 57))
          (.leaf (.sc (.bool false)))
          (.next 18 [(.atom 49), (.ar .add .i64 (.atom 50) (.int .i64 1))]))))))))))
         (.next 13 [(.atom 49), (.ar .add .i64 (.atom 48) (.int .i64 1))])))))
       (.leaf (.sc (.bool true)))))))))
   (.ite (.cmp .eql (.atom 26) (.int .i64 0))
    (.call (.fn 14) [(.ag [(.atom 17), (.atom 18), (.atom 19), (.atom 20), (.atom 21), (.atom 22), (.atom 23), (.atom 24), (.atom 25)])] (.tu [(true, [.int .i64, .str, .sl, .int .i64, .int .i64, .str, .sl, .sl]), (false, [.int .i64])]) []
    (.call (.fn 15) [(.ag [(.atom 17), (.atom 18), (.atom 19), (.atom 20), (.atom 21), (.atom 22), (.atom 23), (.atom 24), (.atom 25)])] (.sc (.int .i64)) []
    (.join 8 [.bool]
     (.ite (.atom 38)
      (.leaf (.sc (.bool false)))
      (.next 4 []))
     (.ite (.pick (.cmp .neq (.atom 37) (.atom 36)) (.bool true) (.pick (.cmp .neq (.atom 36) (.int .i64 0)) (.cmp .neq (.atom 36) (.int .i64 101)) (.bool false)))
      (.next 8 [(.bool true)])
      (.ite (.cmp .eql (.atom 36) (.int .i64 0))
       (.call (.fn 16) [(.ag [(.atom 28), (.atom 29), (.atom 30), (.atom 31), (.atom 32), (.atom 33), (.atom 34), (.atom 35)]), (.ag [(.atom 0), (.atom 1), (.atom 2), (.atom 3), (.atom 4), (.atom 5), (.atom 6), (.atom 7)])] (.sc (.bool)) []
       (.next 8 [(.not (.atom 38))]))
       (.next 8 [(.bool false)]))))))
    (.next 4 []))))))
theorem fm_scrimshawlaw14_LiftedBack_eq : execF Try.prog { pub := [], nojoin := false } Try.f5 = fm_scrimshawlaw14_LiftedBack := by kernel_rfl
theorem tri_scrimshawlaw14_LiftedBack : TriOf Try.prog 5 Try.f5 fm_scrimshawlaw14_LiftedBack := triOf Try.func5 fm_scrimshawlaw14_LiftedBack_eq

/-- scrimshaw/lift.Lift -/
abbrev n_lift_Lift : FuncId := 6
def fm_lift_Lift : Fm VE :=
 (.join 2 [.bool]
  (.ite (.atom 8)
   (.leaf (.tu [(true, [(.nil 1), (.int .i64 0), (.str []), (.nil 1), (.int .i64 0), (.int .i64 0), (.str []), (.nil 1), (.nil 1)]), (false, [(.int .i64 100)])]))
   (.call (.fn 22) [(.ag [(.atom 0), (.atom 1), (.atom 2), (.atom 3), (.atom 4), (.atom 5), (.atom 6), (.atom 7)])] (.tu [(true, [.int .i64, .str, .sl, .int .i64, .int .i64, .str, .sl, .sl]), (false, [.int .i64])]) []
   (.new 59 [(.nil 1)]
   (.call (.fn 23) [(.sc (.atom 18)), (.ag [(.atom 9), (.atom 10), (.atom 11), (.atom 12), (.atom 13), (.atom 14), (.atom 15), (.atom 16)])] (.ag [.int .i64, .str, .sl, .int .i64, .int .i64, .str, .sl, .sl]) []
   (.chk [] (.some (.atom 18))
   (.load (.padd (.atom 18) 0) [.sl]
   (.leaf (.tu [(true, [(.atom 27), (.atom 19), (.atom 20), (.atom 21), (.atom 22), (.atom 23), (.atom 24), (.atom 25), (.atom 26)]), (false, [(.int .i64 0)])]))))))))
  (.call (.fn 18) [(.ag [(.atom 0), (.atom 1), (.atom 2), (.atom 3), (.atom 4), (.atom 5), (.atom 6), (.atom 7)])] (.sc (.int .i64)) []
  (.ite (.cmp .neq (.atom 8) (.int .i64 0))
   (.next 2 [(.bool true)])
   (.call (.fn 19) [(.ag [(.atom 0), (.atom 1), (.atom 2), (.atom 3), (.atom 4), (.atom 5), (.atom 6), (.atom 7)])] (.sc (.sl)) []
   (.ite (.cmp .gtr (.len (.atom 9)) (.int .i64 0))
    (.next 2 [(.bool true)])
    (.call (.fn 20) [(.ag [(.atom 0), (.atom 1), (.atom 2), (.atom 3), (.atom 4), (.atom 5), (.atom 6), (.atom 7)]), (.sc (.fn 21))] (.sc (.bool)) []
    (.next 2 [(.atom 10)])))))))
theorem fm_lift_Lift_eq : execF Try.prog { pub := [28], nojoin := false } Try.f6 = fm_lift_Lift := by kernel_rfl
theorem cb_lift_Lift : callB Try.prog 6 = true := by kernel_rfl
theorem tri_lift_Lift : TriOf Try.prog 6 Try.f6 fm_lift_Lift := triOf Try.func6 fm_lift_Lift_eq

/-- scrimshaw/scrimshawlaw14.fixed -/
abbrev n_scrimshawlaw14_fixed : FuncId := 8
def fm_scrimshawlaw14_fixed : Fm VE :=
 (.call (.fn 28) [(.sc (.str [120]))] (.ag [.int .i64, .str, .sl, .int .i64, .int .i64, .str, .sl, .sl]) []
 (.call (.fn 28) [(.sc (.str [121]))] (.ag [.int .i64, .str, .sl, .int .i64, .int .i64, .str, .sl, .sl]) []
 (.sem (.buildSlice 26 2 #[(0, (.tmp 10)), (1, (.tmp 12))]) 26 [(10, (.ag [(.atom 0), (.atom 1), (.atom 2), (.atom 3), (.atom 4), (.atom 5), (.atom 6), (.atom 7)])), (12, (.ag [(.atom 8), (.atom 9), (.atom 10), (.atom 11), (.atom 12), (.atom 13), (.atom 14), (.atom 15)]))] (.sc (.sl)) []
 (.sem (.buildSlice 22 1 #[(0, (.const (.string ⟨#[121]⟩)))]) 22 [] (.sc (.sl)) []
 (.sem (.buildSlice 26 1 #[(0, (.tmp 16))]) 26 [(16, (.ag [(.int .i64 7), (.str [43]), (.nil 1), (.int .i64 0), (.int .i64 0), (.str []), (.nil 1), (.atom 16)]))] (.sc (.sl)) []
 (.sem (.buildSlice 26 1 #[(0, (.tmp 18))]) 26 [(18, (.ag [(.int .i64 5), (.str []), (.nil 1), (.int .i64 0), (.int .i64 0), (.str []), (.nil 1), (.atom 18)]))] (.sc (.sl)) []
 (.sem (.buildSlice 22 1 #[(0, (.const (.string ⟨#[120]⟩)))]) 22 [] (.sc (.sl)) []
 (.sem (.buildSlice 26 2 #[(0, (.tmp 23)), (1, (.tmp 24))]) 26 [(23, (.ag [(.int .i64 0), (.str []), (.nil 1), (.int .i64 1), (.int .i64 1), (.str []), (.nil 1), (.nil 1)])), (24, (.ag [(.int .i64 5), (.str []), (.atom 17), (.int .i64 0), (.int .i64 0), (.str []), (.nil 1), (.atom 19)]))] (.sc (.sl)) []
 (.call (.fn 6) [(.ag [(.int .i64 8), (.str []), (.atom 20), (.int .i64 0), (.int .i64 0), (.str []), (.nil 1), (.atom 21)])] (.tu [(true, [.sl, .int .i64, .str, .sl, .int .i64, .int .i64, .str, .sl, .sl]), (false, [.int .i64])]) []
 (.call (.fn 6) [(.ag [(.int .i64 7), (.str [43]), (.nil 1), (.int .i64 0), (.int .i64 0), (.str []), (.nil 1), (.atom 16)])] (.tu [(true, [.sl, .int .i64, .str, .sl, .int .i64, .int .i64, .str, .sl, .sl]), (false, [.int .i64])]) []
 (.join 7 [.bool]
  (.leaf (.sc (.atom 42)))
  (.chk [((.pick (.cmp .eql (.atom 31) (.int .i64 0)) (.cmp .eql (.len (.atom 22)) (.int .i64 2)) (.bool false)), true)] (.inSl (.atom 22) (.int .i64 1))
  (.chk [((.pick (.cmp .eql (.atom 31) (.int .i64 0)) (.cmp .eql (.len (.atom 22)) (.int .i64 2)) (.bool false)), true)] (.some (.elt (.atom 22) (.int .i64 1) 10))
  (.ite (.pick (.cmp .eql (.atom 31) (.int .i64 0)) (.cmp .eql (.len (.atom 22)) (.int .i64 2)) (.bool false))
   (.load (.padd (.elt (.atom 22) (.int .i64 1) 10) 1) [.sl]
   (.sem (.buildSlice 22 2 #[(0, (.const (.string ⟨#[120]⟩))), (1, (.const (.string ⟨#[121]⟩)))]) 22 [] (.sc (.sl)) []
   (.call (.fn 12) [(.sc (.atom 42)), (.sc (.atom 43))] (.sc (.bool)) []
   (.chk [((.atom 44), true)] (.inSl (.atom 22) (.int .i64 0))
   (.chk [((.atom 44), true)] (.some (.elt (.atom 22) (.int .i64 0) 10))
   (.ite (.atom 44)
    (.load (.padd (.elt (.atom 22) (.int .i64 0) 10) 1) [.sl]
    (.sem (.buildSlice 22 1 #[(0, (.const (.string ⟨#[120]⟩)))]) 22 [] (.sc (.sl)) []
    (.call (.fn 12) [(.sc (.atom 45)), (.sc (.atom 46))] (.sc (.bool)) []
    (.chk [((.atom 47), true)] (.inSl (.atom 30) (.int .i64 1))
    (.chk [((.atom 47), true)] (.some (.elt (.atom 30) (.int .i64 1) 8))
    (.ite (.atom 47)
     (.load (.padd (.elt (.atom 30) (.int .i64 1) 8) 0) [.int .i64]
     (.next 7 [(.pick (.cmp .eql (.atom 48) (.int .i64 11)) (.cmp .eql (.atom 41) (.int .i64 100)) (.bool false))]))
     (.next 7 [(.bool false)])))))))
    (.next 7 [(.bool false)])))))))
   (.next 7 [(.bool false)])))))))))))))))
theorem fm_scrimshawlaw14_fixed_eq : execF Try.prog { pub := [], nojoin := false } Try.f8 = fm_scrimshawlaw14_fixed := by kernel_rfl
theorem cb_scrimshawlaw14_fixed : callB Try.prog 8 = true := by kernel_rfl
theorem tri_scrimshawlaw14_fixed : TriOf Try.prog 8 Try.f8 fm_scrimshawlaw14_fixed := triOf Try.func8 fm_scrimshawlaw14_fixed_eq

/-- scrimshaw/scrimshawref06.Has -/
abbrev n_scrimshawref06_Has : FuncId := 11
def fm_scrimshawref06_Has : Fm VE :=
 (.loop 3 [.bool, .int .i64] [(.bool false), (.int .i64 0)]
  (.ite (.cmp .lss (.atom 3) (.len (.atom 0)))
   (.chk [] (.inSl (.atom 0) (.atom 3))
   (.load (.elt (.atom 0) (.atom 3) 1) [.str]
   (.ite (.scmp .eql (.atom 4) (.atom 1))
    (.leaf (.sc (.bool true)))
    (.next 3 [(.atom 2), (.ar .add .i64 (.atom 3) (.int .i64 1))]))))
   (.leaf (.sc (.bool false)))))
theorem fm_scrimshawref06_Has_eq : execF Try.prog { pub := [], nojoin := false } Try.f11 = fm_scrimshawref06_Has := by kernel_rfl
theorem cb_scrimshawref06_Has : callB Try.prog 11 = true := by kernel_rfl
theorem tri_scrimshawref06_Has : TriOf Try.prog 11 Try.f11 fm_scrimshawref06_Has := triOf Try.func11 fm_scrimshawref06_Has_eq

/-- scrimshaw/scrimshawref06.SameTexts -/
abbrev n_scrimshawref06_SameTexts : FuncId := 12
def fm_scrimshawref06_SameTexts : Fm VE :=
 (.ite (.cmp .neq (.len (.atom 0)) (.len (.atom 1)))
  (.leaf (.sc (.bool false)))
  (.loop 5 [.bool, .int .i64] [(.bool false), (.int .i64 0)]
   (.ite (.cmp .lss (.atom 3) (.len (.atom 0)))
    (.chk [] (.inSl (.atom 0) (.atom 3))
    (.load (.elt (.atom 0) (.atom 3) 1) [.str]
    (.chk [] (.inSl (.atom 1) (.atom 3))
    (.load (.elt (.atom 1) (.atom 3) 1) [.str]
    (.ite (.scmp .neq (.atom 4) (.atom 5))
     (.leaf (.sc (.bool false)))
     (.next 5 [(.atom 2), (.ar .add .i64 (.atom 3) (.int .i64 1))]))))))
    (.leaf (.sc (.bool true))))))
theorem fm_scrimshawref06_SameTexts_eq : execF Try.prog { pub := [], nojoin := false } Try.f12 = fm_scrimshawref06_SameTexts := by kernel_rfl
theorem cb_scrimshawref06_SameTexts : callB Try.prog 12 = true := by kernel_rfl
theorem tri_scrimshawref06_SameTexts : TriOf Try.prog 12 Try.f12 fm_scrimshawref06_SameTexts := triOf Try.func12 fm_scrimshawref06_SameTexts_eq

/-- scrimshaw/lift.Lower -/
abbrev n_lift_Lower : FuncId := 14
def fm_lift_Lower : Fm VE :=
 (.call (.fn 15) [(.ag [(.atom 0), (.atom 1), (.atom 2), (.atom 3), (.atom 4), (.atom 5), (.atom 6), (.atom 7), (.atom 8)])] (.sc (.int .i64)) []
 (.ite (.cmp .neq (.atom 9) (.int .i64 0))
  (.leaf (.tu [(true, [(.int .i64 0), (.str []), (.nil 1), (.int .i64 0), (.int .i64 0), (.str []), (.nil 1), (.nil 1)]), (false, [(.atom 9)])]))
  (.call (.fn 29) [(.ag [(.atom 0), (.atom 1), (.atom 2), (.atom 3), (.atom 4), (.atom 5), (.atom 6), (.atom 7), (.atom 8)]), (.ag [(.atom 1), (.atom 2), (.atom 3), (.atom 4), (.atom 5), (.atom 6), (.atom 7), (.atom 8)])] (.ag [.int .i64, .str, .sl, .int .i64, .int .i64, .str, .sl, .sl]) []
  (.call (.fn 22) [(.ag [(.atom 10), (.atom 11), (.atom 12), (.atom 13), (.atom 14), (.atom 15), (.atom 16), (.atom 17)])] (.tu [(true, [.int .i64, .str, .sl, .int .i64, .int .i64, .str, .sl, .sl]), (false, [.int .i64])]) []
  (.leaf (.tu [(true, [(.atom 18), (.atom 19), (.atom 20), (.atom 21), (.atom 22), (.atom 23), (.atom 24), (.atom 25)]), (false, [(.atom 26)])]))))))
theorem fm_lift_Lower_eq : execF Try.prog { pub := [], nojoin := false } Try.f14 = fm_lift_Lower := by kernel_rfl
theorem cb_lift_Lower : callB Try.prog 14 = true := by kernel_rfl
theorem tri_lift_Lower : TriOf Try.prog 14 Try.f14 fm_lift_Lower := triOf Try.func14 fm_lift_Lower_eq

/-- scrimshaw/lift.Check -/
abbrev n_lift_Check : FuncId := 15
def fm_lift_Check : Fm VE :=
 (.sem (.makeSlice 38 (.tmp 11) (.tmp 11)) 38 [(11, (.sc (.len (.atom 0)))), (11, (.sc (.len (.atom 0))))] (.sc (.sl)) []
 (.new 68 [(.atom 0), (.atom 1), (.atom 2), (.atom 3), (.atom 4), (.atom 5), (.atom 6), (.atom 7), (.atom 8), (.int .i64 0), (.bool false), (.bool false), (.atom 9)]
 (.ite (.cmp .gtr (.len (.atom 0)) (.int .i64 4096))
  (.leaf (.sc (.int .i64 101)))
  (.call (.fn 30) [(.sc (.atom 10)), (.ag [(.atom 1), (.atom 2), (.atom 3), (.atom 4), (.atom 5), (.atom 6), (.atom 7), (.atom 8)]), (.sc (.int .i64 1))] (.tu []) []
  (.loop 7 [.int .i64] [(.int .i64 0)]
   (.ite (.cmp .lss (.atom 11) (.len (.atom 0)))
    (.chk [] (.inSl (.atom 0) (.atom 11))
    (.load (.elt (.atom 0) (.atom 11) 10) [.sl, .sl, .int .i64, .str, .sl, .int .i64, .int .i64, .str, .sl, .sl]
    (.call (.fn 30) [(.sc (.atom 10)), (.ag [(.atom 14), (.atom 15), (.atom 16), (.atom 17), (.atom 18), (.atom 19), (.atom 20), (.atom 21)]), (.sc (.int .i64 1))] (.tu []) []
    (.next 7 [(.ar .add .i64 (.atom 11) (.int .i64 1))]))))
    (.join 11 [.bool]
     (.ite (.atom 12)
      (.leaf (.sc (.int .i64 101)))
      (.call (.fn 31) [(.sc (.atom 10)), (.ag [(.atom 1), (.atom 2), (.atom 3), (.atom 4), (.atom 5), (.atom 6), (.atom 7), (.atom 8)]), (.sc (.int .i64 (-1)))] (.tu []) []
      (.loop 15 [.int .i64] [(.int .i64 0)]
       (.ite (.cmp .lss (.atom 13) (.len (.atom 0)))
        (.join 18 []
         (.next 15 [(.ar .add .i64 (.atom 13) (.int .i64 1))])
         (.chk [] (.inSl (.atom 0) (.atom 13))
         (.load (.elt (.atom 0) (.atom 13) 10) [.sl, .sl, .int .i64, .str, .sl, .int .i64, .int .i64, .str, .sl, .sl]
         (.call (.fn 31) [(.sc (.atom 10)), (.ag [(.atom 16), (.atom 17), (.atom 18), (.atom 19), (.atom 20), (.atom 21), (.atom 22), (.atom 23)]), (.sc (.atom 13))] (.tu []) []
         (.chk [] (.some (.atom 10))
         (.load (.padd (.atom 10) 11) [.bool]
         (.ite (.atom 24)
          (.store (.padd (.atom 10) 11) [(.bool true)]
          (.next 18 []))
          (.call (.fn 32) [(.ag [(.atom 14), (.atom 15), (.atom 16), (.atom 17), (.atom 18), (.atom 19), (.atom 20), (.atom 21), (.atom 22), (.atom 23)]), (.ag [(.atom 0), (.atom 1), (.atom 2), (.atom 3), (.atom 4), (.atom 5), (.atom 6), (.atom 7), (.atom 8)])] (.sc (.bool)) []
          (.store (.padd (.atom 10) 11) [(.not (.atom 25))]
          (.next 18 []))))))))))
        (.join 19 [.bool]
         (.ite (.atom 14)
          (.leaf (.sc (.int .i64 100)))
          (.leaf (.sc (.int .i64 0))))
         (.chk [] (.some (.atom 10))
         (.load (.padd (.atom 10) 11) [.bool]
         (.ite (.atom 14)
          (.next 19 [(.bool true)])
          (.load (.padd (.atom 10) 12) [.sl]
          (.call (.fn 33) [(.sc (.atom 15)), (.sc (.fn 34))] (.sc (.bool)) []
          (.ite (.atom 16)
           (.next 19 [(.bool true)])
           (.call (.fn 35) [(.ag [(.atom 1), (.atom 2), (.atom 3), (.atom 4), (.atom 5), (.atom 6), (.atom 7), (.atom 8)])] (.ag [.int .i64, .str, .sl, .int .i64, .int .i64, .str, .sl, .sl]) []
           (.call (.fn 19) [(.ag [(.atom 17), (.atom 18), (.atom 19), (.atom 20), (.atom 21), (.atom 22), (.atom 23), (.atom 24)])] (.sc (.sl)) []
           (.ite (.cmp .gtr (.len (.atom 25)) (.int .i64 0))
            (.next 19 [(.bool true)])
            (.call (.fn 29) [(.ag [(.atom 0), (.atom 1), (.atom 2), (.atom 3), (.atom 4), (.atom 5), (.atom 6), (.atom 7), (.atom 8)]), (.ag [(.atom 1), (.atom 2), (.atom 3), (.atom 4), (.atom 5), (.atom 6), (.atom 7), (.atom 8)])] (.ag [.int .i64, .str, .sl, .int .i64, .int .i64, .str, .sl, .sl]) []
            (.call (.fn 18) [(.ag [(.atom 26), (.atom 27), (.atom 28), (.atom 29), (.atom 30), (.atom 31), (.atom 32), (.atom 33)])] (.sc (.int .i64)) []
            (.next 19 [(.cmp .neq (.atom 34) (.int .i64 0))])))))))))))))))))
     (.chk [] (.some (.atom 10))
     (.load (.padd (.atom 10) 10) [.bool]
     (.ite (.atom 12)
      (.next 11 [(.bool true)])
      (.load (.padd (.atom 10) 9) [.int .i64]
      (.next 11 [(.cmp .gtr (.atom 13) (.int .i64 4096))]))))))))))))
theorem fm_lift_Check_eq : execF Try.prog { pub := [14], nojoin := false } Try.f15 = fm_lift_Check := by kernel_rfl
theorem cb_lift_Check : callB Try.prog 15 = true := by kernel_rfl
theorem tri_lift_Check : TriOf Try.prog 15 Try.f15 fm_lift_Check := triOf Try.func15 fm_lift_Check_eq

/-- scrimshaw/scrimshawref06.Same -/
abbrev n_scrimshawref06_Same : FuncId := 16
def fm_scrimshawref06_Same : Fm VE :=
 (.join 2 [.bool]
  (.ite (.atom 16)
   (.leaf (.sc (.bool false)))
   (.loop 5 [.bool, .int .i64] [(.bool false), (.int .i64 0)]
    (.ite (.cmp .lss (.atom 18) (.len (.atom 7)))
     (.chk [] (.inSl (.atom 7) (.atom 18))
     (.load (.elt (.atom 7) (.atom 18) 8) [.int .i64, .str, .sl, .int .i64, .int .i64, .str, .sl, .sl]
     (.chk [] (.inSl (.atom 15) (.atom 18))
     (.load (.elt (.atom 15) (.atom 18) 8) [.int .i64, .str, .sl, .int .i64, .int .i64, .str, .sl, .sl]
     (.call (.fn 16) [(.ag [(.atom 19), (.atom 20), (.atom 21), (.atom 22), (.atom 23), (.atom 24), (.atom 25), (.atom 26)]), (.ag [(.atom 27), (.atom 28), (.atom 29), (.atom 30), (.atom 31), (.atom 32), (.atom 33), (.atom 34)])] (.sc (.bool)) []
     (.ite (.not (.atom 35))
      (.leaf (.sc (.bool false)))
      (.next 5 [(.atom 17), (.ar .add .i64 (.atom 18) (.int .i64 1))])))))))
     (.leaf (.sc (.bool true))))))
  (.ite (.pick (.cmp .neq (.atom 0) (.atom 8)) (.bool true) (.scmp .neq (.atom 1) (.atom 9)))
   (.next 2 [(.bool true)])
   (.call (.fn 12) [(.sc (.atom 2)), (.sc (.atom 10))] (.sc (.bool)) []
   (.ite (.not (.atom 16))
    (.next 2 [(.bool true)])
    (.call (.fn 36) [(.ag [(.atom 3), (.atom 4), (.atom 5), (.atom 6)]), (.ag [(.atom 11), (.atom 12), (.atom 13), (.atom 14)])] (.sc (.bool)) []
    (.next 2 [(.pick (.not (.atom 17)) (.bool true) (.cmp .neq (.len (.atom 7)) (.len (.atom 15))))]))))))
theorem fm_scrimshawref06_Same_eq : execF Try.prog { pub := [], nojoin := false } Try.f16 = fm_scrimshawref06_Same := by kernel_rfl
theorem cb_scrimshawref06_Same : callB Try.prog 16 = true := by kernel_rfl
theorem tri_scrimshawref06_Same : TriOf Try.prog 16 Try.f16 fm_scrimshawref06_Same := triOf Try.func16 fm_scrimshawref06_Same_eq

/-- scrimshaw/scrimshawlaw14.all -/
abbrev n_scrimshawlaw14_all : FuncId := 17
def fm_scrimshawlaw14_all : Fm VE :=
 (.sem (.buildSlice 22 0 #[]) 22 [] (.sc (.sl)) []
 (.loop 4 [.sl, .int .i64] [(.atom 10), (.int .i64 0)]
  (.ite (.cmp .lss (.atom 12) (.len (.atom 0)))
   (.join 7 [.sl]
    (.next 4 [(.atom 13), (.ar .add .i64 (.atom 12) (.int .i64 1))])
    (.chk [] (.inSl (.atom 0) (.atom 12))
    (.load (.padd (.elt (.atom 0) (.atom 12) 10) 1) [.sl]
    (.call (.fn 11) [(.sc (.atom 13)), (.sc (.atom 9))] (.sc (.bool)) []
    (.ite (.atom 14)
     (.sem (.buildSlice 22 1 #[(0, (.tmp 24))]) 22 [(24, (.sc (.atom 9)))] (.sc (.sl)) []
     (.sem (.call ⟨.builtin .append, #[(.tmp 23), (.tmp 25)], #[22, 22]⟩) 22 [(23, (.sc (.atom 11))), (25, (.sc (.atom 15)))] (.sc (.sl)) []
     (.next 7 [(.atom 16)])))
     (.next 7 [(.atom 11)]))))))
   (.leaf (.sc (.atom 11))))))
theorem fm_scrimshawlaw14_all_eq : execF Try.prog { pub := [], nojoin := false } Try.f17 = fm_scrimshawlaw14_all := by kernel_rfl
theorem cb_scrimshawlaw14_all : callB Try.prog 17 = true := by kernel_rfl
theorem tri_scrimshawlaw14_all : TriOf Try.prog 17 Try.f17 fm_scrimshawlaw14_all := triOf Try.func17 fm_scrimshawlaw14_all_eq

/-- scrimshaw/core.Check -/
abbrev n_core_Check : FuncId := 18
def fm_core_Check : Fm VE :=
 (.new 3 [(.int .i64 0)]
 (.call (.fn 37) [(.ag [(.atom 0), (.atom 1), (.atom 2), (.atom 3), (.atom 4), (.atom 5), (.atom 6), (.atom 7)]), (.sc (.int .i64 0)), (.sc (.atom 8))] (.sc (.int .i64)) []
 (.leaf (.sc (.atom 9)))))
theorem fm_core_Check_eq : execF Try.prog { pub := [4], nojoin := false } Try.f18 = fm_core_Check := by kernel_rfl
theorem cb_core_Check : callB Try.prog 18 = true := by kernel_rfl
theorem tri_core_Check : TriOf Try.prog 18 Try.f18 fm_core_Check := triOf Try.func18 fm_core_Check_eq

/-- scrimshaw/core.Free -/
abbrev n_core_Free : FuncId := 19
def fm_core_Free : Fm VE :=
 (.sem (.makeMap 76 none) 76 [] (.sc (.map)) []
 (.sem (.makeMap 76 none) 76 [] (.sc (.map)) []
 (.call (.fn 38) [(.ag [(.atom 0), (.atom 1), (.atom 2), (.atom 3), (.atom 4), (.atom 5), (.atom 6), (.atom 7)]), (.sc (.atom 9)), (.sc (.atom 8))] (.tu []) []
 (.call (.fn 40) [(.sc (.atom 8))] (.sc (.any)) []
 (.call (.fn 39) [(.sc (.atom 10))] (.sc (.sl)) []
 (.leaf (.sc (.atom 11))))))))
theorem fm_core_Free_eq : execF Try.prog { pub := [], nojoin := false } Try.f19 = fm_core_Free := by kernel_rfl
theorem cb_core_Free : callB Try.prog 19 = true := by kernel_rfl
theorem tri_core_Free : TriOf Try.prog 19 Try.f19 fm_core_Free := triOf Try.func19 fm_core_Free_eq

/-- scrimshaw/pass.Any -/
abbrev n_pass_Any : FuncId := 20
def fm_pass_Any : Fm VE :=
 (.call (.atom 8) [(.ag [(.atom 0), (.atom 1), (.atom 2), (.atom 3), (.atom 4), (.atom 5), (.atom 6), (.atom 7)])] (.sc (.bool)) []
 (.ite (.atom 9)
  (.leaf (.sc (.bool true)))
  (.loop 5 [.bool, .int .i64] [(.bool false), (.int .i64 0)]
   (.ite (.cmp .lss (.atom 11) (.len (.atom 7)))
    (.chk [] (.inSl (.atom 7) (.atom 11))
    (.load (.elt (.atom 7) (.atom 11) 8) [.int .i64, .str, .sl, .int .i64, .int .i64, .str, .sl, .sl]
    (.call (.fn 20) [(.ag [(.atom 12), (.atom 13), (.atom 14), (.atom 15), (.atom 16), (.atom 17), (.atom 18), (.atom 19)]), (.sc (.atom 8))] (.sc (.bool)) []
    (.ite (.atom 20)
     (.leaf (.sc (.bool true)))
     (.next 5 [(.atom 10), (.ar .add .i64 (.atom 11) (.int .i64 1))])))))
    (.leaf (.sc (.bool false)))))))
theorem fm_pass_Any_eq : execF Try.prog { pub := [], nojoin := false } Try.f20 = fm_pass_Any := by kernel_rfl
theorem cb_pass_Any : callB Try.prog 20 = true := by kernel_rfl
theorem tri_pass_Any : TriOf Try.prog 20 Try.f20 fm_pass_Any := triOf Try.func20 fm_pass_Any_eq

/-- scrimshaw/lift.isBad -/
abbrev n_lift_isBad : FuncId := 21
def fm_lift_isBad : Fm VE :=
 (.leaf (.sc (.pick (.cmp .eql (.atom 0) (.int .i64 9)) (.bool true) (.cmp .eql (.atom 0) (.int .i64 2)))))
theorem fm_lift_isBad_eq : execF Try.prog { pub := [], nojoin := false } Try.f21 = fm_lift_isBad := by kernel_rfl
theorem cb_lift_isBad : callB Try.prog 21 = true := by kernel_rfl
theorem tri_lift_isBad : TriOf Try.prog 21 Try.f21 fm_lift_isBad := triOf Try.func21 fm_lift_isBad_eq

/-- scrimshaw/pass.Told -/
abbrev n_pass_Told : FuncId := 22
def fm_pass_Told : Fm VE :=
 (.call (.fn 18) [(.ag [(.atom 0), (.atom 1), (.atom 2), (.atom 3), (.atom 4), (.atom 5), (.atom 6), (.atom 7)])] (.sc (.int .i64)) []
 (.ite (.cmp .neq (.atom 8) (.int .i64 0))
  (.leaf (.tu [(true, [(.int .i64 0), (.str []), (.nil 1), (.int .i64 0), (.int .i64 0), (.str []), (.nil 1), (.nil 1)]), (false, [(.int .i64 101)])]))
  (.call (.fn 41) [(.ag [(.atom 0), (.atom 1), (.atom 2), (.atom 3), (.atom 4), (.atom 5), (.atom 6), (.atom 7)])] (.ag [.int .i64, .str, .sl, .int .i64, .int .i64, .str, .sl, .sl]) []
  (.leaf (.tu [(true, [(.atom 9), (.atom 10), (.atom 11), (.atom 12), (.atom 13), (.atom 14), (.atom 15), (.atom 16)]), (false, [(.int .i64 0)])])))))
theorem fm_pass_Told_eq : execF Try.prog { pub := [], nojoin := false } Try.f22 = fm_pass_Told := by kernel_rfl
theorem cb_pass_Told : callB Try.prog 22 = true := by kernel_rfl
theorem tri_pass_Told : TriOf Try.prog 22 Try.f22 fm_pass_Told := triOf Try.func22 fm_pass_Told_eq

/-- (*scrimshaw/lift.lifter).lift -/
abbrev n_lift_lifter__lift : FuncId := 23
def fm_lift_lifter__lift : Fm VE :=
 (.ite (.cmp .neq (.atom 1) (.int .i64 5))
  (.sem (.makeFunc (.func 23) #[(.tmp 12)] #[]) 60 [(12, (.sc (.atom 0)))] (.sc (.any)) []
  (.call (.fn 42) [(.ag [(.atom 1), (.atom 2), (.atom 3), (.atom 4), (.atom 5), (.atom 6), (.atom 7), (.atom 8)]), (.sc (.atom 9))] (.ag [.int .i64, .str, .sl, .int .i64, .int .i64, .str, .sl, .sl]) []
  (.leaf (.ag [(.atom 10), (.atom 11), (.atom 12), (.atom 13), (.atom 14), (.atom 15), (.atom 16), (.atom 17)]))))
  (.chk [] (.some (.atom 0))
  (.load (.padd (.atom 0) 0) [.sl]
  (.call (.fn 19) [(.ag [(.atom 1), (.atom 2), (.atom 3), (.atom 4), (.atom 5), (.atom 6), (.atom 7), (.atom 8)])] (.sc (.sl)) []
  (.load (.padd (.atom 0) 0) [.sl]
  (.call (.fn 43) [(.sc (.atom 3))] (.sc (.sl)) [((.padd (.atom 0) 0), [(.atom 11)])]
  (.sem (.buildSlice 29 1 #[(0, (.tmp 31))]) 29 [(31, (.ag [(.atom 12), (.atom 10), (.int .i64 0), (.str []), (.nil 1), (.int .i64 0), (.int .i64 0), (.str []), (.nil 1), (.nil 1)]))] (.sc (.sl)) [((.padd (.atom 0) 0), [(.atom 11)])]
  (.sem (.call ⟨.builtin .append, #[(.tmp 26), (.tmp 32)], #[29, 29]⟩) 29 [(26, (.sc (.atom 11))), (32, (.sc (.atom 13)))] (.sc (.sl)) []
  (.store (.padd (.atom 0) 0) [(.atom 14)]
  (.chk [] (.inSl (.atom 8) (.int .i64 0))
  (.load (.elt (.atom 8) (.int .i64 0) 8) [.int .i64, .str, .sl, .int .i64, .int .i64, .str, .sl, .sl]
  (.call (.fn 23) [(.sc (.atom 0)), (.ag [(.atom 15), (.atom 16), (.atom 17), (.atom 18), (.atom 19), (.atom 20), (.atom 21), (.atom 22)])] (.ag [.int .i64, .str, .sl, .int .i64, .int .i64, .str, .sl, .sl]) []
  (.load (.padd (.atom 0) 0) [.sl]
  (.chk [] (.inSl (.atom 31) (.len (.atom 9)))
  (.store (.padd (.elt (.atom 31) (.len (.atom 9)) 10) 2) [(.atom 23), (.atom 24), (.atom 25), (.atom 26), (.atom 27), (.atom 28), (.atom 29), (.atom 30)]
  (.call (.fn 43) [(.sc (.atom 10))] (.sc (.sl)) []
  (.leaf (.ag [(.int .i64 11), (.str []), (.atom 32), (.int .i64 1), (.len (.atom 9)), (.str []), (.nil 1), (.nil 1)]))))))))))))))))))
theorem fm_lift_lifter__lift_eq : execF Try.prog { pub := [], nojoin := false } Try.f23 = fm_lift_lifter__lift := by kernel_rfl
theorem cb_lift_lifter__lift : callB Try.prog 23 = true := by kernel_rfl
theorem tri_lift_lifter__lift : TriOf Try.prog 23 Try.f23 fm_lift_lifter__lift := triOf Try.func23 fm_lift_lifter__lift_eq

/-- scrimshaw/scrimshawlaw14.fixed$1 -/
abbrev n_scrimshawlaw14_fixed_1 : FuncId := 28
def fm_scrimshawlaw14_fixed_1 : Fm VE :=
 (.leaf (.ag [(.int .i64 1), (.atom 0), (.nil 1), (.int .i64 0), (.int .i64 0), (.str []), (.nil 1), (.nil 1)]))
theorem fm_scrimshawlaw14_fixed_1_eq : execF Try.prog { pub := [], nojoin := false } Try.f28 = fm_scrimshawlaw14_fixed_1 := by kernel_rfl
theorem cb_scrimshawlaw14_fixed_1 : callB Try.prog 28 = true := by kernel_rfl
theorem tri_scrimshawlaw14_fixed_1 : TriOf Try.prog 28 Try.f28 fm_scrimshawlaw14_fixed_1 := triOf Try.func28 fm_scrimshawlaw14_fixed_1_eq

/-- scrimshaw/lift.lower -/
abbrev n_lift_lower : FuncId := 29
def fm_lift_lower : Fm VE :=
 (.new 31 [(.atom 0), (.atom 1), (.atom 2), (.atom 3), (.atom 4), (.atom 5), (.atom 6), (.atom 7), (.atom 8)]
 (.ite (.cmp .neq (.atom 9) (.int .i64 11))
  (.sem (.makeFunc (.func 46) #[] #[(.tmp 2)]) 60 [(2, (.sc (.atom 17)))] (.sc (.any)) []
  (.call (.fn 42) [(.ag [(.atom 9), (.atom 10), (.atom 11), (.atom 12), (.atom 13), (.atom 14), (.atom 15), (.atom 16)]), (.sc (.atom 18))] (.ag [.int .i64, .str, .sl, .int .i64, .int .i64, .str, .sl, .sl]) []
  (.leaf (.ag [(.atom 19), (.atom 20), (.atom 21), (.atom 22), (.atom 23), (.atom 24), (.atom 25), (.atom 26)]))))
  (.chk [] (.some (.atom 17))
  (.load (.padd (.atom 17) 0) [.sl]
  (.chk [] (.inSl (.atom 18) (.atom 13))
  (.load (.elt (.atom 18) (.atom 13) 10) [.sl, .sl, .int .i64, .str, .sl, .int .i64, .int .i64, .str, .sl, .sl]
  (.load (.atom 17) [.sl, .int .i64, .str, .sl, .int .i64, .int .i64, .str, .sl, .sl]
  (.call (.fn 29) [(.ag [(.atom 29), (.atom 30), (.atom 31), (.atom 32), (.atom 33), (.atom 34), (.atom 35), (.atom 36), (.atom 37)]), (.ag [(.atom 21), (.atom 22), (.atom 23), (.atom 24), (.atom 25), (.atom 26), (.atom 27), (.atom 28)])] (.ag [.int .i64, .str, .sl, .int .i64, .int .i64, .str, .sl, .sl]) []
  (.sem (.buildSlice 26 1 #[(0, (.tmp 24))]) 26 [(24, (.ag [(.atom 38), (.atom 39), (.atom 40), (.atom 41), (.atom 42), (.atom 43), (.atom 44), (.atom 45)]))] (.sc (.sl)) []
  (.leaf (.ag [(.int .i64 5), (.str []), (.atom 19), (.int .i64 0), (.int .i64 0), (.str []), (.nil 1), (.atom 46)])))))))))))
theorem fm_lift_lower_eq : execF Try.prog { pub := [2], nojoin := false } Try.f29 = fm_lift_lower := by kernel_rfl
theorem cb_lift_lower : callB Try.prog 29 = true := by kernel_rfl
theorem tri_lift_lower : TriOf Try.prog 29 Try.f29 fm_lift_lower := triOf Try.func29 fm_lift_lower_eq

/-- (*scrimshaw/lift.checker).count -/
abbrev n_lift_checker__count : FuncId := 30
def fm_lift_checker__count : Fm VE :=
 (.chk [] (.some (.atom 0))
 (.load (.padd (.atom 0) 9) [.int .i64]
 (.store (.padd (.atom 0) 9) [(.ar .add .i64 (.atom 10) (.int .i64 1))]
 (.load (.padd (.atom 0) 10) [.bool]
 (.store (.padd (.atom 0) 10) [(.pick (.atom 11) (.bool true) (.cmp .gtr (.atom 9) (.int .i64 250)))]
 (.join 4 [.bool]
  (.ite (.atom 12)
   (.leaf (.tu []))
   (.loop 6 [.int .i64] [(.int .i64 0)]
    (.ite (.cmp .lss (.atom 13) (.len (.atom 8)))
     (.chk [] (.inSl (.atom 8) (.atom 13))
     (.load (.elt (.atom 8) (.atom 13) 8) [.int .i64, .str, .sl, .int .i64, .int .i64, .str, .sl, .sl]
     (.call (.fn 30) [(.sc (.atom 0)), (.ag [(.atom 14), (.atom 15), (.atom 16), (.atom 17), (.atom 18), (.atom 19), (.atom 20), (.atom 21)]), (.sc (.ar .add .i64 (.atom 9) (.int .i64 1)))] (.tu []) []
     (.next 6 [(.ar .add .i64 (.atom 13) (.int .i64 1))]))))
     (.leaf (.tu [])))))
  (.load (.padd (.atom 0) 10) [.bool]
  (.ite (.atom 12)
   (.next 4 [(.bool true)])
   (.load (.padd (.atom 0) 9) [.int .i64]
   (.next 4 [(.cmp .gtr (.atom 13) (.int .i64 4096))]))))))))))
theorem fm_lift_checker__count_eq : execF Try.prog { pub := [], nojoin := false } Try.f30 = fm_lift_checker__count := by kernel_rfl
theorem cb_lift_checker__count : callB Try.prog 30 = true := by kernel_rfl
theorem tri_lift_checker__count : TriOf Try.prog 30 Try.f30 fm_lift_checker__count := triOf Try.func30 fm_lift_checker__count_eq

/-- (*scrimshaw/lift.checker).body -/
abbrev n_lift_checker__body : FuncId := 31
def fm_lift_checker__body : Fm VE :=
 (.join 1 []
  (.loop 3 [.int .i64] [(.int .i64 0)]
   (.ite (.cmp .lss (.atom 10) (.len (.atom 8)))
    (.chk [] (.inSl (.atom 8) (.atom 10))
    (.load (.elt (.atom 8) (.atom 10) 8) [.int .i64, .str, .sl, .int .i64, .int .i64, .str, .sl, .sl]
    (.call (.fn 31) [(.sc (.atom 0)), (.ag [(.atom 11), (.atom 12), (.atom 13), (.atom 14), (.atom 15), (.atom 16), (.atom 17), (.atom 18)]), (.sc (.atom 9))] (.tu []) []
    (.next 3 [(.ar .add .i64 (.atom 10) (.int .i64 1))]))))
    (.leaf (.tu []))))
  (.ite (.cmp .eql (.atom 1) (.int .i64 11))
   (.call (.fn 47) [(.sc (.atom 0)), (.ag [(.atom 1), (.atom 2), (.atom 3), (.atom 4), (.atom 5), (.atom 6), (.atom 7), (.atom 8)]), (.sc (.atom 9))] (.tu []) []
   (.leaf (.tu [])))
   (.join 4 [.bool]
    (.ite (.atom 10)
     (.chk [] (.some (.atom 0))
     (.store (.padd (.atom 0) 11) [(.bool true)]
     (.next 1 [])))
     (.next 1 []))
    (.ite (.cmp .eql (.atom 1) (.int .i64 5))
     (.next 4 [(.cmp .eql (.atom 1) (.int .i64 5))])
     (.next 4 [(.pick (.cmp .eql (.atom 1) (.int .i64 9)) (.cmp .eql (.atom 1) (.int .i64 9)) (.cmp .eql (.atom 1) (.int .i64 2)))])))))
theorem fm_lift_checker__body_eq : execF Try.prog { pub := [], nojoin := false } Try.f31 = fm_lift_checker__body := by kernel_rfl
theorem cb_lift_checker__body : callB Try.prog 31 = true := by kernel_rfl
theorem tri_lift_checker__body : TriOf Try.prog 31 Try.f31 fm_lift_checker__body := triOf Try.func31 fm_lift_checker__body_eq

/-- scrimshaw/lift.within -/
abbrev n_lift_within : FuncId := 32
def fm_lift_within : Fm VE :=
 (.sem (.buildSlice 92 2 #[(0, (.tmp 10)), (1, (.tmp 12))]) 92 [(10, (.sc (.atom 0))), (12, (.sc (.atom 1)))] (.sc (.sl)) []
 (.call (.fn 48) [(.sc (.atom 19))] (.sc (.sl)) []
 (.loop 4 [.bool, .int .i64] [(.bool false), (.int .i64 0)]
  (.ite (.cmp .lss (.atom 22) (.len (.atom 20)))
   (.chk [] (.inSl (.atom 20) (.atom 22))
   (.load (.elt (.atom 20) (.atom 22) 1) [.str]
   (.join 9 [.bool]
    (.ite (.atom 24)
     (.leaf (.sc (.bool false)))
     (.next 4 [(.atom 21), (.ar .add .i64 (.atom 22) (.int .i64 1))]))
    (.call (.fn 49) [(.sc (.atom 23))] (.sc (.bool)) []
    (.chk [((.not (.atom 24)), false)] (.sub (.cap (.atom 20)) (.int .i64 0) (.atom 22))
    (.ite (.not (.atom 24))
     (.next 9 [(.bool true)])
     (.call (.fn 50) [(.sc (.sls (.atom 20) (.int .i64 0) (.atom 22) 1)), (.sc (.atom 23))] (.sc (.bool)) []
     (.next 9 [(.atom 25)]))))))))
   (.call (.fn 35) [(.ag [(.atom 2), (.atom 3), (.atom 4), (.atom 5), (.atom 6), (.atom 7), (.atom 8), (.atom 9)])] (.ag [.int .i64, .str, .sl, .int .i64, .int .i64, .str, .sl, .sl]) []
   (.sem (.buildSlice 26 1 #[(0, (.tmp 36))]) 26 [(36, (.ag [(.atom 23), (.atom 24), (.atom 25), (.atom 26), (.atom 27), (.atom 28), (.atom 29), (.atom 30)]))] (.sc (.sl)) []
   (.join 8 [.bool]
    (.leaf (.sc (.atom 32)))
    (.ite (.cmp .leq (.len (.atom 0)) (.int .i64 6))
     (.call (.fn 19) [(.ag [(.int .i64 5), (.str []), (.atom 20), (.int .i64 0), (.int .i64 0), (.str []), (.nil 1), (.atom 31)])] (.sc (.sl)) []
     (.next 8 [(.cmp .eql (.len (.atom 32)) (.int .i64 0))]))
     (.next 8 [(.bool false)])))))))))
theorem fm_lift_within_eq : execF Try.prog { pub := [], nojoin := false } Try.f32 = fm_lift_within := by kernel_rfl
theorem cb_lift_within : callB Try.prog 32 = true := by kernel_rfl
theorem tri_lift_within : TriOf Try.prog 32 Try.f32 fm_lift_within := triOf Try.func32 fm_lift_within_eq

/-- slices.ContainsFunc[[]int,int] -/
abbrev n_slices_ContainsFunc___int_int_ : FuncId := 33
def fm_slices_ContainsFunc___int_int_ : Fm VE :=
 (.call (.fn 51) [(.sc (.atom 0)), (.sc (.atom 1))] (.sc (.int .i64)) []
 (.leaf (.sc (.cmp .geq (.atom 2) (.int .i64 0)))))
theorem fm_slices_ContainsFunc___int_int__eq : execF Try.prog { pub := [], nojoin := false } Try.f33 = fm_slices_ContainsFunc___int_int_ := by kernel_rfl
theorem cb_slices_ContainsFunc___int_int_ : callB Try.prog 33 = true := by kernel_rfl
theorem tri_slices_ContainsFunc___int_int_ : TriOf Try.prog 33 Try.f33 fm_slices_ContainsFunc___int_int_ := triOf Try.func33 fm_slices_ContainsFunc___int_int__eq

/-- scrimshaw/lift.Check$1 -/
abbrev n_lift_Check_1 : FuncId := 34
def fm_lift_Check_1 : Fm VE :=
 (.leaf (.sc (.cmp .neq (.atom 0) (.int .i64 1))))
theorem fm_lift_Check_1_eq : execF Try.prog { pub := [], nojoin := false } Try.f34 = fm_lift_Check_1 := by kernel_rfl
theorem cb_lift_Check_1 : callB Try.prog 34 = true := by kernel_rfl
theorem tri_lift_Check_1 : TriOf Try.prog 34 Try.f34 fm_lift_Check_1 := triOf Try.func34 fm_lift_Check_1_eq

/-- scrimshaw/lift.shown -/
abbrev n_lift_shown : FuncId := 35
def fm_lift_shown : Fm VE :=
 (.ite (.cmp .neq (.atom 0) (.int .i64 11))
  (.call (.fn 42) [(.ag [(.atom 0), (.atom 1), (.atom 2), (.atom 3), (.atom 4), (.atom 5), (.atom 6), (.atom 7)]), (.sc (.fn 35))] (.ag [.int .i64, .str, .sl, .int .i64, .int .i64, .str, .sl, .sl]) []
  (.leaf (.ag [(.atom 8), (.atom 9), (.atom 10), (.atom 11), (.atom 12), (.atom 13), (.atom 14), (.atom 15)])))
  (.loop 6 [.int .i64, .int .i64, .str, .sl, .int .i64, .int .i64, .str, .sl, .sl] [(.int .i64 0), (.int .i64 6), (.str []), (.nil 1), (.int .i64 0), (.int .i64 0), (.str []), (.nil 1), (.nil 1)]
   (.ite (.cmp .lss (.atom 8) (.len (.atom 2)))
    (.chk [] (.inSl (.atom 2) (.atom 8))
    (.load (.elt (.atom 2) (.atom 8) 1) [.str]
    (.call (.fn 52) [(.sc (.atom 17))] (.ag [.int .i64, .str, .sl, .int .i64, .int .i64, .str, .sl, .sl]) []
    (.sem (.buildSlice 26 1 #[(0, (.tmp 22))]) 26 [(22, (.ag [(.atom 18), (.atom 19), (.atom 20), (.atom 21), (.atom 22), (.atom 23), (.atom 24), (.atom 25)]))] (.sc (.sl)) []
    (.sem (.call ⟨.builtin .append, #[(.tmp 20), (.tmp 23)], #[26, 26]⟩) 26 [(20, (.sc (.atom 16))), (23, (.sc (.atom 26)))] (.sc (.sl)) []
    (.next 6 [(.ar .add .i64 (.atom 8) (.int .i64 1)), (.atom 9), (.atom 10), (.atom 11), (.atom 12), (.atom 13), (.atom 14), (.atom 15), (.atom 27)]))))))
    (.leaf (.ag [(.atom 9), (.atom 10), (.atom 11), (.atom 12), (.atom 13), (.atom 14), (.atom 15), (.atom 16)])))))
theorem fm_lift_shown_eq : execF Try.prog { pub := [], nojoin := false } Try.f35 = fm_lift_shown := by kernel_rfl
theorem cb_lift_shown : callB Try.prog 35 = true := by kernel_rfl
theorem tri_lift_shown : TriOf Try.prog 35 Try.f35 fm_lift_shown := triOf Try.func35 fm_lift_shown_eq

/-- scrimshaw/scrimshawref02.Same -/
abbrev n_scrimshawref02_Same : FuncId := 36
def fm_scrimshawref02_Same : Fm VE :=
 (.ite (.pick (.pick (.pick (.cmp .neq (.atom 0) (.atom 4)) (.bool true) (.cmp .neq (.atom 1) (.atom 5))) (.bool true) (.scmp .neq (.atom 2) (.atom 6))) (.bool true) (.cmp .neq (.len (.atom 3)) (.len (.atom 7))))
  (.leaf (.sc (.bool false)))
  (.loop 5 [.bool, .int .i64] [(.bool false), (.int .i64 0)]
   (.ite (.cmp .lss (.atom 9) (.len (.atom 3)))
    (.chk [] (.inSl (.atom 3) (.atom 9))
    (.load (.elt (.atom 3) (.atom 9) 4) [.int .i64, .int .i64, .str, .sl]
    (.chk [] (.inSl (.atom 7) (.atom 9))
    (.load (.elt (.atom 7) (.atom 9) 4) [.int .i64, .int .i64, .str, .sl]
    (.call (.fn 36) [(.ag [(.atom 10), (.atom 11), (.atom 12), (.atom 13)]), (.ag [(.atom 14), (.atom 15), (.atom 16), (.atom 17)])] (.sc (.bool)) []
    (.ite (.not (.atom 18))
     (.leaf (.sc (.bool false)))
     (.next 5 [(.atom 8), (.ar .add .i64 (.atom 9) (.int .i64 1))])))))))
    (.leaf (.sc (.bool true))))))
theorem fm_scrimshawref02_Same_eq : execF Try.prog { pub := [], nojoin := false } Try.f36 = fm_scrimshawref02_Same := by kernel_rfl
theorem cb_scrimshawref02_Same : callB Try.prog 36 = true := by kernel_rfl
theorem tri_scrimshawref02_Same : TriOf Try.prog 36 Try.f36 fm_scrimshawref02_Same := triOf Try.func36 fm_scrimshawref02_Same_eq

/-- scrimshaw/core.check -/
abbrev n_core_check : FuncId := 37
def fm_core_check : Fm VE :=
 (.chk [] (.some (.atom 9))
 (.load (.atom 9) [.int .i64]
 (.ite (.cmp .eql (.atom 10) (.int .i64 4096))
  (.leaf (.sc (.int .i64 62)))
  (.load (.atom 9) [.int .i64]
  (.store (.atom 9) [(.ar .add .i64 (.atom 11) (.int .i64 1))]
  (.ite (.cmp .geq (.atom 8) (.int .i64 250))
   (.leaf (.sc (.int .i64 61)))
   (.call (.fn 53) [(.ag [(.atom 0), (.atom 1), (.atom 2), (.atom 3), (.atom 4), (.atom 5), (.atom 6), (.atom 7)])] (.sc (.bool)) []
   (.ite (.not (.atom 12))
    (.leaf (.sc (.int .i64 60)))
    (.loop 10 [.int .i64, .int .i64] [(.int .i64 0), (.int .i64 0)]
     (.ite (.cmp .lss (.atom 14) (.len (.atom 7)))
      (.chk [] (.inSl (.atom 7) (.atom 14))
      (.load (.elt (.atom 7) (.atom 14) 8) [.int .i64, .str, .sl, .int .i64, .int .i64, .str, .sl, .sl]
      (.call (.fn 37) [(.ag [(.atom 15), (.atom 16), (.atom 17), (.atom 18), (.atom 19), (.atom 20), (.atom 21), (.atom 22)]), (.sc (.ar .add .i64 (.atom 8) (.int .i64 1))), (.sc (.atom 9))] (.sc (.int .i64)) []
      (.ite (.cmp .neq (.atom 23) (.int .i64 0))
       (.leaf (.sc (.atom 23)))
       (.next 10 [(.atom 13), (.ar .add .i64 (.atom 14) (.int .i64 1))])))))
      (.leaf (.sc (.int .i64 0)))))))))))))
theorem fm_core_check_eq : execF Try.prog { pub := [], nojoin := false } Try.f37 = fm_core_check := by kernel_rfl
theorem cb_core_check : callB Try.prog 37 = true := by kernel_rfl
theorem tri_core_check : TriOf Try.prog 37 Try.f37 fm_core_check := triOf Try.func37 fm_core_check_eq

/-- scrimshaw/core.free -/
abbrev n_core_free : FuncId := 38
def fm_core_free : Fm VE :=
 (.join 1 []
  (.loop 3 [.int .i64] [(.int .i64 0)]
   (.ite (.cmp .lss (.atom 10) (.len (.atom 7)))
    (.chk [] (.inSl (.atom 7) (.atom 10))
    (.load (.elt (.atom 7) (.atom 10) 8) [.int .i64, .str, .sl, .int .i64, .int .i64, .str, .sl, .sl]
    (.call (.fn 54) [(.ag [(.atom 0), (.atom 1), (.atom 2), (.atom 3), (.atom 4), (.atom 5), (.atom 6), (.atom 7)]), (.sc (.atom 10))] (.sc (.bool)) []
    (.loop 13 [.int .i64] [(.int .i64 0)]
     (.ite (.cmp .lss (.atom 20) (.len (.atom 2)))
      (.chk [] (.inSl (.atom 2) (.atom 20))
      (.load (.elt (.atom 2) (.atom 20) 1) [.str]
      (.sem (.lookup 76 (.tmp 49) (.tmp 50) false) 3 [(49, (.sc (.atom 8))), (50, (.sc (.atom 21)))] (.sc (.int .i64)) []
      (.sem (.mapUpdate 76 (.tmp 49) (.tmp 50) (.tmp 53)) 0 [(49, (.sc (.atom 8))), (50, (.sc (.atom 21))), (53, (.sc (.ar .add .i64 (.atom 22) (.pick (.atom 19) (.int .i64 1) (.int .i64 0)))))] (.tu []) []
      (.next 13 [(.ar .add .i64 (.atom 20) (.int .i64 1))])))))
      (.call (.fn 38) [(.ag [(.atom 11), (.atom 12), (.atom 13), (.atom 14), (.atom 15), (.atom 16), (.atom 17), (.atom 18)]), (.sc (.atom 8)), (.sc (.atom 9))] (.tu []) []
      (.loop 18 [.int .i64] [(.int .i64 0)]
       (.ite (.cmp .lss (.atom 21) (.len (.atom 2)))
        (.chk [] (.inSl (.atom 2) (.atom 21))
        (.load (.elt (.atom 2) (.atom 21) 1) [.str]
        (.sem (.lookup 76 (.tmp 66) (.tmp 67) false) 3 [(66, (.sc (.atom 8))), (67, (.sc (.atom 22)))] (.sc (.int .i64)) []
        (.sem (.mapUpdate 76 (.tmp 66) (.tmp 67) (.tmp 70)) 0 [(66, (.sc (.atom 8))), (67, (.sc (.atom 22))), (70, (.sc (.ar .sub .i64 (.atom 23) (.pick (.atom 19) (.int .i64 1) (.int .i64 0)))))] (.tu []) []
        (.next 18 [(.ar .add .i64 (.atom 21) (.int .i64 1))])))))
        (.next 3 [(.ar .add .i64 (.atom 10) (.int .i64 1))])))))))))
    (.leaf (.tu []))))
  (.join 2 [.bool]
   (.ite (.atom 10)
    (.sem (.mapUpdate 76 (.tmp 28) (.tmp 30) (.const (.int .i64 1))) 0 [(28, (.sc (.atom 9))), (30, (.sc (.atom 1)))] (.tu []) []
    (.next 1 []))
    (.next 1 []))
   (.ite (.pick (.cmp .eql (.atom 0) (.int .i64 1)) (.bool true) (.cmp .eql (.atom 0) (.int .i64 2)))
    (.sem (.lookup 76 (.tmp 22) (.tmp 24) false) 3 [(22, (.sc (.atom 8))), (24, (.sc (.atom 1)))] (.sc (.int .i64)) []
    (.next 2 [(.cmp .eql (.atom 10) (.int .i64 0))]))
    (.next 2 [(.bool false)]))))
theorem fm_core_free_eq : execF Try.prog { pub := [], nojoin := false } Try.f38 = fm_core_free := by kernel_rfl
theorem cb_core_free : callB Try.prog 38 = true := by kernel_rfl
theorem tri_core_free : TriOf Try.prog 38 Try.f38 fm_core_free := triOf Try.func38 fm_core_free_eq

/-- scrimshaw/pass.copied -/
abbrev n_pass_copied : FuncId := 41
def fm_pass_copied : Fm VE :=
 (.call (.fn 43) [(.sc (.atom 2))] (.sc (.sl)) []
 (.call (.fn 42) [(.ag [(.atom 0), (.atom 1), (.atom 8), (.atom 3), (.atom 4), (.atom 5), (.atom 6), (.atom 7)]), (.sc (.fn 41))] (.ag [.int .i64, .str, .sl, .int .i64, .int .i64, .str, .sl, .sl]) []
 (.leaf (.ag [(.atom 9), (.atom 10), (.atom 11), (.atom 12), (.atom 13), (.atom 14), (.atom 15), (.atom 16)]))))
theorem fm_pass_copied_eq : execF Try.prog { pub := [], nojoin := false } Try.f41 = fm_pass_copied := by kernel_rfl
theorem cb_pass_copied : callB Try.prog 41 = true := by kernel_rfl
theorem tri_pass_copied : TriOf Try.prog 41 Try.f41 fm_pass_copied := triOf Try.func41 fm_pass_copied_eq

/-- scrimshaw/pass.Map -/
abbrev n_pass_Map : FuncId := 42
def fm_pass_Map : Fm VE :=
 (.loop 4 [.sl, .int .i64] [(.nil 1), (.int .i64 0)]
  (.ite (.cmp .lss (.atom 10) (.len (.atom 7)))
   (.chk [] (.inSl (.atom 7) (.atom 10))
   (.load (.elt (.atom 7) (.atom 10) 8) [.int .i64, .str, .sl, .int .i64, .int .i64, .str, .sl, .sl]
   (.call (.atom 8) [(.ag [(.atom 11), (.atom 12), (.atom 13), (.atom 14), (.atom 15), (.atom 16), (.atom 17), (.atom 18)])] (.ag [.int .i64, .str, .sl, .int .i64, .int .i64, .str, .sl, .sl]) []
   (.sem (.buildSlice 26 1 #[(0, (.tmp 18))]) 26 [(18, (.ag [(.atom 19), (.atom 20), (.atom 21), (.atom 22), (.atom 23), (.atom 24), (.atom 25), (.atom 26)]))] (.sc (.sl)) []
   (.sem (.call ⟨.builtin .append, #[(.tmp 15), (.tmp 19)], #[26, 26]⟩) 26 [(15, (.sc (.atom 9))), (19, (.sc (.atom 27)))] (.sc (.sl)) []
   (.next 4 [(.atom 28), (.ar .add .i64 (.atom 10) (.int .i64 1))]))))))
   (.leaf (.ag [(.atom 0), (.atom 1), (.atom 2), (.atom 3), (.atom 4), (.atom 5), (.atom 6), (.atom 9)]))))
theorem fm_pass_Map_eq : execF Try.prog { pub := [], nojoin := false } Try.f42 = fm_pass_Map := by kernel_rfl
theorem cb_pass_Map : callB Try.prog 42 = true := by kernel_rfl
theorem tri_pass_Map : TriOf Try.prog 42 Try.f42 fm_pass_Map := triOf Try.func42 fm_pass_Map_eq

/-- slices.Clone[[]string,string] -/
abbrev n_slices_Clone___string_string_ : FuncId := 43
def fm_slices_Clone___string_string_ : Fm VE :=
 (.ite (.isnil (.atom 0))
  (.leaf (.sc (.nil 1)))
  (.sem (.buildSlice 22 0 #[]) 22 [] (.sc (.sl)) []
  (.sem (.call ⟨.builtin .append, #[(.tmp 5), (.tmp 6)], #[22, 22]⟩) 22 [(5, (.sc (.atom 1))), (6, (.sc (.atom 0)))] (.sc (.sl)) []
  (.leaf (.sc (.atom 2))))))
theorem fm_slices_Clone___string_string__eq : execF Try.prog { pub := [], nojoin := false } Try.f43 = fm_slices_Clone___string_string_ := by kernel_rfl
theorem tri_slices_Clone___string_string_ : TriOf Try.prog 43 Try.f43 fm_slices_Clone___string_string_ := triOf Try.func43 fm_slices_Clone___string_string__eq

/-- scrimshaw/lift.lower$1 -/
abbrev n_lift_lower_1 : FuncId := 46
def fm_lift_lower_1 : Fm VE :=
 (.load (.atom 8) [.sl, .int .i64, .str, .sl, .int .i64, .int .i64, .str, .sl, .sl]
 (.call (.fn 29) [(.ag [(.atom 9), (.atom 10), (.atom 11), (.atom 12), (.atom 13), (.atom 14), (.atom 15), (.atom 16), (.atom 17)]), (.ag [(.atom 0), (.atom 1), (.atom 2), (.atom 3), (.atom 4), (.atom 5), (.atom 6), (.atom 7)])] (.ag [.int .i64, .str, .sl, .int .i64, .int .i64, .str, .sl, .sl]) []
 (.leaf (.ag [(.atom 18), (.atom 19), (.atom 20), (.atom 21), (.atom 22), (.atom 23), (.atom 24), (.atom 25)]))))
theorem fm_lift_lower_1_eq : execFC Try.prog { pub := [], nojoin := false } Try.f46 [(.ag [.int .i64, .str, .sl, .int .i64, .int .i64, .str, .sl, .sl]), (.sc (.ptr))] = fm_lift_lower_1 := by kernel_rfl
theorem cb_lift_lower_1 : callB Try.prog 46 = true := by kernel_rfl
theorem tri_lift_lower_1 : TriOfC Try.prog 46 [(.ag [.int .i64, .str, .sl, .int .i64, .int .i64, .str, .sl, .sl]), (.sc (.ptr))] fm_lift_lower_1 := triOfC Try.func46 fm_lift_lower_1_eq

/-- (*scrimshaw/lift.checker).clo -/
abbrev n_lift_checker__clo : FuncId := 47
def fm_lift_checker__clo : Fm VE :=
 (.join 2 [.bool]
  (.ite (.not (.atom 10))
   (.chk [] (.some (.atom 0))
   (.store (.padd (.atom 0) 11) [(.bool true)]
   (.leaf (.tu []))))
   (.chk [] (.some (.atom 0))
   (.load (.padd (.atom 0) 12) [.sl]
   (.chk [] (.inSl (.atom 11) (.atom 5))
   (.load (.elt (.atom 11) (.atom 5) 1) [.int .i64]
   (.store (.elt (.atom 11) (.atom 5) 1) [(.ar .add .i64 (.atom 12) (.int .i64 1))]
   (.leaf (.tu []))))))))
  (.ite (.pick (.scmp .eql (.atom 2) (.str [])) (.cmp .eql (.len (.atom 8)) (.int .i64 0)) (.bool false))
   (.call (.fn 61) [(.ag [(.atom 4), (.atom 5), (.atom 6), (.atom 7)]), (.ag [(.int .i64 1), (.atom 5), (.str []), (.nil 1)])] (.sc (.bool)) []
   (.chk [((.pick (.atom 10) (.cmp .gtr (.atom 5) (.atom 9)) (.bool false)), true)] (.some (.atom 0))
   (.chk [((.pick (.atom 10) (.cmp .gtr (.atom 5) (.atom 9)) (.bool false)), true)] (.some (.atom 0))
   (.chk [((.pick (.atom 10) (.cmp .gtr (.atom 5) (.atom 9)) (.bool false)), true)] (.some (.padd (.atom 0) 0))
   (.ite (.pick (.atom 10) (.cmp .gtr (.atom 5) (.atom 9)) (.bool false))
    (.load (.padd (.padd (.atom 0) 0) 0) [.sl]
    (.chk [((.cmp .lss (.atom 5) (.len (.atom 11))), true)] (.some (.atom 0))
    (.chk [((.cmp .lss (.atom 5) (.len (.atom 11))), true)] (.some (.atom 0))
    (.chk [((.cmp .lss (.atom 5) (.len (.atom 11))), true)] (.some (.padd (.atom 0) 0))
    (.ite (.cmp .lss (.atom 5) (.len (.atom 11)))
     (.load (.padd (.padd (.atom 0) 0) 0) [.sl]
     (.chk [] (.inSl (.atom 12) (.atom 5))
     (.load (.padd (.elt (.atom 12) (.atom 5) 10) 1) [.sl]
     (.call (.fn 62) [(.sc (.atom 13)), (.sc (.atom 3))] (.sc (.bool)) []
     (.next 2 [(.atom 14)])))))
     (.next 2 [(.bool false)]))))))
    (.next 2 [(.bool false)]))))))
   (.next 2 [(.bool false)])))
theorem fm_lift_checker__clo_eq : execF Try.prog { pub := [], nojoin := false } Try.f47 = fm_lift_checker__clo := by kernel_rfl
theorem cb_lift_checker__clo : callB Try.prog 47 = true := by kernel_rfl
theorem tri_lift_checker__clo : TriOf Try.prog 47 Try.f47 fm_lift_checker__clo := triOf Try.func47 fm_lift_checker__clo_eq

/-- slices.Concat[[]string,string] -/
abbrev n_slices_Concat___string_string_ : FuncId := 48
def fm_slices_Concat___string_string_ : Fm VE :=
 (.loop 4 [.int .i64, .int .i64] [(.int .i64 0), (.int .i64 0)]
  (.ite (.cmp .lss (.atom 2) (.len (.atom 0)))
   (.join 7 [.int .i64]
    (.next 4 [(.atom 3), (.ar .add .i64 (.atom 2) (.int .i64 1))])
    (.chk [] (.inSl (.atom 0) (.atom 2))
    (.load (.elt (.atom 0) (.atom 2) 1) [.sl]
    (.ite (.cmp .lss (.ar .add .i64 (.atom 1) (.len (.atom 3))) (.int .i64 0))
     (.sem (.makeInterface 9 (.const (.string ⟨#[108, 101, 110, 32, 111, 117, 116, 32, 111, 102, 32, 114, 97, 110, 103, 101]⟩))) 20 [] (.sc (.any)) []
     (.sem (.panic (.tmp 21)) 0 [(21, (.sc (.atom 4)))] (.tu []) []
     (.next 7 [(.ar .add .i64 (.atom 1) (.len (.atom 3)))])))
     (.next 7 [(.ar .add .i64 (.atom 1) (.len (.atom 3)))])))))
   (.call (.fn 63) [(.sc (.nil 1)), (.sc (.atom 1))] (.sc (.sl)) []
   (.loop 10 [.sl, .int .i64] [(.atom 3), (.int .i64 0)]
    (.ite (.cmp .lss (.atom 5) (.len (.atom 0)))
     (.chk [] (.inSl (.atom 0) (.atom 5))
     (.load (.elt (.atom 0) (.atom 5) 1) [.sl]
     (.sem (.call ⟨.builtin .append, #[(.tmp 31), (.tmp 32)], #[22, 22]⟩) 22 [(31, (.sc (.atom 4))), (32, (.sc (.atom 6)))] (.sc (.sl)) []
     (.next 10 [(.atom 7), (.ar .add .i64 (.atom 5) (.int .i64 1))]))))
     (.leaf (.sc (.atom 4))))))))
theorem fm_slices_Concat___string_string__eq : execF Try.prog { pub := [], nojoin := false } Try.f48 = fm_slices_Concat___string_string_ := by kernel_rfl
theorem tri_slices_Concat___string_string_ : TriOf Try.prog 48 Try.f48 fm_slices_Concat___string_string_ := triOf Try.func48 fm_slices_Concat___string_string__eq

/-- scrimshaw/data.Name -/
abbrev n_data_Name : FuncId := 49
def fm_data_Name : Fm VE :=
 (.loop 3 [.bool, .int .i64] [(.bool false), (.int .i64 0)]
  (.ite (.cmp .lss (.atom 2) (.slen (.atom 0)))
   (.chk [] (.inStr (.atom 0) (.atom 2))
   (.call (.fn 64) [(.sc (.sidx (.atom 0) (.atom 2)))] (.sc (.bool)) []
   (.ite (.not (.atom 3))
    (.leaf (.sc (.bool false)))
    (.next 3 [(.atom 1), (.ar .add .i64 (.atom 2) (.int .i64 1))]))))
   (.join 6 [.bool]
    (.leaf (.sc (.atom 3)))
    (.ite (.pick (.pick (.scmp .neq (.atom 0) (.str [])) (.cmp .leq (.slen (.atom 0)) (.int .i64 64)) (.bool false)) (.scmp .neq (.atom 0) (.str [46])) (.bool false))
     (.call (.fn 65) [(.sc (.atom 0))] (.sc (.bool)) []
     (.next 6 [(.not (.atom 3))]))
     (.next 6 [(.bool false)])))))
theorem fm_data_Name_eq : execF Try.prog { pub := [], nojoin := false } Try.f49 = fm_data_Name := by kernel_rfl
theorem cb_data_Name : callB Try.prog 49 = true := by kernel_rfl
theorem tri_data_Name : TriOf Try.prog 49 Try.f49 fm_data_Name := triOf Try.func49 fm_data_Name_eq

/-- slices.Contains[[]string,string] -/
abbrev n_slices_Contains___string_string_ : FuncId := 50
def fm_slices_Contains___string_string_ : Fm VE :=
 (.call (.fn 66) [(.sc (.atom 0)), (.sc (.atom 1))] (.sc (.int .i64)) []
 (.leaf (.sc (.cmp .geq (.atom 2) (.int .i64 0)))))
theorem fm_slices_Contains___string_string__eq : execF Try.prog { pub := [], nojoin := false } Try.f50 = fm_slices_Contains___string_string_ := by kernel_rfl
theorem cb_slices_Contains___string_string_ : callB Try.prog 50 = true := by kernel_rfl
theorem tri_slices_Contains___string_string_ : TriOf Try.prog 50 Try.f50 fm_slices_Contains___string_string_ := triOf Try.func50 fm_slices_Contains___string_string__eq

/-- slices.IndexFunc[[]int,int] -/
abbrev n_slices_IndexFunc___int_int_ : FuncId := 51
def fm_slices_IndexFunc___int_int_ : Fm VE :=
 (.loop 3 [.int .i64, .int .i64] [(.int .i64 0), (.int .i64 0)]
  (.ite (.cmp .lss (.atom 3) (.len (.atom 0)))
   (.chk [] (.inSl (.atom 0) (.atom 3))
   (.load (.elt (.atom 0) (.atom 3) 1) [.int .i64]
   (.call (.atom 1) [(.sc (.atom 4))] (.sc (.bool)) []
   (.ite (.atom 5)
    (.leaf (.sc (.atom 3)))
    (.next 3 [(.atom 2), (.ar .add .i64 (.atom 3) (.int .i64 1))])))))
   (.leaf (.sc (.int .i64 (-1))))))
theorem fm_slices_IndexFunc___int_int__eq : execF Try.prog { pub := [], nojoin := false } Try.f51 = fm_slices_IndexFunc___int_int_ := by kernel_rfl
theorem cb_slices_IndexFunc___int_int_ : callB Try.prog 51 = true := by kernel_rfl
theorem tri_slices_IndexFunc___int_int_ : TriOf Try.prog 51 Try.f51 fm_slices_IndexFunc___int_int_ := triOf Try.func51 fm_slices_IndexFunc___int_int__eq

/-- scrimshaw/pass.Ref -/
abbrev n_pass_Ref : FuncId := 52
def fm_pass_Ref : Fm VE :=
 (.leaf (.ag [(.int .i64 1), (.atom 0), (.nil 1), (.int .i64 0), (.int .i64 0), (.str []), (.nil 1), (.nil 1)]))
theorem fm_pass_Ref_eq : execF Try.prog { pub := [], nojoin := false } Try.f52 = fm_pass_Ref := by kernel_rfl
theorem cb_pass_Ref : callB Try.prog 52 = true := by kernel_rfl
theorem tri_pass_Ref : TriOf Try.prog 52 Try.f52 fm_pass_Ref := triOf Try.func52 fm_pass_Ref_eq

/-- scrimshaw/core.form -/
abbrev n_core_form : FuncId := 53
def fm_core_form : Fm VE :=
 (.call (.fn 67) [(.ag [(.atom 0), (.atom 1), (.atom 2), (.atom 3), (.atom 4), (.atom 5), (.atom 6), (.atom 7)])] (.tu [(true, [.bool, .bool, .int .i64, .int .i64]), (false, [.bool])]) []
 (.join 3 [.bool]
  (.ite (.atom 13)
   (.leaf (.sc (.bool false)))
   (.join 5 [.bool]
    (.ite (.atom 14)
     (.leaf (.sc (.bool false)))
     (.ite (.cmp .eql (.atom 0) (.int .i64 0))
      (.call (.fn 69) [(.ag [(.atom 3), (.atom 4), (.atom 5), (.atom 6)])] (.sc (.bool)) []
      (.leaf (.sc (.atom 15))))
      (.join 8 [.bool]
       (.join 9 [.bool]
        (.leaf (.sc (.atom 16)))
        (.ite (.atom 15)
         (.call (.fn 61) [(.ag [(.atom 3), (.atom 4), (.atom 5), (.atom 6)]), (.ag [(.int .i64 0), (.int .i64 0), (.str []), (.nil 1)])] (.sc (.bool)) []
         (.next 9 [(.atom 16)]))
         (.next 9 [(.bool false)])))
       (.chk [((.cmp .neq (.atom 0) (.int .i64 10)), false)] (.sub (.cap (.atom 7)) (.int .i64 0) (.len (.atom 2)))
       (.ite (.cmp .neq (.atom 0) (.int .i64 10))
        (.next 8 [(.bool true)])
        (.call (.fn 70) [(.sc (.sls (.atom 7) (.int .i64 0) (.len (.atom 2)) 8)), (.sc (.fn 71))] (.sc (.bool)) []
        (.next 8 [(.not (.atom 15))])))))))
    (.ite (.pick (.atom 8) (.cmp .neq (.atom 0) (.int .i64 7)) (.bool false))
     (.call (.fn 49) [(.sc (.atom 1))] (.sc (.bool)) []
     (.next 5 [(.pick (.not (.atom 14)) (.bool true) (.pick (.not (.atom 8)) (.scmp .neq (.atom 1) (.str [])) (.bool false)))]))
     (.next 5 [(.pick (.not (.atom 8)) (.scmp .neq (.atom 1) (.str [])) (.bool false))]))))
  (.ite (.pick (.pick (.pick (.not (.atom 12)) (.bool true) (.cmp .lss (.len (.atom 7)) (.atom 10))) (.bool true) (.cmp .gtr (.len (.atom 7)) (.atom 11))) (.bool true) (.pick (.cmp .gtr (.len (.atom 2)) (.int .i64 0)) (.not (.atom 9)) (.bool false)))
   (.next 3 [(.bool true)])
   (.call (.fn 68) [(.sc (.atom 2))] (.sc (.bool)) []
   (.next 3 [(.not (.atom 13))])))))
theorem fm_core_form_eq : execF Try.prog { pub := [], nojoin := false } Try.f53 = fm_core_form := by kernel_rfl
theorem cb_core_form : callB Try.prog 53 = true := by kernel_rfl
theorem tri_core_form : TriOf Try.prog 53 Try.f53 fm_core_form := triOf Try.func53 fm_core_form_eq

/-- scrimshaw/core.binds -/
abbrev n_core_binds : FuncId := 54
def fm_core_binds : Fm VE :=
 (.join 3 [.bool]
  (.ite (.atom 9)
   (.leaf (.sc (.bool true)))
   (.ite (.cmp .eql (.atom 0) (.int .i64 8))
    (.leaf (.sc (.cmp .eql (.atom 8) (.ar .sub .i64 (.len (.atom 7)) (.int .i64 1)))))
    (.leaf (.sc (.bool false)))))
  (.ite (.cmp .eql (.atom 0) (.int .i64 5))
   (.next 3 [(.cmp .eql (.atom 0) (.int .i64 5))])
   (.next 3 [(.pick (.cmp .eql (.atom 0) (.int .i64 9)) (.cmp .eql (.atom 0) (.int .i64 9)) (.cmp .eql (.atom 0) (.int .i64 10)))])))
theorem fm_core_binds_eq : execF Try.prog { pub := [], nojoin := false } Try.f54 = fm_core_binds := by kernel_rfl
theorem cb_core_binds : callB Try.prog 54 = true := by kernel_rfl
theorem tri_core_binds : TriOf Try.prog 54 Try.f54 fm_core_binds := triOf Try.func54 fm_core_binds_eq

/-- scrimshaw/data.Equal -/
abbrev n_data_Equal : FuncId := 61
def fm_data_Equal : Fm VE :=
 (.join 1 [.bool]
  (.leaf (.sc (.atom 8)))
  (.ite (.pick (.pick (.cmp .eql (.atom 0) (.atom 4)) (.cmp .eql (.atom 1) (.atom 5)) (.bool false)) (.scmp .eql (.atom 2) (.atom 6)) (.bool false))
   (.call (.fn 79) [(.sc (.atom 3)), (.sc (.atom 7)), (.sc (.fn 61))] (.sc (.bool)) []
   (.next 1 [(.atom 8)]))
   (.next 1 [(.bool false)])))
theorem fm_data_Equal_eq : execF Try.prog { pub := [], nojoin := false } Try.f61 = fm_data_Equal := by kernel_rfl
theorem cb_data_Equal : callB Try.prog 61 = true := by kernel_rfl
theorem tri_data_Equal : TriOf Try.prog 61 Try.f61 fm_data_Equal := triOf Try.func61 fm_data_Equal_eq

/-- slices.Equal[[]string,string] -/
abbrev n_slices_Equal___string_string_ : FuncId := 62
def fm_slices_Equal___string_string_ : Fm VE :=
 (.ite (.cmp .neq (.len (.atom 0)) (.len (.atom 1)))
  (.leaf (.sc (.bool false)))
  (.loop 5 [.bool, .int .i64] [(.bool false), (.int .i64 0)]
   (.ite (.cmp .lss (.atom 3) (.len (.atom 0)))
    (.chk [] (.inSl (.atom 0) (.atom 3))
    (.load (.elt (.atom 0) (.atom 3) 1) [.str]
    (.chk [] (.inSl (.atom 1) (.atom 3))
    (.load (.elt (.atom 1) (.atom 3) 1) [.str]
    (.ite (.scmp .neq (.atom 4) (.atom 5))
     (.leaf (.sc (.bool false)))
     (.next 5 [(.atom 2), (.ar .add .i64 (.atom 3) (.int .i64 1))]))))))
    (.leaf (.sc (.bool true))))))
theorem fm_slices_Equal___string_string__eq : execF Try.prog { pub := [], nojoin := false } Try.f62 = fm_slices_Equal___string_string_ := by kernel_rfl
theorem cb_slices_Equal___string_string_ : callB Try.prog 62 = true := by kernel_rfl
theorem tri_slices_Equal___string_string_ : TriOf Try.prog 62 Try.f62 fm_slices_Equal___string_string_ := triOf Try.func62 fm_slices_Equal___string_string__eq

/-- slices.Grow[[]string,string] -/
abbrev n_slices_Grow___string_string_ : FuncId := 63
def fm_slices_Grow___string_string_ : Fm VE :=
 (.join 1 []
  (.join 2 [.sl, .int .i64]
   (.leaf (.sc (.atom 2)))
   (.ite (.cmp .gtr (.ar .sub .i64 (.atom 1) (.ar .sub .i64 (.cap (.atom 0)) (.len (.atom 0)))) (.int .i64 0))
    (.chk [] (.sub (.cap (.atom 0)) (.int .i64 0) (.cap (.atom 0)))
    (.sem (.call ⟨.builtin .append, #[(.tmp 20), (.tmp 21)], #[22, 3]⟩) 22 [(20, (.sc (.sls (.atom 0) (.int .i64 0) (.cap (.atom 0)) 1))), (21, (.sc (.ar .sub .i64 (.atom 1) (.ar .sub .i64 (.cap (.atom 0)) (.len (.atom 0))))))] (.sc (.sl)) []
    (.chk [] (.sub (.cap (.atom 2)) (.int .i64 0) (.len (.atom 0)))
    (.next 2 [(.sls (.atom 2) (.int .i64 0) (.len (.atom 0)) 1), (.ar .sub .i64 (.atom 1) (.ar .sub .i64 (.cap (.atom 0)) (.len (.atom 0))))]))))
    (.next 2 [(.atom 0), (.ar .sub .i64 (.atom 1) (.ar .sub .i64 (.cap (.atom 0)) (.len (.atom 0))))])))
  (.ite (.cmp .lss (.atom 1) (.int .i64 0))
   (.sem (.makeInterface 9 (.const (.string ⟨#[99, 97, 110, 110, 111, 116, 32, 98, 101, 32, 110, 101, 103, 97, 116, 105, 118, 101]⟩))) 20 [] (.sc (.any)) []
   (.sem (.panic (.tmp 7)) 0 [(7, (.sc (.atom 2)))] (.tu []) []
   (.next 1 [])))
   (.next 1 [])))
theorem fm_slices_Grow___string_string__eq : execF Try.prog { pub := [], nojoin := false } Try.f63 = fm_slices_Grow___string_string_ := by kernel_rfl
theorem tri_slices_Grow___string_string_ : TriOf Try.prog 63 Try.f63 fm_slices_Grow___string_string_ := triOf Try.func63 fm_slices_Grow___string_string__eq

/-- scrimshaw/data.isName -/
abbrev n_data_isName : FuncId := 64
def fm_data_isName : Fm VE :=
 (.join 1 [.bool]
  (.leaf (.sc (.atom 1)))
  (.call (.fn 80) [(.sc (.atom 0))] (.sc (.bool)) []
  (.ite (.pick (.pick (.atom 1) (.bool true) (.pick (.cmp .geq (.atom 0) (.int .u8 97)) (.cmp .leq (.atom 0) (.int .u8 122)) (.bool false))) (.bool true) (.pick (.cmp .geq (.atom 0) (.int .u8 65)) (.cmp .leq (.atom 0) (.int .u8 90)) (.bool false)))
   (.next 1 [(.bool true)])
   (.call (.fn 81) [(.sc (.str [33, 36, 37, 38, 42, 47, 58, 60, 61, 62, 63, 94, 95, 126, 43, 45, 46, 64])), (.sc (.atom 0))] (.sc (.int .i64)) []
   (.next 1 [(.cmp .geq (.atom 2) (.int .i64 0))])))))
theorem fm_data_isName_eq : execF Try.prog { pub := [], nojoin := false } Try.f64 = fm_data_isName := by kernel_rfl
theorem cb_data_isName : callB Try.prog 64 = true := by kernel_rfl
theorem tri_data_isName : TriOf Try.prog 64 Try.f64 fm_data_isName := triOf Try.func64 fm_data_isName_eq

/-- scrimshaw/data.isNumber -/
abbrev n_data_isNumber : FuncId := 65
def fm_data_isNumber : Fm VE :=
 (.join 1 [.str]
  (.loop 4 [.bool, .int .i64] [(.bool false), (.int .i64 0)]
   (.ite (.cmp .lss (.atom 3) (.slen (.atom 1)))
    (.chk [] (.inStr (.atom 1) (.atom 3))
    (.call (.fn 80) [(.sc (.sidx (.atom 1) (.atom 3)))] (.sc (.bool)) []
    (.ite (.not (.atom 4))
     (.leaf (.sc (.bool false)))
     (.next 4 [(.atom 2), (.ar .add .i64 (.atom 3) (.int .i64 1))]))))
    (.leaf (.sc (.scmp .neq (.atom 1) (.str []))))))
  (.chk [((.scmp .neq (.atom 0) (.str [])), true)] (.inStr (.atom 0) (.int .i64 0))
  (.chk [((.scmp .neq (.atom 0) (.str [])), true), ((.cmp .eql (.sidx (.atom 0) (.int .i64 0)) (.int .u8 43)), false)] (.inStr (.atom 0) (.int .i64 0))
  (.ite (.pick (.scmp .neq (.atom 0) (.str [])) (.pick (.cmp .eql (.sidx (.atom 0) (.int .i64 0)) (.int .u8 43)) (.bool true) (.cmp .eql (.sidx (.atom 0) (.int .i64 0)) (.int .u8 45))) (.bool false))
   (.chk [] (.sub (.slen (.atom 0)) (.int .i64 1) (.slen (.atom 0)))
   (.next 1 [(.ssub (.atom 0) (.int .i64 1) (.slen (.atom 0)))]))
   (.next 1 [(.atom 0)])))))
theorem fm_data_isNumber_eq : execF Try.prog { pub := [], nojoin := false } Try.f65 = fm_data_isNumber := by kernel_rfl
theorem cb_data_isNumber : callB Try.prog 65 = true := by kernel_rfl
theorem tri_data_isNumber : TriOf Try.prog 65 Try.f65 fm_data_isNumber := triOf Try.func65 fm_data_isNumber_eq

/-- slices.Index[[]string,string] -/
abbrev n_slices_Index___string_string_ : FuncId := 66
def fm_slices_Index___string_string_ : Fm VE :=
 (.loop 3 [.int .i64, .int .i64] [(.int .i64 0), (.int .i64 0)]
  (.ite (.cmp .lss (.atom 3) (.len (.atom 0)))
   (.chk [] (.inSl (.atom 0) (.atom 3))
   (.load (.elt (.atom 0) (.atom 3) 1) [.str]
   (.ite (.scmp .eql (.atom 1) (.atom 4))
    (.leaf (.sc (.atom 3)))
    (.next 3 [(.atom 2), (.ar .add .i64 (.atom 3) (.int .i64 1))]))))
   (.leaf (.sc (.int .i64 (-1))))))
theorem fm_slices_Index___string_string__eq : execF Try.prog { pub := [], nojoin := false } Try.f66 = fm_slices_Index___string_string_ := by kernel_rfl
theorem cb_slices_Index___string_string_ : callB Try.prog 66 = true := by kernel_rfl
theorem tri_slices_Index___string_string_ : TriOf Try.prog 66 Try.f66 fm_slices_Index___string_string_ := triOf Try.func66 fm_slices_Index___string_string__eq

/-- scrimshaw/core.shaped -/
abbrev n_core_shaped : FuncId := 67
def fm_core_shaped : Fm VE :=
 (.ite (.cmp .eql (.atom 0) (.int .i64 0))
  (.leaf (.tu [(true, [(.bool false), (.bool false), (.int .i64 0), (.int .i64 0)]), (false, [(.bool true)])]))
  (.ite (.cmp .eql (.atom 0) (.int .i64 1))
   (.leaf (.tu [(true, [(.bool true), (.bool false), (.int .i64 0), (.int .i64 0)]), (false, [(.bool true)])]))
   (.ite (.cmp .eql (.atom 0) (.int .i64 2))
    (.leaf (.tu [(true, [(.bool true), (.bool false), (.int .i64 1), (.int .i64 1)]), (false, [(.bool true)])]))
    (.ite (.cmp .eql (.atom 0) (.int .i64 3))
     (.leaf (.tu [(true, [(.bool false), (.bool false), (.int .i64 3), (.int .i64 3)]), (false, [(.bool true)])]))
     (.ite (.cmp .eql (.atom 0) (.int .i64 4))
      (.leaf (.tu [(true, [(.bool false), (.bool false), (.int .i64 2), (.int .i64 4096)]), (false, [(.bool true)])]))
      (.ite (.cmp .eql (.atom 0) (.int .i64 5))
       (.leaf (.tu [(true, [(.bool false), (.bool true), (.int .i64 1), (.int .i64 1)]), (false, [(.cmp .leq (.len (.atom 2)) (.int .i64 6))])]))
       (.ite (.cmp .eql (.atom 0) (.int .i64 6))
        (.leaf (.tu [(true, [(.bool false), (.bool false), (.int .i64 1), (.int .i64 7)]), (false, [(.bool true)])]))
        (.ite (.cmp .eql (.atom 0) (.int .i64 7))
         (.call (.fn 82) [(.sc (.atom 1))] (.sc (.int .i64)) []
         (.leaf (.tu [(true, [(.bool true), (.bool false), (.atom 8), (.atom 8)]), (false, [(.cmp .geq (.atom 8) (.int .i64 0))])])))
         (.ite (.pick (.cmp .eql (.atom 0) (.int .i64 8)) (.cmp .eql (.atom 0) (.int .i64 8)) (.cmp .eql (.atom 0) (.int .i64 9)))
          (.leaf (.tu [(true, [(.bool false), (.bool true), (.ar .add .i64 (.len (.atom 2)) (.int .i64 1)), (.ar .add .i64 (.len (.atom 2)) (.int .i64 1))]), (false, [(.bool true)])]))
          (.ite (.cmp .eql (.atom 0) (.int .i64 10))
           (.leaf (.tu [(true, [(.bool false), (.bool true), (.ar .add .i64 (.len (.atom 2)) (.int .i64 1)), (.ar .add .i64 (.len (.atom 2)) (.int .i64 1))]), (false, [(.cmp .gtr (.len (.atom 2)) (.int .i64 0))])]))
           (.leaf (.tu [(true, [(.bool false), (.bool false), (.int .i64 0), (.int .i64 0)]), (false, [(.bool false)])]))))))))))))
theorem fm_core_shaped_eq : execF Try.prog { pub := [], nojoin := false } Try.f67 = fm_core_shaped := by kernel_rfl
theorem cb_core_shaped : callB Try.prog 67 = true := by kernel_rfl
theorem tri_core_shaped : TriOf Try.prog 67 Try.f67 fm_core_shaped := triOf Try.func67 fm_core_shaped_eq

/-- scrimshaw/core.names -/
abbrev n_core_names : FuncId := 68
def fm_core_names : Fm VE :=
 (.loop 3 [.bool, .int .i64] [(.bool false), (.int .i64 0)]
  (.ite (.cmp .lss (.atom 2) (.len (.atom 0)))
   (.chk [] (.inSl (.atom 0) (.atom 2))
   (.load (.elt (.atom 0) (.atom 2) 1) [.str]
   (.join 8 [.bool]
    (.ite (.atom 4)
     (.leaf (.sc (.bool false)))
     (.next 3 [(.atom 1), (.ar .add .i64 (.atom 2) (.int .i64 1))]))
    (.call (.fn 49) [(.sc (.atom 3))] (.sc (.bool)) []
    (.chk [((.not (.atom 4)), false)] (.sub (.cap (.atom 0)) (.int .i64 0) (.atom 2))
    (.ite (.not (.atom 4))
     (.next 8 [(.bool true)])
     (.call (.fn 50) [(.sc (.sls (.atom 0) (.int .i64 0) (.atom 2) 1)), (.sc (.atom 3))] (.sc (.bool)) []
     (.next 8 [(.atom 5)]))))))))
   (.leaf (.sc (.bool true)))))
theorem fm_core_names_eq : execF Try.prog { pub := [], nojoin := false } Try.f68 = fm_core_names := by kernel_rfl
theorem cb_core_names : callB Try.prog 68 = true := by kernel_rfl
theorem tri_core_names : TriOf Try.prog 68 Try.f68 fm_core_names := triOf Try.func68 fm_core_names_eq

/-- scrimshaw/core.isConst -/
abbrev n_core_isConst : FuncId := 69
def fm_core_isConst : Fm VE :=
 (.call (.fn 83) [(.ag [(.atom 0), (.atom 1), (.atom 2), (.atom 3)])] (.sc (.int .i64)) []
 (.leaf (.sc (.pick (.pick (.cmp .eql (.atom 4) (.int .i64 0)) (.cmp .neq (.atom 0) (.int .i64 3)) (.bool false)) (.pick (.cmp .lss (.atom 0) (.int .i64 5)) (.bool true) (.pick (.cmp .eql (.atom 0) (.int .i64 5)) (.cmp .eql (.len (.atom 3)) (.int .i64 0)) (.bool false))) (.bool false)))))
theorem fm_core_isConst_eq : execF Try.prog { pub := [], nojoin := false } Try.f69 = fm_core_isConst := by kernel_rfl
theorem cb_core_isConst : callB Try.prog 69 = true := by kernel_rfl
theorem tri_core_isConst : TriOf Try.prog 69 Try.f69 fm_core_isConst := triOf Try.func69 fm_core_isConst_eq

/-- slices.ContainsFunc[[]scrimshaw/api.Expr,scrimshaw/api.Expr] -/
abbrev n_slices_ContainsFunc___api_Expr_api_Expr_ : FuncId := 70
def fm_slices_ContainsFunc___api_Expr_api_Expr_ : Fm VE :=
 (.call (.fn 84) [(.sc (.atom 0)), (.sc (.atom 1))] (.sc (.int .i64)) []
 (.leaf (.sc (.cmp .geq (.atom 2) (.int .i64 0)))))
theorem fm_slices_ContainsFunc___api_Expr_api_Expr__eq : execF Try.prog { pub := [], nojoin := false } Try.f70 = fm_slices_ContainsFunc___api_Expr_api_Expr_ := by kernel_rfl
theorem cb_slices_ContainsFunc___api_Expr_api_Expr_ : callB Try.prog 70 = true := by kernel_rfl
theorem tri_slices_ContainsFunc___api_Expr_api_Expr_ : TriOf Try.prog 70 Try.f70 fm_slices_ContainsFunc___api_Expr_api_Expr_ := triOf Try.func70 fm_slices_ContainsFunc___api_Expr_api_Expr__eq

/-- scrimshaw/core.form$1 -/
abbrev n_core_form_1 : FuncId := 71
def fm_core_form_1 : Fm VE :=
 (.leaf (.sc (.cmp .neq (.atom 0) (.int .i64 5))))
theorem fm_core_form_1_eq : execF Try.prog { pub := [], nojoin := false } Try.f71 = fm_core_form_1 := by kernel_rfl
theorem cb_core_form_1 : callB Try.prog 71 = true := by kernel_rfl
theorem tri_core_form_1 : TriOf Try.prog 71 Try.f71 fm_core_form_1 := triOf Try.func71 fm_core_form_1_eq

/-- slices.EqualFunc[[]scrimshaw/api.Datum,[]scrimshaw/api.Datum,scrimshaw/api.Datum,scrimshaw/api.Datum] -/
abbrev n_slices_EqualFunc___api_Datum___api_Datum_api_Datum_api_Datum_ : FuncId := 79
def fm_slices_EqualFunc___api_Datum___api_Datum_api_Datum_api_Datum_ : Fm VE :=
 (.ite (.cmp .neq (.len (.atom 0)) (.len (.atom 1)))
  (.leaf (.sc (.bool false)))
  (.loop 5 [.bool, .int .i64] [(.bool false), (.int .i64 0)]
   (.ite (.cmp .lss (.atom 4) (.len (.atom 0)))
    (.chk [] (.inSl (.atom 0) (.atom 4))
    (.load (.elt (.atom 0) (.atom 4) 4) [.int .i64, .int .i64, .str, .sl]
    (.chk [] (.inSl (.atom 1) (.atom 4))
    (.load (.elt (.atom 1) (.atom 4) 4) [.int .i64, .int .i64, .str, .sl]
    (.call (.atom 2) [(.ag [(.atom 5), (.atom 6), (.atom 7), (.atom 8)]), (.ag [(.atom 9), (.atom 10), (.atom 11), (.atom 12)])] (.sc (.bool)) []
    (.ite (.not (.atom 13))
     (.leaf (.sc (.bool false)))
     (.next 5 [(.atom 3), (.ar .add .i64 (.atom 4) (.int .i64 1))])))))))
    (.leaf (.sc (.bool true))))))
theorem fm_slices_EqualFunc___api_Datum___api_Datum_api_Datum_api_Datum__eq : execF Try.prog { pub := [], nojoin := false } Try.f79 = fm_slices_EqualFunc___api_Datum___api_Datum_api_Datum_api_Datum_ := by kernel_rfl
theorem cb_slices_EqualFunc___api_Datum___api_Datum_api_Datum_api_Datum_ : callB Try.prog 79 = true := by kernel_rfl
theorem tri_slices_EqualFunc___api_Datum___api_Datum_api_Datum_api_Datum_ : TriOf Try.prog 79 Try.f79 fm_slices_EqualFunc___api_Datum___api_Datum_api_Datum_api_Datum_ := triOf Try.func79 fm_slices_EqualFunc___api_Datum___api_Datum_api_Datum_api_Datum__eq

/-- scrimshaw/data.isDigit -/
abbrev n_data_isDigit : FuncId := 80
def fm_data_isDigit : Fm VE :=
 (.leaf (.sc (.pick (.cmp .geq (.atom 0) (.int .u8 48)) (.cmp .leq (.atom 0) (.int .u8 57)) (.bool false))))
theorem fm_data_isDigit_eq : execF Try.prog { pub := [], nojoin := false } Try.f80 = fm_data_isDigit := by kernel_rfl
theorem cb_data_isDigit : callB Try.prog 80 = true := by kernel_rfl
theorem tri_data_isDigit : TriOf Try.prog 80 Try.f80 fm_data_isDigit := triOf Try.func80 fm_data_isDigit_eq

/-- strings.IndexByte -/
abbrev n_strings_IndexByte : FuncId := 81
theorem cb_strings_IndexByte : callB Try.prog 81 = true := by kernel_rfl
/-- scrimshaw/core.Arity -/
abbrev n_core_Arity : FuncId := 82
def fm_core_Arity : Fm VE :=
 (.join 3 [.bool]
  (.ite (.atom 1)
   (.leaf (.sc (.int .i64 0)))
   (.join 4 [.bool]
    (.ite (.atom 2)
     (.leaf (.sc (.int .i64 1)))
     (.join 5 [.bool]
      (.ite (.atom 3)
       (.leaf (.sc (.int .i64 2)))
       (.ite (.pick (.scmp .eql (.atom 0) (.str [118, 101, 99, 116, 111, 114, 45, 115, 101, 116, 33])) (.scmp .eql (.atom 0) (.str [118, 101, 99, 116, 111, 114, 45, 115, 101, 116, 33])) (.scmp .eql (.atom 0) (.str [115, 116, 114, 105, 110, 103, 45, 115, 101, 116, 33])))
        (.leaf (.sc (.int .i64 3)))
        (.leaf (.sc (.int .i64 (-1))))))
      (.ite (.scmp .eql (.atom 0) (.str [43]))
       (.next 5 [(.scmp .eql (.atom 0) (.str [43]))])
       (.ite (.scmp .eql (.atom 0) (.str [45]))
        (.next 5 [(.scmp .eql (.atom 0) (.str [45]))])
        (.ite (.scmp .eql (.atom 0) (.str [42]))
         (.next 5 [(.scmp .eql (.atom 0) (.str [42]))])
         (.ite (.scmp .eql (.atom 0) (.str [113, 117, 111, 116, 105, 101, 110, 116]))
          (.next 5 [(.scmp .eql (.atom 0) (.str [113, 117, 111, 116, 105, 101, 110, 116]))])
          (.ite (.scmp .eql (.atom 0) (.str [114, 101, 109, 97, 105, 110, 100, 101, 114]))
           (.next 5 [(.scmp .eql (.atom 0) (.str [114, 101, 109, 97, 105, 110, 100, 101, 114]))])
           (.ite (.scmp .eql (.atom 0) (.str [60]))
            (.next 5 [(.scmp .eql (.atom 0) (.str [60]))])
            (.ite (.scmp .eql (.atom 0) (.str [61]))
             (.next 5 [(.scmp .eql (.atom 0) (.str [61]))])
             (.ite (.scmp .eql (.atom 0) (.str [101, 113, 63]))
              (.next 5 [(.scmp .eql (.atom 0) (.str [101, 113, 63]))])
              (.ite (.scmp .eql (.atom 0) (.str [99, 111, 110, 115]))
               (.next 5 [(.scmp .eql (.atom 0) (.str [99, 111, 110, 115]))])
               (.ite (.scmp .eql (.atom 0) (.str [115, 101, 116, 45, 99, 97, 114, 33]))
                (.next 5 [(.scmp .eql (.atom 0) (.str [115, 101, 116, 45, 99, 97, 114, 33]))])
                (.ite (.scmp .eql (.atom 0) (.str [115, 101, 116, 45, 99, 100, 114, 33]))
                 (.next 5 [(.scmp .eql (.atom 0) (.str [115, 101, 116, 45, 99, 100, 114, 33]))])
                 (.ite (.scmp .eql (.atom 0) (.str [109, 97, 107, 101, 45, 118, 101, 99, 116, 111, 114]))
                  (.next 5 [(.scmp .eql (.atom 0) (.str [109, 97, 107, 101, 45, 118, 101, 99, 116, 111, 114]))])
                  (.ite (.scmp .eql (.atom 0) (.str [118, 101, 99, 116, 111, 114, 45, 114, 101, 102]))
                   (.next 5 [(.scmp .eql (.atom 0) (.str [118, 101, 99, 116, 111, 114, 45, 114, 101, 102]))])
                   (.ite (.scmp .eql (.atom 0) (.str [109, 97, 107, 101, 45, 115, 116, 114, 105, 110, 103]))
                    (.next 5 [(.scmp .eql (.atom 0) (.str [109, 97, 107, 101, 45, 115, 116, 114, 105, 110, 103]))])
                    (.next 5 [(.pick (.scmp .eql (.atom 0) (.str [115, 116, 114, 105, 110, 103, 45, 114, 101, 102])) (.scmp .eql (.atom 0) (.str [115, 116, 114, 105, 110, 103, 45, 114, 101, 102])) (.scmp .eql (.atom 0) (.str [37, 115, 101, 116, 45, 98, 111, 120, 33])))])))))))))))))))))
    (.ite (.scmp .eql (.atom 0) (.str [110, 117, 108, 108, 63]))
     (.next 4 [(.scmp .eql (.atom 0) (.str [110, 117, 108, 108, 63]))])
     (.ite (.scmp .eql (.atom 0) (.str [112, 97, 105, 114, 63]))
      (.next 4 [(.scmp .eql (.atom 0) (.str [112, 97, 105, 114, 63]))])
      (.ite (.scmp .eql (.atom 0) (.str [118, 101, 99, 116, 111, 114, 63]))
       (.next 4 [(.scmp .eql (.atom 0) (.str [118, 101, 99, 116, 111, 114, 63]))])
       (.ite (.scmp .eql (.atom 0) (.str [115, 116, 114, 105, 110, 103, 63]))
        (.next 4 [(.scmp .eql (.atom 0) (.str [115, 116, 114, 105, 110, 103, 63]))])
        (.ite (.scmp .eql (.atom 0) (.str [115, 121, 109, 98, 111, 108, 63]))
         (.next 4 [(.scmp .eql (.atom 0) (.str [115, 121, 109, 98, 111, 108, 63]))])
         (.ite (.scmp .eql (.atom 0) (.str [99, 104, 97, 114, 63]))
          (.next 4 [(.scmp .eql (.atom 0) (.str [99, 104, 97, 114, 63]))])
          (.ite (.scmp .eql (.atom 0) (.str [105, 110, 116, 101, 103, 101, 114, 63]))
           (.next 4 [(.scmp .eql (.atom 0) (.str [105, 110, 116, 101, 103, 101, 114, 63]))])
           (.ite (.scmp .eql (.atom 0) (.str [98, 111, 111, 108, 101, 97, 110, 63]))
            (.next 4 [(.scmp .eql (.atom 0) (.str [98, 111, 111, 108, 101, 97, 110, 63]))])
            (.ite (.scmp .eql (.atom 0) (.str [112, 114, 111, 99, 101, 100, 117, 114, 101, 63]))
             (.next 4 [(.scmp .eql (.atom 0) (.str [112, 114, 111, 99, 101, 100, 117, 114, 101, 63]))])
             (.ite (.scmp .eql (.atom 0) (.str [101, 111, 102, 45, 111, 98, 106, 101, 99, 116, 63]))
              (.next 4 [(.scmp .eql (.atom 0) (.str [101, 111, 102, 45, 111, 98, 106, 101, 99, 116, 63]))])
              (.ite (.scmp .eql (.atom 0) (.str [99, 97, 114]))
               (.next 4 [(.scmp .eql (.atom 0) (.str [99, 97, 114]))])
               (.ite (.scmp .eql (.atom 0) (.str [99, 100, 114]))
                (.next 4 [(.scmp .eql (.atom 0) (.str [99, 100, 114]))])
                (.ite (.scmp .eql (.atom 0) (.str [118, 101, 99, 116, 111, 114, 45, 108, 101, 110, 103, 116, 104]))
                 (.next 4 [(.scmp .eql (.atom 0) (.str [118, 101, 99, 116, 111, 114, 45, 108, 101, 110, 103, 116, 104]))])
                 (.ite (.scmp .eql (.atom 0) (.str [115, 116, 114, 105, 110, 103, 45, 108, 101, 110, 103, 116, 104]))
                  (.next 4 [(.scmp .eql (.atom 0) (.str [115, 116, 114, 105, 110, 103, 45, 108, 101, 110, 103, 116, 104]))])
                  (.ite (.scmp .eql (.atom 0) (.str [99, 104, 97, 114, 45, 62, 105, 110, 116, 101, 103, 101, 114]))
                   (.next 4 [(.scmp .eql (.atom 0) (.str [99, 104, 97, 114, 45, 62, 105, 110, 116, 101, 103, 101, 114]))])
                   (.ite (.scmp .eql (.atom 0) (.str [105, 110, 116, 101, 103, 101, 114, 45, 62, 99, 104, 97, 114]))
                    (.next 4 [(.scmp .eql (.atom 0) (.str [105, 110, 116, 101, 103, 101, 114, 45, 62, 99, 104, 97, 114]))])
                    (.ite (.scmp .eql (.atom 0) (.str [119, 114, 105, 116, 101, 45, 117, 56]))
                     (.next 4 [(.scmp .eql (.atom 0) (.str [119, 114, 105, 116, 101, 45, 117, 56]))])
                     (.ite (.scmp .eql (.atom 0) (.str [37, 98, 111, 120]))
                      (.next 4 [(.scmp .eql (.atom 0) (.str [37, 98, 111, 120]))])
                      (.ite (.scmp .eql (.atom 0) (.str [37, 117, 110, 98, 111, 120]))
                       (.next 4 [(.scmp .eql (.atom 0) (.str [37, 117, 110, 98, 111, 120]))])
                       (.next 4 [(.pick (.scmp .eql (.atom 0) (.str [37, 119, 105, 110, 100, 33])) (.scmp .eql (.atom 0) (.str [37, 119, 105, 110, 100, 33])) (.scmp .eql (.atom 0) (.str [37, 99, 97, 108, 108, 99, 99])))]))))))))))))))))))))))
  (.ite (.scmp .eql (.atom 0) (.str [114, 101, 97, 100, 45, 117, 56]))
   (.next 3 [(.scmp .eql (.atom 0) (.str [114, 101, 97, 100, 45, 117, 56]))])
   (.ite (.scmp .eql (.atom 0) (.str [101, 114, 114, 111, 114]))
    (.next 3 [(.scmp .eql (.atom 0) (.str [101, 114, 114, 111, 114]))])
    (.ite (.scmp .eql (.atom 0) (.str [118, 111, 105, 100]))
     (.next 3 [(.scmp .eql (.atom 0) (.str [118, 111, 105, 100]))])
     (.next 3 [(.pick (.scmp .eql (.atom 0) (.str [37, 119, 105, 110, 100, 101, 114, 115])) (.scmp .eql (.atom 0) (.str [37, 119, 105, 110, 100, 101, 114, 115])) (.scmp .eql (.atom 0) (.str [37, 117, 110, 115, 101, 116])))])))))
theorem fm_core_Arity_eq : execF Try.prog { pub := [], nojoin := false } Try.f82 = fm_core_Arity := by kernel_rfl
theorem cb_core_Arity : callB Try.prog 82 = true := by kernel_rfl
theorem tri_core_Arity : TriOf Try.prog 82 Try.f82 fm_core_Arity := triOf Try.func82 fm_core_Arity_eq

/-- scrimshaw/data.Check -/
abbrev n_data_Check : FuncId := 83
def fm_data_Check : Fm VE :=
 (.new 127 [(.int .i64 0)]
 (.call (.fn 100) [(.sc (.atom 4)), (.ag [(.atom 0), (.atom 1), (.atom 2), (.atom 3)]), (.sc (.int .i64 0))] (.sc (.int .i64)) []
 (.leaf (.sc (.atom 5)))))
theorem fm_data_Check_eq : execF Try.prog { pub := [3], nojoin := false } Try.f83 = fm_data_Check := by kernel_rfl
theorem cb_data_Check : callB Try.prog 83 = true := by kernel_rfl
theorem tri_data_Check : TriOf Try.prog 83 Try.f83 fm_data_Check := triOf Try.func83 fm_data_Check_eq

/-- slices.IndexFunc[[]scrimshaw/api.Expr,scrimshaw/api.Expr] -/
abbrev n_slices_IndexFunc___api_Expr_api_Expr_ : FuncId := 84
def fm_slices_IndexFunc___api_Expr_api_Expr_ : Fm VE :=
 (.loop 3 [.int .i64, .int .i64] [(.int .i64 0), (.int .i64 0)]
  (.ite (.cmp .lss (.atom 3) (.len (.atom 0)))
   (.chk [] (.inSl (.atom 0) (.atom 3))
   (.load (.elt (.atom 0) (.atom 3) 8) [.int .i64, .str, .sl, .int .i64, .int .i64, .str, .sl, .sl]
   (.call (.atom 1) [(.ag [(.atom 4), (.atom 5), (.atom 6), (.atom 7), (.atom 8), (.atom 9), (.atom 10), (.atom 11)])] (.sc (.bool)) []
   (.ite (.atom 12)
    (.leaf (.sc (.atom 3)))
    (.next 3 [(.atom 2), (.ar .add .i64 (.atom 3) (.int .i64 1))])))))
   (.leaf (.sc (.int .i64 (-1))))))
theorem fm_slices_IndexFunc___api_Expr_api_Expr__eq : execF Try.prog { pub := [], nojoin := false } Try.f84 = fm_slices_IndexFunc___api_Expr_api_Expr_ := by kernel_rfl
theorem cb_slices_IndexFunc___api_Expr_api_Expr_ : callB Try.prog 84 = true := by kernel_rfl
theorem tri_slices_IndexFunc___api_Expr_api_Expr_ : TriOf Try.prog 84 Try.f84 fm_slices_IndexFunc___api_Expr_api_Expr_ := triOf Try.func84 fm_slices_IndexFunc___api_Expr_api_Expr__eq

/-- (*scrimshaw/data.checker).check -/
abbrev n_data_checker__check : FuncId := 100
def fm_data_checker__check : Fm VE :=
 (.chk [] (.some (.atom 0))
 (.load (.padd (.atom 0) 0) [.int .i64]
 (.ite (.cmp .eql (.atom 6) (.int .i64 4096))
  (.leaf (.sc (.int .i64 22)))
  (.load (.padd (.atom 0) 0) [.int .i64]
  (.store (.padd (.atom 0) 0) [(.ar .add .i64 (.atom 7) (.int .i64 1))]
  (.call (.fn 110) [(.ag [(.atom 1), (.atom 2), (.atom 3), (.atom 4)])] (.sc (.bool)) []
  (.ite (.pick (.atom 8) (.cmp .eql (.atom 5) (.int .i64 32)) (.bool false))
   (.leaf (.sc (.int .i64 21)))
   (.call (.fn 111) [(.ag [(.atom 1), (.atom 2), (.atom 3), (.atom 4)])] (.sc (.bool)) []
   (.ite (.not (.atom 9))
    (.leaf (.sc (.int .i64 20)))
    (.loop 10 [.int .i64, .int .i64] [(.int .i64 0), (.int .i64 0)]
     (.ite (.cmp .lss (.atom 11) (.len (.atom 4)))
      (.chk [] (.inSl (.atom 4) (.atom 11))
      (.load (.elt (.atom 4) (.atom 11) 4) [.int .i64, .int .i64, .str, .sl]
      (.call (.fn 100) [(.sc (.atom 0)), (.ag [(.atom 12), (.atom 13), (.atom 14), (.atom 15)]), (.sc (.ar .add .i64 (.atom 5) (.int .i64 1)))] (.sc (.int .i64)) []
      (.ite (.cmp .neq (.atom 16) (.int .i64 0))
       (.leaf (.sc (.atom 16)))
       (.next 10 [(.atom 10), (.ar .add .i64 (.atom 11) (.int .i64 1))])))))
      (.leaf (.sc (.int .i64 0))))))))))))))
theorem fm_data_checker__check_eq : execF Try.prog { pub := [], nojoin := false } Try.f100 = fm_data_checker__check := by kernel_rfl
theorem cb_data_checker__check : callB Try.prog 100 = true := by kernel_rfl
theorem tri_data_checker__check : TriOf Try.prog 100 Try.f100 fm_data_checker__check := triOf Try.func100 fm_data_checker__check_eq

/-- scrimshaw/data.hasItems -/
abbrev n_data_hasItems : FuncId := 110
def fm_data_hasItems : Fm VE :=
 (.leaf (.sc (.pick (.cmp .geq (.atom 0) (.int .i64 5)) (.cmp .leq (.atom 0) (.int .i64 7)) (.bool false))))
theorem fm_data_hasItems_eq : execF Try.prog { pub := [], nojoin := false } Try.f110 = fm_data_hasItems := by kernel_rfl
theorem cb_data_hasItems : callB Try.prog 110 = true := by kernel_rfl
theorem tri_data_hasItems : TriOf Try.prog 110 Try.f110 fm_data_hasItems := triOf Try.func110 fm_data_hasItems_eq

/-- scrimshaw/data.form -/
abbrev n_data_form : FuncId := 111
def fm_data_form : Fm VE :=
 (.join 2 [.int .i64, .str]
  (.join 4 [.bool]
   (.ite (.atom 6)
    (.leaf (.sc (.bool false)))
    (.ite (.cmp .eql (.atom 0) (.int .i64 4))
     (.call (.fn 49) [(.sc (.atom 2))] (.sc (.bool)) []
     (.leaf (.sc (.atom 7))))
     (.ite (.cmp .eql (.atom 0) (.int .i64 6))
      (.join 9 [.bool]
       (.leaf (.sc (.atom 7)))
       (.chk [((.cmp .gtr (.len (.atom 3)) (.int .i64 1)), true)] (.inSl (.atom 3) (.ar .sub .i64 (.len (.atom 3)) (.int .i64 1)))
       (.chk [((.cmp .gtr (.len (.atom 3)) (.int .i64 1)), true)] (.some (.elt (.atom 3) (.ar .sub .i64 (.len (.atom 3)) (.int .i64 1)) 4))
       (.ite (.cmp .gtr (.len (.atom 3)) (.int .i64 1))
        (.load (.padd (.elt (.atom 3) (.ar .sub .i64 (.len (.atom 3)) (.int .i64 1)) 4) 0) [.int .i64]
        (.chk [((.cmp .neq (.atom 7) (.int .i64 5)), true)] (.inSl (.atom 3) (.ar .sub .i64 (.len (.atom 3)) (.int .i64 1)))
        (.chk [((.cmp .neq (.atom 7) (.int .i64 5)), true)] (.some (.elt (.atom 3) (.ar .sub .i64 (.len (.atom 3)) (.int .i64 1)) 4))
        (.ite (.cmp .neq (.atom 7) (.int .i64 5))
         (.load (.padd (.elt (.atom 3) (.ar .sub .i64 (.len (.atom 3)) (.int .i64 1)) 4) 0) [.int .i64]
         (.next 9 [(.cmp .neq (.atom 8) (.int .i64 6))]))
         (.next 9 [(.bool false)])))))
        (.next 9 [(.bool false)])))))
      (.leaf (.sc (.pick (.cmp .geq (.atom 0) (.int .i64 0)) (.cmp .lss (.atom 0) (.int .i64 8)) (.bool false)))))))
   (.ite (.pick (.cmp .neq (.atom 1) (.atom 4)) (.bool true) (.scmp .neq (.atom 2) (.atom 5)))
    (.next 4 [(.bool true)])
    (.ite (.cmp .gtr (.len (.atom 3)) (.int .i64 0))
     (.call (.fn 110) [(.ag [(.atom 0), (.atom 1), (.atom 2), (.atom 3)])] (.sc (.bool)) []
     (.next 4 [(.not (.atom 6))]))
     (.next 4 [(.bool false)]))))
  (.ite (.cmp .eql (.atom 0) (.int .i64 0))
   (.next 2 [(.ar .and .i64 (.atom 1) (.int .i64 1)), (.str [])])
   (.ite (.cmp .eql (.atom 0) (.int .i64 1))
    (.next 2 [(.pick (.cmp .lss (.int .i64 1152921504606846975) (.pick (.cmp .gtr (.int .i64 (-1152921504606846976)) (.atom 1)) (.int .i64 (-1152921504606846976)) (.atom 1))) (.int .i64 1152921504606846975) (.pick (.cmp .gtr (.int .i64 (-1152921504606846976)) (.atom 1)) (.int .i64 (-1152921504606846976)) (.atom 1))), (.str [])])
    (.ite (.cmp .eql (.atom 0) (.int .i64 2))
     (.next 2 [(.ar .and .i64 (.atom 1) (.int .i64 255)), (.str [])])
     (.ite (.cmp .eql (.atom 0) (.int .i64 3))
      (.chk [] (.sub (.slen (.atom 2)) (.int .i64 0) (.pick (.cmp .lss (.int .i64 4096) (.slen (.atom 2))) (.int .i64 4096) (.slen (.atom 2))))
      (.next 2 [(.int .i64 0), (.ssub (.atom 2) (.int .i64 0) (.pick (.cmp .lss (.int .i64 4096) (.slen (.atom 2))) (.int .i64 4096) (.slen (.atom 2))))]))
      (.next 2 [(.int .i64 0), (.pick (.cmp .eql (.atom 0) (.int .i64 4)) (.atom 2) (.str []))]))))))
theorem fm_data_form_eq : execF Try.prog { pub := [], nojoin := false } Try.f111 = fm_data_form := by kernel_rfl
theorem cb_data_form : callB Try.prog 111 = true := by kernel_rfl
theorem tri_data_form : TriOf Try.prog 111 Try.f111 fm_data_form := triOf Try.func111 fm_data_form_eq

end Go.Proofs.Ytibinelkmlcmgaa.Vc
