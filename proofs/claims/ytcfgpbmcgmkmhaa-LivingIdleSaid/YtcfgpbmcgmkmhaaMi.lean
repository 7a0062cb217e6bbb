/-
  Texts on the way to the statement, one behind the other, without what it does not reach.
-/
import Derived.Test.YtcfgpbmcgmkmhaaMh
import Derived.Test.YtcfgpbmcgmkmhaaRows
import Derived.KernelRfl
set_option linter.unusedSimpArgs false
set_option linter.unusedVariables false
set_option maxRecDepth 100000
/-
  THE FORMULAS of the program's functions, as the executor gives them; each is checked by the kernel. Printed by a program of our own.
-/
namespace Go.Proofs.Ytcfgpbmcgmkmhaa.Vc
open Go
/-- what a function's formula tells of it -/
def TriOf (P : Program) (f : FuncId) (fn : Func) (fm : Fm VE) : Prop := ∀ (E : List Value) {args : Array Value} {H : PH} {R : Ending → PH → Prop}, tagsOk ((paramRS P fn).flatMap RS.tags) E = true → args.toList = packAll (paramRS P fn) E →
  den P (fun c H' => R (.panicked c) H') fm E H [] (fun ve E' H' _ => R (.returned (evV E' (fun _ => 0) ve)) H') → Tri P f args H R
theorem triOf {P : Program} {f : FuncId} {fn : Func} {fm : Fm VE} {op : Opt} (hf : P.funcs[f]? = some fn) (he : execF P op fn = fm) : TriOf P f fn fm :=
  fun E _ _ _ hE ha hd => execF_tri (op := op) hf hE ha (by rw [he]; exact hd)
/-- scrimshaw/scrimshawlaw17.fixed -/
abbrev n_scrimshawlaw17_fixed : FuncId := 4
def fm_scrimshawlaw17_fixed : Fm VE :=
 (.sem (.buildSlice 40 2 #[(0, (.const (.int .i64 0))), (1, (.const (.int .i64 1)))]) 40 [] (.sc (.sl)) []
 (.sem (.buildSlice 41 2 #[(0, (.tmp 2)), (1, (.tmp 4))]) 41 [(2, (.ag [(.str [99, 111, 110, 115, 116]), (.int .i64 1), (.nil 1), (.int .i64 0), (.int .i64 0), (.str []), (.nil 1), (.int .i64 0)])), (4, (.ag [(.str [43]), (.int .i64 2), (.atom 0), (.int .i64 0), (.int .i64 0), (.str []), (.nil 1), (.int .i64 0)]))] (.sc (.sl)) []
 (.sem (.buildSlice 34 2 #[(0, (.tmp 7)), (1, (.tmp 9))]) 34 [(7, (.ag [(.atom 1), (.int .i64 4), (.int .i64 2), (.nil 1), (.int .i64 3), (.int .i64 1), (.int .i64 0)])), (9, (.ag [(.nil 1), (.int .i64 2), (.int .i64 0), (.nil 1), (.int .i64 0), (.int .i64 0), (.int .i64 0)]))] (.sc (.sl)) []
 (.join 2 [.bool]
 (.leaf (.sc (.atom 3)))
 (.call (.fn 6) [(.ag [(.int .i64 0), (.int .i64 0), (.int .i64 4), (.atom 2)])] (.sc (.sl)) []
 (.sem (.buildSlice 40 1 #[(0, (.const (.int .i64 0)))]) 40 [] (.sc (.sl)) []
 (.sem (.buildSlice 40 1 #[(0, (.const (.int .i64 0)))]) 40 [] (.sc (.sl)) []
 (.sem (.buildSlice 37 2 #[(0, (.tmp 14)), (1, (.tmp 15))]) 37 [(14, (.sc (.atom 4))), (15, (.sc (.atom 5)))] (.sc (.sl)) []
 (.call (.fn 10) [(.sc (.atom 3)), (.sc (.atom 6))] (.sc (.bool)) []
 (.ite (.atom 7)
 (.call (.fn 11) [(.ag [(.int .i64 0), (.int .i64 0), (.int .i64 4), (.atom 2)]), (.sc (.int .i64 0))] (.sc (.sl)) []
 (.sem (.buildSlice 40 2 #[(0, (.const (.int .i64 0))), (1, (.const (.int .i64 1)))]) 40 [] (.sc (.sl)) []
 (.sem (.buildSlice 40 2 #[(0, (.const (.int .i64 0))), (1, (.const (.int .i64 2)))]) 40 [] (.sc (.sl)) []
 (.sem (.buildSlice 37 2 #[(0, (.tmp 21)), (1, (.tmp 22))]) 37 [(21, (.sc (.atom 9))), (22, (.sc (.atom 10)))] (.sc (.sl)) []
 (.call (.fn 10) [(.sc (.atom 8)), (.sc (.atom 11))] (.sc (.bool)) []
 (.ite (.atom 12)
 (.call (.fn 13) [(.ag [(.int .i64 0), (.int .i64 0), (.int .i64 4), (.atom 2)]), (.sc (.int .i64 0))] (.sc (.sl)) []
 (.sem (.buildSlice 40 1 #[(0, (.const (.int .i64 0)))]) 40 [] (.sc (.sl)) []
 (.call (.fn 12) [(.sc (.atom 13)), (.sc (.atom 14))] (.sc (.bool)) []
 (.next 2 [(.atom 15)]))))
 (.next 2 [(.bool false)])))))))
 (.next 2 [(.bool false)])))))))))))
theorem fm_scrimshawlaw17_fixed_eq : execF Try.prog { pub := [], nojoin := false } Try.f4 = fm_scrimshawlaw17_fixed := by kernel_rfl
theorem cb_scrimshawlaw17_fixed : callB Try.prog 4 = true := by kernel_rfl
theorem tri_scrimshawlaw17_fixed : TriOf Try.prog 4 Try.f4 fm_scrimshawlaw17_fixed := triOf Try.func4 fm_scrimshawlaw17_fixed_eq

/-- scrimshaw/live.In -/
abbrev n_live_In : FuncId := 6
def fm_live_In : Fm VE :=
 (.call (.fn 16) [(.ag [(.atom 0), (.atom 1), (.atom 2), (.atom 3)])] (.sc (.ptr)) []
 (.chk [] (.some (.atom 4))
 (.load (.padd (.atom 4) 4) [.sl]
 (.loop 4 [.sl, .int .i64] [(.nil 1), (.int .i64 0)]
 (.ite (.cmp .lss (.atom 7) (.len (.atom 5)))
 (.chk [] (.inSl (.atom 5) (.atom 7))
 (.load (.elt (.atom 5) (.atom 7) 1) [.map]
 (.call (.fn 17) [(.sc (.atom 8))] (.sc (.sl)) []
 (.sem (.buildSlice 37 1 #[(0, (.tmp 18))]) 37 [(18, (.sc (.atom 9)))] (.sc (.sl)) []
 (.sem (.call ⟨.builtin .append, #[(.tmp 16), (.tmp 19)], #[37, 37]⟩) 37 [(16, (.sc (.atom 6))), (19, (.sc (.atom 10)))] (.sc (.sl)) []
 (.next 4 [(.atom 11), (.ar .add .i64 (.atom 7) (.int .i64 1))]))))))
 (.leaf (.sc (.atom 6))))))))
theorem fm_live_In_eq : execF Try.prog { pub := [], nojoin := false } Try.f6 = fm_live_In := by kernel_rfl
theorem cb_live_In : callB Try.prog 6 = true := by kernel_rfl
theorem tri_live_In : TriOf Try.prog 6 Try.f6 fm_live_In := triOf Try.func6 fm_live_In_eq

/-- scrimshaw/scrimshawref17.Has -/
abbrev n_scrimshawref17_Has : FuncId := 7
def fm_scrimshawref17_Has : Fm VE :=
 (.loop 3 [.bool, .int .i64] [(.bool false), (.int .i64 0)]
 (.ite (.cmp .lss (.atom 3) (.len (.atom 0)))
 (.chk [] (.inSl (.atom 0) (.atom 3))
 (.load (.elt (.atom 0) (.atom 3) 1) [.int .i64]
 (.ite (.cmp .eql (.atom 4) (.atom 1))
 (.leaf (.sc (.bool true)))
 (.next 3 [(.atom 2), (.ar .add .i64 (.atom 3) (.int .i64 1))]))))
 (.leaf (.sc (.bool false)))))
theorem fm_scrimshawref17_Has_eq : execF Try.prog { pub := [], nojoin := false } Try.f7 = fm_scrimshawref17_Has := by kernel_rfl
theorem cb_scrimshawref17_Has : callB Try.prog 7 = true := by kernel_rfl
theorem tri_scrimshawref17_Has : TriOf Try.prog 7 Try.f7 fm_scrimshawref17_Has := triOf Try.func7 fm_scrimshawref17_Has_eq

/-- scrimshaw/scrimshawref17.SameAll -/
abbrev n_scrimshawref17_SameAll : FuncId := 10
def fm_scrimshawref17_SameAll : Fm VE :=
 (.ite (.cmp .neq (.len (.atom 0)) (.len (.atom 1)))
 (.leaf (.sc (.bool false)))
 (.loop 5 [.bool, .int .i64] [(.bool false), (.int .i64 0)]
 (.ite (.cmp .lss (.atom 3) (.len (.atom 0)))
 (.chk [] (.inSl (.atom 0) (.atom 3))
 (.load (.elt (.atom 0) (.atom 3) 1) [.sl]
 (.chk [] (.inSl (.atom 1) (.atom 3))
 (.load (.elt (.atom 1) (.atom 3) 1) [.sl]
 (.call (.fn 12) [(.sc (.atom 4)), (.sc (.atom 5))] (.sc (.bool)) []
 (.ite (.not (.atom 6))
 (.leaf (.sc (.bool false)))
 (.next 5 [(.atom 2), (.ar .add .i64 (.atom 3) (.int .i64 1))])))))))
 (.leaf (.sc (.bool true))))))
theorem fm_scrimshawref17_SameAll_eq : execF Try.prog { pub := [], nojoin := false } Try.f10 = fm_scrimshawref17_SameAll := by kernel_rfl
theorem cb_scrimshawref17_SameAll : callB Try.prog 10 = true := by kernel_rfl
theorem tri_scrimshawref17_SameAll : TriOf Try.prog 10 Try.f10 fm_scrimshawref17_SameAll := triOf Try.func10 fm_scrimshawref17_SameAll_eq

/-- scrimshaw/live.Behind -/
abbrev n_live_Behind : FuncId := 11
def fm_live_Behind : Fm VE :=
 (.ite (.pick (.cmp .lss (.atom 4) (.int .i64 0)) (.bool true) (.cmp .geq (.atom 4) (.len (.atom 3))))
 (.leaf (.sc (.nil 1)))
 (.call (.fn 16) [(.ag [(.atom 0), (.atom 1), (.atom 2), (.atom 3)])] (.sc (.ptr)) []
 (.call (.fn 24) [(.sc (.atom 5)), (.sc (.atom 4))] (.sc (.map)) []
 (.new 65 [(.nil 2)]
 (.store (.atom 7) [(.atom 6)]
 (.new 37 [(.nil 1)]
 (.chk [] (.inSl (.atom 3) (.atom 4))
 (.load (.padd (.elt (.atom 3) (.atom 4) 7) 0) [.sl]
 (.call (.fn 25) [(.sc (.atom 9))] (.sc (.any)) []
 (.far 7 (.atom 10) [(.sc (.int .i64)), (.ag [.str, .int .i64, .sl, .int .i64, .int .i64, .str, .sl, .int .i64])]
 (.load (.atom 8) [.sl]
 (.load (.atom 7) [.map]
 (.call (.fn 17) [(.sc (.atom 21))] (.sc (.sl)) [((.atom 8), [(.atom 20)])]
 (.sem (.buildSlice 37 1 #[(0, (.tmp 33))]) 37 [(33, (.sc (.atom 22)))] (.sc (.sl)) [((.atom 8), [(.atom 20)])]
 (.sem (.call ⟨.builtin .append, #[(.tmp 31), (.tmp 34)], #[37, 37]⟩) 37 [(31, (.sc (.atom 20))), (34, (.sc (.atom 23)))] (.sc (.sl)) []
 (.store (.atom 8) [(.atom 24)]
 (.load (.atom 7) [.map]
 (.call (.fn 26) [(.sc (.atom 25)), (.ag [(.atom 12), (.atom 13), (.atom 14), (.atom 15), (.atom 16), (.atom 17), (.atom 18), (.atom 19)])] (.tu []) []
 (.next 7 [])))))))))
 (.load (.atom 8) [.sl]
 (.call (.fn 27) [(.sc (.atom 11))] (.tu []) []
 (.load (.atom 8) [.sl]
 (.leaf (.sc (.atom 12))))))))))))))))
theorem fm_live_Behind_eq : execM Try.prog { pub := [5, 6], nojoin := false, far := [(.sc (.int .i64)), (.ag [.str, .int .i64, .sl, .int .i64, .int .i64, .str, .sl, .int .i64])] } Try.f11 = fm_live_Behind := by kernel_rfl
theorem cb_live_Behind : callB Try.prog 11 = true := by kernel_rfl
theorem tri_live_Behind : TriOfM Try.prog 11 Try.f11 fm_live_Behind := triOfM Try.func11 fm_live_Behind_eq

/-- scrimshaw/scrimshawref17.Same -/
abbrev n_scrimshawref17_Same : FuncId := 12
def fm_scrimshawref17_Same : Fm VE :=
 (.ite (.cmp .neq (.len (.atom 0)) (.len (.atom 1)))
 (.leaf (.sc (.bool false)))
 (.loop 5 [.bool, .int .i64] [(.bool false), (.int .i64 0)]
 (.ite (.cmp .lss (.atom 3) (.len (.atom 0)))
 (.chk [] (.inSl (.atom 0) (.atom 3))
 (.load (.elt (.atom 0) (.atom 3) 1) [.int .i64]
 (.chk [] (.inSl (.atom 1) (.atom 3))
 (.load (.elt (.atom 1) (.atom 3) 1) [.int .i64]
 (.ite (.cmp .neq (.atom 4) (.atom 5))
 (.leaf (.sc (.bool false)))
 (.next 5 [(.atom 2), (.ar .add .i64 (.atom 3) (.int .i64 1))]))))))
 (.leaf (.sc (.bool true))))))
theorem fm_scrimshawref17_Same_eq : execF Try.prog { pub := [], nojoin := false } Try.f12 = fm_scrimshawref17_Same := by kernel_rfl
theorem cb_scrimshawref17_Same : callB Try.prog 12 = true := by kernel_rfl
theorem tri_scrimshawref17_Same : TriOf Try.prog 12 Try.f12 fm_scrimshawref17_Same := triOf Try.func12 fm_scrimshawref17_Same_eq

/-- scrimshaw/live.Across -/
abbrev n_live_Across : FuncId := 13
def fm_live_Across : Fm VE :=
 (.ite (.pick (.cmp .lss (.atom 4) (.int .i64 0)) (.bool true) (.cmp .geq (.atom 4) (.len (.atom 3))))
 (.leaf (.sc (.nil 1)))
 (.chk [] (.inSl (.atom 3) (.atom 4))
 (.load (.padd (.elt (.atom 3) (.atom 4) 7) 1) [.int .i64, .int .i64, .sl, .int .i64, .int .i64, .int .i64]
 (.call (.fn 28) [(.ag [(.atom 5), (.atom 6), (.atom 7), (.atom 8), (.atom 9), (.atom 10)])] (.sc (.bool)) []
 (.ite (.pick (.pick (.not (.atom 11)) (.bool true) (.cmp .lss (.atom 9) (.int .i64 0))) (.bool true) (.cmp .geq (.atom 9) (.len (.atom 3))))
 (.leaf (.sc (.nil 1)))
 (.call (.fn 16) [(.ag [(.atom 0), (.atom 1), (.atom 2), (.atom 3)])] (.sc (.ptr)) []
 (.chk [] (.some (.atom 12))
 (.load (.padd (.atom 12) 4) [.sl]
 (.chk [] (.inSl (.atom 13) (.atom 9))
 (.load (.elt (.atom 13) (.atom 9) 1) [.map]
 (.call (.fn 29) [(.sc (.atom 14)), (.sc (.atom 8))] (.tu []) []
 (.call (.fn 17) [(.sc (.atom 14))] (.sc (.sl)) []
 (.leaf (.sc (.atom 15)))))))))))))))
theorem fm_live_Across_eq : execF Try.prog { pub := [], nojoin := false } Try.f13 = fm_live_Across := by kernel_rfl
theorem cb_live_Across : callB Try.prog 13 = true := by kernel_rfl
theorem tri_live_Across : TriOf Try.prog 13 Try.f13 fm_live_Across := triOf Try.func13 fm_live_Across_eq

/-- scrimshaw/live.solved -/
abbrev n_live_solved : FuncId := 16
def fm_live_solved : Fm VE :=
 (.sem (.makeSlice 59 (.tmp 13) (.tmp 13)) 59 [(13, (.sc (.len (.atom 3)))), (13, (.sc (.len (.atom 3))))] (.sc (.sl)) []
 (.new 61 [(.atom 0), (.atom 1), (.atom 2), (.atom 3), (.atom 4)]
 (.chk [] (.some (.atom 5))
 (.load (.padd (.atom 5) 4) [.sl]
 (.loop 4 [.int .i64] [(.int .i64 0)]
 (.ite (.cmp .lss (.atom 7) (.len (.atom 6)))
 (.load (.padd (.atom 5) 4) [.sl]
 (.sem (.makeMap 65 none) 65 [] (.sc (.map)) []
 (.chk [] (.inSl (.atom 8) (.atom 7))
 (.store (.elt (.atom 8) (.atom 7) 1) [(.atom 9)]
 (.next 4 [(.ar .add .i64 (.atom 7) (.int .i64 1))])))))
 (.loop 9 [.bool] [(.bool true)]
 (.ite (.atom 8)
 (.loop 14 [.bool, .int .i64] [(.bool false), (.ar .sub .i64 (.len (.atom 3)) (.int .i64 1))]
 (.ite (.cmp .geq (.atom 10) (.int .i64 0))
 (.join 17 [.bool]
 (.next 14 [(.atom 11), (.ar .sub .i64 (.atom 10) (.int .i64 1))])
 (.call (.fn 24) [(.sc (.atom 5)), (.sc (.atom 10))] (.sc (.map)) []
 (.new 65 [(.nil 2)]
 (.store (.atom 12) [(.atom 11)]
 (.chk [] (.inSl (.atom 3) (.atom 10))
 (.load (.padd (.elt (.atom 3) (.atom 10) 7) 0) [.sl]
 (.call (.fn 25) [(.sc (.atom 13))] (.sc (.any)) []
 (.far 21 (.atom 14) [(.sc (.int .i64)), (.ag [.str, .int .i64, .sl, .int .i64, .int .i64, .str, .sl, .int .i64])]
 (.load (.atom 12) [.map]
 (.call (.fn 26) [(.sc (.atom 24)), (.ag [(.atom 16), (.atom 17), (.atom 18), (.atom 19), (.atom 20), (.atom 21), (.atom 22), (.atom 23)])] (.tu []) []
 (.next 21 [])))
 (.load (.atom 12) [.map]
 (.load (.padd (.atom 5) 4) [.sl]
 (.chk [] (.inSl (.atom 16) (.atom 10))
 (.load (.elt (.atom 16) (.atom 10) 1) [.map]
 (.sem (.call ⟨.builtin .len, #[(.tmp 57)], #[65]⟩) 3 [(57, (.sc (.atom 15)))] (.sc (.int .i64)) [((.elt (.atom 16) (.atom 10) 1), [(.atom 17)]), ((.padd (.atom 5) 4), [(.atom 16)])]
 (.sem (.call ⟨.builtin .len, #[(.tmp 65)], #[65]⟩) 3 [(65, (.sc (.atom 17)))] (.sc (.int .i64)) []
 (.ite (.cmp .neq (.atom 18) (.atom 19))
 (.load (.padd (.atom 5) 4) [.sl]
 (.load (.atom 12) [.map]
 (.chk [] (.inSl (.atom 20) (.atom 10))
 (.store (.elt (.atom 20) (.atom 10) 1) [(.atom 21)]
 (.next 17 [(.bool true)])))))
 (.next 17 [(.atom 9)]))))))))))))))))
 (.next 9 [(.atom 9)])))
 (.leaf (.sc (.atom 5)))))))))))
theorem fm_live_solved_eq : execM Try.prog { pub := [7, 16], nojoin := false, far := [(.sc (.int .i64)), (.ag [.str, .int .i64, .sl, .int .i64, .int .i64, .str, .sl, .int .i64])] } Try.f16 = fm_live_solved := by kernel_rfl
theorem cb_live_solved : callB Try.prog 16 = true := by kernel_rfl
theorem tri_live_solved : TriOfM Try.prog 16 Try.f16 fm_live_solved := triOfM Try.func16 fm_live_solved_eq

/-- (scrimshaw/live.set[int]).rising -/
abbrev n_live_set_int___rising : FuncId := 17
def fm_live_set_int___rising : Fm VE :=
 (.sem (.range 65 (.tmp 5)) 0 [(5, (.sc (.atom 0)))] (.sc (.ptr)) []
 (.loop 4 [.sl] [(.nil 1)]
 (.join 5 [.bool]
 (.ite (.atom 3)
 (.sem (.entry (.tmp 6)) 0 [(6, (.sc (.atom 1)))] (.tu [(false, [.int .i64]), (false, [.int .i64])]) []
 (.sem (.buildSlice 40 1 #[(0, (.tmp 12))]) 40 [(12, (.sc (.atom 4)))] (.sc (.sl)) []
 (.sem (.call ⟨.builtin .append, #[(.tmp 11), (.tmp 13)], #[40, 40]⟩) 40 [(11, (.sc (.atom 2))), (13, (.sc (.atom 6)))] (.sc (.sl)) []
 (.next 4 [(.atom 7)]))))
 (.call (.fn 33) [(.sc (.atom 2))] (.tu []) []
 (.leaf (.sc (.atom 2)))))
 (.alt (.next (.tmp 6) false) 0 [(6, (.sc (.atom 1)))] (.tu [(false, [.bool])]) (.tu [(false, [.bool]), (false, [.int .i64]), (false, [.int .i64])])
 (.next 5 [(.atom 3)])
 (.next 5 [(.atom 3)])))))
theorem fm_live_set_int___rising_eq : execF Try.prog { pub := [], nojoin := false } Try.f17 = fm_live_set_int___rising := by kernel_rfl
theorem cb_live_set_int___rising : callB Try.prog 17 = true := by kernel_rfl
theorem tri_live_set_int___rising : TriOf Try.prog 17 Try.f17 fm_live_set_int___rising := triOf Try.func17 fm_live_set_int___rising_eq

/-- scrimshaw/scrimshawref02.Same -/
abbrev n_scrimshawref02_Same : FuncId := 23
def fm_scrimshawref02_Same : Fm VE :=
 (.ite (.pick (.pick (.pick (.cmp .neq (.atom 0) (.atom 4)) (.bool true) (.cmp .neq (.atom 1) (.atom 5))) (.bool true) (.scmp .neq (.atom 2) (.atom 6))) (.bool true) (.cmp .neq (.len (.atom 3)) (.len (.atom 7))))
 (.leaf (.sc (.bool false)))
 (.loop 5 [.bool, .int .i64] [(.bool false), (.int .i64 0)]
 (.ite (.cmp .lss (.atom 9) (.len (.atom 3)))
 (.chk [] (.inSl (.atom 3) (.atom 9))
 (.load (.elt (.atom 3) (.atom 9) 4) [.int .i64, .int .i64, .str, .sl]
 (.chk [] (.inSl (.atom 7) (.atom 9))
 (.load (.elt (.atom 7) (.atom 9) 4) [.int .i64, .int .i64, .str, .sl]
 (.call (.fn 23) [(.ag [(.atom 10), (.atom 11), (.atom 12), (.atom 13)]), (.ag [(.atom 14), (.atom 15), (.atom 16), (.atom 17)])] (.sc (.bool)) []
 (.ite (.not (.atom 18))
 (.leaf (.sc (.bool false)))
 (.next 5 [(.atom 8), (.ar .add .i64 (.atom 9) (.int .i64 1))])))))))
 (.leaf (.sc (.bool true))))))
theorem fm_scrimshawref02_Same_eq : execF Try.prog { pub := [], nojoin := false } Try.f23 = fm_scrimshawref02_Same := by kernel_rfl
theorem cb_scrimshawref02_Same : callB Try.prog 23 = true := by kernel_rfl
theorem tri_scrimshawref02_Same : TriOf Try.prog 23 Try.f23 fm_scrimshawref02_Same := triOf Try.func23 fm_scrimshawref02_Same_eq

/-- (*scrimshaw/live.flow).out -/
abbrev n_live_flow__out : FuncId := 24
def fm_live_flow__out : Fm VE :=
 (.chk [] (.some (.atom 0))
 (.load (.padd (.padd (.atom 0) 0) 3) [.sl]
 (.chk [] (.inSl (.atom 2) (.atom 1))
 (.load (.padd (.elt (.atom 2) (.atom 1) 7) 1) [.int .i64, .int .i64, .sl, .int .i64, .int .i64, .int .i64]
 (.sem (.makeMap 65 none) 65 [] (.sc (.map)) []
 (.call (.fn 42) [(.ag [(.atom 3), (.atom 4), (.atom 5), (.atom 6), (.atom 7), (.atom 8)])] (.sc (.sl)) []
 (.loop 5 [.int .i64] [(.int .i64 0)]
 (.ite (.cmp .lss (.atom 11) (.len (.atom 10)))
 (.join 8 []
 (.next 5 [(.ar .add .i64 (.atom 11) (.int .i64 1))])
 (.chk [] (.inSl (.atom 10) (.atom 11))
 (.load (.elt (.atom 10) (.atom 11) 1) [.int .i64]
 (.join 10 [.bool]
 (.ite (.atom 13)
 (.load (.padd (.atom 0) 4) [.sl]
 (.chk [] (.inSl (.atom 14) (.atom 12))
 (.load (.elt (.atom 14) (.atom 12) 1) [.map]
 (.call (.fn 43) [(.sc (.atom 9)), (.sc (.atom 15))] (.tu []) []
 (.next 8 [])))))
 (.next 8 []))
 (.ite (.cmp .geq (.atom 12) (.int .i64 0))
 (.load (.padd (.atom 0) 4) [.sl]
 (.next 10 [(.cmp .lss (.atom 12) (.len (.atom 13)))]))
 (.next 10 [(.bool false)]))))))
 (.join 8 []
 (.call (.fn 45) [(.ag [(.atom 3), (.atom 4), (.atom 5), (.atom 6), (.atom 7), (.atom 8)])] (.sc (.sl)) []
 (.call (.fn 44) [(.sc (.atom 9)), (.sc (.atom 12))] (.tu []) []
 (.leaf (.sc (.atom 9)))))
 (.call (.fn 28) [(.ag [(.atom 3), (.atom 4), (.atom 5), (.atom 6), (.atom 7), (.atom 8)])] (.sc (.bool)) []
 (.ite (.atom 12)
 (.call (.fn 29) [(.sc (.atom 9)), (.sc (.atom 6))] (.tu []) []
 (.next 8 []))
 (.next 8 []))))))))))))
theorem fm_live_flow__out_eq : execF Try.prog { pub := [], nojoin := false } Try.f24 = fm_live_flow__out := by kernel_rfl
theorem cb_live_flow__out : callB Try.prog 24 = true := by kernel_rfl
theorem tri_live_flow__out : TriOf Try.prog 24 Try.f24 fm_live_flow__out := triOf Try.func24 fm_live_flow__out_eq

/-- slices.Backward[[]scrimshaw/api.Ins,scrimshaw/api.Ins] -/
abbrev n_slices_Backward___api_Ins_api_Ins_ : FuncId := 25
def fm_slices_Backward___api_Ins_api_Ins_ : Fm VE :=
 (.new 41 [(.atom 0)]
 (.sem (.makeFunc (.func 46) #[] #[(.tmp 1)]) 93 [(1, (.sc (.atom 1)))] (.sc (.any)) []
 (.leaf (.sc (.atom 2)))))
theorem fm_slices_Backward___api_Ins_api_Ins__eq : execF Try.prog { pub := [1], nojoin := false } Try.f25 = fm_slices_Backward___api_Ins_api_Ins_ := by kernel_rfl
theorem cb_slices_Backward___api_Ins_api_Ins_ : callB Try.prog 25 = true := by kernel_rfl
theorem tri_slices_Backward___api_Ins_api_Ins_ : TriOf Try.prog 25 Try.f25 fm_slices_Backward___api_Ins_api_Ins_ := triOf Try.func25 fm_slices_Backward___api_Ins_api_Ins__eq

/-- scrimshaw/live.through -/
abbrev n_live_through : FuncId := 26
def fm_live_through : Fm VE :=
 (.join 1 []
 (.call (.fn 44) [(.sc (.atom 0)), (.sc (.atom 3))] (.tu []) []
 (.leaf (.tu [])))
 (.ite (.scmp .neq (.atom 1) (.str [116, 105, 101]))
 (.call (.fn 29) [(.sc (.atom 0)), (.sc (.atom 2))] (.tu []) []
 (.next 1 []))
 (.next 1 [])))
theorem fm_live_through_eq : execF Try.prog { pub := [], nojoin := false } Try.f26 = fm_live_through := by kernel_rfl
theorem cb_live_through : callB Try.prog 26 = true := by kernel_rfl
theorem tri_live_through : TriOf Try.prog 26 Try.f26 fm_live_through := triOf Try.func26 fm_live_through_eq

/-- slices.Reverse[[][]int,[]int] -/
abbrev n_slices_Reverse_____int___int_ : FuncId := 27
def fm_slices_Reverse_____int___int_ : Fm VE :=
 (.loop 1 [.int .i64, .int .i64] [(.int .i64 0), (.ar .sub .i64 (.len (.atom 0)) (.int .i64 1))]
 (.ite (.cmp .lss (.atom 1) (.atom 2))
 (.chk [] (.inSl (.atom 0) (.atom 2))
 (.load (.elt (.atom 0) (.atom 2) 1) [.sl]
 (.chk [] (.inSl (.atom 0) (.atom 1))
 (.load (.elt (.atom 0) (.atom 1) 1) [.sl]
 (.store (.elt (.atom 0) (.atom 1) 1) [(.atom 3)]
 (.store (.elt (.atom 0) (.atom 2) 1) [(.atom 4)]
 (.next 1 [(.ar .add .i64 (.atom 1) (.int .i64 1)), (.ar .sub .i64 (.atom 2) (.int .i64 1))])))))))
 (.leaf (.tu []))))
theorem fm_slices_Reverse_____int___int__eq : execF Try.prog { pub := [], nojoin := false } Try.f27 = fm_slices_Reverse_____int___int_ := by kernel_rfl
theorem cb_slices_Reverse_____int___int_ : callB Try.prog 27 = true := by kernel_rfl
theorem tri_slices_Reverse_____int___int_ : TriOf Try.prog 27 Try.f27 fm_slices_Reverse_____int___int_ := triOf Try.func27 fm_slices_Reverse_____int___int__eq

/-- scrimshaw/live.calls -/
abbrev n_live_calls : FuncId := 28
def fm_live_calls : Fm VE :=
 (.leaf (.sc (.pick (.cmp .eql (.atom 0) (.int .i64 4)) (.bool true) (.cmp .eql (.atom 0) (.int .i64 6)))))
theorem fm_live_calls_eq : execF Try.prog { pub := [], nojoin := false } Try.f28 = fm_live_calls := by kernel_rfl
theorem cb_live_calls : callB Try.prog 28 = true := by kernel_rfl
theorem tri_live_calls : TriOf Try.prog 28 Try.f28 fm_live_calls := triOf Try.func28 fm_live_calls_eq

/-- (scrimshaw/live.set[int]).drop -/
abbrev n_live_set_int___drop : FuncId := 29
def fm_live_set_int___drop : Fm VE :=
 (.sem (.call ⟨.builtin .delete, #[(.tmp 4), (.tmp 5)], #[65, 3]⟩) 0 [(4, (.sc (.atom 0))), (5, (.sc (.atom 1)))] (.tu []) []
 (.leaf (.tu [])))
theorem fm_live_set_int___drop_eq : execF Try.prog { pub := [], nojoin := false } Try.f29 = fm_live_set_int___drop := by kernel_rfl
theorem cb_live_set_int___drop : callB Try.prog 29 = true := by kernel_rfl
theorem tri_live_set_int___drop : TriOf Try.prog 29 Try.f29 fm_live_set_int___drop := triOf Try.func29 fm_live_set_int___drop_eq

/-- scrimshaw/scrimshawref06.Const -/
abbrev n_scrimshawref06_Const : FuncId := 31
def fm_scrimshawref06_Const : Fm VE :=
 (.call (.fn 47) [(.ag [(.atom 0), (.atom 1), (.atom 2), (.atom 3)])] (.sc (.int .i64)) []
 (.ite (.cmp .neq (.atom 4) (.int .i64 0))
 (.leaf (.sc (.bool false)))
 (.leaf (.sc (.pick (.pick (.pick (.pick (.cmp .eql (.atom 0) (.int .i64 0)) (.bool true) (.cmp .eql (.atom 0) (.int .i64 1))) (.bool true) (.cmp .eql (.atom 0) (.int .i64 2))) (.bool true) (.cmp .eql (.atom 0) (.int .i64 4))) (.bool true) (.pick (.cmp .eql (.atom 0) (.int .i64 5)) (.cmp .eql (.len (.atom 3)) (.int .i64 0)) (.bool false)))))))
theorem fm_scrimshawref06_Const_eq : execF Try.prog { pub := [], nojoin := false } Try.f31 = fm_scrimshawref06_Const := by kernel_rfl
theorem cb_scrimshawref06_Const : callB Try.prog 31 = true := by kernel_rfl
theorem tri_scrimshawref06_Const : TriOf Try.prog 31 Try.f31 fm_scrimshawref06_Const := triOf Try.func31 fm_scrimshawref06_Const_eq

/-- scrimshaw/scrimshawref06.Arity -/
abbrev n_scrimshawref06_Arity : FuncId := 32
def fm_scrimshawref06_Arity : Fm VE :=
 (.join 3 [.bool]
 (.ite (.atom 1)
 (.leaf (.sc (.int .i64 0)))
 (.join 4 [.bool]
 (.ite (.atom 2)
 (.leaf (.sc (.int .i64 1)))
 (.join 5 [.bool]
 (.ite (.atom 3)
 (.leaf (.sc (.int .i64 1)))
 (.join 6 [.bool]
 (.ite (.atom 4)
 (.leaf (.sc (.int .i64 2)))
 (.join 7 [.bool]
 (.ite (.atom 5)
 (.leaf (.sc (.int .i64 2)))
 (.ite (.pick (.scmp .eql (.atom 0) (.str [118, 101, 99, 116, 111, 114, 45, 115, 101, 116, 33])) (.scmp .eql (.atom 0) (.str [118, 101, 99, 116, 111, 114, 45, 115, 101, 116, 33])) (.scmp .eql (.atom 0) (.str [115, 116, 114, 105, 110, 103, 45, 115, 101, 116, 33])))
 (.leaf (.sc (.int .i64 3)))
 (.leaf (.sc (.int .i64 (-1))))))
 (.ite (.scmp .eql (.atom 0) (.str [109, 97, 107, 101, 45, 118, 101, 99, 116, 111, 114]))
 (.next 7 [(.scmp .eql (.atom 0) (.str [109, 97, 107, 101, 45, 118, 101, 99, 116, 111, 114]))])
 (.ite (.scmp .eql (.atom 0) (.str [118, 101, 99, 116, 111, 114, 45, 114, 101, 102]))
 (.next 7 [(.scmp .eql (.atom 0) (.str [118, 101, 99, 116, 111, 114, 45, 114, 101, 102]))])
 (.ite (.scmp .eql (.atom 0) (.str [109, 97, 107, 101, 45, 115, 116, 114, 105, 110, 103]))
 (.next 7 [(.scmp .eql (.atom 0) (.str [109, 97, 107, 101, 45, 115, 116, 114, 105, 110, 103]))])
 (.next 7 [(.pick (.scmp .eql (.atom 0) (.str [115, 116, 114, 105, 110, 103, 45, 114, 101, 102])) (.scmp .eql (.atom 0) (.str [115, 116, 114, 105, 110, 103, 45, 114, 101, 102])) (.scmp .eql (.atom 0) (.str [37, 115, 101, 116, 45, 98, 111, 120, 33])))]))))))
 (.ite (.scmp .eql (.atom 0) (.str [43]))
 (.next 6 [(.scmp .eql (.atom 0) (.str [43]))])
 (.ite (.scmp .eql (.atom 0) (.str [45]))
 (.next 6 [(.scmp .eql (.atom 0) (.str [45]))])
 (.ite (.scmp .eql (.atom 0) (.str [42]))
 (.next 6 [(.scmp .eql (.atom 0) (.str [42]))])
 (.ite (.scmp .eql (.atom 0) (.str [113, 117, 111, 116, 105, 101, 110, 116]))
 (.next 6 [(.scmp .eql (.atom 0) (.str [113, 117, 111, 116, 105, 101, 110, 116]))])
 (.ite (.scmp .eql (.atom 0) (.str [114, 101, 109, 97, 105, 110, 100, 101, 114]))
 (.next 6 [(.scmp .eql (.atom 0) (.str [114, 101, 109, 97, 105, 110, 100, 101, 114]))])
 (.ite (.scmp .eql (.atom 0) (.str [60]))
 (.next 6 [(.scmp .eql (.atom 0) (.str [60]))])
 (.ite (.scmp .eql (.atom 0) (.str [61]))
 (.next 6 [(.scmp .eql (.atom 0) (.str [61]))])
 (.ite (.scmp .eql (.atom 0) (.str [101, 113, 63]))
 (.next 6 [(.scmp .eql (.atom 0) (.str [101, 113, 63]))])
 (.ite (.scmp .eql (.atom 0) (.str [99, 111, 110, 115]))
 (.next 6 [(.scmp .eql (.atom 0) (.str [99, 111, 110, 115]))])
 (.next 6 [(.pick (.scmp .eql (.atom 0) (.str [115, 101, 116, 45, 99, 97, 114, 33])) (.scmp .eql (.atom 0) (.str [115, 101, 116, 45, 99, 97, 114, 33])) (.scmp .eql (.atom 0) (.str [115, 101, 116, 45, 99, 100, 114, 33])))]))))))))))))
 (.ite (.scmp .eql (.atom 0) (.str [99, 97, 114]))
 (.next 5 [(.scmp .eql (.atom 0) (.str [99, 97, 114]))])
 (.ite (.scmp .eql (.atom 0) (.str [99, 100, 114]))
 (.next 5 [(.scmp .eql (.atom 0) (.str [99, 100, 114]))])
 (.ite (.scmp .eql (.atom 0) (.str [118, 101, 99, 116, 111, 114, 45, 108, 101, 110, 103, 116, 104]))
 (.next 5 [(.scmp .eql (.atom 0) (.str [118, 101, 99, 116, 111, 114, 45, 108, 101, 110, 103, 116, 104]))])
 (.ite (.scmp .eql (.atom 0) (.str [115, 116, 114, 105, 110, 103, 45, 108, 101, 110, 103, 116, 104]))
 (.next 5 [(.scmp .eql (.atom 0) (.str [115, 116, 114, 105, 110, 103, 45, 108, 101, 110, 103, 116, 104]))])
 (.ite (.scmp .eql (.atom 0) (.str [99, 104, 97, 114, 45, 62, 105, 110, 116, 101, 103, 101, 114]))
 (.next 5 [(.scmp .eql (.atom 0) (.str [99, 104, 97, 114, 45, 62, 105, 110, 116, 101, 103, 101, 114]))])
 (.ite (.scmp .eql (.atom 0) (.str [105, 110, 116, 101, 103, 101, 114, 45, 62, 99, 104, 97, 114]))
 (.next 5 [(.scmp .eql (.atom 0) (.str [105, 110, 116, 101, 103, 101, 114, 45, 62, 99, 104, 97, 114]))])
 (.ite (.scmp .eql (.atom 0) (.str [119, 114, 105, 116, 101, 45, 117, 56]))
 (.next 5 [(.scmp .eql (.atom 0) (.str [119, 114, 105, 116, 101, 45, 117, 56]))])
 (.ite (.scmp .eql (.atom 0) (.str [37, 98, 111, 120]))
 (.next 5 [(.scmp .eql (.atom 0) (.str [37, 98, 111, 120]))])
 (.ite (.scmp .eql (.atom 0) (.str [37, 117, 110, 98, 111, 120]))
 (.next 5 [(.scmp .eql (.atom 0) (.str [37, 117, 110, 98, 111, 120]))])
 (.next 5 [(.pick (.scmp .eql (.atom 0) (.str [37, 119, 105, 110, 100, 33])) (.scmp .eql (.atom 0) (.str [37, 119, 105, 110, 100, 33])) (.scmp .eql (.atom 0) (.str [37, 99, 97, 108, 108, 99, 99])))]))))))))))))
 (.ite (.scmp .eql (.atom 0) (.str [110, 117, 108, 108, 63]))
 (.next 4 [(.scmp .eql (.atom 0) (.str [110, 117, 108, 108, 63]))])
 (.ite (.scmp .eql (.atom 0) (.str [112, 97, 105, 114, 63]))
 (.next 4 [(.scmp .eql (.atom 0) (.str [112, 97, 105, 114, 63]))])
 (.ite (.scmp .eql (.atom 0) (.str [118, 101, 99, 116, 111, 114, 63]))
 (.next 4 [(.scmp .eql (.atom 0) (.str [118, 101, 99, 116, 111, 114, 63]))])
 (.ite (.scmp .eql (.atom 0) (.str [115, 116, 114, 105, 110, 103, 63]))
 (.next 4 [(.scmp .eql (.atom 0) (.str [115, 116, 114, 105, 110, 103, 63]))])
 (.ite (.scmp .eql (.atom 0) (.str [115, 121, 109, 98, 111, 108, 63]))
 (.next 4 [(.scmp .eql (.atom 0) (.str [115, 121, 109, 98, 111, 108, 63]))])
 (.ite (.scmp .eql (.atom 0) (.str [99, 104, 97, 114, 63]))
 (.next 4 [(.scmp .eql (.atom 0) (.str [99, 104, 97, 114, 63]))])
 (.ite (.scmp .eql (.atom 0) (.str [105, 110, 116, 101, 103, 101, 114, 63]))
 (.next 4 [(.scmp .eql (.atom 0) (.str [105, 110, 116, 101, 103, 101, 114, 63]))])
 (.ite (.scmp .eql (.atom 0) (.str [98, 111, 111, 108, 101, 97, 110, 63]))
 (.next 4 [(.scmp .eql (.atom 0) (.str [98, 111, 111, 108, 101, 97, 110, 63]))])
 (.next 4 [(.pick (.scmp .eql (.atom 0) (.str [112, 114, 111, 99, 101, 100, 117, 114, 101, 63])) (.scmp .eql (.atom 0) (.str [112, 114, 111, 99, 101, 100, 117, 114, 101, 63])) (.scmp .eql (.atom 0) (.str [101, 111, 102, 45, 111, 98, 106, 101, 99, 116, 63])))])))))))))))
 (.ite (.scmp .eql (.atom 0) (.str [114, 101, 97, 100, 45, 117, 56]))
 (.next 3 [(.scmp .eql (.atom 0) (.str [114, 101, 97, 100, 45, 117, 56]))])
 (.ite (.scmp .eql (.atom 0) (.str [101, 114, 114, 111, 114]))
 (.next 3 [(.scmp .eql (.atom 0) (.str [101, 114, 114, 111, 114]))])
 (.ite (.scmp .eql (.atom 0) (.str [118, 111, 105, 100]))
 (.next 3 [(.scmp .eql (.atom 0) (.str [118, 111, 105, 100]))])
 (.next 3 [(.pick (.scmp .eql (.atom 0) (.str [37, 119, 105, 110, 100, 101, 114, 115])) (.scmp .eql (.atom 0) (.str [37, 119, 105, 110, 100, 101, 114, 115])) (.scmp .eql (.atom 0) (.str [37, 117, 110, 115, 101, 116])))])))))
theorem fm_scrimshawref06_Arity_eq : execF Try.prog { pub := [], nojoin := false } Try.f32 = fm_scrimshawref06_Arity := by kernel_rfl
theorem cb_scrimshawref06_Arity : callB Try.prog 32 = true := by kernel_rfl
theorem tri_scrimshawref06_Arity : TriOf Try.prog 32 Try.f32 fm_scrimshawref06_Arity := triOf Try.func32 fm_scrimshawref06_Arity_eq

/-- scrimshaw/live.leads -/
abbrev n_live_leads : FuncId := 42
def fm_live_leads : Fm VE :=
 (.join 3 [.bool]
 (.ite (.atom 6)
 (.sem (.buildSlice 40 1 #[(0, (.tmp 10))]) 40 [(10, (.sc (.atom 4)))] (.sc (.sl)) []
 (.leaf (.sc (.atom 7))))
 (.ite (.cmp .eql (.atom 0) (.int .i64 1))
 (.sem (.buildSlice 40 2 #[(0, (.tmp 15)), (1, (.tmp 17))]) 40 [(15, (.sc (.atom 4))), (17, (.sc (.atom 5)))] (.sc (.sl)) []
 (.leaf (.sc (.atom 7))))
 (.leaf (.sc (.nil 1)))))
 (.ite (.cmp .eql (.atom 0) (.int .i64 0))
 (.next 3 [(.cmp .eql (.atom 0) (.int .i64 0))])
 (.next 3 [(.pick (.cmp .eql (.atom 0) (.int .i64 4)) (.cmp .eql (.atom 0) (.int .i64 4)) (.cmp .eql (.atom 0) (.int .i64 6)))])))
theorem fm_live_leads_eq : execF Try.prog { pub := [], nojoin := false } Try.f42 = fm_live_leads := by kernel_rfl
theorem cb_live_leads : callB Try.prog 42 = true := by kernel_rfl
theorem tri_live_leads : TriOf Try.prog 42 Try.f42 fm_live_leads := triOf Try.func42 fm_live_leads_eq

/-- (scrimshaw/live.set[int]).join -/
abbrev n_live_set_int___join : FuncId := 43
def fm_live_set_int___join : Fm VE :=
 (.sem (.range 65 (.tmp 5)) 0 [(5, (.sc (.atom 1)))] (.sc (.ptr)) []
 (.loop 1 [] []
 (.join 2 [.bool]
 (.ite (.atom 3)
 (.sem (.entry (.tmp 6)) 0 [(6, (.sc (.atom 2)))] (.tu [(false, [.int .i64]), (false, [.int .i64])]) []
 (.sem (.mapUpdate 65 (.tmp 11) (.tmp 12) (.const (.int .i64 1))) 0 [(11, (.sc (.atom 0))), (12, (.sc (.atom 4)))] (.tu []) []
 (.next 1 [])))
 (.leaf (.tu [])))
 (.alt (.next (.tmp 6) false) 0 [(6, (.sc (.atom 2)))] (.tu [(false, [.bool])]) (.tu [(false, [.bool]), (false, [.int .i64]), (false, [.int .i64])])
 (.next 2 [(.atom 3)])
 (.next 2 [(.atom 3)])))))
theorem fm_live_set_int___join_eq : execF Try.prog { pub := [], nojoin := false } Try.f43 = fm_live_set_int___join := by kernel_rfl
theorem cb_live_set_int___join : callB Try.prog 43 = true := by kernel_rfl
theorem tri_live_set_int___join : TriOf Try.prog 43 Try.f43 fm_live_set_int___join := triOf Try.func43 fm_live_set_int___join_eq

/-- (scrimshaw/live.set[int]).add -/
abbrev n_live_set_int___add : FuncId := 44
def fm_live_set_int___add : Fm VE :=
 (.loop 1 [.int .i64] [(.int .i64 0)]
 (.ite (.cmp .lss (.atom 2) (.len (.atom 1)))
 (.chk [] (.inSl (.atom 1) (.atom 2))
 (.load (.elt (.atom 1) (.atom 2) 1) [.int .i64]
 (.sem (.mapUpdate 65 (.tmp 12) (.tmp 13) (.const (.int .i64 1))) 0 [(12, (.sc (.atom 0))), (13, (.sc (.atom 3)))] (.tu []) []
 (.next 1 [(.ar .add .i64 (.atom 2) (.int .i64 1))]))))
 (.leaf (.tu []))))
theorem fm_live_set_int___add_eq : execF Try.prog { pub := [], nojoin := false } Try.f44 = fm_live_set_int___add := by kernel_rfl
theorem cb_live_set_int___add : callB Try.prog 44 = true := by kernel_rfl
theorem tri_live_set_int___add : TriOf Try.prog 44 Try.f44 fm_live_set_int___add := triOf Try.func44 fm_live_set_int___add_eq

/-- scrimshaw/live.reads -/
abbrev n_live_reads : FuncId := 45
def fm_live_reads : Fm VE :=
 (.join 3 [.bool]
 (.ite (.atom 6)
 (.sem (.buildSlice 40 1 #[(0, (.tmp 11))]) 40 [(11, (.sc (.atom 1)))] (.sc (.sl)) []
 (.leaf (.sc (.atom 7))))
 (.ite (.pick (.cmp .eql (.atom 0) (.int .i64 3)) (.cmp .eql (.atom 0) (.int .i64 3)) (.cmp .eql (.atom 0) (.int .i64 4)))
 (.sem (.buildSlice 40 1 #[(0, (.tmp 17))]) 40 [(17, (.sc (.atom 1)))] (.sc (.sl)) []
 (.sem (.call ⟨.builtin .append, #[(.tmp 18), (.tmp 20)], #[40, 40]⟩) 40 [(18, (.sc (.atom 7))), (20, (.sc (.atom 2)))] (.sc (.sl)) []
 (.leaf (.sc (.atom 8)))))
 (.leaf (.sc (.nil 1)))))
 (.ite (.cmp .eql (.atom 0) (.int .i64 1))
 (.next 3 [(.cmp .eql (.atom 0) (.int .i64 1))])
 (.ite (.cmp .eql (.atom 0) (.int .i64 2))
 (.next 3 [(.cmp .eql (.atom 0) (.int .i64 2))])
 (.next 3 [(.pick (.cmp .eql (.atom 0) (.int .i64 5)) (.cmp .eql (.atom 0) (.int .i64 5)) (.cmp .eql (.atom 0) (.int .i64 6)))]))))
theorem fm_live_reads_eq : execF Try.prog { pub := [], nojoin := false } Try.f45 = fm_live_reads := by kernel_rfl
theorem cb_live_reads : callB Try.prog 45 = true := by kernel_rfl
theorem tri_live_reads : TriOf Try.prog 45 Try.f45 fm_live_reads := triOf Try.func45 fm_live_reads_eq

/-- scrimshaw/scrimshawref02.Check -/
abbrev n_scrimshawref02_Check : FuncId := 47
def fm_scrimshawref02_Check : Fm VE :=
 (.call (.fn 55) [(.ag [(.atom 0), (.atom 1), (.atom 2), (.atom 3)]), (.sc (.int .i64 0)), (.sc (.int .i64 0))] (.tu [(false, [.int .i64]), (false, [.int .i64])]) []
 (.leaf (.sc (.atom 5))))
theorem fm_scrimshawref02_Check_eq : execF Try.prog { pub := [], nojoin := false } Try.f47 = fm_scrimshawref02_Check := by kernel_rfl
theorem cb_scrimshawref02_Check : callB Try.prog 47 = true := by kernel_rfl
theorem tri_scrimshawref02_Check : TriOf Try.prog 47 Try.f47 fm_scrimshawref02_Check := triOf Try.func47 fm_scrimshawref02_Check_eq

/-- scrimshaw/scrimshawref02.Name -/
abbrev n_scrimshawref02_Name : FuncId := 53
def fm_scrimshawref02_Name : Fm VE :=
 (.join 2 [.bool]
 (.ite (.atom 1)
 (.leaf (.sc (.bool false)))
 (.loop 5 [.bool, .int .i64] [(.bool false), (.int .i64 0)]
 (.ite (.cmp .lss (.atom 3) (.slen (.atom 0)))
 (.chk [] (.inStr (.atom 0) (.atom 3))
 (.call (.fn 76) [(.sc (.sidx (.atom 0) (.atom 3)))] (.sc (.bool)) []
 (.ite (.not (.atom 4))
 (.leaf (.sc (.bool false)))
 (.next 5 [(.atom 2), (.ar .add .i64 (.atom 3) (.int .i64 1))]))))
 (.leaf (.sc (.bool true))))))
 (.ite (.pick (.pick (.cmp .lss (.slen (.atom 0)) (.int .i64 1)) (.bool true) (.cmp .gtr (.slen (.atom 0)) (.int .i64 64))) (.bool true) (.scmp .eql (.atom 0) (.str [46])))
 (.next 2 [(.bool true)])
 (.call (.fn 75) [(.sc (.atom 0))] (.sc (.bool)) []
 (.next 2 [(.atom 1)]))))
theorem fm_scrimshawref02_Name_eq : execF Try.prog { pub := [], nojoin := false } Try.f53 = fm_scrimshawref02_Name := by kernel_rfl
theorem cb_scrimshawref02_Name : callB Try.prog 53 = true := by kernel_rfl
theorem tri_scrimshawref02_Name : TriOf Try.prog 53 Try.f53 fm_scrimshawref02_Name := triOf Try.func53 fm_scrimshawref02_Name_eq

/-- scrimshaw/scrimshawref02.Make -/
abbrev n_scrimshawref02_Make : FuncId := 54
def fm_scrimshawref02_Make : Fm VE :=
 (.ite (.cmp .eql (.len (.atom 0)) (.int .i64 0))
 (.leaf (.ag [(.atom 1), (.atom 2), (.atom 3), (.atom 4)]))
 (.sem (.buildSlice 26 0 #[]) 26 [] (.sc (.sl)) []
 (.sem (.call ⟨.builtin .append, #[(.tmp 10), (.tmp 11)], #[26, 26]⟩) 26 [(10, (.sc (.atom 5))), (11, (.sc (.atom 0)))] (.sc (.sl)) []
 (.ite (.pick (.cmp .eql (.atom 1) (.int .i64 5)) (.bool true) (.cmp .eql (.atom 1) (.int .i64 6)))
 (.sem (.call ⟨.builtin .append, #[(.tmp 23), (.tmp 25)], #[26, 26]⟩) 26 [(23, (.sc (.atom 6))), (25, (.sc (.atom 4)))] (.sc (.sl)) []
 (.leaf (.ag [(.atom 1), (.int .i64 0), (.str []), (.atom 7)])))
 (.sem (.buildSlice 26 1 #[(0, (.tmp 29))]) 26 [(29, (.ag [(.atom 1), (.atom 2), (.atom 3), (.atom 4)]))] (.sc (.sl)) []
 (.sem (.call ⟨.builtin .append, #[(.tmp 28), (.tmp 30)], #[26, 26]⟩) 26 [(28, (.sc (.atom 6))), (30, (.sc (.atom 7)))] (.sc (.sl)) []
 (.leaf (.ag [(.int .i64 6), (.int .i64 0), (.str []), (.atom 8)]))))))))
theorem fm_scrimshawref02_Make_eq : execF Try.prog { pub := [], nojoin := false } Try.f54 = fm_scrimshawref02_Make := by kernel_rfl
theorem cb_scrimshawref02_Make : callB Try.prog 54 = true := by kernel_rfl
theorem tri_scrimshawref02_Make : TriOf Try.prog 54 Try.f54 fm_scrimshawref02_Make := triOf Try.func54 fm_scrimshawref02_Make_eq

/-- scrimshaw/scrimshawref02.check -/
abbrev n_scrimshawref02_check : FuncId := 55
def fm_scrimshawref02_check : Fm VE :=
 (.ite (.cmp .eql (.atom 5) (.int .i64 4096))
 (.leaf (.tu [(false, [(.atom 5)]), (false, [(.int .i64 22)])]))
 (.call (.fn 77) [(.ag [(.atom 0), (.atom 1), (.atom 2), (.atom 3)])] (.sc (.bool)) []
 (.ite (.pick (.atom 6) (.cmp .eql (.atom 4) (.int .i64 32)) (.bool false))
 (.leaf (.tu [(false, [(.ar .add .i64 (.atom 5) (.int .i64 1))]), (false, [(.int .i64 21)])]))
 (.call (.fn 78) [(.ag [(.atom 0), (.atom 1), (.atom 2), (.atom 3)])] (.sc (.bool)) []
 (.ite (.not (.atom 7))
 (.leaf (.tu [(false, [(.ar .add .i64 (.atom 5) (.int .i64 1))]), (false, [(.int .i64 20)])]))
 (.loop 11 [.int .i64, .int .i64, .int .i64, .int .i64, .int .i64] [(.ar .add .i64 (.atom 5) (.int .i64 1)), (.int .i64 0), (.int .i64 0), (.int .i64 0), (.int .i64 0)]
 (.ite (.cmp .lss (.atom 12) (.len (.atom 3)))
 (.chk [] (.inSl (.atom 3) (.atom 12))
 (.load (.elt (.atom 3) (.atom 12) 4) [.int .i64, .int .i64, .str, .sl]
 (.call (.fn 55) [(.ag [(.atom 13), (.atom 14), (.atom 15), (.atom 16)]), (.sc (.ar .add .i64 (.atom 4) (.int .i64 1))), (.sc (.atom 8))] (.tu [(false, [.int .i64]), (false, [.int .i64])]) []
 (.ite (.cmp .neq (.atom 18) (.int .i64 0))
 (.leaf (.tu [(false, [(.atom 17)]), (false, [(.atom 18)])]))
 (.next 11 [(.atom 17), (.atom 9), (.atom 10), (.atom 18), (.ar .add .i64 (.atom 12) (.int .i64 1))])))))
 (.leaf (.tu [(false, [(.atom 8)]), (false, [(.int .i64 0)])])))))))))
theorem fm_scrimshawref02_check_eq : execF Try.prog { pub := [], nojoin := false } Try.f55 = fm_scrimshawref02_check := by kernel_rfl
theorem cb_scrimshawref02_check : callB Try.prog 55 = true := by kernel_rfl
theorem tri_scrimshawref02_check : TriOf Try.prog 55 Try.f55 fm_scrimshawref02_check := triOf Try.func55 fm_scrimshawref02_check_eq

/-- scrimshaw/scrimshawref02.Number -/
abbrev n_scrimshawref02_Number : FuncId := 75
def fm_scrimshawref02_Number : Fm VE :=
 (.chk [((.cmp .gtr (.slen (.atom 0)) (.int .i64 0)), true)] (.inStr (.atom 0) (.int .i64 0))
 (.chk [((.cmp .gtr (.slen (.atom 0)) (.int .i64 0)), true), ((.cmp .eql (.sidx (.atom 0) (.int .i64 0)) (.int .u8 43)), false)] (.inStr (.atom 0) (.int .i64 0))
 (.loop 6 [.bool, .int .i64] [(.bool false), (.pick (.pick (.cmp .gtr (.slen (.atom 0)) (.int .i64 0)) (.pick (.cmp .eql (.sidx (.atom 0) (.int .i64 0)) (.int .u8 43)) (.bool true) (.cmp .eql (.sidx (.atom 0) (.int .i64 0)) (.int .u8 45))) (.bool false)) (.int .i64 1) (.int .i64 0))]
 (.ite (.cmp .lss (.atom 2) (.slen (.atom 0)))
 (.chk [] (.inStr (.atom 0) (.atom 2))
 (.call (.fn 87) [(.sc (.sidx (.atom 0) (.atom 2)))] (.sc (.bool)) []
 (.ite (.not (.atom 3))
 (.leaf (.sc (.bool false)))
 (.next 6 [(.atom 1), (.ar .add .i64 (.atom 2) (.int .i64 1))]))))
 (.leaf (.sc (.cmp .gtr (.slen (.atom 0)) (.pick (.pick (.cmp .gtr (.slen (.atom 0)) (.int .i64 0)) (.pick (.cmp .eql (.sidx (.atom 0) (.int .i64 0)) (.int .u8 43)) (.bool true) (.cmp .eql (.sidx (.atom 0) (.int .i64 0)) (.int .u8 45))) (.bool false)) (.int .i64 1) (.int .i64 0)))))))))
theorem fm_scrimshawref02_Number_eq : execF Try.prog { pub := [], nojoin := false } Try.f75 = fm_scrimshawref02_Number := by kernel_rfl
theorem cb_scrimshawref02_Number : callB Try.prog 75 = true := by kernel_rfl
theorem tri_scrimshawref02_Number : TriOf Try.prog 75 Try.f75 fm_scrimshawref02_Number := triOf Try.func75 fm_scrimshawref02_Number_eq

/-- scrimshaw/scrimshawref02.Byte -/
abbrev n_scrimshawref02_Byte : FuncId := 76
def fm_scrimshawref02_Byte : Fm VE :=
 (.call (.fn 87) [(.sc (.atom 0))] (.sc (.bool)) []
 (.ite (.pick (.pick (.atom 1) (.bool true) (.pick (.cmp .geq (.atom 0) (.int .u8 97)) (.cmp .leq (.atom 0) (.int .u8 122)) (.bool false))) (.bool true) (.pick (.cmp .geq (.atom 0) (.int .u8 65)) (.cmp .leq (.atom 0) (.int .u8 90)) (.bool false)))
 (.leaf (.sc (.bool true)))
 (.loop 6 [.bool, .int .i64] [(.bool false), (.int .i64 0)]
 (.ite (.cmp .lss (.atom 3) (.int .i64 18))
 (.chk [] (.inStr (.str [33, 36, 37, 38, 42, 47, 58, 60, 61, 62, 63, 94, 95, 126, 43, 45, 46, 64]) (.atom 3))
 (.ite (.cmp .eql (.sidx (.str [33, 36, 37, 38, 42, 47, 58, 60, 61, 62, 63, 94, 95, 126, 43, 45, 46, 64]) (.atom 3)) (.atom 0))
 (.leaf (.sc (.bool true)))
 (.next 6 [(.atom 2), (.ar .add .i64 (.atom 3) (.int .i64 1))])))
 (.leaf (.sc (.bool false)))))))
theorem fm_scrimshawref02_Byte_eq : execF Try.prog { pub := [], nojoin := false } Try.f76 = fm_scrimshawref02_Byte := by kernel_rfl
theorem cb_scrimshawref02_Byte : callB Try.prog 76 = true := by kernel_rfl
theorem tri_scrimshawref02_Byte : TriOf Try.prog 76 Try.f76 fm_scrimshawref02_Byte := triOf Try.func76 fm_scrimshawref02_Byte_eq

/-- scrimshaw/scrimshawref02.Nested -/
abbrev n_scrimshawref02_Nested : FuncId := 77
def fm_scrimshawref02_Nested : Fm VE :=
 (.leaf (.sc (.pick (.pick (.cmp .eql (.atom 0) (.int .i64 5)) (.bool true) (.cmp .eql (.atom 0) (.int .i64 6))) (.bool true) (.cmp .eql (.atom 0) (.int .i64 7)))))
theorem fm_scrimshawref02_Nested_eq : execF Try.prog { pub := [], nojoin := false } Try.f77 = fm_scrimshawref02_Nested := by kernel_rfl
theorem cb_scrimshawref02_Nested : callB Try.prog 77 = true := by kernel_rfl
theorem tri_scrimshawref02_Nested : TriOf Try.prog 77 Try.f77 fm_scrimshawref02_Nested := triOf Try.func77 fm_scrimshawref02_Nested_eq

/-- scrimshaw/scrimshawref02.form -/
abbrev n_scrimshawref02_form : FuncId := 78
def fm_scrimshawref02_form : Fm VE :=
 (.ite (.cmp .eql (.atom 0) (.int .i64 0))
 (.leaf (.sc (.pick (.pick (.scmp .eql (.atom 2) (.str [])) (.cmp .eql (.len (.atom 3)) (.int .i64 0)) (.bool false)) (.pick (.cmp .eql (.atom 1) (.int .i64 0)) (.bool true) (.cmp .eql (.atom 1) (.int .i64 1))) (.bool false))))
 (.ite (.cmp .eql (.atom 0) (.int .i64 1))
 (.leaf (.sc (.pick (.pick (.pick (.scmp .eql (.atom 2) (.str [])) (.cmp .eql (.len (.atom 3)) (.int .i64 0)) (.bool false)) (.cmp .geq (.atom 1) (.int .i64 (-1152921504606846976))) (.bool false)) (.cmp .lss (.atom 1) (.int .i64 1152921504606846976)) (.bool false))))
 (.ite (.cmp .eql (.atom 0) (.int .i64 2))
 (.leaf (.sc (.pick (.pick (.pick (.scmp .eql (.atom 2) (.str [])) (.cmp .eql (.len (.atom 3)) (.int .i64 0)) (.bool false)) (.cmp .geq (.atom 1) (.int .i64 0)) (.bool false)) (.cmp .leq (.atom 1) (.int .i64 255)) (.bool false))))
 (.ite (.cmp .eql (.atom 0) (.int .i64 3))
 (.leaf (.sc (.pick (.pick (.cmp .eql (.atom 1) (.int .i64 0)) (.cmp .eql (.len (.atom 3)) (.int .i64 0)) (.bool false)) (.cmp .leq (.slen (.atom 2)) (.int .i64 4096)) (.bool false))))
 (.ite (.cmp .eql (.atom 0) (.int .i64 4))
 (.join 10 [.bool]
 (.leaf (.sc (.atom 4)))
 (.ite (.pick (.cmp .eql (.atom 1) (.int .i64 0)) (.cmp .eql (.len (.atom 3)) (.int .i64 0)) (.bool false))
 (.call (.fn 53) [(.sc (.atom 2))] (.sc (.bool)) []
 (.next 10 [(.atom 4)]))
 (.next 10 [(.bool false)])))
 (.ite (.pick (.cmp .eql (.atom 0) (.int .i64 5)) (.cmp .eql (.atom 0) (.int .i64 5)) (.cmp .eql (.atom 0) (.int .i64 7)))
 (.leaf (.sc (.pick (.cmp .eql (.atom 1) (.int .i64 0)) (.scmp .eql (.atom 2) (.str [])) (.bool false))))
 (.ite (.cmp .eql (.atom 0) (.int .i64 6))
 (.join 14 [.bool]
 (.leaf (.sc (.atom 4)))
 (.chk [((.pick (.pick (.cmp .eql (.atom 1) (.int .i64 0)) (.scmp .eql (.atom 2) (.str [])) (.bool false)) (.cmp .geq (.len (.atom 3)) (.int .i64 2)) (.bool false)), true)] (.inSl (.atom 3) (.ar .sub .i64 (.len (.atom 3)) (.int .i64 1)))
 (.chk [((.pick (.pick (.cmp .eql (.atom 1) (.int .i64 0)) (.scmp .eql (.atom 2) (.str [])) (.bool false)) (.cmp .geq (.len (.atom 3)) (.int .i64 2)) (.bool false)), true)] (.some (.elt (.atom 3) (.ar .sub .i64 (.len (.atom 3)) (.int .i64 1)) 4))
 (.ite (.pick (.pick (.cmp .eql (.atom 1) (.int .i64 0)) (.scmp .eql (.atom 2) (.str [])) (.bool false)) (.cmp .geq (.len (.atom 3)) (.int .i64 2)) (.bool false))
 (.load (.padd (.elt (.atom 3) (.ar .sub .i64 (.len (.atom 3)) (.int .i64 1)) 4) 0) [.int .i64]
 (.chk [((.cmp .neq (.atom 4) (.int .i64 5)), true)] (.inSl (.atom 3) (.ar .sub .i64 (.len (.atom 3)) (.int .i64 1)))
 (.chk [((.cmp .neq (.atom 4) (.int .i64 5)), true)] (.some (.elt (.atom 3) (.ar .sub .i64 (.len (.atom 3)) (.int .i64 1)) 4))
 (.ite (.cmp .neq (.atom 4) (.int .i64 5))
 (.load (.padd (.elt (.atom 3) (.ar .sub .i64 (.len (.atom 3)) (.int .i64 1)) 4) 0) [.int .i64]
 (.next 14 [(.cmp .neq (.atom 5) (.int .i64 6))]))
 (.next 14 [(.bool false)])))))
 (.next 14 [(.bool false)])))))
 (.leaf (.sc (.bool false))))))))))
theorem fm_scrimshawref02_form_eq : execF Try.prog { pub := [], nojoin := false } Try.f78 = fm_scrimshawref02_form := by kernel_rfl
theorem cb_scrimshawref02_form : callB Try.prog 78 = true := by kernel_rfl
theorem tri_scrimshawref02_form : TriOf Try.prog 78 Try.f78 fm_scrimshawref02_form := triOf Try.func78 fm_scrimshawref02_form_eq

/-- scrimshaw/scrimshawref02.Digit -/
abbrev n_scrimshawref02_Digit : FuncId := 87
def fm_scrimshawref02_Digit : Fm VE :=
 (.leaf (.sc (.pick (.cmp .geq (.atom 0) (.int .u8 48)) (.cmp .leq (.atom 0) (.int .u8 57)) (.bool false))))
theorem fm_scrimshawref02_Digit_eq : execF Try.prog { pub := [], nojoin := false } Try.f87 = fm_scrimshawref02_Digit := by kernel_rfl
theorem cb_scrimshawref02_Digit : callB Try.prog 87 = true := by kernel_rfl
theorem tri_scrimshawref02_Digit : TriOf Try.prog 87 Try.f87 fm_scrimshawref02_Digit := triOf Try.func87 fm_scrimshawref02_Digit_eq

end Go.Proofs.Ytcfgpbmcgmkmhaa.Vc
/-
  A FUNCTION WITHOUT ARGUMENTS gives true, by its run.
-/
namespace Go.Proofs.Ytcfgpbmcgmkmhaa.Vc
open Go

theorem gives_run {P : Program} {f : FuncId} {fn : Func} {fm : Fm VE} {tab : List CK} {S0 : PH} (h : TriOf P f fn fm) (hp : tagsOk ((paramRS P fn).flatMap RS.tags) [] = true) (ha : ([] : List Value) = packAll (paramRS P fn) []) (htab : TabOk P S0 tab) (hr : runsTrue P tab fm = true) : Gives P f [] S0 (.bool true) :=
  h [] (H := S0) (R := fun e H' => e = .returned (.bool true) ∧ PH.le S0 H') hp ha (runs_true (R := fun e H' => e = .returned (.bool true) ∧ PH.le S0 H') htab hr fun H' hl => ⟨rfl, hl⟩)
end Go.Proofs.Ytcfgpbmcgmkmhaa.Vc
/-
  MORE FORMULAS of the program's functions, as the executor gives them; each is checked by the kernel. Printed by a program of our own.
-/
namespace Go.Proofs.Ytcfgpbmcgmkmhaa.Vc
open Go

def fm_scrimshawlaw17_LivingIdle : Fm VE :=
 (.join 1 [.ptr, .ptr, .ptr, .str]
 (.join 3 [.bool]
 (.ite (.atom 13)
 (.call (.fn 4) [] (.sc (.bool)) []
 (.leaf (.sc (.atom 14))))
 (.chk [] (.some (.atom 9))
 (.load (.padd (.atom 9) 0) [.sl]
 (.sem (.indexAddr 25 (.tmp 4) (.const (.int .i64 0))) 0 [(4, (.sc (.atom 10)))] (.sc (.ptr)) []
 (.load (.atom 15) [.int .i64]
 (.chk [] (.inSl (.atom 14) (.atom 16))
 (.load (.elt (.atom 14) (.atom 16) 4) [.int .i64, .int .i64, .int .i64, .sl]
 (.join 6 [.bool]
 (.ite (.atom 21)
 (.leaf (.sc (.bool true)))
 (.call (.fn 6) [(.ag [(.atom 17), (.atom 18), (.atom 19), (.atom 20)])] (.sc (.sl)) []
 (.ite (.cmp .neq (.len (.atom 22)) (.len (.atom 20)))
 (.leaf (.sc (.bool false)))
 (.join 11 [.bool]
 (.ite (.atom 23)
 (.leaf (.sc (.bool true)))
 (.join 12 [.ptr]
 (.join 13 []
 (.sem (.buildSlice 22 0 #[]) 22 [] (.sc (.sl)) []
 (.load (.padd (.atom 9) 0) [.sl]
 (.sem (.call ⟨.builtin .append, #[(.tmp 116), (.tmp 118)], #[22, 22]⟩) 22 [(116, (.sc (.atom 25))), (118, (.sc (.atom 26)))] (.sc (.sl)) []
 (.sem (.indexAddr 25 (.tmp 4) (.const (.int .i64 0))) 0 [(4, (.sc (.atom 10)))] (.sc (.ptr)) []
 (.load (.atom 28) [.int .i64]
 (.load (.atom 24) [.int .i64, .int .i64, .int .i64, .sl]
 (.chk [] (.inSl (.atom 27) (.atom 29))
 (.store (.elt (.atom 27) (.atom 29) 4) [(.atom 30), (.atom 31), (.atom 32), (.atom 33)]
 (.load (.atom 9) [.sl]
 (.call (.fn 8) [(.ag [(.atom 34)]), (.sc (.atom 12)), (.sc (.int .i64 1000))] (.ag [.int .i64, .str, .int .i64, .int .i64, .str, .sl, .bool, .int .i64]) []
 (.join 18 [.bool]
 (.ite (.atom 43)
 (.leaf (.sc (.bool true)))
 (.call (.fn 8) [(.ag [(.atom 27)]), (.sc (.atom 12)), (.sc (.ar .add .i64 (.ar .mul .i64 (.int .i64 2) (.atom 42)) (.int .i64 2)))] (.ag [.int .i64, .str, .int .i64, .int .i64, .str, .sl, .bool, .int .i64]) []
 (.call (.fn 9) [(.ag [(.atom 35), (.atom 36), (.atom 37), (.atom 38), (.atom 39), (.atom 40), (.atom 41), (.atom 42)]), (.ag [(.atom 44), (.atom 45), (.atom 46), (.atom 47), (.atom 48), (.atom 49), (.atom 50), (.atom 51)])] (.sc (.bool)) []
 (.leaf (.sc (.atom 52))))))
 (.ite (.cmp .eql (.atom 35) (.int .i64 93))
 (.next 18 [(.bool true)])
 (.call (.fn 5) [(.ag [(.atom 27)])] (.sc (.int .i64)) []
 (.next 18 [(.cmp .neq (.atom 43) (.int .i64 0))]))))))))))))))
 (.chk [] (.some (.atom 24))
 (.load (.padd (.atom 24) 3) [.sl]
 (.load (.atom 11) [.int .i64, .int .i64, .str, .sl]
 (.both
 (.sem (.indexAddr 25 (.tmp 4) (.const (.int .i64 1))) 0 [(4, (.sc (.atom 10)))] (.sc (.ptr)) [((.atom 11), [(.atom 26), (.atom 27), (.atom 28), (.atom 29)]), ((.padd (.atom 24) 3), [(.atom 25)])]
 (.load (.atom 30) [.int .i64]
 (.both
 (.sem (.indexAddr 25 (.tmp 4) (.const (.int .i64 2))) 0 [(4, (.sc (.atom 10)))] (.sc (.ptr)) [((.atom 30), [(.atom 31)]), ((.atom 11), [(.atom 26), (.atom 27), (.atom 28), (.atom 29)]), ((.padd (.atom 24) 3), [(.atom 25)])]
 (.load (.atom 32) [.int .i64]
 (.both
 (.sem (.buildSlice 41 1 #[(0, (.tmp 104))]) 41 [(104, (.ag [(.str [99, 111, 110, 115, 116]), (.atom 33), (.nil 1), (.atom 26), (.atom 27), (.atom 28), (.atom 29), (.int .i64 0)]))] (.sc (.sl)) [((.atom 30), [(.atom 31)]), ((.padd (.atom 24) 3), [(.atom 25)])]
 (.sem (.indexAddr 25 (.tmp 4) (.const (.int .i64 1))) 0 [(4, (.sc (.atom 10)))] (.sc (.ptr)) [((.atom 30), [(.atom 31)]), ((.padd (.atom 24) 3), [(.atom 25)])]
 (.load (.atom 35) [.int .i64]
 (.chk [] (.inSl (.atom 20) (.atom 36))
 (.load (.padd (.elt (.atom 20) (.atom 36) 7) 0) [.sl]
 (.sem (.call ⟨.builtin .append, #[(.tmp 105), (.tmp 112)], #[41, 41]⟩) 41 [(105, (.sc (.atom 34))), (112, (.sc (.atom 37)))] (.sc (.sl)) [((.atom 30), [(.atom 31)]), ((.padd (.atom 24) 3), [(.atom 25)])]
 (.chk [] (.inSl (.atom 25) (.atom 31))
 (.store (.padd (.elt (.atom 25) (.atom 31) 7) 0) [(.atom 38)]
 (.next 13 [])))))))))
 (.sem (.indexAddr 25 (.tmp 4) (.const (.int .i64 1))) 0 [(4, (.sc (.atom 10)))] (.sc (.ptr)) [((.atom 32), [(.atom 33)]), ((.atom 30), [(.atom 31)]), ((.atom 11), [(.atom 26), (.atom 27), (.atom 28), (.atom 29)]), ((.padd (.atom 24) 3), [(.atom 25)])]
 (.load (.atom 34) [.int .i64]
 (.chk [] (.inSl (.atom 20) (.atom 35))
 (.load (.padd (.elt (.atom 20) (.atom 35) 7) 0) [.sl]
 (.sem (.buildSlice 41 1 #[(0, (.tmp 104))]) 41 [(104, (.ag [(.str [99, 111, 110, 115, 116]), (.atom 33), (.nil 1), (.atom 26), (.atom 27), (.atom 28), (.atom 29), (.int .i64 0)]))] (.sc (.sl)) [((.padd (.elt (.atom 20) (.atom 35) 7) 0), [(.atom 36)]), ((.atom 34), [(.atom 35)]), ((.atom 30), [(.atom 31)]), ((.padd (.atom 24) 3), [(.atom 25)])]
 (.sem (.call ⟨.builtin .append, #[(.tmp 105), (.tmp 112)], #[41, 41]⟩) 41 [(105, (.sc (.atom 37))), (112, (.sc (.atom 36)))] (.sc (.sl)) [((.atom 30), [(.atom 31)]), ((.padd (.atom 24) 3), [(.atom 25)])]
 (.chk [] (.inSl (.atom 25) (.atom 31))
 (.store (.padd (.elt (.atom 25) (.atom 31) 7) 0) [(.atom 38)]
 (.next 13 []))))))))))))
 (.sem (.indexAddr 25 (.tmp 4) (.const (.int .i64 1))) 0 [(4, (.sc (.atom 10)))] (.sc (.ptr)) [((.atom 30), [(.atom 31)]), ((.atom 11), [(.atom 26), (.atom 27), (.atom 28), (.atom 29)]), ((.padd (.atom 24) 3), [(.atom 25)])]
 (.load (.atom 32) [.int .i64]
 (.chk [] (.inSl (.atom 20) (.atom 33))
 (.load (.padd (.elt (.atom 20) (.atom 33) 7) 0) [.sl]
 (.sem (.indexAddr 25 (.tmp 4) (.const (.int .i64 2))) 0 [(4, (.sc (.atom 10)))] (.sc (.ptr)) [((.padd (.elt (.atom 20) (.atom 33) 7) 0), [(.atom 34)]), ((.atom 32), [(.atom 33)]), ((.atom 30), [(.atom 31)]), ((.atom 11), [(.atom 26), (.atom 27), (.atom 28), (.atom 29)]), ((.padd (.atom 24) 3), [(.atom 25)])]
 (.load (.atom 35) [.int .i64]
 (.sem (.buildSlice 41 1 #[(0, (.tmp 104))]) 41 [(104, (.ag [(.str [99, 111, 110, 115, 116]), (.atom 36), (.nil 1), (.atom 26), (.atom 27), (.atom 28), (.atom 29), (.int .i64 0)]))] (.sc (.sl)) [((.padd (.elt (.atom 20) (.atom 33) 7) 0), [(.atom 34)]), ((.atom 32), [(.atom 33)]), ((.atom 30), [(.atom 31)]), ((.padd (.atom 24) 3), [(.atom 25)])]
 (.sem (.call ⟨.builtin .append, #[(.tmp 105), (.tmp 112)], #[41, 41]⟩) 41 [(105, (.sc (.atom 37))), (112, (.sc (.atom 34)))] (.sc (.sl)) [((.atom 30), [(.atom 31)]), ((.padd (.atom 24) 3), [(.atom 25)])]
 (.chk [] (.inSl (.atom 25) (.atom 31))
 (.store (.padd (.elt (.atom 25) (.atom 31) 7) 0) [(.atom 38)]
 (.next 13 []))))))))))))))
 (.both
 (.sem (.indexAddr 25 (.tmp 4) (.const (.int .i64 2))) 0 [(4, (.sc (.atom 10)))] (.sc (.ptr)) [((.atom 11), [(.atom 26), (.atom 27), (.atom 28), (.atom 29)]), ((.padd (.atom 24) 3), [(.atom 25)])]
 (.load (.atom 30) [.int .i64]
 (.both
 (.sem (.indexAddr 25 (.tmp 4) (.const (.int .i64 1))) 0 [(4, (.sc (.atom 10)))] (.sc (.ptr)) [((.atom 30), [(.atom 31)]), ((.atom 11), [(.atom 26), (.atom 27), (.atom 28), (.atom 29)]), ((.padd (.atom 24) 3), [(.atom 25)])]
 (.load (.atom 32) [.int .i64]
 (.both
 (.sem (.buildSlice 41 1 #[(0, (.tmp 104))]) 41 [(104, (.ag [(.str [99, 111, 110, 115, 116]), (.atom 31), (.nil 1), (.atom 26), (.atom 27), (.atom 28), (.atom 29), (.int .i64 0)]))] (.sc (.sl)) [((.atom 32), [(.atom 33)]), ((.padd (.atom 24) 3), [(.atom 25)])]
 (.sem (.indexAddr 25 (.tmp 4) (.const (.int .i64 1))) 0 [(4, (.sc (.atom 10)))] (.sc (.ptr)) [((.atom 32), [(.atom 33)]), ((.padd (.atom 24) 3), [(.atom 25)])]
 (.load (.atom 35) [.int .i64]
 (.chk [] (.inSl (.atom 20) (.atom 36))
 (.load (.padd (.elt (.atom 20) (.atom 36) 7) 0) [.sl]
 (.sem (.call ⟨.builtin .append, #[(.tmp 105), (.tmp 112)], #[41, 41]⟩) 41 [(105, (.sc (.atom 34))), (112, (.sc (.atom 37)))] (.sc (.sl)) [((.atom 32), [(.atom 33)]), ((.padd (.atom 24) 3), [(.atom 25)])]
 (.chk [] (.inSl (.atom 25) (.atom 33))
 (.store (.padd (.elt (.atom 25) (.atom 33) 7) 0) [(.atom 38)]
 (.next 13 [])))))))))
 (.sem (.indexAddr 25 (.tmp 4) (.const (.int .i64 1))) 0 [(4, (.sc (.atom 10)))] (.sc (.ptr)) [((.atom 32), [(.atom 33)]), ((.atom 30), [(.atom 31)]), ((.atom 11), [(.atom 26), (.atom 27), (.atom 28), (.atom 29)]), ((.padd (.atom 24) 3), [(.atom 25)])]
 (.load (.atom 34) [.int .i64]
 (.chk [] (.inSl (.atom 20) (.atom 35))
 (.load (.padd (.elt (.atom 20) (.atom 35) 7) 0) [.sl]
 (.sem (.buildSlice 41 1 #[(0, (.tmp 104))]) 41 [(104, (.ag [(.str [99, 111, 110, 115, 116]), (.atom 31), (.nil 1), (.atom 26), (.atom 27), (.atom 28), (.atom 29), (.int .i64 0)]))] (.sc (.sl)) [((.padd (.elt (.atom 20) (.atom 35) 7) 0), [(.atom 36)]), ((.atom 34), [(.atom 35)]), ((.atom 32), [(.atom 33)]), ((.padd (.atom 24) 3), [(.atom 25)])]
 (.sem (.call ⟨.builtin .append, #[(.tmp 105), (.tmp 112)], #[41, 41]⟩) 41 [(105, (.sc (.atom 37))), (112, (.sc (.atom 36)))] (.sc (.sl)) [((.atom 32), [(.atom 33)]), ((.padd (.atom 24) 3), [(.atom 25)])]
 (.chk [] (.inSl (.atom 25) (.atom 33))
 (.store (.padd (.elt (.atom 25) (.atom 33) 7) 0) [(.atom 38)]
 (.next 13 []))))))))))))
 (.both
 (.sem (.buildSlice 41 1 #[(0, (.tmp 104))]) 41 [(104, (.ag [(.str [99, 111, 110, 115, 116]), (.atom 31), (.nil 1), (.atom 26), (.atom 27), (.atom 28), (.atom 29), (.int .i64 0)]))] (.sc (.sl)) [((.padd (.atom 24) 3), [(.atom 25)])]
 (.both
 (.sem (.indexAddr 25 (.tmp 4) (.const (.int .i64 1))) 0 [(4, (.sc (.atom 10)))] (.sc (.ptr)) [((.padd (.atom 24) 3), [(.atom 25)])]
 (.load (.atom 33) [.int .i64]
 (.sem (.indexAddr 25 (.tmp 4) (.const (.int .i64 1))) 0 [(4, (.sc (.atom 10)))] (.sc (.ptr)) [((.atom 33), [(.atom 34)]), ((.padd (.atom 24) 3), [(.atom 25)])]
 (.load (.atom 35) [.int .i64]
 (.chk [] (.inSl (.atom 20) (.atom 36))
 (.load (.padd (.elt (.atom 20) (.atom 36) 7) 0) [.sl]
 (.sem (.call ⟨.builtin .append, #[(.tmp 105), (.tmp 112)], #[41, 41]⟩) 41 [(105, (.sc (.atom 32))), (112, (.sc (.atom 37)))] (.sc (.sl)) [((.atom 33), [(.atom 34)]), ((.padd (.atom 24) 3), [(.atom 25)])]
 (.chk [] (.inSl (.atom 25) (.atom 34))
 (.store (.padd (.elt (.atom 25) (.atom 34) 7) 0) [(.atom 38)]
 (.next 13 []))))))))))
 (.sem (.indexAddr 25 (.tmp 4) (.const (.int .i64 1))) 0 [(4, (.sc (.atom 10)))] (.sc (.ptr)) [((.padd (.atom 24) 3), [(.atom 25)])]
 (.load (.atom 33) [.int .i64]
 (.chk [] (.inSl (.atom 20) (.atom 34))
 (.load (.padd (.elt (.atom 20) (.atom 34) 7) 0) [.sl]
 (.both
 (.sem (.indexAddr 25 (.tmp 4) (.const (.int .i64 1))) 0 [(4, (.sc (.atom 10)))] (.sc (.ptr)) [((.padd (.elt (.atom 20) (.atom 34) 7) 0), [(.atom 35)]), ((.atom 33), [(.atom 34)]), ((.padd (.atom 24) 3), [(.atom 25)])]
 (.load (.atom 36) [.int .i64]
 (.sem (.call ⟨.builtin .append, #[(.tmp 105), (.tmp 112)], #[41, 41]⟩) 41 [(105, (.sc (.atom 32))), (112, (.sc (.atom 35)))] (.sc (.sl)) [((.atom 36), [(.atom 37)]), ((.padd (.atom 24) 3), [(.atom 25)])]
 (.chk [] (.inSl (.atom 25) (.atom 37))
 (.store (.padd (.elt (.atom 25) (.atom 37) 7) 0) [(.atom 38)]
 (.next 13 []))))))
 (.sem (.call ⟨.builtin .append, #[(.tmp 105), (.tmp 112)], #[41, 41]⟩) 41 [(105, (.sc (.atom 32))), (112, (.sc (.atom 35)))] (.sc (.sl)) [((.padd (.atom 24) 3), [(.atom 25)])]
 (.sem (.indexAddr 25 (.tmp 4) (.const (.int .i64 1))) 0 [(4, (.sc (.atom 10)))] (.sc (.ptr)) [((.padd (.atom 24) 3), [(.atom 25)])]
 (.load (.atom 37) [.int .i64]
 (.chk [] (.inSl (.atom 25) (.atom 38))
 (.store (.padd (.elt (.atom 25) (.atom 38) 7) 0) [(.atom 36)]
 (.next 13 [])))))))))))))
 (.sem (.indexAddr 25 (.tmp 4) (.const (.int .i64 1))) 0 [(4, (.sc (.atom 10)))] (.sc (.ptr)) [((.atom 30), [(.atom 31)]), ((.atom 11), [(.atom 26), (.atom 27), (.atom 28), (.atom 29)]), ((.padd (.atom 24) 3), [(.atom 25)])]
 (.load (.atom 32) [.int .i64]
 (.chk [] (.inSl (.atom 20) (.atom 33))
 (.load (.padd (.elt (.atom 20) (.atom 33) 7) 0) [.sl]
 (.both
 (.sem (.indexAddr 25 (.tmp 4) (.const (.int .i64 1))) 0 [(4, (.sc (.atom 10)))] (.sc (.ptr)) [((.padd (.elt (.atom 20) (.atom 33) 7) 0), [(.atom 34)]), ((.atom 32), [(.atom 33)]), ((.atom 30), [(.atom 31)]), ((.atom 11), [(.atom 26), (.atom 27), (.atom 28), (.atom 29)]), ((.padd (.atom 24) 3), [(.atom 25)])]
 (.load (.atom 35) [.int .i64]
 (.sem (.buildSlice 41 1 #[(0, (.tmp 104))]) 41 [(104, (.ag [(.str [99, 111, 110, 115, 116]), (.atom 31), (.nil 1), (.atom 26), (.atom 27), (.atom 28), (.atom 29), (.int .i64 0)]))] (.sc (.sl)) [((.atom 35), [(.atom 36)]), ((.padd (.elt (.atom 20) (.atom 33) 7) 0), [(.atom 34)]), ((.atom 32), [(.atom 33)]), ((.padd (.atom 24) 3), [(.atom 25)])]
 (.sem (.call ⟨.builtin .append, #[(.tmp 105), (.tmp 112)], #[41, 41]⟩) 41 [(105, (.sc (.atom 37))), (112, (.sc (.atom 34)))] (.sc (.sl)) [((.atom 35), [(.atom 36)]), ((.padd (.atom 24) 3), [(.atom 25)])]
 (.chk [] (.inSl (.atom 25) (.atom 36))
 (.store (.padd (.elt (.atom 25) (.atom 36) 7) 0) [(.atom 38)]
 (.next 13 [])))))))
 (.sem (.buildSlice 41 1 #[(0, (.tmp 104))]) 41 [(104, (.ag [(.str [99, 111, 110, 115, 116]), (.atom 31), (.nil 1), (.atom 26), (.atom 27), (.atom 28), (.atom 29), (.int .i64 0)]))] (.sc (.sl)) [((.padd (.elt (.atom 20) (.atom 33) 7) 0), [(.atom 34)]), ((.atom 32), [(.atom 33)]), ((.padd (.atom 24) 3), [(.atom 25)])]
 (.both
 (.sem (.indexAddr 25 (.tmp 4) (.const (.int .i64 1))) 0 [(4, (.sc (.atom 10)))] (.sc (.ptr)) [((.padd (.elt (.atom 20) (.atom 33) 7) 0), [(.atom 34)]), ((.atom 32), [(.atom 33)]), ((.padd (.atom 24) 3), [(.atom 25)])]
 (.load (.atom 36) [.int .i64]
 (.sem (.call ⟨.builtin .append, #[(.tmp 105), (.tmp 112)], #[41, 41]⟩) 41 [(105, (.sc (.atom 35))), (112, (.sc (.atom 34)))] (.sc (.sl)) [((.atom 36), [(.atom 37)]), ((.padd (.atom 24) 3), [(.atom 25)])]
 (.chk [] (.inSl (.atom 25) (.atom 37))
 (.store (.padd (.elt (.atom 25) (.atom 37) 7) 0) [(.atom 38)]
 (.next 13 []))))))
 (.sem (.call ⟨.builtin .append, #[(.tmp 105), (.tmp 112)], #[41, 41]⟩) 41 [(105, (.sc (.atom 35))), (112, (.sc (.atom 34)))] (.sc (.sl)) [((.padd (.atom 24) 3), [(.atom 25)])]
 (.sem (.indexAddr 25 (.tmp 4) (.const (.int .i64 1))) 0 [(4, (.sc (.atom 10)))] (.sc (.ptr)) [((.padd (.atom 24) 3), [(.atom 25)])]
 (.load (.atom 37) [.int .i64]
 (.chk [] (.inSl (.atom 25) (.atom 38))
 (.store (.padd (.elt (.atom 25) (.atom 38) 7) 0) [(.atom 36)]
 (.next 13 [])))))))))))))))))
 (.sem (.indexAddr 25 (.tmp 4) (.const (.int .i64 1))) 0 [(4, (.sc (.atom 10)))] (.sc (.ptr)) [((.atom 11), [(.atom 26), (.atom 27), (.atom 28), (.atom 29)]), ((.padd (.atom 24) 3), [(.atom 25)])]
 (.load (.atom 30) [.int .i64]
 (.chk [] (.inSl (.atom 20) (.atom 31))
 (.load (.padd (.elt (.atom 20) (.atom 31) 7) 0) [.sl]
 (.both
 (.sem (.indexAddr 25 (.tmp 4) (.const (.int .i64 1))) 0 [(4, (.sc (.atom 10)))] (.sc (.ptr)) [((.padd (.elt (.atom 20) (.atom 31) 7) 0), [(.atom 32)]), ((.atom 30), [(.atom 31)]), ((.atom 11), [(.atom 26), (.atom 27), (.atom 28), (.atom 29)]), ((.padd (.atom 24) 3), [(.atom 25)])]
 (.load (.atom 33) [.int .i64]
 (.sem (.indexAddr 25 (.tmp 4) (.const (.int .i64 2))) 0 [(4, (.sc (.atom 10)))] (.sc (.ptr)) [((.atom 33), [(.atom 34)]), ((.padd (.elt (.atom 20) (.atom 31) 7) 0), [(.atom 32)]), ((.atom 30), [(.atom 31)]), ((.atom 11), [(.atom 26), (.atom 27), (.atom 28), (.atom 29)]), ((.padd (.atom 24) 3), [(.atom 25)])]
 (.load (.atom 35) [.int .i64]
 (.sem (.buildSlice 41 1 #[(0, (.tmp 104))]) 41 [(104, (.ag [(.str [99, 111, 110, 115, 116]), (.atom 36), (.nil 1), (.atom 26), (.atom 27), (.atom 28), (.atom 29), (.int .i64 0)]))] (.sc (.sl)) [((.atom 33), [(.atom 34)]), ((.padd (.elt (.atom 20) (.atom 31) 7) 0), [(.atom 32)]), ((.atom 30), [(.atom 31)]), ((.padd (.atom 24) 3), [(.atom 25)])]
 (.sem (.call ⟨.builtin .append, #[(.tmp 105), (.tmp 112)], #[41, 41]⟩) 41 [(105, (.sc (.atom 37))), (112, (.sc (.atom 32)))] (.sc (.sl)) [((.atom 33), [(.atom 34)]), ((.padd (.atom 24) 3), [(.atom 25)])]
 (.chk [] (.inSl (.atom 25) (.atom 34))
 (.store (.padd (.elt (.atom 25) (.atom 34) 7) 0) [(.atom 38)]
 (.next 13 [])))))))))
 (.sem (.indexAddr 25 (.tmp 4) (.const (.int .i64 2))) 0 [(4, (.sc (.atom 10)))] (.sc (.ptr)) [((.padd (.elt (.atom 20) (.atom 31) 7) 0), [(.atom 32)]), ((.atom 30), [(.atom 31)]), ((.atom 11), [(.atom 26), (.atom 27), (.atom 28), (.atom 29)]), ((.padd (.atom 24) 3), [(.atom 25)])]
 (.load (.atom 33) [.int .i64]
 (.both
 (.sem (.indexAddr 25 (.tmp 4) (.const (.int .i64 1))) 0 [(4, (.sc (.atom 10)))] (.sc (.ptr)) [((.atom 33), [(.atom 34)]), ((.padd (.elt (.atom 20) (.atom 31) 7) 0), [(.atom 32)]), ((.atom 30), [(.atom 31)]), ((.atom 11), [(.atom 26), (.atom 27), (.atom 28), (.atom 29)]), ((.padd (.atom 24) 3), [(.atom 25)])]
 (.load (.atom 35) [.int .i64]
 (.sem (.buildSlice 41 1 #[(0, (.tmp 104))]) 41 [(104, (.ag [(.str [99, 111, 110, 115, 116]), (.atom 34), (.nil 1), (.atom 26), (.atom 27), (.atom 28), (.atom 29), (.int .i64 0)]))] (.sc (.sl)) [((.atom 35), [(.atom 36)]), ((.padd (.elt (.atom 20) (.atom 31) 7) 0), [(.atom 32)]), ((.atom 30), [(.atom 31)]), ((.padd (.atom 24) 3), [(.atom 25)])]
 (.sem (.call ⟨.builtin .append, #[(.tmp 105), (.tmp 112)], #[41, 41]⟩) 41 [(105, (.sc (.atom 37))), (112, (.sc (.atom 32)))] (.sc (.sl)) [((.atom 35), [(.atom 36)]), ((.padd (.atom 24) 3), [(.atom 25)])]
 (.chk [] (.inSl (.atom 25) (.atom 36))
 (.store (.padd (.elt (.atom 25) (.atom 36) 7) 0) [(.atom 38)]
 (.next 13 [])))))))
 (.sem (.buildSlice 41 1 #[(0, (.tmp 104))]) 41 [(104, (.ag [(.str [99, 111, 110, 115, 116]), (.atom 34), (.nil 1), (.atom 26), (.atom 27), (.atom 28), (.atom 29), (.int .i64 0)]))] (.sc (.sl)) [((.padd (.elt (.atom 20) (.atom 31) 7) 0), [(.atom 32)]), ((.atom 30), [(.atom 31)]), ((.padd (.atom 24) 3), [(.atom 25)])]
 (.both
 (.sem (.indexAddr 25 (.tmp 4) (.const (.int .i64 1))) 0 [(4, (.sc (.atom 10)))] (.sc (.ptr)) [((.padd (.elt (.atom 20) (.atom 31) 7) 0), [(.atom 32)]), ((.atom 30), [(.atom 31)]), ((.padd (.atom 24) 3), [(.atom 25)])]
 (.load (.atom 36) [.int .i64]
 (.sem (.call ⟨.builtin .append, #[(.tmp 105), (.tmp 112)], #[41, 41]⟩) 41 [(105, (.sc (.atom 35))), (112, (.sc (.atom 32)))] (.sc (.sl)) [((.atom 36), [(.atom 37)]), ((.padd (.atom 24) 3), [(.atom 25)])]
 (.chk [] (.inSl (.atom 25) (.atom 37))
 (.store (.padd (.elt (.atom 25) (.atom 37) 7) 0) [(.atom 38)]
 (.next 13 []))))))
 (.sem (.call ⟨.builtin .append, #[(.tmp 105), (.tmp 112)], #[41, 41]⟩) 41 [(105, (.sc (.atom 35))), (112, (.sc (.atom 32)))] (.sc (.sl)) [((.padd (.atom 24) 3), [(.atom 25)])]
 (.sem (.indexAddr 25 (.tmp 4) (.const (.int .i64 1))) 0 [(4, (.sc (.atom 10)))] (.sc (.ptr)) [((.padd (.atom 24) 3), [(.atom 25)])]
 (.load (.atom 37) [.int .i64]
 (.chk [] (.inSl (.atom 25) (.atom 38))
 (.store (.padd (.elt (.atom 25) (.atom 38) 7) 0) [(.atom 36)]
 (.next 13 []))))))))))))))))))))))
 (.both
 (.sem (.buildSlice 34 0 #[]) 34 [] (.sc (.sl)) []
 (.both
 (.sem (.call ⟨.builtin .append, #[(.tmp 92), (.tmp 94)], #[34, 34]⟩) 34 [(92, (.sc (.atom 24))), (94, (.sc (.atom 20)))] (.sc (.sl)) []
 (.new 36 [(.int .i64 0), (.int .i64 0), (.int .i64 0), (.nil 1)]
 (.store (.atom 26) [(.atom 17), (.atom 18), (.atom 19), (.atom 25)]
 (.next 12 [(.atom 26)]))))
 (.new 36 [(.int .i64 0), (.int .i64 0), (.int .i64 0), (.nil 1)]
 (.sem (.call ⟨.builtin .append, #[(.tmp 92), (.tmp 94)], #[34, 34]⟩) 34 [(92, (.sc (.atom 24))), (94, (.sc (.atom 20)))] (.sc (.sl)) []
 (.store (.atom 25) [(.atom 17), (.atom 18), (.atom 19), (.atom 26)]
 (.next 12 [(.atom 25)]))))))
 (.new 36 [(.int .i64 0), (.int .i64 0), (.int .i64 0), (.nil 1)]
 (.sem (.buildSlice 34 0 #[]) 34 [] (.sc (.sl)) []
 (.sem (.call ⟨.builtin .append, #[(.tmp 92), (.tmp 94)], #[34, 34]⟩) 34 [(92, (.sc (.atom 25))), (94, (.sc (.atom 20)))] (.sc (.sl)) []
 (.store (.atom 24) [(.atom 17), (.atom 18), (.atom 19), (.atom 26)]
 (.next 12 [(.atom 24)]))))))))
 (.both
 (.sem (.indexAddr 25 (.tmp 4) (.const (.int .i64 1))) 0 [(4, (.sc (.atom 10)))] (.sc (.ptr)) []
 (.load (.atom 23) [.int .i64]
 (.chk [] (.inSl (.atom 22) (.atom 24))
 (.load (.elt (.atom 22) (.atom 24) 1) [.sl]
 (.sem (.indexAddr 25 (.tmp 4) (.const (.int .i64 2))) 0 [(4, (.sc (.atom 10)))] (.sc (.ptr)) [((.elt (.atom 22) (.atom 24) 1), [(.atom 25)]), ((.atom 23), [(.atom 24)])]
 (.load (.atom 26) [.int .i64]
 (.call (.fn 7) [(.sc (.atom 25)), (.sc (.atom 27))] (.sc (.bool)) []
 (.next 11 [(.atom 28)]))))))))
 (.sem (.indexAddr 25 (.tmp 4) (.const (.int .i64 2))) 0 [(4, (.sc (.atom 10)))] (.sc (.ptr)) []
 (.load (.atom 23) [.int .i64]
 (.sem (.indexAddr 25 (.tmp 4) (.const (.int .i64 1))) 0 [(4, (.sc (.atom 10)))] (.sc (.ptr)) [((.atom 23), [(.atom 24)])]
 (.load (.atom 25) [.int .i64]
 (.chk [] (.inSl (.atom 22) (.atom 26))
 (.load (.elt (.atom 22) (.atom 26) 1) [.sl]
 (.call (.fn 7) [(.sc (.atom 27)), (.sc (.atom 24))] (.sc (.bool)) []
 (.next 11 [(.atom 28)])))))))))))))
 (.sem (.indexAddr 25 (.tmp 4) (.const (.int .i64 1))) 0 [(4, (.sc (.atom 10)))] (.sc (.ptr)) []
 (.load (.atom 21) [.int .i64]
 (.ite (.cmp .lss (.atom 22) (.int .i64 0))
 (.next 6 [(.bool true)])
 (.sem (.indexAddr 25 (.tmp 4) (.const (.int .i64 1))) 0 [(4, (.sc (.atom 10)))] (.sc (.ptr)) []
 (.load (.atom 23) [.int .i64]
 (.ite (.cmp .geq (.atom 24) (.len (.atom 20)))
 (.next 6 [(.bool true)])
 (.sem (.indexAddr 25 (.tmp 4) (.const (.int .i64 2))) 0 [(4, (.sc (.atom 10)))] (.sc (.ptr)) []
 (.load (.atom 25) [.int .i64]
 (.ite (.cmp .lss (.atom 26) (.int .i64 0))
 (.next 6 [(.bool true)])
 (.sem (.indexAddr 25 (.tmp 4) (.const (.int .i64 2))) 0 [(4, (.sc (.atom 10)))] (.sc (.ptr)) []
 (.load (.atom 27) [.int .i64]
 (.next 6 [(.cmp .geq (.atom 28) (.atom 19))]))))))))))))))))))))
 (.call (.fn 4) [] (.sc (.bool)) []
 (.ite (.not (.atom 13))
 (.next 3 [(.bool true)])
 (.load (.atom 9) [.sl]
 (.call (.fn 5) [(.ag [(.atom 14)])] (.sc (.int .i64)) []
 (.ite (.cmp .neq (.atom 15) (.int .i64 0))
 (.next 3 [(.bool true)])
 (.sem (.indexAddr 25 (.tmp 4) (.const (.int .i64 0))) 0 [(4, (.sc (.atom 10)))] (.sc (.ptr)) []
 (.load (.atom 16) [.int .i64]
 (.ite (.cmp .lss (.atom 17) (.int .i64 0))
 (.next 3 [(.bool true)])
 (.sem (.indexAddr 25 (.tmp 4) (.const (.int .i64 0))) 0 [(4, (.sc (.atom 10)))] (.sc (.ptr)) []
 (.load (.atom 18) [.int .i64]
 (.chk [] (.some (.atom 9))
 (.load (.padd (.atom 9) 0) [.sl]
 (.next 3 [(.cmp .geq (.atom 19) (.len (.atom 20)))]))))))))))))))
 (.both
 (.new 24 [(.nil 1)]
 (.both
 (.new 25 [(.int .i64 0), (.int .i64 0), (.int .i64 0)]
 (.new 28 [(.int .i64 0), (.int .i64 0), (.str []), (.nil 1)]
 (.store (.atom 9) [(.atom 0)]
 (.store (.atom 10) [(.atom 1), (.atom 2), (.atom 3)]
 (.store (.atom 11) [(.atom 4), (.atom 5), (.atom 6), (.atom 7)]
 (.next 1 [(.atom 9), (.atom 10), (.atom 11), (.atom 8)]))))))
 (.new 28 [(.int .i64 0), (.int .i64 0), (.str []), (.nil 1)]
 (.new 25 [(.int .i64 0), (.int .i64 0), (.int .i64 0)]
 (.store (.atom 9) [(.atom 0)]
 (.store (.atom 11) [(.atom 1), (.atom 2), (.atom 3)]
 (.store (.atom 10) [(.atom 4), (.atom 5), (.atom 6), (.atom 7)]
 (.next 1 [(.atom 9), (.atom 11), (.atom 10), (.atom 8)]))))))))
 (.both
 (.new 25 [(.int .i64 0), (.int .i64 0), (.int .i64 0)]
 (.both
 (.new 24 [(.nil 1)]
 (.new 28 [(.int .i64 0), (.int .i64 0), (.str []), (.nil 1)]
 (.store (.atom 10) [(.atom 0)]
 (.store (.atom 9) [(.atom 1), (.atom 2), (.atom 3)]
 (.store (.atom 11) [(.atom 4), (.atom 5), (.atom 6), (.atom 7)]
 (.next 1 [(.atom 10), (.atom 9), (.atom 11), (.atom 8)]))))))
 (.new 28 [(.int .i64 0), (.int .i64 0), (.str []), (.nil 1)]
 (.new 24 [(.nil 1)]
 (.store (.atom 11) [(.atom 0)]
 (.store (.atom 9) [(.atom 1), (.atom 2), (.atom 3)]
 (.store (.atom 10) [(.atom 4), (.atom 5), (.atom 6), (.atom 7)]
 (.next 1 [(.atom 11), (.atom 9), (.atom 10), (.atom 8)]))))))))
 (.new 28 [(.int .i64 0), (.int .i64 0), (.str []), (.nil 1)]
 (.both
 (.new 24 [(.nil 1)]
 (.new 25 [(.int .i64 0), (.int .i64 0), (.int .i64 0)]
 (.store (.atom 10) [(.atom 0)]
 (.store (.atom 11) [(.atom 1), (.atom 2), (.atom 3)]
 (.store (.atom 9) [(.atom 4), (.atom 5), (.atom 6), (.atom 7)]
 (.next 1 [(.atom 10), (.atom 11), (.atom 9), (.atom 8)]))))))
 (.new 25 [(.int .i64 0), (.int .i64 0), (.int .i64 0)]
 (.new 24 [(.nil 1)]
 (.store (.atom 11) [(.atom 0)]
 (.store (.atom 10) [(.atom 1), (.atom 2), (.atom 3)]
 (.store (.atom 9) [(.atom 4), (.atom 5), (.atom 6), (.atom 7)]
 (.next 1 [(.atom 11), (.atom 10), (.atom 9), (.atom 8)])))))))))))
theorem fm_scrimshawlaw17_LivingIdle_eq : execF Try.prog { pub := [3, 4, 5, 9], nojoin := false } Try.f3 = fm_scrimshawlaw17_LivingIdle := by kernel_rfl
theorem tri_scrimshawlaw17_LivingIdle : TriOf Try.prog 3 Try.f3 fm_scrimshawlaw17_LivingIdle := triOf Try.func3 fm_scrimshawlaw17_LivingIdle_eq

/-- scrimshaw/scrimshawref15.Check -/
abbrev n_scrimshawref15_Check : FuncId := 5
def fm_scrimshawref15_Check : Fm VE :=
 (.loop 4 [.int .i64, .int .i64, .int .i64] [(.int .i64 0), (.int .i64 0), (.int .i64 0)]
 (.ite (.cmp .lss (.atom 3) (.len (.atom 0)))
 (.chk [] (.inSl (.atom 0) (.atom 3))
 (.load (.elt (.atom 0) (.atom 3) 4) [.int .i64, .int .i64, .int .i64, .sl]
 (.ite (.cmp .gtr (.atom 6) (.int .i64 2000))
 (.leaf (.sc (.int .i64 151)))
 (.loop 12 [.int .i64, .int .i64, .int .i64] [(.atom 1), (.atom 2), (.int .i64 0)]
 (.ite (.pick (.cmp .lss (.atom 10) (.len (.atom 7))) (.cmp .leq (.atom 9) (.int .i64 4096)) (.bool false))
 (.chk [] (.inSl (.atom 7) (.atom 10))
 (.load (.padd (.elt (.atom 7) (.atom 10) 7) 0) [.sl]
 (.ite (.cmp .gtr (.len (.atom 11)) (.int .i64 4096))
 (.leaf (.sc (.int .i64 151)))
 (.load (.padd (.elt (.atom 7) (.atom 10) 7) 0) [.sl]
 (.next 12 [(.atom 8), (.ar .add .i64 (.ar .add .i64 (.atom 9) (.int .i64 1)) (.len (.atom 12))), (.ar .add .i64 (.atom 10) (.int .i64 1))])))))
 (.next 4 [(.atom 8), (.atom 9), (.ar .add .i64 (.atom 3) (.int .i64 1))]))))))
 (.ite (.pick (.cmp .gtr (.atom 2) (.int .i64 4096)) (.bool true) (.cmp .gtr (.len (.atom 0)) (.int .i64 300)))
 (.leaf (.sc (.int .i64 151)))
 (.join 10 [.bool]
 (.ite (.atom 4)
 (.leaf (.sc (.int .i64 150)))
 (.loop 13 [.int .i64, .int .i64] [(.atom 1), (.int .i64 0)]
 (.ite (.cmp .lss (.atom 6) (.len (.atom 0)))
 (.chk [] (.inSl (.atom 0) (.atom 6))
 (.load (.elt (.atom 0) (.atom 6) 4) [.int .i64, .int .i64, .int .i64, .sl]
 (.ite (.pick (.pick (.pick (.pick (.pick (.cmp .lss (.atom 7) (.int .i64 0)) (.bool true) (.cmp .gtr (.atom 7) (.int .i64 6))) (.bool true) (.cmp .lss (.atom 8) (.int .i64 0))) (.bool true) (.cmp .gtr (.atom 8) (.int .i64 1000))) (.bool true) (.cmp .lss (.atom 9) (.atom 7))) (.bool true) (.cmp .eql (.len (.atom 10)) (.int .i64 0)))
 (.leaf (.sc (.int .i64 150)))
 (.loop 21 [.int .i64, .int .i64] [(.atom 5), (.int .i64 0)]
 (.ite (.cmp .lss (.atom 12) (.len (.atom 10)))
 (.chk [] (.inSl (.atom 10) (.atom 12))
 (.load (.elt (.atom 10) (.atom 12) 7) [.sl, .int .i64, .int .i64, .sl, .int .i64, .int .i64, .int .i64]
 (.loop 28 [.int .i64, .int .i64] [(.atom 11), (.int .i64 0)]
 (.ite (.cmp .lss (.atom 21) (.len (.atom 13)))
 (.chk [] (.inSl (.atom 13) (.atom 21))
 (.load (.elt (.atom 13) (.atom 21) 8) [.str, .int .i64, .sl, .int .i64, .int .i64, .str, .sl, .int .i64]
 (.call (.fn 14) [(.ag [(.atom 0)]), (.ag [(.atom 7), (.atom 8), (.atom 9), (.atom 10)]), (.ag [(.atom 22), (.atom 23), (.atom 24), (.atom 25), (.atom 26), (.atom 27), (.atom 28), (.atom 29)])] (.sc (.bool)) []
 (.ite (.not (.atom 30))
 (.leaf (.sc (.int .i64 150)))
 (.next 28 [(.atom 20), (.ar .add .i64 (.atom 21) (.int .i64 1))])))))
 (.call (.fn 15) [(.ag [(.atom 7), (.atom 8), (.atom 9), (.atom 10)]), (.ag [(.atom 14), (.atom 15), (.atom 16), (.atom 17), (.atom 18), (.atom 19)])] (.sc (.bool)) []
 (.ite (.not (.atom 22))
 (.leaf (.sc (.int .i64 150)))
 (.next 21 [(.atom 20), (.ar .add .i64 (.atom 12) (.int .i64 1))])))))))
 (.next 13 [(.atom 11), (.ar .add .i64 (.atom 6) (.int .i64 1))]))))))
 (.leaf (.sc (.int .i64 0))))))
 (.chk [((.cmp .eql (.len (.atom 0)) (.int .i64 0)), false)] (.inSl (.atom 0) (.int .i64 0))
 (.chk [((.cmp .eql (.len (.atom 0)) (.int .i64 0)), false)] (.some (.elt (.atom 0) (.int .i64 0) 4))
 (.ite (.cmp .eql (.len (.atom 0)) (.int .i64 0))
 (.next 10 [(.bool true)])
 (.load (.padd (.elt (.atom 0) (.int .i64 0) 4) 0) [.int .i64]
 (.chk [((.cmp .neq (.atom 4) (.int .i64 0)), false)] (.inSl (.atom 0) (.int .i64 0))
 (.chk [((.cmp .neq (.atom 4) (.int .i64 0)), false)] (.some (.elt (.atom 0) (.int .i64 0) 4))
 (.ite (.cmp .neq (.atom 4) (.int .i64 0))
 (.next 10 [(.bool true)])
 (.load (.padd (.elt (.atom 0) (.int .i64 0) 4) 1) [.int .i64]
 (.next 10 [(.cmp .neq (.atom 5) (.int .i64 0))])))))))))))))
theorem fm_scrimshawref15_Check_eq : execF Try.prog { pub := [], nojoin := false } Try.f5 = fm_scrimshawref15_Check := by kernel_rfl
theorem cb_scrimshawref15_Check : callB Try.prog 5 = true := by kernel_rfl
theorem tri_scrimshawref15_Check : TriOf Try.prog 5 Try.f5 fm_scrimshawref15_Check := triOf Try.func5 fm_scrimshawref15_Check_eq

/-- scrimshaw/scrimshawref15.Run -/
abbrev n_scrimshawref15_Run : FuncId := 8
def fm_scrimshawref15_Run : Fm VE :=
 (.ite (.pick (.cmp .lss (.atom 2) (.int .i64 0)) (.bool true) (.cmp .gtr (.atom 2) (.int .i64 1000000)))
 (.leaf (.ag [(.int .i64 1), (.str []), (.int .i64 0), (.int .i64 0), (.str []), (.nil 1), (.bool false), (.int .i64 0)]))
 (.call (.fn 5) [(.ag [(.atom 0)])] (.sc (.int .i64)) []
 (.ite (.cmp .neq (.atom 3) (.int .i64 0))
 (.leaf (.ag [(.atom 3), (.str []), (.int .i64 0), (.int .i64 0), (.str []), (.nil 1), (.bool false), (.int .i64 0)]))
 (.new 71 [(.nil 1)]
 (.new 78 [(.atom 0), (.atom 4), (.nil 1), (.nil 1), (.atom 1), (.nil 1), (.int .i64 4), (.int .i64 0), (.str []), (.int .i64 0), (.int .i64 0), (.str []), (.bool false), (.int .i64 0)]
 (.call (.fn 19) [(.sc (.atom 5)), (.ag [(.int .i64 0), (.int .i64 0), (.nil 1), (.bool false), (.nil 1)])] (.ag [.int .i64, .int .i64, .str]) []
 (.call (.fn 18) [(.sc (.atom 5)), (.ag [(.atom 6), (.atom 7), (.atom 8)]), (.sc (.nil 1)), (.sc (.bool true))] (.tu []) []
 (.join 9 [.int .i64]
 (.join 10 [.ptr]
 (.join 11 []
 (.load (.atom 10) [.int .i64, .str, .int .i64, .int .i64, .str, .sl, .bool, .int .i64]
 (.leaf (.ag [(.atom 11), (.atom 12), (.atom 13), (.atom 14), (.atom 15), (.atom 16), (.atom 17), (.atom 18)])))
 (.chk [] (.some (.atom 5))
 (.load (.padd (.atom 5) 13) [.int .i64]
 (.ite (.cmp .eql (.atom 11) (.int .i64 0))
 (.load (.padd (.atom 5) 1) [.ptr]
 (.load (.padd (.atom 5) 9) [.int .i64, .int .i64, .str]
 (.call (.fn 22) [(.sc (.atom 12)), (.ag [(.atom 13), (.atom 14), (.atom 15)])] (.tu [(true, [.int .i64, .int .i64, .str, .sl]), (false, [.bool])]) []
 (.chk [] (.some (.atom 10))
 (.store (.padd (.atom 10) 2) [(.atom 16), (.atom 17), (.atom 18), (.atom 19)]
 (.store (.padd (.atom 10) 6) [(.atom 20)]
 (.next 11 [])))))))
 (.next 11 [])))))
 (.chk [] (.some (.atom 5))
 (.load (.padd (.atom 5) 13) [.int .i64]
 (.load (.padd (.atom 5) 5) [.sl]
 (.both
 (.sem (.convert 76 9 (.tmp 121)) 9 [(121, (.sc (.atom 11)))] (.sc (.str)) [((.padd (.atom 5) 13), [(.atom 10)])]
 (.new 49 [(.int .i64 0), (.str []), (.int .i64 0), (.int .i64 0), (.str []), (.nil 1), (.bool false), (.int .i64 0)]
 (.store (.atom 13) [(.atom 10), (.atom 12), (.int .i64 0), (.int .i64 0), (.str []), (.nil 1), (.bool false), (.atom 9)]
 (.next 10 [(.atom 13)]))))
 (.new 49 [(.int .i64 0), (.str []), (.int .i64 0), (.int .i64 0), (.str []), (.nil 1), (.bool false), (.int .i64 0)]
 (.sem (.convert 76 9 (.tmp 121)) 9 [(121, (.sc (.atom 11)))] (.sc (.str)) [((.padd (.atom 5) 13), [(.atom 10)])]
 (.store (.atom 12) [(.atom 10), (.atom 13), (.int .i64 0), (.int .i64 0), (.str []), (.nil 1), (.bool false), (.atom 9)]
 (.next 10 [(.atom 12)])))))))))
 (.loop 10 [.int .i64] [(.int .i64 0)]
 (.join 12 [.bool]
 (.ite (.atom 10)
 (.ite (.cmp .eql (.atom 9) (.atom 2))
 (.chk [] (.some (.atom 5))
 (.store (.padd (.atom 5) 13) [(.int .i64 93)]
 (.next 9 [(.atom 9)])))
 (.chk [] (.some (.atom 5))
 (.load (.padd (.atom 5) 3) [.sl]
 (.load (.padd (.atom 5) 3) [.sl]
 (.chk [] (.inSl (.atom 11) (.ar .sub .i64 (.len (.atom 12)) (.int .i64 1)))
 (.load (.padd (.elt (.atom 11) (.ar .sub .i64 (.len (.atom 12)) (.int .i64 1)) 6) 0) [.int .i64]
 (.chk [] (.inSl (.atom 0) (.atom 13))
 (.load (.padd (.elt (.atom 0) (.atom 13) 4) 3) [.sl]
 (.load (.padd (.elt (.atom 11) (.ar .sub .i64 (.len (.atom 12)) (.int .i64 1)) 6) 3) [.int .i64]
 (.chk [] (.inSl (.atom 14) (.atom 15))
 (.load (.elt (.atom 14) (.atom 15) 7) [.sl, .int .i64, .int .i64, .sl, .int .i64, .int .i64, .int .i64]
 (.load (.padd (.elt (.atom 11) (.ar .sub .i64 (.len (.atom 12)) (.int .i64 1)) 6) 4) [.int .i64]
 (.ite (.cmp .lss (.atom 23) (.len (.atom 16)))
 (.load (.padd (.elt (.atom 11) (.ar .sub .i64 (.len (.atom 12)) (.int .i64 1)) 6) 4) [.int .i64]
 (.store (.padd (.elt (.atom 11) (.ar .sub .i64 (.len (.atom 12)) (.int .i64 1)) 6) 4) [(.ar .add .i64 (.atom 24) (.int .i64 1))]
 (.load (.padd (.elt (.atom 11) (.ar .sub .i64 (.len (.atom 12)) (.int .i64 1)) 6) 4) [.int .i64]
 (.chk [] (.inSl (.atom 16) (.ar .sub .i64 (.atom 25) (.int .i64 1)))
 (.load (.elt (.atom 16) (.ar .sub .i64 (.atom 25) (.int .i64 1)) 8) [.str, .int .i64, .sl, .int .i64, .int .i64, .str, .sl, .int .i64]
 (.call (.fn 20) [(.sc (.atom 5)), (.ag [(.atom 26), (.atom 27), (.atom 28), (.atom 29), (.atom 30), (.atom 31), (.atom 32), (.atom 33)])] (.tu []) []
 (.next 10 [(.ar .add .i64 (.atom 9) (.int .i64 1))])))))))
 (.call (.fn 21) [(.sc (.atom 5)), (.ag [(.atom 17), (.atom 18), (.atom 19), (.atom 20), (.atom 21), (.atom 22)])] (.tu []) []
 (.next 10 [(.ar .add .i64 (.atom 9) (.int .i64 1))])))))))))))))))
 (.next 9 [(.atom 9)]))
 (.chk [] (.some (.atom 5))
 (.load (.padd (.atom 5) 13) [.int .i64]
 (.ite (.cmp .eql (.atom 10) (.int .i64 0))
 (.load (.padd (.atom 5) 12) [.bool]
 (.next 12 [(.not (.atom 11))]))
 (.next 12 [(.bool false)]))))))))))))))
theorem fm_scrimshawref15_Run_eq : execF Try.prog { pub := [12, 28, 32], nojoin := false } Try.f8 = fm_scrimshawref15_Run := by kernel_rfl
theorem cb_scrimshawref15_Run : callB Try.prog 8 = true := by kernel_rfl
theorem tri_scrimshawref15_Run : TriOf Try.prog 8 Try.f8 fm_scrimshawref15_Run := triOf Try.func8 fm_scrimshawref15_Run_eq

/-- scrimshaw/scrimshawref09.Alike -/
abbrev n_scrimshawref09_Alike : FuncId := 9
def fm_scrimshawref09_Alike : Fm VE :=
 (.join 1 [.bool]
 (.leaf (.sc (.atom 16)))
 (.ite (.pick (.pick (.cmp .eql (.atom 0) (.atom 8)) (.scmp .eql (.atom 1) (.atom 9)) (.bool false)) (.beq (.atom 6) (.atom 14)) (.bool false))
 (.call (.fn 23) [(.ag [(.atom 2), (.atom 3), (.atom 4), (.atom 5)]), (.ag [(.atom 10), (.atom 11), (.atom 12), (.atom 13)])] (.sc (.bool)) []
 (.next 1 [(.atom 16)]))
 (.next 1 [(.bool false)])))
theorem fm_scrimshawref09_Alike_eq : execF Try.prog { pub := [], nojoin := false } Try.f9 = fm_scrimshawref09_Alike := by kernel_rfl
theorem cb_scrimshawref09_Alike : callB Try.prog 9 = true := by kernel_rfl
theorem tri_scrimshawref09_Alike : TriOf Try.prog 9 Try.f9 fm_scrimshawref09_Alike := triOf Try.func9 fm_scrimshawref09_Alike_eq

/-- scrimshaw/scrimshawref15.ins -/
abbrev n_scrimshawref15_ins : FuncId := 14
def fm_scrimshawref15_ins : Fm VE :=
 (.join 2 [.bool]
 (.ite (.atom 13)
 (.leaf (.sc (.bool false)))
 (.call (.fn 23) [(.ag [(.atom 8), (.atom 9), (.atom 10), (.atom 11)]), (.ag [(.int .i64 0), (.int .i64 0), (.str []), (.nil 1)])] (.sc (.bool)) []
 (.ite (.scmp .eql (.atom 5) (.str [99, 111, 110, 115, 116]))
 (.join 8 [.bool]
 (.leaf (.sc (.atom 15)))
 (.ite (.pick (.cmp .eql (.len (.atom 7)) (.int .i64 0)) (.cmp .eql (.atom 12) (.int .i64 0)) (.bool false))
 (.call (.fn 31) [(.ag [(.atom 8), (.atom 9), (.atom 10), (.atom 11)])] (.sc (.bool)) []
 (.next 8 [(.atom 15)]))
 (.next 8 [(.bool false)])))
 (.ite (.scmp .eql (.atom 5) (.str [109, 111, 118, 101]))
 (.leaf (.sc (.pick (.pick (.cmp .eql (.len (.atom 7)) (.int .i64 1)) (.cmp .eql (.atom 12) (.int .i64 0)) (.bool false)) (.atom 14) (.bool false))))
 (.ite (.scmp .eql (.atom 5) (.str [104, 101, 108, 100]))
 (.leaf (.sc (.pick (.pick (.pick (.cmp .eql (.len (.atom 7)) (.int .i64 0)) (.cmp .geq (.atom 12) (.int .i64 0)) (.bool false)) (.cmp .lss (.atom 12) (.atom 2)) (.bool false)) (.atom 14) (.bool false))))
 (.ite (.scmp .eql (.atom 5) (.str [99, 108, 111, 115, 117, 114, 101]))
 (.join 11 [.bool]
 (.leaf (.sc (.atom 15)))
 (.chk [((.pick (.cmp .geq (.atom 12) (.int .i64 1)) (.cmp .lss (.atom 12) (.len (.atom 0))) (.bool false)), true)] (.inSl (.atom 0) (.atom 12))
 (.chk [((.pick (.cmp .geq (.atom 12) (.int .i64 1)) (.cmp .lss (.atom 12) (.len (.atom 0))) (.bool false)), true)] (.some (.elt (.atom 0) (.atom 12) 4))
 (.ite (.pick (.cmp .geq (.atom 12) (.int .i64 1)) (.cmp .lss (.atom 12) (.len (.atom 0))) (.bool false))
 (.load (.padd (.elt (.atom 0) (.atom 12) 4) 1) [.int .i64]
 (.next 11 [(.pick (.cmp .eql (.len (.atom 7)) (.atom 15)) (.atom 14) (.bool false))]))
 (.next 11 [(.bool false)])))))
 (.ite (.scmp .eql (.atom 5) (.str [116, 105, 101]))
 (.leaf (.sc (.pick (.pick (.pick (.cmp .eql (.len (.atom 7)) (.int .i64 2)) (.cmp .geq (.atom 12) (.int .i64 0)) (.bool false)) (.cmp .eql (.atom 6) (.int .i64 0)) (.bool false)) (.atom 14) (.bool false))))
 (.ite (.scmp .eql (.atom 5) (.str [37, 99, 97, 108, 108, 99, 99]))
 (.leaf (.sc (.bool false)))
 (.call (.fn 32) [(.sc (.atom 5))] (.sc (.int .i64)) []
 (.leaf (.sc (.pick (.pick (.cmp .eql (.atom 15) (.len (.atom 7))) (.cmp .eql (.atom 12) (.int .i64 0)) (.bool false)) (.atom 14) (.bool false)))))))))))))
 (.call (.fn 30) [(.ag [(.atom 1), (.atom 2), (.atom 3), (.atom 4)]), (.sc (.atom 7))] (.sc (.bool)) []
 (.ite (.not (.atom 13))
 (.next 2 [(.bool true)])
 (.sem (.buildSlice 40 1 #[(0, (.tmp 17))]) 40 [(17, (.sc (.atom 6)))] (.sc (.sl)) []
 (.call (.fn 30) [(.ag [(.atom 1), (.atom 2), (.atom 3), (.atom 4)]), (.sc (.atom 14))] (.sc (.bool)) []
 (.next 2 [(.pick (.not (.atom 15)) (.scmp .neq (.atom 5) (.str [116, 105, 101])) (.bool false))]))))))
theorem fm_scrimshawref15_ins_eq : execF Try.prog { pub := [], nojoin := false } Try.f14 = fm_scrimshawref15_ins := by kernel_rfl
theorem cb_scrimshawref15_ins : callB Try.prog 14 = true := by kernel_rfl
theorem tri_scrimshawref15_ins : TriOf Try.prog 14 Try.f14 fm_scrimshawref15_ins := triOf Try.func14 fm_scrimshawref15_ins_eq

/-- scrimshaw/scrimshawref15.end -/
abbrev n_scrimshawref15_end : FuncId := 15
def fm_scrimshawref15_end : Fm VE :=
 (.sem (.buildSlice 40 1 #[(0, (.tmp 13))]) 40 [(13, (.sc (.atom 5)))] (.sc (.sl)) []
 (.call (.fn 30) [(.ag [(.atom 0), (.atom 1), (.atom 2), (.atom 3)]), (.sc (.atom 10))] (.sc (.bool)) []
 (.sem (.buildSlice 40 1 #[(0, (.tmp 18))]) 40 [(18, (.sc (.atom 7)))] (.sc (.sl)) []
 (.call (.fn 30) [(.ag [(.atom 0), (.atom 1), (.atom 2), (.atom 3)]), (.sc (.atom 12))] (.sc (.bool)) []
 (.call (.fn 30) [(.ag [(.atom 0), (.atom 1), (.atom 2), (.atom 3)]), (.sc (.atom 6))] (.sc (.bool)) []
 (.ite (.cmp .eql (.atom 4) (.int .i64 0))
 (.leaf (.sc (.pick (.pick (.pick (.pick (.pick (.cmp .geq (.atom 8) (.int .i64 0)) (.cmp .lss (.atom 8) (.len (.atom 3))) (.bool false)) (.cmp .eql (.len (.atom 6)) (.int .i64 0)) (.bool false)) (.cmp .eql (.atom 5) (.int .i64 0)) (.bool false)) (.cmp .eql (.atom 7) (.int .i64 0)) (.bool false)) (.cmp .eql (.atom 9) (.int .i64 0)) (.bool false))))
 (.ite (.cmp .eql (.atom 4) (.int .i64 1))
 (.leaf (.sc (.pick (.pick (.pick (.pick (.pick (.cmp .geq (.atom 8) (.int .i64 0)) (.cmp .lss (.atom 8) (.len (.atom 3))) (.bool false)) (.pick (.cmp .geq (.atom 9) (.int .i64 0)) (.cmp .lss (.atom 9) (.len (.atom 3))) (.bool false)) (.bool false)) (.cmp .eql (.len (.atom 6)) (.int .i64 0)) (.bool false)) (.atom 11) (.bool false)) (.cmp .eql (.atom 7) (.int .i64 0)) (.bool false))))
 (.ite (.pick (.cmp .eql (.atom 4) (.int .i64 2)) (.cmp .eql (.atom 4) (.int .i64 2)) (.cmp .eql (.atom 4) (.int .i64 5)))
 (.leaf (.sc (.pick (.pick (.pick (.pick (.atom 11) (.cmp .eql (.len (.atom 6)) (.int .i64 0)) (.bool false)) (.cmp .eql (.atom 7) (.int .i64 0)) (.bool false)) (.cmp .eql (.atom 8) (.int .i64 0)) (.bool false)) (.cmp .eql (.atom 9) (.int .i64 0)) (.bool false))))
 (.ite (.cmp .eql (.atom 4) (.int .i64 3))
 (.leaf (.sc (.pick (.pick (.pick (.pick (.atom 11) (.pick (.atom 14) (.cmp .leq (.len (.atom 6)) (.int .i64 6)) (.bool false)) (.bool false)) (.cmp .eql (.atom 7) (.int .i64 0)) (.bool false)) (.cmp .eql (.atom 8) (.int .i64 0)) (.bool false)) (.cmp .eql (.atom 9) (.int .i64 0)) (.bool false))))
 (.ite (.cmp .eql (.atom 4) (.int .i64 4))
 (.leaf (.sc (.pick (.pick (.pick (.pick (.atom 11) (.pick (.atom 14) (.cmp .leq (.len (.atom 6)) (.int .i64 6)) (.bool false)) (.bool false)) (.atom 13) (.bool false)) (.pick (.cmp .geq (.atom 8) (.int .i64 0)) (.cmp .lss (.atom 8) (.len (.atom 3))) (.bool false)) (.bool false)) (.cmp .eql (.atom 9) (.int .i64 0)) (.bool false))))
 (.ite (.cmp .eql (.atom 4) (.int .i64 6))
 (.leaf (.sc (.pick (.pick (.pick (.pick (.atom 11) (.cmp .eql (.len (.atom 6)) (.int .i64 0)) (.bool false)) (.atom 13) (.bool false)) (.pick (.cmp .geq (.atom 8) (.int .i64 0)) (.cmp .lss (.atom 8) (.len (.atom 3))) (.bool false)) (.bool false)) (.cmp .eql (.atom 9) (.int .i64 0)) (.bool false))))
 (.leaf (.sc (.bool false))))))))))))))
theorem fm_scrimshawref15_end_eq : execF Try.prog { pub := [], nojoin := false } Try.f15 = fm_scrimshawref15_end := by kernel_rfl
theorem cb_scrimshawref15_end : callB Try.prog 15 = true := by kernel_rfl
theorem tri_scrimshawref15_end : TriOf Try.prog 15 Try.f15 fm_scrimshawref15_end := triOf Try.func15 fm_scrimshawref15_end_eq

/-- (*scrimshaw/scrimshawref15.Machine).call -/
abbrev n_scrimshawref15_Machine__call : FuncId := 18
def fm_scrimshawref15_Machine__call : Fm VE :=
 (.call (.fn 34) [(.sc (.atom 0)), (.ag [(.atom 1), (.atom 2), (.atom 3)])] (.sc (.int .i64)) []
 (.ite (.cmp .lss (.atom 6) (.int .i64 0))
 (.chk [] (.some (.atom 0))
 (.store (.padd (.atom 0) 13) [(.int .i64 90)]
 (.leaf (.tu []))))
 (.chk [] (.some (.atom 0))
 (.load (.padd (.atom 0) 2) [.sl]
 (.chk [] (.inSl (.atom 7) (.atom 6))
 (.load (.elt (.atom 7) (.atom 6) 5) [.int .i64, .int .i64, .sl, .bool, .sl]
 (.ite (.atom 11)
 (.ite (.cmp .neq (.len (.atom 4)) (.int .i64 1))
 (.store (.padd (.atom 0) 13) [(.int .i64 91)]
 (.leaf (.tu [])))
 (.call (.fn 35) [(.sc (.atom 12))] (.sc (.sl)) []
 (.store (.padd (.atom 0) 3) [(.atom 13)]
 (.chk [] (.inSl (.atom 4) (.int .i64 0))
 (.load (.elt (.atom 4) (.int .i64 0) 3) [.int .i64, .int .i64, .str]
 (.call (.fn 36) [(.sc (.atom 0)), (.ag [(.atom 14), (.atom 15), (.atom 16)])] (.tu []) []
 (.leaf (.tu []))))))))
 (.load (.padd (.padd (.atom 0) 0) 0) [.sl]
 (.chk [] (.inSl (.atom 13) (.atom 9))
 (.load (.elt (.atom 13) (.atom 9) 4) [.int .i64, .int .i64, .int .i64, .sl]
 (.ite (.cmp .neq (.len (.atom 4)) (.atom 14))
 (.store (.padd (.atom 0) 13) [(.int .i64 91)]
 (.leaf (.tu [])))
 (.loop 13 [.int .i64, .int .i64, .sl, .int .i64, .int .i64, .int .i64, .int .i64] [(.int .i64 0), (.atom 9), (.nil 1), (.atom 6), (.int .i64 0), (.int .i64 0), (.int .i64 0)]
 (.ite (.cmp .lss (.atom 18) (.atom 16))
 (.join 18 [.int .i64, .int .i64, .str]
 (.sem (.buildSlice 81 1 #[(0, (.tmp 86))]) 81 [(86, (.ag [(.atom 25), (.atom 26), (.atom 27)]))] (.sc (.sl)) []
 (.sem (.call ⟨.builtin .append, #[(.tmp 85), (.tmp 87)], #[81, 81]⟩) 81 [(85, (.sc (.atom 20))), (87, (.sc (.atom 28)))] (.sc (.sl)) []
 (.next 13 [(.ar .add .i64 (.atom 18) (.int .i64 1)), (.atom 19), (.atom 29), (.atom 21), (.atom 22), (.atom 23), (.atom 24)])))
 (.ite (.cmp .lss (.atom 18) (.len (.atom 4)))
 (.chk [] (.inSl (.atom 4) (.atom 18))
 (.load (.elt (.atom 4) (.atom 18) 3) [.int .i64, .int .i64, .str]
 (.next 18 [(.atom 25), (.atom 26), (.atom 27)])))
 (.next 18 [(.int .i64 7), (.int .i64 0), (.str [])])))
 (.join 16 []
 (.load (.padd (.atom 0) 3) [.sl]
 (.sem (.buildSlice 75 1 #[(0, (.tmp 111))]) 75 [(111, (.ag [(.atom 19), (.atom 20), (.atom 21), (.atom 22), (.atom 23), (.atom 24)]))] (.sc (.sl)) [((.padd (.atom 0) 3), [(.atom 25)])]
 (.sem (.call ⟨.builtin .append, #[(.tmp 110), (.tmp 112)], #[75, 75]⟩) 75 [(110, (.sc (.atom 25))), (112, (.sc (.atom 26)))] (.sc (.sl)) []
 (.store (.padd (.atom 0) 3) [(.atom 27)]
 (.leaf (.tu []))))))
 (.ite (.not (.atom 5))
 (.load (.padd (.atom 0) 3) [.sl]
 (.load (.padd (.atom 0) 3) [.sl]
 (.chk [] (.sub (.cap (.atom 25)) (.int .i64 0) (.ar .sub .i64 (.len (.atom 26)) (.int .i64 1)))
 (.store (.padd (.atom 0) 3) [(.sls (.atom 25) (.int .i64 0) (.ar .sub .i64 (.len (.atom 26)) (.int .i64 1)) 6)]
 (.next 16 [])))))
 (.next 16 []))))))))))))))))
theorem fm_scrimshawref15_Machine__call_eq : execF Try.prog { pub := [], nojoin := false } Try.f18 = fm_scrimshawref15_Machine__call := by kernel_rfl
theorem cb_scrimshawref15_Machine__call : callB Try.prog 18 = true := by kernel_rfl
theorem tri_scrimshawref15_Machine__call : TriOf Try.prog 18 Try.f18 fm_scrimshawref15_Machine__call := triOf Try.func18 fm_scrimshawref15_Machine__call_eq

/-- (*scrimshaw/scrimshawref15.Machine).made -/
abbrev n_scrimshawref15_Machine__made : FuncId := 19
def fm_scrimshawref15_Machine__made : Fm VE :=
 (.chk [] (.some (.atom 0))
 (.load (.padd (.atom 0) 1) [.ptr]
 (.call (.fn 37) [(.sc (.atom 6)), (.sc (.int .i64 4)), (.sc (.nil 1))] (.tu [(true, [.int .i64, .int .i64, .str]), (false, [.int .i64])]) []
 (.load (.padd (.atom 0) 2) [.sl]
 (.sem (.buildSlice 74 1 #[(0, (.tmp 23))]) 74 [(23, (.ag [(.atom 8), (.atom 2), (.atom 3), (.atom 4), (.atom 5)]))] (.sc (.sl)) [((.padd (.atom 0) 2), [(.atom 11)])]
 (.sem (.call ⟨.builtin .append, #[(.tmp 22), (.tmp 24)], #[74, 74]⟩) 74 [(22, (.sc (.atom 11))), (24, (.sc (.atom 12)))] (.sc (.sl)) []
 (.store (.padd (.atom 0) 2) [(.atom 13)]
 (.leaf (.ag [(.atom 7), (.atom 8), (.atom 9)])))))))))
theorem fm_scrimshawref15_Machine__made_eq : execF Try.prog { pub := [], nojoin := false } Try.f19 = fm_scrimshawref15_Machine__made := by kernel_rfl
theorem cb_scrimshawref15_Machine__made : callB Try.prog 19 = true := by kernel_rfl
theorem tri_scrimshawref15_Machine__made : TriOf Try.prog 19 Try.f19 fm_scrimshawref15_Machine__made := triOf Try.func19 fm_scrimshawref15_Machine__made_eq

/-- (*scrimshaw/scrimshawref15.Machine).do -/
abbrev n_scrimshawref15_Machine__do : FuncId := 20
def fm_scrimshawref15_Machine__do : Fm VE :=
 (.chk [] (.some (.atom 0))
 (.load (.padd (.atom 0) 3) [.sl]
 (.load (.padd (.atom 0) 3) [.sl]
 (.chk [] (.inSl (.atom 9) (.ar .sub .i64 (.len (.atom 10)) (.int .i64 1)))
 (.sem (.buildSlice 81 0 #[]) 81 [] (.sc (.sl)) []
 (.loop 5 [.sl, .int .i64] [(.atom 11), (.int .i64 0)]
 (.ite (.cmp .lss (.atom 13) (.len (.atom 3)))
 (.load (.padd (.elt (.atom 9) (.ar .sub .i64 (.len (.atom 10)) (.int .i64 1)) 6) 1) [.sl]
 (.chk [] (.inSl (.atom 3) (.atom 13))
 (.load (.elt (.atom 3) (.atom 13) 1) [.int .i64]
 (.chk [] (.inSl (.atom 14) (.atom 15))
 (.load (.elt (.atom 14) (.atom 15) 3) [.int .i64, .int .i64, .str]
 (.sem (.buildSlice 81 1 #[(0, (.tmp 39))]) 81 [(39, (.ag [(.atom 16), (.atom 17), (.atom 18)]))] (.sc (.sl)) []
 (.sem (.call ⟨.builtin .append, #[(.tmp 28), (.tmp 40)], #[81, 81]⟩) 81 [(28, (.sc (.atom 12))), (40, (.sc (.atom 19)))] (.sc (.sl)) []
 (.next 5 [(.atom 20), (.ar .add .i64 (.atom 13) (.int .i64 1))]))))))))
 (.join 9 [.int .i64, .int .i64, .str]
 (.load (.padd (.atom 0) 13) [.int .i64]
 (.ite (.cmp .eql (.atom 17) (.int .i64 0))
 (.load (.padd (.elt (.atom 9) (.ar .sub .i64 (.len (.atom 10)) (.int .i64 1)) 6) 1) [.sl]
 (.chk [] (.inSl (.atom 18) (.atom 2))
 (.store (.elt (.atom 18) (.atom 2) 3) [(.atom 14), (.atom 15), (.atom 16)]
 (.leaf (.tu [])))))
 (.leaf (.tu []))))
 (.ite (.scmp .eql (.atom 1) (.str [99, 111, 110, 115, 116]))
 (.call (.fn 38) [(.ag [(.atom 4), (.atom 5), (.atom 6), (.atom 7)])] (.tu [(true, [.int .i64, .int .i64, .str]), (false, [.bool])]) []
 (.next 9 [(.atom 14), (.atom 15), (.atom 16)]))
 (.ite (.scmp .eql (.atom 1) (.str [109, 111, 118, 101]))
 (.chk [] (.inSl (.atom 12) (.int .i64 0))
 (.load (.elt (.atom 12) (.int .i64 0) 3) [.int .i64, .int .i64, .str]
 (.next 9 [(.atom 14), (.atom 15), (.atom 16)])))
 (.ite (.scmp .eql (.atom 1) (.str [104, 101, 108, 100]))
 (.load (.padd (.atom 0) 2) [.sl]
 (.load (.padd (.elt (.atom 9) (.ar .sub .i64 (.len (.atom 10)) (.int .i64 1)) 6) 2) [.int .i64]
 (.chk [] (.inSl (.atom 14) (.atom 15))
 (.load (.padd (.elt (.atom 14) (.atom 15) 5) 2) [.sl]
 (.chk [] (.inSl (.atom 16) (.atom 8))
 (.load (.elt (.atom 16) (.atom 8) 3) [.int .i64, .int .i64, .str]
 (.next 9 [(.atom 17), (.atom 18), (.atom 19)])))))))
 (.ite (.scmp .eql (.atom 1) (.str [99, 108, 111, 115, 117, 114, 101]))
 (.call (.fn 19) [(.sc (.atom 0)), (.ag [(.int .i64 0), (.atom 8), (.atom 12), (.bool false), (.nil 1)])] (.ag [.int .i64, .int .i64, .str]) []
 (.next 9 [(.atom 14), (.atom 15), (.atom 16)]))
 (.ite (.scmp .eql (.atom 1) (.str [116, 105, 101]))
 (.chk [] (.inSl (.atom 12) (.int .i64 0))
 (.load (.elt (.atom 12) (.int .i64 0) 3) [.int .i64, .int .i64, .str]
 (.call (.fn 34) [(.sc (.atom 0)), (.ag [(.atom 14), (.atom 15), (.atom 16)])] (.sc (.int .i64)) []
 (.join 18 [.bool]
 (.ite (.atom 18)
 (.store (.padd (.atom 0) 13) [(.int .i64 80)]
 (.leaf (.tu [])))
 (.load (.padd (.atom 0) 2) [.sl]
 (.chk [] (.inSl (.atom 19) (.atom 17))
 (.load (.padd (.elt (.atom 19) (.atom 17) 5) 2) [.sl]
 (.chk [] (.inSl (.atom 12) (.int .i64 1))
 (.load (.elt (.atom 12) (.int .i64 1) 3) [.int .i64, .int .i64, .str]
 (.chk [] (.inSl (.atom 20) (.atom 8))
 (.store (.elt (.atom 20) (.atom 8) 3) [(.atom 21), (.atom 22), (.atom 23)]
 (.leaf (.tu []))))))))))
 (.ite (.cmp .lss (.atom 17) (.int .i64 0))
 (.next 18 [(.bool true)])
 (.load (.padd (.atom 0) 2) [.sl]
 (.chk [] (.inSl (.atom 18) (.atom 17))
 (.load (.padd (.elt (.atom 18) (.atom 17) 5) 2) [.sl]
 (.next 18 [(.cmp .geq (.atom 8) (.len (.atom 19)))])))))))))
 (.call (.fn 39) [(.sc (.atom 0)), (.sc (.atom 1)), (.sc (.atom 12))] (.ag [.int .i64, .int .i64, .str]) []
 (.next 9 [(.atom 14), (.atom 15), (.atom 16)])))))))))))))))
theorem fm_scrimshawref15_Machine__do_eq : execF Try.prog { pub := [], nojoin := false } Try.f20 = fm_scrimshawref15_Machine__do := by kernel_rfl
theorem cb_scrimshawref15_Machine__do : callB Try.prog 20 = true := by kernel_rfl
theorem tri_scrimshawref15_Machine__do : TriOf Try.prog 20 Try.f20 fm_scrimshawref15_Machine__do := triOf Try.func20 fm_scrimshawref15_Machine__do_eq

/-- (*scrimshaw/scrimshawref15.Machine).end -/
abbrev n_scrimshawref15_Machine__end : FuncId := 21
def fm_scrimshawref15_Machine__end : Fm VE :=
 (.chk [] (.some (.atom 0))
 (.load (.padd (.atom 0) 3) [.sl]
 (.load (.padd (.atom 0) 3) [.sl]
 (.chk [] (.inSl (.atom 8) (.ar .sub .i64 (.len (.atom 7)) (.int .i64 1)))
 (.load (.elt (.atom 8) (.ar .sub .i64 (.len (.atom 7)) (.int .i64 1)) 6) [.int .i64, .sl, .int .i64, .int .i64, .int .i64, .int .i64]
 (.sem (.buildSlice 81 0 #[]) 81 [] (.sc (.sl)) []
 (.loop 6 [.sl, .int .i64] [(.atom 15), (.int .i64 0)]
 (.ite (.cmp .lss (.atom 17) (.len (.atom 3)))
 (.chk [] (.inSl (.atom 3) (.atom 17))
 (.load (.elt (.atom 3) (.atom 17) 1) [.int .i64]
 (.chk [] (.inSl (.atom 10) (.atom 18))
 (.load (.elt (.atom 10) (.atom 18) 3) [.int .i64, .int .i64, .str]
 (.sem (.buildSlice 81 1 #[(0, (.tmp 41))]) 81 [(41, (.ag [(.atom 19), (.atom 20), (.atom 21)]))] (.sc (.sl)) []
 (.sem (.call ⟨.builtin .append, #[(.tmp 32), (.tmp 42)], #[81, 81]⟩) 81 [(32, (.sc (.atom 16))), (42, (.sc (.atom 22)))] (.sc (.sl)) []
 (.next 6 [(.atom 23), (.ar .add .i64 (.atom 17) (.int .i64 1))])))))))
 (.join 10 [.int .i64, .int .i64, .str]
 (.load (.padd (.atom 0) 3) [.sl]
 (.chk [] (.inSl (.atom 21) (.ar .sub .i64 (.len (.atom 7)) (.int .i64 1)))
 (.store (.padd (.elt (.atom 21) (.ar .sub .i64 (.len (.atom 7)) (.int .i64 1)) 6) 4) [(.int .i64 0)]
 (.load (.padd (.atom 0) 3) [.sl]
 (.chk [] (.inSl (.atom 22) (.ar .sub .i64 (.len (.atom 7)) (.int .i64 1)))
 (.store (.padd (.elt (.atom 22) (.ar .sub .i64 (.len (.atom 7)) (.int .i64 1)) 6) 3) [(.atom 5)]
 (.load (.padd (.atom 0) 3) [.sl]
 (.chk [] (.inSl (.atom 23) (.ar .sub .i64 (.len (.atom 7)) (.int .i64 1)))
 (.store (.padd (.elt (.atom 23) (.ar .sub .i64 (.len (.atom 7)) (.int .i64 1)) 6) 5) [(.atom 4)]
 (.ite (.cmp .eql (.atom 1) (.int .i64 1))
 (.sem (.binOp .eql 73 (.tmp 83) (.tmp 84) 73) 4 [(83, (.ag [(.atom 18), (.atom 19), (.atom 20)])), (84, (.ag [(.int .i64 0), (.int .i64 0), (.str [])]))] (.sc (.bool)) []
 (.ite (.atom 24)
 (.load (.padd (.atom 0) 3) [.sl]
 (.chk [] (.inSl (.atom 25) (.ar .sub .i64 (.len (.atom 7)) (.int .i64 1)))
 (.store (.padd (.elt (.atom 25) (.ar .sub .i64 (.len (.atom 7)) (.int .i64 1)) 6) 3) [(.atom 6)]
 (.leaf (.tu [])))))
 (.leaf (.tu []))))
 (.ite (.cmp .eql (.atom 1) (.int .i64 2))
 (.load (.padd (.atom 0) 3) [.sl]
 (.chk [] (.sub (.cap (.atom 24)) (.int .i64 0) (.ar .sub .i64 (.len (.atom 7)) (.int .i64 1)))
 (.store (.padd (.atom 0) 3) [(.sls (.atom 24) (.int .i64 0) (.ar .sub .i64 (.len (.atom 7)) (.int .i64 1)) 6)]
 (.call (.fn 36) [(.sc (.atom 0)), (.ag [(.atom 18), (.atom 19), (.atom 20)])] (.tu []) []
 (.leaf (.tu []))))))
 (.ite (.cmp .eql (.atom 1) (.int .i64 3))
 (.call (.fn 18) [(.sc (.atom 0)), (.ag [(.atom 18), (.atom 19), (.atom 20)]), (.sc (.atom 16)), (.sc (.bool false))] (.tu []) []
 (.leaf (.tu [])))
 (.ite (.cmp .eql (.atom 1) (.int .i64 4))
 (.call (.fn 18) [(.sc (.atom 0)), (.ag [(.atom 18), (.atom 19), (.atom 20)]), (.sc (.atom 16)), (.sc (.bool true))] (.tu []) []
 (.leaf (.tu [])))
 (.ite (.cmp .eql (.atom 1) (.int .i64 5))
 (.load (.padd (.atom 0) 3) [.sl]
 (.chk [] (.sub (.cap (.atom 24)) (.int .i64 0) (.ar .sub .i64 (.len (.atom 7)) (.int .i64 1)))
 (.call (.fn 35) [(.sc (.sls (.atom 24) (.int .i64 0) (.ar .sub .i64 (.len (.atom 7)) (.int .i64 1)) 6))] (.sc (.sl)) []
 (.call (.fn 19) [(.sc (.atom 0)), (.ag [(.int .i64 0), (.int .i64 0), (.nil 1), (.bool true), (.atom 25)])] (.ag [.int .i64, .int .i64, .str]) []
 (.sem (.buildSlice 81 1 #[(0, (.tmp 135))]) 81 [(135, (.ag [(.atom 26), (.atom 27), (.atom 28)]))] (.sc (.sl)) []
 (.call (.fn 18) [(.sc (.atom 0)), (.ag [(.atom 18), (.atom 19), (.atom 20)]), (.sc (.atom 29)), (.sc (.bool false))] (.tu []) []
 (.leaf (.tu []))))))))
 (.ite (.cmp .eql (.atom 1) (.int .i64 6))
 (.load (.padd (.atom 0) 3) [.sl]
 (.call (.fn 35) [(.sc (.atom 24))] (.sc (.sl)) []
 (.call (.fn 19) [(.sc (.atom 0)), (.ag [(.int .i64 0), (.int .i64 0), (.nil 1), (.bool true), (.atom 25)])] (.ag [.int .i64, .int .i64, .str]) []
 (.sem (.buildSlice 81 1 #[(0, (.tmp 150))]) 81 [(150, (.ag [(.atom 26), (.atom 27), (.atom 28)]))] (.sc (.sl)) []
 (.call (.fn 18) [(.sc (.atom 0)), (.ag [(.atom 18), (.atom 19), (.atom 20)]), (.sc (.atom 29)), (.sc (.bool true))] (.tu []) []
 (.leaf (.tu [])))))))
 (.leaf (.tu [])))))))))))))))))
 (.ite (.cmp .neq (.atom 1) (.int .i64 0))
 (.chk [] (.inSl (.atom 10) (.atom 2))
 (.load (.elt (.atom 10) (.atom 2) 3) [.int .i64, .int .i64, .str]
 (.next 10 [(.atom 18), (.atom 19), (.atom 20)])))
 (.next 10 [(.int .i64 0), (.int .i64 0), (.str [])])))))))))))
theorem fm_scrimshawref15_Machine__end_eq : execF Try.prog { pub := [], nojoin := false } Try.f21 = fm_scrimshawref15_Machine__end := by kernel_rfl
theorem cb_scrimshawref15_Machine__end : callB Try.prog 21 = true := by kernel_rfl
theorem tri_scrimshawref15_Machine__end : TriOf Try.prog 21 Try.f21 fm_scrimshawref15_Machine__end := triOf Try.func21 fm_scrimshawref15_Machine__end_eq

/-- (*scrimshaw/scrimshawref08.Heap).Tell -/
abbrev n_scrimshawref08_Heap__Tell : FuncId := 22
def fm_scrimshawref08_Heap__Tell : Fm VE :=
 (.call (.fn 40) [(.sc (.atom 0)), (.ag [(.atom 1), (.atom 2), (.atom 3)])] (.sc (.bool)) []
 (.ite (.not (.atom 4))
 (.leaf (.tu [(true, [(.int .i64 0), (.int .i64 0), (.str []), (.nil 1)]), (false, [(.bool false)])]))
 (.call (.fn 41) [(.sc (.atom 0)), (.ag [(.atom 1), (.atom 2), (.atom 3)]), (.sc (.int .i64 0)), (.sc (.int .i64 0))] (.tu [(true, [.int .i64, .int .i64, .str, .sl]), (false, [.int .i64]), (false, [.bool])]) []
 (.ite (.not (.atom 10))
 (.leaf (.tu [(true, [(.int .i64 0), (.int .i64 0), (.str []), (.nil 1)]), (false, [(.bool false)])]))
 (.leaf (.tu [(true, [(.atom 5), (.atom 6), (.atom 7), (.atom 8)]), (false, [(.bool true)])]))))))
theorem fm_scrimshawref08_Heap__Tell_eq : execF Try.prog { pub := [], nojoin := false } Try.f22 = fm_scrimshawref08_Heap__Tell := by kernel_rfl
theorem cb_scrimshawref08_Heap__Tell : callB Try.prog 22 = true := by kernel_rfl
theorem tri_scrimshawref08_Heap__Tell : TriOf Try.prog 22 Try.f22 fm_scrimshawref08_Heap__Tell := triOf Try.func22 fm_scrimshawref08_Heap__Tell_eq

/-- scrimshaw/scrimshawref15.Regs -/
abbrev n_scrimshawref15_Regs : FuncId := 30
def fm_scrimshawref15_Regs : Fm VE :=
 (.loop 3 [.bool, .int .i64] [(.bool false), (.int .i64 0)]
 (.ite (.cmp .lss (.atom 6) (.len (.atom 4)))
 (.join 7 [.bool]
 (.ite (.atom 7)
 (.leaf (.sc (.bool false)))
 (.next 3 [(.atom 5), (.ar .add .i64 (.atom 6) (.int .i64 1))]))
 (.chk [] (.inSl (.atom 4) (.atom 6))
 (.load (.elt (.atom 4) (.atom 6) 1) [.int .i64]
 (.ite (.cmp .lss (.atom 7) (.int .i64 0))
 (.next 7 [(.bool true)])
 (.load (.elt (.atom 4) (.atom 6) 1) [.int .i64]
 (.next 7 [(.cmp .geq (.atom 8) (.atom 2))]))))))
 (.leaf (.sc (.bool true)))))
theorem fm_scrimshawref15_Regs_eq : execF Try.prog { pub := [], nojoin := false } Try.f30 = fm_scrimshawref15_Regs := by kernel_rfl
theorem cb_scrimshawref15_Regs : callB Try.prog 30 = true := by kernel_rfl
theorem tri_scrimshawref15_Regs : TriOf Try.prog 30 Try.f30 fm_scrimshawref15_Regs := triOf Try.func30 fm_scrimshawref15_Regs_eq

/-- (*scrimshaw/scrimshawref15.Machine).find -/
abbrev n_scrimshawref15_Machine__find : FuncId := 34
def fm_scrimshawref15_Machine__find : Fm VE :=
 (.loop 3 [.int .i64, .int .i64] [(.int .i64 0), (.int .i64 0)]
 (.chk [] (.some (.atom 0))
 (.load (.padd (.atom 0) 2) [.sl]
 (.ite (.cmp .lss (.atom 5) (.len (.atom 6)))
 (.join 7 [.bool]
 (.ite (.atom 7)
 (.leaf (.sc (.atom 5)))
 (.next 3 [(.atom 4), (.ar .add .i64 (.atom 5) (.int .i64 1))]))
 (.ite (.cmp .eql (.atom 1) (.int .i64 8))
 (.load (.padd (.atom 0) 2) [.sl]
 (.chk [] (.inSl (.atom 7) (.atom 5))
 (.load (.padd (.elt (.atom 7) (.atom 5) 5) 0) [.int .i64]
 (.next 7 [(.cmp .eql (.atom 8) (.atom 2))]))))
 (.next 7 [(.bool false)])))
 (.leaf (.sc (.int .i64 (-1))))))))
theorem fm_scrimshawref15_Machine__find_eq : execF Try.prog { pub := [], nojoin := false } Try.f34 = fm_scrimshawref15_Machine__find := by kernel_rfl
theorem cb_scrimshawref15_Machine__find : callB Try.prog 34 = true := by kernel_rfl
theorem tri_scrimshawref15_Machine__find : TriOf Try.prog 34 Try.f34 fm_scrimshawref15_Machine__find := triOf Try.func34 fm_scrimshawref15_Machine__find_eq

/-- scrimshaw/scrimshawref15.copied -/
abbrev n_scrimshawref15_copied : FuncId := 35
def fm_scrimshawref15_copied : Fm VE :=
 (.sem (.buildSlice 75 0 #[]) 75 [] (.sc (.sl)) []
 (.loop 4 [.sl, .int .i64] [(.atom 1), (.int .i64 0)]
 (.ite (.cmp .lss (.atom 3) (.len (.atom 0)))
 (.chk [] (.inSl (.atom 0) (.atom 3))
 (.load (.elt (.atom 0) (.atom 3) 6) [.int .i64, .sl, .int .i64, .int .i64, .int .i64, .int .i64]
 (.sem (.buildSlice 81 0 #[]) 81 [] (.sc (.sl)) []
 (.sem (.call ⟨.builtin .append, #[(.tmp 17), (.tmp 19)], #[81, 81]⟩) 81 [(17, (.sc (.atom 10))), (19, (.sc (.atom 5)))] (.sc (.sl)) []
 (.sem (.buildSlice 75 1 #[(0, (.tmp 23))]) 75 [(23, (.ag [(.atom 4), (.atom 11), (.atom 6), (.atom 7), (.atom 8), (.atom 9)]))] (.sc (.sl)) []
 (.sem (.call ⟨.builtin .append, #[(.tmp 22), (.tmp 24)], #[75, 75]⟩) 75 [(22, (.sc (.atom 2))), (24, (.sc (.atom 12)))] (.sc (.sl)) []
 (.next 4 [(.atom 13), (.ar .add .i64 (.atom 3) (.int .i64 1))])))))))
 (.leaf (.sc (.atom 2))))))
theorem fm_scrimshawref15_copied_eq : execF Try.prog { pub := [], nojoin := false } Try.f35 = fm_scrimshawref15_copied := by kernel_rfl
theorem cb_scrimshawref15_copied : callB Try.prog 35 = true := by kernel_rfl
theorem tri_scrimshawref15_copied : TriOf Try.prog 35 Try.f35 fm_scrimshawref15_copied := triOf Try.func35 fm_scrimshawref15_copied_eq

/-- (*scrimshaw/scrimshawref15.Machine).tell -/
abbrev n_scrimshawref15_Machine__tell : FuncId := 36
def fm_scrimshawref15_Machine__tell : Fm VE :=
 (.chk [] (.some (.atom 0))
 (.load (.padd (.atom 0) 3) [.sl]
 (.ite (.cmp .eql (.len (.atom 4)) (.int .i64 0))
 (.store (.padd (.atom 0) 9) [(.atom 1), (.atom 2), (.atom 3)]
 (.store (.padd (.atom 0) 12) [(.bool true)]
 (.leaf (.tu []))))
 (.load (.padd (.atom 0) 3) [.sl]
 (.chk [] (.inSl (.atom 5) (.ar .sub .i64 (.len (.atom 4)) (.int .i64 1)))
 (.load (.padd (.elt (.atom 5) (.ar .sub .i64 (.len (.atom 4)) (.int .i64 1)) 6) 1) [.sl]
 (.load (.padd (.atom 0) 3) [.sl]
 (.chk [] (.inSl (.atom 7) (.ar .sub .i64 (.len (.atom 4)) (.int .i64 1)))
 (.load (.padd (.elt (.atom 7) (.ar .sub .i64 (.len (.atom 4)) (.int .i64 1)) 6) 5) [.int .i64]
 (.chk [] (.inSl (.atom 6) (.atom 8))
 (.store (.elt (.atom 6) (.atom 8) 3) [(.atom 1), (.atom 2), (.atom 3)]
 (.leaf (.tu [])))))))))))))
theorem fm_scrimshawref15_Machine__tell_eq : execF Try.prog { pub := [], nojoin := false } Try.f36 = fm_scrimshawref15_Machine__tell := by kernel_rfl
theorem cb_scrimshawref15_Machine__tell : callB Try.prog 36 = true := by kernel_rfl
theorem tri_scrimshawref15_Machine__tell : TriOf Try.prog 36 Try.f36 fm_scrimshawref15_Machine__tell := triOf Try.func36 fm_scrimshawref15_Machine__tell_eq

/-- (*scrimshaw/scrimshawref08.Heap).Make -/
abbrev n_scrimshawref08_Heap__Make : FuncId := 37
def fm_scrimshawref08_Heap__Make : Fm VE :=
 (.ite (.pick (.pick (.pick (.pick (.cmp .lss (.atom 1) (.int .i64 0)) (.bool true) (.cmp .gtr (.atom 1) (.int .i64 4))) (.bool true) (.pick (.cmp .eql (.atom 1) (.int .i64 0)) (.cmp .neq (.len (.atom 2)) (.int .i64 2)) (.bool false))) (.bool true) (.pick (.cmp .eql (.atom 1) (.int .i64 3)) (.cmp .neq (.len (.atom 2)) (.int .i64 1)) (.bool false))) (.bool true) (.pick (.pick (.cmp .eql (.atom 1) (.int .i64 1)) (.bool true) (.cmp .eql (.atom 1) (.int .i64 2))) (.cmp .gtr (.len (.atom 2)) (.int .i64 1000)) (.bool false)))
 (.leaf (.tu [(true, [(.int .i64 0), (.int .i64 0), (.str [])]), (false, [(.int .i64 1)])]))
 (.loop 6 [.int .i64, .int .i64, .int .i64, .int .i64, .str] [(.int .i64 0), (.int .i64 0), (.int .i64 0), (.int .i64 0), (.str [])]
 (.ite (.cmp .lss (.atom 4) (.len (.atom 2)))
 (.join 10 [.bool]
 (.ite (.atom 8)
 (.leaf (.tu [(true, [(.int .i64 0), (.int .i64 0), (.str [])]), (false, [(.int .i64 1)])]))
 (.next 6 [(.atom 3), (.ar .add .i64 (.atom 4) (.int .i64 1)), (.atom 5), (.atom 6), (.atom 7)]))
 (.chk [] (.inSl (.atom 2) (.atom 4))
 (.load (.elt (.atom 2) (.atom 4) 3) [.int .i64, .int .i64, .str]
 (.call (.fn 40) [(.sc (.atom 0)), (.ag [(.atom 8), (.atom 9), (.atom 10)])] (.sc (.bool)) []
 (.ite (.not (.atom 11))
 (.next 10 [(.bool true)])
 (.ite (.cmp .eql (.atom 1) (.int .i64 2))
 (.load (.padd (.elt (.atom 2) (.atom 4) 3) 0) [.int .i64]
 (.next 10 [(.cmp .neq (.atom 12) (.int .i64 2))]))
 (.next 10 [(.bool false)])))))))
 (.call (.fn 50) [(.sc (.atom 0)), (.sc (.atom 1)), (.sc (.atom 2))] (.ag [.int .i64, .int .i64, .str]) []
 (.leaf (.tu [(true, [(.atom 8), (.atom 9), (.atom 10)]), (false, [(.int .i64 0)])]))))))
theorem fm_scrimshawref08_Heap__Make_eq : execF Try.prog { pub := [], nojoin := false } Try.f37 = fm_scrimshawref08_Heap__Make := by kernel_rfl
theorem cb_scrimshawref08_Heap__Make : callB Try.prog 37 = true := by kernel_rfl
theorem tri_scrimshawref08_Heap__Make : TriOf Try.prog 37 Try.f37 fm_scrimshawref08_Heap__Make := triOf Try.func37 fm_scrimshawref08_Heap__Make_eq

/-- scrimshaw/scrimshawref08.Const -/
abbrev n_scrimshawref08_Const : FuncId := 38
def fm_scrimshawref08_Const : Fm VE :=
 (.call (.fn 47) [(.ag [(.atom 0), (.atom 1), (.atom 2), (.atom 3)])] (.sc (.int .i64)) []
 (.ite (.cmp .neq (.atom 4) (.int .i64 0))
 (.leaf (.tu [(true, [(.int .i64 0), (.int .i64 0), (.str [])]), (false, [(.bool false)])]))
 (.join 3 []
 (.leaf (.tu [(true, [(.int .i64 0), (.int .i64 0), (.str [])]), (false, [(.bool false)])]))
 (.join 5 [.bool]
 (.ite (.atom 5)
 (.leaf (.tu [(true, [(.atom 0), (.atom 1), (.str [])]), (false, [(.bool true)])]))
 (.ite (.cmp .eql (.atom 0) (.int .i64 4))
 (.leaf (.tu [(true, [(.int .i64 3), (.int .i64 0), (.atom 2)]), (false, [(.bool true)])]))
 (.ite (.cmp .eql (.atom 0) (.int .i64 5))
 (.ite (.cmp .eql (.len (.atom 3)) (.int .i64 0))
 (.leaf (.tu [(true, [(.int .i64 4), (.int .i64 0), (.str [])]), (false, [(.bool true)])]))
 (.next 3 []))
 (.next 3 []))))
 (.ite (.cmp .eql (.atom 0) (.int .i64 0))
 (.next 5 [(.cmp .eql (.atom 0) (.int .i64 0))])
 (.next 5 [(.pick (.cmp .eql (.atom 0) (.int .i64 1)) (.cmp .eql (.atom 0) (.int .i64 1)) (.cmp .eql (.atom 0) (.int .i64 2)))]))))))
theorem fm_scrimshawref08_Const_eq : execF Try.prog { pub := [], nojoin := false } Try.f38 = fm_scrimshawref08_Const := by kernel_rfl
theorem cb_scrimshawref08_Const : callB Try.prog 38 = true := by kernel_rfl
theorem tri_scrimshawref08_Const : TriOf Try.prog 38 Try.f38 fm_scrimshawref08_Const := triOf Try.func38 fm_scrimshawref08_Const_eq

/-- (*scrimshaw/scrimshawref15.Machine).prim -/
abbrev n_scrimshawref15_Machine__prim : FuncId := 39
def fm_scrimshawref15_Machine__prim : Fm VE :=
 (.ite (.scmp .eql (.atom 1) (.str [114, 101, 97, 100, 45, 117, 56]))
 (.chk [] (.some (.atom 0))
 (.load (.padd (.atom 0) 4) [.str]
 (.ite (.scmp .eql (.atom 3) (.str []))
 (.leaf (.ag [(.int .i64 6), (.int .i64 0), (.str [])]))
 (.load (.padd (.atom 0) 4) [.str]
 (.chk [] (.inStr (.atom 4) (.int .i64 0))
 (.load (.padd (.atom 0) 4) [.str]
 (.chk [] (.sub (.slen (.atom 5)) (.int .i64 1) (.slen (.atom 5)))
 (.store (.padd (.atom 0) 4) [(.ssub (.atom 5) (.int .i64 1) (.slen (.atom 5)))]
 (.leaf (.ag [(.int .i64 1), (.conv .i64 (.sidx (.atom 4) (.int .i64 0))), (.str [])]))))))))))
 (.ite (.scmp .eql (.atom 1) (.str [119, 114, 105, 116, 101, 45, 117, 56]))
 (.chk [] (.inSl (.atom 2) (.int .i64 0))
 (.load (.padd (.elt (.atom 2) (.int .i64 0) 3) 0) [.int .i64]
 (.ite (.cmp .neq (.atom 3) (.int .i64 1))
 (.chk [] (.some (.atom 0))
 (.store (.padd (.atom 0) 13) [(.int .i64 80)]
 (.leaf (.ag [(.int .i64 5), (.int .i64 0), (.str [])]))))
 (.join 9 [.bool]
 (.ite (.atom 4)
 (.chk [] (.some (.atom 0))
 (.store (.padd (.atom 0) 13) [(.int .i64 83)]
 (.leaf (.ag [(.int .i64 5), (.int .i64 0), (.str [])]))))
 (.chk [] (.some (.atom 0))
 (.load (.padd (.atom 0) 5) [.sl]
 (.load (.padd (.elt (.atom 2) (.int .i64 0) 3) 1) [.int .i64]
 (.sem (.buildSlice 76 1 #[(0, (.tmp 73))]) 76 [(73, (.sc (.conv .u8 (.atom 6))))] (.sc (.sl)) [((.padd (.atom 0) 5), [(.atom 5)])]
 (.sem (.call ⟨.builtin .append, #[(.tmp 68), (.tmp 74)], #[76, 76]⟩) 76 [(68, (.sc (.atom 5))), (74, (.sc (.atom 7)))] (.sc (.sl)) []
 (.store (.padd (.atom 0) 5) [(.atom 8)]
 (.leaf (.ag [(.int .i64 5), (.int .i64 0), (.str [])])))))))))
 (.load (.padd (.elt (.atom 2) (.int .i64 0) 3) 1) [.int .i64]
 (.ite (.cmp .lss (.atom 4) (.int .i64 0))
 (.next 9 [(.bool true)])
 (.load (.padd (.elt (.atom 2) (.int .i64 0) 3) 1) [.int .i64]
 (.next 9 [(.cmp .gtr (.atom 5) (.int .i64 255))]))))))))
 (.ite (.scmp .eql (.atom 1) (.str [101, 114, 114, 111, 114]))
 (.chk [] (.some (.atom 0))
 (.store (.padd (.atom 0) 13) [(.int .i64 92)]
 (.leaf (.ag [(.int .i64 5), (.int .i64 0), (.str [])]))))
 (.ite (.scmp .eql (.atom 1) (.str [37, 119, 105, 110, 100, 101, 114, 115]))
 (.chk [] (.some (.atom 0))
 (.load (.padd (.atom 0) 6) [.int .i64, .int .i64, .str]
 (.leaf (.ag [(.atom 3), (.atom 4), (.atom 5)]))))
 (.ite (.scmp .eql (.atom 1) (.str [37, 119, 105, 110, 100, 33]))
 (.chk [] (.inSl (.atom 2) (.int .i64 0))
 (.load (.elt (.atom 2) (.int .i64 0) 3) [.int .i64, .int .i64, .str]
 (.chk [] (.some (.atom 0))
 (.store (.padd (.atom 0) 6) [(.atom 3), (.atom 4), (.atom 5)]
 (.leaf (.ag [(.int .i64 5), (.int .i64 0), (.str [])]))))))
 (.chk [] (.some (.atom 0))
 (.load (.padd (.atom 0) 1) [.ptr]
 (.call (.fn 51) [(.sc (.atom 3)), (.sc (.atom 1)), (.sc (.atom 2))] (.tu [(true, [.int .i64, .int .i64, .str]), (false, [.int .i64])]) []
 (.store (.padd (.atom 0) 13) [(.atom 7)]
 (.leaf (.ag [(.atom 4), (.atom 5), (.atom 6)])))))))))))
theorem fm_scrimshawref15_Machine__prim_eq : execF Try.prog { pub := [], nojoin := false } Try.f39 = fm_scrimshawref15_Machine__prim := by kernel_rfl
theorem cb_scrimshawref15_Machine__prim : callB Try.prog 39 = true := by kernel_rfl
theorem tri_scrimshawref15_Machine__prim : TriOf Try.prog 39 Try.f39 fm_scrimshawref15_Machine__prim := triOf Try.func39 fm_scrimshawref15_Machine__prim_eq

/-- (*scrimshaw/scrimshawref08.Heap).May -/
abbrev n_scrimshawref08_Heap__May : FuncId := 40
def fm_scrimshawref08_Heap__May : Fm VE :=
 (.ite (.pick (.cmp .neq (.atom 1) (.int .i64 3)) (.scmp .neq (.atom 3) (.str [])) (.bool false))
 (.leaf (.sc (.bool false)))
 (.ite (.cmp .eql (.atom 1) (.int .i64 0))
 (.leaf (.sc (.pick (.cmp .eql (.atom 2) (.int .i64 0)) (.bool true) (.cmp .eql (.atom 2) (.int .i64 1)))))
 (.ite (.cmp .eql (.atom 1) (.int .i64 1))
 (.call (.fn 52) [(.sc (.atom 2))] (.sc (.bool)) []
 (.leaf (.sc (.atom 4))))
 (.ite (.cmp .eql (.atom 1) (.int .i64 2))
 (.leaf (.sc (.pick (.cmp .geq (.atom 2) (.int .i64 0)) (.cmp .leq (.atom 2) (.int .i64 255)) (.bool false))))
 (.ite (.cmp .eql (.atom 1) (.int .i64 3))
 (.join 9 [.bool]
 (.leaf (.sc (.atom 4)))
 (.ite (.cmp .eql (.atom 2) (.int .i64 0))
 (.call (.fn 53) [(.sc (.atom 3))] (.sc (.bool)) []
 (.next 9 [(.atom 4)]))
 (.next 9 [(.bool false)])))
 (.join 9 [.bool]
 (.ite (.atom 4)
 (.leaf (.sc (.cmp .eql (.atom 2) (.int .i64 0))))
 (.ite (.cmp .eql (.atom 1) (.int .i64 8))
 (.join 11 [.bool]
 (.leaf (.sc (.atom 5)))
 (.chk [((.cmp .geq (.atom 2) (.int .i64 0)), true)] (.some (.atom 0))
 (.chk [((.cmp .geq (.atom 2) (.int .i64 0)), true)] (.some (.atom 0))
 (.ite (.cmp .geq (.atom 2) (.int .i64 0))
 (.load (.padd (.atom 0) 0) [.sl]
 (.next 11 [(.cmp .lss (.atom 2) (.len (.atom 5)))]))
 (.next 11 [(.bool false)])))))
 (.leaf (.sc (.bool false)))))
 (.ite (.cmp .eql (.atom 1) (.int .i64 4))
 (.next 9 [(.cmp .eql (.atom 1) (.int .i64 4))])
 (.ite (.cmp .eql (.atom 1) (.int .i64 5))
 (.next 9 [(.cmp .eql (.atom 1) (.int .i64 5))])
 (.next 9 [(.pick (.cmp .eql (.atom 1) (.int .i64 6)) (.cmp .eql (.atom 1) (.int .i64 6)) (.cmp .eql (.atom 1) (.int .i64 7)))])))))))))
theorem fm_scrimshawref08_Heap__May_eq : execF Try.prog { pub := [], nojoin := false } Try.f40 = fm_scrimshawref08_Heap__May := by kernel_rfl
theorem cb_scrimshawref08_Heap__May : callB Try.prog 40 = true := by kernel_rfl
theorem tri_scrimshawref08_Heap__May : TriOf Try.prog 40 Try.f40 fm_scrimshawref08_Heap__May := triOf Try.func40 fm_scrimshawref08_Heap__May_eq

/-- (*scrimshaw/scrimshawref08.Heap).tell -/
abbrev n_scrimshawref08_Heap__tell : FuncId := 41
def fm_scrimshawref08_Heap__tell : Fm VE :=
 (.ite (.pick (.cmp .geq (.atom 5) (.int .i64 200)) (.bool true) (.cmp .gtr (.atom 4) (.int .i64 32)))
 (.leaf (.tu [(true, [(.int .i64 0), (.int .i64 0), (.str []), (.nil 1)]), (false, [(.atom 5)]), (false, [(.bool false)])]))
 (.sem (.buildSlice 127 8 #[(0, (.const (.string ⟨#[]⟩))), (1, (.const (.string ⟨#[]⟩))), (2, (.const (.string ⟨#[]⟩))), (3, (.const (.string ⟨#[]⟩))), (4, (.const (.string ⟨#[]⟩))), (5, (.const (.string ⟨#[118, 111, 105, 100]⟩))), (6, (.const (.string ⟨#[101, 111, 102]⟩))), (7, (.const (.string ⟨#[117, 110, 115, 101, 116]⟩)))]) 127 [] (.sc (.sl)) []
 (.ite (.pick (.cmp .eql (.atom 1) (.int .i64 1)) (.cmp .eql (.atom 1) (.int .i64 1)) (.cmp .eql (.atom 1) (.int .i64 2)))
 (.leaf (.tu [(true, [(.atom 1), (.atom 2), (.str []), (.nil 1)]), (false, [(.ar .add .i64 (.atom 5) (.int .i64 1))]), (false, [(.bool true)])]))
 (.ite (.cmp .eql (.atom 1) (.int .i64 3))
 (.leaf (.tu [(true, [(.int .i64 4), (.int .i64 0), (.atom 3), (.nil 1)]), (false, [(.ar .add .i64 (.atom 5) (.int .i64 1))]), (false, [(.bool true)])]))
 (.ite (.cmp .eql (.atom 1) (.int .i64 4))
 (.leaf (.tu [(true, [(.int .i64 5), (.int .i64 0), (.str []), (.nil 1)]), (false, [(.ar .add .i64 (.atom 5) (.int .i64 1))]), (false, [(.bool true)])]))
 (.join 12 [.bool]
 (.ite (.atom 7)
 (.chk [] (.inSl (.atom 6) (.atom 1))
 (.load (.elt (.atom 6) (.atom 1) 1) [.str]
 (.leaf (.tu [(true, [(.int .i64 4), (.int .i64 0), (.atom 8), (.nil 1)]), (false, [(.ar .add .i64 (.atom 5) (.int .i64 1))]), (false, [(.bool true)])]))))
 (.ite (.cmp .eql (.atom 1) (.int .i64 0))
 (.leaf (.tu [(true, [(.int .i64 0), (.atom 2), (.str []), (.nil 1)]), (false, [(.ar .add .i64 (.atom 5) (.int .i64 1))]), (false, [(.bool true)])]))
 (.chk [] (.some (.atom 0))
 (.load (.padd (.atom 0) 0) [.sl]
 (.chk [] (.inSl (.atom 8) (.atom 2))
 (.load (.elt (.atom 8) (.atom 2) 2) [.int .i64, .sl]
 (.ite (.cmp .eql (.atom 9) (.int .i64 3))
 (.leaf (.tu [(true, [(.int .i64 4), (.int .i64 0), (.str [98, 111, 120]), (.nil 1)]), (false, [(.ar .add .i64 (.atom 5) (.int .i64 1))]), (false, [(.bool true)])]))
 (.ite (.cmp .eql (.atom 9) (.int .i64 4))
 (.leaf (.tu [(true, [(.int .i64 4), (.int .i64 0), (.str [112, 114, 111, 99, 101, 100, 117, 114, 101]), (.nil 1)]), (false, [(.ar .add .i64 (.atom 5) (.int .i64 1))]), (false, [(.bool true)])]))
 (.ite (.cmp .eql (.atom 9) (.int .i64 2))
 (.sem (.buildSlice 76 0 #[]) 76 [] (.sc (.sl)) []
 (.loop 24 [.sl, .int .i64] [(.atom 11), (.int .i64 0)]
 (.ite (.cmp .lss (.atom 13) (.len (.atom 10)))
 (.chk [] (.inSl (.atom 10) (.atom 13))
 (.load (.padd (.elt (.atom 10) (.atom 13) 3) 1) [.int .i64]
 (.sem (.buildSlice 76 1 #[(0, (.tmp 106))]) 76 [(106, (.sc (.conv .u8 (.atom 14))))] (.sc (.sl)) []
 (.sem (.call ⟨.builtin .append, #[(.tmp 99), (.tmp 107)], #[76, 76]⟩) 76 [(99, (.sc (.atom 12))), (107, (.sc (.atom 15)))] (.sc (.sl)) []
 (.next 24 [(.atom 16), (.ar .add .i64 (.atom 13) (.int .i64 1))])))))
 (.sem (.convert 76 9 (.tmp 109)) 9 [(109, (.sc (.atom 12)))] (.sc (.str)) []
 (.leaf (.tu [(true, [(.int .i64 3), (.int .i64 0), (.atom 14), (.nil 1)]), (false, [(.ar .add .i64 (.atom 5) (.int .i64 1))]), (false, [(.bool true)])]))))))
 (.sem (.buildSlice 26 0 #[]) 26 [] (.sc (.sl)) []
 (.loop 26 [.int .i64, .int .i64, .bool, .sl, .bool, .int .i64, .int .i64, .int .i64, .str, .sl, .int .i64, .int .i64, .str, .sl] [(.ar .add .i64 (.atom 5) (.int .i64 1)), (.int .i64 0), (.bool false), (.atom 11), (.bool true), (.int .i64 0), (.int .i64 0), (.int .i64 0), (.str []), (.nil 1), (.int .i64 0), (.int .i64 0), (.str []), (.nil 1)]
 (.ite (.cmp .lss (.atom 17) (.len (.atom 10)))
 (.chk [] (.inSl (.atom 10) (.atom 17))
 (.load (.elt (.atom 10) (.atom 17) 3) [.int .i64, .int .i64, .str]
 (.call (.fn 41) [(.sc (.atom 0)), (.ag [(.atom 26), (.atom 27), (.atom 28)]), (.sc (.pick (.pick (.cmp .eql (.atom 9) (.int .i64 0)) (.cmp .eql (.atom 17) (.int .i64 1)) (.bool false)) (.atom 4) (.ar .add .i64 (.atom 4) (.int .i64 1)))), (.sc (.atom 12))] (.tu [(true, [.int .i64, .int .i64, .str, .sl]), (false, [.int .i64]), (false, [.bool])]) []
 (.ite (.not (.atom 34))
 (.leaf (.tu [(true, [(.int .i64 0), (.int .i64 0), (.str []), (.nil 1)]), (false, [(.atom 33)]), (false, [(.bool false)])]))
 (.sem (.buildSlice 26 1 #[(0, (.tmp 150))]) 26 [(150, (.ag [(.atom 29), (.atom 30), (.atom 31), (.atom 32)]))] (.sc (.sl)) []
 (.sem (.call ⟨.builtin .append, #[(.tmp 149), (.tmp 151)], #[26, 26]⟩) 26 [(149, (.sc (.atom 15))), (151, (.sc (.atom 35)))] (.sc (.sl)) []
 (.next 26 [(.atom 33), (.atom 13), (.atom 14), (.atom 36), (.atom 34), (.ar .add .i64 (.atom 17) (.int .i64 1)), (.atom 29), (.atom 30), (.atom 31), (.atom 32), (.atom 22), (.atom 23), (.atom 24), (.atom 25)])))))))
 (.ite (.cmp .eql (.atom 9) (.int .i64 0))
 (.chk [] (.sub (.cap (.atom 15)) (.int .i64 0) (.int .i64 1))
 (.chk [] (.inSl (.atom 15) (.int .i64 1))
 (.load (.elt (.atom 15) (.int .i64 1) 4) [.int .i64, .int .i64, .str, .sl]
 (.call (.fn 54) [(.sc (.sls (.atom 15) (.int .i64 0) (.int .i64 1) 4)), (.ag [(.atom 26), (.atom 27), (.atom 28), (.atom 29)])] (.ag [.int .i64, .int .i64, .str, .sl]) []
 (.leaf (.tu [(true, [(.atom 30), (.atom 31), (.atom 32), (.atom 33)]), (false, [(.atom 12)]), (false, [(.bool true)])]))))))
 (.leaf (.tu [(true, [(.int .i64 7), (.int .i64 0), (.str []), (.atom 15)]), (false, [(.atom 12)]), (false, [(.bool true)])])))))))))))))))
 (.ite (.cmp .eql (.atom 1) (.int .i64 5))
 (.next 12 [(.cmp .eql (.atom 1) (.int .i64 5))])
 (.next 12 [(.pick (.cmp .eql (.atom 1) (.int .i64 6)) (.cmp .eql (.atom 1) (.int .i64 6)) (.cmp .eql (.atom 1) (.int .i64 7)))]))))))))
theorem fm_scrimshawref08_Heap__tell_eq : execF Try.prog { pub := [], nojoin := false } Try.f41 = fm_scrimshawref08_Heap__tell := by kernel_rfl
theorem cb_scrimshawref08_Heap__tell : callB Try.prog 41 = true := by kernel_rfl
theorem tri_scrimshawref08_Heap__tell : TriOf Try.prog 41 Try.f41 fm_scrimshawref08_Heap__tell := triOf Try.func41 fm_scrimshawref08_Heap__tell_eq

/-- (*scrimshaw/scrimshawref08.Heap).add -/
abbrev n_scrimshawref08_Heap__add : FuncId := 50
def fm_scrimshawref08_Heap__add : Fm VE :=
 (.chk [] (.some (.atom 0))
 (.load (.padd (.atom 0) 0) [.sl]
 (.sem (.buildSlice 81 0 #[]) 81 [] (.sc (.sl)) [((.padd (.atom 0) 0), [(.atom 3)])]
 (.sem (.call ⟨.builtin .append, #[(.tmp 13), (.tmp 14)], #[81, 81]⟩) 81 [(13, (.sc (.atom 4))), (14, (.sc (.atom 2)))] (.sc (.sl)) [((.padd (.atom 0) 0), [(.atom 3)])]
 (.sem (.buildSlice 69 1 #[(0, (.tmp 16))]) 69 [(16, (.ag [(.atom 1), (.atom 5)]))] (.sc (.sl)) [((.padd (.atom 0) 0), [(.atom 3)])]
 (.sem (.call ⟨.builtin .append, #[(.tmp 11), (.tmp 17)], #[69, 69]⟩) 69 [(11, (.sc (.atom 3))), (17, (.sc (.atom 6)))] (.sc (.sl)) []
 (.store (.padd (.atom 0) 0) [(.atom 7)]
 (.load (.padd (.atom 0) 0) [.sl]
 (.leaf (.ag [(.int .i64 8), (.ar .sub .i64 (.len (.atom 8)) (.int .i64 1)), (.str [])]))))))))))
theorem fm_scrimshawref08_Heap__add_eq : execF Try.prog { pub := [], nojoin := false } Try.f50 = fm_scrimshawref08_Heap__add := by kernel_rfl
theorem cb_scrimshawref08_Heap__add : callB Try.prog 50 = true := by kernel_rfl
theorem tri_scrimshawref08_Heap__add : TriOf Try.prog 50 Try.f50 fm_scrimshawref08_Heap__add := triOf Try.func50 fm_scrimshawref08_Heap__add_eq

/-- (*scrimshaw/scrimshawref08.Heap).Do -/
abbrev n_scrimshawref08_Heap__Do : FuncId := 51
def fm_scrimshawref08_Heap__Do : Fm VE :=
 (.call (.fn 67) [] (.sc (.sl)) []
 (.loop 5 [.int .i64, .int .i64] [(.int .i64 (-1)), (.int .i64 0)]
 (.ite (.cmp .lss (.atom 5) (.len (.atom 3)))
 (.chk [] (.inSl (.atom 3) (.atom 5))
 (.load (.padd (.elt (.atom 3) (.atom 5) 2) 0) [.str]
 (.next 5 [(.pick (.scmp .eql (.atom 6) (.atom 1)) (.atom 5) (.atom 4)), (.ar .add .i64 (.atom 5) (.int .i64 1))])))
 (.join 9 [.bool]
 (.ite (.atom 6)
 (.leaf (.tu [(true, [(.int .i64 0), (.int .i64 0), (.str [])]), (false, [(.int .i64 1)])]))
 (.loop 12 [.int .i64, .int .i64, .int .i64, .int .i64, .str] [(.int .i64 0), (.int .i64 0), (.int .i64 0), (.int .i64 0), (.str [])]
 (.ite (.cmp .lss (.atom 8) (.len (.atom 2)))
 (.chk [] (.inSl (.atom 2) (.atom 8))
 (.load (.elt (.atom 2) (.atom 8) 3) [.int .i64, .int .i64, .str]
 (.call (.fn 40) [(.sc (.atom 0)), (.ag [(.atom 12), (.atom 13), (.atom 14)])] (.sc (.bool)) []
 (.ite (.not (.atom 15))
 (.leaf (.tu [(true, [(.int .i64 0), (.int .i64 0), (.str [])]), (false, [(.int .i64 1)])]))
 (.next 12 [(.atom 7), (.ar .add .i64 (.atom 8) (.int .i64 1)), (.atom 9), (.atom 10), (.atom 11)])))))
 (.loop 17 [.int .i64, .int .i64, .int .i64, .int .i64, .str] [(.atom 7), (.int .i64 0), (.atom 9), (.atom 10), (.atom 11)]
 (.ite (.cmp .lss (.atom 13) (.len (.atom 2)))
 (.chk [] (.inSl (.atom 3) (.atom 4))
 (.load (.padd (.elt (.atom 3) (.atom 4) 2) 1) [.sl]
 (.chk [] (.inSl (.atom 17) (.atom 13))
 (.load (.elt (.atom 17) (.atom 13) 1) [.int .i64]
 (.join 22 [.bool]
 (.ite (.atom 19)
 (.leaf (.tu [(true, [(.int .i64 0), (.int .i64 0), (.str [])]), (false, [(.int .i64 80)])]))
 (.next 17 [(.atom 12), (.ar .add .i64 (.atom 13) (.int .i64 1)), (.atom 14), (.atom 15), (.atom 16)]))
 (.chk [((.cmp .geq (.atom 18) (.int .i64 10)), true)] (.inSl (.atom 2) (.atom 13))
 (.ite (.cmp .geq (.atom 18) (.int .i64 10))
 (.load (.elt (.atom 2) (.atom 13) 3) [.int .i64, .int .i64, .str]
 (.call (.fn 68) [(.sc (.atom 0)), (.ag [(.atom 19), (.atom 20), (.atom 21)])] (.sc (.int .i64)) []
 (.chk [((.cmp .neq (.atom 22) (.ar .sub .i64 (.atom 18) (.int .i64 10))), false), ((.pick (.cmp .geq (.atom 18) (.int .i64 0)) (.cmp .lss (.atom 18) (.int .i64 10)) (.bool false)), true)] (.inSl (.atom 2) (.atom 13))
 (.chk [((.cmp .neq (.atom 22) (.ar .sub .i64 (.atom 18) (.int .i64 10))), false), ((.pick (.cmp .geq (.atom 18) (.int .i64 0)) (.cmp .lss (.atom 18) (.int .i64 10)) (.bool false)), true)] (.some (.elt (.atom 2) (.atom 13) 3))
 (.ite (.cmp .neq (.atom 22) (.ar .sub .i64 (.atom 18) (.int .i64 10)))
 (.next 22 [(.bool true)])
 (.ite (.pick (.cmp .geq (.atom 18) (.int .i64 0)) (.cmp .lss (.atom 18) (.int .i64 10)) (.bool false))
 (.load (.padd (.elt (.atom 2) (.atom 13) 3) 0) [.int .i64]
 (.next 22 [(.cmp .neq (.atom 23) (.atom 18))]))
 (.next 22 [(.bool false)])))))))
 (.chk [((.pick (.cmp .geq (.atom 18) (.int .i64 0)) (.cmp .lss (.atom 18) (.int .i64 10)) (.bool false)), true)] (.inSl (.atom 2) (.atom 13))
 (.chk [((.pick (.cmp .geq (.atom 18) (.int .i64 0)) (.cmp .lss (.atom 18) (.int .i64 10)) (.bool false)), true)] (.some (.elt (.atom 2) (.atom 13) 3))
 (.ite (.pick (.cmp .geq (.atom 18) (.int .i64 0)) (.cmp .lss (.atom 18) (.int .i64 10)) (.bool false))
 (.load (.padd (.elt (.atom 2) (.atom 13) 3) 0) [.int .i64]
 (.next 22 [(.cmp .neq (.atom 19) (.atom 18))]))
 (.next 22 [(.bool false)])))))))))))
 (.join 23 [.int .i64, .int .i64, .str]
 (.join 24 [.int .i64, .int .i64, .str]
 (.join 25 [.int .i64, .int .i64, .str]
 (.ite (.scmp .eql (.atom 1) (.str [43]))
 (.call (.fn 69) [(.sc (.int .i64 0)), (.ag [(.atom 17), (.atom 18), (.atom 19)]), (.ag [(.atom 20), (.atom 21), (.atom 22)])] (.tu [(true, [.int .i64, .int .i64, .str]), (false, [.int .i64])]) []
 (.leaf (.tu [(true, [(.atom 26), (.atom 27), (.atom 28)]), (false, [(.atom 29)])])))
 (.ite (.scmp .eql (.atom 1) (.str [45]))
 (.call (.fn 69) [(.sc (.int .i64 1)), (.ag [(.atom 17), (.atom 18), (.atom 19)]), (.ag [(.atom 20), (.atom 21), (.atom 22)])] (.tu [(true, [.int .i64, .int .i64, .str]), (false, [.int .i64])]) []
 (.leaf (.tu [(true, [(.atom 26), (.atom 27), (.atom 28)]), (false, [(.atom 29)])])))
 (.ite (.scmp .eql (.atom 1) (.str [42]))
 (.call (.fn 69) [(.sc (.int .i64 2)), (.ag [(.atom 17), (.atom 18), (.atom 19)]), (.ag [(.atom 20), (.atom 21), (.atom 22)])] (.tu [(true, [.int .i64, .int .i64, .str]), (false, [.int .i64])]) []
 (.leaf (.tu [(true, [(.atom 26), (.atom 27), (.atom 28)]), (false, [(.atom 29)])])))
 (.ite (.scmp .eql (.atom 1) (.str [113, 117, 111, 116, 105, 101, 110, 116]))
 (.call (.fn 69) [(.sc (.int .i64 3)), (.ag [(.atom 17), (.atom 18), (.atom 19)]), (.ag [(.atom 20), (.atom 21), (.atom 22)])] (.tu [(true, [.int .i64, .int .i64, .str]), (false, [.int .i64])]) []
 (.leaf (.tu [(true, [(.atom 26), (.atom 27), (.atom 28)]), (false, [(.atom 29)])])))
 (.ite (.scmp .eql (.atom 1) (.str [114, 101, 109, 97, 105, 110, 100, 101, 114]))
 (.call (.fn 69) [(.sc (.int .i64 4)), (.ag [(.atom 17), (.atom 18), (.atom 19)]), (.ag [(.atom 20), (.atom 21), (.atom 22)])] (.tu [(true, [.int .i64, .int .i64, .str]), (false, [.int .i64])]) []
 (.leaf (.tu [(true, [(.atom 26), (.atom 27), (.atom 28)]), (false, [(.atom 29)])])))
 (.ite (.scmp .eql (.atom 1) (.str [60]))
 (.call (.fn 70) [(.sc (.cmp .lss (.atom 18) (.atom 21)))] (.ag [.int .i64, .int .i64, .str]) []
 (.leaf (.tu [(true, [(.atom 26), (.atom 27), (.atom 28)]), (false, [(.int .i64 0)])])))
 (.ite (.pick (.scmp .eql (.atom 1) (.str [61])) (.scmp .eql (.atom 1) (.str [61])) (.scmp .eql (.atom 1) (.str [101, 113, 63])))
 (.sem (.binOp .eql 73 (.tmp 175) (.tmp 176) 73) 4 [(175, (.ag [(.atom 17), (.atom 18), (.atom 19)])), (176, (.ag [(.atom 20), (.atom 21), (.atom 22)]))] (.sc (.bool)) []
 (.call (.fn 70) [(.sc (.atom 26))] (.ag [.int .i64, .int .i64, .str]) []
 (.leaf (.tu [(true, [(.atom 27), (.atom 28), (.atom 29)]), (false, [(.int .i64 0)])]))))
 (.ite (.scmp .eql (.atom 1) (.str [110, 117, 108, 108, 63]))
 (.call (.fn 70) [(.sc (.cmp .eql (.atom 17) (.int .i64 4)))] (.ag [.int .i64, .int .i64, .str]) []
 (.leaf (.tu [(true, [(.atom 26), (.atom 27), (.atom 28)]), (false, [(.int .i64 0)])])))
 (.ite (.scmp .eql (.atom 1) (.str [115, 121, 109, 98, 111, 108, 63]))
 (.call (.fn 70) [(.sc (.cmp .eql (.atom 17) (.int .i64 3)))] (.ag [.int .i64, .int .i64, .str]) []
 (.leaf (.tu [(true, [(.atom 26), (.atom 27), (.atom 28)]), (false, [(.int .i64 0)])])))
 (.ite (.scmp .eql (.atom 1) (.str [99, 104, 97, 114, 63]))
 (.call (.fn 70) [(.sc (.cmp .eql (.atom 17) (.int .i64 2)))] (.ag [.int .i64, .int .i64, .str]) []
 (.leaf (.tu [(true, [(.atom 26), (.atom 27), (.atom 28)]), (false, [(.int .i64 0)])])))
 (.ite (.scmp .eql (.atom 1) (.str [105, 110, 116, 101, 103, 101, 114, 63]))
 (.call (.fn 70) [(.sc (.cmp .eql (.atom 17) (.int .i64 1)))] (.ag [.int .i64, .int .i64, .str]) []
 (.leaf (.tu [(true, [(.atom 26), (.atom 27), (.atom 28)]), (false, [(.int .i64 0)])])))
 (.ite (.scmp .eql (.atom 1) (.str [98, 111, 111, 108, 101, 97, 110, 63]))
 (.call (.fn 70) [(.sc (.cmp .eql (.atom 17) (.int .i64 0)))] (.ag [.int .i64, .int .i64, .str]) []
 (.leaf (.tu [(true, [(.atom 26), (.atom 27), (.atom 28)]), (false, [(.int .i64 0)])])))
 (.ite (.scmp .eql (.atom 1) (.str [101, 111, 102, 45, 111, 98, 106, 101, 99, 116, 63]))
 (.call (.fn 70) [(.sc (.cmp .eql (.atom 17) (.int .i64 6)))] (.ag [.int .i64, .int .i64, .str]) []
 (.leaf (.tu [(true, [(.atom 26), (.atom 27), (.atom 28)]), (false, [(.int .i64 0)])])))
 (.ite (.scmp .eql (.atom 1) (.str [112, 97, 105, 114, 63]))
 (.call (.fn 68) [(.sc (.atom 0)), (.ag [(.atom 17), (.atom 18), (.atom 19)])] (.sc (.int .i64)) []
 (.call (.fn 70) [(.sc (.cmp .eql (.atom 26) (.int .i64 0)))] (.ag [.int .i64, .int .i64, .str]) []
 (.leaf (.tu [(true, [(.atom 27), (.atom 28), (.atom 29)]), (false, [(.int .i64 0)])]))))
 (.ite (.scmp .eql (.atom 1) (.str [118, 101, 99, 116, 111, 114, 63]))
 (.call (.fn 68) [(.sc (.atom 0)), (.ag [(.atom 17), (.atom 18), (.atom 19)])] (.sc (.int .i64)) []
 (.call (.fn 70) [(.sc (.cmp .eql (.atom 26) (.int .i64 1)))] (.ag [.int .i64, .int .i64, .str]) []
 (.leaf (.tu [(true, [(.atom 27), (.atom 28), (.atom 29)]), (false, [(.int .i64 0)])]))))
 (.ite (.scmp .eql (.atom 1) (.str [115, 116, 114, 105, 110, 103, 63]))
 (.call (.fn 68) [(.sc (.atom 0)), (.ag [(.atom 17), (.atom 18), (.atom 19)])] (.sc (.int .i64)) []
 (.call (.fn 70) [(.sc (.cmp .eql (.atom 26) (.int .i64 2)))] (.ag [.int .i64, .int .i64, .str]) []
 (.leaf (.tu [(true, [(.atom 27), (.atom 28), (.atom 29)]), (false, [(.int .i64 0)])]))))
 (.ite (.scmp .eql (.atom 1) (.str [112, 114, 111, 99, 101, 100, 117, 114, 101, 63]))
 (.call (.fn 68) [(.sc (.atom 0)), (.ag [(.atom 17), (.atom 18), (.atom 19)])] (.sc (.int .i64)) []
 (.call (.fn 70) [(.sc (.cmp .eql (.atom 26) (.int .i64 4)))] (.ag [.int .i64, .int .i64, .str]) []
 (.leaf (.tu [(true, [(.atom 27), (.atom 28), (.atom 29)]), (false, [(.int .i64 0)])]))))
 (.ite (.scmp .eql (.atom 1) (.str [99, 111, 110, 115]))
 (.call (.fn 50) [(.sc (.atom 0)), (.sc (.int .i64 0)), (.sc (.atom 2))] (.ag [.int .i64, .int .i64, .str]) []
 (.leaf (.tu [(true, [(.atom 26), (.atom 27), (.atom 28)]), (false, [(.int .i64 0)])])))
 (.ite (.scmp .eql (.atom 1) (.str [37, 98, 111, 120]))
 (.call (.fn 50) [(.sc (.atom 0)), (.sc (.int .i64 3)), (.sc (.atom 2))] (.ag [.int .i64, .int .i64, .str]) []
 (.leaf (.tu [(true, [(.atom 26), (.atom 27), (.atom 28)]), (false, [(.int .i64 0)])])))
 (.ite (.scmp .eql (.atom 1) (.str [109, 97, 107, 101, 45, 118, 101, 99, 116, 111, 114]))
 (.call (.fn 71) [(.sc (.atom 0)), (.sc (.int .i64 1)), (.sc (.atom 18)), (.ag [(.atom 20), (.atom 21), (.atom 22)])] (.tu [(true, [.int .i64, .int .i64, .str]), (false, [.int .i64])]) []
 (.leaf (.tu [(true, [(.atom 26), (.atom 27), (.atom 28)]), (false, [(.atom 29)])])))
 (.ite (.scmp .eql (.atom 1) (.str [109, 97, 107, 101, 45, 115, 116, 114, 105, 110, 103]))
 (.call (.fn 71) [(.sc (.atom 0)), (.sc (.int .i64 2)), (.sc (.atom 18)), (.ag [(.atom 20), (.atom 21), (.atom 22)])] (.tu [(true, [.int .i64, .int .i64, .str]), (false, [.int .i64])]) []
 (.leaf (.tu [(true, [(.atom 26), (.atom 27), (.atom 28)]), (false, [(.atom 29)])])))
 (.ite (.pick (.scmp .eql (.atom 1) (.str [118, 101, 99, 116, 111, 114, 45, 108, 101, 110, 103, 116, 104])) (.scmp .eql (.atom 1) (.str [118, 101, 99, 116, 111, 114, 45, 108, 101, 110, 103, 116, 104])) (.scmp .eql (.atom 1) (.str [115, 116, 114, 105, 110, 103, 45, 108, 101, 110, 103, 116, 104])))
 (.chk [] (.some (.atom 0))
 (.load (.padd (.atom 0) 0) [.sl]
 (.chk [] (.inSl (.atom 26) (.atom 18))
 (.load (.padd (.elt (.atom 26) (.atom 18) 2) 1) [.sl]
 (.call (.fn 72) [(.sc (.len (.atom 27)))] (.ag [.int .i64, .int .i64, .str]) []
 (.leaf (.tu [(true, [(.atom 28), (.atom 29), (.atom 30)]), (false, [(.int .i64 0)])])))))))
 (.ite (.pick (.scmp .eql (.atom 1) (.str [99, 97, 114])) (.scmp .eql (.atom 1) (.str [99, 97, 114])) (.scmp .eql (.atom 1) (.str [37, 117, 110, 98, 111, 120])))
 (.call (.fn 73) [(.sc (.atom 0)), (.ag [(.atom 17), (.atom 18), (.atom 19)]), (.sc (.int .i64 0))] (.tu [(true, [.int .i64, .int .i64, .str]), (false, [.int .i64])]) []
 (.leaf (.tu [(true, [(.atom 26), (.atom 27), (.atom 28)]), (false, [(.atom 29)])])))
 (.ite (.scmp .eql (.atom 1) (.str [99, 100, 114]))
 (.call (.fn 73) [(.sc (.atom 0)), (.ag [(.atom 17), (.atom 18), (.atom 19)]), (.sc (.int .i64 1))] (.tu [(true, [.int .i64, .int .i64, .str]), (false, [.int .i64])]) []
 (.leaf (.tu [(true, [(.atom 26), (.atom 27), (.atom 28)]), (false, [(.atom 29)])])))
 (.ite (.pick (.scmp .eql (.atom 1) (.str [118, 101, 99, 116, 111, 114, 45, 114, 101, 102])) (.scmp .eql (.atom 1) (.str [118, 101, 99, 116, 111, 114, 45, 114, 101, 102])) (.scmp .eql (.atom 1) (.str [115, 116, 114, 105, 110, 103, 45, 114, 101, 102])))
 (.call (.fn 73) [(.sc (.atom 0)), (.ag [(.atom 17), (.atom 18), (.atom 19)]), (.sc (.atom 21))] (.tu [(true, [.int .i64, .int .i64, .str]), (false, [.int .i64])]) []
 (.leaf (.tu [(true, [(.atom 26), (.atom 27), (.atom 28)]), (false, [(.atom 29)])])))
 (.ite (.pick (.scmp .eql (.atom 1) (.str [115, 101, 116, 45, 99, 97, 114, 33])) (.scmp .eql (.atom 1) (.str [115, 101, 116, 45, 99, 97, 114, 33])) (.scmp .eql (.atom 1) (.str [37, 115, 101, 116, 45, 98, 111, 120, 33])))
 (.call (.fn 74) [(.sc (.atom 0)), (.ag [(.atom 17), (.atom 18), (.atom 19)]), (.sc (.int .i64 0)), (.ag [(.atom 20), (.atom 21), (.atom 22)])] (.tu [(true, [.int .i64, .int .i64, .str]), (false, [.int .i64])]) []
 (.leaf (.tu [(true, [(.atom 26), (.atom 27), (.atom 28)]), (false, [(.atom 29)])])))
 (.ite (.scmp .eql (.atom 1) (.str [115, 101, 116, 45, 99, 100, 114, 33]))
 (.call (.fn 74) [(.sc (.atom 0)), (.ag [(.atom 17), (.atom 18), (.atom 19)]), (.sc (.int .i64 1)), (.ag [(.atom 20), (.atom 21), (.atom 22)])] (.tu [(true, [.int .i64, .int .i64, .str]), (false, [.int .i64])]) []
 (.leaf (.tu [(true, [(.atom 26), (.atom 27), (.atom 28)]), (false, [(.atom 29)])])))
 (.ite (.pick (.scmp .eql (.atom 1) (.str [118, 101, 99, 116, 111, 114, 45, 115, 101, 116, 33])) (.scmp .eql (.atom 1) (.str [118, 101, 99, 116, 111, 114, 45, 115, 101, 116, 33])) (.scmp .eql (.atom 1) (.str [115, 116, 114, 105, 110, 103, 45, 115, 101, 116, 33])))
 (.call (.fn 74) [(.sc (.atom 0)), (.ag [(.atom 17), (.atom 18), (.atom 19)]), (.sc (.atom 21)), (.ag [(.atom 23), (.atom 24), (.atom 25)])] (.tu [(true, [.int .i64, .int .i64, .str]), (false, [.int .i64])]) []
 (.leaf (.tu [(true, [(.atom 26), (.atom 27), (.atom 28)]), (false, [(.atom 29)])])))
 (.ite (.scmp .eql (.atom 1) (.str [99, 104, 97, 114, 45, 62, 105, 110, 116, 101, 103, 101, 114]))
 (.call (.fn 72) [(.sc (.atom 18))] (.ag [.int .i64, .int .i64, .str]) []
 (.leaf (.tu [(true, [(.atom 26), (.atom 27), (.atom 28)]), (false, [(.int .i64 0)])])))
 (.ite (.scmp .eql (.atom 1) (.str [105, 110, 116, 101, 103, 101, 114, 45, 62, 99, 104, 97, 114]))
 (.ite (.pick (.cmp .lss (.atom 18) (.int .i64 0)) (.bool true) (.cmp .gtr (.atom 18) (.int .i64 255)))
 (.leaf (.tu [(true, [(.int .i64 0), (.int .i64 0), (.str [])]), (false, [(.int .i64 83)])]))
 (.leaf (.tu [(true, [(.int .i64 2), (.atom 18), (.str [])]), (false, [(.int .i64 0)])])))
 (.ite (.scmp .eql (.atom 1) (.str [37, 117, 110, 115, 101, 116]))
 (.leaf (.tu [(true, [(.int .i64 7), (.int .i64 0), (.str [])]), (false, [(.int .i64 0)])]))
 (.leaf (.tu [(true, [(.int .i64 5), (.int .i64 0), (.str [])]), (false, [(.int .i64 0)])])))))))))))))))))))))))))))))))))
 (.ite (.cmp .gtr (.len (.atom 2)) (.int .i64 2))
 (.chk [] (.inSl (.atom 2) (.int .i64 2))
 (.load (.elt (.atom 2) (.int .i64 2) 3) [.int .i64, .int .i64, .str]
 (.next 25 [(.atom 23), (.atom 24), (.atom 25)])))
 (.next 25 [(.int .i64 0), (.int .i64 0), (.str [])])))
 (.ite (.cmp .gtr (.len (.atom 2)) (.int .i64 1))
 (.chk [] (.inSl (.atom 2) (.int .i64 1))
 (.load (.elt (.atom 2) (.int .i64 1) 3) [.int .i64, .int .i64, .str]
 (.next 24 [(.atom 20), (.atom 21), (.atom 22)])))
 (.next 24 [(.int .i64 0), (.int .i64 0), (.str [])])))
 (.ite (.cmp .gtr (.len (.atom 2)) (.int .i64 0))
 (.chk [] (.inSl (.atom 2) (.int .i64 0))
 (.load (.elt (.atom 2) (.int .i64 0) 3) [.int .i64, .int .i64, .str]
 (.next 23 [(.atom 17), (.atom 18), (.atom 19)])))
 (.next 23 [(.int .i64 0), (.int .i64 0), (.str [])]))))))))
 (.chk [((.cmp .lss (.atom 4) (.int .i64 0)), false)] (.inSl (.atom 3) (.atom 4))
 (.chk [((.cmp .lss (.atom 4) (.int .i64 0)), false)] (.some (.elt (.atom 3) (.atom 4) 2))
 (.ite (.cmp .lss (.atom 4) (.int .i64 0))
 (.next 9 [(.bool true)])
 (.load (.padd (.elt (.atom 3) (.atom 4) 2) 1) [.sl]
 (.next 9 [(.cmp .neq (.len (.atom 6)) (.len (.atom 2)))])))))))))
theorem fm_scrimshawref08_Heap__Do_eq : execF Try.prog { pub := [], nojoin := false } Try.f51 = fm_scrimshawref08_Heap__Do := by kernel_rfl
theorem cb_scrimshawref08_Heap__Do : callB Try.prog 51 = true := by kernel_rfl
theorem tri_scrimshawref08_Heap__Do : TriOf Try.prog 51 Try.f51 fm_scrimshawref08_Heap__Do := triOf Try.func51 fm_scrimshawref08_Heap__Do_eq

/-- scrimshaw/scrimshawref01.Is -/
abbrev n_scrimshawref01_Is : FuncId := 52
def fm_scrimshawref01_Is : Fm VE :=
 (.leaf (.sc (.pick (.cmp .geq (.atom 0) (.int .i64 (-1152921504606846976))) (.cmp .leq (.atom 0) (.int .i64 1152921504606846975)) (.bool false))))
theorem fm_scrimshawref01_Is_eq : execF Try.prog { pub := [], nojoin := false } Try.f52 = fm_scrimshawref01_Is := by kernel_rfl
theorem cb_scrimshawref01_Is : callB Try.prog 52 = true := by kernel_rfl
theorem tri_scrimshawref01_Is : TriOf Try.prog 52 Try.f52 fm_scrimshawref01_Is := triOf Try.func52 fm_scrimshawref01_Is_eq

/-- scrimshaw/scrimshawref08.Rows -/
abbrev n_scrimshawref08_Rows : FuncId := 67
def fm_scrimshawref08_Rows : Fm VE :=
 (.sem (.buildSlice 40 2 #[(0, (.const (.int .i64 1))), (1, (.const (.int .i64 1)))]) 40 [] (.sc (.sl)) []
 (.sem (.buildSlice 40 2 #[(0, (.const (.int .i64 1))), (1, (.const (.int .i64 1)))]) 40 [] (.sc (.sl)) []
 (.sem (.buildSlice 40 2 #[(0, (.const (.int .i64 1))), (1, (.const (.int .i64 1)))]) 40 [] (.sc (.sl)) []
 (.sem (.buildSlice 40 2 #[(0, (.const (.int .i64 1))), (1, (.const (.int .i64 1)))]) 40 [] (.sc (.sl)) []
 (.sem (.buildSlice 40 2 #[(0, (.const (.int .i64 1))), (1, (.const (.int .i64 1)))]) 40 [] (.sc (.sl)) []
 (.sem (.buildSlice 40 2 #[(0, (.const (.int .i64 1))), (1, (.const (.int .i64 1)))]) 40 [] (.sc (.sl)) []
 (.sem (.buildSlice 40 2 #[(0, (.const (.int .i64 1))), (1, (.const (.int .i64 1)))]) 40 [] (.sc (.sl)) []
 (.sem (.buildSlice 40 2 #[(0, (.const (.int .i64 (-1)))), (1, (.const (.int .i64 (-1))))]) 40 [] (.sc (.sl)) []
 (.sem (.buildSlice 40 1 #[(0, (.const (.int .i64 (-1))))]) 40 [] (.sc (.sl)) []
 (.sem (.buildSlice 40 1 #[(0, (.const (.int .i64 (-1))))]) 40 [] (.sc (.sl)) []
 (.sem (.buildSlice 40 1 #[(0, (.const (.int .i64 (-1))))]) 40 [] (.sc (.sl)) []
 (.sem (.buildSlice 40 1 #[(0, (.const (.int .i64 (-1))))]) 40 [] (.sc (.sl)) []
 (.sem (.buildSlice 40 1 #[(0, (.const (.int .i64 (-1))))]) 40 [] (.sc (.sl)) []
 (.sem (.buildSlice 40 1 #[(0, (.const (.int .i64 (-1))))]) 40 [] (.sc (.sl)) []
 (.sem (.buildSlice 40 1 #[(0, (.const (.int .i64 (-1))))]) 40 [] (.sc (.sl)) []
 (.sem (.buildSlice 40 1 #[(0, (.const (.int .i64 (-1))))]) 40 [] (.sc (.sl)) []
 (.sem (.buildSlice 40 1 #[(0, (.const (.int .i64 (-1))))]) 40 [] (.sc (.sl)) []
 (.sem (.buildSlice 40 1 #[(0, (.const (.int .i64 (-1))))]) 40 [] (.sc (.sl)) []
 (.sem (.buildSlice 40 2 #[(0, (.const (.int .i64 (-1)))), (1, (.const (.int .i64 (-1))))]) 40 [] (.sc (.sl)) []
 (.sem (.buildSlice 40 1 #[(0, (.const (.int .i64 10)))]) 40 [] (.sc (.sl)) []
 (.sem (.buildSlice 40 1 #[(0, (.const (.int .i64 10)))]) 40 [] (.sc (.sl)) []
 (.sem (.buildSlice 40 2 #[(0, (.const (.int .i64 10))), (1, (.const (.int .i64 (-1))))]) 40 [] (.sc (.sl)) []
 (.sem (.buildSlice 40 2 #[(0, (.const (.int .i64 10))), (1, (.const (.int .i64 (-1))))]) 40 [] (.sc (.sl)) []
 (.sem (.buildSlice 40 2 #[(0, (.const (.int .i64 1))), (1, (.const (.int .i64 (-1))))]) 40 [] (.sc (.sl)) []
 (.sem (.buildSlice 40 2 #[(0, (.const (.int .i64 1))), (1, (.const (.int .i64 2)))]) 40 [] (.sc (.sl)) []
 (.sem (.buildSlice 40 1 #[(0, (.const (.int .i64 11)))]) 40 [] (.sc (.sl)) []
 (.sem (.buildSlice 40 1 #[(0, (.const (.int .i64 12)))]) 40 [] (.sc (.sl)) []
 (.sem (.buildSlice 40 2 #[(0, (.const (.int .i64 11))), (1, (.const (.int .i64 1)))]) 40 [] (.sc (.sl)) []
 (.sem (.buildSlice 40 2 #[(0, (.const (.int .i64 12))), (1, (.const (.int .i64 1)))]) 40 [] (.sc (.sl)) []
 (.sem (.buildSlice 40 3 #[(0, (.const (.int .i64 11))), (1, (.const (.int .i64 1))), (2, (.const (.int .i64 (-1))))]) 40 [] (.sc (.sl)) []
 (.sem (.buildSlice 40 3 #[(0, (.const (.int .i64 12))), (1, (.const (.int .i64 1))), (2, (.const (.int .i64 2)))]) 40 [] (.sc (.sl)) []
 (.sem (.buildSlice 40 1 #[(0, (.const (.int .i64 2)))]) 40 [] (.sc (.sl)) []
 (.sem (.buildSlice 40 1 #[(0, (.const (.int .i64 1)))]) 40 [] (.sc (.sl)) []
 (.sem (.buildSlice 40 1 #[(0, (.const (.int .i64 (-1))))]) 40 [] (.sc (.sl)) []
 (.sem (.buildSlice 40 1 #[(0, (.const (.int .i64 13)))]) 40 [] (.sc (.sl)) []
 (.sem (.buildSlice 40 2 #[(0, (.const (.int .i64 13))), (1, (.const (.int .i64 (-1))))]) 40 [] (.sc (.sl)) []
 (.sem (.buildSlice 146 38 #[(0, (.tmp 2)), (1, (.tmp 4)), (2, (.tmp 6)), (3, (.tmp 8)), (4, (.tmp 10)), (5, (.tmp 12)), (6, (.tmp 14)), (7, (.tmp 16)), (8, (.tmp 18)), (9, (.tmp 20)), (10, (.tmp 22)), (11, (.tmp 24)), (12, (.tmp 26)), (13, (.tmp 28)), (14, (.tmp 30)), (15, (.tmp 32)), (16, (.tmp 34)), (17, (.tmp 36)), (18, (.tmp 38)), (19, (.tmp 40)), (20, (.tmp 42)), (21, (.tmp 44)), (22, (.tmp 46)), (23, (.tmp 48)), (24, (.tmp 50)), (25, (.tmp 52)), (26, (.tmp 54)), (27, (.tmp 56)), (28, (.tmp 58)), (29, (.tmp 60)), (30, (.tmp 62)), (31, (.tmp 64)), (32, (.tmp 66)), (33, (.tmp 68)), (34, (.tmp 70)), (35, (.tmp 72)), (36, (.tmp 73)), (37, (.tmp 74))]) 146 [(2, (.ag [(.str [43]), (.atom 0)])), (4, (.ag [(.str [45]), (.atom 1)])), (6, (.ag [(.str [42]), (.atom 2)])), (8, (.ag [(.str [113, 117, 111, 116, 105, 101, 110, 116]), (.atom 3)])), (10, (.ag [(.str [114, 101, 109, 97, 105, 110, 100, 101, 114]), (.atom 4)])), (12, (.ag [(.str [60]), (.atom 5)])), (14, (.ag [(.str [61]), (.atom 6)])), (16, (.ag [(.str [101, 113, 63]), (.atom 7)])), (18, (.ag [(.str [110, 117, 108, 108, 63]), (.atom 8)])), (20, (.ag [(.str [115, 121, 109, 98, 111, 108, 63]), (.atom 9)])), (22, (.ag [(.str [99, 104, 97, 114, 63]), (.atom 10)])), (24, (.ag [(.str [105, 110, 116, 101, 103, 101, 114, 63]), (.atom 11)])), (26, (.ag [(.str [98, 111, 111, 108, 101, 97, 110, 63]), (.atom 12)])), (28, (.ag [(.str [101, 111, 102, 45, 111, 98, 106, 101, 99, 116, 63]), (.atom 13)])), (30, (.ag [(.str [112, 97, 105, 114, 63]), (.atom 14)])), (32, (.ag [(.str [118, 101, 99, 116, 111, 114, 63]), (.atom 15)])), (34, (.ag [(.str [115, 116, 114, 105, 110, 103, 63]), (.atom 16)])), (36, (.ag [(.str [112, 114, 111, 99, 101, 100, 117, 114, 101, 63]), (.atom 17)])), (38, (.ag [(.str [99, 111, 110, 115]), (.atom 18)])), (40, (.ag [(.str [99, 97, 114]), (.atom 19)])), (42, (.ag [(.str [99, 100, 114]), (.atom 20)])), (44, (.ag [(.str [115, 101, 116, 45, 99, 97, 114, 33]), (.atom 21)])), (46, (.ag [(.str [115, 101, 116, 45, 99, 100, 114, 33]), (.atom 22)])), (48, (.ag [(.str [109, 97, 107, 101, 45, 118, 101, 99, 116, 111, 114]), (.atom 23)])), (50, (.ag [(.str [109, 97, 107, 101, 45, 115, 116, 114, 105, 110, 103]), (.atom 24)])), (52, (.ag [(.str [118, 101, 99, 116, 111, 114, 45, 108, 101, 110, 103, 116, 104]), (.atom 25)])), (54, (.ag [(.str [115, 116, 114, 105, 110, 103, 45, 108, 101, 110, 103, 116, 104]), (.atom 26)])), (56, (.ag [(.str [118, 101, 99, 116, 111, 114, 45, 114, 101, 102]), (.atom 27)])), (58, (.ag [(.str [115, 116, 114, 105, 110, 103, 45, 114, 101, 102]), (.atom 28)])), (60, (.ag [(.str [118, 101, 99, 116, 111, 114, 45, 115, 101, 116, 33]), (.atom 29)])), (62, (.ag [(.str [115, 116, 114, 105, 110, 103, 45, 115, 101, 116, 33]), (.atom 30)])), (64, (.ag [(.str [99, 104, 97, 114, 45, 62, 105, 110, 116, 101, 103, 101, 114]), (.atom 31)])), (66, (.ag [(.str [105, 110, 116, 101, 103, 101, 114, 45, 62, 99, 104, 97, 114]), (.atom 32)])), (68, (.ag [(.str [37, 98, 111, 120]), (.atom 33)])), (70, (.ag [(.str [37, 117, 110, 98, 111, 120]), (.atom 34)])), (72, (.ag [(.str [37, 115, 101, 116, 45, 98, 111, 120, 33]), (.atom 35)])), (73, (.ag [(.str [118, 111, 105, 100]), (.nil 1)])), (74, (.ag [(.str [37, 117, 110, 115, 101, 116]), (.nil 1)]))] (.sc (.sl)) []
 (.leaf (.sc (.atom 36))))))))))))))))))))))))))))))))))))))))
theorem fm_scrimshawref08_Rows_eq : execF Try.prog { pub := [], nojoin := false } Try.f67 = fm_scrimshawref08_Rows := by kernel_rfl
theorem cb_scrimshawref08_Rows : callB Try.prog 67 = true := by kernel_rfl
theorem tri_scrimshawref08_Rows : TriOf Try.prog 67 Try.f67 fm_scrimshawref08_Rows := triOf Try.func67 fm_scrimshawref08_Rows_eq

/-- (*scrimshaw/scrimshawref08.Heap).Kind -/
abbrev n_scrimshawref08_Heap__Kind : FuncId := 68
def fm_scrimshawref08_Heap__Kind : Fm VE :=
 (.ite (.cmp .neq (.atom 1) (.int .i64 8))
 (.leaf (.sc (.int .i64 (-1))))
 (.chk [] (.some (.atom 0))
 (.load (.padd (.atom 0) 0) [.sl]
 (.chk [] (.inSl (.atom 4) (.atom 2))
 (.load (.padd (.elt (.atom 4) (.atom 2) 2) 0) [.int .i64]
 (.leaf (.sc (.atom 5))))))))
theorem fm_scrimshawref08_Heap__Kind_eq : execF Try.prog { pub := [], nojoin := false } Try.f68 = fm_scrimshawref08_Heap__Kind := by kernel_rfl
theorem cb_scrimshawref08_Heap__Kind : callB Try.prog 68 = true := by kernel_rfl
theorem tri_scrimshawref08_Heap__Kind : TriOf Try.prog 68 Try.f68 fm_scrimshawref08_Heap__Kind := triOf Try.func68 fm_scrimshawref08_Heap__Kind_eq

/-- scrimshaw/scrimshawref08.reckoned -/
abbrev n_scrimshawref08_reckoned : FuncId := 69
def fm_scrimshawref08_reckoned : Fm VE :=
 (.call (.fn 85) [(.sc (.atom 0)), (.sc (.ar .mul .i64 (.int .i64 8) (.atom 2))), (.sc (.ar .mul .i64 (.int .i64 8) (.atom 5)))] (.tu [(false, [.int .i64]), (false, [.int .i64])]) []
 (.ite (.cmp .eql (.atom 8) (.int .i64 10))
 (.leaf (.tu [(true, [(.int .i64 0), (.int .i64 0), (.str [])]), (false, [(.int .i64 81)])]))
 (.ite (.cmp .eql (.atom 8) (.int .i64 11))
 (.leaf (.tu [(true, [(.int .i64 0), (.int .i64 0), (.str [])]), (false, [(.int .i64 82)])]))
 (.call (.fn 86) [(.sc (.atom 7))] (.sc (.int .i64)) []
 (.call (.fn 72) [(.sc (.atom 9))] (.ag [.int .i64, .int .i64, .str]) []
 (.leaf (.tu [(true, [(.atom 10), (.atom 11), (.atom 12)]), (false, [(.int .i64 0)])])))))))
theorem fm_scrimshawref08_reckoned_eq : execF Try.prog { pub := [], nojoin := false } Try.f69 = fm_scrimshawref08_reckoned := by kernel_rfl
theorem cb_scrimshawref08_reckoned : callB Try.prog 69 = true := by kernel_rfl
theorem tri_scrimshawref08_reckoned : TriOf Try.prog 69 Try.f69 fm_scrimshawref08_reckoned := triOf Try.func69 fm_scrimshawref08_reckoned_eq

/-- scrimshaw/scrimshawref08.truth -/
abbrev n_scrimshawref08_truth : FuncId := 70
def fm_scrimshawref08_truth : Fm VE :=
 (.ite (.atom 0)
 (.leaf (.ag [(.int .i64 0), (.int .i64 1), (.str [])]))
 (.leaf (.ag [(.int .i64 0), (.int .i64 0), (.str [])])))
theorem fm_scrimshawref08_truth_eq : execF Try.prog { pub := [], nojoin := false } Try.f70 = fm_scrimshawref08_truth := by kernel_rfl
theorem cb_scrimshawref08_truth : callB Try.prog 70 = true := by kernel_rfl
theorem tri_scrimshawref08_truth : TriOf Try.prog 70 Try.f70 fm_scrimshawref08_truth := triOf Try.func70 fm_scrimshawref08_truth_eq

/-- (*scrimshaw/scrimshawref08.Heap).filled -/
abbrev n_scrimshawref08_Heap__filled : FuncId := 71
def fm_scrimshawref08_Heap__filled : Fm VE :=
 (.ite (.pick (.cmp .lss (.atom 2) (.int .i64 0)) (.bool true) (.cmp .gtr (.atom 2) (.int .i64 1000)))
 (.leaf (.tu [(true, [(.int .i64 0), (.int .i64 0), (.str [])]), (false, [(.int .i64 83)])]))
 (.sem (.buildSlice 81 0 #[]) 81 [] (.sc (.sl)) []
 (.loop 6 [.sl, .int .i64] [(.atom 6), (.int .i64 0)]
 (.ite (.cmp .lss (.atom 8) (.atom 2))
 (.sem (.buildSlice 81 1 #[(0, (.tmp 26))]) 81 [(26, (.ag [(.atom 3), (.atom 4), (.atom 5)]))] (.sc (.sl)) []
 (.sem (.call ⟨.builtin .append, #[(.tmp 25), (.tmp 27)], #[81, 81]⟩) 81 [(25, (.sc (.atom 7))), (27, (.sc (.atom 9)))] (.sc (.sl)) []
 (.next 6 [(.atom 10), (.ar .add .i64 (.atom 8) (.int .i64 1))])))
 (.call (.fn 50) [(.sc (.atom 0)), (.sc (.atom 1)), (.sc (.atom 7))] (.ag [.int .i64, .int .i64, .str]) []
 (.leaf (.tu [(true, [(.atom 9), (.atom 10), (.atom 11)]), (false, [(.int .i64 0)])])))))))
theorem fm_scrimshawref08_Heap__filled_eq : execF Try.prog { pub := [], nojoin := false } Try.f71 = fm_scrimshawref08_Heap__filled := by kernel_rfl
theorem cb_scrimshawref08_Heap__filled : callB Try.prog 71 = true := by kernel_rfl
theorem tri_scrimshawref08_Heap__filled : TriOf Try.prog 71 Try.f71 fm_scrimshawref08_Heap__filled := triOf Try.func71 fm_scrimshawref08_Heap__filled_eq

/-- scrimshaw/scrimshawref08.num -/
abbrev n_scrimshawref08_num : FuncId := 72
def fm_scrimshawref08_num : Fm VE :=
 (.leaf (.ag [(.int .i64 1), (.atom 0), (.str [])]))
theorem fm_scrimshawref08_num_eq : execF Try.prog { pub := [], nojoin := false } Try.f72 = fm_scrimshawref08_num := by kernel_rfl
theorem cb_scrimshawref08_num : callB Try.prog 72 = true := by kernel_rfl
theorem tri_scrimshawref08_num : TriOf Try.prog 72 Try.f72 fm_scrimshawref08_num := triOf Try.func72 fm_scrimshawref08_num_eq

/-- (*scrimshaw/scrimshawref08.Heap).get -/
abbrev n_scrimshawref08_Heap__get : FuncId := 73
def fm_scrimshawref08_Heap__get : Fm VE :=
 (.chk [] (.some (.atom 0))
 (.load (.padd (.atom 0) 0) [.sl]
 (.chk [] (.inSl (.atom 5) (.atom 2))
 (.load (.padd (.elt (.atom 5) (.atom 2) 2) 1) [.sl]
 (.ite (.pick (.cmp .lss (.atom 4) (.int .i64 0)) (.bool true) (.cmp .geq (.atom 4) (.len (.atom 6))))
 (.leaf (.tu [(true, [(.int .i64 0), (.int .i64 0), (.str [])]), (false, [(.int .i64 83)])]))
 (.chk [] (.inSl (.atom 6) (.atom 4))
 (.load (.elt (.atom 6) (.atom 4) 3) [.int .i64, .int .i64, .str]
 (.leaf (.tu [(true, [(.atom 7), (.atom 8), (.atom 9)]), (false, [(.int .i64 0)])])))))))))
theorem fm_scrimshawref08_Heap__get_eq : execF Try.prog { pub := [], nojoin := false } Try.f73 = fm_scrimshawref08_Heap__get := by kernel_rfl
theorem cb_scrimshawref08_Heap__get : callB Try.prog 73 = true := by kernel_rfl
theorem tri_scrimshawref08_Heap__get : TriOf Try.prog 73 Try.f73 fm_scrimshawref08_Heap__get := triOf Try.func73 fm_scrimshawref08_Heap__get_eq

/-- (*scrimshaw/scrimshawref08.Heap).put -/
abbrev n_scrimshawref08_Heap__put : FuncId := 74
def fm_scrimshawref08_Heap__put : Fm VE :=
 (.chk [] (.some (.atom 0))
 (.load (.padd (.atom 0) 0) [.sl]
 (.chk [] (.inSl (.atom 8) (.atom 2))
 (.load (.padd (.elt (.atom 8) (.atom 2) 2) 1) [.sl]
 (.ite (.pick (.cmp .lss (.atom 4) (.int .i64 0)) (.bool true) (.cmp .geq (.atom 4) (.len (.atom 9))))
 (.leaf (.tu [(true, [(.int .i64 0), (.int .i64 0), (.str [])]), (false, [(.int .i64 83)])]))
 (.chk [] (.inSl (.atom 9) (.atom 4))
 (.store (.elt (.atom 9) (.atom 4) 3) [(.atom 5), (.atom 6), (.atom 7)]
 (.leaf (.tu [(true, [(.int .i64 5), (.int .i64 0), (.str [])]), (false, [(.int .i64 0)])])))))))))
theorem fm_scrimshawref08_Heap__put_eq : execF Try.prog { pub := [], nojoin := false } Try.f74 = fm_scrimshawref08_Heap__put := by kernel_rfl
theorem cb_scrimshawref08_Heap__put : callB Try.prog 74 = true := by kernel_rfl
theorem tri_scrimshawref08_Heap__put : TriOf Try.prog 74 Try.f74 fm_scrimshawref08_Heap__put := triOf Try.func74 fm_scrimshawref08_Heap__put_eq

/-- scrimshaw/scrimshawref01.Reckon -/
abbrev n_scrimshawref01_Reckon : FuncId := 85
def fm_scrimshawref01_Reckon : Fm VE :=
 (.ite (.pick (.cmp .lss (.atom 0) (.int .i64 0)) (.bool true) (.cmp .gtr (.atom 0) (.int .i64 4)))
 (.leaf (.tu [(false, [(.int .i64 0)]), (false, [(.int .i64 1)])]))
 (.join 4 [.bool]
 (.ite (.atom 3)
 (.leaf (.tu [(false, [(.int .i64 0)]), (false, [(.int .i64 12)])]))
 (.call (.fn 86) [(.sc (.atom 1))] (.sc (.int .i64)) []
 (.call (.fn 86) [(.sc (.atom 2))] (.sc (.int .i64)) []
 (.join 9 [.int .i64, .bool]
 (.ite (.pick (.pick (.not (.atom 7)) (.bool true) (.cmp .lss (.atom 6) (.int .i64 (-1152921504606846976)))) (.bool true) (.cmp .gtr (.atom 6) (.int .i64 1152921504606846975)))
 (.leaf (.tu [(false, [(.int .i64 0)]), (false, [(.int .i64 10)])]))
 (.leaf (.tu [(false, [(.ar .mul .i64 (.int .i64 8) (.atom 6))]), (false, [(.int .i64 0)])])))
 (.ite (.cmp .eql (.atom 0) (.int .i64 0))
 (.next 9 [(.ar .add .i64 (.atom 4) (.atom 5)), (.bool true)])
 (.ite (.cmp .eql (.atom 0) (.int .i64 1))
 (.next 9 [(.ar .sub .i64 (.atom 4) (.atom 5)), (.bool true)])
 (.ite (.cmp .eql (.atom 0) (.int .i64 2))
 (.call (.fn 90) [(.sc (.atom 4)), (.sc (.atom 5))] (.tu [(false, [.int .i64]), (false, [.bool])]) []
 (.next 9 [(.atom 6), (.atom 7)]))
 (.ite (.cmp .eql (.atom 5) (.int .i64 0))
 (.leaf (.tu [(false, [(.int .i64 0)]), (false, [(.int .i64 11)])]))
 (.chk [] (.nz (.atom 5))
 (.next 9 [(.pick (.cmp .eql (.atom 0) (.int .i64 4)) (.ar .sub .i64 (.atom 4) (.ar .mul .i64 (.ar .quo .i64 (.atom 4) (.atom 5)) (.atom 5))) (.ar .quo .i64 (.atom 4) (.atom 5))), (.bool true)]))))))))))
 (.call (.fn 89) [(.sc (.atom 1))] (.sc (.int .i64)) []
 (.ite (.cmp .neq (.atom 3) (.int .i64 0))
 (.next 4 [(.bool true)])
 (.call (.fn 89) [(.sc (.atom 2))] (.sc (.int .i64)) []
 (.next 4 [(.cmp .neq (.atom 4) (.int .i64 0))]))))))
theorem fm_scrimshawref01_Reckon_eq : execF Try.prog { pub := [], nojoin := false } Try.f85 = fm_scrimshawref01_Reckon := by kernel_rfl
theorem cb_scrimshawref01_Reckon : callB Try.prog 85 = true := by kernel_rfl
theorem tri_scrimshawref01_Reckon : TriOf Try.prog 85 Try.f85 fm_scrimshawref01_Reckon := triOf Try.func85 fm_scrimshawref01_Reckon_eq

/-- scrimshaw/scrimshawref01.Value -/
abbrev n_scrimshawref01_Value : FuncId := 86
def fm_scrimshawref01_Value : Fm VE :=
 (.leaf (.sc (.pick (.cmp .lss (.ar .rem .i64 (.atom 0) (.int .i64 8)) (.int .i64 0)) (.ar .sub .i64 (.ar .quo .i64 (.atom 0) (.int .i64 8)) (.int .i64 1)) (.ar .quo .i64 (.atom 0) (.int .i64 8)))))
theorem fm_scrimshawref01_Value_eq : execF Try.prog { pub := [], nojoin := false } Try.f86 = fm_scrimshawref01_Value := by kernel_rfl
theorem cb_scrimshawref01_Value : callB Try.prog 86 = true := by kernel_rfl
theorem tri_scrimshawref01_Value : TriOf Try.prog 86 Try.f86 fm_scrimshawref01_Value := triOf Try.func86 fm_scrimshawref01_Value_eq

/-- scrimshaw/scrimshawref01.Tag -/
abbrev n_scrimshawref01_Tag : FuncId := 89
def fm_scrimshawref01_Tag : Fm VE :=
 (.leaf (.sc (.pick (.cmp .lss (.ar .rem .i64 (.atom 0) (.int .i64 8)) (.int .i64 0)) (.ar .add .i64 (.ar .rem .i64 (.atom 0) (.int .i64 8)) (.int .i64 8)) (.ar .rem .i64 (.atom 0) (.int .i64 8)))))
theorem fm_scrimshawref01_Tag_eq : execF Try.prog { pub := [], nojoin := false } Try.f89 = fm_scrimshawref01_Tag := by kernel_rfl
theorem cb_scrimshawref01_Tag : callB Try.prog 89 = true := by kernel_rfl
theorem tri_scrimshawref01_Tag : TriOf Try.prog 89 Try.f89 fm_scrimshawref01_Tag := triOf Try.func89 fm_scrimshawref01_Tag_eq

/-- scrimshaw/scrimshawref01.Times -/
abbrev n_scrimshawref01_Times : FuncId := 90
def fm_scrimshawref01_Times : Fm VE :=
 (.ite (.pick (.cmp .eql (.atom 0) (.int .i64 0)) (.bool true) (.cmp .eql (.atom 1) (.int .i64 0)))
 (.leaf (.tu [(false, [(.int .i64 0)]), (false, [(.bool true)])]))
 (.ite (.pick (.cmp .eql (.atom 0) (.int .i64 (-1))) (.bool true) (.cmp .eql (.atom 1) (.int .i64 (-1))))
 (.leaf (.tu [(false, [(.pick (.cmp .eql (.atom 0) (.int .i64 (-1))) (.ar .sub .i64 (.int .i64 0) (.atom 1)) (.ar .sub .i64 (.int .i64 0) (.atom 0)))]), (false, [(.cmp .leq (.pick (.cmp .eql (.atom 0) (.int .i64 (-1))) (.ar .sub .i64 (.int .i64 0) (.atom 1)) (.ar .sub .i64 (.int .i64 0) (.atom 0))) (.int .i64 1152921504606846975))])]))
 (.chk [] (.nz (.atom 1))
 (.chk [] (.nz (.atom 1))
 (.ite (.pick (.cmp .gtr (.atom 0) (.pick (.cmp .lss (.atom 1) (.int .i64 0)) (.ar .quo .i64 (.int .i64 (-1152921504606846976)) (.atom 1)) (.ar .quo .i64 (.int .i64 1152921504606846975) (.atom 1)))) (.bool true) (.cmp .lss (.atom 0) (.pick (.cmp .lss (.atom 1) (.int .i64 0)) (.ar .quo .i64 (.int .i64 1152921504606846975) (.atom 1)) (.ar .quo .i64 (.int .i64 (-1152921504606846976)) (.atom 1)))))
 (.leaf (.tu [(false, [(.int .i64 0)]), (false, [(.bool false)])]))
 (.leaf (.tu [(false, [(.ar .mul .i64 (.atom 0) (.atom 1))]), (false, [(.bool true)])])))))))
theorem fm_scrimshawref01_Times_eq : execF Try.prog { pub := [], nojoin := false } Try.f90 = fm_scrimshawref01_Times := by kernel_rfl
theorem cb_scrimshawref01_Times : callB Try.prog 90 = true := by kernel_rfl
theorem tri_scrimshawref01_Times : TriOf Try.prog 90 Try.f90 fm_scrimshawref01_Times := triOf Try.func90 fm_scrimshawref01_Times_eq

end Go.Proofs.Ytcfgpbmcgmkmhaa.Vc
