/-
  Texts on the way to the statement, one behind the other, without what it does not reach.
-/
import Derived.Test.YtlbbmcpppfiplaaRh
import Derived.Test.YtlbbmcpppfiplaaRows
import Derived.KernelRfl
set_option linter.unusedSimpArgs false
set_option linter.unusedVariables false
set_option maxRecDepth 100000
/-
  THE FORMULAS of the program's functions, as the executor gives them; each is checked by the kernel. Printed by a program of our own.
-/
namespace Go.Proofs.Ytlbbmcpppfiplaa.Vc
open Go
/-- what a function's formula tells of it -/
def TriOf (P : Program) (f : FuncId) (fn : Func) (fm : Fm VE) : Prop := ∀ (E : List Value) {args : Array Value} {H : PH} {R : Ending → PH → Prop}, tagsOk ((paramRS P fn).flatMap RS.tags) E = true → args.toList = packAll (paramRS P fn) E →
  den P (fun c H' => R (.panicked c) H') fm E H [] (fun ve E' H' _ => R (.returned (evV E' (fun _ => 0) ve)) H') → Tri P f args H R
theorem triOf {P : Program} {f : FuncId} {fn : Func} {fm : Fm VE} {op : Opt} (hf : P.funcs[f]? = some fn) (he : execF P op fn = fm) : TriOf P f fn fm :=
  fun E _ _ _ hE ha hd => execF_tri (op := op) hf hE ha (by rw [he]; exact hd)
/-- scrimshaw/scrimshawlaw17.LivingRead -/
abbrev n_scrimshawlaw17_LivingRead : FuncId := 6
def fm_scrimshawlaw17_LivingRead : Fm VE :=
 (.call (.fn 10) [] (.sc (.bool)) []
 (.ite (.pick (.pick (.not (.atom 6)) (.bool true) (.cmp .lss (.atom 4) (.int .i64 0))) (.bool true) (.cmp .geq (.atom 4) (.len (.atom 3))))
  (.call (.fn 10) [] (.sc (.bool)) []
  (.leaf (.sc (.atom 7))))
  (.join 3 [.ptr]
   (.chk [] (.some (.atom 7))
   (.load (.padd (.atom 7) 3) [.sl]
   (.chk [] (.inSl (.atom 3) (.atom 4))
   (.load (.padd (.elt (.atom 3) (.atom 4) 7) 0) [.sl]
   (.sem (.buildSlice 30 1 #[(0, (.tmp 42))]) 30 [(42, (.sc (.atom 5)))] (.sc (.sl)) [((.padd (.elt (.atom 3) (.atom 4) 7) 0), [(.atom 9)]), ((.padd (.atom 7) 3), [(.atom 8)])]
   (.sem (.buildSlice 34 1 #[(0, (.tmp 44))]) 34 [(44, (.ag [(.str [37, 98, 111, 120]), (.atom 5), (.atom 10), (.int .i64 0), (.int .i64 0), (.str []), (.nil 1), (.int .i64 0)]))] (.sc (.sl)) [((.padd (.elt (.atom 3) (.atom 4) 7) 0), [(.atom 9)]), ((.padd (.atom 7) 3), [(.atom 8)])]
   (.sem (.call ⟨.builtin .append, #[(.tmp 45), (.tmp 51)], #[34, 34]⟩) 34 [(45, (.sc (.atom 11))), (51, (.sc (.atom 9)))] (.sc (.sl)) [((.padd (.atom 7) 3), [(.atom 8)])]
   (.chk [] (.inSl (.atom 8) (.atom 4))
   (.store (.padd (.elt (.atom 8) (.atom 4) 7) 0) [(.atom 12)]
   (.load (.padd (.atom 7) 3) [.sl]
   (.sem (.buildSlice 22 1 #[(0, (.tmp 59))]) 22 [(59, (.ag [(.nil 1), (.int .i64 0), (.int .i64 0), (.nil 1), (.int .i64 0), (.atom 4), (.int .i64 0)]))] (.sc (.sl)) []
   (.sem (.call ⟨.builtin .append, #[(.tmp 56), (.tmp 60)], #[22, 22]⟩) 22 [(56, (.sc (.atom 13))), (60, (.sc (.atom 14)))] (.sc (.sl)) []
   (.store (.padd (.atom 7) 3) [(.atom 15)]
   (.load (.atom 7) [.int .i64, .int .i64, .int .i64, .sl]
   (.call (.fn 12) [(.ag [(.atom 16), (.atom 17), (.atom 18), (.atom 19)])] (.sc (.sl)) []
   (.call (.fn 12) [(.ag [(.atom 0), (.atom 1), (.atom 2), (.atom 3)])] (.sc (.sl)) []
   (.join 9 [.bool]
    (.ite (.atom 22)
     (.leaf (.sc (.bool false)))
     (.call (.fn 20) [(.ag [(.atom 0), (.atom 1), (.atom 2), (.atom 3)])] (.sc (.sl)) []
     (.loop 13 [.bool, .int .i64] [(.bool false), (.int .i64 0)]
      (.ite (.cmp .lss (.atom 25) (.len (.atom 21)))
       (.loop 18 [.bool, .int .i64] [(.atom 24), (.int .i64 0)]
        (.chk [] (.inSl (.atom 21) (.atom 25))
        (.load (.elt (.atom 21) (.atom 25) 1) [.sl]
        (.ite (.cmp .lss (.atom 27) (.len (.atom 28)))
         (.join 22 [.bool]
          (.ite (.atom 29)
           (.leaf (.sc (.bool false)))
           (.next 18 [(.atom 26), (.ar .add .i64 (.atom 27) (.int .i64 1))]))
          (.load (.elt (.atom 21) (.atom 25) 1) [.sl]
          (.chk [] (.inSl (.atom 29) (.atom 27))
          (.load (.elt (.atom 29) (.atom 27) 1) [.int .i64]
          (.call (.fn 19) [(.sc (.atom 23)), (.sc (.atom 30))] (.sc (.bool)) []
          (.chk [((.not (.atom 31)), false)] (.inSl (.atom 20) (.atom 25))
          (.ite (.not (.atom 31))
           (.next 22 [(.bool true)])
           (.load (.elt (.atom 20) (.atom 25) 1) [.sl]
           (.load (.elt (.atom 21) (.atom 25) 1) [.sl]
           (.chk [] (.inSl (.atom 33) (.atom 27))
           (.load (.elt (.atom 33) (.atom 27) 1) [.int .i64]
           (.call (.fn 19) [(.sc (.atom 32)), (.sc (.atom 34))] (.sc (.bool)) []
           (.next 22 [(.not (.atom 35))])))))))))))))
         (.next 13 [(.atom 26), (.ar .add .i64 (.atom 25) (.int .i64 1))])))))
       (.leaf (.sc (.bool true)))))))
    (.load (.padd (.atom 7) 3) [.sl]
    (.chk [((.pick (.cmp .neq (.len (.atom 20)) (.len (.atom 22))) (.bool true) (.cmp .neq (.len (.atom 21)) (.len (.atom 3)))), false)] (.inSl (.atom 20) (.atom 4))
    (.ite (.pick (.cmp .neq (.len (.atom 20)) (.len (.atom 22))) (.bool true) (.cmp .neq (.len (.atom 21)) (.len (.atom 3))))
     (.next 9 [(.bool true)])
     (.load (.elt (.atom 20) (.atom 4) 1) [.sl]
     (.call (.fn 19) [(.sc (.atom 23)), (.sc (.atom 5))] (.sc (.bool)) []
     (.ite (.not (.atom 24))
      (.next 9 [(.bool true)])
      (.load (.padd (.atom 7) 3) [.sl]
      (.chk [] (.inSl (.atom 20) (.ar .sub .i64 (.len (.atom 25)) (.int .i64 1)))
      (.load (.elt (.atom 20) (.ar .sub .i64 (.len (.atom 25)) (.int .i64 1)) 1) [.sl]
      (.call (.fn 19) [(.sc (.atom 26)), (.sc (.atom 5))] (.sc (.bool)) []
      (.next 9 [(.not (.atom 27))]))))))))))))))))))))))))))))
   (.both
    (.sem (.buildSlice 22 0 #[]) 22 [] (.sc (.sl)) []
    (.both
     (.sem (.call ⟨.builtin .append, #[(.tmp 33), (.tmp 35)], #[22, 22]⟩) 22 [(33, (.sc (.atom 7))), (35, (.sc (.atom 3)))] (.sc (.sl)) []
     (.new 24 [(.int .i64 0), (.int .i64 0), (.int .i64 0), (.nil 1)]
     (.store (.atom 9) [(.atom 0), (.atom 1), (.atom 2), (.atom 8)]
     (.next 3 [(.atom 9)]))))
     (.new 24 [(.int .i64 0), (.int .i64 0), (.int .i64 0), (.nil 1)]
     (.sem (.call ⟨.builtin .append, #[(.tmp 33), (.tmp 35)], #[22, 22]⟩) 22 [(33, (.sc (.atom 7))), (35, (.sc (.atom 3)))] (.sc (.sl)) []
     (.store (.atom 8) [(.atom 0), (.atom 1), (.atom 2), (.atom 9)]
     (.next 3 [(.atom 8)]))))))
    (.new 24 [(.int .i64 0), (.int .i64 0), (.int .i64 0), (.nil 1)]
    (.sem (.buildSlice 22 0 #[]) 22 [] (.sc (.sl)) []
    (.sem (.call ⟨.builtin .append, #[(.tmp 33), (.tmp 35)], #[22, 22]⟩) 22 [(33, (.sc (.atom 8))), (35, (.sc (.atom 3)))] (.sc (.sl)) []
    (.store (.atom 7) [(.atom 0), (.atom 1), (.atom 2), (.atom 9)]
    (.next 3 [(.atom 7)])))))))))
theorem fm_scrimshawlaw17_LivingRead_eq : execF Try.prog { pub := [7], nojoin := false } Try.f6 = fm_scrimshawlaw17_LivingRead := by kernel_rfl
theorem tri_scrimshawlaw17_LivingRead : TriOf Try.prog 6 Try.f6 fm_scrimshawlaw17_LivingRead := triOf Try.func6 fm_scrimshawlaw17_LivingRead_eq

/-- scrimshaw/scrimshawlaw17.fixed -/
abbrev n_scrimshawlaw17_fixed : FuncId := 10
def fm_scrimshawlaw17_fixed : Fm VE :=
 (.sem (.buildSlice 30 2 #[(0, (.const (.int .i64 0))), (1, (.const (.int .i64 1)))]) 30 [] (.sc (.sl)) []
 (.sem (.buildSlice 34 2 #[(0, (.tmp 2)), (1, (.tmp 4))]) 34 [(2, (.ag [(.str [99, 111, 110, 115, 116]), (.int .i64 1), (.nil 1), (.int .i64 0), (.int .i64 0), (.str []), (.nil 1), (.int .i64 0)])), (4, (.ag [(.str [43]), (.int .i64 2), (.atom 0), (.int .i64 0), (.int .i64 0), (.str []), (.nil 1), (.int .i64 0)]))] (.sc (.sl)) []
 (.sem (.buildSlice 22 2 #[(0, (.tmp 7)), (1, (.tmp 9))]) 22 [(7, (.ag [(.atom 1), (.int .i64 4), (.int .i64 2), (.nil 1), (.int .i64 3), (.int .i64 1), (.int .i64 0)])), (9, (.ag [(.nil 1), (.int .i64 2), (.int .i64 0), (.nil 1), (.int .i64 0), (.int .i64 0), (.int .i64 0)]))] (.sc (.sl)) []
 (.join 2 [.bool]
  (.leaf (.sc (.atom 3)))
  (.call (.fn 12) [(.ag [(.int .i64 0), (.int .i64 0), (.int .i64 4), (.atom 2)])] (.sc (.sl)) []
  (.sem (.buildSlice 30 1 #[(0, (.const (.int .i64 0)))]) 30 [] (.sc (.sl)) []
  (.sem (.buildSlice 30 1 #[(0, (.const (.int .i64 0)))]) 30 [] (.sc (.sl)) []
  (.sem (.buildSlice 27 2 #[(0, (.tmp 14)), (1, (.tmp 15))]) 27 [(14, (.sc (.atom 4))), (15, (.sc (.atom 5)))] (.sc (.sl)) []
  (.call (.fn 11) [(.sc (.atom 3)), (.sc (.atom 6))] (.sc (.bool)) []
  (.ite (.atom 7)
   (.call (.fn 17) [(.ag [(.int .i64 0), (.int .i64 0), (.int .i64 4), (.atom 2)]), (.sc (.int .i64 0))] (.sc (.sl)) []
   (.sem (.buildSlice 30 2 #[(0, (.const (.int .i64 0))), (1, (.const (.int .i64 1)))]) 30 [] (.sc (.sl)) []
   (.sem (.buildSlice 30 2 #[(0, (.const (.int .i64 0))), (1, (.const (.int .i64 2)))]) 30 [] (.sc (.sl)) []
   (.sem (.buildSlice 27 2 #[(0, (.tmp 21)), (1, (.tmp 22))]) 27 [(21, (.sc (.atom 9))), (22, (.sc (.atom 10)))] (.sc (.sl)) []
   (.call (.fn 11) [(.sc (.atom 8)), (.sc (.atom 11))] (.sc (.bool)) []
   (.ite (.atom 12)
    (.call (.fn 15) [(.ag [(.int .i64 0), (.int .i64 0), (.int .i64 4), (.atom 2)]), (.sc (.int .i64 0))] (.sc (.sl)) []
    (.sem (.buildSlice 30 1 #[(0, (.const (.int .i64 0)))]) 30 [] (.sc (.sl)) []
    (.call (.fn 14) [(.sc (.atom 13)), (.sc (.atom 14))] (.sc (.bool)) []
    (.next 2 [(.atom 15)]))))
    (.next 2 [(.bool false)])))))))
   (.next 2 [(.bool false)])))))))))))
theorem fm_scrimshawlaw17_fixed_eq : execF Try.prog { pub := [], nojoin := false } Try.f10 = fm_scrimshawlaw17_fixed := by kernel_rfl
theorem cb_scrimshawlaw17_fixed : callB Try.prog 10 = true := by kernel_rfl
theorem tri_scrimshawlaw17_fixed : TriOf Try.prog 10 Try.f10 fm_scrimshawlaw17_fixed := triOf Try.func10 fm_scrimshawlaw17_fixed_eq

/-- scrimshaw/scrimshawref17.SameAll -/
abbrev n_scrimshawref17_SameAll : FuncId := 11
def fm_scrimshawref17_SameAll : Fm VE :=
 (.ite (.cmp .neq (.len (.atom 0)) (.len (.atom 1)))
  (.leaf (.sc (.bool false)))
  (.loop 5 [.bool, .int .i64] [(.bool false), (.int .i64 0)]
   (.ite (.cmp .lss (.atom 3) (.len (.atom 0)))
    (.chk [] (.inSl (.atom 0) (.atom 3))
    (.load (.elt (.atom 0) (.atom 3) 1) [.sl]
    (.chk [] (.inSl (.atom 1) (.atom 3))
    (.load (.elt (.atom 1) (.atom 3) 1) [.sl]
    (.call (.fn 14) [(.sc (.atom 4)), (.sc (.atom 5))] (.sc (.bool)) []
    (.ite (.not (.atom 6))
     (.leaf (.sc (.bool false)))
     (.next 5 [(.atom 2), (.ar .add .i64 (.atom 3) (.int .i64 1))])))))))
    (.leaf (.sc (.bool true))))))
theorem fm_scrimshawref17_SameAll_eq : execF Try.prog { pub := [], nojoin := false } Try.f11 = fm_scrimshawref17_SameAll := by kernel_rfl
theorem cb_scrimshawref17_SameAll : callB Try.prog 11 = true := by kernel_rfl
theorem tri_scrimshawref17_SameAll : TriOf Try.prog 11 Try.f11 fm_scrimshawref17_SameAll := triOf Try.func11 fm_scrimshawref17_SameAll_eq

/-- scrimshaw/live.In -/
abbrev n_live_In : FuncId := 12
def fm_live_In : Fm VE :=
 (.call (.fn 28) [(.ag [(.atom 0), (.atom 1), (.atom 2), (.atom 3)])] (.sc (.ptr)) []
 (.chk [] (.some (.atom 4))
 (.load (.padd (.atom 4) 4) [.sl]
 (.loop 4 [.sl, .int .i64] [(.nil 1), (.int .i64 0)]
  (.ite (.cmp .lss (.atom 7) (.len (.atom 5)))
   (.chk [] (.inSl (.atom 5) (.atom 7))
   (.load (.elt (.atom 5) (.atom 7) 1) [.map]
   (.call (.fn 29) [(.sc (.atom 8))] (.sc (.sl)) []
   (.sem (.buildSlice 27 1 #[(0, (.tmp 18))]) 27 [(18, (.sc (.atom 9)))] (.sc (.sl)) []
   (.sem (.call ⟨.builtin .append, #[(.tmp 16), (.tmp 19)], #[27, 27]⟩) 27 [(16, (.sc (.atom 6))), (19, (.sc (.atom 10)))] (.sc (.sl)) []
   (.next 4 [(.atom 11), (.ar .add .i64 (.atom 7) (.int .i64 1))]))))))
   (.leaf (.sc (.atom 6))))))))
theorem fm_live_In_eq : execF Try.prog { pub := [], nojoin := false } Try.f12 = fm_live_In := by kernel_rfl
theorem cb_live_In : callB Try.prog 12 = true := by kernel_rfl
theorem tri_live_In : TriOf Try.prog 12 Try.f12 fm_live_In := triOf Try.func12 fm_live_In_eq

/-- scrimshaw/scrimshawref17.Same -/
abbrev n_scrimshawref17_Same : FuncId := 14
def fm_scrimshawref17_Same : Fm VE :=
 (.ite (.cmp .neq (.len (.atom 0)) (.len (.atom 1)))
  (.leaf (.sc (.bool false)))
  (.loop 5 [.bool, .int .i64] [(.bool false), (.int .i64 0)]
   (.ite (.cmp .lss (.atom 3) (.len (.atom 0)))
    (.chk [] (.inSl (.atom 0) (.atom 3))
    (.load (.elt (.atom 0) (.atom 3) 1) [.int .i64]
    (.chk [] (.inSl (.atom 1) (.atom 3))
    (.load (.elt (.atom 1) (.atom 3) 1) [.int .i64]
    (.ite (.cmp .neq (.atom 4) (.atom 5))
     (.leaf (.sc (.bool false)))
     (.next 5 [(.atom 2), (.ar .add .i64 (.atom 3) (.int .i64 1))]))))))
    (.leaf (.sc (.bool true))))))
theorem fm_scrimshawref17_Same_eq : execF Try.prog { pub := [], nojoin := false } Try.f14 = fm_scrimshawref17_Same := by kernel_rfl
theorem cb_scrimshawref17_Same : callB Try.prog 14 = true := by kernel_rfl
theorem tri_scrimshawref17_Same : TriOf Try.prog 14 Try.f14 fm_scrimshawref17_Same := triOf Try.func14 fm_scrimshawref17_Same_eq

/-- scrimshaw/live.Across -/
abbrev n_live_Across : FuncId := 15
def fm_live_Across : Fm VE :=
 (.ite (.pick (.cmp .lss (.atom 4) (.int .i64 0)) (.bool true) (.cmp .geq (.atom 4) (.len (.atom 3))))
  (.leaf (.sc (.nil 1)))
  (.chk [] (.inSl (.atom 3) (.atom 4))
  (.load (.padd (.elt (.atom 3) (.atom 4) 7) 1) [.int .i64, .int .i64, .sl, .int .i64, .int .i64, .int .i64]
  (.call (.fn 31) [(.ag [(.atom 5), (.atom 6), (.atom 7), (.atom 8), (.atom 9), (.atom 10)])] (.sc (.bool)) []
  (.ite (.pick (.pick (.not (.atom 11)) (.bool true) (.cmp .lss (.atom 9) (.int .i64 0))) (.bool true) (.cmp .geq (.atom 9) (.len (.atom 3))))
   (.leaf (.sc (.nil 1)))
   (.call (.fn 28) [(.ag [(.atom 0), (.atom 1), (.atom 2), (.atom 3)])] (.sc (.ptr)) []
   (.chk [] (.some (.atom 12))
   (.load (.padd (.atom 12) 4) [.sl]
   (.chk [] (.inSl (.atom 13) (.atom 9))
   (.load (.elt (.atom 13) (.atom 9) 1) [.map]
   (.call (.fn 32) [(.sc (.atom 14)), (.sc (.atom 8))] (.tu []) []
   (.call (.fn 29) [(.sc (.atom 14))] (.sc (.sl)) []
   (.leaf (.sc (.atom 15)))))))))))))))
theorem fm_live_Across_eq : execF Try.prog { pub := [], nojoin := false } Try.f15 = fm_live_Across := by kernel_rfl
theorem cb_live_Across : callB Try.prog 15 = true := by kernel_rfl
theorem tri_live_Across : TriOf Try.prog 15 Try.f15 fm_live_Across := triOf Try.func15 fm_live_Across_eq

/-- scrimshaw/live.Behind -/
abbrev n_live_Behind : FuncId := 17
def fm_live_Behind : Fm VE :=
 (.ite (.pick (.cmp .lss (.atom 4) (.int .i64 0)) (.bool true) (.cmp .geq (.atom 4) (.len (.atom 3))))
  (.leaf (.sc (.nil 1)))
  (.call (.fn 28) [(.ag [(.atom 0), (.atom 1), (.atom 2), (.atom 3)])] (.sc (.ptr)) []
  (.call (.fn 33) [(.sc (.atom 5)), (.sc (.atom 4))] (.sc (.map)) []
  (.new 65 [(.nil 2)]
  (.store (.atom 7) [(.atom 6)]
  (.new 27 [(.nil 1)]
  (.chk [] (.inSl (.atom 3) (.atom 4))
  (.load (.padd (.elt (.atom 3) (.atom 4) 7) 0) [.sl]
  (.call (.fn 34) [(.sc (.atom 9))] (.sc (.any)) []
  (.far 7 (.atom 10) [(.sc (.int .i64)), (.ag [.str, .int .i64, .sl, .int .i64, .int .i64, .str, .sl, .int .i64])]
   (.load (.atom 8) [.sl]
   (.load (.atom 7) [.map]
   (.call (.fn 29) [(.sc (.atom 21))] (.sc (.sl)) [((.atom 8), [(.atom 20)])]
   (.sem (.buildSlice 27 1 #[(0, (.tmp 33))]) 27 [(33, (.sc (.atom 22)))] (.sc (.sl)) [((.atom 8), [(.atom 20)])]
   (.sem (.call ⟨.builtin .append, #[(.tmp 31), (.tmp 34)], #[27, 27]⟩) 27 [(31, (.sc (.atom 20))), (34, (.sc (.atom 23)))] (.sc (.sl)) []
   (.store (.atom 8) [(.atom 24)]
   (.load (.atom 7) [.map]
   (.call (.fn 35) [(.sc (.atom 25)), (.ag [(.atom 12), (.atom 13), (.atom 14), (.atom 15), (.atom 16), (.atom 17), (.atom 18), (.atom 19)])] (.tu []) []
   (.next 7 [])))))))))
  (.load (.atom 8) [.sl]
  (.call (.fn 36) [(.sc (.atom 11))] (.tu []) []
  (.load (.atom 8) [.sl]
  (.leaf (.sc (.atom 12))))))))))))))))
theorem fm_live_Behind_eq : execM Try.prog { pub := [5, 6], nojoin := false, far := [(.sc (.int .i64)), (.ag [.str, .int .i64, .sl, .int .i64, .int .i64, .str, .sl, .int .i64])] } Try.f17 = fm_live_Behind := by kernel_rfl
theorem cb_live_Behind : callB Try.prog 17 = true := by kernel_rfl
theorem tri_live_Behind : TriOfM Try.prog 17 Try.f17 fm_live_Behind := triOfM Try.func17 fm_live_Behind_eq

/-- scrimshaw/scrimshawref17.Has -/
abbrev n_scrimshawref17_Has : FuncId := 19
def fm_scrimshawref17_Has : Fm VE :=
 (.loop 3 [.bool, .int .i64] [(.bool false), (.int .i64 0)]
  (.ite (.cmp .lss (.atom 3) (.len (.atom 0)))
   (.chk [] (.inSl (.atom 0) (.atom 3))
   (.load (.elt (.atom 0) (.atom 3) 1) [.int .i64]
   (.ite (.cmp .eql (.atom 4) (.atom 1))
    (.leaf (.sc (.bool true)))
    (.next 3 [(.atom 2), (.ar .add .i64 (.atom 3) (.int .i64 1))]))))
   (.leaf (.sc (.bool false)))))
theorem fm_scrimshawref17_Has_eq : execF Try.prog { pub := [], nojoin := false } Try.f19 = fm_scrimshawref17_Has := by kernel_rfl
theorem cb_scrimshawref17_Has : callB Try.prog 19 = true := by kernel_rfl
theorem tri_scrimshawref17_Has : TriOf Try.prog 19 Try.f19 fm_scrimshawref17_Has := triOf Try.func19 fm_scrimshawref17_Has_eq

/-- scrimshaw/scrimshawref17.Read -/
abbrev n_scrimshawref17_Read : FuncId := 20
def fm_scrimshawref17_Read : Fm VE :=
 (.sem (.buildSlice 30 0 #[]) 30 [] (.sc (.sl)) []
 (.loop 4 [.sl, .int .i64] [(.atom 4), (.int .i64 0)]
  (.ite (.cmp .lss (.atom 6) (.len (.atom 3)))
   (.join 7 [.sl]
    (.next 4 [(.atom 7), (.ar .add .i64 (.atom 6) (.int .i64 1))])
    (.chk [] (.inSl (.atom 3) (.atom 6))
    (.load (.elt (.atom 3) (.atom 6) 7) [.sl, .int .i64, .int .i64, .sl, .int .i64, .int .i64, .int .i64]
    (.loop 11 [.sl, .int .i64] [(.atom 5), (.int .i64 0)]
     (.ite (.cmp .lss (.atom 15) (.len (.atom 7)))
      (.loop 16 [.sl, .int .i64] [(.atom 14), (.int .i64 0)]
       (.chk [] (.inSl (.atom 7) (.atom 15))
       (.load (.padd (.elt (.atom 7) (.atom 15) 8) 2) [.sl]
       (.ite (.cmp .lss (.atom 17) (.len (.atom 18)))
        (.load (.padd (.elt (.atom 7) (.atom 15) 8) 2) [.sl]
        (.chk [] (.inSl (.atom 19) (.atom 17))
        (.load (.elt (.atom 19) (.atom 17) 1) [.int .i64]
        (.call (.fn 37) [(.sc (.atom 16)), (.sc (.atom 20))] (.sc (.sl)) []
        (.next 16 [(.atom 21), (.ar .add .i64 (.atom 17) (.int .i64 1))])))))
        (.next 11 [(.atom 16), (.ar .add .i64 (.atom 15) (.int .i64 1))])))))
      (.join 14 [.sl]
       (.ite (.pick (.cmp .eql (.atom 8) (.int .i64 3)) (.bool true) (.cmp .eql (.atom 8) (.int .i64 4)))
        (.loop 17 [.sl, .int .i64] [(.atom 16), (.int .i64 0)]
         (.ite (.cmp .lss (.atom 18) (.len (.atom 10)))
          (.chk [] (.inSl (.atom 10) (.atom 18))
          (.load (.elt (.atom 10) (.atom 18) 1) [.int .i64]
          (.call (.fn 37) [(.sc (.atom 17)), (.sc (.atom 19))] (.sc (.sl)) []
          (.next 17 [(.atom 20), (.ar .add .i64 (.atom 18) (.int .i64 1))]))))
          (.next 7 [(.atom 17)])))
        (.next 7 [(.atom 16)]))
       (.call (.fn 38) [(.ag [(.atom 8), (.atom 9), (.atom 10), (.atom 11), (.atom 12), (.atom 13)]), (.sc (.atom 9))] (.sc (.bool)) []
       (.ite (.atom 16)
        (.call (.fn 37) [(.sc (.atom 14)), (.sc (.atom 9))] (.sc (.sl)) []
        (.next 14 [(.atom 17)]))
        (.next 14 [(.atom 14)])))))))))
   (.leaf (.sc (.atom 5))))))
theorem fm_scrimshawref17_Read_eq : execF Try.prog { pub := [], nojoin := false } Try.f20 = fm_scrimshawref17_Read := by kernel_rfl
theorem cb_scrimshawref17_Read : callB Try.prog 20 = true := by kernel_rfl
theorem tri_scrimshawref17_Read : TriOf Try.prog 20 Try.f20 fm_scrimshawref17_Read := triOf Try.func20 fm_scrimshawref17_Read_eq

/-- scrimshaw/live.solved -/
abbrev n_live_solved : FuncId := 28
def fm_live_solved : Fm VE :=
 (.sem (.makeSlice 59 (.tmp 13) (.tmp 13)) 59 [(13, (.sc (.len (.atom 3)))), (13, (.sc (.len (.atom 3))))] (.sc (.sl)) []
 (.new 61 [(.atom 0), (.atom 1), (.atom 2), (.atom 3), (.atom 4)]
 (.chk [] (.some (.atom 5))
 (.load (.padd (.atom 5) 4) [.sl]
 (.loop 4 [.int .i64] [(.int .i64 0)]
  (.ite (.cmp .lss (.atom 7) (.len (.atom 6)))
   (.load (.padd (.atom 5) 4) [.sl]
   (.sem (.makeMap 65 none) 65 [] (.sc (.map)) []
   (.chk [] (.inSl (.atom 8) (.atom 7))
   (.store (.elt (.atom 8) (.atom 7) 1) [(.atom 9)]
   (.next 4 [(.ar .add .i64 (.atom 7) (.int .i64 1))])))))
   (.loop 9 [.bool] [(.bool true)]
    (.ite (.atom 8)
     (.loop 14 [.bool, .int .i64] [(.bool false), (.ar .sub .i64 (.len (.atom 3)) (.int .i64 1))]
      (.ite (.cmp .geq (.atom 10) (.int .i64 0))
       (.join 17 [.bool]
        (.next 14 [(.atom 11), (.ar .sub .i64 (.atom 10) (.int .i64 1))])
        (.call (.fn 33) [(.sc (.atom 5)), (.sc (.atom 10))] (.sc (.map)) []
        (.new 65 [(.nil 2)]
        (.store (.atom 12) [(.atom 11)]
        (.chk [] (.inSl (.atom 3) (.atom 10))
        (.load (.padd (.elt (.atom 3) (.atom 10) 7) 0) [.sl]
        (.call (.fn 34) [(.sc (.atom 13))] (.sc (.any)) []
        (.far 21 (.atom 14) [(.sc (.int .i64)), (.ag [.str, .int .i64, .sl, .int .i64, .int .i64, .str, .sl, .int .i64])]
         (.load (.atom 12) [.map]
         (.call (.fn 35) [(.sc (.atom 24)), (.ag [(.atom 16), (.atom 17), (.atom 18), (.atom 19), (.atom 20), (.atom 21), (.atom 22), (.atom 23)])] (.tu []) []
         (.next 21 [])))
        (.load (.atom 12) [.map]
        (.load (.padd (.atom 5) 4) [.sl]
        (.chk [] (.inSl (.atom 16) (.atom 10))
        (.load (.elt (.atom 16) (.atom 10) 1) [.map]
        (.sem (.call ⟨.builtin .len, #[(.tmp 57)], #[65]⟩) 3 [(57, (.sc (.atom 15)))] (.sc (.int .i64)) [((.elt (.atom 16) (.atom 10) 1), [(.atom 17)]), ((.padd (.atom 5) 4), [(.atom 16)])]
        (.sem (.call ⟨.builtin .len, #[(.tmp 65)], #[65]⟩) 3 [(65, (.sc (.atom 17)))] (.sc (.int .i64)) []
        (.ite (.cmp .neq (.atom 18) (.atom 19))
         (.load (.padd (.atom 5) 4) [.sl]
         (.load (.atom 12) [.map]
         (.chk [] (.inSl (.atom 20) (.atom 10))
         (.store (.elt (.atom 20) (.atom 10) 1) [(.atom 21)]
         (.next 17 [(.bool true)])))))
         (.next 17 [(.atom 9)]))))))))))))))))
       (.next 9 [(.atom 9)])))
     (.leaf (.sc (.atom 5)))))))))))
theorem fm_live_solved_eq : execM Try.prog { pub := [7, 16], nojoin := false, far := [(.sc (.int .i64)), (.ag [.str, .int .i64, .sl, .int .i64, .int .i64, .str, .sl, .int .i64])] } Try.f28 = fm_live_solved := by kernel_rfl
theorem cb_live_solved : callB Try.prog 28 = true := by kernel_rfl
theorem tri_live_solved : TriOfM Try.prog 28 Try.f28 fm_live_solved := triOfM Try.func28 fm_live_solved_eq

/-- (scrimshaw/live.set[int]).rising -/
abbrev n_live_set_int___rising : FuncId := 29
def fm_live_set_int___rising : Fm VE :=
 (.sem (.range 65 (.tmp 5)) 0 [(5, (.sc (.atom 0)))] (.sc (.ptr)) []
 (.loop 4 [.sl] [(.nil 1)]
  (.join 5 [.bool]
   (.ite (.atom 3)
    (.sem (.entry (.tmp 6)) 0 [(6, (.sc (.atom 1)))] (.tu [(false, [.int .i64]), (false, [.int .i64])]) []
    (.sem (.buildSlice 30 1 #[(0, (.tmp 12))]) 30 [(12, (.sc (.atom 4)))] (.sc (.sl)) []
    (.sem (.call ⟨.builtin .append, #[(.tmp 11), (.tmp 13)], #[30, 30]⟩) 30 [(11, (.sc (.atom 2))), (13, (.sc (.atom 6)))] (.sc (.sl)) []
    (.next 4 [(.atom 7)]))))
    (.call (.fn 51) [(.sc (.atom 2))] (.tu []) []
    (.leaf (.sc (.atom 2)))))
   (.alt (.next (.tmp 6) false) 0 [(6, (.sc (.atom 1)))] (.tu [(false, [.bool])]) (.tu [(false, [.bool]), (false, [.int .i64]), (false, [.int .i64])])
    (.next 5 [(.atom 3)])
    (.next 5 [(.atom 3)])))))
theorem fm_live_set_int___rising_eq : execF Try.prog { pub := [], nojoin := false } Try.f29 = fm_live_set_int___rising := by kernel_rfl
theorem cb_live_set_int___rising : callB Try.prog 29 = true := by kernel_rfl
theorem tri_live_set_int___rising : TriOf Try.prog 29 Try.f29 fm_live_set_int___rising := triOf Try.func29 fm_live_set_int___rising_eq

/-- scrimshaw/live.calls -/
abbrev n_live_calls : FuncId := 31
def fm_live_calls : Fm VE :=
 (.leaf (.sc (.pick (.cmp .eql (.atom 0) (.int .i64 4)) (.bool true) (.cmp .eql (.atom 0) (.int .i64 6)))))
theorem fm_live_calls_eq : execF Try.prog { pub := [], nojoin := false } Try.f31 = fm_live_calls := by kernel_rfl
theorem cb_live_calls : callB Try.prog 31 = true := by kernel_rfl
theorem tri_live_calls : TriOf Try.prog 31 Try.f31 fm_live_calls := triOf Try.func31 fm_live_calls_eq

/-- (scrimshaw/live.set[int]).drop -/
abbrev n_live_set_int___drop : FuncId := 32
def fm_live_set_int___drop : Fm VE :=
 (.sem (.call ⟨.builtin .delete, #[(.tmp 4), (.tmp 5)], #[65, 3]⟩) 0 [(4, (.sc (.atom 0))), (5, (.sc (.atom 1)))] (.tu []) []
 (.leaf (.tu [])))
theorem fm_live_set_int___drop_eq : execF Try.prog { pub := [], nojoin := false } Try.f32 = fm_live_set_int___drop := by kernel_rfl
theorem cb_live_set_int___drop : callB Try.prog 32 = true := by kernel_rfl
theorem tri_live_set_int___drop : TriOf Try.prog 32 Try.f32 fm_live_set_int___drop := triOf Try.func32 fm_live_set_int___drop_eq

/-- (*scrimshaw/live.flow).out -/
abbrev n_live_flow__out : FuncId := 33
def fm_live_flow__out : Fm VE :=
 (.chk [] (.some (.atom 0))
 (.load (.padd (.padd (.atom 0) 0) 3) [.sl]
 (.chk [] (.inSl (.atom 2) (.atom 1))
 (.load (.padd (.elt (.atom 2) (.atom 1) 7) 1) [.int .i64, .int .i64, .sl, .int .i64, .int .i64, .int .i64]
 (.sem (.makeMap 65 none) 65 [] (.sc (.map)) []
 (.call (.fn 53) [(.ag [(.atom 3), (.atom 4), (.atom 5), (.atom 6), (.atom 7), (.atom 8)])] (.sc (.sl)) []
 (.loop 5 [.int .i64] [(.int .i64 0)]
  (.ite (.cmp .lss (.atom 11) (.len (.atom 10)))
   (.join 8 []
    (.next 5 [(.ar .add .i64 (.atom 11) (.int .i64 1))])
    (.chk [] (.inSl (.atom 10) (.atom 11))
    (.load (.elt (.atom 10) (.atom 11) 1) [.int .i64]
    (.join 10 [.bool]
     (.ite (.atom 13)
      (.load (.padd (.atom 0) 4) [.sl]
      (.chk [] (.inSl (.atom 14) (.atom 12))
      (.load (.elt (.atom 14) (.atom 12) 1) [.map]
      (.call (.fn 54) [(.sc (.atom 9)), (.sc (.atom 15))] (.tu []) []
      (.next 8 [])))))
      (.next 8 []))
     (.ite (.cmp .geq (.atom 12) (.int .i64 0))
      (.load (.padd (.atom 0) 4) [.sl]
      (.next 10 [(.cmp .lss (.atom 12) (.len (.atom 13)))]))
      (.next 10 [(.bool false)]))))))
   (.join 8 []
    (.call (.fn 56) [(.ag [(.atom 3), (.atom 4), (.atom 5), (.atom 6), (.atom 7), (.atom 8)])] (.sc (.sl)) []
    (.call (.fn 55) [(.sc (.atom 9)), (.sc (.atom 12))] (.tu []) []
    (.leaf (.sc (.atom 9)))))
    (.call (.fn 31) [(.ag [(.atom 3), (.atom 4), (.atom 5), (.atom 6), (.atom 7), (.atom 8)])] (.sc (.bool)) []
    (.ite (.atom 12)
     (.call (.fn 32) [(.sc (.atom 9)), (.sc (.atom 6))] (.tu []) []
     (.next 8 []))
     (.next 8 []))))))))))))
theorem fm_live_flow__out_eq : execF Try.prog { pub := [], nojoin := false } Try.f33 = fm_live_flow__out := by kernel_rfl
theorem cb_live_flow__out : callB Try.prog 33 = true := by kernel_rfl
theorem tri_live_flow__out : TriOf Try.prog 33 Try.f33 fm_live_flow__out := triOf Try.func33 fm_live_flow__out_eq

/-- slices.Backward[[]scrimshaw/api.Ins,scrimshaw/api.Ins] -/
abbrev n_slices_Backward___api_Ins_api_Ins_ : FuncId := 34
def fm_slices_Backward___api_Ins_api_Ins_ : Fm VE :=
 (.new 34 [(.atom 0)]
 (.sem (.makeFunc (.func 57) #[] #[(.tmp 1)]) 71 [(1, (.sc (.atom 1)))] (.sc (.any)) []
 (.leaf (.sc (.atom 2)))))
theorem fm_slices_Backward___api_Ins_api_Ins__eq : execF Try.prog { pub := [1], nojoin := false } Try.f34 = fm_slices_Backward___api_Ins_api_Ins_ := by kernel_rfl
theorem cb_slices_Backward___api_Ins_api_Ins_ : callB Try.prog 34 = true := by kernel_rfl
theorem tri_slices_Backward___api_Ins_api_Ins_ : TriOf Try.prog 34 Try.f34 fm_slices_Backward___api_Ins_api_Ins_ := triOf Try.func34 fm_slices_Backward___api_Ins_api_Ins__eq

/-- scrimshaw/live.through -/
abbrev n_live_through : FuncId := 35
def fm_live_through : Fm VE :=
 (.join 1 []
  (.call (.fn 55) [(.sc (.atom 0)), (.sc (.atom 3))] (.tu []) []
  (.leaf (.tu [])))
  (.ite (.scmp .neq (.atom 1) (.str [116, 105, 101]))
   (.call (.fn 32) [(.sc (.atom 0)), (.sc (.atom 2))] (.tu []) []
   (.next 1 []))
   (.next 1 [])))
theorem fm_live_through_eq : execF Try.prog { pub := [], nojoin := false } Try.f35 = fm_live_through := by kernel_rfl
theorem cb_live_through : callB Try.prog 35 = true := by kernel_rfl
theorem tri_live_through : TriOf Try.prog 35 Try.f35 fm_live_through := triOf Try.func35 fm_live_through_eq

/-- slices.Reverse[[][]int,[]int] -/
abbrev n_slices_Reverse_____int___int_ : FuncId := 36
def fm_slices_Reverse_____int___int_ : Fm VE :=
 (.loop 1 [.int .i64, .int .i64] [(.int .i64 0), (.ar .sub .i64 (.len (.atom 0)) (.int .i64 1))]
  (.ite (.cmp .lss (.atom 1) (.atom 2))
   (.chk [] (.inSl (.atom 0) (.atom 2))
   (.load (.elt (.atom 0) (.atom 2) 1) [.sl]
   (.chk [] (.inSl (.atom 0) (.atom 1))
   (.load (.elt (.atom 0) (.atom 1) 1) [.sl]
   (.store (.elt (.atom 0) (.atom 1) 1) [(.atom 3)]
   (.store (.elt (.atom 0) (.atom 2) 1) [(.atom 4)]
   (.next 1 [(.ar .add .i64 (.atom 1) (.int .i64 1)), (.ar .sub .i64 (.atom 2) (.int .i64 1))])))))))
   (.leaf (.tu []))))
theorem fm_slices_Reverse_____int___int__eq : execF Try.prog { pub := [], nojoin := false } Try.f36 = fm_slices_Reverse_____int___int_ := by kernel_rfl
theorem cb_slices_Reverse_____int___int_ : callB Try.prog 36 = true := by kernel_rfl
theorem tri_slices_Reverse_____int___int_ : TriOf Try.prog 36 Try.f36 fm_slices_Reverse_____int___int_ := triOf Try.func36 fm_slices_Reverse_____int___int__eq

/-- scrimshaw/scrimshawref17.put -/
abbrev n_scrimshawref17_put : FuncId := 37
def fm_scrimshawref17_put : Fm VE :=
 (.call (.fn 19) [(.sc (.atom 0)), (.sc (.atom 1))] (.sc (.bool)) []
 (.ite (.atom 2)
  (.leaf (.sc (.atom 0)))
  (.sem (.buildSlice 30 0 #[]) 30 [] (.sc (.sl)) []
  (.loop 7 [.sl, .bool, .int .i64] [(.atom 3), (.bool false), (.int .i64 0)]
   (.ite (.cmp .lss (.atom 6) (.len (.atom 0)))
    (.join 11 [.sl, .bool]
     (.chk [] (.inSl (.atom 0) (.atom 6))
     (.load (.elt (.atom 0) (.atom 6) 1) [.int .i64]
     (.sem (.buildSlice 30 1 #[(0, (.tmp 37))]) 30 [(37, (.sc (.atom 9)))] (.sc (.sl)) []
     (.sem (.call ⟨.builtin .append, #[(.tmp 33), (.tmp 38)], #[30, 30]⟩) 30 [(33, (.sc (.atom 7))), (38, (.sc (.atom 10)))] (.sc (.sl)) []
     (.next 7 [(.atom 11), (.atom 8), (.ar .add .i64 (.atom 6) (.int .i64 1))])))))
     (.join 12 [.bool]
      (.ite (.atom 7)
       (.sem (.buildSlice 30 1 #[(0, (.tmp 30))]) 30 [(30, (.sc (.atom 1)))] (.sc (.sl)) []
       (.sem (.call ⟨.builtin .append, #[(.tmp 29), (.tmp 31)], #[30, 30]⟩) 30 [(29, (.sc (.atom 4))), (31, (.sc (.atom 8)))] (.sc (.sl)) []
       (.next 11 [(.atom 9), (.bool true)])))
       (.next 11 [(.atom 4), (.atom 5)]))
      (.chk [((.not (.atom 5)), true)] (.inSl (.atom 0) (.atom 6))
      (.ite (.not (.atom 5))
       (.load (.elt (.atom 0) (.atom 6) 1) [.int .i64]
       (.next 12 [(.cmp .lss (.atom 1) (.atom 7))]))
       (.next 12 [(.bool false)])))))
    (.join 10 [.sl]
     (.leaf (.sc (.atom 7)))
     (.ite (.not (.atom 5))
      (.sem (.buildSlice 30 1 #[(0, (.tmp 43))]) 30 [(43, (.sc (.atom 1)))] (.sc (.sl)) []
      (.sem (.call ⟨.builtin .append, #[(.tmp 42), (.tmp 44)], #[30, 30]⟩) 30 [(42, (.sc (.atom 4))), (44, (.sc (.atom 7)))] (.sc (.sl)) []
      (.next 10 [(.atom 8)])))
      (.next 10 [(.atom 4)]))))))))
theorem fm_scrimshawref17_put_eq : execF Try.prog { pub := [], nojoin := false } Try.f37 = fm_scrimshawref17_put := by kernel_rfl
theorem cb_scrimshawref17_put : callB Try.prog 37 = true := by kernel_rfl
theorem tri_scrimshawref17_put : TriOf Try.prog 37 Try.f37 fm_scrimshawref17_put := triOf Try.func37 fm_scrimshawref17_put_eq

/-- scrimshaw/scrimshawref17.Reads -/
abbrev n_scrimshawref17_Reads : FuncId := 38
def fm_scrimshawref17_Reads : Fm VE :=
 (.join 3 [.bool]
  (.ite (.atom 7)
   (.leaf (.sc (.cmp .eql (.atom 1) (.atom 6))))
   (.ite (.pick (.cmp .eql (.atom 0) (.int .i64 3)) (.cmp .eql (.atom 0) (.int .i64 3)) (.cmp .eql (.atom 0) (.int .i64 4)))
    (.join 6 [.bool]
     (.leaf (.sc (.atom 8)))
     (.ite (.cmp .eql (.atom 1) (.atom 6))
      (.next 6 [(.bool true)])
      (.call (.fn 19) [(.sc (.atom 2)), (.sc (.atom 6))] (.sc (.bool)) []
      (.next 6 [(.atom 8)]))))
    (.leaf (.sc (.bool false)))))
  (.ite (.cmp .eql (.atom 0) (.int .i64 1))
   (.next 3 [(.cmp .eql (.atom 0) (.int .i64 1))])
   (.ite (.cmp .eql (.atom 0) (.int .i64 2))
    (.next 3 [(.cmp .eql (.atom 0) (.int .i64 2))])
    (.next 3 [(.pick (.cmp .eql (.atom 0) (.int .i64 5)) (.cmp .eql (.atom 0) (.int .i64 5)) (.cmp .eql (.atom 0) (.int .i64 6)))]))))
theorem fm_scrimshawref17_Reads_eq : execF Try.prog { pub := [], nojoin := false } Try.f38 = fm_scrimshawref17_Reads := by kernel_rfl
theorem cb_scrimshawref17_Reads : callB Try.prog 38 = true := by kernel_rfl
theorem tri_scrimshawref17_Reads : TriOf Try.prog 38 Try.f38 fm_scrimshawref17_Reads := triOf Try.func38 fm_scrimshawref17_Reads_eq

/-- scrimshaw/live.leads -/
abbrev n_live_leads : FuncId := 53
def fm_live_leads : Fm VE :=
 (.join 3 [.bool]
  (.ite (.atom 6)
   (.sem (.buildSlice 30 1 #[(0, (.tmp 10))]) 30 [(10, (.sc (.atom 4)))] (.sc (.sl)) []
   (.leaf (.sc (.atom 7))))
   (.ite (.cmp .eql (.atom 0) (.int .i64 1))
    (.sem (.buildSlice 30 2 #[(0, (.tmp 15)), (1, (.tmp 17))]) 30 [(15, (.sc (.atom 4))), (17, (.sc (.atom 5)))] (.sc (.sl)) []
    (.leaf (.sc (.atom 7))))
    (.leaf (.sc (.nil 1)))))
  (.ite (.cmp .eql (.atom 0) (.int .i64 0))
   (.next 3 [(.cmp .eql (.atom 0) (.int .i64 0))])
   (.next 3 [(.pick (.cmp .eql (.atom 0) (.int .i64 4)) (.cmp .eql (.atom 0) (.int .i64 4)) (.cmp .eql (.atom 0) (.int .i64 6)))])))
theorem fm_live_leads_eq : execF Try.prog { pub := [], nojoin := false } Try.f53 = fm_live_leads := by kernel_rfl
theorem cb_live_leads : callB Try.prog 53 = true := by kernel_rfl
theorem tri_live_leads : TriOf Try.prog 53 Try.f53 fm_live_leads := triOf Try.func53 fm_live_leads_eq

/-- (scrimshaw/live.set[int]).join -/
abbrev n_live_set_int___join : FuncId := 54
def fm_live_set_int___join : Fm VE :=
 (.sem (.range 65 (.tmp 5)) 0 [(5, (.sc (.atom 1)))] (.sc (.ptr)) []
 (.loop 1 [] []
  (.join 2 [.bool]
   (.ite (.atom 3)
    (.sem (.entry (.tmp 6)) 0 [(6, (.sc (.atom 2)))] (.tu [(false, [.int .i64]), (false, [.int .i64])]) []
    (.sem (.mapUpdate 65 (.tmp 11) (.tmp 12) (.const (.int .i64 1))) 0 [(11, (.sc (.atom 0))), (12, (.sc (.atom 4)))] (.tu []) []
    (.next 1 [])))
    (.leaf (.tu [])))
   (.alt (.next (.tmp 6) false) 0 [(6, (.sc (.atom 2)))] (.tu [(false, [.bool])]) (.tu [(false, [.bool]), (false, [.int .i64]), (false, [.int .i64])])
    (.next 2 [(.atom 3)])
    (.next 2 [(.atom 3)])))))
theorem fm_live_set_int___join_eq : execF Try.prog { pub := [], nojoin := false } Try.f54 = fm_live_set_int___join := by kernel_rfl
theorem cb_live_set_int___join : callB Try.prog 54 = true := by kernel_rfl
theorem tri_live_set_int___join : TriOf Try.prog 54 Try.f54 fm_live_set_int___join := triOf Try.func54 fm_live_set_int___join_eq

/-- (scrimshaw/live.set[int]).add -/
abbrev n_live_set_int___add : FuncId := 55
def fm_live_set_int___add : Fm VE :=
 (.loop 1 [.int .i64] [(.int .i64 0)]
  (.ite (.cmp .lss (.atom 2) (.len (.atom 1)))
   (.chk [] (.inSl (.atom 1) (.atom 2))
   (.load (.elt (.atom 1) (.atom 2) 1) [.int .i64]
   (.sem (.mapUpdate 65 (.tmp 12) (.tmp 13) (.const (.int .i64 1))) 0 [(12, (.sc (.atom 0))), (13, (.sc (.atom 3)))] (.tu []) []
   (.next 1 [(.ar .add .i64 (.atom 2) (.int .i64 1))]))))
   (.leaf (.tu []))))
theorem fm_live_set_int___add_eq : execF Try.prog { pub := [], nojoin := false } Try.f55 = fm_live_set_int___add := by kernel_rfl
theorem cb_live_set_int___add : callB Try.prog 55 = true := by kernel_rfl
theorem tri_live_set_int___add : TriOf Try.prog 55 Try.f55 fm_live_set_int___add := triOf Try.func55 fm_live_set_int___add_eq

/-- scrimshaw/live.reads -/
abbrev n_live_reads : FuncId := 56
def fm_live_reads : Fm VE :=
 (.join 3 [.bool]
  (.ite (.atom 6)
   (.sem (.buildSlice 30 1 #[(0, (.tmp 11))]) 30 [(11, (.sc (.atom 1)))] (.sc (.sl)) []
   (.leaf (.sc (.atom 7))))
   (.ite (.pick (.cmp .eql (.atom 0) (.int .i64 3)) (.cmp .eql (.atom 0) (.int .i64 3)) (.cmp .eql (.atom 0) (.int .i64 4)))
    (.sem (.buildSlice 30 1 #[(0, (.tmp 17))]) 30 [(17, (.sc (.atom 1)))] (.sc (.sl)) []
    (.sem (.call ⟨.builtin .append, #[(.tmp 18), (.tmp 20)], #[30, 30]⟩) 30 [(18, (.sc (.atom 7))), (20, (.sc (.atom 2)))] (.sc (.sl)) []
    (.leaf (.sc (.atom 8)))))
    (.leaf (.sc (.nil 1)))))
  (.ite (.cmp .eql (.atom 0) (.int .i64 1))
   (.next 3 [(.cmp .eql (.atom 0) (.int .i64 1))])
   (.ite (.cmp .eql (.atom 0) (.int .i64 2))
    (.next 3 [(.cmp .eql (.atom 0) (.int .i64 2))])
    (.next 3 [(.pick (.cmp .eql (.atom 0) (.int .i64 5)) (.cmp .eql (.atom 0) (.int .i64 5)) (.cmp .eql (.atom 0) (.int .i64 6)))]))))
theorem fm_live_reads_eq : execF Try.prog { pub := [], nojoin := false } Try.f56 = fm_live_reads := by kernel_rfl
theorem cb_live_reads : callB Try.prog 56 = true := by kernel_rfl
theorem tri_live_reads : TriOf Try.prog 56 Try.f56 fm_live_reads := triOf Try.func56 fm_live_reads_eq

end Go.Proofs.Ytlbbmcpppfiplaa.Vc
/-
  A FUNCTION WITHOUT ARGUMENTS gives true, by its run.
-/
namespace Go.Proofs.Ytlbbmcpppfiplaa.Vc
open Go

theorem gives_run {P : Program} {f : FuncId} {fn : Func} {fm : Fm VE} {tab : List CK} {S0 : PH} (h : TriOf P f fn fm) (hp : tagsOk ((paramRS P fn).flatMap RS.tags) [] = true) (ha : ([] : List Value) = packAll (paramRS P fn) []) (htab : TabOk P S0 tab) (hr : runsTrue P tab fm = true) : Gives P f [] S0 (.bool true) :=
  h [] (H := S0) (R := fun e H' => e = .returned (.bool true) ∧ PH.le S0 H') hp ha (runs_true (R := fun e H' => e = .returned (.bool true) ∧ PH.le S0 H') htab hr fun H' hl => ⟨rfl, hl⟩)
end Go.Proofs.Ytlbbmcpppfiplaa.Vc
