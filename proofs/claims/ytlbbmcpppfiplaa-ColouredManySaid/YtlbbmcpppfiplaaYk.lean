/-
  Texts on the way to the statement, one behind the other, without what it does not reach.
-/
import Derived.Test.YtlbbmcpppfiplaaYj
import Derived.Test.YtlbbmcpppfiplaaRows
import Derived.KernelRfl
set_option linter.unusedSimpArgs false
set_option linter.unusedVariables false
set_option maxRecDepth 100000
/-
  THE FORMULAS of the program's functions, as the executor gives them; each is checked by the kernel. Printed by a program of our own.
-/
namespace Go.Proofs.Ytlbbmcpppfiplaa.Vc
open Go
/-- what a function's formula tells of it -/
def TriOf (P : Program) (f : FuncId) (fn : Func) (fm : Fm VE) : Prop := ∀ (E : List Value) {args : Array Value} {H : PH} {R : Ending → PH → Prop}, tagsOk ((paramRS P fn).flatMap RS.tags) E = true → args.toList = packAll (paramRS P fn) E →
  den P (fun c H' => R (.panicked c) H') fm E H [] (fun ve E' H' _ => R (.returned (evV E' (fun _ => 0) ve)) H') → Tri P f args H R
theorem triOf {P : Program} {f : FuncId} {fn : Func} {fm : Fm VE} {op : Opt} (hf : P.funcs[f]? = some fn) (he : execF P op fn = fm) : TriOf P f fn fm :=
  fun E _ _ _ hE ha hd => execF_tri (op := op) hf hE ha (by rw [he]; exact hd)
/-- the same of a closure: its captures stand behind its parameters -/
def TriOfC (P : Program) (f : FuncId) (rsl : List RS) (fm : Fm VE) : Prop := ∀ (E : List Value) {args : Array Value} {H : PH} {R : Ending → PH → Prop}, tagsOk (rsl.flatMap RS.tags) E = true → args.toList = packAll rsl E →
  den P (fun c H' => R (.panicked c) H') fm E H [] (fun ve E' H' _ => R (.returned (evV E' (fun _ => 0) ve)) H') → Tri P f args H R
theorem triOfC {P : Program} {f : FuncId} {fn : Func} {rsl : List RS} {fm : Fm VE} {op : Opt} (hf : P.funcs[f]? = some fn) (he : execFC P op fn rsl = fm) : TriOfC P f rsl fm :=
  fun E _ _ _ hE ha hd => execFC_tri (op := op) hf hE ha (by rw [he]; exact hd)

/-- scrimshaw/live.In -/
abbrev n_live_In : FuncId := 12
def fm_live_In : Fm VE :=
 (.call (.fn 28) [(.ag [(.atom 0), (.atom 1), (.atom 2), (.atom 3)])] (.sc (.ptr)) []
 (.chk [] (.some (.atom 4))
 (.load (.padd (.atom 4) 4) [.sl]
 (.loop 4 [.sl, .int .i64] [(.nil 1), (.int .i64 0)]
  (.ite (.cmp .lss (.atom 7) (.len (.atom 5)))
   (.chk [] (.inSl (.atom 5) (.atom 7))
   (.load (.elt (.atom 5) (.atom 7) 1) [.map]
   (.call (.fn 29) [(.sc (.atom 8))] (.sc (.sl)) []
   (.sem (.buildSlice 27 1 #[(0, (.tmp 18))]) 27 [(18, (.sc (.atom 9)))] (.sc (.sl)) []
   (.sem (.call ⟨.builtin .append, #[(.tmp 16), (.tmp 19)], #[27, 27]⟩) 27 [(16, (.sc (.atom 6))), (19, (.sc (.atom 10)))] (.sc (.sl)) []
   (.next 4 [(.atom 11), (.ar .add .i64 (.atom 7) (.int .i64 1))]))))))
   (.leaf (.sc (.atom 6))))))))
theorem fm_live_In_eq : execF Try.prog { pub := [], nojoin := false } Try.f12 = fm_live_In := by kernel_rfl
theorem cb_live_In : callB Try.prog 12 = true := by kernel_rfl
theorem tri_live_In : TriOf Try.prog 12 Try.f12 fm_live_In := triOf Try.func12 fm_live_In_eq

/-- scrimshaw/live.Across -/
abbrev n_live_Across : FuncId := 15
def fm_live_Across : Fm VE :=
 (.ite (.pick (.cmp .lss (.atom 4) (.int .i64 0)) (.bool true) (.cmp .geq (.atom 4) (.len (.atom 3))))
  (.leaf (.sc (.nil 1)))
  (.chk [] (.inSl (.atom 3) (.atom 4))
  (.load (.padd (.elt (.atom 3) (.atom 4) 7) 1) [.int .i64, .int .i64, .sl, .int .i64, .int .i64, .int .i64]
  (.call (.fn 31) [(.ag [(.atom 5), (.atom 6), (.atom 7), (.atom 8), (.atom 9), (.atom 10)])] (.sc (.bool)) []
  (.ite (.pick (.pick (.not (.atom 11)) (.bool true) (.cmp .lss (.atom 9) (.int .i64 0))) (.bool true) (.cmp .geq (.atom 9) (.len (.atom 3))))
   (.leaf (.sc (.nil 1)))
   (.call (.fn 28) [(.ag [(.atom 0), (.atom 1), (.atom 2), (.atom 3)])] (.sc (.ptr)) []
   (.chk [] (.some (.atom 12))
   (.load (.padd (.atom 12) 4) [.sl]
   (.chk [] (.inSl (.atom 13) (.atom 9))
   (.load (.elt (.atom 13) (.atom 9) 1) [.map]
   (.call (.fn 32) [(.sc (.atom 14)), (.sc (.atom 8))] (.tu []) []
   (.call (.fn 29) [(.sc (.atom 14))] (.sc (.sl)) []
   (.leaf (.sc (.atom 15)))))))))))))))
theorem fm_live_Across_eq : execF Try.prog { pub := [], nojoin := false } Try.f15 = fm_live_Across := by kernel_rfl
theorem cb_live_Across : callB Try.prog 15 = true := by kernel_rfl
theorem tri_live_Across : TriOf Try.prog 15 Try.f15 fm_live_Across := triOf Try.func15 fm_live_Across_eq

/-- scrimshaw/live.Behind -/
abbrev n_live_Behind : FuncId := 17
def fm_live_Behind : Fm VE :=
 (.ite (.pick (.cmp .lss (.atom 4) (.int .i64 0)) (.bool true) (.cmp .geq (.atom 4) (.len (.atom 3))))
  (.leaf (.sc (.nil 1)))
  (.call (.fn 28) [(.ag [(.atom 0), (.atom 1), (.atom 2), (.atom 3)])] (.sc (.ptr)) []
  (.call (.fn 33) [(.sc (.atom 5)), (.sc (.atom 4))] (.sc (.map)) []
  (.new 65 [(.nil 2)]
  (.store (.atom 7) [(.atom 6)]
  (.new 27 [(.nil 1)]
  (.chk [] (.inSl (.atom 3) (.atom 4))
  (.load (.padd (.elt (.atom 3) (.atom 4) 7) 0) [.sl]
  (.call (.fn 34) [(.sc (.atom 9))] (.sc (.any)) []
  (.far 7 (.atom 10) [(.sc (.int .i64)), (.ag [.str, .int .i64, .sl, .int .i64, .int .i64, .str, .sl, .int .i64])]
   (.load (.atom 8) [.sl]
   (.load (.atom 7) [.map]
   (.call (.fn 29) [(.sc (.atom 21))] (.sc (.sl)) [((.atom 8), [(.atom 20)])]
   (.sem (.buildSlice 27 1 #[(0, (.tmp 33))]) 27 [(33, (.sc (.atom 22)))] (.sc (.sl)) [((.atom 8), [(.atom 20)])]
   (.sem (.call ⟨.builtin .append, #[(.tmp 31), (.tmp 34)], #[27, 27]⟩) 27 [(31, (.sc (.atom 20))), (34, (.sc (.atom 23)))] (.sc (.sl)) []
   (.store (.atom 8) [(.atom 24)]
   (.load (.atom 7) [.map]
   (.call (.fn 35) [(.sc (.atom 25)), (.ag [(.atom 12), (.atom 13), (.atom 14), (.atom 15), (.atom 16), (.atom 17), (.atom 18), (.atom 19)])] (.tu []) []
   (.next 7 [])))))))))
  (.load (.atom 8) [.sl]
  (.call (.fn 36) [(.sc (.atom 11))] (.tu []) []
  (.load (.atom 8) [.sl]
  (.leaf (.sc (.atom 12))))))))))))))))
theorem fm_live_Behind_eq : execM Try.prog { pub := [5, 6], nojoin := false, far := [(.sc (.int .i64)), (.ag [.str, .int .i64, .sl, .int .i64, .int .i64, .str, .sl, .int .i64])] } Try.f17 = fm_live_Behind := by kernel_rfl
theorem cb_live_Behind : callB Try.prog 17 = true := by kernel_rfl
theorem tri_live_Behind : TriOfM Try.prog 17 Try.f17 fm_live_Behind := triOfM Try.func17 fm_live_Behind_eq

/-- scrimshaw/live.solved -/
abbrev n_live_solved : FuncId := 28
def fm_live_solved : Fm VE :=
 (.sem (.makeSlice 59 (.tmp 13) (.tmp 13)) 59 [(13, (.sc (.len (.atom 3)))), (13, (.sc (.len (.atom 3))))] (.sc (.sl)) []
 (.new 61 [(.atom 0), (.atom 1), (.atom 2), (.atom 3), (.atom 4)]
 (.chk [] (.some (.atom 5))
 (.load (.padd (.atom 5) 4) [.sl]
 (.loop 4 [.int .i64] [(.int .i64 0)]
  (.ite (.cmp .lss (.atom 7) (.len (.atom 6)))
   (.load (.padd (.atom 5) 4) [.sl]
   (.sem (.makeMap 65 none) 65 [] (.sc (.map)) []
   (.chk [] (.inSl (.atom 8) (.atom 7))
   (.store (.elt (.atom 8) (.atom 7) 1) [(.atom 9)]
   (.next 4 [(.ar .add .i64 (.atom 7) (.int .i64 1))])))))
   (.loop 9 [.bool] [(.bool true)]
    (.ite (.atom 8)
     (.loop 14 [.bool, .int .i64] [(.bool false), (.ar .sub .i64 (.len (.atom 3)) (.int .i64 1))]
      (.ite (.cmp .geq (.atom 10) (.int .i64 0))
       (.join 17 [.bool]
        (.next 14 [(.atom 11), (.ar .sub .i64 (.atom 10) (.int .i64 1))])
        (.call (.fn 33) [(.sc (.atom 5)), (.sc (.atom 10))] (.sc (.map)) []
        (.new 65 [(.nil 2)]
        (.store (.atom 12) [(.atom 11)]
        (.chk [] (.inSl (.atom 3) (.atom 10))
        (.load (.padd (.elt (.atom 3) (.atom 10) 7) 0) [.sl]
        (.call (.fn 34) [(.sc (.atom 13))] (.sc (.any)) []
        (.far 21 (.atom 14) [(.sc (.int .i64)), (.ag [.str, .int .i64, .sl, .int .i64, .int .i64, .str, .sl, .int .i64])]
         (.load (.atom 12) [.map]
         (.call (.fn 35) [(.sc (.atom 24)), (.ag [(.atom 16), (.atom 17), (.atom 18), (.atom 19), (.atom 20), (.atom 21), (.atom 22), (.atom 23)])] (.tu []) []
         (.next 21 [])))
        (.load (.atom 12) [.map]
        (.load (.padd (.atom 5) 4) [.sl]
        (.chk [] (.inSl (.atom 16) (.atom 10))
        (.load (.elt (.atom 16) (.atom 10) 1) [.map]
        (.sem (.call ⟨.builtin .len, #[(.tmp 57)], #[65]⟩) 3 [(57, (.sc (.atom 15)))] (.sc (.int .i64)) [((.elt (.atom 16) (.atom 10) 1), [(.atom 17)]), ((.padd (.atom 5) 4), [(.atom 16)])]
        (.sem (.call ⟨.builtin .len, #[(.tmp 65)], #[65]⟩) 3 [(65, (.sc (.atom 17)))] (.sc (.int .i64)) []
        (.ite (.cmp .neq (.atom 18) (.atom 19))
         (.load (.padd (.atom 5) 4) [.sl]
         (.load (.atom 12) [.map]
         (.chk [] (.inSl (.atom 20) (.atom 10))
         (.store (.elt (.atom 20) (.atom 10) 1) [(.atom 21)]
         (.next 17 [(.bool true)])))))
         (.next 17 [(.atom 9)]))))))))))))))))
       (.next 9 [(.atom 9)])))
     (.leaf (.sc (.atom 5)))))))))))
theorem fm_live_solved_eq : execM Try.prog { pub := [7, 16], nojoin := false, far := [(.sc (.int .i64)), (.ag [.str, .int .i64, .sl, .int .i64, .int .i64, .str, .sl, .int .i64])] } Try.f28 = fm_live_solved := by kernel_rfl
theorem cb_live_solved : callB Try.prog 28 = true := by kernel_rfl
theorem tri_live_solved : TriOfM Try.prog 28 Try.f28 fm_live_solved := triOfM Try.func28 fm_live_solved_eq

/-- (scrimshaw/live.set[int]).rising -/
abbrev n_live_set_int___rising : FuncId := 29
def fm_live_set_int___rising : Fm VE :=
 (.sem (.range 65 (.tmp 5)) 0 [(5, (.sc (.atom 0)))] (.sc (.ptr)) []
 (.loop 4 [.sl] [(.nil 1)]
  (.join 5 [.bool]
   (.ite (.atom 3)
    (.sem (.entry (.tmp 6)) 0 [(6, (.sc (.atom 1)))] (.tu [(false, [.int .i64]), (false, [.int .i64])]) []
    (.sem (.buildSlice 30 1 #[(0, (.tmp 12))]) 30 [(12, (.sc (.atom 4)))] (.sc (.sl)) []
    (.sem (.call ⟨.builtin .append, #[(.tmp 11), (.tmp 13)], #[30, 30]⟩) 30 [(11, (.sc (.atom 2))), (13, (.sc (.atom 6)))] (.sc (.sl)) []
    (.next 4 [(.atom 7)]))))
    (.call (.fn 51) [(.sc (.atom 2))] (.tu []) []
    (.leaf (.sc (.atom 2)))))
   (.alt (.next (.tmp 6) false) 0 [(6, (.sc (.atom 1)))] (.tu [(false, [.bool])]) (.tu [(false, [.bool]), (false, [.int .i64]), (false, [.int .i64])])
    (.next 5 [(.atom 3)])
    (.next 5 [(.atom 3)])))))
theorem fm_live_set_int___rising_eq : execF Try.prog { pub := [], nojoin := false } Try.f29 = fm_live_set_int___rising := by kernel_rfl
theorem cb_live_set_int___rising : callB Try.prog 29 = true := by kernel_rfl
theorem tri_live_set_int___rising : TriOf Try.prog 29 Try.f29 fm_live_set_int___rising := triOf Try.func29 fm_live_set_int___rising_eq

/-- scrimshaw/live.calls -/
abbrev n_live_calls : FuncId := 31
def fm_live_calls : Fm VE :=
 (.leaf (.sc (.pick (.cmp .eql (.atom 0) (.int .i64 4)) (.bool true) (.cmp .eql (.atom 0) (.int .i64 6)))))
theorem fm_live_calls_eq : execF Try.prog { pub := [], nojoin := false } Try.f31 = fm_live_calls := by kernel_rfl
theorem cb_live_calls : callB Try.prog 31 = true := by kernel_rfl
theorem tri_live_calls : TriOf Try.prog 31 Try.f31 fm_live_calls := triOf Try.func31 fm_live_calls_eq

/-- (scrimshaw/live.set[int]).drop -/
abbrev n_live_set_int___drop : FuncId := 32
def fm_live_set_int___drop : Fm VE :=
 (.sem (.call ⟨.builtin .delete, #[(.tmp 4), (.tmp 5)], #[65, 3]⟩) 0 [(4, (.sc (.atom 0))), (5, (.sc (.atom 1)))] (.tu []) []
 (.leaf (.tu [])))
theorem fm_live_set_int___drop_eq : execF Try.prog { pub := [], nojoin := false } Try.f32 = fm_live_set_int___drop := by kernel_rfl
theorem cb_live_set_int___drop : callB Try.prog 32 = true := by kernel_rfl
theorem tri_live_set_int___drop : TriOf Try.prog 32 Try.f32 fm_live_set_int___drop := triOf Try.func32 fm_live_set_int___drop_eq

/-- (*scrimshaw/live.flow).out -/
abbrev n_live_flow__out : FuncId := 33
def fm_live_flow__out : Fm VE :=
 (.chk [] (.some (.atom 0))
 (.load (.padd (.padd (.atom 0) 0) 3) [.sl]
 (.chk [] (.inSl (.atom 2) (.atom 1))
 (.load (.padd (.elt (.atom 2) (.atom 1) 7) 1) [.int .i64, .int .i64, .sl, .int .i64, .int .i64, .int .i64]
 (.sem (.makeMap 65 none) 65 [] (.sc (.map)) []
 (.call (.fn 53) [(.ag [(.atom 3), (.atom 4), (.atom 5), (.atom 6), (.atom 7), (.atom 8)])] (.sc (.sl)) []
 (.loop 5 [.int .i64] [(.int .i64 0)]
  (.ite (.cmp .lss (.atom 11) (.len (.atom 10)))
   (.join 8 []
    (.next 5 [(.ar .add .i64 (.atom 11) (.int .i64 1))])
    (.chk [] (.inSl (.atom 10) (.atom 11))
    (.load (.elt (.atom 10) (.atom 11) 1) [.int .i64]
    (.join 10 [.bool]
     (.ite (.atom 13)
      (.load (.padd (.atom 0) 4) [.sl]
      (.chk [] (.inSl (.atom 14) (.atom 12))
      (.load (.elt (.atom 14) (.atom 12) 1) [.map]
      (.call (.fn 54) [(.sc (.atom 9)), (.sc (.atom 15))] (.tu []) []
      (.next 8 [])))))
      (.next 8 []))
     (.ite (.cmp .geq (.atom 12) (.int .i64 0))
      (.load (.padd (.atom 0) 4) [.sl]
      (.next 10 [(.cmp .lss (.atom 12) (.len (.atom 13)))]))
      (.next 10 [(.bool false)]))))))
   (.join 8 []
    (.call (.fn 56) [(.ag [(.atom 3), (.atom 4), (.atom 5), (.atom 6), (.atom 7), (.atom 8)])] (.sc (.sl)) []
    (.call (.fn 55) [(.sc (.atom 9)), (.sc (.atom 12))] (.tu []) []
    (.leaf (.sc (.atom 9)))))
    (.call (.fn 31) [(.ag [(.atom 3), (.atom 4), (.atom 5), (.atom 6), (.atom 7), (.atom 8)])] (.sc (.bool)) []
    (.ite (.atom 12)
     (.call (.fn 32) [(.sc (.atom 9)), (.sc (.atom 6))] (.tu []) []
     (.next 8 []))
     (.next 8 []))))))))))))
theorem fm_live_flow__out_eq : execF Try.prog { pub := [], nojoin := false } Try.f33 = fm_live_flow__out := by kernel_rfl
theorem cb_live_flow__out : callB Try.prog 33 = true := by kernel_rfl
theorem tri_live_flow__out : TriOf Try.prog 33 Try.f33 fm_live_flow__out := triOf Try.func33 fm_live_flow__out_eq

/-- slices.Backward[[]scrimshaw/api.Ins,scrimshaw/api.Ins] -/
abbrev n_slices_Backward___api_Ins_api_Ins_ : FuncId := 34
def fm_slices_Backward___api_Ins_api_Ins_ : Fm VE :=
 (.new 34 [(.atom 0)]
 (.sem (.makeFunc (.func 57) #[] #[(.tmp 1)]) 71 [(1, (.sc (.atom 1)))] (.sc (.any)) []
 (.leaf (.sc (.atom 2)))))
theorem fm_slices_Backward___api_Ins_api_Ins__eq : execF Try.prog { pub := [1], nojoin := false } Try.f34 = fm_slices_Backward___api_Ins_api_Ins_ := by kernel_rfl
theorem cb_slices_Backward___api_Ins_api_Ins_ : callB Try.prog 34 = true := by kernel_rfl
theorem tri_slices_Backward___api_Ins_api_Ins_ : TriOf Try.prog 34 Try.f34 fm_slices_Backward___api_Ins_api_Ins_ := triOf Try.func34 fm_slices_Backward___api_Ins_api_Ins__eq

/-- scrimshaw/live.through -/
abbrev n_live_through : FuncId := 35
def fm_live_through : Fm VE :=
 (.join 1 []
  (.call (.fn 55) [(.sc (.atom 0)), (.sc (.atom 3))] (.tu []) []
  (.leaf (.tu [])))
  (.ite (.scmp .neq (.atom 1) (.str [116, 105, 101]))
   (.call (.fn 32) [(.sc (.atom 0)), (.sc (.atom 2))] (.tu []) []
   (.next 1 []))
   (.next 1 [])))
theorem fm_live_through_eq : execF Try.prog { pub := [], nojoin := false } Try.f35 = fm_live_through := by kernel_rfl
theorem cb_live_through : callB Try.prog 35 = true := by kernel_rfl
theorem tri_live_through : TriOf Try.prog 35 Try.f35 fm_live_through := triOf Try.func35 fm_live_through_eq

/-- slices.Reverse[[][]int,[]int] -/
abbrev n_slices_Reverse_____int___int_ : FuncId := 36
def fm_slices_Reverse_____int___int_ : Fm VE :=
 (.loop 1 [.int .i64, .int .i64] [(.int .i64 0), (.ar .sub .i64 (.len (.atom 0)) (.int .i64 1))]
  (.ite (.cmp .lss (.atom 1) (.atom 2))
   (.chk [] (.inSl (.atom 0) (.atom 2))
   (.load (.elt (.atom 0) (.atom 2) 1) [.sl]
   (.chk [] (.inSl (.atom 0) (.atom 1))
   (.load (.elt (.atom 0) (.atom 1) 1) [.sl]
   (.store (.elt (.atom 0) (.atom 1) 1) [(.atom 3)]
   (.store (.elt (.atom 0) (.atom 2) 1) [(.atom 4)]
   (.next 1 [(.ar .add .i64 (.atom 1) (.int .i64 1)), (.ar .sub .i64 (.atom 2) (.int .i64 1))])))))))
   (.leaf (.tu []))))
theorem fm_slices_Reverse_____int___int__eq : execF Try.prog { pub := [], nojoin := false } Try.f36 = fm_slices_Reverse_____int___int_ := by kernel_rfl
theorem cb_slices_Reverse_____int___int_ : callB Try.prog 36 = true := by kernel_rfl
theorem tri_slices_Reverse_____int___int_ : TriOf Try.prog 36 Try.f36 fm_slices_Reverse_____int___int_ := triOf Try.func36 fm_slices_Reverse_____int___int__eq

/-- scrimshaw/live.leads -/
abbrev n_live_leads : FuncId := 53
def fm_live_leads : Fm VE :=
 (.join 3 [.bool]
  (.ite (.atom 6)
   (.sem (.buildSlice 30 1 #[(0, (.tmp 10))]) 30 [(10, (.sc (.atom 4)))] (.sc (.sl)) []
   (.leaf (.sc (.atom 7))))
   (.ite (.cmp .eql (.atom 0) (.int .i64 1))
    (.sem (.buildSlice 30 2 #[(0, (.tmp 15)), (1, (.tmp 17))]) 30 [(15, (.sc (.atom 4))), (17, (.sc (.atom 5)))] (.sc (.sl)) []
    (.leaf (.sc (.atom 7))))
    (.leaf (.sc (.nil 1)))))
  (.ite (.cmp .eql (.atom 0) (.int .i64 0))
   (.next 3 [(.cmp .eql (.atom 0) (.int .i64 0))])
   (.next 3 [(.pick (.cmp .eql (.atom 0) (.int .i64 4)) (.cmp .eql (.atom 0) (.int .i64 4)) (.cmp .eql (.atom 0) (.int .i64 6)))])))
theorem fm_live_leads_eq : execF Try.prog { pub := [], nojoin := false } Try.f53 = fm_live_leads := by kernel_rfl
theorem cb_live_leads : callB Try.prog 53 = true := by kernel_rfl
theorem tri_live_leads : TriOf Try.prog 53 Try.f53 fm_live_leads := triOf Try.func53 fm_live_leads_eq

/-- (scrimshaw/live.set[int]).join -/
abbrev n_live_set_int___join : FuncId := 54
def fm_live_set_int___join : Fm VE :=
 (.sem (.range 65 (.tmp 5)) 0 [(5, (.sc (.atom 1)))] (.sc (.ptr)) []
 (.loop 1 [] []
  (.join 2 [.bool]
   (.ite (.atom 3)
    (.sem (.entry (.tmp 6)) 0 [(6, (.sc (.atom 2)))] (.tu [(false, [.int .i64]), (false, [.int .i64])]) []
    (.sem (.mapUpdate 65 (.tmp 11) (.tmp 12) (.const (.int .i64 1))) 0 [(11, (.sc (.atom 0))), (12, (.sc (.atom 4)))] (.tu []) []
    (.next 1 [])))
    (.leaf (.tu [])))
   (.alt (.next (.tmp 6) false) 0 [(6, (.sc (.atom 2)))] (.tu [(false, [.bool])]) (.tu [(false, [.bool]), (false, [.int .i64]), (false, [.int .i64])])
    (.next 2 [(.atom 3)])
    (.next 2 [(.atom 3)])))))
theorem fm_live_set_int___join_eq : execF Try.prog { pub := [], nojoin := false } Try.f54 = fm_live_set_int___join := by kernel_rfl
theorem cb_live_set_int___join : callB Try.prog 54 = true := by kernel_rfl
theorem tri_live_set_int___join : TriOf Try.prog 54 Try.f54 fm_live_set_int___join := triOf Try.func54 fm_live_set_int___join_eq

/-- (scrimshaw/live.set[int]).add -/
abbrev n_live_set_int___add : FuncId := 55
def fm_live_set_int___add : Fm VE :=
 (.loop 1 [.int .i64] [(.int .i64 0)]
  (.ite (.cmp .lss (.atom 2) (.len (.atom 1)))
   (.chk [] (.inSl (.atom 1) (.atom 2))
   (.load (.elt (.atom 1) (.atom 2) 1) [.int .i64]
   (.sem (.mapUpdate 65 (.tmp 12) (.tmp 13) (.const (.int .i64 1))) 0 [(12, (.sc (.atom 0))), (13, (.sc (.atom 3)))] (.tu []) []
   (.next 1 [(.ar .add .i64 (.atom 2) (.int .i64 1))]))))
   (.leaf (.tu []))))
theorem fm_live_set_int___add_eq : execF Try.prog { pub := [], nojoin := false } Try.f55 = fm_live_set_int___add := by kernel_rfl
theorem cb_live_set_int___add : callB Try.prog 55 = true := by kernel_rfl
theorem tri_live_set_int___add : TriOf Try.prog 55 Try.f55 fm_live_set_int___add := triOf Try.func55 fm_live_set_int___add_eq

/-- scrimshaw/live.reads -/
abbrev n_live_reads : FuncId := 56
def fm_live_reads : Fm VE :=
 (.join 3 [.bool]
  (.ite (.atom 6)
   (.sem (.buildSlice 30 1 #[(0, (.tmp 11))]) 30 [(11, (.sc (.atom 1)))] (.sc (.sl)) []
   (.leaf (.sc (.atom 7))))
   (.ite (.pick (.cmp .eql (.atom 0) (.int .i64 3)) (.cmp .eql (.atom 0) (.int .i64 3)) (.cmp .eql (.atom 0) (.int .i64 4)))
    (.sem (.buildSlice 30 1 #[(0, (.tmp 17))]) 30 [(17, (.sc (.atom 1)))] (.sc (.sl)) []
    (.sem (.call ⟨.builtin .append, #[(.tmp 18), (.tmp 20)], #[30, 30]⟩) 30 [(18, (.sc (.atom 7))), (20, (.sc (.atom 2)))] (.sc (.sl)) []
    (.leaf (.sc (.atom 8)))))
    (.leaf (.sc (.nil 1)))))
  (.ite (.cmp .eql (.atom 0) (.int .i64 1))
   (.next 3 [(.cmp .eql (.atom 0) (.int .i64 1))])
   (.ite (.cmp .eql (.atom 0) (.int .i64 2))
    (.next 3 [(.cmp .eql (.atom 0) (.int .i64 2))])
    (.next 3 [(.pick (.cmp .eql (.atom 0) (.int .i64 5)) (.cmp .eql (.atom 0) (.int .i64 5)) (.cmp .eql (.atom 0) (.int .i64 6)))]))))
theorem fm_live_reads_eq : execF Try.prog { pub := [], nojoin := false } Try.f56 = fm_live_reads := by kernel_rfl
theorem cb_live_reads : callB Try.prog 56 = true := by kernel_rfl
theorem tri_live_reads : TriOf Try.prog 56 Try.f56 fm_live_reads := triOf Try.func56 fm_live_reads_eq

end Go.Proofs.Ytlbbmcpppfiplaa.Vc
/-
  MORE FORMULAS of the program's functions, as the executor gives them; each is checked by the kernel. Printed by a program of our own.
-/
namespace Go.Proofs.Ytlbbmcpppfiplaa.Vc
open Go

/-- scrimshaw/scrimshawlaw18.ColouredMany -/
abbrev n_scrimshawlaw18_ColouredMany : FuncId := 9
def fm_scrimshawlaw18_ColouredMany : Fm VE :=
 (.call (.fn 21) [] (.sc (.bool)) []
 (.ite (.pick (.pick (.pick (.pick (.not (.atom 2)) (.bool true) (.cmp .lss (.atom 0) (.int .i64 1))) (.bool true) (.cmp .gtr (.atom 0) (.int .i64 40))) (.bool true) (.cmp .lss (.atom 1) (.int .i64 1))) (.bool true) (.cmp .gtr (.atom 1) (.int .i64 24)))
  (.call (.fn 21) [] (.sc (.bool)) []
  (.leaf (.sc (.atom 3))))
  (.sem (.buildSlice 22 1 #[(0, (.tmp 36))]) 22 [(36, (.ag [(.nil 1), (.int .i64 2), (.atom 0), (.nil 1), (.int .i64 0), (.int .i64 0), (.int .i64 0)]))] (.sc (.sl)) []
  (.loop 6 [.int .i64] [(.int .i64 0)]
   (.ite (.cmp .lss (.atom 4) (.atom 0))
    (.chk [] (.inSl (.atom 3) (.int .i64 0))
    (.load (.padd (.elt (.atom 3) (.int .i64 0) 7) 0) [.sl]
    (.sem (.buildSlice 34 1 #[(0, (.tmp 52))]) 34 [(52, (.ag [(.str [118, 111, 105, 100]), (.atom 4), (.nil 1), (.int .i64 0), (.int .i64 0), (.str []), (.nil 1), (.int .i64 0)]))] (.sc (.sl)) [((.padd (.elt (.atom 3) (.int .i64 0) 7) 0), [(.atom 5)])]
    (.sem (.call ⟨.builtin .append, #[(.tmp 50), (.tmp 53)], #[34, 34]⟩) 34 [(50, (.sc (.atom 5))), (53, (.sc (.atom 6)))] (.sc (.sl)) []
    (.store (.padd (.elt (.atom 3) (.int .i64 0) 7) 0) [(.atom 7)]
    (.next 6 [(.ar .add .i64 (.atom 4) (.int .i64 1))]))))))
    (.chk [] (.inSl (.atom 3) (.int .i64 0))
    (.load (.padd (.elt (.atom 3) (.int .i64 0) 7) 0) [.sl]
    (.sem (.buildSlice 30 1 #[(0, (.const (.int .i64 0)))]) 30 [] (.sc (.sl)) [((.padd (.elt (.atom 3) (.int .i64 0) 7) 0), [(.atom 5)])]
    (.sem (.buildSlice 34 1 #[(0, (.tmp 66))]) 34 [(66, (.ag [(.str [109, 111, 118, 101]), (.atom 0), (.atom 6), (.int .i64 0), (.int .i64 0), (.str []), (.nil 1), (.int .i64 0)]))] (.sc (.sl)) [((.padd (.elt (.atom 3) (.int .i64 0) 7) 0), [(.atom 5)])]
    (.sem (.call ⟨.builtin .append, #[(.tmp 63), (.tmp 67)], #[34, 34]⟩) 34 [(63, (.sc (.atom 5))), (67, (.sc (.atom 7)))] (.sc (.sl)) []
    (.store (.padd (.elt (.atom 3) (.int .i64 0) 7) 0) [(.atom 8)]
    (.loop 12 [.int .i64] [(.int .i64 1)]
     (.ite (.cmp .lss (.atom 9) (.atom 0))
      (.load (.padd (.elt (.atom 3) (.int .i64 0) 7) 0) [.sl]
      (.sem (.buildSlice 30 2 #[(0, (.tmp 84)), (1, (.tmp 85))]) 30 [(84, (.sc (.atom 0))), (85, (.sc (.atom 9)))] (.sc (.sl)) [((.padd (.elt (.atom 3) (.int .i64 0) 7) 0), [(.atom 10)])]
      (.sem (.buildSlice 34 1 #[(0, (.tmp 87))]) 34 [(87, (.ag [(.str [101, 113, 63]), (.atom 0), (.atom 11), (.int .i64 0), (.int .i64 0), (.str []), (.nil 1), (.int .i64 0)]))] (.sc (.sl)) [((.padd (.elt (.atom 3) (.int .i64 0) 7) 0), [(.atom 10)])]
      (.sem (.call ⟨.builtin .append, #[(.tmp 82), (.tmp 88)], #[34, 34]⟩) 34 [(82, (.sc (.atom 10))), (88, (.sc (.atom 12)))] (.sc (.sl)) []
      (.store (.padd (.elt (.atom 3) (.int .i64 0) 7) 0) [(.atom 13)]
      (.next 12 [(.ar .add .i64 (.atom 9) (.int .i64 1))]))))))
      (.call (.fn 24) [(.ag [(.int .i64 0), (.int .i64 0), (.ar .add .i64 (.atom 0) (.int .i64 1)), (.atom 3)]), (.sc (.atom 1))] (.tu [(false, [.sl]), (false, [.int .i64]), (false, [.int .i64])]) []
      (.ite (.pick (.cmp .neq (.atom 12) (.int .i64 0)) (.bool true) (.cmp .neq (.len (.atom 10)) (.ar .add .i64 (.atom 0) (.int .i64 1))))
       (.leaf (.sc (.bool false)))
       (.loop 20 [.bool, .int .i64] [(.bool false), (.int .i64 0)]
        (.ite (.cmp .lss (.atom 14) (.atom 0))
         (.loop 25 [.bool, .int .i64] [(.atom 13), (.int .i64 0)]
          (.ite (.cmp .lss (.atom 16) (.atom 14))
           (.chk [] (.inSl (.atom 10) (.atom 14))
           (.load (.elt (.atom 10) (.atom 14) 1) [.int .i64]
           (.chk [] (.inSl (.atom 10) (.atom 16))
           (.load (.elt (.atom 10) (.atom 16) 1) [.int .i64]
           (.ite (.cmp .eql (.atom 17) (.atom 18))
            (.leaf (.sc (.bool false)))
            (.next 25 [(.atom 15), (.ar .add .i64 (.atom 16) (.int .i64 1))]))))))
           (.next 20 [(.atom 15), (.ar .add .i64 (.atom 14) (.int .i64 1))])))
         (.leaf (.sc (.pick (.cmp .geq (.atom 11) (.pick (.cmp .gtr (.ar .sub .i64 (.atom 0) (.atom 1)) (.int .i64 0)) (.ar .sub .i64 (.atom 0) (.atom 1)) (.int .i64 0))) (.pick (.cmp .gtr (.atom 0) (.atom 1)) (.bool true) (.cmp .eql (.atom 11) (.int .i64 0))) (.bool false)))))))))))))))))))))
theorem fm_scrimshawlaw18_ColouredMany_eq : execF Try.prog { pub := [], nojoin := false } Try.f9 = fm_scrimshawlaw18_ColouredMany := by kernel_rfl
theorem tri_scrimshawlaw18_ColouredMany : TriOf Try.prog 9 Try.f9 fm_scrimshawlaw18_ColouredMany := triOf Try.func9 fm_scrimshawlaw18_ColouredMany_eq

/-- scrimshaw/scrimshawlaw18.fixed -/
abbrev n_scrimshawlaw18_fixed : FuncId := 21
def fm_scrimshawlaw18_fixed : Fm VE :=
 (.call (.fn 39) [] (.ag [.int .i64, .int .i64, .int .i64, .sl]) []
 (.call (.fn 22) [(.ag [(.atom 0), (.atom 1), (.atom 2), (.atom 3)])] (.tu [(false, [.sl]), (false, [.int .i64])]) []
 (.call (.fn 39) [] (.ag [.int .i64, .int .i64, .int .i64, .sl]) []
 (.call (.fn 24) [(.ag [(.atom 6), (.atom 7), (.atom 8), (.atom 9)]), (.sc (.int .i64 2))] (.tu [(false, [.sl]), (false, [.int .i64]), (false, [.int .i64])]) []
 (.call (.fn 39) [] (.ag [.int .i64, .int .i64, .int .i64, .sl]) []
 (.call (.fn 24) [(.ag [(.atom 13), (.atom 14), (.atom 15), (.atom 16)]), (.sc (.int .i64 1))] (.tu [(false, [.sl]), (false, [.int .i64]), (false, [.int .i64])]) []
 (.call (.fn 39) [] (.ag [.int .i64, .int .i64, .int .i64, .sl]) []
 (.call (.fn 24) [(.ag [(.atom 20), (.atom 21), (.atom 22), (.atom 23)]), (.sc (.int .i64 0))] (.tu [(false, [.sl]), (false, [.int .i64]), (false, [.int .i64])]) []
 (.join 5 [.bool]
  (.leaf (.sc (.atom 27)))
  (.chk [((.cmp .eql (.len (.atom 4)) (.int .i64 1)), true)] (.inSl (.atom 4) (.int .i64 0))
  (.ite (.cmp .eql (.len (.atom 4)) (.int .i64 1))
   (.load (.elt (.atom 4) (.int .i64 0) 2) [.int .i64, .int .i64]
   (.sem (.binOp .eql 51 (.tmp 41) (.tmp 42) 51) 4 [(41, (.ag [(.atom 27), (.atom 28)])), (42, (.ag [(.int .i64 1), (.int .i64 2)]))] (.sc (.bool)) []
   (.chk [((.pick (.pick (.atom 29) (.cmp .eql (.atom 5) (.int .i64 0)) (.bool false)) (.cmp .eql (.len (.atom 10)) (.int .i64 4)) (.bool false)), true)] (.inSl (.atom 10) (.int .i64 1))
   (.chk [((.pick (.pick (.atom 29) (.cmp .eql (.atom 5) (.int .i64 0)) (.bool false)) (.cmp .eql (.len (.atom 10)) (.int .i64 4)) (.bool false)), true)] (.inSl (.atom 10) (.int .i64 2))
   (.ite (.pick (.pick (.atom 29) (.cmp .eql (.atom 5) (.int .i64 0)) (.bool false)) (.cmp .eql (.len (.atom 10)) (.int .i64 4)) (.bool false))
    (.load (.elt (.atom 10) (.int .i64 1) 1) [.int .i64]
    (.load (.elt (.atom 10) (.int .i64 2) 1) [.int .i64]
    (.next 5 [(.pick (.pick (.pick (.pick (.pick (.cmp .neq (.atom 30) (.atom 31)) (.cmp .eql (.atom 11) (.int .i64 0)) (.bool false)) (.cmp .eql (.atom 12) (.int .i64 0)) (.bool false)) (.cmp .eql (.atom 18) (.int .i64 1)) (.bool false)) (.cmp .eql (.atom 19) (.int .i64 0)) (.bool false)) (.cmp .eql (.atom 26) (.int .i64 1)) (.bool false))])))
    (.next 5 [(.bool false)]))))))
   (.next 5 [(.bool false)]))))))))))))
theorem fm_scrimshawlaw18_fixed_eq : execF Try.prog { pub := [], nojoin := false } Try.f21 = fm_scrimshawlaw18_fixed := by kernel_rfl
theorem cb_scrimshawlaw18_fixed : callB Try.prog 21 = true := by kernel_rfl
theorem tri_scrimshawlaw18_fixed : TriOf Try.prog 21 Try.f21 fm_scrimshawlaw18_fixed := triOf Try.func21 fm_scrimshawlaw18_fixed_eq

/-- scrimshaw/color.Edges -/
abbrev n_color_Edges : FuncId := 22
def fm_color_Edges : Fm VE :=
 (.call (.fn 40) [(.ag [(.atom 0), (.atom 1), (.atom 2), (.atom 3)])] (.sc (.bool)) []
 (.ite (.not (.atom 4))
  (.leaf (.tu [(false, [(.nil 1)]), (false, [(.int .i64 150)])]))
  (.call (.fn 41) [(.ag [(.atom 0), (.atom 1), (.atom 2), (.atom 3)])] (.sc (.map)) []
  (.sem (.range 80 (.tmp 12)) 0 [(12, (.sc (.atom 5)))] (.sc (.ptr)) []
  (.loop 6 [.sl] [(.nil 1)]
   (.join 7 [.bool]
    (.ite (.atom 8)
     (.sem (.entry (.tmp 13)) 0 [(13, (.sc (.atom 6)))] (.tu [(false, [.int .i64]), (false, [.map])]) []
     (.sem (.range 64 (.tmp 19)) 0 [(19, (.sc (.atom 10)))] (.sc (.ptr)) []
     (.loop 11 [.sl] [(.atom 7)]
      (.join 12 [.bool]
       (.ite (.atom 13)
        (.sem (.entry (.tmp 20)) 0 [(20, (.sc (.atom 11)))] (.tu [(false, [.int .i64]), (false, [.int .i64])]) []
        (.ite (.cmp .lss (.atom 9) (.atom 14))
         (.sem (.buildSlice 47 1 #[(0, (.tmp 31))]) 47 [(31, (.ag [(.atom 9), (.atom 14)]))] (.sc (.sl)) []
         (.sem (.call ⟨.builtin .append, #[(.tmp 28), (.tmp 32)], #[47, 47]⟩) 47 [(28, (.sc (.atom 12))), (32, (.sc (.atom 16)))] (.sc (.sl)) []
         (.next 11 [(.atom 17)])))
         (.next 11 [(.atom 12)])))
        (.next 6 [(.atom 12)]))
       (.alt (.next (.tmp 20) false) 0 [(20, (.sc (.atom 11)))] (.tu [(false, [.bool])]) (.tu [(false, [.bool]), (false, [.int .i64]), (false, [.int .i64])])
        (.next 12 [(.atom 13)])
        (.next 12 [(.atom 13)]))))))
     (.call (.fn 42) [(.sc (.atom 7)), (.sc (.fn 43))] (.tu []) []
     (.leaf (.tu [(false, [(.atom 7)]), (false, [(.int .i64 0)])]))))
    (.alt (.next (.tmp 13) false) 0 [(13, (.sc (.atom 6)))] (.tu [(false, [.bool])]) (.tu [(false, [.bool]), (false, [.int .i64]), (false, [.map])])
     (.next 7 [(.atom 8)])
     (.next 7 [(.atom 8)]))))))))
theorem fm_color_Edges_eq : execF Try.prog { pub := [], nojoin := false } Try.f22 = fm_color_Edges := by kernel_rfl
theorem cb_color_Edges : callB Try.prog 22 = true := by kernel_rfl
theorem tri_color_Edges : TriOf Try.prog 22 Try.f22 fm_color_Edges := triOf Try.func22 fm_color_Edges_eq

/-- scrimshaw/color.Color -/
abbrev n_color_Color : FuncId := 24
def fm_color_Color : Fm VE :=
 (.ite (.pick (.cmp .lss (.atom 4) (.int .i64 1)) (.bool true) (.cmp .gtr (.atom 4) (.int .i64 24)))
  (.leaf (.tu [(false, [(.nil 1)]), (false, [(.int .i64 0)]), (false, [(.int .i64 1)])]))
  (.call (.fn 40) [(.ag [(.atom 0), (.atom 1), (.atom 2), (.atom 3)])] (.sc (.bool)) []
  (.ite (.not (.atom 5))
   (.leaf (.tu [(false, [(.nil 1)]), (false, [(.int .i64 0)]), (false, [(.int .i64 150)])]))
   (.call (.fn 41) [(.ag [(.atom 0), (.atom 1), (.atom 2), (.atom 3)])] (.sc (.map)) []
   (.sem (.buildSlice 30 1 #[(0, (.const (.int .i64 (-1))))]) 30 [] (.sc (.sl)) []
   (.call (.fn 46) [(.sc (.atom 7)), (.sc (.atom 2))] (.sc (.sl)) []
   (.call (.fn 47) [(.sc (.atom 6)), (.sc (.atom 2)), (.sc (.atom 4))] (.sc (.sl)) []
   (.loop 10 [.int .i64, .int .i64] [(.atom 4), (.int .i64 0)]
    (.ite (.cmp .lss (.atom 11) (.len (.atom 9)))
     (.chk [] (.inSl (.atom 9) (.atom 11))
     (.load (.elt (.atom 9) (.atom 11) 1) [.int .i64]
     (.sem (.makeMap 64 none) 64 [] (.sc (.map)) []
     (.sem (.lookup 80 (.tmp 42) (.tmp 43) false) 64 [(42, (.sc (.atom 6))), (43, (.sc (.atom 12)))] (.sc (.map)) []
     (.sem (.range 64 (.tmp 44)) 0 [(44, (.sc (.atom 14)))] (.sc (.ptr)) []
     (.loop 18 [] []
      (.join 19 [.bool]
       (.ite (.atom 16)
        (.sem (.entry (.tmp 45)) 0 [(45, (.sc (.atom 15)))] (.tu [(false, [.int .i64]), (false, [.int .i64])]) []
        (.chk [] (.inSl (.atom 8) (.atom 17))
        (.load (.elt (.atom 8) (.atom 17) 1) [.int .i64]
        (.sem (.mapUpdate 64 (.tmp 50) (.tmp 54) (.const (.int .i64 1))) 0 [(50, (.sc (.atom 13))), (54, (.sc (.atom 19)))] (.tu []) []
        (.next 18 [])))))
        (.loop 23 [.int .i64] [(.int .i64 0)]
         (.sem (.lookup 64 (.tmp 55) (.tmp 56) false) 3 [(55, (.sc (.atom 13))), (56, (.sc (.atom 17)))] (.sc (.int .i64)) []
         (.ite (.cmp .eql (.atom 18) (.int .i64 1))
          (.next 23 [(.ar .add .i64 (.atom 17) (.int .i64 1))])
          (.chk [] (.inSl (.atom 8) (.atom 12))
          (.store (.elt (.atom 8) (.atom 12) 1) [(.atom 17)]
          (.next 10 [(.pick (.cmp .gtr (.ar .add .i64 (.atom 17) (.int .i64 1)) (.atom 10)) (.ar .add .i64 (.atom 17) (.int .i64 1)) (.atom 10)), (.ar .add .i64 (.atom 11) (.int .i64 1))])))))))
       (.alt (.next (.tmp 45) false) 0 [(45, (.sc (.atom 15)))] (.tu [(false, [.bool])]) (.tu [(false, [.bool]), (false, [.int .i64]), (false, [.int .i64])])
        (.next 19 [(.atom 16)])
        (.next 19 [(.atom 16)])))))))))
     (.leaf (.tu [(false, [(.atom 8)]), (false, [(.ar .sub .i64 (.atom 10) (.atom 4))]), (false, [(.int .i64 0)])])))))))))))
theorem fm_color_Color_eq : execF Try.prog { pub := [], nojoin := false } Try.f24 = fm_color_Color := by kernel_rfl
theorem cb_color_Color : callB Try.prog 24 = true := by kernel_rfl
theorem tri_color_Color : TriOf Try.prog 24 Try.f24 fm_color_Color := triOf Try.func24 fm_color_Color_eq

/-- scrimshaw/scrimshawlaw18.sample -/
abbrev n_scrimshawlaw18_sample : FuncId := 39
def fm_scrimshawlaw18_sample : Fm VE :=
 (.sem (.buildSlice 30 2 #[(0, (.const (.int .i64 1))), (1, (.const (.int .i64 2)))]) 30 [] (.sc (.sl)) []
 (.sem (.buildSlice 34 3 #[(0, (.tmp 1)), (1, (.tmp 2)), (2, (.tmp 4))]) 34 [(1, (.ag [(.str [99, 111, 110, 115, 116]), (.int .i64 1), (.nil 1), (.int .i64 0), (.int .i64 0), (.str []), (.nil 1), (.int .i64 0)])), (2, (.ag [(.str [99, 111, 110, 115, 116]), (.int .i64 2), (.nil 1), (.int .i64 0), (.int .i64 0), (.str []), (.nil 1), (.int .i64 0)])), (4, (.ag [(.str [43]), (.int .i64 3), (.atom 0), (.int .i64 0), (.int .i64 0), (.str []), (.nil 1), (.int .i64 0)]))] (.sc (.sl)) []
 (.sem (.buildSlice 22 1 #[(0, (.tmp 7))]) 22 [(7, (.ag [(.atom 1), (.int .i64 2), (.int .i64 3), (.nil 1), (.int .i64 0), (.int .i64 0), (.int .i64 0)]))] (.sc (.sl)) []
 (.leaf (.ag [(.int .i64 0), (.int .i64 0), (.int .i64 4), (.atom 2)])))))
theorem fm_scrimshawlaw18_sample_eq : execF Try.prog { pub := [], nojoin := false } Try.f39 = fm_scrimshawlaw18_sample := by kernel_rfl
theorem cb_scrimshawlaw18_sample : callB Try.prog 39 = true := by kernel_rfl
theorem tri_scrimshawlaw18_sample : TriOf Try.prog 39 Try.f39 fm_scrimshawlaw18_sample := triOf Try.func39 fm_scrimshawlaw18_sample_eq

/-- scrimshaw/color.may -/
abbrev n_color_may : FuncId := 40
def fm_color_may : Fm VE :=
 (.new 24 [(.atom 0), (.atom 1), (.atom 2), (.atom 3)]
 (.join 2 [.bool]
  (.ite (.atom 5)
   (.leaf (.sc (.bool false)))
   (.new 4 [(.bool false)]
   (.store (.atom 6) [(.bool true)]
   (.sem (.makeFunc (.func 58) #[] #[(.tmp 3), (.tmp 1)]) 97 [(3, (.sc (.atom 6))), (1, (.sc (.atom 4)))] (.sc (.any)) []
   (.chk [] (.some (.atom 4))
   (.load (.padd (.atom 4) 3) [.sl]
   (.loop 7 [.int .i64] [(.int .i64 0)]
    (.ite (.cmp .lss (.atom 9) (.len (.atom 8)))
     (.join 10 []
      (.next 7 [(.ar .add .i64 (.atom 9) (.int .i64 1))])
      (.chk [] (.inSl (.atom 8) (.atom 9))
      (.load (.elt (.atom 8) (.atom 9) 7) [.sl, .int .i64, .int .i64, .sl, .int .i64, .int .i64, .int .i64]
      (.loop 14 [.int .i64] [(.int .i64 0)]
       (.ite (.cmp .lss (.atom 17) (.len (.atom 10)))
        (.join 17 []
         (.next 14 [(.ar .add .i64 (.atom 17) (.int .i64 1))])
         (.chk [] (.inSl (.atom 10) (.atom 17))
         (.load (.elt (.atom 10) (.atom 17) 8) [.str, .int .i64, .sl, .int .i64, .int .i64, .str, .sl, .int .i64]
         (.call (.atom 7) [(.sc (.atom 20))] (.tu []) []
         (.ite (.scmp .neq (.atom 18) (.str [116, 105, 101]))
          (.sem (.buildSlice 30 1 #[(0, (.tmp 60))]) 30 [(60, (.sc (.atom 19)))] (.sc (.sl)) []
          (.call (.atom 7) [(.sc (.atom 26))] (.tu []) []
          (.next 17 [])))
          (.next 17 []))))))
        (.join 19 [.bool]
         (.ite (.atom 18)
          (.sem (.buildSlice 30 1 #[(0, (.tmp 74))]) 30 [(74, (.sc (.atom 12)))] (.sc (.sl)) []
          (.call (.atom 7) [(.sc (.atom 19))] (.tu []) []
          (.next 10 [])))
          (.ite (.cmp .eql (.atom 11) (.int .i64 3))
           (.sem (.buildSlice 30 1 #[(0, (.tmp 81))]) 30 [(81, (.sc (.atom 12)))] (.sc (.sl)) []
           (.sem (.call ⟨.builtin .append, #[(.tmp 82), (.tmp 84)], #[30, 30]⟩) 30 [(82, (.sc (.atom 19))), (84, (.sc (.atom 13)))] (.sc (.sl)) []
           (.call (.atom 7) [(.sc (.atom 20))] (.tu []) []
           (.next 10 []))))
           (.ite (.cmp .eql (.atom 11) (.int .i64 4))
            (.sem (.buildSlice 30 2 #[(0, (.tmp 91)), (1, (.tmp 93))]) 30 [(91, (.sc (.atom 12))), (93, (.sc (.atom 14)))] (.sc (.sl)) []
            (.sem (.call ⟨.builtin .append, #[(.tmp 94), (.tmp 96)], #[30, 30]⟩) 30 [(94, (.sc (.atom 19))), (96, (.sc (.atom 13)))] (.sc (.sl)) []
            (.call (.atom 7) [(.sc (.atom 20))] (.tu []) []
            (.next 10 []))))
            (.ite (.cmp .eql (.atom 11) (.int .i64 6))
             (.sem (.buildSlice 30 2 #[(0, (.tmp 103)), (1, (.tmp 105))]) 30 [(103, (.sc (.atom 12))), (105, (.sc (.atom 14)))] (.sc (.sl)) []
             (.call (.atom 7) [(.sc (.atom 19))] (.tu []) []
             (.next 10 [])))
             (.next 10 [])))))
         (.ite (.cmp .eql (.atom 11) (.int .i64 1))
          (.next 19 [(.cmp .eql (.atom 11) (.int .i64 1))])
          (.next 19 [(.pick (.cmp .eql (.atom 11) (.int .i64 2)) (.cmp .eql (.atom 11) (.int .i64 2)) (.cmp .eql (.atom 11) (.int .i64 5)))]))))))))
     (.load (.atom 6) [.bool]
     (.leaf (.sc (.atom 10))))))))))))
  (.chk [] (.some (.atom 4))
  (.load (.padd (.atom 4) 2) [.int .i64]
  (.ite (.cmp .lss (.atom 5) (.int .i64 0))
   (.next 2 [(.bool true)])
   (.load (.padd (.atom 4) 2) [.int .i64]
   (.ite (.cmp .gtr (.atom 6) (.int .i64 2000))
    (.next 2 [(.bool true)])
    (.load (.padd (.atom 4) 0) [.int .i64]
    (.ite (.cmp .lss (.atom 7) (.int .i64 0))
     (.next 2 [(.bool true)])
     (.load (.padd (.atom 4) 0) [.int .i64]
     (.load (.padd (.atom 4) 2) [.int .i64]
     (.ite (.cmp .gtr (.atom 8) (.atom 9))
      (.next 2 [(.bool true)])
      (.load (.padd (.atom 4) 3) [.sl]
      (.next 2 [(.cmp .eql (.len (.atom 10)) (.int .i64 0))]))))))))))))))
theorem fm_color_may_eq : execF Try.prog { pub := [1, 3], nojoin := false } Try.f40 = fm_color_may := by kernel_rfl
theorem cb_color_may : callB Try.prog 40 = true := by kernel_rfl
theorem tri_color_may : TriOf Try.prog 40 Try.f40 fm_color_may := triOf Try.func40 fm_color_may_eq

/-- scrimshaw/color.meets -/
abbrev n_color_meets : FuncId := 41
def fm_color_meets : Fm VE :=
 (.sem (.makeMap 80 none) 80 [] (.sc (.map)) []
 (.call (.fn 12) [(.ag [(.atom 0), (.atom 1), (.atom 2), (.atom 3)])] (.sc (.sl)) []
 (.chk [] (.inSl (.atom 5) (.int .i64 0))
 (.load (.elt (.atom 5) (.int .i64 0) 1) [.sl]
 (.loop 5 [.int .i64] [(.int .i64 0)]
  (.ite (.cmp .lss (.atom 7) (.len (.atom 6)))
   (.chk [] (.inSl (.atom 6) (.atom 7))
   (.load (.elt (.atom 6) (.atom 7) 1) [.int .i64]
   (.load (.elt (.atom 5) (.int .i64 0) 1) [.sl]
   (.chk [] (.sub (.cap (.atom 9)) (.int .i64 0) (.atom 7))
   (.loop 11 [.int .i64] [(.int .i64 0)]
    (.ite (.cmp .lss (.atom 10) (.len (.sls (.atom 9) (.int .i64 0) (.atom 7) 1)))
     (.chk [] (.inSl (.sls (.atom 9) (.int .i64 0) (.atom 7) 1) (.atom 10))
     (.load (.elt (.sls (.atom 9) (.int .i64 0) (.atom 7) 1) (.atom 10) 1) [.int .i64]
     (.call (.fn 59) [(.sc (.atom 4)), (.sc (.atom 8)), (.sc (.atom 11))] (.tu []) []
     (.next 11 [(.ar .add .i64 (.atom 10) (.int .i64 1))]))))
     (.next 5 [(.ar .add .i64 (.atom 7) (.int .i64 1))])))))))
   (.loop 10 [.int .i64] [(.int .i64 0)]
    (.ite (.cmp .lss (.atom 8) (.len (.atom 3)))
     (.join 13 []
      (.next 10 [(.ar .add .i64 (.atom 8) (.int .i64 1))])
      (.chk [] (.inSl (.atom 3) (.atom 8))
      (.load (.elt (.atom 3) (.atom 8) 7) [.sl, .int .i64, .int .i64, .sl, .int .i64, .int .i64, .int .i64]
      (.call (.fn 17) [(.ag [(.atom 0), (.atom 1), (.atom 2), (.atom 3)]), (.sc (.atom 8))] (.sc (.sl)) []
      (.loop 17 [.int .i64] [(.int .i64 0)]
       (.ite (.cmp .lss (.atom 17) (.len (.atom 16)))
        (.join 20 []
         (.next 17 [(.ar .add .i64 (.atom 17) (.int .i64 1))])
         (.chk [] (.inSl (.atom 16) (.atom 17))
         (.load (.elt (.atom 16) (.atom 17) 1) [.sl]
         (.chk [] (.inSl (.atom 9) (.atom 17))
         (.load (.elt (.atom 9) (.atom 17) 8) [.str, .int .i64, .sl, .int .i64, .int .i64, .str, .sl, .int .i64]
         (.ite (.scmp .eql (.atom 19) (.str [116, 105, 101]))
          (.next 20 [])
          (.loop 26 [.int .i64] [(.int .i64 0)]
           (.ite (.cmp .lss (.atom 27) (.len (.atom 18)))
            (.join 29 []
             (.next 26 [(.ar .add .i64 (.atom 27) (.int .i64 1))])
             (.chk [] (.inSl (.atom 18) (.atom 27))
             (.load (.elt (.atom 18) (.atom 27) 1) [.int .i64]
             (.join 31 [.bool]
              (.ite (.atom 29)
               (.call (.fn 59) [(.sc (.atom 4)), (.sc (.atom 20)), (.sc (.atom 28))] (.tu []) []
               (.next 29 []))
               (.next 29 []))
              (.ite (.scmp .neq (.atom 19) (.str [109, 111, 118, 101]))
               (.next 31 [(.bool true)])
               (.call (.fn 60) [(.sc (.atom 21)), (.sc (.atom 28))] (.sc (.bool)) []
               (.next 31 [(.not (.atom 29))])))))))
            (.next 20 [])))))))))
        (.ite (.pick (.cmp .eql (.atom 10) (.int .i64 4)) (.bool true) (.cmp .eql (.atom 10) (.int .i64 6)))
         (.call (.fn 15) [(.ag [(.atom 0), (.atom 1), (.atom 2), (.atom 3)]), (.sc (.atom 8))] (.sc (.sl)) []
         (.loop 23 [.int .i64] [(.int .i64 0)]
          (.ite (.cmp .lss (.atom 19) (.len (.atom 18)))
           (.chk [] (.inSl (.atom 18) (.atom 19))
           (.load (.elt (.atom 18) (.atom 19) 1) [.int .i64]
           (.call (.fn 59) [(.sc (.atom 4)), (.sc (.atom 13)), (.sc (.atom 20))] (.tu []) []
           (.next 23 [(.ar .add .i64 (.atom 19) (.int .i64 1))]))))
           (.next 13 []))))
         (.next 13 []))))))))
     (.leaf (.sc (.atom 4)))))))))))
theorem fm_color_meets_eq : execF Try.prog { pub := [], nojoin := false } Try.f41 = fm_color_meets := by kernel_rfl
theorem cb_color_meets : callB Try.prog 41 = true := by kernel_rfl
theorem tri_color_meets : TriOf Try.prog 41 Try.f41 fm_color_meets := triOf Try.func41 fm_color_meets_eq

/-- slices.Repeat[[]int,int] -/
abbrev n_slices_Repeat___int_int_ : FuncId := 46
def fm_slices_Repeat___int_int_ : Fm VE :=
 (.join 1 []
  (.call (.fn 64) [(.sc (.conv .u64 (.len (.atom 0)))), (.sc (.conv .u64 (.atom 1)))] (.tu [(false, [.int .u64]), (false, [.int .u64])]) []
  (.join 3 []
   (.sem (.makeSlice 30 (.tmp 29) (.tmp 29)) 30 [(29, (.sc (.conv .i64 (.atom 3)))), (29, (.sc (.conv .i64 (.atom 3))))] (.sc (.sl)) []
   (.sem (.call ⟨.builtin .copy, #[(.tmp 31), (.tmp 32)], #[30, 30]⟩) 3 [(31, (.sc (.atom 4))), (32, (.sc (.atom 0)))] (.sc (.int .i64)) []
   (.loop 7 [.int .i64] [(.atom 5)]
    (.ite (.cmp .lss (.atom 6) (.len (.atom 4)))
     (.chk [] (.sub (.cap (.atom 4)) (.atom 6) (.len (.atom 4)))
     (.chk [] (.sub (.cap (.atom 4)) (.int .i64 0) (.atom 6))
     (.sem (.call ⟨.builtin .copy, #[(.tmp 41), (.tmp 44)], #[30, 30]⟩) 3 [(41, (.sc (.sls (.atom 4) (.atom 6) (.len (.atom 4)) 1))), (44, (.sc (.sls (.atom 4) (.int .i64 0) (.atom 6) 1)))] (.sc (.int .i64)) []
     (.next 7 [(.ar .add .i64 (.atom 6) (.atom 7))]))))
     (.leaf (.sc (.atom 4)))))))
   (.ite (.pick (.cmp .gtr (.atom 2) (.int .u64 0)) (.bool true) (.cmp .gtr (.atom 3) (.int .u64 9223372036854775807)))
    (.sem (.makeInterface 9 (.const (.string ⟨#[116, 104, 101, 32, 114, 101, 115, 117, 108, 116, 32, 111, 102, 32, 40, 108, 101, 110, 40, 120, 41, 32, 42, 32, 99, 111, 117, 110, 116, 41, 32, 111, 118, 101, 114, 102, 108, 111, 119, 115]⟩))) 20 [] (.sc (.any)) []
    (.sem (.panic (.tmp 27)) 0 [(27, (.sc (.atom 4)))] (.tu []) []
    (.next 3 [])))
    (.next 3 []))))
  (.ite (.cmp .lss (.atom 1) (.int .i64 0))
   (.sem (.makeInterface 9 (.const (.string ⟨#[99, 97, 110, 110, 111, 116, 32, 98, 101, 32, 110, 101, 103, 97, 116, 105, 118, 101]⟩))) 20 [] (.sc (.any)) []
   (.sem (.panic (.tmp 11)) 0 [(11, (.sc (.atom 2)))] (.tu []) []
   (.next 1 [])))
   (.next 1 [])))
theorem fm_slices_Repeat___int_int__eq : execF Try.prog { pub := [], nojoin := false } Try.f46 = fm_slices_Repeat___int_int_ := by kernel_rfl
theorem cb_slices_Repeat___int_int_ : callB Try.prog 46 = true := by kernel_rfl
theorem tri_slices_Repeat___int_int_ : TriOf Try.prog 46 Try.f46 fm_slices_Repeat___int_int_ := triOf Try.func46 fm_slices_Repeat___int_int__eq

/-- scrimshaw/color.order -/
abbrev n_color_order : FuncId := 47
def fm_color_order : Fm VE :=
 (.join 1 [.sl, .sl]
  (.loop 4 [.int .i64] [(.int .i64 0)]
   (.ite (.cmp .lss (.atom 5) (.atom 1))
    (.sem (.lookup 80 (.tmp 24) (.tmp 25) false) 64 [(24, (.sc (.atom 0))), (25, (.sc (.atom 5)))] (.sc (.map)) []
    (.sem (.call ⟨.builtin .len, #[(.tmp 26)], #[64]⟩) 3 [(26, (.sc (.atom 6)))] (.sc (.int .i64)) []
    (.chk [] (.inSl (.atom 3) (.atom 5))
    (.store (.elt (.atom 3) (.atom 5) 1) [(.atom 7)]
    (.next 4 [(.ar .add .i64 (.atom 5) (.int .i64 1))])))))
    (.loop 9 [.sl] [(.nil 1)]
     (.ite (.cmp .lss (.len (.atom 6)) (.atom 1))
      (.join 13 [.int .i64]
       (.chk [] (.inSl (.atom 4) (.atom 7))
       (.store (.elt (.atom 4) (.atom 7) 1) [(.bool true)]
       (.sem (.buildSlice 30 1 #[(0, (.tmp 68))]) 30 [(68, (.sc (.atom 7)))] (.sc (.sl)) []
       (.sem (.call ⟨.builtin .append, #[(.tmp 67), (.tmp 69)], #[30, 30]⟩) 30 [(67, (.sc (.atom 6))), (69, (.sc (.atom 8)))] (.sc (.sl)) []
       (.sem (.lookup 80 (.tmp 71) (.tmp 72) false) 64 [(71, (.sc (.atom 0))), (72, (.sc (.atom 7)))] (.sc (.map)) []
       (.sem (.range 64 (.tmp 73)) 0 [(73, (.sc (.atom 10)))] (.sc (.ptr)) []
       (.loop 17 [] []
        (.join 18 [.bool]
         (.ite (.atom 12)
          (.sem (.entry (.tmp 74)) 0 [(74, (.sc (.atom 11)))] (.tu [(false, [.int .i64]), (false, [.int .i64])]) []
          (.chk [] (.inSl (.atom 3) (.atom 13))
          (.load (.elt (.atom 3) (.atom 13) 1) [.int .i64]
          (.store (.elt (.atom 3) (.atom 13) 1) [(.ar .sub .i64 (.atom 15) (.int .i64 1))]
          (.next 17 [])))))
          (.next 9 [(.atom 9)]))
         (.alt (.next (.tmp 74) false) 0 [(74, (.sc (.atom 11)))] (.tu [(false, [.bool])]) (.tu [(false, [.bool]), (false, [.int .i64]), (false, [.int .i64])])
          (.next 18 [(.atom 12)])
          (.next 18 [(.atom 12)]))))))))))
       (.loop 15 [.int .i64, .int .i64] [(.int .i64 (-1)), (.int .i64 0)]
        (.ite (.cmp .lss (.atom 8) (.atom 1))
         (.join 18 [.int .i64]
          (.next 15 [(.atom 9), (.ar .add .i64 (.atom 8) (.int .i64 1))])
          (.chk [] (.inSl (.atom 4) (.atom 8))
          (.load (.elt (.atom 4) (.atom 8) 1) [.bool]
          (.ite (.atom 9)
           (.next 18 [(.atom 7)])
           (.chk [] (.inSl (.atom 3) (.atom 8))
           (.load (.elt (.atom 3) (.atom 8) 1) [.int .i64]
           (.ite (.cmp .lss (.atom 10) (.atom 2))
            (.next 13 [(.atom 8)])
            (.join 24 [.bool]
             (.next 18 [(.pick (.atom 11) (.atom 8) (.atom 7))])
             (.chk [((.cmp .lss (.atom 7) (.int .i64 0)), false)] (.inSl (.atom 3) (.atom 7))
             (.ite (.cmp .lss (.atom 7) (.int .i64 0))
              (.next 24 [(.bool true)])
              (.load (.elt (.atom 3) (.atom 8) 1) [.int .i64]
              (.load (.elt (.atom 3) (.atom 7) 1) [.int .i64]
              (.next 24 [(.cmp .gtr (.atom 11) (.atom 12))])))))))))))))
         (.next 13 [(.atom 7)]))))
      (.call (.fn 65) [(.sc (.atom 6))] (.tu []) []
      (.leaf (.sc (.atom 6))))))))
  (.both
   (.sem (.makeSlice 30 (.tmp 14) (.tmp 14)) 30 [(14, (.sc (.atom 1))), (14, (.sc (.atom 1)))] (.sc (.sl)) []
   (.sem (.makeSlice 57 (.tmp 16) (.tmp 16)) 57 [(16, (.sc (.atom 1))), (16, (.sc (.atom 1)))] (.sc (.sl)) []
   (.next 1 [(.atom 3), (.atom 4)])))
   (.sem (.makeSlice 57 (.tmp 16) (.tmp 16)) 57 [(16, (.sc (.atom 1))), (16, (.sc (.atom 1)))] (.sc (.sl)) []
   (.sem (.makeSlice 30 (.tmp 14) (.tmp 14)) 30 [(14, (.sc (.atom 1))), (14, (.sc (.atom 1)))] (.sc (.sl)) []
   (.next 1 [(.atom 4), (.atom 3)])))))
theorem fm_color_order_eq : execF Try.prog { pub := [], nojoin := false } Try.f47 = fm_color_order := by kernel_rfl
theorem cb_color_order : callB Try.prog 47 = true := by kernel_rfl
theorem tri_color_order : TriOf Try.prog 47 Try.f47 fm_color_order := triOf Try.func47 fm_color_order_eq

/-- scrimshaw/color.may$1 -/
abbrev n_color_may_1 : FuncId := 58
def fm_color_may_1 : Fm VE :=
 (.loop 1 [.int .i64] [(.int .i64 0)]
  (.ite (.cmp .lss (.atom 3) (.len (.atom 0)))
   (.join 4 []
    (.next 1 [(.ar .add .i64 (.atom 3) (.int .i64 1))])
    (.chk [] (.inSl (.atom 0) (.atom 3))
    (.load (.elt (.atom 0) (.atom 3) 1) [.int .i64]
    (.load (.atom 1) [.bool]
    (.chk [((.pick (.atom 5) (.cmp .geq (.atom 4) (.int .i64 0)) (.bool false)), true)] (.some (.atom 2))
    (.ite (.pick (.atom 5) (.cmp .geq (.atom 4) (.int .i64 0)) (.bool false))
     (.load (.padd (.atom 2) 2) [.int .i64]
     (.store (.atom 1) [(.cmp .lss (.atom 4) (.atom 6))]
     (.next 4 [])))
     (.store (.atom 1) [(.bool false)]
     (.next 4 []))))))))
   (.leaf (.tu []))))
theorem fm_color_may_1_eq : execFC Try.prog { pub := [], nojoin := false } Try.f58 [(.sc (.sl)), (.sc (.ptr)), (.sc (.ptr))] = fm_color_may_1 := by kernel_rfl
theorem cb_color_may_1 : callB Try.prog 58 = true := by kernel_rfl
theorem tri_color_may_1 : TriOfC Try.prog 58 [(.sc (.sl)), (.sc (.ptr)), (.sc (.ptr))] fm_color_may_1 := triOfC Try.func58 fm_color_may_1_eq

/-- (scrimshaw/color.graph[int]).join -/
abbrev n_color_graph_int___join : FuncId := 59
def fm_color_graph_int___join : Fm VE :=
 (.ite (.cmp .eql (.atom 1) (.atom 2))
  (.leaf (.tu []))
  (.loop 3 [.int .i64] [(.int .i64 0)]
   (.ite (.cmp .lss (.atom 3) (.int .i64 2))
    (.sem (.index 109 (.tmp 17) (.tmp 18)) 51 [(17, (.ag [(.atom 1), (.atom 2), (.atom 2), (.atom 1)])), (18, (.sc (.atom 3)))] (.ag [.int .i64, .int .i64]) []
    (.join 8 []
     (.sem (.lookup 80 (.tmp 30) (.tmp 32) false) 64 [(30, (.sc (.atom 0))), (32, (.sc (.atom 4)))] (.sc (.map)) []
     (.sem (.mapUpdate 64 (.tmp 33) (.tmp 35) (.const (.int .i64 1))) 0 [(33, (.sc (.atom 6))), (35, (.sc (.atom 5)))] (.tu []) []
     (.next 3 [(.ar .add .i64 (.atom 3) (.int .i64 1))])))
     (.sem (.lookup 80 (.tmp 21) (.tmp 23) false) 64 [(21, (.sc (.atom 0))), (23, (.sc (.atom 4)))] (.sc (.map)) []
     (.ite (.isnil (.atom 6))
      (.sem (.makeMap 64 none) 64 [] (.sc (.map)) []
      (.sem (.mapUpdate 80 (.tmp 26) (.tmp 28) (.tmp 29)) 0 [(26, (.sc (.atom 0))), (28, (.sc (.atom 4))), (29, (.sc (.atom 7)))] (.tu []) []
      (.next 8 [])))
      (.next 8 [])))))
    (.leaf (.tu [])))))
theorem fm_color_graph_int___join_eq : execF Try.prog { pub := [], nojoin := false } Try.f59 = fm_color_graph_int___join := by kernel_rfl
theorem cb_color_graph_int___join : callB Try.prog 59 = true := by kernel_rfl
theorem tri_color_graph_int___join : TriOf Try.prog 59 Try.f59 fm_color_graph_int___join := triOf Try.func59 fm_color_graph_int___join_eq

/-- slices.Contains[[]int,int] -/
abbrev n_slices_Contains___int_int_ : FuncId := 60
def fm_slices_Contains___int_int_ : Fm VE :=
 (.call (.fn 69) [(.sc (.atom 0)), (.sc (.atom 1))] (.sc (.int .i64)) []
 (.leaf (.sc (.cmp .geq (.atom 2) (.int .i64 0)))))
theorem fm_slices_Contains___int_int__eq : execF Try.prog { pub := [], nojoin := false } Try.f60 = fm_slices_Contains___int_int_ := by kernel_rfl
theorem cb_slices_Contains___int_int_ : callB Try.prog 60 = true := by kernel_rfl
theorem tri_slices_Contains___int_int_ : TriOf Try.prog 60 Try.f60 fm_slices_Contains___int_int_ := triOf Try.func60 fm_slices_Contains___int_int__eq

/-- math/bits.Mul -/
abbrev n_math_bits_Mul : FuncId := 64
def fm_math_bits_Mul : Fm VE :=
 (.call (.fn 81) [(.sc (.atom 0)), (.sc (.atom 1))] (.tu [(false, [.int .u64]), (false, [.int .u64])]) []
 (.leaf (.tu [(false, [(.atom 2)]), (false, [(.atom 3)])])))
theorem fm_math_bits_Mul_eq : execF Try.prog { pub := [], nojoin := false } Try.f64 = fm_math_bits_Mul := by kernel_rfl
theorem cb_math_bits_Mul : callB Try.prog 64 = true := by kernel_rfl
theorem tri_math_bits_Mul : TriOf Try.prog 64 Try.f64 fm_math_bits_Mul := triOf Try.func64 fm_math_bits_Mul_eq

/-- slices.Reverse[[]int,int] -/
abbrev n_slices_Reverse___int_int_ : FuncId := 65
def fm_slices_Reverse___int_int_ : Fm VE :=
 (.loop 1 [.int .i64, .int .i64] [(.int .i64 0), (.ar .sub .i64 (.len (.atom 0)) (.int .i64 1))]
  (.ite (.cmp .lss (.atom 1) (.atom 2))
   (.chk [] (.inSl (.atom 0) (.atom 2))
   (.load (.elt (.atom 0) (.atom 2) 1) [.int .i64]
   (.chk [] (.inSl (.atom 0) (.atom 1))
   (.load (.elt (.atom 0) (.atom 1) 1) [.int .i64]
   (.store (.elt (.atom 0) (.atom 1) 1) [(.atom 3)]
   (.store (.elt (.atom 0) (.atom 2) 1) [(.atom 4)]
   (.next 1 [(.ar .add .i64 (.atom 1) (.int .i64 1)), (.ar .sub .i64 (.atom 2) (.int .i64 1))])))))))
   (.leaf (.tu []))))
theorem fm_slices_Reverse___int_int__eq : execF Try.prog { pub := [], nojoin := false } Try.f65 = fm_slices_Reverse___int_int_ := by kernel_rfl
theorem cb_slices_Reverse___int_int_ : callB Try.prog 65 = true := by kernel_rfl
theorem tri_slices_Reverse___int_int_ : TriOf Try.prog 65 Try.f65 fm_slices_Reverse___int_int_ := triOf Try.func65 fm_slices_Reverse___int_int__eq

/-- slices.Index[[]int,int] -/
abbrev n_slices_Index___int_int_ : FuncId := 69
def fm_slices_Index___int_int_ : Fm VE :=
 (.loop 3 [.int .i64, .int .i64] [(.int .i64 0), (.int .i64 0)]
  (.ite (.cmp .lss (.atom 3) (.len (.atom 0)))
   (.chk [] (.inSl (.atom 0) (.atom 3))
   (.load (.elt (.atom 0) (.atom 3) 1) [.int .i64]
   (.ite (.cmp .eql (.atom 1) (.atom 4))
    (.leaf (.sc (.atom 3)))
    (.next 3 [(.atom 2), (.ar .add .i64 (.atom 3) (.int .i64 1))]))))
   (.leaf (.sc (.int .i64 (-1))))))
theorem fm_slices_Index___int_int__eq : execF Try.prog { pub := [], nojoin := false } Try.f69 = fm_slices_Index___int_int_ := by kernel_rfl
theorem cb_slices_Index___int_int_ : callB Try.prog 69 = true := by kernel_rfl
theorem tri_slices_Index___int_int_ : TriOf Try.prog 69 Try.f69 fm_slices_Index___int_int_ := triOf Try.func69 fm_slices_Index___int_int__eq

/-- math/bits.Mul64 -/
abbrev n_math_bits_Mul64 : FuncId := 81
def fm_math_bits_Mul64 : Fm VE :=
 (.leaf (.tu [(false, [(.ar .add .u64 (.ar .add .u64 (.ar .mul .u64 (.ar .shr .u64 (.atom 0) (.int .u64 32)) (.ar .shr .u64 (.atom 1) (.int .u64 32))) (.ar .shr .u64 (.ar .add .u64 (.ar .mul .u64 (.ar .shr .u64 (.atom 0) (.int .u64 32)) (.ar .and .u64 (.atom 1) (.int .u64 4294967295))) (.ar .shr .u64 (.ar .mul .u64 (.ar .and .u64 (.atom 0) (.int .u64 4294967295)) (.ar .and .u64 (.atom 1) (.int .u64 4294967295))) (.int .u64 32))) (.int .u64 32))) (.ar .shr .u64 (.ar .add .u64 (.ar .and .u64 (.ar .add .u64 (.ar .mul .u64 (.ar .shr .u64 (.atom 0) (.int .u64 32)) (.ar .and .u64 (.atom 1) (.int .u64 4294967295))) (.ar .shr .u64 (.ar .mul .u64 (.ar .and .u64 (.atom 0) (.int .u64 4294967295)) (.ar .and .u64 (.atom 1) (.int .u64 4294967295))) (.int .u64 32))) (.int .u64 4294967295)) (.ar .mul .u64 (.ar .and .u64 (.atom 0) (.int .u64 4294967295)) (.ar .shr .u64 (.atom 1) (.int .u64 32)))) (.int .u64 32)))]), (false, [(.ar .mul .u64 (.atom 0) (.atom 1))])]))
theorem fm_math_bits_Mul64_eq : execF Try.prog { pub := [], nojoin := false } Try.f81 = fm_math_bits_Mul64 := by kernel_rfl
theorem cb_math_bits_Mul64 : callB Try.prog 81 = true := by kernel_rfl
theorem tri_math_bits_Mul64 : TriOf Try.prog 81 Try.f81 fm_math_bits_Mul64 := triOf Try.func81 fm_math_bits_Mul64_eq

end Go.Proofs.Ytlbbmcpppfiplaa.Vc
