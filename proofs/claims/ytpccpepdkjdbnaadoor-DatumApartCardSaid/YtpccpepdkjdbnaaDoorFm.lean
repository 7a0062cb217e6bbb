/-
  THE FORMULAS of the program's functions, as the executor gives them; each is checked by the kernel. Printed by a program of our own.
-/
import Derived.Test.YtpccpepdkjdbnaaDoorWc
import Derived.Test.YtpccpepdkjdbnaaDoorRows
import Derived.KernelRfl
namespace Go.Proofs.YtpccpepdkjdbnaaDoor.Vc
open Go
set_option maxRecDepth 100000

/-- scrimshaw/scrimshawlaw02.DatumChecks -/
abbrev n_scrimshawlaw02_DatumChecks : FuncId := 3
def fm_scrimshawlaw02_DatumChecks : Fm VE :=
 (.join 1 [.bool]
  (.leaf (.sc (.atom 5)))
  (.call (.fn 9) [] (.sc (.bool)) []
  (.ite (.atom 5)
   (.call (.fn 10) [(.ag [(.atom 0), (.atom 1), (.atom 2), (.atom 3)])] (.sc (.int .i64)) []
   (.call (.fn 11) [(.ag [(.atom 0), (.atom 1), (.atom 2), (.atom 3)])] (.sc (.int .i64)) []
   (.ite (.cmp .eql (.atom 6) (.atom 7))
    (.call (.fn 12) [(.sc (.atom 4))] (.sc (.bool)) []
    (.call (.fn 13) [(.sc (.atom 4))] (.sc (.bool)) []
    (.next 1 [(.beq (.atom 8) (.atom 9))])))
    (.next 1 [(.bool false)]))))
   (.next 1 [(.bool false)]))))
theorem fm_scrimshawlaw02_DatumChecks_eq : execF Tryd.prog { pub := [], nojoin := false } Tryd.f3 = fm_scrimshawlaw02_DatumChecks := by kernel_rfl
theorem cb_scrimshawlaw02_DatumChecks : callB Tryd.prog 3 = true := by kernel_rfl
theorem tri_scrimshawlaw02_DatumChecks (E : List Value) {args : Array Value} {H : PH} {R : Ending → PH → Prop} (hE : tagsOk ((paramRS Tryd.prog Tryd.f3).flatMap RS.tags) E = true) (hargs : args.toList = packAll (paramRS Tryd.prog Tryd.f3) E)
    (hden : den Tryd.prog (fun c H' => R (.panicked c) H') fm_scrimshawlaw02_DatumChecks E H [] (fun ve E' H' _ => R (.returned (evV E' (fun _ => 0) ve)) H')) : Tri Tryd.prog 3 args H R :=
  execF_tri (op := { pub := [], nojoin := false }) Tryd.func3 hE hargs (by rw [fm_scrimshawlaw02_DatumChecks_eq]; exact hden)

/-- scrimshaw/scrimshawlaw02.DatumTexts -/
abbrev n_scrimshawlaw02_DatumTexts : FuncId := 4
def fm_scrimshawlaw02_DatumTexts : Fm VE :=
 (.call (.fn 14) [(.ag [(.atom 0), (.atom 1), (.atom 2), (.atom 3)])] (.tu [(false, [.str]), (false, [.int .i64])]) []
 (.call (.fn 15) [(.ag [(.atom 0), (.atom 1), (.atom 2), (.atom 3)])] (.tu [(false, [.str]), (false, [.int .i64])]) []
 (.call (.fn 11) [(.ag [(.atom 0), (.atom 1), (.atom 2), (.atom 3)])] (.sc (.int .i64)) []
 (.call (.fn 9) [] (.sc (.bool)) []
 (.ite (.pick (.pick (.not (.atom 9)) (.bool true) (.cmp .neq (.atom 5) (.atom 8))) (.bool true) (.cmp .neq (.atom 7) (.atom 8)))
  (.leaf (.sc (.bool false)))
  (.ite (.cmp .neq (.atom 8) (.int .i64 0))
   (.leaf (.sc (.pick (.scmp .eql (.atom 4) (.str [])) (.scmp .eql (.atom 6) (.str [])) (.bool false))))
   (.join 8 [.bool]
    (.leaf (.sc (.atom 10)))
    (.call (.fn 16) [(.ag [(.atom 0), (.atom 1), (.atom 2), (.atom 3)]), (.sc (.bool false))] (.sc (.str)) []
    (.ite (.scmp .eql (.atom 4) (.atom 10))
     (.call (.fn 16) [(.ag [(.atom 0), (.atom 1), (.atom 2), (.atom 3)]), (.sc (.bool true))] (.sc (.str)) []
     (.next 8 [(.scmp .eql (.atom 6) (.atom 11))]))
     (.next 8 [(.bool false)]))))))))))
theorem fm_scrimshawlaw02_DatumTexts_eq : execF Tryd.prog { pub := [], nojoin := false } Tryd.f4 = fm_scrimshawlaw02_DatumTexts := by kernel_rfl
theorem cb_scrimshawlaw02_DatumTexts : callB Tryd.prog 4 = true := by kernel_rfl
theorem tri_scrimshawlaw02_DatumTexts (E : List Value) {args : Array Value} {H : PH} {R : Ending → PH → Prop} (hE : tagsOk ((paramRS Tryd.prog Tryd.f4).flatMap RS.tags) E = true) (hargs : args.toList = packAll (paramRS Tryd.prog Tryd.f4) E)
    (hden : den Tryd.prog (fun c H' => R (.panicked c) H') fm_scrimshawlaw02_DatumTexts E H [] (fun ve E' H' _ => R (.returned (evV E' (fun _ => 0) ve)) H')) : Tri Tryd.prog 4 args H R :=
  execF_tri (op := { pub := [], nojoin := false }) Tryd.func4 hE hargs (by rw [fm_scrimshawlaw02_DatumTexts_eq]; exact hden)

/-- scrimshaw/scrimshawlaw02.DatumParts -/
abbrev n_scrimshawlaw02_DatumParts : FuncId := 5
def fm_scrimshawlaw02_DatumParts : Fm VE :=
 (.call (.fn 14) [(.ag [(.int .i64 5), (.int .i64 0), (.str []), (.atom 0)])] (.tu [(false, [.str]), (false, [.int .i64])]) []
 (.call (.fn 14) [(.ag [(.int .i64 7), (.int .i64 0), (.str []), (.atom 0)])] (.tu [(false, [.str]), (false, [.int .i64])]) []
 (.call (.fn 9) [] (.sc (.bool)) []
 (.ite (.pick (.not (.atom 5)) (.bool true) (.cmp .neq (.atom 2) (.atom 4)))
  (.leaf (.sc (.bool false)))
  (.ite (.cmp .neq (.atom 2) (.int .i64 0))
   (.leaf (.sc (.pick (.scmp .eql (.atom 1) (.str [])) (.scmp .eql (.atom 3) (.str [])) (.bool false))))
   (.loop 10 [.bool, .str, .int .i64] [(.bool false), (.str [40]), (.int .i64 0)]
    (.ite (.cmp .lss (.atom 8) (.len (.atom 0)))
     (.chk [] (.inSl (.atom 0) (.atom 8))
     (.load (.elt (.atom 0) (.atom 8) 4) [.int .i64, .int .i64, .str, .sl]
     (.call (.fn 14) [(.ag [(.atom 9), (.atom 10), (.atom 11), (.atom 12)])] (.tu [(false, [.str]), (false, [.int .i64])]) []
     (.ite (.cmp .neq (.atom 14) (.int .i64 0))
      (.leaf (.sc (.bool false)))
      (.join 17 [.str]
       (.chk [] (.catOk (.atom 15) (.atom 13))
       (.next 10 [(.atom 6), (.cat (.atom 15) (.atom 13)), (.ar .add .i64 (.atom 8) (.int .i64 1))]))
       (.ite (.cmp .gtr (.atom 8) (.int .i64 0))
        (.chk [] (.catOk (.atom 7) (.str [32]))
        (.next 17 [(.cat (.atom 7) (.str [32]))]))
        (.next 17 [(.atom 7)])))))))
     (.chk [] (.catOk (.atom 7) (.str [41]))
     (.chk [((.scmp .eql (.atom 1) (.cat (.atom 7) (.str [41]))), true)] (.catOk (.str [35]) (.atom 1))
     (.leaf (.sc (.pick (.scmp .eql (.atom 1) (.cat (.atom 7) (.str [41]))) (.scmp .eql (.atom 3) (.cat (.str [35]) (.atom 1))) (.bool false)))))))))))))
theorem fm_scrimshawlaw02_DatumParts_eq : execF Tryd.prog { pub := [], nojoin := false } Tryd.f5 = fm_scrimshawlaw02_DatumParts := by kernel_rfl
theorem cb_scrimshawlaw02_DatumParts : callB Tryd.prog 5 = true := by kernel_rfl
theorem tri_scrimshawlaw02_DatumParts (E : List Value) {args : Array Value} {H : PH} {R : Ending → PH → Prop} (hE : tagsOk ((paramRS Tryd.prog Tryd.f5).flatMap RS.tags) E = true) (hargs : args.toList = packAll (paramRS Tryd.prog Tryd.f5) E)
    (hden : den Tryd.prog (fun c H' => R (.panicked c) H') fm_scrimshawlaw02_DatumParts E H [] (fun ve E' H' _ => R (.returned (evV E' (fun _ => 0) ve)) H')) : Tri Tryd.prog 5 args H R :=
  execF_tri (op := { pub := [], nojoin := false }) Tryd.func5 hE hargs (by rw [fm_scrimshawlaw02_DatumParts_eq]; exact hden)

/-- scrimshaw/scrimshawlaw02.DatumEquals -/
abbrev n_scrimshawlaw02_DatumEquals : FuncId := 6
def fm_scrimshawlaw02_DatumEquals : Fm VE :=
 (.sem (.buildSlice 22 2 #[(0, (.tmp 5)), (1, (.tmp 6))]) 22 [(5, (.ag [(.atom 0), (.atom 1), (.atom 2), (.atom 3)])), (6, (.ag [(.atom 4), (.atom 5), (.atom 6), (.atom 7)]))] (.sc (.sl)) []
 (.call (.fn 17) [(.sc (.atom 8))] (.sc (.bool)) []
 (.ite (.atom 9)
  (.call (.fn 9) [] (.sc (.bool)) []
  (.leaf (.sc (.atom 10))))
  (.join 3 [.bool]
   (.leaf (.sc (.atom 10)))
   (.call (.fn 9) [] (.sc (.bool)) []
   (.ite (.atom 10)
    (.call (.fn 18) [(.ag [(.atom 0), (.atom 1), (.atom 2), (.atom 3)]), (.ag [(.atom 4), (.atom 5), (.atom 6), (.atom 7)])] (.sc (.bool)) []
    (.call (.fn 19) [(.ag [(.atom 0), (.atom 1), (.atom 2), (.atom 3)]), (.ag [(.atom 4), (.atom 5), (.atom 6), (.atom 7)])] (.sc (.bool)) []
    (.ite (.beq (.atom 11) (.atom 12))
     (.call (.fn 18) [(.ag [(.atom 0), (.atom 1), (.atom 2), (.atom 3)]), (.ag [(.atom 0), (.atom 1), (.atom 2), (.atom 3)])] (.sc (.bool)) []
     (.ite (.atom 13)
      (.call (.fn 18) [(.ag [(.atom 4), (.atom 5), (.atom 6), (.atom 7)]), (.ag [(.atom 0), (.atom 1), (.atom 2), (.atom 3)])] (.sc (.bool)) []
      (.call (.fn 18) [(.ag [(.atom 0), (.atom 1), (.atom 2), (.atom 3)]), (.ag [(.atom 4), (.atom 5), (.atom 6), (.atom 7)])] (.sc (.bool)) []
      (.next 3 [(.beq (.atom 14) (.atom 15))])))
      (.next 3 [(.bool false)])))
     (.next 3 [(.bool false)]))))
    (.next 3 [(.bool false)])))))))
theorem fm_scrimshawlaw02_DatumEquals_eq : execF Tryd.prog { pub := [], nojoin := false } Tryd.f6 = fm_scrimshawlaw02_DatumEquals := by kernel_rfl
theorem cb_scrimshawlaw02_DatumEquals : callB Tryd.prog 6 = true := by kernel_rfl
theorem tri_scrimshawlaw02_DatumEquals (E : List Value) {args : Array Value} {H : PH} {R : Ending → PH → Prop} (hE : tagsOk ((paramRS Tryd.prog Tryd.f6).flatMap RS.tags) E = true) (hargs : args.toList = packAll (paramRS Tryd.prog Tryd.f6) E)
    (hden : den Tryd.prog (fun c H' => R (.panicked c) H') fm_scrimshawlaw02_DatumEquals E H [] (fun ve E' H' _ => R (.returned (evV E' (fun _ => 0) ve)) H')) : Tri Tryd.prog 6 args H R :=
  execF_tri (op := { pub := [], nojoin := false }) Tryd.func6 hE hargs (by rw [fm_scrimshawlaw02_DatumEquals_eq]; exact hden)

/-- scrimshaw/scrimshawlaw02.DatumApart -/
abbrev n_scrimshawlaw02_DatumApart : FuncId := 7
def fm_scrimshawlaw02_DatumApart : Fm VE :=
 (.call (.fn 14) [(.ag [(.atom 0), (.atom 1), (.atom 2), (.atom 3)])] (.tu [(false, [.str]), (false, [.int .i64])]) []
 (.call (.fn 14) [(.ag [(.atom 4), (.atom 5), (.atom 6), (.atom 7)])] (.tu [(false, [.str]), (false, [.int .i64])]) []
 (.join 4 [.bool]
  (.ite (.atom 12)
   (.leaf (.sc (.bool false)))
   (.join 5 [.bool]
    (.leaf (.sc (.atom 13)))
    (.ite (.pick (.cmp .neq (.atom 9) (.int .i64 0)) (.bool true) (.cmp .neq (.atom 11) (.int .i64 0)))
     (.next 5 [(.bool true)])
     (.call (.fn 18) [(.ag [(.atom 0), (.atom 1), (.atom 2), (.atom 3)]), (.ag [(.atom 4), (.atom 5), (.atom 6), (.atom 7)])] (.sc (.bool)) []
     (.next 5 [(.beq (.scmp .eql (.atom 8) (.atom 10)) (.atom 13))])))))
  (.call (.fn 9) [] (.sc (.bool)) []
  (.ite (.not (.atom 12))
   (.next 4 [(.bool true)])
   (.call (.fn 10) [(.ag [(.atom 0), (.atom 1), (.atom 2), (.atom 3)])] (.sc (.int .i64)) []
   (.ite (.cmp .neq (.atom 9) (.atom 13))
    (.next 4 [(.bool true)])
    (.call (.fn 10) [(.ag [(.atom 4), (.atom 5), (.atom 6), (.atom 7)])] (.sc (.int .i64)) []
    (.next 4 [(.cmp .neq (.atom 11) (.atom 14))])))))))))
theorem fm_scrimshawlaw02_DatumApart_eq : execF Tryd.prog { pub := [], nojoin := false } Tryd.f7 = fm_scrimshawlaw02_DatumApart := by kernel_rfl
theorem cb_scrimshawlaw02_DatumApart : callB Tryd.prog 7 = true := by kernel_rfl
theorem tri_scrimshawlaw02_DatumApart (E : List Value) {args : Array Value} {H : PH} {R : Ending → PH → Prop} (hE : tagsOk ((paramRS Tryd.prog Tryd.f7).flatMap RS.tags) E = true) (hargs : args.toList = packAll (paramRS Tryd.prog Tryd.f7) E)
    (hden : den Tryd.prog (fun c H' => R (.panicked c) H') fm_scrimshawlaw02_DatumApart E H [] (fun ve E' H' _ => R (.returned (evV E' (fun _ => 0) ve)) H')) : Tri Tryd.prog 7 args H R :=
  execF_tri (op := { pub := [], nojoin := false }) Tryd.func7 hE hargs (by rw [fm_scrimshawlaw02_DatumApart_eq]; exact hden)

/-- scrimshaw/scrimshawlaw02.DatumMakes -/
abbrev n_scrimshawlaw02_DatumMakes : FuncId := 8
def fm_scrimshawlaw02_DatumMakes : Fm VE :=
 (.join 2 [.bool]
  (.ite (.atom 5)
   (.call (.fn 9) [] (.sc (.bool)) []
   (.leaf (.sc (.atom 6))))
   (.call (.fn 20) [(.sc (.atom 0)), (.ag [(.atom 1), (.atom 2), (.atom 3), (.atom 4)])] (.ag [.int .i64, .int .i64, .str, .sl]) []
   (.call (.fn 21) [(.ag [(.atom 1), (.atom 2), (.atom 3), (.atom 4)])] (.tu [(false, [.sl]), (true, [.int .i64, .int .i64, .str, .sl])]) []
   (.call (.fn 22) [(.ag [(.atom 1), (.atom 2), (.atom 3), (.atom 4)])] (.tu [(false, [.sl]), (true, [.int .i64, .int .i64, .str, .sl])]) []
   (.join 6 [.bool]
    (.leaf (.sc (.atom 20)))
    (.call (.fn 9) [] (.sc (.bool)) []
    (.ite (.atom 20)
     (.call (.fn 23) [(.sc (.atom 0)), (.ag [(.atom 1), (.atom 2), (.atom 3), (.atom 4)])] (.ag [.int .i64, .int .i64, .str, .sl]) []
     (.call (.fn 19) [(.ag [(.atom 6), (.atom 7), (.atom 8), (.atom 9)]), (.ag [(.atom 21), (.atom 22), (.atom 23), (.atom 24)])] (.sc (.bool)) []
     (.ite (.atom 25)
      (.call (.fn 24) [(.sc (.atom 10)), (.sc (.atom 15))] (.sc (.bool)) []
      (.ite (.atom 26)
       (.call (.fn 19) [(.ag [(.atom 11), (.atom 12), (.atom 13), (.atom 14)]), (.ag [(.atom 16), (.atom 17), (.atom 18), (.atom 19)])] (.sc (.bool)) []
       (.next 6 [(.atom 27)]))
       (.next 6 [(.bool false)])))
      (.next 6 [(.bool false)]))))
     (.next 6 [(.bool false)]))))))))
  (.call (.fn 17) [(.sc (.atom 0))] (.sc (.bool)) []
  (.ite (.atom 5)
   (.next 2 [(.bool true)])
   (.sem (.buildSlice 22 1 #[(0, (.tmp 13))]) 22 [(13, (.ag [(.atom 1), (.atom 2), (.atom 3), (.atom 4)]))] (.sc (.sl)) []
   (.call (.fn 17) [(.sc (.atom 6))] (.sc (.bool)) []
   (.next 2 [(.atom 7)]))))))
theorem fm_scrimshawlaw02_DatumMakes_eq : execF Tryd.prog { pub := [], nojoin := false } Tryd.f8 = fm_scrimshawlaw02_DatumMakes := by kernel_rfl
theorem cb_scrimshawlaw02_DatumMakes : callB Tryd.prog 8 = true := by kernel_rfl
theorem tri_scrimshawlaw02_DatumMakes (E : List Value) {args : Array Value} {H : PH} {R : Ending → PH → Prop} (hE : tagsOk ((paramRS Tryd.prog Tryd.f8).flatMap RS.tags) E = true) (hargs : args.toList = packAll (paramRS Tryd.prog Tryd.f8) E)
    (hden : den Tryd.prog (fun c H' => R (.panicked c) H') fm_scrimshawlaw02_DatumMakes E H [] (fun ve E' H' _ => R (.returned (evV E' (fun _ => 0) ve)) H')) : Tri Tryd.prog 8 args H R :=
  execF_tri (op := { pub := [], nojoin := false }) Tryd.func8 hE hargs (by rw [fm_scrimshawlaw02_DatumMakes_eq]; exact hden)

/-- scrimshaw/scrimshawlaw02.fixed -/
abbrev n_scrimshawlaw02_fixed : FuncId := 9
def fm_scrimshawlaw02_fixed : Fm VE :=
 (.sem (.buildSlice 22 3 #[(0, (.tmp 11)), (1, (.tmp 12)), (2, (.tmp 13))]) 22 [(11, (.ag [(.int .i64 4), (.int .i64 0), (.str [97]), (.nil 1)])), (12, (.ag [(.int .i64 3), (.int .i64 0), (.str [98, 34]), (.nil 1)])), (13, (.ag [(.int .i64 2), (.int .i64 32), (.str []), (.nil 1)]))] (.sc (.sl)) []
 (.call (.fn 14) [(.ag [(.int .i64 5), (.int .i64 0), (.str []), (.atom 0)])] (.tu [(false, [.str]), (false, [.int .i64])]) []
 (.call (.fn 15) [(.ag [(.int .i64 5), (.int .i64 0), (.str []), (.atom 0)])] (.tu [(false, [.str]), (false, [.int .i64])]) []
 (.sem (.buildSlice 22 2 #[(0, (.tmp 27)), (1, (.tmp 28))]) 22 [(27, (.ag [(.int .i64 1), (.int .i64 1), (.str []), (.nil 1)])), (28, (.ag [(.int .i64 1), (.int .i64 (-2)), (.str []), (.nil 1)]))] (.sc (.sl)) []
 (.call (.fn 14) [(.ag [(.int .i64 6), (.int .i64 0), (.str []), (.atom 5)])] (.tu [(false, [.str]), (false, [.int .i64])]) []
 (.call (.fn 10) [(.ag [(.int .i64 1), (.int .i64 0), (.str [120]), (.nil 1)])] (.sc (.int .i64)) []
 (.join 7 [.bool]
  (.leaf (.sc (.atom 9)))
  (.ite (.pick (.pick (.pick (.pick (.pick (.pick (.scmp .eql (.atom 1) (.str [40, 97, 32, 34, 98, 92, 34, 34, 32, 35, 92, 115, 112, 97, 99, 101, 41])) (.cmp .eql (.atom 2) (.int .i64 0)) (.bool false)) (.scmp .eql (.atom 3) (.str [40, 97, 32, 98, 34, 32, 32, 41])) (.bool false)) (.cmp .eql (.atom 4) (.int .i64 0)) (.bool false)) (.scmp .eql (.atom 6) (.str [40, 49, 32, 46, 32, 45, 50, 41])) (.bool false)) (.cmp .eql (.atom 7) (.int .i64 0)) (.bool false)) (.cmp .eql (.atom 8) (.int .i64 20)) (.bool false))
   (.call (.fn 12) [(.sc (.str [49, 43]))] (.sc (.bool)) []
   (.ite (.atom 9)
    (.call (.fn 12) [(.sc (.str [45, 53]))] (.sc (.bool)) []
    (.next 7 [(.not (.atom 10))]))
    (.next 7 [(.bool false)])))
   (.next 7 [(.bool false)])))))))))
theorem fm_scrimshawlaw02_fixed_eq : execF Tryd.prog { pub := [], nojoin := false } Tryd.f9 = fm_scrimshawlaw02_fixed := by kernel_rfl
theorem cb_scrimshawlaw02_fixed : callB Tryd.prog 9 = true := by kernel_rfl
theorem tri_scrimshawlaw02_fixed (E : List Value) {args : Array Value} {H : PH} {R : Ending → PH → Prop} (hE : tagsOk ((paramRS Tryd.prog Tryd.f9).flatMap RS.tags) E = true) (hargs : args.toList = packAll (paramRS Tryd.prog Tryd.f9) E)
    (hden : den Tryd.prog (fun c H' => R (.panicked c) H') fm_scrimshawlaw02_fixed E H [] (fun ve E' H' _ => R (.returned (evV E' (fun _ => 0) ve)) H')) : Tri Tryd.prog 9 args H R :=
  execF_tri (op := { pub := [], nojoin := false }) Tryd.func9 hE hargs (by rw [fm_scrimshawlaw02_fixed_eq]; exact hden)

/-- scrimshaw/data.Check -/
abbrev n_data_Check : FuncId := 10
def fm_data_Check : Fm VE :=
 (.new 43 [(.int .i64 0)]
 (.call (.fn 25) [(.sc (.atom 4)), (.ag [(.atom 0), (.atom 1), (.atom 2), (.atom 3)]), (.sc (.int .i64 0))] (.sc (.int .i64)) []
 (.leaf (.sc (.atom 5)))))
theorem fm_data_Check_eq : execF Tryd.prog { pub := [3], nojoin := false } Tryd.f10 = fm_data_Check := by kernel_rfl
theorem cb_data_Check : callB Tryd.prog 10 = true := by kernel_rfl
theorem tri_data_Check (E : List Value) {args : Array Value} {H : PH} {R : Ending → PH → Prop} (hE : tagsOk ((paramRS Tryd.prog Tryd.f10).flatMap RS.tags) E = true) (hargs : args.toList = packAll (paramRS Tryd.prog Tryd.f10) E)
    (hden : den Tryd.prog (fun c H' => R (.panicked c) H') fm_data_Check E H [] (fun ve E' H' _ => R (.returned (evV E' (fun _ => 0) ve)) H')) : Tri Tryd.prog 10 args H R :=
  execF_tri (op := { pub := [3], nojoin := false }) Tryd.func10 hE hargs (by rw [fm_data_Check_eq]; exact hden)

/-- scrimshaw/scrimshawref02.Check -/
abbrev n_scrimshawref02_Check : FuncId := 11
def fm_scrimshawref02_Check : Fm VE :=
 (.call (.fn 26) [(.ag [(.atom 0), (.atom 1), (.atom 2), (.atom 3)]), (.sc (.int .i64 0)), (.sc (.int .i64 0))] (.tu [(false, [.int .i64]), (false, [.int .i64])]) []
 (.leaf (.sc (.atom 5))))
theorem fm_scrimshawref02_Check_eq : execF Tryd.prog { pub := [], nojoin := false } Tryd.f11 = fm_scrimshawref02_Check := by kernel_rfl
theorem cb_scrimshawref02_Check : callB Tryd.prog 11 = true := by kernel_rfl
theorem tri_scrimshawref02_Check (E : List Value) {args : Array Value} {H : PH} {R : Ending → PH → Prop} (hE : tagsOk ((paramRS Tryd.prog Tryd.f11).flatMap RS.tags) E = true) (hargs : args.toList = packAll (paramRS Tryd.prog Tryd.f11) E)
    (hden : den Tryd.prog (fun c H' => R (.panicked c) H') fm_scrimshawref02_Check E H [] (fun ve E' H' _ => R (.returned (evV E' (fun _ => 0) ve)) H')) : Tri Tryd.prog 11 args H R :=
  execF_tri (op := { pub := [], nojoin := false }) Tryd.func11 hE hargs (by rw [fm_scrimshawref02_Check_eq]; exact hden)

/-- scrimshaw/data.Name -/
abbrev n_data_Name : FuncId := 12
def fm_data_Name : Fm VE :=
 (.loop 3 [.bool, .int .i64] [(.bool false), (.int .i64 0)]
  (.ite (.cmp .lss (.atom 2) (.slen (.atom 0)))
   (.chk [] (.inStr (.atom 0) (.atom 2))
   (.call (.fn 27) [(.sc (.sidx (.atom 0) (.atom 2)))] (.sc (.bool)) []
   (.ite (.not (.atom 3))
    (.leaf (.sc (.bool false)))
    (.next 3 [(.atom 1), (.ar .add .i64 (.atom 2) (.int .i64 1))]))))
   (.join 6 [.bool]
    (.leaf (.sc (.atom 3)))
    (.ite (.pick (.pick (.scmp .neq (.atom 0) (.str [])) (.cmp .leq (.slen (.atom 0)) (.int .i64 64)) (.bool false)) (.scmp .neq (.atom 0) (.str [46])) (.bool false))
     (.call (.fn 28) [(.sc (.atom 0))] (.sc (.bool)) []
     (.next 6 [(.not (.atom 3))]))
     (.next 6 [(.bool false)])))))
theorem fm_data_Name_eq : execF Tryd.prog { pub := [], nojoin := false } Tryd.f12 = fm_data_Name := by kernel_rfl
theorem cb_data_Name : callB Tryd.prog 12 = true := by kernel_rfl
theorem tri_data_Name (E : List Value) {args : Array Value} {H : PH} {R : Ending → PH → Prop} (hE : tagsOk ((paramRS Tryd.prog Tryd.f12).flatMap RS.tags) E = true) (hargs : args.toList = packAll (paramRS Tryd.prog Tryd.f12) E)
    (hden : den Tryd.prog (fun c H' => R (.panicked c) H') fm_data_Name E H [] (fun ve E' H' _ => R (.returned (evV E' (fun _ => 0) ve)) H')) : Tri Tryd.prog 12 args H R :=
  execF_tri (op := { pub := [], nojoin := false }) Tryd.func12 hE hargs (by rw [fm_data_Name_eq]; exact hden)

/-- scrimshaw/scrimshawref02.Name -/
abbrev n_scrimshawref02_Name : FuncId := 13
def fm_scrimshawref02_Name : Fm VE :=
 (.join 2 [.bool]
  (.ite (.atom 1)
   (.leaf (.sc (.bool false)))
   (.loop 5 [.bool, .int .i64] [(.bool false), (.int .i64 0)]
    (.ite (.cmp .lss (.atom 3) (.slen (.atom 0)))
     (.chk [] (.inStr (.atom 0) (.atom 3))
     (.call (.fn 30) [(.sc (.sidx (.atom 0) (.atom 3)))] (.sc (.bool)) []
     (.ite (.not (.atom 4))
      (.leaf (.sc (.bool false)))
      (.next 5 [(.atom 2), (.ar .add .i64 (.atom 3) (.int .i64 1))]))))
     (.leaf (.sc (.bool true))))))
  (.ite (.pick (.pick (.cmp .lss (.slen (.atom 0)) (.int .i64 1)) (.bool true) (.cmp .gtr (.slen (.atom 0)) (.int .i64 64))) (.bool true) (.scmp .eql (.atom 0) (.str [46])))
   (.next 2 [(.bool true)])
   (.call (.fn 29) [(.sc (.atom 0))] (.sc (.bool)) []
   (.next 2 [(.atom 1)]))))
theorem fm_scrimshawref02_Name_eq : execF Tryd.prog { pub := [], nojoin := false } Tryd.f13 = fm_scrimshawref02_Name := by kernel_rfl
theorem cb_scrimshawref02_Name : callB Tryd.prog 13 = true := by kernel_rfl
theorem tri_scrimshawref02_Name (E : List Value) {args : Array Value} {H : PH} {R : Ending → PH → Prop} (hE : tagsOk ((paramRS Tryd.prog Tryd.f13).flatMap RS.tags) E = true) (hargs : args.toList = packAll (paramRS Tryd.prog Tryd.f13) E)
    (hden : den Tryd.prog (fun c H' => R (.panicked c) H') fm_scrimshawref02_Name E H [] (fun ve E' H' _ => R (.returned (evV E' (fun _ => 0) ve)) H')) : Tri Tryd.prog 13 args H R :=
  execF_tri (op := { pub := [], nojoin := false }) Tryd.func13 hE hargs (by rw [fm_scrimshawref02_Name_eq]; exact hden)

/-- scrimshaw/data.Text -/
abbrev n_data_Text : FuncId := 14
def fm_data_Text : Fm VE :=
 (.call (.fn 31) [(.ag [(.atom 0), (.atom 1), (.atom 2), (.atom 3)]), (.sc (.bool false))] (.tu [(false, [.str]), (false, [.int .i64])]) []
 (.leaf (.tu [(false, [(.atom 4)]), (false, [(.atom 5)])])))
theorem fm_data_Text_eq : execF Tryd.prog { pub := [], nojoin := false } Tryd.f14 = fm_data_Text := by kernel_rfl
theorem cb_data_Text : callB Tryd.prog 14 = true := by kernel_rfl
theorem tri_data_Text (E : List Value) {args : Array Value} {H : PH} {R : Ending → PH → Prop} (hE : tagsOk ((paramRS Tryd.prog Tryd.f14).flatMap RS.tags) E = true) (hargs : args.toList = packAll (paramRS Tryd.prog Tryd.f14) E)
    (hden : den Tryd.prog (fun c H' => R (.panicked c) H') fm_data_Text E H [] (fun ve E' H' _ => R (.returned (evV E' (fun _ => 0) ve)) H')) : Tri Tryd.prog 14 args H R :=
  execF_tri (op := { pub := [], nojoin := false }) Tryd.func14 hE hargs (by rw [fm_data_Text_eq]; exact hden)

/-- scrimshaw/data.Show -/
abbrev n_data_Show : FuncId := 15
def fm_data_Show : Fm VE :=
 (.call (.fn 31) [(.ag [(.atom 0), (.atom 1), (.atom 2), (.atom 3)]), (.sc (.bool true))] (.tu [(false, [.str]), (false, [.int .i64])]) []
 (.leaf (.tu [(false, [(.atom 4)]), (false, [(.atom 5)])])))
theorem fm_data_Show_eq : execF Tryd.prog { pub := [], nojoin := false } Tryd.f15 = fm_data_Show := by kernel_rfl
theorem cb_data_Show : callB Tryd.prog 15 = true := by kernel_rfl
theorem tri_data_Show (E : List Value) {args : Array Value} {H : PH} {R : Ending → PH → Prop} (hE : tagsOk ((paramRS Tryd.prog Tryd.f15).flatMap RS.tags) E = true) (hargs : args.toList = packAll (paramRS Tryd.prog Tryd.f15) E)
    (hden : den Tryd.prog (fun c H' => R (.panicked c) H') fm_data_Show E H [] (fun ve E' H' _ => R (.returned (evV E' (fun _ => 0) ve)) H')) : Tri Tryd.prog 15 args H R :=
  execF_tri (op := { pub := [], nojoin := false }) Tryd.func15 hE hargs (by rw [fm_data_Show_eq]; exact hden)

/-- scrimshaw/scrimshawref02.Text -/
abbrev n_scrimshawref02_Text : FuncId := 16
def fm_scrimshawref02_Text : Fm VE :=
 (.ite (.cmp .eql (.atom 0) (.int .i64 0))
  (.ite (.cmp .eql (.atom 1) (.int .i64 0))
   (.leaf (.sc (.str [35, 102])))
   (.leaf (.sc (.str [35, 116]))))
  (.ite (.cmp .eql (.atom 0) (.int .i64 1))
   (.call (.fn 32) [(.sc (.atom 1))] (.sc (.str)) []
   (.leaf (.sc (.atom 5))))
   (.ite (.cmp .eql (.atom 0) (.int .i64 2))
    (.ite (.atom 4)
     (.sem (.buildSlice 50 1 #[(0, (.tmp 24))]) 50 [(24, (.sc (.conv .u8 (.atom 1))))] (.sc (.sl)) []
     (.sem (.convert 50 9 (.tmp 25)) 9 [(25, (.sc (.atom 5)))] (.sc (.str)) []
     (.leaf (.sc (.atom 6)))))
     (.call (.fn 33) [(.sc (.conv .u8 (.atom 1)))] (.sc (.str)) []
     (.leaf (.sc (.atom 5)))))
    (.ite (.cmp .eql (.atom 0) (.int .i64 3))
     (.ite (.atom 4)
      (.leaf (.sc (.atom 2)))
      (.call (.fn 34) [(.sc (.atom 2))] (.sc (.str)) []
      (.leaf (.sc (.atom 5)))))
     (.ite (.cmp .eql (.atom 0) (.int .i64 4))
      (.leaf (.sc (.atom 2)))
      (.loop 13 [.str, .int .i64] [(.pick (.cmp .eql (.atom 0) (.int .i64 7)) (.str [35, 40]) (.str [40])), (.int .i64 0)]
       (.ite (.cmp .lss (.atom 6) (.len (.atom 3)))
        (.join 17 [.str]
         (.join 18 [.str]
          (.chk [] (.inSl (.atom 3) (.atom 6))
          (.load (.elt (.atom 3) (.atom 6) 4) [.int .i64, .int .i64, .str, .sl]
          (.call (.fn 16) [(.ag [(.atom 9), (.atom 10), (.atom 11), (.atom 12)]), (.sc (.atom 4))] (.sc (.str)) []
          (.chk [] (.catOk (.atom 8) (.atom 13))
          (.next 13 [(.cat (.atom 8) (.atom 13)), (.ar .add .i64 (.atom 6) (.int .i64 1))])))))
          (.ite (.pick (.cmp .eql (.atom 0) (.int .i64 6)) (.cmp .eql (.atom 6) (.ar .sub .i64 (.len (.atom 3)) (.int .i64 1))) (.bool false))
           (.chk [] (.catOk (.atom 7) (.str [46, 32]))
           (.next 18 [(.cat (.atom 7) (.str [46, 32]))]))
           (.next 18 [(.atom 7)])))
         (.ite (.cmp .gtr (.atom 6) (.int .i64 0))
          (.chk [] (.catOk (.atom 5) (.str [32]))
          (.next 17 [(.cat (.atom 5) (.str [32]))]))
          (.next 17 [(.atom 5)])))
        (.chk [] (.catOk (.atom 5) (.str [41]))
        (.leaf (.sc (.cat (.atom 5) (.str [41]))))))))))))
theorem fm_scrimshawref02_Text_eq : execF Tryd.prog { pub := [], nojoin := false } Tryd.f16 = fm_scrimshawref02_Text := by kernel_rfl
theorem cb_scrimshawref02_Text : callB Tryd.prog 16 = true := by kernel_rfl
theorem tri_scrimshawref02_Text (E : List Value) {args : Array Value} {H : PH} {R : Ending → PH → Prop} (hE : tagsOk ((paramRS Tryd.prog Tryd.f16).flatMap RS.tags) E = true) (hargs : args.toList = packAll (paramRS Tryd.prog Tryd.f16) E)
    (hden : den Tryd.prog (fun c H' => R (.panicked c) H') fm_scrimshawref02_Text E H [] (fun ve E' H' _ => R (.returned (evV E' (fun _ => 0) ve)) H')) : Tri Tryd.prog 16 args H R :=
  execF_tri (op := { pub := [], nojoin := false }) Tryd.func16 hE hargs (by rw [fm_scrimshawref02_Text_eq]; exact hden)

/-- scrimshaw/scrimshawref02.Huge -/
abbrev n_scrimshawref02_Huge : FuncId := 17
def fm_scrimshawref02_Huge : Fm VE :=
 (.loop 4 [.int .i64, .int .i64] [(.int .i64 100001), (.int .i64 0)]
  (.ite (.pick (.cmp .lss (.atom 2) (.len (.atom 0))) (.cmp .gtr (.atom 1) (.int .i64 0)) (.bool false))
   (.chk [] (.inSl (.atom 0) (.atom 2))
   (.load (.elt (.atom 0) (.atom 2) 4) [.int .i64, .int .i64, .str, .sl]
   (.call (.fn 35) [(.ag [(.atom 3), (.atom 4), (.atom 5), (.atom 6)]), (.sc (.atom 1))] (.sc (.int .i64)) []
   (.next 4 [(.atom 7), (.ar .add .i64 (.atom 2) (.int .i64 1))]))))
   (.leaf (.sc (.cmp .eql (.atom 1) (.int .i64 0))))))
theorem fm_scrimshawref02_Huge_eq : execF Tryd.prog { pub := [], nojoin := false } Tryd.f17 = fm_scrimshawref02_Huge := by kernel_rfl
theorem cb_scrimshawref02_Huge : callB Tryd.prog 17 = true := by kernel_rfl
theorem tri_scrimshawref02_Huge (E : List Value) {args : Array Value} {H : PH} {R : Ending → PH → Prop} (hE : tagsOk ((paramRS Tryd.prog Tryd.f17).flatMap RS.tags) E = true) (hargs : args.toList = packAll (paramRS Tryd.prog Tryd.f17) E)
    (hden : den Tryd.prog (fun c H' => R (.panicked c) H') fm_scrimshawref02_Huge E H [] (fun ve E' H' _ => R (.returned (evV E' (fun _ => 0) ve)) H')) : Tri Tryd.prog 17 args H R :=
  execF_tri (op := { pub := [], nojoin := false }) Tryd.func17 hE hargs (by rw [fm_scrimshawref02_Huge_eq]; exact hden)

/-- scrimshaw/data.Equal -/
abbrev n_data_Equal : FuncId := 18
def fm_data_Equal : Fm VE :=
 (.join 1 [.bool]
  (.leaf (.sc (.atom 8)))
  (.ite (.pick (.pick (.cmp .eql (.atom 0) (.atom 4)) (.cmp .eql (.atom 1) (.atom 5)) (.bool false)) (.scmp .eql (.atom 2) (.atom 6)) (.bool false))
   (.call (.fn 36) [(.sc (.atom 3)), (.sc (.atom 7)), (.sc (.fn 18))] (.sc (.bool)) []
   (.next 1 [(.atom 8)]))
   (.next 1 [(.bool false)])))
theorem fm_data_Equal_eq : execF Tryd.prog { pub := [], nojoin := false } Tryd.f18 = fm_data_Equal := by kernel_rfl
theorem cb_data_Equal : callB Tryd.prog 18 = true := by kernel_rfl
theorem tri_data_Equal (E : List Value) {args : Array Value} {H : PH} {R : Ending → PH → Prop} (hE : tagsOk ((paramRS Tryd.prog Tryd.f18).flatMap RS.tags) E = true) (hargs : args.toList = packAll (paramRS Tryd.prog Tryd.f18) E)
    (hden : den Tryd.prog (fun c H' => R (.panicked c) H') fm_data_Equal E H [] (fun ve E' H' _ => R (.returned (evV E' (fun _ => 0) ve)) H')) : Tri Tryd.prog 18 args H R :=
  execF_tri (op := { pub := [], nojoin := false }) Tryd.func18 hE hargs (by rw [fm_data_Equal_eq]; exact hden)

/-- scrimshaw/scrimshawref02.Same -/
abbrev n_scrimshawref02_Same : FuncId := 19
def fm_scrimshawref02_Same : Fm VE :=
 (.ite (.pick (.pick (.pick (.cmp .neq (.atom 0) (.atom 4)) (.bool true) (.cmp .neq (.atom 1) (.atom 5))) (.bool true) (.scmp .neq (.atom 2) (.atom 6))) (.bool true) (.cmp .neq (.len (.atom 3)) (.len (.atom 7))))
  (.leaf (.sc (.bool false)))
  (.loop 5 [.bool, .int .i64] [(.bool false), (.int .i64 0)]
   (.ite (.cmp .lss (.atom 9) (.len (.atom 3)))
    (.chk [] (.inSl (.atom 3) (.atom 9))
    (.load (.elt (.atom 3) (.atom 9) 4) [.int .i64, .int .i64, .str, .sl]
    (.chk [] (.inSl (.atom 7) (.atom 9))
    (.load (.elt (.atom 7) (.atom 9) 4) [.int .i64, .int .i64, .str, .sl]
    (.call (.fn 19) [(.ag [(.atom 10), (.atom 11), (.atom 12), (.atom 13)]), (.ag [(.atom 14), (.atom 15), (.atom 16), (.atom 17)])] (.sc (.bool)) []
    (.ite (.not (.atom 18))
     (.leaf (.sc (.bool false)))
     (.next 5 [(.atom 8), (.ar .add .i64 (.atom 9) (.int .i64 1))])))))))
    (.leaf (.sc (.bool true))))))
theorem fm_scrimshawref02_Same_eq : execF Tryd.prog { pub := [], nojoin := false } Tryd.f19 = fm_scrimshawref02_Same := by kernel_rfl
theorem cb_scrimshawref02_Same : callB Tryd.prog 19 = true := by kernel_rfl
theorem tri_scrimshawref02_Same (E : List Value) {args : Array Value} {H : PH} {R : Ending → PH → Prop} (hE : tagsOk ((paramRS Tryd.prog Tryd.f19).flatMap RS.tags) E = true) (hargs : args.toList = packAll (paramRS Tryd.prog Tryd.f19) E)
    (hden : den Tryd.prog (fun c H' => R (.panicked c) H') fm_scrimshawref02_Same E H [] (fun ve E' H' _ => R (.returned (evV E' (fun _ => 0) ve)) H')) : Tri Tryd.prog 19 args H R :=
  execF_tri (op := { pub := [], nojoin := false }) Tryd.func19 hE hargs (by rw [fm_scrimshawref02_Same_eq]; exact hden)

/-- scrimshaw/data.Make -/
abbrev n_data_Make : FuncId := 20
def fm_data_Make : Fm VE :=
 (.ite (.cmp .eql (.len (.atom 0)) (.int .i64 0))
  (.call (.fn 37) [(.ag [(.atom 1), (.atom 2), (.atom 3), (.atom 4)])] (.ag [.int .i64, .int .i64, .str, .sl]) []
  (.leaf (.ag [(.atom 5), (.atom 6), (.atom 7), (.atom 8)])))
  (.ite (.pick (.cmp .eql (.atom 1) (.int .i64 5)) (.bool true) (.cmp .eql (.atom 1) (.int .i64 6)))
   (.call (.fn 38) [(.sc (.atom 0))] (.sc (.sl)) []
   (.call (.fn 38) [(.sc (.atom 4))] (.sc (.sl)) []
   (.sem (.call ⟨.builtin .append, #[(.tmp 21), (.tmp 24)], #[22, 22]⟩) 22 [(21, (.sc (.atom 5))), (24, (.sc (.atom 6)))] (.sc (.sl)) []
   (.leaf (.ag [(.atom 1), (.int .i64 0), (.str []), (.atom 7)])))))
   (.call (.fn 38) [(.sc (.atom 0))] (.sc (.sl)) []
   (.call (.fn 37) [(.ag [(.atom 1), (.atom 2), (.atom 3), (.atom 4)])] (.ag [.int .i64, .int .i64, .str, .sl]) []
   (.sem (.buildSlice 22 1 #[(0, (.tmp 30))]) 22 [(30, (.ag [(.atom 6), (.atom 7), (.atom 8), (.atom 9)]))] (.sc (.sl)) []
   (.sem (.call ⟨.builtin .append, #[(.tmp 28), (.tmp 31)], #[22, 22]⟩) 22 [(28, (.sc (.atom 5))), (31, (.sc (.atom 10)))] (.sc (.sl)) []
   (.leaf (.ag [(.int .i64 6), (.int .i64 0), (.str []), (.atom 11)]))))))))
theorem fm_data_Make_eq : execF Tryd.prog { pub := [], nojoin := false } Tryd.f20 = fm_data_Make := by kernel_rfl
theorem cb_data_Make : callB Tryd.prog 20 = true := by kernel_rfl
theorem tri_data_Make (E : List Value) {args : Array Value} {H : PH} {R : Ending → PH → Prop} (hE : tagsOk ((paramRS Tryd.prog Tryd.f20).flatMap RS.tags) E = true) (hargs : args.toList = packAll (paramRS Tryd.prog Tryd.f20) E)
    (hden : den Tryd.prog (fun c H' => R (.panicked c) H') fm_data_Make E H [] (fun ve E' H' _ => R (.returned (evV E' (fun _ => 0) ve)) H')) : Tri Tryd.prog 20 args H R :=
  execF_tri (op := { pub := [], nojoin := false }) Tryd.func20 hE hargs (by rw [fm_data_Make_eq]; exact hden)

/-- scrimshaw/data.Items -/
abbrev n_data_Items : FuncId := 21
def fm_data_Items : Fm VE :=
 (.ite (.cmp .eql (.atom 0) (.int .i64 5))
  (.call (.fn 38) [(.sc (.atom 3))] (.sc (.sl)) []
  (.leaf (.tu [(false, [(.atom 4)]), (true, [(.int .i64 5), (.int .i64 0), (.str []), (.nil 1)])])))
  (.ite (.pick (.cmp .eql (.atom 0) (.int .i64 6)) (.cmp .gtr (.len (.atom 3)) (.int .i64 0)) (.bool false))
   (.chk [] (.sub (.cap (.atom 3)) (.int .i64 0) (.ar .sub .i64 (.len (.atom 3)) (.int .i64 1)))
   (.chk [] (.inSl (.atom 3) (.ar .sub .i64 (.len (.atom 3)) (.int .i64 1)))
   (.load (.elt (.atom 3) (.ar .sub .i64 (.len (.atom 3)) (.int .i64 1)) 4) [.int .i64, .int .i64, .str, .sl]
   (.call (.fn 38) [(.sc (.sls (.atom 3) (.int .i64 0) (.ar .sub .i64 (.len (.atom 3)) (.int .i64 1)) 4))] (.sc (.sl)) [((.elt (.atom 3) (.ar .sub .i64 (.len (.atom 3)) (.int .i64 1)) 4), [(.atom 4), (.atom 5), (.atom 6), (.atom 7)])]
   (.call (.fn 37) [(.ag [(.atom 4), (.atom 5), (.atom 6), (.atom 7)])] (.ag [.int .i64, .int .i64, .str, .sl]) []
   (.leaf (.tu [(false, [(.atom 8)]), (true, [(.atom 9), (.atom 10), (.atom 11), (.atom 12)])])))))))
   (.call (.fn 37) [(.ag [(.atom 0), (.atom 1), (.atom 2), (.atom 3)])] (.ag [.int .i64, .int .i64, .str, .sl]) []
   (.leaf (.tu [(false, [(.nil 1)]), (true, [(.atom 4), (.atom 5), (.atom 6), (.atom 7)])])))))
theorem fm_data_Items_eq : execF Tryd.prog { pub := [], nojoin := false } Tryd.f21 = fm_data_Items := by kernel_rfl
theorem cb_data_Items : callB Tryd.prog 21 = true := by kernel_rfl
theorem tri_data_Items (E : List Value) {args : Array Value} {H : PH} {R : Ending → PH → Prop} (hE : tagsOk ((paramRS Tryd.prog Tryd.f21).flatMap RS.tags) E = true) (hargs : args.toList = packAll (paramRS Tryd.prog Tryd.f21) E)
    (hden : den Tryd.prog (fun c H' => R (.panicked c) H') fm_data_Items E H [] (fun ve E' H' _ => R (.returned (evV E' (fun _ => 0) ve)) H')) : Tri Tryd.prog 21 args H R :=
  execF_tri (op := { pub := [], nojoin := false }) Tryd.func21 hE hargs (by rw [fm_data_Items_eq]; exact hden)

/-- scrimshaw/scrimshawref02.Items -/
abbrev n_scrimshawref02_Items : FuncId := 22
def fm_scrimshawref02_Items : Fm VE :=
 (.ite (.cmp .eql (.atom 0) (.int .i64 5))
  (.leaf (.tu [(false, [(.atom 3)]), (true, [(.int .i64 5), (.int .i64 0), (.str []), (.nil 1)])]))
  (.ite (.pick (.cmp .eql (.atom 0) (.int .i64 6)) (.cmp .gtr (.len (.atom 3)) (.int .i64 0)) (.bool false))
   (.chk [] (.sub (.cap (.atom 3)) (.int .i64 0) (.ar .sub .i64 (.len (.atom 3)) (.int .i64 1)))
   (.chk [] (.inSl (.atom 3) (.ar .sub .i64 (.len (.atom 3)) (.int .i64 1)))
   (.load (.elt (.atom 3) (.ar .sub .i64 (.len (.atom 3)) (.int .i64 1)) 4) [.int .i64, .int .i64, .str, .sl]
   (.leaf (.tu [(false, [(.sls (.atom 3) (.int .i64 0) (.ar .sub .i64 (.len (.atom 3)) (.int .i64 1)) 4)]), (true, [(.atom 4), (.atom 5), (.atom 6), (.atom 7)])])))))
   (.leaf (.tu [(false, [(.nil 1)]), (true, [(.atom 0), (.atom 1), (.atom 2), (.atom 3)])]))))
theorem fm_scrimshawref02_Items_eq : execF Tryd.prog { pub := [], nojoin := false } Tryd.f22 = fm_scrimshawref02_Items := by kernel_rfl
theorem cb_scrimshawref02_Items : callB Tryd.prog 22 = true := by kernel_rfl
theorem tri_scrimshawref02_Items (E : List Value) {args : Array Value} {H : PH} {R : Ending → PH → Prop} (hE : tagsOk ((paramRS Tryd.prog Tryd.f22).flatMap RS.tags) E = true) (hargs : args.toList = packAll (paramRS Tryd.prog Tryd.f22) E)
    (hden : den Tryd.prog (fun c H' => R (.panicked c) H') fm_scrimshawref02_Items E H [] (fun ve E' H' _ => R (.returned (evV E' (fun _ => 0) ve)) H')) : Tri Tryd.prog 22 args H R :=
  execF_tri (op := { pub := [], nojoin := false }) Tryd.func22 hE hargs (by rw [fm_scrimshawref02_Items_eq]; exact hden)

/-- scrimshaw/scrimshawref02.Make -/
abbrev n_scrimshawref02_Make : FuncId := 23
def fm_scrimshawref02_Make : Fm VE :=
 (.ite (.cmp .eql (.len (.atom 0)) (.int .i64 0))
  (.leaf (.ag [(.atom 1), (.atom 2), (.atom 3), (.atom 4)]))
  (.sem (.buildSlice 22 0 #[]) 22 [] (.sc (.sl)) []
  (.sem (.call ⟨.builtin .append, #[(.tmp 10), (.tmp 11)], #[22, 22]⟩) 22 [(10, (.sc (.atom 5))), (11, (.sc (.atom 0)))] (.sc (.sl)) []
  (.ite (.pick (.cmp .eql (.atom 1) (.int .i64 5)) (.bool true) (.cmp .eql (.atom 1) (.int .i64 6)))
   (.sem (.call ⟨.builtin .append, #[(.tmp 23), (.tmp 25)], #[22, 22]⟩) 22 [(23, (.sc (.atom 6))), (25, (.sc (.atom 4)))] (.sc (.sl)) []
   (.leaf (.ag [(.atom 1), (.int .i64 0), (.str []), (.atom 7)])))
   (.sem (.buildSlice 22 1 #[(0, (.tmp 29))]) 22 [(29, (.ag [(.atom 1), (.atom 2), (.atom 3), (.atom 4)]))] (.sc (.sl)) []
   (.sem (.call ⟨.builtin .append, #[(.tmp 28), (.tmp 30)], #[22, 22]⟩) 22 [(28, (.sc (.atom 6))), (30, (.sc (.atom 7)))] (.sc (.sl)) []
   (.leaf (.ag [(.int .i64 6), (.int .i64 0), (.str []), (.atom 8)]))))))))
theorem fm_scrimshawref02_Make_eq : execF Tryd.prog { pub := [], nojoin := false } Tryd.f23 = fm_scrimshawref02_Make := by kernel_rfl
theorem cb_scrimshawref02_Make : callB Tryd.prog 23 = true := by kernel_rfl
theorem tri_scrimshawref02_Make (E : List Value) {args : Array Value} {H : PH} {R : Ending → PH → Prop} (hE : tagsOk ((paramRS Tryd.prog Tryd.f23).flatMap RS.tags) E = true) (hargs : args.toList = packAll (paramRS Tryd.prog Tryd.f23) E)
    (hden : den Tryd.prog (fun c H' => R (.panicked c) H') fm_scrimshawref02_Make E H [] (fun ve E' H' _ => R (.returned (evV E' (fun _ => 0) ve)) H')) : Tri Tryd.prog 23 args H R :=
  execF_tri (op := { pub := [], nojoin := false }) Tryd.func23 hE hargs (by rw [fm_scrimshawref02_Make_eq]; exact hden)

/-- scrimshaw/scrimshawref02.SameAll -/
abbrev n_scrimshawref02_SameAll : FuncId := 24
def fm_scrimshawref02_SameAll : Fm VE :=
 (.call (.fn 19) [(.ag [(.int .i64 0), (.int .i64 0), (.str []), (.atom 0)]), (.ag [(.int .i64 0), (.int .i64 0), (.str []), (.atom 1)])] (.sc (.bool)) []
 (.leaf (.sc (.atom 2))))
theorem fm_scrimshawref02_SameAll_eq : execF Tryd.prog { pub := [], nojoin := false } Tryd.f24 = fm_scrimshawref02_SameAll := by kernel_rfl
theorem cb_scrimshawref02_SameAll : callB Tryd.prog 24 = true := by kernel_rfl
theorem tri_scrimshawref02_SameAll (E : List Value) {args : Array Value} {H : PH} {R : Ending → PH → Prop} (hE : tagsOk ((paramRS Tryd.prog Tryd.f24).flatMap RS.tags) E = true) (hargs : args.toList = packAll (paramRS Tryd.prog Tryd.f24) E)
    (hden : den Tryd.prog (fun c H' => R (.panicked c) H') fm_scrimshawref02_SameAll E H [] (fun ve E' H' _ => R (.returned (evV E' (fun _ => 0) ve)) H')) : Tri Tryd.prog 24 args H R :=
  execF_tri (op := { pub := [], nojoin := false }) Tryd.func24 hE hargs (by rw [fm_scrimshawref02_SameAll_eq]; exact hden)

/-- (*scrimshaw/data.checker).check -/
abbrev n_data_checker__check : FuncId := 25
def fm_data_checker__check : Fm VE :=
 (.chk [] (.some (.atom 0))
 (.load (.padd (.atom 0) 0) [.int .i64]
 (.ite (.cmp .eql (.atom 6) (.int .i64 4096))
  (.leaf (.sc (.int .i64 22)))
  (.load (.padd (.atom 0) 0) [.int .i64]
  (.store (.padd (.atom 0) 0) [(.ar .add .i64 (.atom 7) (.int .i64 1))]
  (.call (.fn 39) [(.ag [(.atom 1), (.atom 2), (.atom 3), (.atom 4)])] (.sc (.bool)) []
  (.ite (.pick (.atom 8) (.cmp .eql (.atom 5) (.int .i64 32)) (.bool false))
   (.leaf (.sc (.int .i64 21)))
   (.call (.fn 40) [(.ag [(.atom 1), (.atom 2), (.atom 3), (.atom 4)])] (.sc (.bool)) []
   (.ite (.not (.atom 9))
    (.leaf (.sc (.int .i64 20)))
    (.loop 10 [.int .i64, .int .i64] [(.int .i64 0), (.int .i64 0)]
     (.ite (.cmp .lss (.atom 11) (.len (.atom 4)))
      (.chk [] (.inSl (.atom 4) (.atom 11))
      (.load (.elt (.atom 4) (.atom 11) 4) [.int .i64, .int .i64, .str, .sl]
      (.call (.fn 25) [(.sc (.atom 0)), (.ag [(.atom 12), (.atom 13), (.atom 14), (.atom 15)]), (.sc (.ar .add .i64 (.atom 5) (.int .i64 1)))] (.sc (.int .i64)) []
      (.ite (.cmp .neq (.atom 16) (.int .i64 0))
       (.leaf (.sc (.atom 16)))
       (.next 10 [(.atom 10), (.ar .add .i64 (.atom 11) (.int .i64 1))])))))
      (.leaf (.sc (.int .i64 0))))))))))))))
theorem fm_data_checker__check_eq : execF Tryd.prog { pub := [], nojoin := false } Tryd.f25 = fm_data_checker__check := by kernel_rfl
theorem cb_data_checker__check : callB Tryd.prog 25 = true := by kernel_rfl
theorem tri_data_checker__check (E : List Value) {args : Array Value} {H : PH} {R : Ending → PH → Prop} (hE : tagsOk ((paramRS Tryd.prog Tryd.f25).flatMap RS.tags) E = true) (hargs : args.toList = packAll (paramRS Tryd.prog Tryd.f25) E)
    (hden : den Tryd.prog (fun c H' => R (.panicked c) H') fm_data_checker__check E H [] (fun ve E' H' _ => R (.returned (evV E' (fun _ => 0) ve)) H')) : Tri Tryd.prog 25 args H R :=
  execF_tri (op := { pub := [], nojoin := false }) Tryd.func25 hE hargs (by rw [fm_data_checker__check_eq]; exact hden)

/-- scrimshaw/scrimshawref02.check -/
abbrev n_scrimshawref02_check : FuncId := 26
def fm_scrimshawref02_check : Fm VE :=
 (.ite (.cmp .eql (.atom 5) (.int .i64 4096))
  (.leaf (.tu [(false, [(.atom 5)]), (false, [(.int .i64 22)])]))
  (.call (.fn 41) [(.ag [(.atom 0), (.atom 1), (.atom 2), (.atom 3)])] (.sc (.bool)) []
  (.ite (.pick (.atom 6) (.cmp .eql (.atom 4) (.int .i64 32)) (.bool false))
   (.leaf (.tu [(false, [(.ar .add .i64 (.atom 5) (.int .i64 1))]), (false, [(.int .i64 21)])]))
   (.call (.fn 42) [(.ag [(.atom 0), (.atom 1), (.atom 2), (.atom 3)])] (.sc (.bool)) []
   (.ite (.not (.atom 7))
    (.leaf (.tu [(false, [(.ar .add .i64 (.atom 5) (.int .i64 1))]), (false, [(.int .i64 20)])]))
    (.loop 11 [.int .i64, .int .i64, .int .i64, .int .i64, .int .i64] [(.ar .add .i64 (.atom 5) (.int .i64 1)), (.int .i64 0), (.int .i64 0), (.int .i64 0), (.int .i64 0)]
     (.ite (.cmp .lss (.atom 12) (.len (.atom 3)))
      (.chk [] (.inSl (.atom 3) (.atom 12))
      (.load (.elt (.atom 3) (.atom 12) 4) [.int .i64, .int .i64, .str, .sl]
      (.call (.fn 26) [(.ag [(.atom 13), (.atom 14), (.atom 15), (.atom 16)]), (.sc (.ar .add .i64 (.atom 4) (.int .i64 1))), (.sc (.atom 8))] (.tu [(false, [.int .i64]), (false, [.int .i64])]) []
      (.ite (.cmp .neq (.atom 18) (.int .i64 0))
       (.leaf (.tu [(false, [(.atom 17)]), (false, [(.atom 18)])]))
       (.next 11 [(.atom 17), (.atom 9), (.atom 10), (.atom 18), (.ar .add .i64 (.atom 12) (.int .i64 1))])))))
      (.leaf (.tu [(false, [(.atom 8)]), (false, [(.int .i64 0)])])))))))))
theorem fm_scrimshawref02_check_eq : execF Tryd.prog { pub := [], nojoin := false } Tryd.f26 = fm_scrimshawref02_check := by kernel_rfl
theorem cb_scrimshawref02_check : callB Tryd.prog 26 = true := by kernel_rfl
theorem tri_scrimshawref02_check (E : List Value) {args : Array Value} {H : PH} {R : Ending → PH → Prop} (hE : tagsOk ((paramRS Tryd.prog Tryd.f26).flatMap RS.tags) E = true) (hargs : args.toList = packAll (paramRS Tryd.prog Tryd.f26) E)
    (hden : den Tryd.prog (fun c H' => R (.panicked c) H') fm_scrimshawref02_check E H [] (fun ve E' H' _ => R (.returned (evV E' (fun _ => 0) ve)) H')) : Tri Tryd.prog 26 args H R :=
  execF_tri (op := { pub := [], nojoin := false }) Tryd.func26 hE hargs (by rw [fm_scrimshawref02_check_eq]; exact hden)

/-- scrimshaw/data.isName -/
abbrev n_data_isName : FuncId := 27
def fm_data_isName : Fm VE :=
 (.join 1 [.bool]
  (.leaf (.sc (.atom 1)))
  (.call (.fn 43) [(.sc (.atom 0))] (.sc (.bool)) []
  (.ite (.pick (.pick (.atom 1) (.bool true) (.pick (.cmp .geq (.atom 0) (.int .u8 97)) (.cmp .leq (.atom 0) (.int .u8 122)) (.bool false))) (.bool true) (.pick (.cmp .geq (.atom 0) (.int .u8 65)) (.cmp .leq (.atom 0) (.int .u8 90)) (.bool false)))
   (.next 1 [(.bool true)])
   (.call (.fn 44) [(.sc (.str [33, 36, 37, 38, 42, 47, 58, 60, 61, 62, 63, 94, 95, 126, 43, 45, 46, 64])), (.sc (.atom 0))] (.sc (.int .i64)) []
   (.next 1 [(.cmp .geq (.atom 2) (.int .i64 0))])))))
theorem fm_data_isName_eq : execF Tryd.prog { pub := [], nojoin := false } Tryd.f27 = fm_data_isName := by kernel_rfl
theorem cb_data_isName : callB Tryd.prog 27 = true := by kernel_rfl
theorem tri_data_isName (E : List Value) {args : Array Value} {H : PH} {R : Ending → PH → Prop} (hE : tagsOk ((paramRS Tryd.prog Tryd.f27).flatMap RS.tags) E = true) (hargs : args.toList = packAll (paramRS Tryd.prog Tryd.f27) E)
    (hden : den Tryd.prog (fun c H' => R (.panicked c) H') fm_data_isName E H [] (fun ve E' H' _ => R (.returned (evV E' (fun _ => 0) ve)) H')) : Tri Tryd.prog 27 args H R :=
  execF_tri (op := { pub := [], nojoin := false }) Tryd.func27 hE hargs (by rw [fm_data_isName_eq]; exact hden)

/-- scrimshaw/data.isNumber -/
abbrev n_data_isNumber : FuncId := 28
def fm_data_isNumber : Fm VE :=
 (.join 1 [.str]
  (.loop 4 [.bool, .int .i64] [(.bool false), (.int .i64 0)]
   (.ite (.cmp .lss (.atom 3) (.slen (.atom 1)))
    (.chk [] (.inStr (.atom 1) (.atom 3))
    (.call (.fn 43) [(.sc (.sidx (.atom 1) (.atom 3)))] (.sc (.bool)) []
    (.ite (.not (.atom 4))
     (.leaf (.sc (.bool false)))
     (.next 4 [(.atom 2), (.ar .add .i64 (.atom 3) (.int .i64 1))]))))
    (.leaf (.sc (.scmp .neq (.atom 1) (.str []))))))
  (.chk [((.scmp .neq (.atom 0) (.str [])), true)] (.inStr (.atom 0) (.int .i64 0))
  (.chk [((.scmp .neq (.atom 0) (.str [])), true), ((.cmp .eql (.sidx (.atom 0) (.int .i64 0)) (.int .u8 43)), false)] (.inStr (.atom 0) (.int .i64 0))
  (.ite (.pick (.scmp .neq (.atom 0) (.str [])) (.pick (.cmp .eql (.sidx (.atom 0) (.int .i64 0)) (.int .u8 43)) (.bool true) (.cmp .eql (.sidx (.atom 0) (.int .i64 0)) (.int .u8 45))) (.bool false))
   (.chk [] (.sub (.slen (.atom 0)) (.int .i64 1) (.slen (.atom 0)))
   (.next 1 [(.ssub (.atom 0) (.int .i64 1) (.slen (.atom 0)))]))
   (.next 1 [(.atom 0)])))))
theorem fm_data_isNumber_eq : execF Tryd.prog { pub := [], nojoin := false } Tryd.f28 = fm_data_isNumber := by kernel_rfl
theorem cb_data_isNumber : callB Tryd.prog 28 = true := by kernel_rfl
theorem tri_data_isNumber (E : List Value) {args : Array Value} {H : PH} {R : Ending → PH → Prop} (hE : tagsOk ((paramRS Tryd.prog Tryd.f28).flatMap RS.tags) E = true) (hargs : args.toList = packAll (paramRS Tryd.prog Tryd.f28) E)
    (hden : den Tryd.prog (fun c H' => R (.panicked c) H') fm_data_isNumber E H [] (fun ve E' H' _ => R (.returned (evV E' (fun _ => 0) ve)) H')) : Tri Tryd.prog 28 args H R :=
  execF_tri (op := { pub := [], nojoin := false }) Tryd.func28 hE hargs (by rw [fm_data_isNumber_eq]; exact hden)

/-- scrimshaw/scrimshawref02.Number -/
abbrev n_scrimshawref02_Number : FuncId := 29
def fm_scrimshawref02_Number : Fm VE :=
 (.chk [((.cmp .gtr (.slen (.atom 0)) (.int .i64 0)), true)] (.inStr (.atom 0) (.int .i64 0))
 (.chk [((.cmp .gtr (.slen (.atom 0)) (.int .i64 0)), true), ((.cmp .eql (.sidx (.atom 0) (.int .i64 0)) (.int .u8 43)), false)] (.inStr (.atom 0) (.int .i64 0))
 (.loop 6 [.bool, .int .i64] [(.bool false), (.pick (.pick (.cmp .gtr (.slen (.atom 0)) (.int .i64 0)) (.pick (.cmp .eql (.sidx (.atom 0) (.int .i64 0)) (.int .u8 43)) (.bool true) (.cmp .eql (.sidx (.atom 0) (.int .i64 0)) (.int .u8 45))) (.bool false)) (.int .i64 1) (.int .i64 0))]
  (.ite (.cmp .lss (.atom 2) (.slen (.atom 0)))
   (.chk [] (.inStr (.atom 0) (.atom 2))
   (.call (.fn 45) [(.sc (.sidx (.atom 0) (.atom 2)))] (.sc (.bool)) []
   (.ite (.not (.atom 3))
    (.leaf (.sc (.bool false)))
    (.next 6 [(.atom 1), (.ar .add .i64 (.atom 2) (.int .i64 1))]))))
   (.leaf (.sc (.cmp .gtr (.slen (.atom 0)) (.pick (.pick (.cmp .gtr (.slen (.atom 0)) (.int .i64 0)) (.pick (.cmp .eql (.sidx (.atom 0) (.int .i64 0)) (.int .u8 43)) (.bool true) (.cmp .eql (.sidx (.atom 0) (.int .i64 0)) (.int .u8 45))) (.bool false)) (.int .i64 1) (.int .i64 0)))))))))
theorem fm_scrimshawref02_Number_eq : execF Tryd.prog { pub := [], nojoin := false } Tryd.f29 = fm_scrimshawref02_Number := by kernel_rfl
theorem cb_scrimshawref02_Number : callB Tryd.prog 29 = true := by kernel_rfl
theorem tri_scrimshawref02_Number (E : List Value) {args : Array Value} {H : PH} {R : Ending → PH → Prop} (hE : tagsOk ((paramRS Tryd.prog Tryd.f29).flatMap RS.tags) E = true) (hargs : args.toList = packAll (paramRS Tryd.prog Tryd.f29) E)
    (hden : den Tryd.prog (fun c H' => R (.panicked c) H') fm_scrimshawref02_Number E H [] (fun ve E' H' _ => R (.returned (evV E' (fun _ => 0) ve)) H')) : Tri Tryd.prog 29 args H R :=
  execF_tri (op := { pub := [], nojoin := false }) Tryd.func29 hE hargs (by rw [fm_scrimshawref02_Number_eq]; exact hden)

/-- scrimshaw/scrimshawref02.Byte -/
abbrev n_scrimshawref02_Byte : FuncId := 30
def fm_scrimshawref02_Byte : Fm VE :=
 (.call (.fn 45) [(.sc (.atom 0))] (.sc (.bool)) []
 (.ite (.pick (.pick (.atom 1) (.bool true) (.pick (.cmp .geq (.atom 0) (.int .u8 97)) (.cmp .leq (.atom 0) (.int .u8 122)) (.bool false))) (.bool true) (.pick (.cmp .geq (.atom 0) (.int .u8 65)) (.cmp .leq (.atom 0) (.int .u8 90)) (.bool false)))
  (.leaf (.sc (.bool true)))
  (.loop 6 [.bool, .int .i64] [(.bool false), (.int .i64 0)]
   (.ite (.cmp .lss (.atom 3) (.int .i64 18))
    (.chk [] (.inStr (.str [33, 36, 37, 38, 42, 47, 58, 60, 61, 62, 63, 94, 95, 126, 43, 45, 46, 64]) (.atom 3))
    (.ite (.cmp .eql (.sidx (.str [33, 36, 37, 38, 42, 47, 58, 60, 61, 62, 63, 94, 95, 126, 43, 45, 46, 64]) (.atom 3)) (.atom 0))
     (.leaf (.sc (.bool true)))
     (.next 6 [(.atom 2), (.ar .add .i64 (.atom 3) (.int .i64 1))])))
    (.leaf (.sc (.bool false)))))))
theorem fm_scrimshawref02_Byte_eq : execF Tryd.prog { pub := [], nojoin := false } Tryd.f30 = fm_scrimshawref02_Byte := by kernel_rfl
theorem cb_scrimshawref02_Byte : callB Tryd.prog 30 = true := by kernel_rfl
theorem tri_scrimshawref02_Byte (E : List Value) {args : Array Value} {H : PH} {R : Ending → PH → Prop} (hE : tagsOk ((paramRS Tryd.prog Tryd.f30).flatMap RS.tags) E = true) (hargs : args.toList = packAll (paramRS Tryd.prog Tryd.f30) E)
    (hden : den Tryd.prog (fun c H' => R (.panicked c) H') fm_scrimshawref02_Byte E H [] (fun ve E' H' _ => R (.returned (evV E' (fun _ => 0) ve)) H')) : Tri Tryd.prog 30 args H R :=
  execF_tri (op := { pub := [], nojoin := false }) Tryd.func30 hE hargs (by rw [fm_scrimshawref02_Byte_eq]; exact hden)

/-- scrimshaw/data.written -/
abbrev n_data_written : FuncId := 31
def fm_data_written : Fm VE :=
 (.call (.fn 10) [(.ag [(.atom 0), (.atom 1), (.atom 2), (.atom 3)])] (.sc (.int .i64)) []
 (.ite (.cmp .neq (.atom 5) (.int .i64 0))
  (.leaf (.tu [(false, [(.str [])]), (false, [(.atom 5)])]))
  (.new 60 [(.nil 1), (.atom 4)]
  (.call (.fn 46) [(.sc (.atom 6)), (.ag [(.atom 0), (.atom 1), (.atom 2), (.atom 3)])] (.tu []) []
  (.chk [] (.some (.atom 6))
  (.load (.padd (.atom 6) 0) [.sl]
  (.sem (.convert 50 9 (.tmp 22)) 9 [(22, (.sc (.atom 7)))] (.sc (.str)) []
  (.leaf (.tu [(false, [(.atom 8)]), (false, [(.int .i64 0)])])))))))))
theorem fm_data_written_eq : execF Tryd.prog { pub := [15], nojoin := false } Tryd.f31 = fm_data_written := by kernel_rfl
theorem cb_data_written : callB Tryd.prog 31 = true := by kernel_rfl
theorem tri_data_written (E : List Value) {args : Array Value} {H : PH} {R : Ending → PH → Prop} (hE : tagsOk ((paramRS Tryd.prog Tryd.f31).flatMap RS.tags) E = true) (hargs : args.toList = packAll (paramRS Tryd.prog Tryd.f31) E)
    (hden : den Tryd.prog (fun c H' => R (.panicked c) H') fm_data_written E H [] (fun ve E' H' _ => R (.returned (evV E' (fun _ => 0) ve)) H')) : Tri Tryd.prog 31 args H R :=
  execF_tri (op := { pub := [15], nojoin := false }) Tryd.func31 hE hargs (by rw [fm_data_written_eq]; exact hden)

/-- scrimshaw/scrimshawref02.Digits -/
abbrev n_scrimshawref02_Digits : FuncId := 32
def fm_scrimshawref02_Digits : Fm VE :=
 (.loop 4 [.int .i64, .str] [(.atom 0), (.str [])]
  (.sem (.buildSlice 50 1 #[(0, (.tmp 16))]) 50 [(16, (.sc (.conv .u8 (.ar .add .i64 (.int .i64 48) (.pick (.cmp .lss (.ar .rem .i64 (.atom 1) (.int .i64 10)) (.int .i64 0)) (.ar .sub .i64 (.int .i64 0) (.ar .rem .i64 (.atom 1) (.int .i64 10))) (.ar .rem .i64 (.atom 1) (.int .i64 10)))))))] (.sc (.sl)) []
  (.sem (.convert 50 9 (.tmp 17)) 9 [(17, (.sc (.atom 3)))] (.sc (.str)) []
  (.chk [] (.catOk (.atom 4) (.atom 2))
  (.ite (.cmp .eql (.ar .quo .i64 (.atom 1) (.int .i64 10)) (.int .i64 0))
   (.ite (.cmp .lss (.atom 0) (.int .i64 0))
    (.chk [] (.catOk (.str [45]) (.cat (.atom 4) (.atom 2)))
    (.leaf (.sc (.cat (.str [45]) (.cat (.atom 4) (.atom 2))))))
    (.leaf (.sc (.cat (.atom 4) (.atom 2)))))
   (.next 4 [(.ar .quo .i64 (.atom 1) (.int .i64 10)), (.cat (.atom 4) (.atom 2))]))))))
theorem fm_scrimshawref02_Digits_eq : execF Tryd.prog { pub := [], nojoin := false } Tryd.f32 = fm_scrimshawref02_Digits := by kernel_rfl
theorem cb_scrimshawref02_Digits : callB Tryd.prog 32 = true := by kernel_rfl
theorem tri_scrimshawref02_Digits (E : List Value) {args : Array Value} {H : PH} {R : Ending → PH → Prop} (hE : tagsOk ((paramRS Tryd.prog Tryd.f32).flatMap RS.tags) E = true) (hargs : args.toList = packAll (paramRS Tryd.prog Tryd.f32) E)
    (hden : den Tryd.prog (fun c H' => R (.panicked c) H') fm_scrimshawref02_Digits E H [] (fun ve E' H' _ => R (.returned (evV E' (fun _ => 0) ve)) H')) : Tri Tryd.prog 32 args H R :=
  execF_tri (op := { pub := [], nojoin := false }) Tryd.func32 hE hargs (by rw [fm_scrimshawref02_Digits_eq]; exact hden)

/-- scrimshaw/scrimshawref02.char -/
abbrev n_scrimshawref02_char : FuncId := 33
def fm_scrimshawref02_char : Fm VE :=
 (.ite (.cmp .eql (.atom 0) (.int .u8 32))
  (.leaf (.sc (.str [35, 92, 115, 112, 97, 99, 101])))
  (.ite (.cmp .eql (.atom 0) (.int .u8 10))
   (.leaf (.sc (.str [35, 92, 110, 101, 119, 108, 105, 110, 101])))
   (.ite (.pick (.cmp .gtr (.atom 0) (.int .u8 32)) (.cmp .lss (.atom 0) (.int .u8 127)) (.bool false))
    (.sem (.buildSlice 50 1 #[(0, (.tmp 13))]) 50 [(13, (.sc (.atom 0)))] (.sc (.sl)) []
    (.sem (.convert 50 9 (.tmp 14)) 9 [(14, (.sc (.atom 1)))] (.sc (.str)) []
    (.chk [] (.catOk (.str [35, 92]) (.atom 2))
    (.leaf (.sc (.cat (.str [35, 92]) (.atom 2)))))))
    (.call (.fn 47) [(.sc (.atom 0))] (.sc (.str)) []
    (.chk [] (.catOk (.str [35, 92, 120]) (.atom 1))
    (.leaf (.sc (.cat (.str [35, 92, 120]) (.atom 1)))))))))
theorem fm_scrimshawref02_char_eq : execF Tryd.prog { pub := [], nojoin := false } Tryd.f33 = fm_scrimshawref02_char := by kernel_rfl
theorem cb_scrimshawref02_char : callB Tryd.prog 33 = true := by kernel_rfl
theorem tri_scrimshawref02_char (E : List Value) {args : Array Value} {H : PH} {R : Ending → PH → Prop} (hE : tagsOk ((paramRS Tryd.prog Tryd.f33).flatMap RS.tags) E = true) (hargs : args.toList = packAll (paramRS Tryd.prog Tryd.f33) E)
    (hden : den Tryd.prog (fun c H' => R (.panicked c) H') fm_scrimshawref02_char E H [] (fun ve E' H' _ => R (.returned (evV E' (fun _ => 0) ve)) H')) : Tri Tryd.prog 33 args H R :=
  execF_tri (op := { pub := [], nojoin := false }) Tryd.func33 hE hargs (by rw [fm_scrimshawref02_char_eq]; exact hden)

/-- scrimshaw/scrimshawref02.Quoted -/
abbrev n_scrimshawref02_Quoted : FuncId := 34
def fm_scrimshawref02_Quoted : Fm VE :=
 (.loop 4 [.str, .int .i64] [(.str [34]), (.int .i64 0)]
  (.ite (.cmp .lss (.atom 2) (.slen (.atom 0)))
   (.join 7 [.str]
    (.next 4 [(.atom 3), (.ar .add .i64 (.atom 2) (.int .i64 1))])
    (.chk [] (.inStr (.atom 0) (.atom 2))
    (.ite (.pick (.cmp .eql (.sidx (.atom 0) (.atom 2)) (.int .u8 34)) (.bool true) (.cmp .eql (.sidx (.atom 0) (.atom 2)) (.int .u8 92)))
     (.chk [] (.sub (.slen (.atom 0)) (.atom 2) (.ar .add .i64 (.atom 2) (.int .i64 1)))
     (.chk [] (.catOk (.str [92]) (.ssub (.atom 0) (.atom 2) (.ar .add .i64 (.atom 2) (.int .i64 1))))
     (.chk [] (.catOk (.atom 1) (.cat (.str [92]) (.ssub (.atom 0) (.atom 2) (.ar .add .i64 (.atom 2) (.int .i64 1)))))
     (.next 7 [(.cat (.atom 1) (.cat (.str [92]) (.ssub (.atom 0) (.atom 2) (.ar .add .i64 (.atom 2) (.int .i64 1)))))]))))
     (.ite (.cmp .eql (.sidx (.atom 0) (.atom 2)) (.int .u8 10))
      (.chk [] (.catOk (.atom 1) (.str [92, 110]))
      (.next 7 [(.cat (.atom 1) (.str [92, 110]))]))
      (.ite (.pick (.cmp .lss (.sidx (.atom 0) (.atom 2)) (.int .u8 32)) (.bool true) (.cmp .gtr (.sidx (.atom 0) (.atom 2)) (.int .u8 126)))
       (.call (.fn 47) [(.sc (.sidx (.atom 0) (.atom 2)))] (.sc (.str)) []
       (.chk [] (.catOk (.str [92, 120]) (.atom 3))
       (.chk [] (.catOk (.atom 1) (.cat (.str [92, 120]) (.atom 3)))
       (.next 7 [(.cat (.atom 1) (.cat (.str [92, 120]) (.atom 3)))]))))
       (.chk [] (.sub (.slen (.atom 0)) (.atom 2) (.ar .add .i64 (.atom 2) (.int .i64 1)))
       (.chk [] (.catOk (.atom 1) (.ssub (.atom 0) (.atom 2) (.ar .add .i64 (.atom 2) (.int .i64 1))))
       (.next 7 [(.cat (.atom 1) (.ssub (.atom 0) (.atom 2) (.ar .add .i64 (.atom 2) (.int .i64 1))))]))))))))
   (.chk [] (.catOk (.atom 1) (.str [34]))
   (.leaf (.sc (.cat (.atom 1) (.str [34])))))))
theorem fm_scrimshawref02_Quoted_eq : execF Tryd.prog { pub := [], nojoin := false } Tryd.f34 = fm_scrimshawref02_Quoted := by kernel_rfl
theorem cb_scrimshawref02_Quoted : callB Tryd.prog 34 = true := by kernel_rfl
theorem tri_scrimshawref02_Quoted (E : List Value) {args : Array Value} {H : PH} {R : Ending → PH → Prop} (hE : tagsOk ((paramRS Tryd.prog Tryd.f34).flatMap RS.tags) E = true) (hargs : args.toList = packAll (paramRS Tryd.prog Tryd.f34) E)
    (hden : den Tryd.prog (fun c H' => R (.panicked c) H') fm_scrimshawref02_Quoted E H [] (fun ve E' H' _ => R (.returned (evV E' (fun _ => 0) ve)) H')) : Tri Tryd.prog 34 args H R :=
  execF_tri (op := { pub := [], nojoin := false }) Tryd.func34 hE hargs (by rw [fm_scrimshawref02_Quoted_eq]; exact hden)

/-- scrimshaw/scrimshawref02.left -/
abbrev n_scrimshawref02_left : FuncId := 35
def fm_scrimshawref02_left : Fm VE :=
 (.loop 5 [.int .i64, .int .i64] [(.pick (.cmp .gtr (.atom 4) (.int .i64 0)) (.ar .sub .i64 (.atom 4) (.int .i64 1)) (.atom 4)), (.int .i64 0)]
  (.ite (.pick (.cmp .lss (.atom 6) (.len (.atom 3))) (.cmp .gtr (.atom 5) (.int .i64 0)) (.bool false))
   (.chk [] (.inSl (.atom 3) (.atom 6))
   (.load (.elt (.atom 3) (.atom 6) 4) [.int .i64, .int .i64, .str, .sl]
   (.call (.fn 35) [(.ag [(.atom 7), (.atom 8), (.atom 9), (.atom 10)]), (.sc (.atom 5))] (.sc (.int .i64)) []
   (.next 5 [(.atom 11), (.ar .add .i64 (.atom 6) (.int .i64 1))]))))
   (.leaf (.sc (.atom 5)))))
theorem fm_scrimshawref02_left_eq : execF Tryd.prog { pub := [], nojoin := false } Tryd.f35 = fm_scrimshawref02_left := by kernel_rfl
theorem cb_scrimshawref02_left : callB Tryd.prog 35 = true := by kernel_rfl
theorem tri_scrimshawref02_left (E : List Value) {args : Array Value} {H : PH} {R : Ending → PH → Prop} (hE : tagsOk ((paramRS Tryd.prog Tryd.f35).flatMap RS.tags) E = true) (hargs : args.toList = packAll (paramRS Tryd.prog Tryd.f35) E)
    (hden : den Tryd.prog (fun c H' => R (.panicked c) H') fm_scrimshawref02_left E H [] (fun ve E' H' _ => R (.returned (evV E' (fun _ => 0) ve)) H')) : Tri Tryd.prog 35 args H R :=
  execF_tri (op := { pub := [], nojoin := false }) Tryd.func35 hE hargs (by rw [fm_scrimshawref02_left_eq]; exact hden)

/-- slices.EqualFunc[[]scrimshaw/api.Datum,[]scrimshaw/api.Datum,scrimshaw/api.Datum,scrimshaw/api.Datum] -/
abbrev n_slices_EqualFunc___api_Datum___api_Datum_api_Datum_api_Datum_ : FuncId := 36
def fm_slices_EqualFunc___api_Datum___api_Datum_api_Datum_api_Datum_ : Fm VE :=
 (.ite (.cmp .neq (.len (.atom 0)) (.len (.atom 1)))
  (.leaf (.sc (.bool false)))
  (.loop 5 [.bool, .int .i64] [(.bool false), (.int .i64 0)]
   (.ite (.cmp .lss (.atom 4) (.len (.atom 0)))
    (.chk [] (.inSl (.atom 0) (.atom 4))
    (.load (.elt (.atom 0) (.atom 4) 4) [.int .i64, .int .i64, .str, .sl]
    (.chk [] (.inSl (.atom 1) (.atom 4))
    (.load (.elt (.atom 1) (.atom 4) 4) [.int .i64, .int .i64, .str, .sl]
    (.call (.atom 2) [(.ag [(.atom 5), (.atom 6), (.atom 7), (.atom 8)]), (.ag [(.atom 9), (.atom 10), (.atom 11), (.atom 12)])] (.sc (.bool)) []
    (.ite (.not (.atom 13))
     (.leaf (.sc (.bool false)))
     (.next 5 [(.atom 3), (.ar .add .i64 (.atom 4) (.int .i64 1))])))))))
    (.leaf (.sc (.bool true))))))
theorem fm_slices_EqualFunc___api_Datum___api_Datum_api_Datum_api_Datum__eq : execF Tryd.prog { pub := [], nojoin := false } Tryd.f36 = fm_slices_EqualFunc___api_Datum___api_Datum_api_Datum_api_Datum_ := by kernel_rfl
theorem cb_slices_EqualFunc___api_Datum___api_Datum_api_Datum_api_Datum_ : callB Tryd.prog 36 = true := by kernel_rfl
theorem tri_slices_EqualFunc___api_Datum___api_Datum_api_Datum_api_Datum_ (E : List Value) {args : Array Value} {H : PH} {R : Ending → PH → Prop} (hE : tagsOk ((paramRS Tryd.prog Tryd.f36).flatMap RS.tags) E = true) (hargs : args.toList = packAll (paramRS Tryd.prog Tryd.f36) E)
    (hden : den Tryd.prog (fun c H' => R (.panicked c) H') fm_slices_EqualFunc___api_Datum___api_Datum_api_Datum_api_Datum_ E H [] (fun ve E' H' _ => R (.returned (evV E' (fun _ => 0) ve)) H')) : Tri Tryd.prog 36 args H R :=
  execF_tri (op := { pub := [], nojoin := false }) Tryd.func36 hE hargs (by rw [fm_slices_EqualFunc___api_Datum___api_Datum_api_Datum_api_Datum__eq]; exact hden)

/-- scrimshaw/data.copied -/
abbrev n_data_copied : FuncId := 37
def fm_data_copied : Fm VE :=
 (.call (.fn 38) [(.sc (.atom 3))] (.sc (.sl)) []
 (.leaf (.ag [(.atom 0), (.atom 1), (.atom 2), (.atom 4)])))
theorem fm_data_copied_eq : execF Tryd.prog { pub := [], nojoin := false } Tryd.f37 = fm_data_copied := by kernel_rfl
theorem cb_data_copied : callB Tryd.prog 37 = true := by kernel_rfl
theorem tri_data_copied (E : List Value) {args : Array Value} {H : PH} {R : Ending → PH → Prop} (hE : tagsOk ((paramRS Tryd.prog Tryd.f37).flatMap RS.tags) E = true) (hargs : args.toList = packAll (paramRS Tryd.prog Tryd.f37) E)
    (hden : den Tryd.prog (fun c H' => R (.panicked c) H') fm_data_copied E H [] (fun ve E' H' _ => R (.returned (evV E' (fun _ => 0) ve)) H')) : Tri Tryd.prog 37 args H R :=
  execF_tri (op := { pub := [], nojoin := false }) Tryd.func37 hE hargs (by rw [fm_data_copied_eq]; exact hden)

/-- scrimshaw/data.all -/
abbrev n_data_all : FuncId := 38
def fm_data_all : Fm VE :=
 (.loop 4 [.sl, .int .i64] [(.nil 1), (.int .i64 0)]
  (.ite (.cmp .lss (.atom 2) (.len (.atom 0)))
   (.chk [] (.inSl (.atom 0) (.atom 2))
   (.load (.elt (.atom 0) (.atom 2) 4) [.int .i64, .int .i64, .str, .sl]
   (.call (.fn 37) [(.ag [(.atom 3), (.atom 4), (.atom 5), (.atom 6)])] (.ag [.int .i64, .int .i64, .str, .sl]) []
   (.sem (.buildSlice 22 1 #[(0, (.tmp 14))]) 22 [(14, (.ag [(.atom 7), (.atom 8), (.atom 9), (.atom 10)]))] (.sc (.sl)) []
   (.sem (.call ⟨.builtin .append, #[(.tmp 12), (.tmp 15)], #[22, 22]⟩) 22 [(12, (.sc (.atom 1))), (15, (.sc (.atom 11)))] (.sc (.sl)) []
   (.next 4 [(.atom 12), (.ar .add .i64 (.atom 2) (.int .i64 1))]))))))
   (.leaf (.sc (.atom 1)))))
theorem fm_data_all_eq : execF Tryd.prog { pub := [], nojoin := false } Tryd.f38 = fm_data_all := by kernel_rfl
theorem cb_data_all : callB Tryd.prog 38 = true := by kernel_rfl
theorem tri_data_all (E : List Value) {args : Array Value} {H : PH} {R : Ending → PH → Prop} (hE : tagsOk ((paramRS Tryd.prog Tryd.f38).flatMap RS.tags) E = true) (hargs : args.toList = packAll (paramRS Tryd.prog Tryd.f38) E)
    (hden : den Tryd.prog (fun c H' => R (.panicked c) H') fm_data_all E H [] (fun ve E' H' _ => R (.returned (evV E' (fun _ => 0) ve)) H')) : Tri Tryd.prog 38 args H R :=
  execF_tri (op := { pub := [], nojoin := false }) Tryd.func38 hE hargs (by rw [fm_data_all_eq]; exact hden)

/-- scrimshaw/data.hasItems -/
abbrev n_data_hasItems : FuncId := 39
def fm_data_hasItems : Fm VE :=
 (.leaf (.sc (.pick (.cmp .geq (.atom 0) (.int .i64 5)) (.cmp .leq (.atom 0) (.int .i64 7)) (.bool false))))
theorem fm_data_hasItems_eq : execF Tryd.prog { pub := [], nojoin := false } Tryd.f39 = fm_data_hasItems := by kernel_rfl
theorem cb_data_hasItems : callB Tryd.prog 39 = true := by kernel_rfl
theorem tri_data_hasItems (E : List Value) {args : Array Value} {H : PH} {R : Ending → PH → Prop} (hE : tagsOk ((paramRS Tryd.prog Tryd.f39).flatMap RS.tags) E = true) (hargs : args.toList = packAll (paramRS Tryd.prog Tryd.f39) E)
    (hden : den Tryd.prog (fun c H' => R (.panicked c) H') fm_data_hasItems E H [] (fun ve E' H' _ => R (.returned (evV E' (fun _ => 0) ve)) H')) : Tri Tryd.prog 39 args H R :=
  execF_tri (op := { pub := [], nojoin := false }) Tryd.func39 hE hargs (by rw [fm_data_hasItems_eq]; exact hden)

/-- scrimshaw/data.form -/
abbrev n_data_form : FuncId := 40
def fm_data_form : Fm VE :=
 (.join 2 [.int .i64, .str]
  (.join 4 [.bool]
   (.ite (.atom 6)
    (.leaf (.sc (.bool false)))
    (.ite (.cmp .eql (.atom 0) (.int .i64 4))
     (.call (.fn 12) [(.sc (.atom 2))] (.sc (.bool)) []
     (.leaf (.sc (.atom 7))))
     (.ite (.cmp .eql (.atom 0) (.int .i64 6))
      (.join 9 [.bool]
       (.leaf (.sc (.atom 7)))
       (.chk [((.cmp .gtr (.len (.atom 3)) (.int .i64 1)), true)] (.inSl (.atom 3) (.ar .sub .i64 (.len (.atom 3)) (.int .i64 1)))
       (.chk [((.cmp .gtr (.len (.atom 3)) (.int .i64 1)), true)] (.some (.elt (.atom 3) (.ar .sub .i64 (.len (.atom 3)) (.int .i64 1)) 4))
       (.ite (.cmp .gtr (.len (.atom 3)) (.int .i64 1))
        (.load (.padd (.elt (.atom 3) (.ar .sub .i64 (.len (.atom 3)) (.int .i64 1)) 4) 0) [.int .i64]
        (.chk [((.cmp .neq (.atom 7) (.int .i64 5)), true)] (.inSl (.atom 3) (.ar .sub .i64 (.len (.atom 3)) (.int .i64 1)))
        (.chk [((.cmp .neq (.atom 7) (.int .i64 5)), true)] (.some (.elt (.atom 3) (.ar .sub .i64 (.len (.atom 3)) (.int .i64 1)) 4))
        (.ite (.cmp .neq (.atom 7) (.int .i64 5))
         (.load (.padd (.elt (.atom 3) (.ar .sub .i64 (.len (.atom 3)) (.int .i64 1)) 4) 0) [.int .i64]
         (.next 9 [(.cmp .neq (.atom 8) (.int .i64 6))]))
         (.next 9 [(.bool false)])))))
        (.next 9 [(.bool false)])))))
      (.leaf (.sc (.pick (.cmp .geq (.atom 0) (.int .i64 0)) (.cmp .lss (.atom 0) (.int .i64 8)) (.bool false)))))))
   (.ite (.pick (.cmp .neq (.atom 1) (.atom 4)) (.bool true) (.scmp .neq (.atom 2) (.atom 5)))
    (.next 4 [(.bool true)])
    (.ite (.cmp .gtr (.len (.atom 3)) (.int .i64 0))
     (.call (.fn 39) [(.ag [(.atom 0), (.atom 1), (.atom 2), (.atom 3)])] (.sc (.bool)) []
     (.next 4 [(.not (.atom 6))]))
     (.next 4 [(.bool false)]))))
  (.ite (.cmp .eql (.atom 0) (.int .i64 0))
   (.next 2 [(.ar .and .i64 (.atom 1) (.int .i64 1)), (.str [])])
   (.ite (.cmp .eql (.atom 0) (.int .i64 1))
    (.next 2 [(.pick (.cmp .lss (.int .i64 1152921504606846975) (.pick (.cmp .gtr (.int .i64 (-1152921504606846976)) (.atom 1)) (.int .i64 (-1152921504606846976)) (.atom 1))) (.int .i64 1152921504606846975) (.pick (.cmp .gtr (.int .i64 (-1152921504606846976)) (.atom 1)) (.int .i64 (-1152921504606846976)) (.atom 1))), (.str [])])
    (.ite (.cmp .eql (.atom 0) (.int .i64 2))
     (.next 2 [(.ar .and .i64 (.atom 1) (.int .i64 255)), (.str [])])
     (.ite (.cmp .eql (.atom 0) (.int .i64 3))
      (.chk [] (.sub (.slen (.atom 2)) (.int .i64 0) (.pick (.cmp .lss (.int .i64 4096) (.slen (.atom 2))) (.int .i64 4096) (.slen (.atom 2))))
      (.next 2 [(.int .i64 0), (.ssub (.atom 2) (.int .i64 0) (.pick (.cmp .lss (.int .i64 4096) (.slen (.atom 2))) (.int .i64 4096) (.slen (.atom 2))))]))
      (.next 2 [(.int .i64 0), (.pick (.cmp .eql (.atom 0) (.int .i64 4)) (.atom 2) (.str []))]))))))
theorem fm_data_form_eq : execF Tryd.prog { pub := [], nojoin := false } Tryd.f40 = fm_data_form := by kernel_rfl
theorem cb_data_form : callB Tryd.prog 40 = true := by kernel_rfl
theorem tri_data_form (E : List Value) {args : Array Value} {H : PH} {R : Ending → PH → Prop} (hE : tagsOk ((paramRS Tryd.prog Tryd.f40).flatMap RS.tags) E = true) (hargs : args.toList = packAll (paramRS Tryd.prog Tryd.f40) E)
    (hden : den Tryd.prog (fun c H' => R (.panicked c) H') fm_data_form E H [] (fun ve E' H' _ => R (.returned (evV E' (fun _ => 0) ve)) H')) : Tri Tryd.prog 40 args H R :=
  execF_tri (op := { pub := [], nojoin := false }) Tryd.func40 hE hargs (by rw [fm_data_form_eq]; exact hden)

/-- scrimshaw/scrimshawref02.Nested -/
abbrev n_scrimshawref02_Nested : FuncId := 41
def fm_scrimshawref02_Nested : Fm VE :=
 (.leaf (.sc (.pick (.pick (.cmp .eql (.atom 0) (.int .i64 5)) (.bool true) (.cmp .eql (.atom 0) (.int .i64 6))) (.bool true) (.cmp .eql (.atom 0) (.int .i64 7)))))
theorem fm_scrimshawref02_Nested_eq : execF Tryd.prog { pub := [], nojoin := false } Tryd.f41 = fm_scrimshawref02_Nested := by kernel_rfl
theorem cb_scrimshawref02_Nested : callB Tryd.prog 41 = true := by kernel_rfl
theorem tri_scrimshawref02_Nested (E : List Value) {args : Array Value} {H : PH} {R : Ending → PH → Prop} (hE : tagsOk ((paramRS Tryd.prog Tryd.f41).flatMap RS.tags) E = true) (hargs : args.toList = packAll (paramRS Tryd.prog Tryd.f41) E)
    (hden : den Tryd.prog (fun c H' => R (.panicked c) H') fm_scrimshawref02_Nested E H [] (fun ve E' H' _ => R (.returned (evV E' (fun _ => 0) ve)) H')) : Tri Tryd.prog 41 args H R :=
  execF_tri (op := { pub := [], nojoin := false }) Tryd.func41 hE hargs (by rw [fm_scrimshawref02_Nested_eq]; exact hden)

/-- scrimshaw/scrimshawref02.form -/
abbrev n_scrimshawref02_form : FuncId := 42
def fm_scrimshawref02_form : Fm VE :=
 (.ite (.cmp .eql (.atom 0) (.int .i64 0))
  (.leaf (.sc (.pick (.pick (.scmp .eql (.atom 2) (.str [])) (.cmp .eql (.len (.atom 3)) (.int .i64 0)) (.bool false)) (.pick (.cmp .eql (.atom 1) (.int .i64 0)) (.bool true) (.cmp .eql (.atom 1) (.int .i64 1))) (.bool false))))
  (.ite (.cmp .eql (.atom 0) (.int .i64 1))
   (.leaf (.sc (.pick (.pick (.pick (.scmp .eql (.atom 2) (.str [])) (.cmp .eql (.len (.atom 3)) (.int .i64 0)) (.bool false)) (.cmp .geq (.atom 1) (.int .i64 (-1152921504606846976))) (.bool false)) (.cmp .lss (.atom 1) (.int .i64 1152921504606846976)) (.bool false))))
   (.ite (.cmp .eql (.atom 0) (.int .i64 2))
    (.leaf (.sc (.pick (.pick (.pick (.scmp .eql (.atom 2) (.str [])) (.cmp .eql (.len (.atom 3)) (.int .i64 0)) (.bool false)) (.cmp .geq (.atom 1) (.int .i64 0)) (.bool false)) (.cmp .leq (.atom 1) (.int .i64 255)) (.bool false))))
    (.ite (.cmp .eql (.atom 0) (.int .i64 3))
     (.leaf (.sc (.pick (.pick (.cmp .eql (.atom 1) (.int .i64 0)) (.cmp .eql (.len (.atom 3)) (.int .i64 0)) (.bool false)) (.cmp .leq (.slen (.atom 2)) (.int .i64 4096)) (.bool false))))
     (.ite (.cmp .eql (.atom 0) (.int .i64 4))
      (.join 10 [.bool]
       (.leaf (.sc (.atom 4)))
       (.ite (.pick (.cmp .eql (.atom 1) (.int .i64 0)) (.cmp .eql (.len (.atom 3)) (.int .i64 0)) (.bool false))
        (.call (.fn 13) [(.sc (.atom 2))] (.sc (.bool)) []
        (.next 10 [(.atom 4)]))
        (.next 10 [(.bool false)])))
      (.ite (.pick (.cmp .eql (.atom 0) (.int .i64 5)) (.cmp .eql (.atom 0) (.int .i64 5)) (.cmp .eql (.atom 0) (.int .i64 7)))
       (.leaf (.sc (.pick (.cmp .eql (.atom 1) (.int .i64 0)) (.scmp .eql (.atom 2) (.str [])) (.bool false))))
       (.ite (.cmp .eql (.atom 0) (.int .i64 6))
        (.join 14 [.bool]
         (.leaf (.sc (.atom 4)))
         (.chk [((.pick (.pick (.cmp .eql (.atom 1) (.int .i64 0)) (.scmp .eql (.atom 2) (.str [])) (.bool false)) (.cmp .geq (.len (.atom 3)) (.int .i64 2)) (.bool false)), true)] (.inSl (.atom 3) (.ar .sub .i64 (.len (.atom 3)) (.int .i64 1)))
         (.chk [((.pick (.pick (.cmp .eql (.atom 1) (.int .i64 0)) (.scmp .eql (.atom 2) (.str [])) (.bool false)) (.cmp .geq (.len (.atom 3)) (.int .i64 2)) (.bool false)), true)] (.some (.elt (.atom 3) (.ar .sub .i64 (.len (.atom 3)) (.int .i64 1)) 4))
         (.ite (.pick (.pick (.cmp .eql (.atom 1) (.int .i64 0)) (.scmp .eql (.atom 2) (.str [])) (.bool false)) (.cmp .geq (.len (.atom 3)) (.int .i64 2)) (.bool false))
          (.load (.padd (.elt (.atom 3) (.ar .sub .i64 (.len (.atom 3)) (.int .i64 1)) 4) 0) [.int .i64]
          (.chk [((.cmp .neq (.atom 4) (.int .i64 5)), true)] (.inSl (.atom 3) (.ar .sub .i64 (.len (.atom 3)) (.int .i64 1)))
          (.chk [((.cmp .neq (.atom 4) (.int .i64 5)), true)] (.some (.elt (.atom 3) (.ar .sub .i64 (.len (.atom 3)) (.int .i64 1)) 4))
          (.ite (.cmp .neq (.atom 4) (.int .i64 5))
           (.load (.padd (.elt (.atom 3) (.ar .sub .i64 (.len (.atom 3)) (.int .i64 1)) 4) 0) [.int .i64]
           (.next 14 [(.cmp .neq (.atom 5) (.int .i64 6))]))
           (.next 14 [(.bool false)])))))
          (.next 14 [(.bool false)])))))
        (.leaf (.sc (.bool false))))))))))
theorem fm_scrimshawref02_form_eq : execF Tryd.prog { pub := [], nojoin := false } Tryd.f42 = fm_scrimshawref02_form := by kernel_rfl
theorem cb_scrimshawref02_form : callB Tryd.prog 42 = true := by kernel_rfl
theorem tri_scrimshawref02_form (E : List Value) {args : Array Value} {H : PH} {R : Ending → PH → Prop} (hE : tagsOk ((paramRS Tryd.prog Tryd.f42).flatMap RS.tags) E = true) (hargs : args.toList = packAll (paramRS Tryd.prog Tryd.f42) E)
    (hden : den Tryd.prog (fun c H' => R (.panicked c) H') fm_scrimshawref02_form E H [] (fun ve E' H' _ => R (.returned (evV E' (fun _ => 0) ve)) H')) : Tri Tryd.prog 42 args H R :=
  execF_tri (op := { pub := [], nojoin := false }) Tryd.func42 hE hargs (by rw [fm_scrimshawref02_form_eq]; exact hden)

/-- scrimshaw/data.isDigit -/
abbrev n_data_isDigit : FuncId := 43
def fm_data_isDigit : Fm VE :=
 (.leaf (.sc (.pick (.cmp .geq (.atom 0) (.int .u8 48)) (.cmp .leq (.atom 0) (.int .u8 57)) (.bool false))))
theorem fm_data_isDigit_eq : execF Tryd.prog { pub := [], nojoin := false } Tryd.f43 = fm_data_isDigit := by kernel_rfl
theorem cb_data_isDigit : callB Tryd.prog 43 = true := by kernel_rfl
theorem tri_data_isDigit (E : List Value) {args : Array Value} {H : PH} {R : Ending → PH → Prop} (hE : tagsOk ((paramRS Tryd.prog Tryd.f43).flatMap RS.tags) E = true) (hargs : args.toList = packAll (paramRS Tryd.prog Tryd.f43) E)
    (hden : den Tryd.prog (fun c H' => R (.panicked c) H') fm_data_isDigit E H [] (fun ve E' H' _ => R (.returned (evV E' (fun _ => 0) ve)) H')) : Tri Tryd.prog 43 args H R :=
  execF_tri (op := { pub := [], nojoin := false }) Tryd.func43 hE hargs (by rw [fm_data_isDigit_eq]; exact hden)

/-- strings.IndexByte -/
abbrev n_strings_IndexByte : FuncId := 44
def fm_strings_IndexByte : Fm VE :=
 (.call (.fn 48) [(.sc (.atom 0)), (.sc (.atom 1))] (.sc (.int .i64)) []
 (.leaf (.sc (.atom 2))))
theorem fm_strings_IndexByte_eq : execF Tryd.prog { pub := [], nojoin := false } Tryd.f44 = fm_strings_IndexByte := by kernel_rfl
theorem cb_strings_IndexByte : callB Tryd.prog 44 = true := by kernel_rfl
theorem tri_strings_IndexByte (E : List Value) {args : Array Value} {H : PH} {R : Ending → PH → Prop} (hE : tagsOk ((paramRS Tryd.prog Tryd.f44).flatMap RS.tags) E = true) (hargs : args.toList = packAll (paramRS Tryd.prog Tryd.f44) E)
    (hden : den Tryd.prog (fun c H' => R (.panicked c) H') fm_strings_IndexByte E H [] (fun ve E' H' _ => R (.returned (evV E' (fun _ => 0) ve)) H')) : Tri Tryd.prog 44 args H R :=
  execF_tri (op := { pub := [], nojoin := false }) Tryd.func44 hE hargs (by rw [fm_strings_IndexByte_eq]; exact hden)

/-- scrimshaw/scrimshawref02.Digit -/
abbrev n_scrimshawref02_Digit : FuncId := 45
def fm_scrimshawref02_Digit : Fm VE :=
 (.leaf (.sc (.pick (.cmp .geq (.atom 0) (.int .u8 48)) (.cmp .leq (.atom 0) (.int .u8 57)) (.bool false))))
theorem fm_scrimshawref02_Digit_eq : execF Tryd.prog { pub := [], nojoin := false } Tryd.f45 = fm_scrimshawref02_Digit := by kernel_rfl
theorem cb_scrimshawref02_Digit : callB Tryd.prog 45 = true := by kernel_rfl
theorem tri_scrimshawref02_Digit (E : List Value) {args : Array Value} {H : PH} {R : Ending → PH → Prop} (hE : tagsOk ((paramRS Tryd.prog Tryd.f45).flatMap RS.tags) E = true) (hargs : args.toList = packAll (paramRS Tryd.prog Tryd.f45) E)
    (hden : den Tryd.prog (fun c H' => R (.panicked c) H') fm_scrimshawref02_Digit E H [] (fun ve E' H' _ => R (.returned (evV E' (fun _ => 0) ve)) H')) : Tri Tryd.prog 45 args H R :=
  execF_tri (op := { pub := [], nojoin := false }) Tryd.func45 hE hargs (by rw [fm_scrimshawref02_Digit_eq]; exact hden)

/-- (*scrimshaw/data.writer).datum -/
abbrev n_data_writer__datum : FuncId := 46
def fm_data_writer__datum : Fm VE :=
 (.ite (.cmp .eql (.atom 1) (.int .i64 0))
  (.chk [] (.some (.atom 0))
  (.load (.padd (.atom 0) 0) [.sl]
  (.chk [] (.inStr (.str [102, 116]) (.atom 2))
  (.sem (.buildSlice 50 2 #[(0, (.const (.int .u8 35))), (1, (.tmp 18))]) 50 [(18, (.sc (.sidx (.str [102, 116]) (.atom 2))))] (.sc (.sl)) [((.padd (.atom 0) 0), [(.atom 5)])]
  (.sem (.call ⟨.builtin .append, #[(.tmp 15), (.tmp 19)], #[50, 50]⟩) 50 [(15, (.sc (.atom 5))), (19, (.sc (.atom 6)))] (.sc (.sl)) []
  (.store (.padd (.atom 0) 0) [(.atom 7)]
  (.leaf (.tu []))))))))
  (.ite (.cmp .eql (.atom 1) (.int .i64 1))
   (.chk [] (.some (.atom 0))
   (.load (.padd (.atom 0) 0) [.sl]
   (.call (.fn 49) [(.sc (.atom 5)), (.sc (.atom 2)), (.sc (.int .i64 10))] (.sc (.sl)) []
   (.store (.padd (.atom 0) 0) [(.atom 6)]
   (.leaf (.tu []))))))
   (.ite (.cmp .eql (.atom 1) (.int .i64 2))
    (.call (.fn 50) [(.sc (.atom 0)), (.sc (.conv .u8 (.atom 2)))] (.tu []) []
    (.leaf (.tu [])))
    (.ite (.cmp .eql (.atom 1) (.int .i64 3))
     (.call (.fn 51) [(.sc (.atom 0)), (.sc (.atom 3))] (.tu []) []
     (.leaf (.tu [])))
     (.ite (.cmp .eql (.atom 1) (.int .i64 4))
      (.chk [] (.some (.atom 0))
      (.load (.padd (.atom 0) 0) [.sl]
      (.sem (.call ⟨.builtin .append, #[(.tmp 54), (.tmp 56)], #[50, 9]⟩) 50 [(54, (.sc (.atom 5))), (56, (.sc (.atom 3)))] (.sc (.sl)) []
      (.store (.padd (.atom 0) 0) [(.atom 6)]
      (.leaf (.tu []))))))
      (.ite (.cmp .eql (.atom 1) (.int .i64 7))
       (.chk [] (.some (.atom 0))
       (.load (.padd (.atom 0) 0) [.sl]
       (.sem (.buildSlice 50 1 #[(0, (.const (.int .u8 35)))]) 50 [] (.sc (.sl)) []
       (.sem (.call ⟨.builtin .append, #[(.tmp 66), (.tmp 67)], #[50, 50]⟩) 50 [(66, (.sc (.atom 5))), (67, (.sc (.atom 6)))] (.sc (.sl)) []
       (.store (.padd (.atom 0) 0) [(.atom 7)]
       (.call (.fn 52) [(.sc (.atom 0)), (.ag [(.atom 1), (.atom 2), (.atom 3), (.atom 4)])] (.tu []) []
       (.leaf (.tu []))))))))
       (.call (.fn 52) [(.sc (.atom 0)), (.ag [(.atom 1), (.atom 2), (.atom 3), (.atom 4)])] (.tu []) []
       (.leaf (.tu [])))))))))
theorem fm_data_writer__datum_eq : execF Tryd.prog { pub := [], nojoin := false } Tryd.f46 = fm_data_writer__datum := by kernel_rfl
theorem cb_data_writer__datum : callB Tryd.prog 46 = true := by kernel_rfl
theorem tri_data_writer__datum (E : List Value) {args : Array Value} {H : PH} {R : Ending → PH → Prop} (hE : tagsOk ((paramRS Tryd.prog Tryd.f46).flatMap RS.tags) E = true) (hargs : args.toList = packAll (paramRS Tryd.prog Tryd.f46) E)
    (hden : den Tryd.prog (fun c H' => R (.panicked c) H') fm_data_writer__datum E H [] (fun ve E' H' _ => R (.returned (evV E' (fun _ => 0) ve)) H')) : Tri Tryd.prog 46 args H R :=
  execF_tri (op := { pub := [], nojoin := false }) Tryd.func46 hE hargs (by rw [fm_data_writer__datum_eq]; exact hden)

/-- scrimshaw/scrimshawref02.Two -/
abbrev n_scrimshawref02_Two : FuncId := 47
def fm_scrimshawref02_Two : Fm VE :=
 (.chk [] (.sub (.slen (.str [48, 49, 50, 51, 52, 53, 54, 55, 56, 57, 97, 98, 99, 100, 101, 102])) (.ar .quo .u8 (.atom 0) (.int .u8 16)) (.ar .add .u8 (.ar .quo .u8 (.atom 0) (.int .u8 16)) (.int .u8 1)))
 (.chk [] (.sub (.slen (.str [48, 49, 50, 51, 52, 53, 54, 55, 56, 57, 97, 98, 99, 100, 101, 102])) (.ar .rem .u8 (.atom 0) (.int .u8 16)) (.ar .add .u8 (.ar .rem .u8 (.atom 0) (.int .u8 16)) (.int .u8 1)))
 (.chk [] (.catOk (.ssub (.str [48, 49, 50, 51, 52, 53, 54, 55, 56, 57, 97, 98, 99, 100, 101, 102]) (.ar .quo .u8 (.atom 0) (.int .u8 16)) (.ar .add .u8 (.ar .quo .u8 (.atom 0) (.int .u8 16)) (.int .u8 1))) (.ssub (.str [48, 49, 50, 51, 52, 53, 54, 55, 56, 57, 97, 98, 99, 100, 101, 102]) (.ar .rem .u8 (.atom 0) (.int .u8 16)) (.ar .add .u8 (.ar .rem .u8 (.atom 0) (.int .u8 16)) (.int .u8 1))))
 (.leaf (.sc (.cat (.ssub (.str [48, 49, 50, 51, 52, 53, 54, 55, 56, 57, 97, 98, 99, 100, 101, 102]) (.ar .quo .u8 (.atom 0) (.int .u8 16)) (.ar .add .u8 (.ar .quo .u8 (.atom 0) (.int .u8 16)) (.int .u8 1))) (.ssub (.str [48, 49, 50, 51, 52, 53, 54, 55, 56, 57, 97, 98, 99, 100, 101, 102]) (.ar .rem .u8 (.atom 0) (.int .u8 16)) (.ar .add .u8 (.ar .rem .u8 (.atom 0) (.int .u8 16)) (.int .u8 1)))))))))
theorem fm_scrimshawref02_Two_eq : execF Tryd.prog { pub := [], nojoin := false } Tryd.f47 = fm_scrimshawref02_Two := by kernel_rfl
theorem cb_scrimshawref02_Two : callB Tryd.prog 47 = true := by kernel_rfl
theorem tri_scrimshawref02_Two (E : List Value) {args : Array Value} {H : PH} {R : Ending → PH → Prop} (hE : tagsOk ((paramRS Tryd.prog Tryd.f47).flatMap RS.tags) E = true) (hargs : args.toList = packAll (paramRS Tryd.prog Tryd.f47) E)
    (hden : den Tryd.prog (fun c H' => R (.panicked c) H') fm_scrimshawref02_Two E H [] (fun ve E' H' _ => R (.returned (evV E' (fun _ => 0) ve)) H')) : Tri Tryd.prog 47 args H R :=
  execF_tri (op := { pub := [], nojoin := false }) Tryd.func47 hE hargs (by rw [fm_scrimshawref02_Two_eq]; exact hden)

/-- strconv.AppendInt -/
abbrev n_strconv_AppendInt : FuncId := 49
def fm_strconv_AppendInt : Fm VE :=
 (.call (.fn 54) [(.sc (.atom 0)), (.sc (.atom 1)), (.sc (.atom 2))] (.sc (.sl)) []
 (.leaf (.sc (.atom 3))))
theorem fm_strconv_AppendInt_eq : execF Tryd.prog { pub := [], nojoin := false } Tryd.f49 = fm_strconv_AppendInt := by kernel_rfl
theorem cb_strconv_AppendInt : callB Tryd.prog 49 = true := by kernel_rfl
theorem tri_strconv_AppendInt (E : List Value) {args : Array Value} {H : PH} {R : Ending → PH → Prop} (hE : tagsOk ((paramRS Tryd.prog Tryd.f49).flatMap RS.tags) E = true) (hargs : args.toList = packAll (paramRS Tryd.prog Tryd.f49) E)
    (hden : den Tryd.prog (fun c H' => R (.panicked c) H') fm_strconv_AppendInt E H [] (fun ve E' H' _ => R (.returned (evV E' (fun _ => 0) ve)) H')) : Tri Tryd.prog 49 args H R :=
  execF_tri (op := { pub := [], nojoin := false }) Tryd.func49 hE hargs (by rw [fm_strconv_AppendInt_eq]; exact hden)

/-- (*scrimshaw/data.writer).char -/
abbrev n_data_writer__char : FuncId := 50
def fm_data_writer__char : Fm VE :=
 (.chk [] (.some (.atom 0))
 (.load (.padd (.atom 0) 1) [.bool]
 (.ite (.atom 2)
  (.load (.padd (.atom 0) 0) [.sl]
  (.sem (.buildSlice 50 1 #[(0, (.tmp 29))]) 50 [(29, (.sc (.atom 1)))] (.sc (.sl)) []
  (.sem (.call ⟨.builtin .append, #[(.tmp 28), (.tmp 30)], #[50, 50]⟩) 50 [(28, (.sc (.atom 3))), (30, (.sc (.atom 4)))] (.sc (.sl)) []
  (.store (.padd (.atom 0) 0) [(.atom 5)]
  (.leaf (.tu []))))))
  (.ite (.cmp .eql (.atom 1) (.int .u8 32))
   (.load (.padd (.atom 0) 0) [.sl]
   (.sem (.call ⟨.builtin .append, #[(.tmp 41), (.const (.string ⟨#[35, 92, 115, 112, 97, 99, 101]⟩))], #[50, 9]⟩) 50 [(41, (.sc (.atom 3)))] (.sc (.sl)) []
   (.store (.padd (.atom 0) 0) [(.atom 4)]
   (.leaf (.tu [])))))
   (.ite (.cmp .eql (.atom 1) (.int .u8 10))
    (.load (.padd (.atom 0) 0) [.sl]
    (.sem (.call ⟨.builtin .append, #[(.tmp 52), (.const (.string ⟨#[35, 92, 110, 101, 119, 108, 105, 110, 101]⟩))], #[50, 9]⟩) 50 [(52, (.sc (.atom 3)))] (.sc (.sl)) []
    (.store (.padd (.atom 0) 0) [(.atom 4)]
    (.leaf (.tu [])))))
    (.ite (.pick (.cmp .gtr (.atom 1) (.int .u8 32)) (.cmp .lss (.atom 1) (.int .u8 127)) (.bool false))
     (.load (.padd (.atom 0) 0) [.sl]
     (.sem (.buildSlice 50 3 #[(0, (.const (.int .u8 35))), (1, (.const (.int .u8 92))), (2, (.tmp 68))]) 50 [(68, (.sc (.atom 1)))] (.sc (.sl)) []
     (.sem (.call ⟨.builtin .append, #[(.tmp 67), (.tmp 69)], #[50, 50]⟩) 50 [(67, (.sc (.atom 3))), (69, (.sc (.atom 4)))] (.sc (.sl)) []
     (.store (.padd (.atom 0) 0) [(.atom 5)]
     (.leaf (.tu []))))))
     (.load (.padd (.atom 0) 0) [.sl]
     (.chk [] (.inStr (.str [48, 49, 50, 51, 52, 53, 54, 55, 56, 57, 97, 98, 99, 100, 101, 102]) (.ar .shr .u8 (.atom 1) (.int .u64 4)))
     (.chk [] (.inStr (.str [48, 49, 50, 51, 52, 53, 54, 55, 56, 57, 97, 98, 99, 100, 101, 102]) (.ar .and .u8 (.atom 1) (.int .u8 15)))
     (.sem (.buildSlice 50 5 #[(0, (.const (.int .u8 35))), (1, (.const (.int .u8 92))), (2, (.const (.int .u8 120))), (3, (.tmp 11)), (4, (.tmp 14))]) 50 [(11, (.sc (.sidx (.str [48, 49, 50, 51, 52, 53, 54, 55, 56, 57, 97, 98, 99, 100, 101, 102]) (.ar .shr .u8 (.atom 1) (.int .u64 4))))), (14, (.sc (.sidx (.str [48, 49, 50, 51, 52, 53, 54, 55, 56, 57, 97, 98, 99, 100, 101, 102]) (.ar .and .u8 (.atom 1) (.int .u8 15)))))] (.sc (.sl)) [((.padd (.atom 0) 0), [(.atom 3)])]
     (.sem (.call ⟨.builtin .append, #[(.tmp 8), (.tmp 15)], #[50, 50]⟩) 50 [(8, (.sc (.atom 3))), (15, (.sc (.atom 4)))] (.sc (.sl)) []
     (.store (.padd (.atom 0) 0) [(.atom 5)]
     (.leaf (.tu []))))))))))))))
theorem fm_data_writer__char_eq : execF Tryd.prog { pub := [], nojoin := false } Tryd.f50 = fm_data_writer__char := by kernel_rfl
theorem cb_data_writer__char : callB Tryd.prog 50 = true := by kernel_rfl
theorem tri_data_writer__char (E : List Value) {args : Array Value} {H : PH} {R : Ending → PH → Prop} (hE : tagsOk ((paramRS Tryd.prog Tryd.f50).flatMap RS.tags) E = true) (hargs : args.toList = packAll (paramRS Tryd.prog Tryd.f50) E)
    (hden : den Tryd.prog (fun c H' => R (.panicked c) H') fm_data_writer__char E H [] (fun ve E' H' _ => R (.returned (evV E' (fun _ => 0) ve)) H')) : Tri Tryd.prog 50 args H R :=
  execF_tri (op := { pub := [], nojoin := false }) Tryd.func50 hE hargs (by rw [fm_data_writer__char_eq]; exact hden)

/-- (*scrimshaw/data.writer).text -/
abbrev n_data_writer__text : FuncId := 51
def fm_data_writer__text : Fm VE :=
 (.chk [] (.some (.atom 0))
 (.load (.padd (.atom 0) 1) [.bool]
 (.ite (.atom 2)
  (.load (.padd (.atom 0) 0) [.sl]
  (.sem (.call ⟨.builtin .append, #[(.tmp 14), (.tmp 15)], #[50, 9]⟩) 50 [(14, (.sc (.atom 3))), (15, (.sc (.atom 1)))] (.sc (.sl)) []
  (.store (.padd (.atom 0) 0) [(.atom 4)]
  (.leaf (.tu [])))))
  (.load (.padd (.atom 0) 0) [.sl]
  (.sem (.buildSlice 50 1 #[(0, (.const (.int .u8 34)))]) 50 [] (.sc (.sl)) []
  (.sem (.call ⟨.builtin .append, #[(.tmp 23), (.tmp 24)], #[50, 50]⟩) 50 [(23, (.sc (.atom 3))), (24, (.sc (.atom 4)))] (.sc (.sl)) []
  (.store (.padd (.atom 0) 0) [(.atom 5)]
  (.loop 5 [.int .i64] [(.int .i64 0)]
   (.ite (.cmp .lss (.atom 6) (.slen (.atom 1)))
    (.join 8 []
     (.next 5 [(.ar .add .i64 (.atom 6) (.int .i64 1))])
     (.chk [] (.inStr (.atom 1) (.atom 6))
     (.ite (.pick (.cmp .eql (.sidx (.atom 1) (.atom 6)) (.int .u8 34)) (.bool true) (.cmp .eql (.sidx (.atom 1) (.atom 6)) (.int .u8 92)))
      (.load (.padd (.atom 0) 0) [.sl]
      (.sem (.buildSlice 50 2 #[(0, (.const (.int .u8 92))), (1, (.tmp 58))]) 50 [(58, (.sc (.sidx (.atom 1) (.atom 6))))] (.sc (.sl)) []
      (.sem (.call ⟨.builtin .append, #[(.tmp 57), (.tmp 59)], #[50, 50]⟩) 50 [(57, (.sc (.atom 7))), (59, (.sc (.atom 8)))] (.sc (.sl)) []
      (.store (.padd (.atom 0) 0) [(.atom 9)]
      (.next 8 [])))))
      (.ite (.cmp .eql (.sidx (.atom 1) (.atom 6)) (.int .u8 10))
       (.load (.padd (.atom 0) 0) [.sl]
       (.sem (.buildSlice 50 2 #[(0, (.const (.int .u8 92))), (1, (.const (.int .u8 110)))]) 50 [] (.sc (.sl)) []
       (.sem (.call ⟨.builtin .append, #[(.tmp 70), (.tmp 71)], #[50, 50]⟩) 50 [(70, (.sc (.atom 7))), (71, (.sc (.atom 8)))] (.sc (.sl)) []
       (.store (.padd (.atom 0) 0) [(.atom 9)]
       (.next 8 [])))))
       (.ite (.pick (.cmp .lss (.sidx (.atom 1) (.atom 6)) (.int .u8 32)) (.bool true) (.cmp .gtr (.sidx (.atom 1) (.atom 6)) (.int .u8 126)))
        (.load (.padd (.atom 0) 0) [.sl]
        (.chk [] (.inStr (.str [48, 49, 50, 51, 52, 53, 54, 55, 56, 57, 97, 98, 99, 100, 101, 102]) (.ar .shr .u8 (.sidx (.atom 1) (.atom 6)) (.int .u64 4)))
        (.chk [] (.inStr (.str [48, 49, 50, 51, 52, 53, 54, 55, 56, 57, 97, 98, 99, 100, 101, 102]) (.ar .and .u8 (.sidx (.atom 1) (.atom 6)) (.int .u8 15)))
        (.sem (.buildSlice 50 4 #[(0, (.const (.int .u8 92))), (1, (.const (.int .u8 120))), (2, (.tmp 89)), (3, (.tmp 92))]) 50 [(89, (.sc (.sidx (.str [48, 49, 50, 51, 52, 53, 54, 55, 56, 57, 97, 98, 99, 100, 101, 102]) (.ar .shr .u8 (.sidx (.atom 1) (.atom 6)) (.int .u64 4))))), (92, (.sc (.sidx (.str [48, 49, 50, 51, 52, 53, 54, 55, 56, 57, 97, 98, 99, 100, 101, 102]) (.ar .and .u8 (.sidx (.atom 1) (.atom 6)) (.int .u8 15)))))] (.sc (.sl)) [((.padd (.atom 0) 0), [(.atom 7)])]
        (.sem (.call ⟨.builtin .append, #[(.tmp 86), (.tmp 93)], #[50, 50]⟩) 50 [(86, (.sc (.atom 7))), (93, (.sc (.atom 8)))] (.sc (.sl)) []
        (.store (.padd (.atom 0) 0) [(.atom 9)]
        (.next 8 [])))))))
        (.load (.padd (.atom 0) 0) [.sl]
        (.sem (.buildSlice 50 1 #[(0, (.tmp 41))]) 50 [(41, (.sc (.sidx (.atom 1) (.atom 6))))] (.sc (.sl)) []
        (.sem (.call ⟨.builtin .append, #[(.tmp 40), (.tmp 42)], #[50, 50]⟩) 50 [(40, (.sc (.atom 7))), (42, (.sc (.atom 8)))] (.sc (.sl)) []
        (.store (.padd (.atom 0) 0) [(.atom 9)]
        (.next 8 []))))))))))
    (.load (.padd (.atom 0) 0) [.sl]
    (.sem (.buildSlice 50 1 #[(0, (.const (.int .u8 34)))]) 50 [] (.sc (.sl)) []
    (.sem (.call ⟨.builtin .append, #[(.tmp 102), (.tmp 103)], #[50, 50]⟩) 50 [(102, (.sc (.atom 7))), (103, (.sc (.atom 8)))] (.sc (.sl)) []
    (.store (.padd (.atom 0) 0) [(.atom 9)]
    (.leaf (.tu [])))))))))))))))
theorem fm_data_writer__text_eq : execF Tryd.prog { pub := [], nojoin := false } Tryd.f51 = fm_data_writer__text := by kernel_rfl
theorem cb_data_writer__text : callB Tryd.prog 51 = true := by kernel_rfl
theorem tri_data_writer__text (E : List Value) {args : Array Value} {H : PH} {R : Ending → PH → Prop} (hE : tagsOk ((paramRS Tryd.prog Tryd.f51).flatMap RS.tags) E = true) (hargs : args.toList = packAll (paramRS Tryd.prog Tryd.f51) E)
    (hden : den Tryd.prog (fun c H' => R (.panicked c) H') fm_data_writer__text E H [] (fun ve E' H' _ => R (.returned (evV E' (fun _ => 0) ve)) H')) : Tri Tryd.prog 51 args H R :=
  execF_tri (op := { pub := [], nojoin := false }) Tryd.func51 hE hargs (by rw [fm_data_writer__text_eq]; exact hden)

/-- (*scrimshaw/data.writer).items -/
abbrev n_data_writer__items : FuncId := 52
def fm_data_writer__items : Fm VE :=
 (.chk [] (.some (.atom 0))
 (.load (.padd (.atom 0) 0) [.sl]
 (.sem (.buildSlice 50 1 #[(0, (.const (.int .u8 40)))]) 50 [] (.sc (.sl)) []
 (.sem (.call ⟨.builtin .append, #[(.tmp 10), (.tmp 11)], #[50, 50]⟩) 50 [(10, (.sc (.atom 5))), (11, (.sc (.atom 6)))] (.sc (.sl)) []
 (.store (.padd (.atom 0) 0) [(.atom 7)]
 (.loop 4 [.int .i64] [(.int .i64 0)]
  (.ite (.cmp .lss (.atom 8) (.len (.atom 4)))
   (.chk [] (.inSl (.atom 4) (.atom 8))
   (.load (.elt (.atom 4) (.atom 8) 4) [.int .i64, .int .i64, .str, .sl]
   (.join 9 []
    (.call (.fn 46) [(.sc (.atom 0)), (.ag [(.atom 9), (.atom 10), (.atom 11), (.atom 12)])] (.tu []) []
    (.next 4 [(.ar .add .i64 (.atom 8) (.int .i64 1))]))
    (.ite (.cmp .gtr (.atom 8) (.int .i64 0))
     (.load (.padd (.atom 0) 0) [.sl]
     (.sem (.buildSlice 50 1 #[(0, (.const (.int .u8 32)))]) 50 [] (.sc (.sl)) []
     (.sem (.call ⟨.builtin .append, #[(.tmp 29), (.tmp 30)], #[50, 50]⟩) 50 [(29, (.sc (.atom 13))), (30, (.sc (.atom 14)))] (.sc (.sl)) []
     (.store (.padd (.atom 0) 0) [(.atom 15)]
     (.ite (.pick (.cmp .eql (.atom 1) (.int .i64 6)) (.cmp .eql (.atom 8) (.ar .sub .i64 (.len (.atom 4)) (.int .i64 1))) (.bool false))
      (.load (.padd (.atom 0) 0) [.sl]
      (.sem (.buildSlice 50 2 #[(0, (.const (.int .u8 46))), (1, (.const (.int .u8 32)))]) 50 [] (.sc (.sl)) []
      (.sem (.call ⟨.builtin .append, #[(.tmp 49), (.tmp 50)], #[50, 50]⟩) 50 [(49, (.sc (.atom 16))), (50, (.sc (.atom 17)))] (.sc (.sl)) []
      (.store (.padd (.atom 0) 0) [(.atom 18)]
      (.next 9 [])))))
      (.next 9 []))))))
     (.next 9 [])))))
   (.load (.padd (.atom 0) 0) [.sl]
   (.sem (.buildSlice 50 1 #[(0, (.const (.int .u8 41)))]) 50 [] (.sc (.sl)) []
   (.sem (.call ⟨.builtin .append, #[(.tmp 62), (.tmp 63)], #[50, 50]⟩) 50 [(62, (.sc (.atom 9))), (63, (.sc (.atom 10)))] (.sc (.sl)) []
   (.store (.padd (.atom 0) 0) [(.atom 11)]
   (.leaf (.tu [])))))))))))))
theorem fm_data_writer__items_eq : execF Tryd.prog { pub := [], nojoin := false } Tryd.f52 = fm_data_writer__items := by kernel_rfl
theorem cb_data_writer__items : callB Tryd.prog 52 = true := by kernel_rfl
theorem tri_data_writer__items (E : List Value) {args : Array Value} {H : PH} {R : Ending → PH → Prop} (hE : tagsOk ((paramRS Tryd.prog Tryd.f52).flatMap RS.tags) E = true) (hargs : args.toList = packAll (paramRS Tryd.prog Tryd.f52) E)
    (hden : den Tryd.prog (fun c H' => R (.panicked c) H') fm_data_writer__items E H [] (fun ve E' H' _ => R (.returned (evV E' (fun _ => 0) ve)) H')) : Tri Tryd.prog 52 args H R :=
  execF_tri (op := { pub := [], nojoin := false }) Tryd.func52 hE hargs (by rw [fm_data_writer__items_eq]; exact hden)

/-- internal/strconv.AppendInt -/
abbrev n_internal_strconv_AppendInt : FuncId := 54
def fm_internal_strconv_AppendInt : Fm VE :=
 (.join 2 [.sl, .int .u64]
  (.call (.fn 55) [(.sc (.atom 3)), (.sc (.atom 4)), (.sc (.atom 2))] (.sc (.sl)) []
  (.leaf (.sc (.atom 5))))
  (.ite (.cmp .lss (.atom 1) (.int .i64 0))
   (.sem (.buildSlice 50 1 #[(0, (.const (.int .u8 45)))]) 50 [] (.sc (.sl)) []
   (.sem (.call ⟨.builtin .append, #[(.tmp 12), (.tmp 13)], #[50, 50]⟩) 50 [(12, (.sc (.atom 0))), (13, (.sc (.atom 3)))] (.sc (.sl)) []
   (.next 2 [(.atom 4), (.ar .sub .u64 (.int .u64 0) (.conv .u64 (.atom 1)))])))
   (.next 2 [(.atom 0), (.conv .u64 (.atom 1))])))
theorem fm_internal_strconv_AppendInt_eq : execF Tryd.prog { pub := [], nojoin := false } Tryd.f54 = fm_internal_strconv_AppendInt := by kernel_rfl
theorem cb_internal_strconv_AppendInt : callB Tryd.prog 54 = true := by kernel_rfl
theorem tri_internal_strconv_AppendInt (E : List Value) {args : Array Value} {H : PH} {R : Ending → PH → Prop} (hE : tagsOk ((paramRS Tryd.prog Tryd.f54).flatMap RS.tags) E = true) (hargs : args.toList = packAll (paramRS Tryd.prog Tryd.f54) E)
    (hden : den Tryd.prog (fun c H' => R (.panicked c) H') fm_internal_strconv_AppendInt E H [] (fun ve E' H' _ => R (.returned (evV E' (fun _ => 0) ve)) H')) : Tri Tryd.prog 54 args H R :=
  execF_tri (op := { pub := [], nojoin := false }) Tryd.func54 hE hargs (by rw [fm_internal_strconv_AppendInt_eq]; exact hden)

/-- internal/strconv.AppendUint -/
abbrev n_internal_strconv_AppendUint : FuncId := 55
def fm_internal_strconv_AppendUint : Fm VE :=
 (.ite (.cmp .eql (.atom 2) (.int .i64 10))
  (.ite (.cmp .lss (.atom 1) (.int .u64 100))
   (.call (.fn 56) [(.sc (.conv .i64 (.atom 1)))] (.sc (.str)) []
   (.sem (.call ⟨.builtin .append, #[(.tmp 13), (.tmp 16)], #[50, 9]⟩) 50 [(13, (.sc (.atom 0))), (16, (.sc (.atom 3)))] (.sc (.sl)) []
   (.leaf (.sc (.atom 4)))))
   (.new 68 [(.int .u8 0), (.int .u8 0), (.int .u8 0), (.int .u8 0), (.int .u8 0), (.int .u8 0), (.int .u8 0), (.int .u8 0), (.int .u8 0), (.int .u8 0), (.int .u8 0), (.int .u8 0), (.int .u8 0), (.int .u8 0), (.int .u8 0), (.int .u8 0), (.int .u8 0), (.int .u8 0), (.int .u8 0), (.int .u8 0), (.int .u8 0), (.int .u8 0), (.int .u8 0), (.int .u8 0)]
   (.call (.fn 57) [(.sc (.atom 1))] (.sc (.int .i64)) []
   (.sem (.slice 68 (.tmp 7) none (some (.tmp 20)) none) 50 [(7, (.sc (.atom 3))), (20, (.sc (.atom 4)))] (.sc (.sl)) []
   (.call (.fn 58) [(.sc (.atom 5)), (.sc (.atom 1))] (.tu []) []
   (.sem (.slice 68 (.tmp 7) none (some (.tmp 25)) none) 50 [(7, (.sc (.atom 3))), (25, (.sc (.atom 4)))] (.sc (.sl)) []
   (.sem (.call ⟨.builtin .append, #[(.tmp 24), (.tmp 26)], #[50, 50]⟩) 50 [(24, (.sc (.atom 0))), (26, (.sc (.atom 6)))] (.sc (.sl)) []
   (.leaf (.sc (.atom 7))))))))))
  (.call (.fn 59) [(.sc (.atom 0)), (.sc (.atom 1)), (.sc (.atom 2)), (.sc (.bool false)), (.sc (.bool true))] (.tu [(false, [.sl]), (false, [.str])]) []
  (.leaf (.sc (.atom 3)))))
theorem fm_internal_strconv_AppendUint_eq : execF Tryd.prog { pub := [7], nojoin := false } Tryd.f55 = fm_internal_strconv_AppendUint := by kernel_rfl
theorem cb_internal_strconv_AppendUint : callB Tryd.prog 55 = true := by kernel_rfl
theorem tri_internal_strconv_AppendUint (E : List Value) {args : Array Value} {H : PH} {R : Ending → PH → Prop} (hE : tagsOk ((paramRS Tryd.prog Tryd.f55).flatMap RS.tags) E = true) (hargs : args.toList = packAll (paramRS Tryd.prog Tryd.f55) E)
    (hden : den Tryd.prog (fun c H' => R (.panicked c) H') fm_internal_strconv_AppendUint E H [] (fun ve E' H' _ => R (.returned (evV E' (fun _ => 0) ve)) H')) : Tri Tryd.prog 55 args H R :=
  execF_tri (op := { pub := [7], nojoin := false }) Tryd.func55 hE hargs (by rw [fm_internal_strconv_AppendUint_eq]; exact hden)

/-- internal/strconv.small -/
abbrev n_internal_strconv_small : FuncId := 56
def fm_internal_strconv_small : Fm VE :=
 (.ite (.cmp .lss (.atom 0) (.int .i64 10))
  (.chk [] (.sub (.slen (.str [48, 49, 50, 51, 52, 53, 54, 55, 56, 57, 97, 98, 99, 100, 101, 102, 103, 104, 105, 106, 107, 108, 109, 110, 111, 112, 113, 114, 115, 116, 117, 118, 119, 120, 121, 122])) (.atom 0) (.ar .add .i64 (.atom 0) (.int .i64 1)))
  (.leaf (.sc (.ssub (.str [48, 49, 50, 51, 52, 53, 54, 55, 56, 57, 97, 98, 99, 100, 101, 102, 103, 104, 105, 106, 107, 108, 109, 110, 111, 112, 113, 114, 115, 116, 117, 118, 119, 120, 121, 122]) (.atom 0) (.ar .add .i64 (.atom 0) (.int .i64 1))))))
  (.chk [] (.sub (.slen (.str [48, 48, 48, 49, 48, 50, 48, 51, 48, 52, 48, 53, 48, 54, 48, 55, 48, 56, 48, 57, 49, 48, 49, 49, 49, 50, 49, 51, 49, 52, 49, 53, 49, 54, 49, 55, 49, 56, 49, 57, 50, 48, 50, 49, 50, 50, 50, 51, 50, 52, 50, 53, 50, 54, 50, 55, 50, 56, 50, 57, 51, 48, 51, 49, 51, 50, 51, 51, 51, 52, 51, 53, 51, 54, 51, 55, 51, 56, 51, 57, 52, 48, 52, 49, 52, 50, 52, 51, 52, 52, 52, 53, 52, 54, 52, 55, 52, 56, 52, 57, 53, 48, 53, 49, 53, 50, 53, 51, 53, 52, 53, 53, 53, 54, 53, 55, 53, 56, 53, 57, 54, 48, 54, 49, 54, 50, 54, 51, 54, 52, 54, 53, 54, 54, 54, 55, 54, 56, 54, 57, 55, 48, 55, 49, 55, 50, 55, 51, 55, 52, 55, 53, 55, 54, 55, 55, 55, 56, 55, 57, 56, 48, 56, 49, 56, 50, 56, 51, 56, 52, 56, 53, 56, 54, 56, 55, 56, 56, 56, 57, 57, 48, 57, 49, 57, 50, 57, 51, 57, 52, 57, 53, 57, 54, 57, 55, 57, 56, 57, 57])) (.ar .mul .i64 (.atom 0) (.int .i64 2)) (.ar .add .i64 (.ar .mul .i64 (.atom 0) (.int .i64 2)) (.int .i64 2)))
  (.leaf (.sc (.ssub (.str [48, 48, 48, 49, 48, 50, 48, 51, 48, 52, 48, 53, 48, 54, 48, 55, 48, 56, 48, 57, 49, 48, 49, 49, 49, 50, 49, 51, 49, 52, 49, 53, 49, 54, 49, 55, 49, 56, 49, 57, 50, 48, 50, 49, 50, 50, 50, 51, 50, 52, 50, 53, 50, 54, 50, 55, 50, 56, 50, 57, 51, 48, 51, 49, 51, 50, 51, 51, 51, 52, 51, 53, 51, 54, 51, 55, 51, 56, 51, 57, 52, 48, 52, 49, 52, 50, 52, 51, 52, 52, 52, 53, 52, 54, 52, 55, 52, 56, 52, 57, 53, 48, 53, 49, 53, 50, 53, 51, 53, 52, 53, 53, 53, 54, 53, 55, 53, 56, 53, 57, 54, 48, 54, 49, 54, 50, 54, 51, 54, 52, 54, 53, 54, 54, 54, 55, 54, 56, 54, 57, 55, 48, 55, 49, 55, 50, 55, 51, 55, 52, 55, 53, 55, 54, 55, 55, 55, 56, 55, 57, 56, 48, 56, 49, 56, 50, 56, 51, 56, 52, 56, 53, 56, 54, 56, 55, 56, 56, 56, 57, 57, 48, 57, 49, 57, 50, 57, 51, 57, 52, 57, 53, 57, 54, 57, 55, 57, 56, 57, 57]) (.ar .mul .i64 (.atom 0) (.int .i64 2)) (.ar .add .i64 (.ar .mul .i64 (.atom 0) (.int .i64 2)) (.int .i64 2)))))))
theorem fm_internal_strconv_small_eq : execF Tryd.prog { pub := [], nojoin := false } Tryd.f56 = fm_internal_strconv_small := by kernel_rfl
theorem cb_internal_strconv_small : callB Tryd.prog 56 = true := by kernel_rfl
theorem tri_internal_strconv_small (E : List Value) {args : Array Value} {H : PH} {R : Ending → PH → Prop} (hE : tagsOk ((paramRS Tryd.prog Tryd.f56).flatMap RS.tags) E = true) (hargs : args.toList = packAll (paramRS Tryd.prog Tryd.f56) E)
    (hden : den Tryd.prog (fun c H' => R (.panicked c) H') fm_internal_strconv_small E H [] (fun ve E' H' _ => R (.returned (evV E' (fun _ => 0) ve)) H')) : Tri Tryd.prog 56 args H R :=
  execF_tri (op := { pub := [], nojoin := false }) Tryd.func56 hE hargs (by rw [fm_internal_strconv_small_eq]; exact hden)

/-- internal/strconv.numDigits -/
abbrev n_internal_strconv_numDigits : FuncId := 57
def fm_internal_strconv_numDigits : Fm VE :=
 (.call (.fn 61) [(.sc (.atom 0))] (.sc (.int .i64)) []
 (.call (.fn 60) [(.sc (.atom 1))] (.sc (.int .i64)) []
 (.sem (.indexAddr 75 (.global 1) (.tmp 9)) 0 [(9, (.sc (.atom 2)))] (.sc (.ptr)) []
 (.load (.atom 3) [.int .u64]
 (.call (.fn 62) [(.sc (.cmp .geq (.atom 0) (.atom 4)))] (.sc (.int .i64)) []
 (.leaf (.sc (.ar .add .i64 (.atom 2) (.atom 5)))))))))
theorem fm_internal_strconv_numDigits_eq : execF Tryd.prog { pub := [], nojoin := false } Tryd.f57 = fm_internal_strconv_numDigits := by kernel_rfl
theorem cb_internal_strconv_numDigits : callB Tryd.prog 57 = true := by kernel_rfl
theorem tri_internal_strconv_numDigits (E : List Value) {args : Array Value} {H : PH} {R : Ending → PH → Prop} (hE : tagsOk ((paramRS Tryd.prog Tryd.f57).flatMap RS.tags) E = true) (hargs : args.toList = packAll (paramRS Tryd.prog Tryd.f57) E)
    (hden : den Tryd.prog (fun c H' => R (.panicked c) H') fm_internal_strconv_numDigits E H [] (fun ve E' H' _ => R (.returned (evV E' (fun _ => 0) ve)) H')) : Tri Tryd.prog 57 args H R :=
  execF_tri (op := { pub := [], nojoin := false }) Tryd.func57 hE hargs (by rw [fm_internal_strconv_numDigits_eq]; exact hden)

/-- internal/strconv.formatBase10 -/
abbrev n_internal_strconv_formatBase10 : FuncId := 58
def fm_internal_strconv_formatBase10 : Fm VE :=
 (.loop 2 [.int .u64, .int .i64] [(.atom 1), (.len (.atom 0))]
  (.ite (.cmp .geq (.atom 3) (.int .i64 8))
   (.chk [] (.inStr (.str [48, 48, 48, 49, 48, 50, 48, 51, 48, 52, 48, 53, 48, 54, 48, 55, 48, 56, 48, 57, 49, 48, 49, 49, 49, 50, 49, 51, 49, 52, 49, 53, 49, 54, 49, 55, 49, 56, 49, 57, 50, 48, 50, 49, 50, 50, 50, 51, 50, 52, 50, 53, 50, 54, 50, 55, 50, 56, 50, 57, 51, 48, 51, 49, 51, 50, 51, 51, 51, 52, 51, 53, 51, 54, 51, 55, 51, 56, 51, 57, 52, 48, 52, 49, 52, 50, 52, 51, 52, 52, 52, 53, 52, 54, 52, 55, 52, 56, 52, 57, 53, 48, 53, 49, 53, 50, 53, 51, 53, 52, 53, 53, 53, 54, 53, 55, 53, 56, 53, 57, 54, 48, 54, 49, 54, 50, 54, 51, 54, 52, 54, 53, 54, 54, 54, 55, 54, 56, 54, 57, 55, 48, 55, 49, 55, 50, 55, 51, 55, 52, 55, 53, 55, 54, 55, 55, 55, 56, 55, 57, 56, 48, 56, 49, 56, 50, 56, 51, 56, 52, 56, 53, 56, 54, 56, 55, 56, 56, 56, 57, 57, 48, 57, 49, 57, 50, 57, 51, 57, 52, 57, 53, 57, 54, 57, 55, 57, 56, 57, 57]) (.ar .add .u32 (.ar .mul .u32 (.ar .rem .u32 (.ar .rem .u32 (.conv .u32 (.ar .rem .u64 (.atom 2) (.int .u64 100000000))) (.int .u32 10000)) (.int .u32 100)) (.int .u32 2)) (.int .u32 1)))
   (.chk [] (.inStr (.str [48, 48, 48, 49, 48, 50, 48, 51, 48, 52, 48, 53, 48, 54, 48, 55, 48, 56, 48, 57, 49, 48, 49, 49, 49, 50, 49, 51, 49, 52, 49, 53, 49, 54, 49, 55, 49, 56, 49, 57, 50, 48, 50, 49, 50, 50, 50, 51, 50, 52, 50, 53, 50, 54, 50, 55, 50, 56, 50, 57, 51, 48, 51, 49, 51, 50, 51, 51, 51, 52, 51, 53, 51, 54, 51, 55, 51, 56, 51, 57, 52, 48, 52, 49, 52, 50, 52, 51, 52, 52, 52, 53, 52, 54, 52, 55, 52, 56, 52, 57, 53, 48, 53, 49, 53, 50, 53, 51, 53, 52, 53, 53, 53, 54, 53, 55, 53, 56, 53, 57, 54, 48, 54, 49, 54, 50, 54, 51, 54, 52, 54, 53, 54, 54, 54, 55, 54, 56, 54, 57, 55, 48, 55, 49, 55, 50, 55, 51, 55, 52, 55, 53, 55, 54, 55, 55, 55, 56, 55, 57, 56, 48, 56, 49, 56, 50, 56, 51, 56, 52, 56, 53, 56, 54, 56, 55, 56, 56, 56, 57, 57, 48, 57, 49, 57, 50, 57, 51, 57, 52, 57, 53, 57, 54, 57, 55, 57, 56, 57, 57]) (.ar .mul .u32 (.ar .rem .u32 (.ar .rem .u32 (.conv .u32 (.ar .rem .u64 (.atom 2) (.int .u64 100000000))) (.int .u32 10000)) (.int .u32 100)) (.int .u32 2)))
   (.chk [] (.inSl (.atom 0) (.ar .sub .i64 (.atom 3) (.int .i64 1)))
   (.store (.elt (.atom 0) (.ar .sub .i64 (.atom 3) (.int .i64 1)) 1) [(.sidx (.str [48, 48, 48, 49, 48, 50, 48, 51, 48, 52, 48, 53, 48, 54, 48, 55, 48, 56, 48, 57, 49, 48, 49, 49, 49, 50, 49, 51, 49, 52, 49, 53, 49, 54, 49, 55, 49, 56, 49, 57, 50, 48, 50, 49, 50, 50, 50, 51, 50, 52, 50, 53, 50, 54, 50, 55, 50, 56, 50, 57, 51, 48, 51, 49, 51, 50, 51, 51, 51, 52, 51, 53, 51, 54, 51, 55, 51, 56, 51, 57, 52, 48, 52, 49, 52, 50, 52, 51, 52, 52, 52, 53, 52, 54, 52, 55, 52, 56, 52, 57, 53, 48, 53, 49, 53, 50, 53, 51, 53, 52, 53, 53, 53, 54, 53, 55, 53, 56, 53, 57, 54, 48, 54, 49, 54, 50, 54, 51, 54, 52, 54, 53, 54, 54, 54, 55, 54, 56, 54, 57, 55, 48, 55, 49, 55, 50, 55, 51, 55, 52, 55, 53, 55, 54, 55, 55, 55, 56, 55, 57, 56, 48, 56, 49, 56, 50, 56, 51, 56, 52, 56, 53, 56, 54, 56, 55, 56, 56, 56, 57, 57, 48, 57, 49, 57, 50, 57, 51, 57, 52, 57, 53, 57, 54, 57, 55, 57, 56, 57, 57]) (.ar .add .u32 (.ar .mul .u32 (.ar .rem .u32 (.ar .rem .u32 (.conv .u32 (.ar .rem .u64 (.atom 2) (.int .u64 100000000))) (.int .u32 10000)) (.int .u32 100)) (.int .u32 2)) (.int .u32 1)))]
   (.chk [] (.inSl (.atom 0) (.ar .sub .i64 (.atom 3) (.int .i64 2)))
   (.store (.elt (.atom 0) (.ar .sub .i64 (.atom 3) (.int .i64 2)) 1) [(.sidx (.str [48, 48, 48, 49, 48, 50, 48, 51, 48, 52, 48, 53, 48, 54, 48, 55, 48, 56, 48, 57, 49, 48, 49, 49, 49, 50, 49, 51, 49, 52, 49, 53, 49, 54, 49, 55, 49, 56, 49, 57, 50, 48, 50, 49, 50, 50, 50, 51, 50, 52, 50, 53, 50, 54, 50, 55, 50, 56, 50, 57, 51, 48, 51, 49, 51, 50, 51, 51, 51, 52, 51, 53, 51, 54, 51, 55, 51, 56, 51, 57, 52, 48, 52, 49, 52, 50, 52, 51, 52, 52, 52, 53, 52, 54, 52, 55, 52, 56, 52, 57, 53, 48, 53, 49, 53, 50, 53, 51, 53, 52, 53, 53, 53, 54, 53, 55, 53, 56, 53, 57, 54, 48, 54, 49, 54, 50, 54, 51, 54, 52, 54, 53, 54, 54, 54, 55, 54, 56, 54, 57, 55, 48, 55, 49, 55, 50, 55, 51, 55, 52, 55, 53, 55, 54, 55, 55, 55, 56, 55, 57, 56, 48, 56, 49, 56, 50, 56, 51, 56, 52, 56, 53, 56, 54, 56, 55, 56, 56, 56, 57, 57, 48, 57, 49, 57, 50, 57, 51, 57, 52, 57, 53, 57, 54, 57, 55, 57, 56, 57, 57]) (.ar .mul .u32 (.ar .rem .u32 (.ar .rem .u32 (.conv .u32 (.ar .rem .u64 (.atom 2) (.int .u64 100000000))) (.int .u32 10000)) (.int .u32 100)) (.int .u32 2)))]
   (.chk [] (.inStr (.str [48, 48, 48, 49, 48, 50, 48, 51, 48, 52, 48, 53, 48, 54, 48, 55, 48, 56, 48, 57, 49, 48, 49, 49, 49, 50, 49, 51, 49, 52, 49, 53, 49, 54, 49, 55, 49, 56, 49, 57, 50, 48, 50, 49, 50, 50, 50, 51, 50, 52, 50, 53, 50, 54, 50, 55, 50, 56, 50, 57, 51, 48, 51, 49, 51, 50, 51, 51, 51, 52, 51, 53, 51, 54, 51, 55, 51, 56, 51, 57, 52, 48, 52, 49, 52, 50, 52, 51, 52, 52, 52, 53, 52, 54, 52, 55, 52, 56, 52, 57, 53, 48, 53, 49, 53, 50, 53, 51, 53, 52, 53, 53, 53, 54, 53, 55, 53, 56, 53, 57, 54, 48, 54, 49, 54, 50, 54, 51, 54, 52, 54, 53, 54, 54, 54, 55, 54, 56, 54, 57, 55, 48, 55, 49, 55, 50, 55, 51, 55, 52, 55, 53, 55, 54, 55, 55, 55, 56, 55, 57, 56, 48, 56, 49, 56, 50, 56, 51, 56, 52, 56, 53, 56, 54, 56, 55, 56, 56, 56, 57, 57, 48, 57, 49, 57, 50, 57, 51, 57, 52, 57, 53, 57, 54, 57, 55, 57, 56, 57, 57]) (.ar .add .u32 (.ar .mul .u32 (.ar .quo .u32 (.ar .rem .u32 (.conv .u32 (.ar .rem .u64 (.atom 2) (.int .u64 100000000))) (.int .u32 10000)) (.int .u32 100)) (.int .u32 2)) (.int .u32 1)))
   (.chk [] (.inStr (.str [48, 48, 48, 49, 48, 50, 48, 51, 48, 52, 48, 53, 48, 54, 48, 55, 48, 56, 48, 57, 49, 48, 49, 49, 49, 50, 49, 51, 49, 52, 49, 53, 49, 54, 49, 55, 49, 56, 49, 57, 50, 48, 50, 49, 50, 50, 50, 51, 50, 52, 50, 53, 50, 54, 50, 55, 50, 56, 50, 57, 51, 48, 51, 49, 51, 50, 51, 51, 51, 52, 51, 53, 51, 54, 51, 55, 51, 56, 51, 57, 52, 48, 52, 49, 52, 50, 52, 51, 52, 52, 52, 53, 52, 54, 52, 55, 52, 56, 52, 57, 53, 48, 53, 49, 53, 50, 53, 51, 53, 52, 53, 53, 53, 54, 53, 55, 53, 56, 53, 57, 54, 48, 54, 49, 54, 50, 54, 51, 54, 52, 54, 53, 54, 54, 54, 55, 54, 56, 54, 57, 55, 48, 55, 49, 55, 50, 55, 51, 55, 52, 55, 53, 55, 54, 55, 55, 55, 56, 55, 57, 56, 48, 56, 49, 56, 50, 56, 51, 56, 52, 56, 53, 56, 54, 56, 55, 56, 56, 56, 57, 57, 48, 57, 49, 57, 50, 57, 51, 57, 52, 57, 53, 57, 54, 57, 55, 57, 56, 57, 57]) (.ar .mul .u32 (.ar .quo .u32 (.ar .rem .u32 (.conv .u32 (.ar .rem .u64 (.atom 2) (.int .u64 100000000))) (.int .u32 10000)) (.int .u32 100)) (.int .u32 2)))
   (.chk [] (.inSl (.atom 0) (.ar .sub .i64 (.atom 3) (.int .i64 3)))
   (.store (.elt (.atom 0) (.ar .sub .i64 (.atom 3) (.int .i64 3)) 1) [(.sidx (.str [48, 48, 48, 49, 48, 50, 48, 51, 48, 52, 48, 53, 48, 54, 48, 55, 48, 56, 48, 57, 49, 48, 49, 49, 49, 50, 49, 51, 49, 52, 49, 53, 49, 54, 49, 55, 49, 56, 49, 57, 50, 48, 50, 49, 50, 50, 50, 51, 50, 52, 50, 53, 50, 54, 50, 55, 50, 56, 50, 57, 51, 48, 51, 49, 51, 50, 51, 51, 51, 52, 51, 53, 51, 54, 51, 55, 51, 56, 51, 57, 52, 48, 52, 49, 52, 50, 52, 51, 52, 52, 52, 53, 52, 54, 52, 55, 52, 56, 52, 57, 53, 48, 53, 49, 53, 50, 53, 51, 53, 52, 53, 53, 53, 54, 53, 55, 53, 56, 53, 57, 54, 48, 54, 49, 54, 50, 54, 51, 54, 52, 54, 53, 54, 54, 54, 55, 54, 56, 54, 57, 55, 48, 55, 49, 55, 50, 55, 51, 55, 52, 55, 53, 55, 54, 55, 55, 55, 56, 55, 57, 56, 48, 56, 49, 56, 50, 56, 51, 56, 52, 56, 53, 56, 54, 56, 55, 56, 56, 56, 57, 57, 48, 57, 49, 57, 50, 57, 51, 57, 52, 57, 53, 57, 54, 57, 55, 57, 56, 57, 57]) (.ar .add .u32 (.ar .mul .u32 (.ar .quo .u32 (.ar .rem .u32 (.conv .u32 (.ar .rem .u64 (.atom 2) (.int .u64 100000000))) (.int .u32 10000)) (.int .u32 100)) (.int .u32 2)) (.int .u32 1)))]
   (.chk [] (.inSl (.atom 0) (.ar .sub .i64 (.atom 3) (.int .i64 4)))
   (.store (.elt (.atom 0) (.ar .sub .i64 (.atom 3) (.int .i64 4)) 1) [(.sidx (.str [48, 48, 48, 49, 48, 50, 48, 51, 48, 52, 48, 53, 48, 54, 48, 55, 48, 56, 48, 57, 49, 48, 49, 49, 49, 50, 49, 51, 49, 52, 49, 53, 49, 54, 49, 55, 49, 56, 49, 57, 50, 48, 50, 49, 50, 50, 50, 51, 50, 52, 50, 53, 50, 54, 50, 55, 50, 56, 50, 57, 51, 48, 51, 49, 51, 50, 51, 51, 51, 52, 51, 53, 51, 54, 51, 55, 51, 56, 51, 57, 52, 48, 52, 49, 52, 50, 52, 51, 52, 52, 52, 53, 52, 54, 52, 55, 52, 56, 52, 57, 53, 48, 53, 49, 53, 50, 53, 51, 53, 52, 53, 53, 53, 54, 53, 55, 53, 56, 53, 57, 54, 48, 54, 49, 54, 50, 54, 51, 54, 52, 54, 53, 54, 54, 54, 55, 54, 56, 54, 57, 55, 48, 55, 49, 55, 50, 55, 51, 55, 52, 55, 53, 55, 54, 55, 55, 55, 56, 55, 57, 56, 48, 56, 49, 56, 50, 56, 51, 56, 52, 56, 53, 56, 54, 56, 55, 56, 56, 56, 57, 57, 48, 57, 49, 57, 50, 57, 51, 57, 52, 57, 53, 57, 54, 57, 55, 57, 56, 57, 57]) (.ar .mul .u32 (.ar .quo .u32 (.ar .rem .u32 (.conv .u32 (.ar .rem .u64 (.atom 2) (.int .u64 100000000))) (.int .u32 10000)) (.int .u32 100)) (.int .u32 2)))]
   (.chk [] (.inStr (.str [48, 48, 48, 49, 48, 50, 48, 51, 48, 52, 48, 53, 48, 54, 48, 55, 48, 56, 48, 57, 49, 48, 49, 49, 49, 50, 49, 51, 49, 52, 49, 53, 49, 54, 49, 55, 49, 56, 49, 57, 50, 48, 50, 49, 50, 50, 50, 51, 50, 52, 50, 53, 50, 54, 50, 55, 50, 56, 50, 57, 51, 48, 51, 49, 51, 50, 51, 51, 51, 52, 51, 53, 51, 54, 51, 55, 51, 56, 51, 57, 52, 48, 52, 49, 52, 50, 52, 51, 52, 52, 52, 53, 52, 54, 52, 55, 52, 56, 52, 57, 53, 48, 53, 49, 53, 50, 53, 51, 53, 52, 53, 53, 53, 54, 53, 55, 53, 56, 53, 57, 54, 48, 54, 49, 54, 50, 54, 51, 54, 52, 54, 53, 54, 54, 54, 55, 54, 56, 54, 57, 55, 48, 55, 49, 55, 50, 55, 51, 55, 52, 55, 53, 55, 54, 55, 55, 55, 56, 55, 57, 56, 48, 56, 49, 56, 50, 56, 51, 56, 52, 56, 53, 56, 54, 56, 55, 56, 56, 56, 57, 57, 48, 57, 49, 57, 50, 57, 51, 57, 52, 57, 53, 57, 54, 57, 55, 57, 56, 57, 57]) (.ar .add .u32 (.ar .mul .u32 (.ar .rem .u32 (.ar .quo .u32 (.conv .u32 (.ar .rem .u64 (.atom 2) (.int .u64 100000000))) (.int .u32 10000)) (.int .u32 100)) (.int .u32 2)) (.int .u32 1)))
   (.chk [] (.inStr (.str [48, 48, 48, 49, 48, 50, 48, 51, 48, 52, 48, 53, 48, 54, 48, 55, 48, 56, 48, 57, 49, 48, 49, 49, 49, 50, 49, 51, 49, 52, 49, 53, 49, 54, 49, 55, 49, 56, 49, 57, 50, 48, 50, 49, 50, 50, 50, 51, 50, 52, 50, 53, 50, 54, 50, 55, 50, 56, 50, 57, 51, 48, 51, 49, 51, 50, 51, 51, 51, 52, 51, 53, 51, 54, 51, 55, 51, 56, 51, 57, 52, 48, 52, 49, 52, 50, 52, 51, 52, 52, 52, 53, 52, 54, 52, 55, 52, 56, 52, 57, 53, 48, 53, 49, 53, 50, 53, 51, 53, 52, 53, 53, 53, 54, 53, 55, 53, 56, 53, 57, 54, 48, 54, 49, 54, 50, 54, 51, 54, 52, 54, 53, 54, 54, 54, 55, 54, 56, 54, 57, 55, 48, 55, 49, 55, 50, 55, 51, 55, 52, 55, 53, 55, 54, 55, 55, 55, 56, 55, 57, 56, 48, 56, 49, 56, 50, 56, 51, 56, 52, 56, 53, 56, 54, 56, 55, 56, 56, 56, 57, 57, 48, 57, 49, 57, 50, 57, 51, 57, 52, 57, 53, 57, 54, 57, 55, 57, 56, 57, 57]) (.ar .mul .u32 (.ar .rem .u32 (.ar .quo .u32 (.conv .u32 (.ar .rem .u64 (.atom 2) (.int .u64 100000000))) (.int .u32 10000)) (.int .u32 100)) (.int .u32 2)))
   (.chk [] (.inSl (.atom 0) (.ar .sub .i64 (.atom 3) (.int .i64 5)))
   (.store (.elt (.atom 0) (.ar .sub .i64 (.atom 3) (.int .i64 5)) 1) [(.sidx (.str [48, 48, 48, 49, 48, 50, 48, 51, 48, 52, 48, 53, 48, 54, 48, 55, 48, 56, 48, 57, 49, 48, 49, 49, 49, 50, 49, 51, 49, 52, 49, 53, 49, 54, 49, 55, 49, 56, 49, 57, 50, 48, 50, 49, 50, 50, 50, 51, 50, 52, 50, 53, 50, 54, 50, 55, 50, 56, 50, 57, 51, 48, 51, 49, 51, 50, 51, 51, 51, 52, 51, 53, 51, 54, 51, 55, 51, 56, 51, 57, 52, 48, 52, 49, 52, 50, 52, 51, 52, 52, 52, 53, 52, 54, 52, 55, 52, 56, 52, 57, 53, 48, 53, 49, 53, 50, 53, 51, 53, 52, 53, 53, 53, 54, 53, 55, 53, 56, 53, 57, 54, 48, 54, 49, 54, 50, 54, 51, 54, 52, 54, 53, 54, 54, 54, 55, 54, 56, 54, 57, 55, 48, 55, 49, 55, 50, 55, 51, 55, 52, 55, 53, 55, 54, 55, 55, 55, 56, 55, 57, 56, 48, 56, 49, 56, 50, 56, 51, 56, 52, 56, 53, 56, 54, 56, 55, 56, 56, 56, 57, 57, 48, 57, 49, 57, 50, 57, 51, 57, 52, 57, 53, 57, 54, 57, 55, 57, 56, 57, 57]) (.ar .add .u32 (.ar .mul .u32 (.ar .rem .u32 (.ar .quo .u32 (.conv .u32 (.ar .rem .u64 (.atom 2) (.int .u64 100000000))) (.int .u32 10000)) (.int .u32 100)) (.int .u32 2)) (.int .u32 1)))]
   (.chk [] (.inSl (.atom 0) (.ar .sub .i64 (.atom 3) (.int .i64 6)))
   (.store (.elt (.atom 0) (.ar .sub .i64 (.atom 3) (.int .i64 6)) 1) [(.sidx (.str [48, 48, 48, 49, 48, 50, 48, 51, 48, 52, 48, 53, 48, 54, 48, 55, 48, 56, 48, 57, 49, 48, 49, 49, 49, 50, 49, 51, 49, 52, 49, 53, 49, 54, 49, 55, 49, 56, 49, 57, 50, 48, 50, 49, 50, 50, 50, 51, 50, 52, 50, 53, 50, 54, 50, 55, 50, 56, 50, 57, 51, 48, 51, 49, 51, 50, 51, 51, 51, 52, 51, 53, 51, 54, 51, 55, 51, 56, 51, 57, 52, 48, 52, 49, 52, 50, 52, 51, 52, 52, 52, 53, 52, 54, 52, 55, 52, 56, 52, 57, 53, 48, 53, 49, 53, 50, 53, 51, 53, 52, 53, 53, 53, 54, 53, 55, 53, 56, 53, 57, 54, 48, 54, 49, 54, 50, 54, 51, 54, 52, 54, 53, 54, 54, 54, 55, 54, 56, 54, 57, 55, 48, 55, 49, 55, 50, 55, 51, 55, 52, 55, 53, 55, 54, 55, 55, 55, 56, 55, 57, 56, 48, 56, 49, 56, 50, 56, 51, 56, 52, 56, 53, 56, 54, 56, 55, 56, 56, 56, 57, 57, 48, 57, 49, 57, 50, 57, 51, 57, 52, 57, 53, 57, 54, 57, 55, 57, 56, 57, 57]) (.ar .mul .u32 (.ar .rem .u32 (.ar .quo .u32 (.conv .u32 (.ar .rem .u64 (.atom 2) (.int .u64 100000000))) (.int .u32 10000)) (.int .u32 100)) (.int .u32 2)))]
   (.chk [] (.inStr (.str [48, 48, 48, 49, 48, 50, 48, 51, 48, 52, 48, 53, 48, 54, 48, 55, 48, 56, 48, 57, 49, 48, 49, 49, 49, 50, 49, 51, 49, 52, 49, 53, 49, 54, 49, 55, 49, 56, 49, 57, 50, 48, 50, 49, 50, 50, 50, 51, 50, 52, 50, 53, 50, 54, 50, 55, 50, 56, 50, 57, 51, 48, 51, 49, 51, 50, 51, 51, 51, 52, 51, 53, 51, 54, 51, 55, 51, 56, 51, 57, 52, 48, 52, 49, 52, 50, 52, 51, 52, 52, 52, 53, 52, 54, 52, 55, 52, 56, 52, 57, 53, 48, 53, 49, 53, 50, 53, 51, 53, 52, 53, 53, 53, 54, 53, 55, 53, 56, 53, 57, 54, 48, 54, 49, 54, 50, 54, 51, 54, 52, 54, 53, 54, 54, 54, 55, 54, 56, 54, 57, 55, 48, 55, 49, 55, 50, 55, 51, 55, 52, 55, 53, 55, 54, 55, 55, 55, 56, 55, 57, 56, 48, 56, 49, 56, 50, 56, 51, 56, 52, 56, 53, 56, 54, 56, 55, 56, 56, 56, 57, 57, 48, 57, 49, 57, 50, 57, 51, 57, 52, 57, 53, 57, 54, 57, 55, 57, 56, 57, 57]) (.ar .add .u32 (.ar .mul .u32 (.ar .quo .u32 (.ar .quo .u32 (.conv .u32 (.ar .rem .u64 (.atom 2) (.int .u64 100000000))) (.int .u32 10000)) (.int .u32 100)) (.int .u32 2)) (.int .u32 1)))
   (.chk [] (.inStr (.str [48, 48, 48, 49, 48, 50, 48, 51, 48, 52, 48, 53, 48, 54, 48, 55, 48, 56, 48, 57, 49, 48, 49, 49, 49, 50, 49, 51, 49, 52, 49, 53, 49, 54, 49, 55, 49, 56, 49, 57, 50, 48, 50, 49, 50, 50, 50, 51, 50, 52, 50, 53, 50, 54, 50, 55, 50, 56, 50, 57, 51, 48, 51, 49, 51, 50, 51, 51, 51, 52, 51, 53, 51, 54, 51, 55, 51, 56, 51, 57, 52, 48, 52, 49, 52, 50, 52, 51, 52, 52, 52, 53, 52, 54, 52, 55, 52, 56, 52, 57, 53, 48, 53, 49, 53, 50, 53, 51, 53, 52, 53, 53, 53, 54, 53, 55, 53, 56, 53, 57, 54, 48, 54, 49, 54, 50, 54, 51, 54, 52, 54, 53, 54, 54, 54, 55, 54, 56, 54, 57, 55, 48, 55, 49, 55, 50, 55, 51, 55, 52, 55, 53, 55, 54, 55, 55, 55, 56, 55, 57, 56, 48, 56, 49, 56, 50, 56, 51, 56, 52, 56, 53, 56, 54, 56, 55, 56, 56, 56, 57, 57, 48, 57, 49, 57, 50, 57, 51, 57, 52, 57, 53, 57, 54, 57, 55, 57, 56, 57, 57]) (.ar .mul .u32 (.ar .quo .u32 (.ar .quo .u32 (.conv .u32 (.ar .rem .u64 (.atom 2) (.int .u64 100000000))) (.int .u32 10000)) (.int .u32 100)) (.int .u32 2)))
   (.chk [] (.inSl (.atom 0) (.ar .sub .i64 (.atom 3) (.int .i64 7)))
   (.store (.elt (.atom 0) (.ar .sub .i64 (.atom 3) (.int .i64 7)) 1) [(.sidx (.str [48, 48, 48, 49, 48, 50, 48, 51, 48, 52, 48, 53, 48, 54, 48, 55, 48, 56, 48, 57, 49, 48, 49, 49, 49, 50, 49, 51, 49, 52, 49, 53, 49, 54, 49, 55, 49, 56, 49, 57, 50, 48, 50, 49, 50, 50, 50, 51, 50, 52, 50, 53, 50, 54, 50, 55, 50, 56, 50, 57, 51, 48, 51, 49, 51, 50, 51, 51, 51, 52, 51, 53, 51, 54, 51, 55, 51, 56, 51, 57, 52, 48, 52, 49, 52, 50, 52, 51, 52, 52, 52, 53, 52, 54, 52, 55, 52, 56, 52, 57, 53, 48, 53, 49, 53, 50, 53, 51, 53, 52, 53, 53, 53, 54, 53, 55, 53, 56, 53, 57, 54, 48, 54, 49, 54, 50, 54, 51, 54, 52, 54, 53, 54, 54, 54, 55, 54, 56, 54, 57, 55, 48, 55, 49, 55, 50, 55, 51, 55, 52, 55, 53, 55, 54, 55, 55, 55, 56, 55, 57, 56, 48, 56, 49, 56, 50, 56, 51, 56, 52, 56, 53, 56, 54, 56, 55, 56, 56, 56, 57, 57, 48, 57, 49, 57, 50, 57, 51, 57, 52, 57, 53, 57, 54, 57, 55, 57, 56, 57, 57]) (.ar .add .u32 (.ar .mul .u32 (.ar .quo .u32 (.ar .quo .u32 (.conv .u32 (.ar .rem .u64 (.atom 2) (.int .u64 100000000))) (.int .u32 10000)) (.int .u32 100)) (.int .u32 2)) (.int .u32 1)))]
   (.chk [] (.inSl (.atom 0) (.ar .sub .i64 (.atom 3) (.int .i64 8)))
   (.store (.elt (.atom 0) (.ar .sub .i64 (.atom 3) (.int .i64 8)) 1) [(.sidx (.str [48, 48, 48, 49, 48, 50, 48, 51, 48, 52, 48, 53, 48, 54, 48, 55, 48, 56, 48, 57, 49, 48, 49, 49, 49, 50, 49, 51, 49, 52, 49, 53, 49, 54, 49, 55, 49, 56, 49, 57, 50, 48, 50, 49, 50, 50, 50, 51, 50, 52, 50, 53, 50, 54, 50, 55, 50, 56, 50, 57, 51, 48, 51, 49, 51, 50, 51, 51, 51, 52, 51, 53, 51, 54, 51, 55, 51, 56, 51, 57, 52, 48, 52, 49, 52, 50, 52, 51, 52, 52, 52, 53, 52, 54, 52, 55, 52, 56, 52, 57, 53, 48, 53, 49, 53, 50, 53, 51, 53, 52, 53, 53, 53, 54, 53, 55, 53, 56, 53, 57, 54, 48, 54, 49, 54, 50, 54, 51, 54, 52, 54, 53, 54, 54, 54, 55, 54, 56, 54, 57, 55, 48, 55, 49, 55, 50, 55, 51, 55, 52, 55, 53, 55, 54, 55, 55, 55, 56, 55, 57, 56, 48, 56, 49, 56, 50, 56, 51, 56, 52, 56, 53, 56, 54, 56, 55, 56, 56, 56, 57, 57, 48, 57, 49, 57, 50, 57, 51, 57, 52, 57, 53, 57, 54, 57, 55, 57, 56, 57, 57]) (.ar .mul .u32 (.ar .quo .u32 (.ar .quo .u32 (.conv .u32 (.ar .rem .u64 (.atom 2) (.int .u64 100000000))) (.int .u32 10000)) (.int .u32 100)) (.int .u32 2)))]
   (.next 2 [(.ar .quo .u64 (.atom 2) (.int .u64 100000000)), (.ar .sub .i64 (.atom 3) (.int .i64 8))])))))))))))))))))))))))))
   (.join 6 [.int .i64, .int .u32]
    (.join 7 [.int .i64, .int .u32]
     (.ite (.cmp .gtr (.atom 6) (.int .i64 0))
      (.chk [] (.inSl (.atom 0) (.int .i64 0))
      (.store (.elt (.atom 0) (.int .i64 0) 1) [(.conv .u8 (.ar .add .u32 (.int .u32 48) (.atom 7)))]
      (.leaf (.tu []))))
      (.leaf (.tu [])))
     (.ite (.cmp .geq (.atom 4) (.int .i64 2))
      (.chk [] (.inStr (.str [48, 48, 48, 49, 48, 50, 48, 51, 48, 52, 48, 53, 48, 54, 48, 55, 48, 56, 48, 57, 49, 48, 49, 49, 49, 50, 49, 51, 49, 52, 49, 53, 49, 54, 49, 55, 49, 56, 49, 57, 50, 48, 50, 49, 50, 50, 50, 51, 50, 52, 50, 53, 50, 54, 50, 55, 50, 56, 50, 57, 51, 48, 51, 49, 51, 50, 51, 51, 51, 52, 51, 53, 51, 54, 51, 55, 51, 56, 51, 57, 52, 48, 52, 49, 52, 50, 52, 51, 52, 52, 52, 53, 52, 54, 52, 55, 52, 56, 52, 57, 53, 48, 53, 49, 53, 50, 53, 51, 53, 52, 53, 53, 53, 54, 53, 55, 53, 56, 53, 57, 54, 48, 54, 49, 54, 50, 54, 51, 54, 52, 54, 53, 54, 54, 54, 55, 54, 56, 54, 57, 55, 48, 55, 49, 55, 50, 55, 51, 55, 52, 55, 53, 55, 54, 55, 55, 55, 56, 55, 57, 56, 48, 56, 49, 56, 50, 56, 51, 56, 52, 56, 53, 56, 54, 56, 55, 56, 56, 56, 57, 57, 48, 57, 49, 57, 50, 57, 51, 57, 52, 57, 53, 57, 54, 57, 55, 57, 56, 57, 57]) (.ar .add .u32 (.ar .mul .u32 (.ar .rem .u32 (.atom 5) (.int .u32 100)) (.int .u32 2)) (.int .u32 1)))
      (.chk [] (.inStr (.str [48, 48, 48, 49, 48, 50, 48, 51, 48, 52, 48, 53, 48, 54, 48, 55, 48, 56, 48, 57, 49, 48, 49, 49, 49, 50, 49, 51, 49, 52, 49, 53, 49, 54, 49, 55, 49, 56, 49, 57, 50, 48, 50, 49, 50, 50, 50, 51, 50, 52, 50, 53, 50, 54, 50, 55, 50, 56, 50, 57, 51, 48, 51, 49, 51, 50, 51, 51, 51, 52, 51, 53, 51, 54, 51, 55, 51, 56, 51, 57, 52, 48, 52, 49, 52, 50, 52, 51, 52, 52, 52, 53, 52, 54, 52, 55, 52, 56, 52, 57, 53, 48, 53, 49, 53, 50, 53, 51, 53, 52, 53, 53, 53, 54, 53, 55, 53, 56, 53, 57, 54, 48, 54, 49, 54, 50, 54, 51, 54, 52, 54, 53, 54, 54, 54, 55, 54, 56, 54, 57, 55, 48, 55, 49, 55, 50, 55, 51, 55, 52, 55, 53, 55, 54, 55, 55, 55, 56, 55, 57, 56, 48, 56, 49, 56, 50, 56, 51, 56, 52, 56, 53, 56, 54, 56, 55, 56, 56, 56, 57, 57, 48, 57, 49, 57, 50, 57, 51, 57, 52, 57, 53, 57, 54, 57, 55, 57, 56, 57, 57]) (.ar .mul .u32 (.ar .rem .u32 (.atom 5) (.int .u32 100)) (.int .u32 2)))
      (.chk [] (.inSl (.atom 0) (.ar .sub .i64 (.atom 4) (.int .i64 1)))
      (.store (.elt (.atom 0) (.ar .sub .i64 (.atom 4) (.int .i64 1)) 1) [(.sidx (.str [48, 48, 48, 49, 48, 50, 48, 51, 48, 52, 48, 53, 48, 54, 48, 55, 48, 56, 48, 57, 49, 48, 49, 49, 49, 50, 49, 51, 49, 52, 49, 53, 49, 54, 49, 55, 49, 56, 49, 57, 50, 48, 50, 49, 50, 50, 50, 51, 50, 52, 50, 53, 50, 54, 50, 55, 50, 56, 50, 57, 51, 48, 51, 49, 51, 50, 51, 51, 51, 52, 51, 53, 51, 54, 51, 55, 51, 56, 51, 57, 52, 48, 52, 49, 52, 50, 52, 51, 52, 52, 52, 53, 52, 54, 52, 55, 52, 56, 52, 57, 53, 48, 53, 49, 53, 50, 53, 51, 53, 52, 53, 53, 53, 54, 53, 55, 53, 56, 53, 57, 54, 48, 54, 49, 54, 50, 54, 51, 54, 52, 54, 53, 54, 54, 54, 55, 54, 56, 54, 57, 55, 48, 55, 49, 55, 50, 55, 51, 55, 52, 55, 53, 55, 54, 55, 55, 55, 56, 55, 57, 56, 48, 56, 49, 56, 50, 56, 51, 56, 52, 56, 53, 56, 54, 56, 55, 56, 56, 56, 57, 57, 48, 57, 49, 57, 50, 57, 51, 57, 52, 57, 53, 57, 54, 57, 55, 57, 56, 57, 57]) (.ar .add .u32 (.ar .mul .u32 (.ar .rem .u32 (.atom 5) (.int .u32 100)) (.int .u32 2)) (.int .u32 1)))]
      (.chk [] (.inSl (.atom 0) (.ar .sub .i64 (.atom 4) (.int .i64 2)))
      (.store (.elt (.atom 0) (.ar .sub .i64 (.atom 4) (.int .i64 2)) 1) [(.sidx (.str [48, 48, 48, 49, 48, 50, 48, 51, 48, 52, 48, 53, 48, 54, 48, 55, 48, 56, 48, 57, 49, 48, 49, 49, 49, 50, 49, 51, 49, 52, 49, 53, 49, 54, 49, 55, 49, 56, 49, 57, 50, 48, 50, 49, 50, 50, 50, 51, 50, 52, 50, 53, 50, 54, 50, 55, 50, 56, 50, 57, 51, 48, 51, 49, 51, 50, 51, 51, 51, 52, 51, 53, 51, 54, 51, 55, 51, 56, 51, 57, 52, 48, 52, 49, 52, 50, 52, 51, 52, 52, 52, 53, 52, 54, 52, 55, 52, 56, 52, 57, 53, 48, 53, 49, 53, 50, 53, 51, 53, 52, 53, 53, 53, 54, 53, 55, 53, 56, 53, 57, 54, 48, 54, 49, 54, 50, 54, 51, 54, 52, 54, 53, 54, 54, 54, 55, 54, 56, 54, 57, 55, 48, 55, 49, 55, 50, 55, 51, 55, 52, 55, 53, 55, 54, 55, 55, 55, 56, 55, 57, 56, 48, 56, 49, 56, 50, 56, 51, 56, 52, 56, 53, 56, 54, 56, 55, 56, 56, 56, 57, 57, 48, 57, 49, 57, 50, 57, 51, 57, 52, 57, 53, 57, 54, 57, 55, 57, 56, 57, 57]) (.ar .mul .u32 (.ar .rem .u32 (.atom 5) (.int .u32 100)) (.int .u32 2)))]
      (.next 7 [(.ar .sub .i64 (.atom 4) (.int .i64 2)), (.ar .quo .u32 (.atom 5) (.int .u32 100))])))))))
      (.next 7 [(.atom 4), (.atom 5)])))
    (.ite (.cmp .geq (.atom 3) (.int .i64 4))
     (.chk [] (.inStr (.str [48, 48, 48, 49, 48, 50, 48, 51, 48, 52, 48, 53, 48, 54, 48, 55, 48, 56, 48, 57, 49, 48, 49, 49, 49, 50, 49, 51, 49, 52, 49, 53, 49, 54, 49, 55, 49, 56, 49, 57, 50, 48, 50, 49, 50, 50, 50, 51, 50, 52, 50, 53, 50, 54, 50, 55, 50, 56, 50, 57, 51, 48, 51, 49, 51, 50, 51, 51, 51, 52, 51, 53, 51, 54, 51, 55, 51, 56, 51, 57, 52, 48, 52, 49, 52, 50, 52, 51, 52, 52, 52, 53, 52, 54, 52, 55, 52, 56, 52, 57, 53, 48, 53, 49, 53, 50, 53, 51, 53, 52, 53, 53, 53, 54, 53, 55, 53, 56, 53, 57, 54, 48, 54, 49, 54, 50, 54, 51, 54, 52, 54, 53, 54, 54, 54, 55, 54, 56, 54, 57, 55, 48, 55, 49, 55, 50, 55, 51, 55, 52, 55, 53, 55, 54, 55, 55, 55, 56, 55, 57, 56, 48, 56, 49, 56, 50, 56, 51, 56, 52, 56, 53, 56, 54, 56, 55, 56, 56, 56, 57, 57, 48, 57, 49, 57, 50, 57, 51, 57, 52, 57, 53, 57, 54, 57, 55, 57, 56, 57, 57]) (.ar .add .u32 (.ar .mul .u32 (.ar .rem .u32 (.ar .rem .u32 (.conv .u32 (.atom 2)) (.int .u32 10000)) (.int .u32 100)) (.int .u32 2)) (.int .u32 1)))
     (.chk [] (.inStr (.str [48, 48, 48, 49, 48, 50, 48, 51, 48, 52, 48, 53, 48, 54, 48, 55, 48, 56, 48, 57, 49, 48, 49, 49, 49, 50, 49, 51, 49, 52, 49, 53, 49, 54, 49, 55, 49, 56, 49, 57, 50, 48, 50, 49, 50, 50, 50, 51, 50, 52, 50, 53, 50, 54, 50, 55, 50, 56, 50, 57, 51, 48, 51, 49, 51, 50, 51, 51, 51, 52, 51, 53, 51, 54, 51, 55, 51, 56, 51, 57, 52, 48, 52, 49, 52, 50, 52, 51, 52, 52, 52, 53, 52, 54, 52, 55, 52, 56, 52, 57, 53, 48, 53, 49, 53, 50, 53, 51, 53, 52, 53, 53, 53, 54, 53, 55, 53, 56, 53, 57, 54, 48, 54, 49, 54, 50, 54, 51, 54, 52, 54, 53, 54, 54, 54, 55, 54, 56, 54, 57, 55, 48, 55, 49, 55, 50, 55, 51, 55, 52, 55, 53, 55, 54, 55, 55, 55, 56, 55, 57, 56, 48, 56, 49, 56, 50, 56, 51, 56, 52, 56, 53, 56, 54, 56, 55, 56, 56, 56, 57, 57, 48, 57, 49, 57, 50, 57, 51, 57, 52, 57, 53, 57, 54, 57, 55, 57, 56, 57, 57]) (.ar .mul .u32 (.ar .rem .u32 (.ar .rem .u32 (.conv .u32 (.atom 2)) (.int .u32 10000)) (.int .u32 100)) (.int .u32 2)))
     (.chk [] (.inSl (.atom 0) (.ar .sub .i64 (.atom 3) (.int .i64 1)))
     (.store (.elt (.atom 0) (.ar .sub .i64 (.atom 3) (.int .i64 1)) 1) [(.sidx (.str [48, 48, 48, 49, 48, 50, 48, 51, 48, 52, 48, 53, 48, 54, 48, 55, 48, 56, 48, 57, 49, 48, 49, 49, 49, 50, 49, 51, 49, 52, 49, 53, 49, 54, 49, 55, 49, 56, 49, 57, 50, 48, 50, 49, 50, 50, 50, 51, 50, 52, 50, 53, 50, 54, 50, 55, 50, 56, 50, 57, 51, 48, 51, 49, 51, 50, 51, 51, 51, 52, 51, 53, 51, 54, 51, 55, 51, 56, 51, 57, 52, 48, 52, 49, 52, 50, 52, 51, 52, 52, 52, 53, 52, 54, 52, 55, 52, 56, 52, 57, 53, 48, 53, 49, 53, 50, 53, 51, 53, 52, 53, 53, 53, 54, 53, 55, 53, 56, 53, 57, 54, 48, 54, 49, 54, 50, 54, 51, 54, 52, 54, 53, 54, 54, 54, 55, 54, 56, 54, 57, 55, 48, 55, 49, 55, 50, 55, 51, 55, 52, 55, 53, 55, 54, 55, 55, 55, 56, 55, 57, 56, 48, 56, 49, 56, 50, 56, 51, 56, 52, 56, 53, 56, 54, 56, 55, 56, 56, 56, 57, 57, 48, 57, 49, 57, 50, 57, 51, 57, 52, 57, 53, 57, 54, 57, 55, 57, 56, 57, 57]) (.ar .add .u32 (.ar .mul .u32 (.ar .rem .u32 (.ar .rem .u32 (.conv .u32 (.atom 2)) (.int .u32 10000)) (.int .u32 100)) (.int .u32 2)) (.int .u32 1)))]
     (.chk [] (.inSl (.atom 0) (.ar .sub .i64 (.atom 3) (.int .i64 2)))
     (.store (.elt (.atom 0) (.ar .sub .i64 (.atom 3) (.int .i64 2)) 1) [(.sidx (.str [48, 48, 48, 49, 48, 50, 48, 51, 48, 52, 48, 53, 48, 54, 48, 55, 48, 56, 48, 57, 49, 48, 49, 49, 49, 50, 49, 51, 49, 52, 49, 53, 49, 54, 49, 55, 49, 56, 49, 57, 50, 48, 50, 49, 50, 50, 50, 51, 50, 52, 50, 53, 50, 54, 50, 55, 50, 56, 50, 57, 51, 48, 51, 49, 51, 50, 51, 51, 51, 52, 51, 53, 51, 54, 51, 55, 51, 56, 51, 57, 52, 48, 52, 49, 52, 50, 52, 51, 52, 52, 52, 53, 52, 54, 52, 55, 52, 56, 52, 57, 53, 48, 53, 49, 53, 50, 53, 51, 53, 52, 53, 53, 53, 54, 53, 55, 53, 56, 53, 57, 54, 48, 54, 49, 54, 50, 54, 51, 54, 52, 54, 53, 54, 54, 54, 55, 54, 56, 54, 57, 55, 48, 55, 49, 55, 50, 55, 51, 55, 52, 55, 53, 55, 54, 55, 55, 55, 56, 55, 57, 56, 48, 56, 49, 56, 50, 56, 51, 56, 52, 56, 53, 56, 54, 56, 55, 56, 56, 56, 57, 57, 48, 57, 49, 57, 50, 57, 51, 57, 52, 57, 53, 57, 54, 57, 55, 57, 56, 57, 57]) (.ar .mul .u32 (.ar .rem .u32 (.ar .rem .u32 (.conv .u32 (.atom 2)) (.int .u32 10000)) (.int .u32 100)) (.int .u32 2)))]
     (.chk [] (.inStr (.str [48, 48, 48, 49, 48, 50, 48, 51, 48, 52, 48, 53, 48, 54, 48, 55, 48, 56, 48, 57, 49, 48, 49, 49, 49, 50, 49, 51, 49, 52, 49, 53, 49, 54, 49, 55, 49, 56, 49, 57, 50, 48, 50, 49, 50, 50, 50, 51, 50, 52, 50, 53, 50, 54, 50, 55, 50, 56, 50, 57, 51, 48, 51, 49, 51, 50, 51, 51, 51, 52, 51, 53, 51, 54, 51, 55, 51, 56, 51, 57, 52, 48, 52, 49, 52, 50, 52, 51, 52, 52, 52, 53, 52, 54, 52, 55, 52, 56, 52, 57, 53, 48, 53, 49, 53, 50, 53, 51, 53, 52, 53, 53, 53, 54, 53, 55, 53, 56, 53, 57, 54, 48, 54, 49, 54, 50, 54, 51, 54, 52, 54, 53, 54, 54, 54, 55, 54, 56, 54, 57, 55, 48, 55, 49, 55, 50, 55, 51, 55, 52, 55, 53, 55, 54, 55, 55, 55, 56, 55, 57, 56, 48, 56, 49, 56, 50, 56, 51, 56, 52, 56, 53, 56, 54, 56, 55, 56, 56, 56, 57, 57, 48, 57, 49, 57, 50, 57, 51, 57, 52, 57, 53, 57, 54, 57, 55, 57, 56, 57, 57]) (.ar .add .u32 (.ar .mul .u32 (.ar .quo .u32 (.ar .rem .u32 (.conv .u32 (.atom 2)) (.int .u32 10000)) (.int .u32 100)) (.int .u32 2)) (.int .u32 1)))
     (.chk [] (.inStr (.str [48, 48, 48, 49, 48, 50, 48, 51, 48, 52, 48, 53, 48, 54, 48, 55, 48, 56, 48, 57, 49, 48, 49, 49, 49, 50, 49, 51, 49, 52, 49, 53, 49, 54, 49, 55, 49, 56, 49, 57, 50, 48, 50, 49, 50, 50, 50, 51, 50, 52, 50, 53, 50, 54, 50, 55, 50, 56, 50, 57, 51, 48, 51, 49, 51, 50, 51, 51, 51, 52, 51, 53, 51, 54, 51, 55, 51, 56, 51, 57, 52, 48, 52, 49, 52, 50, 52, 51, 52, 52, 52, 53, 52, 54, 52, 55, 52, 56, 52, 57, 53, 48, 53, 49, 53, 50, 53, 51, 53, 52, 53, 53, 53, 54, 53, 55, 53, 56, 53, 57, 54, 48, 54, 49, 54, 50, 54, 51, 54, 52, 54, 53, 54, 54, 54, 55, 54, 56, 54, 57, 55, 48, 55, 49, 55, 50, 55, 51, 55, 52, 55, 53, 55, 54, 55, 55, 55, 56, 55, 57, 56, 48, 56, 49, 56, 50, 56, 51, 56, 52, 56, 53, 56, 54, 56, 55, 56, 56, 56, 57, 57, 48, 57, 49, 57, 50, 57, 51, 57, 52, 57, 53, 57, 54, 57, 55, 57, 56, 57, 57]) (.ar .mul .u32 (.ar .quo .u32 (.ar .rem .u32 (.conv .u32 (.atom 2)) (.int .u32 10000)) (.int .u32 100)) (.int .u32 2)))
     (.chk [] (.inSl (.atom 0) (.ar .sub .i64 (.atom 3) (.int .i64 3)))
     (.store (.elt (.atom 0) (.ar .sub .i64 (.atom 3) (.int .i64 3)) 1) [(.sidx (.str [48, 48, 48, 49, 48, 50, 48, 51, 48, 52, 48, 53, 48, 54, 48, 55, 48, 56, 48, 57, 49, 48, 49, 49, 49, 50, 49, 51, 49, 52, 49, 53, 49, 54, 49, 55, 49, 56, 49, 57, 50, 48, 50, 49, 50, 50, 50, 51, 50, 52, 50, 53, 50, 54, 50, 55, 50, 56, 50, 57, 51, 48, 51, 49, 51, 50, 51, 51, 51, 52, 51, 53, 51, 54, 51, 55, 51, 56, 51, 57, 52, 48, 52, 49, 52, 50, 52, 51, 52, 52, 52, 53, 52, 54, 52, 55, 52, 56, 52, 57, 53, 48, 53, 49, 53, 50, 53, 51, 53, 52, 53, 53, 53, 54, 53, 55, 53, 56, 53, 57, 54, 48, 54, 49, 54, 50, 54, 51, 54, 52, 54, 53, 54, 54, 54, 55, 54, 56, 54, 57, 55, 48, 55, 49, 55, 50, 55, 51, 55, 52, 55, 53, 55, 54, 55, 55, 55, 56, 55, 57, 56, 48, 56, 49, 56, 50, 56, 51, 56, 52, 56, 53, 56, 54, 56, 55, 56, 56, 56, 57, 57, 48, 57, 49, 57, 50, 57, 51, 57, 52, 57, 53, 57, 54, 57, 55, 57, 56, 57, 57]) (.ar .add .u32 (.ar .mul .u32 (.ar .quo .u32 (.ar .rem .u32 (.conv .u32 (.atom 2)) (.int .u32 10000)) (.int .u32 100)) (.int .u32 2)) (.int .u32 1)))]
     (.chk [] (.inSl (.atom 0) (.ar .sub .i64 (.atom 3) (.int .i64 4)))
     (.store (.elt (.atom 0) (.ar .sub .i64 (.atom 3) (.int .i64 4)) 1) [(.sidx (.str [48, 48, 48, 49, 48, 50, 48, 51, 48, 52, 48, 53, 48, 54, 48, 55, 48, 56, 48, 57, 49, 48, 49, 49, 49, 50, 49, 51, 49, 52, 49, 53, 49, 54, 49, 55, 49, 56, 49, 57, 50, 48, 50, 49, 50, 50, 50, 51, 50, 52, 50, 53, 50, 54, 50, 55, 50, 56, 50, 57, 51, 48, 51, 49, 51, 50, 51, 51, 51, 52, 51, 53, 51, 54, 51, 55, 51, 56, 51, 57, 52, 48, 52, 49, 52, 50, 52, 51, 52, 52, 52, 53, 52, 54, 52, 55, 52, 56, 52, 57, 53, 48, 53, 49, 53, 50, 53, 51, 53, 52, 53, 53, 53, 54, 53, 55, 53, 56, 53, 57, 54, 48, 54, 49, 54, 50, 54, 51, 54, 52, 54, 53, 54, 54, 54, 55, 54, 56, 54, 57, 55, 48, 55, 49, 55, 50, 55, 51, 55, 52, 55, 53, 55, 54, 55, 55, 55, 56, 55, 57, 56, 48, 56, 49, 56, 50, 56, 51, 56, 52, 56, 53, 56, 54, 56, 55, 56, 56, 56, 57, 57, 48, 57, 49, 57, 50, 57, 51, 57, 52, 57, 53, 57, 54, 57, 55, 57, 56, 57, 57]) (.ar .mul .u32 (.ar .quo .u32 (.ar .rem .u32 (.conv .u32 (.atom 2)) (.int .u32 10000)) (.int .u32 100)) (.int .u32 2)))]
     (.next 6 [(.ar .sub .i64 (.atom 3) (.int .i64 4)), (.ar .quo .u32 (.conv .u32 (.atom 2)) (.int .u32 10000))])))))))))))))
     (.next 6 [(.atom 3), (.conv .u32 (.atom 2))])))))
theorem fm_internal_strconv_formatBase10_eq : execF Tryd.prog { pub := [], nojoin := false } Tryd.f58 = fm_internal_strconv_formatBase10 := by kernel_rfl
theorem cb_internal_strconv_formatBase10 : callB Tryd.prog 58 = true := by kernel_rfl
theorem tri_internal_strconv_formatBase10 (E : List Value) {args : Array Value} {H : PH} {R : Ending → PH → Prop} (hE : tagsOk ((paramRS Tryd.prog Tryd.f58).flatMap RS.tags) E = true) (hargs : args.toList = packAll (paramRS Tryd.prog Tryd.f58) E)
    (hden : den Tryd.prog (fun c H' => R (.panicked c) H') fm_internal_strconv_formatBase10 E H [] (fun ve E' H' _ => R (.returned (evV E' (fun _ => 0) ve)) H')) : Tri Tryd.prog 58 args H R :=
  execF_tri (op := { pub := [], nojoin := false }) Tryd.func58 hE hargs (by rw [fm_internal_strconv_formatBase10_eq]; exact hden)

/-- internal/strconv.log10Pow2 -/
abbrev n_internal_strconv_log10Pow2 : FuncId := 60
def fm_internal_strconv_log10Pow2 : Fm VE :=
 (.leaf (.sc (.ar .shr .i64 (.ar .mul .i64 (.atom 0) (.int .i64 78913)) (.int .u64 18))))
theorem fm_internal_strconv_log10Pow2_eq : execF Tryd.prog { pub := [], nojoin := false } Tryd.f60 = fm_internal_strconv_log10Pow2 := by kernel_rfl
theorem cb_internal_strconv_log10Pow2 : callB Tryd.prog 60 = true := by kernel_rfl
theorem tri_internal_strconv_log10Pow2 (E : List Value) {args : Array Value} {H : PH} {R : Ending → PH → Prop} (hE : tagsOk ((paramRS Tryd.prog Tryd.f60).flatMap RS.tags) E = true) (hargs : args.toList = packAll (paramRS Tryd.prog Tryd.f60) E)
    (hden : den Tryd.prog (fun c H' => R (.panicked c) H') fm_internal_strconv_log10Pow2 E H [] (fun ve E' H' _ => R (.returned (evV E' (fun _ => 0) ve)) H')) : Tri Tryd.prog 60 args H R :=
  execF_tri (op := { pub := [], nojoin := false }) Tryd.func60 hE hargs (by rw [fm_internal_strconv_log10Pow2_eq]; exact hden)

end Go.Proofs.YtpccpepdkjdbnaaDoor.Vc
