/-
  THE FORMULAS of the program's functions, as the executor gives them; each is checked by the kernel. Printed by a program of our own.
-/
import Derived.Test.YtlnmmakbgldflaaDoorWc
import Derived.Test.YtlnmmakbgldflaaDoorRows
import Derived.KernelRfl
namespace Go.Proofs.YtlnmmakbgldflaaDoor.Vc
open Go
set_option maxRecDepth 100000

/-- scrimshaw/scrimshawlaw03.SignReads -/
abbrev n_scrimshawlaw03_SignReads : FuncId := 3
def fm_scrimshawlaw03_SignReads : Fm VE :=
 (.call (.fn 9) [(.sc (.atom 0))] (.tu [(false, [.sl]), (false, [.int .i64]), (false, [.int .i64])]) []
 (.call (.fn 10) [(.sc (.atom 0))] (.tu [(false, [.sl]), (false, [.int .i64]), (false, [.int .i64])]) []
 (.join 3 [.bool]
  (.leaf (.sc (.atom 7)))
  (.call (.fn 11) [] (.sc (.bool)) []
  (.ite (.atom 7)
   (.call (.fn 12) [(.sc (.atom 1)), (.sc (.atom 4))] (.sc (.bool)) []
   (.next 3 [(.pick (.pick (.atom 8) (.cmp .eql (.atom 2) (.atom 5)) (.bool false)) (.cmp .eql (.atom 3) (.atom 6)) (.bool false))]))
   (.next 3 [(.bool false)]))))))
theorem fm_scrimshawlaw03_SignReads_eq : execF Tryd.prog { pub := [], nojoin := false } Tryd.f3 = fm_scrimshawlaw03_SignReads := by kernel_rfl
theorem cb_scrimshawlaw03_SignReads : callB Tryd.prog 3 = true := by kernel_rfl
theorem tri_scrimshawlaw03_SignReads (E : List Value) {args : Array Value} {H : PH} {R : Ending → PH → Prop} (hE : tagsOk ((paramRS Tryd.prog Tryd.f3).flatMap RS.tags) E = true) (hargs : args.toList = packAll (paramRS Tryd.prog Tryd.f3) E)
    (hden : den Tryd.prog (fun c H' => R (.panicked c) H') fm_scrimshawlaw03_SignReads E H [] (fun ve E' H' _ => R (.returned (evV E' (fun _ => 0) ve)) H')) : Tri Tryd.prog 3 args H R :=
  execF_tri (op := { pub := [], nojoin := false }) Tryd.func3 hE hargs (by rw [fm_scrimshawlaw03_SignReads_eq]; exact hden)

/-- scrimshaw/scrimshawlaw03.SignApart -/
abbrev n_scrimshawlaw03_SignApart : FuncId := 4
def fm_scrimshawlaw03_SignApart : Fm VE :=
 (.call (.fn 9) [(.sc (.atom 0))] (.tu [(false, [.sl]), (false, [.int .i64]), (false, [.int .i64])]) []
 (.call (.fn 11) [] (.sc (.bool)) []
 (.ite (.pick (.not (.atom 4)) (.bool true) (.cmp .neq (.atom 3) (.int .i64 0)))
  (.call (.fn 11) [] (.sc (.bool)) []
  (.leaf (.sc (.pick (.atom 5) (.cmp .eql (.len (.atom 1)) (.int .i64 0)) (.bool false)))))
  (.loop 7 [.bool, .int .i64, .int .i64] [(.bool false), (.int .i64 0), (.int .i64 0)]
   (.ite (.cmp .lss (.atom 7) (.len (.atom 1)))
    (.join 10 [.int .i64]
     (.next 7 [(.atom 5), (.atom 8), (.ar .add .i64 (.atom 7) (.int .i64 1))])
     (.chk [] (.inSl (.atom 1) (.atom 7))
     (.load (.elt (.atom 1) (.atom 7) 5) [.int .i64, .str, .int .i64, .int .i64, .int .i64]
     (.ite (.pick (.pick (.cmp .lss (.atom 11) (.atom 6)) (.bool true) (.cmp .leq (.atom 12) (.atom 11))) (.bool true) (.cmp .gtr (.atom 12) (.slen (.atom 0))))
      (.leaf (.sc (.bool false)))
      (.ite (.cmp .gtr (.atom 7) (.int .i64 40))
       (.next 10 [(.atom 12)])
       (.chk [] (.sub (.slen (.atom 0)) (.atom 11) (.atom 12))
       (.call (.fn 9) [(.sc (.ssub (.atom 0) (.atom 11) (.atom 12)))] (.tu [(false, [.sl]), (false, [.int .i64]), (false, [.int .i64])]) []
       (.join 18 [.bool]
        (.ite (.atom 16)
         (.leaf (.sc (.bool false)))
         (.next 10 [(.atom 12)]))
        (.chk [((.cmp .neq (.atom 15) (.int .i64 0)), false)] (.sub (.cap (.atom 1)) (.atom 7) (.ar .add .i64 (.atom 7) (.int .i64 1)))
        (.ite (.cmp .neq (.atom 15) (.int .i64 0))
         (.next 18 [(.bool true)])
         (.call (.fn 13) [(.sc (.atom 13)), (.sc (.sls (.atom 1) (.atom 7) (.ar .add .i64 (.atom 7) (.int .i64 1)) 5))] (.sc (.bool)) []
         (.next 18 [(.not (.atom 16))]))))))))))))
    (.leaf (.sc (.bool true))))))))
theorem fm_scrimshawlaw03_SignApart_eq : execF Tryd.prog { pub := [], nojoin := false } Tryd.f4 = fm_scrimshawlaw03_SignApart := by kernel_rfl
theorem cb_scrimshawlaw03_SignApart : callB Tryd.prog 4 = true := by kernel_rfl
theorem tri_scrimshawlaw03_SignApart (E : List Value) {args : Array Value} {H : PH} {R : Ending → PH → Prop} (hE : tagsOk ((paramRS Tryd.prog Tryd.f4).flatMap RS.tags) E = true) (hargs : args.toList = packAll (paramRS Tryd.prog Tryd.f4) E)
    (hden : den Tryd.prog (fun c H' => R (.panicked c) H') fm_scrimshawlaw03_SignApart E H [] (fun ve E' H' _ => R (.returned (evV E' (fun _ => 0) ve)) H')) : Tri Tryd.prog 4 args H R :=
  execF_tri (op := { pub := [], nojoin := false }) Tryd.func4 hE hargs (by rw [fm_scrimshawlaw03_SignApart_eq]; exact hden)

/-- scrimshaw/scrimshawlaw03.SignGaps -/
abbrev n_scrimshawlaw03_SignGaps : FuncId := 5
def fm_scrimshawlaw03_SignGaps : Fm VE :=
 (.call (.fn 9) [(.sc (.atom 0))] (.tu [(false, [.sl]), (false, [.int .i64]), (false, [.int .i64])]) []
 (.call (.fn 11) [] (.sc (.bool)) []
 (.ite (.pick (.not (.atom 6)) (.bool true) (.cmp .neq (.atom 5) (.int .i64 0)))
  (.call (.fn 11) [] (.sc (.bool)) []
  (.leaf (.sc (.atom 7))))
  (.sem (.buildSlice 31 5 #[(0, (.const (.string ⟨#[32]⟩))), (1, (.const (.string ⟨#[10]⟩))), (2, (.const (.string ⟨#[13, 9]⟩))), (3, (.const (.string ⟨#[59, 120, 10]⟩))), (4, (.const (.string ⟨#[59, 34, 40, 10, 32]⟩)))]) 31 [] (.sc (.sl)) []
  (.chk [] (.inSl (.atom 7) (.ar .rem .i64 (.ar .add .i64 (.ar .rem .i64 (.atom 2) (.int .i64 5)) (.int .i64 5)) (.int .i64 5)))
  (.load (.elt (.atom 7) (.ar .rem .i64 (.ar .add .i64 (.ar .rem .i64 (.atom 2) (.int .i64 5)) (.int .i64 5)) (.int .i64 5)) 1) [.str]
  (.join 7 [.int .i64]
   (.chk [] (.sub (.slen (.atom 0)) (.int .i64 0) (.atom 9))
   (.chk [] (.catOk (.ssub (.atom 0) (.int .i64 0) (.atom 9)) (.atom 8))
   (.chk [] (.sub (.slen (.atom 0)) (.atom 9) (.slen (.atom 0)))
   (.chk [] (.catOk (.cat (.ssub (.atom 0) (.int .i64 0) (.atom 9)) (.atom 8)) (.ssub (.atom 0) (.atom 9) (.slen (.atom 0))))
   (.ite (.pick (.cmp .gtr (.slen (.cat (.cat (.ssub (.atom 0) (.int .i64 0) (.atom 9)) (.atom 8)) (.ssub (.atom 0) (.atom 9) (.slen (.atom 0))))) (.int .i64 4096)) (.bool true) (.pick (.cmp .eql (.atom 9) (.slen (.atom 0))) (.cmp .eql (.len (.atom 3)) (.int .i64 0)) (.bool false)))
    (.leaf (.sc (.bool true)))
    (.call (.fn 9) [(.sc (.cat (.cat (.ssub (.atom 0) (.int .i64 0) (.atom 9)) (.atom 8)) (.ssub (.atom 0) (.atom 9) (.slen (.atom 0)))))] (.tu [(false, [.sl]), (false, [.int .i64]), (false, [.int .i64])]) []
    (.join 12 [.bool]
     (.leaf (.sc (.atom 13)))
     (.ite (.cmp .eql (.atom 12) (.int .i64 0))
      (.call (.fn 13) [(.sc (.atom 10)), (.sc (.atom 3))] (.sc (.bool)) []
      (.next 12 [(.atom 13)]))
      (.next 12 [(.bool false)])))))))))
   (.ite (.cmp .gtr (.len (.atom 3)) (.int .i64 0))
    (.chk [] (.nz (.len (.atom 3)))
    (.chk [] (.nz (.len (.atom 3)))
    (.chk [] (.inSl (.atom 3) (.ar .rem .i64 (.ar .add .i64 (.ar .rem .i64 (.atom 1) (.len (.atom 3))) (.len (.atom 3))) (.len (.atom 3))))
    (.load (.padd (.elt (.atom 3) (.ar .rem .i64 (.ar .add .i64 (.ar .rem .i64 (.atom 1) (.len (.atom 3))) (.len (.atom 3))) (.len (.atom 3))) 5) 3) [.int .i64]
    (.ite (.cmp .lss (.atom 2) (.int .i64 0))
     (.chk [] (.inSl (.atom 3) (.ar .sub .i64 (.len (.atom 3)) (.int .i64 1)))
     (.load (.padd (.elt (.atom 3) (.ar .sub .i64 (.len (.atom 3)) (.int .i64 1)) 5) 4) [.int .i64]
     (.next 7 [(.atom 10)])))
     (.next 7 [(.atom 9)]))))))
    (.next 7 [(.slen (.atom 0))])))))))))
theorem fm_scrimshawlaw03_SignGaps_eq : execF Tryd.prog { pub := [], nojoin := false } Tryd.f5 = fm_scrimshawlaw03_SignGaps := by kernel_rfl
theorem cb_scrimshawlaw03_SignGaps : callB Tryd.prog 5 = true := by kernel_rfl
theorem tri_scrimshawlaw03_SignGaps (E : List Value) {args : Array Value} {H : PH} {R : Ending → PH → Prop} (hE : tagsOk ((paramRS Tryd.prog Tryd.f5).flatMap RS.tags) E = true) (hargs : args.toList = packAll (paramRS Tryd.prog Tryd.f5) E)
    (hden : den Tryd.prog (fun c H' => R (.panicked c) H') fm_scrimshawlaw03_SignGaps E H [] (fun ve E' H' _ => R (.returned (evV E' (fun _ => 0) ve)) H')) : Tri Tryd.prog 5 args H R :=
  execF_tri (op := { pub := [], nojoin := false }) Tryd.func5 hE hargs (by rw [fm_scrimshawlaw03_SignGaps_eq]; exact hden)

/-- scrimshaw/scrimshawlaw03.SignJoins -/
abbrev n_scrimshawlaw03_SignJoins : FuncId := 6
def fm_scrimshawlaw03_SignJoins : Fm VE :=
 (.call (.fn 9) [(.sc (.atom 0))] (.tu [(false, [.sl]), (false, [.int .i64]), (false, [.int .i64])]) []
 (.call (.fn 9) [(.sc (.atom 1))] (.tu [(false, [.sl]), (false, [.int .i64]), (false, [.int .i64])]) []
 (.call (.fn 11) [] (.sc (.bool)) []
 (.ite (.pick (.pick (.pick (.pick (.not (.atom 8)) (.bool true) (.cmp .neq (.atom 4) (.int .i64 0))) (.bool true) (.cmp .gtr (.slen (.atom 0)) (.int .i64 2000))) (.bool true) (.cmp .gtr (.slen (.atom 1)) (.int .i64 2000))) (.bool true) (.cmp .gtr (.ar .add .i64 (.len (.atom 2)) (.slen (.atom 1))) (.int .i64 1000)))
  (.call (.fn 11) [] (.sc (.bool)) []
  (.leaf (.sc (.atom 9))))
  (.chk [] (.catOk (.atom 0) (.str [10]))
  (.chk [] (.catOk (.cat (.atom 0) (.str [10])) (.atom 1))
  (.call (.fn 9) [(.sc (.cat (.cat (.atom 0) (.str [10])) (.atom 1)))] (.tu [(false, [.sl]), (false, [.int .i64]), (false, [.int .i64])]) []
  (.ite (.cmp .neq (.atom 7) (.int .i64 0))
   (.leaf (.sc (.pick (.pick (.cmp .eql (.atom 11) (.atom 7)) (.cmp .eql (.atom 10) (.ar .add .i64 (.ar .add .i64 (.atom 6) (.slen (.atom 0))) (.int .i64 1))) (.bool false)) (.cmp .eql (.len (.atom 9)) (.int .i64 0)) (.bool false))))
   (.join 8 [.bool]
    (.leaf (.sc (.atom 12)))
    (.ite (.cmp .eql (.atom 11) (.int .i64 0))
     (.sem (.buildSlice 22 0 #[]) 22 [] (.sc (.sl)) []
     (.sem (.call ⟨.builtin .append, #[(.tmp 83), (.tmp 84)], #[22, 22]⟩) 22 [(83, (.sc (.atom 12))), (84, (.sc (.atom 2)))] (.sc (.sl)) []
     (.sem (.call ⟨.builtin .append, #[(.tmp 85), (.tmp 86)], #[22, 22]⟩) 22 [(85, (.sc (.atom 13))), (86, (.sc (.atom 5)))] (.sc (.sl)) []
     (.call (.fn 13) [(.sc (.atom 9)), (.sc (.atom 14))] (.sc (.bool)) []
     (.next 8 [(.atom 15)])))))
     (.next 8 [(.bool false)])))))))))))
theorem fm_scrimshawlaw03_SignJoins_eq : execF Tryd.prog { pub := [], nojoin := false } Tryd.f6 = fm_scrimshawlaw03_SignJoins := by kernel_rfl
theorem cb_scrimshawlaw03_SignJoins : callB Tryd.prog 6 = true := by kernel_rfl
theorem tri_scrimshawlaw03_SignJoins (E : List Value) {args : Array Value} {H : PH} {R : Ending → PH → Prop} (hE : tagsOk ((paramRS Tryd.prog Tryd.f6).flatMap RS.tags) E = true) (hargs : args.toList = packAll (paramRS Tryd.prog Tryd.f6) E)
    (hden : den Tryd.prog (fun c H' => R (.panicked c) H') fm_scrimshawlaw03_SignJoins E H [] (fun ve E' H' _ => R (.returned (evV E' (fun _ => 0) ve)) H')) : Tri Tryd.prog 6 args H R :=
  execF_tri (op := { pub := [], nojoin := false }) Tryd.func6 hE hargs (by rw [fm_scrimshawlaw03_SignJoins_eq]; exact hden)

/-- scrimshaw/scrimshawlaw03.SignStrings -/
abbrev n_scrimshawlaw03_SignStrings : FuncId := 7
def fm_scrimshawlaw03_SignStrings : Fm VE :=
 (.ite (.cmp .gtr (.slen (.atom 0)) (.int .i64 1000))
  (.call (.fn 11) [] (.sc (.bool)) []
  (.leaf (.sc (.atom 1))))
  (.call (.fn 14) [(.ag [(.int .i64 3), (.int .i64 0), (.atom 0), (.nil 1)])] (.tu [(false, [.str]), (false, [.int .i64])]) []
  (.call (.fn 9) [(.sc (.atom 1))] (.tu [(false, [.sl]), (false, [.int .i64]), (false, [.int .i64])]) []
  (.join 5 [.bool]
   (.leaf (.sc (.atom 6)))
   (.call (.fn 11) [] (.sc (.bool)) []
   (.chk [((.pick (.pick (.pick (.pick (.atom 6) (.cmp .eql (.atom 2) (.int .i64 0)) (.bool false)) (.cmp .eql (.atom 5) (.int .i64 0)) (.bool false)) (.cmp .eql (.atom 4) (.int .i64 0)) (.bool false)) (.cmp .eql (.len (.atom 3)) (.int .i64 1)) (.bool false)), true)] (.inSl (.atom 3) (.int .i64 0))
   (.ite (.pick (.pick (.pick (.pick (.atom 6) (.cmp .eql (.atom 2) (.int .i64 0)) (.bool false)) (.cmp .eql (.atom 5) (.int .i64 0)) (.bool false)) (.cmp .eql (.atom 4) (.int .i64 0)) (.bool false)) (.cmp .eql (.len (.atom 3)) (.int .i64 1)) (.bool false))
    (.load (.elt (.atom 3) (.int .i64 0) 5) [.int .i64, .str, .int .i64, .int .i64, .int .i64]
    (.sem (.binOp .eql 30 (.tmp 45) (.tmp 49) 30) 4 [(45, (.ag [(.atom 7), (.atom 8), (.atom 9), (.atom 10), (.atom 11)])), (49, (.ag [(.int .i64 8), (.atom 0), (.int .i64 0), (.int .i64 0), (.slen (.atom 1))]))] (.sc (.bool)) []
    (.next 5 [(.atom 12)])))
    (.next 5 [(.bool false)]))))))))
theorem fm_scrimshawlaw03_SignStrings_eq : execF Tryd.prog { pub := [], nojoin := false } Tryd.f7 = fm_scrimshawlaw03_SignStrings := by kernel_rfl
theorem cb_scrimshawlaw03_SignStrings : callB Tryd.prog 7 = true := by kernel_rfl
theorem tri_scrimshawlaw03_SignStrings (E : List Value) {args : Array Value} {H : PH} {R : Ending → PH → Prop} (hE : tagsOk ((paramRS Tryd.prog Tryd.f7).flatMap RS.tags) E = true) (hargs : args.toList = packAll (paramRS Tryd.prog Tryd.f7) E)
    (hden : den Tryd.prog (fun c H' => R (.panicked c) H') fm_scrimshawlaw03_SignStrings E H [] (fun ve E' H' _ => R (.returned (evV E' (fun _ => 0) ve)) H')) : Tri Tryd.prog 7 args H R :=
  execF_tri (op := { pub := [], nojoin := false }) Tryd.func7 hE hargs (by rw [fm_scrimshawlaw03_SignStrings_eq]; exact hden)

/-- scrimshaw/scrimshawlaw03.SignPlain -/
abbrev n_scrimshawlaw03_SignPlain : FuncId := 8
def fm_scrimshawlaw03_SignPlain : Fm VE :=
 (.call (.fn 11) [] (.sc (.bool)) []
 (.ite (.not (.atom 3))
  (.leaf (.sc (.bool false)))
  (.call (.fn 14) [(.ag [(.int .i64 2), (.conv .i64 (.atom 2)), (.str []), (.nil 1)])] (.tu [(false, [.str]), (false, [.int .i64])]) []
  (.call (.fn 9) [(.sc (.atom 4))] (.tu [(false, [.sl]), (false, [.int .i64]), (false, [.int .i64])]) []
  (.join 6 [.bool]
   (.ite (.atom 9)
    (.leaf (.sc (.bool false)))
    (.call (.fn 14) [(.ag [(.int .i64 1), (.atom 0), (.str []), (.nil 1)])] (.tu [(false, [.str]), (false, [.int .i64])]) []
    (.call (.fn 9) [(.sc (.atom 10))] (.tu [(false, [.sl]), (false, [.int .i64]), (false, [.int .i64])]) []
    (.join 10 [.bool]
     (.ite (.atom 15)
      (.leaf (.sc (.bool false)))
      (.call (.fn 9) [(.sc (.atom 1))] (.tu [(false, [.sl]), (false, [.int .i64]), (false, [.int .i64])]) []
      (.join 13 [.bool]
       (.ite (.atom 19)
        (.leaf (.sc (.bool false)))
        (.sem (.buildSlice 39 1 #[(0, (.tmp 110))]) 39 [(110, (.sc (.atom 2)))] (.sc (.sl)) []
        (.sem (.convert 39 9 (.tmp 111)) 9 [(111, (.sc (.atom 20)))] (.sc (.str)) []
        (.chk [] (.catOk (.str [34, 92]) (.atom 21))
        (.chk [] (.catOk (.cat (.str [34, 92]) (.atom 21)) (.str [34]))
        (.call (.fn 9) [(.sc (.cat (.cat (.str [34, 92]) (.atom 21)) (.str [34])))] (.tu [(false, [.sl]), (false, [.int .i64]), (false, [.int .i64])]) []
        (.ite (.cmp .eql (.atom 2) (.int .u8 110))
         (.join 17 [.bool]
          (.leaf (.sc (.atom 25)))
          (.chk [((.pick (.cmp .eql (.atom 24) (.int .i64 0)) (.cmp .eql (.len (.atom 22)) (.int .i64 1)) (.bool false)), true)] (.inSl (.atom 22) (.int .i64 0))
          (.chk [((.pick (.cmp .eql (.atom 24) (.int .i64 0)) (.cmp .eql (.len (.atom 22)) (.int .i64 1)) (.bool false)), true)] (.some (.elt (.atom 22) (.int .i64 0) 5))
          (.ite (.pick (.cmp .eql (.atom 24) (.int .i64 0)) (.cmp .eql (.len (.atom 22)) (.int .i64 1)) (.bool false))
           (.load (.padd (.elt (.atom 22) (.int .i64 0) 5) 1) [.str]
           (.next 17 [(.scmp .eql (.atom 25) (.str [10]))]))
           (.next 17 [(.bool false)])))))
         (.ite (.pick (.cmp .eql (.atom 2) (.int .u8 92)) (.bool true) (.cmp .eql (.atom 2) (.int .u8 34)))
          (.join 19 [.bool]
           (.leaf (.sc (.atom 25)))
           (.chk [((.pick (.cmp .eql (.atom 24) (.int .i64 0)) (.cmp .eql (.len (.atom 22)) (.int .i64 1)) (.bool false)), true)] (.inSl (.atom 22) (.int .i64 0))
           (.chk [((.pick (.cmp .eql (.atom 24) (.int .i64 0)) (.cmp .eql (.len (.atom 22)) (.int .i64 1)) (.bool false)), true)] (.some (.elt (.atom 22) (.int .i64 0) 5))
           (.ite (.pick (.cmp .eql (.atom 24) (.int .i64 0)) (.cmp .eql (.len (.atom 22)) (.int .i64 1)) (.bool false))
            (.load (.padd (.elt (.atom 22) (.int .i64 0) 5) 1) [.str]
            (.sem (.buildSlice 39 1 #[(0, (.tmp 153))]) 39 [(153, (.sc (.atom 2)))] (.sc (.sl)) [((.padd (.elt (.atom 22) (.int .i64 0) 5) 1), [(.atom 25)])]
            (.sem (.convert 39 9 (.tmp 154)) 9 [(154, (.sc (.atom 26)))] (.sc (.str)) [((.padd (.elt (.atom 22) (.int .i64 0) 5) 1), [(.atom 25)])]
            (.next 19 [(.scmp .eql (.atom 25) (.atom 27))]))))
            (.next 19 [(.bool false)])))))
          (.leaf (.sc (.cmp .eql (.atom 24) (.int .i64 32))))))))))))
       (.call (.fn 15) [(.sc (.atom 1))] (.sc (.bool)) []
       (.chk [((.atom 19), true), ((.pick (.cmp .neq (.atom 18) (.int .i64 0)) (.bool true) (.cmp .neq (.len (.atom 16)) (.int .i64 1))), false)] (.inSl (.atom 16) (.int .i64 0))
       (.ite (.atom 19)
        (.ite (.pick (.cmp .neq (.atom 18) (.int .i64 0)) (.bool true) (.cmp .neq (.len (.atom 16)) (.int .i64 1)))
         (.next 13 [(.bool true)])
         (.load (.elt (.atom 16) (.int .i64 0) 5) [.int .i64, .str, .int .i64, .int .i64, .int .i64]
         (.sem (.binOp .neq 30 (.tmp 101) (.tmp 105) 30) 4 [(101, (.ag [(.atom 20), (.atom 21), (.atom 22), (.atom 23), (.atom 24)])), (105, (.ag [(.int .i64 9), (.atom 1), (.int .i64 0), (.int .i64 0), (.slen (.atom 1))]))] (.sc (.bool)) []
         (.next 13 [(.atom 25)]))))
        (.next 13 [(.bool false)])))))))
     (.chk [((.cmp .eql (.atom 11) (.int .i64 0)), true), ((.pick (.cmp .neq (.atom 14) (.int .i64 0)) (.bool true) (.cmp .neq (.len (.atom 12)) (.int .i64 1))), false)] (.inSl (.atom 12) (.int .i64 0))
     (.ite (.cmp .eql (.atom 11) (.int .i64 0))
      (.ite (.pick (.cmp .neq (.atom 14) (.int .i64 0)) (.bool true) (.cmp .neq (.len (.atom 12)) (.int .i64 1)))
       (.next 10 [(.bool true)])
       (.load (.elt (.atom 12) (.int .i64 0) 5) [.int .i64, .str, .int .i64, .int .i64, .int .i64]
       (.sem (.binOp .neq 30 (.tmp 74) (.tmp 78) 30) 4 [(74, (.ag [(.atom 15), (.atom 16), (.atom 17), (.atom 18), (.atom 19)])), (78, (.ag [(.int .i64 6), (.str []), (.atom 0), (.int .i64 0), (.slen (.atom 10))]))] (.sc (.bool)) []
       (.next 10 [(.atom 20)]))))
      (.next 10 [(.bool false)])))))))
   (.chk [((.pick (.pick (.cmp .neq (.atom 5) (.int .i64 0)) (.bool true) (.cmp .neq (.atom 8) (.int .i64 0))) (.bool true) (.cmp .neq (.len (.atom 6)) (.int .i64 1))), false)] (.inSl (.atom 6) (.int .i64 0))
   (.ite (.pick (.pick (.cmp .neq (.atom 5) (.int .i64 0)) (.bool true) (.cmp .neq (.atom 8) (.int .i64 0))) (.bool true) (.cmp .neq (.len (.atom 6)) (.int .i64 1)))
    (.next 6 [(.bool true)])
    (.load (.elt (.atom 6) (.int .i64 0) 5) [.int .i64, .str, .int .i64, .int .i64, .int .i64]
    (.sem (.binOp .neq 30 (.tmp 41) (.tmp 46) 30) 4 [(41, (.ag [(.atom 9), (.atom 10), (.atom 11), (.atom 12), (.atom 13)])), (46, (.ag [(.int .i64 7), (.str []), (.conv .i64 (.atom 2)), (.int .i64 0), (.slen (.atom 4))]))] (.sc (.bool)) []
    (.next 6 [(.atom 14)]))))))))))
theorem fm_scrimshawlaw03_SignPlain_eq : execF Tryd.prog { pub := [], nojoin := false } Tryd.f8 = fm_scrimshawlaw03_SignPlain := by kernel_rfl
theorem cb_scrimshawlaw03_SignPlain : callB Tryd.prog 8 = true := by kernel_rfl
theorem tri_scrimshawlaw03_SignPlain (E : List Value) {args : Array Value} {H : PH} {R : Ending → PH → Prop} (hE : tagsOk ((paramRS Tryd.prog Tryd.f8).flatMap RS.tags) E = true) (hargs : args.toList = packAll (paramRS Tryd.prog Tryd.f8) E)
    (hden : den Tryd.prog (fun c H' => R (.panicked c) H') fm_scrimshawlaw03_SignPlain E H [] (fun ve E' H' _ => R (.returned (evV E' (fun _ => 0) ve)) H')) : Tri Tryd.prog 8 args H R :=
  execF_tri (op := { pub := [], nojoin := false }) Tryd.func8 hE hargs (by rw [fm_scrimshawlaw03_SignPlain_eq]; exact hden)

/-- scrimshaw/lex.Tokens -/
abbrev n_lex_Tokens : FuncId := 9
def fm_lex_Tokens : Fm VE :=
 (.ite (.cmp .gtr (.slen (.atom 0)) (.int .i64 4096))
  (.leaf (.tu [(false, [(.nil 1)]), (false, [(.int .i64 0)]), (false, [(.int .i64 35)])]))
  (.new 43 [(.atom 0), (.int .i64 0)]
  (.call (.fn 16) [(.sc (.atom 1))] (.tu []) []
  (.loop 7 [.sl, .int .i64, .int .i64, .sl] [(.nil 1), (.int .i64 0), (.int .i64 0), (.nil 1)]
   (.chk [] (.some (.atom 1))
   (.load (.padd (.atom 1) 1) [.int .i64]
   (.ite (.cmp .lss (.atom 6) (.slen (.atom 0)))
    (.load (.padd (.atom 1) 1) [.int .i64]
    (.ite (.cmp .eql (.len (.atom 5)) (.int .i64 2048))
     (.leaf (.tu [(false, [(.nil 1)]), (false, [(.atom 7)]), (false, [(.int .i64 34)])]))
     (.call (.fn 17) [(.sc (.atom 1))] (.tu [(true, [.int .i64, .str, .int .i64, .int .i64, .int .i64]), (false, [.int .i64])]) []
     (.ite (.cmp .neq (.atom 13) (.int .i64 0))
      (.leaf (.tu [(false, [(.nil 1)]), (false, [(.atom 7)]), (false, [(.atom 13)])]))
      (.load (.padd (.atom 1) 1) [.int .i64]
      (.sem (.buildSlice 22 1 #[(0, (.tmp 52))]) 22 [(52, (.ag [(.atom 8), (.atom 9), (.atom 10), (.atom 7), (.atom 14)]))] (.sc (.sl)) []
      (.sem (.call ⟨.builtin .append, #[(.tmp 51), (.tmp 53)], #[22, 22]⟩) 22 [(51, (.sc (.atom 5))), (53, (.sc (.atom 15)))] (.sc (.sl)) []
      (.call (.fn 16) [(.sc (.atom 1))] (.tu []) []
      (.next 7 [(.atom 2), (.atom 3), (.atom 4), (.atom 16)])))))))))
    (.leaf (.tu [(false, [(.atom 5)]), (false, [(.int .i64 0)]), (false, [(.int .i64 0)])])))))))))
theorem fm_lex_Tokens_eq : execF Tryd.prog { pub := [15], nojoin := false } Tryd.f9 = fm_lex_Tokens := by kernel_rfl
theorem cb_lex_Tokens : callB Tryd.prog 9 = true := by kernel_rfl
theorem tri_lex_Tokens (E : List Value) {args : Array Value} {H : PH} {R : Ending → PH → Prop} (hE : tagsOk ((paramRS Tryd.prog Tryd.f9).flatMap RS.tags) E = true) (hargs : args.toList = packAll (paramRS Tryd.prog Tryd.f9) E)
    (hden : den Tryd.prog (fun c H' => R (.panicked c) H') fm_lex_Tokens E H [] (fun ve E' H' _ => R (.returned (evV E' (fun _ => 0) ve)) H')) : Tri Tryd.prog 9 args H R :=
  execF_tri (op := { pub := [15], nojoin := false }) Tryd.func9 hE hargs (by rw [fm_lex_Tokens_eq]; exact hden)

/-- scrimshaw/scrimshawref03.Tokens -/
abbrev n_scrimshawref03_Tokens : FuncId := 10
def fm_scrimshawref03_Tokens : Fm VE :=
 (.ite (.cmp .gtr (.slen (.atom 0)) (.int .i64 4096))
  (.leaf (.tu [(false, [(.nil 1)]), (false, [(.int .i64 0)]), (false, [(.int .i64 35)])]))
  (.sem (.buildSlice 22 0 #[]) 22 [] (.sc (.sl)) []
  (.call (.fn 18) [(.sc (.atom 0)), (.sc (.int .i64 0))] (.sc (.int .i64)) []
  (.loop 6 [.sl, .int .i64, .int .i64, .sl, .int .i64] [(.nil 1), (.int .i64 0), (.int .i64 0), (.atom 1), (.atom 2)]
   (.ite (.cmp .lss (.atom 7) (.slen (.atom 0)))
    (.ite (.cmp .eql (.len (.atom 6)) (.int .i64 2048))
     (.leaf (.tu [(false, [(.nil 1)]), (false, [(.atom 7)]), (false, [(.int .i64 34)])]))
     (.call (.fn 19) [(.sc (.atom 0)), (.sc (.atom 7))] (.tu [(true, [.int .i64, .str, .int .i64, .int .i64, .int .i64]), (false, [.int .i64]), (false, [.int .i64])]) []
     (.ite (.cmp .neq (.atom 14) (.int .i64 0))
      (.leaf (.tu [(false, [(.nil 1)]), (false, [(.atom 7)]), (false, [(.atom 14)])]))
      (.sem (.buildSlice 22 1 #[(0, (.tmp 42))]) 22 [(42, (.ag [(.atom 8), (.atom 9), (.atom 10), (.atom 7), (.ar .add .i64 (.atom 7) (.atom 13))]))] (.sc (.sl)) []
      (.sem (.call ⟨.builtin .append, #[(.tmp 41), (.tmp 43)], #[22, 22]⟩) 22 [(41, (.sc (.atom 6))), (43, (.sc (.atom 15)))] (.sc (.sl)) []
      (.call (.fn 18) [(.sc (.atom 0)), (.sc (.ar .add .i64 (.atom 7) (.atom 13)))] (.sc (.int .i64)) []
      (.next 6 [(.atom 3), (.atom 4), (.atom 5), (.atom 16), (.atom 17)])))))))
    (.leaf (.tu [(false, [(.atom 6)]), (false, [(.int .i64 0)]), (false, [(.int .i64 0)])])))))))
theorem fm_scrimshawref03_Tokens_eq : execF Tryd.prog { pub := [], nojoin := false } Tryd.f10 = fm_scrimshawref03_Tokens := by kernel_rfl
theorem cb_scrimshawref03_Tokens : callB Tryd.prog 10 = true := by kernel_rfl
theorem tri_scrimshawref03_Tokens (E : List Value) {args : Array Value} {H : PH} {R : Ending → PH → Prop} (hE : tagsOk ((paramRS Tryd.prog Tryd.f10).flatMap RS.tags) E = true) (hargs : args.toList = packAll (paramRS Tryd.prog Tryd.f10) E)
    (hden : den Tryd.prog (fun c H' => R (.panicked c) H') fm_scrimshawref03_Tokens E H [] (fun ve E' H' _ => R (.returned (evV E' (fun _ => 0) ve)) H')) : Tri Tryd.prog 10 args H R :=
  execF_tri (op := { pub := [], nojoin := false }) Tryd.func10 hE hargs (by rw [fm_scrimshawref03_Tokens_eq]; exact hden)

/-- scrimshaw/scrimshawlaw03.fixed -/
abbrev n_scrimshawlaw03_fixed : FuncId := 11
def fm_scrimshawlaw03_fixed : Fm VE :=
 (.call (.fn 9) [(.sc (.str [40, 97, 32, 35, 116, 41, 32, 59, 32, 120]))] (.tu [(false, [.sl]), (false, [.int .i64]), (false, [.int .i64])]) []
 (.call (.fn 9) [(.sc (.str [32, 35, 116, 116]))] (.tu [(false, [.sl]), (false, [.int .i64]), (false, [.int .i64])]) []
 (.sem (.buildSlice 22 4 #[(0, (.tmp 18)), (1, (.tmp 19)), (2, (.tmp 20)), (3, (.tmp 21))]) 22 [(18, (.ag [(.int .i64 0), (.str []), (.int .i64 0), (.int .i64 0), (.int .i64 1)])), (19, (.ag [(.int .i64 9), (.str [97]), (.int .i64 0), (.int .i64 1), (.int .i64 2)])), (20, (.ag [(.int .i64 5), (.str []), (.int .i64 1), (.int .i64 3), (.int .i64 5)])), (21, (.ag [(.int .i64 1), (.str []), (.int .i64 0), (.int .i64 5), (.int .i64 6)]))] (.sc (.sl)) []
 (.call (.fn 12) [(.sc (.atom 0)), (.sc (.atom 6))] (.sc (.bool)) []
 (.leaf (.sc (.pick (.pick (.pick (.pick (.atom 7) (.cmp .eql (.atom 1) (.int .i64 0)) (.bool false)) (.cmp .eql (.atom 2) (.int .i64 0)) (.bool false)) (.cmp .eql (.atom 4) (.int .i64 1)) (.bool false)) (.cmp .eql (.atom 5) (.int .i64 31)) (.bool false))))))))
theorem fm_scrimshawlaw03_fixed_eq : execF Tryd.prog { pub := [], nojoin := false } Tryd.f11 = fm_scrimshawlaw03_fixed := by kernel_rfl
theorem cb_scrimshawlaw03_fixed : callB Tryd.prog 11 = true := by kernel_rfl
theorem tri_scrimshawlaw03_fixed (E : List Value) {args : Array Value} {H : PH} {R : Ending → PH → Prop} (hE : tagsOk ((paramRS Tryd.prog Tryd.f11).flatMap RS.tags) E = true) (hargs : args.toList = packAll (paramRS Tryd.prog Tryd.f11) E)
    (hden : den Tryd.prog (fun c H' => R (.panicked c) H') fm_scrimshawlaw03_fixed E H [] (fun ve E' H' _ => R (.returned (evV E' (fun _ => 0) ve)) H')) : Tri Tryd.prog 11 args H R :=
  execF_tri (op := { pub := [], nojoin := false }) Tryd.func11 hE hargs (by rw [fm_scrimshawlaw03_fixed_eq]; exact hden)

/-- scrimshaw/scrimshawref03.Same -/
abbrev n_scrimshawref03_Same : FuncId := 12
def fm_scrimshawref03_Same : Fm VE :=
 (.ite (.cmp .neq (.len (.atom 0)) (.len (.atom 1)))
  (.leaf (.sc (.bool false)))
  (.loop 5 [.bool, .int .i64] [(.bool false), (.int .i64 0)]
   (.ite (.cmp .lss (.atom 3) (.len (.atom 0)))
    (.chk [] (.inSl (.atom 0) (.atom 3))
    (.load (.elt (.atom 0) (.atom 3) 5) [.int .i64, .str, .int .i64, .int .i64, .int .i64]
    (.chk [] (.inSl (.atom 1) (.atom 3))
    (.load (.elt (.atom 1) (.atom 3) 5) [.int .i64, .str, .int .i64, .int .i64, .int .i64]
    (.sem (.binOp .neq 30 (.tmp 20) (.tmp 24) 30) 4 [(20, (.ag [(.atom 4), (.atom 5), (.atom 6), (.atom 7), (.atom 8)])), (24, (.ag [(.atom 9), (.atom 10), (.atom 11), (.atom 12), (.atom 13)]))] (.sc (.bool)) []
    (.ite (.atom 14)
     (.leaf (.sc (.bool false)))
     (.next 5 [(.atom 2), (.ar .add .i64 (.atom 3) (.int .i64 1))])))))))
    (.leaf (.sc (.bool true))))))
theorem fm_scrimshawref03_Same_eq : execF Tryd.prog { pub := [], nojoin := false } Tryd.f12 = fm_scrimshawref03_Same := by kernel_rfl
theorem cb_scrimshawref03_Same : callB Tryd.prog 12 = true := by kernel_rfl
theorem tri_scrimshawref03_Same (E : List Value) {args : Array Value} {H : PH} {R : Ending → PH → Prop} (hE : tagsOk ((paramRS Tryd.prog Tryd.f12).flatMap RS.tags) E = true) (hargs : args.toList = packAll (paramRS Tryd.prog Tryd.f12) E)
    (hden : den Tryd.prog (fun c H' => R (.panicked c) H') fm_scrimshawref03_Same E H [] (fun ve E' H' _ => R (.returned (evV E' (fun _ => 0) ve)) H')) : Tri Tryd.prog 12 args H R :=
  execF_tri (op := { pub := [], nojoin := false }) Tryd.func12 hE hargs (by rw [fm_scrimshawref03_Same_eq]; exact hden)

/-- scrimshaw/scrimshawref03.Alike -/
abbrev n_scrimshawref03_Alike : FuncId := 13
def fm_scrimshawref03_Alike : Fm VE :=
 (.ite (.cmp .neq (.len (.atom 0)) (.len (.atom 1)))
  (.leaf (.sc (.bool false)))
  (.loop 5 [.bool, .int .i64] [(.bool false), (.int .i64 0)]
   (.ite (.cmp .lss (.atom 3) (.len (.atom 0)))
    (.join 9 [.bool]
     (.ite (.atom 4)
      (.leaf (.sc (.bool false)))
      (.next 5 [(.atom 2), (.ar .add .i64 (.atom 3) (.int .i64 1))]))
     (.chk [] (.inSl (.atom 0) (.atom 3))
     (.load (.padd (.elt (.atom 0) (.atom 3) 5) 0) [.int .i64]
     (.chk [] (.inSl (.atom 1) (.atom 3))
     (.load (.padd (.elt (.atom 1) (.atom 3) 5) 0) [.int .i64]
     (.ite (.cmp .neq (.atom 4) (.atom 5))
      (.next 9 [(.bool true)])
      (.load (.padd (.elt (.atom 0) (.atom 3) 5) 1) [.str]
      (.load (.padd (.elt (.atom 1) (.atom 3) 5) 1) [.str]
      (.ite (.scmp .neq (.atom 6) (.atom 7))
       (.next 9 [(.bool true)])
       (.load (.padd (.elt (.atom 0) (.atom 3) 5) 2) [.int .i64]
       (.load (.padd (.elt (.atom 1) (.atom 3) 5) 2) [.int .i64]
       (.next 9 [(.cmp .neq (.atom 8) (.atom 9))]))))))))))))
    (.leaf (.sc (.bool true))))))
theorem fm_scrimshawref03_Alike_eq : execF Tryd.prog { pub := [], nojoin := false } Tryd.f13 = fm_scrimshawref03_Alike := by kernel_rfl
theorem cb_scrimshawref03_Alike : callB Tryd.prog 13 = true := by kernel_rfl
theorem tri_scrimshawref03_Alike (E : List Value) {args : Array Value} {H : PH} {R : Ending → PH → Prop} (hE : tagsOk ((paramRS Tryd.prog Tryd.f13).flatMap RS.tags) E = true) (hargs : args.toList = packAll (paramRS Tryd.prog Tryd.f13) E)
    (hden : den Tryd.prog (fun c H' => R (.panicked c) H') fm_scrimshawref03_Alike E H [] (fun ve E' H' _ => R (.returned (evV E' (fun _ => 0) ve)) H')) : Tri Tryd.prog 13 args H R :=
  execF_tri (op := { pub := [], nojoin := false }) Tryd.func13 hE hargs (by rw [fm_scrimshawref03_Alike_eq]; exact hden)

/-- scrimshaw/data.Text -/
abbrev n_data_Text : FuncId := 14
def fm_data_Text : Fm VE :=
 (.call (.fn 20) [(.ag [(.atom 0), (.atom 1), (.atom 2), (.atom 3)]), (.sc (.bool false))] (.tu [(false, [.str]), (false, [.int .i64])]) []
 (.leaf (.tu [(false, [(.atom 4)]), (false, [(.atom 5)])])))
theorem fm_data_Text_eq : execF Tryd.prog { pub := [], nojoin := false } Tryd.f14 = fm_data_Text := by kernel_rfl
theorem cb_data_Text : callB Tryd.prog 14 = true := by kernel_rfl
theorem tri_data_Text (E : List Value) {args : Array Value} {H : PH} {R : Ending → PH → Prop} (hE : tagsOk ((paramRS Tryd.prog Tryd.f14).flatMap RS.tags) E = true) (hargs : args.toList = packAll (paramRS Tryd.prog Tryd.f14) E)
    (hden : den Tryd.prog (fun c H' => R (.panicked c) H') fm_data_Text E H [] (fun ve E' H' _ => R (.returned (evV E' (fun _ => 0) ve)) H')) : Tri Tryd.prog 14 args H R :=
  execF_tri (op := { pub := [], nojoin := false }) Tryd.func14 hE hargs (by rw [fm_data_Text_eq]; exact hden)

/-- scrimshaw/scrimshawref02.Name -/
abbrev n_scrimshawref02_Name : FuncId := 15
def fm_scrimshawref02_Name : Fm VE :=
 (.join 2 [.bool]
  (.ite (.atom 1)
   (.leaf (.sc (.bool false)))
   (.loop 5 [.bool, .int .i64] [(.bool false), (.int .i64 0)]
    (.ite (.cmp .lss (.atom 3) (.slen (.atom 0)))
     (.chk [] (.inStr (.atom 0) (.atom 3))
     (.call (.fn 22) [(.sc (.sidx (.atom 0) (.atom 3)))] (.sc (.bool)) []
     (.ite (.not (.atom 4))
      (.leaf (.sc (.bool false)))
      (.next 5 [(.atom 2), (.ar .add .i64 (.atom 3) (.int .i64 1))]))))
     (.leaf (.sc (.bool true))))))
  (.ite (.pick (.pick (.cmp .lss (.slen (.atom 0)) (.int .i64 1)) (.bool true) (.cmp .gtr (.slen (.atom 0)) (.int .i64 64))) (.bool true) (.scmp .eql (.atom 0) (.str [46])))
   (.next 2 [(.bool true)])
   (.call (.fn 21) [(.sc (.atom 0))] (.sc (.bool)) []
   (.next 2 [(.atom 1)]))))
theorem fm_scrimshawref02_Name_eq : execF Tryd.prog { pub := [], nojoin := false } Tryd.f15 = fm_scrimshawref02_Name := by kernel_rfl
theorem cb_scrimshawref02_Name : callB Tryd.prog 15 = true := by kernel_rfl
theorem tri_scrimshawref02_Name (E : List Value) {args : Array Value} {H : PH} {R : Ending → PH → Prop} (hE : tagsOk ((paramRS Tryd.prog Tryd.f15).flatMap RS.tags) E = true) (hargs : args.toList = packAll (paramRS Tryd.prog Tryd.f15) E)
    (hden : den Tryd.prog (fun c H' => R (.panicked c) H') fm_scrimshawref02_Name E H [] (fun ve E' H' _ => R (.returned (evV E' (fun _ => 0) ve)) H')) : Tri Tryd.prog 15 args H R :=
  execF_tri (op := { pub := [], nojoin := false }) Tryd.func15 hE hargs (by rw [fm_scrimshawref02_Name_eq]; exact hden)

/-- (*scrimshaw/lex.lexer).gap -/
abbrev n_lex_lexer__gap : FuncId := 16
def fm_lex_lexer__gap : Fm VE :=
 (.loop 0 [] []
  (.chk [] (.some (.atom 0))
  (.load (.padd (.atom 0) 1) [.int .i64]
  (.load (.padd (.atom 0) 0) [.str]
  (.ite (.cmp .lss (.atom 1) (.slen (.atom 2)))
   (.load (.padd (.atom 0) 0) [.str]
   (.load (.padd (.atom 0) 1) [.int .i64]
   (.chk [] (.inStr (.atom 3) (.atom 4))
   (.call (.fn 23) [(.sc (.str [9, 10, 13, 32])), (.sc (.sidx (.atom 3) (.atom 4)))] (.sc (.int .i64)) []
   (.ite (.cmp .geq (.atom 5) (.int .i64 0))
    (.load (.padd (.atom 0) 1) [.int .i64]
    (.store (.padd (.atom 0) 1) [(.ar .add .i64 (.atom 6) (.int .i64 1))]
    (.next 0 [])))
    (.ite (.cmp .eql (.sidx (.atom 3) (.atom 4)) (.int .u8 59))
     (.load (.padd (.atom 0) 0) [.str]
     (.load (.padd (.atom 0) 1) [.int .i64]
     (.chk [] (.sub (.slen (.atom 6)) (.atom 7) (.slen (.atom 6)))
     (.call (.fn 23) [(.sc (.ssub (.atom 6) (.atom 7) (.slen (.atom 6)))), (.sc (.int .u8 10))] (.sc (.int .i64)) []
     (.ite (.cmp .geq (.atom 8) (.int .i64 0))
      (.load (.padd (.atom 0) 1) [.int .i64]
      (.store (.padd (.atom 0) 1) [(.ar .add .i64 (.atom 9) (.atom 8))]
      (.next 0 [])))
      (.load (.padd (.atom 0) 0) [.str]
      (.store (.padd (.atom 0) 1) [(.slen (.atom 9))]
      (.next 0 []))))))))
     (.leaf (.tu []))))))))
   (.leaf (.tu [])))))))
theorem fm_lex_lexer__gap_eq : execF Tryd.prog { pub := [], nojoin := false } Tryd.f16 = fm_lex_lexer__gap := by kernel_rfl
theorem cb_lex_lexer__gap : callB Tryd.prog 16 = true := by kernel_rfl
theorem tri_lex_lexer__gap (E : List Value) {args : Array Value} {H : PH} {R : Ending → PH → Prop} (hE : tagsOk ((paramRS Tryd.prog Tryd.f16).flatMap RS.tags) E = true) (hargs : args.toList = packAll (paramRS Tryd.prog Tryd.f16) E)
    (hden : den Tryd.prog (fun c H' => R (.panicked c) H') fm_lex_lexer__gap E H [] (fun ve E' H' _ => R (.returned (evV E' (fun _ => 0) ve)) H')) : Tri Tryd.prog 16 args H R :=
  execF_tri (op := { pub := [], nojoin := false }) Tryd.func16 hE hargs (by rw [fm_lex_lexer__gap_eq]; exact hden)

/-- (*scrimshaw/lex.lexer).next -/
abbrev n_lex_lexer__next : FuncId := 17
def fm_lex_lexer__next : Fm VE :=
 (.chk [] (.some (.atom 0))
 (.load (.padd (.atom 0) 0) [.str]
 (.load (.padd (.atom 0) 1) [.int .i64]
 (.chk [] (.inStr (.atom 1) (.atom 2))
 (.ite (.cmp .eql (.sidx (.atom 1) (.atom 2)) (.int .u8 40))
  (.load (.padd (.atom 0) 1) [.int .i64]
  (.store (.padd (.atom 0) 1) [(.ar .add .i64 (.atom 3) (.int .i64 1))]
  (.leaf (.tu [(true, [(.int .i64 0), (.str []), (.int .i64 0), (.int .i64 0), (.int .i64 0)]), (false, [(.int .i64 0)])]))))
  (.ite (.cmp .eql (.sidx (.atom 1) (.atom 2)) (.int .u8 41))
   (.load (.padd (.atom 0) 1) [.int .i64]
   (.store (.padd (.atom 0) 1) [(.ar .add .i64 (.atom 3) (.int .i64 1))]
   (.leaf (.tu [(true, [(.int .i64 1), (.str []), (.int .i64 0), (.int .i64 0), (.int .i64 0)]), (false, [(.int .i64 0)])]))))
   (.ite (.cmp .eql (.sidx (.atom 1) (.atom 2)) (.int .u8 39))
    (.load (.padd (.atom 0) 1) [.int .i64]
    (.store (.padd (.atom 0) 1) [(.ar .add .i64 (.atom 3) (.int .i64 1))]
    (.leaf (.tu [(true, [(.int .i64 3), (.str []), (.int .i64 0), (.int .i64 0), (.int .i64 0)]), (false, [(.int .i64 0)])]))))
    (.ite (.cmp .eql (.sidx (.atom 1) (.atom 2)) (.int .u8 35))
     (.call (.fn 24) [(.sc (.atom 0))] (.tu [(true, [.int .i64, .str, .int .i64, .int .i64, .int .i64]), (false, [.int .i64])]) []
     (.leaf (.tu [(true, [(.atom 3), (.atom 4), (.atom 5), (.atom 6), (.atom 7)]), (false, [(.atom 8)])])))
     (.ite (.cmp .eql (.sidx (.atom 1) (.atom 2)) (.int .u8 34))
      (.call (.fn 25) [(.sc (.atom 0))] (.tu [(true, [.int .i64, .str, .int .i64, .int .i64, .int .i64]), (false, [.int .i64])]) []
      (.leaf (.tu [(true, [(.atom 3), (.atom 4), (.atom 5), (.atom 6), (.atom 7)]), (false, [(.atom 8)])])))
      (.call (.fn 26) [(.sc (.atom 0))] (.tu [(true, [.int .i64, .str, .int .i64, .int .i64, .int .i64]), (false, [.int .i64])]) []
      (.leaf (.tu [(true, [(.atom 3), (.atom 4), (.atom 5), (.atom 6), (.atom 7)]), (false, [(.atom 8)])]))))))))))))
theorem fm_lex_lexer__next_eq : execF Tryd.prog { pub := [], nojoin := false } Tryd.f17 = fm_lex_lexer__next := by kernel_rfl
theorem cb_lex_lexer__next : callB Tryd.prog 17 = true := by kernel_rfl
theorem tri_lex_lexer__next (E : List Value) {args : Array Value} {H : PH} {R : Ending → PH → Prop} (hE : tagsOk ((paramRS Tryd.prog Tryd.f17).flatMap RS.tags) E = true) (hargs : args.toList = packAll (paramRS Tryd.prog Tryd.f17) E)
    (hden : den Tryd.prog (fun c H' => R (.panicked c) H') fm_lex_lexer__next E H [] (fun ve E' H' _ => R (.returned (evV E' (fun _ => 0) ve)) H')) : Tri Tryd.prog 17 args H R :=
  execF_tri (op := { pub := [], nojoin := false }) Tryd.func17 hE hargs (by rw [fm_lex_lexer__next_eq]; exact hden)

/-- scrimshaw/scrimshawref03.gap -/
abbrev n_scrimshawref03_gap : FuncId := 18
def fm_scrimshawref03_gap : Fm VE :=
 (.join 1 [.int .i64]
  (.leaf (.sc (.atom 2)))
  (.loop 2 [.int .i64] [(.atom 1)]
   (.ite (.cmp .lss (.atom 2) (.slen (.atom 0)))
    (.chk [] (.inStr (.atom 0) (.atom 2))
    (.ite (.cmp .eql (.sidx (.atom 0) (.atom 2)) (.int .u8 59))
     (.loop 7 [.int .i64] [(.atom 2)]
      (.chk [((.cmp .lss (.atom 3) (.slen (.atom 0))), true)] (.inStr (.atom 0) (.atom 3))
      (.ite (.pick (.cmp .lss (.atom 3) (.slen (.atom 0))) (.cmp .neq (.sidx (.atom 0) (.atom 3)) (.int .u8 10)) (.bool false))
       (.next 7 [(.ar .add .i64 (.atom 3) (.int .i64 1))])
       (.next 2 [(.atom 3)]))))
     (.ite (.pick (.pick (.pick (.cmp .eql (.sidx (.atom 0) (.atom 2)) (.int .u8 9)) (.bool true) (.cmp .eql (.sidx (.atom 0) (.atom 2)) (.int .u8 10))) (.bool true) (.cmp .eql (.sidx (.atom 0) (.atom 2)) (.int .u8 13))) (.bool true) (.cmp .eql (.sidx (.atom 0) (.atom 2)) (.int .u8 32)))
      (.next 2 [(.ar .add .i64 (.atom 2) (.int .i64 1))])
      (.next 1 [(.atom 2)]))))
    (.next 1 [(.atom 2)]))))
theorem fm_scrimshawref03_gap_eq : execF Tryd.prog { pub := [], nojoin := false } Tryd.f18 = fm_scrimshawref03_gap := by kernel_rfl
theorem cb_scrimshawref03_gap : callB Tryd.prog 18 = true := by kernel_rfl
theorem tri_scrimshawref03_gap (E : List Value) {args : Array Value} {H : PH} {R : Ending → PH → Prop} (hE : tagsOk ((paramRS Tryd.prog Tryd.f18).flatMap RS.tags) E = true) (hargs : args.toList = packAll (paramRS Tryd.prog Tryd.f18) E)
    (hden : den Tryd.prog (fun c H' => R (.panicked c) H') fm_scrimshawref03_gap E H [] (fun ve E' H' _ => R (.returned (evV E' (fun _ => 0) ve)) H')) : Tri Tryd.prog 18 args H R :=
  execF_tri (op := { pub := [], nojoin := false }) Tryd.func18 hE hargs (by rw [fm_scrimshawref03_gap_eq]; exact hden)

/-- scrimshaw/scrimshawref03.one -/
abbrev n_scrimshawref03_one : FuncId := 19
def fm_scrimshawref03_one : Fm VE :=
 (.chk [] (.inStr (.atom 0) (.atom 1))
 (.ite (.cmp .eql (.sidx (.atom 0) (.atom 1)) (.int .u8 40))
  (.leaf (.tu [(true, [(.int .i64 0), (.str []), (.int .i64 0), (.int .i64 0), (.int .i64 0)]), (false, [(.int .i64 1)]), (false, [(.int .i64 0)])]))
  (.ite (.cmp .eql (.sidx (.atom 0) (.atom 1)) (.int .u8 41))
   (.leaf (.tu [(true, [(.int .i64 1), (.str []), (.int .i64 0), (.int .i64 0), (.int .i64 0)]), (false, [(.int .i64 1)]), (false, [(.int .i64 0)])]))
   (.ite (.cmp .eql (.sidx (.atom 0) (.atom 1)) (.int .u8 39))
    (.leaf (.tu [(true, [(.int .i64 3), (.str []), (.int .i64 0), (.int .i64 0), (.int .i64 0)]), (false, [(.int .i64 1)]), (false, [(.int .i64 0)])]))
    (.ite (.cmp .eql (.sidx (.atom 0) (.atom 1)) (.int .u8 35))
     (.call (.fn 27) [(.sc (.atom 0)), (.sc (.atom 1))] (.tu [(true, [.int .i64, .str, .int .i64, .int .i64, .int .i64]), (false, [.int .i64]), (false, [.int .i64])]) []
     (.leaf (.tu [(true, [(.atom 2), (.atom 3), (.atom 4), (.atom 5), (.atom 6)]), (false, [(.atom 7)]), (false, [(.atom 8)])])))
     (.ite (.cmp .eql (.sidx (.atom 0) (.atom 1)) (.int .u8 34))
      (.call (.fn 28) [(.sc (.atom 0)), (.sc (.atom 1))] (.tu [(true, [.int .i64, .str, .int .i64, .int .i64, .int .i64]), (false, [.int .i64]), (false, [.int .i64])]) []
      (.leaf (.tu [(true, [(.atom 2), (.atom 3), (.atom 4), (.atom 5), (.atom 6)]), (false, [(.atom 7)]), (false, [(.atom 8)])])))
      (.call (.fn 29) [(.sc (.atom 0)), (.sc (.atom 1))] (.sc (.int .i64)) []
      (.ite (.cmp .eql (.atom 2) (.int .i64 0))
       (.leaf (.tu [(true, [(.int .i64 0), (.str []), (.int .i64 0), (.int .i64 0), (.int .i64 0)]), (false, [(.int .i64 0)]), (false, [(.int .i64 30)])]))
       (.chk [] (.sub (.slen (.atom 0)) (.atom 1) (.ar .add .i64 (.atom 1) (.atom 2)))
       (.call (.fn 30) [(.sc (.ssub (.atom 0) (.atom 1) (.ar .add .i64 (.atom 1) (.atom 2))))] (.tu [(true, [.int .i64, .str, .int .i64, .int .i64, .int .i64]), (false, [.int .i64])]) []
       (.leaf (.tu [(true, [(.atom 3), (.atom 4), (.atom 5), (.atom 6), (.atom 7)]), (false, [(.atom 2)]), (false, [(.atom 8)])]))))))))))))
theorem fm_scrimshawref03_one_eq : execF Tryd.prog { pub := [], nojoin := false } Tryd.f19 = fm_scrimshawref03_one := by kernel_rfl
theorem cb_scrimshawref03_one : callB Tryd.prog 19 = true := by kernel_rfl
theorem tri_scrimshawref03_one (E : List Value) {args : Array Value} {H : PH} {R : Ending → PH → Prop} (hE : tagsOk ((paramRS Tryd.prog Tryd.f19).flatMap RS.tags) E = true) (hargs : args.toList = packAll (paramRS Tryd.prog Tryd.f19) E)
    (hden : den Tryd.prog (fun c H' => R (.panicked c) H') fm_scrimshawref03_one E H [] (fun ve E' H' _ => R (.returned (evV E' (fun _ => 0) ve)) H')) : Tri Tryd.prog 19 args H R :=
  execF_tri (op := { pub := [], nojoin := false }) Tryd.func19 hE hargs (by rw [fm_scrimshawref03_one_eq]; exact hden)

/-- scrimshaw/data.written -/
abbrev n_data_written : FuncId := 20
def fm_data_written : Fm VE :=
 (.call (.fn 31) [(.ag [(.atom 0), (.atom 1), (.atom 2), (.atom 3)])] (.sc (.int .i64)) []
 (.ite (.cmp .neq (.atom 5) (.int .i64 0))
  (.leaf (.tu [(false, [(.str [])]), (false, [(.atom 5)])]))
  (.new 56 [(.nil 1), (.atom 4)]
  (.call (.fn 32) [(.sc (.atom 6)), (.ag [(.atom 0), (.atom 1), (.atom 2), (.atom 3)])] (.tu []) []
  (.chk [] (.some (.atom 6))
  (.load (.padd (.atom 6) 0) [.sl]
  (.sem (.convert 39 9 (.tmp 22)) 9 [(22, (.sc (.atom 7)))] (.sc (.str)) []
  (.leaf (.tu [(false, [(.atom 8)]), (false, [(.int .i64 0)])])))))))))
theorem fm_data_written_eq : execF Tryd.prog { pub := [15], nojoin := false } Tryd.f20 = fm_data_written := by kernel_rfl
theorem cb_data_written : callB Tryd.prog 20 = true := by kernel_rfl
theorem tri_data_written (E : List Value) {args : Array Value} {H : PH} {R : Ending → PH → Prop} (hE : tagsOk ((paramRS Tryd.prog Tryd.f20).flatMap RS.tags) E = true) (hargs : args.toList = packAll (paramRS Tryd.prog Tryd.f20) E)
    (hden : den Tryd.prog (fun c H' => R (.panicked c) H') fm_data_written E H [] (fun ve E' H' _ => R (.returned (evV E' (fun _ => 0) ve)) H')) : Tri Tryd.prog 20 args H R :=
  execF_tri (op := { pub := [15], nojoin := false }) Tryd.func20 hE hargs (by rw [fm_data_written_eq]; exact hden)

/-- scrimshaw/scrimshawref02.Number -/
abbrev n_scrimshawref02_Number : FuncId := 21
def fm_scrimshawref02_Number : Fm VE :=
 (.chk [((.cmp .gtr (.slen (.atom 0)) (.int .i64 0)), true)] (.inStr (.atom 0) (.int .i64 0))
 (.chk [((.cmp .gtr (.slen (.atom 0)) (.int .i64 0)), true), ((.cmp .eql (.sidx (.atom 0) (.int .i64 0)) (.int .u8 43)), false)] (.inStr (.atom 0) (.int .i64 0))
 (.loop 6 [.bool, .int .i64] [(.bool false), (.pick (.pick (.cmp .gtr (.slen (.atom 0)) (.int .i64 0)) (.pick (.cmp .eql (.sidx (.atom 0) (.int .i64 0)) (.int .u8 43)) (.bool true) (.cmp .eql (.sidx (.atom 0) (.int .i64 0)) (.int .u8 45))) (.bool false)) (.int .i64 1) (.int .i64 0))]
  (.ite (.cmp .lss (.atom 2) (.slen (.atom 0)))
   (.chk [] (.inStr (.atom 0) (.atom 2))
   (.call (.fn 33) [(.sc (.sidx (.atom 0) (.atom 2)))] (.sc (.bool)) []
   (.ite (.not (.atom 3))
    (.leaf (.sc (.bool false)))
    (.next 6 [(.atom 1), (.ar .add .i64 (.atom 2) (.int .i64 1))]))))
   (.leaf (.sc (.cmp .gtr (.slen (.atom 0)) (.pick (.pick (.cmp .gtr (.slen (.atom 0)) (.int .i64 0)) (.pick (.cmp .eql (.sidx (.atom 0) (.int .i64 0)) (.int .u8 43)) (.bool true) (.cmp .eql (.sidx (.atom 0) (.int .i64 0)) (.int .u8 45))) (.bool false)) (.int .i64 1) (.int .i64 0)))))))))
theorem fm_scrimshawref02_Number_eq : execF Tryd.prog { pub := [], nojoin := false } Tryd.f21 = fm_scrimshawref02_Number := by kernel_rfl
theorem cb_scrimshawref02_Number : callB Tryd.prog 21 = true := by kernel_rfl
theorem tri_scrimshawref02_Number (E : List Value) {args : Array Value} {H : PH} {R : Ending → PH → Prop} (hE : tagsOk ((paramRS Tryd.prog Tryd.f21).flatMap RS.tags) E = true) (hargs : args.toList = packAll (paramRS Tryd.prog Tryd.f21) E)
    (hden : den Tryd.prog (fun c H' => R (.panicked c) H') fm_scrimshawref02_Number E H [] (fun ve E' H' _ => R (.returned (evV E' (fun _ => 0) ve)) H')) : Tri Tryd.prog 21 args H R :=
  execF_tri (op := { pub := [], nojoin := false }) Tryd.func21 hE hargs (by rw [fm_scrimshawref02_Number_eq]; exact hden)

/-- scrimshaw/scrimshawref02.Byte -/
abbrev n_scrimshawref02_Byte : FuncId := 22
def fm_scrimshawref02_Byte : Fm VE :=
 (.call (.fn 33) [(.sc (.atom 0))] (.sc (.bool)) []
 (.ite (.pick (.pick (.atom 1) (.bool true) (.pick (.cmp .geq (.atom 0) (.int .u8 97)) (.cmp .leq (.atom 0) (.int .u8 122)) (.bool false))) (.bool true) (.pick (.cmp .geq (.atom 0) (.int .u8 65)) (.cmp .leq (.atom 0) (.int .u8 90)) (.bool false)))
  (.leaf (.sc (.bool true)))
  (.loop 6 [.bool, .int .i64] [(.bool false), (.int .i64 0)]
   (.ite (.cmp .lss (.atom 3) (.int .i64 18))
    (.chk [] (.inStr (.str [33, 36, 37, 38, 42, 47, 58, 60, 61, 62, 63, 94, 95, 126, 43, 45, 46, 64]) (.atom 3))
    (.ite (.cmp .eql (.sidx (.str [33, 36, 37, 38, 42, 47, 58, 60, 61, 62, 63, 94, 95, 126, 43, 45, 46, 64]) (.atom 3)) (.atom 0))
     (.leaf (.sc (.bool true)))
     (.next 6 [(.atom 2), (.ar .add .i64 (.atom 3) (.int .i64 1))])))
    (.leaf (.sc (.bool false)))))))
theorem fm_scrimshawref02_Byte_eq : execF Tryd.prog { pub := [], nojoin := false } Tryd.f22 = fm_scrimshawref02_Byte := by kernel_rfl
theorem cb_scrimshawref02_Byte : callB Tryd.prog 22 = true := by kernel_rfl
theorem tri_scrimshawref02_Byte (E : List Value) {args : Array Value} {H : PH} {R : Ending → PH → Prop} (hE : tagsOk ((paramRS Tryd.prog Tryd.f22).flatMap RS.tags) E = true) (hargs : args.toList = packAll (paramRS Tryd.prog Tryd.f22) E)
    (hden : den Tryd.prog (fun c H' => R (.panicked c) H') fm_scrimshawref02_Byte E H [] (fun ve E' H' _ => R (.returned (evV E' (fun _ => 0) ve)) H')) : Tri Tryd.prog 22 args H R :=
  execF_tri (op := { pub := [], nojoin := false }) Tryd.func22 hE hargs (by rw [fm_scrimshawref02_Byte_eq]; exact hden)

/-- strings.IndexByte -/
abbrev n_strings_IndexByte : FuncId := 23
def fm_strings_IndexByte : Fm VE :=
 (.call (.fn 34) [(.sc (.atom 0)), (.sc (.atom 1))] (.sc (.int .i64)) []
 (.leaf (.sc (.atom 2))))
theorem fm_strings_IndexByte_eq : execF Tryd.prog { pub := [], nojoin := false } Tryd.f23 = fm_strings_IndexByte := by kernel_rfl
theorem cb_strings_IndexByte : callB Tryd.prog 23 = true := by kernel_rfl
theorem tri_strings_IndexByte (E : List Value) {args : Array Value} {H : PH} {R : Ending → PH → Prop} (hE : tagsOk ((paramRS Tryd.prog Tryd.f23).flatMap RS.tags) E = true) (hargs : args.toList = packAll (paramRS Tryd.prog Tryd.f23) E)
    (hden : den Tryd.prog (fun c H' => R (.panicked c) H') fm_strings_IndexByte E H [] (fun ve E' H' _ => R (.returned (evV E' (fun _ => 0) ve)) H')) : Tri Tryd.prog 23 args H R :=
  execF_tri (op := { pub := [], nojoin := false }) Tryd.func23 hE hargs (by rw [fm_strings_IndexByte_eq]; exact hden)

/-- (*scrimshaw/lex.lexer).hash -/
abbrev n_lex_lexer__hash : FuncId := 24
def fm_lex_lexer__hash : Fm VE :=
 (.chk [] (.some (.atom 0))
 (.load (.padd (.atom 0) 1) [.int .i64]
 (.load (.padd (.atom 0) 0) [.str]
 (.load (.padd (.atom 0) 1) [.int .i64]
 (.chk [] (.sub (.slen (.atom 2)) (.ar .add .i64 (.atom 3) (.int .i64 1)) (.slen (.atom 2)))
 (.call (.fn 35) [(.sc (.ssub (.atom 2) (.ar .add .i64 (.atom 3) (.int .i64 1)) (.slen (.atom 2)))), (.sc (.str [40]))] (.sc (.bool)) []
 (.ite (.atom 4)
  (.load (.padd (.atom 0) 1) [.int .i64]
  (.store (.padd (.atom 0) 1) [(.ar .add .i64 (.atom 5) (.int .i64 2))]
  (.leaf (.tu [(true, [(.int .i64 2), (.str []), (.int .i64 0), (.int .i64 0), (.int .i64 0)]), (false, [(.int .i64 0)])]))))
  (.chk [((.cmp .gtr (.slen (.ssub (.atom 2) (.ar .add .i64 (.atom 3) (.int .i64 1)) (.slen (.atom 2)))) (.int .i64 1)), true)] (.inStr (.ssub (.atom 2) (.ar .add .i64 (.atom 3) (.int .i64 1)) (.slen (.atom 2))) (.int .i64 0))
  (.ite (.pick (.cmp .gtr (.slen (.ssub (.atom 2) (.ar .add .i64 (.atom 3) (.int .i64 1)) (.slen (.atom 2)))) (.int .i64 1)) (.cmp .eql (.sidx (.ssub (.atom 2) (.ar .add .i64 (.atom 3) (.int .i64 1)) (.slen (.atom 2))) (.int .i64 0)) (.int .u8 92)) (.bool false))
   (.call (.fn 36) [(.sc (.atom 0)), (.sc (.ar .add .i64 (.atom 1) (.int .i64 2)))] (.sc (.str)) []
   (.join 8 [.str]
    (.call (.fn 37) [(.sc (.atom 6))] (.sc (.int .i64)) []
    (.ite (.cmp .lss (.atom 7) (.int .i64 0))
     (.leaf (.tu [(true, [(.int .i64 0), (.str []), (.int .i64 0), (.int .i64 0), (.int .i64 0)]), (false, [(.int .i64 31)])]))
     (.load (.padd (.atom 0) 1) [.int .i64]
     (.store (.padd (.atom 0) 1) [(.ar .add .i64 (.atom 8) (.ar .add .i64 (.int .i64 2) (.slen (.atom 6))))]
     (.leaf (.tu [(true, [(.int .i64 7), (.str []), (.atom 7), (.int .i64 0), (.int .i64 0)]), (false, [(.int .i64 0)])]))))))
    (.ite (.scmp .eql (.atom 5) (.str []))
     (.chk [] (.sub (.slen (.ssub (.atom 2) (.ar .add .i64 (.atom 3) (.int .i64 1)) (.slen (.atom 2)))) (.int .i64 1) (.int .i64 2))
     (.next 8 [(.ssub (.ssub (.atom 2) (.ar .add .i64 (.atom 3) (.int .i64 1)) (.slen (.atom 2))) (.int .i64 1) (.int .i64 2))]))
     (.next 8 [(.atom 5)]))))
   (.call (.fn 36) [(.sc (.atom 0)), (.sc (.ar .add .i64 (.atom 1) (.int .i64 1)))] (.sc (.str)) []
   (.ite (.pick (.scmp .neq (.atom 5) (.str [116])) (.scmp .neq (.atom 5) (.str [102])) (.bool false))
    (.leaf (.tu [(true, [(.int .i64 0), (.str []), (.int .i64 0), (.int .i64 0), (.int .i64 0)]), (false, [(.int .i64 31)])]))
    (.load (.padd (.atom 0) 1) [.int .i64]
    (.store (.padd (.atom 0) 1) [(.ar .add .i64 (.atom 6) (.int .i64 2))]
    (.call (.fn 38) [(.sc (.str [102, 116])), (.sc (.atom 5))] (.sc (.int .i64)) []
    (.leaf (.tu [(true, [(.int .i64 5), (.str []), (.atom 7), (.int .i64 0), (.int .i64 0)]), (false, [(.int .i64 0)])]))))))))))))))))
theorem fm_lex_lexer__hash_eq : execF Tryd.prog { pub := [], nojoin := false } Tryd.f24 = fm_lex_lexer__hash := by kernel_rfl
theorem cb_lex_lexer__hash : callB Tryd.prog 24 = true := by kernel_rfl
theorem tri_lex_lexer__hash (E : List Value) {args : Array Value} {H : PH} {R : Ending → PH → Prop} (hE : tagsOk ((paramRS Tryd.prog Tryd.f24).flatMap RS.tags) E = true) (hargs : args.toList = packAll (paramRS Tryd.prog Tryd.f24) E)
    (hden : den Tryd.prog (fun c H' => R (.panicked c) H') fm_lex_lexer__hash E H [] (fun ve E' H' _ => R (.returned (evV E' (fun _ => 0) ve)) H')) : Tri Tryd.prog 24 args H R :=
  execF_tri (op := { pub := [], nojoin := false }) Tryd.func24 hE hargs (by rw [fm_lex_lexer__hash_eq]; exact hden)

/-- (*scrimshaw/lex.lexer).text -/
abbrev n_lex_lexer__text : FuncId := 25
def fm_lex_lexer__text : Fm VE :=
 (.chk [] (.some (.atom 0))
 (.load (.padd (.atom 0) 1) [.int .i64]
 (.loop 4 [.int .i64, .sl, .int .i64, .int .i64, .str, .int .i64, .int .i64, .int .i64] [(.int .i64 0), (.nil 1), (.ar .add .i64 (.atom 1) (.int .i64 1)), (.int .i64 0), (.str []), (.int .i64 0), (.int .i64 0), (.int .i64 0)]
  (.load (.padd (.atom 0) 0) [.str]
  (.ite (.cmp .lss (.atom 4) (.slen (.atom 10)))
   (.join 7 [.sl, .int .i64]
    (.next 4 [(.atom 2), (.atom 11), (.ar .add .i64 (.atom 12) (.int .i64 1)), (.atom 5), (.atom 6), (.atom 7), (.atom 8), (.atom 9)])
    (.load (.padd (.atom 0) 0) [.str]
    (.chk [] (.inStr (.atom 11) (.atom 4))
    (.ite (.cmp .eql (.sidx (.atom 11) (.atom 4)) (.int .u8 34))
     (.store (.padd (.atom 0) 1) [(.ar .add .i64 (.atom 4) (.int .i64 1))]
     (.sem (.convert 39 9 (.tmp 41)) 9 [(41, (.sc (.atom 3)))] (.sc (.str)) []
     (.leaf (.tu [(true, [(.int .i64 8), (.atom 12), (.int .i64 0), (.int .i64 0), (.int .i64 0)]), (false, [(.int .i64 0)])]))))
     (.ite (.cmp .eql (.sidx (.atom 11) (.atom 4)) (.int .u8 92))
      (.load (.padd (.atom 0) 0) [.str]
      (.chk [] (.sub (.slen (.atom 12)) (.ar .add .i64 (.atom 4) (.int .i64 1)) (.slen (.atom 12)))
      (.call (.fn 39) [(.sc (.ssub (.atom 12) (.ar .add .i64 (.atom 4) (.int .i64 1)) (.slen (.atom 12))))] (.tu [(false, [.int .u8]), (false, [.int .i64])]) []
      (.ite (.cmp .eql (.atom 14) (.int .i64 0))
       (.leaf (.tu [(true, [(.int .i64 0), (.str []), (.int .i64 0), (.int .i64 0), (.int .i64 0)]), (false, [(.int .i64 32)])]))
       (.sem (.buildSlice 39 1 #[(0, (.tmp 61))]) 39 [(61, (.sc (.atom 13)))] (.sc (.sl)) []
       (.sem (.call ⟨.builtin .append, #[(.tmp 60), (.tmp 62)], #[39, 39]⟩) 39 [(60, (.sc (.atom 3))), (62, (.sc (.atom 15)))] (.sc (.sl)) []
       (.next 7 [(.atom 16), (.ar .add .i64 (.atom 4) (.atom 14))])))))))
      (.sem (.buildSlice 39 1 #[(0, (.tmp 31))]) 39 [(31, (.sc (.sidx (.atom 11) (.atom 4))))] (.sc (.sl)) []
      (.sem (.call ⟨.builtin .append, #[(.tmp 30), (.tmp 32)], #[39, 39]⟩) 39 [(30, (.sc (.atom 3))), (32, (.sc (.atom 12)))] (.sc (.sl)) []
      (.next 7 [(.atom 13), (.atom 4)]))))))))
   (.leaf (.tu [(true, [(.int .i64 0), (.str []), (.int .i64 0), (.int .i64 0), (.int .i64 0)]), (false, [(.int .i64 32)])])))))))
theorem fm_lex_lexer__text_eq : execF Tryd.prog { pub := [], nojoin := false } Tryd.f25 = fm_lex_lexer__text := by kernel_rfl
theorem cb_lex_lexer__text : callB Tryd.prog 25 = true := by kernel_rfl
theorem tri_lex_lexer__text (E : List Value) {args : Array Value} {H : PH} {R : Ending → PH → Prop} (hE : tagsOk ((paramRS Tryd.prog Tryd.f25).flatMap RS.tags) E = true) (hargs : args.toList = packAll (paramRS Tryd.prog Tryd.f25) E)
    (hden : den Tryd.prog (fun c H' => R (.panicked c) H') fm_lex_lexer__text E H [] (fun ve E' H' _ => R (.returned (evV E' (fun _ => 0) ve)) H')) : Tri Tryd.prog 25 args H R :=
  execF_tri (op := { pub := [], nojoin := false }) Tryd.func25 hE hargs (by rw [fm_lex_lexer__text_eq]; exact hden)

/-- (*scrimshaw/lex.lexer).plain -/
abbrev n_lex_lexer__plain : FuncId := 26
def fm_lex_lexer__plain : Fm VE :=
 (.chk [] (.some (.atom 0))
 (.load (.padd (.atom 0) 1) [.int .i64]
 (.call (.fn 36) [(.sc (.atom 0)), (.sc (.atom 1))] (.sc (.str)) []
 (.load (.padd (.atom 0) 1) [.int .i64]
 (.store (.padd (.atom 0) 1) [(.ar .add .i64 (.atom 3) (.slen (.atom 2)))]
 (.ite (.scmp .eql (.atom 2) (.str []))
  (.leaf (.tu [(true, [(.int .i64 0), (.str []), (.int .i64 0), (.int .i64 0), (.int .i64 0)]), (false, [(.int .i64 30)])]))
  (.ite (.scmp .eql (.atom 2) (.str [46]))
   (.leaf (.tu [(true, [(.int .i64 4), (.str []), (.int .i64 0), (.int .i64 0), (.int .i64 0)]), (false, [(.int .i64 0)])]))
   (.join 8 [.bool]
    (.ite (.atom 4)
     (.call (.fn 41) [(.sc (.atom 2))] (.tu [(false, [.int .i64]), (false, [.any])]) []
     (.sem (.binOp .neq 65 (.tmp 58) (.const .nilIface) 65) 4 [(58, (.sc (.atom 6)))] (.sc (.bool)) []
     (.ite (.pick (.pick (.atom 7) (.bool true) (.cmp .gtr (.atom 5) (.int .i64 1152921504606846975))) (.bool true) (.cmp .lss (.atom 5) (.int .i64 (-1152921504606846976))))
      (.leaf (.tu [(true, [(.int .i64 0), (.str []), (.int .i64 0), (.int .i64 0), (.int .i64 0)]), (false, [(.int .i64 33)])]))
      (.leaf (.tu [(true, [(.int .i64 6), (.str []), (.atom 5), (.int .i64 0), (.int .i64 0)]), (false, [(.int .i64 0)])])))))
     (.ite (.cmp .gtr (.slen (.atom 2)) (.int .i64 64))
      (.leaf (.tu [(true, [(.int .i64 0), (.str []), (.int .i64 0), (.int .i64 0), (.int .i64 0)]), (false, [(.int .i64 36)])]))
      (.leaf (.tu [(true, [(.int .i64 9), (.atom 2), (.int .i64 0), (.int .i64 0), (.int .i64 0)]), (false, [(.int .i64 0)])]))))
    (.chk [] (.sub (.slen (.atom 2)) (.int .i64 1) (.slen (.atom 2)))
    (.call (.fn 40) [(.sc (.ssub (.atom 2) (.int .i64 1) (.slen (.atom 2)))), (.sc (.str [48, 49, 50, 51, 52, 53, 54, 55, 56, 57]))] (.sc (.str)) []
    (.chk [((.scmp .eql (.atom 4) (.str [])), true), ((.cmp .gtr (.slen (.atom 2)) (.int .i64 1)), false)] (.inStr (.atom 2) (.int .i64 0))
    (.chk [((.scmp .eql (.atom 4) (.str [])), true), ((.cmp .gtr (.slen (.atom 2)) (.int .i64 1)), false), ((.cmp .geq (.sidx (.atom 2) (.int .i64 0)) (.int .u8 48)), true)] (.inStr (.atom 2) (.int .i64 0))
    (.chk [((.pick (.scmp .eql (.atom 4) (.str [])) (.pick (.cmp .gtr (.slen (.atom 2)) (.int .i64 1)) (.bool true) (.pick (.cmp .geq (.sidx (.atom 2) (.int .i64 0)) (.int .u8 48)) (.cmp .leq (.sidx (.atom 2) (.int .i64 0)) (.int .u8 57)) (.bool false))) (.bool false)), true)] (.inStr (.atom 2) (.int .i64 0))
    (.ite (.pick (.scmp .eql (.atom 4) (.str [])) (.pick (.cmp .gtr (.slen (.atom 2)) (.int .i64 1)) (.bool true) (.pick (.cmp .geq (.sidx (.atom 2) (.int .i64 0)) (.int .u8 48)) (.cmp .leq (.sidx (.atom 2) (.int .i64 0)) (.int .u8 57)) (.bool false))) (.bool false))
     (.call (.fn 23) [(.sc (.str [43, 45, 48, 49, 50, 51, 52, 53, 54, 55, 56, 57])), (.sc (.sidx (.atom 2) (.int .i64 0)))] (.sc (.int .i64)) []
     (.next 8 [(.cmp .geq (.atom 5) (.int .i64 0))]))
     (.next 8 [(.bool false)])))))))))))))))
theorem fm_lex_lexer__plain_eq : execF Tryd.prog { pub := [], nojoin := false } Tryd.f26 = fm_lex_lexer__plain := by kernel_rfl
theorem cb_lex_lexer__plain : callB Tryd.prog 26 = true := by kernel_rfl
theorem tri_lex_lexer__plain (E : List Value) {args : Array Value} {H : PH} {R : Ending → PH → Prop} (hE : tagsOk ((paramRS Tryd.prog Tryd.f26).flatMap RS.tags) E = true) (hargs : args.toList = packAll (paramRS Tryd.prog Tryd.f26) E)
    (hden : den Tryd.prog (fun c H' => R (.panicked c) H') fm_lex_lexer__plain E H [] (fun ve E' H' _ => R (.returned (evV E' (fun _ => 0) ve)) H')) : Tri Tryd.prog 26 args H R :=
  execF_tri (op := { pub := [], nojoin := false }) Tryd.func26 hE hargs (by rw [fm_lex_lexer__plain_eq]; exact hden)

/-- scrimshaw/scrimshawref03.hash -/
abbrev n_scrimshawref03_hash : FuncId := 27
def fm_scrimshawref03_hash : Fm VE :=
 (.chk [((.cmp .lss (.ar .add .i64 (.atom 1) (.int .i64 1)) (.slen (.atom 0))), true)] (.inStr (.atom 0) (.ar .add .i64 (.atom 1) (.int .i64 1)))
 (.ite (.pick (.cmp .lss (.ar .add .i64 (.atom 1) (.int .i64 1)) (.slen (.atom 0))) (.cmp .eql (.sidx (.atom 0) (.ar .add .i64 (.atom 1) (.int .i64 1))) (.int .u8 40)) (.bool false))
  (.leaf (.tu [(true, [(.int .i64 2), (.str []), (.int .i64 0), (.int .i64 0), (.int .i64 0)]), (false, [(.int .i64 2)]), (false, [(.int .i64 0)])]))
  (.chk [((.cmp .lss (.ar .add .i64 (.atom 1) (.int .i64 2)) (.slen (.atom 0))), true)] (.inStr (.atom 0) (.ar .add .i64 (.atom 1) (.int .i64 1)))
  (.ite (.pick (.cmp .lss (.ar .add .i64 (.atom 1) (.int .i64 2)) (.slen (.atom 0))) (.cmp .eql (.sidx (.atom 0) (.ar .add .i64 (.atom 1) (.int .i64 1))) (.int .u8 92)) (.bool false))
   (.call (.fn 29) [(.sc (.atom 0)), (.sc (.ar .add .i64 (.atom 1) (.int .i64 2)))] (.sc (.int .i64)) []
   (.chk [] (.sub (.slen (.atom 0)) (.ar .add .i64 (.atom 1) (.int .i64 2)) (.ar .add .i64 (.ar .add .i64 (.atom 1) (.int .i64 2)) (.pick (.cmp .lss (.atom 2) (.int .i64 1)) (.int .i64 1) (.atom 2))))
   (.join 11 [.int .i64]
    (.ite (.cmp .lss (.atom 3) (.int .i64 0))
     (.leaf (.tu [(true, [(.int .i64 0), (.str []), (.int .i64 0), (.int .i64 0), (.int .i64 0)]), (false, [(.int .i64 0)]), (false, [(.int .i64 31)])]))
     (.leaf (.tu [(true, [(.int .i64 7), (.str []), (.atom 3), (.int .i64 0), (.int .i64 0)]), (false, [(.ar .add .i64 (.int .i64 2) (.pick (.cmp .lss (.atom 2) (.int .i64 1)) (.int .i64 1) (.atom 2)))]), (false, [(.int .i64 0)])])))
    (.ite (.cmp .eql (.pick (.cmp .lss (.atom 2) (.int .i64 1)) (.int .i64 1) (.atom 2)) (.int .i64 1))
     (.chk [] (.inStr (.ssub (.atom 0) (.ar .add .i64 (.atom 1) (.int .i64 2)) (.ar .add .i64 (.ar .add .i64 (.atom 1) (.int .i64 2)) (.pick (.cmp .lss (.atom 2) (.int .i64 1)) (.int .i64 1) (.atom 2)))) (.int .i64 0))
     (.next 11 [(.conv .i64 (.sidx (.ssub (.atom 0) (.ar .add .i64 (.atom 1) (.int .i64 2)) (.ar .add .i64 (.ar .add .i64 (.atom 1) (.int .i64 2)) (.pick (.cmp .lss (.atom 2) (.int .i64 1)) (.int .i64 1) (.atom 2)))) (.int .i64 0)))]))
     (.ite (.scmp .eql (.ssub (.atom 0) (.ar .add .i64 (.atom 1) (.int .i64 2)) (.ar .add .i64 (.ar .add .i64 (.atom 1) (.int .i64 2)) (.pick (.cmp .lss (.atom 2) (.int .i64 1)) (.int .i64 1) (.atom 2)))) (.str [115, 112, 97, 99, 101]))
      (.next 11 [(.int .i64 32)])
      (.ite (.scmp .eql (.ssub (.atom 0) (.ar .add .i64 (.atom 1) (.int .i64 2)) (.ar .add .i64 (.ar .add .i64 (.atom 1) (.int .i64 2)) (.pick (.cmp .lss (.atom 2) (.int .i64 1)) (.int .i64 1) (.atom 2)))) (.str [110, 101, 119, 108, 105, 110, 101]))
       (.next 11 [(.int .i64 10)])
       (.chk [((.cmp .eql (.pick (.cmp .lss (.atom 2) (.int .i64 1)) (.int .i64 1) (.atom 2)) (.int .i64 3)), true)] (.inStr (.ssub (.atom 0) (.ar .add .i64 (.atom 1) (.int .i64 2)) (.ar .add .i64 (.ar .add .i64 (.atom 1) (.int .i64 2)) (.pick (.cmp .lss (.atom 2) (.int .i64 1)) (.int .i64 1) (.atom 2)))) (.int .i64 0))
       (.ite (.pick (.cmp .eql (.pick (.cmp .lss (.atom 2) (.int .i64 1)) (.int .i64 1) (.atom 2)) (.int .i64 3)) (.cmp .eql (.sidx (.ssub (.atom 0) (.ar .add .i64 (.atom 1) (.int .i64 2)) (.ar .add .i64 (.ar .add .i64 (.atom 1) (.int .i64 2)) (.pick (.cmp .lss (.atom 2) (.int .i64 1)) (.int .i64 1) (.atom 2)))) (.int .i64 0)) (.int .u8 120)) (.bool false))
        (.call (.fn 42) [(.sc (.ssub (.atom 0) (.ar .add .i64 (.atom 1) (.int .i64 2)) (.ar .add .i64 (.ar .add .i64 (.atom 1) (.int .i64 2)) (.pick (.cmp .lss (.atom 2) (.int .i64 1)) (.int .i64 1) (.atom 2))))), (.sc (.int .i64 1))] (.sc (.int .i64)) []
        (.next 11 [(.atom 3)]))
        (.next 11 [(.int .i64 (-1))])))))))))
   (.call (.fn 29) [(.sc (.atom 0)), (.sc (.ar .add .i64 (.atom 1) (.int .i64 1)))] (.sc (.int .i64)) []
   (.chk [((.cmp .eql (.atom 2) (.int .i64 1)), true)] (.inStr (.atom 0) (.ar .add .i64 (.atom 1) (.int .i64 1)))
   (.ite (.pick (.cmp .eql (.atom 2) (.int .i64 1)) (.cmp .eql (.sidx (.atom 0) (.ar .add .i64 (.atom 1) (.int .i64 1))) (.int .u8 116)) (.bool false))
    (.leaf (.tu [(true, [(.int .i64 5), (.str []), (.int .i64 1), (.int .i64 0), (.int .i64 0)]), (false, [(.int .i64 2)]), (false, [(.int .i64 0)])]))
    (.chk [((.cmp .eql (.atom 2) (.int .i64 1)), true)] (.inStr (.atom 0) (.ar .add .i64 (.atom 1) (.int .i64 1)))
    (.ite (.pick (.cmp .eql (.atom 2) (.int .i64 1)) (.cmp .eql (.sidx (.atom 0) (.ar .add .i64 (.atom 1) (.int .i64 1))) (.int .u8 102)) (.bool false))
     (.leaf (.tu [(true, [(.int .i64 5), (.str []), (.int .i64 0), (.int .i64 0), (.int .i64 0)]), (false, [(.int .i64 2)]), (false, [(.int .i64 0)])]))
     (.leaf (.tu [(true, [(.int .i64 0), (.str []), (.int .i64 0), (.int .i64 0), (.int .i64 0)]), (false, [(.int .i64 0)]), (false, [(.int .i64 31)])])))))))))))
theorem fm_scrimshawref03_hash_eq : execF Tryd.prog { pub := [], nojoin := false } Tryd.f27 = fm_scrimshawref03_hash := by kernel_rfl
theorem cb_scrimshawref03_hash : callB Tryd.prog 27 = true := by kernel_rfl
theorem tri_scrimshawref03_hash (E : List Value) {args : Array Value} {H : PH} {R : Ending → PH → Prop} (hE : tagsOk ((paramRS Tryd.prog Tryd.f27).flatMap RS.tags) E = true) (hargs : args.toList = packAll (paramRS Tryd.prog Tryd.f27) E)
    (hden : den Tryd.prog (fun c H' => R (.panicked c) H') fm_scrimshawref03_hash E H [] (fun ve E' H' _ => R (.returned (evV E' (fun _ => 0) ve)) H')) : Tri Tryd.prog 27 args H R :=
  execF_tri (op := { pub := [], nojoin := false }) Tryd.func27 hE hargs (by rw [fm_scrimshawref03_hash_eq]; exact hden)

/-- scrimshaw/scrimshawref03.text -/
abbrev n_scrimshawref03_text : FuncId := 28
def fm_scrimshawref03_text : Fm VE :=
 (.sem (.buildSlice 39 0 #[]) 39 [] (.sc (.sl)) []
 (.join 3 [.int .i64, .int .i64, .sl, .int .i64, .int .i64, .str, .int .i64, .int .i64, .int .i64]
  (.leaf (.tu [(true, [(.int .i64 0), (.str []), (.int .i64 0), (.int .i64 0), (.int .i64 0)]), (false, [(.int .i64 0)]), (false, [(.int .i64 32)])]))
  (.loop 4 [.int .i64, .int .i64, .sl, .int .i64, .int .i64, .str, .int .i64, .int .i64, .int .i64] [(.int .i64 0), (.int .i64 0), (.atom 2), (.ar .add .i64 (.atom 1) (.int .i64 1)), (.int .i64 0), (.str []), (.int .i64 0), (.int .i64 0), (.int .i64 0)]
   (.ite (.cmp .lss (.atom 6) (.slen (.atom 0)))
    (.chk [] (.inStr (.atom 0) (.atom 6))
    (.ite (.cmp .eql (.sidx (.atom 0) (.atom 6)) (.int .u8 34))
     (.sem (.convert 39 9 (.tmp 23)) 9 [(23, (.sc (.atom 5)))] (.sc (.str)) []
     (.leaf (.tu [(true, [(.int .i64 8), (.atom 12), (.int .i64 0), (.int .i64 0), (.int .i64 0)]), (false, [(.ar .sub .i64 (.ar .add .i64 (.atom 6) (.int .i64 1)) (.atom 1))]), (false, [(.int .i64 0)])])))
     (.ite (.cmp .neq (.sidx (.atom 0) (.atom 6)) (.int .u8 92))
      (.sem (.buildSlice 39 1 #[(0, (.tmp 33))]) 39 [(33, (.sc (.sidx (.atom 0) (.atom 6))))] (.sc (.sl)) []
      (.sem (.call ⟨.builtin .append, #[(.tmp 32), (.tmp 34)], #[39, 39]⟩) 39 [(32, (.sc (.atom 5))), (34, (.sc (.atom 12)))] (.sc (.sl)) []
      (.next 4 [(.atom 3), (.atom 4), (.atom 13), (.ar .add .i64 (.atom 6) (.int .i64 1)), (.atom 7), (.atom 8), (.atom 9), (.atom 10), (.atom 11)])))
      (.ite (.cmp .geq (.ar .add .i64 (.atom 6) (.int .i64 1)) (.slen (.atom 0)))
       (.next 3 [(.atom 3), (.atom 4), (.atom 5), (.atom 6), (.atom 7), (.atom 8), (.atom 9), (.atom 10), (.atom 11)])
       (.call (.fn 42) [(.sc (.atom 0)), (.sc (.ar .add .i64 (.atom 6) (.int .i64 2)))] (.sc (.int .i64)) []
       (.chk [] (.inStr (.atom 0) (.ar .add .i64 (.atom 6) (.int .i64 1)))
       (.chk [((.cmp .eql (.sidx (.atom 0) (.ar .add .i64 (.atom 6) (.int .i64 1))) (.int .u8 34)), false)] (.inStr (.atom 0) (.ar .add .i64 (.atom 6) (.int .i64 1)))
       (.ite (.pick (.cmp .eql (.sidx (.atom 0) (.ar .add .i64 (.atom 6) (.int .i64 1))) (.int .u8 34)) (.bool true) (.cmp .eql (.sidx (.atom 0) (.ar .add .i64 (.atom 6) (.int .i64 1))) (.int .u8 92)))
        (.chk [] (.inStr (.atom 0) (.ar .add .i64 (.atom 6) (.int .i64 1)))
        (.sem (.buildSlice 39 1 #[(0, (.tmp 65))]) 39 [(65, (.sc (.sidx (.atom 0) (.ar .add .i64 (.atom 6) (.int .i64 1)))))] (.sc (.sl)) []
        (.sem (.call ⟨.builtin .append, #[(.tmp 61), (.tmp 66)], #[39, 39]⟩) 39 [(61, (.sc (.atom 5))), (66, (.sc (.atom 13)))] (.sc (.sl)) []
        (.next 4 [(.atom 3), (.atom 4), (.atom 14), (.ar .add .i64 (.atom 6) (.int .i64 2)), (.atom 7), (.atom 8), (.atom 9), (.atom 10), (.atom 11)]))))
        (.chk [] (.inStr (.atom 0) (.ar .add .i64 (.atom 6) (.int .i64 1)))
        (.ite (.cmp .eql (.sidx (.atom 0) (.ar .add .i64 (.atom 6) (.int .i64 1))) (.int .u8 110))
         (.sem (.buildSlice 39 1 #[(0, (.const (.int .u8 10)))]) 39 [] (.sc (.sl)) []
         (.sem (.call ⟨.builtin .append, #[(.tmp 76), (.tmp 77)], #[39, 39]⟩) 39 [(76, (.sc (.atom 5))), (77, (.sc (.atom 13)))] (.sc (.sl)) []
         (.next 4 [(.atom 3), (.atom 4), (.atom 14), (.ar .add .i64 (.atom 6) (.int .i64 2)), (.atom 7), (.atom 8), (.atom 9), (.atom 10), (.atom 11)])))
         (.chk [] (.inStr (.atom 0) (.ar .add .i64 (.atom 6) (.int .i64 1)))
         (.ite (.pick (.cmp .eql (.sidx (.atom 0) (.ar .add .i64 (.atom 6) (.int .i64 1))) (.int .u8 120)) (.cmp .geq (.atom 12) (.int .i64 0)) (.bool false))
          (.sem (.buildSlice 39 1 #[(0, (.tmp 93))]) 39 [(93, (.sc (.conv .u8 (.atom 12))))] (.sc (.sl)) []
          (.sem (.call ⟨.builtin .append, #[(.tmp 91), (.tmp 94)], #[39, 39]⟩) 39 [(91, (.sc (.atom 5))), (94, (.sc (.atom 13)))] (.sc (.sl)) []
          (.next 4 [(.atom 3), (.atom 4), (.atom 14), (.ar .add .i64 (.atom 6) (.int .i64 4)), (.atom 7), (.atom 8), (.atom 9), (.atom 10), (.atom 11)])))
          (.leaf (.tu [(true, [(.int .i64 0), (.str []), (.int .i64 0), (.int .i64 0), (.int .i64 0)]), (false, [(.int .i64 0)]), (false, [(.int .i64 32)])]))))))))))))))
    (.next 3 [(.atom 3), (.atom 4), (.atom 5), (.atom 6), (.atom 7), (.atom 8), (.atom 9), (.atom 10), (.atom 11)])))))
theorem fm_scrimshawref03_text_eq : execF Tryd.prog { pub := [], nojoin := false } Tryd.f28 = fm_scrimshawref03_text := by kernel_rfl
theorem cb_scrimshawref03_text : callB Tryd.prog 28 = true := by kernel_rfl
theorem tri_scrimshawref03_text (E : List Value) {args : Array Value} {H : PH} {R : Ending → PH → Prop} (hE : tagsOk ((paramRS Tryd.prog Tryd.f28).flatMap RS.tags) E = true) (hargs : args.toList = packAll (paramRS Tryd.prog Tryd.f28) E)
    (hden : den Tryd.prog (fun c H' => R (.panicked c) H') fm_scrimshawref03_text E H [] (fun ve E' H' _ => R (.returned (evV E' (fun _ => 0) ve)) H')) : Tri Tryd.prog 28 args H R :=
  execF_tri (op := { pub := [], nojoin := false }) Tryd.func28 hE hargs (by rw [fm_scrimshawref03_text_eq]; exact hden)

/-- scrimshaw/scrimshawref03.Word -/
abbrev n_scrimshawref03_Word : FuncId := 29
def fm_scrimshawref03_Word : Fm VE :=
 (.loop 3 [.int .i64] [(.int .i64 0)]
  (.join 5 [.bool]
   (.ite (.atom 3)
    (.next 3 [(.ar .add .i64 (.atom 2) (.int .i64 1))])
    (.leaf (.sc (.atom 2))))
   (.chk [((.cmp .lss (.ar .add .i64 (.atom 1) (.atom 2)) (.slen (.atom 0))), true)] (.inStr (.atom 0) (.ar .add .i64 (.atom 1) (.atom 2)))
   (.ite (.cmp .lss (.ar .add .i64 (.atom 1) (.atom 2)) (.slen (.atom 0)))
    (.call (.fn 22) [(.sc (.sidx (.atom 0) (.ar .add .i64 (.atom 1) (.atom 2))))] (.sc (.bool)) []
    (.next 5 [(.atom 3)]))
    (.next 5 [(.bool false)])))))
theorem fm_scrimshawref03_Word_eq : execF Tryd.prog { pub := [], nojoin := false } Tryd.f29 = fm_scrimshawref03_Word := by kernel_rfl
theorem cb_scrimshawref03_Word : callB Tryd.prog 29 = true := by kernel_rfl
theorem tri_scrimshawref03_Word (E : List Value) {args : Array Value} {H : PH} {R : Ending → PH → Prop} (hE : tagsOk ((paramRS Tryd.prog Tryd.f29).flatMap RS.tags) E = true) (hargs : args.toList = packAll (paramRS Tryd.prog Tryd.f29) E)
    (hden : den Tryd.prog (fun c H' => R (.panicked c) H') fm_scrimshawref03_Word E H [] (fun ve E' H' _ => R (.returned (evV E' (fun _ => 0) ve)) H')) : Tri Tryd.prog 29 args H R :=
  execF_tri (op := { pub := [], nojoin := false }) Tryd.func29 hE hargs (by rw [fm_scrimshawref03_Word_eq]; exact hden)

/-- scrimshaw/scrimshawref03.word -/
abbrev n_scrimshawref03_word : FuncId := 30
def fm_scrimshawref03_word : Fm VE :=
 (.ite (.scmp .eql (.atom 0) (.str [46]))
  (.leaf (.tu [(true, [(.int .i64 4), (.str []), (.int .i64 0), (.int .i64 0), (.int .i64 0)]), (false, [(.int .i64 0)])]))
  (.call (.fn 21) [(.sc (.atom 0))] (.sc (.bool)) []
  (.ite (.atom 1)
   (.call (.fn 43) [(.sc (.atom 0))] (.tu [(false, [.int .i64]), (false, [.bool])]) []
   (.ite (.not (.atom 3))
    (.leaf (.tu [(true, [(.int .i64 0), (.str []), (.int .i64 0), (.int .i64 0), (.int .i64 0)]), (false, [(.int .i64 33)])]))
    (.leaf (.tu [(true, [(.int .i64 6), (.str []), (.atom 2), (.int .i64 0), (.int .i64 0)]), (false, [(.int .i64 0)])]))))
   (.ite (.cmp .gtr (.slen (.atom 0)) (.int .i64 64))
    (.leaf (.tu [(true, [(.int .i64 0), (.str []), (.int .i64 0), (.int .i64 0), (.int .i64 0)]), (false, [(.int .i64 36)])]))
    (.leaf (.tu [(true, [(.int .i64 9), (.atom 0), (.int .i64 0), (.int .i64 0), (.int .i64 0)]), (false, [(.int .i64 0)])]))))))
theorem fm_scrimshawref03_word_eq : execF Tryd.prog { pub := [], nojoin := false } Tryd.f30 = fm_scrimshawref03_word := by kernel_rfl
theorem cb_scrimshawref03_word : callB Tryd.prog 30 = true := by kernel_rfl
theorem tri_scrimshawref03_word (E : List Value) {args : Array Value} {H : PH} {R : Ending → PH → Prop} (hE : tagsOk ((paramRS Tryd.prog Tryd.f30).flatMap RS.tags) E = true) (hargs : args.toList = packAll (paramRS Tryd.prog Tryd.f30) E)
    (hden : den Tryd.prog (fun c H' => R (.panicked c) H') fm_scrimshawref03_word E H [] (fun ve E' H' _ => R (.returned (evV E' (fun _ => 0) ve)) H')) : Tri Tryd.prog 30 args H R :=
  execF_tri (op := { pub := [], nojoin := false }) Tryd.func30 hE hargs (by rw [fm_scrimshawref03_word_eq]; exact hden)

/-- scrimshaw/data.Check -/
abbrev n_data_Check : FuncId := 31
def fm_data_Check : Fm VE :=
 (.new 72 [(.int .i64 0)]
 (.call (.fn 44) [(.sc (.atom 4)), (.ag [(.atom 0), (.atom 1), (.atom 2), (.atom 3)]), (.sc (.int .i64 0))] (.sc (.int .i64)) []
 (.leaf (.sc (.atom 5)))))
theorem fm_data_Check_eq : execF Tryd.prog { pub := [3], nojoin := false } Tryd.f31 = fm_data_Check := by kernel_rfl
theorem cb_data_Check : callB Tryd.prog 31 = true := by kernel_rfl
theorem tri_data_Check (E : List Value) {args : Array Value} {H : PH} {R : Ending → PH → Prop} (hE : tagsOk ((paramRS Tryd.prog Tryd.f31).flatMap RS.tags) E = true) (hargs : args.toList = packAll (paramRS Tryd.prog Tryd.f31) E)
    (hden : den Tryd.prog (fun c H' => R (.panicked c) H') fm_data_Check E H [] (fun ve E' H' _ => R (.returned (evV E' (fun _ => 0) ve)) H')) : Tri Tryd.prog 31 args H R :=
  execF_tri (op := { pub := [3], nojoin := false }) Tryd.func31 hE hargs (by rw [fm_data_Check_eq]; exact hden)

/-- (*scrimshaw/data.writer).datum -/
abbrev n_data_writer__datum : FuncId := 32
def fm_data_writer__datum : Fm VE :=
 (.ite (.cmp .eql (.atom 1) (.int .i64 0))
  (.chk [] (.some (.atom 0))
  (.load (.padd (.atom 0) 0) [.sl]
  (.chk [] (.inStr (.str [102, 116]) (.atom 2))
  (.sem (.buildSlice 39 2 #[(0, (.const (.int .u8 35))), (1, (.tmp 18))]) 39 [(18, (.sc (.sidx (.str [102, 116]) (.atom 2))))] (.sc (.sl)) [((.padd (.atom 0) 0), [(.atom 5)])]
  (.sem (.call ⟨.builtin .append, #[(.tmp 15), (.tmp 19)], #[39, 39]⟩) 39 [(15, (.sc (.atom 5))), (19, (.sc (.atom 6)))] (.sc (.sl)) []
  (.store (.padd (.atom 0) 0) [(.atom 7)]
  (.leaf (.tu []))))))))
  (.ite (.cmp .eql (.atom 1) (.int .i64 1))
   (.chk [] (.some (.atom 0))
   (.load (.padd (.atom 0) 0) [.sl]
   (.call (.fn 45) [(.sc (.atom 5)), (.sc (.atom 2)), (.sc (.int .i64 10))] (.sc (.sl)) []
   (.store (.padd (.atom 0) 0) [(.atom 6)]
   (.leaf (.tu []))))))
   (.ite (.cmp .eql (.atom 1) (.int .i64 2))
    (.call (.fn 46) [(.sc (.atom 0)), (.sc (.conv .u8 (.atom 2)))] (.tu []) []
    (.leaf (.tu [])))
    (.ite (.cmp .eql (.atom 1) (.int .i64 3))
     (.call (.fn 47) [(.sc (.atom 0)), (.sc (.atom 3))] (.tu []) []
     (.leaf (.tu [])))
     (.ite (.cmp .eql (.atom 1) (.int .i64 4))
      (.chk [] (.some (.atom 0))
      (.load (.padd (.atom 0) 0) [.sl]
      (.sem (.call ⟨.builtin .append, #[(.tmp 54), (.tmp 56)], #[39, 9]⟩) 39 [(54, (.sc (.atom 5))), (56, (.sc (.atom 3)))] (.sc (.sl)) []
      (.store (.padd (.atom 0) 0) [(.atom 6)]
      (.leaf (.tu []))))))
      (.ite (.cmp .eql (.atom 1) (.int .i64 7))
       (.chk [] (.some (.atom 0))
       (.load (.padd (.atom 0) 0) [.sl]
       (.sem (.buildSlice 39 1 #[(0, (.const (.int .u8 35)))]) 39 [] (.sc (.sl)) []
       (.sem (.call ⟨.builtin .append, #[(.tmp 66), (.tmp 67)], #[39, 39]⟩) 39 [(66, (.sc (.atom 5))), (67, (.sc (.atom 6)))] (.sc (.sl)) []
       (.store (.padd (.atom 0) 0) [(.atom 7)]
       (.call (.fn 48) [(.sc (.atom 0)), (.ag [(.atom 1), (.atom 2), (.atom 3), (.atom 4)])] (.tu []) []
       (.leaf (.tu []))))))))
       (.call (.fn 48) [(.sc (.atom 0)), (.ag [(.atom 1), (.atom 2), (.atom 3), (.atom 4)])] (.tu []) []
       (.leaf (.tu [])))))))))
theorem fm_data_writer__datum_eq : execF Tryd.prog { pub := [], nojoin := false } Tryd.f32 = fm_data_writer__datum := by kernel_rfl
theorem cb_data_writer__datum : callB Tryd.prog 32 = true := by kernel_rfl
theorem tri_data_writer__datum (E : List Value) {args : Array Value} {H : PH} {R : Ending → PH → Prop} (hE : tagsOk ((paramRS Tryd.prog Tryd.f32).flatMap RS.tags) E = true) (hargs : args.toList = packAll (paramRS Tryd.prog Tryd.f32) E)
    (hden : den Tryd.prog (fun c H' => R (.panicked c) H') fm_data_writer__datum E H [] (fun ve E' H' _ => R (.returned (evV E' (fun _ => 0) ve)) H')) : Tri Tryd.prog 32 args H R :=
  execF_tri (op := { pub := [], nojoin := false }) Tryd.func32 hE hargs (by rw [fm_data_writer__datum_eq]; exact hden)

/-- scrimshaw/scrimshawref02.Digit -/
abbrev n_scrimshawref02_Digit : FuncId := 33
def fm_scrimshawref02_Digit : Fm VE :=
 (.leaf (.sc (.pick (.cmp .geq (.atom 0) (.int .u8 48)) (.cmp .leq (.atom 0) (.int .u8 57)) (.bool false))))
theorem fm_scrimshawref02_Digit_eq : execF Tryd.prog { pub := [], nojoin := false } Tryd.f33 = fm_scrimshawref02_Digit := by kernel_rfl
theorem cb_scrimshawref02_Digit : callB Tryd.prog 33 = true := by kernel_rfl
theorem tri_scrimshawref02_Digit (E : List Value) {args : Array Value} {H : PH} {R : Ending → PH → Prop} (hE : tagsOk ((paramRS Tryd.prog Tryd.f33).flatMap RS.tags) E = true) (hargs : args.toList = packAll (paramRS Tryd.prog Tryd.f33) E)
    (hden : den Tryd.prog (fun c H' => R (.panicked c) H') fm_scrimshawref02_Digit E H [] (fun ve E' H' _ => R (.returned (evV E' (fun _ => 0) ve)) H')) : Tri Tryd.prog 33 args H R :=
  execF_tri (op := { pub := [], nojoin := false }) Tryd.func33 hE hargs (by rw [fm_scrimshawref02_Digit_eq]; exact hden)

/-- strings.HasPrefix -/
abbrev n_strings_HasPrefix : FuncId := 35
def fm_strings_HasPrefix : Fm VE :=
 (.call (.fn 50) [(.sc (.atom 0)), (.sc (.atom 1))] (.sc (.bool)) []
 (.leaf (.sc (.atom 2))))
theorem fm_strings_HasPrefix_eq : execF Tryd.prog { pub := [], nojoin := false } Tryd.f35 = fm_strings_HasPrefix := by kernel_rfl
theorem cb_strings_HasPrefix : callB Tryd.prog 35 = true := by kernel_rfl
theorem tri_strings_HasPrefix (E : List Value) {args : Array Value} {H : PH} {R : Ending → PH → Prop} (hE : tagsOk ((paramRS Tryd.prog Tryd.f35).flatMap RS.tags) E = true) (hargs : args.toList = packAll (paramRS Tryd.prog Tryd.f35) E)
    (hden : den Tryd.prog (fun c H' => R (.panicked c) H') fm_strings_HasPrefix E H [] (fun ve E' H' _ => R (.returned (evV E' (fun _ => 0) ve)) H')) : Tri Tryd.prog 35 args H R :=
  execF_tri (op := { pub := [], nojoin := false }) Tryd.func35 hE hargs (by rw [fm_strings_HasPrefix_eq]; exact hden)

/-- (*scrimshaw/lex.lexer).word -/
abbrev n_lex_lexer__word : FuncId := 36
def fm_lex_lexer__word : Fm VE :=
 (.loop 3 [.int .i64] [(.atom 1)]
  (.join 5 [.bool]
   (.ite (.atom 3)
    (.next 3 [(.ar .add .i64 (.atom 2) (.int .i64 1))])
    (.chk [] (.some (.atom 0))
    (.load (.padd (.atom 0) 0) [.str]
    (.chk [] (.sub (.slen (.atom 4)) (.atom 1) (.atom 2))
    (.leaf (.sc (.ssub (.atom 4) (.atom 1) (.atom 2))))))))
   (.chk [] (.some (.atom 0))
   (.load (.padd (.atom 0) 0) [.str]
   (.ite (.cmp .lss (.atom 2) (.slen (.atom 3)))
    (.load (.padd (.atom 0) 0) [.str]
    (.chk [] (.inStr (.atom 4) (.atom 2))
    (.call (.fn 51) [(.sc (.sidx (.atom 4) (.atom 2)))] (.sc (.bool)) []
    (.next 5 [(.atom 5)]))))
    (.next 5 [(.bool false)]))))))
theorem fm_lex_lexer__word_eq : execF Tryd.prog { pub := [], nojoin := false } Tryd.f36 = fm_lex_lexer__word := by kernel_rfl
theorem cb_lex_lexer__word : callB Tryd.prog 36 = true := by kernel_rfl
theorem tri_lex_lexer__word (E : List Value) {args : Array Value} {H : PH} {R : Ending → PH → Prop} (hE : tagsOk ((paramRS Tryd.prog Tryd.f36).flatMap RS.tags) E = true) (hargs : args.toList = packAll (paramRS Tryd.prog Tryd.f36) E)
    (hden : den Tryd.prog (fun c H' => R (.panicked c) H') fm_lex_lexer__word E H [] (fun ve E' H' _ => R (.returned (evV E' (fun _ => 0) ve)) H')) : Tri Tryd.prog 36 args H R :=
  execF_tri (op := { pub := [], nojoin := false }) Tryd.func36 hE hargs (by rw [fm_lex_lexer__word_eq]; exact hden)

/-- scrimshaw/lex.char -/
abbrev n_lex_char : FuncId := 37
def fm_lex_char : Fm VE :=
 (.ite (.cmp .eql (.slen (.atom 0)) (.int .i64 1))
  (.chk [] (.inStr (.atom 0) (.int .i64 0))
  (.leaf (.sc (.conv .i64 (.sidx (.atom 0) (.int .i64 0))))))
  (.ite (.scmp .eql (.atom 0) (.str [115, 112, 97, 99, 101]))
   (.leaf (.sc (.int .i64 32)))
   (.ite (.scmp .eql (.atom 0) (.str [110, 101, 119, 108, 105, 110, 101]))
    (.leaf (.sc (.int .i64 10)))
    (.chk [((.cmp .eql (.slen (.atom 0)) (.int .i64 3)), true)] (.inStr (.atom 0) (.int .i64 0))
    (.ite (.pick (.cmp .eql (.slen (.atom 0)) (.int .i64 3)) (.cmp .eql (.sidx (.atom 0) (.int .i64 0)) (.int .u8 120)) (.bool false))
     (.chk [] (.sub (.slen (.atom 0)) (.int .i64 1) (.slen (.atom 0)))
     (.call (.fn 52) [(.sc (.ssub (.atom 0) (.int .i64 1) (.slen (.atom 0))))] (.sc (.int .i64)) []
     (.leaf (.sc (.atom 1)))))
     (.leaf (.sc (.int .i64 (-1)))))))))
theorem fm_lex_char_eq : execF Tryd.prog { pub := [], nojoin := false } Tryd.f37 = fm_lex_char := by kernel_rfl
theorem cb_lex_char : callB Tryd.prog 37 = true := by kernel_rfl
theorem tri_lex_char (E : List Value) {args : Array Value} {H : PH} {R : Ending → PH → Prop} (hE : tagsOk ((paramRS Tryd.prog Tryd.f37).flatMap RS.tags) E = true) (hargs : args.toList = packAll (paramRS Tryd.prog Tryd.f37) E)
    (hden : den Tryd.prog (fun c H' => R (.panicked c) H') fm_lex_char E H [] (fun ve E' H' _ => R (.returned (evV E' (fun _ => 0) ve)) H')) : Tri Tryd.prog 37 args H R :=
  execF_tri (op := { pub := [], nojoin := false }) Tryd.func37 hE hargs (by rw [fm_lex_char_eq]; exact hden)

/-- strings.Index -/
abbrev n_strings_Index : FuncId := 38
def fm_strings_Index : Fm VE :=
 (.call (.fn 53) [(.sc (.atom 0)), (.sc (.atom 1))] (.sc (.int .i64)) []
 (.leaf (.sc (.atom 2))))
theorem fm_strings_Index_eq : execF Tryd.prog { pub := [], nojoin := false } Tryd.f38 = fm_strings_Index := by kernel_rfl
theorem cb_strings_Index : callB Tryd.prog 38 = true := by kernel_rfl
theorem tri_strings_Index (E : List Value) {args : Array Value} {H : PH} {R : Ending → PH → Prop} (hE : tagsOk ((paramRS Tryd.prog Tryd.f38).flatMap RS.tags) E = true) (hargs : args.toList = packAll (paramRS Tryd.prog Tryd.f38) E)
    (hden : den Tryd.prog (fun c H' => R (.panicked c) H') fm_strings_Index E H [] (fun ve E' H' _ => R (.returned (evV E' (fun _ => 0) ve)) H')) : Tri Tryd.prog 38 args H R :=
  execF_tri (op := { pub := [], nojoin := false }) Tryd.func38 hE hargs (by rw [fm_strings_Index_eq]; exact hden)

/-- scrimshaw/lex.escape -/
abbrev n_lex_escape : FuncId := 39
def fm_lex_escape : Fm VE :=
 (.ite (.scmp .eql (.atom 0) (.str []))
  (.leaf (.tu [(false, [(.int .u8 0)]), (false, [(.int .i64 0)])]))
  (.join 3 []
   (.leaf (.tu [(false, [(.int .u8 0)]), (false, [(.int .i64 0)])]))
   (.chk [] (.inStr (.atom 0) (.int .i64 0))
   (.ite (.pick (.cmp .eql (.sidx (.atom 0) (.int .i64 0)) (.int .u8 34)) (.cmp .eql (.sidx (.atom 0) (.int .i64 0)) (.int .u8 34)) (.cmp .eql (.sidx (.atom 0) (.int .i64 0)) (.int .u8 92)))
    (.chk [] (.inStr (.atom 0) (.int .i64 0))
    (.leaf (.tu [(false, [(.sidx (.atom 0) (.int .i64 0))]), (false, [(.int .i64 1)])])))
    (.ite (.cmp .eql (.sidx (.atom 0) (.int .i64 0)) (.int .u8 110))
     (.leaf (.tu [(false, [(.int .u8 10)]), (false, [(.int .i64 1)])]))
     (.ite (.cmp .eql (.sidx (.atom 0) (.int .i64 0)) (.int .u8 120))
      (.chk [] (.sub (.slen (.atom 0)) (.int .i64 1) (.slen (.atom 0)))
      (.call (.fn 52) [(.sc (.ssub (.atom 0) (.int .i64 1) (.slen (.atom 0))))] (.sc (.int .i64)) []
      (.ite (.cmp .geq (.atom 1) (.int .i64 0))
       (.leaf (.tu [(false, [(.conv .u8 (.atom 1))]), (false, [(.int .i64 3)])]))
       (.next 3 []))))
      (.next 3 [])))))))
theorem fm_lex_escape_eq : execF Tryd.prog { pub := [], nojoin := false } Tryd.f39 = fm_lex_escape := by kernel_rfl
theorem cb_lex_escape : callB Tryd.prog 39 = true := by kernel_rfl
theorem tri_lex_escape (E : List Value) {args : Array Value} {H : PH} {R : Ending → PH → Prop} (hE : tagsOk ((paramRS Tryd.prog Tryd.f39).flatMap RS.tags) E = true) (hargs : args.toList = packAll (paramRS Tryd.prog Tryd.f39) E)
    (hden : den Tryd.prog (fun c H' => R (.panicked c) H') fm_lex_escape E H [] (fun ve E' H' _ => R (.returned (evV E' (fun _ => 0) ve)) H')) : Tri Tryd.prog 39 args H R :=
  execF_tri (op := { pub := [], nojoin := false }) Tryd.func39 hE hargs (by rw [fm_lex_escape_eq]; exact hden)

/-- strconv.Atoi -/
abbrev n_strconv_Atoi : FuncId := 41
def fm_strconv_Atoi : Fm VE :=
 (.call (.fn 61) [(.sc (.atom 0))] (.tu [(false, [.int .i64]), (false, [.any])]) []
 (.sem (.binOp .neq 65 (.tmp 11) (.const .nilIface) 65) 4 [(11, (.sc (.atom 2)))] (.sc (.bool)) []
 (.ite (.atom 3)
  (.call (.fn 62) [(.sc (.str [65, 116, 111, 105])), (.sc (.atom 0)), (.sc (.int .i64 0)), (.sc (.int .i64 0)), (.sc (.atom 2))] (.sc (.any)) []
  (.leaf (.tu [(false, [(.atom 1)]), (false, [(.atom 4)])])))
  (.leaf (.tu [(false, [(.atom 1)]), (false, [(.nil 4)])])))))
theorem fm_strconv_Atoi_eq : execF Tryd.prog { pub := [], nojoin := false } Tryd.f41 = fm_strconv_Atoi := by kernel_rfl
theorem cb_strconv_Atoi : callB Tryd.prog 41 = true := by kernel_rfl
theorem tri_strconv_Atoi (E : List Value) {args : Array Value} {H : PH} {R : Ending → PH → Prop} (hE : tagsOk ((paramRS Tryd.prog Tryd.f41).flatMap RS.tags) E = true) (hargs : args.toList = packAll (paramRS Tryd.prog Tryd.f41) E)
    (hden : den Tryd.prog (fun c H' => R (.panicked c) H') fm_strconv_Atoi E H [] (fun ve E' H' _ => R (.returned (evV E' (fun _ => 0) ve)) H')) : Tri Tryd.prog 41 args H R :=
  execF_tri (op := { pub := [], nojoin := false }) Tryd.func41 hE hargs (by rw [fm_strconv_Atoi_eq]; exact hden)

/-- scrimshaw/scrimshawref03.two -/
abbrev n_scrimshawref03_two : FuncId := 42
def fm_scrimshawref03_two : Fm VE :=
 (.ite (.cmp .gtr (.ar .add .i64 (.atom 1) (.int .i64 2)) (.slen (.atom 0)))
  (.leaf (.sc (.int .i64 (-1))))
  (.chk [] (.inStr (.atom 0) (.atom 1))
  (.call (.fn 63) [(.sc (.sidx (.atom 0) (.atom 1)))] (.sc (.int .i64)) []
  (.chk [] (.inStr (.atom 0) (.ar .add .i64 (.atom 1) (.int .i64 1)))
  (.call (.fn 63) [(.sc (.sidx (.atom 0) (.ar .add .i64 (.atom 1) (.int .i64 1))))] (.sc (.int .i64)) []
  (.ite (.pick (.cmp .lss (.atom 2) (.int .i64 0)) (.bool true) (.cmp .lss (.atom 3) (.int .i64 0)))
   (.leaf (.sc (.int .i64 (-1))))
   (.leaf (.sc (.ar .add .i64 (.ar .mul .i64 (.int .i64 16) (.atom 2)) (.atom 3))))))))))
theorem fm_scrimshawref03_two_eq : execF Tryd.prog { pub := [], nojoin := false } Tryd.f42 = fm_scrimshawref03_two := by kernel_rfl
theorem cb_scrimshawref03_two : callB Tryd.prog 42 = true := by kernel_rfl
theorem tri_scrimshawref03_two (E : List Value) {args : Array Value} {H : PH} {R : Ending → PH → Prop} (hE : tagsOk ((paramRS Tryd.prog Tryd.f42).flatMap RS.tags) E = true) (hargs : args.toList = packAll (paramRS Tryd.prog Tryd.f42) E)
    (hden : den Tryd.prog (fun c H' => R (.panicked c) H') fm_scrimshawref03_two E H [] (fun ve E' H' _ => R (.returned (evV E' (fun _ => 0) ve)) H')) : Tri Tryd.prog 42 args H R :=
  execF_tri (op := { pub := [], nojoin := false }) Tryd.func42 hE hargs (by rw [fm_scrimshawref03_two_eq]; exact hden)

/-- scrimshaw/scrimshawref03.Number -/
abbrev n_scrimshawref03_Number : FuncId := 43
def fm_scrimshawref03_Number : Fm VE :=
 (.loop 5 [.int .i64, .bool, .int .i64, .bool, .int .i64] [(.int .i64 0), (.bool false), (.int .i64 0), (.bool false), (.int .i64 0)]
  (.ite (.cmp .lss (.atom 5) (.slen (.atom 0)))
   (.join 8 [.int .i64, .bool]
    (.next 5 [(.atom 1), (.atom 2), (.atom 6), (.atom 7), (.ar .add .i64 (.atom 5) (.int .i64 1))])
    (.chk [] (.inStr (.atom 0) (.atom 5))
    (.call (.fn 33) [(.sc (.sidx (.atom 0) (.atom 5)))] (.sc (.bool)) []
    (.ite (.not (.atom 6))
     (.chk [] (.inStr (.atom 0) (.atom 5))
     (.next 8 [(.atom 3), (.cmp .eql (.sidx (.atom 0) (.atom 5)) (.int .u8 45))]))
     (.chk [] (.inStr (.atom 0) (.atom 5))
     (.ite (.cmp .lss (.atom 3) (.ar .quo .i64 (.ar .add .i64 (.int .i64 (-1152921504606846976)) (.ar .sub .i64 (.conv .i64 (.sidx (.atom 0) (.atom 5))) (.int .i64 48))) (.int .i64 10)))
      (.leaf (.tu [(false, [(.int .i64 0)]), (false, [(.bool false)])]))
      (.next 8 [(.ar .sub .i64 (.ar .mul .i64 (.int .i64 10) (.atom 3)) (.ar .sub .i64 (.conv .i64 (.sidx (.atom 0) (.atom 5))) (.int .i64 48))), (.atom 4)])))))))
   (.ite (.atom 4)
    (.leaf (.tu [(false, [(.atom 3)]), (false, [(.cmp .geq (.atom 3) (.int .i64 (-1152921504606846976)))])]))
    (.leaf (.tu [(false, [(.ar .sub .i64 (.int .i64 0) (.atom 3))]), (false, [(.cmp .gtr (.atom 3) (.int .i64 (-1152921504606846976)))])])))))
theorem fm_scrimshawref03_Number_eq : execF Tryd.prog { pub := [], nojoin := false } Tryd.f43 = fm_scrimshawref03_Number := by kernel_rfl
theorem cb_scrimshawref03_Number : callB Tryd.prog 43 = true := by kernel_rfl
theorem tri_scrimshawref03_Number (E : List Value) {args : Array Value} {H : PH} {R : Ending → PH → Prop} (hE : tagsOk ((paramRS Tryd.prog Tryd.f43).flatMap RS.tags) E = true) (hargs : args.toList = packAll (paramRS Tryd.prog Tryd.f43) E)
    (hden : den Tryd.prog (fun c H' => R (.panicked c) H') fm_scrimshawref03_Number E H [] (fun ve E' H' _ => R (.returned (evV E' (fun _ => 0) ve)) H')) : Tri Tryd.prog 43 args H R :=
  execF_tri (op := { pub := [], nojoin := false }) Tryd.func43 hE hargs (by rw [fm_scrimshawref03_Number_eq]; exact hden)

/-- (*scrimshaw/data.checker).check -/
abbrev n_data_checker__check : FuncId := 44
def fm_data_checker__check : Fm VE :=
 (.chk [] (.some (.atom 0))
 (.load (.padd (.atom 0) 0) [.int .i64]
 (.ite (.cmp .eql (.atom 6) (.int .i64 4096))
  (.leaf (.sc (.int .i64 22)))
  (.load (.padd (.atom 0) 0) [.int .i64]
  (.store (.padd (.atom 0) 0) [(.ar .add .i64 (.atom 7) (.int .i64 1))]
  (.call (.fn 64) [(.ag [(.atom 1), (.atom 2), (.atom 3), (.atom 4)])] (.sc (.bool)) []
  (.ite (.pick (.atom 8) (.cmp .eql (.atom 5) (.int .i64 32)) (.bool false))
   (.leaf (.sc (.int .i64 21)))
   (.call (.fn 65) [(.ag [(.atom 1), (.atom 2), (.atom 3), (.atom 4)])] (.sc (.bool)) []
   (.ite (.not (.atom 9))
    (.leaf (.sc (.int .i64 20)))
    (.loop 10 [.int .i64, .int .i64] [(.int .i64 0), (.int .i64 0)]
     (.ite (.cmp .lss (.atom 11) (.len (.atom 4)))
      (.chk [] (.inSl (.atom 4) (.atom 11))
      (.load (.elt (.atom 4) (.atom 11) 4) [.int .i64, .int .i64, .str, .sl]
      (.call (.fn 44) [(.sc (.atom 0)), (.ag [(.atom 12), (.atom 13), (.atom 14), (.atom 15)]), (.sc (.ar .add .i64 (.atom 5) (.int .i64 1)))] (.sc (.int .i64)) []
      (.ite (.cmp .neq (.atom 16) (.int .i64 0))
       (.leaf (.sc (.atom 16)))
       (.next 10 [(.atom 10), (.ar .add .i64 (.atom 11) (.int .i64 1))])))))
      (.leaf (.sc (.int .i64 0))))))))))))))
theorem fm_data_checker__check_eq : execF Tryd.prog { pub := [], nojoin := false } Tryd.f44 = fm_data_checker__check := by kernel_rfl
theorem cb_data_checker__check : callB Tryd.prog 44 = true := by kernel_rfl
theorem tri_data_checker__check (E : List Value) {args : Array Value} {H : PH} {R : Ending → PH → Prop} (hE : tagsOk ((paramRS Tryd.prog Tryd.f44).flatMap RS.tags) E = true) (hargs : args.toList = packAll (paramRS Tryd.prog Tryd.f44) E)
    (hden : den Tryd.prog (fun c H' => R (.panicked c) H') fm_data_checker__check E H [] (fun ve E' H' _ => R (.returned (evV E' (fun _ => 0) ve)) H')) : Tri Tryd.prog 44 args H R :=
  execF_tri (op := { pub := [], nojoin := false }) Tryd.func44 hE hargs (by rw [fm_data_checker__check_eq]; exact hden)

/-- strconv.AppendInt -/
abbrev n_strconv_AppendInt : FuncId := 45
def fm_strconv_AppendInt : Fm VE :=
 (.call (.fn 66) [(.sc (.atom 0)), (.sc (.atom 1)), (.sc (.atom 2))] (.sc (.sl)) []
 (.leaf (.sc (.atom 3))))
theorem fm_strconv_AppendInt_eq : execF Tryd.prog { pub := [], nojoin := false } Tryd.f45 = fm_strconv_AppendInt := by kernel_rfl
theorem cb_strconv_AppendInt : callB Tryd.prog 45 = true := by kernel_rfl
theorem tri_strconv_AppendInt (E : List Value) {args : Array Value} {H : PH} {R : Ending → PH → Prop} (hE : tagsOk ((paramRS Tryd.prog Tryd.f45).flatMap RS.tags) E = true) (hargs : args.toList = packAll (paramRS Tryd.prog Tryd.f45) E)
    (hden : den Tryd.prog (fun c H' => R (.panicked c) H') fm_strconv_AppendInt E H [] (fun ve E' H' _ => R (.returned (evV E' (fun _ => 0) ve)) H')) : Tri Tryd.prog 45 args H R :=
  execF_tri (op := { pub := [], nojoin := false }) Tryd.func45 hE hargs (by rw [fm_strconv_AppendInt_eq]; exact hden)

/-- (*scrimshaw/data.writer).char -/
abbrev n_data_writer__char : FuncId := 46
def fm_data_writer__char : Fm VE :=
 (.chk [] (.some (.atom 0))
 (.load (.padd (.atom 0) 1) [.bool]
 (.ite (.atom 2)
  (.load (.padd (.atom 0) 0) [.sl]
  (.sem (.buildSlice 39 1 #[(0, (.tmp 29))]) 39 [(29, (.sc (.atom 1)))] (.sc (.sl)) []
  (.sem (.call ⟨.builtin .append, #[(.tmp 28), (.tmp 30)], #[39, 39]⟩) 39 [(28, (.sc (.atom 3))), (30, (.sc (.atom 4)))] (.sc (.sl)) []
  (.store (.padd (.atom 0) 0) [(.atom 5)]
  (.leaf (.tu []))))))
  (.ite (.cmp .eql (.atom 1) (.int .u8 32))
   (.load (.padd (.atom 0) 0) [.sl]
   (.sem (.call ⟨.builtin .append, #[(.tmp 41), (.const (.string ⟨#[35, 92, 115, 112, 97, 99, 101]⟩))], #[39, 9]⟩) 39 [(41, (.sc (.atom 3)))] (.sc (.sl)) []
   (.store (.padd (.atom 0) 0) [(.atom 4)]
   (.leaf (.tu [])))))
   (.ite (.cmp .eql (.atom 1) (.int .u8 10))
    (.load (.padd (.atom 0) 0) [.sl]
    (.sem (.call ⟨.builtin .append, #[(.tmp 52), (.const (.string ⟨#[35, 92, 110, 101, 119, 108, 105, 110, 101]⟩))], #[39, 9]⟩) 39 [(52, (.sc (.atom 3)))] (.sc (.sl)) []
    (.store (.padd (.atom 0) 0) [(.atom 4)]
    (.leaf (.tu [])))))
    (.ite (.pick (.cmp .gtr (.atom 1) (.int .u8 32)) (.cmp .lss (.atom 1) (.int .u8 127)) (.bool false))
     (.load (.padd (.atom 0) 0) [.sl]
     (.sem (.buildSlice 39 3 #[(0, (.const (.int .u8 35))), (1, (.const (.int .u8 92))), (2, (.tmp 68))]) 39 [(68, (.sc (.atom 1)))] (.sc (.sl)) []
     (.sem (.call ⟨.builtin .append, #[(.tmp 67), (.tmp 69)], #[39, 39]⟩) 39 [(67, (.sc (.atom 3))), (69, (.sc (.atom 4)))] (.sc (.sl)) []
     (.store (.padd (.atom 0) 0) [(.atom 5)]
     (.leaf (.tu []))))))
     (.load (.padd (.atom 0) 0) [.sl]
     (.chk [] (.inStr (.str [48, 49, 50, 51, 52, 53, 54, 55, 56, 57, 97, 98, 99, 100, 101, 102]) (.ar .shr .u8 (.atom 1) (.int .u64 4)))
     (.chk [] (.inStr (.str [48, 49, 50, 51, 52, 53, 54, 55, 56, 57, 97, 98, 99, 100, 101, 102]) (.ar .and .u8 (.atom 1) (.int .u8 15)))
     (.sem (.buildSlice 39 5 #[(0, (.const (.int .u8 35))), (1, (.const (.int .u8 92))), (2, (.const (.int .u8 120))), (3, (.tmp 11)), (4, (.tmp 14))]) 39 [(11, (.sc (.sidx (.str [48, 49, 50, 51, 52, 53, 54, 55, 56, 57, 97, 98, 99, 100, 101, 102]) (.ar .shr .u8 (.atom 1) (.int .u64 4))))), (14, (.sc (.sidx (.str [48, 49, 50, 51, 52, 53, 54, 55, 56, 57, 97, 98, 99, 100, 101, 102]) (.ar .and .u8 (.atom 1) (.int .u8 15)))))] (.sc (.sl)) [((.padd (.atom 0) 0), [(.atom 3)])]
     (.sem (.call ⟨.builtin .append, #[(.tmp 8), (.tmp 15)], #[39, 39]⟩) 39 [(8, (.sc (.atom 3))), (15, (.sc (.atom 4)))] (.sc (.sl)) []
     (.store (.padd (.atom 0) 0) [(.atom 5)]
     (.leaf (.tu []))))))))))))))
theorem fm_data_writer__char_eq : execF Tryd.prog { pub := [], nojoin := false } Tryd.f46 = fm_data_writer__char := by kernel_rfl
theorem cb_data_writer__char : callB Tryd.prog 46 = true := by kernel_rfl
theorem tri_data_writer__char (E : List Value) {args : Array Value} {H : PH} {R : Ending → PH → Prop} (hE : tagsOk ((paramRS Tryd.prog Tryd.f46).flatMap RS.tags) E = true) (hargs : args.toList = packAll (paramRS Tryd.prog Tryd.f46) E)
    (hden : den Tryd.prog (fun c H' => R (.panicked c) H') fm_data_writer__char E H [] (fun ve E' H' _ => R (.returned (evV E' (fun _ => 0) ve)) H')) : Tri Tryd.prog 46 args H R :=
  execF_tri (op := { pub := [], nojoin := false }) Tryd.func46 hE hargs (by rw [fm_data_writer__char_eq]; exact hden)

/-- (*scrimshaw/data.writer).text -/
abbrev n_data_writer__text : FuncId := 47
def fm_data_writer__text : Fm VE :=
 (.chk [] (.some (.atom 0))
 (.load (.padd (.atom 0) 1) [.bool]
 (.ite (.atom 2)
  (.load (.padd (.atom 0) 0) [.sl]
  (.sem (.call ⟨.builtin .append, #[(.tmp 14), (.tmp 15)], #[39, 9]⟩) 39 [(14, (.sc (.atom 3))), (15, (.sc (.atom 1)))] (.sc (.sl)) []
  (.store (.padd (.atom 0) 0) [(.atom 4)]
  (.leaf (.tu [])))))
  (.load (.padd (.atom 0) 0) [.sl]
  (.sem (.buildSlice 39 1 #[(0, (.const (.int .u8 34)))]) 39 [] (.sc (.sl)) []
  (.sem (.call ⟨.builtin .append, #[(.tmp 23), (.tmp 24)], #[39, 39]⟩) 39 [(23, (.sc (.atom 3))), (24, (.sc (.atom 4)))] (.sc (.sl)) []
  (.store (.padd (.atom 0) 0) [(.atom 5)]
  (.loop 5 [.int .i64] [(.int .i64 0)]
   (.ite (.cmp .lss (.atom 6) (.slen (.atom 1)))
    (.join 8 []
     (.next 5 [(.ar .add .i64 (.atom 6) (.int .i64 1))])
     (.chk [] (.inStr (.atom 1) (.atom 6))
     (.ite (.pick (.cmp .eql (.sidx (.atom 1) (.atom 6)) (.int .u8 34)) (.bool true) (.cmp .eql (.sidx (.atom 1) (.atom 6)) (.int .u8 92)))
      (.load (.padd (.atom 0) 0) [.sl]
      (.sem (.buildSlice 39 2 #[(0, (.const (.int .u8 92))), (1, (.tmp 58))]) 39 [(58, (.sc (.sidx (.atom 1) (.atom 6))))] (.sc (.sl)) []
      (.sem (.call ⟨.builtin .append, #[(.tmp 57), (.tmp 59)], #[39, 39]⟩) 39 [(57, (.sc (.atom 7))), (59, (.sc (.atom 8)))] (.sc (.sl)) []
      (.store (.padd (.atom 0) 0) [(.atom 9)]
      (.next 8 [])))))
      (.ite (.cmp .eql (.sidx (.atom 1) (.atom 6)) (.int .u8 10))
       (.load (.padd (.atom 0) 0) [.sl]
       (.sem (.buildSlice 39 2 #[(0, (.const (.int .u8 92))), (1, (.const (.int .u8 110)))]) 39 [] (.sc (.sl)) []
       (.sem (.call ⟨.builtin .append, #[(.tmp 70), (.tmp 71)], #[39, 39]⟩) 39 [(70, (.sc (.atom 7))), (71, (.sc (.atom 8)))] (.sc (.sl)) []
       (.store (.padd (.atom 0) 0) [(.atom 9)]
       (.next 8 [])))))
       (.ite (.pick (.cmp .lss (.sidx (.atom 1) (.atom 6)) (.int .u8 32)) (.bool true) (.cmp .gtr (.sidx (.atom 1) (.atom 6)) (.int .u8 126)))
        (.load (.padd (.atom 0) 0) [.sl]
        (.chk [] (.inStr (.str [48, 49, 50, 51, 52, 53, 54, 55, 56, 57, 97, 98, 99, 100, 101, 102]) (.ar .shr .u8 (.sidx (.atom 1) (.atom 6)) (.int .u64 4)))
        (.chk [] (.inStr (.str [48, 49, 50, 51, 52, 53, 54, 55, 56, 57, 97, 98, 99, 100, 101, 102]) (.ar .and .u8 (.sidx (.atom 1) (.atom 6)) (.int .u8 15)))
        (.sem (.buildSlice 39 4 #[(0, (.const (.int .u8 92))), (1, (.const (.int .u8 120))), (2, (.tmp 89)), (3, (.tmp 92))]) 39 [(89, (.sc (.sidx (.str [48, 49, 50, 51, 52, 53, 54, 55, 56, 57, 97, 98, 99, 100, 101, 102]) (.ar .shr .u8 (.sidx (.atom 1) (.atom 6)) (.int .u64 4))))), (92, (.sc (.sidx (.str [48, 49, 50, 51, 52, 53, 54, 55, 56, 57, 97, 98, 99, 100, 101, 102]) (.ar .and .u8 (.sidx (.atom 1) (.atom 6)) (.int .u8 15)))))] (.sc (.sl)) [((.padd (.atom 0) 0), [(.atom 7)])]
        (.sem (.call ⟨.builtin .append, #[(.tmp 86), (.tmp 93)], #[39, 39]⟩) 39 [(86, (.sc (.atom 7))), (93, (.sc (.atom 8)))] (.sc (.sl)) []
        (.store (.padd (.atom 0) 0) [(.atom 9)]
        (.next 8 [])))))))
        (.load (.padd (.atom 0) 0) [.sl]
        (.sem (.buildSlice 39 1 #[(0, (.tmp 41))]) 39 [(41, (.sc (.sidx (.atom 1) (.atom 6))))] (.sc (.sl)) []
        (.sem (.call ⟨.builtin .append, #[(.tmp 40), (.tmp 42)], #[39, 39]⟩) 39 [(40, (.sc (.atom 7))), (42, (.sc (.atom 8)))] (.sc (.sl)) []
        (.store (.padd (.atom 0) 0) [(.atom 9)]
        (.next 8 []))))))))))
    (.load (.padd (.atom 0) 0) [.sl]
    (.sem (.buildSlice 39 1 #[(0, (.const (.int .u8 34)))]) 39 [] (.sc (.sl)) []
    (.sem (.call ⟨.builtin .append, #[(.tmp 102), (.tmp 103)], #[39, 39]⟩) 39 [(102, (.sc (.atom 7))), (103, (.sc (.atom 8)))] (.sc (.sl)) []
    (.store (.padd (.atom 0) 0) [(.atom 9)]
    (.leaf (.tu [])))))))))))))))
theorem fm_data_writer__text_eq : execF Tryd.prog { pub := [], nojoin := false } Tryd.f47 = fm_data_writer__text := by kernel_rfl
theorem cb_data_writer__text : callB Tryd.prog 47 = true := by kernel_rfl
theorem tri_data_writer__text (E : List Value) {args : Array Value} {H : PH} {R : Ending → PH → Prop} (hE : tagsOk ((paramRS Tryd.prog Tryd.f47).flatMap RS.tags) E = true) (hargs : args.toList = packAll (paramRS Tryd.prog Tryd.f47) E)
    (hden : den Tryd.prog (fun c H' => R (.panicked c) H') fm_data_writer__text E H [] (fun ve E' H' _ => R (.returned (evV E' (fun _ => 0) ve)) H')) : Tri Tryd.prog 47 args H R :=
  execF_tri (op := { pub := [], nojoin := false }) Tryd.func47 hE hargs (by rw [fm_data_writer__text_eq]; exact hden)

/-- (*scrimshaw/data.writer).items -/
abbrev n_data_writer__items : FuncId := 48
def fm_data_writer__items : Fm VE :=
 (.chk [] (.some (.atom 0))
 (.load (.padd (.atom 0) 0) [.sl]
 (.sem (.buildSlice 39 1 #[(0, (.const (.int .u8 40)))]) 39 [] (.sc (.sl)) []
 (.sem (.call ⟨.builtin .append, #[(.tmp 10), (.tmp 11)], #[39, 39]⟩) 39 [(10, (.sc (.atom 5))), (11, (.sc (.atom 6)))] (.sc (.sl)) []
 (.store (.padd (.atom 0) 0) [(.atom 7)]
 (.loop 4 [.int .i64] [(.int .i64 0)]
  (.ite (.cmp .lss (.atom 8) (.len (.atom 4)))
   (.chk [] (.inSl (.atom 4) (.atom 8))
   (.load (.elt (.atom 4) (.atom 8) 4) [.int .i64, .int .i64, .str, .sl]
   (.join 9 []
    (.call (.fn 32) [(.sc (.atom 0)), (.ag [(.atom 9), (.atom 10), (.atom 11), (.atom 12)])] (.tu []) []
    (.next 4 [(.ar .add .i64 (.atom 8) (.int .i64 1))]))
    (.ite (.cmp .gtr (.atom 8) (.int .i64 0))
     (.load (.padd (.atom 0) 0) [.sl]
     (.sem (.buildSlice 39 1 #[(0, (.const (.int .u8 32)))]) 39 [] (.sc (.sl)) []
     (.sem (.call ⟨.builtin .append, #[(.tmp 29), (.tmp 30)], #[39, 39]⟩) 39 [(29, (.sc (.atom 13))), (30, (.sc (.atom 14)))] (.sc (.sl)) []
     (.store (.padd (.atom 0) 0) [(.atom 15)]
     (.ite (.pick (.cmp .eql (.atom 1) (.int .i64 6)) (.cmp .eql (.atom 8) (.ar .sub .i64 (.len (.atom 4)) (.int .i64 1))) (.bool false))
      (.load (.padd (.atom 0) 0) [.sl]
      (.sem (.buildSlice 39 2 #[(0, (.const (.int .u8 46))), (1, (.const (.int .u8 32)))]) 39 [] (.sc (.sl)) []
      (.sem (.call ⟨.builtin .append, #[(.tmp 49), (.tmp 50)], #[39, 39]⟩) 39 [(49, (.sc (.atom 16))), (50, (.sc (.atom 17)))] (.sc (.sl)) []
      (.store (.padd (.atom 0) 0) [(.atom 18)]
      (.next 9 [])))))
      (.next 9 []))))))
     (.next 9 [])))))
   (.load (.padd (.atom 0) 0) [.sl]
   (.sem (.buildSlice 39 1 #[(0, (.const (.int .u8 41)))]) 39 [] (.sc (.sl)) []
   (.sem (.call ⟨.builtin .append, #[(.tmp 62), (.tmp 63)], #[39, 39]⟩) 39 [(62, (.sc (.atom 9))), (63, (.sc (.atom 10)))] (.sc (.sl)) []
   (.store (.padd (.atom 0) 0) [(.atom 11)]
   (.leaf (.tu [])))))))))))))
theorem fm_data_writer__items_eq : execF Tryd.prog { pub := [], nojoin := false } Tryd.f48 = fm_data_writer__items := by kernel_rfl
theorem cb_data_writer__items : callB Tryd.prog 48 = true := by kernel_rfl
theorem tri_data_writer__items (E : List Value) {args : Array Value} {H : PH} {R : Ending → PH → Prop} (hE : tagsOk ((paramRS Tryd.prog Tryd.f48).flatMap RS.tags) E = true) (hargs : args.toList = packAll (paramRS Tryd.prog Tryd.f48) E)
    (hden : den Tryd.prog (fun c H' => R (.panicked c) H') fm_data_writer__items E H [] (fun ve E' H' _ => R (.returned (evV E' (fun _ => 0) ve)) H')) : Tri Tryd.prog 48 args H R :=
  execF_tri (op := { pub := [], nojoin := false }) Tryd.func48 hE hargs (by rw [fm_data_writer__items_eq]; exact hden)

/-- scrimshaw/lex.nameByte -/
abbrev n_lex_nameByte : FuncId := 51
def fm_lex_nameByte : Fm VE :=
 (.sem (.buildSlice 39 1 #[(0, (.tmp 3))]) 39 [(3, (.sc (.atom 0)))] (.sc (.sl)) []
 (.sem (.convert 39 9 (.tmp 4)) 9 [(4, (.sc (.atom 1)))] (.sc (.str)) []
 (.chk [] (.catOk (.str [97]) (.atom 2))
 (.call (.fn 67) [(.sc (.cat (.str [97]) (.atom 2)))] (.sc (.bool)) []
 (.leaf (.sc (.atom 3)))))))
theorem fm_lex_nameByte_eq : execF Tryd.prog { pub := [], nojoin := false } Tryd.f51 = fm_lex_nameByte := by kernel_rfl
theorem cb_lex_nameByte : callB Tryd.prog 51 = true := by kernel_rfl
theorem tri_lex_nameByte (E : List Value) {args : Array Value} {H : PH} {R : Ending → PH → Prop} (hE : tagsOk ((paramRS Tryd.prog Tryd.f51).flatMap RS.tags) E = true) (hargs : args.toList = packAll (paramRS Tryd.prog Tryd.f51) E)
    (hden : den Tryd.prog (fun c H' => R (.panicked c) H') fm_lex_nameByte E H [] (fun ve E' H' _ => R (.returned (evV E' (fun _ => 0) ve)) H')) : Tri Tryd.prog 51 args H R :=
  execF_tri (op := { pub := [], nojoin := false }) Tryd.func51 hE hargs (by rw [fm_lex_nameByte_eq]; exact hden)

/-- scrimshaw/lex.two -/
abbrev n_lex_two : FuncId := 52
def fm_lex_two : Fm VE :=
 (.ite (.cmp .lss (.slen (.atom 0)) (.int .i64 2))
  (.leaf (.sc (.int .i64 (-1))))
  (.chk [] (.inStr (.atom 0) (.int .i64 0))
  (.chk [] (.inStr (.atom 0) (.int .i64 1))
  (.call (.fn 68) [(.sc (.sidx (.atom 0) (.int .i64 0)))] (.sc (.int .i64)) []
  (.call (.fn 68) [(.sc (.sidx (.atom 0) (.int .i64 1)))] (.sc (.int .i64)) []
  (.ite (.pick (.cmp .lss (.atom 1) (.int .i64 0)) (.bool true) (.cmp .lss (.atom 2) (.int .i64 0)))
   (.leaf (.sc (.int .i64 (-1))))
   (.leaf (.sc (.ar .or .i64 (.ar .shl .i64 (.atom 1) (.int .u64 4)) (.atom 2))))))))))
theorem fm_lex_two_eq : execF Tryd.prog { pub := [], nojoin := false } Tryd.f52 = fm_lex_two := by kernel_rfl
theorem cb_lex_two : callB Tryd.prog 52 = true := by kernel_rfl
theorem tri_lex_two (E : List Value) {args : Array Value} {H : PH} {R : Ending → PH → Prop} (hE : tagsOk ((paramRS Tryd.prog Tryd.f52).flatMap RS.tags) E = true) (hargs : args.toList = packAll (paramRS Tryd.prog Tryd.f52) E)
    (hden : den Tryd.prog (fun c H' => R (.panicked c) H') fm_lex_two E H [] (fun ve E' H' _ => R (.returned (evV E' (fun _ => 0) ve)) H')) : Tri Tryd.prog 52 args H R :=
  execF_tri (op := { pub := [], nojoin := false }) Tryd.func52 hE hargs (by rw [fm_lex_two_eq]; exact hden)

/-- scrimshaw/scrimshawref03.sixteen -/
abbrev n_scrimshawref03_sixteen : FuncId := 63
def fm_scrimshawref03_sixteen : Fm VE :=
 (.ite (.pick (.cmp .geq (.atom 0) (.int .u8 48)) (.cmp .leq (.atom 0) (.int .u8 57)) (.bool false))
  (.leaf (.sc (.ar .sub .i64 (.conv .i64 (.atom 0)) (.int .i64 48))))
  (.ite (.pick (.cmp .geq (.atom 0) (.int .u8 97)) (.cmp .leq (.atom 0) (.int .u8 102)) (.bool false))
   (.leaf (.sc (.ar .add .i64 (.ar .sub .i64 (.conv .i64 (.atom 0)) (.int .i64 97)) (.int .i64 10))))
   (.ite (.pick (.cmp .geq (.atom 0) (.int .u8 65)) (.cmp .leq (.atom 0) (.int .u8 70)) (.bool false))
    (.leaf (.sc (.ar .add .i64 (.ar .sub .i64 (.conv .i64 (.atom 0)) (.int .i64 65)) (.int .i64 10))))
    (.leaf (.sc (.int .i64 (-1)))))))
theorem fm_scrimshawref03_sixteen_eq : execF Tryd.prog { pub := [], nojoin := false } Tryd.f63 = fm_scrimshawref03_sixteen := by kernel_rfl
theorem cb_scrimshawref03_sixteen : callB Tryd.prog 63 = true := by kernel_rfl
theorem tri_scrimshawref03_sixteen (E : List Value) {args : Array Value} {H : PH} {R : Ending → PH → Prop} (hE : tagsOk ((paramRS Tryd.prog Tryd.f63).flatMap RS.tags) E = true) (hargs : args.toList = packAll (paramRS Tryd.prog Tryd.f63) E)
    (hden : den Tryd.prog (fun c H' => R (.panicked c) H') fm_scrimshawref03_sixteen E H [] (fun ve E' H' _ => R (.returned (evV E' (fun _ => 0) ve)) H')) : Tri Tryd.prog 63 args H R :=
  execF_tri (op := { pub := [], nojoin := false }) Tryd.func63 hE hargs (by rw [fm_scrimshawref03_sixteen_eq]; exact hden)

/-- scrimshaw/data.hasItems -/
abbrev n_data_hasItems : FuncId := 64
def fm_data_hasItems : Fm VE :=
 (.leaf (.sc (.pick (.cmp .geq (.atom 0) (.int .i64 5)) (.cmp .leq (.atom 0) (.int .i64 7)) (.bool false))))
theorem fm_data_hasItems_eq : execF Tryd.prog { pub := [], nojoin := false } Tryd.f64 = fm_data_hasItems := by kernel_rfl
theorem cb_data_hasItems : callB Tryd.prog 64 = true := by kernel_rfl
theorem tri_data_hasItems (E : List Value) {args : Array Value} {H : PH} {R : Ending → PH → Prop} (hE : tagsOk ((paramRS Tryd.prog Tryd.f64).flatMap RS.tags) E = true) (hargs : args.toList = packAll (paramRS Tryd.prog Tryd.f64) E)
    (hden : den Tryd.prog (fun c H' => R (.panicked c) H') fm_data_hasItems E H [] (fun ve E' H' _ => R (.returned (evV E' (fun _ => 0) ve)) H')) : Tri Tryd.prog 64 args H R :=
  execF_tri (op := { pub := [], nojoin := false }) Tryd.func64 hE hargs (by rw [fm_data_hasItems_eq]; exact hden)

/-- scrimshaw/data.form -/
abbrev n_data_form : FuncId := 65
def fm_data_form : Fm VE :=
 (.join 2 [.int .i64, .str]
  (.join 4 [.bool]
   (.ite (.atom 6)
    (.leaf (.sc (.bool false)))
    (.ite (.cmp .eql (.atom 0) (.int .i64 4))
     (.call (.fn 67) [(.sc (.atom 2))] (.sc (.bool)) []
     (.leaf (.sc (.atom 7))))
     (.ite (.cmp .eql (.atom 0) (.int .i64 6))
      (.join 9 [.bool]
       (.leaf (.sc (.atom 7)))
       (.chk [((.cmp .gtr (.len (.atom 3)) (.int .i64 1)), true)] (.inSl (.atom 3) (.ar .sub .i64 (.len (.atom 3)) (.int .i64 1)))
       (.chk [((.cmp .gtr (.len (.atom 3)) (.int .i64 1)), true)] (.some (.elt (.atom 3) (.ar .sub .i64 (.len (.atom 3)) (.int .i64 1)) 4))
       (.ite (.cmp .gtr (.len (.atom 3)) (.int .i64 1))
        (.load (.padd (.elt (.atom 3) (.ar .sub .i64 (.len (.atom 3)) (.int .i64 1)) 4) 0) [.int .i64]
        (.chk [((.cmp .neq (.atom 7) (.int .i64 5)), true)] (.inSl (.atom 3) (.ar .sub .i64 (.len (.atom 3)) (.int .i64 1)))
        (.chk [((.cmp .neq (.atom 7) (.int .i64 5)), true)] (.some (.elt (.atom 3) (.ar .sub .i64 (.len (.atom 3)) (.int .i64 1)) 4))
        (.ite (.cmp .neq (.atom 7) (.int .i64 5))
         (.load (.padd (.elt (.atom 3) (.ar .sub .i64 (.len (.atom 3)) (.int .i64 1)) 4) 0) [.int .i64]
         (.next 9 [(.cmp .neq (.atom 8) (.int .i64 6))]))
         (.next 9 [(.bool false)])))))
        (.next 9 [(.bool false)])))))
      (.leaf (.sc (.pick (.cmp .geq (.atom 0) (.int .i64 0)) (.cmp .lss (.atom 0) (.int .i64 8)) (.bool false)))))))
   (.ite (.pick (.cmp .neq (.atom 1) (.atom 4)) (.bool true) (.scmp .neq (.atom 2) (.atom 5)))
    (.next 4 [(.bool true)])
    (.ite (.cmp .gtr (.len (.atom 3)) (.int .i64 0))
     (.call (.fn 64) [(.ag [(.atom 0), (.atom 1), (.atom 2), (.atom 3)])] (.sc (.bool)) []
     (.next 4 [(.not (.atom 6))]))
     (.next 4 [(.bool false)]))))
  (.ite (.cmp .eql (.atom 0) (.int .i64 0))
   (.next 2 [(.ar .and .i64 (.atom 1) (.int .i64 1)), (.str [])])
   (.ite (.cmp .eql (.atom 0) (.int .i64 1))
    (.next 2 [(.pick (.cmp .lss (.int .i64 1152921504606846975) (.pick (.cmp .gtr (.int .i64 (-1152921504606846976)) (.atom 1)) (.int .i64 (-1152921504606846976)) (.atom 1))) (.int .i64 1152921504606846975) (.pick (.cmp .gtr (.int .i64 (-1152921504606846976)) (.atom 1)) (.int .i64 (-1152921504606846976)) (.atom 1))), (.str [])])
    (.ite (.cmp .eql (.atom 0) (.int .i64 2))
     (.next 2 [(.ar .and .i64 (.atom 1) (.int .i64 255)), (.str [])])
     (.ite (.cmp .eql (.atom 0) (.int .i64 3))
      (.chk [] (.sub (.slen (.atom 2)) (.int .i64 0) (.pick (.cmp .lss (.int .i64 4096) (.slen (.atom 2))) (.int .i64 4096) (.slen (.atom 2))))
      (.next 2 [(.int .i64 0), (.ssub (.atom 2) (.int .i64 0) (.pick (.cmp .lss (.int .i64 4096) (.slen (.atom 2))) (.int .i64 4096) (.slen (.atom 2))))]))
      (.next 2 [(.int .i64 0), (.pick (.cmp .eql (.atom 0) (.int .i64 4)) (.atom 2) (.str []))]))))))
theorem fm_data_form_eq : execF Tryd.prog { pub := [], nojoin := false } Tryd.f65 = fm_data_form := by kernel_rfl
theorem cb_data_form : callB Tryd.prog 65 = true := by kernel_rfl
theorem tri_data_form (E : List Value) {args : Array Value} {H : PH} {R : Ending → PH → Prop} (hE : tagsOk ((paramRS Tryd.prog Tryd.f65).flatMap RS.tags) E = true) (hargs : args.toList = packAll (paramRS Tryd.prog Tryd.f65) E)
    (hden : den Tryd.prog (fun c H' => R (.panicked c) H') fm_data_form E H [] (fun ve E' H' _ => R (.returned (evV E' (fun _ => 0) ve)) H')) : Tri Tryd.prog 65 args H R :=
  execF_tri (op := { pub := [], nojoin := false }) Tryd.func65 hE hargs (by rw [fm_data_form_eq]; exact hden)

/-- internal/strconv.AppendInt -/
abbrev n_internal_strconv_AppendInt : FuncId := 66
def fm_internal_strconv_AppendInt : Fm VE :=
 (.join 2 [.sl, .int .u64]
  (.call (.fn 81) [(.sc (.atom 3)), (.sc (.atom 4)), (.sc (.atom 2))] (.sc (.sl)) []
  (.leaf (.sc (.atom 5))))
  (.ite (.cmp .lss (.atom 1) (.int .i64 0))
   (.sem (.buildSlice 39 1 #[(0, (.const (.int .u8 45)))]) 39 [] (.sc (.sl)) []
   (.sem (.call ⟨.builtin .append, #[(.tmp 12), (.tmp 13)], #[39, 39]⟩) 39 [(12, (.sc (.atom 0))), (13, (.sc (.atom 3)))] (.sc (.sl)) []
   (.next 2 [(.atom 4), (.ar .sub .u64 (.int .u64 0) (.conv .u64 (.atom 1)))])))
   (.next 2 [(.atom 0), (.conv .u64 (.atom 1))])))
theorem fm_internal_strconv_AppendInt_eq : execF Tryd.prog { pub := [], nojoin := false } Tryd.f66 = fm_internal_strconv_AppendInt := by kernel_rfl
theorem cb_internal_strconv_AppendInt : callB Tryd.prog 66 = true := by kernel_rfl
theorem tri_internal_strconv_AppendInt (E : List Value) {args : Array Value} {H : PH} {R : Ending → PH → Prop} (hE : tagsOk ((paramRS Tryd.prog Tryd.f66).flatMap RS.tags) E = true) (hargs : args.toList = packAll (paramRS Tryd.prog Tryd.f66) E)
    (hden : den Tryd.prog (fun c H' => R (.panicked c) H') fm_internal_strconv_AppendInt E H [] (fun ve E' H' _ => R (.returned (evV E' (fun _ => 0) ve)) H')) : Tri Tryd.prog 66 args H R :=
  execF_tri (op := { pub := [], nojoin := false }) Tryd.func66 hE hargs (by rw [fm_internal_strconv_AppendInt_eq]; exact hden)

/-- scrimshaw/data.Name -/
abbrev n_data_Name : FuncId := 67
def fm_data_Name : Fm VE :=
 (.loop 3 [.bool, .int .i64] [(.bool false), (.int .i64 0)]
  (.ite (.cmp .lss (.atom 2) (.slen (.atom 0)))
   (.chk [] (.inStr (.atom 0) (.atom 2))
   (.call (.fn 82) [(.sc (.sidx (.atom 0) (.atom 2)))] (.sc (.bool)) []
   (.ite (.not (.atom 3))
    (.leaf (.sc (.bool false)))
    (.next 3 [(.atom 1), (.ar .add .i64 (.atom 2) (.int .i64 1))]))))
   (.join 6 [.bool]
    (.leaf (.sc (.atom 3)))
    (.ite (.pick (.pick (.scmp .neq (.atom 0) (.str [])) (.cmp .leq (.slen (.atom 0)) (.int .i64 64)) (.bool false)) (.scmp .neq (.atom 0) (.str [46])) (.bool false))
     (.call (.fn 83) [(.sc (.atom 0))] (.sc (.bool)) []
     (.next 6 [(.not (.atom 3))]))
     (.next 6 [(.bool false)])))))
theorem fm_data_Name_eq : execF Tryd.prog { pub := [], nojoin := false } Tryd.f67 = fm_data_Name := by kernel_rfl
theorem cb_data_Name : callB Tryd.prog 67 = true := by kernel_rfl
theorem tri_data_Name (E : List Value) {args : Array Value} {H : PH} {R : Ending → PH → Prop} (hE : tagsOk ((paramRS Tryd.prog Tryd.f67).flatMap RS.tags) E = true) (hargs : args.toList = packAll (paramRS Tryd.prog Tryd.f67) E)
    (hden : den Tryd.prog (fun c H' => R (.panicked c) H') fm_data_Name E H [] (fun ve E' H' _ => R (.returned (evV E' (fun _ => 0) ve)) H')) : Tri Tryd.prog 67 args H R :=
  execF_tri (op := { pub := [], nojoin := false }) Tryd.func67 hE hargs (by rw [fm_data_Name_eq]; exact hden)

/-- scrimshaw/lex.digit -/
abbrev n_lex_digit : FuncId := 68
def fm_lex_digit : Fm VE :=
 (.sem (.buildSlice 39 1 #[(0, (.tmp 6))]) 39 [(6, (.sc (.atom 0)))] (.sc (.sl)) []
 (.sem (.convert 39 9 (.tmp 7)) 9 [(7, (.sc (.atom 1)))] (.sc (.str)) []
 (.call (.fn 84) [(.sc (.atom 2)), (.sc (.int .i64 16)), (.sc (.int .i64 8))] (.tu [(false, [.int .u64]), (false, [.any])]) []
 (.sem (.binOp .neq 65 (.tmp 12) (.const .nilIface) 65) 4 [(12, (.sc (.atom 4)))] (.sc (.bool)) []
 (.ite (.atom 5)
  (.leaf (.sc (.int .i64 (-1))))
  (.leaf (.sc (.conv .i64 (.atom 3)))))))))
theorem fm_lex_digit_eq : execF Tryd.prog { pub := [], nojoin := false } Tryd.f68 = fm_lex_digit := by kernel_rfl
theorem cb_lex_digit : callB Tryd.prog 68 = true := by kernel_rfl
theorem tri_lex_digit (E : List Value) {args : Array Value} {H : PH} {R : Ending → PH → Prop} (hE : tagsOk ((paramRS Tryd.prog Tryd.f68).flatMap RS.tags) E = true) (hargs : args.toList = packAll (paramRS Tryd.prog Tryd.f68) E)
    (hden : den Tryd.prog (fun c H' => R (.panicked c) H') fm_lex_digit E H [] (fun ve E' H' _ => R (.returned (evV E' (fun _ => 0) ve)) H')) : Tri Tryd.prog 68 args H R :=
  execF_tri (op := { pub := [], nojoin := false }) Tryd.func68 hE hargs (by rw [fm_lex_digit_eq]; exact hden)

/-- internal/strconv.AppendUint -/
abbrev n_internal_strconv_AppendUint : FuncId := 81
def fm_internal_strconv_AppendUint : Fm VE :=
 (.ite (.cmp .eql (.atom 2) (.int .i64 10))
  (.ite (.cmp .lss (.atom 1) (.int .u64 100))
   (.call (.fn 93) [(.sc (.conv .i64 (.atom 1)))] (.sc (.str)) []
   (.sem (.call ⟨.builtin .append, #[(.tmp 13), (.tmp 16)], #[39, 9]⟩) 39 [(13, (.sc (.atom 0))), (16, (.sc (.atom 3)))] (.sc (.sl)) []
   (.leaf (.sc (.atom 4)))))
   (.new 110 [(.int .u8 0), (.int .u8 0), (.int .u8 0), (.int .u8 0), (.int .u8 0), (.int .u8 0), (.int .u8 0), (.int .u8 0), (.int .u8 0), (.int .u8 0), (.int .u8 0), (.int .u8 0), (.int .u8 0), (.int .u8 0), (.int .u8 0), (.int .u8 0), (.int .u8 0), (.int .u8 0), (.int .u8 0), (.int .u8 0), (.int .u8 0), (.int .u8 0), (.int .u8 0), (.int .u8 0)]
   (.call (.fn 94) [(.sc (.atom 1))] (.sc (.int .i64)) []
   (.sem (.slice 110 (.tmp 7) none (some (.tmp 20)) none) 39 [(7, (.sc (.atom 3))), (20, (.sc (.atom 4)))] (.sc (.sl)) []
   (.call (.fn 95) [(.sc (.atom 5)), (.sc (.atom 1))] (.tu []) []
   (.sem (.slice 110 (.tmp 7) none (some (.tmp 25)) none) 39 [(7, (.sc (.atom 3))), (25, (.sc (.atom 4)))] (.sc (.sl)) []
   (.sem (.call ⟨.builtin .append, #[(.tmp 24), (.tmp 26)], #[39, 39]⟩) 39 [(24, (.sc (.atom 0))), (26, (.sc (.atom 6)))] (.sc (.sl)) []
   (.leaf (.sc (.atom 7))))))))))
  (.call (.fn 96) [(.sc (.atom 0)), (.sc (.atom 1)), (.sc (.atom 2)), (.sc (.bool false)), (.sc (.bool true))] (.tu [(false, [.sl]), (false, [.str])]) []
  (.leaf (.sc (.atom 3)))))
theorem fm_internal_strconv_AppendUint_eq : execF Tryd.prog { pub := [7], nojoin := false } Tryd.f81 = fm_internal_strconv_AppendUint := by kernel_rfl
theorem cb_internal_strconv_AppendUint : callB Tryd.prog 81 = true := by kernel_rfl
theorem tri_internal_strconv_AppendUint (E : List Value) {args : Array Value} {H : PH} {R : Ending → PH → Prop} (hE : tagsOk ((paramRS Tryd.prog Tryd.f81).flatMap RS.tags) E = true) (hargs : args.toList = packAll (paramRS Tryd.prog Tryd.f81) E)
    (hden : den Tryd.prog (fun c H' => R (.panicked c) H') fm_internal_strconv_AppendUint E H [] (fun ve E' H' _ => R (.returned (evV E' (fun _ => 0) ve)) H')) : Tri Tryd.prog 81 args H R :=
  execF_tri (op := { pub := [7], nojoin := false }) Tryd.func81 hE hargs (by rw [fm_internal_strconv_AppendUint_eq]; exact hden)

/-- scrimshaw/data.isName -/
abbrev n_data_isName : FuncId := 82
def fm_data_isName : Fm VE :=
 (.join 1 [.bool]
  (.leaf (.sc (.atom 1)))
  (.call (.fn 97) [(.sc (.atom 0))] (.sc (.bool)) []
  (.ite (.pick (.pick (.atom 1) (.bool true) (.pick (.cmp .geq (.atom 0) (.int .u8 97)) (.cmp .leq (.atom 0) (.int .u8 122)) (.bool false))) (.bool true) (.pick (.cmp .geq (.atom 0) (.int .u8 65)) (.cmp .leq (.atom 0) (.int .u8 90)) (.bool false)))
   (.next 1 [(.bool true)])
   (.call (.fn 23) [(.sc (.str [33, 36, 37, 38, 42, 47, 58, 60, 61, 62, 63, 94, 95, 126, 43, 45, 46, 64])), (.sc (.atom 0))] (.sc (.int .i64)) []
   (.next 1 [(.cmp .geq (.atom 2) (.int .i64 0))])))))
theorem fm_data_isName_eq : execF Tryd.prog { pub := [], nojoin := false } Tryd.f82 = fm_data_isName := by kernel_rfl
theorem cb_data_isName : callB Tryd.prog 82 = true := by kernel_rfl
theorem tri_data_isName (E : List Value) {args : Array Value} {H : PH} {R : Ending → PH → Prop} (hE : tagsOk ((paramRS Tryd.prog Tryd.f82).flatMap RS.tags) E = true) (hargs : args.toList = packAll (paramRS Tryd.prog Tryd.f82) E)
    (hden : den Tryd.prog (fun c H' => R (.panicked c) H') fm_data_isName E H [] (fun ve E' H' _ => R (.returned (evV E' (fun _ => 0) ve)) H')) : Tri Tryd.prog 82 args H R :=
  execF_tri (op := { pub := [], nojoin := false }) Tryd.func82 hE hargs (by rw [fm_data_isName_eq]; exact hden)

/-- scrimshaw/data.isNumber -/
abbrev n_data_isNumber : FuncId := 83
def fm_data_isNumber : Fm VE :=
 (.join 1 [.str]
  (.loop 4 [.bool, .int .i64] [(.bool false), (.int .i64 0)]
   (.ite (.cmp .lss (.atom 3) (.slen (.atom 1)))
    (.chk [] (.inStr (.atom 1) (.atom 3))
    (.call (.fn 97) [(.sc (.sidx (.atom 1) (.atom 3)))] (.sc (.bool)) []
    (.ite (.not (.atom 4))
     (.leaf (.sc (.bool false)))
     (.next 4 [(.atom 2), (.ar .add .i64 (.atom 3) (.int .i64 1))]))))
    (.leaf (.sc (.scmp .neq (.atom 1) (.str []))))))
  (.chk [((.scmp .neq (.atom 0) (.str [])), true)] (.inStr (.atom 0) (.int .i64 0))
  (.chk [((.scmp .neq (.atom 0) (.str [])), true), ((.cmp .eql (.sidx (.atom 0) (.int .i64 0)) (.int .u8 43)), false)] (.inStr (.atom 0) (.int .i64 0))
  (.ite (.pick (.scmp .neq (.atom 0) (.str [])) (.pick (.cmp .eql (.sidx (.atom 0) (.int .i64 0)) (.int .u8 43)) (.bool true) (.cmp .eql (.sidx (.atom 0) (.int .i64 0)) (.int .u8 45))) (.bool false))
   (.chk [] (.sub (.slen (.atom 0)) (.int .i64 1) (.slen (.atom 0)))
   (.next 1 [(.ssub (.atom 0) (.int .i64 1) (.slen (.atom 0)))]))
   (.next 1 [(.atom 0)])))))
theorem fm_data_isNumber_eq : execF Tryd.prog { pub := [], nojoin := false } Tryd.f83 = fm_data_isNumber := by kernel_rfl
theorem cb_data_isNumber : callB Tryd.prog 83 = true := by kernel_rfl
theorem tri_data_isNumber (E : List Value) {args : Array Value} {H : PH} {R : Ending → PH → Prop} (hE : tagsOk ((paramRS Tryd.prog Tryd.f83).flatMap RS.tags) E = true) (hargs : args.toList = packAll (paramRS Tryd.prog Tryd.f83) E)
    (hden : den Tryd.prog (fun c H' => R (.panicked c) H') fm_data_isNumber E H [] (fun ve E' H' _ => R (.returned (evV E' (fun _ => 0) ve)) H')) : Tri Tryd.prog 83 args H R :=
  execF_tri (op := { pub := [], nojoin := false }) Tryd.func83 hE hargs (by rw [fm_data_isNumber_eq]; exact hden)

/-- strconv.ParseUint -/
abbrev n_strconv_ParseUint : FuncId := 84
def fm_strconv_ParseUint : Fm VE :=
 (.call (.fn 89) [(.sc (.atom 0)), (.sc (.atom 1)), (.sc (.atom 2))] (.tu [(false, [.int .u64]), (false, [.any])]) []
 (.sem (.binOp .neq 65 (.tmp 17) (.const .nilIface) 65) 4 [(17, (.sc (.atom 4)))] (.sc (.bool)) []
 (.ite (.atom 5)
  (.call (.fn 62) [(.sc (.str [80, 97, 114, 115, 101, 85, 105, 110, 116])), (.sc (.atom 0)), (.sc (.atom 1)), (.sc (.atom 2)), (.sc (.atom 4))] (.sc (.any)) []
  (.leaf (.tu [(false, [(.atom 3)]), (false, [(.atom 6)])])))
  (.leaf (.tu [(false, [(.atom 3)]), (false, [(.nil 4)])])))))
theorem fm_strconv_ParseUint_eq : execF Tryd.prog { pub := [], nojoin := false } Tryd.f84 = fm_strconv_ParseUint := by kernel_rfl
theorem cb_strconv_ParseUint : callB Tryd.prog 84 = true := by kernel_rfl
theorem tri_strconv_ParseUint (E : List Value) {args : Array Value} {H : PH} {R : Ending → PH → Prop} (hE : tagsOk ((paramRS Tryd.prog Tryd.f84).flatMap RS.tags) E = true) (hargs : args.toList = packAll (paramRS Tryd.prog Tryd.f84) E)
    (hden : den Tryd.prog (fun c H' => R (.panicked c) H') fm_strconv_ParseUint E H [] (fun ve E' H' _ => R (.returned (evV E' (fun _ => 0) ve)) H')) : Tri Tryd.prog 84 args H R :=
  execF_tri (op := { pub := [], nojoin := false }) Tryd.func84 hE hargs (by rw [fm_strconv_ParseUint_eq]; exact hden)

/-- internal/strconv.ParseUint -/
abbrev n_internal_strconv_ParseUint : FuncId := 89
def fm_internal_strconv_ParseUint : Fm VE :=
 (.ite (.scmp .eql (.atom 0) (.str []))
  (.sem (.makeInterface 92 (.const (.int .i64 2))) 65 [] (.sc (.any)) []
  (.leaf (.tu [(false, [(.int .u64 0)]), (false, [(.atom 3)])])))
  (.join 5 [.str, .int .i64]
   (.join 6 [.int .i64]
    (.join 8 [.int .u64]
     (.sem (.convert 9 39 (.tmp 98)) 39 [(98, (.sc (.atom 3)))] (.sc (.sl)) []
     (.loop 14 [.int .u64, .any, .bool, .int .u64, .int .i64] [(.int .u64 0), (.nil 4), (.bool false), (.int .u64 0), (.int .i64 0)]
      (.ite (.cmp .lss (.atom 12) (.len (.atom 7)))
       (.join 17 [.bool, .int .u64]
        (.next 14 [(.atom 8), (.atom 9), (.atom 13), (.atom 14), (.ar .add .i64 (.atom 12) (.int .i64 1))])
        (.chk [] (.inSl (.atom 7) (.atom 12))
        (.load (.elt (.atom 7) (.atom 12) 1) [.int .u8]
        (.join 20 [.int .u8]
         (.ite (.cmp .geq (.atom 14) (.conv .u8 (.atom 4)))
          (.sem (.makeInterface 92 (.const (.int .i64 2))) 65 [] (.sc (.any)) []
          (.leaf (.tu [(false, [(.int .u64 0)]), (false, [(.atom 15)])])))
          (.ite (.cmp .geq (.atom 11) (.atom 6))
           (.sem (.makeInterface 92 (.const (.int .i64 1))) 65 [] (.sc (.any)) []
           (.leaf (.tu [(false, [(.ar .sub .u64 (.ar .shl .u64 (.int .u64 1) (.conv .u64 (.atom 5))) (.int .u64 1))]), (false, [(.atom 15)])])))
           (.ite (.pick (.cmp .lss (.ar .add .u64 (.ar .mul .u64 (.atom 11) (.conv .u64 (.atom 4))) (.conv .u64 (.atom 14))) (.ar .mul .u64 (.atom 11) (.conv .u64 (.atom 4)))) (.bool true) (.cmp .gtr (.ar .add .u64 (.ar .mul .u64 (.atom 11) (.conv .u64 (.atom 4))) (.conv .u64 (.atom 14))) (.ar .sub .u64 (.ar .shl .u64 (.int .u64 1) (.conv .u64 (.atom 5))) (.int .u64 1))))
            (.sem (.makeInterface 92 (.const (.int .i64 1))) 65 [] (.sc (.any)) []
            (.leaf (.tu [(false, [(.ar .sub .u64 (.ar .shl .u64 (.int .u64 1) (.conv .u64 (.atom 5))) (.int .u64 1))]), (false, [(.atom 15)])])))
            (.next 17 [(.atom 10), (.ar .add .u64 (.ar .mul .u64 (.atom 11) (.conv .u64 (.atom 4))) (.conv .u64 (.atom 14)))]))))
         (.ite (.pick (.cmp .eql (.atom 13) (.int .u8 95)) (.cmp .eql (.atom 1) (.int .i64 0)) (.bool false))
          (.next 17 [(.bool true), (.atom 11)])
          (.ite (.pick (.cmp .leq (.int .u8 48) (.atom 13)) (.cmp .leq (.atom 13) (.int .u8 57)) (.bool false))
           (.next 20 [(.ar .sub .u8 (.atom 13) (.int .u8 48))])
           (.join 23 [.bool]
            (.ite (.atom 14)
             (.call (.fn 99) [(.sc (.atom 13))] (.sc (.int .u8)) []
             (.next 20 [(.ar .add .u8 (.ar .sub .u8 (.atom 15) (.int .u8 97)) (.int .u8 10))]))
             (.sem (.makeInterface 92 (.const (.int .i64 2))) 65 [] (.sc (.any)) []
             (.leaf (.tu [(false, [(.int .u64 0)]), (false, [(.atom 15)])]))))
            (.call (.fn 99) [(.sc (.atom 13))] (.sc (.int .u8)) []
            (.ite (.cmp .leq (.int .u8 97) (.atom 14))
             (.call (.fn 99) [(.sc (.atom 13))] (.sc (.int .u8)) []
             (.next 23 [(.cmp .leq (.atom 15) (.int .u8 122))]))
             (.next 23 [(.bool false)]))))))))))
       (.join 18 [.bool]
        (.ite (.atom 13)
         (.sem (.makeInterface 92 (.const (.int .i64 2))) 65 [] (.sc (.any)) []
         (.leaf (.tu [(false, [(.int .u64 0)]), (false, [(.atom 14)])])))
         (.leaf (.tu [(false, [(.atom 11)]), (false, [(.nil 4)])])))
        (.ite (.atom 10)
         (.call (.fn 100) [(.sc (.atom 0))] (.sc (.bool)) []
         (.next 18 [(.not (.atom 13))]))
         (.next 18 [(.bool false)]))))))
     (.ite (.cmp .eql (.atom 4) (.int .i64 10))
      (.next 8 [(.int .u64 1844674407370955162)])
      (.ite (.cmp .eql (.atom 4) (.int .i64 16))
       (.next 8 [(.int .u64 1152921504606846976)])
       (.chk [] (.nz (.conv .u64 (.atom 4)))
       (.next 8 [(.ar .add .u64 (.ar .quo .u64 (.int .u64 18446744073709551615) (.conv .u64 (.atom 4))) (.int .u64 1))])))))
    (.ite (.cmp .eql (.atom 2) (.int .i64 0))
     (.next 6 [(.int .i64 64)])
     (.ite (.pick (.cmp .lss (.atom 2) (.int .i64 0)) (.bool true) (.cmp .gtr (.atom 2) (.int .i64 64)))
      (.sem (.makeInterface 92 (.const (.int .i64 4))) 65 [] (.sc (.any)) []
      (.leaf (.tu [(false, [(.int .u64 0)]), (false, [(.atom 5)])])))
      (.next 6 [(.atom 2)]))))
   (.ite (.pick (.cmp .leq (.int .i64 2) (.atom 1)) (.cmp .leq (.atom 1) (.int .i64 36)) (.bool false))
    (.next 5 [(.atom 0), (.atom 1)])
    (.ite (.cmp .eql (.atom 1) (.int .i64 0))
     (.chk [] (.inStr (.atom 0) (.int .i64 0))
     (.ite (.cmp .eql (.sidx (.atom 0) (.int .i64 0)) (.int .u8 48))
      (.join 10 [.bool]
       (.ite (.atom 3)
        (.chk [] (.sub (.slen (.atom 0)) (.int .i64 2) (.slen (.atom 0)))
        (.next 5 [(.ssub (.atom 0) (.int .i64 2) (.slen (.atom 0))), (.int .i64 2)]))
        (.join 11 [.bool]
         (.ite (.atom 4)
          (.chk [] (.sub (.slen (.atom 0)) (.int .i64 2) (.slen (.atom 0)))
          (.next 5 [(.ssub (.atom 0) (.int .i64 2) (.slen (.atom 0))), (.int .i64 8)]))
          (.join 12 [.bool]
           (.ite (.atom 5)
            (.chk [] (.sub (.slen (.atom 0)) (.int .i64 2) (.slen (.atom 0)))
            (.next 5 [(.ssub (.atom 0) (.int .i64 2) (.slen (.atom 0))), (.int .i64 16)]))
            (.chk [] (.sub (.slen (.atom 0)) (.int .i64 1) (.slen (.atom 0)))
            (.next 5 [(.ssub (.atom 0) (.int .i64 1) (.slen (.atom 0))), (.int .i64 8)])))
           (.chk [((.cmp .geq (.slen (.atom 0)) (.int .i64 3)), true)] (.inStr (.atom 0) (.int .i64 1))
           (.ite (.cmp .geq (.slen (.atom 0)) (.int .i64 3))
            (.call (.fn 99) [(.sc (.sidx (.atom 0) (.int .i64 1)))] (.sc (.int .u8)) []
            (.next 12 [(.cmp .eql (.atom 5) (.int .u8 120))]))
            (.next 12 [(.bool false)])))))
         (.chk [((.cmp .geq (.slen (.atom 0)) (.int .i64 3)), true)] (.inStr (.atom 0) (.int .i64 1))
         (.ite (.cmp .geq (.slen (.atom 0)) (.int .i64 3))
          (.call (.fn 99) [(.sc (.sidx (.atom 0) (.int .i64 1)))] (.sc (.int .u8)) []
          (.next 11 [(.cmp .eql (.atom 4) (.int .u8 111))]))
          (.next 11 [(.bool false)])))))
       (.chk [((.cmp .geq (.slen (.atom 0)) (.int .i64 3)), true)] (.inStr (.atom 0) (.int .i64 1))
       (.ite (.cmp .geq (.slen (.atom 0)) (.int .i64 3))
        (.call (.fn 99) [(.sc (.sidx (.atom 0) (.int .i64 1)))] (.sc (.int .u8)) []
        (.next 10 [(.cmp .eql (.atom 3) (.int .u8 98))]))
        (.next 10 [(.bool false)]))))
      (.next 5 [(.atom 0), (.int .i64 10)])))
     (.sem (.makeInterface 92 (.const (.int .i64 3))) 65 [] (.sc (.any)) []
     (.leaf (.tu [(false, [(.int .u64 0)]), (false, [(.atom 3)])])))))))
theorem fm_internal_strconv_ParseUint_eq : execF Tryd.prog { pub := [], nojoin := false } Tryd.f89 = fm_internal_strconv_ParseUint := by kernel_rfl
theorem cb_internal_strconv_ParseUint : callB Tryd.prog 89 = true := by kernel_rfl
theorem tri_internal_strconv_ParseUint (E : List Value) {args : Array Value} {H : PH} {R : Ending → PH → Prop} (hE : tagsOk ((paramRS Tryd.prog Tryd.f89).flatMap RS.tags) E = true) (hargs : args.toList = packAll (paramRS Tryd.prog Tryd.f89) E)
    (hden : den Tryd.prog (fun c H' => R (.panicked c) H') fm_internal_strconv_ParseUint E H [] (fun ve E' H' _ => R (.returned (evV E' (fun _ => 0) ve)) H')) : Tri Tryd.prog 89 args H R :=
  execF_tri (op := { pub := [], nojoin := false }) Tryd.func89 hE hargs (by rw [fm_internal_strconv_ParseUint_eq]; exact hden)

/-- internal/strconv.small -/
abbrev n_internal_strconv_small : FuncId := 93
def fm_internal_strconv_small : Fm VE :=
 (.ite (.cmp .lss (.atom 0) (.int .i64 10))
  (.chk [] (.sub (.slen (.str [48, 49, 50, 51, 52, 53, 54, 55, 56, 57, 97, 98, 99, 100, 101, 102, 103, 104, 105, 106, 107, 108, 109, 110, 111, 112, 113, 114, 115, 116, 117, 118, 119, 120, 121, 122])) (.atom 0) (.ar .add .i64 (.atom 0) (.int .i64 1)))
  (.leaf (.sc (.ssub (.str [48, 49, 50, 51, 52, 53, 54, 55, 56, 57, 97, 98, 99, 100, 101, 102, 103, 104, 105, 106, 107, 108, 109, 110, 111, 112, 113, 114, 115, 116, 117, 118, 119, 120, 121, 122]) (.atom 0) (.ar .add .i64 (.atom 0) (.int .i64 1))))))
  (.chk [] (.sub (.slen (.str [48, 48, 48, 49, 48, 50, 48, 51, 48, 52, 48, 53, 48, 54, 48, 55, 48, 56, 48, 57, 49, 48, 49, 49, 49, 50, 49, 51, 49, 52, 49, 53, 49, 54, 49, 55, 49, 56, 49, 57, 50, 48, 50, 49, 50, 50, 50, 51, 50, 52, 50, 53, 50, 54, 50, 55, 50, 56, 50, 57, 51, 48, 51, 49, 51, 50, 51, 51, 51, 52, 51, 53, 51, 54, 51, 55, 51, 56, 51, 57, 52, 48, 52, 49, 52, 50, 52, 51, 52, 52, 52, 53, 52, 54, 52, 55, 52, 56, 52, 57, 53, 48, 53, 49, 53, 50, 53, 51, 53, 52, 53, 53, 53, 54, 53, 55, 53, 56, 53, 57, 54, 48, 54, 49, 54, 50, 54, 51, 54, 52, 54, 53, 54, 54, 54, 55, 54, 56, 54, 57, 55, 48, 55, 49, 55, 50, 55, 51, 55, 52, 55, 53, 55, 54, 55, 55, 55, 56, 55, 57, 56, 48, 56, 49, 56, 50, 56, 51, 56, 52, 56, 53, 56, 54, 56, 55, 56, 56, 56, 57, 57, 48, 57, 49, 57, 50, 57, 51, 57, 52, 57, 53, 57, 54, 57, 55, 57, 56, 57, 57])) (.ar .mul .i64 (.atom 0) (.int .i64 2)) (.ar .add .i64 (.ar .mul .i64 (.atom 0) (.int .i64 2)) (.int .i64 2)))
  (.leaf (.sc (.ssub (.str [48, 48, 48, 49, 48, 50, 48, 51, 48, 52, 48, 53, 48, 54, 48, 55, 48, 56, 48, 57, 49, 48, 49, 49, 49, 50, 49, 51, 49, 52, 49, 53, 49, 54, 49, 55, 49, 56, 49, 57, 50, 48, 50, 49, 50, 50, 50, 51, 50, 52, 50, 53, 50, 54, 50, 55, 50, 56, 50, 57, 51, 48, 51, 49, 51, 50, 51, 51, 51, 52, 51, 53, 51, 54, 51, 55, 51, 56, 51, 57, 52, 48, 52, 49, 52, 50, 52, 51, 52, 52, 52, 53, 52, 54, 52, 55, 52, 56, 52, 57, 53, 48, 53, 49, 53, 50, 53, 51, 53, 52, 53, 53, 53, 54, 53, 55, 53, 56, 53, 57, 54, 48, 54, 49, 54, 50, 54, 51, 54, 52, 54, 53, 54, 54, 54, 55, 54, 56, 54, 57, 55, 48, 55, 49, 55, 50, 55, 51, 55, 52, 55, 53, 55, 54, 55, 55, 55, 56, 55, 57, 56, 48, 56, 49, 56, 50, 56, 51, 56, 52, 56, 53, 56, 54, 56, 55, 56, 56, 56, 57, 57, 48, 57, 49, 57, 50, 57, 51, 57, 52, 57, 53, 57, 54, 57, 55, 57, 56, 57, 57]) (.ar .mul .i64 (.atom 0) (.int .i64 2)) (.ar .add .i64 (.ar .mul .i64 (.atom 0) (.int .i64 2)) (.int .i64 2)))))))
theorem fm_internal_strconv_small_eq : execF Tryd.prog { pub := [], nojoin := false } Tryd.f93 = fm_internal_strconv_small := by kernel_rfl
theorem cb_internal_strconv_small : callB Tryd.prog 93 = true := by kernel_rfl
theorem tri_internal_strconv_small (E : List Value) {args : Array Value} {H : PH} {R : Ending → PH → Prop} (hE : tagsOk ((paramRS Tryd.prog Tryd.f93).flatMap RS.tags) E = true) (hargs : args.toList = packAll (paramRS Tryd.prog Tryd.f93) E)
    (hden : den Tryd.prog (fun c H' => R (.panicked c) H') fm_internal_strconv_small E H [] (fun ve E' H' _ => R (.returned (evV E' (fun _ => 0) ve)) H')) : Tri Tryd.prog 93 args H R :=
  execF_tri (op := { pub := [], nojoin := false }) Tryd.func93 hE hargs (by rw [fm_internal_strconv_small_eq]; exact hden)

/-- internal/strconv.numDigits -/
abbrev n_internal_strconv_numDigits : FuncId := 94
def fm_internal_strconv_numDigits : Fm VE :=
 (.call (.fn 103) [(.sc (.atom 0))] (.sc (.int .i64)) []
 (.call (.fn 102) [(.sc (.atom 1))] (.sc (.int .i64)) []
 (.sem (.indexAddr 126 (.global 5) (.tmp 9)) 0 [(9, (.sc (.atom 2)))] (.sc (.ptr)) []
 (.load (.atom 3) [.int .u64]
 (.call (.fn 104) [(.sc (.cmp .geq (.atom 0) (.atom 4)))] (.sc (.int .i64)) []
 (.leaf (.sc (.ar .add .i64 (.atom 2) (.atom 5)))))))))
theorem fm_internal_strconv_numDigits_eq : execF Tryd.prog { pub := [], nojoin := false } Tryd.f94 = fm_internal_strconv_numDigits := by kernel_rfl
theorem cb_internal_strconv_numDigits : callB Tryd.prog 94 = true := by kernel_rfl
theorem tri_internal_strconv_numDigits (E : List Value) {args : Array Value} {H : PH} {R : Ending → PH → Prop} (hE : tagsOk ((paramRS Tryd.prog Tryd.f94).flatMap RS.tags) E = true) (hargs : args.toList = packAll (paramRS Tryd.prog Tryd.f94) E)
    (hden : den Tryd.prog (fun c H' => R (.panicked c) H') fm_internal_strconv_numDigits E H [] (fun ve E' H' _ => R (.returned (evV E' (fun _ => 0) ve)) H')) : Tri Tryd.prog 94 args H R :=
  execF_tri (op := { pub := [], nojoin := false }) Tryd.func94 hE hargs (by rw [fm_internal_strconv_numDigits_eq]; exact hden)

/-- internal/strconv.formatBase10 -/
abbrev n_internal_strconv_formatBase10 : FuncId := 95
def fm_internal_strconv_formatBase10 : Fm VE :=
 (.loop 2 [.int .u64, .int .i64] [(.atom 1), (.len (.atom 0))]
  (.ite (.cmp .geq (.atom 3) (.int .i64 8))
   (.chk [] (.inStr (.str [48, 48, 48, 49, 48, 50, 48, 51, 48, 52, 48, 53, 48, 54, 48, 55, 48, 56, 48, 57, 49, 48, 49, 49, 49, 50, 49, 51, 49, 52, 49, 53, 49, 54, 49, 55, 49, 56, 49, 57, 50, 48, 50, 49, 50, 50, 50, 51, 50, 52, 50, 53, 50, 54, 50, 55, 50, 56, 50, 57, 51, 48, 51, 49, 51, 50, 51, 51, 51, 52, 51, 53, 51, 54, 51, 55, 51, 56, 51, 57, 52, 48, 52, 49, 52, 50, 52, 51, 52, 52, 52, 53, 52, 54, 52, 55, 52, 56, 52, 57, 53, 48, 53, 49, 53, 50, 53, 51, 53, 52, 53, 53, 53, 54, 53, 55, 53, 56, 53, 57, 54, 48, 54, 49, 54, 50, 54, 51, 54, 52, 54, 53, 54, 54, 54, 55, 54, 56, 54, 57, 55, 48, 55, 49, 55, 50, 55, 51, 55, 52, 55, 53, 55, 54, 55, 55, 55, 56, 55, 57, 56, 48, 56, 49, 56, 50, 56, 51, 56, 52, 56, 53, 56, 54, 56, 55, 56, 56, 56, 57, 57, 48, 57, 49, 57, 50, 57, 51, 57, 52, 57, 53, 57, 54, 57, 55, 57, 56, 57, 57]) (.ar .add .u32 (.ar .mul .u32 (.ar .rem .u32 (.ar .rem .u32 (.conv .u32 (.ar .rem .u64 (.atom 2) (.int .u64 100000000))) (.int .u32 10000)) (.int .u32 100)) (.int .u32 2)) (.int .u32 1)))
   (.chk [] (.inStr (.str [48, 48, 48, 49, 48, 50, 48, 51, 48, 52, 48, 53, 48, 54, 48, 55, 48, 56, 48, 57, 49, 48, 49, 49, 49, 50, 49, 51, 49, 52, 49, 53, 49, 54, 49, 55, 49, 56, 49, 57, 50, 48, 50, 49, 50, 50, 50, 51, 50, 52, 50, 53, 50, 54, 50, 55, 50, 56, 50, 57, 51, 48, 51, 49, 51, 50, 51, 51, 51, 52, 51, 53, 51, 54, 51, 55, 51, 56, 51, 57, 52, 48, 52, 49, 52, 50, 52, 51, 52, 52, 52, 53, 52, 54, 52, 55, 52, 56, 52, 57, 53, 48, 53, 49, 53, 50, 53, 51, 53, 52, 53, 53, 53, 54, 53, 55, 53, 56, 53, 57, 54, 48, 54, 49, 54, 50, 54, 51, 54, 52, 54, 53, 54, 54, 54, 55, 54, 56, 54, 57, 55, 48, 55, 49, 55, 50, 55, 51, 55, 52, 55, 53, 55, 54, 55, 55, 55, 56, 55, 57, 56, 48, 56, 49, 56, 50, 56, 51, 56, 52, 56, 53, 56, 54, 56, 55, 56, 56, 56, 57, 57, 48, 57, 49, 57, 50, 57, 51, 57, 52, 57, 53, 57, 54, 57, 55, 57, 56, 57, 57]) (.ar .mul .u32 (.ar .rem .u32 (.ar .rem .u32 (.conv .u32 (.ar .rem .u64 (.atom 2) (.int .u64 100000000))) (.int .u32 10000)) (.int .u32 100)) (.int .u32 2)))
   (.chk [] (.inSl (.atom 0) (.ar .sub .i64 (.atom 3) (.int .i64 1)))
   (.store (.elt (.atom 0) (.ar .sub .i64 (.atom 3) (.int .i64 1)) 1) [(.sidx (.str [48, 48, 48, 49, 48, 50, 48, 51, 48, 52, 48, 53, 48, 54, 48, 55, 48, 56, 48, 57, 49, 48, 49, 49, 49, 50, 49, 51, 49, 52, 49, 53, 49, 54, 49, 55, 49, 56, 49, 57, 50, 48, 50, 49, 50, 50, 50, 51, 50, 52, 50, 53, 50, 54, 50, 55, 50, 56, 50, 57, 51, 48, 51, 49, 51, 50, 51, 51, 51, 52, 51, 53, 51, 54, 51, 55, 51, 56, 51, 57, 52, 48, 52, 49, 52, 50, 52, 51, 52, 52, 52, 53, 52, 54, 52, 55, 52, 56, 52, 57, 53, 48, 53, 49, 53, 50, 53, 51, 53, 52, 53, 53, 53, 54, 53, 55, 53, 56, 53, 57, 54, 48, 54, 49, 54, 50, 54, 51, 54, 52, 54, 53, 54, 54, 54, 55, 54, 56, 54, 57, 55, 48, 55, 49, 55, 50, 55, 51, 55, 52, 55, 53, 55, 54, 55, 55, 55, 56, 55, 57, 56, 48, 56, 49, 56, 50, 56, 51, 56, 52, 56, 53, 56, 54, 56, 55, 56, 56, 56, 57, 57, 48, 57, 49, 57, 50, 57, 51, 57, 52, 57, 53, 57, 54, 57, 55, 57, 56, 57, 57]) (.ar .add .u32 (.ar .mul .u32 (.ar .rem .u32 (.ar .rem .u32 (.conv .u32 (.ar .rem .u64 (.atom 2) (.int .u64 100000000))) (.int .u32 10000)) (.int .u32 100)) (.int .u32 2)) (.int .u32 1)))]
   (.chk [] (.inSl (.atom 0) (.ar .sub .i64 (.atom 3) (.int .i64 2)))
   (.store (.elt (.atom 0) (.ar .sub .i64 (.atom 3) (.int .i64 2)) 1) [(.sidx (.str [48, 48, 48, 49, 48, 50, 48, 51, 48, 52, 48, 53, 48, 54, 48, 55, 48, 56, 48, 57, 49, 48, 49, 49, 49, 50, 49, 51, 49, 52, 49, 53, 49, 54, 49, 55, 49, 56, 49, 57, 50, 48, 50, 49, 50, 50, 50, 51, 50, 52, 50, 53, 50, 54, 50, 55, 50, 56, 50, 57, 51, 48, 51, 49, 51, 50, 51, 51, 51, 52, 51, 53, 51, 54, 51, 55, 51, 56, 51, 57, 52, 48, 52, 49, 52, 50, 52, 51, 52, 52, 52, 53, 52, 54, 52, 55, 52, 56, 52, 57, 53, 48, 53, 49, 53, 50, 53, 51, 53, 52, 53, 53, 53, 54, 53, 55, 53, 56, 53, 57, 54, 48, 54, 49, 54, 50, 54, 51, 54, 52, 54, 53, 54, 54, 54, 55, 54, 56, 54, 57, 55, 48, 55, 49, 55, 50, 55, 51, 55, 52, 55, 53, 55, 54, 55, 55, 55, 56, 55, 57, 56, 48, 56, 49, 56, 50, 56, 51, 56, 52, 56, 53, 56, 54, 56, 55, 56, 56, 56, 57, 57, 48, 57, 49, 57, 50, 57, 51, 57, 52, 57, 53, 57, 54, 57, 55, 57, 56, 57, 57]) (.ar .mul .u32 (.ar .rem .u32 (.ar .rem .u32 (.conv .u32 (.ar .rem .u64 (.atom 2) (.int .u64 100000000))) (.int .u32 10000)) (.int .u32 100)) (.int .u32 2)))]
   (.chk [] (.inStr (.str [48, 48, 48, 49, 48, 50, 48, 51, 48, 52, 48, 53, 48, 54, 48, 55, 48, 56, 48, 57, 49, 48, 49, 49, 49, 50, 49, 51, 49, 52, 49, 53, 49, 54, 49, 55, 49, 56, 49, 57, 50, 48, 50, 49, 50, 50, 50, 51, 50, 52, 50, 53, 50, 54, 50, 55, 50, 56, 50, 57, 51, 48, 51, 49, 51, 50, 51, 51, 51, 52, 51, 53, 51, 54, 51, 55, 51, 56, 51, 57, 52, 48, 52, 49, 52, 50, 52, 51, 52, 52, 52, 53, 52, 54, 52, 55, 52, 56, 52, 57, 53, 48, 53, 49, 53, 50, 53, 51, 53, 52, 53, 53, 53, 54, 53, 55, 53, 56, 53, 57, 54, 48, 54, 49, 54, 50, 54, 51, 54, 52, 54, 53, 54, 54, 54, 55, 54, 56, 54, 57, 55, 48, 55, 49, 55, 50, 55, 51, 55, 52, 55, 53, 55, 54, 55, 55, 55, 56, 55, 57, 56, 48, 56, 49, 56, 50, 56, 51, 56, 52, 56, 53, 56, 54, 56, 55, 56, 56, 56, 57, 57, 48, 57, 49, 57, 50, 57, 51, 57, 52, 57, 53, 57, 54, 57, 55, 57, 56, 57, 57]) (.ar .add .u32 (.ar .mul .u32 (.ar .quo .u32 (.ar .rem .u32 (.conv .u32 (.ar .rem .u64 (.atom 2) (.int .u64 100000000))) (.int .u32 10000)) (.int .u32 100)) (.int .u32 2)) (.int .u32 1)))
   (.chk [] (.inStr (.str [48, 48, 48, 49, 48, 50, 48, 51, 48, 52, 48, 53, 48, 54, 48, 55, 48, 56, 48, 57, 49, 48, 49, 49, 49, 50, 49, 51, 49, 52, 49, 53, 49, 54, 49, 55, 49, 56, 49, 57, 50, 48, 50, 49, 50, 50, 50, 51, 50, 52, 50, 53, 50, 54, 50, 55, 50, 56, 50, 57, 51, 48, 51, 49, 51, 50, 51, 51, 51, 52, 51, 53, 51, 54, 51, 55, 51, 56, 51, 57, 52, 48, 52, 49, 52, 50, 52, 51, 52, 52, 52, 53, 52, 54, 52, 55, 52, 56, 52, 57, 53, 48, 53, 49, 53, 50, 53, 51, 53, 52, 53, 53, 53, 54, 53, 55, 53, 56, 53, 57, 54, 48, 54, 49, 54, 50, 54, 51, 54, 52, 54, 53, 54, 54, 54, 55, 54, 56, 54, 57, 55, 48, 55, 49, 55, 50, 55, 51, 55, 52, 55, 53, 55, 54, 55, 55, 55, 56, 55, 57, 56, 48, 56, 49, 56, 50, 56, 51, 56, 52, 56, 53, 56, 54, 56, 55, 56, 56, 56, 57, 57, 48, 57, 49, 57, 50, 57, 51, 57, 52, 57, 53, 57, 54, 57, 55, 57, 56, 57, 57]) (.ar .mul .u32 (.ar .quo .u32 (.ar .rem .u32 (.conv .u32 (.ar .rem .u64 (.atom 2) (.int .u64 100000000))) (.int .u32 10000)) (.int .u32 100)) (.int .u32 2)))
   (.chk [] (.inSl (.atom 0) (.ar .sub .i64 (.atom 3) (.int .i64 3)))
   (.store (.elt (.atom 0) (.ar .sub .i64 (.atom 3) (.int .i64 3)) 1) [(.sidx (.str [48, 48, 48, 49, 48, 50, 48, 51, 48, 52, 48, 53, 48, 54, 48, 55, 48, 56, 48, 57, 49, 48, 49, 49, 49, 50, 49, 51, 49, 52, 49, 53, 49, 54, 49, 55, 49, 56, 49, 57, 50, 48, 50, 49, 50, 50, 50, 51, 50, 52, 50, 53, 50, 54, 50, 55, 50, 56, 50, 57, 51, 48, 51, 49, 51, 50, 51, 51, 51, 52, 51, 53, 51, 54, 51, 55, 51, 56, 51, 57, 52, 48, 52, 49, 52, 50, 52, 51, 52, 52, 52, 53, 52, 54, 52, 55, 52, 56, 52, 57, 53, 48, 53, 49, 53, 50, 53, 51, 53, 52, 53, 53, 53, 54, 53, 55, 53, 56, 53, 57, 54, 48, 54, 49, 54, 50, 54, 51, 54, 52, 54, 53, 54, 54, 54, 55, 54, 56, 54, 57, 55, 48, 55, 49, 55, 50, 55, 51, 55, 52, 55, 53, 55, 54, 55, 55, 55, 56, 55, 57, 56, 48, 56, 49, 56, 50, 56, 51, 56, 52, 56, 53, 56, 54, 56, 55, 56, 56, 56, 57, 57, 48, 57, 49, 57, 50, 57, 51, 57, 52, 57, 53, 57, 54, 57, 55, 57, 56, 57, 57]) (.ar .add .u32 (.ar .mul .u32 (.ar .quo .u32 (.ar .rem .u32 (.conv .u32 (.ar .rem .u64 (.atom 2) (.int .u64 100000000))) (.int .u32 10000)) (.int .u32 100)) (.int .u32 2)) (.int .u32 1)))]
   (.chk [] (.inSl (.atom 0) (.ar .sub .i64 (.atom 3) (.int .i64 4)))
   (.store (.elt (.atom 0) (.ar .sub .i64 (.atom 3) (.int .i64 4)) 1) [(.sidx (.str [48, 48, 48, 49, 48, 50, 48, 51, 48, 52, 48, 53, 48, 54, 48, 55, 48, 56, 48, 57, 49, 48, 49, 49, 49, 50, 49, 51, 49, 52, 49, 53, 49, 54, 49, 55, 49, 56, 49, 57, 50, 48, 50, 49, 50, 50, 50, 51, 50, 52, 50, 53, 50, 54, 50, 55, 50, 56, 50, 57, 51, 48, 51, 49, 51, 50, 51, 51, 51, 52, 51, 53, 51, 54, 51, 55, 51, 56, 51, 57, 52, 48, 52, 49, 52, 50, 52, 51, 52, 52, 52, 53, 52, 54, 52, 55, 52, 56, 52, 57, 53, 48, 53, 49, 53, 50, 53, 51, 53, 52, 53, 53, 53, 54, 53, 55, 53, 56, 53, 57, 54, 48, 54, 49, 54, 50, 54, 51, 54, 52, 54, 53, 54, 54, 54, 55, 54, 56, 54, 57, 55, 48, 55, 49, 55, 50, 55, 51, 55, 52, 55, 53, 55, 54, 55, 55, 55, 56, 55, 57, 56, 48, 56, 49, 56, 50, 56, 51, 56, 52, 56, 53, 56, 54, 56, 55, 56, 56, 56, 57, 57, 48, 57, 49, 57, 50, 57, 51, 57, 52, 57, 53, 57, 54, 57, 55, 57, 56, 57, 57]) (.ar .mul .u32 (.ar .quo .u32 (.ar .rem .u32 (.conv .u32 (.ar .rem .u64 (.atom 2) (.int .u64 100000000))) (.int .u32 10000)) (.int .u32 100)) (.int .u32 2)))]
   (.chk [] (.inStr (.str [48, 48, 48, 49, 48, 50, 48, 51, 48, 52, 48, 53, 48, 54, 48, 55, 48, 56, 48, 57, 49, 48, 49, 49, 49, 50, 49, 51, 49, 52, 49, 53, 49, 54, 49, 55, 49, 56, 49, 57, 50, 48, 50, 49, 50, 50, 50, 51, 50, 52, 50, 53, 50, 54, 50, 55, 50, 56, 50, 57, 51, 48, 51, 49, 51, 50, 51, 51, 51, 52, 51, 53, 51, 54, 51, 55, 51, 56, 51, 57, 52, 48, 52, 49, 52, 50, 52, 51, 52, 52, 52, 53, 52, 54, 52, 55, 52, 56, 52, 57, 53, 48, 53, 49, 53, 50, 53, 51, 53, 52, 53, 53, 53, 54, 53, 55, 53, 56, 53, 57, 54, 48, 54, 49, 54, 50, 54, 51, 54, 52, 54, 53, 54, 54, 54, 55, 54, 56, 54, 57, 55, 48, 55, 49, 55, 50, 55, 51, 55, 52, 55, 53, 55, 54, 55, 55, 55, 56, 55, 57, 56, 48, 56, 49, 56, 50, 56, 51, 56, 52, 56, 53, 56, 54, 56, 55, 56, 56, 56, 57, 57, 48, 57, 49, 57, 50, 57, 51, 57, 52, 57, 53, 57, 54, 57, 55, 57, 56, 57, 57]) (.ar .add .u32 (.ar .mul .u32 (.ar .rem .u32 (.ar .quo .u32 (.conv .u32 (.ar .rem .u64 (.atom 2) (.int .u64 100000000))) (.int .u32 10000)) (.int .u32 100)) (.int .u32 2)) (.int .u32 1)))
   (.chk [] (.inStr (.str [48, 48, 48, 49, 48, 50, 48, 51, 48, 52, 48, 53, 48, 54, 48, 55, 48, 56, 48, 57, 49, 48, 49, 49, 49, 50, 49, 51, 49, 52, 49, 53, 49, 54, 49, 55, 49, 56, 49, 57, 50, 48, 50, 49, 50, 50, 50, 51, 50, 52, 50, 53, 50, 54, 50, 55, 50, 56, 50, 57, 51, 48, 51, 49, 51, 50, 51, 51, 51, 52, 51, 53, 51, 54, 51, 55, 51, 56, 51, 57, 52, 48, 52, 49, 52, 50, 52, 51, 52, 52, 52, 53, 52, 54, 52, 55, 52, 56, 52, 57, 53, 48, 53, 49, 53, 50, 53, 51, 53, 52, 53, 53, 53, 54, 53, 55, 53, 56, 53, 57, 54, 48, 54, 49, 54, 50, 54, 51, 54, 52, 54, 53, 54, 54, 54, 55, 54, 56, 54, 57, 55, 48, 55, 49, 55, 50, 55, 51, 55, 52, 55, 53, 55, 54, 55, 55, 55, 56, 55, 57, 56, 48, 56, 49, 56, 50, 56, 51, 56, 52, 56, 53, 56, 54, 56, 55, 56, 56, 56, 57, 57, 48, 57, 49, 57, 50, 57, 51, 57, 52, 57, 53, 57, 54, 57, 55, 57, 56, 57, 57]) (.ar .mul .u32 (.ar .rem .u32 (.ar .quo .u32 (.conv .u32 (.ar .rem .u64 (.atom 2) (.int .u64 100000000))) (.int .u32 10000)) (.int .u32 100)) (.int .u32 2)))
   (.chk [] (.inSl (.atom 0) (.ar .sub .i64 (.atom 3) (.int .i64 5)))
   (.store (.elt (.atom 0) (.ar .sub .i64 (.atom 3) (.int .i64 5)) 1) [(.sidx (.str [48, 48, 48, 49, 48, 50, 48, 51, 48, 52, 48, 53, 48, 54, 48, 55, 48, 56, 48, 57, 49, 48, 49, 49, 49, 50, 49, 51, 49, 52, 49, 53, 49, 54, 49, 55, 49, 56, 49, 57, 50, 48, 50, 49, 50, 50, 50, 51, 50, 52, 50, 53, 50, 54, 50, 55, 50, 56, 50, 57, 51, 48, 51, 49, 51, 50, 51, 51, 51, 52, 51, 53, 51, 54, 51, 55, 51, 56, 51, 57, 52, 48, 52, 49, 52, 50, 52, 51, 52, 52, 52, 53, 52, 54, 52, 55, 52, 56, 52, 57, 53, 48, 53, 49, 53, 50, 53, 51, 53, 52, 53, 53, 53, 54, 53, 55, 53, 56, 53, 57, 54, 48, 54, 49, 54, 50, 54, 51, 54, 52, 54, 53, 54, 54, 54, 55, 54, 56, 54, 57, 55, 48, 55, 49, 55, 50, 55, 51, 55, 52, 55, 53, 55, 54, 55, 55, 55, 56, 55, 57, 56, 48, 56, 49, 56, 50, 56, 51, 56, 52, 56, 53, 56, 54, 56, 55, 56, 56, 56, 57, 57, 48, 57, 49, 57, 50, 57, 51, 57, 52, 57, 53, 57, 54, 57, 55, 57, 56, 57, 57]) (.ar .add .u32 (.ar .mul .u32 (.ar .rem .u32 (.ar .quo .u32 (.conv .u32 (.ar .rem .u64 (.atom 2) (.int .u64 100000000))) (.int .u32 10000)) (.int .u32 100)) (.int .u32 2)) (.int .u32 1)))]
   (.chk [] (.inSl (.atom 0) (.ar .sub .i64 (.atom 3) (.int .i64 6)))
   (.store (.elt (.atom 0) (.ar .sub .i64 (.atom 3) (.int .i64 6)) 1) [(.sidx (.str [48, 48, 48, 49, 48, 50, 48, 51, 48, 52, 48, 53, 48, 54, 48, 55, 48, 56, 48, 57, 49, 48, 49, 49, 49, 50, 49, 51, 49, 52, 49, 53, 49, 54, 49, 55, 49, 56, 49, 57, 50, 48, 50, 49, 50, 50, 50, 51, 50, 52, 50, 53, 50, 54, 50, 55, 50, 56, 50, 57, 51, 48, 51, 49, 51, 50, 51, 51, 51, 52, 51, 53, 51, 54, 51, 55, 51, 56, 51, 57, 52, 48, 52, 49, 52, 50, 52, 51, 52, 52, 52, 53, 52, 54, 52, 55, 52, 56, 52, 57, 53, 48, 53, 49, 53, 50, 53, 51, 53, 52, 53, 53, 53, 54, 53, 55, 53, 56, 53, 57, 54, 48, 54, 49, 54, 50, 54, 51, 54, 52, 54, 53, 54, 54, 54, 55, 54, 56, 54, 57, 55, 48, 55, 49, 55, 50, 55, 51, 55, 52, 55, 53, 55, 54, 55, 55, 55, 56, 55, 57, 56, 48, 56, 49, 56, 50, 56, 51, 56, 52, 56, 53, 56, 54, 56, 55, 56, 56, 56, 57, 57, 48, 57, 49, 57, 50, 57, 51, 57, 52, 57, 53, 57, 54, 57, 55, 57, 56, 57, 57]) (.ar .mul .u32 (.ar .rem .u32 (.ar .quo .u32 (.conv .u32 (.ar .rem .u64 (.atom 2) (.int .u64 100000000))) (.int .u32 10000)) (.int .u32 100)) (.int .u32 2)))]
   (.chk [] (.inStr (.str [48, 48, 48, 49, 48, 50, 48, 51, 48, 52, 48, 53, 48, 54, 48, 55, 48, 56, 48, 57, 49, 48, 49, 49, 49, 50, 49, 51, 49, 52, 49, 53, 49, 54, 49, 55, 49, 56, 49, 57, 50, 48, 50, 49, 50, 50, 50, 51, 50, 52, 50, 53, 50, 54, 50, 55, 50, 56, 50, 57, 51, 48, 51, 49, 51, 50, 51, 51, 51, 52, 51, 53, 51, 54, 51, 55, 51, 56, 51, 57, 52, 48, 52, 49, 52, 50, 52, 51, 52, 52, 52, 53, 52, 54, 52, 55, 52, 56, 52, 57, 53, 48, 53, 49, 53, 50, 53, 51, 53, 52, 53, 53, 53, 54, 53, 55, 53, 56, 53, 57, 54, 48, 54, 49, 54, 50, 54, 51, 54, 52, 54, 53, 54, 54, 54, 55, 54, 56, 54, 57, 55, 48, 55, 49, 55, 50, 55, 51, 55, 52, 55, 53, 55, 54, 55, 55, 55, 56, 55, 57, 56, 48, 56, 49, 56, 50, 56, 51, 56, 52, 56, 53, 56, 54, 56, 55, 56, 56, 56, 57, 57, 48, 57, 49, 57, 50, 57, 51, 57, 52, 57, 53, 57, 54, 57, 55, 57, 56, 57, 57]) (.ar .add .u32 (.ar .mul .u32 (.ar .quo .u32 (.ar .quo .u32 (.conv .u32 (.ar .rem .u64 (.atom 2) (.int .u64 100000000))) (.int .u32 10000)) (.int .u32 100)) (.int .u32 2)) (.int .u32 1)))
   (.chk [] (.inStr (.str [48, 48, 48, 49, 48, 50, 48, 51, 48, 52, 48, 53, 48, 54, 48, 55, 48, 56, 48, 57, 49, 48, 49, 49, 49, 50, 49, 51, 49, 52, 49, 53, 49, 54, 49, 55, 49, 56, 49, 57, 50, 48, 50, 49, 50, 50, 50, 51, 50, 52, 50, 53, 50, 54, 50, 55, 50, 56, 50, 57, 51, 48, 51, 49, 51, 50, 51, 51, 51, 52, 51, 53, 51, 54, 51, 55, 51, 56, 51, 57, 52, 48, 52, 49, 52, 50, 52, 51, 52, 52, 52, 53, 52, 54, 52, 55, 52, 56, 52, 57, 53, 48, 53, 49, 53, 50, 53, 51, 53, 52, 53, 53, 53, 54, 53, 55, 53, 56, 53, 57, 54, 48, 54, 49, 54, 50, 54, 51, 54, 52, 54, 53, 54, 54, 54, 55, 54, 56, 54, 57, 55, 48, 55, 49, 55, 50, 55, 51, 55, 52, 55, 53, 55, 54, 55, 55, 55, 56, 55, 57, 56, 48, 56, 49, 56, 50, 56, 51, 56, 52, 56, 53, 56, 54, 56, 55, 56, 56, 56, 57, 57, 48, 57, 49, 57, 50, 57, 51, 57, 52, 57, 53, 57, 54, 57, 55, 57, 56, 57, 57]) (.ar .mul .u32 (.ar .quo .u32 (.ar .quo .u32 (.conv .u32 (.ar .rem .u64 (.atom 2) (.int .u64 100000000))) (.int .u32 10000)) (.int .u32 100)) (.int .u32 2)))
   (.chk [] (.inSl (.atom 0) (.ar .sub .i64 (.atom 3) (.int .i64 7)))
   (.store (.elt (.atom 0) (.ar .sub .i64 (.atom 3) (.int .i64 7)) 1) [(.sidx (.str [48, 48, 48, 49, 48, 50, 48, 51, 48, 52, 48, 53, 48, 54, 48, 55, 48, 56, 48, 57, 49, 48, 49, 49, 49, 50, 49, 51, 49, 52, 49, 53, 49, 54, 49, 55, 49, 56, 49, 57, 50, 48, 50, 49, 50, 50, 50, 51, 50, 52, 50, 53, 50, 54, 50, 55, 50, 56, 50, 57, 51, 48, 51, 49, 51, 50, 51, 51, 51, 52, 51, 53, 51, 54, 51, 55, 51, 56, 51, 57, 52, 48, 52, 49, 52, 50, 52, 51, 52, 52, 52, 53, 52, 54, 52, 55, 52, 56, 52, 57, 53, 48, 53, 49, 53, 50, 53, 51, 53, 52, 53, 53, 53, 54, 53, 55, 53, 56, 53, 57, 54, 48, 54, 49, 54, 50, 54, 51, 54, 52, 54, 53, 54, 54, 54, 55, 54, 56, 54, 57, 55, 48, 55, 49, 55, 50, 55, 51, 55, 52, 55, 53, 55, 54, 55, 55, 55, 56, 55, 57, 56, 48, 56, 49, 56, 50, 56, 51, 56, 52, 56, 53, 56, 54, 56, 55, 56, 56, 56, 57, 57, 48, 57, 49, 57, 50, 57, 51, 57, 52, 57, 53, 57, 54, 57, 55, 57, 56, 57, 57]) (.ar .add .u32 (.ar .mul .u32 (.ar .quo .u32 (.ar .quo .u32 (.conv .u32 (.ar .rem .u64 (.atom 2) (.int .u64 100000000))) (.int .u32 10000)) (.int .u32 100)) (.int .u32 2)) (.int .u32 1)))]
   (.chk [] (.inSl (.atom 0) (.ar .sub .i64 (.atom 3) (.int .i64 8)))
   (.store (.elt (.atom 0) (.ar .sub .i64 (.atom 3) (.int .i64 8)) 1) [(.sidx (.str [48, 48, 48, 49, 48, 50, 48, 51, 48, 52, 48, 53, 48, 54, 48, 55, 48, 56, 48, 57, 49, 48, 49, 49, 49, 50, 49, 51, 49, 52, 49, 53, 49, 54, 49, 55, 49, 56, 49, 57, 50, 48, 50, 49, 50, 50, 50, 51, 50, 52, 50, 53, 50, 54, 50, 55, 50, 56, 50, 57, 51, 48, 51, 49, 51, 50, 51, 51, 51, 52, 51, 53, 51, 54, 51, 55, 51, 56, 51, 57, 52, 48, 52, 49, 52, 50, 52, 51, 52, 52, 52, 53, 52, 54, 52, 55, 52, 56, 52, 57, 53, 48, 53, 49, 53, 50, 53, 51, 53, 52, 53, 53, 53, 54, 53, 55, 53, 56, 53, 57, 54, 48, 54, 49, 54, 50, 54, 51, 54, 52, 54, 53, 54, 54, 54, 55, 54, 56, 54, 57, 55, 48, 55, 49, 55, 50, 55, 51, 55, 52, 55, 53, 55, 54, 55, 55, 55, 56, 55, 57, 56, 48, 56, 49, 56, 50, 56, 51, 56, 52, 56, 53, 56, 54, 56, 55, 56, 56, 56, 57, 57, 48, 57, 49, 57, 50, 57, 51, 57, 52, 57, 53, 57, 54, 57, 55, 57, 56, 57, 57]) (.ar .mul .u32 (.ar .quo .u32 (.ar .quo .u32 (.conv .u32 (.ar .rem .u64 (.atom 2) (.int .u64 100000000))) (.int .u32 10000)) (.int .u32 100)) (.int .u32 2)))]
   (.next 2 [(.ar .quo .u64 (.atom 2) (.int .u64 100000000)), (.ar .sub .i64 (.atom 3) (.int .i64 8))])))))))))))))))))))))))))
   (.join 6 [.int .i64, .int .u32]
    (.join 7 [.int .i64, .int .u32]
     (.ite (.cmp .gtr (.atom 6) (.int .i64 0))
      (.chk [] (.inSl (.atom 0) (.int .i64 0))
      (.store (.elt (.atom 0) (.int .i64 0) 1) [(.conv .u8 (.ar .add .u32 (.int .u32 48) (.atom 7)))]
      (.leaf (.tu []))))
      (.leaf (.tu [])))
     (.ite (.cmp .geq (.atom 4) (.int .i64 2))
      (.chk [] (.inStr (.str [48, 48, 48, 49, 48, 50, 48, 51, 48, 52, 48, 53, 48, 54, 48, 55, 48, 56, 48, 57, 49, 48, 49, 49, 49, 50, 49, 51, 49, 52, 49, 53, 49, 54, 49, 55, 49, 56, 49, 57, 50, 48, 50, 49, 50, 50, 50, 51, 50, 52, 50, 53, 50, 54, 50, 55, 50, 56, 50, 57, 51, 48, 51, 49, 51, 50, 51, 51, 51, 52, 51, 53, 51, 54, 51, 55, 51, 56, 51, 57, 52, 48, 52, 49, 52, 50, 52, 51, 52, 52, 52, 53, 52, 54, 52, 55, 52, 56, 52, 57, 53, 48, 53, 49, 53, 50, 53, 51, 53, 52, 53, 53, 53, 54, 53, 55, 53, 56, 53, 57, 54, 48, 54, 49, 54, 50, 54, 51, 54, 52, 54, 53, 54, 54, 54, 55, 54, 56, 54, 57, 55, 48, 55, 49, 55, 50, 55, 51, 55, 52, 55, 53, 55, 54, 55, 55, 55, 56, 55, 57, 56, 48, 56, 49, 56, 50, 56, 51, 56, 52, 56, 53, 56, 54, 56, 55, 56, 56, 56, 57, 57, 48, 57, 49, 57, 50, 57, 51, 57, 52, 57, 53, 57, 54, 57, 55, 57, 56, 57, 57]) (.ar .add .u32 (.ar .mul .u32 (.ar .rem .u32 (.atom 5) (.int .u32 100)) (.int .u32 2)) (.int .u32 1)))
      (.chk [] (.inStr (.str [48, 48, 48, 49, 48, 50, 48, 51, 48, 52, 48, 53, 48, 54, 48, 55, 48, 56, 48, 57, 49, 48, 49, 49, 49, 50, 49, 51, 49, 52, 49, 53, 49, 54, 49, 55, 49, 56, 49, 57, 50, 48, 50, 49, 50, 50, 50, 51, 50, 52, 50, 53, 50, 54, 50, 55, 50, 56, 50, 57, 51, 48, 51, 49, 51, 50, 51, 51, 51, 52, 51, 53, 51, 54, 51, 55, 51, 56, 51, 57, 52, 48, 52, 49, 52, 50, 52, 51, 52, 52, 52, 53, 52, 54, 52, 55, 52, 56, 52, 57, 53, 48, 53, 49, 53, 50, 53, 51, 53, 52, 53, 53, 53, 54, 53, 55, 53, 56, 53, 57, 54, 48, 54, 49, 54, 50, 54, 51, 54, 52, 54, 53, 54, 54, 54, 55, 54, 56, 54, 57, 55, 48, 55, 49, 55, 50, 55, 51, 55, 52, 55, 53, 55, 54, 55, 55, 55, 56, 55, 57, 56, 48, 56, 49, 56, 50, 56, 51, 56, 52, 56, 53, 56, 54, 56, 55, 56, 56, 56, 57, 57, 48, 57, 49, 57, 50, 57, 51, 57, 52, 57, 53, 57, 54, 57, 55, 57, 56, 57, 57]) (.ar .mul .u32 (.ar .rem .u32 (.atom 5) (.int .u32 100)) (.int .u32 2)))
      (.chk [] (.inSl (.atom 0) (.ar .sub .i64 (.atom 4) (.int .i64 1)))
      (.store (.elt (.atom 0) (.ar .sub .i64 (.atom 4) (.int .i64 1)) 1) [(.sidx (.str [48, 48, 48, 49, 48, 50, 48, 51, 48, 52, 48, 53, 48, 54, 48, 55, 48, 56, 48, 57, 49, 48, 49, 49, 49, 50, 49, 51, 49, 52, 49, 53, 49, 54, 49, 55, 49, 56, 49, 57, 50, 48, 50, 49, 50, 50, 50, 51, 50, 52, 50, 53, 50, 54, 50, 55, 50, 56, 50, 57, 51, 48, 51, 49, 51, 50, 51, 51, 51, 52, 51, 53, 51, 54, 51, 55, 51, 56, 51, 57, 52, 48, 52, 49, 52, 50, 52, 51, 52, 52, 52, 53, 52, 54, 52, 55, 52, 56, 52, 57, 53, 48, 53, 49, 53, 50, 53, 51, 53, 52, 53, 53, 53, 54, 53, 55, 53, 56, 53, 57, 54, 48, 54, 49, 54, 50, 54, 51, 54, 52, 54, 53, 54, 54, 54, 55, 54, 56, 54, 57, 55, 48, 55, 49, 55, 50, 55, 51, 55, 52, 55, 53, 55, 54, 55, 55, 55, 56, 55, 57, 56, 48, 56, 49, 56, 50, 56, 51, 56, 52, 56, 53, 56, 54, 56, 55, 56, 56, 56, 57, 57, 48, 57, 49, 57, 50, 57, 51, 57, 52, 57, 53, 57, 54, 57, 55, 57, 56, 57, 57]) (.ar .add .u32 (.ar .mul .u32 (.ar .rem .u32 (.atom 5) (.int .u32 100)) (.int .u32 2)) (.int .u32 1)))]
      (.chk [] (.inSl (.atom 0) (.ar .sub .i64 (.atom 4) (.int .i64 2)))
      (.store (.elt (.atom 0) (.ar .sub .i64 (.atom 4) (.int .i64 2)) 1) [(.sidx (.str [48, 48, 48, 49, 48, 50, 48, 51, 48, 52, 48, 53, 48, 54, 48, 55, 48, 56, 48, 57, 49, 48, 49, 49, 49, 50, 49, 51, 49, 52, 49, 53, 49, 54, 49, 55, 49, 56, 49, 57, 50, 48, 50, 49, 50, 50, 50, 51, 50, 52, 50, 53, 50, 54, 50, 55, 50, 56, 50, 57, 51, 48, 51, 49, 51, 50, 51, 51, 51, 52, 51, 53, 51, 54, 51, 55, 51, 56, 51, 57, 52, 48, 52, 49, 52, 50, 52, 51, 52, 52, 52, 53, 52, 54, 52, 55, 52, 56, 52, 57, 53, 48, 53, 49, 53, 50, 53, 51, 53, 52, 53, 53, 53, 54, 53, 55, 53, 56, 53, 57, 54, 48, 54, 49, 54, 50, 54, 51, 54, 52, 54, 53, 54, 54, 54, 55, 54, 56, 54, 57, 55, 48, 55, 49, 55, 50, 55, 51, 55, 52, 55, 53, 55, 54, 55, 55, 55, 56, 55, 57, 56, 48, 56, 49, 56, 50, 56, 51, 56, 52, 56, 53, 56, 54, 56, 55, 56, 56, 56, 57, 57, 48, 57, 49, 57, 50, 57, 51, 57, 52, 57, 53, 57, 54, 57, 55, 57, 56, 57, 57]) (.ar .mul .u32 (.ar .rem .u32 (.atom 5) (.int .u32 100)) (.int .u32 2)))]
      (.next 7 [(.ar .sub .i64 (.atom 4) (.int .i64 2)), (.ar .quo .u32 (.atom 5) (.int .u32 100))])))))))
      (.next 7 [(.atom 4), (.atom 5)])))
    (.ite (.cmp .geq (.atom 3) (.int .i64 4))
     (.chk [] (.inStr (.str [48, 48, 48, 49, 48, 50, 48, 51, 48, 52, 48, 53, 48, 54, 48, 55, 48, 56, 48, 57, 49, 48, 49, 49, 49, 50, 49, 51, 49, 52, 49, 53, 49, 54, 49, 55, 49, 56, 49, 57, 50, 48, 50, 49, 50, 50, 50, 51, 50, 52, 50, 53, 50, 54, 50, 55, 50, 56, 50, 57, 51, 48, 51, 49, 51, 50, 51, 51, 51, 52, 51, 53, 51, 54, 51, 55, 51, 56, 51, 57, 52, 48, 52, 49, 52, 50, 52, 51, 52, 52, 52, 53, 52, 54, 52, 55, 52, 56, 52, 57, 53, 48, 53, 49, 53, 50, 53, 51, 53, 52, 53, 53, 53, 54, 53, 55, 53, 56, 53, 57, 54, 48, 54, 49, 54, 50, 54, 51, 54, 52, 54, 53, 54, 54, 54, 55, 54, 56, 54, 57, 55, 48, 55, 49, 55, 50, 55, 51, 55, 52, 55, 53, 55, 54, 55, 55, 55, 56, 55, 57, 56, 48, 56, 49, 56, 50, 56, 51, 56, 52, 56, 53, 56, 54, 56, 55, 56, 56, 56, 57, 57, 48, 57, 49, 57, 50, 57, 51, 57, 52, 57, 53, 57, 54, 57, 55, 57, 56, 57, 57]) (.ar .add .u32 (.ar .mul .u32 (.ar .rem .u32 (.ar .rem .u32 (.conv .u32 (.atom 2)) (.int .u32 10000)) (.int .u32 100)) (.int .u32 2)) (.int .u32 1)))
     (.chk [] (.inStr (.str [48, 48, 48, 49, 48, 50, 48, 51, 48, 52, 48, 53, 48, 54, 48, 55, 48, 56, 48, 57, 49, 48, 49, 49, 49, 50, 49, 51, 49, 52, 49, 53, 49, 54, 49, 55, 49, 56, 49, 57, 50, 48, 50, 49, 50, 50, 50, 51, 50, 52, 50, 53, 50, 54, 50, 55, 50, 56, 50, 57, 51, 48, 51, 49, 51, 50, 51, 51, 51, 52, 51, 53, 51, 54, 51, 55, 51, 56, 51, 57, 52, 48, 52, 49, 52, 50, 52, 51, 52, 52, 52, 53, 52, 54, 52, 55, 52, 56, 52, 57, 53, 48, 53, 49, 53, 50, 53, 51, 53, 52, 53, 53, 53, 54, 53, 55, 53, 56, 53, 57, 54, 48, 54, 49, 54, 50, 54, 51, 54, 52, 54, 53, 54, 54, 54, 55, 54, 56, 54, 57, 55, 48, 55, 49, 55, 50, 55, 51, 55, 52, 55, 53, 55, 54, 55, 55, 55, 56, 55, 57, 56, 48, 56, 49, 56, 50, 56, 51, 56, 52, 56, 53, 56, 54, 56, 55, 56, 56, 56, 57, 57, 48, 57, 49, 57, 50, 57, 51, 57, 52, 57, 53, 57, 54, 57, 55, 57, 56, 57, 57]) (.ar .mul .u32 (.ar .rem .u32 (.ar .rem .u32 (.conv .u32 (.atom 2)) (.int .u32 10000)) (.int .u32 100)) (.int .u32 2)))
     (.chk [] (.inSl (.atom 0) (.ar .sub .i64 (.atom 3) (.int .i64 1)))
     (.store (.elt (.atom 0) (.ar .sub .i64 (.atom 3) (.int .i64 1)) 1) [(.sidx (.str [48, 48, 48, 49, 48, 50, 48, 51, 48, 52, 48, 53, 48, 54, 48, 55, 48, 56, 48, 57, 49, 48, 49, 49, 49, 50, 49, 51, 49, 52, 49, 53, 49, 54, 49, 55, 49, 56, 49, 57, 50, 48, 50, 49, 50, 50, 50, 51, 50, 52, 50, 53, 50, 54, 50, 55, 50, 56, 50, 57, 51, 48, 51, 49, 51, 50, 51, 51, 51, 52, 51, 53, 51, 54, 51, 55, 51, 56, 51, 57, 52, 48, 52, 49, 52, 50, 52, 51, 52, 52, 52, 53, 52, 54, 52, 55, 52, 56, 52, 57, 53, 48, 53, 49, 53, 50, 53, 51, 53, 52, 53, 53, 53, 54, 53, 55, 53, 56, 53, 57, 54, 48, 54, 49, 54, 50, 54, 51, 54, 52, 54, 53, 54, 54, 54, 55, 54, 56, 54, 57, 55, 48, 55, 49, 55, 50, 55, 51, 55, 52, 55, 53, 55, 54, 55, 55, 55, 56, 55, 57, 56, 48, 56, 49, 56, 50, 56, 51, 56, 52, 56, 53, 56, 54, 56, 55, 56, 56, 56, 57, 57, 48, 57, 49, 57, 50, 57, 51, 57, 52, 57, 53, 57, 54, 57, 55, 57, 56, 57, 57]) (.ar .add .u32 (.ar .mul .u32 (.ar .rem .u32 (.ar .rem .u32 (.conv .u32 (.atom 2)) (.int .u32 10000)) (.int .u32 100)) (.int .u32 2)) (.int .u32 1)))]
     (.chk [] (.inSl (.atom 0) (.ar .sub .i64 (.atom 3) (.int .i64 2)))
     (.store (.elt (.atom 0) (.ar .sub .i64 (.atom 3) (.int .i64 2)) 1) [(.sidx (.str [48, 48, 48, 49, 48, 50, 48, 51, 48, 52, 48, 53, 48, 54, 48, 55, 48, 56, 48, 57, 49, 48, 49, 49, 49, 50, 49, 51, 49, 52, 49, 53, 49, 54, 49, 55, 49, 56, 49, 57, 50, 48, 50, 49, 50, 50, 50, 51, 50, 52, 50, 53, 50, 54, 50, 55, 50, 56, 50, 57, 51, 48, 51, 49, 51, 50, 51, 51, 51, 52, 51, 53, 51, 54, 51, 55, 51, 56, 51, 57, 52, 48, 52, 49, 52, 50, 52, 51, 52, 52, 52, 53, 52, 54, 52, 55, 52, 56, 52, 57, 53, 48, 53, 49, 53, 50, 53, 51, 53, 52, 53, 53, 53, 54, 53, 55, 53, 56, 53, 57, 54, 48, 54, 49, 54, 50, 54, 51, 54, 52, 54, 53, 54, 54, 54, 55, 54, 56, 54, 57, 55, 48, 55, 49, 55, 50, 55, 51, 55, 52, 55, 53, 55, 54, 55, 55, 55, 56, 55, 57, 56, 48, 56, 49, 56, 50, 56, 51, 56, 52, 56, 53, 56, 54, 56, 55, 56, 56, 56, 57, 57, 48, 57, 49, 57, 50, 57, 51, 57, 52, 57, 53, 57, 54, 57, 55, 57, 56, 57, 57]) (.ar .mul .u32 (.ar .rem .u32 (.ar .rem .u32 (.conv .u32 (.atom 2)) (.int .u32 10000)) (.int .u32 100)) (.int .u32 2)))]
     (.chk [] (.inStr (.str [48, 48, 48, 49, 48, 50, 48, 51, 48, 52, 48, 53, 48, 54, 48, 55, 48, 56, 48, 57, 49, 48, 49, 49, 49, 50, 49, 51, 49, 52, 49, 53, 49, 54, 49, 55, 49, 56, 49, 57, 50, 48, 50, 49, 50, 50, 50, 51, 50, 52, 50, 53, 50, 54, 50, 55, 50, 56, 50, 57, 51, 48, 51, 49, 51, 50, 51, 51, 51, 52, 51, 53, 51, 54, 51, 55, 51, 56, 51, 57, 52, 48, 52, 49, 52, 50, 52, 51, 52, 52, 52, 53, 52, 54, 52, 55, 52, 56, 52, 57, 53, 48, 53, 49, 53, 50, 53, 51, 53, 52, 53, 53, 53, 54, 53, 55, 53, 56, 53, 57, 54, 48, 54, 49, 54, 50, 54, 51, 54, 52, 54, 53, 54, 54, 54, 55, 54, 56, 54, 57, 55, 48, 55, 49, 55, 50, 55, 51, 55, 52, 55, 53, 55, 54, 55, 55, 55, 56, 55, 57, 56, 48, 56, 49, 56, 50, 56, 51, 56, 52, 56, 53, 56, 54, 56, 55, 56, 56, 56, 57, 57, 48, 57, 49, 57, 50, 57, 51, 57, 52, 57, 53, 57, 54, 57, 55, 57, 56, 57, 57]) (.ar .add .u32 (.ar .mul .u32 (.ar .quo .u32 (.ar .rem .u32 (.conv .u32 (.atom 2)) (.int .u32 10000)) (.int .u32 100)) (.int .u32 2)) (.int .u32 1)))
     (.chk [] (.inStr (.str [48, 48, 48, 49, 48, 50, 48, 51, 48, 52, 48, 53, 48, 54, 48, 55, 48, 56, 48, 57, 49, 48, 49, 49, 49, 50, 49, 51, 49, 52, 49, 53, 49, 54, 49, 55, 49, 56, 49, 57, 50, 48, 50, 49, 50, 50, 50, 51, 50, 52, 50, 53, 50, 54, 50, 55, 50, 56, 50, 57, 51, 48, 51, 49, 51, 50, 51, 51, 51, 52, 51, 53, 51, 54, 51, 55, 51, 56, 51, 57, 52, 48, 52, 49, 52, 50, 52, 51, 52, 52, 52, 53, 52, 54, 52, 55, 52, 56, 52, 57, 53, 48, 53, 49, 53, 50, 53, 51, 53, 52, 53, 53, 53, 54, 53, 55, 53, 56, 53, 57, 54, 48, 54, 49, 54, 50, 54, 51, 54, 52, 54, 53, 54, 54, 54, 55, 54, 56, 54, 57, 55, 48, 55, 49, 55, 50, 55, 51, 55, 52, 55, 53, 55, 54, 55, 55, 55, 56, 55, 57, 56, 48, 56, 49, 56, 50, 56, 51, 56, 52, 56, 53, 56, 54, 56, 55, 56, 56, 56, 57, 57, 48, 57, 49, 57, 50, 57, 51, 57, 52, 57, 53, 57, 54, 57, 55, 57, 56, 57, 57]) (.ar .mul .u32 (.ar .quo .u32 (.ar .rem .u32 (.conv .u32 (.atom 2)) (.int .u32 10000)) (.int .u32 100)) (.int .u32 2)))
     (.chk [] (.inSl (.atom 0) (.ar .sub .i64 (.atom 3) (.int .i64 3)))
     (.store (.elt (.atom 0) (.ar .sub .i64 (.atom 3) (.int .i64 3)) 1) [(.sidx (.str [48, 48, 48, 49, 48, 50, 48, 51, 48, 52, 48, 53, 48, 54, 48, 55, 48, 56, 48, 57, 49, 48, 49, 49, 49, 50, 49, 51, 49, 52, 49, 53, 49, 54, 49, 55, 49, 56, 49, 57, 50, 48, 50, 49, 50, 50, 50, 51, 50, 52, 50, 53, 50, 54, 50, 55, 50, 56, 50, 57, 51, 48, 51, 49, 51, 50, 51, 51, 51, 52, 51, 53, 51, 54, 51, 55, 51, 56, 51, 57, 52, 48, 52, 49, 52, 50, 52, 51, 52, 52, 52, 53, 52, 54, 52, 55, 52, 56, 52, 57, 53, 48, 53, 49, 53, 50, 53, 51, 53, 52, 53, 53, 53, 54, 53, 55, 53, 56, 53, 57, 54, 48, 54, 49, 54, 50, 54, 51, 54, 52, 54, 53, 54, 54, 54, 55, 54, 56, 54, 57, 55, 48, 55, 49, 55, 50, 55, 51, 55, 52, 55, 53, 55, 54, 55, 55, 55, 56, 55, 57, 56, 48, 56, 49, 56, 50, 56, 51, 56, 52, 56, 53, 56, 54, 56, 55, 56, 56, 56, 57, 57, 48, 57, 49, 57, 50, 57, 51, 57, 52, 57, 53, 57, 54, 57, 55, 57, 56, 57, 57]) (.ar .add .u32 (.ar .mul .u32 (.ar .quo .u32 (.ar .rem .u32 (.conv .u32 (.atom 2)) (.int .u32 10000)) (.int .u32 100)) (.int .u32 2)) (.int .u32 1)))]
     (.chk [] (.inSl (.atom 0) (.ar .sub .i64 (.atom 3) (.int .i64 4)))
     (.store (.elt (.atom 0) (.ar .sub .i64 (.atom 3) (.int .i64 4)) 1) [(.sidx (.str [48, 48, 48, 49, 48, 50, 48, 51, 48, 52, 48, 53, 48, 54, 48, 55, 48, 56, 48, 57, 49, 48, 49, 49, 49, 50, 49, 51, 49, 52, 49, 53, 49, 54, 49, 55, 49, 56, 49, 57, 50, 48, 50, 49, 50, 50, 50, 51, 50, 52, 50, 53, 50, 54, 50, 55, 50, 56, 50, 57, 51, 48, 51, 49, 51, 50, 51, 51, 51, 52, 51, 53, 51, 54, 51, 55, 51, 56, 51, 57, 52, 48, 52, 49, 52, 50, 52, 51, 52, 52, 52, 53, 52, 54, 52, 55, 52, 56, 52, 57, 53, 48, 53, 49, 53, 50, 53, 51, 53, 52, 53, 53, 53, 54, 53, 55, 53, 56, 53, 57, 54, 48, 54, 49, 54, 50, 54, 51, 54, 52, 54, 53, 54, 54, 54, 55, 54, 56, 54, 57, 55, 48, 55, 49, 55, 50, 55, 51, 55, 52, 55, 53, 55, 54, 55, 55, 55, 56, 55, 57, 56, 48, 56, 49, 56, 50, 56, 51, 56, 52, 56, 53, 56, 54, 56, 55, 56, 56, 56, 57, 57, 48, 57, 49, 57, 50, 57, 51, 57, 52, 57, 53, 57, 54, 57, 55, 57, 56, 57, 57]) (.ar .mul .u32 (.ar .quo .u32 (.ar .rem .u32 (.conv .u32 (.atom 2)) (.int .u32 10000)) (.int .u32 100)) (.int .u32 2)))]
     (.next 6 [(.ar .sub .i64 (.atom 3) (.int .i64 4)), (.ar .quo .u32 (.conv .u32 (.atom 2)) (.int .u32 10000))])))))))))))))
     (.next 6 [(.atom 3), (.conv .u32 (.atom 2))])))))
theorem fm_internal_strconv_formatBase10_eq : execF Tryd.prog { pub := [], nojoin := false } Tryd.f95 = fm_internal_strconv_formatBase10 := by kernel_rfl
theorem cb_internal_strconv_formatBase10 : callB Tryd.prog 95 = true := by kernel_rfl
theorem tri_internal_strconv_formatBase10 (E : List Value) {args : Array Value} {H : PH} {R : Ending → PH → Prop} (hE : tagsOk ((paramRS Tryd.prog Tryd.f95).flatMap RS.tags) E = true) (hargs : args.toList = packAll (paramRS Tryd.prog Tryd.f95) E)
    (hden : den Tryd.prog (fun c H' => R (.panicked c) H') fm_internal_strconv_formatBase10 E H [] (fun ve E' H' _ => R (.returned (evV E' (fun _ => 0) ve)) H')) : Tri Tryd.prog 95 args H R :=
  execF_tri (op := { pub := [], nojoin := false }) Tryd.func95 hE hargs (by rw [fm_internal_strconv_formatBase10_eq]; exact hden)

/-- scrimshaw/data.isDigit -/
abbrev n_data_isDigit : FuncId := 97
def fm_data_isDigit : Fm VE :=
 (.leaf (.sc (.pick (.cmp .geq (.atom 0) (.int .u8 48)) (.cmp .leq (.atom 0) (.int .u8 57)) (.bool false))))
theorem fm_data_isDigit_eq : execF Tryd.prog { pub := [], nojoin := false } Tryd.f97 = fm_data_isDigit := by kernel_rfl
theorem cb_data_isDigit : callB Tryd.prog 97 = true := by kernel_rfl
theorem tri_data_isDigit (E : List Value) {args : Array Value} {H : PH} {R : Ending → PH → Prop} (hE : tagsOk ((paramRS Tryd.prog Tryd.f97).flatMap RS.tags) E = true) (hargs : args.toList = packAll (paramRS Tryd.prog Tryd.f97) E)
    (hden : den Tryd.prog (fun c H' => R (.panicked c) H') fm_data_isDigit E H [] (fun ve E' H' _ => R (.returned (evV E' (fun _ => 0) ve)) H')) : Tri Tryd.prog 97 args H R :=
  execF_tri (op := { pub := [], nojoin := false }) Tryd.func97 hE hargs (by rw [fm_data_isDigit_eq]; exact hden)

/-- internal/strconv.lower -/
abbrev n_internal_strconv_lower : FuncId := 99
def fm_internal_strconv_lower : Fm VE :=
 (.leaf (.sc (.ar .or .u8 (.atom 0) (.int .u8 32))))
theorem fm_internal_strconv_lower_eq : execF Tryd.prog { pub := [], nojoin := false } Tryd.f99 = fm_internal_strconv_lower := by kernel_rfl
theorem cb_internal_strconv_lower : callB Tryd.prog 99 = true := by kernel_rfl
theorem tri_internal_strconv_lower (E : List Value) {args : Array Value} {H : PH} {R : Ending → PH → Prop} (hE : tagsOk ((paramRS Tryd.prog Tryd.f99).flatMap RS.tags) E = true) (hargs : args.toList = packAll (paramRS Tryd.prog Tryd.f99) E)
    (hden : den Tryd.prog (fun c H' => R (.panicked c) H') fm_internal_strconv_lower E H [] (fun ve E' H' _ => R (.returned (evV E' (fun _ => 0) ve)) H')) : Tri Tryd.prog 99 args H R :=
  execF_tri (op := { pub := [], nojoin := false }) Tryd.func99 hE hargs (by rw [fm_internal_strconv_lower_eq]; exact hden)

/-- internal/strconv.log10Pow2 -/
abbrev n_internal_strconv_log10Pow2 : FuncId := 102
def fm_internal_strconv_log10Pow2 : Fm VE :=
 (.leaf (.sc (.ar .shr .i64 (.ar .mul .i64 (.atom 0) (.int .i64 78913)) (.int .u64 18))))
theorem fm_internal_strconv_log10Pow2_eq : execF Tryd.prog { pub := [], nojoin := false } Tryd.f102 = fm_internal_strconv_log10Pow2 := by kernel_rfl
theorem cb_internal_strconv_log10Pow2 : callB Tryd.prog 102 = true := by kernel_rfl
theorem tri_internal_strconv_log10Pow2 (E : List Value) {args : Array Value} {H : PH} {R : Ending → PH → Prop} (hE : tagsOk ((paramRS Tryd.prog Tryd.f102).flatMap RS.tags) E = true) (hargs : args.toList = packAll (paramRS Tryd.prog Tryd.f102) E)
    (hden : den Tryd.prog (fun c H' => R (.panicked c) H') fm_internal_strconv_log10Pow2 E H [] (fun ve E' H' _ => R (.returned (evV E' (fun _ => 0) ve)) H')) : Tri Tryd.prog 102 args H R :=
  execF_tri (op := { pub := [], nojoin := false }) Tryd.func102 hE hargs (by rw [fm_internal_strconv_log10Pow2_eq]; exact hden)

end Go.Proofs.YtlnmmakbgldflaaDoor.Vc
