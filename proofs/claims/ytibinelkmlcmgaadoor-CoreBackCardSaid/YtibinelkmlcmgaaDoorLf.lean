/-
  Texts on the way to the statement, one behind the other, without what it does not reach.
-/
import Derived.Test.YtibinelkmlcmgaaDoorLe
import Derived.Test.YtibinelkmlcmgaaDoorRows
import Derived.KernelRfl
set_option linter.unusedSimpArgs false
set_option linter.unusedVariables false
set_option maxRecDepth 100000
/-
  THE FORMULAS of the program's functions, as the executor gives them; each is checked by the kernel. Printed by a program of our own.
-/
namespace Go.Proofs.YtibinelkmlcmgaaDoor.Vc
open Go
/-- what a function's formula tells of it -/
def TriOf (P : Program) (f : FuncId) (fn : Func) (fm : Fm VE) : Prop := ∀ (E : List Value) {args : Array Value} {H : PH} {R : Ending → PH → Prop}, tagsOk ((paramRS P fn).flatMap RS.tags) E = true → args.toList = packAll (paramRS P fn) E →
  den P (fun c H' => R (.panicked c) H') fm E H [] (fun ve E' H' _ => R (.returned (evV E' (fun _ => 0) ve)) H') → Tri P f args H R
theorem triOf {P : Program} {f : FuncId} {fn : Func} {fm : Fm VE} {op : Opt} (hf : P.funcs[f]? = some fn) (he : execF P op fn = fm) : TriOf P f fn fm :=
  fun E _ _ _ hE ha hd => execF_tri (op := op) hf hE ha (by rw [he]; exact hd)

/-- scrimshaw/scrimshawlaw06.CoreBack -/
abbrev n_scrimshawlaw06_CoreBack : FuncId := 4
def fm_scrimshawlaw06_CoreBack : Fm VE :=
 (.call (.fn 13) [(.ag [(.atom 0), (.atom 1), (.atom 2), (.atom 3), (.atom 4), (.atom 5), (.atom 6), (.atom 7)])] (.tu [(true, [.int .i64, .int .i64, .str, .sl]), (false, [.int .i64])]) []
 (.join 3 [.bool]
  (.ite (.atom 17)
   (.leaf (.sc (.bool false)))
   (.join 4 []
    (.sem (.buildSlice 23 1 #[(0, (.tmp 41))]) 23 [(41, (.ag [(.atom 8), (.atom 9), (.atom 10), (.atom 11)]))] (.sc (.sl)) []
    (.call (.fn 16) [(.sc (.atom 18))] (.sc (.bool)) []
    (.ite (.atom 19)
     (.leaf (.sc (.bool true)))
     (.call (.fn 14) [(.ag [(.atom 8), (.atom 9), (.atom 10), (.atom 11)])] (.tu [(true, [.int .i64, .str, .sl, .int .i64, .int .i64, .str, .sl, .sl]), (false, [.int .i64])]) []
     (.ite (.cmp .neq (.atom 28) (.int .i64 0))
      (.join 10 [.bool]
       (.leaf (.sc (.atom 29)))
       (.ite (.cmp .eql (.atom 28) (.int .i64 60))
        (.call (.fn 15) [(.ag [(.atom 20), (.atom 21), (.atom 22), (.atom 23), (.atom 24), (.atom 25), (.atom 26), (.atom 27)]), (.ag [(.int .i64 0), (.str []), (.nil 1), (.int .i64 0), (.int .i64 0), (.str []), (.nil 1), (.nil 1)])] (.sc (.bool)) []
        (.next 10 [(.atom 29)]))
        (.next 10 [(.bool false)])))
      (.call (.fn 13) [(.ag [(.atom 20), (.atom 21), (.atom 22), (.atom 23), (.atom 24), (.atom 25), (.atom 26), (.atom 27)])] (.tu [(true, [.int .i64, .int .i64, .str, .sl]), (false, [.int .i64])]) []
      (.join 11 [.bool]
       (.leaf (.sc (.atom 34)))
       (.ite (.cmp .eql (.atom 33) (.int .i64 0))
        (.call (.fn 17) [(.ag [(.atom 29), (.atom 30), (.atom 31), (.atom 32)]), (.ag [(.atom 8), (.atom 9), (.atom 10), (.atom 11)])] (.sc (.bool)) []
        (.next 11 [(.atom 34)]))
        (.next 11 [(.bool false)])))))))))
    (.ite (.cmp .eql (.atom 16) (.int .i64 0))
     (.call (.fn 14) [(.ag [(.atom 12), (.atom 13), (.atom 14), (.atom 15)])] (.tu [(true, [.int .i64, .str, .sl, .int .i64, .int .i64, .str, .sl, .sl]), (false, [.int .i64])]) []
     (.join 7 [.bool]
      (.ite (.atom 27)
       (.leaf (.sc (.bool false)))
       (.next 4 []))
      (.ite (.cmp .neq (.atom 26) (.int .i64 0))
       (.next 7 [(.bool true)])
       (.call (.fn 15) [(.ag [(.atom 18), (.atom 19), (.atom 20), (.atom 21), (.atom 22), (.atom 23), (.atom 24), (.atom 25)]), (.ag [(.atom 0), (.atom 1), (.atom 2), (.atom 3), (.atom 4), (.atom 5), (.atom 6), (.atom 7)])] (.sc (.bool)) []
       (.next 7 [(.not (.atom 27))])))))
     (.next 4 []))))
  (.call (.fn 5) [] (.sc (.bool)) []
  (.ite (.not (.atom 17))
   (.next 3 [(.bool true)])
   (.call (.fn 6) [(.ag [(.atom 0), (.atom 1), (.atom 2), (.atom 3), (.atom 4), (.atom 5), (.atom 6), (.atom 7)])] (.sc (.int .i64)) []
   (.next 3 [(.cmp .neq (.atom 16) (.atom 18))]))))))
theorem fm_scrimshawlaw06_CoreBack_eq : execF Tryd.prog { pub := [], nojoin := false } Tryd.f4 = fm_scrimshawlaw06_CoreBack := by kernel_rfl
theorem tri_scrimshawlaw06_CoreBack : TriOf Tryd.prog 4 Tryd.f4 fm_scrimshawlaw06_CoreBack := triOf Tryd.func4 fm_scrimshawlaw06_CoreBack_eq

/-- scrimshaw/scrimshawlaw06.fixed -/
abbrev n_scrimshawlaw06_fixed : FuncId := 5
def fm_scrimshawlaw06_fixed : Fm VE :=
 (.call (.fn 18) [(.sc (.str [120]))] (.ag [.int .i64, .str, .sl, .int .i64, .int .i64, .str, .sl, .sl]) []
 (.call (.fn 18) [(.sc (.str [118, 46, 48]))] (.ag [.int .i64, .str, .sl, .int .i64, .int .i64, .str, .sl, .sl]) []
 (.sem (.buildSlice 26 2 #[(0, (.tmp 7)), (1, (.tmp 8))]) 26 [(7, (.ag [(.atom 0), (.atom 1), (.atom 2), (.atom 3), (.atom 4), (.atom 5), (.atom 6), (.atom 7)])), (8, (.ag [(.atom 8), (.atom 9), (.atom 10), (.atom 11), (.atom 12), (.atom 13), (.atom 14), (.atom 15)]))] (.sc (.sl)) []
 (.join 2 [.ptr]
  (.load (.atom 17) [.int .i64, .str, .sl, .int .i64, .int .i64, .str, .sl, .sl]
  (.call (.fn 7) [(.ag [(.atom 18), (.atom 19), (.atom 20), (.atom 21), (.atom 22), (.atom 23), (.atom 24), (.atom 25)])] (.ag [.int .i64, .str, .sl, .int .i64, .int .i64, .str, .sl, .sl]) []
  (.call (.fn 13) [(.ag [(.atom 26), (.atom 27), (.atom 28), (.atom 29), (.atom 30), (.atom 31), (.atom 32), (.atom 33)])] (.tu [(true, [.int .i64, .int .i64, .str, .sl]), (false, [.int .i64])]) []
  (.sem (.buildSlice 22 1 #[(0, (.const (.string ⟨#[118, 46, 49]⟩)))]) 22 [] (.sc (.sl)) []
  (.sem (.buildSlice 22 1 #[(0, (.const (.string ⟨#[118, 46, 50]⟩)))]) 22 [] (.sc (.sl)) []
  (.call (.fn 18) [(.sc (.str [118, 46, 49]))] (.ag [.int .i64, .str, .sl, .int .i64, .int .i64, .str, .sl, .sl]) []
  (.call (.fn 18) [(.sc (.str [118, 46, 48]))] (.ag [.int .i64, .str, .sl, .int .i64, .int .i64, .str, .sl, .sl]) []
  (.sem (.buildSlice 26 2 #[(0, (.tmp 27)), (1, (.tmp 28))]) 26 [(27, (.ag [(.atom 41), (.atom 42), (.atom 43), (.atom 44), (.atom 45), (.atom 46), (.atom 47), (.atom 48)])), (28, (.ag [(.atom 49), (.atom 50), (.atom 51), (.atom 52), (.atom 53), (.atom 54), (.atom 55), (.atom 56)]))] (.sc (.sl)) []
  (.call (.fn 18) [(.sc (.str [118, 46, 50]))] (.ag [.int .i64, .str, .sl, .int .i64, .int .i64, .str, .sl, .sl]) []
  (.sem (.buildSlice 26 2 #[(0, (.tmp 30)), (1, (.tmp 31))]) 26 [(30, (.ag [(.int .i64 7), (.str [43]), (.nil 1), (.int .i64 0), (.int .i64 0), (.str []), (.nil 1), (.atom 57)])), (31, (.ag [(.atom 58), (.atom 59), (.atom 60), (.atom 61), (.atom 62), (.atom 63), (.atom 64), (.atom 65)]))] (.sc (.sl)) []
  (.sem (.buildSlice 26 1 #[(0, (.tmp 33))]) 26 [(33, (.ag [(.int .i64 8), (.str []), (.atom 40), (.int .i64 0), (.int .i64 0), (.str []), (.nil 1), (.atom 66)]))] (.sc (.sl)) []
  (.load (.atom 17) [.int .i64, .str, .sl, .int .i64, .int .i64, .str, .sl, .sl]
  (.call (.fn 9) [(.ag [(.atom 68), (.atom 69), (.atom 70), (.atom 71), (.atom 72), (.atom 73), (.atom 74), (.atom 75)])] (.sc (.sl)) []
  (.join 6 [.bool]
   (.leaf (.sc (.atom 77)))
   (.ite (.cmp .eql (.atom 38) (.int .i64 0))
    (.call (.fn 19) [(.ag [(.int .i64 5), (.str []), (.atom 39), (.int .i64 0), (.int .i64 0), (.str []), (.nil 1), (.atom 67)])] (.ag [.int .i64, .int .i64, .str, .sl]) []
    (.call (.fn 17) [(.ag [(.atom 34), (.atom 35), (.atom 36), (.atom 37)]), (.ag [(.atom 77), (.atom 78), (.atom 79), (.atom 80)])] (.sc (.bool)) []
    (.chk [((.pick (.atom 81) (.cmp .eql (.len (.atom 76)) (.int .i64 1)) (.bool false)), true)] (.inSl (.atom 76) (.int .i64 0))
    (.ite (.pick (.atom 81) (.cmp .eql (.len (.atom 76)) (.int .i64 1)) (.bool false))
     (.load (.elt (.atom 76) (.int .i64 0) 1) [.str]
     (.ite (.scmp .eql (.atom 82) (.str [118, 46, 48]))
      (.call (.fn 6) [(.ag [(.int .i64 3), (.str []), (.nil 1), (.int .i64 0), (.int .i64 0), (.str []), (.nil 1), (.nil 1)])] (.sc (.int .i64)) []
      (.ite (.cmp .eql (.atom 83) (.int .i64 60))
       (.call (.fn 20) [(.sc (.str [99, 97, 114]))] (.sc (.int .i64)) []
       (.next 6 [(.cmp .eql (.atom 84) (.int .i64 1))]))
       (.next 6 [(.bool false)])))
      (.next 6 [(.bool false)])))
     (.next 6 [(.bool false)])))))
    (.next 6 [(.bool false)]))))))))))))))))
  (.both
   (.sem (.buildSlice 22 1 #[(0, (.const (.string ⟨#[120]⟩)))]) 22 [] (.sc (.sl)) []
   (.both
    (.sem (.buildSlice 22 1 #[(0, (.const (.string ⟨#[120]⟩)))]) 22 [] (.sc (.sl)) []
    (.both
     (.call (.fn 18) [(.sc (.str [120]))] (.ag [.int .i64, .str, .sl, .int .i64, .int .i64, .str, .sl, .sl]) []
     (.both
      (.sem (.buildSlice 26 2 #[(0, (.tmp 13)), (1, (.tmp 14))]) 26 [(13, (.ag [(.int .i64 7), (.str [43]), (.nil 1), (.int .i64 0), (.int .i64 0), (.str []), (.nil 1), (.atom 16)])), (14, (.ag [(.atom 19), (.atom 20), (.atom 21), (.atom 22), (.atom 23), (.atom 24), (.atom 25), (.atom 26)]))] (.sc (.sl)) []
      (.both
       (.sem (.buildSlice 26 1 #[(0, (.tmp 16))]) 26 [(16, (.ag [(.int .i64 8), (.str []), (.atom 18), (.int .i64 0), (.int .i64 0), (.str []), (.nil 1), (.atom 27)]))] (.sc (.sl)) []
       (.new 28 [(.int .i64 0), (.str []), (.nil 1), (.int .i64 0), (.int .i64 0), (.str []), (.nil 1), (.nil 1)]
       (.store (.atom 29) [(.int .i64 5), (.str []), (.atom 17), (.int .i64 0), (.int .i64 0), (.str []), (.nil 1), (.atom 28)]
       (.next 2 [(.atom 29)]))))
       (.new 28 [(.int .i64 0), (.str []), (.nil 1), (.int .i64 0), (.int .i64 0), (.str []), (.nil 1), (.nil 1)]
       (.sem (.buildSlice 26 1 #[(0, (.tmp 16))]) 26 [(16, (.ag [(.int .i64 8), (.str []), (.atom 18), (.int .i64 0), (.int .i64 0), (.str []), (.nil 1), (.atom 27)]))] (.sc (.sl)) []
       (.store (.atom 28) [(.int .i64 5), (.str []), (.atom 17), (.int .i64 0), (.int .i64 0), (.str []), (.nil 1), (.atom 29)]
       (.next 2 [(.atom 28)]))))))
      (.new 28 [(.int .i64 0), (.str []), (.nil 1), (.int .i64 0), (.int .i64 0), (.str []), (.nil 1), (.nil 1)]
      (.sem (.buildSlice 26 2 #[(0, (.tmp 13)), (1, (.tmp 14))]) 26 [(13, (.ag [(.int .i64 7), (.str [43]), (.nil 1), (.int .i64 0), (.int .i64 0), (.str []), (.nil 1), (.atom 16)])), (14, (.ag [(.atom 19), (.atom 20), (.atom 21), (.atom 22), (.atom 23), (.atom 24), (.atom 25), (.atom 26)]))] (.sc (.sl)) []
      (.sem (.buildSlice 26 1 #[(0, (.tmp 16))]) 26 [(16, (.ag [(.int .i64 8), (.str []), (.atom 18), (.int .i64 0), (.int .i64 0), (.str []), (.nil 1), (.atom 28)]))] (.sc (.sl)) []
      (.store (.atom 27) [(.int .i64 5), (.str []), (.atom 17), (.int .i64 0), (.int .i64 0), (.str []), (.nil 1), (.atom 29)]
      (.next 2 [(.atom 27)])))))))
     (.new 28 [(.int .i64 0), (.str []), (.nil 1), (.int .i64 0), (.int .i64 0), (.str []), (.nil 1), (.nil 1)]
     (.call (.fn 18) [(.sc (.str [120]))] (.ag [.int .i64, .str, .sl, .int .i64, .int .i64, .str, .sl, .sl]) []
     (.sem (.buildSlice 26 2 #[(0, (.tmp 13)), (1, (.tmp 14))]) 26 [(13, (.ag [(.int .i64 7), (.str [43]), (.nil 1), (.int .i64 0), (.int .i64 0), (.str []), (.nil 1), (.atom 16)])), (14, (.ag [(.atom 20), (.atom 21), (.atom 22), (.atom 23), (.atom 24), (.atom 25), (.atom 26), (.atom 27)]))] (.sc (.sl)) []
     (.sem (.buildSlice 26 1 #[(0, (.tmp 16))]) 26 [(16, (.ag [(.int .i64 8), (.str []), (.atom 18), (.int .i64 0), (.int .i64 0), (.str []), (.nil 1), (.atom 28)]))] (.sc (.sl)) []
     (.store (.atom 19) [(.int .i64 5), (.str []), (.atom 17), (.int .i64 0), (.int .i64 0), (.str []), (.nil 1), (.atom 29)]
     (.next 2 [(.atom 19)]))))))))
    (.both
     (.call (.fn 18) [(.sc (.str [120]))] (.ag [.int .i64, .str, .sl, .int .i64, .int .i64, .str, .sl, .sl]) []
     (.both
      (.sem (.buildSlice 22 1 #[(0, (.const (.string ⟨#[120]⟩)))]) 22 [] (.sc (.sl)) []
      (.both
       (.sem (.buildSlice 26 2 #[(0, (.tmp 13)), (1, (.tmp 14))]) 26 [(13, (.ag [(.int .i64 7), (.str [43]), (.nil 1), (.int .i64 0), (.int .i64 0), (.str []), (.nil 1), (.atom 16)])), (14, (.ag [(.atom 18), (.atom 19), (.atom 20), (.atom 21), (.atom 22), (.atom 23), (.atom 24), (.atom 25)]))] (.sc (.sl)) []
       (.both
        (.sem (.buildSlice 26 1 #[(0, (.tmp 16))]) 26 [(16, (.ag [(.int .i64 8), (.str []), (.atom 26), (.int .i64 0), (.int .i64 0), (.str []), (.nil 1), (.atom 27)]))] (.sc (.sl)) []
        (.new 28 [(.int .i64 0), (.str []), (.nil 1), (.int .i64 0), (.int .i64 0), (.str []), (.nil 1), (.nil 1)]
        (.store (.atom 29) [(.int .i64 5), (.str []), (.atom 17), (.int .i64 0), (.int .i64 0), (.str []), (.nil 1), (.atom 28)]
        (.next 2 [(.atom 29)]))))
        (.new 28 [(.int .i64 0), (.str []), (.nil 1), (.int .i64 0), (.int .i64 0), (.str []), (.nil 1), (.nil 1)]
        (.sem (.buildSlice 26 1 #[(0, (.tmp 16))]) 26 [(16, (.ag [(.int .i64 8), (.str []), (.atom 26), (.int .i64 0), (.int .i64 0), (.str []), (.nil 1), (.atom 27)]))] (.sc (.sl)) []
        (.store (.atom 28) [(.int .i64 5), (.str []), (.atom 17), (.int .i64 0), (.int .i64 0), (.str []), (.nil 1), (.atom 29)]
        (.next 2 [(.atom 28)]))))))
       (.new 28 [(.int .i64 0), (.str []), (.nil 1), (.int .i64 0), (.int .i64 0), (.str []), (.nil 1), (.nil 1)]
       (.sem (.buildSlice 26 2 #[(0, (.tmp 13)), (1, (.tmp 14))]) 26 [(13, (.ag [(.int .i64 7), (.str [43]), (.nil 1), (.int .i64 0), (.int .i64 0), (.str []), (.nil 1), (.atom 16)])), (14, (.ag [(.atom 18), (.atom 19), (.atom 20), (.atom 21), (.atom 22), (.atom 23), (.atom 24), (.atom 25)]))] (.sc (.sl)) []
       (.sem (.buildSlice 26 1 #[(0, (.tmp 16))]) 26 [(16, (.ag [(.int .i64 8), (.str []), (.atom 26), (.int .i64 0), (.int .i64 0), (.str []), (.nil 1), (.atom 28)]))] (.sc (.sl)) []
       (.store (.atom 27) [(.int .i64 5), (.str []), (.atom 17), (.int .i64 0), (.int .i64 0), (.str []), (.nil 1), (.atom 29)]
       (.next 2 [(.atom 27)])))))))
      (.both
       (.sem (.buildSlice 26 2 #[(0, (.tmp 13)), (1, (.tmp 14))]) 26 [(13, (.ag [(.int .i64 7), (.str [43]), (.nil 1), (.int .i64 0), (.int .i64 0), (.str []), (.nil 1), (.atom 16)])), (14, (.ag [(.atom 18), (.atom 19), (.atom 20), (.atom 21), (.atom 22), (.atom 23), (.atom 24), (.atom 25)]))] (.sc (.sl)) []
       (.both
        (.sem (.buildSlice 22 1 #[(0, (.const (.string ⟨#[120]⟩)))]) 22 [] (.sc (.sl)) []
        (.both
         (.sem (.buildSlice 26 1 #[(0, (.tmp 16))]) 26 [(16, (.ag [(.int .i64 8), (.str []), (.atom 27), (.int .i64 0), (.int .i64 0), (.str []), (.nil 1), (.atom 26)]))] (.sc (.sl)) []
         (.new 28 [(.int .i64 0), (.str []), (.nil 1), (.int .i64 0), (.int .i64 0), (.str []), (.nil 1), (.nil 1)]
         (.store (.atom 29) [(.int .i64 5), (.str []), (.atom 17), (.int .i64 0), (.int .i64 0), (.str []), (.nil 1), (.atom 28)]
         (.next 2 [(.atom 29)]))))
         (.new 28 [(.int .i64 0), (.str []), (.nil 1), (.int .i64 0), (.int .i64 0), (.str []), (.nil 1), (.nil 1)]
         (.sem (.buildSlice 26 1 #[(0, (.tmp 16))]) 26 [(16, (.ag [(.int .i64 8), (.str []), (.atom 27), (.int .i64 0), (.int .i64 0), (.str []), (.nil 1), (.atom 26)]))] (.sc (.sl)) []
         (.store (.atom 28) [(.int .i64 5), (.str []), (.atom 17), (.int .i64 0), (.int .i64 0), (.str []), (.nil 1), (.atom 29)]
         (.next 2 [(.atom 28)]))))))
        (.new 28 [(.int .i64 0), (.str []), (.nil 1), (.int .i64 0), (.int .i64 0), (.str []), (.nil 1), (.nil 1)]
        (.sem (.buildSlice 22 1 #[(0, (.const (.string ⟨#[120]⟩)))]) 22 [] (.sc (.sl)) []
        (.sem (.buildSlice 26 1 #[(0, (.tmp 16))]) 26 [(16, (.ag [(.int .i64 8), (.str []), (.atom 28), (.int .i64 0), (.int .i64 0), (.str []), (.nil 1), (.atom 26)]))] (.sc (.sl)) []
        (.store (.atom 27) [(.int .i64 5), (.str []), (.atom 17), (.int .i64 0), (.int .i64 0), (.str []), (.nil 1), (.atom 29)]
        (.next 2 [(.atom 27)])))))))
       (.new 28 [(.int .i64 0), (.str []), (.nil 1), (.int .i64 0), (.int .i64 0), (.str []), (.nil 1), (.nil 1)]
       (.both
        (.sem (.buildSlice 22 1 #[(0, (.const (.string ⟨#[120]⟩)))]) 22 [] (.sc (.sl)) []
        (.sem (.buildSlice 26 2 #[(0, (.tmp 13)), (1, (.tmp 14))]) 26 [(13, (.ag [(.int .i64 7), (.str [43]), (.nil 1), (.int .i64 0), (.int .i64 0), (.str []), (.nil 1), (.atom 16)])), (14, (.ag [(.atom 18), (.atom 19), (.atom 20), (.atom 21), (.atom 22), (.atom 23), (.atom 24), (.atom 25)]))] (.sc (.sl)) []
        (.sem (.buildSlice 26 1 #[(0, (.tmp 16))]) 26 [(16, (.ag [(.int .i64 8), (.str []), (.atom 27), (.int .i64 0), (.int .i64 0), (.str []), (.nil 1), (.atom 28)]))] (.sc (.sl)) []
        (.store (.atom 26) [(.int .i64 5), (.str []), (.atom 17), (.int .i64 0), (.int .i64 0), (.str []), (.nil 1), (.atom 29)]
        (.next 2 [(.atom 26)])))))
        (.sem (.buildSlice 26 2 #[(0, (.tmp 13)), (1, (.tmp 14))]) 26 [(13, (.ag [(.int .i64 7), (.str [43]), (.nil 1), (.int .i64 0), (.int .i64 0), (.str []), (.nil 1), (.atom 16)])), (14, (.ag [(.atom 18), (.atom 19), (.atom 20), (.atom 21), (.atom 22), (.atom 23), (.atom 24), (.atom 25)]))] (.sc (.sl)) []
        (.sem (.buildSlice 22 1 #[(0, (.const (.string ⟨#[120]⟩)))]) 22 [] (.sc (.sl)) []
        (.sem (.buildSlice 26 1 #[(0, (.tmp 16))]) 26 [(16, (.ag [(.int .i64 8), (.str []), (.atom 28), (.int .i64 0), (.int .i64 0), (.str []), (.nil 1), (.atom 27)]))] (.sc (.sl)) []
        (.store (.atom 26) [(.int .i64 5), (.str []), (.atom 17), (.int .i64 0), (.int .i64 0), (.str []), (.nil 1), (.atom 29)]
        (.next 2 [(.atom 26)]))))))))))
     (.new 28 [(.int .i64 0), (.str []), (.nil 1), (.int .i64 0), (.int .i64 0), (.str []), (.nil 1), (.nil 1)]
     (.both
      (.sem (.buildSlice 22 1 #[(0, (.const (.string ⟨#[120]⟩)))]) 22 [] (.sc (.sl)) []
      (.call (.fn 18) [(.sc (.str [120]))] (.ag [.int .i64, .str, .sl, .int .i64, .int .i64, .str, .sl, .sl]) []
      (.sem (.buildSlice 26 2 #[(0, (.tmp 13)), (1, (.tmp 14))]) 26 [(13, (.ag [(.int .i64 7), (.str [43]), (.nil 1), (.int .i64 0), (.int .i64 0), (.str []), (.nil 1), (.atom 16)])), (14, (.ag [(.atom 20), (.atom 21), (.atom 22), (.atom 23), (.atom 24), (.atom 25), (.atom 26), (.atom 27)]))] (.sc (.sl)) []
      (.sem (.buildSlice 26 1 #[(0, (.tmp 16))]) 26 [(16, (.ag [(.int .i64 8), (.str []), (.atom 19), (.int .i64 0), (.int .i64 0), (.str []), (.nil 1), (.atom 28)]))] (.sc (.sl)) []
      (.store (.atom 18) [(.int .i64 5), (.str []), (.atom 17), (.int .i64 0), (.int .i64 0), (.str []), (.nil 1), (.atom 29)]
      (.next 2 [(.atom 18)]))))))
      (.call (.fn 18) [(.sc (.str [120]))] (.ag [.int .i64, .str, .sl, .int .i64, .int .i64, .str, .sl, .sl]) []
      (.both
       (.sem (.buildSlice 22 1 #[(0, (.const (.string ⟨#[120]⟩)))]) 22 [] (.sc (.sl)) []
       (.sem (.buildSlice 26 2 #[(0, (.tmp 13)), (1, (.tmp 14))]) 26 [(13, (.ag [(.int .i64 7), (.str [43]), (.nil 1), (.int .i64 0), (.int .i64 0), (.str []), (.nil 1), (.atom 16)])), (14, (.ag [(.atom 19), (.atom 20), (.atom 21), (.atom 22), (.atom 23), (.atom 24), (.atom 25), (.atom 26)]))] (.sc (.sl)) []
       (.sem (.buildSlice 26 1 #[(0, (.tmp 16))]) 26 [(16, (.ag [(.int .i64 8), (.str []), (.atom 27), (.int .i64 0), (.int .i64 0), (.str []), (.nil 1), (.atom 28)]))] (.sc (.sl)) []
       (.store (.atom 18) [(.int .i64 5), (.str []), (.atom 17), (.int .i64 0), (.int .i64 0), (.str []), (.nil 1), (.atom 29)]
       (.next 2 [(.atom 18)])))))
       (.sem (.buildSlice 26 2 #[(0, (.tmp 13)), (1, (.tmp 14))]) 26 [(13, (.ag [(.int .i64 7), (.str [43]), (.nil 1), (.int .i64 0), (.int .i64 0), (.str []), (.nil 1), (.atom 16)])), (14, (.ag [(.atom 19), (.atom 20), (.atom 21), (.atom 22), (.atom 23), (.atom 24), (.atom 25), (.atom 26)]))] (.sc (.sl)) []
       (.sem (.buildSlice 22 1 #[(0, (.const (.string ⟨#[120]⟩)))]) 22 [] (.sc (.sl)) []
       (.sem (.buildSlice 26 1 #[(0, (.tmp 16))]) 26 [(16, (.ag [(.int .i64 8), (.str []), (.atom 28), (.int .i64 0), (.int .i64 0), (.str []), (.nil 1), (.atom 27)]))] (.sc (.sl)) []
       (.store (.atom 18) [(.int .i64 5), (.str []), (.atom 17), (.int .i64 0), (.int .i64 0), (.str []), (.nil 1), (.atom 29)]
       (.next 2 [(.atom 18)]))))))))))))
   (.both
    (.sem (.buildSlice 22 1 #[(0, (.const (.string ⟨#[120]⟩)))]) 22 [] (.sc (.sl)) []
    (.both
     (.sem (.buildSlice 22 1 #[(0, (.const (.string ⟨#[120]⟩)))]) 22 [] (.sc (.sl)) []
     (.both
      (.call (.fn 18) [(.sc (.str [120]))] (.ag [.int .i64, .str, .sl, .int .i64, .int .i64, .str, .sl, .sl]) []
      (.both
       (.sem (.buildSlice 26 2 #[(0, (.tmp 13)), (1, (.tmp 14))]) 26 [(13, (.ag [(.int .i64 7), (.str [43]), (.nil 1), (.int .i64 0), (.int .i64 0), (.str []), (.nil 1), (.atom 16)])), (14, (.ag [(.atom 19), (.atom 20), (.atom 21), (.atom 22), (.atom 23), (.atom 24), (.atom 25), (.atom 26)]))] (.sc (.sl)) []
       (.both
        (.sem (.buildSlice 26 1 #[(0, (.tmp 16))]) 26 [(16, (.ag [(.int .i64 8), (.str []), (.atom 17), (.int .i64 0), (.int .i64 0), (.str []), (.nil 1), (.atom 27)]))] (.sc (.sl)) []
        (.new 28 [(.int .i64 0), (.str []), (.nil 1), (.int .i64 0), (.int .i64 0), (.str []), (.nil 1), (.nil 1)]
        (.store (.atom 29) [(.int .i64 5), (.str []), (.atom 18), (.int .i64 0), (.int .i64 0), (.str []), (.nil 1), (.atom 28)]
        (.next 2 [(.atom 29)]))))
        (.new 28 [(.int .i64 0), (.str []), (.nil 1), (.int .i64 0), (.int .i64 0), (.str []), (.nil 1), (.nil 1)]
        (.sem (.buildSlice 26 1 #[(0, (.tmp 16))]) 26 [(16, (.ag [(.int .i64 8), (.str []), (.atom 17), (.int .i64 0), (.int .i64 0), (.str []), (.nil 1), (.atom 27)]))] (.sc (.sl)) []
        (.store (.atom 28) [(.int .i64 5), (.str []), (.atom 18), (.int .i64 0), (.int .i64 0), (.str []), (.nil 1), (.atom 29)]
        (.next 2 [(.atom 28)]))))))
       (.new 28 [(.int .i64 0), (.str []), (.nil 1), (.int .i64 0), (.int .i64 0), (.str []), (.nil 1), (.nil 1)]
       (.sem (.buildSlice 26 2 #[(0, (.tmp 13)), (1, (.tmp 14))]) 26 [(13, (.ag [(.int .i64 7), (.str [43]), (.nil 1), (.int .i64 0), (.int .i64 0), (.str []), (.nil 1), (.atom 16)])), (14, (.ag [(.atom 19), (.atom 20), (.atom 21), (.atom 22), (.atom 23), (.atom 24), (.atom 25), (.atom 26)]))] (.sc (.sl)) []
       (.sem (.buildSlice 26 1 #[(0, (.tmp 16))]) 26 [(16, (.ag [(.int .i64 8), (.str []), (.atom 17), (.int .i64 0), (.int .i64 0), (.str []), (.nil 1), (.atom 28)]))] (.sc (.sl)) []
       (.store (.atom 27) [(.int .i64 5), (.str []), (.atom 18), (.int .i64 0), (.int .i64 0), (.str []), (.nil 1), (.atom 29)]
       (.next 2 [(.atom 27)])))))))
      (.new 28 [(.int .i64 0), (.str []), (.nil 1), (.int .i64 0), (.int .i64 0), (.str []), (.nil 1), (.nil 1)]
      (.call (.fn 18) [(.sc (.str [120]))] (.ag [.int .i64, .str, .sl, .int .i64, .int .i64, .str, .sl, .sl]) []
      (.sem (.buildSlice 26 2 #[(0, (.tmp 13)), (1, (.tmp 14))]) 26 [(13, (.ag [(.int .i64 7), (.str [43]), (.nil 1), (.int .i64 0), (.int .i64 0), (.str []), (.nil 1), (.atom 16)])), (14, (.ag [(.atom 20), (.atom 21), (.atom 22), (.atom 23), (.atom 24), (.atom 25), (.atom 26), (.atom 27)]))] (.sc (.sl)) []
      (.sem (.buildSlice 26 1 #[(0, (.tmp 16))]) 26 [(16, (.ag [(.int .i64 8), (.str []), (.atom 17), (.int .i64 0), (.int .i64 0), (.str []), (.nil 1), (.atom 28)]))] (.sc (.sl)) []
      (.store (.atom 19) [(.int .i64 5), (.str []), (.atom 18), (.int .i64 0), (.int .i64 0), (.str []), (.nil 1), (.atom 29)]
      (.next 2 [(.atom 19)]))))))))
     (.both
      (.call (.fn 18) [(.sc (.str [120]))] (.ag [.int .i64, .str, .sl, .int .i64, .int .i64, .str, .sl, .sl]) []
      (.both
       (.sem (.buildSlice 22 1 #[(0, (.const (.string ⟨#[120]⟩)))]) 22 [] (.sc (.sl)) []
       (.both
        (.sem (.buildSlice 26 2 #[(0, (.tmp 13)), (1, (.tmp 14))]) 26 [(13, (.ag [(.int .i64 7), (.str [43]), (.nil 1), (.int .i64 0), (.int .i64 0), (.str []), (.nil 1), (.atom 16)])), (14, (.ag [(.atom 18), (.atom 19), (.atom 20), (.atom 21), (.atom 22), (.atom 23), (.atom 24), (.atom 25)]))] (.sc (.sl)) []
        (.both
         (.sem (.buildSlice 26 1 #[(0, (.tmp 16))]) 26 [(16, (.ag [(.int .i64 8), (.str []), (.atom 17), (.int .i64 0), (.int .i64 0), (.str []), (.nil 1), (.atom 27)]))] (.sc (.sl)) []
         (.new 28 [(.int .i64 0), (.str []), (.nil 1), (.int .i64 0), (.int .i64 0), (.str []), (.nil 1), (.nil 1)]
         (.store (.atom 29) [(.int .i64 5), (.str []), (.atom 26), (.int .i64 0), (.int .i64 0), (.str []), (.nil 1), (.atom 28)]
         (.next 2 [(.atom 29)]))))
         (.new 28 [(.int .i64 0), (.str []), (.nil 1), (.int .i64 0), (.int .i64 0), (.str []), (.nil 1), (.nil 1)]
         (.sem (.buildSlice 26 1 #[(0, (.tmp 16))]) 26 [(16, (.ag [(.int .i64 8), (.str []), (.atom 17), (.int .i64 0), (.int .i64 0), (.str []), (.nil 1), (.atom 27)]))] (.sc (.sl)) []
         (.store (.atom 28) [(.int .i64 5), (.str []), (.atom 26), (.int .i64 0), (.int .i64 0), (.str []), (.nil 1), (.atom 29)]
         (.next 2 [(.atom 28)]))))))
        (.new 28 [(.int .i64 0), (.str []), (.nil 1), (.int .i64 0), (.int .i64 0), (.str []), (.nil 1), (.nil 1)]
        (.sem (.buildSlice 26 2 #[(0, (.tmp 13)), (1, (.tmp 14))]) 26 [(13, (.ag [(.int .i64 7), (.str [43]), (.nil 1), (.int .i64 0), (.int .i64 0), (.str []), (.nil 1), (.atom 16)])), (14, (.ag [(.atom 18), (.atom 19), (.atom 20), (.atom 21), (.atom 22), (.atom 23), (.atom 24), (.atom 25)]))] (.sc (.sl)) []
        (.sem (.buildSlice 26 1 #[(0, (.tmp 16))]) 26 [(16, (.ag [(.int .i64 8), (.str []), (.atom 17), (.int .i64 0), (.int .i64 0), (.str []), (.nil 1), (.atom 28)]))] (.sc (.sl)) []
        (.store (.atom 27) [(.int .i64 5), (.str []), (.atom 26), (.int .i64 0), (.int .i64 0), (.str []), (.nil 1), (.atom 29)]
        (.next 2 [(.atom 27)])))))))
       (.both
        (.sem (.buildSlice 26 2 #[(0, (.tmp 13)), (1, (.tmp 14))]) 26 [(13, (.ag [(.int .i64 7), (.str [43]), (.nil 1), (.int .i64 0), (.int .i64 0), (.str []), (.nil 1), (.atom 16)])), (14, (.ag [(.atom 18), (.atom 19), (.atom 20), (.atom 21), (.atom 22), (.atom 23), (.atom 24), (.atom 25)]))] (.sc (.sl)) []
        (.both
         (.sem (.buildSlice 22 1 #[(0, (.const (.string ⟨#[120]⟩)))]) 22 [] (.sc (.sl)) []
         (.both
          (.sem (.buildSlice 26 1 #[(0, (.tmp 16))]) 26 [(16, (.ag [(.int .i64 8), (.str []), (.atom 17), (.int .i64 0), (.int .i64 0), (.str []), (.nil 1), (.atom 26)]))] (.sc (.sl)) []
          (.new 28 [(.int .i64 0), (.str []), (.nil 1), (.int .i64 0), (.int .i64 0), (.str []), (.nil 1), (.nil 1)]
          (.store (.atom 29) [(.int .i64 5), (.str []), (.atom 27), (.int .i64 0), (.int .i64 0), (.str []), (.nil 1), (.atom 28)]
          (.next 2 [(.atom 29)]))))
          (.new 28 [(.int .i64 0), (.str []), (.nil 1), (.int .i64 0), (.int .i64 0), (.str []), (.nil 1), (.nil 1)]
          (.sem (.buildSlice 26 1 #[(0, (.tmp 16))]) 26 [(16, (.ag [(.int .i64 8), (.str []), (.atom 17), (.int .i64 0), (.int .i64 0), (.str []), (.nil 1), (.atom 26)]))] (.sc (.sl)) []
          (.store (.atom 28) [(.int .i64 5), (.str []), (.atom 27), (.int .i64 0), (.int .i64 0), (.str []), (.nil 1), (.atom 29)]
          (.next 2 [(.atom 28)]))))))
         (.both
          (.sem (.buildSlice 26 1 #[(0, (.tmp 16))]) 26 [(16, (.ag [(.int .i64 8), (.str []), (.atom 17), (.int .i64 0), (.int .i64 0), (.str []), (.nil 1), (.atom 26)]))] (.sc (.sl)) []
          (.both
           (.sem (.buildSlice 22 1 #[(0, (.const (.string ⟨#[120]⟩)))]) 22 [] (.sc (.sl)) []
           (.new 28 [(.int .i64 0), (.str []), (.nil 1), (.int .i64 0), (.int .i64 0), (.str []), (.nil 1), (.nil 1)]
           (.store (.atom 29) [(.int .i64 5), (.str []), (.atom 28), (.int .i64 0), (.int .i64 0), (.str []), (.nil 1), (.atom 27)]
           (.next 2 [(.atom 29)]))))
           (.new 28 [(.int .i64 0), (.str []), (.nil 1), (.int .i64 0), (.int .i64 0), (.str []), (.nil 1), (.nil 1)]
           (.sem (.buildSlice 22 1 #[(0, (.const (.string ⟨#[120]⟩)))]) 22 [] (.sc (.sl)) []
           (.store (.atom 28) [(.int .i64 5), (.str []), (.atom 29), (.int .i64 0), (.int .i64 0), (.str []), (.nil 1), (.atom 27)]
           (.next 2 [(.atom 28)]))))))
          (.new 28 [(.int .i64 0), (.str []), (.nil 1), (.int .i64 0), (.int .i64 0), (.str []), (.nil 1), (.nil 1)]
          (.both
           (.sem (.buildSlice 22 1 #[(0, (.const (.string ⟨#[120]⟩)))]) 22 [] (.sc (.sl)) []
           (.sem (.buildSlice 26 1 #[(0, (.tmp 16))]) 26 [(16, (.ag [(.int .i64 8), (.str []), (.atom 17), (.int .i64 0), (.int .i64 0), (.str []), (.nil 1), (.atom 26)]))] (.sc (.sl)) []
           (.store (.atom 27) [(.int .i64 5), (.str []), (.atom 28), (.int .i64 0), (.int .i64 0), (.str []), (.nil 1), (.atom 29)]
           (.next 2 [(.atom 27)]))))
           (.sem (.buildSlice 26 1 #[(0, (.tmp 16))]) 26 [(16, (.ag [(.int .i64 8), (.str []), (.atom 17), (.int .i64 0), (.int .i64 0), (.str []), (.nil 1), (.atom 26)]))] (.sc (.sl)) []
           (.sem (.buildSlice 22 1 #[(0, (.const (.string ⟨#[120]⟩)))]) 22 [] (.sc (.sl)) []
           (.store (.atom 27) [(.int .i64 5), (.str []), (.atom 29), (.int .i64 0), (.int .i64 0), (.str []), (.nil 1), (.atom 28)]
           (.next 2 [(.atom 27)])))))))))
        (.new 28 [(.int .i64 0), (.str []), (.nil 1), (.int .i64 0), (.int .i64 0), (.str []), (.nil 1), (.nil 1)]
        (.both
         (.sem (.buildSlice 22 1 #[(0, (.const (.string ⟨#[120]⟩)))]) 22 [] (.sc (.sl)) []
         (.sem (.buildSlice 26 2 #[(0, (.tmp 13)), (1, (.tmp 14))]) 26 [(13, (.ag [(.int .i64 7), (.str [43]), (.nil 1), (.int .i64 0), (.int .i64 0), (.str []), (.nil 1), (.atom 16)])), (14, (.ag [(.atom 18), (.atom 19), (.atom 20), (.atom 21), (.atom 22), (.atom 23), (.atom 24), (.atom 25)]))] (.sc (.sl)) []
         (.sem (.buildSlice 26 1 #[(0, (.tmp 16))]) 26 [(16, (.ag [(.int .i64 8), (.str []), (.atom 17), (.int .i64 0), (.int .i64 0), (.str []), (.nil 1), (.atom 28)]))] (.sc (.sl)) []
         (.store (.atom 26) [(.int .i64 5), (.str []), (.atom 27), (.int .i64 0), (.int .i64 0), (.str []), (.nil 1), (.atom 29)]
         (.next 2 [(.atom 26)])))))
         (.sem (.buildSlice 26 2 #[(0, (.tmp 13)), (1, (.tmp 14))]) 26 [(13, (.ag [(.int .i64 7), (.str [43]), (.nil 1), (.int .i64 0), (.int .i64 0), (.str []), (.nil 1), (.atom 16)])), (14, (.ag [(.atom 18), (.atom 19), (.atom 20), (.atom 21), (.atom 22), (.atom 23), (.atom 24), (.atom 25)]))] (.sc (.sl)) []
         (.both
          (.sem (.buildSlice 22 1 #[(0, (.const (.string ⟨#[120]⟩)))]) 22 [] (.sc (.sl)) []
          (.sem (.buildSlice 26 1 #[(0, (.tmp 16))]) 26 [(16, (.ag [(.int .i64 8), (.str []), (.atom 17), (.int .i64 0), (.int .i64 0), (.str []), (.nil 1), (.atom 27)]))] (.sc (.sl)) []
          (.store (.atom 26) [(.int .i64 5), (.str []), (.atom 28), (.int .i64 0), (.int .i64 0), (.str []), (.nil 1), (.atom 29)]
          (.next 2 [(.atom 26)]))))
          (.sem (.buildSlice 26 1 #[(0, (.tmp 16))]) 26 [(16, (.ag [(.int .i64 8), (.str []), (.atom 17), (.int .i64 0), (.int .i64 0), (.str []), (.nil 1), (.atom 27)]))] (.sc (.sl)) []
          (.sem (.buildSlice 22 1 #[(0, (.const (.string ⟨#[120]⟩)))]) 22 [] (.sc (.sl)) []
          (.store (.atom 26) [(.int .i64 5), (.str []), (.atom 29), (.int .i64 0), (.int .i64 0), (.str []), (.nil 1), (.atom 28)]
          (.next 2 [(.atom 26)])))))))))))
      (.new 28 [(.int .i64 0), (.str []), (.nil 1), (.int .i64 0), (.int .i64 0), (.str []), (.nil 1), (.nil 1)]
      (.both
       (.sem (.buildSlice 22 1 #[(0, (.const (.string ⟨#[120]⟩)))]) 22 [] (.sc (.sl)) []
       (.call (.fn 18) [(.sc (.str [120]))] (.ag [.int .i64, .str, .sl, .int .i64, .int .i64, .str, .sl, .sl]) []
       (.sem (.buildSlice 26 2 #[(0, (.tmp 13)), (1, (.tmp 14))]) 26 [(13, (.ag [(.int .i64 7), (.str [43]), (.nil 1), (.int .i64 0), (.int .i64 0), (.str []), (.nil 1), (.atom 16)])), (14, (.ag [(.atom 20), (.atom 21), (.atom 22), (.atom 23), (.atom 24), (.atom 25), (.atom 26), (.atom 27)]))] (.sc (.sl)) []
       (.sem (.buildSlice 26 1 #[(0, (.tmp 16))]) 26 [(16, (.ag [(.int .i64 8), (.str []), (.atom 17), (.int .i64 0), (.int .i64 0), (.str []), (.nil 1), (.atom 28)]))] (.sc (.sl)) []
       (.store (.atom 18) [(.int .i64 5), (.str []), (.atom 19), (.int .i64 0), (.int .i64 0), (.str []), (.nil 1), (.atom 29)]
       (.next 2 [(.atom 18)]))))))
       (.call (.fn 18) [(.sc (.str [120]))] (.ag [.int .i64, .str, .sl, .int .i64, .int .i64, .str, .sl, .sl]) []
       (.both
        (.sem (.buildSlice 22 1 #[(0, (.const (.string ⟨#[120]⟩)))]) 22 [] (.sc (.sl)) []
        (.sem (.buildSlice 26 2 #[(0, (.tmp 13)), (1, (.tmp 14))]) 26 [(13, (.ag [(.int .i64 7), (.str [43]), (.nil 1), (.int .i64 0), (.int .i64 0), (.str []), (.nil 1), (.atom 16)])), (14, (.ag [(.atom 19), (.atom 20), (.atom 21), (.atom 22), (.atom 23), (.atom 24), (.atom 25), (.atom 26)]))] (.sc (.sl)) []
        (.sem (.buildSlice 26 1 #[(0, (.tmp 16))]) 26 [(16, (.ag [(.int .i64 8), (.str []), (.atom 17), (.int .i64 0), (.int .i64 0), (.str []), (.nil 1), (.atom 28)]))] (.sc (.sl)) []
        (.store (.atom 18) [(.int .i64 5), (.str []), (.atom 27), (.int .i64 0), (.int .i64 0), (.str []), (.nil 1), (.atom 29)]
        (.next 2 [(.atom 18)])))))
        (.sem (.buildSlice 26 2 #[(0, (.tmp 13)), (1, (.tmp 14))]) 26 [(13, (.ag [(.int .i64 7), (.str [43]), (.nil 1), (.int .i64 0), (.int .i64 0), (.str []), (.nil 1), (.atom 16)])), (14, (.ag [(.atom 19), (.atom 20), (.atom 21), (.atom 22), (.atom 23), (.atom 24), (.atom 25), (.atom 26)]))] (.sc (.sl)) []
        (.both
         (.sem (.buildSlice 22 1 #[(0, (.const (.string ⟨#[120]⟩)))]) 22 [] (.sc (.sl)) []
         (.sem (.buildSlice 26 1 #[(0, (.tmp 16))]) 26 [(16, (.ag [(.int .i64 8), (.str []), (.atom 17), (.int .i64 0), (.int .i64 0), (.str []), (.nil 1), (.atom 27)]))] (.sc (.sl)) []
         (.store (.atom 18) [(.int .i64 5), (.str []), (.atom 28), (.int .i64 0), (.int .i64 0), (.str []), (.nil 1), (.atom 29)]
         (.next 2 [(.atom 18)]))))
         (.sem (.buildSlice 26 1 #[(0, (.tmp 16))]) 26 [(16, (.ag [(.int .i64 8), (.str []), (.atom 17), (.int .i64 0), (.int .i64 0), (.str []), (.nil 1), (.atom 27)]))] (.sc (.sl)) []
         (.sem (.buildSlice 22 1 #[(0, (.const (.string ⟨#[120]⟩)))]) 22 [] (.sc (.sl)) []
         (.store (.atom 18) [(.int .i64 5), (.str []), (.atom 29), (.int .i64 0), (.int .i64 0), (.str []), (.nil 1), (.atom 28)]
         (.next 2 [(.atom 18)])))))))))))))
    (.both
     (.call (.fn 18) [(.sc (.str [120]))] (.ag [.int .i64, .str, .sl, .int .i64, .int .i64, .str, .sl, .sl]) []
     (.both
      (.sem (.buildSlice 22 1 #[(0, (.const (.string ⟨#[120]⟩)))]) 22 [] (.sc (.sl)) []
      (.both
       (.sem (.buildSlice 22 1 #[(0, (.const (.string ⟨#[120]⟩)))]) 22 [] (.sc (.sl)) []
       (.both
        (.sem (.buildSlice 26 2 #[(0, (.tmp 13)), (1, (.tmp 14))]) 26 [(13, (.ag [(.int .i64 7), (.str [43]), (.nil 1), (.int .i64 0), (.int .i64 0), (.str []), (.nil 1), (.atom 16)])), (14, (.ag [(.atom 17), (.atom 18), (.atom 19), (.atom 20), (.atom 21), (.atom 22), (.atom 23), (.atom 24)]))] (.sc (.sl)) []
        (.both
         (.sem (.buildSlice 26 1 #[(0, (.tmp 16))]) 26 [(16, (.ag [(.int .i64 8), (.str []), (.atom 26), (.int .i64 0), (.int .i64 0), (.str []), (.nil 1), (.atom 27)]))] (.sc (.sl)) []
         (.new 28 [(.int .i64 0), (.str []), (.nil 1), (.int .i64 0), (.int .i64 0), (.str []), (.nil 1), (.nil 1)]
         (.store (.atom 29) [(.int .i64 5), (.str []), (.atom 25), (.int .i64 0), (.int .i64 0), (.str []), (.nil 1), (.atom 28)]
         (.next 2 [(.atom 29)]))))
         (.new 28 [(.int .i64 0), (.str []), (.nil 1), (.int .i64 0), (.int .i64 0), (.str []), (.nil 1), (.nil 1)]
         (.sem (.buildSlice 26 1 #[(0, (.tmp 16))]) 26 [(16, (.ag [(.int .i64 8), (.str []), (.atom 26), (.int .i64 0), (.int .i64 0), (.str []), (.nil 1), (.atom 27)]))] (.sc (.sl)) []
         (.store (.atom 28) [(.int .i64 5), (.str []), (.atom 25), (.int .i64 0), (.int .i64 0), (.str []), (.nil 1), (.atom 29)]
         (.next 2 [(.atom 28)]))))))
        (.new 28 [(.int .i64 0), (.str []), (.nil 1), (.int .i64 0), (.int .i64 0), (.str []), (.nil 1), (.nil 1)]
        (.sem (.buildSlice 26 2 #[(0, (.tmp 13)), (1, (.tmp 14))]) 26 [(13, (.ag [(.int .i64 7), (.str [43]), (.nil 1), (.int .i64 0), (.int .i64 0), (.str []), (.nil 1), (.atom 16)])), (14, (.ag [(.atom 17), (.atom 18), (.atom 19), (.atom 20), (.atom 21), (.atom 22), (.atom 23), (.atom 24)]))] (.sc (.sl)) []
        (.sem (.buildSlice 26 1 #[(0, (.tmp 16))]) 26 [(16, (.ag [(.int .i64 8), (.str []), (.atom 26), (.int .i64 0), (.int .i64 0), (.str []), (.nil 1), (.atom 28)]))] (.sc (.sl)) []
        (.store (.atom 27) [(.int .i64 5), (.str []), (.atom 25), (.int .i64 0), (.int .i64 0), (.str []), (.nil 1), (.atom 29)]
        (.next 2 [(.atom 27)])))))))
       (.both
        (.sem (.buildSlice 26 2 #[(0, (.tmp 13)), (1, (.tmp 14))]) 26 [(13, (.ag [(.int .i64 7), (.str [43]), (.nil 1), (.int .i64 0), (.int .i64 0), (.str []), (.nil 1), (.atom 16)])), (14, (.ag [(.atom 17), (.atom 18), (.atom 19), (.atom 20), (.atom 21), (.atom 22), (.atom 23), (.atom 24)]))] (.sc (.sl)) []
        (.both
         (.sem (.buildSlice 22 1 #[(0, (.const (.string ⟨#[120]⟩)))]) 22 [] (.sc (.sl)) []
         (.both
          (.sem (.buildSlice 26 1 #[(0, (.tmp 16))]) 26 [(16, (.ag [(.int .i64 8), (.str []), (.atom 27), (.int .i64 0), (.int .i64 0), (.str []), (.nil 1), (.atom 26)]))] (.sc (.sl)) []
          (.new 28 [(.int .i64 0), (.str []), (.nil 1), (.int .i64 0), (.int .i64 0), (.str []), (.nil 1), (.nil 1)]
          (.store (.atom 29) [(.int .i64 5), (.str []), (.atom 25), (.int .i64 0), (.int .i64 0), (.str []), (.nil 1), (.atom 28)]
          (.next 2 [(.atom 29)]))))
          (.new 28 [(.int .i64 0), (.str []), (.nil 1), (.int .i64 0), (.int .i64 0), (.str []), (.nil 1), (.nil 1)]
          (.sem (.buildSlice 26 1 #[(0, (.tmp 16))]) 26 [(16, (.ag [(.int .i64 8), (.str []), (.atom 27), (.int .i64 0), (.int .i64 0), (.str []), (.nil 1), (.atom 26)]))] (.sc (.sl)) []
          (.store (.atom 28) [(.int .i64 5), (.str []), (.atom 25), (.int .i64 0), (.int .i64 0), (.str []), (.nil 1), (.atom 29)]
          (.next 2 [(.atom 28)]))))))
         (.new 28 [(.int .i64 0), (.str []), (.nil 1), (.int .i64 0), (.int .i64 0), (.str []), (.nil 1), (.nil 1)]
         (.sem (.buildSlice 22 1 #[(0, (.const (.string ⟨#[120]⟩)))]) 22 [] (.sc (.sl)) []
         (.sem (.buildSlice 26 1 #[(0, (.tmp 16))]) 26 [(16, (.ag [(.int .i64 8), (.str []), (.atom 28), (.int .i64 0), (.int .i64 0), (.str []), (.nil 1), (.atom 26)]))] (.sc (.sl)) []
         (.store (.atom 27) [(.int .i64 5), (.str []), (.atom 25), (.int .i64 0), (.int .i64 0), (.str []), (.nil 1), (.atom 29)]
         (.next 2 [(.atom 27)])))))))
        (.new 28 [(.int .i64 0), (.str []), (.nil 1), (.int .i64 0), (.int .i64 0), (.str []), (.nil 1), (.nil 1)]
        (.both
         (.sem (.buildSlice 22 1 #[(0, (.const (.string ⟨#[120]⟩)))]) 22 [] (.sc (.sl)) []
         (.sem (.buildSlice 26 2 #[(0, (.tmp 13)), (1, (.tmp 14))]) 26 [(13, (.ag [(.int .i64 7), (.str [43]), (.nil 1), (.int .i64 0), (.int .i64 0), (.str []), (.nil 1), (.atom 16)])), (14, (.ag [(.atom 17), (.atom 18), (.atom 19), (.atom 20), (.atom 21), (.atom 22), (.atom 23), (.atom 24)]))] (.sc (.sl)) []
         (.sem (.buildSlice 26 1 #[(0, (.tmp 16))]) 26 [(16, (.ag [(.int .i64 8), (.str []), (.atom 27), (.int .i64 0), (.int .i64 0), (.str []), (.nil 1), (.atom 28)]))] (.sc (.sl)) []
         (.store (.atom 26) [(.int .i64 5), (.str []), (.atom 25), (.int .i64 0), (.int .i64 0), (.str []), (.nil 1), (.atom 29)]
         (.next 2 [(.atom 26)])))))
         (.sem (.buildSlice 26 2 #[(0, (.tmp 13)), (1, (.tmp 14))]) 26 [(13, (.ag [(.int .i64 7), (.str [43]), (.nil 1), (.int .i64 0), (.int .i64 0), (.str []), (.nil 1), (.atom 16)])), (14, (.ag [(.atom 17), (.atom 18), (.atom 19), (.atom 20), (.atom 21), (.atom 22), (.atom 23), (.atom 24)]))] (.sc (.sl)) []
         (.sem (.buildSlice 22 1 #[(0, (.const (.string ⟨#[120]⟩)))]) 22 [] (.sc (.sl)) []
         (.sem (.buildSlice 26 1 #[(0, (.tmp 16))]) 26 [(16, (.ag [(.int .i64 8), (.str []), (.atom 28), (.int .i64 0), (.int .i64 0), (.str []), (.nil 1), (.atom 27)]))] (.sc (.sl)) []
         (.store (.atom 26) [(.int .i64 5), (.str []), (.atom 25), (.int .i64 0), (.int .i64 0), (.str []), (.nil 1), (.atom 29)]
         (.next 2 [(.atom 26)]))))))))))
      (.both
       (.sem (.buildSlice 22 1 #[(0, (.const (.string ⟨#[120]⟩)))]) 22 [] (.sc (.sl)) []
       (.both
        (.sem (.buildSlice 22 1 #[(0, (.const (.string ⟨#[120]⟩)))]) 22 [] (.sc (.sl)) []
        (.both
         (.sem (.buildSlice 26 2 #[(0, (.tmp 13)), (1, (.tmp 14))]) 26 [(13, (.ag [(.int .i64 7), (.str [43]), (.nil 1), (.int .i64 0), (.int .i64 0), (.str []), (.nil 1), (.atom 16)])), (14, (.ag [(.atom 17), (.atom 18), (.atom 19), (.atom 20), (.atom 21), (.atom 22), (.atom 23), (.atom 24)]))] (.sc (.sl)) []
         (.both
          (.sem (.buildSlice 26 1 #[(0, (.tmp 16))]) 26 [(16, (.ag [(.int .i64 8), (.str []), (.atom 25), (.int .i64 0), (.int .i64 0), (.str []), (.nil 1), (.atom 27)]))] (.sc (.sl)) []
          (.new 28 [(.int .i64 0), (.str []), (.nil 1), (.int .i64 0), (.int .i64 0), (.str []), (.nil 1), (.nil 1)]
          (.store (.atom 29) [(.int .i64 5), (.str []), (.atom 26), (.int .i64 0), (.int .i64 0), (.str []), (.nil 1), (.atom 28)]
          (.next 2 [(.atom 29)]))))
          (.new 28 [(.int .i64 0), (.str []), (.nil 1), (.int .i64 0), (.int .i64 0), (.str []), (.nil 1), (.nil 1)]
          (.sem (.buildSlice 26 1 #[(0, (.tmp 16))]) 26 [(16, (.ag [(.int .i64 8), (.str []), (.atom 25), (.int .i64 0), (.int .i64 0), (.str []), (.nil 1), (.atom 27)]))] (.sc (.sl)) []
          (.store (.atom 28) [(.int .i64 5), (.str []), (.atom 26), (.int .i64 0), (.int .i64 0), (.str []), (.nil 1), (.atom 29)]
          (.next 2 [(.atom 28)]))))))
         (.new 28 [(.int .i64 0), (.str []), (.nil 1), (.int .i64 0), (.int .i64 0), (.str []), (.nil 1), (.nil 1)]
         (.sem (.buildSlice 26 2 #[(0, (.tmp 13)), (1, (.tmp 14))]) 26 [(13, (.ag [(.int .i64 7), (.str [43]), (.nil 1), (.int .i64 0), (.int .i64 0), (.str []), (.nil 1), (.atom 16)])), (14, (.ag [(.atom 17), (.atom 18), (.atom 19), (.atom 20), (.atom 21), (.atom 22), (.atom 23), (.atom 24)]))] (.sc (.sl)) []
         (.sem (.buildSlice 26 1 #[(0, (.tmp 16))]) 26 [(16, (.ag [(.int .i64 8), (.str []), (.atom 25), (.int .i64 0), (.int .i64 0), (.str []), (.nil 1), (.atom 28)]))] (.sc (.sl)) []
         (.store (.atom 27) [(.int .i64 5), (.str []), (.atom 26), (.int .i64 0), (.int .i64 0), (.str []), (.nil 1), (.atom 29)]
         (.next 2 [(.atom 27)])))))))
        (.both
         (.sem (.buildSlice 26 2 #[(0, (.tmp 13)), (1, (.tmp 14))]) 26 [(13, (.ag [(.int .i64 7), (.str [43]), (.nil 1), (.int .i64 0), (.int .i64 0), (.str []), (.nil 1), (.atom 16)])), (14, (.ag [(.atom 17), (.atom 18), (.atom 19), (.atom 20), (.atom 21), (.atom 22), (.atom 23), (.atom 24)]))] (.sc (.sl)) []
         (.both
          (.sem (.buildSlice 22 1 #[(0, (.const (.string ⟨#[120]⟩)))]) 22 [] (.sc (.sl)) []
          (.both
           (.sem (.buildSlice 26 1 #[(0, (.tmp 16))]) 26 [(16, (.ag [(.int .i64 8), (.str []), (.atom 25), (.int .i64 0), (.int .i64 0), (.str []), (.nil 1), (.atom 26)]))] (.sc (.sl)) []
           (.new 28 [(.int .i64 0), (.str []), (.nil 1), (.int .i64 0), (.int .i64 0), (.str []), (.nil 1), (.nil 1)]
           (.store (.atom 29) [(.int .i64 5), (.str []), (.atom 27), (.int .i64 0), (.int .i64 0), (.str []), (.nil 1), (.atom 28)]
           (.next 2 [(.atom 29)]))))
           (.new 28 [(.int .i64 0), (.str []), (.nil 1), (.int .i64 0), (.int .i64 0), (.str []), (.nil 1), (.nil 1)]
           (.sem (.buildSlice 26 1 #[(0, (.tmp 16))]) 26 [(16, (.ag [(.int .i64 8), (.str []), (.atom 25), (.int .i64 0), (.int .i64 0), (.str []), (.nil 1), (.atom 26)]))] (.sc (.sl)) []
           (.store (.atom 28) [(.int .i64 5), (.str []), (.atom 27), (.int .i64 0), (.int .i64 0), (.str []), (.nil 1), (.atom 29)]
           (.next 2 [(.atom 28)]))))))
          (.both
           (.sem (.buildSlice 26 1 #[(0, (.tmp 16))]) 26 [(16, (.ag [(.int .i64 8), (.str []), (.atom 25), (.int .i64 0), (.int .i64 0), (.str []), (.nil 1), (.atom 26)]))] (.sc (.sl)) []
           (.both
            (.sem (.buildSlice 22 1 #[(0, (.const (.string ⟨#[120]⟩)))]) 22 [] (.sc (.sl)) []
            (.new 28 [(.int .i64 0), (.str []), (.nil 1), (.int .i64 0), (.int .i64 0), (.str []), (.nil 1), (.nil 1)]
            (.store (.atom 29) [(.int .i64 5), (.str []), (.atom 28), (.int .i64 0), (.int .i64 0), (.str []), (.nil 1), (.atom 27)]
            (.next 2 [(.atom 29)]))))
            (.new 28 [(.int .i64 0), (.str []), (.nil 1), (.int .i64 0), (.int .i64 0), (.str []), (.nil 1), (.nil 1)]
            (.sem (.buildSlice 22 1 #[(0, (.const (.string ⟨#[120]⟩)))]) 22 [] (.sc (.sl)) []
            (.store (.atom 28) [(.int .i64 5), (.str []), (.atom 29), (.int .i64 0), (.int .i64 0), (.str []), (.nil 1), (.atom 27)]
            (.next 2 [(.atom 28)]))))))
           (.new 28 [(.int .i64 0), (.str []), (.nil 1), (.int .i64 0), (.int .i64 0), (.str []), (.nil 1), (.nil 1)]
           (.both
            (.sem (.buildSlice 22 1 #[(0, (.const (.string ⟨#[120]⟩)))]) 22 [] (.sc (.sl)) []
            (.sem (.buildSlice 26 1 #[(0, (.tmp 16))]) 26 [(16, (.ag [(.int .i64 8), (.str []), (.atom 25), (.int .i64 0), (.int .i64 0), (.str []), (.nil 1), (.atom 26)]))] (.sc (.sl)) []
            (.store (.atom 27) [(.int .i64 5), (.str []), (.atom 28), (.int .i64 0), (.int .i64 0), (.str []), (.nil 1), (.atom 29)]
            (.next 2 [(.atom 27)]))))
            (.sem (.buildSlice 26 1 #[(0, (.tmp 16))]) 26 [(16, (.ag [(.int .i64 8), (.str []), (.atom 25), (.int .i64 0), (.int .i64 0), (.str []), (.nil 1), (.atom 26)]))] (.sc (.sl)) []
            (.sem (.buildSlice 22 1 #[(0, (.const (.string ⟨#[120]⟩)))]) 22 [] (.sc (.sl)) []
            (.store (.atom 27) [(.int .i64 5), (.str []), (.atom 29), (.int .i64 0), (.int .i64 0), (.str []), (.nil 1), (.atom 28)]
            (.next 2 [(.atom 27)])))))))))
         (.new 28 [(.int .i64 0), (.str []), (.nil 1), (.int .i64 0), (.int .i64 0), (.str []), (.nil 1), (.nil 1)]
         (.both
          (.sem (.buildSlice 22 1 #[(0, (.const (.string ⟨#[120]⟩)))]) 22 [] (.sc (.sl)) []
          (.sem (.buildSlice 26 2 #[(0, (.tmp 13)), (1, (.tmp 14))]) 26 [(13, (.ag [(.int .i64 7), (.str [43]), (.nil 1), (.int .i64 0), (.int .i64 0), (.str []), (.nil 1), (.atom 16)])), (14, (.ag [(.atom 17), (.atom 18), (.atom 19), (.atom 20), (.atom 21), (.atom 22), (.atom 23), (.atom 24)]))] (.sc (.sl)) []
          (.sem (.buildSlice 26 1 #[(0, (.tmp 16))]) 26 [(16, (.ag [(.int .i64 8), (.str []), (.atom 25), (.int .i64 0), (.int .i64 0), (.str []), (.nil 1), (.atom 28)]))] (.sc (.sl)) []
          (.store (.atom 26) [(.int .i64 5), (.str []), (.atom 27), (.int .i64 0), (.int .i64 0), (.str []), (.nil 1), (.atom 29)]
          (.next 2 [(.atom 26)])))))
          (.sem (.buildSlice 26 2 #[(0, (.tmp 13)), (1, (.tmp 14))]) 26 [(13, (.ag [(.int .i64 7), (.str [43]), (.nil 1), (.int .i64 0), (.int .i64 0), (.str []), (.nil 1), (.atom 16)])), (14, (.ag [(.atom 17), (.atom 18), (.atom 19), (.atom 20), (.atom 21), (.atom 22), (.atom 23), (.atom 24)]))] (.sc (.sl)) []
          (.both
           (.sem (.buildSlice 22 1 #[(0, (.const (.string ⟨#[120]⟩)))]) 22 [] (.sc (.sl)) []
           (.sem (.buildSlice 26 1 #[(0, (.tmp 16))]) 26 [(16, (.ag [(.int .i64 8), (.str []), (.atom 25), (.int .i64 0), (.int .i64 0), (.str []), (.nil 1), (.atom 27)]))] (.sc (.sl)) []
           (.store (.atom 26) [(.int .i64 5), (.str []), (.atom 28), (.int .i64 0), (.int .i64 0), (.str []), (.nil 1), (.atom 29)]
           (.next 2 [(.atom 26)]))))
           (.sem (.buildSlice 26 1 #[(0, (.tmp 16))]) 26 [(16, (.ag [(.int .i64 8), (.str []), (.atom 25), (.int .i64 0), (.int .i64 0), (.str []), (.nil 1), (.atom 27)]))] (.sc (.sl)) []
           (.sem (.buildSlice 22 1 #[(0, (.const (.string ⟨#[120]⟩)))]) 22 [] (.sc (.sl)) []
           (.store (.atom 26) [(.int .i64 5), (.str []), (.atom 29), (.int .i64 0), (.int .i64 0), (.str []), (.nil 1), (.atom 28)]
           (.next 2 [(.atom 26)])))))))))))
       (.both
        (.sem (.buildSlice 26 2 #[(0, (.tmp 13)), (1, (.tmp 14))]) 26 [(13, (.ag [(.int .i64 7), (.str [43]), (.nil 1), (.int .i64 0), (.int .i64 0), (.str []), (.nil 1), (.atom 16)])), (14, (.ag [(.atom 17), (.atom 18), (.atom 19), (.atom 20), (.atom 21), (.atom 22), (.atom 23), (.atom 24)]))] (.sc (.sl)) []
        (.both
         (.sem (.buildSlice 22 1 #[(0, (.const (.string ⟨#[120]⟩)))]) 22 [] (.sc (.sl)) []
         (.both
          (.sem (.buildSlice 22 1 #[(0, (.const (.string ⟨#[120]⟩)))]) 22 [] (.sc (.sl)) []
          (.both
           (.sem (.buildSlice 26 1 #[(0, (.tmp 16))]) 26 [(16, (.ag [(.int .i64 8), (.str []), (.atom 27), (.int .i64 0), (.int .i64 0), (.str []), (.nil 1), (.atom 25)]))] (.sc (.sl)) []
           (.new 28 [(.int .i64 0), (.str []), (.nil 1), (.int .i64 0), (.int .i64 0), (.str []), (.nil 1), (.nil 1)]
           (.store (.atom 29) [(.int .i64 5), (.str []), (.atom 26), (.int .i64 0), (.int .i64 0), (.str []), (.nil 1), (.atom 28)]
           (.next 2 [(.atom 29)]))))
           (.new 28 [(.int .i64 0), (.str []), (.nil 1), (.int .i64 0), (.int .i64 0), (.str []), (.nil 1), (.nil 1)]
           (.sem (.buildSlice 26 1 #[(0, (.tmp 16))]) 26 [(16, (.ag [(.int .i64 8), (.str []), (.atom 27), (.int .i64 0), (.int .i64 0), (.str []), (.nil 1), (.atom 25)]))] (.sc (.sl)) []
           (.store (.atom 28) [(.int .i64 5), (.str []), (.atom 26), (.int .i64 0), (.int .i64 0), (.str []), (.nil 1), (.atom 29)]
           (.next 2 [(.atom 28)]))))))
          (.new 28 [(.int .i64 0), (.str []), (.nil 1), (.int .i64 0), (.int .i64 0), (.str []), (.nil 1), (.nil 1)]
          (.sem (.buildSlice 22 1 #[(0, (.const (.string ⟨#[120]⟩)))]) 22 [] (.sc (.sl)) []
          (.sem (.buildSlice 26 1 #[(0, (.tmp 16))]) 26 [(16, (.ag [(.int .i64 8), (.str []), (.atom 28), (.int .i64 0), (.int .i64 0), (.str []), (.nil 1), (.atom 25)]))] (.sc (.sl)) []
          (.store (.atom 27) [(.int .i64 5), (.str []), (.atom 26), (.int .i64 0), (.int .i64 0), (.str []), (.nil 1), (.atom 29)]
          (.next 2 [(.atom 27)])))))))
         (.both
          (.sem (.buildSlice 22 1 #[(0, (.const (.string ⟨#[120]⟩)))]) 22 [] (.sc (.sl)) []
          (.both
           (.sem (.buildSlice 22 1 #[(0, (.const (.string ⟨#[120]⟩)))]) 22 [] (.sc (.sl)) []
           (.both
            (.sem (.buildSlice 26 1 #[(0, (.tmp 16))]) 26 [(16, (.ag [(.int .i64 8), (.str []), (.atom 26), (.int .i64 0), (.int .i64 0), (.str []), (.nil 1), (.atom 25)]))] (.sc (.sl)) []
            (.new 28 [(.int .i64 0), (.str []), (.nil 1), (.int .i64 0), (.int .i64 0), (.str []), (.nil 1), (.nil 1)]
            (.store (.atom 29) [(.int .i64 5), (.str []), (.atom 27), (.int .i64 0), (.int .i64 0), (.str []), (.nil 1), (.atom 28)]
            (.next 2 [(.atom 29)]))))
            (.new 28 [(.int .i64 0), (.str []), (.nil 1), (.int .i64 0), (.int .i64 0), (.str []), (.nil 1), (.nil 1)]
            (.sem (.buildSlice 26 1 #[(0, (.tmp 16))]) 26 [(16, (.ag [(.int .i64 8), (.str []), (.atom 26), (.int .i64 0), (.int .i64 0), (.str []), (.nil 1), (.atom 25)]))] (.sc (.sl)) []
            (.store (.atom 28) [(.int .i64 5), (.str []), (.atom 27), (.int .i64 0), (.int .i64 0), (.str []), (.nil 1), (.atom 29)]
            (.next 2 [(.atom 28)]))))))
           (.both
            (.sem (.buildSlice 26 1 #[(0, (.tmp 16))]) 26 [(16, (.ag [(.int .i64 8), (.str []), (.atom 26), (.int .i64 0), (.int .i64 0), (.str []), (.nil 1), (.atom 25)]))] (.sc (.sl)) []
            (.both
             (.sem (.buildSlice 22 1 #[(0, (.const (.string ⟨#[120]⟩)))]) 22 [] (.sc (.sl)) []
             (.new 28 [(.int .i64 0), (.str []), (.nil 1), (.int .i64 0), (.int .i64 0), (.str []), (.nil 1), (.nil 1)]
             (.store (.atom 29) [(.int .i64 5), (.str []), (.atom 28), (.int .i64 0), (.int .i64 0), (.str []), (.nil 1), (.atom 27)]
             (.next 2 [(.atom 29)]))))
             (.new 28 [(.int .i64 0), (.str []), (.nil 1), (.int .i64 0), (.int .i64 0), (.str []), (.nil 1), (.nil 1)]
             (.sem (.buildSlice 22 1 #[(0, (.const (.string ⟨#[120]⟩)))]) 22 [] (.sc (.sl)) []
             (.store (.atom 28) [(.int .i64 5), (.str []), (.atom 29), (.int .i64 0), (.int .i64 0), (.str []), (.nil 1), (.atom 27)]
             (.next 2 [(.atom 28)]))))))
            (.new 28 [(.int .i64 0), (.str []), (.nil 1), (.int .i64 0), (.int .i64 0), (.str []), (.nil 1), (.nil 1)]
            (.both
             (.sem (.buildSlice 22 1 #[(0, (.const (.string ⟨#[120]⟩)))]) 22 [] (.sc (.sl)) []
             (.sem (.buildSlice 26 1 #[(0, (.tmp 16))]) 26 [(16, (.ag [(.int .i64 8), (.str []), (.atom 26), (.int .i64 0), (.int .i64 0), (.str []), (.nil 1), (.atom 25)]))] (.sc (.sl)) []
             (.store (.atom 27) [(.int .i64 5), (.str []), (.atom 28), (.int .i64 0), (.int .i64 0), (.str []), (.nil 1), (.atom 29)]
             (.next 2 [(.atom 27)]))))
             (.sem (.buildSlice 26 1 #[(0, (.tmp 16))]) 26 [(16, (.ag [(.int .i64 8), (.str []), (.atom 26), (.int .i64 0), (.int .i64 0), (.str []), (.nil 1), (.atom 25)]))] (.sc (.sl)) []
             (.sem (.buildSlice 22 1 #[(0, (.const (.string ⟨#[120]⟩)))]) 22 [] (.sc (.sl)) []
             (.store (.atom 27) [(.int .i64 5), (.str []), (.atom 29), (.int .i64 0), (.int .i64 0), (.str []), (.nil 1), (.atom 28)]
             (.next 2 [(.atom 27)])))))))))
          (.new 28 [(.int .i64 0), (.str []), (.nil 1), (.int .i64 0), (.int .i64 0), (.str []), (.nil 1), (.nil 1)]
          (.both
           (.sem (.buildSlice 22 1 #[(0, (.const (.string ⟨#[120]⟩)))]) 22 [] (.sc (.sl)) []
           (.sem (.buildSlice 22 1 #[(0, (.const (.string ⟨#[120]⟩)))]) 22 [] (.sc (.sl)) []
           (.sem (.buildSlice 26 1 #[(0, (.tmp 16))]) 26 [(16, (.ag [(.int .i64 8), (.str []), (.atom 28), (.int .i64 0), (.int .i64 0), (.str []), (.nil 1), (.atom 25)]))] (.sc (.sl)) []
           (.store (.atom 26) [(.int .i64 5), (.str []), (.atom 27), (.int .i64 0), (.int .i64 0), (.str []), (.nil 1), (.atom 29)]
           (.next 2 [(.atom 26)])))))
           (.sem (.buildSlice 22 1 #[(0, (.const (.string ⟨#[120]⟩)))]) 22 [] (.sc (.sl)) []
           (.both
            (.sem (.buildSlice 22 1 #[(0, (.const (.string ⟨#[120]⟩)))]) 22 [] (.sc (.sl)) []
            (.sem (.buildSlice 26 1 #[(0, (.tmp 16))]) 26 [(16, (.ag [(.int .i64 8), (.str []), (.atom 27), (.int .i64 0), (.int .i64 0), (.str []), (.nil 1), (.atom 25)]))] (.sc (.sl)) []
            (.store (.atom 26) [(.int .i64 5), (.str []), (.atom 28), (.int .i64 0), (.int .i64 0), (.str []), (.nil 1), (.atom 29)]
            (.next 2 [(.atom 26)]))))
            (.sem (.buildSlice 26 1 #[(0, (.tmp 16))]) 26 [(16, (.ag [(.int .i64 8), (.str []), (.atom 27), (.int .i64 0), (.int .i64 0), (.str []), (.nil 1), (.atom 25)]))] (.sc (.sl)) []
            (.sem (.buildSlice 22 1 #[(0, (.const (.string ⟨#[120]⟩)))]) 22 [] (.sc (.sl)) []
            (.store (.atom 26) [(.int .i64 5), (.str []), (.atom 29), (.int .i64 0), (.int .i64 0), (.str []), (.nil 1), (.atom 28)]
            (.next 2 [(.atom 26)])))))))))))
        (.new 28 [(.int .i64 0), (.str []), (.nil 1), (.int .i64 0), (.int .i64 0), (.str []), (.nil 1), (.nil 1)]
        (.both
         (.sem (.buildSlice 22 1 #[(0, (.const (.string ⟨#[120]⟩)))]) 22 [] (.sc (.sl)) []
         (.both
          (.sem (.buildSlice 22 1 #[(0, (.const (.string ⟨#[120]⟩)))]) 22 [] (.sc (.sl)) []
          (.sem (.buildSlice 26 2 #[(0, (.tmp 13)), (1, (.tmp 14))]) 26 [(13, (.ag [(.int .i64 7), (.str [43]), (.nil 1), (.int .i64 0), (.int .i64 0), (.str []), (.nil 1), (.atom 16)])), (14, (.ag [(.atom 17), (.atom 18), (.atom 19), (.atom 20), (.atom 21), (.atom 22), (.atom 23), (.atom 24)]))] (.sc (.sl)) []
          (.sem (.buildSlice 26 1 #[(0, (.tmp 16))]) 26 [(16, (.ag [(.int .i64 8), (.str []), (.atom 27), (.int .i64 0), (.int .i64 0), (.str []), (.nil 1), (.atom 28)]))] (.sc (.sl)) []
          (.store (.atom 25) [(.int .i64 5), (.str []), (.atom 26), (.int .i64 0), (.int .i64 0), (.str []), (.nil 1), (.atom 29)]
          (.next 2 [(.atom 25)])))))
          (.sem (.buildSlice 26 2 #[(0, (.tmp 13)), (1, (.tmp 14))]) 26 [(13, (.ag [(.int .i64 7), (.str [43]), (.nil 1), (.int .i64 0), (.int .i64 0), (.str []), (.nil 1), (.atom 16)])), (14, (.ag [(.atom 17), (.atom 18), (.atom 19), (.atom 20), (.atom 21), (.atom 22), (.atom 23), (.atom 24)]))] (.sc (.sl)) []
          (.sem (.buildSlice 22 1 #[(0, (.const (.string ⟨#[120]⟩)))]) 22 [] (.sc (.sl)) []
          (.sem (.buildSlice 26 1 #[(0, (.tmp 16))]) 26 [(16, (.ag [(.int .i64 8), (.str []), (.atom 28), (.int .i64 0), (.int .i64 0), (.str []), (.nil 1), (.atom 27)]))] (.sc (.sl)) []
          (.store (.atom 25) [(.int .i64 5), (.str []), (.atom 26), (.int .i64 0), (.int .i64 0), (.str []), (.nil 1), (.atom 29)]
          (.next 2 [(.atom 25)])))))))
         (.both
          (.sem (.buildSlice 22 1 #[(0, (.const (.string ⟨#[120]⟩)))]) 22 [] (.sc (.sl)) []
          (.both
           (.sem (.buildSlice 22 1 #[(0, (.const (.string ⟨#[120]⟩)))]) 22 [] (.sc (.sl)) []
           (.sem (.buildSlice 26 2 #[(0, (.tmp 13)), (1, (.tmp 14))]) 26 [(13, (.ag [(.int .i64 7), (.str [43]), (.nil 1), (.int .i64 0), (.int .i64 0), (.str []), (.nil 1), (.atom 16)])), (14, (.ag [(.atom 17), (.atom 18), (.atom 19), (.atom 20), (.atom 21), (.atom 22), (.atom 23), (.atom 24)]))] (.sc (.sl)) []
           (.sem (.buildSlice 26 1 #[(0, (.tmp 16))]) 26 [(16, (.ag [(.int .i64 8), (.str []), (.atom 26), (.int .i64 0), (.int .i64 0), (.str []), (.nil 1), (.atom 28)]))] (.sc (.sl)) []
           (.store (.atom 25) [(.int .i64 5), (.str []), (.atom 27), (.int .i64 0), (.int .i64 0), (.str []), (.nil 1), (.atom 29)]
           (.next 2 [(.atom 25)])))))
           (.sem (.buildSlice 26 2 #[(0, (.tmp 13)), (1, (.tmp 14))]) 26 [(13, (.ag [(.int .i64 7), (.str [43]), (.nil 1), (.int .i64 0), (.int .i64 0), (.str []), (.nil 1), (.atom 16)])), (14, (.ag [(.atom 17), (.atom 18), (.atom 19), (.atom 20), (.atom 21), (.atom 22), (.atom 23), (.atom 24)]))] (.sc (.sl)) []
           (.both
            (.sem (.buildSlice 22 1 #[(0, (.const (.string ⟨#[120]⟩)))]) 22 [] (.sc (.sl)) []
            (.sem (.buildSlice 26 1 #[(0, (.tmp 16))]) 26 [(16, (.ag [(.int .i64 8), (.str []), (.atom 26), (.int .i64 0), (.int .i64 0), (.str []), (.nil 1), (.atom 27)]))] (.sc (.sl)) []
            (.store (.atom 25) [(.int .i64 5), (.str []), (.atom 28), (.int .i64 0), (.int .i64 0), (.str []), (.nil 1), (.atom 29)]
            (.next 2 [(.atom 25)]))))
            (.sem (.buildSlice 26 1 #[(0, (.tmp 16))]) 26 [(16, (.ag [(.int .i64 8), (.str []), (.atom 26), (.int .i64 0), (.int .i64 0), (.str []), (.nil 1), (.atom 27)]))] (.sc (.sl)) []
            (.sem (.buildSlice 22 1 #[(0, (.const (.string ⟨#[120]⟩)))]) 22 [] (.sc (.sl)) []
            (.store (.atom 25) [(.int .i64 5), (.str []), (.atom 29), (.int .i64 0), (.int .i64 0), (.str []), (.nil 1), (.atom 28)]
            (.next 2 [(.atom 25)]))))))))
          (.sem (.buildSlice 26 2 #[(0, (.tmp 13)), (1, (.tmp 14))]) 26 [(13, (.ag [(.int .i64 7), (.str [43]), (.nil 1), (.int .i64 0), (.int .i64 0), (.str []), (.nil 1), (.atom 16)])), (14, (.ag [(.atom 17), (.atom 18), (.atom 19), (.atom 20), (.atom 21), (.atom 22), (.atom 23), (.atom 24)]))] (.sc (.sl)) []
          (.both
           (.sem (.buildSlice 22 1 #[(0, (.const (.string ⟨#[120]⟩)))]) 22 [] (.sc (.sl)) []
           (.sem (.buildSlice 22 1 #[(0, (.const (.string ⟨#[120]⟩)))]) 22 [] (.sc (.sl)) []
           (.sem (.buildSlice 26 1 #[(0, (.tmp 16))]) 26 [(16, (.ag [(.int .i64 8), (.str []), (.atom 28), (.int .i64 0), (.int .i64 0), (.str []), (.nil 1), (.atom 26)]))] (.sc (.sl)) []
           (.store (.atom 25) [(.int .i64 5), (.str []), (.atom 27), (.int .i64 0), (.int .i64 0), (.str []), (.nil 1), (.atom 29)]
           (.next 2 [(.atom 25)])))))
           (.sem (.buildSlice 22 1 #[(0, (.const (.string ⟨#[120]⟩)))]) 22 [] (.sc (.sl)) []
           (.both
            (.sem (.buildSlice 22 1 #[(0, (.const (.string ⟨#[120]⟩)))]) 22 [] (.sc (.sl)) []
            (.sem (.buildSlice 26 1 #[(0, (.tmp 16))]) 26 [(16, (.ag [(.int .i64 8), (.str []), (.atom 27), (.int .i64 0), (.int .i64 0), (.str []), (.nil 1), (.atom 26)]))] (.sc (.sl)) []
            (.store (.atom 25) [(.int .i64 5), (.str []), (.atom 28), (.int .i64 0), (.int .i64 0), (.str []), (.nil 1), (.atom 29)]
            (.next 2 [(.atom 25)]))))
            (.sem (.buildSlice 26 1 #[(0, (.tmp 16))]) 26 [(16, (.ag [(.int .i64 8), (.str []), (.atom 27), (.int .i64 0), (.int .i64 0), (.str []), (.nil 1), (.atom 26)]))] (.sc (.sl)) []
            (.sem (.buildSlice 22 1 #[(0, (.const (.string ⟨#[120]⟩)))]) 22 [] (.sc (.sl)) []
            (.store (.atom 25) [(.int .i64 5), (.str []), (.atom 29), (.int .i64 0), (.int .i64 0), (.str []), (.nil 1), (.atom 28)]
            (.next 2 [(.atom 25)])))))))))))))))
     (.new 28 [(.int .i64 0), (.str []), (.nil 1), (.int .i64 0), (.int .i64 0), (.str []), (.nil 1), (.nil 1)]
     (.both
      (.sem (.buildSlice 22 1 #[(0, (.const (.string ⟨#[120]⟩)))]) 22 [] (.sc (.sl)) []
      (.both
       (.sem (.buildSlice 22 1 #[(0, (.const (.string ⟨#[120]⟩)))]) 22 [] (.sc (.sl)) []
       (.call (.fn 18) [(.sc (.str [120]))] (.ag [.int .i64, .str, .sl, .int .i64, .int .i64, .str, .sl, .sl]) []
       (.sem (.buildSlice 26 2 #[(0, (.tmp 13)), (1, (.tmp 14))]) 26 [(13, (.ag [(.int .i64 7), (.str [43]), (.nil 1), (.int .i64 0), (.int .i64 0), (.str []), (.nil 1), (.atom 16)])), (14, (.ag [(.atom 20), (.atom 21), (.atom 22), (.atom 23), (.atom 24), (.atom 25), (.atom 26), (.atom 27)]))] (.sc (.sl)) []
       (.sem (.buildSlice 26 1 #[(0, (.tmp 16))]) 26 [(16, (.ag [(.int .i64 8), (.str []), (.atom 19), (.int .i64 0), (.int .i64 0), (.str []), (.nil 1), (.atom 28)]))] (.sc (.sl)) []
       (.store (.atom 17) [(.int .i64 5), (.str []), (.atom 18), (.int .i64 0), (.int .i64 0), (.str []), (.nil 1), (.atom 29)]
       (.next 2 [(.atom 17)]))))))
       (.call (.fn 18) [(.sc (.str [120]))] (.ag [.int .i64, .str, .sl, .int .i64, .int .i64, .str, .sl, .sl]) []
       (.both
        (.sem (.buildSlice 22 1 #[(0, (.const (.string ⟨#[120]⟩)))]) 22 [] (.sc (.sl)) []
        (.sem (.buildSlice 26 2 #[(0, (.tmp 13)), (1, (.tmp 14))]) 26 [(13, (.ag [(.int .i64 7), (.str [43]), (.nil 1), (.int .i64 0), (.int .i64 0), (.str []), (.nil 1), (.atom 16)])), (14, (.ag [(.atom 19), (.atom 20), (.atom 21), (.atom 22), (.atom 23), (.atom 24), (.atom 25), (.atom 26)]))] (.sc (.sl)) []
        (.sem (.buildSlice 26 1 #[(0, (.tmp 16))]) 26 [(16, (.ag [(.int .i64 8), (.str []), (.atom 27), (.int .i64 0), (.int .i64 0), (.str []), (.nil 1), (.atom 28)]))] (.sc (.sl)) []
        (.store (.atom 17) [(.int .i64 5), (.str []), (.atom 18), (.int .i64 0), (.int .i64 0), (.str []), (.nil 1), (.atom 29)]
        (.next 2 [(.atom 17)])))))
        (.sem (.buildSlice 26 2 #[(0, (.tmp 13)), (1, (.tmp 14))]) 26 [(13, (.ag [(.int .i64 7), (.str [43]), (.nil 1), (.int .i64 0), (.int .i64 0), (.str []), (.nil 1), (.atom 16)])), (14, (.ag [(.atom 19), (.atom 20), (.atom 21), (.atom 22), (.atom 23), (.atom 24), (.atom 25), (.atom 26)]))] (.sc (.sl)) []
        (.sem (.buildSlice 22 1 #[(0, (.const (.string ⟨#[120]⟩)))]) 22 [] (.sc (.sl)) []
        (.sem (.buildSlice 26 1 #[(0, (.tmp 16))]) 26 [(16, (.ag [(.int .i64 8), (.str []), (.atom 28), (.int .i64 0), (.int .i64 0), (.str []), (.nil 1), (.atom 27)]))] (.sc (.sl)) []
        (.store (.atom 17) [(.int .i64 5), (.str []), (.atom 18), (.int .i64 0), (.int .i64 0), (.str []), (.nil 1), (.atom 29)]
        (.next 2 [(.atom 17)])))))))))
      (.both
       (.sem (.buildSlice 22 1 #[(0, (.const (.string ⟨#[120]⟩)))]) 22 [] (.sc (.sl)) []
       (.both
        (.sem (.buildSlice 22 1 #[(0, (.const (.string ⟨#[120]⟩)))]) 22 [] (.sc (.sl)) []
        (.call (.fn 18) [(.sc (.str [120]))] (.ag [.int .i64, .str, .sl, .int .i64, .int .i64, .str, .sl, .sl]) []
        (.sem (.buildSlice 26 2 #[(0, (.tmp 13)), (1, (.tmp 14))]) 26 [(13, (.ag [(.int .i64 7), (.str [43]), (.nil 1), (.int .i64 0), (.int .i64 0), (.str []), (.nil 1), (.atom 16)])), (14, (.ag [(.atom 20), (.atom 21), (.atom 22), (.atom 23), (.atom 24), (.atom 25), (.atom 26), (.atom 27)]))] (.sc (.sl)) []
        (.sem (.buildSlice 26 1 #[(0, (.tmp 16))]) 26 [(16, (.ag [(.int .i64 8), (.str []), (.atom 18), (.int .i64 0), (.int .i64 0), (.str []), (.nil 1), (.atom 28)]))] (.sc (.sl)) []
        (.store (.atom 17) [(.int .i64 5), (.str []), (.atom 19), (.int .i64 0), (.int .i64 0), (.str []), (.nil 1), (.atom 29)]
        (.next 2 [(.atom 17)]))))))
        (.call (.fn 18) [(.sc (.str [120]))] (.ag [.int .i64, .str, .sl, .int .i64, .int .i64, .str, .sl, .sl]) []
        (.both
         (.sem (.buildSlice 22 1 #[(0, (.const (.string ⟨#[120]⟩)))]) 22 [] (.sc (.sl)) []
         (.sem (.buildSlice 26 2 #[(0, (.tmp 13)), (1, (.tmp 14))]) 26 [(13, (.ag [(.int .i64 7), (.str [43]), (.nil 1), (.int .i64 0), (.int .i64 0), (.str []), (.nil 1), (.atom 16)])), (14, (.ag [(.atom 19), (.atom 20), (.atom 21), (.atom 22), (.atom 23), (.atom 24), (.atom 25), (.atom 26)]))] (.sc (.sl)) []
         (.sem (.buildSlice 26 1 #[(0, (.tmp 16))]) 26 [(16, (.ag [(.int .i64 8), (.str []), (.atom 18), (.int .i64 0), (.int .i64 0), (.str []), (.nil 1), (.atom 28)]))] (.sc (.sl)) []
         (.store (.atom 17) [(.int .i64 5), (.str []), (.atom 27), (.int .i64 0), (.int .i64 0), (.str []), (.nil 1), (.atom 29)]
         (.next 2 [(.atom 17)])))))
         (.sem (.buildSlice 26 2 #[(0, (.tmp 13)), (1, (.tmp 14))]) 26 [(13, (.ag [(.int .i64 7), (.str [43]), (.nil 1), (.int .i64 0), (.int .i64 0), (.str []), (.nil 1), (.atom 16)])), (14, (.ag [(.atom 19), (.atom 20), (.atom 21), (.atom 22), (.atom 23), (.atom 24), (.atom 25), (.atom 26)]))] (.sc (.sl)) []
         (.both
          (.sem (.buildSlice 22 1 #[(0, (.const (.string ⟨#[120]⟩)))]) 22 [] (.sc (.sl)) []
          (.sem (.buildSlice 26 1 #[(0, (.tmp 16))]) 26 [(16, (.ag [(.int .i64 8), (.str []), (.atom 18), (.int .i64 0), (.int .i64 0), (.str []), (.nil 1), (.atom 27)]))] (.sc (.sl)) []
          (.store (.atom 17) [(.int .i64 5), (.str []), (.atom 28), (.int .i64 0), (.int .i64 0), (.str []), (.nil 1), (.atom 29)]
          (.next 2 [(.atom 17)]))))
          (.sem (.buildSlice 26 1 #[(0, (.tmp 16))]) 26 [(16, (.ag [(.int .i64 8), (.str []), (.atom 18), (.int .i64 0), (.int .i64 0), (.str []), (.nil 1), (.atom 27)]))] (.sc (.sl)) []
          (.sem (.buildSlice 22 1 #[(0, (.const (.string ⟨#[120]⟩)))]) 22 [] (.sc (.sl)) []
          (.store (.atom 17) [(.int .i64 5), (.str []), (.atom 29), (.int .i64 0), (.int .i64 0), (.str []), (.nil 1), (.atom 28)]
          (.next 2 [(.atom 17)]))))))))))
       (.call (.fn 18) [(.sc (.str [120]))] (.ag [.int .i64, .str, .sl, .int .i64, .int .i64, .str, .sl, .sl]) []
       (.both
        (.sem (.buildSlice 22 1 #[(0, (.const (.string ⟨#[120]⟩)))]) 22 [] (.sc (.sl)) []
        (.both
         (.sem (.buildSlice 22 1 #[(0, (.const (.string ⟨#[120]⟩)))]) 22 [] (.sc (.sl)) []
         (.sem (.buildSlice 26 2 #[(0, (.tmp 13)), (1, (.tmp 14))]) 26 [(13, (.ag [(.int .i64 7), (.str [43]), (.nil 1), (.int .i64 0), (.int .i64 0), (.str []), (.nil 1), (.atom 16)])), (14, (.ag [(.atom 18), (.atom 19), (.atom 20), (.atom 21), (.atom 22), (.atom 23), (.atom 24), (.atom 25)]))] (.sc (.sl)) []
         (.sem (.buildSlice 26 1 #[(0, (.tmp 16))]) 26 [(16, (.ag [(.int .i64 8), (.str []), (.atom 27), (.int .i64 0), (.int .i64 0), (.str []), (.nil 1), (.atom 28)]))] (.sc (.sl)) []
         (.store (.atom 17) [(.int .i64 5), (.str []), (.atom 26), (.int .i64 0), (.int .i64 0), (.str []), (.nil 1), (.atom 29)]
         (.next 2 [(.atom 17)])))))
         (.sem (.buildSlice 26 2 #[(0, (.tmp 13)), (1, (.tmp 14))]) 26 [(13, (.ag [(.int .i64 7), (.str [43]), (.nil 1), (.int .i64 0), (.int .i64 0), (.str []), (.nil 1), (.atom 16)])), (14, (.ag [(.atom 18), (.atom 19), (.atom 20), (.atom 21), (.atom 22), (.atom 23), (.atom 24), (.atom 25)]))] (.sc (.sl)) []
         (.sem (.buildSlice 22 1 #[(0, (.const (.string ⟨#[120]⟩)))]) 22 [] (.sc (.sl)) []
         (.sem (.buildSlice 26 1 #[(0, (.tmp 16))]) 26 [(16, (.ag [(.int .i64 8), (.str []), (.atom 28), (.int .i64 0), (.int .i64 0), (.str []), (.nil 1), (.atom 27)]))] (.sc (.sl)) []
         (.store (.atom 17) [(.int .i64 5), (.str []), (.atom 26), (.int .i64 0), (.int .i64 0), (.str []), (.nil 1), (.atom 29)]
         (.next 2 [(.atom 17)])))))))
        (.both
         (.sem (.buildSlice 22 1 #[(0, (.const (.string ⟨#[120]⟩)))]) 22 [] (.sc (.sl)) []
         (.both
          (.sem (.buildSlice 22 1 #[(0, (.const (.string ⟨#[120]⟩)))]) 22 [] (.sc (.sl)) []
          (.sem (.buildSlice 26 2 #[(0, (.tmp 13)), (1, (.tmp 14))]) 26 [(13, (.ag [(.int .i64 7), (.str [43]), (.nil 1), (.int .i64 0), (.int .i64 0), (.str []), (.nil 1), (.atom 16)])), (14, (.ag [(.atom 18), (.atom 19), (.atom 20), (.atom 21), (.atom 22), (.atom 23), (.atom 24), (.atom 25)]))] (.sc (.sl)) []
          (.sem (.buildSlice 26 1 #[(0, (.tmp 16))]) 26 [(16, (.ag [(.int .i64 8), (.str []), (.atom 26), (.int .i64 0), (.int .i64 0), (.str []), (.nil 1), (.atom 28)]))] (.sc (.sl)) []
          (.store (.atom 17) [(.int .i64 5), (.str []), (.atom 27), (.int .i64 0), (.int .i64 0), (.str []), (.nil 1), (.atom 29)]
          (.next 2 [(.atom 17)])))))
          (.sem (.buildSlice 26 2 #[(0, (.tmp 13)), (1, (.tmp 14))]) 26 [(13, (.ag [(.int .i64 7), (.str [43]), (.nil 1), (.int .i64 0), (.int .i64 0), (.str []), (.nil 1), (.atom 16)])), (14, (.ag [(.atom 18), (.atom 19), (.atom 20), (.atom 21), (.atom 22), (.atom 23), (.atom 24), (.atom 25)]))] (.sc (.sl)) []
          (.both
           (.sem (.buildSlice 22 1 #[(0, (.const (.string ⟨#[120]⟩)))]) 22 [] (.sc (.sl)) []
           (.sem (.buildSlice 26 1 #[(0, (.tmp 16))]) 26 [(16, (.ag [(.int .i64 8), (.str []), (.atom 26), (.int .i64 0), (.int .i64 0), (.str []), (.nil 1), (.atom 27)]))] (.sc (.sl)) []
           (.store (.atom 17) [(.int .i64 5), (.str []), (.atom 28), (.int .i64 0), (.int .i64 0), (.str []), (.nil 1), (.atom 29)]
           (.next 2 [(.atom 17)]))))
           (.sem (.buildSlice 26 1 #[(0, (.tmp 16))]) 26 [(16, (.ag [(.int .i64 8), (.str []), (.atom 26), (.int .i64 0), (.int .i64 0), (.str []), (.nil 1), (.atom 27)]))] (.sc (.sl)) []
           (.sem (.buildSlice 22 1 #[(0, (.const (.string ⟨#[120]⟩)))]) 22 [] (.sc (.sl)) []
           (.store (.atom 17) [(.int .i64 5), (.str []), (.atom 29), (.int .i64 0), (.int .i64 0), (.str []), (.nil 1), (.atom 28)]
           (.next 2 [(.atom 17)]))))))))
         (.sem (.buildSlice 26 2 #[(0, (.tmp 13)), (1, (.tmp 14))]) 26 [(13, (.ag [(.int .i64 7), (.str [43]), (.nil 1), (.int .i64 0), (.int .i64 0), (.str []), (.nil 1), (.atom 16)])), (14, (.ag [(.atom 18), (.atom 19), (.atom 20), (.atom 21), (.atom 22), (.atom 23), (.atom 24), (.atom 25)]))] (.sc (.sl)) []
         (.both
          (.sem (.buildSlice 22 1 #[(0, (.const (.string ⟨#[120]⟩)))]) 22 [] (.sc (.sl)) []
          (.sem (.buildSlice 22 1 #[(0, (.const (.string ⟨#[120]⟩)))]) 22 [] (.sc (.sl)) []
          (.sem (.buildSlice 26 1 #[(0, (.tmp 16))]) 26 [(16, (.ag [(.int .i64 8), (.str []), (.atom 28), (.int .i64 0), (.int .i64 0), (.str []), (.nil 1), (.atom 26)]))] (.sc (.sl)) []
          (.store (.atom 17) [(.int .i64 5), (.str []), (.atom 27), (.int .i64 0), (.int .i64 0), (.str []), (.nil 1), (.atom 29)]
          (.next 2 [(.atom 17)])))))
          (.sem (.buildSlice 22 1 #[(0, (.const (.string ⟨#[120]⟩)))]) 22 [] (.sc (.sl)) []
          (.both
           (.sem (.buildSlice 22 1 #[(0, (.const (.string ⟨#[120]⟩)))]) 22 [] (.sc (.sl)) []
           (.sem (.buildSlice 26 1 #[(0, (.tmp 16))]) 26 [(16, (.ag [(.int .i64 8), (.str []), (.atom 27), (.int .i64 0), (.int .i64 0), (.str []), (.nil 1), (.atom 26)]))] (.sc (.sl)) []
           (.store (.atom 17) [(.int .i64 5), (.str []), (.atom 28), (.int .i64 0), (.int .i64 0), (.str []), (.nil 1), (.atom 29)]
           (.next 2 [(.atom 17)]))))
           (.sem (.buildSlice 26 1 #[(0, (.tmp 16))]) 26 [(16, (.ag [(.int .i64 8), (.str []), (.atom 27), (.int .i64 0), (.int .i64 0), (.str []), (.nil 1), (.atom 26)]))] (.sc (.sl)) []
           (.sem (.buildSlice 22 1 #[(0, (.const (.string ⟨#[120]⟩)))]) 22 [] (.sc (.sl)) []
           (.store (.atom 17) [(.int .i64 5), (.str []), (.atom 29), (.int .i64 0), (.int .i64 0), (.str []), (.nil 1), (.atom 28)]
           (.next 2 [(.atom 17)])))))))))))))))))))))
theorem fm_scrimshawlaw06_fixed_eq : execF Tryd.prog { pub := [2], nojoin := false } Tryd.f5 = fm_scrimshawlaw06_fixed := by kernel_rfl
theorem cb_scrimshawlaw06_fixed : callB Tryd.prog 5 = true := by kernel_rfl
theorem tri_scrimshawlaw06_fixed : TriOf Tryd.prog 5 Tryd.f5 fm_scrimshawlaw06_fixed := triOf Tryd.func5 fm_scrimshawlaw06_fixed_eq

/-- scrimshaw/core.Check -/
abbrev n_core_Check : FuncId := 6
def fm_core_Check : Fm VE :=
 (.new 3 [(.int .i64 0)]
 (.call (.fn 21) [(.ag [(.atom 0), (.atom 1), (.atom 2), (.atom 3), (.atom 4), (.atom 5), (.atom 6), (.atom 7)]), (.sc (.int .i64 0)), (.sc (.atom 8))] (.sc (.int .i64)) []
 (.leaf (.sc (.atom 9)))))
theorem fm_core_Check_eq : execF Tryd.prog { pub := [4], nojoin := false } Tryd.f6 = fm_core_Check := by kernel_rfl
theorem cb_core_Check : callB Tryd.prog 6 = true := by kernel_rfl
theorem tri_core_Check : TriOf Tryd.prog 6 Tryd.f6 fm_core_Check := triOf Tryd.func6 fm_core_Check_eq

/-- scrimshaw/core.Rename -/
abbrev n_core_Rename : FuncId := 7
def fm_core_Rename : Fm VE :=
 (.call (.fn 6) [(.ag [(.atom 0), (.atom 1), (.atom 2), (.atom 3), (.atom 4), (.atom 5), (.atom 6), (.atom 7)])] (.sc (.int .i64)) []
 (.ite (.cmp .neq (.atom 8) (.int .i64 0))
  (.leaf (.ag [(.int .i64 0), (.str []), (.nil 1), (.int .i64 0), (.int .i64 0), (.str []), (.nil 1), (.nil 1)]))
  (.sem (.makeMap 52 none) 52 [] (.sc (.map)) []
  (.new 54 [(.atom 9), (.int .i64 0)]
  (.call (.fn 22) [(.sc (.atom 10)), (.ag [(.atom 0), (.atom 1), (.atom 2), (.atom 3), (.atom 4), (.atom 5), (.atom 6), (.atom 7)])] (.tu []) []
  (.sem (.makeMap 52 none) 52 [] (.sc (.map)) []
  (.call (.fn 23) [(.sc (.atom 10)), (.ag [(.atom 0), (.atom 1), (.atom 2), (.atom 3), (.atom 4), (.atom 5), (.atom 6), (.atom 7)]), (.sc (.atom 11))] (.ag [.int .i64, .str, .sl, .int .i64, .int .i64, .str, .sl, .sl]) []
  (.leaf (.ag [(.atom 12), (.atom 13), (.atom 14), (.atom 15), (.atom 16), (.atom 17), (.atom 18), (.atom 19)])))))))))
theorem fm_core_Rename_eq : execF Tryd.prog { pub := [10], nojoin := false } Tryd.f7 = fm_core_Rename := by kernel_rfl
theorem cb_core_Rename : callB Tryd.prog 7 = true := by kernel_rfl
theorem tri_core_Rename : TriOf Tryd.prog 7 Tryd.f7 fm_core_Rename := triOf Tryd.func7 fm_core_Rename_eq

/-- scrimshaw/core.Free -/
abbrev n_core_Free : FuncId := 9
def fm_core_Free : Fm VE :=
 (.sem (.makeMap 52 none) 52 [] (.sc (.map)) []
 (.sem (.makeMap 52 none) 52 [] (.sc (.map)) []
 (.call (.fn 24) [(.ag [(.atom 0), (.atom 1), (.atom 2), (.atom 3), (.atom 4), (.atom 5), (.atom 6), (.atom 7)]), (.sc (.atom 9)), (.sc (.atom 8))] (.tu []) []
 (.call (.fn 26) [(.sc (.atom 8))] (.sc (.any)) []
 (.call (.fn 25) [(.sc (.atom 10))] (.sc (.sl)) []
 (.leaf (.sc (.atom 11))))))))
theorem fm_core_Free_eq : execF Tryd.prog { pub := [], nojoin := false } Tryd.f9 = fm_core_Free := by kernel_rfl
theorem cb_core_Free : callB Tryd.prog 9 = true := by kernel_rfl
theorem tri_core_Free : TriOf Tryd.prog 9 Tryd.f9 fm_core_Free := triOf Tryd.func9 fm_core_Free_eq

/-- scrimshaw/scrimshawref06.SameTexts -/
abbrev n_scrimshawref06_SameTexts : FuncId := 11
def fm_scrimshawref06_SameTexts : Fm VE :=
 (.ite (.cmp .neq (.len (.atom 0)) (.len (.atom 1)))
  (.leaf (.sc (.bool false)))
  (.loop 5 [.bool, .int .i64] [(.bool false), (.int .i64 0)]
   (.ite (.cmp .lss (.atom 3) (.len (.atom 0)))
    (.chk [] (.inSl (.atom 0) (.atom 3))
    (.load (.elt (.atom 0) (.atom 3) 1) [.str]
    (.chk [] (.inSl (.atom 1) (.atom 3))
    (.load (.elt (.atom 1) (.atom 3) 1) [.str]
    (.ite (.scmp .neq (.atom 4) (.atom 5))
     (.leaf (.sc (.bool false)))
     (.next 5 [(.atom 2), (.ar .add .i64 (.atom 3) (.int .i64 1))]))))))
    (.leaf (.sc (.bool true))))))
theorem fm_scrimshawref06_SameTexts_eq : execF Tryd.prog { pub := [], nojoin := false } Tryd.f11 = fm_scrimshawref06_SameTexts := by kernel_rfl
theorem cb_scrimshawref06_SameTexts : callB Tryd.prog 11 = true := by kernel_rfl
theorem tri_scrimshawref06_SameTexts : TriOf Tryd.prog 11 Tryd.f11 fm_scrimshawref06_SameTexts := triOf Tryd.func11 fm_scrimshawref06_SameTexts_eq

/-- scrimshaw/core.Data -/
abbrev n_core_Data : FuncId := 13
def fm_core_Data : Fm VE :=
 (.call (.fn 6) [(.ag [(.atom 0), (.atom 1), (.atom 2), (.atom 3), (.atom 4), (.atom 5), (.atom 6), (.atom 7)])] (.sc (.int .i64)) []
 (.ite (.cmp .neq (.atom 8) (.int .i64 0))
  (.leaf (.tu [(true, [(.int .i64 0), (.int .i64 0), (.str []), (.nil 1)]), (false, [(.atom 8)])]))
  (.call (.fn 27) [(.ag [(.atom 0), (.atom 1), (.atom 2), (.atom 3), (.atom 4), (.atom 5), (.atom 6), (.atom 7)])] (.ag [.int .i64, .int .i64, .str, .sl]) []
  (.leaf (.tu [(true, [(.atom 9), (.atom 10), (.atom 11), (.atom 12)]), (false, [(.int .i64 0)])])))))
theorem fm_core_Data_eq : execF Tryd.prog { pub := [], nojoin := false } Tryd.f13 = fm_core_Data := by kernel_rfl
theorem cb_core_Data : callB Tryd.prog 13 = true := by kernel_rfl
theorem tri_core_Data : TriOf Tryd.prog 13 Tryd.f13 fm_core_Data := triOf Tryd.func13 fm_core_Data_eq

/-- scrimshaw/core.Make -/
abbrev n_core_Make : FuncId := 14
def fm_core_Make : Fm VE :=
 (.new 64 [(.bool false)]
 (.call (.fn 29) [(.sc (.nil 1)), (.ag [(.atom 0), (.atom 1), (.atom 2), (.atom 3)])] (.ag [.int .i64, .int .i64, .str, .sl]) []
 (.call (.fn 28) [(.sc (.atom 4)), (.ag [(.atom 5), (.atom 6), (.atom 7), (.atom 8)])] (.ag [.int .i64, .str, .sl, .int .i64, .int .i64, .str, .sl, .sl]) []
 (.join 4 [.bool]
  (.ite (.atom 17)
   (.leaf (.tu [(true, [(.int .i64 0), (.str []), (.nil 1), (.int .i64 0), (.int .i64 0), (.str []), (.nil 1), (.nil 1)]), (false, [(.int .i64 60)])]))
   (.leaf (.tu [(true, [(.atom 9), (.atom 10), (.atom 11), (.atom 12), (.atom 13), (.atom 14), (.atom 15), (.atom 16)]), (false, [(.int .i64 0)])])))
  (.chk [] (.some (.atom 4))
  (.load (.padd (.atom 4) 0) [.bool]
  (.ite (.atom 17)
   (.next 4 [(.bool true)])
   (.call (.fn 6) [(.ag [(.atom 9), (.atom 10), (.atom 11), (.atom 12), (.atom 13), (.atom 14), (.atom 15), (.atom 16)])] (.sc (.int .i64)) []
   (.ite (.cmp .neq (.atom 18) (.int .i64 0))
    (.next 4 [(.bool true)])
    (.call (.fn 27) [(.ag [(.atom 9), (.atom 10), (.atom 11), (.atom 12), (.atom 13), (.atom 14), (.atom 15), (.atom 16)])] (.ag [.int .i64, .int .i64, .str, .sl]) []
    (.call (.fn 30) [(.ag [(.atom 19), (.atom 20), (.atom 21), (.atom 22)]), (.ag [(.atom 0), (.atom 1), (.atom 2), (.atom 3)])] (.sc (.bool)) []
    (.next 4 [(.not (.atom 23))]))))))))))))
theorem fm_core_Make_eq : execF Tryd.prog { pub := [7], nojoin := false } Tryd.f14 = fm_core_Make := by kernel_rfl
theorem cb_core_Make : callB Tryd.prog 14 = true := by kernel_rfl
theorem tri_core_Make : TriOf Tryd.prog 14 Tryd.f14 fm_core_Make := triOf Tryd.func14 fm_core_Make_eq

/-- scrimshaw/scrimshawref06.Same -/
abbrev n_scrimshawref06_Same : FuncId := 15
def fm_scrimshawref06_Same : Fm VE :=
 (.join 2 [.bool]
  (.ite (.atom 16)
   (.leaf (.sc (.bool false)))
   (.loop 5 [.bool, .int .i64] [(.bool false), (.int .i64 0)]
    (.ite (.cmp .lss (.atom 18) (.len (.atom 7)))
     (.chk [] (.inSl (.atom 7) (.atom 18))
     (.load (.elt (.atom 7) (.atom 18) 8) [.int .i64, .str, .sl, .int .i64, .int .i64, .str, .sl, .sl]
     (.chk [] (.inSl (.atom 15) (.atom 18))
     (.load (.elt (.atom 15) (.atom 18) 8) [.int .i64, .str, .sl, .int .i64, .int .i64, .str, .sl, .sl]
     (.call (.fn 15) [(.ag [(.atom 19), (.atom 20), (.atom 21), (.atom 22), (.atom 23), (.atom 24), (.atom 25), (.atom 26)]), (.ag [(.atom 27), (.atom 28), (.atom 29), (.atom 30), (.atom 31), (.atom 32), (.atom 33), (.atom 34)])] (.sc (.bool)) []
     (.ite (.not (.atom 35))
      (.leaf (.sc (.bool false)))
      (.next 5 [(.atom 17), (.ar .add .i64 (.atom 18) (.int .i64 1))])))))))
     (.leaf (.sc (.bool true))))))
  (.ite (.pick (.cmp .neq (.atom 0) (.atom 8)) (.bool true) (.scmp .neq (.atom 1) (.atom 9)))
   (.next 2 [(.bool true)])
   (.call (.fn 11) [(.sc (.atom 2)), (.sc (.atom 10))] (.sc (.bool)) []
   (.ite (.not (.atom 16))
    (.next 2 [(.bool true)])
    (.call (.fn 17) [(.ag [(.atom 3), (.atom 4), (.atom 5), (.atom 6)]), (.ag [(.atom 11), (.atom 12), (.atom 13), (.atom 14)])] (.sc (.bool)) []
    (.next 2 [(.pick (.not (.atom 17)) (.bool true) (.cmp .neq (.len (.atom 7)) (.len (.atom 15))))]))))))
theorem fm_scrimshawref06_Same_eq : execF Tryd.prog { pub := [], nojoin := false } Tryd.f15 = fm_scrimshawref06_Same := by kernel_rfl
theorem cb_scrimshawref06_Same : callB Tryd.prog 15 = true := by kernel_rfl
theorem tri_scrimshawref06_Same : TriOf Tryd.prog 15 Tryd.f15 fm_scrimshawref06_Same := triOf Tryd.func15 fm_scrimshawref06_Same_eq

/-- scrimshaw/scrimshawref02.Huge -/
abbrev n_scrimshawref02_Huge : FuncId := 16
def fm_scrimshawref02_Huge : Fm VE :=
 (.loop 4 [.int .i64, .int .i64] [(.int .i64 100001), (.int .i64 0)]
  (.ite (.pick (.cmp .lss (.atom 2) (.len (.atom 0))) (.cmp .gtr (.atom 1) (.int .i64 0)) (.bool false))
   (.chk [] (.inSl (.atom 0) (.atom 2))
   (.load (.elt (.atom 0) (.atom 2) 4) [.int .i64, .int .i64, .str, .sl]
   (.call (.fn 31) [(.ag [(.atom 3), (.atom 4), (.atom 5), (.atom 6)]), (.sc (.atom 1))] (.sc (.int .i64)) []
   (.next 4 [(.atom 7), (.ar .add .i64 (.atom 2) (.int .i64 1))]))))
   (.leaf (.sc (.cmp .eql (.atom 1) (.int .i64 0))))))
theorem fm_scrimshawref02_Huge_eq : execF Tryd.prog { pub := [], nojoin := false } Tryd.f16 = fm_scrimshawref02_Huge := by kernel_rfl
theorem cb_scrimshawref02_Huge : callB Tryd.prog 16 = true := by kernel_rfl
theorem tri_scrimshawref02_Huge : TriOf Tryd.prog 16 Tryd.f16 fm_scrimshawref02_Huge := triOf Tryd.func16 fm_scrimshawref02_Huge_eq

/-- scrimshaw/scrimshawref02.Same -/
abbrev n_scrimshawref02_Same : FuncId := 17
def fm_scrimshawref02_Same : Fm VE :=
 (.ite (.pick (.pick (.pick (.cmp .neq (.atom 0) (.atom 4)) (.bool true) (.cmp .neq (.atom 1) (.atom 5))) (.bool true) (.scmp .neq (.atom 2) (.atom 6))) (.bool true) (.cmp .neq (.len (.atom 3)) (.len (.atom 7))))
  (.leaf (.sc (.bool false)))
  (.loop 5 [.bool, .int .i64] [(.bool false), (.int .i64 0)]
   (.ite (.cmp .lss (.atom 9) (.len (.atom 3)))
    (.chk [] (.inSl (.atom 3) (.atom 9))
    (.load (.elt (.atom 3) (.atom 9) 4) [.int .i64, .int .i64, .str, .sl]
    (.chk [] (.inSl (.atom 7) (.atom 9))
    (.load (.elt (.atom 7) (.atom 9) 4) [.int .i64, .int .i64, .str, .sl]
    (.call (.fn 17) [(.ag [(.atom 10), (.atom 11), (.atom 12), (.atom 13)]), (.ag [(.atom 14), (.atom 15), (.atom 16), (.atom 17)])] (.sc (.bool)) []
    (.ite (.not (.atom 18))
     (.leaf (.sc (.bool false)))
     (.next 5 [(.atom 8), (.ar .add .i64 (.atom 9) (.int .i64 1))])))))))
    (.leaf (.sc (.bool true))))))
theorem fm_scrimshawref02_Same_eq : execF Tryd.prog { pub := [], nojoin := false } Tryd.f17 = fm_scrimshawref02_Same := by kernel_rfl
theorem cb_scrimshawref02_Same : callB Tryd.prog 17 = true := by kernel_rfl
theorem tri_scrimshawref02_Same : TriOf Tryd.prog 17 Tryd.f17 fm_scrimshawref02_Same := triOf Tryd.func17 fm_scrimshawref02_Same_eq

/-- scrimshaw/scrimshawlaw06.ref -/
abbrev n_scrimshawlaw06_ref : FuncId := 18
def fm_scrimshawlaw06_ref : Fm VE :=
 (.leaf (.ag [(.int .i64 1), (.atom 0), (.nil 1), (.int .i64 0), (.int .i64 0), (.str []), (.nil 1), (.nil 1)]))
theorem fm_scrimshawlaw06_ref_eq : execF Tryd.prog { pub := [], nojoin := false } Tryd.f18 = fm_scrimshawlaw06_ref := by kernel_rfl
theorem cb_scrimshawlaw06_ref : callB Tryd.prog 18 = true := by kernel_rfl
theorem tri_scrimshawlaw06_ref : TriOf Tryd.prog 18 Tryd.f18 fm_scrimshawlaw06_ref := triOf Tryd.func18 fm_scrimshawlaw06_ref_eq

/-- scrimshaw/scrimshawref06.Data -/
abbrev n_scrimshawref06_Data : FuncId := 19
def fm_scrimshawref06_Data : Fm VE :=
 (.ite (.cmp .eql (.atom 0) (.int .i64 1))
  (.call (.fn 32) [(.sc (.atom 1))] (.ag [.int .i64, .int .i64, .str, .sl]) []
  (.leaf (.ag [(.atom 8), (.atom 9), (.atom 10), (.atom 11)])))
  (.call (.fn 33) [(.sc (.atom 0))] (.sc (.str)) []
  (.call (.fn 32) [(.sc (.atom 8))] (.ag [.int .i64, .int .i64, .str, .sl]) []
  (.sem (.buildSlice 23 1 #[(0, (.tmp 19))]) 23 [(19, (.ag [(.atom 9), (.atom 10), (.atom 11), (.atom 12)]))] (.sc (.sl)) []
  (.sem (.buildSlice 23 0 #[]) 23 [] (.sc (.sl)) []
  (.loop 7 [.sl, .int .i64] [(.atom 14), (.int .i64 0)]
   (.ite (.cmp .lss (.atom 16) (.len (.atom 7)))
    (.chk [] (.inSl (.atom 7) (.atom 16))
    (.load (.elt (.atom 7) (.atom 16) 8) [.int .i64, .str, .sl, .int .i64, .int .i64, .str, .sl, .sl]
    (.call (.fn 19) [(.ag [(.atom 17), (.atom 18), (.atom 19), (.atom 20), (.atom 21), (.atom 22), (.atom 23), (.atom 24)])] (.ag [.int .i64, .int .i64, .str, .sl]) []
    (.sem (.buildSlice 23 1 #[(0, (.tmp 35))]) 23 [(35, (.ag [(.atom 25), (.atom 26), (.atom 27), (.atom 28)]))] (.sc (.sl)) []
    (.sem (.call ⟨.builtin .append, #[(.tmp 29), (.tmp 36)], #[23, 23]⟩) 23 [(29, (.sc (.atom 15))), (36, (.sc (.atom 29)))] (.sc (.sl)) []
    (.next 7 [(.atom 30), (.ar .add .i64 (.atom 16) (.int .i64 1))]))))))
    (.sem (.buildSlice 23 0 #[]) 23 [] (.sc (.sl)) []
    (.join 12 [.sl, .sl, .sl]
     (.sem (.call ⟨.builtin .append, #[(.tmp 113), (.tmp 114)], #[23, 23]⟩) 23 [(113, (.sc (.atom 18))), (114, (.sc (.atom 19)))] (.sc (.sl)) []
     (.call (.fn 34) [(.sc (.atom 21))] (.ag [.int .i64, .int .i64, .str, .sl]) []
     (.leaf (.ag [(.atom 22), (.atom 23), (.atom 24), (.atom 25)]))))
     (.ite (.cmp .eql (.atom 0) (.int .i64 0))
      (.sem (.buildSlice 23 1 #[(0, (.tmp 48))]) 23 [(48, (.ag [(.atom 3), (.atom 4), (.atom 5), (.atom 6)]))] (.sc (.sl)) []
      (.sem (.call ⟨.builtin .append, #[(.tmp 46), (.tmp 49)], #[23, 23]⟩) 23 [(46, (.sc (.atom 13))), (49, (.sc (.atom 18)))] (.sc (.sl)) []
      (.next 12 [(.atom 19), (.atom 15), (.atom 17)])))
      (.ite (.pick (.cmp .eql (.atom 0) (.int .i64 2)) (.cmp .eql (.atom 0) (.int .i64 2)) (.cmp .eql (.atom 0) (.int .i64 7)))
       (.call (.fn 32) [(.sc (.atom 1))] (.ag [.int .i64, .int .i64, .str, .sl]) []
       (.sem (.buildSlice 23 1 #[(0, (.tmp 57))]) 23 [(57, (.ag [(.atom 18), (.atom 19), (.atom 20), (.atom 21)]))] (.sc (.sl)) []
       (.sem (.call ⟨.builtin .append, #[(.tmp 54), (.tmp 58)], #[23, 23]⟩) 23 [(54, (.sc (.atom 13))), (58, (.sc (.atom 22)))] (.sc (.sl)) []
       (.next 12 [(.atom 23), (.atom 15), (.atom 17)]))))
       (.ite (.cmp .eql (.atom 0) (.int .i64 5))
        (.loop 20 [.sl, .int .i64] [(.atom 17), (.int .i64 0)]
         (.ite (.cmp .lss (.atom 19) (.len (.atom 2)))
          (.chk [] (.inSl (.atom 2) (.atom 19))
          (.load (.elt (.atom 2) (.atom 19) 1) [.str]
          (.call (.fn 32) [(.sc (.atom 20))] (.ag [.int .i64, .int .i64, .str, .sl]) []
          (.sem (.buildSlice 23 1 #[(0, (.tmp 73))]) 23 [(73, (.ag [(.atom 21), (.atom 22), (.atom 23), (.atom 24)]))] (.sc (.sl)) []
          (.sem (.call ⟨.builtin .append, #[(.tmp 67), (.tmp 74)], #[23, 23]⟩) 23 [(67, (.sc (.atom 18))), (74, (.sc (.atom 25)))] (.sc (.sl)) []
          (.next 20 [(.atom 26), (.ar .add .i64 (.atom 19) (.int .i64 1))]))))))
          (.call (.fn 34) [(.sc (.atom 18))] (.ag [.int .i64, .int .i64, .str, .sl]) []
          (.sem (.buildSlice 23 1 #[(0, (.tmp 78))]) 23 [(78, (.ag [(.atom 20), (.atom 21), (.atom 22), (.atom 23)]))] (.sc (.sl)) []
          (.sem (.call ⟨.builtin .append, #[(.tmp 76), (.tmp 79)], #[23, 23]⟩) 23 [(76, (.sc (.atom 13))), (79, (.sc (.atom 24)))] (.sc (.sl)) []
          (.next 12 [(.atom 25), (.atom 15), (.atom 18)]))))))
        (.join 18 [.bool]
         (.ite (.atom 18)
          (.loop 21 [.sl, .int .i64] [(.atom 17), (.int .i64 0)]
           (.ite (.cmp .lss (.atom 20) (.len (.atom 2)))
            (.chk [] (.inSl (.atom 2) (.atom 20))
            (.load (.elt (.atom 2) (.atom 20) 1) [.str]
            (.chk [] (.inSl (.atom 15) (.atom 20))
            (.load (.elt (.atom 15) (.atom 20) 4) [.int .i64, .int .i64, .str, .sl]
            (.call (.fn 32) [(.sc (.atom 21))] (.ag [.int .i64, .int .i64, .str, .sl]) [((.elt (.atom 15) (.atom 20) 4), [(.atom 22), (.atom 23), (.atom 24), (.atom 25)])]
            (.sem (.buildSlice 23 2 #[(0, (.tmp 96)), (1, (.tmp 100))]) 23 [(96, (.ag [(.atom 26), (.atom 27), (.atom 28), (.atom 29)])), (100, (.ag [(.atom 22), (.atom 23), (.atom 24), (.atom 25)]))] (.sc (.sl)) []
            (.call (.fn 34) [(.sc (.atom 30))] (.ag [.int .i64, .int .i64, .str, .sl]) []
            (.sem (.buildSlice 23 1 #[(0, (.tmp 102))]) 23 [(102, (.ag [(.atom 31), (.atom 32), (.atom 33), (.atom 34)]))] (.sc (.sl)) []
            (.sem (.call ⟨.builtin .append, #[(.tmp 90), (.tmp 103)], #[23, 23]⟩) 23 [(90, (.sc (.atom 19))), (103, (.sc (.atom 35)))] (.sc (.sl)) []
            (.next 21 [(.atom 36), (.ar .add .i64 (.atom 20) (.int .i64 1))]))))))))))
            (.call (.fn 34) [(.sc (.atom 19))] (.ag [.int .i64, .int .i64, .str, .sl]) []
            (.sem (.buildSlice 23 1 #[(0, (.tmp 107))]) 23 [(107, (.ag [(.atom 21), (.atom 22), (.atom 23), (.atom 24)]))] (.sc (.sl)) []
            (.sem (.call ⟨.builtin .append, #[(.tmp 105), (.tmp 108)], #[23, 23]⟩) 23 [(105, (.sc (.atom 13))), (108, (.sc (.atom 25)))] (.sc (.sl)) []
            (.chk [] (.sub (.cap (.atom 15)) (.len (.atom 2)) (.len (.atom 15)))
            (.next 12 [(.atom 26), (.sls (.atom 15) (.len (.atom 2)) (.len (.atom 15)) 4), (.atom 19)])))))))
          (.next 12 [(.atom 13), (.atom 15), (.atom 17)]))
         (.ite (.cmp .eql (.atom 0) (.int .i64 8))
          (.next 18 [(.cmp .eql (.atom 0) (.int .i64 8))])
          (.next 18 [(.pick (.cmp .eql (.atom 0) (.int .i64 9)) (.cmp .eql (.atom 0) (.int .i64 9)) (.cmp .eql (.atom 0) (.int .i64 10)))])))))))))))))))
theorem fm_scrimshawref06_Data_eq : execF Tryd.prog { pub := [], nojoin := false } Tryd.f19 = fm_scrimshawref06_Data := by kernel_rfl
theorem cb_scrimshawref06_Data : callB Tryd.prog 19 = true := by kernel_rfl
theorem tri_scrimshawref06_Data : TriOf Tryd.prog 19 Tryd.f19 fm_scrimshawref06_Data := triOf Tryd.func19 fm_scrimshawref06_Data_eq

/-- scrimshaw/core.Arity -/
abbrev n_core_Arity : FuncId := 20
def fm_core_Arity : Fm VE :=
 (.join 3 [.bool]
  (.ite (.atom 1)
   (.leaf (.sc (.int .i64 0)))
   (.join 4 [.bool]
    (.ite (.atom 2)
     (.leaf (.sc (.int .i64 1)))
     (.join 5 [.bool]
      (.ite (.atom 3)
       (.leaf (.sc (.int .i64 2)))
       (.ite (.pick (.scmp .eql (.atom 0) (.str [118, 101, 99, 116, 111, 114, 45, 115, 101, 116, 33])) (.scmp .eql (.atom 0) (.str [118, 101, 99, 116, 111, 114, 45, 115, 101, 116, 33])) (.scmp .eql (.atom 0) (.str [115, 116, 114, 105, 110, 103, 45, 115, 101, 116, 33])))
        (.leaf (.sc (.int .i64 3)))
        (.leaf (.sc (.int .i64 (-1))))))
      (.ite (.scmp .eql (.atom 0) (.str [43]))
       (.next 5 [(.scmp .eql (.atom 0) (.str [43]))])
       (.ite (.scmp .eql (.atom 0) (.str [45]))
        (.next 5 [(.scmp .eql (.atom 0) (.str [45]))])
        (.ite (.scmp .eql (.atom 0) (.str [42]))
         (.next 5 [(.scmp .eql (.atom 0) (.str [42]))])
         (.ite (.scmp .eql (.atom 0) (.str [113, 117, 111, 116, 105, 101, 110, 116]))
          (.next 5 [(.scmp .eql (.atom 0) (.str [113, 117, 111, 116, 105, 101, 110, 116]))])
          (.ite (.scmp .eql (.atom 0) (.str [114, 101, 109, 97, 105, 110, 100, 101, 114]))
           (.next 5 [(.scmp .eql (.atom 0) (.str [114, 101, 109, 97, 105, 110, 100, 101, 114]))])
           (.ite (.scmp .eql (.atom 0) (.str [60]))
            (.next 5 [(.scmp .eql (.atom 0) (.str [60]))])
            (.ite (.scmp .eql (.atom 0) (.str [61]))
             (.next 5 [(.scmp .eql (.atom 0) (.str [61]))])
             (.ite (.scmp .eql (.atom 0) (.str [101, 113, 63]))
              (.next 5 [(.scmp .eql (.atom 0) (.str [101, 113, 63]))])
              (.ite (.scmp .eql (.atom 0) (.str [99, 111, 110, 115]))
               (.next 5 [(.scmp .eql (.atom 0) (.str [99, 111, 110, 115]))])
               (.ite (.scmp .eql (.atom 0) (.str [115, 101, 116, 45, 99, 97, 114, 33]))
                (.next 5 [(.scmp .eql (.atom 0) (.str [115, 101, 116, 45, 99, 97, 114, 33]))])
                (.ite (.scmp .eql (.atom 0) (.str [115, 101, 116, 45, 99, 100, 114, 33]))
                 (.next 5 [(.scmp .eql (.atom 0) (.str [115, 101, 116, 45, 99, 100, 114, 33]))])
                 (.ite (.scmp .eql (.atom 0) (.str [109, 97, 107, 101, 45, 118, 101, 99, 116, 111, 114]))
                  (.next 5 [(.scmp .eql (.atom 0) (.str [109, 97, 107, 101, 45, 118, 101, 99, 116, 111, 114]))])
                  (.ite (.scmp .eql (.atom 0) (.str [118, 101, 99, 116, 111, 114, 45, 114, 101, 102]))
                   (.next 5 [(.scmp .eql (.atom 0) (.str [118, 101, 99, 116, 111, 114, 45, 114, 101, 102]))])
                   (.ite (.scmp .eql (.atom 0) (.str [109, 97, 107, 101, 45, 115, 116, 114, 105, 110, 103]))
                    (.next 5 [(.scmp .eql (.atom 0) (.str [109, 97, 107, 101, 45, 115, 116, 114, 105, 110, 103]))])
                    (.next 5 [(.pick (.scmp .eql (.atom 0) (.str [115, 116, 114, 105, 110, 103, 45, 114, 101, 102])) (.scmp .eql (.atom 0) (.str [115, 116, 114, 105, 110, 103, 45, 114, 101, 102])) (.scmp .eql (.atom 0) (.str [37, 115, 101, 116, 45, 98, 111, 120, 33])))])))))))))))))))))
    (.ite (.scmp .eql (.atom 0) (.str [110, 117, 108, 108, 63]))
     (.next 4 [(.scmp .eql (.atom 0) (.str [110, 117, 108, 108, 63]))])
     (.ite (.scmp .eql (.atom 0) (.str [112, 97, 105, 114, 63]))
      (.next 4 [(.scmp .eql (.atom 0) (.str [112, 97, 105, 114, 63]))])
      (.ite (.scmp .eql (.atom 0) (.str [118, 101, 99, 116, 111, 114, 63]))
       (.next 4 [(.scmp .eql (.atom 0) (.str [118, 101, 99, 116, 111, 114, 63]))])
       (.ite (.scmp .eql (.atom 0) (.str [115, 116, 114, 105, 110, 103, 63]))
        (.next 4 [(.scmp .eql (.atom 0) (.str [115, 116, 114, 105, 110, 103, 63]))])
        (.ite (.scmp .eql (.atom 0) (.str [115, 121, 109, 98, 111, 108, 63]))
         (.next 4 [(.scmp .eql (.atom 0) (.str [115, 121, 109, 98, 111, 108, 63]))])
         (.ite (.scmp .eql (.atom 0) (.str [99, 104, 97, 114, 63]))
          (.next 4 [(.scmp .eql (.atom 0) (.str [99, 104, 97, 114, 63]))])
          (.ite (.scmp .eql (.atom 0) (.str [105, 110, 116, 101, 103, 101, 114, 63]))
           (.next 4 [(.scmp .eql (.atom 0) (.str [105, 110, 116, 101, 103, 101, 114, 63]))])
           (.ite (.scmp .eql (.atom 0) (.str [98, 111, 111, 108, 101, 97, 110, 63]))
            (.next 4 [(.scmp .eql (.atom 0) (.str [98, 111, 111, 108, 101, 97, 110, 63]))])
            (.ite (.scmp .eql (.atom 0) (.str [112, 114, 111, 99, 101, 100, 117, 114, 101, 63]))
             (.next 4 [(.scmp .eql (.atom 0) (.str [112, 114, 111, 99, 101, 100, 117, 114, 101, 63]))])
             (.ite (.scmp .eql (.atom 0) (.str [101, 111, 102, 45, 111, 98, 106, 101, 99, 116, 63]))
              (.next 4 [(.scmp .eql (.atom 0) (.str [101, 111, 102, 45, 111, 98, 106, 101, 99, 116, 63]))])
              (.ite (.scmp .eql (.atom 0) (.str [99, 97, 114]))
               (.next 4 [(.scmp .eql (.atom 0) (.str [99, 97, 114]))])
               (.ite (.scmp .eql (.atom 0) (.str [99, 100, 114]))
                (.next 4 [(.scmp .eql (.atom 0) (.str [99, 100, 114]))])
                (.ite (.scmp .eql (.atom 0) (.str [118, 101, 99, 116, 111, 114, 45, 108, 101, 110, 103, 116, 104]))
                 (.next 4 [(.scmp .eql (.atom 0) (.str [118, 101, 99, 116, 111, 114, 45, 108, 101, 110, 103, 116, 104]))])
                 (.ite (.scmp .eql (.atom 0) (.str [115, 116, 114, 105, 110, 103, 45, 108, 101, 110, 103, 116, 104]))
                  (.next 4 [(.scmp .eql (.atom 0) (.str [115, 116, 114, 105, 110, 103, 45, 108, 101, 110, 103, 116, 104]))])
                  (.ite (.scmp .eql (.atom 0) (.str [99, 104, 97, 114, 45, 62, 105, 110, 116, 101, 103, 101, 114]))
                   (.next 4 [(.scmp .eql (.atom 0) (.str [99, 104, 97, 114, 45, 62, 105, 110, 116, 101, 103, 101, 114]))])
                   (.ite (.scmp .eql (.atom 0) (.str [105, 110, 116, 101, 103, 101, 114, 45, 62, 99, 104, 97, 114]))
                    (.next 4 [(.scmp .eql (.atom 0) (.str [105, 110, 116, 101, 103, 101, 114, 45, 62, 99, 104, 97, 114]))])
                    (.ite (.scmp .eql (.atom 0) (.str [119, 114, 105, 116, 101, 45, 117, 56]))
                     (.next 4 [(.scmp .eql (.atom 0) (.str [119, 114, 105, 116, 101, 45, 117, 56]))])
                     (.ite (.scmp .eql (.atom 0) (.str [37, 98, 111, 120]))
                      (.next 4 [(.scmp .eql (.atom 0) (.str [37, 98, 111, 120]))])
                      (.ite (.scmp .eql (.atom 0) (.str [37, 117, 110, 98, 111, 120]))
                       (.next 4 [(.scmp .eql (.atom 0) (.str [37, 117, 110, 98, 111, 120]))])
                       (.next 4 [(.pick (.scmp .eql (.atom 0) (.str [37, 119, 105, 110, 100, 33])) (.scmp .eql (.atom 0) (.str [37, 119, 105, 110, 100, 33])) (.scmp .eql (.atom 0) (.str [37, 99, 97, 108, 108, 99, 99])))]))))))))))))))))))))))
  (.ite (.scmp .eql (.atom 0) (.str [114, 101, 97, 100, 45, 117, 56]))
   (.next 3 [(.scmp .eql (.atom 0) (.str [114, 101, 97, 100, 45, 117, 56]))])
   (.ite (.scmp .eql (.atom 0) (.str [101, 114, 114, 111, 114]))
    (.next 3 [(.scmp .eql (.atom 0) (.str [101, 114, 114, 111, 114]))])
    (.ite (.scmp .eql (.atom 0) (.str [118, 111, 105, 100]))
     (.next 3 [(.scmp .eql (.atom 0) (.str [118, 111, 105, 100]))])
     (.next 3 [(.pick (.scmp .eql (.atom 0) (.str [37, 119, 105, 110, 100, 101, 114, 115])) (.scmp .eql (.atom 0) (.str [37, 119, 105, 110, 100, 101, 114, 115])) (.scmp .eql (.atom 0) (.str [37, 117, 110, 115, 101, 116])))])))))
theorem fm_core_Arity_eq : execF Tryd.prog { pub := [], nojoin := false } Tryd.f20 = fm_core_Arity := by kernel_rfl
theorem cb_core_Arity : callB Tryd.prog 20 = true := by kernel_rfl
theorem tri_core_Arity : TriOf Tryd.prog 20 Tryd.f20 fm_core_Arity := triOf Tryd.func20 fm_core_Arity_eq

/-- scrimshaw/core.check -/
abbrev n_core_check : FuncId := 21
def fm_core_check : Fm VE :=
 (.chk [] (.some (.atom 9))
 (.load (.atom 9) [.int .i64]
 (.ite (.cmp .eql (.atom 10) (.int .i64 4096))
  (.leaf (.sc (.int .i64 62)))
  (.load (.atom 9) [.int .i64]
  (.store (.atom 9) [(.ar .add .i64 (.atom 11) (.int .i64 1))]
  (.ite (.cmp .geq (.atom 8) (.int .i64 250))
   (.leaf (.sc (.int .i64 61)))
   (.call (.fn 35) [(.ag [(.atom 0), (.atom 1), (.atom 2), (.atom 3), (.atom 4), (.atom 5), (.atom 6), (.atom 7)])] (.sc (.bool)) []
   (.ite (.not (.atom 12))
    (.leaf (.sc (.int .i64 60)))
    (.loop 10 [.int .i64, .int .i64] [(.int .i64 0), (.int .i64 0)]
     (.ite (.cmp .lss (.atom 14) (.len (.atom 7)))
      (.chk [] (.inSl (.atom 7) (.atom 14))
      (.load (.elt (.atom 7) (.atom 14) 8) [.int .i64, .str, .sl, .int .i64, .int .i64, .str, .sl, .sl]
      (.call (.fn 21) [(.ag [(.atom 15), (.atom 16), (.atom 17), (.atom 18), (.atom 19), (.atom 20), (.atom 21), (.atom 22)]), (.sc (.ar .add .i64 (.atom 8) (.int .i64 1))), (.sc (.atom 9))] (.sc (.int .i64)) []
      (.ite (.cmp .neq (.atom 23) (.int .i64 0))
       (.leaf (.sc (.atom 23)))
       (.next 10 [(.atom 13), (.ar .add .i64 (.atom 14) (.int .i64 1))])))))
      (.leaf (.sc (.int .i64 0)))))))))))))
theorem fm_core_check_eq : execF Tryd.prog { pub := [], nojoin := false } Tryd.f21 = fm_core_check := by kernel_rfl
theorem cb_core_check : callB Tryd.prog 21 = true := by kernel_rfl
theorem tri_core_check : TriOf Tryd.prog 21 Tryd.f21 fm_core_check := triOf Tryd.func21 fm_core_check_eq

/-- (*scrimshaw/core.renamer).seen -/
abbrev n_core_renamer__seen : FuncId := 22
def fm_core_renamer__seen : Fm VE :=
 (.join 1 []
  (.loop 4 [.int .i64] [(.int .i64 0)]
   (.ite (.cmp .lss (.atom 9) (.len (.atom 3)))
    (.chk [] (.inSl (.atom 3) (.atom 9))
    (.load (.elt (.atom 3) (.atom 9) 1) [.str]
    (.chk [] (.some (.atom 0))
    (.load (.padd (.atom 0) 0) [.map]
    (.sem (.mapUpdate 52 (.tmp 27) (.tmp 28) (.const (.int .i64 1))) 0 [(27, (.sc (.atom 11))), (28, (.sc (.atom 10)))] (.tu []) []
    (.next 4 [(.ar .add .i64 (.atom 9) (.int .i64 1))]))))))
    (.loop 8 [.int .i64] [(.int .i64 0)]
     (.ite (.cmp .lss (.atom 10) (.len (.atom 8)))
      (.chk [] (.inSl (.atom 8) (.atom 10))
      (.load (.elt (.atom 8) (.atom 10) 8) [.int .i64, .str, .sl, .int .i64, .int .i64, .str, .sl, .sl]
      (.call (.fn 22) [(.sc (.atom 0)), (.ag [(.atom 11), (.atom 12), (.atom 13), (.atom 14), (.atom 15), (.atom 16), (.atom 17), (.atom 18)])] (.tu []) []
      (.next 8 [(.ar .add .i64 (.atom 10) (.int .i64 1))]))))
      (.leaf (.tu []))))))
  (.ite (.cmp .neq (.atom 1) (.int .i64 7))
   (.chk [] (.some (.atom 0))
   (.load (.padd (.atom 0) 0) [.map]
   (.sem (.mapUpdate 52 (.tmp 14) (.tmp 16) (.const (.int .i64 1))) 0 [(14, (.sc (.atom 9))), (16, (.sc (.atom 2)))] (.tu []) []
   (.next 1 []))))
   (.next 1 [])))
theorem fm_core_renamer__seen_eq : execF Tryd.prog { pub := [], nojoin := false } Tryd.f22 = fm_core_renamer__seen := by kernel_rfl
theorem cb_core_renamer__seen : callB Tryd.prog 22 = true := by kernel_rfl
theorem tri_core_renamer__seen : TriOf Tryd.prog 22 Tryd.f22 fm_core_renamer__seen := triOf Tryd.func22 fm_core_renamer__seen_eq

/-- (*scrimshaw/core.renamer).rename -/
abbrev n_core_renamer__rename : FuncId := 23
def fm_core_renamer__rename : Fm VE :=
 (.join 2 [.int .i64, .str, .sl, .int .i64, .int .i64, .str, .sl, .sl]
  (.call (.fn 37) [(.sc (.atom 9))] (.sc (.map)) []
  (.loop 6 [.int .i64, .int .i64, .str, .sl, .int .i64, .int .i64, .str, .sl, .sl] [(.int .i64 0), (.atom 10), (.atom 11), (.atom 12), (.atom 13), (.atom 14), (.atom 15), (.atom 16), (.atom 17)]
   (.ite (.cmp .lss (.atom 19) (.len (.atom 3)))
    (.chk [] (.inSl (.atom 3) (.atom 19))
    (.load (.elt (.atom 3) (.atom 19) 1) [.str]
    (.call (.fn 38) [(.sc (.atom 0))] (.sc (.int .i64)) []
    (.call (.fn 36) [(.sc (.atom 29))] (.sc (.str)) []
    (.sem (.buildSlice 22 1 #[(0, (.tmp 58))]) 22 [(58, (.sc (.atom 30)))] (.sc (.sl)) []
    (.sem (.call ⟨.builtin .append, #[(.tmp 56), (.tmp 59)], #[22, 22]⟩) 22 [(56, (.sc (.atom 22))), (59, (.sc (.atom 31)))] (.sc (.sl)) []
    (.sem (.mapUpdate 52 (.tmp 62) (.tmp 63) (.tmp 64)) 0 [(62, (.sc (.atom 18))), (63, (.sc (.atom 28))), (64, (.sc (.atom 29)))] (.tu []) []
    (.next 6 [(.ar .add .i64 (.atom 19) (.int .i64 1)), (.atom 20), (.atom 21), (.atom 32), (.atom 23), (.atom 24), (.atom 25), (.atom 26), (.atom 27)]))))))))
    (.loop 11 [.int .i64, .int .i64, .str, .sl, .int .i64, .int .i64, .str, .sl, .sl] [(.int .i64 0), (.atom 20), (.atom 21), (.atom 22), (.atom 23), (.atom 24), (.atom 25), (.atom 26), (.atom 27)]
     (.ite (.cmp .lss (.atom 28) (.len (.atom 8)))
      (.join 14 [.int .i64, .str, .sl, .int .i64, .int .i64, .str, .sl, .sl]
       (.next 11 [(.ar .add .i64 (.atom 28) (.int .i64 1)), (.atom 37), (.atom 38), (.atom 39), (.atom 40), (.atom 41), (.atom 42), (.atom 43), (.atom 44)])
       (.chk [] (.inSl (.atom 8) (.atom 28))
       (.load (.elt (.atom 8) (.atom 28) 8) [.int .i64, .str, .sl, .int .i64, .int .i64, .str, .sl, .sl]
       (.call (.fn 39) [(.ag [(.atom 1), (.atom 2), (.atom 3), (.atom 4), (.atom 5), (.atom 6), (.atom 7), (.atom 8)]), (.sc (.atom 28))] (.sc (.bool)) []
       (.ite (.atom 45)
        (.call (.fn 23) [(.sc (.atom 0)), (.ag [(.atom 37), (.atom 38), (.atom 39), (.atom 40), (.atom 41), (.atom 42), (.atom 43), (.atom 44)]), (.sc (.atom 18))] (.ag [.int .i64, .str, .sl, .int .i64, .int .i64, .str, .sl, .sl]) []
        (.sem (.buildSlice 26 1 #[(0, (.tmp 82))]) 26 [(82, (.ag [(.atom 46), (.atom 47), (.atom 48), (.atom 49), (.atom 50), (.atom 51), (.atom 52), (.atom 53)]))] (.sc (.sl)) []
        (.sem (.call ⟨.builtin .append, #[(.tmp 78), (.tmp 83)], #[26, 26]⟩) 26 [(78, (.sc (.atom 36))), (83, (.sc (.atom 54)))] (.sc (.sl)) []
        (.next 14 [(.atom 29), (.atom 30), (.atom 31), (.atom 32), (.atom 33), (.atom 34), (.atom 35), (.atom 55)]))))
        (.call (.fn 23) [(.sc (.atom 0)), (.ag [(.atom 37), (.atom 38), (.atom 39), (.atom 40), (.atom 41), (.atom 42), (.atom 43), (.atom 44)]), (.sc (.atom 9))] (.ag [.int .i64, .str, .sl, .int .i64, .int .i64, .str, .sl, .sl]) []
        (.sem (.buildSlice 26 1 #[(0, (.tmp 91))]) 26 [(91, (.ag [(.atom 46), (.atom 47), (.atom 48), (.atom 49), (.atom 50), (.atom 51), (.atom 52), (.atom 53)]))] (.sc (.sl)) []
        (.sem (.call ⟨.builtin .append, #[(.tmp 87), (.tmp 92)], #[26, 26]⟩) 26 [(87, (.sc (.atom 36))), (92, (.sc (.atom 54)))] (.sc (.sl)) []
        (.next 14 [(.atom 29), (.atom 30), (.atom 31), (.atom 32), (.atom 33), (.atom 34), (.atom 35), (.atom 55)])))))))))
      (.leaf (.ag [(.atom 29), (.atom 30), (.atom 31), (.atom 32), (.atom 33), (.atom 34), (.atom 35), (.atom 36)])))))))
  (.sem (.lookup 52 (.tmp 24) (.tmp 26) true) 71 [(24, (.sc (.atom 9))), (26, (.sc (.atom 2)))] (.tu [(false, [.int .i64]), (false, [.bool])]) []
  (.ite (.pick (.atom 11) (.pick (.cmp .eql (.atom 1) (.int .i64 1)) (.bool true) (.cmp .eql (.atom 1) (.int .i64 2))) (.bool false))
   (.call (.fn 36) [(.sc (.atom 10))] (.sc (.str)) []
   (.next 2 [(.atom 1), (.atom 12), (.nil 1), (.atom 4), (.atom 5), (.atom 6), (.atom 7), (.nil 1)]))
   (.next 2 [(.atom 1), (.atom 2), (.nil 1), (.atom 4), (.atom 5), (.atom 6), (.atom 7), (.nil 1)]))))
theorem fm_core_renamer__rename_eq : execF Tryd.prog { pub := [], nojoin := false } Tryd.f23 = fm_core_renamer__rename := by kernel_rfl
theorem cb_core_renamer__rename : callB Tryd.prog 23 = true := by kernel_rfl
theorem tri_core_renamer__rename : TriOf Tryd.prog 23 Tryd.f23 fm_core_renamer__rename := triOf Tryd.func23 fm_core_renamer__rename_eq

/-- scrimshaw/core.free -/
abbrev n_core_free : FuncId := 24
def fm_core_free : Fm VE :=
 (.join 1 []
  (.loop 3 [.int .i64] [(.int .i64 0)]
   (.ite (.cmp .lss (.atom 10) (.len (.atom 7)))
    (.chk [] (.inSl (.atom 7) (.atom 10))
    (.load (.elt (.atom 7) (.atom 10) 8) [.int .i64, .str, .sl, .int .i64, .int .i64, .str, .sl, .sl]
    (.call (.fn 39) [(.ag [(.atom 0), (.atom 1), (.atom 2), (.atom 3), (.atom 4), (.atom 5), (.atom 6), (.atom 7)]), (.sc (.atom 10))] (.sc (.bool)) []
    (.loop 13 [.int .i64] [(.int .i64 0)]
     (.ite (.cmp .lss (.atom 20) (.len (.atom 2)))
      (.chk [] (.inSl (.atom 2) (.atom 20))
      (.load (.elt (.atom 2) (.atom 20) 1) [.str]
      (.sem (.lookup 52 (.tmp 49) (.tmp 50) false) 3 [(49, (.sc (.atom 8))), (50, (.sc (.atom 21)))] (.sc (.int .i64)) []
      (.sem (.mapUpdate 52 (.tmp 49) (.tmp 50) (.tmp 53)) 0 [(49, (.sc (.atom 8))), (50, (.sc (.atom 21))), (53, (.sc (.ar .add .i64 (.atom 22) (.pick (.atom 19) (.int .i64 1) (.int .i64 0)))))] (.tu []) []
      (.next 13 [(.ar .add .i64 (.atom 20) (.int .i64 1))])))))
      (.call (.fn 24) [(.ag [(.atom 11), (.atom 12), (.atom 13), (.atom 14), (.atom 15), (.atom 16), (.atom 17), (.atom 18)]), (.sc (.atom 8)), (.sc (.atom 9))] (.tu []) []
      (.loop 18 [.int .i64] [(.int .i64 0)]
       (.ite (.cmp .lss (.atom 21) (.len (.atom 2)))
        (.chk [] (.inSl (.atom 2) (.atom 21))
        (.load (.elt (.atom 2) (.atom 21) 1) [.str]
        (.sem (.lookup 52 (.tmp 66) (.tmp 67) false) 3 [(66, (.sc (.atom 8))), (67, (.sc (.atom 22)))] (.sc (.int .i64)) []
        (.sem (.mapUpdate 52 (.tmp 66) (.tmp 67) (.tmp 70)) 0 [(66, (.sc (.atom 8))), (67, (.sc (.atom 22))), (70, (.sc (.ar .sub .i64 (.atom 23) (.pick (.atom 19) (.int .i64 1) (.int .i64 0)))))] (.tu []) []
        (.next 18 [(.ar .add .i64 (.atom 21) (.int .i64 1))])))))
        (.next 3 [(.ar .add .i64 (.atom 10) (.int .i64 1))])))))))))
    (.leaf (.tu []))))
  (.join 2 [.bool]
   (.ite (.atom 10)
    (.sem (.mapUpdate 52 (.tmp 28) (.tmp 30) (.const (.int .i64 1))) 0 [(28, (.sc (.atom 9))), (30, (.sc (.atom 1)))] (.tu []) []
    (.next 1 []))
    (.next 1 []))
   (.ite (.pick (.cmp .eql (.atom 0) (.int .i64 1)) (.bool true) (.cmp .eql (.atom 0) (.int .i64 2)))
    (.sem (.lookup 52 (.tmp 22) (.tmp 24) false) 3 [(22, (.sc (.atom 8))), (24, (.sc (.atom 1)))] (.sc (.int .i64)) []
    (.next 2 [(.cmp .eql (.atom 10) (.int .i64 0))]))
    (.next 2 [(.bool false)]))))
theorem fm_core_free_eq : execF Tryd.prog { pub := [], nojoin := false } Tryd.f24 = fm_core_free := by kernel_rfl
theorem cb_core_free : callB Tryd.prog 24 = true := by kernel_rfl
theorem tri_core_free : TriOf Tryd.prog 24 Tryd.f24 fm_core_free := triOf Tryd.func24 fm_core_free_eq

/-- scrimshaw/core.told -/
abbrev n_core_told : FuncId := 27
def fm_core_told : Fm VE :=
 (.loop 4 [.sl, .int .i64] [(.nil 1), (.int .i64 0)]
  (.ite (.cmp .lss (.atom 9) (.len (.atom 7)))
   (.chk [] (.inSl (.atom 7) (.atom 9))
   (.load (.elt (.atom 7) (.atom 9) 8) [.int .i64, .str, .sl, .int .i64, .int .i64, .str, .sl, .sl]
   (.call (.fn 27) [(.ag [(.atom 10), (.atom 11), (.atom 12), (.atom 13), (.atom 14), (.atom 15), (.atom 16), (.atom 17)])] (.ag [.int .i64, .int .i64, .str, .sl]) []
   (.sem (.buildSlice 23 1 #[(0, (.tmp 22))]) 23 [(22, (.ag [(.atom 18), (.atom 19), (.atom 20), (.atom 21)]))] (.sc (.sl)) []
   (.sem (.call ⟨.builtin .append, #[(.tmp 20), (.tmp 23)], #[23, 23]⟩) 23 [(20, (.sc (.atom 8))), (23, (.sc (.atom 22)))] (.sc (.sl)) []
   (.next 4 [(.atom 23), (.ar .add .i64 (.atom 9) (.int .i64 1))]))))))
   (.call (.fn 45) [(.sc (.atom 0))] (.sc (.str)) []
   (.call (.fn 44) [(.sc (.atom 10))] (.ag [.int .i64, .int .i64, .str, .sl]) []
   (.sem (.buildSlice 23 1 #[(0, (.tmp 29))]) 23 [(29, (.ag [(.atom 11), (.atom 12), (.atom 13), (.atom 14)]))] (.sc (.sl)) []
   (.call (.fn 43) [(.sc (.atom 15))] (.ag [.int .i64, .int .i64, .str, .sl]) []
   (.join 8 [.sl, .int .i64, .int .i64, .str, .sl]
    (.sem (.call ⟨.builtin .append, #[(.tmp 118), (.tmp 119)], #[23, 23]⟩) 23 [(118, (.sc (.atom 24))), (119, (.sc (.atom 20)))] (.sc (.sl)) []
    (.leaf (.ag [(.atom 21), (.atom 22), (.atom 23), (.atom 25)])))
    (.ite (.cmp .eql (.atom 0) (.int .i64 1))
     (.call (.fn 44) [(.sc (.atom 1))] (.ag [.int .i64, .int .i64, .str, .sl]) []
     (.leaf (.ag [(.atom 20), (.atom 21), (.atom 22), (.atom 23)])))
     (.ite (.cmp .eql (.atom 0) (.int .i64 0))
      (.sem (.buildSlice 23 1 #[(0, (.tmp 42))]) 23 [(42, (.ag [(.atom 3), (.atom 4), (.atom 5), (.atom 6)]))] (.sc (.sl)) []
      (.next 8 [(.atom 20), (.atom 16), (.atom 17), (.atom 18), (.atom 19)]))
      (.ite (.pick (.cmp .eql (.atom 0) (.int .i64 2)) (.cmp .eql (.atom 0) (.int .i64 2)) (.cmp .eql (.atom 0) (.int .i64 7)))
       (.call (.fn 44) [(.sc (.atom 1))] (.ag [.int .i64, .int .i64, .str, .sl]) []
       (.sem (.buildSlice 23 1 #[(0, (.tmp 51))]) 23 [(51, (.ag [(.atom 20), (.atom 21), (.atom 22), (.atom 23)]))] (.sc (.sl)) []
       (.sem (.call ⟨.builtin .append, #[(.tmp 48), (.tmp 52)], #[23, 23]⟩) 23 [(48, (.sc (.atom 19))), (52, (.sc (.atom 24)))] (.sc (.sl)) []
       (.next 8 [(.atom 8), (.atom 16), (.atom 17), (.atom 18), (.atom 25)]))))
       (.ite (.cmp .eql (.atom 0) (.int .i64 5))
        (.call (.fn 43) [(.sc (.nil 1))] (.ag [.int .i64, .int .i64, .str, .sl]) []
        (.loop 18 [.int .i64, .int .i64, .int .i64, .str, .sl] [(.int .i64 0), (.atom 20), (.atom 21), (.atom 22), (.atom 23)]
         (.ite (.cmp .lss (.atom 24) (.len (.atom 2)))
          (.chk [] (.inSl (.atom 2) (.atom 24))
          (.load (.elt (.atom 2) (.atom 24) 1) [.str]
          (.call (.fn 44) [(.sc (.atom 29))] (.ag [.int .i64, .int .i64, .str, .sl]) []
          (.sem (.buildSlice 23 1 #[(0, (.tmp 68))]) 23 [(68, (.ag [(.atom 30), (.atom 31), (.atom 32), (.atom 33)]))] (.sc (.sl)) []
          (.sem (.call ⟨.builtin .append, #[(.tmp 66), (.tmp 69)], #[23, 23]⟩) 23 [(66, (.sc (.atom 28))), (69, (.sc (.atom 34)))] (.sc (.sl)) []
          (.next 18 [(.ar .add .i64 (.atom 24) (.int .i64 1)), (.atom 25), (.atom 26), (.atom 27), (.atom 35)]))))))
          (.sem (.buildSlice 23 1 #[(0, (.tmp 75))]) 23 [(75, (.ag [(.atom 25), (.atom 26), (.atom 27), (.atom 28)]))] (.sc (.sl)) []
          (.sem (.call ⟨.builtin .append, #[(.tmp 74), (.tmp 76)], #[23, 23]⟩) 23 [(74, (.sc (.atom 19))), (76, (.sc (.atom 29)))] (.sc (.sl)) []
          (.next 8 [(.atom 8), (.atom 16), (.atom 17), (.atom 18), (.atom 30)]))))))
        (.join 15 [.bool]
         (.ite (.atom 20)
          (.call (.fn 43) [(.sc (.nil 1))] (.ag [.int .i64, .int .i64, .str, .sl]) []
          (.loop 19 [.int .i64, .int .i64, .int .i64, .str, .sl] [(.int .i64 0), (.atom 21), (.atom 22), (.atom 23), (.atom 24)]
           (.ite (.cmp .lss (.atom 25) (.len (.atom 2)))
            (.chk [] (.inSl (.atom 2) (.atom 25))
            (.load (.elt (.atom 2) (.atom 25) 1) [.str]
            (.chk [] (.inSl (.atom 8) (.atom 25))
            (.load (.elt (.atom 8) (.atom 25) 4) [.int .i64, .int .i64, .str, .sl]
            (.call (.fn 44) [(.sc (.atom 30))] (.ag [.int .i64, .int .i64, .str, .sl]) [((.elt (.atom 8) (.atom 25) 4), [(.atom 31), (.atom 32), (.atom 33), (.atom 34)])]
            (.sem (.buildSlice 23 2 #[(0, (.tmp 95)), (1, (.tmp 99))]) 23 [(95, (.ag [(.atom 35), (.atom 36), (.atom 37), (.atom 38)])), (99, (.ag [(.atom 31), (.atom 32), (.atom 33), (.atom 34)]))] (.sc (.sl)) []
            (.call (.fn 43) [(.sc (.atom 39))] (.ag [.int .i64, .int .i64, .str, .sl]) []
            (.sem (.buildSlice 23 1 #[(0, (.tmp 101))]) 23 [(101, (.ag [(.atom 40), (.atom 41), (.atom 42), (.atom 43)]))] (.sc (.sl)) []
            (.sem (.call ⟨.builtin .append, #[(.tmp 93), (.tmp 102)], #[23, 23]⟩) 23 [(93, (.sc (.atom 29))), (102, (.sc (.atom 44)))] (.sc (.sl)) []
            (.next 19 [(.ar .add .i64 (.atom 25) (.int .i64 1)), (.atom 26), (.atom 27), (.atom 28), (.atom 45)]))))))))))
            (.sem (.buildSlice 23 1 #[(0, (.tmp 108))]) 23 [(108, (.ag [(.atom 26), (.atom 27), (.atom 28), (.atom 29)]))] (.sc (.sl)) []
            (.sem (.call ⟨.builtin .append, #[(.tmp 107), (.tmp 109)], #[23, 23]⟩) 23 [(107, (.sc (.atom 19))), (109, (.sc (.atom 30)))] (.sc (.sl)) []
            (.chk [] (.sub (.cap (.atom 8)) (.len (.atom 2)) (.len (.atom 8)))
            (.next 8 [(.sls (.atom 8) (.len (.atom 2)) (.len (.atom 8)) 4), (.atom 16), (.atom 17), (.atom 18), (.atom 31)])))))))
          (.next 8 [(.atom 8), (.atom 16), (.atom 17), (.atom 18), (.atom 19)]))
         (.ite (.cmp .eql (.atom 0) (.int .i64 8))
          (.next 15 [(.cmp .eql (.atom 0) (.int .i64 8))])
          (.next 15 [(.pick (.cmp .eql (.atom 0) (.int .i64 9)) (.cmp .eql (.atom 0) (.int .i64 9)) (.cmp .eql (.atom 0) (.int .i64 10)))]))))))))))))))
theorem fm_core_told_eq : execF Tryd.prog { pub := [], nojoin := false } Tryd.f27 = fm_core_told := by kernel_rfl
theorem cb_core_told : callB Tryd.prog 27 = true := by kernel_rfl
theorem tri_core_told : TriOf Tryd.prog 27 Tryd.f27 fm_core_told := triOf Tryd.func27 fm_core_told_eq

/-- (*scrimshaw/core.maker).expr -/
abbrev n_core_maker__expr : FuncId := 28
def fm_core_maker__expr : Fm VE :=
 (.ite (.cmp .eql (.atom 1) (.int .i64 4))
  (.leaf (.ag [(.int .i64 1), (.atom 3), (.nil 1), (.int .i64 0), (.int .i64 0), (.str []), (.nil 1), (.nil 1)]))
  (.join 4 [.bool]
   (.ite (.atom 5)
    (.chk [] (.some (.atom 0))
    (.store (.padd (.atom 0) 0) [(.bool true)]
    (.leaf (.ag [(.int .i64 0), (.str []), (.nil 1), (.int .i64 0), (.int .i64 0), (.str []), (.nil 1), (.nil 1)]))))
    (.chk [] (.sub (.cap (.atom 4)) (.int .i64 1) (.len (.atom 4)))
    (.loop 8 [.int .i64, .int .i64] [(.int .i64 11), (.int .i64 0)]
     (.ite (.cmp .lss (.atom 7) (.int .i64 11))
      (.join 13 [.bool]
       (.next 8 [(.pick (.atom 8) (.atom 7) (.atom 6)), (.ar .add .i64 (.atom 7) (.int .i64 1))])
       (.call (.fn 45) [(.sc (.atom 7))] (.sc (.str)) []
       (.chk [((.scmp .neq (.atom 8) (.str [])), true)] (.inSl (.atom 4) (.int .i64 0))
       (.ite (.scmp .neq (.atom 8) (.str []))
        (.load (.elt (.atom 4) (.int .i64 0) 4) [.int .i64, .int .i64, .str, .sl]
        (.call (.fn 45) [(.sc (.atom 7))] (.sc (.str)) [((.elt (.atom 4) (.int .i64 0) 4), [(.atom 9), (.atom 10), (.atom 11), (.atom 12)])]
        (.call (.fn 46) [(.sc (.atom 0)), (.ag [(.atom 9), (.atom 10), (.atom 11), (.atom 12)])] (.sc (.str)) []
        (.next 13 [(.scmp .eql (.atom 13) (.atom 14))]))))
        (.next 13 [(.bool false)])))))
      (.join 12 [.sl, .int .i64, .str, .sl, .int .i64, .int .i64, .str, .sl, .sl]
       (.call (.fn 48) [(.sc (.atom 0)), (.sc (.atom 8))] (.sc (.sl)) []
       (.sem (.call ⟨.builtin .append, #[(.tmp 144), (.tmp 147)], #[26, 26]⟩) 26 [(144, (.sc (.atom 16))), (147, (.sc (.atom 17)))] (.sc (.sl)) []
       (.leaf (.ag [(.atom 9), (.atom 10), (.atom 11), (.atom 12), (.atom 13), (.atom 14), (.atom 15), (.atom 18)]))))
       (.ite (.cmp .eql (.atom 6) (.int .i64 0))
        (.chk [] (.some (.atom 0))
        (.load (.padd (.atom 0) 0) [.bool]
        (.store (.padd (.atom 0) 0) [(.pick (.atom 8) (.bool true) (.cmp .neq (.len (.sls (.atom 4) (.int .i64 1) (.len (.atom 4)) 4)) (.int .i64 1)))]
        (.chk [] (.inSl (.sls (.atom 4) (.int .i64 1) (.len (.atom 4)) 4) (.int .i64 0))
        (.load (.elt (.sls (.atom 4) (.int .i64 1) (.len (.atom 4)) 4) (.int .i64 0) 4) [.int .i64, .int .i64, .str, .sl]
        (.leaf (.ag [(.atom 6), (.str []), (.nil 1), (.atom 9), (.atom 10), (.atom 11), (.atom 12), (.nil 1)])))))))
        (.ite (.pick (.cmp .eql (.atom 6) (.int .i64 2)) (.cmp .eql (.atom 6) (.int .i64 2)) (.cmp .eql (.atom 6) (.int .i64 7)))
         (.chk [] (.inSl (.sls (.atom 4) (.int .i64 1) (.len (.atom 4)) 4) (.int .i64 0))
         (.load (.elt (.sls (.atom 4) (.int .i64 1) (.len (.atom 4)) 4) (.int .i64 0) 4) [.int .i64, .int .i64, .str, .sl]
         (.chk [] (.sub (.cap (.sls (.atom 4) (.int .i64 1) (.len (.atom 4)) 4)) (.int .i64 1) (.len (.sls (.atom 4) (.int .i64 1) (.len (.atom 4)) 4)))
         (.call (.fn 46) [(.sc (.atom 0)), (.ag [(.atom 8), (.atom 9), (.atom 10), (.atom 11)])] (.sc (.str)) []
         (.next 12 [(.sls (.sls (.atom 4) (.int .i64 1) (.len (.atom 4)) 4) (.int .i64 1) (.len (.sls (.atom 4) (.int .i64 1) (.len (.atom 4)) 4)) 4), (.atom 6), (.atom 12), (.nil 1), (.int .i64 0), (.int .i64 0), (.str []), (.nil 1), (.nil 1)])))))
         (.ite (.cmp .eql (.atom 6) (.int .i64 5))
          (.join 18 []
           (.chk [] (.inSl (.sls (.atom 4) (.int .i64 1) (.len (.atom 4)) 4) (.int .i64 0))
           (.load (.padd (.elt (.sls (.atom 4) (.int .i64 1) (.len (.atom 4)) 4) (.int .i64 0) 4) 3) [.sl]
           (.loop 21 [.int .i64, .int .i64, .str, .sl, .int .i64, .int .i64, .str, .sl, .sl] [(.int .i64 0), (.atom 6), (.str []), (.nil 1), (.int .i64 0), (.int .i64 0), (.str []), (.nil 1), (.nil 1)]
            (.ite (.cmp .lss (.atom 9) (.len (.atom 8)))
             (.chk [] (.inSl (.atom 8) (.atom 9))
             (.load (.elt (.atom 8) (.atom 9) 4) [.int .i64, .int .i64, .str, .sl]
             (.call (.fn 46) [(.sc (.atom 0)), (.ag [(.atom 18), (.atom 19), (.atom 20), (.atom 21)])] (.sc (.str)) []
             (.sem (.buildSlice 22 1 #[(0, (.tmp 120))]) 22 [(120, (.sc (.atom 22)))] (.sc (.sl)) []
             (.sem (.call ⟨.builtin .append, #[(.tmp 117), (.tmp 121)], #[22, 22]⟩) 22 [(117, (.sc (.atom 12))), (121, (.sc (.atom 23)))] (.sc (.sl)) []
             (.next 21 [(.ar .add .i64 (.atom 9) (.int .i64 1)), (.atom 10), (.atom 11), (.atom 24), (.atom 13), (.atom 14), (.atom 15), (.atom 16), (.atom 17)]))))))
             (.chk [] (.sub (.cap (.sls (.atom 4) (.int .i64 1) (.len (.atom 4)) 4)) (.int .i64 1) (.len (.sls (.atom 4) (.int .i64 1) (.len (.atom 4)) 4)))
             (.next 12 [(.sls (.sls (.atom 4) (.int .i64 1) (.len (.atom 4)) 4) (.int .i64 1) (.len (.sls (.atom 4) (.int .i64 1) (.len (.atom 4)) 4)) 4), (.atom 10), (.atom 11), (.atom 12), (.atom 13), (.atom 14), (.atom 15), (.atom 16), (.atom 17)]))))))
           (.chk [] (.some (.atom 0))
           (.load (.padd (.atom 0) 0) [.bool]
           (.chk [((.atom 8), false)] (.inSl (.sls (.atom 4) (.int .i64 1) (.len (.atom 4)) 4) (.int .i64 0))
           (.chk [((.atom 8), false)] (.some (.elt (.sls (.atom 4) (.int .i64 1) (.len (.atom 4)) 4) (.int .i64 0) 4))
           (.ite (.atom 8)
            (.store (.padd (.atom 0) 0) [(.bool true)]
            (.next 18 []))
            (.load (.padd (.elt (.sls (.atom 4) (.int .i64 1) (.len (.atom 4)) 4) (.int .i64 0) 4) 0) [.int .i64]
            (.store (.padd (.atom 0) 0) [(.cmp .neq (.atom 9) (.int .i64 5))]
            (.next 18 [])))))))))
          (.join 18 [.bool]
           (.ite (.atom 8)
            (.chk [] (.inSl (.sls (.atom 4) (.int .i64 1) (.len (.atom 4)) 4) (.int .i64 0))
            (.load (.elt (.sls (.atom 4) (.int .i64 1) (.len (.atom 4)) 4) (.int .i64 0) 4) [.int .i64, .int .i64, .str, .sl]
            (.call (.fn 47) [(.sc (.atom 0)), (.ag [(.atom 9), (.atom 10), (.atom 11), (.atom 12)])] (.tu [(false, [.sl]), (false, [.sl])]) []
            (.chk [] (.sub (.cap (.sls (.atom 4) (.int .i64 1) (.len (.atom 4)) 4)) (.int .i64 1) (.len (.sls (.atom 4) (.int .i64 1) (.len (.atom 4)) 4)))
            (.next 12 [(.sls (.sls (.atom 4) (.int .i64 1) (.len (.atom 4)) 4) (.int .i64 1) (.len (.sls (.atom 4) (.int .i64 1) (.len (.atom 4)) 4)) 4), (.atom 6), (.str []), (.atom 13), (.int .i64 0), (.int .i64 0), (.str []), (.nil 1), (.atom 14)])))))
            (.next 12 [(.sls (.atom 4) (.int .i64 1) (.len (.atom 4)) 4), (.atom 6), (.str []), (.nil 1), (.int .i64 0), (.int .i64 0), (.str []), (.nil 1), (.nil 1)]))
           (.ite (.cmp .eql (.atom 6) (.int .i64 8))
            (.next 18 [(.cmp .eql (.atom 6) (.int .i64 8))])
            (.next 18 [(.pick (.cmp .eql (.atom 6) (.int .i64 9)) (.cmp .eql (.atom 6) (.int .i64 9)) (.cmp .eql (.atom 6) (.int .i64 10)))])))))))))))
   (.chk [((.pick (.cmp .neq (.atom 1) (.int .i64 5)) (.bool true) (.cmp .lss (.len (.atom 4)) (.int .i64 2))), false)] (.some (.atom 0))
   (.chk [((.pick (.cmp .neq (.atom 1) (.int .i64 5)) (.bool true) (.cmp .lss (.len (.atom 4)) (.int .i64 2))), false)] (.some (.atom 0))
   (.ite (.pick (.cmp .neq (.atom 1) (.int .i64 5)) (.bool true) (.cmp .lss (.len (.atom 4)) (.int .i64 2)))
    (.next 4 [(.bool true)])
    (.load (.padd (.atom 0) 0) [.bool]
    (.next 4 [(.atom 5)])))))))
theorem fm_core_maker__expr_eq : execF Tryd.prog { pub := [], nojoin := false } Tryd.f28 = fm_core_maker__expr := by kernel_rfl
theorem cb_core_maker__expr : callB Tryd.prog 28 = true := by kernel_rfl
theorem tri_core_maker__expr : TriOf Tryd.prog 28 Tryd.f28 fm_core_maker__expr := triOf Tryd.func28 fm_core_maker__expr_eq

/-- scrimshaw/data.Make -/
abbrev n_data_Make : FuncId := 29
def fm_data_Make : Fm VE :=
 (.ite (.cmp .eql (.len (.atom 0)) (.int .i64 0))
  (.call (.fn 49) [(.ag [(.atom 1), (.atom 2), (.atom 3), (.atom 4)])] (.ag [.int .i64, .int .i64, .str, .sl]) []
  (.leaf (.ag [(.atom 5), (.atom 6), (.atom 7), (.atom 8)])))
  (.ite (.pick (.cmp .eql (.atom 1) (.int .i64 5)) (.bool true) (.cmp .eql (.atom 1) (.int .i64 6)))
   (.call (.fn 50) [(.sc (.atom 0))] (.sc (.sl)) []
   (.call (.fn 50) [(.sc (.atom 4))] (.sc (.sl)) []
   (.sem (.call ⟨.builtin .append, #[(.tmp 21), (.tmp 24)], #[23, 23]⟩) 23 [(21, (.sc (.atom 5))), (24, (.sc (.atom 6)))] (.sc (.sl)) []
   (.leaf (.ag [(.atom 1), (.int .i64 0), (.str []), (.atom 7)])))))
   (.call (.fn 50) [(.sc (.atom 0))] (.sc (.sl)) []
   (.call (.fn 49) [(.ag [(.atom 1), (.atom 2), (.atom 3), (.atom 4)])] (.ag [.int .i64, .int .i64, .str, .sl]) []
   (.sem (.buildSlice 23 1 #[(0, (.tmp 30))]) 23 [(30, (.ag [(.atom 6), (.atom 7), (.atom 8), (.atom 9)]))] (.sc (.sl)) []
   (.sem (.call ⟨.builtin .append, #[(.tmp 28), (.tmp 31)], #[23, 23]⟩) 23 [(28, (.sc (.atom 5))), (31, (.sc (.atom 10)))] (.sc (.sl)) []
   (.leaf (.ag [(.int .i64 6), (.int .i64 0), (.str []), (.atom 11)]))))))))
theorem fm_data_Make_eq : execF Tryd.prog { pub := [], nojoin := false } Tryd.f29 = fm_data_Make := by kernel_rfl
theorem cb_data_Make : callB Tryd.prog 29 = true := by kernel_rfl
theorem tri_data_Make : TriOf Tryd.prog 29 Tryd.f29 fm_data_Make := triOf Tryd.func29 fm_data_Make_eq

/-- scrimshaw/data.Equal -/
abbrev n_data_Equal : FuncId := 30
def fm_data_Equal : Fm VE :=
 (.join 1 [.bool]
  (.leaf (.sc (.atom 8)))
  (.ite (.pick (.pick (.cmp .eql (.atom 0) (.atom 4)) (.cmp .eql (.atom 1) (.atom 5)) (.bool false)) (.scmp .eql (.atom 2) (.atom 6)) (.bool false))
   (.call (.fn 51) [(.sc (.atom 3)), (.sc (.atom 7)), (.sc (.fn 30))] (.sc (.bool)) []
   (.next 1 [(.atom 8)]))
   (.next 1 [(.bool false)])))
theorem fm_data_Equal_eq : execF Tryd.prog { pub := [], nojoin := false } Tryd.f30 = fm_data_Equal := by kernel_rfl
theorem cb_data_Equal : callB Tryd.prog 30 = true := by kernel_rfl
theorem tri_data_Equal : TriOf Tryd.prog 30 Tryd.f30 fm_data_Equal := triOf Tryd.func30 fm_data_Equal_eq

/-- scrimshaw/scrimshawref02.left -/
abbrev n_scrimshawref02_left : FuncId := 31
def fm_scrimshawref02_left : Fm VE :=
 (.loop 5 [.int .i64, .int .i64] [(.pick (.cmp .gtr (.atom 4) (.int .i64 0)) (.ar .sub .i64 (.atom 4) (.int .i64 1)) (.atom 4)), (.int .i64 0)]
  (.ite (.pick (.cmp .lss (.atom 6) (.len (.atom 3))) (.cmp .gtr (.atom 5) (.int .i64 0)) (.bool false))
   (.chk [] (.inSl (.atom 3) (.atom 6))
   (.load (.elt (.atom 3) (.atom 6) 4) [.int .i64, .int .i64, .str, .sl]
   (.call (.fn 31) [(.ag [(.atom 7), (.atom 8), (.atom 9), (.atom 10)]), (.sc (.atom 5))] (.sc (.int .i64)) []
   (.next 5 [(.atom 11), (.ar .add .i64 (.atom 6) (.int .i64 1))]))))
   (.leaf (.sc (.atom 5)))))
theorem fm_scrimshawref02_left_eq : execF Tryd.prog { pub := [], nojoin := false } Tryd.f31 = fm_scrimshawref02_left := by kernel_rfl
theorem cb_scrimshawref02_left : callB Tryd.prog 31 = true := by kernel_rfl
theorem tri_scrimshawref02_left : TriOf Tryd.prog 31 Tryd.f31 fm_scrimshawref02_left := triOf Tryd.func31 fm_scrimshawref02_left_eq

/-- scrimshaw/scrimshawref06.Sym -/
abbrev n_scrimshawref06_Sym : FuncId := 32
def fm_scrimshawref06_Sym : Fm VE :=
 (.leaf (.ag [(.int .i64 4), (.int .i64 0), (.atom 0), (.nil 1)]))
theorem fm_scrimshawref06_Sym_eq : execF Tryd.prog { pub := [], nojoin := false } Tryd.f32 = fm_scrimshawref06_Sym := by kernel_rfl
theorem cb_scrimshawref06_Sym : callB Tryd.prog 32 = true := by kernel_rfl
theorem tri_scrimshawref06_Sym : TriOf Tryd.prog 32 Tryd.f32 fm_scrimshawref06_Sym := triOf Tryd.func32 fm_scrimshawref06_Sym_eq

/-- scrimshaw/scrimshawref06.Word -/
abbrev n_scrimshawref06_Word : FuncId := 33
def fm_scrimshawref06_Word : Fm VE :=
 (.sem (.buildSlice 22 11 #[(0, (.const (.string ⟨#[113, 117, 111, 116, 101]⟩))), (1, (.const (.string ⟨#[]⟩))), (2, (.const (.string ⟨#[115, 101, 116, 33]⟩))), (3, (.const (.string ⟨#[105, 102]⟩))), (4, (.const (.string ⟨#[98, 101, 103, 105, 110]⟩))), (5, (.const (.string ⟨#[108, 97, 109, 98, 100, 97]⟩))), (6, (.const (.string ⟨#[99, 97, 108, 108]⟩))), (7, (.const (.string ⟨#[112, 114, 105, 109]⟩))), (8, (.const (.string ⟨#[108, 101, 116]⟩))), (9, (.const (.string ⟨#[108, 101, 116, 114, 101, 99]⟩))), (10, (.const (.string ⟨#[102, 105, 120]⟩)))]) 22 [] (.sc (.sl)) []
 (.chk [] (.inSl (.atom 1) (.atom 0))
 (.load (.elt (.atom 1) (.atom 0) 1) [.str]
 (.leaf (.sc (.atom 2))))))
theorem fm_scrimshawref06_Word_eq : execF Tryd.prog { pub := [], nojoin := false } Tryd.f33 = fm_scrimshawref06_Word := by kernel_rfl
theorem cb_scrimshawref06_Word : callB Tryd.prog 33 = true := by kernel_rfl
theorem tri_scrimshawref06_Word : TriOf Tryd.prog 33 Tryd.f33 fm_scrimshawref06_Word := triOf Tryd.func33 fm_scrimshawref06_Word_eq

/-- scrimshaw/scrimshawref06.List -/
abbrev n_scrimshawref06_List : FuncId := 34
def fm_scrimshawref06_List : Fm VE :=
 (.leaf (.ag [(.int .i64 5), (.int .i64 0), (.str []), (.atom 0)]))
theorem fm_scrimshawref06_List_eq : execF Tryd.prog { pub := [], nojoin := false } Tryd.f34 = fm_scrimshawref06_List := by kernel_rfl
theorem cb_scrimshawref06_List : callB Tryd.prog 34 = true := by kernel_rfl
theorem tri_scrimshawref06_List : TriOf Tryd.prog 34 Tryd.f34 fm_scrimshawref06_List := triOf Tryd.func34 fm_scrimshawref06_List_eq

/-- scrimshaw/core.form -/
abbrev n_core_form : FuncId := 35
def fm_core_form : Fm VE :=
 (.call (.fn 52) [(.ag [(.atom 0), (.atom 1), (.atom 2), (.atom 3), (.atom 4), (.atom 5), (.atom 6), (.atom 7)])] (.tu [(true, [.bool, .bool, .int .i64, .int .i64]), (false, [.bool])]) []
 (.join 3 [.bool]
  (.ite (.atom 13)
   (.leaf (.sc (.bool false)))
   (.join 5 [.bool]
    (.ite (.atom 14)
     (.leaf (.sc (.bool false)))
     (.ite (.cmp .eql (.atom 0) (.int .i64 0))
      (.call (.fn 55) [(.ag [(.atom 3), (.atom 4), (.atom 5), (.atom 6)])] (.sc (.bool)) []
      (.leaf (.sc (.atom 15))))
      (.join 8 [.bool]
       (.join 9 [.bool]
        (.leaf (.sc (.atom 16)))
        (.ite (.atom 15)
         (.call (.fn 30) [(.ag [(.atom 3), (.atom 4), (.atom 5), (.atom 6)]), (.ag [(.int .i64 0), (.int .i64 0), (.str []), (.nil 1)])] (.sc (.bool)) []
         (.next 9 [(.atom 16)]))
         (.next 9 [(.bool false)])))
       (.chk [((.cmp .neq (.atom 0) (.int .i64 10)), false)] (.sub (.cap (.atom 7)) (.int .i64 0) (.len (.atom 2)))
       (.ite (.cmp .neq (.atom 0) (.int .i64 10))
        (.next 8 [(.bool true)])
        (.call (.fn 56) [(.sc (.sls (.atom 7) (.int .i64 0) (.len (.atom 2)) 8)), (.sc (.fn 57))] (.sc (.bool)) []
        (.next 8 [(.not (.atom 15))])))))))
    (.ite (.pick (.atom 8) (.cmp .neq (.atom 0) (.int .i64 7)) (.bool false))
     (.call (.fn 54) [(.sc (.atom 1))] (.sc (.bool)) []
     (.next 5 [(.pick (.not (.atom 14)) (.bool true) (.pick (.not (.atom 8)) (.scmp .neq (.atom 1) (.str [])) (.bool false)))]))
     (.next 5 [(.pick (.not (.atom 8)) (.scmp .neq (.atom 1) (.str [])) (.bool false))]))))
  (.ite (.pick (.pick (.pick (.not (.atom 12)) (.bool true) (.cmp .lss (.len (.atom 7)) (.atom 10))) (.bool true) (.cmp .gtr (.len (.atom 7)) (.atom 11))) (.bool true) (.pick (.cmp .gtr (.len (.atom 2)) (.int .i64 0)) (.not (.atom 9)) (.bool false)))
   (.next 3 [(.bool true)])
   (.call (.fn 53) [(.sc (.atom 2))] (.sc (.bool)) []
   (.next 3 [(.not (.atom 13))])))))
theorem fm_core_form_eq : execF Tryd.prog { pub := [], nojoin := false } Tryd.f35 = fm_core_form := by kernel_rfl
theorem cb_core_form : callB Tryd.prog 35 = true := by kernel_rfl
theorem tri_core_form : TriOf Tryd.prog 35 Tryd.f35 fm_core_form := triOf Tryd.func35 fm_core_form_eq

/-- scrimshaw/core.named -/
abbrev n_core_named : FuncId := 36
def fm_core_named : Fm VE :=
 (.call (.fn 58) [(.sc (.atom 0))] (.sc (.str)) []
 (.chk [] (.catOk (.str [118, 46]) (.atom 1))
 (.leaf (.sc (.cat (.str [118, 46]) (.atom 1))))))
theorem fm_core_named_eq : execF Tryd.prog { pub := [], nojoin := false } Tryd.f36 = fm_core_named := by kernel_rfl
theorem cb_core_named : callB Tryd.prog 36 = true := by kernel_rfl
theorem tri_core_named : TriOf Tryd.prog 36 Tryd.f36 fm_core_named := triOf Tryd.func36 fm_core_named_eq

/-- (*scrimshaw/core.renamer).name -/
abbrev n_core_renamer__name : FuncId := 38
def fm_core_renamer__name : Fm VE :=
 (.loop 1 [.int .i64] [(.int .i64 0)]
  (.chk [] (.some (.atom 0))
  (.load (.padd (.atom 0) 1) [.int .i64]
  (.load (.padd (.atom 0) 1) [.int .i64]
  (.store (.padd (.atom 0) 1) [(.ar .add .i64 (.atom 3) (.int .i64 1))]
  (.load (.padd (.atom 0) 0) [.map]
  (.call (.fn 36) [(.sc (.atom 2))] (.sc (.str)) [((.padd (.atom 0) 0), [(.atom 4)])]
  (.sem (.lookup 52 (.tmp 18) (.tmp 20) false) 3 [(18, (.sc (.atom 4))), (20, (.sc (.atom 5)))] (.sc (.int .i64)) []
  (.ite (.cmp .eql (.atom 6) (.int .i64 0))
   (.leaf (.sc (.atom 2)))
   (.next 1 [(.atom 1)]))))))))))
theorem fm_core_renamer__name_eq : execF Tryd.prog { pub := [], nojoin := false } Tryd.f38 = fm_core_renamer__name := by kernel_rfl
theorem cb_core_renamer__name : callB Tryd.prog 38 = true := by kernel_rfl
theorem tri_core_renamer__name : TriOf Tryd.prog 38 Tryd.f38 fm_core_renamer__name := triOf Tryd.func38 fm_core_renamer__name_eq

/-- scrimshaw/core.binds -/
abbrev n_core_binds : FuncId := 39
def fm_core_binds : Fm VE :=
 (.join 3 [.bool]
  (.ite (.atom 9)
   (.leaf (.sc (.bool true)))
   (.ite (.cmp .eql (.atom 0) (.int .i64 8))
    (.leaf (.sc (.cmp .eql (.atom 8) (.ar .sub .i64 (.len (.atom 7)) (.int .i64 1)))))
    (.leaf (.sc (.bool false)))))
  (.ite (.cmp .eql (.atom 0) (.int .i64 5))
   (.next 3 [(.cmp .eql (.atom 0) (.int .i64 5))])
   (.next 3 [(.pick (.cmp .eql (.atom 0) (.int .i64 9)) (.cmp .eql (.atom 0) (.int .i64 9)) (.cmp .eql (.atom 0) (.int .i64 10)))])))
theorem fm_core_binds_eq : execF Tryd.prog { pub := [], nojoin := false } Tryd.f39 = fm_core_binds := by kernel_rfl
theorem cb_core_binds : callB Tryd.prog 39 = true := by kernel_rfl
theorem tri_core_binds : TriOf Tryd.prog 39 Tryd.f39 fm_core_binds := triOf Tryd.func39 fm_core_binds_eq

/-- scrimshaw/core.list -/
abbrev n_core_list : FuncId := 43
def fm_core_list : Fm VE :=
 (.leaf (.ag [(.int .i64 5), (.int .i64 0), (.str []), (.atom 0)]))
theorem fm_core_list_eq : execF Tryd.prog { pub := [], nojoin := false } Tryd.f43 = fm_core_list := by kernel_rfl
theorem cb_core_list : callB Tryd.prog 43 = true := by kernel_rfl
theorem tri_core_list : TriOf Tryd.prog 43 Tryd.f43 fm_core_list := triOf Tryd.func43 fm_core_list_eq

/-- scrimshaw/core.symbol -/
abbrev n_core_symbol : FuncId := 44
def fm_core_symbol : Fm VE :=
 (.leaf (.ag [(.int .i64 4), (.int .i64 0), (.atom 0), (.nil 1)]))
theorem fm_core_symbol_eq : execF Tryd.prog { pub := [], nojoin := false } Tryd.f44 = fm_core_symbol := by kernel_rfl
theorem cb_core_symbol : callB Tryd.prog 44 = true := by kernel_rfl
theorem tri_core_symbol : TriOf Tryd.prog 44 Tryd.f44 fm_core_symbol := triOf Tryd.func44 fm_core_symbol_eq

/-- scrimshaw/core.words -/
abbrev n_core_words : FuncId := 45
def fm_core_words : Fm VE :=
 (.sem (.index 97 (.tmp 3) (.tmp 4)) 9 [(3, (.ag [(.str [113, 117, 111, 116, 101]), (.str []), (.str [115, 101, 116, 33]), (.str [105, 102]), (.str [98, 101, 103, 105, 110]), (.str [108, 97, 109, 98, 100, 97]), (.str [99, 97, 108, 108]), (.str [112, 114, 105, 109]), (.str [108, 101, 116]), (.str [108, 101, 116, 114, 101, 99]), (.str [102, 105, 120])])), (4, (.sc (.atom 0)))] (.sc (.str)) []
 (.leaf (.sc (.atom 1))))
theorem fm_core_words_eq : execF Tryd.prog { pub := [], nojoin := false } Tryd.f45 = fm_core_words := by kernel_rfl
theorem cb_core_words : callB Tryd.prog 45 = true := by kernel_rfl
theorem tri_core_words : TriOf Tryd.prog 45 Tryd.f45 fm_core_words := triOf Tryd.func45 fm_core_words_eq

/-- (*scrimshaw/core.maker).name -/
abbrev n_core_maker__name : FuncId := 46
def fm_core_maker__name : Fm VE :=
 (.chk [] (.some (.atom 0))
 (.load (.padd (.atom 0) 0) [.bool]
 (.store (.padd (.atom 0) 0) [(.pick (.atom 5) (.bool true) (.cmp .neq (.atom 1) (.int .i64 4)))]
 (.leaf (.sc (.atom 3))))))
theorem fm_core_maker__name_eq : execF Tryd.prog { pub := [], nojoin := false } Tryd.f46 = fm_core_maker__name := by kernel_rfl
theorem cb_core_maker__name : callB Tryd.prog 46 = true := by kernel_rfl
theorem tri_core_maker__name : TriOf Tryd.prog 46 Tryd.f46 fm_core_maker__name := triOf Tryd.func46 fm_core_maker__name_eq

/-- (*scrimshaw/core.maker).bindings -/
abbrev n_core_maker__bindings : FuncId := 47
def fm_core_maker__bindings : Fm VE :=
 (.chk [] (.some (.atom 0))
 (.load (.padd (.atom 0) 0) [.bool]
 (.store (.padd (.atom 0) 0) [(.pick (.atom 5) (.bool true) (.cmp .neq (.atom 1) (.int .i64 5)))]
 (.loop 6 [.sl, .sl, .sl, .sl, .int .i64] [(.nil 1), (.nil 1), (.nil 1), (.nil 1), (.int .i64 0)]
  (.ite (.cmp .lss (.atom 10) (.len (.atom 4)))
   (.chk [] (.inSl (.atom 4) (.atom 10))
   (.load (.elt (.atom 4) (.atom 10) 4) [.int .i64, .int .i64, .str, .sl]
   (.ite (.pick (.cmp .neq (.atom 11) (.int .i64 5)) (.bool true) (.cmp .neq (.len (.atom 14)) (.int .i64 2)))
    (.store (.padd (.atom 0) 0) [(.bool true)]
    (.leaf (.tu [(false, [(.nil 1)]), (false, [(.nil 1)])])))
    (.chk [] (.inSl (.atom 14) (.int .i64 0))
    (.load (.elt (.atom 14) (.int .i64 0) 4) [.int .i64, .int .i64, .str, .sl]
    (.call (.fn 46) [(.sc (.atom 0)), (.ag [(.atom 15), (.atom 16), (.atom 17), (.atom 18)])] (.sc (.str)) []
    (.sem (.buildSlice 22 1 #[(0, (.tmp 47))]) 22 [(47, (.sc (.atom 19)))] (.sc (.sl)) []
    (.sem (.call ⟨.builtin .append, #[(.tmp 41), (.tmp 48)], #[22, 22]⟩) 22 [(41, (.sc (.atom 8))), (48, (.sc (.atom 20)))] (.sc (.sl)) []
    (.chk [] (.inSl (.atom 14) (.int .i64 1))
    (.load (.elt (.atom 14) (.int .i64 1) 4) [.int .i64, .int .i64, .str, .sl]
    (.call (.fn 28) [(.sc (.atom 0)), (.ag [(.atom 22), (.atom 23), (.atom 24), (.atom 25)])] (.ag [.int .i64, .str, .sl, .int .i64, .int .i64, .str, .sl, .sl]) []
    (.sem (.buildSlice 26 1 #[(0, (.tmp 56))]) 26 [(56, (.ag [(.atom 26), (.atom 27), (.atom 28), (.atom 29), (.atom 30), (.atom 31), (.atom 32), (.atom 33)]))] (.sc (.sl)) []
    (.sem (.call ⟨.builtin .append, #[(.tmp 50), (.tmp 57)], #[26, 26]⟩) 26 [(50, (.sc (.atom 9))), (57, (.sc (.atom 34)))] (.sc (.sl)) []
    (.next 6 [(.atom 6), (.atom 7), (.atom 21), (.atom 35), (.ar .add .i64 (.atom 10) (.int .i64 1))]))))))))))))))
   (.leaf (.tu [(false, [(.atom 8)]), (false, [(.atom 9)])])))))))
theorem fm_core_maker__bindings_eq : execF Tryd.prog { pub := [], nojoin := false } Tryd.f47 = fm_core_maker__bindings := by kernel_rfl
theorem cb_core_maker__bindings : callB Tryd.prog 47 = true := by kernel_rfl
theorem tri_core_maker__bindings : TriOf Tryd.prog 47 Tryd.f47 fm_core_maker__bindings := triOf Tryd.func47 fm_core_maker__bindings_eq

/-- (*scrimshaw/core.maker).all -/
abbrev n_core_maker__all : FuncId := 48
def fm_core_maker__all : Fm VE :=
 (.loop 4 [.sl, .int .i64] [(.nil 1), (.int .i64 0)]
  (.ite (.cmp .lss (.atom 3) (.len (.atom 1)))
   (.chk [] (.inSl (.atom 1) (.atom 3))
   (.load (.elt (.atom 1) (.atom 3) 4) [.int .i64, .int .i64, .str, .sl]
   (.call (.fn 28) [(.sc (.atom 0)), (.ag [(.atom 4), (.atom 5), (.atom 6), (.atom 7)])] (.ag [.int .i64, .str, .sl, .int .i64, .int .i64, .str, .sl, .sl]) []
   (.sem (.buildSlice 26 1 #[(0, (.tmp 17))]) 26 [(17, (.ag [(.atom 8), (.atom 9), (.atom 10), (.atom 11), (.atom 12), (.atom 13), (.atom 14), (.atom 15)]))] (.sc (.sl)) []
   (.sem (.call ⟨.builtin .append, #[(.tmp 14), (.tmp 18)], #[26, 26]⟩) 26 [(14, (.sc (.atom 2))), (18, (.sc (.atom 16)))] (.sc (.sl)) []
   (.next 4 [(.atom 17), (.ar .add .i64 (.atom 3) (.int .i64 1))]))))))
   (.leaf (.sc (.atom 2)))))
theorem fm_core_maker__all_eq : execF Tryd.prog { pub := [], nojoin := false } Tryd.f48 = fm_core_maker__all := by kernel_rfl
theorem cb_core_maker__all : callB Tryd.prog 48 = true := by kernel_rfl
theorem tri_core_maker__all : TriOf Tryd.prog 48 Tryd.f48 fm_core_maker__all := triOf Tryd.func48 fm_core_maker__all_eq

/-- scrimshaw/data.copied -/
abbrev n_data_copied : FuncId := 49
def fm_data_copied : Fm VE :=
 (.call (.fn 50) [(.sc (.atom 3))] (.sc (.sl)) []
 (.leaf (.ag [(.atom 0), (.atom 1), (.atom 2), (.atom 4)])))
theorem fm_data_copied_eq : execF Tryd.prog { pub := [], nojoin := false } Tryd.f49 = fm_data_copied := by kernel_rfl
theorem cb_data_copied : callB Tryd.prog 49 = true := by kernel_rfl
theorem tri_data_copied : TriOf Tryd.prog 49 Tryd.f49 fm_data_copied := triOf Tryd.func49 fm_data_copied_eq

/-- scrimshaw/data.all -/
abbrev n_data_all : FuncId := 50
def fm_data_all : Fm VE :=
 (.loop 4 [.sl, .int .i64] [(.nil 1), (.int .i64 0)]
  (.ite (.cmp .lss (.atom 2) (.len (.atom 0)))
   (.chk [] (.inSl (.atom 0) (.atom 2))
   (.load (.elt (.atom 0) (.atom 2) 4) [.int .i64, .int .i64, .str, .sl]
   (.call (.fn 49) [(.ag [(.atom 3), (.atom 4), (.atom 5), (.atom 6)])] (.ag [.int .i64, .int .i64, .str, .sl]) []
   (.sem (.buildSlice 23 1 #[(0, (.tmp 14))]) 23 [(14, (.ag [(.atom 7), (.atom 8), (.atom 9), (.atom 10)]))] (.sc (.sl)) []
   (.sem (.call ⟨.builtin .append, #[(.tmp 12), (.tmp 15)], #[23, 23]⟩) 23 [(12, (.sc (.atom 1))), (15, (.sc (.atom 11)))] (.sc (.sl)) []
   (.next 4 [(.atom 12), (.ar .add .i64 (.atom 2) (.int .i64 1))]))))))
   (.leaf (.sc (.atom 1)))))
theorem fm_data_all_eq : execF Tryd.prog { pub := [], nojoin := false } Tryd.f50 = fm_data_all := by kernel_rfl
theorem cb_data_all : callB Tryd.prog 50 = true := by kernel_rfl
theorem tri_data_all : TriOf Tryd.prog 50 Tryd.f50 fm_data_all := triOf Tryd.func50 fm_data_all_eq

/-- slices.EqualFunc[[]scrimshaw/api.Datum,[]scrimshaw/api.Datum,scrimshaw/api.Datum,scrimshaw/api.Datum] -/
abbrev n_slices_EqualFunc___api_Datum___api_Datum_api_Datum_api_Datum_ : FuncId := 51
def fm_slices_EqualFunc___api_Datum___api_Datum_api_Datum_api_Datum_ : Fm VE :=
 (.ite (.cmp .neq (.len (.atom 0)) (.len (.atom 1)))
  (.leaf (.sc (.bool false)))
  (.loop 5 [.bool, .int .i64] [(.bool false), (.int .i64 0)]
   (.ite (.cmp .lss (.atom 4) (.len (.atom 0)))
    (.chk [] (.inSl (.atom 0) (.atom 4))
    (.load (.elt (.atom 0) (.atom 4) 4) [.int .i64, .int .i64, .str, .sl]
    (.chk [] (.inSl (.atom 1) (.atom 4))
    (.load (.elt (.atom 1) (.atom 4) 4) [.int .i64, .int .i64, .str, .sl]
    (.call (.atom 2) [(.ag [(.atom 5), (.atom 6), (.atom 7), (.atom 8)]), (.ag [(.atom 9), (.atom 10), (.atom 11), (.atom 12)])] (.sc (.bool)) []
    (.ite (.not (.atom 13))
     (.leaf (.sc (.bool false)))
     (.next 5 [(.atom 3), (.ar .add .i64 (.atom 4) (.int .i64 1))])))))))
    (.leaf (.sc (.bool true))))))
theorem fm_slices_EqualFunc___api_Datum___api_Datum_api_Datum_api_Datum__eq : execF Tryd.prog { pub := [], nojoin := false } Tryd.f51 = fm_slices_EqualFunc___api_Datum___api_Datum_api_Datum_api_Datum_ := by kernel_rfl
theorem cb_slices_EqualFunc___api_Datum___api_Datum_api_Datum_api_Datum_ : callB Tryd.prog 51 = true := by kernel_rfl
theorem tri_slices_EqualFunc___api_Datum___api_Datum_api_Datum_api_Datum_ : TriOf Tryd.prog 51 Tryd.f51 fm_slices_EqualFunc___api_Datum___api_Datum_api_Datum_api_Datum_ := triOf Tryd.func51 fm_slices_EqualFunc___api_Datum___api_Datum_api_Datum_api_Datum__eq

/-- scrimshaw/core.shaped -/
abbrev n_core_shaped : FuncId := 52
def fm_core_shaped : Fm VE :=
 (.ite (.cmp .eql (.atom 0) (.int .i64 0))
  (.leaf (.tu [(true, [(.bool false), (.bool false), (.int .i64 0), (.int .i64 0)]), (false, [(.bool true)])]))
  (.ite (.cmp .eql (.atom 0) (.int .i64 1))
   (.leaf (.tu [(true, [(.bool true), (.bool false), (.int .i64 0), (.int .i64 0)]), (false, [(.bool true)])]))
   (.ite (.cmp .eql (.atom 0) (.int .i64 2))
    (.leaf (.tu [(true, [(.bool true), (.bool false), (.int .i64 1), (.int .i64 1)]), (false, [(.bool true)])]))
    (.ite (.cmp .eql (.atom 0) (.int .i64 3))
     (.leaf (.tu [(true, [(.bool false), (.bool false), (.int .i64 3), (.int .i64 3)]), (false, [(.bool true)])]))
     (.ite (.cmp .eql (.atom 0) (.int .i64 4))
      (.leaf (.tu [(true, [(.bool false), (.bool false), (.int .i64 2), (.int .i64 4096)]), (false, [(.bool true)])]))
      (.ite (.cmp .eql (.atom 0) (.int .i64 5))
       (.leaf (.tu [(true, [(.bool false), (.bool true), (.int .i64 1), (.int .i64 1)]), (false, [(.cmp .leq (.len (.atom 2)) (.int .i64 6))])]))
       (.ite (.cmp .eql (.atom 0) (.int .i64 6))
        (.leaf (.tu [(true, [(.bool false), (.bool false), (.int .i64 1), (.int .i64 7)]), (false, [(.bool true)])]))
        (.ite (.cmp .eql (.atom 0) (.int .i64 7))
         (.call (.fn 20) [(.sc (.atom 1))] (.sc (.int .i64)) []
         (.leaf (.tu [(true, [(.bool true), (.bool false), (.atom 8), (.atom 8)]), (false, [(.cmp .geq (.atom 8) (.int .i64 0))])])))
         (.ite (.pick (.cmp .eql (.atom 0) (.int .i64 8)) (.cmp .eql (.atom 0) (.int .i64 8)) (.cmp .eql (.atom 0) (.int .i64 9)))
          (.leaf (.tu [(true, [(.bool false), (.bool true), (.ar .add .i64 (.len (.atom 2)) (.int .i64 1)), (.ar .add .i64 (.len (.atom 2)) (.int .i64 1))]), (false, [(.bool true)])]))
          (.ite (.cmp .eql (.atom 0) (.int .i64 10))
           (.leaf (.tu [(true, [(.bool false), (.bool true), (.ar .add .i64 (.len (.atom 2)) (.int .i64 1)), (.ar .add .i64 (.len (.atom 2)) (.int .i64 1))]), (false, [(.cmp .gtr (.len (.atom 2)) (.int .i64 0))])]))
           (.leaf (.tu [(true, [(.bool false), (.bool false), (.int .i64 0), (.int .i64 0)]), (false, [(.bool false)])]))))))))))))
theorem fm_core_shaped_eq : execF Tryd.prog { pub := [], nojoin := false } Tryd.f52 = fm_core_shaped := by kernel_rfl
theorem cb_core_shaped : callB Tryd.prog 52 = true := by kernel_rfl
theorem tri_core_shaped : TriOf Tryd.prog 52 Tryd.f52 fm_core_shaped := triOf Tryd.func52 fm_core_shaped_eq

/-- scrimshaw/core.names -/
abbrev n_core_names : FuncId := 53
def fm_core_names : Fm VE :=
 (.loop 3 [.bool, .int .i64] [(.bool false), (.int .i64 0)]
  (.ite (.cmp .lss (.atom 2) (.len (.atom 0)))
   (.chk [] (.inSl (.atom 0) (.atom 2))
   (.load (.elt (.atom 0) (.atom 2) 1) [.str]
   (.join 8 [.bool]
    (.ite (.atom 4)
     (.leaf (.sc (.bool false)))
     (.next 3 [(.atom 1), (.ar .add .i64 (.atom 2) (.int .i64 1))]))
    (.call (.fn 54) [(.sc (.atom 3))] (.sc (.bool)) []
    (.chk [((.not (.atom 4)), false)] (.sub (.cap (.atom 0)) (.int .i64 0) (.atom 2))
    (.ite (.not (.atom 4))
     (.next 8 [(.bool true)])
     (.call (.fn 63) [(.sc (.sls (.atom 0) (.int .i64 0) (.atom 2) 1)), (.sc (.atom 3))] (.sc (.bool)) []
     (.next 8 [(.atom 5)]))))))))
   (.leaf (.sc (.bool true)))))
theorem fm_core_names_eq : execF Tryd.prog { pub := [], nojoin := false } Tryd.f53 = fm_core_names := by kernel_rfl
theorem cb_core_names : callB Tryd.prog 53 = true := by kernel_rfl
theorem tri_core_names : TriOf Tryd.prog 53 Tryd.f53 fm_core_names := triOf Tryd.func53 fm_core_names_eq

/-- scrimshaw/data.Name -/
abbrev n_data_Name : FuncId := 54
def fm_data_Name : Fm VE :=
 (.loop 3 [.bool, .int .i64] [(.bool false), (.int .i64 0)]
  (.ite (.cmp .lss (.atom 2) (.slen (.atom 0)))
   (.chk [] (.inStr (.atom 0) (.atom 2))
   (.call (.fn 64) [(.sc (.sidx (.atom 0) (.atom 2)))] (.sc (.bool)) []
   (.ite (.not (.atom 3))
    (.leaf (.sc (.bool false)))
    (.next 3 [(.atom 1), (.ar .add .i64 (.atom 2) (.int .i64 1))]))))
   (.join 6 [.bool]
    (.leaf (.sc (.atom 3)))
    (.ite (.pick (.pick (.scmp .neq (.atom 0) (.str [])) (.cmp .leq (.slen (.atom 0)) (.int .i64 64)) (.bool false)) (.scmp .neq (.atom 0) (.str [46])) (.bool false))
     (.call (.fn 65) [(.sc (.atom 0))] (.sc (.bool)) []
     (.next 6 [(.not (.atom 3))]))
     (.next 6 [(.bool false)])))))
theorem fm_data_Name_eq : execF Tryd.prog { pub := [], nojoin := false } Tryd.f54 = fm_data_Name := by kernel_rfl
theorem cb_data_Name : callB Tryd.prog 54 = true := by kernel_rfl
theorem tri_data_Name : TriOf Tryd.prog 54 Tryd.f54 fm_data_Name := triOf Tryd.func54 fm_data_Name_eq

/-- scrimshaw/core.isConst -/
abbrev n_core_isConst : FuncId := 55
def fm_core_isConst : Fm VE :=
 (.call (.fn 66) [(.ag [(.atom 0), (.atom 1), (.atom 2), (.atom 3)])] (.sc (.int .i64)) []
 (.leaf (.sc (.pick (.pick (.cmp .eql (.atom 4) (.int .i64 0)) (.cmp .neq (.atom 0) (.int .i64 3)) (.bool false)) (.pick (.cmp .lss (.atom 0) (.int .i64 5)) (.bool true) (.pick (.cmp .eql (.atom 0) (.int .i64 5)) (.cmp .eql (.len (.atom 3)) (.int .i64 0)) (.bool false))) (.bool false)))))
theorem fm_core_isConst_eq : execF Tryd.prog { pub := [], nojoin := false } Tryd.f55 = fm_core_isConst := by kernel_rfl
theorem cb_core_isConst : callB Tryd.prog 55 = true := by kernel_rfl
theorem tri_core_isConst : TriOf Tryd.prog 55 Tryd.f55 fm_core_isConst := triOf Tryd.func55 fm_core_isConst_eq

/-- slices.ContainsFunc[[]scrimshaw/api.Expr,scrimshaw/api.Expr] -/
abbrev n_slices_ContainsFunc___api_Expr_api_Expr_ : FuncId := 56
def fm_slices_ContainsFunc___api_Expr_api_Expr_ : Fm VE :=
 (.call (.fn 67) [(.sc (.atom 0)), (.sc (.atom 1))] (.sc (.int .i64)) []
 (.leaf (.sc (.cmp .geq (.atom 2) (.int .i64 0)))))
theorem fm_slices_ContainsFunc___api_Expr_api_Expr__eq : execF Tryd.prog { pub := [], nojoin := false } Tryd.f56 = fm_slices_ContainsFunc___api_Expr_api_Expr_ := by kernel_rfl
theorem cb_slices_ContainsFunc___api_Expr_api_Expr_ : callB Tryd.prog 56 = true := by kernel_rfl
theorem tri_slices_ContainsFunc___api_Expr_api_Expr_ : TriOf Tryd.prog 56 Tryd.f56 fm_slices_ContainsFunc___api_Expr_api_Expr_ := triOf Tryd.func56 fm_slices_ContainsFunc___api_Expr_api_Expr__eq

/-- scrimshaw/core.form$1 -/
abbrev n_core_form_1 : FuncId := 57
def fm_core_form_1 : Fm VE :=
 (.leaf (.sc (.cmp .neq (.atom 0) (.int .i64 5))))
theorem fm_core_form_1_eq : execF Tryd.prog { pub := [], nojoin := false } Tryd.f57 = fm_core_form_1 := by kernel_rfl
theorem cb_core_form_1 : callB Tryd.prog 57 = true := by kernel_rfl
theorem tri_core_form_1 : TriOf Tryd.prog 57 Tryd.f57 fm_core_form_1 := triOf Tryd.func57 fm_core_form_1_eq

/-- slices.Contains[[]string,string] -/
abbrev n_slices_Contains___string_string_ : FuncId := 63
def fm_slices_Contains___string_string_ : Fm VE :=
 (.call (.fn 80) [(.sc (.atom 0)), (.sc (.atom 1))] (.sc (.int .i64)) []
 (.leaf (.sc (.cmp .geq (.atom 2) (.int .i64 0)))))
theorem fm_slices_Contains___string_string__eq : execF Tryd.prog { pub := [], nojoin := false } Tryd.f63 = fm_slices_Contains___string_string_ := by kernel_rfl
theorem cb_slices_Contains___string_string_ : callB Tryd.prog 63 = true := by kernel_rfl
theorem tri_slices_Contains___string_string_ : TriOf Tryd.prog 63 Tryd.f63 fm_slices_Contains___string_string_ := triOf Tryd.func63 fm_slices_Contains___string_string__eq

/-- scrimshaw/data.isName -/
abbrev n_data_isName : FuncId := 64
def fm_data_isName : Fm VE :=
 (.join 1 [.bool]
  (.leaf (.sc (.atom 1)))
  (.call (.fn 81) [(.sc (.atom 0))] (.sc (.bool)) []
  (.ite (.pick (.pick (.atom 1) (.bool true) (.pick (.cmp .geq (.atom 0) (.int .u8 97)) (.cmp .leq (.atom 0) (.int .u8 122)) (.bool false))) (.bool true) (.pick (.cmp .geq (.atom 0) (.int .u8 65)) (.cmp .leq (.atom 0) (.int .u8 90)) (.bool false)))
   (.next 1 [(.bool true)])
   (.call (.fn 82) [(.sc (.str [33, 36, 37, 38, 42, 47, 58, 60, 61, 62, 63, 94, 95, 126, 43, 45, 46, 64])), (.sc (.atom 0))] (.sc (.int .i64)) []
   (.next 1 [(.cmp .geq (.atom 2) (.int .i64 0))])))))
theorem fm_data_isName_eq : execF Tryd.prog { pub := [], nojoin := false } Tryd.f64 = fm_data_isName := by kernel_rfl
theorem cb_data_isName : callB Tryd.prog 64 = true := by kernel_rfl
theorem tri_data_isName : TriOf Tryd.prog 64 Tryd.f64 fm_data_isName := triOf Tryd.func64 fm_data_isName_eq

/-- scrimshaw/data.isNumber -/
abbrev n_data_isNumber : FuncId := 65
def fm_data_isNumber : Fm VE :=
 (.join 1 [.str]
  (.loop 4 [.bool, .int .i64] [(.bool false), (.int .i64 0)]
   (.ite (.cmp .lss (.atom 3) (.slen (.atom 1)))
    (.chk [] (.inStr (.atom 1) (.atom 3))
    (.call (.fn 81) [(.sc (.sidx (.atom 1) (.atom 3)))] (.sc (.bool)) []
    (.ite (.not (.atom 4))
     (.leaf (.sc (.bool false)))
     (.next 4 [(.atom 2), (.ar .add .i64 (.atom 3) (.int .i64 1))]))))
    (.leaf (.sc (.scmp .neq (.atom 1) (.str []))))))
  (.chk [((.scmp .neq (.atom 0) (.str [])), true)] (.inStr (.atom 0) (.int .i64 0))
  (.chk [((.scmp .neq (.atom 0) (.str [])), true), ((.cmp .eql (.sidx (.atom 0) (.int .i64 0)) (.int .u8 43)), false)] (.inStr (.atom 0) (.int .i64 0))
  (.ite (.pick (.scmp .neq (.atom 0) (.str [])) (.pick (.cmp .eql (.sidx (.atom 0) (.int .i64 0)) (.int .u8 43)) (.bool true) (.cmp .eql (.sidx (.atom 0) (.int .i64 0)) (.int .u8 45))) (.bool false))
   (.chk [] (.sub (.slen (.atom 0)) (.int .i64 1) (.slen (.atom 0)))
   (.next 1 [(.ssub (.atom 0) (.int .i64 1) (.slen (.atom 0)))]))
   (.next 1 [(.atom 0)])))))
theorem fm_data_isNumber_eq : execF Tryd.prog { pub := [], nojoin := false } Tryd.f65 = fm_data_isNumber := by kernel_rfl
theorem cb_data_isNumber : callB Tryd.prog 65 = true := by kernel_rfl
theorem tri_data_isNumber : TriOf Tryd.prog 65 Tryd.f65 fm_data_isNumber := triOf Tryd.func65 fm_data_isNumber_eq

/-- scrimshaw/data.Check -/
abbrev n_data_Check : FuncId := 66
def fm_data_Check : Fm VE :=
 (.new 117 [(.int .i64 0)]
 (.call (.fn 83) [(.sc (.atom 4)), (.ag [(.atom 0), (.atom 1), (.atom 2), (.atom 3)]), (.sc (.int .i64 0))] (.sc (.int .i64)) []
 (.leaf (.sc (.atom 5)))))
theorem fm_data_Check_eq : execF Tryd.prog { pub := [3], nojoin := false } Tryd.f66 = fm_data_Check := by kernel_rfl
theorem cb_data_Check : callB Tryd.prog 66 = true := by kernel_rfl
theorem tri_data_Check : TriOf Tryd.prog 66 Tryd.f66 fm_data_Check := triOf Tryd.func66 fm_data_Check_eq

/-- slices.IndexFunc[[]scrimshaw/api.Expr,scrimshaw/api.Expr] -/
abbrev n_slices_IndexFunc___api_Expr_api_Expr_ : FuncId := 67
def fm_slices_IndexFunc___api_Expr_api_Expr_ : Fm VE :=
 (.loop 3 [.int .i64, .int .i64] [(.int .i64 0), (.int .i64 0)]
  (.ite (.cmp .lss (.atom 3) (.len (.atom 0)))
   (.chk [] (.inSl (.atom 0) (.atom 3))
   (.load (.elt (.atom 0) (.atom 3) 8) [.int .i64, .str, .sl, .int .i64, .int .i64, .str, .sl, .sl]
   (.call (.atom 1) [(.ag [(.atom 4), (.atom 5), (.atom 6), (.atom 7), (.atom 8), (.atom 9), (.atom 10), (.atom 11)])] (.sc (.bool)) []
   (.ite (.atom 12)
    (.leaf (.sc (.atom 3)))
    (.next 3 [(.atom 2), (.ar .add .i64 (.atom 3) (.int .i64 1))])))))
   (.leaf (.sc (.int .i64 (-1))))))
theorem fm_slices_IndexFunc___api_Expr_api_Expr__eq : execF Tryd.prog { pub := [], nojoin := false } Tryd.f67 = fm_slices_IndexFunc___api_Expr_api_Expr_ := by kernel_rfl
theorem cb_slices_IndexFunc___api_Expr_api_Expr_ : callB Tryd.prog 67 = true := by kernel_rfl
theorem tri_slices_IndexFunc___api_Expr_api_Expr_ : TriOf Tryd.prog 67 Tryd.f67 fm_slices_IndexFunc___api_Expr_api_Expr_ := triOf Tryd.func67 fm_slices_IndexFunc___api_Expr_api_Expr__eq

/-- slices.Index[[]string,string] -/
abbrev n_slices_Index___string_string_ : FuncId := 80
def fm_slices_Index___string_string_ : Fm VE :=
 (.loop 3 [.int .i64, .int .i64] [(.int .i64 0), (.int .i64 0)]
  (.ite (.cmp .lss (.atom 3) (.len (.atom 0)))
   (.chk [] (.inSl (.atom 0) (.atom 3))
   (.load (.elt (.atom 0) (.atom 3) 1) [.str]
   (.ite (.scmp .eql (.atom 1) (.atom 4))
    (.leaf (.sc (.atom 3)))
    (.next 3 [(.atom 2), (.ar .add .i64 (.atom 3) (.int .i64 1))]))))
   (.leaf (.sc (.int .i64 (-1))))))
theorem fm_slices_Index___string_string__eq : execF Tryd.prog { pub := [], nojoin := false } Tryd.f80 = fm_slices_Index___string_string_ := by kernel_rfl
theorem cb_slices_Index___string_string_ : callB Tryd.prog 80 = true := by kernel_rfl
theorem tri_slices_Index___string_string_ : TriOf Tryd.prog 80 Tryd.f80 fm_slices_Index___string_string_ := triOf Tryd.func80 fm_slices_Index___string_string__eq

/-- scrimshaw/data.isDigit -/
abbrev n_data_isDigit : FuncId := 81
def fm_data_isDigit : Fm VE :=
 (.leaf (.sc (.pick (.cmp .geq (.atom 0) (.int .u8 48)) (.cmp .leq (.atom 0) (.int .u8 57)) (.bool false))))
theorem fm_data_isDigit_eq : execF Tryd.prog { pub := [], nojoin := false } Tryd.f81 = fm_data_isDigit := by kernel_rfl
theorem cb_data_isDigit : callB Tryd.prog 81 = true := by kernel_rfl
theorem tri_data_isDigit : TriOf Tryd.prog 81 Tryd.f81 fm_data_isDigit := triOf Tryd.func81 fm_data_isDigit_eq

/-- strings.IndexByte -/
abbrev n_strings_IndexByte : FuncId := 82
theorem cb_strings_IndexByte : callB Tryd.prog 82 = true := by kernel_rfl
/-- (*scrimshaw/data.checker).check -/
abbrev n_data_checker__check : FuncId := 83
def fm_data_checker__check : Fm VE :=
 (.chk [] (.some (.atom 0))
 (.load (.padd (.atom 0) 0) [.int .i64]
 (.ite (.cmp .eql (.atom 6) (.int .i64 4096))
  (.leaf (.sc (.int .i64 22)))
  (.load (.padd (.atom 0) 0) [.int .i64]
  (.store (.padd (.atom 0) 0) [(.ar .add .i64 (.atom 7) (.int .i64 1))]
  (.call (.fn 92) [(.ag [(.atom 1), (.atom 2), (.atom 3), (.atom 4)])] (.sc (.bool)) []
  (.ite (.pick (.atom 8) (.cmp .eql (.atom 5) (.int .i64 32)) (.bool false))
   (.leaf (.sc (.int .i64 21)))
   (.call (.fn 93) [(.ag [(.atom 1), (.atom 2), (.atom 3), (.atom 4)])] (.sc (.bool)) []
   (.ite (.not (.atom 9))
    (.leaf (.sc (.int .i64 20)))
    (.loop 10 [.int .i64, .int .i64] [(.int .i64 0), (.int .i64 0)]
     (.ite (.cmp .lss (.atom 11) (.len (.atom 4)))
      (.chk [] (.inSl (.atom 4) (.atom 11))
      (.load (.elt (.atom 4) (.atom 11) 4) [.int .i64, .int .i64, .str, .sl]
      (.call (.fn 83) [(.sc (.atom 0)), (.ag [(.atom 12), (.atom 13), (.atom 14), (.atom 15)]), (.sc (.ar .add .i64 (.atom 5) (.int .i64 1)))] (.sc (.int .i64)) []
      (.ite (.cmp .neq (.atom 16) (.int .i64 0))
       (.leaf (.sc (.atom 16)))
       (.next 10 [(.atom 10), (.ar .add .i64 (.atom 11) (.int .i64 1))])))))
      (.leaf (.sc (.int .i64 0))))))))))))))
theorem fm_data_checker__check_eq : execF Tryd.prog { pub := [], nojoin := false } Tryd.f83 = fm_data_checker__check := by kernel_rfl
theorem cb_data_checker__check : callB Tryd.prog 83 = true := by kernel_rfl
theorem tri_data_checker__check : TriOf Tryd.prog 83 Tryd.f83 fm_data_checker__check := triOf Tryd.func83 fm_data_checker__check_eq

/-- scrimshaw/data.hasItems -/
abbrev n_data_hasItems : FuncId := 92
def fm_data_hasItems : Fm VE :=
 (.leaf (.sc (.pick (.cmp .geq (.atom 0) (.int .i64 5)) (.cmp .leq (.atom 0) (.int .i64 7)) (.bool false))))
theorem fm_data_hasItems_eq : execF Tryd.prog { pub := [], nojoin := false } Tryd.f92 = fm_data_hasItems := by kernel_rfl
theorem cb_data_hasItems : callB Tryd.prog 92 = true := by kernel_rfl
theorem tri_data_hasItems : TriOf Tryd.prog 92 Tryd.f92 fm_data_hasItems := triOf Tryd.func92 fm_data_hasItems_eq

/-- scrimshaw/data.form -/
abbrev n_data_form : FuncId := 93
def fm_data_form : Fm VE :=
 (.join 2 [.int .i64, .str]
  (.join 4 [.bool]
   (.ite (.atom 6)
    (.leaf (.sc (.bool false)))
    (.ite (.cmp .eql (.atom 0) (.int .i64 4))
     (.call (.fn 54) [(.sc (.atom 2))] (.sc (.bool)) []
     (.leaf (.sc (.atom 7))))
     (.ite (.cmp .eql (.atom 0) (.int .i64 6))
      (.join 9 [.bool]
       (.leaf (.sc (.atom 7)))
       (.chk [((.cmp .gtr (.len (.atom 3)) (.int .i64 1)), true)] (.inSl (.atom 3) (.ar .sub .i64 (.len (.atom 3)) (.int .i64 1)))
       (.chk [((.cmp .gtr (.len (.atom 3)) (.int .i64 1)), true)] (.some (.elt (.atom 3) (.ar .sub .i64 (.len (.atom 3)) (.int .i64 1)) 4))
       (.ite (.cmp .gtr (.len (.atom 3)) (.int .i64 1))
        (.load (.padd (.elt (.atom 3) (.ar .sub .i64 (.len (.atom 3)) (.int .i64 1)) 4) 0) [.int .i64]
        (.chk [((.cmp .neq (.atom 7) (.int .i64 5)), true)] (.inSl (.atom 3) (.ar .sub .i64 (.len (.atom 3)) (.int .i64 1)))
        (.chk [((.cmp .neq (.atom 7) (.int .i64 5)), true)] (.some (.elt (.atom 3) (.ar .sub .i64 (.len (.atom 3)) (.int .i64 1)) 4))
        (.ite (.cmp .neq (.atom 7) (.int .i64 5))
         (.load (.padd (.elt (.atom 3) (.ar .sub .i64 (.len (.atom 3)) (.int .i64 1)) 4) 0) [.int .i64]
         (.next 9 [(.cmp .neq (.atom 8) (.int .i64 6))]))
         (.next 9 [(.bool false)])))))
        (.next 9 [(.bool false)])))))
      (.leaf (.sc (.pick (.cmp .geq (.atom 0) (.int .i64 0)) (.cmp .lss (.atom 0) (.int .i64 8)) (.bool false)))))))
   (.ite (.pick (.cmp .neq (.atom 1) (.atom 4)) (.bool true) (.scmp .neq (.atom 2) (.atom 5)))
    (.next 4 [(.bool true)])
    (.ite (.cmp .gtr (.len (.atom 3)) (.int .i64 0))
     (.call (.fn 92) [(.ag [(.atom 0), (.atom 1), (.atom 2), (.atom 3)])] (.sc (.bool)) []
     (.next 4 [(.not (.atom 6))]))
     (.next 4 [(.bool false)]))))
  (.ite (.cmp .eql (.atom 0) (.int .i64 0))
   (.next 2 [(.ar .and .i64 (.atom 1) (.int .i64 1)), (.str [])])
   (.ite (.cmp .eql (.atom 0) (.int .i64 1))
    (.next 2 [(.pick (.cmp .lss (.int .i64 1152921504606846975) (.pick (.cmp .gtr (.int .i64 (-1152921504606846976)) (.atom 1)) (.int .i64 (-1152921504606846976)) (.atom 1))) (.int .i64 1152921504606846975) (.pick (.cmp .gtr (.int .i64 (-1152921504606846976)) (.atom 1)) (.int .i64 (-1152921504606846976)) (.atom 1))), (.str [])])
    (.ite (.cmp .eql (.atom 0) (.int .i64 2))
     (.next 2 [(.ar .and .i64 (.atom 1) (.int .i64 255)), (.str [])])
     (.ite (.cmp .eql (.atom 0) (.int .i64 3))
      (.chk [] (.sub (.slen (.atom 2)) (.int .i64 0) (.pick (.cmp .lss (.int .i64 4096) (.slen (.atom 2))) (.int .i64 4096) (.slen (.atom 2))))
      (.next 2 [(.int .i64 0), (.ssub (.atom 2) (.int .i64 0) (.pick (.cmp .lss (.int .i64 4096) (.slen (.atom 2))) (.int .i64 4096) (.slen (.atom 2))))]))
      (.next 2 [(.int .i64 0), (.pick (.cmp .eql (.atom 0) (.int .i64 4)) (.atom 2) (.str []))]))))))
theorem fm_data_form_eq : execF Tryd.prog { pub := [], nojoin := false } Tryd.f93 = fm_data_form := by kernel_rfl
theorem cb_data_form : callB Tryd.prog 93 = true := by kernel_rfl
theorem tri_data_form : TriOf Tryd.prog 93 Tryd.f93 fm_data_form := triOf Tryd.func93 fm_data_form_eq

end Go.Proofs.YtibinelkmlcmgaaDoor.Vc
