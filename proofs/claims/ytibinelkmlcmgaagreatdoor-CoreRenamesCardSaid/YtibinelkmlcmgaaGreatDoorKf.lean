/-
  Texts on the way to the statement, one behind the other, without what it does not reach.
-/
import Derived.Test.YtibinelkmlcmgaaGreatDoorKe
import Derived.Test.YtibinelkmlcmgaaGreatDoorRows
import Derived.KernelRfl
set_option linter.unusedSimpArgs false
set_option linter.unusedVariables false
set_option maxRecDepth 100000
/-
  THE FORMULAS of the program's functions, as the executor gives them; each is checked by the kernel. Printed by a program of our own.
-/
namespace Go.Proofs.YtibinelkmlcmgaaGreatDoor.Vc
open Go
/-- what a function's formula tells of it -/
def TriOf (P : Program) (f : FuncId) (fn : Func) (fm : Fm VE) : Prop := ∀ (E : List Value) {args : Array Value} {H : PH} {R : Ending → PH → Prop}, tagsOk ((paramRS P fn).flatMap RS.tags) E = true → args.toList = packAll (paramRS P fn) E →
  den P (fun c H' => R (.panicked c) H') fm E H [] (fun ve E' H' _ => R (.returned (evV E' (fun _ => 0) ve)) H') → Tri P f args H R
theorem triOf {P : Program} {f : FuncId} {fn : Func} {fm : Fm VE} {op : Opt} (hf : P.funcs[f]? = some fn) (he : execF P op fn = fm) : TriOf P f fn fm :=
  fun E _ _ _ hE ha hd => execF_tri (op := op) hf hE ha (by rw [he]; exact hd)

/-- scrimshaw/scrimshawlaw06.CoreRenames -/
abbrev n_scrimshawlaw06_CoreRenames : FuncId := 3
def fm_scrimshawlaw06_CoreRenames : Fm VE :=
 (.join 1 [.bool]
  (.leaf (.sc (.atom 8)))
  (.call (.fn 4) [] (.sc (.bool)) []
  (.ite (.atom 8)
   (.call (.fn 6) [(.ag [(.atom 0), (.atom 1), (.atom 2), (.atom 3), (.atom 4), (.atom 5), (.atom 6), (.atom 7)])] (.ag [.int .i64, .str, .sl, .int .i64, .int .i64, .str, .sl, .sl]) []
   (.call (.fn 7) [(.ag [(.atom 0), (.atom 1), (.atom 2), (.atom 3), (.atom 4), (.atom 5), (.atom 6), (.atom 7)])] (.ag [.int .i64, .str, .sl, .int .i64, .int .i64, .str, .sl, .sl]) []
   (.call (.fn 5) [(.ag [(.atom 9), (.atom 10), (.atom 11), (.atom 12), (.atom 13), (.atom 14), (.atom 15), (.atom 16)]), (.ag [(.atom 17), (.atom 18), (.atom 19), (.atom 20), (.atom 21), (.atom 22), (.atom 23), (.atom 24)])] (.sc (.bool)) []
   (.next 1 [(.atom 25)]))))
   (.next 1 [(.bool false)]))))
theorem fm_scrimshawlaw06_CoreRenames_eq : execF Tryz.prog { pub := [], nojoin := false } Tryz.f3 = fm_scrimshawlaw06_CoreRenames := by kernel_rfl
theorem tri_scrimshawlaw06_CoreRenames : TriOf Tryz.prog 3 Tryz.f3 fm_scrimshawlaw06_CoreRenames := triOf Tryz.func3 fm_scrimshawlaw06_CoreRenames_eq

/-- scrimshaw/scrimshawlaw06.fixed -/
abbrev n_scrimshawlaw06_fixed : FuncId := 4
def fm_scrimshawlaw06_fixed : Fm VE :=
 (.call (.fn 8) [(.sc (.str [120]))] (.ag [.int .i64, .str, .sl, .int .i64, .int .i64, .str, .sl, .sl]) []
 (.call (.fn 8) [(.sc (.str [118, 46, 48]))] (.ag [.int .i64, .str, .sl, .int .i64, .int .i64, .str, .sl, .sl]) []
 (.sem (.buildSlice 26 2 #[(0, (.tmp 7)), (1, (.tmp 8))]) 26 [(7, (.ag [(.atom 0), (.atom 1), (.atom 2), (.atom 3), (.atom 4), (.atom 5), (.atom 6), (.atom 7)])), (8, (.ag [(.atom 8), (.atom 9), (.atom 10), (.atom 11), (.atom 12), (.atom 13), (.atom 14), (.atom 15)]))] (.sc (.sl)) []
 (.join 2 [.ptr]
  (.load (.atom 17) [.int .i64, .str, .sl, .int .i64, .int .i64, .str, .sl, .sl]
  (.call (.fn 6) [(.ag [(.atom 18), (.atom 19), (.atom 20), (.atom 21), (.atom 22), (.atom 23), (.atom 24), (.atom 25)])] (.ag [.int .i64, .str, .sl, .int .i64, .int .i64, .str, .sl, .sl]) []
  (.call (.fn 9) [(.ag [(.atom 26), (.atom 27), (.atom 28), (.atom 29), (.atom 30), (.atom 31), (.atom 32), (.atom 33)])] (.tu [(true, [.int .i64, .int .i64, .str, .sl]), (false, [.int .i64])]) []
  (.sem (.buildSlice 22 1 #[(0, (.const (.string ⟨#[118, 46, 49]⟩)))]) 22 [] (.sc (.sl)) []
  (.sem (.buildSlice 22 1 #[(0, (.const (.string ⟨#[118, 46, 50]⟩)))]) 22 [] (.sc (.sl)) []
  (.call (.fn 8) [(.sc (.str [118, 46, 49]))] (.ag [.int .i64, .str, .sl, .int .i64, .int .i64, .str, .sl, .sl]) []
  (.call (.fn 8) [(.sc (.str [118, 46, 48]))] (.ag [.int .i64, .str, .sl, .int .i64, .int .i64, .str, .sl, .sl]) []
  (.sem (.buildSlice 26 2 #[(0, (.tmp 27)), (1, (.tmp 28))]) 26 [(27, (.ag [(.atom 41), (.atom 42), (.atom 43), (.atom 44), (.atom 45), (.atom 46), (.atom 47), (.atom 48)])), (28, (.ag [(.atom 49), (.atom 50), (.atom 51), (.atom 52), (.atom 53), (.atom 54), (.atom 55), (.atom 56)]))] (.sc (.sl)) []
  (.call (.fn 8) [(.sc (.str [118, 46, 50]))] (.ag [.int .i64, .str, .sl, .int .i64, .int .i64, .str, .sl, .sl]) []
  (.sem (.buildSlice 26 2 #[(0, (.tmp 30)), (1, (.tmp 31))]) 26 [(30, (.ag [(.int .i64 7), (.str [43]), (.nil 1), (.int .i64 0), (.int .i64 0), (.str []), (.nil 1), (.atom 57)])), (31, (.ag [(.atom 58), (.atom 59), (.atom 60), (.atom 61), (.atom 62), (.atom 63), (.atom 64), (.atom 65)]))] (.sc (.sl)) []
  (.sem (.buildSlice 26 1 #[(0, (.tmp 33))]) 26 [(33, (.ag [(.int .i64 8), (.str []), (.atom 40), (.int .i64 0), (.int .i64 0), (.str []), (.nil 1), (.atom 66)]))] (.sc (.sl)) []
  (.load (.atom 17) [.int .i64, .str, .sl, .int .i64, .int .i64, .str, .sl, .sl]
  (.call (.fn 10) [(.ag [(.atom 68), (.atom 69), (.atom 70), (.atom 71), (.atom 72), (.atom 73), (.atom 74), (.atom 75)])] (.sc (.sl)) []
  (.join 6 [.bool]
   (.leaf (.sc (.atom 77)))
   (.ite (.cmp .eql (.atom 38) (.int .i64 0))
    (.call (.fn 12) [(.ag [(.int .i64 5), (.str []), (.atom 39), (.int .i64 0), (.int .i64 0), (.str []), (.nil 1), (.atom 67)])] (.ag [.int .i64, .int .i64, .str, .sl]) []
    (.call (.fn 11) [(.ag [(.atom 34), (.atom 35), (.atom 36), (.atom 37)]), (.ag [(.atom 77), (.atom 78), (.atom 79), (.atom 80)])] (.sc (.bool)) []
    (.chk [((.pick (.atom 81) (.cmp .eql (.len (.atom 76)) (.int .i64 1)) (.bool false)), true)] (.inSl (.atom 76) (.int .i64 0))
    (.ite (.pick (.atom 81) (.cmp .eql (.len (.atom 76)) (.int .i64 1)) (.bool false))
     (.load (.elt (.atom 76) (.int .i64 0) 1) [.str]
     (.ite (.scmp .eql (.atom 82) (.str [118, 46, 48]))
      (.call (.fn 13) [(.ag [(.int .i64 3), (.str []), (.nil 1), (.int .i64 0), (.int .i64 0), (.str []), (.nil 1), (.nil 1)])] (.sc (.int .i64)) []
      (.ite (.cmp .eql (.atom 83) (.int .i64 60))
       (.call (.fn 14) [(.sc (.str [99, 97, 114]))] (.sc (.int .i64)) []
       (.next 6 [(.cmp .eql (.atom 84) (.int .i64 1))]))
       (.next 6 [(.bool false)])))
      (.next 6 [(.bool false)])))
     (.next 6 [(.bool false)])))))
    (.next 6 [(.bool false)]))))))))))))))))
  (.both
   (.sem (.buildSlice 22 1 #[(0, (.const (.string ⟨#[120]⟩)))]) 22 [] (.sc (.sl)) []
   (.both
    (.sem (.buildSlice 22 1 #[(0, (.const (.string ⟨#[120]⟩)))]) 22 [] (.sc (.sl)) []
    (.both
     (.call (.fn 8) [(.sc (.str [120]))] (.ag [.int .i64, .str, .sl, .int .i64, .int .i64, .str, .sl, .sl]) []
     (.both
      (.sem (.buildSlice 26 2 #[(0, (.tmp 13)), (1, (.tmp 14))]) 26 [(13, (.ag [(.int .i64 7), (.str [43]), (.nil 1), (.int .i64 0), (.int .i64 0), (.str []), (.nil 1), (.atom 16)])), (14, (.ag [(.atom 19), (.atom 20), (.atom 21), (.atom 22), (.atom 23), (.atom 24), (.atom 25), (.atom 26)]))] (.sc (.sl)) []
      (.both
       (.sem (.buildSlice 26 1 #[(0, (.tmp 16))]) 26 [(16, (.ag [(.int .i64 8), (.str []), (.atom 18), (.int .i64 0), (.int .i64 0), (.str []), (.nil 1), (.atom 27)]))] (.sc (.sl)) []
       (.new 28 [(.int .i64 0), (.str []), (.nil 1), (.int .i64 0), (.int .i64 0), (.str []), (.nil 1), (.nil 1)]
       (.store (.atom 29) [(.int .i64 5), (.str []), (.atom 17), (.int .i64 0), (.int .i64 0), (.str []), (.nil 1), (.atom 28)]
       (.next 2 [(.atom 29)]))))
       (.new 28 [(.int .i64 0), (.str []), (.nil 1), (.int .i64 0), (.int .i64 0), (.str []), (.nil 1), (.nil 1)]
       (.sem (.buildSlice 26 1 #[(0, (.tmp 16))]) 26 [(16, (.ag [(.int .i64 8), (.str []), (.atom 18), (.int .i64 0), (.int .i64 0), (.str []), (.nil 1), (.atom 27)]))] (.sc (.sl)) []
       (.store (.atom 28) [(.int .i64 5), (.str []), (.atom 17), (.int .i64 0), (.int .i64 0), (.str []), (.nil 1), (.atom 29)]
       (.next 2 [(.atom 28)]))))))
      (.new 28 [(.int .i64 0), (.str []), (.nil 1), (.int .i64 0), (.int .i64 0), (.str []), (.nil 1), (.nil 1)]
      (.sem (.buildSlice 26 2 #[(0, (.tmp 13)), (1, (.tmp 14))]) 26 [(13, (.ag [(.int .i64 7), (.str [43]), (.nil 1), (.int .i64 0), (.int .i64 0), (.str []), (.nil 1), (.atom 16)])), (14, (.ag [(.atom 19), (.atom 20), (.atom 21), (.atom 22), (.atom 23), (.atom 24), (.atom 25), (.atom 26)]))] (.sc (.sl)) []
      (.sem (.buildSlice 26 1 #[(0, (.tmp 16))]) 26 [(16, (.ag [(.int .i64 8), (.str []), (.atom 18), (.int .i64 0), (.int .i64 0), (.str []), (.nil 1), (.atom 28)]))] (.sc (.sl)) []
      (.store (.atom 27) [(.int .i64 5), (.str []), (.atom 17), (.int .i64 0), (.int .i64 0), (.str []), (.nil 1), (.atom 29)]
      (.next 2 [(.atom 27)])))))))
     (.new 28 [(.int .i64 0), (.str []), (.nil 1), (.int .i64 0), (.int .i64 0), (.str []), (.nil 1), (.nil 1)]
     (.call (.fn 8) [(.sc (.str [120]))] (.ag [.int .i64, .str, .sl, .int .i64, .int .i64, .str, .sl, .sl]) []
     (.sem (.buildSlice 26 2 #[(0, (.tmp 13)), (1, (.tmp 14))]) 26 [(13, (.ag [(.int .i64 7), (.str [43]), (.nil 1), (.int .i64 0), (.int .i64 0), (.str []), (.nil 1), (.atom 16)])), (14, (.ag [(.atom 20), (.atom 21), (.atom 22), (.atom 23), (.atom 24), (.atom 25), (.atom 26), (.atom 27)]))] (.sc (.sl)) []
     (.sem (.buildSlice 26 1 #[(0, (.tmp 16))]) 26 [(16, (.ag [(.int .i64 8), (.str []), (.atom 18), (.int .i64 0), (.int .i64 0), (.str []), (.nil 1), (.atom 28)]))] (.sc (.sl)) []
     (.store (.atom 19) [(.int .i64 5), (.str []), (.atom 17), (.int .i64 0), (.int .i64 0), (.str []), (.nil 1), (.atom 29)]
     (.next 2 [(.atom 19)]))))))))
    (.both
     (.call (.fn 8) [(.sc (.str [120]))] (.ag [.int .i64, .str, .sl, .int .i64, .int .i64, .str, .sl, .sl]) []
     (.both
      (.sem (.buildSlice 22 1 #[(0, (.const (.string ⟨#[120]⟩)))]) 22 [] (.sc (.sl)) []
      (.both
       (.sem (.buildSlice 26 2 #[(0, (.tmp 13)), (1, (.tmp 14))]) 26 [(13, (.ag [(.int .i64 7), (.str [43]), (.nil 1), (.int .i64 0), (.int .i64 0), (.str []), (.nil 1), (.atom 16)])), (14, (.ag [(.atom 18), (.atom 19), (.atom 20), (.atom 21), (.atom 22), (.atom 23), (.atom 24), (.atom 25)]))] (.sc (.sl)) []
       (.both
        (.sem (.buildSlice 26 1 #[(0, (.tmp 16))]) 26 [(16, (.ag [(.int .i64 8), (.str []), (.atom 26), (.int .i64 0), (.int .i64 0), (.str []), (.nil 1), (.atom 27)]))] (.sc (.sl)) []
        (.new 28 [(.int .i64 0), (.str []), (.nil 1), (.int .i64 0), (.int .i64 0), (.str []), (.nil 1), (.nil 1)]
        (.store (.atom 29) [(.int .i64 5), (.str []), (.atom 17), (.int .i64 0), (.int .i64 0), (.str []), (.nil 1), (.atom 28)]
        (.next 2 [(.atom 29)]))))
        (.new 28 [(.int .i64 0), (.str []), (.nil 1), (.int .i64 0), (.int .i64 0), (.str []), (.nil 1), (.nil 1)]
        (.sem (.buildSlice 26 1 #[(0, (.tmp 16))]) 26 [(16, (.ag [(.int .i64 8), (.str []), (.atom 26), (.int .i64 0), (.int .i64 0), (.str []), (.nil 1), (.atom 27)]))] (.sc (.sl)) []
        (.store (.atom 28) [(.int .i64 5), (.str []), (.atom 17), (.int .i64 0), (.int .i64 0), (.str []), (.nil 1), (.atom 29)]
        (.next 2 [(.atom 28)]))))))
       (.new 28 [(.int .i64 0), (.str []), (.nil 1), (.int .i64 0), (.int .i64 0), (.str []), (.nil 1), (.nil 1)]
       (.sem (.buildSlice 26 2 #[(0, (.tmp 13)), (1, (.tmp 14))]) 26 [(13, (.ag [(.int .i64 7), (.str [43]), (.nil 1), (.int .i64 0), (.int .i64 0), (.str []), (.nil 1), (.atom 16)])), (14, (.ag [(.atom 18), (.atom 19), (.atom 20), (.atom 21), (.atom 22), (.atom 23), (.atom 24), (.atom 25)]))] (.sc (.sl)) []
       (.sem (.buildSlice 26 1 #[(0, (.tmp 16))]) 26 [(16, (.ag [(.int .i64 8), (.str []), (.atom 26), (.int .i64 0), (.int .i64 0), (.str []), (.nil 1), (.atom 28)]))] (.sc (.sl)) []
       (.store (.atom 27) [(.int .i64 5), (.str []), (.atom 17), (.int .i64 0), (.int .i64 0), (.str []), (.nil 1), (.atom 29)]
       (.next 2 [(.atom 27)])))))))
      (.both
       (.sem (.buildSlice 26 2 #[(0, (.tmp 13)), (1, (.tmp 14))]) 26 [(13, (.ag [(.int .i64 7), (.str [43]), (.nil 1), (.int .i64 0), (.int .i64 0), (.str []), (.nil 1), (.atom 16)])), (14, (.ag [(.atom 18), (.atom 19), (.atom 20), (.atom 21), (.atom 22), (.atom 23), (.atom 24), (.atom 25)]))] (.sc (.sl)) []
       (.both
        (.sem (.buildSlice 22 1 #[(0, (.const (.string ⟨#[120]⟩)))]) 22 [] (.sc (.sl)) []
        (.both
         (.sem (.buildSlice 26 1 #[(0, (.tmp 16))]) 26 [(16, (.ag [(.int .i64 8), (.str []), (.atom 27), (.int .i64 0), (.int .i64 0), (.str []), (.nil 1), (.atom 26)]))] (.sc (.sl)) []
         (.new 28 [(.int .i64 0), (.str []), (.nil 1), (.int .i64 0), (.int .i64 0), (.str []), (.nil 1), (.nil 1)]
         (.store (.atom 29) [(.int .i64 5), (.str []), (.atom 17), (.int .i64 0), (.int .i64 0), (.str []), (.nil 1), (.atom 28)]
         (.next 2 [(.atom 29)]))))
         (.new 28 [(.int .i64 0), (.str []), (.nil 1), (.int .i64 0), (.int .i64 0), (.str []), (.nil 1), (.nil 1)]
         (.sem (.buildSlice 26 1 #[(0, (.tmp 16))]) 26 [(16, (.ag [(.int .i64 8), (.str []), (.atom 27), (.int .i64 0), (.int .i64 0), (.str []), (.nil 1), (.atom 26)]))] (.sc (.sl)) []
         (.store (.atom 28) [(.int .i64 5), (.str []), (.atom 17), (.int .i64 0), (.int .i64 0), (.str []), (.nil 1), (.atom 29)]
         (.next 2 [(.atom 28)]))))))
        (.new 28 [(.int .i64 0), (.str []), (.nil 1), (.int .i64 0), (.int .i64 0), (.str []), (.nil 1), (.nil 1)]
        (.sem (.buildSlice 22 1 #[(0, (.const (.string ⟨#[120]⟩)))]) 22 [] (.sc (.sl)) []
        (.sem (.buildSlice 26 1 #[(0, (.tmp 16))]) 26 [(16, (.ag [(.int .i64 8), (.str []), (.atom 28), (.int .i64 0), (.int .i64 0), (.str []), (.nil 1), (.atom 26)]))] (.sc (.sl)) []
        (.store (.atom 27) [(.int .i64 5), (.str []), (.atom 17), (.int .i64 0), (.int .i64 0), (.str []), (.nil 1), (.atom 29)]
        (.next 2 [(.atom 27)])))))))
       (.new 28 [(.int .i64 0), (.str []), (.nil 1), (.int .i64 0), (.int .i64 0), (.str []), (.nil 1), (.nil 1)]
       (.both
        (.sem (.buildSlice 22 1 #[(0, (.const (.string ⟨#[120]⟩)))]) 22 [] (.sc (.sl)) []
        (.sem (.buildSlice 26 2 #[(0, (.tmp 13)), (1, (.tmp 14))]) 26 [(13, (.ag [(.int .i64 7), (.str [43]), (.nil 1), (.int .i64 0), (.int .i64 0), (.str []), (.nil 1), (.atom 16)])), (14, (.ag [(.atom 18), (.atom 19), (.atom 20), (.atom 21), (.atom 22), (.atom 23), (.atom 24), (.atom 25)]))] (.sc (.sl)) []
        (.sem (.buildSlice 26 1 #[(0, (.tmp 16))]) 26 [(16, (.ag [(.int .i64 8), (.str []), (.atom 27), (.int .i64 0), (.int .i64 0), (.str []), (.nil 1), (.atom 28)]))] (.sc (.sl)) []
        (.store (.atom 26) [(.int .i64 5), (.str []), (.atom 17), (.int .i64 0), (.int .i64 0), (.str []), (.nil 1), (.atom 29)]
        (.next 2 [(.atom 26)])))))
        (.sem (.buildSlice 26 2 #[(0, (.tmp 13)), (1, (.tmp 14))]) 26 [(13, (.ag [(.int .i64 7), (.str [43]), (.nil 1), (.int .i64 0), (.int .i64 0), (.str []), (.nil 1), (.atom 16)])), (14, (.ag [(.atom 18), (.atom 19), (.atom 20), (.atom 21), (.atom 22), (.atom 23), (.atom 24), (.atom 25)]))] (.sc (.sl)) []
        (.sem (.buildSlice 22 1 #[(0, (.const (.string ⟨#[120]⟩)))]) 22 [] (.sc (.sl)) []
        (.sem (.buildSlice 26 1 #[(0, (.tmp 16))]) 26 [(16, (.ag [(.int .i64 8), (.str []), (.atom 28), (.int .i64 0), (.int .i64 0), (.str []), (.nil 1), (.atom 27)]))] (.sc (.sl)) []
        (.store (.atom 26) [(.int .i64 5), (.str []), (.atom 17), (.int .i64 0), (.int .i64 0), (.str []), (.nil 1), (.atom 29)]
        (.next 2 [(.atom 26)]))))))))))
     (.new 28 [(.int .i64 0), (.str []), (.nil 1), (.int .i64 0), (.int .i64 0), (.str []), (.nil 1), (.nil 1)]
     (.both
      (.sem (.buildSlice 22 1 #[(0, (.const (.string ⟨#[120]⟩)))]) 22 [] (.sc (.sl)) []
      (.call (.fn 8) [(.sc (.str [120]))] (.ag [.int .i64, .str, .sl, .int .i64, .int .i64, .str, .sl, .sl]) []
      (.sem (.buildSlice 26 2 #[(0, (.tmp 13)), (1, (.tmp 14))]) 26 [(13, (.ag [(.int .i64 7), (.str [43]), (.nil 1), (.int .i64 0), (.int .i64 0), (.str []), (.nil 1), (.atom 16)])), (14, (.ag [(.atom 20), (.atom 21), (.atom 22), (.atom 23), (.atom 24), (.atom 25), (.atom 26), (.atom 27)]))] (.sc (.sl)) []
      (.sem (.buildSlice 26 1 #[(0, (.tmp 16))]) 26 [(16, (.ag [(.int .i64 8), (.str []), (.atom 19), (.int .i64 0), (.int .i64 0), (.str []), (.nil 1), (.atom 28)]))] (.sc (.sl)) []
      (.store (.atom 18) [(.int .i64 5), (.str []), (.atom 17), (.int .i64 0), (.int .i64 0), (.str []), (.nil 1), (.atom 29)]
      (.next 2 [(.atom 18)]))))))
      (.call (.fn 8) [(.sc (.str [120]))] (.ag [.int .i64, .str, .sl, .int .i64, .int .i64, .str, .sl, .sl]) []
      (.both
       (.sem (.buildSlice 22 1 #[(0, (.const (.string ⟨#[120]⟩)))]) 22 [] (.sc (.sl)) []
       (.sem (.buildSlice 26 2 #[(0, (.tmp 13)), (1, (.tmp 14))]) 26 [(13, (.ag [(.int .i64 7), (.str [43]), (.nil 1), (.int .i64 0), (.int .i64 0), (.str []), (.nil 1), (.atom 16)])), (14, (.ag [(.atom 19), (.atom 20), (.atom 21), (.atom 22), (.atom 23), (.atom 24), (.atom 25), (.atom 26)]))] (.sc (.sl)) []
       (.sem (.buildSlice 26 1 #[(0, (.tmp 16))]) 26 [(16, (.ag [(.int .i64 8), (.str []), (.atom 27), (.int .i64 0), (.int .i64 0), (.str []), (.nil 1), (.atom 28)]))] (.sc (.sl)) []
       (.store (.atom 18) [(.int .i64 5), (.str []), (.atom 17), (.int .i64 0), (.int .i64 0), (.str []), (.nil 1), (.atom 29)]
       (.next 2 [(.atom 18)])))))
       (.sem (.buildSlice 26 2 #[(0, (.tmp 13)), (1, (.tmp 14))]) 26 [(13, (.ag [(.int .i64 7), (.str [43]), (.nil 1), (.int .i64 0), (.int .i64 0), (.str []), (.nil 1), (.atom 16)])), (14, (.ag [(.atom 19), (.atom 20), (.atom 21), (.atom 22), (.atom 23), (.atom 24), (.atom 25), (.atom 26)]))] (.sc (.sl)) []
       (.sem (.buildSlice 22 1 #[(0, (.const (.string ⟨#[120]⟩)))]) 22 [] (.sc (.sl)) []
       (.sem (.buildSlice 26 1 #[(0, (.tmp 16))]) 26 [(16, (.ag [(.int .i64 8), (.str []), (.atom 28), (.int .i64 0), (.int .i64 0), (.str []), (.nil 1), (.atom 27)]))] (.sc (.sl)) []
       (.store (.atom 18) [(.int .i64 5), (.str []), (.atom 17), (.int .i64 0), (.int .i64 0), (.str []), (.nil 1), (.atom 29)]
       (.next 2 [(.atom 18)]))))))))))))
   (.both
    (.sem (.buildSlice 22 1 #[(0, (.const (.string ⟨#[120]⟩)))]) 22 [] (.sc (.sl)) []
    (.both
     (.sem (.buildSlice 22 1 #[(0, (.const (.string ⟨#[120]⟩)))]) 22 [] (.sc (.sl)) []
     (.both
      (.call (.fn 8) [(.sc (.str [120]))] (.ag [.int .i64, .str, .sl, .int .i64, .int .i64, .str, .sl, .sl]) []
      (.both
       (.sem (.buildSlice 26 2 #[(0, (.tmp 13)), (1, (.tmp 14))]) 26 [(13, (.ag [(.int .i64 7), (.str [43]), (.nil 1), (.int .i64 0), (.int .i64 0), (.str []), (.nil 1), (.atom 16)])), (14, (.ag [(.atom 19), (.atom 20), (.atom 21), (.atom 22), (.atom 23), (.atom 24), (.atom 25), (.atom 26)]))] (.sc (.sl)) []
       (.both
        (.sem (.buildSlice 26 1 #[(0, (.tmp 16))]) 26 [(16, (.ag [(.int .i64 8), (.str []), (.atom 17), (.int .i64 0), (.int .i64 0), (.str []), (.nil 1), (.atom 27)]))] (.sc (.sl)) []
        (.new 28 [(.int .i64 0), (.str []), (.nil 1), (.int .i64 0), (.int .i64 0), (.str []), (.nil 1), (.nil 1)]
        (.store (.atom 29) [(.int .i64 5), (.str []), (.atom 18), (.int .i64 0), (.int .i64 0), (.str []), (.nil 1), (.atom 28)]
        (.next 2 [(.atom 29)]))))
        (.new 28 [(.int .i64 0), (.str []), (.nil 1), (.int .i64 0), (.int .i64 0), (.str []), (.nil 1), (.nil 1)]
        (.sem (.buildSlice 26 1 #[(0, (.tmp 16))]) 26 [(16, (.ag [(.int .i64 8), (.str []), (.atom 17), (.int .i64 0), (.int .i64 0), (.str []), (.nil 1), (.atom 27)]))] (.sc (.sl)) []
        (.store (.atom 28) [(.int .i64 5), (.str []), (.atom 18), (.int .i64 0), (.int .i64 0), (.str []), (.nil 1), (.atom 29)]
        (.next 2 [(.atom 28)]))))))
       (.new 28 [(.int .i64 0), (.str []), (.nil 1), (.int .i64 0), (.int .i64 0), (.str []), (.nil 1), (.nil 1)]
       (.sem (.buildSlice 26 2 #[(0, (.tmp 13)), (1, (.tmp 14))]) 26 [(13, (.ag [(.int .i64 7), (.str [43]), (.nil 1), (.int .i64 0), (.int .i64 0), (.str []), (.nil 1), (.atom 16)])), (14, (.ag [(.atom 19), (.atom 20), (.atom 21), (.atom 22), (.atom 23), (.atom 24), (.atom 25), (.atom 26)]))] (.sc (.sl)) []
       (.sem (.buildSlice 26 1 #[(0, (.tmp 16))]) 26 [(16, (.ag [(.int .i64 8), (.str []), (.atom 17), (.int .i64 0), (.int .i64 0), (.str []), (.nil 1), (.atom 28)]))] (.sc (.sl)) []
       (.store (.atom 27) [(.int .i64 5), (.str []), (.atom 18), (.int .i64 0), (.int .i64 0), (.str []), (.nil 1), (.atom 29)]
       (.next 2 [(.atom 27)])))))))
      (.new 28 [(.int .i64 0), (.str []), (.nil 1), (.int .i64 0), (.int .i64 0), (.str []), (.nil 1), (.nil 1)]
      (.call (.fn 8) [(.sc (.str [120]))] (.ag [.int .i64, .str, .sl, .int .i64, .int .i64, .str, .sl, .sl]) []
      (.sem (.buildSlice 26 2 #[(0, (.tmp 13)), (1, (.tmp 14))]) 26 [(13, (.ag [(.int .i64 7), (.str [43]), (.nil 1), (.int .i64 0), (.int .i64 0), (.str []), (.nil 1), (.atom 16)])), (14, (.ag [(.atom 20), (.atom 21), (.atom 22), (.atom 23), (.atom 24), (.atom 25), (.atom 26), (.atom 27)]))] (.sc (.sl)) []
      (.sem (.buildSlice 26 1 #[(0, (.tmp 16))]) 26 [(16, (.ag [(.int .i64 8), (.str []), (.atom 17), (.int .i64 0), (.int .i64 0), (.str []), (.nil 1), (.atom 28)]))] (.sc (.sl)) []
      (.store (.atom 19) [(.int .i64 5), (.str []), (.atom 18), (.int .i64 0), (.int .i64 0), (.str []), (.nil 1), (.atom 29)]
      (.next 2 [(.atom 19)]))))))))
     (.both
      (.call (.fn 8) [(.sc (.str [120]))] (.ag [.int .i64, .str, .sl, .int .i64, .int .i64, .str, .sl, .sl]) []
      (.both
       (.sem (.buildSlice 22 1 #[(0, (.const (.string ⟨#[120]⟩)))]) 22 [] (.sc (.sl)) []
       (.both
        (.sem (.buildSlice 26 2 #[(0, (.tmp 13)), (1, (.tmp 14))]) 26 [(13, (.ag [(.int .i64 7), (.str [43]), (.nil 1), (.int .i64 0), (.int .i64 0), (.str []), (.nil 1), (.atom 16)])), (14, (.ag [(.atom 18), (.atom 19), (.atom 20), (.atom 21), (.atom 22), (.atom 23), (.atom 24), (.atom 25)]))] (.sc (.sl)) []
        (.both
         (.sem (.buildSlice 26 1 #[(0, (.tmp 16))]) 26 [(16, (.ag [(.int .i64 8), (.str []), (.atom 17), (.int .i64 0), (.int .i64 0), (.str []), (.nil 1), (.atom 27)]))] (.sc (.sl)) []
         (.new 28 [(.int .i64 0), (.str []), (.nil 1), (.int .i64 0), (.int .i64 0), (.str []), (.nil 1), (.nil 1)]
         (.store (.atom 29) [(.int .i64 5), (.str []), (.atom 26), (.int .i64 0), (.int .i64 0), (.str []), (.nil 1), (.atom 28)]
         (.next 2 [(.atom 29)]))))
         (.new 28 [(.int .i64 0), (.str []), (.nil 1), (.int .i64 0), (.int .i64 0), (.str []), (.nil 1), (.nil 1)]
         (.sem (.buildSlice 26 1 #[(0, (.tmp 16))]) 26 [(16, (.ag [(.int .i64 8), (.str []), (.atom 17), (.int .i64 0), (.int .i64 0), (.str []), (.nil 1), (.atom 27)]))] (.sc (.sl)) []
         (.store (.atom 28) [(.int .i64 5), (.str []), (.atom 26), (.int .i64 0), (.int .i64 0), (.str []), (.nil 1), (.atom 29)]
         (.next 2 [(.atom 28)]))))))
        (.new 28 [(.int .i64 0), (.str []), (.nil 1), (.int .i64 0), (.int .i64 0), (.str []), (.nil 1), (.nil 1)]
        (.sem (.buildSlice 26 2 #[(0, (.tmp 13)), (1, (.tmp 14))]) 26 [(13, (.ag [(.int .i64 7), (.str [43]), (.nil 1), (.int .i64 0), (.int .i64 0), (.str []), (.nil 1), (.atom 16)])), (14, (.ag [(.atom 18), (.atom 19), (.atom 20), (.atom 21), (.atom 22), (.atom 23), (.atom 24), (.atom 25)]))] (.sc (.sl)) []
        (.sem (.buildSlice 26 1 #[(0, (.tmp 16))]) 26 [(16, (.ag [(.int .i64 8), (.str []), (.atom 17), (.int .i64 0), (.int .i64 0), (.str []), (.nil 1), (.atom 28)]))] (.sc (.sl)) []
        (.store (.atom 27) [(.int .i64 5), (.str []), (.atom 26), (.int .i64 0), (.int .i64 0), (.str []), (.nil 1), (.atom 29)]
        (.next 2 [(.atom 27)])))))))
       (.both
        (.sem (.buildSlice 26 2 #[(0, (.tmp 13)), (1, (.tmp 14))]) 26 [(13, (.ag [(.int .i64 7), (.str [43]), (.nil 1), (.int .i64 0), (.int .i64 0), (.str []), (.nil 1), (.atom 16)])), (14, (.ag [(.atom 18), (.atom 19), (.atom 20), (.atom 21), (.atom 22), (.atom 23), (.atom 24), (.atom 25)]))] (.sc (.sl)) []
        (.both
         (.sem (.buildSlice 22 1 #[(0, (.const (.string ⟨#[120]⟩)))]) 22 [] (.sc (.sl)) []
         (.both
          (.sem (.buildSlice 26 1 #[(0, (.tmp 16))]) 26 [(16, (.ag [(.int .i64 8), (.str []), (.atom 17), (.int .i64 0), (.int .i64 0), (.str []), (.nil 1), (.atom 26)]))] (.sc (.sl)) []
          (.new 28 [(.int .i64 0), (.str []), (.nil 1), (.int .i64 0), (.int .i64 0), (.str []), (.nil 1), (.nil 1)]
          (.store (.atom 29) [(.int .i64 5), (.str []), (.atom 27), (.int .i64 0), (.int .i64 0), (.str []), (.nil 1), (.atom 28)]
          (.next 2 [(.atom 29)]))))
          (.new 28 [(.int .i64 0), (.str []), (.nil 1), (.int .i64 0), (.int .i64 0), (.str []), (.nil 1), (.nil 1)]
          (.sem (.buildSlice 26 1 #[(0, (.tmp 16))]) 26 [(16, (.ag [(.int .i64 8), (.str []), (.atom 17), (.int .i64 0), (.int .i64 0), (.str []), (.nil 1), (.atom 26)]))] (.sc (.sl)) []
          (.store (.atom 28) [(.int .i64 5), (.str []), (.atom 27), (.int .i64 0), (.int .i64 0), (.str []), (.nil 1), (.atom 29)]
          (.next 2 [(.atom 28)]))))))
         (.both
          (.sem (.buildSlice 26 1 #[(0, (.tmp 16))]) 26 [(16, (.ag [(.int .i64 8), (.str []), (.atom 17), (.int .i64 0), (.int .i64 0), (.str []), (.nil 1), (.atom 26)]))] (.sc (.sl)) []
          (.both
           (.sem (.buildSlice 22 1 #[(0, (.const (.string ⟨#[120]⟩)))]) 22 [] (.sc (.sl)) []
           (.new 28 [(.int .i64 0), (.str []), (.nil 1), (.int .i64 0), (.int .i64 0), (.str []), (.nil 1), (.nil 1)]
           (.store (.atom 29) [(.int .i64 5), (.str []), (.atom 28), (.int .i64 0), (.int .i64 0), (.str []), (.nil 1), (.atom 27)]
           (.next 2 [(.atom 29)]))))
           (.new 28 [(.int .i64 0), (.str []), (.nil 1), (.int .i64 0), (.int .i64 0), (.str []), (.nil 1), (.nil 1)]
           (.sem (.buildSlice 22 1 #[(0, (.const (.string ⟨#[120]⟩)))]) 22 [] (.sc (.sl)) []
           (.store (.atom 28) [(.int .i64 5), (.str []), (.atom 29), (.int .i64 0), (.int .i64 0), (.str []), (.nil 1), (.atom 27)]
           (.next 2 [(.atom 28)]))))))
          (.new 28 [(.int .i64 0), (.str []), (.nil 1), (.int .i64 0), (.int .i64 0), (.str []), (.nil 1), (.nil 1)]
          (.both
           (.sem (.buildSlice 22 1 #[(0, (.const (.string ⟨#[120]⟩)))]) 22 [] (.sc (.sl)) []
           (.sem (.buildSlice 26 1 #[(0, (.tmp 16))]) 26 [(16, (.ag [(.int .i64 8), (.str []), (.atom 17), (.int .i64 0), (.int .i64 0), (.str []), (.nil 1), (.atom 26)]))] (.sc (.sl)) []
           (.store (.atom 27) [(.int .i64 5), (.str []), (.atom 28), (.int .i64 0), (.int .i64 0), (.str []), (.nil 1), (.atom 29)]
           (.next 2 [(.atom 27)]))))
           (.sem (.buildSlice 26 1 #[(0, (.tmp 16))]) 26 [(16, (.ag [(.int .i64 8), (.str []), (.atom 17), (.int .i64 0), (.int .i64 0), (.str []), (.nil 1), (.atom 26)]))] (.sc (.sl)) []
           (.sem (.buildSlice 22 1 #[(0, (.const (.string ⟨#[120]⟩)))]) 22 [] (.sc (.sl)) []
           (.store (.atom 27) [(.int .i64 5), (.str []), (.atom 29), (.int .i64 0), (.int .i64 0), (.str []), (.nil 1), (.atom 28)]
           (.next 2 [(.atom 27)])))))))))
        (.new 28 [(.int .i64 0), (.str []), (.nil 1), (.int .i64 0), (.int .i64 0), (.str []), (.nil 1), (.nil 1)]
        (.both
         (.sem (.buildSlice 22 1 #[(0, (.const (.string ⟨#[120]⟩)))]) 22 [] (.sc (.sl)) []
         (.sem (.buildSlice 26 2 #[(0, (.tmp 13)), (1, (.tmp 14))]) 26 [(13, (.ag [(.int .i64 7), (.str [43]), (.nil 1), (.int .i64 0), (.int .i64 0), (.str []), (.nil 1), (.atom 16)])), (14, (.ag [(.atom 18), (.atom 19), (.atom 20), (.atom 21), (.atom 22), (.atom 23), (.atom 24), (.atom 25)]))] (.sc (.sl)) []
         (.sem (.buildSlice 26 1 #[(0, (.tmp 16))]) 26 [(16, (.ag [(.int .i64 8), (.str []), (.atom 17), (.int .i64 0), (.int .i64 0), (.str []), (.nil 1), (.atom 28)]))] (.sc (.sl)) []
         (.store (.atom 26) [(.int .i64 5), (.str []), (.atom 27), (.int .i64 0), (.int .i64 0), (.str []), (.nil 1), (.atom 29)]
         (.next 2 [(.atom 26)])))))
         (.sem (.buildSlice 26 2 #[(0, (.tmp 13)), (1, (.tmp 14))]) 26 [(13, (.ag [(.int .i64 7), (.str [43]), (.nil 1), (.int .i64 0), (.int .i64 0), (.str []), (.nil 1), (.atom 16)])), (14, (.ag [(.atom 18), (.atom 19), (.atom 20), (.atom 21), (.atom 22), (.atom 23), (.atom 24), (.atom 25)]))] (.sc (.sl)) []
         (.both
          (.sem (.buildSlice 22 1 #[(0, (.const (.string ⟨#[120]⟩)))]) 22 [] (.sc (.sl)) []
          (.sem (.buildSlice 26 1 #[(0, (.tmp 16))]) 26 [(16, (.ag [(.int .i64 8), (.str []), (.atom 17), (.int .i64 0), (.int .i64 0), (.str []), (.nil 1), (.atom 27)]))] (.sc (.sl)) []
          (.store (.atom 26) [(.int .i64 5), (.str []), (.atom 28), (.int .i64 0), (.int .i64 0), (.str []), (.nil 1), (.atom 29)]
          (.next 2 [(.atom 26)]))))
          (.sem (.buildSlice 26 1 #[(0, (.tmp 16))]) 26 [(16, (.ag [(.int .i64 8), (.str []), (.atom 17), (.int .i64 0), (.int .i64 0), (.str []), (.nil 1), (.atom 27)]))] (.sc (.sl)) []
          (.sem (.buildSlice 22 1 #[(0, (.const (.string ⟨#[120]⟩)))]) 22 [] (.sc (.sl)) []
          (.store (.atom 26) [(.int .i64 5), (.str []), (.atom 29), (.int .i64 0), (.int .i64 0), (.str []), (.nil 1), (.atom 28)]
          (.next 2 [(.atom 26)])))))))))))
      (.new 28 [(.int .i64 0), (.str []), (.nil 1), (.int .i64 0), (.int .i64 0), (.str []), (.nil 1), (.nil 1)]
      (.both
       (.sem (.buildSlice 22 1 #[(0, (.const (.string ⟨#[120]⟩)))]) 22 [] (.sc (.sl)) []
       (.call (.fn 8) [(.sc (.str [120]))] (.ag [.int .i64, .str, .sl, .int .i64, .int .i64, .str, .sl, .sl]) []
       (.sem (.buildSlice 26 2 #[(0, (.tmp 13)), (1, (.tmp 14))]) 26 [(13, (.ag [(.int .i64 7), (.str [43]), (.nil 1), (.int .i64 0), (.int .i64 0), (.str []), (.nil 1), (.atom 16)])), (14, (.ag [(.atom 20), (.atom 21), (.atom 22), (.atom 23), (.atom 24), (.atom 25), (.atom 26), (.atom 27)]))] (.sc (.sl)) []
       (.sem (.buildSlice 26 1 #[(0, (.tmp 16))]) 26 [(16, (.ag [(.int .i64 8), (.str []), (.atom 17), (.int .i64 0), (.int .i64 0), (.str []), (.nil 1), (.atom 28)]))] (.sc (.sl)) []
       (.store (.atom 18) [(.int .i64 5), (.str []), (.atom 19), (.int .i64 0), (.int .i64 0), (.str []), (.nil 1), (.atom 29)]
       (.next 2 [(.atom 18)]))))))
       (.call (.fn 8) [(.sc (.str [120]))] (.ag [.int .i64, .str, .sl, .int .i64, .int .i64, .str, .sl, .sl]) []
       (.both
        (.sem (.buildSlice 22 1 #[(0, (.const (.string ⟨#[120]⟩)))]) 22 [] (.sc (.sl)) []
        (.sem (.buildSlice 26 2 #[(0, (.tmp 13)), (1, (.tmp 14))]) 26 [(13, (.ag [(.int .i64 7), (.str [43]), (.nil 1), (.int .i64 0), (.int .i64 0), (.str []), (.nil 1), (.atom 16)])), (14, (.ag [(.atom 19), (.atom 20), (.atom 21), (.atom 22), (.atom 23), (.atom 24), (.atom 25), (.atom 26)]))] (.sc (.sl)) []
        (.sem (.buildSlice 26 1 #[(0, (.tmp 16))]) 26 [(16, (.ag [(.int .i64 8), (.str []), (.atom 17), (.int .i64 0), (.int .i64 0), (.str []), (.nil 1), (.atom 28)]))] (.sc (.sl)) []
        (.store (.atom 18) [(.int .i64 5), (.str []), (.atom 27), (.int .i64 0), (.int .i64 0), (.str []), (.nil 1), (.atom 29)]
        (.next 2 [(.atom 18)])))))
        (.sem (.buildSlice 26 2 #[(0, (.tmp 13)), (1, (.tmp 14))]) 26 [(13, (.ag [(.int .i64 7), (.str [43]), (.nil 1), (.int .i64 0), (.int .i64 0), (.str []), (.nil 1), (.atom 16)])), (14, (.ag [(.atom 19), (.atom 20), (.atom 21), (.atom 22), (.atom 23), (.atom 24), (.atom 25), (.atom 26)]))] (.sc (.sl)) []
        (.both
         (.sem (.buildSlice 22 1 #[(0, (.const (.string ⟨#[120]⟩)))]) 22 [] (.sc (.sl)) []
         (.sem (.buildSlice 26 1 #[(0, (.tmp 16))]) 26 [(16, (.ag [(.int .i64 8), (.str []), (.atom 17), (.int .i64 0), (.int .i64 0), (.str []), (.nil 1), (.atom 27)]))] (.sc (.sl)) []
         (.store (.atom 18) [(.int .i64 5), (.str []), (.atom 28), (.int .i64 0), (.int .i64 0), (.str []), (.nil 1), (.atom 29)]
         (.next 2 [(.atom 18)]))))
         (.sem (.buildSlice 26 1 #[(0, (.tmp 16))]) 26 [(16, (.ag [(.int .i64 8), (.str []), (.atom 17), (.int .i64 0), (.int .i64 0), (.str []), (.nil 1), (.atom 27)]))] (.sc (.sl)) []
         (.sem (.buildSlice 22 1 #[(0, (.const (.string ⟨#[120]⟩)))]) 22 [] (.sc (.sl)) []
         (.store (.atom 18) [(.int .i64 5), (.str []), (.atom 29), (.int .i64 0), (.int .i64 0), (.str []), (.nil 1), (.atom 28)]
         (.next 2 [(.atom 18)])))))))))))))
    (.both
     (.call (.fn 8) [(.sc (.str [120]))] (.ag [.int .i64, .str, .sl, .int .i64, .int .i64, .str, .sl, .sl]) []
     (.both
      (.sem (.buildSlice 22 1 #[(0, (.const (.string ⟨#[120]⟩)))]) 22 [] (.sc (.sl)) []
      (.both
       (.sem (.buildSlice 22 1 #[(0, (.const (.string ⟨#[120]⟩)))]) 22 [] (.sc (.sl)) []
       (.both
        (.sem (.buildSlice 26 2 #[(0, (.tmp 13)), (1, (.tmp 14))]) 26 [(13, (.ag [(.int .i64 7), (.str [43]), (.nil 1), (.int .i64 0), (.int .i64 0), (.str []), (.nil 1), (.atom 16)])), (14, (.ag [(.atom 17), (.atom 18), (.atom 19), (.atom 20), (.atom 21), (.atom 22), (.atom 23), (.atom 24)]))] (.sc (.sl)) []
        (.both
         (.sem (.buildSlice 26 1 #[(0, (.tmp 16))]) 26 [(16, (.ag [(.int .i64 8), (.str []), (.atom 26), (.int .i64 0), (.int .i64 0), (.str []), (.nil 1), (.atom 27)]))] (.sc (.sl)) []
         (.new 28 [(.int .i64 0), (.str []), (.nil 1), (.int .i64 0), (.int .i64 0), (.str []), (.nil 1), (.nil 1)]
         (.store (.atom 29) [(.int .i64 5), (.str []), (.atom 25), (.int .i64 0), (.int .i64 0), (.str []), (.nil 1), (.atom 28)]
         (.next 2 [(.atom 29)]))))
         (.new 28 [(.int .i64 0), (.str []), (.nil 1), (.int .i64 0), (.int .i64 0), (.str []), (.nil 1), (.nil 1)]
         (.sem (.buildSlice 26 1 #[(0, (.tmp 16))]) 26 [(16, (.ag [(.int .i64 8), (.str []), (.atom 26), (.int .i64 0), (.int .i64 0), (.str []), (.nil 1), (.atom 27)]))] (.sc (.sl)) []
         (.store (.atom 28) [(.int .i64 5), (.str []), (.atom 25), (.int .i64 0), (.int .i64 0), (.str []), (.nil 1), (.atom 29)]
         (.next 2 [(.atom 28)]))))))
        (.new 28 [(.int .i64 0), (.str []), (.nil 1), (.int .i64 0), (.int .i64 0), (.str []), (.nil 1), (.nil 1)]
        (.sem (.buildSlice 26 2 #[(0, (.tmp 13)), (1, (.tmp 14))]) 26 [(13, (.ag [(.int .i64 7), (.str [43]), (.nil 1), (.int .i64 0), (.int .i64 0), (.str []), (.nil 1), (.atom 16)])), (14, (.ag [(.atom 17), (.atom 18), (.atom 19), (.atom 20), (.atom 21), (.atom 22), (.atom 23), (.atom 24)]))] (.sc (.sl)) []
        (.sem (.buildSlice 26 1 #[(0, (.tmp 16))]) 26 [(16, (.ag [(.int .i64 8), (.str []), (.atom 26), (.int .i64 0), (.int .i64 0), (.str []), (.nil 1), (.atom 28)]))] (.sc (.sl)) []
        (.store (.atom 27) [(.int .i64 5), (.str []), (.atom 25), (.int .i64 0), (.int .i64 0), (.str []), (.nil 1), (.atom 29)]
        (.next 2 [(.atom 27)])))))))
       (.both
        (.sem (.buildSlice 26 2 #[(0, (.tmp 13)), (1, (.tmp 14))]) 26 [(13, (.ag [(.int .i64 7), (.str [43]), (.nil 1), (.int .i64 0), (.int .i64 0), (.str []), (.nil 1), (.atom 16)])), (14, (.ag [(.atom 17), (.atom 18), (.atom 19), (.atom 20), (.atom 21), (.atom 22), (.atom 23), (.atom 24)]))] (.sc (.sl)) []
        (.both
         (.sem (.buildSlice 22 1 #[(0, (.const (.string ⟨#[120]⟩)))]) 22 [] (.sc (.sl)) []
         (.both
          (.sem (.buildSlice 26 1 #[(0, (.tmp 16))]) 26 [(16, (.ag [(.int .i64 8), (.str []), (.atom 27), (.int .i64 0), (.int .i64 0), (.str []), (.nil 1), (.atom 26)]))] (.sc (.sl)) []
          (.new 28 [(.int .i64 0), (.str []), (.nil 1), (.int .i64 0), (.int .i64 0), (.str []), (.nil 1), (.nil 1)]
          (.store (.atom 29) [(.int .i64 5), (.str []), (.atom 25), (.int .i64 0), (.int .i64 0), (.str []), (.nil 1), (.atom 28)]
          (.next 2 [(.atom 29)]))))
          (.new 28 [(.int .i64 0), (.str []), (.nil 1), (.int .i64 0), (.int .i64 0), (.str []), (.nil 1), (.nil 1)]
          (.sem (.buildSlice 26 1 #[(0, (.tmp 16))]) 26 [(16, (.ag [(.int .i64 8), (.str []), (.atom 27), (.int .i64 0), (.int .i64 0), (.str []), (.nil 1), (.atom 26)]))] (.sc (.sl)) []
          (.store (.atom 28) [(.int .i64 5), (.str []), (.atom 25), (.int .i64 0), (.int .i64 0), (.str []), (.nil 1), (.atom 29)]
          (.next 2 [(.atom 28)]))))))
         (.new 28 [(.int .i64 0), (.str []), (.nil 1), (.int .i64 0), (.int .i64 0), (.str []), (.nil 1), (.nil 1)]
         (.sem (.buildSlice 22 1 #[(0, (.const (.string ⟨#[120]⟩)))]) 22 [] (.sc (.sl)) []
         (.sem (.buildSlice 26 1 #[(0, (.tmp 16))]) 26 [(16, (.ag [(.int .i64 8), (.str []), (.atom 28), (.int .i64 0), (.int .i64 0), (.str []), (.nil 1), (.atom 26)]))] (.sc (.sl)) []
         (.store (.atom 27) [(.int .i64 5), (.str []), (.atom 25), (.int .i64 0), (.int .i64 0), (.str []), (.nil 1), (.atom 29)]
         (.next 2 [(.atom 27)])))))))
        (.new 28 [(.int .i64 0), (.str []), (.nil 1), (.int .i64 0), (.int .i64 0), (.str []), (.nil 1), (.nil 1)]
        (.both
         (.sem (.buildSlice 22 1 #[(0, (.const (.string ⟨#[120]⟩)))]) 22 [] (.sc (.sl)) []
         (.sem (.buildSlice 26 2 #[(0, (.tmp 13)), (1, (.tmp 14))]) 26 [(13, (.ag [(.int .i64 7), (.str [43]), (.nil 1), (.int .i64 0), (.int .i64 0), (.str []), (.nil 1), (.atom 16)])), (14, (.ag [(.atom 17), (.atom 18), (.atom 19), (.atom 20), (.atom 21), (.atom 22), (.atom 23), (.atom 24)]))] (.sc (.sl)) []
         (.sem (.buildSlice 26 1 #[(0, (.tmp 16))]) 26 [(16, (.ag [(.int .i64 8), (.str []), (.atom 27), (.int .i64 0), (.int .i64 0), (.str []), (.nil 1), (.atom 28)]))] (.sc (.sl)) []
         (.store (.atom 26) [(.int .i64 5), (.str []), (.atom 25), (.int .i64 0), (.int .i64 0), (.str []), (.nil 1), (.atom 29)]
         (.next 2 [(.atom 26)])))))
         (.sem (.buildSlice 26 2 #[(0, (.tmp 13)), (1, (.tmp 14))]) 26 [(13, (.ag [(.int .i64 7), (.str [43]), (.nil 1), (.int .i64 0), (.int .i64 0), (.str []), (.nil 1), (.atom 16)])), (14, (.ag [(.atom 17), (.atom 18), (.atom 19), (.atom 20), (.atom 21), (.atom 22), (.atom 23), (.atom 24)]))] (.sc (.sl)) []
         (.sem (.buildSlice 22 1 #[(0, (.const (.string ⟨#[120]⟩)))]) 22 [] (.sc (.sl)) []
         (.sem (.buildSlice 26 1 #[(0, (.tmp 16))]) 26 [(16, (.ag [(.int .i64 8), (.str []), (.atom 28), (.int .i64 0), (.int .i64 0), (.str []), (.nil 1), (.atom 27)]))] (.sc (.sl)) []
         (.store (.atom 26) [(.int .i64 5), (.str []), (.atom 25), (.int .i64 0), (.int .i64 0), (.str []), (.nil 1), (.atom 29)]
         (.next 2 [(.atom 26)]))))))))))
      (.both
       (.sem (.buildSlice 22 1 #[(0, (.const (.string ⟨#[120]⟩)))]) 22 [] (.sc (.sl)) []
       (.both
        (.sem (.buildSlice 22 1 #[(0, (.const (.string ⟨#[120]⟩)))]) 22 [] (.sc (.sl)) []
        (.both
         (.sem (.buildSlice 26 2 #[(0, (.tmp 13)), (1, (.tmp 14))]) 26 [(13, (.ag [(.int .i64 7), (.str [43]), (.nil 1), (.int .i64 0), (.int .i64 0), (.str []), (.nil 1), (.atom 16)])), (14, (.ag [(.atom 17), (.atom 18), (.atom 19), (.atom 20), (.atom 21), (.atom 22), (.atom 23), (.atom 24)]))] (.sc (.sl)) []
         (.both
          (.sem (.buildSlice 26 1 #[(0, (.tmp 16))]) 26 [(16, (.ag [(.int .i64 8), (.str []), (.atom 25), (.int .i64 0), (.int .i64 0), (.str []), (.nil 1), (.atom 27)]))] (.sc (.sl)) []
          (.new 28 [(.int .i64 0), (.str []), (.nil 1), (.int .i64 0), (.int .i64 0), (.str []), (.nil 1), (.nil 1)]
          (.store (.atom 29) [(.int .i64 5), (.str []), (.atom 26), (.int .i64 0), (.int .i64 0), (.str []), (.nil 1), (.atom 28)]
          (.next 2 [(.atom 29)]))))
          (.new 28 [(.int .i64 0), (.str []), (.nil 1), (.int .i64 0), (.int .i64 0), (.str []), (.nil 1), (.nil 1)]
          (.sem (.buildSlice 26 1 #[(0, (.tmp 16))]) 26 [(16, (.ag [(.int .i64 8), (.str []), (.atom 25), (.int .i64 0), (.int .i64 0), (.str []), (.nil 1), (.atom 27)]))] (.sc (.sl)) []
          (.store (.atom 28) [(.int .i64 5), (.str []), (.atom 26), (.int .i64 0), (.int .i64 0), (.str []), (.nil 1), (.atom 29)]
          (.next 2 [(.atom 28)]))))))
         (.new 28 [(.int .i64 0), (.str []), (.nil 1), (.int .i64 0), (.int .i64 0), (.str []), (.nil 1), (.nil 1)]
         (.sem (.buildSlice 26 2 #[(0, (.tmp 13)), (1, (.tmp 14))]) 26 [(13, (.ag [(.int .i64 7), (.str [43]), (.nil 1), (.int .i64 0), (.int .i64 0), (.str []), (.nil 1), (.atom 16)])), (14, (.ag [(.atom 17), (.atom 18), (.atom 19), (.atom 20), (.atom 21), (.atom 22), (.atom 23), (.atom 24)]))] (.sc (.sl)) []
         (.sem (.buildSlice 26 1 #[(0, (.tmp 16))]) 26 [(16, (.ag [(.int .i64 8), (.str []), (.atom 25), (.int .i64 0), (.int .i64 0), (.str []), (.nil 1), (.atom 28)]))] (.sc (.sl)) []
         (.store (.atom 27) [(.int .i64 5), (.str []), (.atom 26), (.int .i64 0), (.int .i64 0), (.str []), (.nil 1), (.atom 29)]
         (.next 2 [(.atom 27)])))))))
        (.both
         (.sem (.buildSlice 26 2 #[(0, (.tmp 13)), (1, (.tmp 14))]) 26 [(13, (.ag [(.int .i64 7), (.str [43]), (.nil 1), (.int .i64 0), (.int .i64 0), (.str []), (.nil 1), (.atom 16)])), (14, (.ag [(.atom 17), (.atom 18), (.atom 19), (.atom 20), (.atom 21), (.atom 22), (.atom 23), (.atom 24)]))] (.sc (.sl)) []
         (.both
          (.sem (.buildSlice 22 1 #[(0, (.const (.string ⟨#[120]⟩)))]) 22 [] (.sc (.sl)) []
          (.both
           (.sem (.buildSlice 26 1 #[(0, (.tmp 16))]) 26 [(16, (.ag [(.int .i64 8), (.str []), (.atom 25), (.int .i64 0), (.int .i64 0), (.str []), (.nil 1), (.atom 26)]))] (.sc (.sl)) []
           (.new 28 [(.int .i64 0), (.str []), (.nil 1), (.int .i64 0), (.int .i64 0), (.str []), (.nil 1), (.nil 1)]
           (.store (.atom 29) [(.int .i64 5), (.str []), (.atom 27), (.int .i64 0), (.int .i64 0), (.str []), (.nil 1), (.atom 28)]
           (.next 2 [(.atom 29)]))))
           (.new 28 [(.int .i64 0), (.str []), (.nil 1), (.int .i64 0), (.int .i64 0), (.str []), (.nil 1), (.nil 1)]
           (.sem (.buildSlice 26 1 #[(0, (.tmp 16))]) 26 [(16, (.ag [(.int .i64 8), (.str []), (.atom 25), (.int .i64 0), (.int .i64 0), (.str []), (.nil 1), (.atom 26)]))] (.sc (.sl)) []
           (.store (.atom 28) [(.int .i64 5), (.str []), (.atom 27), (.int .i64 0), (.int .i64 0), (.str []), (.nil 1), (.atom 29)]
           (.next 2 [(.atom 28)]))))))
          (.both
           (.sem (.buildSlice 26 1 #[(0, (.tmp 16))]) 26 [(16, (.ag [(.int .i64 8), (.str []), (.atom 25), (.int .i64 0), (.int .i64 0), (.str []), (.nil 1), (.atom 26)]))] (.sc (.sl)) []
           (.both
            (.sem (.buildSlice 22 1 #[(0, (.const (.string ⟨#[120]⟩)))]) 22 [] (.sc (.sl)) []
            (.new 28 [(.int .i64 0), (.str []), (.nil 1), (.int .i64 0), (.int .i64 0), (.str []), (.nil 1), (.nil 1)]
            (.store (.atom 29) [(.int .i64 5), (.str []), (.atom 28), (.int .i64 0), (.int .i64 0), (.str []), (.nil 1), (.atom 27)]
            (.next 2 [(.atom 29)]))))
            (.new 28 [(.int .i64 0), (.str []), (.nil 1), (.int .i64 0), (.int .i64 0), (.str []), (.nil 1), (.nil 1)]
            (.sem (.buildSlice 22 1 #[(0, (.const (.string ⟨#[120]⟩)))]) 22 [] (.sc (.sl)) []
            (.store (.atom 28) [(.int .i64 5), (.str []), (.atom 29), (.int .i64 0), (.int .i64 0), (.str []), (.nil 1), (.atom 27)]
            (.next 2 [(.atom 28)]))))))
           (.new 28 [(.int .i64 0), (.str []), (.nil 1), (.int .i64 0), (.int .i64 0), (.str []), (.nil 1), (.nil 1)]
           (.both
            (.sem (.buildSlice 22 1 #[(0, (.const (.string ⟨#[120]⟩)))]) 22 [] (.sc (.sl)) []
            (.sem (.buildSlice 26 1 #[(0, (.tmp 16))]) 26 [(16, (.ag [(.int .i64 8), (.str []), (.atom 25), (.int .i64 0), (.int .i64 0), (.str []), (.nil 1), (.atom 26)]))] (.sc (.sl)) []
            (.store (.atom 27) [(.int .i64 5), (.str []), (.atom 28), (.int .i64 0), (.int .i64 0), (.str []), (.nil 1), (.atom 29)]
            (.next 2 [(.atom 27)]))))
            (.sem (.buildSlice 26 1 #[(0, (.tmp 16))]) 26 [(16, (.ag [(.int .i64 8), (.str []), (.atom 25), (.int .i64 0), (.int .i64 0), (.str []), (.nil 1), (.atom 26)]))] (.sc (.sl)) []
            (.sem (.buildSlice 22 1 #[(0, (.const (.string ⟨#[120]⟩)))]) 22 [] (.sc (.sl)) []
            (.store (.atom 27) [(.int .i64 5), (.str []), (.atom 29), (.int .i64 0), (.int .i64 0), (.str []), (.nil 1), (.atom 28)]
            (.next 2 [(.atom 27)])))))))))
         (.new 28 [(.int .i64 0), (.str []), (.nil 1), (.int .i64 0), (.int .i64 0), (.str []), (.nil 1), (.nil 1)]
         (.both
          (.sem (.buildSlice 22 1 #[(0, (.const (.string ⟨#[120]⟩)))]) 22 [] (.sc (.sl)) []
          (.sem (.buildSlice 26 2 #[(0, (.tmp 13)), (1, (.tmp 14))]) 26 [(13, (.ag [(.int .i64 7), (.str [43]), (.nil 1), (.int .i64 0), (.int .i64 0), (.str []), (.nil 1), (.atom 16)])), (14, (.ag [(.atom 17), (.atom 18), (.atom 19), (.atom 20), (.atom 21), (.atom 22), (.atom 23), (.atom 24)]))] (.sc (.sl)) []
          (.sem (.buildSlice 26 1 #[(0, (.tmp 16))]) 26 [(16, (.ag [(.int .i64 8), (.str []), (.atom 25), (.int .i64 0), (.int .i64 0), (.str []), (.nil 1), (.atom 28)]))] (.sc (.sl)) []
          (.store (.atom 26) [(.int .i64 5), (.str []), (.atom 27), (.int .i64 0), (.int .i64 0), (.str []), (.nil 1), (.atom 29)]
          (.next 2 [(.atom 26)])))))
          (.sem (.buildSlice 26 2 #[(0, (.tmp 13)), (1, (.tmp 14))]) 26 [(13, (.ag [(.int .i64 7), (.str [43]), (.nil 1), (.int .i64 0), (.int .i64 0), (.str []), (.nil 1), (.atom 16)])), (14, (.ag [(.atom 17), (.atom 18), (.atom 19), (.atom 20), (.atom 21), (.atom 22), (.atom 23), (.atom 24)]))] (.sc (.sl)) []
          (.both
           (.sem (.buildSlice 22 1 #[(0, (.const (.string ⟨#[120]⟩)))]) 22 [] (.sc (.sl)) []
           (.sem (.buildSlice 26 1 #[(0, (.tmp 16))]) 26 [(16, (.ag [(.int .i64 8), (.str []), (.atom 25), (.int .i64 0), (.int .i64 0), (.str []), (.nil 1), (.atom 27)]))] (.sc (.sl)) []
           (.store (.atom 26) [(.int .i64 5), (.str []), (.atom 28), (.int .i64 0), (.int .i64 0), (.str []), (.nil 1), (.atom 29)]
           (.next 2 [(.atom 26)]))))
           (.sem (.buildSlice 26 1 #[(0, (.tmp 16))]) 26 [(16, (.ag [(.int .i64 8), (.str []), (.atom 25), (.int .i64 0), (.int .i64 0), (.str []), (.nil 1), (.atom 27)]))] (.sc (.sl)) []
           (.sem (.buildSlice 22 1 #[(0, (.const (.string ⟨#[120]⟩)))]) 22 [] (.sc (.sl)) []
           (.store (.atom 26) [(.int .i64 5), (.str []), (.atom 29), (.int .i64 0), (.int .i64 0), (.str []), (.nil 1), (.atom 28)]
           (.next 2 [(.atom 26)])))))))))))
       (.both
        (.sem (.buildSlice 26 2 #[(0, (.tmp 13)), (1, (.tmp 14))]) 26 [(13, (.ag [(.int .i64 7), (.str [43]), (.nil 1), (.int .i64 0), (.int .i64 0), (.str []), (.nil 1), (.atom 16)])), (14, (.ag [(.atom 17), (.atom 18), (.atom 19), (.atom 20), (.atom 21), (.atom 22), (.atom 23), (.atom 24)]))] (.sc (.sl)) []
        (.both
         (.sem (.buildSlice 22 1 #[(0, (.const (.string ⟨#[120]⟩)))]) 22 [] (.sc (.sl)) []
         (.both
          (.sem (.buildSlice 22 1 #[(0, (.const (.string ⟨#[120]⟩)))]) 22 [] (.sc (.sl)) []
          (.both
           (.sem (.buildSlice 26 1 #[(0, (.tmp 16))]) 26 [(16, (.ag [(.int .i64 8), (.str []), (.atom 27), (.int .i64 0), (.int .i64 0), (.str []), (.nil 1), (.atom 25)]))] (.sc (.sl)) []
           (.new 28 [(.int .i64 0), (.str []), (.nil 1), (.int .i64 0), (.int .i64 0), (.str []), (.nil 1), (.nil 1)]
           (.store (.atom 29) [(.int .i64 5), (.str []), (.atom 26), (.int .i64 0), (.int .i64 0), (.str []), (.nil 1), (.atom 28)]
           (.next 2 [(.atom 29)]))))
           (.new 28 [(.int .i64 0), (.str []), (.nil 1), (.int .i64 0), (.int .i64 0), (.str []), (.nil 1), (.nil 1)]
           (.sem (.buildSlice 26 1 #[(0, (.tmp 16))]) 26 [(16, (.ag [(.int .i64 8), (.str []), (.atom 27), (.int .i64 0), (.int .i64 0), (.str []), (.nil 1), (.atom 25)]))] (.sc (.sl)) []
           (.store (.atom 28) [(.int .i64 5), (.str []), (.atom 26), (.int .i64 0), (.int .i64 0), (.str []), (.nil 1), (.atom 29)]
           (.next 2 [(.atom 28)]))))))
          (.new 28 [(.int .i64 0), (.str []), (.nil 1), (.int .i64 0), (.int .i64 0), (.str []), (.nil 1), (.nil 1)]
          (.sem (.buildSlice 22 1 #[(0, (.const (.string ⟨#[120]⟩)))]) 22 [] (.sc (.sl)) []
          (.sem (.buildSlice 26 1 #[(0, (.tmp 16))]) 26 [(16, (.ag [(.int .i64 8), (.str []), (.atom 28), (.int .i64 0), (.int .i64 0), (.str []), (.nil 1), (.atom 25)]))] (.sc (.sl)) []
          (.store (.atom 27) [(.int .i64 5), (.str []), (.atom 26), (.int .i64 0), (.int .i64 0), (.str []), (.nil 1), (.atom 29)]
          (.next 2 [(.atom 27)])))))))
         (.both
          (.sem (.buildSlice 22 1 #[(0, (.const (.string ⟨#[120]⟩)))]) 22 [] (.sc (.sl)) []
          (.both
           (.sem (.buildSlice 22 1 #[(0, (.const (.string ⟨#[120]⟩)))]) 22 [] (.sc (.sl)) []
           (.both
            (.sem (.buildSlice 26 1 #[(0, (.tmp 16))]) 26 [(16, (.ag [(.int .i64 8), (.str []), (.atom 26), (.int .i64 0), (.int .i64 0), (.str []), (.nil 1), (.atom 25)]))] (.sc (.sl)) []
            (.new 28 [(.int .i64 0), (.str []), (.nil 1), (.int .i64 0), (.int .i64 0), (.str []), (.nil 1), (.nil 1)]
            (.store (.atom 29) [(.int .i64 5), (.str []), (.atom 27), (.int .i64 0), (.int .i64 0), (.str []), (.nil 1), (.atom 28)]
            (.next 2 [(.atom 29)]))))
            (.new 28 [(.int .i64 0), (.str []), (.nil 1), (.int .i64 0), (.int .i64 0), (.str []), (.nil 1), (.nil 1)]
            (.sem (.buildSlice 26 1 #[(0, (.tmp 16))]) 26 [(16, (.ag [(.int .i64 8), (.str []), (.atom 26), (.int .i64 0), (.int .i64 0), (.str []), (.nil 1), (.atom 25)]))] (.sc (.sl)) []
            (.store (.atom 28) [(.int .i64 5), (.str []), (.atom 27), (.int .i64 0), (.int .i64 0), (.str []), (.nil 1), (.atom 29)]
            (.next 2 [(.atom 28)]))))))
           (.both
            (.sem (.buildSlice 26 1 #[(0, (.tmp 16))]) 26 [(16, (.ag [(.int .i64 8), (.str []), (.atom 26), (.int .i64 0), (.int .i64 0), (.str []), (.nil 1), (.atom 25)]))] (.sc (.sl)) []
            (.both
             (.sem (.buildSlice 22 1 #[(0, (.const (.string ⟨#[120]⟩)))]) 22 [] (.sc (.sl)) []
             (.new 28 [(.int .i64 0), (.str []), (.nil 1), (.int .i64 0), (.int .i64 0), (.str []), (.nil 1), (.nil 1)]
             (.store (.atom 29) [(.int .i64 5), (.str []), (.atom 28), (.int .i64 0), (.int .i64 0), (.str []), (.nil 1), (.atom 27)]
             (.next 2 [(.atom 29)]))))
             (.new 28 [(.int .i64 0), (.str []), (.nil 1), (.int .i64 0), (.int .i64 0), (.str []), (.nil 1), (.nil 1)]
             (.sem (.buildSlice 22 1 #[(0, (.const (.string ⟨#[120]⟩)))]) 22 [] (.sc (.sl)) []
             (.store (.atom 28) [(.int .i64 5), (.str []), (.atom 29), (.int .i64 0), (.int .i64 0), (.str []), (.nil 1), (.atom 27)]
             (.next 2 [(.atom 28)]))))))
            (.new 28 [(.int .i64 0), (.str []), (.nil 1), (.int .i64 0), (.int .i64 0), (.str []), (.nil 1), (.nil 1)]
            (.both
             (.sem (.buildSlice 22 1 #[(0, (.const (.string ⟨#[120]⟩)))]) 22 [] (.sc (.sl)) []
             (.sem (.buildSlice 26 1 #[(0, (.tmp 16))]) 26 [(16, (.ag [(.int .i64 8), (.str []), (.atom 26), (.int .i64 0), (.int .i64 0), (.str []), (.nil 1), (.atom 25)]))] (.sc (.sl)) []
             (.store (.atom 27) [(.int .i64 5), (.str []), (.atom 28), (.int .i64 0), (.int .i64 0), (.str []), (.nil 1), (.atom 29)]
             (.next 2 [(.atom 27)]))))
             (.sem (.buildSlice 26 1 #[(0, (.tmp 16))]) 26 [(16, (.ag [(.int .i64 8), (.str []), (.atom 26), (.int .i64 0), (.int .i64 0), (.str []), (.nil 1), (.atom 25)]))] (.sc (.sl)) []
             (.sem (.buildSlice 22 1 #[(0, (.const (.string ⟨#[120]⟩)))]) 22 [] (.sc (.sl)) []
             (.store (.atom 27) [(.int .i64 5), (.str []), (.atom 29), (.int .i64 0), (.int .i64 0), (.str []), (.nil 1), (.atom 28)]
             (.next 2 [(.atom 27)])))))))))
          (.new 28 [(.int .i64 0), (.str []), (.nil 1), (.int .i64 0), (.int .i64 0), (.str []), (.nil 1), (.nil 1)]
          (.both
           (.sem (.buildSlice 22 1 #[(0, (.const (.string ⟨#[120]⟩)))]) 22 [] (.sc (.sl)) []
           (.sem (.buildSlice 22 1 #[(0, (.const (.string ⟨#[120]⟩)))]) 22 [] (.sc (.sl)) []
           (.sem (.buildSlice 26 1 #[(0, (.tmp 16))]) 26 [(16, (.ag [(.int .i64 8), (.str []), (.atom 28), (.int .i64 0), (.int .i64 0), (.str []), (.nil 1), (.atom 25)]))] (.sc (.sl)) []
           (.store (.atom 26) [(.int .i64 5), (.str []), (.atom 27), (.int .i64 0), (.int .i64 0), (.str []), (.nil 1), (.atom 29)]
           (.next 2 [(.atom 26)])))))
           (.sem (.buildSlice 22 1 #[(0, (.const (.string ⟨#[120]⟩)))]) 22 [] (.sc (.sl)) []
           (.both
            (.sem (.buildSlice 22 1 #[(0, (.const (.string ⟨#[120]⟩)))]) 22 [] (.sc (.sl)) []
            (.sem (.buildSlice 26 1 #[(0, (.tmp 16))]) 26 [(16, (.ag [(.int .i64 8), (.str []), (.atom 27), (.int .i64 0), (.int .i64 0), (.str []), (.nil 1), (.atom 25)]))] (.sc (.sl)) []
            (.store (.atom 26) [(.int .i64 5), (.str []), (.atom 28), (.int .i64 0), (.int .i64 0), (.str []), (.nil 1), (.atom 29)]
            (.next 2 [(.atom 26)]))))
            (.sem (.buildSlice 26 1 #[(0, (.tmp 16))]) 26 [(16, (.ag [(.int .i64 8), (.str []), (.atom 27), (.int .i64 0), (.int .i64 0), (.str []), (.nil 1), (.atom 25)]))] (.sc (.sl)) []
            (.sem (.buildSlice 22 1 #[(0, (.const (.string ⟨#[120]⟩)))]) 22 [] (.sc (.sl)) []
            (.store (.atom 26) [(.int .i64 5), (.str []), (.atom 29), (.int .i64 0), (.int .i64 0), (.str []), (.nil 1), (.atom 28)]
            (.next 2 [(.atom 26)])))))))))))
        (.new 28 [(.int .i64 0), (.str []), (.nil 1), (.int .i64 0), (.int .i64 0), (.str []), (.nil 1), (.nil 1)]
        (.both
         (.sem (.buildSlice 22 1 #[(0, (.const (.string ⟨#[120]⟩)))]) 22 [] (.sc (.sl)) []
         (.both
          (.sem (.buildSlice 22 1 #[(0, (.const (.string ⟨#[120]⟩)))]) 22 [] (.sc (.sl)) []
          (.sem (.buildSlice 26 2 #[(0, (.tmp 13)), (1, (.tmp 14))]) 26 [(13, (.ag [(.int .i64 7), (.str [43]), (.nil 1), (.int .i64 0), (.int .i64 0), (.str []), (.nil 1), (.atom 16)])), (14, (.ag [(.atom 17), (.atom 18), (.atom 19), (.atom 20), (.atom 21), (.atom 22), (.atom 23), (.atom 24)]))] (.sc (.sl)) []
          (.sem (.buildSlice 26 1 #[(0, (.tmp 16))]) 26 [(16, (.ag [(.int .i64 8), (.str []), (.atom 27), (.int .i64 0), (.int .i64 0), (.str []), (.nil 1), (.atom 28)]))] (.sc (.sl)) []
          (.store (.atom 25) [(.int .i64 5), (.str []), (.atom 26), (.int .i64 0), (.int .i64 0), (.str []), (.nil 1), (.atom 29)]
          (.next 2 [(.atom 25)])))))
          (.sem (.buildSlice 26 2 #[(0, (.tmp 13)), (1, (.tmp 14))]) 26 [(13, (.ag [(.int .i64 7), (.str [43]), (.nil 1), (.int .i64 0), (.int .i64 0), (.str []), (.nil 1), (.atom 16)])), (14, (.ag [(.atom 17), (.atom 18), (.atom 19), (.atom 20), (.atom 21), (.atom 22), (.atom 23), (.atom 24)]))] (.sc (.sl)) []
          (.sem (.buildSlice 22 1 #[(0, (.const (.string ⟨#[120]⟩)))]) 22 [] (.sc (.sl)) []
          (.sem (.buildSlice 26 1 #[(0, (.tmp 16))]) 26 [(16, (.ag [(.int .i64 8), (.str []), (.atom 28), (.int .i64 0), (.int .i64 0), (.str []), (.nil 1), (.atom 27)]))] (.sc (.sl)) []
          (.store (.atom 25) [(.int .i64 5), (.str []), (.atom 26), (.int .i64 0), (.int .i64 0), (.str []), (.nil 1), (.atom 29)]
          (.next 2 [(.atom 25)])))))))
         (.both
          (.sem (.buildSlice 22 1 #[(0, (.const (.string ⟨#[120]⟩)))]) 22 [] (.sc (.sl)) []
          (.both
           (.sem (.buildSlice 22 1 #[(0, (.const (.string ⟨#[120]⟩)))]) 22 [] (.sc (.sl)) []
           (.sem (.buildSlice 26 2 #[(0, (.tmp 13)), (1, (.tmp 14))]) 26 [(13, (.ag [(.int .i64 7), (.str [43]), (.nil 1), (.int .i64 0), (.int .i64 0), (.str []), (.nil 1), (.atom 16)])), (14, (.ag [(.atom 17), (.atom 18), (.atom 19), (.atom 20), (.atom 21), (.atom 22), (.atom 23), (.atom 24)]))] (.sc (.sl)) []
           (.sem (.buildSlice 26 1 #[(0, (.tmp 16))]) 26 [(16, (.ag [(.int .i64 8), (.str []), (.atom 26), (.int .i64 0), (.int .i64 0), (.str []), (.nil 1), (.atom 28)]))] (.sc (.sl)) []
           (.store (.atom 25) [(.int .i64 5), (.str []), (.atom 27), (.int .i64 0), (.int .i64 0), (.str []), (.nil 1), (.atom 29)]
           (.next 2 [(.atom 25)])))))
           (.sem (.buildSlice 26 2 #[(0, (.tmp 13)), (1, (.tmp 14))]) 26 [(13, (.ag [(.int .i64 7), (.str [43]), (.nil 1), (.int .i64 0), (.int .i64 0), (.str []), (.nil 1), (.atom 16)])), (14, (.ag [(.atom 17), (.atom 18), (.atom 19), (.atom 20), (.atom 21), (.atom 22), (.atom 23), (.atom 24)]))] (.sc (.sl)) []
           (.both
            (.sem (.buildSlice 22 1 #[(0, (.const (.string ⟨#[120]⟩)))]) 22 [] (.sc (.sl)) []
            (.sem (.buildSlice 26 1 #[(0, (.tmp 16))]) 26 [(16, (.ag [(.int .i64 8), (.str []), (.atom 26), (.int .i64 0), (.int .i64 0), (.str []), (.nil 1), (.atom 27)]))] (.sc (.sl)) []
            (.store (.atom 25) [(.int .i64 5), (.str []), (.atom 28), (.int .i64 0), (.int .i64 0), (.str []), (.nil 1), (.atom 29)]
            (.next 2 [(.atom 25)]))))
            (.sem (.buildSlice 26 1 #[(0, (.tmp 16))]) 26 [(16, (.ag [(.int .i64 8), (.str []), (.atom 26), (.int .i64 0), (.int .i64 0), (.str []), (.nil 1), (.atom 27)]))] (.sc (.sl)) []
            (.sem (.buildSlice 22 1 #[(0, (.const (.string ⟨#[120]⟩)))]) 22 [] (.sc (.sl)) []
            (.store (.atom 25) [(.int .i64 5), (.str []), (.atom 29), (.int .i64 0), (.int .i64 0), (.str []), (.nil 1), (.atom 28)]
            (.next 2 [(.atom 25)]))))))))
          (.sem (.buildSlice 26 2 #[(0, (.tmp 13)), (1, (.tmp 14))]) 26 [(13, (.ag [(.int .i64 7), (.str [43]), (.nil 1), (.int .i64 0), (.int .i64 0), (.str []), (.nil 1), (.atom 16)])), (14, (.ag [(.atom 17), (.atom 18), (.atom 19), (.atom 20), (.atom 21), (.atom 22), (.atom 23), (.atom 24)]))] (.sc (.sl)) []
          (.both
           (.sem (.buildSlice 22 1 #[(0, (.const (.string ⟨#[120]⟩)))]) 22 [] (.sc (.sl)) []
           (.sem (.buildSlice 22 1 #[(0, (.const (.string ⟨#[120]⟩)))]) 22 [] (.sc (.sl)) []
           (.sem (.buildSlice 26 1 #[(0, (.tmp 16))]) 26 [(16, (.ag [(.int .i64 8), (.str []), (.atom 28), (.int .i64 0), (.int .i64 0), (.str []), (.nil 1), (.atom 26)]))] (.sc (.sl)) []
           (.store (.atom 25) [(.int .i64 5), (.str []), (.atom 27), (.int .i64 0), (.int .i64 0), (.str []), (.nil 1), (.atom 29)]
           (.next 2 [(.atom 25)])))))
           (.sem (.buildSlice 22 1 #[(0, (.const (.string ⟨#[120]⟩)))]) 22 [] (.sc (.sl)) []
           (.both
            (.sem (.buildSlice 22 1 #[(0, (.const (.string ⟨#[120]⟩)))]) 22 [] (.sc (.sl)) []
            (.sem (.buildSlice 26 1 #[(0, (.tmp 16))]) 26 [(16, (.ag [(.int .i64 8), (.str []), (.atom 27), (.int .i64 0), (.int .i64 0), (.str []), (.nil 1), (.atom 26)]))] (.sc (.sl)) []
            (.store (.atom 25) [(.int .i64 5), (.str []), (.atom 28), (.int .i64 0), (.int .i64 0), (.str []), (.nil 1), (.atom 29)]
            (.next 2 [(.atom 25)]))))
            (.sem (.buildSlice 26 1 #[(0, (.tmp 16))]) 26 [(16, (.ag [(.int .i64 8), (.str []), (.atom 27), (.int .i64 0), (.int .i64 0), (.str []), (.nil 1), (.atom 26)]))] (.sc (.sl)) []
            (.sem (.buildSlice 22 1 #[(0, (.const (.string ⟨#[120]⟩)))]) 22 [] (.sc (.sl)) []
            (.store (.atom 25) [(.int .i64 5), (.str []), (.atom 29), (.int .i64 0), (.int .i64 0), (.str []), (.nil 1), (.atom 28)]
            (.next 2 [(.atom 25)])))))))))))))))
     (.new 28 [(.int .i64 0), (.str []), (.nil 1), (.int .i64 0), (.int .i64 0), (.str []), (.nil 1), (.nil 1)]
     (.both
      (.sem (.buildSlice 22 1 #[(0, (.const (.string ⟨#[120]⟩)))]) 22 [] (.sc (.sl)) []
      (.both
       (.sem (.buildSlice 22 1 #[(0, (.const (.string ⟨#[120]⟩)))]) 22 [] (.sc (.sl)) []
       (.call (.fn 8) [(.sc (.str [120]))] (.ag [.int .i64, .str, .sl, .int .i64, .int .i64, .str, .sl, .sl]) []
       (.sem (.buildSlice 26 2 #[(0, (.tmp 13)), (1, (.tmp 14))]) 26 [(13, (.ag [(.int .i64 7), (.str [43]), (.nil 1), (.int .i64 0), (.int .i64 0), (.str []), (.nil 1), (.atom 16)])), (14, (.ag [(.atom 20), (.atom 21), (.atom 22), (.atom 23), (.atom 24), (.atom 25), (.atom 26), (.atom 27)]))] (.sc (.sl)) []
       (.sem (.buildSlice 26 1 #[(0, (.tmp 16))]) 26 [(16, (.ag [(.int .i64 8), (.str []), (.atom 19), (.int .i64 0), (.int .i64 0), (.str []), (.nil 1), (.atom 28)]))] (.sc (.sl)) []
       (.store (.atom 17) [(.int .i64 5), (.str []), (.atom 18), (.int .i64 0), (.int .i64 0), (.str []), (.nil 1), (.atom 29)]
       (.next 2 [(.atom 17)]))))))
       (.call (.fn 8) [(.sc (.str [120]))] (.ag [.int .i64, .str, .sl, .int .i64, .int .i64, .str, .sl, .sl]) []
       (.both
        (.sem (.buildSlice 22 1 #[(0, (.const (.string ⟨#[120]⟩)))]) 22 [] (.sc (.sl)) []
        (.sem (.buildSlice 26 2 #[(0, (.tmp 13)), (1, (.tmp 14))]) 26 [(13, (.ag [(.int .i64 7), (.str [43]), (.nil 1), (.int .i64 0), (.int .i64 0), (.str []), (.nil 1), (.atom 16)])), (14, (.ag [(.atom 19), (.atom 20), (.atom 21), (.atom 22), (.atom 23), (.atom 24), (.atom 25), (.atom 26)]))] (.sc (.sl)) []
        (.sem (.buildSlice 26 1 #[(0, (.tmp 16))]) 26 [(16, (.ag [(.int .i64 8), (.str []), (.atom 27), (.int .i64 0), (.int .i64 0), (.str []), (.nil 1), (.atom 28)]))] (.sc (.sl)) []
        (.store (.atom 17) [(.int .i64 5), (.str []), (.atom 18), (.int .i64 0), (.int .i64 0), (.str []), (.nil 1), (.atom 29)]
        (.next 2 [(.atom 17)])))))
        (.sem (.buildSlice 26 2 #[(0, (.tmp 13)), (1, (.tmp 14))]) 26 [(13, (.ag [(.int .i64 7), (.str [43]), (.nil 1), (.int .i64 0), (.int .i64 0), (.str []), (.nil 1), (.atom 16)])), (14, (.ag [(.atom 19), (.atom 20), (.atom 21), (.atom 22), (.atom 23), (.atom 24), (.atom 25), (.atom 26)]))] (.sc (.sl)) []
        (.sem (.buildSlice 22 1 #[(0, (.const (.string ⟨#[120]⟩)))]) 22 [] (.sc (.sl)) []
        (.sem (.buildSlice 26 1 #[(0, (.tmp 16))]) 26 [(16, (.ag [(.int .i64 8), (.str []), (.atom 28), (.int .i64 0), (.int .i64 0), (.str []), (.nil 1), (.atom 27)]))] (.sc (.sl)) []
        (.store (.atom 17) [(.int .i64 5), (.str []), (.atom 18), (.int .i64 0), (.int .i64 0), (.str []), (.nil 1), (.atom 29)]
        (.next 2 [(.atom 17)])))))))))
      (.both
       (.sem (.buildSlice 22 1 #[(0, (.const (.string ⟨#[120]⟩)))]) 22 [] (.sc (.sl)) []
       (.both
        (.sem (.buildSlice 22 1 #[(0, (.const (.string ⟨#[120]⟩)))]) 22 [] (.sc (.sl)) []
        (.call (.fn 8) [(.sc (.str [120]))] (.ag [.int .i64, .str, .sl, .int .i64, .int .i64, .str, .sl, .sl]) []
        (.sem (.buildSlice 26 2 #[(0, (.tmp 13)), (1, (.tmp 14))]) 26 [(13, (.ag [(.int .i64 7), (.str [43]), (.nil 1), (.int .i64 0), (.int .i64 0), (.str []), (.nil 1), (.atom 16)])), (14, (.ag [(.atom 20), (.atom 21), (.atom 22), (.atom 23), (.atom 24), (.atom 25), (.atom 26), (.atom 27)]))] (.sc (.sl)) []
        (.sem (.buildSlice 26 1 #[(0, (.tmp 16))]) 26 [(16, (.ag [(.int .i64 8), (.str []), (.atom 18), (.int .i64 0), (.int .i64 0), (.str []), (.nil 1), (.atom 28)]))] (.sc (.sl)) []
        (.store (.atom 17) [(.int .i64 5), (.str []), (.atom 19), (.int .i64 0), (.int .i64 0), (.str []), (.nil 1), (.atom 29)]
        (.next 2 [(.atom 17)]))))))
        (.call (.fn 8) [(.sc (.str [120]))] (.ag [.int .i64, .str, .sl, .int .i64, .int .i64, .str, .sl, .sl]) []
        (.both
         (.sem (.buildSlice 22 1 #[(0, (.const (.string ⟨#[120]⟩)))]) 22 [] (.sc (.sl)) []
         (.sem (.buildSlice 26 2 #[(0, (.tmp 13)), (1, (.tmp 14))]) 26 [(13, (.ag [(.int .i64 7), (.str [43]), (.nil 1), (.int .i64 0), (.int .i64 0), (.str []), (.nil 1), (.atom 16)])), (14, (.ag [(.atom 19), (.atom 20), (.atom 21), (.atom 22), (.atom 23), (.atom 24), (.atom 25), (.atom 26)]))] (.sc (.sl)) []
         (.sem (.buildSlice 26 1 #[(0, (.tmp 16))]) 26 [(16, (.ag [(.int .i64 8), (.str []), (.atom 18), (.int .i64 0), (.int .i64 0), (.str []), (.nil 1), (.atom 28)]))] (.sc (.sl)) []
         (.store (.atom 17) [(.int .i64 5), (.str []), (.atom 27), (.int .i64 0), (.int .i64 0), (.str []), (.nil 1), (.atom 29)]
         (.next 2 [(.atom 17)])))))
         (.sem (.buildSlice 26 2 #[(0, (.tmp 13)), (1, (.tmp 14))]) 26 [(13, (.ag [(.int .i64 7), (.str [43]), (.nil 1), (.int .i64 0), (.int .i64 0), (.str []), (.nil 1), (.atom 16)])), (14, (.ag [(.atom 19), (.atom 20), (.atom 21), (.atom 22), (.atom 23), (.atom 24), (.atom 25), (.atom 26)]))] (.sc (.sl)) []
         (.both
          (.sem (.buildSlice 22 1 #[(0, (.const (.string ⟨#[120]⟩)))]) 22 [] (.sc (.sl)) []
          (.sem (.buildSlice 26 1 #[(0, (.tmp 16))]) 26 [(16, (.ag [(.int .i64 8), (.str []), (.atom 18), (.int .i64 0), (.int .i64 0), (.str []), (.nil 1), (.atom 27)]))] (.sc (.sl)) []
          (.store (.atom 17) [(.int .i64 5), (.str []), (.atom 28), (.int .i64 0), (.int .i64 0), (.str []), (.nil 1), (.atom 29)]
          (.next 2 [(.atom 17)]))))
          (.sem (.buildSlice 26 1 #[(0, (.tmp 16))]) 26 [(16, (.ag [(.int .i64 8), (.str []), (.atom 18), (.int .i64 0), (.int .i64 0), (.str []), (.nil 1), (.atom 27)]))] (.sc (.sl)) []
          (.sem (.buildSlice 22 1 #[(0, (.const (.string ⟨#[120]⟩)))]) 22 [] (.sc (.sl)) []
          (.store (.atom 17) [(.int .i64 5), (.str []), (.atom 29), (.int .i64 0), (.int .i64 0), (.str []), (.nil 1), (.atom 28)]
          (.next 2 [(.atom 17)]))))))))))
       (.call (.fn 8) [(.sc (.str [120]))] (.ag [.int .i64, .str, .sl, .int .i64, .int .i64, .str, .sl, .sl]) []
       (.both
        (.sem (.buildSlice 22 1 #[(0, (.const (.string ⟨#[120]⟩)))]) 22 [] (.sc (.sl)) []
        (.both
         (.sem (.buildSlice 22 1 #[(0, (.const (.string ⟨#[120]⟩)))]) 22 [] (.sc (.sl)) []
         (.sem (.buildSlice 26 2 #[(0, (.tmp 13)), (1, (.tmp 14))]) 26 [(13, (.ag [(.int .i64 7), (.str [43]), (.nil 1), (.int .i64 0), (.int .i64 0), (.str []), (.nil 1), (.atom 16)])), (14, (.ag [(.atom 18), (.atom 19), (.atom 20), (.atom 21), (.atom 22), (.atom 23), (.atom 24), (.atom 25)]))] (.sc (.sl)) []
         (.sem (.buildSlice 26 1 #[(0, (.tmp 16))]) 26 [(16, (.ag [(.int .i64 8), (.str []), (.atom 27), (.int .i64 0), (.int .i64 0), (.str []), (.nil 1), (.atom 28)]))] (.sc (.sl)) []
         (.store (.atom 17) [(.int .i64 5), (.str []), (.atom 26), (.int .i64 0), (.int .i64 0), (.str []), (.nil 1), (.atom 29)]
         (.next 2 [(.atom 17)])))))
         (.sem (.buildSlice 26 2 #[(0, (.tmp 13)), (1, (.tmp 14))]) 26 [(13, (.ag [(.int .i64 7), (.str [43]), (.nil 1), (.int .i64 0), (.int .i64 0), (.str []), (.nil 1), (.atom 16)])), (14, (.ag [(.atom 18), (.atom 19), (.atom 20), (.atom 21), (.atom 22), (.atom 23), (.atom 24), (.atom 25)]))] (.sc (.sl)) []
         (.sem (.buildSlice 22 1 #[(0, (.const (.string ⟨#[120]⟩)))]) 22 [] (.sc (.sl)) []
         (.sem (.buildSlice 26 1 #[(0, (.tmp 16))]) 26 [(16, (.ag [(.int .i64 8), (.str []), (.atom 28), (.int .i64 0), (.int .i64 0), (.str []), (.nil 1), (.atom 27)]))] (.sc (.sl)) []
         (.store (.atom 17) [(.int .i64 5), (.str []), (.atom 26), (.int .i64 0), (.int .i64 0), (.str []), (.nil 1), (.atom 29)]
         (.next 2 [(.atom 17)])))))))
        (.both
         (.sem (.buildSlice 22 1 #[(0, (.const (.string ⟨#[120]⟩)))]) 22 [] (.sc (.sl)) []
         (.both
          (.sem (.buildSlice 22 1 #[(0, (.const (.string ⟨#[120]⟩)))]) 22 [] (.sc (.sl)) []
          (.sem (.buildSlice 26 2 #[(0, (.tmp 13)), (1, (.tmp 14))]) 26 [(13, (.ag [(.int .i64 7), (.str [43]), (.nil 1), (.int .i64 0), (.int .i64 0), (.str []), (.nil 1), (.atom 16)])), (14, (.ag [(.atom 18), (.atom 19), (.atom 20), (.atom 21), (.atom 22), (.atom 23), (.atom 24), (.atom 25)]))] (.sc (.sl)) []
          (.sem (.buildSlice 26 1 #[(0, (.tmp 16))]) 26 [(16, (.ag [(.int .i64 8), (.str []), (.atom 26), (.int .i64 0), (.int .i64 0), (.str []), (.nil 1), (.atom 28)]))] (.sc (.sl)) []
          (.store (.atom 17) [(.int .i64 5), (.str []), (.atom 27), (.int .i64 0), (.int .i64 0), (.str []), (.nil 1), (.atom 29)]
          (.next 2 [(.atom 17)])))))
          (.sem (.buildSlice 26 2 #[(0, (.tmp 13)), (1, (.tmp 14))]) 26 [(13, (.ag [(.int .i64 7), (.str [43]), (.nil 1), (.int .i64 0), (.int .i64 0), (.str []), (.nil 1), (.atom 16)])), (14, (.ag [(.atom 18), (.atom 19), (.atom 20), (.atom 21), (.atom 22), (.atom 23), (.atom 24), (.atom 25)]))] (.sc (.sl)) []
          (.both
           (.sem (.buildSlice 22 1 #[(0, (.const (.string ⟨#[120]⟩)))]) 22 [] (.sc (.sl)) []
           (.sem (.buildSlice 26 1 #[(0, (.tmp 16))]) 26 [(16, (.ag [(.int .i64 8), (.str []), (.atom 26), (.int .i64 0), (.int .i64 0), (.str []), (.nil 1), (.atom 27)]))] (.sc (.sl)) []
           (.store (.atom 17) [(.int .i64 5), (.str []), (.atom 28), (.int .i64 0), (.int .i64 0), (.str []), (.nil 1), (.atom 29)]
           (.next 2 [(.atom 17)]))))
           (.sem (.buildSlice 26 1 #[(0, (.tmp 16))]) 26 [(16, (.ag [(.int .i64 8), (.str []), (.atom 26), (.int .i64 0), (.int .i64 0), (.str []), (.nil 1), (.atom 27)]))] (.sc (.sl)) []
           (.sem (.buildSlice 22 1 #[(0, (.const (.string ⟨#[120]⟩)))]) 22 [] (.sc (.sl)) []
           (.store (.atom 17) [(.int .i64 5), (.str []), (.atom 29), (.int .i64 0), (.int .i64 0), (.str []), (.nil 1), (.atom 28)]
           (.next 2 [(.atom 17)]))))))))
         (.sem (.buildSlice 26 2 #[(0, (.tmp 13)), (1, (.tmp 14))]) 26 [(13, (.ag [(.int .i64 7), (.str [43]), (.nil 1), (.int .i64 0), (.int .i64 0), (.str []), (.nil 1), (.atom 16)])), (14, (.ag [(.atom 18), (.atom 19), (.atom 20), (.atom 21), (.atom 22), (.atom 23), (.atom 24), (.atom 25)]))] (.sc (.sl)) []
         (.both
          (.sem (.buildSlice 22 1 #[(0, (.const (.string ⟨#[120]⟩)))]) 22 [] (.sc (.sl)) []
          (.sem (.buildSlice 22 1 #[(0, (.const (.string ⟨#[120]⟩)))]) 22 [] (.sc (.sl)) []
          (.sem (.buildSlice 26 1 #[(0, (.tmp 16))]) 26 [(16, (.ag [(.int .i64 8), (.str []), (.atom 28), (.int .i64 0), (.int .i64 0), (.str []), (.nil 1), (.atom 26)]))] (.sc (.sl)) []
          (.store (.atom 17) [(.int .i64 5), (.str []), (.atom 27), (.int .i64 0), (.int .i64 0), (.str []), (.nil 1), (.atom 29)]
          (.next 2 [(.atom 17)])))))
          (.sem (.buildSlice 22 1 #[(0, (.const (.string ⟨#[120]⟩)))]) 22 [] (.sc (.sl)) []
          (.both
           (.sem (.buildSlice 22 1 #[(0, (.const (.string ⟨#[120]⟩)))]) 22 [] (.sc (.sl)) []
           (.sem (.buildSlice 26 1 #[(0, (.tmp 16))]) 26 [(16, (.ag [(.int .i64 8), (.str []), (.atom 27), (.int .i64 0), (.int .i64 0), (.str []), (.nil 1), (.atom 26)]))] (.sc (.sl)) []
           (.store (.atom 17) [(.int .i64 5), (.str []), (.atom 28), (.int .i64 0), (.int .i64 0), (.str []), (.nil 1), (.atom 29)]
           (.next 2 [(.atom 17)]))))
           (.sem (.buildSlice 26 1 #[(0, (.tmp 16))]) 26 [(16, (.ag [(.int .i64 8), (.str []), (.atom 27), (.int .i64 0), (.int .i64 0), (.str []), (.nil 1), (.atom 26)]))] (.sc (.sl)) []
           (.sem (.buildSlice 22 1 #[(0, (.const (.string ⟨#[120]⟩)))]) 22 [] (.sc (.sl)) []
           (.store (.atom 17) [(.int .i64 5), (.str []), (.atom 29), (.int .i64 0), (.int .i64 0), (.str []), (.nil 1), (.atom 28)]
           (.next 2 [(.atom 17)])))))))))))))))))))))
theorem fm_scrimshawlaw06_fixed_eq : execF Tryz.prog { pub := [2], nojoin := false } Tryz.f4 = fm_scrimshawlaw06_fixed := by kernel_rfl
theorem cb_scrimshawlaw06_fixed : callB Tryz.prog 4 = true := by kernel_rfl
theorem tri_scrimshawlaw06_fixed : TriOf Tryz.prog 4 Tryz.f4 fm_scrimshawlaw06_fixed := triOf Tryz.func4 fm_scrimshawlaw06_fixed_eq

/-- scrimshaw/scrimshawref06.Same -/
abbrev n_scrimshawref06_Same : FuncId := 5
def fm_scrimshawref06_Same : Fm VE :=
 (.join 2 [.bool]
  (.ite (.atom 16)
   (.leaf (.sc (.bool false)))
   (.loop 5 [.bool, .int .i64] [(.bool false), (.int .i64 0)]
    (.ite (.cmp .lss (.atom 18) (.len (.atom 7)))
     (.chk [] (.inSl (.atom 7) (.atom 18))
     (.load (.elt (.atom 7) (.atom 18) 8) [.int .i64, .str, .sl, .int .i64, .int .i64, .str, .sl, .sl]
     (.chk [] (.inSl (.atom 15) (.atom 18))
     (.load (.elt (.atom 15) (.atom 18) 8) [.int .i64, .str, .sl, .int .i64, .int .i64, .str, .sl, .sl]
     (.call (.fn 5) [(.ag [(.atom 19), (.atom 20), (.atom 21), (.atom 22), (.atom 23), (.atom 24), (.atom 25), (.atom 26)]), (.ag [(.atom 27), (.atom 28), (.atom 29), (.atom 30), (.atom 31), (.atom 32), (.atom 33), (.atom 34)])] (.sc (.bool)) []
     (.ite (.not (.atom 35))
      (.leaf (.sc (.bool false)))
      (.next 5 [(.atom 17), (.ar .add .i64 (.atom 18) (.int .i64 1))])))))))
     (.leaf (.sc (.bool true))))))
  (.ite (.pick (.cmp .neq (.atom 0) (.atom 8)) (.bool true) (.scmp .neq (.atom 1) (.atom 9)))
   (.next 2 [(.bool true)])
   (.call (.fn 15) [(.sc (.atom 2)), (.sc (.atom 10))] (.sc (.bool)) []
   (.ite (.not (.atom 16))
    (.next 2 [(.bool true)])
    (.call (.fn 11) [(.ag [(.atom 3), (.atom 4), (.atom 5), (.atom 6)]), (.ag [(.atom 11), (.atom 12), (.atom 13), (.atom 14)])] (.sc (.bool)) []
    (.next 2 [(.pick (.not (.atom 17)) (.bool true) (.cmp .neq (.len (.atom 7)) (.len (.atom 15))))]))))))
theorem fm_scrimshawref06_Same_eq : execF Tryz.prog { pub := [], nojoin := false } Tryz.f5 = fm_scrimshawref06_Same := by kernel_rfl
theorem cb_scrimshawref06_Same : callB Tryz.prog 5 = true := by kernel_rfl
theorem tri_scrimshawref06_Same : TriOf Tryz.prog 5 Tryz.f5 fm_scrimshawref06_Same := triOf Tryz.func5 fm_scrimshawref06_Same_eq

/-- scrimshaw/core.Rename -/
abbrev n_core_Rename : FuncId := 6
def fm_core_Rename : Fm VE :=
 (.call (.fn 13) [(.ag [(.atom 0), (.atom 1), (.atom 2), (.atom 3), (.atom 4), (.atom 5), (.atom 6), (.atom 7)])] (.sc (.int .i64)) []
 (.ite (.cmp .neq (.atom 8) (.int .i64 0))
  (.leaf (.ag [(.int .i64 0), (.str []), (.nil 1), (.int .i64 0), (.int .i64 0), (.str []), (.nil 1), (.nil 1)]))
  (.sem (.makeMap 44 none) 44 [] (.sc (.map)) []
  (.new 46 [(.atom 9), (.int .i64 0)]
  (.call (.fn 16) [(.sc (.atom 10)), (.ag [(.atom 0), (.atom 1), (.atom 2), (.atom 3), (.atom 4), (.atom 5), (.atom 6), (.atom 7)])] (.tu []) []
  (.sem (.makeMap 44 none) 44 [] (.sc (.map)) []
  (.call (.fn 17) [(.sc (.atom 10)), (.ag [(.atom 0), (.atom 1), (.atom 2), (.atom 3), (.atom 4), (.atom 5), (.atom 6), (.atom 7)]), (.sc (.atom 11))] (.ag [.int .i64, .str, .sl, .int .i64, .int .i64, .str, .sl, .sl]) []
  (.leaf (.ag [(.atom 12), (.atom 13), (.atom 14), (.atom 15), (.atom 16), (.atom 17), (.atom 18), (.atom 19)])))))))))
theorem fm_core_Rename_eq : execF Tryz.prog { pub := [10], nojoin := false } Tryz.f6 = fm_core_Rename := by kernel_rfl
theorem cb_core_Rename : callB Tryz.prog 6 = true := by kernel_rfl
theorem tri_core_Rename : TriOf Tryz.prog 6 Tryz.f6 fm_core_Rename := triOf Tryz.func6 fm_core_Rename_eq

/-- scrimshaw/scrimshawref06.Rename -/
abbrev n_scrimshawref06_Rename : FuncId := 7
def fm_scrimshawref06_Rename : Fm VE :=
 (.call (.fn 18) [(.ag [(.atom 0), (.atom 1), (.atom 2), (.atom 3), (.atom 4), (.atom 5), (.atom 6), (.atom 7)])] (.sc (.int .i64)) []
 (.ite (.cmp .neq (.atom 8) (.int .i64 0))
  (.leaf (.ag [(.int .i64 0), (.str []), (.nil 1), (.int .i64 0), (.int .i64 0), (.str []), (.nil 1), (.nil 1)]))
  (.join 3 [.ptr]
   (.load (.atom 9) [.int .i64, .str, .sl, .int .i64, .int .i64, .str, .sl, .sl]
   (.leaf (.ag [(.atom 10), (.atom 11), (.atom 12), (.atom 13), (.atom 14), (.atom 15), (.atom 16), (.atom 17)])))
   (.both
    (.call (.fn 20) [(.ag [(.atom 0), (.atom 1), (.atom 2), (.atom 3), (.atom 4), (.atom 5), (.atom 6), (.atom 7)]), (.sc (.nil 1))] (.sc (.sl)) []
    (.both
     (.call (.fn 19) [(.ag [(.atom 0), (.atom 1), (.atom 2), (.atom 3), (.atom 4), (.atom 5), (.atom 6), (.atom 7)]), (.sc (.nil 1)), (.sc (.atom 9)), (.sc (.int .i64 0))] (.tu [(true, [.int .i64, .str, .sl, .int .i64, .int .i64, .str, .sl, .sl]), (false, [.int .i64])]) []
     (.new 28 [(.int .i64 0), (.str []), (.nil 1), (.int .i64 0), (.int .i64 0), (.str []), (.nil 1), (.nil 1)]
     (.store (.atom 19) [(.atom 10), (.atom 11), (.atom 12), (.atom 13), (.atom 14), (.atom 15), (.atom 16), (.atom 17)]
     (.next 3 [(.atom 19)]))))
     (.new 28 [(.int .i64 0), (.str []), (.nil 1), (.int .i64 0), (.int .i64 0), (.str []), (.nil 1), (.nil 1)]
     (.call (.fn 19) [(.ag [(.atom 0), (.atom 1), (.atom 2), (.atom 3), (.atom 4), (.atom 5), (.atom 6), (.atom 7)]), (.sc (.nil 1)), (.sc (.atom 9)), (.sc (.int .i64 0))] (.tu [(true, [.int .i64, .str, .sl, .int .i64, .int .i64, .str, .sl, .sl]), (false, [.int .i64])]) []
     (.store (.atom 10) [(.atom 11), (.atom 12), (.atom 13), (.atom 14), (.atom 15), (.atom 16), (.atom 17), (.atom 18)]
     (.next 3 [(.atom 10)]))))))
    (.new 28 [(.int .i64 0), (.str []), (.nil 1), (.int .i64 0), (.int .i64 0), (.str []), (.nil 1), (.nil 1)]
    (.call (.fn 20) [(.ag [(.atom 0), (.atom 1), (.atom 2), (.atom 3), (.atom 4), (.atom 5), (.atom 6), (.atom 7)]), (.sc (.nil 1))] (.sc (.sl)) []
    (.call (.fn 19) [(.ag [(.atom 0), (.atom 1), (.atom 2), (.atom 3), (.atom 4), (.atom 5), (.atom 6), (.atom 7)]), (.sc (.nil 1)), (.sc (.atom 10)), (.sc (.int .i64 0))] (.tu [(true, [.int .i64, .str, .sl, .int .i64, .int .i64, .str, .sl, .sl]), (false, [.int .i64])]) []
    (.store (.atom 9) [(.atom 11), (.atom 12), (.atom 13), (.atom 14), (.atom 15), (.atom 16), (.atom 17), (.atom 18)]
    (.next 3 [(.atom 9)])))))))))
theorem fm_scrimshawref06_Rename_eq : execF Tryz.prog { pub := [3], nojoin := false } Tryz.f7 = fm_scrimshawref06_Rename := by kernel_rfl
theorem cb_scrimshawref06_Rename : callB Tryz.prog 7 = true := by kernel_rfl
theorem tri_scrimshawref06_Rename : TriOf Tryz.prog 7 Tryz.f7 fm_scrimshawref06_Rename := triOf Tryz.func7 fm_scrimshawref06_Rename_eq

/-- scrimshaw/scrimshawlaw06.ref -/
abbrev n_scrimshawlaw06_ref : FuncId := 8
def fm_scrimshawlaw06_ref : Fm VE :=
 (.leaf (.ag [(.int .i64 1), (.atom 0), (.nil 1), (.int .i64 0), (.int .i64 0), (.str []), (.nil 1), (.nil 1)]))
theorem fm_scrimshawlaw06_ref_eq : execF Tryz.prog { pub := [], nojoin := false } Tryz.f8 = fm_scrimshawlaw06_ref := by kernel_rfl
theorem cb_scrimshawlaw06_ref : callB Tryz.prog 8 = true := by kernel_rfl
theorem tri_scrimshawlaw06_ref : TriOf Tryz.prog 8 Tryz.f8 fm_scrimshawlaw06_ref := triOf Tryz.func8 fm_scrimshawlaw06_ref_eq

/-- scrimshaw/core.Data -/
abbrev n_core_Data : FuncId := 9
def fm_core_Data : Fm VE :=
 (.call (.fn 13) [(.ag [(.atom 0), (.atom 1), (.atom 2), (.atom 3), (.atom 4), (.atom 5), (.atom 6), (.atom 7)])] (.sc (.int .i64)) []
 (.ite (.cmp .neq (.atom 8) (.int .i64 0))
  (.leaf (.tu [(true, [(.int .i64 0), (.int .i64 0), (.str []), (.nil 1)]), (false, [(.atom 8)])]))
  (.call (.fn 21) [(.ag [(.atom 0), (.atom 1), (.atom 2), (.atom 3), (.atom 4), (.atom 5), (.atom 6), (.atom 7)])] (.ag [.int .i64, .int .i64, .str, .sl]) []
  (.leaf (.tu [(true, [(.atom 9), (.atom 10), (.atom 11), (.atom 12)]), (false, [(.int .i64 0)])])))))
theorem fm_core_Data_eq : execF Tryz.prog { pub := [], nojoin := false } Tryz.f9 = fm_core_Data := by kernel_rfl
theorem cb_core_Data : callB Tryz.prog 9 = true := by kernel_rfl
theorem tri_core_Data : TriOf Tryz.prog 9 Tryz.f9 fm_core_Data := triOf Tryz.func9 fm_core_Data_eq

/-- scrimshaw/core.Free -/
abbrev n_core_Free : FuncId := 10
def fm_core_Free : Fm VE :=
 (.sem (.makeMap 44 none) 44 [] (.sc (.map)) []
 (.sem (.makeMap 44 none) 44 [] (.sc (.map)) []
 (.call (.fn 22) [(.ag [(.atom 0), (.atom 1), (.atom 2), (.atom 3), (.atom 4), (.atom 5), (.atom 6), (.atom 7)]), (.sc (.atom 9)), (.sc (.atom 8))] (.tu []) []
 (.call (.fn 24) [(.sc (.atom 8))] (.sc (.any)) []
 (.call (.fn 23) [(.sc (.atom 10))] (.sc (.sl)) []
 (.leaf (.sc (.atom 11))))))))
theorem fm_core_Free_eq : execF Tryz.prog { pub := [], nojoin := false } Tryz.f10 = fm_core_Free := by kernel_rfl
theorem cb_core_Free : callB Tryz.prog 10 = true := by kernel_rfl
theorem tri_core_Free : TriOf Tryz.prog 10 Tryz.f10 fm_core_Free := triOf Tryz.func10 fm_core_Free_eq

/-- scrimshaw/scrimshawref02.Same -/
abbrev n_scrimshawref02_Same : FuncId := 11
def fm_scrimshawref02_Same : Fm VE :=
 (.ite (.pick (.pick (.pick (.cmp .neq (.atom 0) (.atom 4)) (.bool true) (.cmp .neq (.atom 1) (.atom 5))) (.bool true) (.scmp .neq (.atom 2) (.atom 6))) (.bool true) (.cmp .neq (.len (.atom 3)) (.len (.atom 7))))
  (.leaf (.sc (.bool false)))
  (.loop 5 [.bool, .int .i64] [(.bool false), (.int .i64 0)]
   (.ite (.cmp .lss (.atom 9) (.len (.atom 3)))
    (.chk [] (.inSl (.atom 3) (.atom 9))
    (.load (.elt (.atom 3) (.atom 9) 4) [.int .i64, .int .i64, .str, .sl]
    (.chk [] (.inSl (.atom 7) (.atom 9))
    (.load (.elt (.atom 7) (.atom 9) 4) [.int .i64, .int .i64, .str, .sl]
    (.call (.fn 11) [(.ag [(.atom 10), (.atom 11), (.atom 12), (.atom 13)]), (.ag [(.atom 14), (.atom 15), (.atom 16), (.atom 17)])] (.sc (.bool)) []
    (.ite (.not (.atom 18))
     (.leaf (.sc (.bool false)))
     (.next 5 [(.atom 8), (.ar .add .i64 (.atom 9) (.int .i64 1))])))))))
    (.leaf (.sc (.bool true))))))
theorem fm_scrimshawref02_Same_eq : execF Tryz.prog { pub := [], nojoin := false } Tryz.f11 = fm_scrimshawref02_Same := by kernel_rfl
theorem cb_scrimshawref02_Same : callB Tryz.prog 11 = true := by kernel_rfl
theorem tri_scrimshawref02_Same : TriOf Tryz.prog 11 Tryz.f11 fm_scrimshawref02_Same := triOf Tryz.func11 fm_scrimshawref02_Same_eq

/-- scrimshaw/scrimshawref06.Data -/
abbrev n_scrimshawref06_Data : FuncId := 12
def fm_scrimshawref06_Data : Fm VE :=
 (.ite (.cmp .eql (.atom 0) (.int .i64 1))
  (.call (.fn 25) [(.sc (.atom 1))] (.ag [.int .i64, .int .i64, .str, .sl]) []
  (.leaf (.ag [(.atom 8), (.atom 9), (.atom 10), (.atom 11)])))
  (.call (.fn 26) [(.sc (.atom 0))] (.sc (.str)) []
  (.call (.fn 25) [(.sc (.atom 8))] (.ag [.int .i64, .int .i64, .str, .sl]) []
  (.sem (.buildSlice 23 1 #[(0, (.tmp 19))]) 23 [(19, (.ag [(.atom 9), (.atom 10), (.atom 11), (.atom 12)]))] (.sc (.sl)) []
  (.sem (.buildSlice 23 0 #[]) 23 [] (.sc (.sl)) []
  (.loop 7 [.sl, .int .i64] [(.atom 14), (.int .i64 0)]
   (.ite (.cmp .lss (.atom 16) (.len (.atom 7)))
    (.chk [] (.inSl (.atom 7) (.atom 16))
    (.load (.elt (.atom 7) (.atom 16) 8) [.int .i64, .str, .sl, .int .i64, .int .i64, .str, .sl, .sl]
    (.call (.fn 12) [(.ag [(.atom 17), (.atom 18), (.atom 19), (.atom 20), (.atom 21), (.atom 22), (.atom 23), (.atom 24)])] (.ag [.int .i64, .int .i64, .str, .sl]) []
    (.sem (.buildSlice 23 1 #[(0, (.tmp 35))]) 23 [(35, (.ag [(.atom 25), (.atom 26), (.atom 27), (.atom 28)]))] (.sc (.sl)) []
    (.sem (.call ⟨.builtin .append, #[(.tmp 29), (.tmp 36)], #[23, 23]⟩) 23 [(29, (.sc (.atom 15))), (36, (.sc (.atom 29)))] (.sc (.sl)) []
    (.next 7 [(.atom 30), (.ar .add .i64 (.atom 16) (.int .i64 1))]))))))
    (.sem (.buildSlice 23 0 #[]) 23 [] (.sc (.sl)) []
    (.join 12 [.sl, .sl, .sl]
     (.sem (.call ⟨.builtin .append, #[(.tmp 113), (.tmp 114)], #[23, 23]⟩) 23 [(113, (.sc (.atom 18))), (114, (.sc (.atom 19)))] (.sc (.sl)) []
     (.call (.fn 27) [(.sc (.atom 21))] (.ag [.int .i64, .int .i64, .str, .sl]) []
     (.leaf (.ag [(.atom 22), (.atom 23), (.atom 24), (.atom 25)]))))
     (.ite (.cmp .eql (.atom 0) (.int .i64 0))
      (.sem (.buildSlice 23 1 #[(0, (.tmp 48))]) 23 [(48, (.ag [(.atom 3), (.atom 4), (.atom 5), (.atom 6)]))] (.sc (.sl)) []
      (.sem (.call ⟨.builtin .append, #[(.tmp 46), (.tmp 49)], #[23, 23]⟩) 23 [(46, (.sc (.atom 13))), (49, (.sc (.atom 18)))] (.sc (.sl)) []
      (.next 12 [(.atom 19), (.atom 15), (.atom 17)])))
      (.ite (.pick (.cmp .eql (.atom 0) (.int .i64 2)) (.cmp .eql (.atom 0) (.int .i64 2)) (.cmp .eql (.atom 0) (.int .i64 7)))
       (.call (.fn 25) [(.sc (.atom 1))] (.ag [.int .i64, .int .i64, .str, .sl]) []
       (.sem (.buildSlice 23 1 #[(0, (.tmp 57))]) 23 [(57, (.ag [(.atom 18), (.atom 19), (.atom 20), (.atom 21)]))] (.sc (.sl)) []
       (.sem (.call ⟨.builtin .append, #[(.tmp 54), (.tmp 58)], #[23, 23]⟩) 23 [(54, (.sc (.atom 13))), (58, (.sc (.atom 22)))] (.sc (.sl)) []
       (.next 12 [(.atom 23), (.atom 15), (.atom 17)]))))
       (.ite (.cmp .eql (.atom 0) (.int .i64 5))
        (.loop 20 [.sl, .int .i64] [(.atom 17), (.int .i64 0)]
         (.ite (.cmp .lss (.atom 19) (.len (.atom 2)))
          (.chk [] (.inSl (.atom 2) (.atom 19))
          (.load (.elt (.atom 2) (.atom 19) 1) [.str]
          (.call (.fn 25) [(.sc (.atom 20))] (.ag [.int .i64, .int .i64, .str, .sl]) []
          (.sem (.buildSlice 23 1 #[(0, (.tmp 73))]) 23 [(73, (.ag [(.atom 21), (.atom 22), (.atom 23), (.atom 24)]))] (.sc (.sl)) []
          (.sem (.call ⟨.builtin .append, #[(.tmp 67), (.tmp 74)], #[23, 23]⟩) 23 [(67, (.sc (.atom 18))), (74, (.sc (.atom 25)))] (.sc (.sl)) []
          (.next 20 [(.atom 26), (.ar .add .i64 (.atom 19) (.int .i64 1))]))))))
          (.call (.fn 27) [(.sc (.atom 18))] (.ag [.int .i64, .int .i64, .str, .sl]) []
          (.sem (.buildSlice 23 1 #[(0, (.tmp 78))]) 23 [(78, (.ag [(.atom 20), (.atom 21), (.atom 22), (.atom 23)]))] (.sc (.sl)) []
          (.sem (.call ⟨.builtin .append, #[(.tmp 76), (.tmp 79)], #[23, 23]⟩) 23 [(76, (.sc (.atom 13))), (79, (.sc (.atom 24)))] (.sc (.sl)) []
          (.next 12 [(.atom 25), (.atom 15), (.atom 18)]))))))
        (.join 18 [.bool]
         (.ite (.atom 18)
          (.loop 21 [.sl, .int .i64] [(.atom 17), (.int .i64 0)]
           (.ite (.cmp .lss (.atom 20) (.len (.atom 2)))
            (.chk [] (.inSl (.atom 2) (.atom 20))
            (.load (.elt (.atom 2) (.atom 20) 1) [.str]
            (.chk [] (.inSl (.atom 15) (.atom 20))
            (.load (.elt (.atom 15) (.atom 20) 4) [.int .i64, .int .i64, .str, .sl]
            (.call (.fn 25) [(.sc (.atom 21))] (.ag [.int .i64, .int .i64, .str, .sl]) [((.elt (.atom 15) (.atom 20) 4), [(.atom 22), (.atom 23), (.atom 24), (.atom 25)])]
            (.sem (.buildSlice 23 2 #[(0, (.tmp 96)), (1, (.tmp 100))]) 23 [(96, (.ag [(.atom 26), (.atom 27), (.atom 28), (.atom 29)])), (100, (.ag [(.atom 22), (.atom 23), (.atom 24), (.atom 25)]))] (.sc (.sl)) []
            (.call (.fn 27) [(.sc (.atom 30))] (.ag [.int .i64, .int .i64, .str, .sl]) []
            (.sem (.buildSlice 23 1 #[(0, (.tmp 102))]) 23 [(102, (.ag [(.atom 31), (.atom 32), (.atom 33), (.atom 34)]))] (.sc (.sl)) []
            (.sem (.call ⟨.builtin .append, #[(.tmp 90), (.tmp 103)], #[23, 23]⟩) 23 [(90, (.sc (.atom 19))), (103, (.sc (.atom 35)))] (.sc (.sl)) []
            (.next 21 [(.atom 36), (.ar .add .i64 (.atom 20) (.int .i64 1))]))))))))))
            (.call (.fn 27) [(.sc (.atom 19))] (.ag [.int .i64, .int .i64, .str, .sl]) []
            (.sem (.buildSlice 23 1 #[(0, (.tmp 107))]) 23 [(107, (.ag [(.atom 21), (.atom 22), (.atom 23), (.atom 24)]))] (.sc (.sl)) []
            (.sem (.call ⟨.builtin .append, #[(.tmp 105), (.tmp 108)], #[23, 23]⟩) 23 [(105, (.sc (.atom 13))), (108, (.sc (.atom 25)))] (.sc (.sl)) []
            (.chk [] (.sub (.cap (.atom 15)) (.len (.atom 2)) (.len (.atom 15)))
            (.next 12 [(.atom 26), (.sls (.atom 15) (.len (.atom 2)) (.len (.atom 15)) 4), (.atom 19)])))))))
          (.next 12 [(.atom 13), (.atom 15), (.atom 17)]))
         (.ite (.cmp .eql (.atom 0) (.int .i64 8))
          (.next 18 [(.cmp .eql (.atom 0) (.int .i64 8))])
          (.next 18 [(.pick (.cmp .eql (.atom 0) (.int .i64 9)) (.cmp .eql (.atom 0) (.int .i64 9)) (.cmp .eql (.atom 0) (.int .i64 10)))])))))))))))))))
theorem fm_scrimshawref06_Data_eq : execF Tryz.prog { pub := [], nojoin := false } Tryz.f12 = fm_scrimshawref06_Data := by kernel_rfl
theorem cb_scrimshawref06_Data : callB Tryz.prog 12 = true := by kernel_rfl
theorem tri_scrimshawref06_Data : TriOf Tryz.prog 12 Tryz.f12 fm_scrimshawref06_Data := triOf Tryz.func12 fm_scrimshawref06_Data_eq

/-- scrimshaw/core.Check -/
abbrev n_core_Check : FuncId := 13
def fm_core_Check : Fm VE :=
 (.new 3 [(.int .i64 0)]
 (.call (.fn 28) [(.ag [(.atom 0), (.atom 1), (.atom 2), (.atom 3), (.atom 4), (.atom 5), (.atom 6), (.atom 7)]), (.sc (.int .i64 0)), (.sc (.atom 8))] (.sc (.int .i64)) []
 (.leaf (.sc (.atom 9)))))
theorem fm_core_Check_eq : execF Tryz.prog { pub := [4], nojoin := false } Tryz.f13 = fm_core_Check := by kernel_rfl
theorem cb_core_Check : callB Tryz.prog 13 = true := by kernel_rfl
theorem tri_core_Check : TriOf Tryz.prog 13 Tryz.f13 fm_core_Check := triOf Tryz.func13 fm_core_Check_eq

/-- scrimshaw/core.Arity -/
abbrev n_core_Arity : FuncId := 14
def fm_core_Arity : Fm VE :=
 (.join 3 [.bool]
  (.ite (.atom 1)
   (.leaf (.sc (.int .i64 0)))
   (.join 4 [.bool]
    (.ite (.atom 2)
     (.leaf (.sc (.int .i64 1)))
     (.join 5 [.bool]
      (.ite (.atom 3)
       (.leaf (.sc (.int .i64 2)))
       (.ite (.pick (.scmp .eql (.atom 0) (.str [118, 101, 99, 116, 111, 114, 45, 115, 101, 116, 33])) (.scmp .eql (.atom 0) (.str [118, 101, 99, 116, 111, 114, 45, 115, 101, 116, 33])) (.scmp .eql (.atom 0) (.str [115, 116, 114, 105, 110, 103, 45, 115, 101, 116, 33])))
        (.leaf (.sc (.int .i64 3)))
        (.leaf (.sc (.int .i64 (-1))))))
      (.ite (.scmp .eql (.atom 0) (.str [43]))
       (.next 5 [(.scmp .eql (.atom 0) (.str [43]))])
       (.ite (.scmp .eql (.atom 0) (.str [45]))
        (.next 5 [(.scmp .eql (.atom 0) (.str [45]))])
        (.ite (.scmp .eql (.atom 0) (.str [42]))
         (.next 5 [(.scmp .eql (.atom 0) (.str [42]))])
         (.ite (.scmp .eql (.atom 0) (.str [113, 117, 111, 116, 105, 101, 110, 116]))
          (.next 5 [(.scmp .eql (.atom 0) (.str [113, 117, 111, 116, 105, 101, 110, 116]))])
          (.ite (.scmp .eql (.atom 0) (.str [114, 101, 109, 97, 105, 110, 100, 101, 114]))
           (.next 5 [(.scmp .eql (.atom 0) (.str [114, 101, 109, 97, 105, 110, 100, 101, 114]))])
           (.ite (.scmp .eql (.atom 0) (.str [60]))
            (.next 5 [(.scmp .eql (.atom 0) (.str [60]))])
            (.ite (.scmp .eql (.atom 0) (.str [61]))
             (.next 5 [(.scmp .eql (.atom 0) (.str [61]))])
             (.ite (.scmp .eql (.atom 0) (.str [101, 113, 63]))
              (.next 5 [(.scmp .eql (.atom 0) (.str [101, 113, 63]))])
              (.ite (.scmp .eql (.atom 0) (.str [99, 111, 110, 115]))
               (.next 5 [(.scmp .eql (.atom 0) (.str [99, 111, 110, 115]))])
               (.ite (.scmp .eql (.atom 0) (.str [115, 101, 116, 45, 99, 97, 114, 33]))
                (.next 5 [(.scmp .eql (.atom 0) (.str [115, 101, 116, 45, 99, 97, 114, 33]))])
                (.ite (.scmp .eql (.atom 0) (.str [115, 101, 116, 45, 99, 100, 114, 33]))
                 (.next 5 [(.scmp .eql (.atom 0) (.str [115, 101, 116, 45, 99, 100, 114, 33]))])
                 (.ite (.scmp .eql (.atom 0) (.str [109, 97, 107, 101, 45, 118, 101, 99, 116, 111, 114]))
                  (.next 5 [(.scmp .eql (.atom 0) (.str [109, 97, 107, 101, 45, 118, 101, 99, 116, 111, 114]))])
                  (.ite (.scmp .eql (.atom 0) (.str [118, 101, 99, 116, 111, 114, 45, 114, 101, 102]))
                   (.next 5 [(.scmp .eql (.atom 0) (.str [118, 101, 99, 116, 111, 114, 45, 114, 101, 102]))])
                   (.ite (.scmp .eql (.atom 0) (.str [109, 97, 107, 101, 45, 115, 116, 114, 105, 110, 103]))
                    (.next 5 [(.scmp .eql (.atom 0) (.str [109, 97, 107, 101, 45, 115, 116, 114, 105, 110, 103]))])
                    (.next 5 [(.pick (.scmp .eql (.atom 0) (.str [115, 116, 114, 105, 110, 103, 45, 114, 101, 102])) (.scmp .eql (.atom 0) (.str [115, 116, 114, 105, 110, 103, 45, 114, 101, 102])) (.scmp .eql (.atom 0) (.str [37, 115, 101, 116, 45, 98, 111, 120, 33])))])))))))))))))))))
    (.ite (.scmp .eql (.atom 0) (.str [110, 117, 108, 108, 63]))
     (.next 4 [(.scmp .eql (.atom 0) (.str [110, 117, 108, 108, 63]))])
     (.ite (.scmp .eql (.atom 0) (.str [112, 97, 105, 114, 63]))
      (.next 4 [(.scmp .eql (.atom 0) (.str [112, 97, 105, 114, 63]))])
      (.ite (.scmp .eql (.atom 0) (.str [118, 101, 99, 116, 111, 114, 63]))
       (.next 4 [(.scmp .eql (.atom 0) (.str [118, 101, 99, 116, 111, 114, 63]))])
       (.ite (.scmp .eql (.atom 0) (.str [115, 116, 114, 105, 110, 103, 63]))
        (.next 4 [(.scmp .eql (.atom 0) (.str [115, 116, 114, 105, 110, 103, 63]))])
        (.ite (.scmp .eql (.atom 0) (.str [115, 121, 109, 98, 111, 108, 63]))
         (.next 4 [(.scmp .eql (.atom 0) (.str [115, 121, 109, 98, 111, 108, 63]))])
         (.ite (.scmp .eql (.atom 0) (.str [99, 104, 97, 114, 63]))
          (.next 4 [(.scmp .eql (.atom 0) (.str [99, 104, 97, 114, 63]))])
          (.ite (.scmp .eql (.atom 0) (.str [105, 110, 116, 101, 103, 101, 114, 63]))
           (.next 4 [(.scmp .eql (.atom 0) (.str [105, 110, 116, 101, 103, 101, 114, 63]))])
           (.ite (.scmp .eql (.atom 0) (.str [98, 111, 111, 108, 101, 97, 110, 63]))
            (.next 4 [(.scmp .eql (.atom 0) (.str [98, 111, 111, 108, 101, 97, 110, 63]))])
            (.ite (.scmp .eql (.atom 0) (.str [112, 114, 111, 99, 101, 100, 117, 114, 101, 63]))
             (.next 4 [(.scmp .eql (.atom 0) (.str [112, 114, 111, 99, 101, 100, 117, 114, 101, 63]))])
             (.ite (.scmp .eql (.atom 0) (.str [101, 111, 102, 45, 111, 98, 106, 101, 99, 116, 63]))
              (.next 4 [(.scmp .eql (.atom 0) (.str [101, 111, 102, 45, 111, 98, 106, 101, 99, 116, 63]))])
              (.ite (.scmp .eql (.atom 0) (.str [99, 97, 114]))
               (.next 4 [(.scmp .eql (.atom 0) (.str [99, 97, 114]))])
               (.ite (.scmp .eql (.atom 0) (.str [99, 100, 114]))
                (.next 4 [(.scmp .eql (.atom 0) (.str [99, 100, 114]))])
                (.ite (.scmp .eql (.atom 0) (.str [118, 101, 99, 116, 111, 114, 45, 108, 101, 110, 103, 116, 104]))
                 (.next 4 [(.scmp .eql (.atom 0) (.str [118, 101, 99, 116, 111, 114, 45, 108, 101, 110, 103, 116, 104]))])
                 (.ite (.scmp .eql (.atom 0) (.str [115, 116, 114, 105, 110, 103, 45, 108, 101, 110, 103, 116, 104]))
                  (.next 4 [(.scmp .eql (.atom 0) (.str [115, 116, 114, 105, 110, 103, 45, 108, 101, 110, 103, 116, 104]))])
                  (.ite (.scmp .eql (.atom 0) (.str [99, 104, 97, 114, 45, 62, 105, 110, 116, 101, 103, 101, 114]))
                   (.next 4 [(.scmp .eql (.atom 0) (.str [99, 104, 97, 114, 45, 62, 105, 110, 116, 101, 103, 101, 114]))])
                   (.ite (.scmp .eql (.atom 0) (.str [105, 110, 116, 101, 103, 101, 114, 45, 62, 99, 104, 97, 114]))
                    (.next 4 [(.scmp .eql (.atom 0) (.str [105, 110, 116, 101, 103, 101, 114, 45, 62, 99, 104, 97, 114]))])
                    (.ite (.scmp .eql (.atom 0) (.str [119, 114, 105, 116, 101, 45, 117, 56]))
                     (.next 4 [(.scmp .eql (.atom 0) (.str [119, 114, 105, 116, 101, 45, 117, 56]))])
                     (.ite (.scmp .eql (.atom 0) (.str [37, 98, 111, 120]))
                      (.next 4 [(.scmp .eql (.atom 0) (.str [37, 98, 111, 120]))])
                      (.ite (.scmp .eql (.atom 0) (.str [37, 117, 110, 98, 111, 120]))
                       (.next 4 [(.scmp .eql (.atom 0) (.str [37, 117, 110, 98, 111, 120]))])
                       (.next 4 [(.pick (.scmp .eql (.atom 0) (.str [37, 119, 105, 110, 100, 33])) (.scmp .eql (.atom 0) (.str [37, 119, 105, 110, 100, 33])) (.scmp .eql (.atom 0) (.str [37, 99, 97, 108, 108, 99, 99])))]))))))))))))))))))))))
  (.ite (.scmp .eql (.atom 0) (.str [114, 101, 97, 100, 45, 117, 56]))
   (.next 3 [(.scmp .eql (.atom 0) (.str [114, 101, 97, 100, 45, 117, 56]))])
   (.ite (.scmp .eql (.atom 0) (.str [101, 114, 114, 111, 114]))
    (.next 3 [(.scmp .eql (.atom 0) (.str [101, 114, 114, 111, 114]))])
    (.ite (.scmp .eql (.atom 0) (.str [118, 111, 105, 100]))
     (.next 3 [(.scmp .eql (.atom 0) (.str [118, 111, 105, 100]))])
     (.next 3 [(.pick (.scmp .eql (.atom 0) (.str [37, 119, 105, 110, 100, 101, 114, 115])) (.scmp .eql (.atom 0) (.str [37, 119, 105, 110, 100, 101, 114, 115])) (.scmp .eql (.atom 0) (.str [37, 117, 110, 115, 101, 116])))])))))
theorem fm_core_Arity_eq : execF Tryz.prog { pub := [], nojoin := false } Tryz.f14 = fm_core_Arity := by kernel_rfl
theorem cb_core_Arity : callB Tryz.prog 14 = true := by kernel_rfl
theorem tri_core_Arity : TriOf Tryz.prog 14 Tryz.f14 fm_core_Arity := triOf Tryz.func14 fm_core_Arity_eq

/-- scrimshaw/scrimshawref06.SameTexts -/
abbrev n_scrimshawref06_SameTexts : FuncId := 15
def fm_scrimshawref06_SameTexts : Fm VE :=
 (.ite (.cmp .neq (.len (.atom 0)) (.len (.atom 1)))
  (.leaf (.sc (.bool false)))
  (.loop 5 [.bool, .int .i64] [(.bool false), (.int .i64 0)]
   (.ite (.cmp .lss (.atom 3) (.len (.atom 0)))
    (.chk [] (.inSl (.atom 0) (.atom 3))
    (.load (.elt (.atom 0) (.atom 3) 1) [.str]
    (.chk [] (.inSl (.atom 1) (.atom 3))
    (.load (.elt (.atom 1) (.atom 3) 1) [.str]
    (.ite (.scmp .neq (.atom 4) (.atom 5))
     (.leaf (.sc (.bool false)))
     (.next 5 [(.atom 2), (.ar .add .i64 (.atom 3) (.int .i64 1))]))))))
    (.leaf (.sc (.bool true))))))
theorem fm_scrimshawref06_SameTexts_eq : execF Tryz.prog { pub := [], nojoin := false } Tryz.f15 = fm_scrimshawref06_SameTexts := by kernel_rfl
theorem cb_scrimshawref06_SameTexts : callB Tryz.prog 15 = true := by kernel_rfl
theorem tri_scrimshawref06_SameTexts : TriOf Tryz.prog 15 Tryz.f15 fm_scrimshawref06_SameTexts := triOf Tryz.func15 fm_scrimshawref06_SameTexts_eq

/-- (*scrimshaw/core.renamer).seen -/
abbrev n_core_renamer__seen : FuncId := 16
def fm_core_renamer__seen : Fm VE :=
 (.join 1 []
  (.loop 4 [.int .i64] [(.int .i64 0)]
   (.ite (.cmp .lss (.atom 9) (.len (.atom 3)))
    (.chk [] (.inSl (.atom 3) (.atom 9))
    (.load (.elt (.atom 3) (.atom 9) 1) [.str]
    (.chk [] (.some (.atom 0))
    (.load (.padd (.atom 0) 0) [.map]
    (.sem (.mapUpdate 44 (.tmp 27) (.tmp 28) (.const (.int .i64 1))) 0 [(27, (.sc (.atom 11))), (28, (.sc (.atom 10)))] (.tu []) []
    (.next 4 [(.ar .add .i64 (.atom 9) (.int .i64 1))]))))))
    (.loop 8 [.int .i64] [(.int .i64 0)]
     (.ite (.cmp .lss (.atom 10) (.len (.atom 8)))
      (.chk [] (.inSl (.atom 8) (.atom 10))
      (.load (.elt (.atom 8) (.atom 10) 8) [.int .i64, .str, .sl, .int .i64, .int .i64, .str, .sl, .sl]
      (.call (.fn 16) [(.sc (.atom 0)), (.ag [(.atom 11), (.atom 12), (.atom 13), (.atom 14), (.atom 15), (.atom 16), (.atom 17), (.atom 18)])] (.tu []) []
      (.next 8 [(.ar .add .i64 (.atom 10) (.int .i64 1))]))))
      (.leaf (.tu []))))))
  (.ite (.cmp .neq (.atom 1) (.int .i64 7))
   (.chk [] (.some (.atom 0))
   (.load (.padd (.atom 0) 0) [.map]
   (.sem (.mapUpdate 44 (.tmp 14) (.tmp 16) (.const (.int .i64 1))) 0 [(14, (.sc (.atom 9))), (16, (.sc (.atom 2)))] (.tu []) []
   (.next 1 []))))
   (.next 1 [])))
theorem fm_core_renamer__seen_eq : execF Tryz.prog { pub := [], nojoin := false } Tryz.f16 = fm_core_renamer__seen := by kernel_rfl
theorem cb_core_renamer__seen : callB Tryz.prog 16 = true := by kernel_rfl
theorem tri_core_renamer__seen : TriOf Tryz.prog 16 Tryz.f16 fm_core_renamer__seen := triOf Tryz.func16 fm_core_renamer__seen_eq

/-- (*scrimshaw/core.renamer).rename -/
abbrev n_core_renamer__rename : FuncId := 17
def fm_core_renamer__rename : Fm VE :=
 (.join 2 [.int .i64, .str, .sl, .int .i64, .int .i64, .str, .sl, .sl]
  (.call (.fn 30) [(.sc (.atom 9))] (.sc (.map)) []
  (.loop 6 [.int .i64, .int .i64, .str, .sl, .int .i64, .int .i64, .str, .sl, .sl] [(.int .i64 0), (.atom 10), (.atom 11), (.atom 12), (.atom 13), (.atom 14), (.atom 15), (.atom 16), (.atom 17)]
   (.ite (.cmp .lss (.atom 19) (.len (.atom 3)))
    (.chk [] (.inSl (.atom 3) (.atom 19))
    (.load (.elt (.atom 3) (.atom 19) 1) [.str]
    (.call (.fn 31) [(.sc (.atom 0))] (.sc (.int .i64)) []
    (.call (.fn 29) [(.sc (.atom 29))] (.sc (.str)) []
    (.sem (.buildSlice 22 1 #[(0, (.tmp 58))]) 22 [(58, (.sc (.atom 30)))] (.sc (.sl)) []
    (.sem (.call ⟨.builtin .append, #[(.tmp 56), (.tmp 59)], #[22, 22]⟩) 22 [(56, (.sc (.atom 22))), (59, (.sc (.atom 31)))] (.sc (.sl)) []
    (.sem (.mapUpdate 44 (.tmp 62) (.tmp 63) (.tmp 64)) 0 [(62, (.sc (.atom 18))), (63, (.sc (.atom 28))), (64, (.sc (.atom 29)))] (.tu []) []
    (.next 6 [(.ar .add .i64 (.atom 19) (.int .i64 1)), (.atom 20), (.atom 21), (.atom 32), (.atom 23), (.atom 24), (.atom 25), (.atom 26), (.atom 27)]))))))))
    (.loop 11 [.int .i64, .int .i64, .str, .sl, .int .i64, .int .i64, .str, .sl, .sl] [(.int .i64 0), (.atom 20), (.atom 21), (.atom 22), (.atom 23), (.atom 24), (.atom 25), (.atom 26), (.atom 27)]
     (.ite (.cmp .lss (.atom 28) (.len (.atom 8)))
      (.join 14 [.int .i64, .str, .sl, .int .i64, .int .i64, .str, .sl, .sl]
       (.next 11 [(.ar .add .i64 (.atom 28) (.int .i64 1)), (.atom 37), (.atom 38), (.atom 39), (.atom 40), (.atom 41), (.atom 42), (.atom 43), (.atom 44)])
       (.chk [] (.inSl (.atom 8) (.atom 28))
       (.load (.elt (.atom 8) (.atom 28) 8) [.int .i64, .str, .sl, .int .i64, .int .i64, .str, .sl, .sl]
       (.call (.fn 32) [(.ag [(.atom 1), (.atom 2), (.atom 3), (.atom 4), (.atom 5), (.atom 6), (.atom 7), (.atom 8)]), (.sc (.atom 28))] (.sc (.bool)) []
       (.ite (.atom 45)
        (.call (.fn 17) [(.sc (.atom 0)), (.ag [(.atom 37), (.atom 38), (.atom 39), (.atom 40), (.atom 41), (.atom 42), (.atom 43), (.atom 44)]), (.sc (.atom 18))] (.ag [.int .i64, .str, .sl, .int .i64, .int .i64, .str, .sl, .sl]) []
        (.sem (.buildSlice 26 1 #[(0, (.tmp 82))]) 26 [(82, (.ag [(.atom 46), (.atom 47), (.atom 48), (.atom 49), (.atom 50), (.atom 51), (.atom 52), (.atom 53)]))] (.sc (.sl)) []
        (.sem (.call ⟨.builtin .append, #[(.tmp 78), (.tmp 83)], #[26, 26]⟩) 26 [(78, (.sc (.atom 36))), (83, (.sc (.atom 54)))] (.sc (.sl)) []
        (.next 14 [(.atom 29), (.atom 30), (.atom 31), (.atom 32), (.atom 33), (.atom 34), (.atom 35), (.atom 55)]))))
        (.call (.fn 17) [(.sc (.atom 0)), (.ag [(.atom 37), (.atom 38), (.atom 39), (.atom 40), (.atom 41), (.atom 42), (.atom 43), (.atom 44)]), (.sc (.atom 9))] (.ag [.int .i64, .str, .sl, .int .i64, .int .i64, .str, .sl, .sl]) []
        (.sem (.buildSlice 26 1 #[(0, (.tmp 91))]) 26 [(91, (.ag [(.atom 46), (.atom 47), (.atom 48), (.atom 49), (.atom 50), (.atom 51), (.atom 52), (.atom 53)]))] (.sc (.sl)) []
        (.sem (.call ⟨.builtin .append, #[(.tmp 87), (.tmp 92)], #[26, 26]⟩) 26 [(87, (.sc (.atom 36))), (92, (.sc (.atom 54)))] (.sc (.sl)) []
        (.next 14 [(.atom 29), (.atom 30), (.atom 31), (.atom 32), (.atom 33), (.atom 34), (.atom 35), (.atom 55)])))))))))
      (.leaf (.ag [(.atom 29), (.atom 30), (.atom 31), (.atom 32), (.atom 33), (.atom 34), (.atom 35), (.atom 36)])))))))
  (.sem (.lookup 44 (.tmp 24) (.tmp 26) true) 62 [(24, (.sc (.atom 9))), (26, (.sc (.atom 2)))] (.tu [(false, [.int .i64]), (false, [.bool])]) []
  (.ite (.pick (.atom 11) (.pick (.cmp .eql (.atom 1) (.int .i64 1)) (.bool true) (.cmp .eql (.atom 1) (.int .i64 2))) (.bool false))
   (.call (.fn 29) [(.sc (.atom 10))] (.sc (.str)) []
   (.next 2 [(.atom 1), (.atom 12), (.nil 1), (.atom 4), (.atom 5), (.atom 6), (.atom 7), (.nil 1)]))
   (.next 2 [(.atom 1), (.atom 2), (.nil 1), (.atom 4), (.atom 5), (.atom 6), (.atom 7), (.nil 1)]))))
theorem fm_core_renamer__rename_eq : execF Tryz.prog { pub := [], nojoin := false } Tryz.f17 = fm_core_renamer__rename := by kernel_rfl
theorem cb_core_renamer__rename : callB Tryz.prog 17 = true := by kernel_rfl
theorem tri_core_renamer__rename : TriOf Tryz.prog 17 Tryz.f17 fm_core_renamer__rename := triOf Tryz.func17 fm_core_renamer__rename_eq

/-- scrimshaw/scrimshawref06.Check -/
abbrev n_scrimshawref06_Check : FuncId := 18
def fm_scrimshawref06_Check : Fm VE :=
 (.call (.fn 33) [(.ag [(.atom 0), (.atom 1), (.atom 2), (.atom 3), (.atom 4), (.atom 5), (.atom 6), (.atom 7)]), (.sc (.int .i64 0)), (.sc (.int .i64 0))] (.tu [(false, [.int .i64]), (false, [.int .i64])]) []
 (.leaf (.sc (.atom 9))))
theorem fm_scrimshawref06_Check_eq : execF Tryz.prog { pub := [], nojoin := false } Tryz.f18 = fm_scrimshawref06_Check := by kernel_rfl
theorem cb_scrimshawref06_Check : callB Tryz.prog 18 = true := by kernel_rfl
theorem tri_scrimshawref06_Check : TriOf Tryz.prog 18 Tryz.f18 fm_scrimshawref06_Check := triOf Tryz.func18 fm_scrimshawref06_Check_eq

/-- scrimshaw/scrimshawref06.rename -/
abbrev n_scrimshawref06_rename : FuncId := 19
def fm_scrimshawref06_rename : Fm VE :=
 (.join 2 [.int .i64, .str, .sl, .int .i64, .int .i64, .str, .sl, .sl]
  (.sem (.buildSlice 68 0 #[]) 68 [] (.sc (.sl)) []
  (.sem (.call ⟨.builtin .append, #[(.tmp 52), (.tmp 53)], #[68, 68]⟩) 68 [(52, (.sc (.atom 19))), (53, (.sc (.atom 8)))] (.sc (.sl)) []
  (.loop 6 [.int .i64, .sl, .int .i64, .int .i64, .str, .sl, .int .i64, .int .i64, .str, .sl, .sl] [(.atom 10), (.atom 20), (.int .i64 0), (.atom 11), (.atom 12), (.atom 13), (.atom 14), (.atom 15), (.atom 16), (.atom 17), (.atom 18)]
   (.ite (.cmp .lss (.atom 23) (.len (.atom 2)))
    (.call (.fn 34) [(.sc (.atom 9)), (.sc (.atom 21))] (.tu [(false, [.str]), (false, [.int .i64])]) []
    (.sem (.buildSlice 22 1 #[(0, (.tmp 70))]) 22 [(70, (.sc (.atom 32)))] (.sc (.sl)) []
    (.sem (.call ⟨.builtin .append, #[(.tmp 69), (.tmp 71)], #[22, 22]⟩) 22 [(69, (.sc (.atom 26))), (71, (.sc (.atom 34)))] (.sc (.sl)) []
    (.chk [] (.inSl (.atom 2) (.atom 23))
    (.load (.elt (.atom 2) (.atom 23) 1) [.str]
    (.sem (.buildSlice 68 1 #[(0, (.tmp 81))]) 68 [(81, (.ag [(.atom 36), (.atom 32)]))] (.sc (.sl)) []
    (.sem (.call ⟨.builtin .append, #[(.tmp 74), (.tmp 82)], #[68, 68]⟩) 68 [(74, (.sc (.atom 22))), (82, (.sc (.atom 37)))] (.sc (.sl)) []
    (.next 6 [(.atom 33), (.atom 38), (.ar .add .i64 (.atom 23) (.int .i64 1)), (.atom 24), (.atom 25), (.atom 35), (.atom 27), (.atom 28), (.atom 29), (.atom 30), (.atom 31)]))))))))
    (.loop 11 [.int .i64, .int .i64, .int .i64, .str, .sl, .int .i64, .int .i64, .str, .sl, .sl] [(.atom 21), (.int .i64 0), (.atom 24), (.atom 25), (.atom 26), (.atom 27), (.atom 28), (.atom 29), (.atom 30), (.atom 31)]
     (.ite (.cmp .lss (.atom 33) (.len (.atom 7)))
      (.join 16 [.int .i64, .int .i64, .str, .sl, .int .i64, .int .i64, .str, .sl, .sl]
       (.sem (.buildSlice 26 1 #[(0, (.tmp 121))]) 26 [(121, (.ag [(.atom 43), (.atom 44), (.atom 45), (.atom 46), (.atom 47), (.atom 48), (.atom 49), (.atom 50)]))] (.sc (.sl)) []
       (.sem (.call ⟨.builtin .append, #[(.tmp 120), (.tmp 122)], #[26, 26]⟩) 26 [(120, (.sc (.atom 41))), (122, (.sc (.atom 51)))] (.sc (.sl)) []
       (.next 11 [(.atom 42), (.ar .add .i64 (.atom 33) (.int .i64 1)), (.atom 34), (.atom 35), (.atom 36), (.atom 37), (.atom 38), (.atom 39), (.atom 40), (.atom 52)])))
       (.call (.fn 35) [(.ag [(.atom 0), (.atom 1), (.atom 2), (.atom 3), (.atom 4), (.atom 5), (.atom 6), (.atom 7)]), (.sc (.atom 33))] (.sc (.bool)) []
       (.ite (.atom 42)
        (.chk [] (.inSl (.atom 7) (.atom 33))
        (.load (.elt (.atom 7) (.atom 33) 8) [.int .i64, .str, .sl, .int .i64, .int .i64, .str, .sl, .sl]
        (.call (.fn 19) [(.ag [(.atom 43), (.atom 44), (.atom 45), (.atom 46), (.atom 47), (.atom 48), (.atom 49), (.atom 50)]), (.sc (.atom 22)), (.sc (.atom 9)), (.sc (.atom 32))] (.tu [(true, [.int .i64, .str, .sl, .int .i64, .int .i64, .str, .sl, .sl]), (false, [.int .i64])]) []
        (.next 16 [(.atom 59), (.atom 51), (.atom 52), (.atom 53), (.atom 54), (.atom 55), (.atom 56), (.atom 57), (.atom 58)]))))
        (.chk [] (.inSl (.atom 7) (.atom 33))
        (.load (.elt (.atom 7) (.atom 33) 8) [.int .i64, .str, .sl, .int .i64, .int .i64, .str, .sl, .sl]
        (.call (.fn 19) [(.ag [(.atom 43), (.atom 44), (.atom 45), (.atom 46), (.atom 47), (.atom 48), (.atom 49), (.atom 50)]), (.sc (.atom 8)), (.sc (.atom 9)), (.sc (.atom 32))] (.tu [(true, [.int .i64, .str, .sl, .int .i64, .int .i64, .str, .sl, .sl]), (false, [.int .i64])]) []
        (.next 16 [(.atom 59), (.atom 51), (.atom 52), (.atom 53), (.atom 54), (.atom 55), (.atom 56), (.atom 57), (.atom 58)])))))))
      (.leaf (.tu [(true, [(.atom 34), (.atom 35), (.atom 36), (.atom 37), (.atom 38), (.atom 39), (.atom 40), (.atom 41)]), (false, [(.atom 32)])]))))))))
  (.ite (.pick (.cmp .eql (.atom 0) (.int .i64 1)) (.bool true) (.cmp .eql (.atom 0) (.int .i64 2)))
   (.loop 5 [.int .i64, .int .i64, .str, .sl, .int .i64, .int .i64, .str, .sl, .sl] [(.int .i64 0), (.atom 0), (.atom 1), (.nil 1), (.atom 3), (.atom 4), (.atom 5), (.atom 6), (.nil 1)]
    (.ite (.cmp .lss (.atom 11) (.len (.atom 8)))
     (.join 8 [.int .i64, .str, .sl, .int .i64, .int .i64, .str, .sl, .sl]
      (.next 5 [(.ar .add .i64 (.atom 11) (.int .i64 1)), (.atom 20), (.atom 21), (.atom 22), (.atom 23), (.atom 24), (.atom 25), (.atom 26), (.atom 27)])
      (.chk [] (.inSl (.atom 8) (.atom 11))
      (.load (.padd (.elt (.atom 8) (.atom 11) 2) 0) [.str]
      (.ite (.scmp .eql (.atom 20) (.atom 1))
       (.load (.padd (.elt (.atom 8) (.atom 11) 2) 1) [.str]
       (.next 8 [(.atom 12), (.atom 21), (.atom 14), (.atom 15), (.atom 16), (.atom 17), (.atom 18), (.atom 19)]))
       (.next 8 [(.atom 12), (.atom 13), (.atom 14), (.atom 15), (.atom 16), (.atom 17), (.atom 18), (.atom 19)])))))
     (.next 2 [(.atom 12), (.atom 13), (.atom 14), (.atom 15), (.atom 16), (.atom 17), (.atom 18), (.atom 19)])))
   (.next 2 [(.atom 0), (.atom 1), (.nil 1), (.atom 3), (.atom 4), (.atom 5), (.atom 6), (.nil 1)])))
theorem fm_scrimshawref06_rename_eq : execF Tryz.prog { pub := [], nojoin := false } Tryz.f19 = fm_scrimshawref06_rename := by kernel_rfl
theorem cb_scrimshawref06_rename : callB Tryz.prog 19 = true := by kernel_rfl
theorem tri_scrimshawref06_rename : TriOf Tryz.prog 19 Tryz.f19 fm_scrimshawref06_rename := triOf Tryz.func19 fm_scrimshawref06_rename_eq

/-- scrimshaw/scrimshawref06.Names -/
abbrev n_scrimshawref06_Names : FuncId := 20
def fm_scrimshawref06_Names : Fm VE :=
 (.join 1 [.sl]
  (.sem (.call ⟨.builtin .append, #[(.tmp 14), (.tmp 16)], #[22, 22]⟩) 22 [(14, (.sc (.atom 9))), (16, (.sc (.atom 2)))] (.sc (.sl)) []
  (.loop 5 [.sl, .int .i64] [(.atom 10), (.int .i64 0)]
   (.ite (.cmp .lss (.atom 12) (.len (.atom 7)))
    (.chk [] (.inSl (.atom 7) (.atom 12))
    (.load (.elt (.atom 7) (.atom 12) 8) [.int .i64, .str, .sl, .int .i64, .int .i64, .str, .sl, .sl]
    (.call (.fn 20) [(.ag [(.atom 13), (.atom 14), (.atom 15), (.atom 16), (.atom 17), (.atom 18), (.atom 19), (.atom 20)]), (.sc (.atom 11))] (.sc (.sl)) []
    (.next 5 [(.atom 21), (.ar .add .i64 (.atom 12) (.int .i64 1))]))))
    (.leaf (.sc (.atom 11))))))
  (.ite (.cmp .neq (.atom 0) (.int .i64 7))
   (.sem (.buildSlice 22 1 #[(0, (.tmp 11))]) 22 [(11, (.sc (.atom 1)))] (.sc (.sl)) []
   (.sem (.call ⟨.builtin .append, #[(.tmp 9), (.tmp 12)], #[22, 22]⟩) 22 [(9, (.sc (.atom 8))), (12, (.sc (.atom 9)))] (.sc (.sl)) []
   (.next 1 [(.atom 10)])))
   (.next 1 [(.atom 8)])))
theorem fm_scrimshawref06_Names_eq : execF Tryz.prog { pub := [], nojoin := false } Tryz.f20 = fm_scrimshawref06_Names := by kernel_rfl
theorem cb_scrimshawref06_Names : callB Tryz.prog 20 = true := by kernel_rfl
theorem tri_scrimshawref06_Names : TriOf Tryz.prog 20 Tryz.f20 fm_scrimshawref06_Names := triOf Tryz.func20 fm_scrimshawref06_Names_eq

/-- scrimshaw/core.told -/
abbrev n_core_told : FuncId := 21
def fm_core_told : Fm VE :=
 (.loop 4 [.sl, .int .i64] [(.nil 1), (.int .i64 0)]
  (.ite (.cmp .lss (.atom 9) (.len (.atom 7)))
   (.chk [] (.inSl (.atom 7) (.atom 9))
   (.load (.elt (.atom 7) (.atom 9) 8) [.int .i64, .str, .sl, .int .i64, .int .i64, .str, .sl, .sl]
   (.call (.fn 21) [(.ag [(.atom 10), (.atom 11), (.atom 12), (.atom 13), (.atom 14), (.atom 15), (.atom 16), (.atom 17)])] (.ag [.int .i64, .int .i64, .str, .sl]) []
   (.sem (.buildSlice 23 1 #[(0, (.tmp 22))]) 23 [(22, (.ag [(.atom 18), (.atom 19), (.atom 20), (.atom 21)]))] (.sc (.sl)) []
   (.sem (.call ⟨.builtin .append, #[(.tmp 20), (.tmp 23)], #[23, 23]⟩) 23 [(20, (.sc (.atom 8))), (23, (.sc (.atom 22)))] (.sc (.sl)) []
   (.next 4 [(.atom 23), (.ar .add .i64 (.atom 9) (.int .i64 1))]))))))
   (.call (.fn 38) [(.sc (.atom 0))] (.sc (.str)) []
   (.call (.fn 37) [(.sc (.atom 10))] (.ag [.int .i64, .int .i64, .str, .sl]) []
   (.sem (.buildSlice 23 1 #[(0, (.tmp 29))]) 23 [(29, (.ag [(.atom 11), (.atom 12), (.atom 13), (.atom 14)]))] (.sc (.sl)) []
   (.call (.fn 36) [(.sc (.atom 15))] (.ag [.int .i64, .int .i64, .str, .sl]) []
   (.join 8 [.sl, .int .i64, .int .i64, .str, .sl]
    (.sem (.call ⟨.builtin .append, #[(.tmp 118), (.tmp 119)], #[23, 23]⟩) 23 [(118, (.sc (.atom 24))), (119, (.sc (.atom 20)))] (.sc (.sl)) []
    (.leaf (.ag [(.atom 21), (.atom 22), (.atom 23), (.atom 25)])))
    (.ite (.cmp .eql (.atom 0) (.int .i64 1))
     (.call (.fn 37) [(.sc (.atom 1))] (.ag [.int .i64, .int .i64, .str, .sl]) []
     (.leaf (.ag [(.atom 20), (.atom 21), (.atom 22), (.atom 23)])))
     (.ite (.cmp .eql (.atom 0) (.int .i64 0))
      (.sem (.buildSlice 23 1 #[(0, (.tmp 42))]) 23 [(42, (.ag [(.atom 3), (.atom 4), (.atom 5), (.atom 6)]))] (.sc (.sl)) []
      (.next 8 [(.atom 20), (.atom 16), (.atom 17), (.atom 18), (.atom 19)]))
      (.ite (.pick (.cmp .eql (.atom 0) (.int .i64 2)) (.cmp .eql (.atom 0) (.int .i64 2)) (.cmp .eql (.atom 0) (.int .i64 7)))
       (.call (.fn 37) [(.sc (.atom 1))] (.ag [.int .i64, .int .i64, .str, .sl]) []
       (.sem (.buildSlice 23 1 #[(0, (.tmp 51))]) 23 [(51, (.ag [(.atom 20), (.atom 21), (.atom 22), (.atom 23)]))] (.sc (.sl)) []
       (.sem (.call ⟨.builtin .append, #[(.tmp 48), (.tmp 52)], #[23, 23]⟩) 23 [(48, (.sc (.atom 19))), (52, (.sc (.atom 24)))] (.sc (.sl)) []
       (.next 8 [(.atom 8), (.atom 16), (.atom 17), (.atom 18), (.atom 25)]))))
       (.ite (.cmp .eql (.atom 0) (.int .i64 5))
        (.call (.fn 36) [(.sc (.nil 1))] (.ag [.int .i64, .int .i64, .str, .sl]) []
        (.loop 18 [.int .i64, .int .i64, .int .i64, .str, .sl] [(.int .i64 0), (.atom 20), (.atom 21), (.atom 22), (.atom 23)]
         (.ite (.cmp .lss (.atom 24) (.len (.atom 2)))
          (.chk [] (.inSl (.atom 2) (.atom 24))
          (.load (.elt (.atom 2) (.atom 24) 1) [.str]
          (.call (.fn 37) [(.sc (.atom 29))] (.ag [.int .i64, .int .i64, .str, .sl]) []
          (.sem (.buildSlice 23 1 #[(0, (.tmp 68))]) 23 [(68, (.ag [(.atom 30), (.atom 31), (.atom 32), (.atom 33)]))] (.sc (.sl)) []
          (.sem (.call ⟨.builtin .append, #[(.tmp 66), (.tmp 69)], #[23, 23]⟩) 23 [(66, (.sc (.atom 28))), (69, (.sc (.atom 34)))] (.sc (.sl)) []
          (.next 18 [(.ar .add .i64 (.atom 24) (.int .i64 1)), (.atom 25), (.atom 26), (.atom 27), (.atom 35)]))))))
          (.sem (.buildSlice 23 1 #[(0, (.tmp 75))]) 23 [(75, (.ag [(.atom 25), (.atom 26), (.atom 27), (.atom 28)]))] (.sc (.sl)) []
          (.sem (.call ⟨.builtin .append, #[(.tmp 74), (.tmp 76)], #[23, 23]⟩) 23 [(74, (.sc (.atom 19))), (76, (.sc (.atom 29)))] (.sc (.sl)) []
          (.next 8 [(.atom 8), (.atom 16), (.atom 17), (.atom 18), (.atom 30)]))))))
        (.join 15 [.bool]
         (.ite (.atom 20)
          (.call (.fn 36) [(.sc (.nil 1))] (.ag [.int .i64, .int .i64, .str, .sl]) []
          (.loop 19 [.int .i64, .int .i64, .int .i64, .str, .sl] [(.int .i64 0), (.atom 21), (.atom 22), (.atom 23), (.atom 24)]
           (.ite (.cmp .lss (.atom 25) (.len (.atom 2)))
            (.chk [] (.inSl (.atom 2) (.atom 25))
            (.load (.elt (.atom 2) (.atom 25) 1) [.str]
            (.chk [] (.inSl (.atom 8) (.atom 25))
            (.load (.elt (.atom 8) (.atom 25) 4) [.int .i64, .int .i64, .str, .sl]
            (.call (.fn 37) [(.sc (.atom 30))] (.ag [.int .i64, .int .i64, .str, .sl]) [((.elt (.atom 8) (.atom 25) 4), [(.atom 31), (.atom 32), (.atom 33), (.atom 34)])]
            (.sem (.buildSlice 23 2 #[(0, (.tmp 95)), (1, (.tmp 99))]) 23 [(95, (.ag [(.atom 35), (.atom 36), (.atom 37), (.atom 38)])), (99, (.ag [(.atom 31), (.atom 32), (.atom 33), (.atom 34)]))] (.sc (.sl)) []
            (.call (.fn 36) [(.sc (.atom 39))] (.ag [.int .i64, .int .i64, .str, .sl]) []
            (.sem (.buildSlice 23 1 #[(0, (.tmp 101))]) 23 [(101, (.ag [(.atom 40), (.atom 41), (.atom 42), (.atom 43)]))] (.sc (.sl)) []
            (.sem (.call ⟨.builtin .append, #[(.tmp 93), (.tmp 102)], #[23, 23]⟩) 23 [(93, (.sc (.atom 29))), (102, (.sc (.atom 44)))] (.sc (.sl)) []
            (.next 19 [(.ar .add .i64 (.atom 25) (.int .i64 1)), (.atom 26), (.atom 27), (.atom 28), (.atom 45)]))))))))))
            (.sem (.buildSlice 23 1 #[(0, (.tmp 108))]) 23 [(108, (.ag [(.atom 26), (.atom 27), (.atom 28), (.atom 29)]))] (.sc (.sl)) []
            (.sem (.call ⟨.builtin .append, #[(.tmp 107), (.tmp 109)], #[23, 23]⟩) 23 [(107, (.sc (.atom 19))), (109, (.sc (.atom 30)))] (.sc (.sl)) []
            (.chk [] (.sub (.cap (.atom 8)) (.len (.atom 2)) (.len (.atom 8)))
            (.next 8 [(.sls (.atom 8) (.len (.atom 2)) (.len (.atom 8)) 4), (.atom 16), (.atom 17), (.atom 18), (.atom 31)])))))))
          (.next 8 [(.atom 8), (.atom 16), (.atom 17), (.atom 18), (.atom 19)]))
         (.ite (.cmp .eql (.atom 0) (.int .i64 8))
          (.next 15 [(.cmp .eql (.atom 0) (.int .i64 8))])
          (.next 15 [(.pick (.cmp .eql (.atom 0) (.int .i64 9)) (.cmp .eql (.atom 0) (.int .i64 9)) (.cmp .eql (.atom 0) (.int .i64 10)))]))))))))))))))
theorem fm_core_told_eq : execF Tryz.prog { pub := [], nojoin := false } Tryz.f21 = fm_core_told := by kernel_rfl
theorem cb_core_told : callB Tryz.prog 21 = true := by kernel_rfl
theorem tri_core_told : TriOf Tryz.prog 21 Tryz.f21 fm_core_told := triOf Tryz.func21 fm_core_told_eq

/-- scrimshaw/core.free -/
abbrev n_core_free : FuncId := 22
def fm_core_free : Fm VE :=
 (.join 1 []
  (.loop 3 [.int .i64] [(.int .i64 0)]
   (.ite (.cmp .lss (.atom 10) (.len (.atom 7)))
    (.chk [] (.inSl (.atom 7) (.atom 10))
    (.load (.elt (.atom 7) (.atom 10) 8) [.int .i64, .str, .sl, .int .i64, .int .i64, .str, .sl, .sl]
    (.call (.fn 32) [(.ag [(.atom 0), (.atom 1), (.atom 2), (.atom 3), (.atom 4), (.atom 5), (.atom 6), (.atom 7)]), (.sc (.atom 10))] (.sc (.bool)) []
    (.loop 13 [.int .i64] [(.int .i64 0)]
     (.ite (.cmp .lss (.atom 20) (.len (.atom 2)))
      (.chk [] (.inSl (.atom 2) (.atom 20))
      (.load (.elt (.atom 2) (.atom 20) 1) [.str]
      (.sem (.lookup 44 (.tmp 49) (.tmp 50) false) 3 [(49, (.sc (.atom 8))), (50, (.sc (.atom 21)))] (.sc (.int .i64)) []
      (.sem (.mapUpdate 44 (.tmp 49) (.tmp 50) (.tmp 53)) 0 [(49, (.sc (.atom 8))), (50, (.sc (.atom 21))), (53, (.sc (.ar .add .i64 (.atom 22) (.pick (.atom 19) (.int .i64 1) (.int .i64 0)))))] (.tu []) []
      (.next 13 [(.ar .add .i64 (.atom 20) (.int .i64 1))])))))
      (.call (.fn 22) [(.ag [(.atom 11), (.atom 12), (.atom 13), (.atom 14), (.atom 15), (.atom 16), (.atom 17), (.atom 18)]), (.sc (.atom 8)), (.sc (.atom 9))] (.tu []) []
      (.loop 18 [.int .i64] [(.int .i64 0)]
       (.ite (.cmp .lss (.atom 21) (.len (.atom 2)))
        (.chk [] (.inSl (.atom 2) (.atom 21))
        (.load (.elt (.atom 2) (.atom 21) 1) [.str]
        (.sem (.lookup 44 (.tmp 66) (.tmp 67) false) 3 [(66, (.sc (.atom 8))), (67, (.sc (.atom 22)))] (.sc (.int .i64)) []
        (.sem (.mapUpdate 44 (.tmp 66) (.tmp 67) (.tmp 70)) 0 [(66, (.sc (.atom 8))), (67, (.sc (.atom 22))), (70, (.sc (.ar .sub .i64 (.atom 23) (.pick (.atom 19) (.int .i64 1) (.int .i64 0)))))] (.tu []) []
        (.next 18 [(.ar .add .i64 (.atom 21) (.int .i64 1))])))))
        (.next 3 [(.ar .add .i64 (.atom 10) (.int .i64 1))])))))))))
    (.leaf (.tu []))))
  (.join 2 [.bool]
   (.ite (.atom 10)
    (.sem (.mapUpdate 44 (.tmp 28) (.tmp 30) (.const (.int .i64 1))) 0 [(28, (.sc (.atom 9))), (30, (.sc (.atom 1)))] (.tu []) []
    (.next 1 []))
    (.next 1 []))
   (.ite (.pick (.cmp .eql (.atom 0) (.int .i64 1)) (.bool true) (.cmp .eql (.atom 0) (.int .i64 2)))
    (.sem (.lookup 44 (.tmp 22) (.tmp 24) false) 3 [(22, (.sc (.atom 8))), (24, (.sc (.atom 1)))] (.sc (.int .i64)) []
    (.next 2 [(.cmp .eql (.atom 10) (.int .i64 0))]))
    (.next 2 [(.bool false)]))))
theorem fm_core_free_eq : execF Tryz.prog { pub := [], nojoin := false } Tryz.f22 = fm_core_free := by kernel_rfl
theorem cb_core_free : callB Tryz.prog 22 = true := by kernel_rfl
theorem tri_core_free : TriOf Tryz.prog 22 Tryz.f22 fm_core_free := triOf Tryz.func22 fm_core_free_eq

/-- scrimshaw/scrimshawref06.Sym -/
abbrev n_scrimshawref06_Sym : FuncId := 25
def fm_scrimshawref06_Sym : Fm VE :=
 (.leaf (.ag [(.int .i64 4), (.int .i64 0), (.atom 0), (.nil 1)]))
theorem fm_scrimshawref06_Sym_eq : execF Tryz.prog { pub := [], nojoin := false } Tryz.f25 = fm_scrimshawref06_Sym := by kernel_rfl
theorem cb_scrimshawref06_Sym : callB Tryz.prog 25 = true := by kernel_rfl
theorem tri_scrimshawref06_Sym : TriOf Tryz.prog 25 Tryz.f25 fm_scrimshawref06_Sym := triOf Tryz.func25 fm_scrimshawref06_Sym_eq

/-- scrimshaw/scrimshawref06.Word -/
abbrev n_scrimshawref06_Word : FuncId := 26
def fm_scrimshawref06_Word : Fm VE :=
 (.sem (.buildSlice 22 11 #[(0, (.const (.string ⟨#[113, 117, 111, 116, 101]⟩))), (1, (.const (.string ⟨#[]⟩))), (2, (.const (.string ⟨#[115, 101, 116, 33]⟩))), (3, (.const (.string ⟨#[105, 102]⟩))), (4, (.const (.string ⟨#[98, 101, 103, 105, 110]⟩))), (5, (.const (.string ⟨#[108, 97, 109, 98, 100, 97]⟩))), (6, (.const (.string ⟨#[99, 97, 108, 108]⟩))), (7, (.const (.string ⟨#[112, 114, 105, 109]⟩))), (8, (.const (.string ⟨#[108, 101, 116]⟩))), (9, (.const (.string ⟨#[108, 101, 116, 114, 101, 99]⟩))), (10, (.const (.string ⟨#[102, 105, 120]⟩)))]) 22 [] (.sc (.sl)) []
 (.chk [] (.inSl (.atom 1) (.atom 0))
 (.load (.elt (.atom 1) (.atom 0) 1) [.str]
 (.leaf (.sc (.atom 2))))))
theorem fm_scrimshawref06_Word_eq : execF Tryz.prog { pub := [], nojoin := false } Tryz.f26 = fm_scrimshawref06_Word := by kernel_rfl
theorem cb_scrimshawref06_Word : callB Tryz.prog 26 = true := by kernel_rfl
theorem tri_scrimshawref06_Word : TriOf Tryz.prog 26 Tryz.f26 fm_scrimshawref06_Word := triOf Tryz.func26 fm_scrimshawref06_Word_eq

/-- scrimshaw/scrimshawref06.List -/
abbrev n_scrimshawref06_List : FuncId := 27
def fm_scrimshawref06_List : Fm VE :=
 (.leaf (.ag [(.int .i64 5), (.int .i64 0), (.str []), (.atom 0)]))
theorem fm_scrimshawref06_List_eq : execF Tryz.prog { pub := [], nojoin := false } Tryz.f27 = fm_scrimshawref06_List := by kernel_rfl
theorem cb_scrimshawref06_List : callB Tryz.prog 27 = true := by kernel_rfl
theorem tri_scrimshawref06_List : TriOf Tryz.prog 27 Tryz.f27 fm_scrimshawref06_List := triOf Tryz.func27 fm_scrimshawref06_List_eq

/-- scrimshaw/core.check -/
abbrev n_core_check : FuncId := 28
def fm_core_check : Fm VE :=
 (.chk [] (.some (.atom 9))
 (.load (.atom 9) [.int .i64]
 (.ite (.cmp .eql (.atom 10) (.int .i64 4096))
  (.leaf (.sc (.int .i64 62)))
  (.load (.atom 9) [.int .i64]
  (.store (.atom 9) [(.ar .add .i64 (.atom 11) (.int .i64 1))]
  (.ite (.cmp .geq (.atom 8) (.int .i64 250))
   (.leaf (.sc (.int .i64 61)))
   (.call (.fn 42) [(.ag [(.atom 0), (.atom 1), (.atom 2), (.atom 3), (.atom 4), (.atom 5), (.atom 6), (.atom 7)])] (.sc (.bool)) []
   (.ite (.not (.atom 12))
    (.leaf (.sc (.int .i64 60)))
    (.loop 10 [.int .i64, .int .i64] [(.int .i64 0), (.int .i64 0)]
     (.ite (.cmp .lss (.atom 14) (.len (.atom 7)))
      (.chk [] (.inSl (.atom 7) (.atom 14))
      (.load (.elt (.atom 7) (.atom 14) 8) [.int .i64, .str, .sl, .int .i64, .int .i64, .str, .sl, .sl]
      (.call (.fn 28) [(.ag [(.atom 15), (.atom 16), (.atom 17), (.atom 18), (.atom 19), (.atom 20), (.atom 21), (.atom 22)]), (.sc (.ar .add .i64 (.atom 8) (.int .i64 1))), (.sc (.atom 9))] (.sc (.int .i64)) []
      (.ite (.cmp .neq (.atom 23) (.int .i64 0))
       (.leaf (.sc (.atom 23)))
       (.next 10 [(.atom 13), (.ar .add .i64 (.atom 14) (.int .i64 1))])))))
      (.leaf (.sc (.int .i64 0)))))))))))))
theorem fm_core_check_eq : execF Tryz.prog { pub := [], nojoin := false } Tryz.f28 = fm_core_check := by kernel_rfl
theorem cb_core_check : callB Tryz.prog 28 = true := by kernel_rfl
theorem tri_core_check : TriOf Tryz.prog 28 Tryz.f28 fm_core_check := triOf Tryz.func28 fm_core_check_eq

/-- scrimshaw/core.named -/
abbrev n_core_named : FuncId := 29
def fm_core_named : Fm VE :=
 (.call (.fn 43) [(.sc (.atom 0))] (.sc (.str)) []
 (.chk [] (.catOk (.str [118, 46]) (.atom 1))
 (.leaf (.sc (.cat (.str [118, 46]) (.atom 1))))))
theorem fm_core_named_eq : execF Tryz.prog { pub := [], nojoin := false } Tryz.f29 = fm_core_named := by kernel_rfl
theorem cb_core_named : callB Tryz.prog 29 = true := by kernel_rfl
theorem tri_core_named : TriOf Tryz.prog 29 Tryz.f29 fm_core_named := triOf Tryz.func29 fm_core_named_eq

/-- (*scrimshaw/core.renamer).name -/
abbrev n_core_renamer__name : FuncId := 31
def fm_core_renamer__name : Fm VE :=
 (.loop 1 [.int .i64] [(.int .i64 0)]
  (.chk [] (.some (.atom 0))
  (.load (.padd (.atom 0) 1) [.int .i64]
  (.load (.padd (.atom 0) 1) [.int .i64]
  (.store (.padd (.atom 0) 1) [(.ar .add .i64 (.atom 3) (.int .i64 1))]
  (.load (.padd (.atom 0) 0) [.map]
  (.call (.fn 29) [(.sc (.atom 2))] (.sc (.str)) [((.padd (.atom 0) 0), [(.atom 4)])]
  (.sem (.lookup 44 (.tmp 18) (.tmp 20) false) 3 [(18, (.sc (.atom 4))), (20, (.sc (.atom 5)))] (.sc (.int .i64)) []
  (.ite (.cmp .eql (.atom 6) (.int .i64 0))
   (.leaf (.sc (.atom 2)))
   (.next 1 [(.atom 1)]))))))))))
theorem fm_core_renamer__name_eq : execF Tryz.prog { pub := [], nojoin := false } Tryz.f31 = fm_core_renamer__name := by kernel_rfl
theorem cb_core_renamer__name : callB Tryz.prog 31 = true := by kernel_rfl
theorem tri_core_renamer__name : TriOf Tryz.prog 31 Tryz.f31 fm_core_renamer__name := triOf Tryz.func31 fm_core_renamer__name_eq

/-- scrimshaw/core.binds -/
abbrev n_core_binds : FuncId := 32
def fm_core_binds : Fm VE :=
 (.join 3 [.bool]
  (.ite (.atom 9)
   (.leaf (.sc (.bool true)))
   (.ite (.cmp .eql (.atom 0) (.int .i64 8))
    (.leaf (.sc (.cmp .eql (.atom 8) (.ar .sub .i64 (.len (.atom 7)) (.int .i64 1)))))
    (.leaf (.sc (.bool false)))))
  (.ite (.cmp .eql (.atom 0) (.int .i64 5))
   (.next 3 [(.cmp .eql (.atom 0) (.int .i64 5))])
   (.next 3 [(.pick (.cmp .eql (.atom 0) (.int .i64 9)) (.cmp .eql (.atom 0) (.int .i64 9)) (.cmp .eql (.atom 0) (.int .i64 10)))])))
theorem fm_core_binds_eq : execF Tryz.prog { pub := [], nojoin := false } Tryz.f32 = fm_core_binds := by kernel_rfl
theorem cb_core_binds : callB Tryz.prog 32 = true := by kernel_rfl
theorem tri_core_binds : TriOf Tryz.prog 32 Tryz.f32 fm_core_binds := triOf Tryz.func32 fm_core_binds_eq

/-- scrimshaw/scrimshawref06.check -/
abbrev n_scrimshawref06_check : FuncId := 33
def fm_scrimshawref06_check : Fm VE :=
 (.ite (.cmp .eql (.atom 9) (.int .i64 4096))
  (.leaf (.tu [(false, [(.atom 9)]), (false, [(.int .i64 62)])]))
  (.ite (.cmp .geq (.atom 8) (.int .i64 250))
   (.leaf (.tu [(false, [(.ar .add .i64 (.atom 9) (.int .i64 1))]), (false, [(.int .i64 61)])]))
   (.call (.fn 45) [(.ag [(.atom 0), (.atom 1), (.atom 2), (.atom 3), (.atom 4), (.atom 5), (.atom 6), (.atom 7)])] (.sc (.bool)) []
   (.ite (.not (.atom 10))
    (.leaf (.tu [(false, [(.ar .add .i64 (.atom 9) (.int .i64 1))]), (false, [(.int .i64 60)])]))
    (.loop 11 [.int .i64, .int .i64, .int .i64, .int .i64, .int .i64] [(.ar .add .i64 (.atom 9) (.int .i64 1)), (.int .i64 0), (.int .i64 0), (.int .i64 0), (.int .i64 0)]
     (.ite (.cmp .lss (.atom 15) (.len (.atom 7)))
      (.chk [] (.inSl (.atom 7) (.atom 15))
      (.load (.elt (.atom 7) (.atom 15) 8) [.int .i64, .str, .sl, .int .i64, .int .i64, .str, .sl, .sl]
      (.call (.fn 33) [(.ag [(.atom 16), (.atom 17), (.atom 18), (.atom 19), (.atom 20), (.atom 21), (.atom 22), (.atom 23)]), (.sc (.ar .add .i64 (.atom 8) (.int .i64 1))), (.sc (.atom 11))] (.tu [(false, [.int .i64]), (false, [.int .i64])]) []
      (.ite (.cmp .neq (.atom 25) (.int .i64 0))
       (.leaf (.tu [(false, [(.atom 24)]), (false, [(.atom 25)])]))
       (.next 11 [(.atom 24), (.atom 12), (.atom 13), (.atom 25), (.ar .add .i64 (.atom 15) (.int .i64 1))])))))
      (.leaf (.tu [(false, [(.atom 11)]), (false, [(.int .i64 0)])]))))))))
theorem fm_scrimshawref06_check_eq : execF Tryz.prog { pub := [], nojoin := false } Tryz.f33 = fm_scrimshawref06_check := by kernel_rfl
theorem cb_scrimshawref06_check : callB Tryz.prog 33 = true := by kernel_rfl
theorem tri_scrimshawref06_check : TriOf Tryz.prog 33 Tryz.f33 fm_scrimshawref06_check := triOf Tryz.func33 fm_scrimshawref06_check_eq

/-- scrimshaw/scrimshawref06.next -/
abbrev n_scrimshawref06_next : FuncId := 34
def fm_scrimshawref06_next : Fm VE :=
 (.loop 1 [.int .i64, .str, .int .i64] [(.atom 1), (.str []), (.int .i64 0)]
  (.call (.fn 46) [(.sc (.atom 2))] (.sc (.str)) []
  (.chk [] (.catOk (.str [118, 46]) (.atom 5))
  (.call (.fn 47) [(.sc (.atom 0)), (.sc (.cat (.str [118, 46]) (.atom 5)))] (.sc (.bool)) []
  (.ite (.not (.atom 6))
   (.leaf (.tu [(false, [(.cat (.str [118, 46]) (.atom 5))]), (false, [(.ar .add .i64 (.atom 2) (.int .i64 1))])]))
   (.next 1 [(.ar .add .i64 (.atom 2) (.int .i64 1)), (.atom 3), (.atom 4)]))))))
theorem fm_scrimshawref06_next_eq : execF Tryz.prog { pub := [], nojoin := false } Tryz.f34 = fm_scrimshawref06_next := by kernel_rfl
theorem cb_scrimshawref06_next : callB Tryz.prog 34 = true := by kernel_rfl
theorem tri_scrimshawref06_next : TriOf Tryz.prog 34 Tryz.f34 fm_scrimshawref06_next := triOf Tryz.func34 fm_scrimshawref06_next_eq

/-- scrimshaw/scrimshawref06.Binds -/
abbrev n_scrimshawref06_Binds : FuncId := 35
def fm_scrimshawref06_Binds : Fm VE :=
 (.leaf (.sc (.pick (.pick (.pick (.cmp .eql (.atom 0) (.int .i64 5)) (.bool true) (.cmp .eql (.atom 0) (.int .i64 9))) (.bool true) (.cmp .eql (.atom 0) (.int .i64 10))) (.bool true) (.pick (.cmp .eql (.atom 0) (.int .i64 8)) (.cmp .eql (.atom 8) (.ar .sub .i64 (.len (.atom 7)) (.int .i64 1))) (.bool false)))))
theorem fm_scrimshawref06_Binds_eq : execF Tryz.prog { pub := [], nojoin := false } Tryz.f35 = fm_scrimshawref06_Binds := by kernel_rfl
theorem cb_scrimshawref06_Binds : callB Tryz.prog 35 = true := by kernel_rfl
theorem tri_scrimshawref06_Binds : TriOf Tryz.prog 35 Tryz.f35 fm_scrimshawref06_Binds := triOf Tryz.func35 fm_scrimshawref06_Binds_eq

/-- scrimshaw/core.list -/
abbrev n_core_list : FuncId := 36
def fm_core_list : Fm VE :=
 (.leaf (.ag [(.int .i64 5), (.int .i64 0), (.str []), (.atom 0)]))
theorem fm_core_list_eq : execF Tryz.prog { pub := [], nojoin := false } Tryz.f36 = fm_core_list := by kernel_rfl
theorem cb_core_list : callB Tryz.prog 36 = true := by kernel_rfl
theorem tri_core_list : TriOf Tryz.prog 36 Tryz.f36 fm_core_list := triOf Tryz.func36 fm_core_list_eq

/-- scrimshaw/core.symbol -/
abbrev n_core_symbol : FuncId := 37
def fm_core_symbol : Fm VE :=
 (.leaf (.ag [(.int .i64 4), (.int .i64 0), (.atom 0), (.nil 1)]))
theorem fm_core_symbol_eq : execF Tryz.prog { pub := [], nojoin := false } Tryz.f37 = fm_core_symbol := by kernel_rfl
theorem cb_core_symbol : callB Tryz.prog 37 = true := by kernel_rfl
theorem tri_core_symbol : TriOf Tryz.prog 37 Tryz.f37 fm_core_symbol := triOf Tryz.func37 fm_core_symbol_eq

/-- scrimshaw/core.words -/
abbrev n_core_words : FuncId := 38
def fm_core_words : Fm VE :=
 (.sem (.index 78 (.tmp 3) (.tmp 4)) 9 [(3, (.ag [(.str [113, 117, 111, 116, 101]), (.str []), (.str [115, 101, 116, 33]), (.str [105, 102]), (.str [98, 101, 103, 105, 110]), (.str [108, 97, 109, 98, 100, 97]), (.str [99, 97, 108, 108]), (.str [112, 114, 105, 109]), (.str [108, 101, 116]), (.str [108, 101, 116, 114, 101, 99]), (.str [102, 105, 120])])), (4, (.sc (.atom 0)))] (.sc (.str)) []
 (.leaf (.sc (.atom 1))))
theorem fm_core_words_eq : execF Tryz.prog { pub := [], nojoin := false } Tryz.f38 = fm_core_words := by kernel_rfl
theorem cb_core_words : callB Tryz.prog 38 = true := by kernel_rfl
theorem tri_core_words : TriOf Tryz.prog 38 Tryz.f38 fm_core_words := triOf Tryz.func38 fm_core_words_eq

/-- scrimshaw/core.form -/
abbrev n_core_form : FuncId := 42
def fm_core_form : Fm VE :=
 (.call (.fn 51) [(.ag [(.atom 0), (.atom 1), (.atom 2), (.atom 3), (.atom 4), (.atom 5), (.atom 6), (.atom 7)])] (.tu [(true, [.bool, .bool, .int .i64, .int .i64]), (false, [.bool])]) []
 (.join 3 [.bool]
  (.ite (.atom 13)
   (.leaf (.sc (.bool false)))
   (.join 5 [.bool]
    (.ite (.atom 14)
     (.leaf (.sc (.bool false)))
     (.ite (.cmp .eql (.atom 0) (.int .i64 0))
      (.call (.fn 54) [(.ag [(.atom 3), (.atom 4), (.atom 5), (.atom 6)])] (.sc (.bool)) []
      (.leaf (.sc (.atom 15))))
      (.join 8 [.bool]
       (.join 9 [.bool]
        (.leaf (.sc (.atom 16)))
        (.ite (.atom 15)
         (.call (.fn 57) [(.ag [(.atom 3), (.atom 4), (.atom 5), (.atom 6)]), (.ag [(.int .i64 0), (.int .i64 0), (.str []), (.nil 1)])] (.sc (.bool)) []
         (.next 9 [(.atom 16)]))
         (.next 9 [(.bool false)])))
       (.chk [((.cmp .neq (.atom 0) (.int .i64 10)), false)] (.sub (.cap (.atom 7)) (.int .i64 0) (.len (.atom 2)))
       (.ite (.cmp .neq (.atom 0) (.int .i64 10))
        (.next 8 [(.bool true)])
        (.call (.fn 55) [(.sc (.sls (.atom 7) (.int .i64 0) (.len (.atom 2)) 8)), (.sc (.fn 56))] (.sc (.bool)) []
        (.next 8 [(.not (.atom 15))])))))))
    (.ite (.pick (.atom 8) (.cmp .neq (.atom 0) (.int .i64 7)) (.bool false))
     (.call (.fn 53) [(.sc (.atom 1))] (.sc (.bool)) []
     (.next 5 [(.pick (.not (.atom 14)) (.bool true) (.pick (.not (.atom 8)) (.scmp .neq (.atom 1) (.str [])) (.bool false)))]))
     (.next 5 [(.pick (.not (.atom 8)) (.scmp .neq (.atom 1) (.str [])) (.bool false))]))))
  (.ite (.pick (.pick (.pick (.not (.atom 12)) (.bool true) (.cmp .lss (.len (.atom 7)) (.atom 10))) (.bool true) (.cmp .gtr (.len (.atom 7)) (.atom 11))) (.bool true) (.pick (.cmp .gtr (.len (.atom 2)) (.int .i64 0)) (.not (.atom 9)) (.bool false)))
   (.next 3 [(.bool true)])
   (.call (.fn 52) [(.sc (.atom 2))] (.sc (.bool)) []
   (.next 3 [(.not (.atom 13))])))))
theorem fm_core_form_eq : execF Tryz.prog { pub := [], nojoin := false } Tryz.f42 = fm_core_form := by kernel_rfl
theorem cb_core_form : callB Tryz.prog 42 = true := by kernel_rfl
theorem tri_core_form : TriOf Tryz.prog 42 Tryz.f42 fm_core_form := triOf Tryz.func42 fm_core_form_eq

/-- scrimshaw/scrimshawref06.form -/
abbrev n_scrimshawref06_form : FuncId := 45
def fm_scrimshawref06_form : Fm VE :=
 (.ite (.cmp .eql (.atom 0) (.int .i64 0))
  (.join 3 [.bool]
   (.leaf (.sc (.atom 8)))
   (.ite (.pick (.pick (.scmp .eql (.atom 1) (.str [])) (.cmp .eql (.len (.atom 2)) (.int .i64 0)) (.bool false)) (.cmp .eql (.len (.atom 7)) (.int .i64 0)) (.bool false))
    (.call (.fn 59) [(.ag [(.atom 3), (.atom 4), (.atom 5), (.atom 6)])] (.sc (.bool)) []
    (.next 3 [(.atom 8)]))
    (.next 3 [(.bool false)])))
  (.join 4 [.bool]
   (.ite (.atom 8)
    (.leaf (.sc (.bool false)))
    (.call (.fn 61) [(.sc (.atom 1))] (.sc (.bool)) []
    (.ite (.cmp .eql (.atom 0) (.int .i64 1))
     (.leaf (.sc (.pick (.pick (.atom 9) (.cmp .eql (.len (.atom 2)) (.int .i64 0)) (.bool false)) (.cmp .eql (.len (.atom 7)) (.int .i64 0)) (.bool false))))
     (.ite (.cmp .eql (.atom 0) (.int .i64 2))
      (.leaf (.sc (.pick (.pick (.atom 9) (.cmp .eql (.len (.atom 2)) (.int .i64 0)) (.bool false)) (.cmp .eql (.len (.atom 7)) (.int .i64 1)) (.bool false))))
      (.ite (.cmp .eql (.atom 0) (.int .i64 3))
       (.leaf (.sc (.pick (.pick (.scmp .eql (.atom 1) (.str [])) (.cmp .eql (.len (.atom 2)) (.int .i64 0)) (.bool false)) (.cmp .eql (.len (.atom 7)) (.int .i64 3)) (.bool false))))
       (.ite (.cmp .eql (.atom 0) (.int .i64 4))
        (.leaf (.sc (.pick (.pick (.scmp .eql (.atom 1) (.str [])) (.cmp .eql (.len (.atom 2)) (.int .i64 0)) (.bool false)) (.cmp .geq (.len (.atom 7)) (.int .i64 2)) (.bool false))))
        (.ite (.cmp .eql (.atom 0) (.int .i64 5))
         (.leaf (.sc (.pick (.pick (.scmp .eql (.atom 1) (.str [])) (.cmp .leq (.len (.atom 2)) (.int .i64 6)) (.bool false)) (.cmp .eql (.len (.atom 7)) (.int .i64 1)) (.bool false))))
         (.ite (.cmp .eql (.atom 0) (.int .i64 6))
          (.leaf (.sc (.pick (.pick (.pick (.scmp .eql (.atom 1) (.str [])) (.cmp .eql (.len (.atom 2)) (.int .i64 0)) (.bool false)) (.cmp .geq (.len (.atom 7)) (.int .i64 1)) (.bool false)) (.cmp .leq (.len (.atom 7)) (.int .i64 7)) (.bool false))))
          (.ite (.cmp .eql (.atom 0) (.int .i64 7))
           (.join 18 [.bool]
            (.leaf (.sc (.atom 10)))
            (.ite (.cmp .eql (.len (.atom 2)) (.int .i64 0))
             (.call (.fn 62) [(.sc (.atom 1))] (.sc (.int .i64)) []
             (.next 18 [(.cmp .eql (.atom 10) (.len (.atom 7)))]))
             (.next 18 [(.bool false)])))
           (.ite (.pick (.cmp .eql (.atom 0) (.int .i64 8)) (.cmp .eql (.atom 0) (.int .i64 8)) (.cmp .eql (.atom 0) (.int .i64 9)))
            (.leaf (.sc (.pick (.scmp .eql (.atom 1) (.str [])) (.cmp .eql (.len (.atom 7)) (.ar .add .i64 (.len (.atom 2)) (.int .i64 1))) (.bool false))))
            (.ite (.cmp .eql (.atom 0) (.int .i64 10))
             (.ite (.pick (.pick (.scmp .neq (.atom 1) (.str [])) (.bool true) (.cmp .lss (.len (.atom 2)) (.int .i64 1))) (.bool true) (.cmp .neq (.len (.atom 7)) (.ar .add .i64 (.len (.atom 2)) (.int .i64 1))))
              (.leaf (.sc (.bool false)))
              (.loop 25 [.bool, .int .i64] [(.bool false), (.int .i64 0)]
               (.ite (.cmp .lss (.atom 11) (.len (.atom 2)))
                (.chk [] (.inSl (.atom 7) (.atom 11))
                (.load (.padd (.elt (.atom 7) (.atom 11) 8) 0) [.int .i64]
                (.ite (.cmp .neq (.atom 12) (.int .i64 5))
                 (.leaf (.sc (.bool false)))
                 (.next 25 [(.atom 10), (.ar .add .i64 (.atom 11) (.int .i64 1))]))))
                (.leaf (.sc (.bool true))))))
             (.leaf (.sc (.bool false))))))))))))))
   (.call (.fn 11) [(.ag [(.atom 3), (.atom 4), (.atom 5), (.atom 6)]), (.ag [(.int .i64 0), (.int .i64 0), (.str []), (.nil 1)])] (.sc (.bool)) []
   (.ite (.not (.atom 8))
    (.next 4 [(.bool true)])
    (.call (.fn 60) [(.sc (.atom 2))] (.sc (.bool)) []
    (.next 4 [(.not (.atom 9))]))))))
theorem fm_scrimshawref06_form_eq : execF Tryz.prog { pub := [], nojoin := false } Tryz.f45 = fm_scrimshawref06_form := by kernel_rfl
theorem cb_scrimshawref06_form : callB Tryz.prog 45 = true := by kernel_rfl
theorem tri_scrimshawref06_form : TriOf Tryz.prog 45 Tryz.f45 fm_scrimshawref06_form := triOf Tryz.func45 fm_scrimshawref06_form_eq

/-- scrimshaw/scrimshawref02.Digits -/
abbrev n_scrimshawref02_Digits : FuncId := 46
def fm_scrimshawref02_Digits : Fm VE :=
 (.loop 4 [.int .i64, .str] [(.atom 0), (.str [])]
  (.sem (.buildSlice 90 1 #[(0, (.tmp 16))]) 90 [(16, (.sc (.conv .u8 (.ar .add .i64 (.int .i64 48) (.pick (.cmp .lss (.ar .rem .i64 (.atom 1) (.int .i64 10)) (.int .i64 0)) (.ar .sub .i64 (.int .i64 0) (.ar .rem .i64 (.atom 1) (.int .i64 10))) (.ar .rem .i64 (.atom 1) (.int .i64 10)))))))] (.sc (.sl)) []
  (.sem (.convert 90 9 (.tmp 17)) 9 [(17, (.sc (.atom 3)))] (.sc (.str)) []
  (.chk [] (.catOk (.atom 4) (.atom 2))
  (.ite (.cmp .eql (.ar .quo .i64 (.atom 1) (.int .i64 10)) (.int .i64 0))
   (.ite (.cmp .lss (.atom 0) (.int .i64 0))
    (.chk [] (.catOk (.str [45]) (.cat (.atom 4) (.atom 2)))
    (.leaf (.sc (.cat (.str [45]) (.cat (.atom 4) (.atom 2))))))
    (.leaf (.sc (.cat (.atom 4) (.atom 2)))))
   (.next 4 [(.ar .quo .i64 (.atom 1) (.int .i64 10)), (.cat (.atom 4) (.atom 2))]))))))
theorem fm_scrimshawref02_Digits_eq : execF Tryz.prog { pub := [], nojoin := false } Tryz.f46 = fm_scrimshawref02_Digits := by kernel_rfl
theorem cb_scrimshawref02_Digits : callB Tryz.prog 46 = true := by kernel_rfl
theorem tri_scrimshawref02_Digits : TriOf Tryz.prog 46 Tryz.f46 fm_scrimshawref02_Digits := triOf Tryz.func46 fm_scrimshawref02_Digits_eq

/-- scrimshaw/scrimshawref06.Has -/
abbrev n_scrimshawref06_Has : FuncId := 47
def fm_scrimshawref06_Has : Fm VE :=
 (.loop 3 [.bool, .int .i64] [(.bool false), (.int .i64 0)]
  (.ite (.cmp .lss (.atom 3) (.len (.atom 0)))
   (.chk [] (.inSl (.atom 0) (.atom 3))
   (.load (.elt (.atom 0) (.atom 3) 1) [.str]
   (.ite (.scmp .eql (.atom 4) (.atom 1))
    (.leaf (.sc (.bool true)))
    (.next 3 [(.atom 2), (.ar .add .i64 (.atom 3) (.int .i64 1))]))))
   (.leaf (.sc (.bool false)))))
theorem fm_scrimshawref06_Has_eq : execF Tryz.prog { pub := [], nojoin := false } Tryz.f47 = fm_scrimshawref06_Has := by kernel_rfl
theorem cb_scrimshawref06_Has : callB Tryz.prog 47 = true := by kernel_rfl
theorem tri_scrimshawref06_Has : TriOf Tryz.prog 47 Tryz.f47 fm_scrimshawref06_Has := triOf Tryz.func47 fm_scrimshawref06_Has_eq

/-- scrimshaw/core.shaped -/
abbrev n_core_shaped : FuncId := 51
def fm_core_shaped : Fm VE :=
 (.ite (.cmp .eql (.atom 0) (.int .i64 0))
  (.leaf (.tu [(true, [(.bool false), (.bool false), (.int .i64 0), (.int .i64 0)]), (false, [(.bool true)])]))
  (.ite (.cmp .eql (.atom 0) (.int .i64 1))
   (.leaf (.tu [(true, [(.bool true), (.bool false), (.int .i64 0), (.int .i64 0)]), (false, [(.bool true)])]))
   (.ite (.cmp .eql (.atom 0) (.int .i64 2))
    (.leaf (.tu [(true, [(.bool true), (.bool false), (.int .i64 1), (.int .i64 1)]), (false, [(.bool true)])]))
    (.ite (.cmp .eql (.atom 0) (.int .i64 3))
     (.leaf (.tu [(true, [(.bool false), (.bool false), (.int .i64 3), (.int .i64 3)]), (false, [(.bool true)])]))
     (.ite (.cmp .eql (.atom 0) (.int .i64 4))
      (.leaf (.tu [(true, [(.bool false), (.bool false), (.int .i64 2), (.int .i64 4096)]), (false, [(.bool true)])]))
      (.ite (.cmp .eql (.atom 0) (.int .i64 5))
       (.leaf (.tu [(true, [(.bool false), (.bool true), (.int .i64 1), (.int .i64 1)]), (false, [(.cmp .leq (.len (.atom 2)) (.int .i64 6))])]))
       (.ite (.cmp .eql (.atom 0) (.int .i64 6))
        (.leaf (.tu [(true, [(.bool false), (.bool false), (.int .i64 1), (.int .i64 7)]), (false, [(.bool true)])]))
        (.ite (.cmp .eql (.atom 0) (.int .i64 7))
         (.call (.fn 14) [(.sc (.atom 1))] (.sc (.int .i64)) []
         (.leaf (.tu [(true, [(.bool true), (.bool false), (.atom 8), (.atom 8)]), (false, [(.cmp .geq (.atom 8) (.int .i64 0))])])))
         (.ite (.pick (.cmp .eql (.atom 0) (.int .i64 8)) (.cmp .eql (.atom 0) (.int .i64 8)) (.cmp .eql (.atom 0) (.int .i64 9)))
          (.leaf (.tu [(true, [(.bool false), (.bool true), (.ar .add .i64 (.len (.atom 2)) (.int .i64 1)), (.ar .add .i64 (.len (.atom 2)) (.int .i64 1))]), (false, [(.bool true)])]))
          (.ite (.cmp .eql (.atom 0) (.int .i64 10))
           (.leaf (.tu [(true, [(.bool false), (.bool true), (.ar .add .i64 (.len (.atom 2)) (.int .i64 1)), (.ar .add .i64 (.len (.atom 2)) (.int .i64 1))]), (false, [(.cmp .gtr (.len (.atom 2)) (.int .i64 0))])]))
           (.leaf (.tu [(true, [(.bool false), (.bool false), (.int .i64 0), (.int .i64 0)]), (false, [(.bool false)])]))))))))))))
theorem fm_core_shaped_eq : execF Tryz.prog { pub := [], nojoin := false } Tryz.f51 = fm_core_shaped := by kernel_rfl
theorem cb_core_shaped : callB Tryz.prog 51 = true := by kernel_rfl
theorem tri_core_shaped : TriOf Tryz.prog 51 Tryz.f51 fm_core_shaped := triOf Tryz.func51 fm_core_shaped_eq

/-- scrimshaw/core.names -/
abbrev n_core_names : FuncId := 52
def fm_core_names : Fm VE :=
 (.loop 3 [.bool, .int .i64] [(.bool false), (.int .i64 0)]
  (.ite (.cmp .lss (.atom 2) (.len (.atom 0)))
   (.chk [] (.inSl (.atom 0) (.atom 2))
   (.load (.elt (.atom 0) (.atom 2) 1) [.str]
   (.join 8 [.bool]
    (.ite (.atom 4)
     (.leaf (.sc (.bool false)))
     (.next 3 [(.atom 1), (.ar .add .i64 (.atom 2) (.int .i64 1))]))
    (.call (.fn 53) [(.sc (.atom 3))] (.sc (.bool)) []
    (.chk [((.not (.atom 4)), false)] (.sub (.cap (.atom 0)) (.int .i64 0) (.atom 2))
    (.ite (.not (.atom 4))
     (.next 8 [(.bool true)])
     (.call (.fn 74) [(.sc (.sls (.atom 0) (.int .i64 0) (.atom 2) 1)), (.sc (.atom 3))] (.sc (.bool)) []
     (.next 8 [(.atom 5)]))))))))
   (.leaf (.sc (.bool true)))))
theorem fm_core_names_eq : execF Tryz.prog { pub := [], nojoin := false } Tryz.f52 = fm_core_names := by kernel_rfl
theorem cb_core_names : callB Tryz.prog 52 = true := by kernel_rfl
theorem tri_core_names : TriOf Tryz.prog 52 Tryz.f52 fm_core_names := triOf Tryz.func52 fm_core_names_eq

/-- scrimshaw/data.Name -/
abbrev n_data_Name : FuncId := 53
def fm_data_Name : Fm VE :=
 (.loop 3 [.bool, .int .i64] [(.bool false), (.int .i64 0)]
  (.ite (.cmp .lss (.atom 2) (.slen (.atom 0)))
   (.chk [] (.inStr (.atom 0) (.atom 2))
   (.call (.fn 75) [(.sc (.sidx (.atom 0) (.atom 2)))] (.sc (.bool)) []
   (.ite (.not (.atom 3))
    (.leaf (.sc (.bool false)))
    (.next 3 [(.atom 1), (.ar .add .i64 (.atom 2) (.int .i64 1))]))))
   (.join 6 [.bool]
    (.leaf (.sc (.atom 3)))
    (.ite (.pick (.pick (.scmp .neq (.atom 0) (.str [])) (.cmp .leq (.slen (.atom 0)) (.int .i64 64)) (.bool false)) (.scmp .neq (.atom 0) (.str [46])) (.bool false))
     (.call (.fn 76) [(.sc (.atom 0))] (.sc (.bool)) []
     (.next 6 [(.not (.atom 3))]))
     (.next 6 [(.bool false)])))))
theorem fm_data_Name_eq : execF Tryz.prog { pub := [], nojoin := false } Tryz.f53 = fm_data_Name := by kernel_rfl
theorem cb_data_Name : callB Tryz.prog 53 = true := by kernel_rfl
theorem tri_data_Name : TriOf Tryz.prog 53 Tryz.f53 fm_data_Name := triOf Tryz.func53 fm_data_Name_eq

/-- scrimshaw/core.isConst -/
abbrev n_core_isConst : FuncId := 54
def fm_core_isConst : Fm VE :=
 (.call (.fn 77) [(.ag [(.atom 0), (.atom 1), (.atom 2), (.atom 3)])] (.sc (.int .i64)) []
 (.leaf (.sc (.pick (.pick (.cmp .eql (.atom 4) (.int .i64 0)) (.cmp .neq (.atom 0) (.int .i64 3)) (.bool false)) (.pick (.cmp .lss (.atom 0) (.int .i64 5)) (.bool true) (.pick (.cmp .eql (.atom 0) (.int .i64 5)) (.cmp .eql (.len (.atom 3)) (.int .i64 0)) (.bool false))) (.bool false)))))
theorem fm_core_isConst_eq : execF Tryz.prog { pub := [], nojoin := false } Tryz.f54 = fm_core_isConst := by kernel_rfl
theorem cb_core_isConst : callB Tryz.prog 54 = true := by kernel_rfl
theorem tri_core_isConst : TriOf Tryz.prog 54 Tryz.f54 fm_core_isConst := triOf Tryz.func54 fm_core_isConst_eq

/-- slices.ContainsFunc[[]scrimshaw/api.Expr,scrimshaw/api.Expr] -/
abbrev n_slices_ContainsFunc___api_Expr_api_Expr_ : FuncId := 55
def fm_slices_ContainsFunc___api_Expr_api_Expr_ : Fm VE :=
 (.call (.fn 78) [(.sc (.atom 0)), (.sc (.atom 1))] (.sc (.int .i64)) []
 (.leaf (.sc (.cmp .geq (.atom 2) (.int .i64 0)))))
theorem fm_slices_ContainsFunc___api_Expr_api_Expr__eq : execF Tryz.prog { pub := [], nojoin := false } Tryz.f55 = fm_slices_ContainsFunc___api_Expr_api_Expr_ := by kernel_rfl
theorem cb_slices_ContainsFunc___api_Expr_api_Expr_ : callB Tryz.prog 55 = true := by kernel_rfl
theorem tri_slices_ContainsFunc___api_Expr_api_Expr_ : TriOf Tryz.prog 55 Tryz.f55 fm_slices_ContainsFunc___api_Expr_api_Expr_ := triOf Tryz.func55 fm_slices_ContainsFunc___api_Expr_api_Expr__eq

/-- scrimshaw/core.form$1 -/
abbrev n_core_form_1 : FuncId := 56
def fm_core_form_1 : Fm VE :=
 (.leaf (.sc (.cmp .neq (.atom 0) (.int .i64 5))))
theorem fm_core_form_1_eq : execF Tryz.prog { pub := [], nojoin := false } Tryz.f56 = fm_core_form_1 := by kernel_rfl
theorem cb_core_form_1 : callB Tryz.prog 56 = true := by kernel_rfl
theorem tri_core_form_1 : TriOf Tryz.prog 56 Tryz.f56 fm_core_form_1 := triOf Tryz.func56 fm_core_form_1_eq

/-- scrimshaw/data.Equal -/
abbrev n_data_Equal : FuncId := 57
def fm_data_Equal : Fm VE :=
 (.join 1 [.bool]
  (.leaf (.sc (.atom 8)))
  (.ite (.pick (.pick (.cmp .eql (.atom 0) (.atom 4)) (.cmp .eql (.atom 1) (.atom 5)) (.bool false)) (.scmp .eql (.atom 2) (.atom 6)) (.bool false))
   (.call (.fn 79) [(.sc (.atom 3)), (.sc (.atom 7)), (.sc (.fn 57))] (.sc (.bool)) []
   (.next 1 [(.atom 8)]))
   (.next 1 [(.bool false)])))
theorem fm_data_Equal_eq : execF Tryz.prog { pub := [], nojoin := false } Tryz.f57 = fm_data_Equal := by kernel_rfl
theorem cb_data_Equal : callB Tryz.prog 57 = true := by kernel_rfl
theorem tri_data_Equal : TriOf Tryz.prog 57 Tryz.f57 fm_data_Equal := triOf Tryz.func57 fm_data_Equal_eq

/-- scrimshaw/scrimshawref06.Const -/
abbrev n_scrimshawref06_Const : FuncId := 59
def fm_scrimshawref06_Const : Fm VE :=
 (.call (.fn 81) [(.ag [(.atom 0), (.atom 1), (.atom 2), (.atom 3)])] (.sc (.int .i64)) []
 (.ite (.cmp .neq (.atom 4) (.int .i64 0))
  (.leaf (.sc (.bool false)))
  (.leaf (.sc (.pick (.pick (.pick (.pick (.cmp .eql (.atom 0) (.int .i64 0)) (.bool true) (.cmp .eql (.atom 0) (.int .i64 1))) (.bool true) (.cmp .eql (.atom 0) (.int .i64 2))) (.bool true) (.cmp .eql (.atom 0) (.int .i64 4))) (.bool true) (.pick (.cmp .eql (.atom 0) (.int .i64 5)) (.cmp .eql (.len (.atom 3)) (.int .i64 0)) (.bool false)))))))
theorem fm_scrimshawref06_Const_eq : execF Tryz.prog { pub := [], nojoin := false } Tryz.f59 = fm_scrimshawref06_Const := by kernel_rfl
theorem cb_scrimshawref06_Const : callB Tryz.prog 59 = true := by kernel_rfl
theorem tri_scrimshawref06_Const : TriOf Tryz.prog 59 Tryz.f59 fm_scrimshawref06_Const := triOf Tryz.func59 fm_scrimshawref06_Const_eq

/-- scrimshaw/scrimshawref06.names -/
abbrev n_scrimshawref06_names : FuncId := 60
def fm_scrimshawref06_names : Fm VE :=
 (.loop 3 [.bool, .int .i64] [(.bool false), (.int .i64 0)]
  (.ite (.cmp .lss (.atom 2) (.len (.atom 0)))
   (.join 7 [.bool]
    (.ite (.atom 3)
     (.leaf (.sc (.bool false)))
     (.next 3 [(.atom 1), (.ar .add .i64 (.atom 2) (.int .i64 1))]))
    (.chk [] (.inSl (.atom 0) (.atom 2))
    (.load (.elt (.atom 0) (.atom 2) 1) [.str]
    (.call (.fn 61) [(.sc (.atom 3))] (.sc (.bool)) []
    (.chk [((.not (.atom 4)), false)] (.sub (.cap (.atom 0)) (.int .i64 0) (.atom 2))
    (.ite (.not (.atom 4))
     (.next 7 [(.bool true)])
     (.load (.elt (.atom 0) (.atom 2) 1) [.str]
     (.call (.fn 47) [(.sc (.sls (.atom 0) (.int .i64 0) (.atom 2) 1)), (.sc (.atom 5))] (.sc (.bool)) []
     (.next 7 [(.atom 6)])))))))))
   (.leaf (.sc (.bool true)))))
theorem fm_scrimshawref06_names_eq : execF Tryz.prog { pub := [], nojoin := false } Tryz.f60 = fm_scrimshawref06_names := by kernel_rfl
theorem cb_scrimshawref06_names : callB Tryz.prog 60 = true := by kernel_rfl
theorem tri_scrimshawref06_names : TriOf Tryz.prog 60 Tryz.f60 fm_scrimshawref06_names := triOf Tryz.func60 fm_scrimshawref06_names_eq

/-- scrimshaw/scrimshawref02.Name -/
abbrev n_scrimshawref02_Name : FuncId := 61
def fm_scrimshawref02_Name : Fm VE :=
 (.join 2 [.bool]
  (.ite (.atom 1)
   (.leaf (.sc (.bool false)))
   (.loop 5 [.bool, .int .i64] [(.bool false), (.int .i64 0)]
    (.ite (.cmp .lss (.atom 3) (.slen (.atom 0)))
     (.chk [] (.inStr (.atom 0) (.atom 3))
     (.call (.fn 83) [(.sc (.sidx (.atom 0) (.atom 3)))] (.sc (.bool)) []
     (.ite (.not (.atom 4))
      (.leaf (.sc (.bool false)))
      (.next 5 [(.atom 2), (.ar .add .i64 (.atom 3) (.int .i64 1))]))))
     (.leaf (.sc (.bool true))))))
  (.ite (.pick (.pick (.cmp .lss (.slen (.atom 0)) (.int .i64 1)) (.bool true) (.cmp .gtr (.slen (.atom 0)) (.int .i64 64))) (.bool true) (.scmp .eql (.atom 0) (.str [46])))
   (.next 2 [(.bool true)])
   (.call (.fn 82) [(.sc (.atom 0))] (.sc (.bool)) []
   (.next 2 [(.atom 1)]))))
theorem fm_scrimshawref02_Name_eq : execF Tryz.prog { pub := [], nojoin := false } Tryz.f61 = fm_scrimshawref02_Name := by kernel_rfl
theorem cb_scrimshawref02_Name : callB Tryz.prog 61 = true := by kernel_rfl
theorem tri_scrimshawref02_Name : TriOf Tryz.prog 61 Tryz.f61 fm_scrimshawref02_Name := triOf Tryz.func61 fm_scrimshawref02_Name_eq

/-- scrimshaw/scrimshawref06.Arity -/
abbrev n_scrimshawref06_Arity : FuncId := 62
def fm_scrimshawref06_Arity : Fm VE :=
 (.join 3 [.bool]
  (.ite (.atom 1)
   (.leaf (.sc (.int .i64 0)))
   (.join 4 [.bool]
    (.ite (.atom 2)
     (.leaf (.sc (.int .i64 1)))
     (.join 5 [.bool]
      (.ite (.atom 3)
       (.leaf (.sc (.int .i64 1)))
       (.join 6 [.bool]
        (.ite (.atom 4)
         (.leaf (.sc (.int .i64 2)))
         (.join 7 [.bool]
          (.ite (.atom 5)
           (.leaf (.sc (.int .i64 2)))
           (.ite (.pick (.scmp .eql (.atom 0) (.str [118, 101, 99, 116, 111, 114, 45, 115, 101, 116, 33])) (.scmp .eql (.atom 0) (.str [118, 101, 99, 116, 111, 114, 45, 115, 101, 116, 33])) (.scmp .eql (.atom 0) (.str [115, 116, 114, 105, 110, 103, 45, 115, 101, 116, 33])))
            (.leaf (.sc (.int .i64 3)))
            (.leaf (.sc (.int .i64 (-1))))))
          (.ite (.scmp .eql (.atom 0) (.str [109, 97, 107, 101, 45, 118, 101, 99, 116, 111, 114]))
           (.next 7 [(.scmp .eql (.atom 0) (.str [109, 97, 107, 101, 45, 118, 101, 99, 116, 111, 114]))])
           (.ite (.scmp .eql (.atom 0) (.str [118, 101, 99, 116, 111, 114, 45, 114, 101, 102]))
            (.next 7 [(.scmp .eql (.atom 0) (.str [118, 101, 99, 116, 111, 114, 45, 114, 101, 102]))])
            (.ite (.scmp .eql (.atom 0) (.str [109, 97, 107, 101, 45, 115, 116, 114, 105, 110, 103]))
             (.next 7 [(.scmp .eql (.atom 0) (.str [109, 97, 107, 101, 45, 115, 116, 114, 105, 110, 103]))])
             (.next 7 [(.pick (.scmp .eql (.atom 0) (.str [115, 116, 114, 105, 110, 103, 45, 114, 101, 102])) (.scmp .eql (.atom 0) (.str [115, 116, 114, 105, 110, 103, 45, 114, 101, 102])) (.scmp .eql (.atom 0) (.str [37, 115, 101, 116, 45, 98, 111, 120, 33])))]))))))
        (.ite (.scmp .eql (.atom 0) (.str [43]))
         (.next 6 [(.scmp .eql (.atom 0) (.str [43]))])
         (.ite (.scmp .eql (.atom 0) (.str [45]))
          (.next 6 [(.scmp .eql (.atom 0) (.str [45]))])
          (.ite (.scmp .eql (.atom 0) (.str [42]))
           (.next 6 [(.scmp .eql (.atom 0) (.str [42]))])
           (.ite (.scmp .eql (.atom 0) (.str [113, 117, 111, 116, 105, 101, 110, 116]))
            (.next 6 [(.scmp .eql (.atom 0) (.str [113, 117, 111, 116, 105, 101, 110, 116]))])
            (.ite (.scmp .eql (.atom 0) (.str [114, 101, 109, 97, 105, 110, 100, 101, 114]))
             (.next 6 [(.scmp .eql (.atom 0) (.str [114, 101, 109, 97, 105, 110, 100, 101, 114]))])
             (.ite (.scmp .eql (.atom 0) (.str [60]))
              (.next 6 [(.scmp .eql (.atom 0) (.str [60]))])
              (.ite (.scmp .eql (.atom 0) (.str [61]))
               (.next 6 [(.scmp .eql (.atom 0) (.str [61]))])
               (.ite (.scmp .eql (.atom 0) (.str [101, 113, 63]))
                (.next 6 [(.scmp .eql (.atom 0) (.str [101, 113, 63]))])
                (.ite (.scmp .eql (.atom 0) (.str [99, 111, 110, 115]))
                 (.next 6 [(.scmp .eql (.atom 0) (.str [99, 111, 110, 115]))])
                 (.next 6 [(.pick (.scmp .eql (.atom 0) (.str [115, 101, 116, 45, 99, 97, 114, 33])) (.scmp .eql (.atom 0) (.str [115, 101, 116, 45, 99, 97, 114, 33])) (.scmp .eql (.atom 0) (.str [115, 101, 116, 45, 99, 100, 114, 33])))]))))))))))))
      (.ite (.scmp .eql (.atom 0) (.str [99, 97, 114]))
       (.next 5 [(.scmp .eql (.atom 0) (.str [99, 97, 114]))])
       (.ite (.scmp .eql (.atom 0) (.str [99, 100, 114]))
        (.next 5 [(.scmp .eql (.atom 0) (.str [99, 100, 114]))])
        (.ite (.scmp .eql (.atom 0) (.str [118, 101, 99, 116, 111, 114, 45, 108, 101, 110, 103, 116, 104]))
         (.next 5 [(.scmp .eql (.atom 0) (.str [118, 101, 99, 116, 111, 114, 45, 108, 101, 110, 103, 116, 104]))])
         (.ite (.scmp .eql (.atom 0) (.str [115, 116, 114, 105, 110, 103, 45, 108, 101, 110, 103, 116, 104]))
          (.next 5 [(.scmp .eql (.atom 0) (.str [115, 116, 114, 105, 110, 103, 45, 108, 101, 110, 103, 116, 104]))])
          (.ite (.scmp .eql (.atom 0) (.str [99, 104, 97, 114, 45, 62, 105, 110, 116, 101, 103, 101, 114]))
           (.next 5 [(.scmp .eql (.atom 0) (.str [99, 104, 97, 114, 45, 62, 105, 110, 116, 101, 103, 101, 114]))])
           (.ite (.scmp .eql (.atom 0) (.str [105, 110, 116, 101, 103, 101, 114, 45, 62, 99, 104, 97, 114]))
            (.next 5 [(.scmp .eql (.atom 0) (.str [105, 110, 116, 101, 103, 101, 114, 45, 62, 99, 104, 97, 114]))])
            (.ite (.scmp .eql (.atom 0) (.str [119, 114, 105, 116, 101, 45, 117, 56]))
             (.next 5 [(.scmp .eql (.atom 0) (.str [119, 114, 105, 116, 101, 45, 117, 56]))])
             (.ite (.scmp .eql (.atom 0) (.str [37, 98, 111, 120]))
              (.next 5 [(.scmp .eql (.atom 0) (.str [37, 98, 111, 120]))])
              (.ite (.scmp .eql (.atom 0) (.str [37, 117, 110, 98, 111, 120]))
               (.next 5 [(.scmp .eql (.atom 0) (.str [37, 117, 110, 98, 111, 120]))])
               (.next 5 [(.pick (.scmp .eql (.atom 0) (.str [37, 119, 105, 110, 100, 33])) (.scmp .eql (.atom 0) (.str [37, 119, 105, 110, 100, 33])) (.scmp .eql (.atom 0) (.str [37, 99, 97, 108, 108, 99, 99])))]))))))))))))
    (.ite (.scmp .eql (.atom 0) (.str [110, 117, 108, 108, 63]))
     (.next 4 [(.scmp .eql (.atom 0) (.str [110, 117, 108, 108, 63]))])
     (.ite (.scmp .eql (.atom 0) (.str [112, 97, 105, 114, 63]))
      (.next 4 [(.scmp .eql (.atom 0) (.str [112, 97, 105, 114, 63]))])
      (.ite (.scmp .eql (.atom 0) (.str [118, 101, 99, 116, 111, 114, 63]))
       (.next 4 [(.scmp .eql (.atom 0) (.str [118, 101, 99, 116, 111, 114, 63]))])
       (.ite (.scmp .eql (.atom 0) (.str [115, 116, 114, 105, 110, 103, 63]))
        (.next 4 [(.scmp .eql (.atom 0) (.str [115, 116, 114, 105, 110, 103, 63]))])
        (.ite (.scmp .eql (.atom 0) (.str [115, 121, 109, 98, 111, 108, 63]))
         (.next 4 [(.scmp .eql (.atom 0) (.str [115, 121, 109, 98, 111, 108, 63]))])
         (.ite (.scmp .eql (.atom 0) (.str [99, 104, 97, 114, 63]))
          (.next 4 [(.scmp .eql (.atom 0) (.str [99, 104, 97, 114, 63]))])
          (.ite (.scmp .eql (.atom 0) (.str [105, 110, 116, 101, 103, 101, 114, 63]))
           (.next 4 [(.scmp .eql (.atom 0) (.str [105, 110, 116, 101, 103, 101, 114, 63]))])
           (.ite (.scmp .eql (.atom 0) (.str [98, 111, 111, 108, 101, 97, 110, 63]))
            (.next 4 [(.scmp .eql (.atom 0) (.str [98, 111, 111, 108, 101, 97, 110, 63]))])
            (.next 4 [(.pick (.scmp .eql (.atom 0) (.str [112, 114, 111, 99, 101, 100, 117, 114, 101, 63])) (.scmp .eql (.atom 0) (.str [112, 114, 111, 99, 101, 100, 117, 114, 101, 63])) (.scmp .eql (.atom 0) (.str [101, 111, 102, 45, 111, 98, 106, 101, 99, 116, 63])))])))))))))))
  (.ite (.scmp .eql (.atom 0) (.str [114, 101, 97, 100, 45, 117, 56]))
   (.next 3 [(.scmp .eql (.atom 0) (.str [114, 101, 97, 100, 45, 117, 56]))])
   (.ite (.scmp .eql (.atom 0) (.str [101, 114, 114, 111, 114]))
    (.next 3 [(.scmp .eql (.atom 0) (.str [101, 114, 114, 111, 114]))])
    (.ite (.scmp .eql (.atom 0) (.str [118, 111, 105, 100]))
     (.next 3 [(.scmp .eql (.atom 0) (.str [118, 111, 105, 100]))])
     (.next 3 [(.pick (.scmp .eql (.atom 0) (.str [37, 119, 105, 110, 100, 101, 114, 115])) (.scmp .eql (.atom 0) (.str [37, 119, 105, 110, 100, 101, 114, 115])) (.scmp .eql (.atom 0) (.str [37, 117, 110, 115, 101, 116])))])))))
theorem fm_scrimshawref06_Arity_eq : execF Tryz.prog { pub := [], nojoin := false } Tryz.f62 = fm_scrimshawref06_Arity := by kernel_rfl
theorem cb_scrimshawref06_Arity : callB Tryz.prog 62 = true := by kernel_rfl
theorem tri_scrimshawref06_Arity : TriOf Tryz.prog 62 Tryz.f62 fm_scrimshawref06_Arity := triOf Tryz.func62 fm_scrimshawref06_Arity_eq

/-- slices.Contains[[]string,string] -/
abbrev n_slices_Contains___string_string_ : FuncId := 74
def fm_slices_Contains___string_string_ : Fm VE :=
 (.call (.fn 90) [(.sc (.atom 0)), (.sc (.atom 1))] (.sc (.int .i64)) []
 (.leaf (.sc (.cmp .geq (.atom 2) (.int .i64 0)))))
theorem fm_slices_Contains___string_string__eq : execF Tryz.prog { pub := [], nojoin := false } Tryz.f74 = fm_slices_Contains___string_string_ := by kernel_rfl
theorem cb_slices_Contains___string_string_ : callB Tryz.prog 74 = true := by kernel_rfl
theorem tri_slices_Contains___string_string_ : TriOf Tryz.prog 74 Tryz.f74 fm_slices_Contains___string_string_ := triOf Tryz.func74 fm_slices_Contains___string_string__eq

/-- scrimshaw/data.isName -/
abbrev n_data_isName : FuncId := 75
def fm_data_isName : Fm VE :=
 (.join 1 [.bool]
  (.leaf (.sc (.atom 1)))
  (.call (.fn 91) [(.sc (.atom 0))] (.sc (.bool)) []
  (.ite (.pick (.pick (.atom 1) (.bool true) (.pick (.cmp .geq (.atom 0) (.int .u8 97)) (.cmp .leq (.atom 0) (.int .u8 122)) (.bool false))) (.bool true) (.pick (.cmp .geq (.atom 0) (.int .u8 65)) (.cmp .leq (.atom 0) (.int .u8 90)) (.bool false)))
   (.next 1 [(.bool true)])
   (.call (.fn 92) [(.sc (.str [33, 36, 37, 38, 42, 47, 58, 60, 61, 62, 63, 94, 95, 126, 43, 45, 46, 64])), (.sc (.atom 0))] (.sc (.int .i64)) []
   (.next 1 [(.cmp .geq (.atom 2) (.int .i64 0))])))))
theorem fm_data_isName_eq : execF Tryz.prog { pub := [], nojoin := false } Tryz.f75 = fm_data_isName := by kernel_rfl
theorem cb_data_isName : callB Tryz.prog 75 = true := by kernel_rfl
theorem tri_data_isName : TriOf Tryz.prog 75 Tryz.f75 fm_data_isName := triOf Tryz.func75 fm_data_isName_eq

/-- scrimshaw/data.isNumber -/
abbrev n_data_isNumber : FuncId := 76
def fm_data_isNumber : Fm VE :=
 (.join 1 [.str]
  (.loop 4 [.bool, .int .i64] [(.bool false), (.int .i64 0)]
   (.ite (.cmp .lss (.atom 3) (.slen (.atom 1)))
    (.chk [] (.inStr (.atom 1) (.atom 3))
    (.call (.fn 91) [(.sc (.sidx (.atom 1) (.atom 3)))] (.sc (.bool)) []
    (.ite (.not (.atom 4))
     (.leaf (.sc (.bool false)))
     (.next 4 [(.atom 2), (.ar .add .i64 (.atom 3) (.int .i64 1))]))))
    (.leaf (.sc (.scmp .neq (.atom 1) (.str []))))))
  (.chk [((.scmp .neq (.atom 0) (.str [])), true)] (.inStr (.atom 0) (.int .i64 0))
  (.chk [((.scmp .neq (.atom 0) (.str [])), true), ((.cmp .eql (.sidx (.atom 0) (.int .i64 0)) (.int .u8 43)), false)] (.inStr (.atom 0) (.int .i64 0))
  (.ite (.pick (.scmp .neq (.atom 0) (.str [])) (.pick (.cmp .eql (.sidx (.atom 0) (.int .i64 0)) (.int .u8 43)) (.bool true) (.cmp .eql (.sidx (.atom 0) (.int .i64 0)) (.int .u8 45))) (.bool false))
   (.chk [] (.sub (.slen (.atom 0)) (.int .i64 1) (.slen (.atom 0)))
   (.next 1 [(.ssub (.atom 0) (.int .i64 1) (.slen (.atom 0)))]))
   (.next 1 [(.atom 0)])))))
theorem fm_data_isNumber_eq : execF Tryz.prog { pub := [], nojoin := false } Tryz.f76 = fm_data_isNumber := by kernel_rfl
theorem cb_data_isNumber : callB Tryz.prog 76 = true := by kernel_rfl
theorem tri_data_isNumber : TriOf Tryz.prog 76 Tryz.f76 fm_data_isNumber := triOf Tryz.func76 fm_data_isNumber_eq

/-- scrimshaw/data.Check -/
abbrev n_data_Check : FuncId := 77
def fm_data_Check : Fm VE :=
 (.new 117 [(.int .i64 0)]
 (.call (.fn 93) [(.sc (.atom 4)), (.ag [(.atom 0), (.atom 1), (.atom 2), (.atom 3)]), (.sc (.int .i64 0))] (.sc (.int .i64)) []
 (.leaf (.sc (.atom 5)))))
theorem fm_data_Check_eq : execF Tryz.prog { pub := [3], nojoin := false } Tryz.f77 = fm_data_Check := by kernel_rfl
theorem cb_data_Check : callB Tryz.prog 77 = true := by kernel_rfl
theorem tri_data_Check : TriOf Tryz.prog 77 Tryz.f77 fm_data_Check := triOf Tryz.func77 fm_data_Check_eq

/-- slices.IndexFunc[[]scrimshaw/api.Expr,scrimshaw/api.Expr] -/
abbrev n_slices_IndexFunc___api_Expr_api_Expr_ : FuncId := 78
def fm_slices_IndexFunc___api_Expr_api_Expr_ : Fm VE :=
 (.loop 3 [.int .i64, .int .i64] [(.int .i64 0), (.int .i64 0)]
  (.ite (.cmp .lss (.atom 3) (.len (.atom 0)))
   (.chk [] (.inSl (.atom 0) (.atom 3))
   (.load (.elt (.atom 0) (.atom 3) 8) [.int .i64, .str, .sl, .int .i64, .int .i64, .str, .sl, .sl]
   (.call (.atom 1) [(.ag [(.atom 4), (.atom 5), (.atom 6), (.atom 7), (.atom 8), (.atom 9), (.atom 10), (.atom 11)])] (.sc (.bool)) []
   (.ite (.atom 12)
    (.leaf (.sc (.atom 3)))
    (.next 3 [(.atom 2), (.ar .add .i64 (.atom 3) (.int .i64 1))])))))
   (.leaf (.sc (.int .i64 (-1))))))
theorem fm_slices_IndexFunc___api_Expr_api_Expr__eq : execF Tryz.prog { pub := [], nojoin := false } Tryz.f78 = fm_slices_IndexFunc___api_Expr_api_Expr_ := by kernel_rfl
theorem cb_slices_IndexFunc___api_Expr_api_Expr_ : callB Tryz.prog 78 = true := by kernel_rfl
theorem tri_slices_IndexFunc___api_Expr_api_Expr_ : TriOf Tryz.prog 78 Tryz.f78 fm_slices_IndexFunc___api_Expr_api_Expr_ := triOf Tryz.func78 fm_slices_IndexFunc___api_Expr_api_Expr__eq

/-- slices.EqualFunc[[]scrimshaw/api.Datum,[]scrimshaw/api.Datum,scrimshaw/api.Datum,scrimshaw/api.Datum] -/
abbrev n_slices_EqualFunc___api_Datum___api_Datum_api_Datum_api_Datum_ : FuncId := 79
def fm_slices_EqualFunc___api_Datum___api_Datum_api_Datum_api_Datum_ : Fm VE :=
 (.ite (.cmp .neq (.len (.atom 0)) (.len (.atom 1)))
  (.leaf (.sc (.bool false)))
  (.loop 5 [.bool, .int .i64] [(.bool false), (.int .i64 0)]
   (.ite (.cmp .lss (.atom 4) (.len (.atom 0)))
    (.chk [] (.inSl (.atom 0) (.atom 4))
    (.load (.elt (.atom 0) (.atom 4) 4) [.int .i64, .int .i64, .str, .sl]
    (.chk [] (.inSl (.atom 1) (.atom 4))
    (.load (.elt (.atom 1) (.atom 4) 4) [.int .i64, .int .i64, .str, .sl]
    (.call (.atom 2) [(.ag [(.atom 5), (.atom 6), (.atom 7), (.atom 8)]), (.ag [(.atom 9), (.atom 10), (.atom 11), (.atom 12)])] (.sc (.bool)) []
    (.ite (.not (.atom 13))
     (.leaf (.sc (.bool false)))
     (.next 5 [(.atom 3), (.ar .add .i64 (.atom 4) (.int .i64 1))])))))))
    (.leaf (.sc (.bool true))))))
theorem fm_slices_EqualFunc___api_Datum___api_Datum_api_Datum_api_Datum__eq : execF Tryz.prog { pub := [], nojoin := false } Tryz.f79 = fm_slices_EqualFunc___api_Datum___api_Datum_api_Datum_api_Datum_ := by kernel_rfl
theorem cb_slices_EqualFunc___api_Datum___api_Datum_api_Datum_api_Datum_ : callB Tryz.prog 79 = true := by kernel_rfl
theorem tri_slices_EqualFunc___api_Datum___api_Datum_api_Datum_api_Datum_ : TriOf Tryz.prog 79 Tryz.f79 fm_slices_EqualFunc___api_Datum___api_Datum_api_Datum_api_Datum_ := triOf Tryz.func79 fm_slices_EqualFunc___api_Datum___api_Datum_api_Datum_api_Datum__eq

/-- scrimshaw/scrimshawref02.Check -/
abbrev n_scrimshawref02_Check : FuncId := 81
def fm_scrimshawref02_Check : Fm VE :=
 (.call (.fn 98) [(.ag [(.atom 0), (.atom 1), (.atom 2), (.atom 3)]), (.sc (.int .i64 0)), (.sc (.int .i64 0))] (.tu [(false, [.int .i64]), (false, [.int .i64])]) []
 (.leaf (.sc (.atom 5))))
theorem fm_scrimshawref02_Check_eq : execF Tryz.prog { pub := [], nojoin := false } Tryz.f81 = fm_scrimshawref02_Check := by kernel_rfl
theorem cb_scrimshawref02_Check : callB Tryz.prog 81 = true := by kernel_rfl
theorem tri_scrimshawref02_Check : TriOf Tryz.prog 81 Tryz.f81 fm_scrimshawref02_Check := triOf Tryz.func81 fm_scrimshawref02_Check_eq

/-- scrimshaw/scrimshawref02.Number -/
abbrev n_scrimshawref02_Number : FuncId := 82
def fm_scrimshawref02_Number : Fm VE :=
 (.chk [((.cmp .gtr (.slen (.atom 0)) (.int .i64 0)), true)] (.inStr (.atom 0) (.int .i64 0))
 (.chk [((.cmp .gtr (.slen (.atom 0)) (.int .i64 0)), true), ((.cmp .eql (.sidx (.atom 0) (.int .i64 0)) (.int .u8 43)), false)] (.inStr (.atom 0) (.int .i64 0))
 (.loop 6 [.bool, .int .i64] [(.bool false), (.pick (.pick (.cmp .gtr (.slen (.atom 0)) (.int .i64 0)) (.pick (.cmp .eql (.sidx (.atom 0) (.int .i64 0)) (.int .u8 43)) (.bool true) (.cmp .eql (.sidx (.atom 0) (.int .i64 0)) (.int .u8 45))) (.bool false)) (.int .i64 1) (.int .i64 0))]
  (.ite (.cmp .lss (.atom 2) (.slen (.atom 0)))
   (.chk [] (.inStr (.atom 0) (.atom 2))
   (.call (.fn 99) [(.sc (.sidx (.atom 0) (.atom 2)))] (.sc (.bool)) []
   (.ite (.not (.atom 3))
    (.leaf (.sc (.bool false)))
    (.next 6 [(.atom 1), (.ar .add .i64 (.atom 2) (.int .i64 1))]))))
   (.leaf (.sc (.cmp .gtr (.slen (.atom 0)) (.pick (.pick (.cmp .gtr (.slen (.atom 0)) (.int .i64 0)) (.pick (.cmp .eql (.sidx (.atom 0) (.int .i64 0)) (.int .u8 43)) (.bool true) (.cmp .eql (.sidx (.atom 0) (.int .i64 0)) (.int .u8 45))) (.bool false)) (.int .i64 1) (.int .i64 0)))))))))
theorem fm_scrimshawref02_Number_eq : execF Tryz.prog { pub := [], nojoin := false } Tryz.f82 = fm_scrimshawref02_Number := by kernel_rfl
theorem cb_scrimshawref02_Number : callB Tryz.prog 82 = true := by kernel_rfl
theorem tri_scrimshawref02_Number : TriOf Tryz.prog 82 Tryz.f82 fm_scrimshawref02_Number := triOf Tryz.func82 fm_scrimshawref02_Number_eq

/-- scrimshaw/scrimshawref02.Byte -/
abbrev n_scrimshawref02_Byte : FuncId := 83
def fm_scrimshawref02_Byte : Fm VE :=
 (.call (.fn 99) [(.sc (.atom 0))] (.sc (.bool)) []
 (.ite (.pick (.pick (.atom 1) (.bool true) (.pick (.cmp .geq (.atom 0) (.int .u8 97)) (.cmp .leq (.atom 0) (.int .u8 122)) (.bool false))) (.bool true) (.pick (.cmp .geq (.atom 0) (.int .u8 65)) (.cmp .leq (.atom 0) (.int .u8 90)) (.bool false)))
  (.leaf (.sc (.bool true)))
  (.loop 6 [.bool, .int .i64] [(.bool false), (.int .i64 0)]
   (.ite (.cmp .lss (.atom 3) (.int .i64 18))
    (.chk [] (.inStr (.str [33, 36, 37, 38, 42, 47, 58, 60, 61, 62, 63, 94, 95, 126, 43, 45, 46, 64]) (.atom 3))
    (.ite (.cmp .eql (.sidx (.str [33, 36, 37, 38, 42, 47, 58, 60, 61, 62, 63, 94, 95, 126, 43, 45, 46, 64]) (.atom 3)) (.atom 0))
     (.leaf (.sc (.bool true)))
     (.next 6 [(.atom 2), (.ar .add .i64 (.atom 3) (.int .i64 1))])))
    (.leaf (.sc (.bool false)))))))
theorem fm_scrimshawref02_Byte_eq : execF Tryz.prog { pub := [], nojoin := false } Tryz.f83 = fm_scrimshawref02_Byte := by kernel_rfl
theorem cb_scrimshawref02_Byte : callB Tryz.prog 83 = true := by kernel_rfl
theorem tri_scrimshawref02_Byte : TriOf Tryz.prog 83 Tryz.f83 fm_scrimshawref02_Byte := triOf Tryz.func83 fm_scrimshawref02_Byte_eq

/-- slices.Index[[]string,string] -/
abbrev n_slices_Index___string_string_ : FuncId := 90
def fm_slices_Index___string_string_ : Fm VE :=
 (.loop 3 [.int .i64, .int .i64] [(.int .i64 0), (.int .i64 0)]
  (.ite (.cmp .lss (.atom 3) (.len (.atom 0)))
   (.chk [] (.inSl (.atom 0) (.atom 3))
   (.load (.elt (.atom 0) (.atom 3) 1) [.str]
   (.ite (.scmp .eql (.atom 1) (.atom 4))
    (.leaf (.sc (.atom 3)))
    (.next 3 [(.atom 2), (.ar .add .i64 (.atom 3) (.int .i64 1))]))))
   (.leaf (.sc (.int .i64 (-1))))))
theorem fm_slices_Index___string_string__eq : execF Tryz.prog { pub := [], nojoin := false } Tryz.f90 = fm_slices_Index___string_string_ := by kernel_rfl
theorem cb_slices_Index___string_string_ : callB Tryz.prog 90 = true := by kernel_rfl
theorem tri_slices_Index___string_string_ : TriOf Tryz.prog 90 Tryz.f90 fm_slices_Index___string_string_ := triOf Tryz.func90 fm_slices_Index___string_string__eq

/-- scrimshaw/data.isDigit -/
abbrev n_data_isDigit : FuncId := 91
def fm_data_isDigit : Fm VE :=
 (.leaf (.sc (.pick (.cmp .geq (.atom 0) (.int .u8 48)) (.cmp .leq (.atom 0) (.int .u8 57)) (.bool false))))
theorem fm_data_isDigit_eq : execF Tryz.prog { pub := [], nojoin := false } Tryz.f91 = fm_data_isDigit := by kernel_rfl
theorem cb_data_isDigit : callB Tryz.prog 91 = true := by kernel_rfl
theorem tri_data_isDigit : TriOf Tryz.prog 91 Tryz.f91 fm_data_isDigit := triOf Tryz.func91 fm_data_isDigit_eq

/-- strings.IndexByte -/
abbrev n_strings_IndexByte : FuncId := 92
theorem cb_strings_IndexByte : callB Tryz.prog 92 = true := by kernel_rfl
/-- (*scrimshaw/data.checker).check -/
abbrev n_data_checker__check : FuncId := 93
def fm_data_checker__check : Fm VE :=
 (.chk [] (.some (.atom 0))
 (.load (.padd (.atom 0) 0) [.int .i64]
 (.ite (.cmp .eql (.atom 6) (.int .i64 4096))
  (.leaf (.sc (.int .i64 22)))
  (.load (.padd (.atom 0) 0) [.int .i64]
  (.store (.padd (.atom 0) 0) [(.ar .add .i64 (.atom 7) (.int .i64 1))]
  (.call (.fn 102) [(.ag [(.atom 1), (.atom 2), (.atom 3), (.atom 4)])] (.sc (.bool)) []
  (.ite (.pick (.atom 8) (.cmp .eql (.atom 5) (.int .i64 32)) (.bool false))
   (.leaf (.sc (.int .i64 21)))
   (.call (.fn 103) [(.ag [(.atom 1), (.atom 2), (.atom 3), (.atom 4)])] (.sc (.bool)) []
   (.ite (.not (.atom 9))
    (.leaf (.sc (.int .i64 20)))
    (.loop 10 [.int .i64, .int .i64] [(.int .i64 0), (.int .i64 0)]
     (.ite (.cmp .lss (.atom 11) (.len (.atom 4)))
      (.chk [] (.inSl (.atom 4) (.atom 11))
      (.load (.elt (.atom 4) (.atom 11) 4) [.int .i64, .int .i64, .str, .sl]
      (.call (.fn 93) [(.sc (.atom 0)), (.ag [(.atom 12), (.atom 13), (.atom 14), (.atom 15)]), (.sc (.ar .add .i64 (.atom 5) (.int .i64 1)))] (.sc (.int .i64)) []
      (.ite (.cmp .neq (.atom 16) (.int .i64 0))
       (.leaf (.sc (.atom 16)))
       (.next 10 [(.atom 10), (.ar .add .i64 (.atom 11) (.int .i64 1))])))))
      (.leaf (.sc (.int .i64 0))))))))))))))
theorem fm_data_checker__check_eq : execF Tryz.prog { pub := [], nojoin := false } Tryz.f93 = fm_data_checker__check := by kernel_rfl
theorem cb_data_checker__check : callB Tryz.prog 93 = true := by kernel_rfl
theorem tri_data_checker__check : TriOf Tryz.prog 93 Tryz.f93 fm_data_checker__check := triOf Tryz.func93 fm_data_checker__check_eq

/-- scrimshaw/scrimshawref02.check -/
abbrev n_scrimshawref02_check : FuncId := 98
def fm_scrimshawref02_check : Fm VE :=
 (.ite (.cmp .eql (.atom 5) (.int .i64 4096))
  (.leaf (.tu [(false, [(.atom 5)]), (false, [(.int .i64 22)])]))
  (.call (.fn 108) [(.ag [(.atom 0), (.atom 1), (.atom 2), (.atom 3)])] (.sc (.bool)) []
  (.ite (.pick (.atom 6) (.cmp .eql (.atom 4) (.int .i64 32)) (.bool false))
   (.leaf (.tu [(false, [(.ar .add .i64 (.atom 5) (.int .i64 1))]), (false, [(.int .i64 21)])]))
   (.call (.fn 109) [(.ag [(.atom 0), (.atom 1), (.atom 2), (.atom 3)])] (.sc (.bool)) []
   (.ite (.not (.atom 7))
    (.leaf (.tu [(false, [(.ar .add .i64 (.atom 5) (.int .i64 1))]), (false, [(.int .i64 20)])]))
    (.loop 11 [.int .i64, .int .i64, .int .i64, .int .i64, .int .i64] [(.ar .add .i64 (.atom 5) (.int .i64 1)), (.int .i64 0), (.int .i64 0), (.int .i64 0), (.int .i64 0)]
     (.ite (.cmp .lss (.atom 12) (.len (.atom 3)))
      (.chk [] (.inSl (.atom 3) (.atom 12))
      (.load (.elt (.atom 3) (.atom 12) 4) [.int .i64, .int .i64, .str, .sl]
      (.call (.fn 98) [(.ag [(.atom 13), (.atom 14), (.atom 15), (.atom 16)]), (.sc (.ar .add .i64 (.atom 4) (.int .i64 1))), (.sc (.atom 8))] (.tu [(false, [.int .i64]), (false, [.int .i64])]) []
      (.ite (.cmp .neq (.atom 18) (.int .i64 0))
       (.leaf (.tu [(false, [(.atom 17)]), (false, [(.atom 18)])]))
       (.next 11 [(.atom 17), (.atom 9), (.atom 10), (.atom 18), (.ar .add .i64 (.atom 12) (.int .i64 1))])))))
      (.leaf (.tu [(false, [(.atom 8)]), (false, [(.int .i64 0)])])))))))))
theorem fm_scrimshawref02_check_eq : execF Tryz.prog { pub := [], nojoin := false } Tryz.f98 = fm_scrimshawref02_check := by kernel_rfl
theorem cb_scrimshawref02_check : callB Tryz.prog 98 = true := by kernel_rfl
theorem tri_scrimshawref02_check : TriOf Tryz.prog 98 Tryz.f98 fm_scrimshawref02_check := triOf Tryz.func98 fm_scrimshawref02_check_eq

/-- scrimshaw/scrimshawref02.Digit -/
abbrev n_scrimshawref02_Digit : FuncId := 99
def fm_scrimshawref02_Digit : Fm VE :=
 (.leaf (.sc (.pick (.cmp .geq (.atom 0) (.int .u8 48)) (.cmp .leq (.atom 0) (.int .u8 57)) (.bool false))))
theorem fm_scrimshawref02_Digit_eq : execF Tryz.prog { pub := [], nojoin := false } Tryz.f99 = fm_scrimshawref02_Digit := by kernel_rfl
theorem cb_scrimshawref02_Digit : callB Tryz.prog 99 = true := by kernel_rfl
theorem tri_scrimshawref02_Digit : TriOf Tryz.prog 99 Tryz.f99 fm_scrimshawref02_Digit := triOf Tryz.func99 fm_scrimshawref02_Digit_eq

/-- scrimshaw/data.hasItems -/
abbrev n_data_hasItems : FuncId := 102
def fm_data_hasItems : Fm VE :=
 (.leaf (.sc (.pick (.cmp .geq (.atom 0) (.int .i64 5)) (.cmp .leq (.atom 0) (.int .i64 7)) (.bool false))))
theorem fm_data_hasItems_eq : execF Tryz.prog { pub := [], nojoin := false } Tryz.f102 = fm_data_hasItems := by kernel_rfl
theorem cb_data_hasItems : callB Tryz.prog 102 = true := by kernel_rfl
theorem tri_data_hasItems : TriOf Tryz.prog 102 Tryz.f102 fm_data_hasItems := triOf Tryz.func102 fm_data_hasItems_eq

/-- scrimshaw/data.form -/
abbrev n_data_form : FuncId := 103
def fm_data_form : Fm VE :=
 (.join 2 [.int .i64, .str]
  (.join 4 [.bool]
   (.ite (.atom 6)
    (.leaf (.sc (.bool false)))
    (.ite (.cmp .eql (.atom 0) (.int .i64 4))
     (.call (.fn 53) [(.sc (.atom 2))] (.sc (.bool)) []
     (.leaf (.sc (.atom 7))))
     (.ite (.cmp .eql (.atom 0) (.int .i64 6))
      (.join 9 [.bool]
       (.leaf (.sc (.atom 7)))
       (.chk [((.cmp .gtr (.len (.atom 3)) (.int .i64 1)), true)] (.inSl (.atom 3) (.ar .sub .i64 (.len (.atom 3)) (.int .i64 1)))
       (.chk [((.cmp .gtr (.len (.atom 3)) (.int .i64 1)), true)] (.some (.elt (.atom 3) (.ar .sub .i64 (.len (.atom 3)) (.int .i64 1)) 4))
       (.ite (.cmp .gtr (.len (.atom 3)) (.int .i64 1))
        (.load (.padd (.elt (.atom 3) (.ar .sub .i64 (.len (.atom 3)) (.int .i64 1)) 4) 0) [.int .i64]
        (.chk [((.cmp .neq (.atom 7) (.int .i64 5)), true)] (.inSl (.atom 3) (.ar .sub .i64 (.len (.atom 3)) (.int .i64 1)))
        (.chk [((.cmp .neq (.atom 7) (.int .i64 5)), true)] (.some (.elt (.atom 3) (.ar .sub .i64 (.len (.atom 3)) (.int .i64 1)) 4))
        (.ite (.cmp .neq (.atom 7) (.int .i64 5))
         (.load (.padd (.elt (.atom 3) (.ar .sub .i64 (.len (.atom 3)) (.int .i64 1)) 4) 0) [.int .i64]
         (.next 9 [(.cmp .neq (.atom 8) (.int .i64 6))]))
         (.next 9 [(.bool false)])))))
        (.next 9 [(.bool false)])))))
      (.leaf (.sc (.pick (.cmp .geq (.atom 0) (.int .i64 0)) (.cmp .lss (.atom 0) (.int .i64 8)) (.bool false)))))))
   (.ite (.pick (.cmp .neq (.atom 1) (.atom 4)) (.bool true) (.scmp .neq (.atom 2) (.atom 5)))
    (.next 4 [(.bool true)])
    (.ite (.cmp .gtr (.len (.atom 3)) (.int .i64 0))
     (.call (.fn 102) [(.ag [(.atom 0), (.atom 1), (.atom 2), (.atom 3)])] (.sc (.bool)) []
     (.next 4 [(.not (.atom 6))]))
     (.next 4 [(.bool false)]))))
  (.ite (.cmp .eql (.atom 0) (.int .i64 0))
   (.next 2 [(.ar .and .i64 (.atom 1) (.int .i64 1)), (.str [])])
   (.ite (.cmp .eql (.atom 0) (.int .i64 1))
    (.next 2 [(.pick (.cmp .lss (.int .i64 1152921504606846975) (.pick (.cmp .gtr (.int .i64 (-1152921504606846976)) (.atom 1)) (.int .i64 (-1152921504606846976)) (.atom 1))) (.int .i64 1152921504606846975) (.pick (.cmp .gtr (.int .i64 (-1152921504606846976)) (.atom 1)) (.int .i64 (-1152921504606846976)) (.atom 1))), (.str [])])
    (.ite (.cmp .eql (.atom 0) (.int .i64 2))
     (.next 2 [(.ar .and .i64 (.atom 1) (.int .i64 255)), (.str [])])
     (.ite (.cmp .eql (.atom 0) (.int .i64 3))
      (.chk [] (.sub (.slen (.atom 2)) (.int .i64 0) (.pick (.cmp .lss (.int .i64 4096) (.slen (.atom 2))) (.int .i64 4096) (.slen (.atom 2))))
      (.next 2 [(.int .i64 0), (.ssub (.atom 2) (.int .i64 0) (.pick (.cmp .lss (.int .i64 4096) (.slen (.atom 2))) (.int .i64 4096) (.slen (.atom 2))))]))
      (.next 2 [(.int .i64 0), (.pick (.cmp .eql (.atom 0) (.int .i64 4)) (.atom 2) (.str []))]))))))
theorem fm_data_form_eq : execF Tryz.prog { pub := [], nojoin := false } Tryz.f103 = fm_data_form := by kernel_rfl
theorem cb_data_form : callB Tryz.prog 103 = true := by kernel_rfl
theorem tri_data_form : TriOf Tryz.prog 103 Tryz.f103 fm_data_form := triOf Tryz.func103 fm_data_form_eq

/-- scrimshaw/scrimshawref02.Nested -/
abbrev n_scrimshawref02_Nested : FuncId := 108
def fm_scrimshawref02_Nested : Fm VE :=
 (.leaf (.sc (.pick (.pick (.cmp .eql (.atom 0) (.int .i64 5)) (.bool true) (.cmp .eql (.atom 0) (.int .i64 6))) (.bool true) (.cmp .eql (.atom 0) (.int .i64 7)))))
theorem fm_scrimshawref02_Nested_eq : execF Tryz.prog { pub := [], nojoin := false } Tryz.f108 = fm_scrimshawref02_Nested := by kernel_rfl
theorem cb_scrimshawref02_Nested : callB Tryz.prog 108 = true := by kernel_rfl
theorem tri_scrimshawref02_Nested : TriOf Tryz.prog 108 Tryz.f108 fm_scrimshawref02_Nested := triOf Tryz.func108 fm_scrimshawref02_Nested_eq

/-- scrimshaw/scrimshawref02.form -/
abbrev n_scrimshawref02_form : FuncId := 109
def fm_scrimshawref02_form : Fm VE :=
 (.ite (.cmp .eql (.atom 0) (.int .i64 0))
  (.leaf (.sc (.pick (.pick (.scmp .eql (.atom 2) (.str [])) (.cmp .eql (.len (.atom 3)) (.int .i64 0)) (.bool false)) (.pick (.cmp .eql (.atom 1) (.int .i64 0)) (.bool true) (.cmp .eql (.atom 1) (.int .i64 1))) (.bool false))))
  (.ite (.cmp .eql (.atom 0) (.int .i64 1))
   (.leaf (.sc (.pick (.pick (.pick (.scmp .eql (.atom 2) (.str [])) (.cmp .eql (.len (.atom 3)) (.int .i64 0)) (.bool false)) (.cmp .geq (.atom 1) (.int .i64 (-1152921504606846976))) (.bool false)) (.cmp .lss (.atom 1) (.int .i64 1152921504606846976)) (.bool false))))
   (.ite (.cmp .eql (.atom 0) (.int .i64 2))
    (.leaf (.sc (.pick (.pick (.pick (.scmp .eql (.atom 2) (.str [])) (.cmp .eql (.len (.atom 3)) (.int .i64 0)) (.bool false)) (.cmp .geq (.atom 1) (.int .i64 0)) (.bool false)) (.cmp .leq (.atom 1) (.int .i64 255)) (.bool false))))
    (.ite (.cmp .eql (.atom 0) (.int .i64 3))
     (.leaf (.sc (.pick (.pick (.cmp .eql (.atom 1) (.int .i64 0)) (.cmp .eql (.len (.atom 3)) (.int .i64 0)) (.bool false)) (.cmp .leq (.slen (.atom 2)) (.int .i64 4096)) (.bool false))))
     (.ite (.cmp .eql (.atom 0) (.int .i64 4))
      (.join 10 [.bool]
       (.leaf (.sc (.atom 4)))
       (.ite (.pick (.cmp .eql (.atom 1) (.int .i64 0)) (.cmp .eql (.len (.atom 3)) (.int .i64 0)) (.bool false))
        (.call (.fn 61) [(.sc (.atom 2))] (.sc (.bool)) []
        (.next 10 [(.atom 4)]))
        (.next 10 [(.bool false)])))
      (.ite (.pick (.cmp .eql (.atom 0) (.int .i64 5)) (.cmp .eql (.atom 0) (.int .i64 5)) (.cmp .eql (.atom 0) (.int .i64 7)))
       (.leaf (.sc (.pick (.cmp .eql (.atom 1) (.int .i64 0)) (.scmp .eql (.atom 2) (.str [])) (.bool false))))
       (.ite (.cmp .eql (.atom 0) (.int .i64 6))
        (.join 14 [.bool]
         (.leaf (.sc (.atom 4)))
         (.chk [((.pick (.pick (.cmp .eql (.atom 1) (.int .i64 0)) (.scmp .eql (.atom 2) (.str [])) (.bool false)) (.cmp .geq (.len (.atom 3)) (.int .i64 2)) (.bool false)), true)] (.inSl (.atom 3) (.ar .sub .i64 (.len (.atom 3)) (.int .i64 1)))
         (.chk [((.pick (.pick (.cmp .eql (.atom 1) (.int .i64 0)) (.scmp .eql (.atom 2) (.str [])) (.bool false)) (.cmp .geq (.len (.atom 3)) (.int .i64 2)) (.bool false)), true)] (.some (.elt (.atom 3) (.ar .sub .i64 (.len (.atom 3)) (.int .i64 1)) 4))
         (.ite (.pick (.pick (.cmp .eql (.atom 1) (.int .i64 0)) (.scmp .eql (.atom 2) (.str [])) (.bool false)) (.cmp .geq (.len (.atom 3)) (.int .i64 2)) (.bool false))
          (.load (.padd (.elt (.atom 3) (.ar .sub .i64 (.len (.atom 3)) (.int .i64 1)) 4) 0) [.int .i64]
          (.chk [((.cmp .neq (.atom 4) (.int .i64 5)), true)] (.inSl (.atom 3) (.ar .sub .i64 (.len (.atom 3)) (.int .i64 1)))
          (.chk [((.cmp .neq (.atom 4) (.int .i64 5)), true)] (.some (.elt (.atom 3) (.ar .sub .i64 (.len (.atom 3)) (.int .i64 1)) 4))
          (.ite (.cmp .neq (.atom 4) (.int .i64 5))
           (.load (.padd (.elt (.atom 3) (.ar .sub .i64 (.len (.atom 3)) (.int .i64 1)) 4) 0) [.int .i64]
           (.next 14 [(.cmp .neq (.atom 5) (.int .i64 6))]))
           (.next 14 [(.bool false)])))))
          (.next 14 [(.bool false)])))))
        (.leaf (.sc (.bool false))))))))))
theorem fm_scrimshawref02_form_eq : execF Tryz.prog { pub := [], nojoin := false } Tryz.f109 = fm_scrimshawref02_form := by kernel_rfl
theorem cb_scrimshawref02_form : callB Tryz.prog 109 = true := by kernel_rfl
theorem tri_scrimshawref02_form : TriOf Tryz.prog 109 Tryz.f109 fm_scrimshawref02_form := triOf Tryz.func109 fm_scrimshawref02_form_eq

end Go.Proofs.YtibinelkmlcmgaaGreatDoor.Vc
