/-
  THE FORMULAS of the program's functions, as the executor gives them; each is checked by the kernel. Printed by a program of our own.
-/
import Derived.Test.YtlnmmakbgldflaaGreatDoorWm
import Derived.Test.YtlnmmakbgldflaaGreatDoorRows
import Derived.KernelRfl
namespace Go.Proofs.YtlnmmakbgldflaaGreatDoor.Vc
open Go
set_option maxRecDepth 100000
/-- what a function's formula tells of it -/
def TriOf (P : Program) (f : FuncId) (fn : Func) (fm : Fm VE) : Prop := ∀ (E : List Value) {args : Array Value} {H : PH} {R : Ending → PH → Prop}, tagsOk ((paramRS P fn).flatMap RS.tags) E = true → args.toList = packAll (paramRS P fn) E →
  den P (fun c H' => R (.panicked c) H') fm E H [] (fun ve E' H' _ => R (.returned (evV E' (fun _ => 0) ve)) H') → Tri P f args H R
theorem triOf {P : Program} {f : FuncId} {fn : Func} {fm : Fm VE} {op : Opt} (hf : P.funcs[f]? = some fn) (he : execF P op fn = fm) : TriOf P f fn fm :=
  fun E _ _ _ hE ha hd => execF_tri (op := op) hf hE ha (by rw [he]; exact hd)

/-- scrimshaw/scrimshawlaw04.SourceBack -/
abbrev n_scrimshawlaw04_SourceBack : FuncId := 4
def fm_scrimshawlaw04_SourceBack : Fm VE :=
 (.call (.fn 14) [(.sc (.atom 0))] (.tu [(false, [.str]), (false, [.int .i64])]) []
 (.call (.fn 12) [] (.sc (.bool)) []
 (.ite (.not (.atom 3))
  (.leaf (.sc (.bool false)))
  (.ite (.cmp .neq (.atom 2) (.int .i64 0))
   (.leaf (.sc (.scmp .eql (.atom 1) (.str []))))
   (.call (.fn 10) [(.sc (.atom 1))] (.tu [(false, [.sl]), (false, [.int .i64]), (false, [.int .i64])]) []
   (.ite (.pick (.cmp .eql (.atom 6) (.int .i64 35)) (.bool true) (.cmp .eql (.atom 6) (.int .i64 34)))
    (.leaf (.sc (.pick (.cmp .gtr (.slen (.atom 1)) (.int .i64 2048)) (.cmp .eql (.len (.atom 4)) (.int .i64 0)) (.bool false))))
    (.join 9 [.bool]
     (.leaf (.sc (.atom 7)))
     (.ite (.pick (.cmp .eql (.atom 6) (.int .i64 0)) (.cmp .eql (.atom 5) (.int .i64 0)) (.bool false))
      (.call (.fn 13) [(.sc (.atom 0)), (.sc (.atom 4))] (.sc (.bool)) []
      (.next 9 [(.atom 7)]))
      (.next 9 [(.bool false)])))))))))
theorem fm_scrimshawlaw04_SourceBack_eq : execF Tryz.prog { pub := [], nojoin := false } Tryz.f4 = fm_scrimshawlaw04_SourceBack := by kernel_rfl
theorem tri_scrimshawlaw04_SourceBack : TriOf Tryz.prog 4 Tryz.f4 fm_scrimshawlaw04_SourceBack := triOf Tryz.func4 fm_scrimshawlaw04_SourceBack_eq

/-- scrimshaw/scrimshawlaw04.SourceAgain -/
abbrev n_scrimshawlaw04_SourceAgain : FuncId := 5
def fm_scrimshawlaw04_SourceAgain : Fm VE :=
 (.call (.fn 10) [(.sc (.atom 0))] (.tu [(false, [.sl]), (false, [.int .i64]), (false, [.int .i64])]) []
 (.call (.fn 12) [] (.sc (.bool)) []
 (.ite (.pick (.pick (.not (.atom 4)) (.bool true) (.cmp .lss (.atom 2) (.int .i64 0))) (.bool true) (.cmp .gtr (.atom 2) (.slen (.atom 0))))
  (.leaf (.sc (.bool false)))
  (.ite (.cmp .neq (.atom 3) (.int .i64 0))
   (.leaf (.sc (.cmp .eql (.len (.atom 1)) (.int .i64 0))))
   (.loop 8 [.bool, .int .i64] [(.bool false), (.int .i64 0)]
    (.ite (.cmp .lss (.atom 6) (.len (.atom 1)))
     (.chk [] (.inSl (.atom 1) (.atom 6))
     (.load (.elt (.atom 1) (.atom 6) 4) [.int .i64, .int .i64, .str, .sl]
     (.call (.fn 15) [(.ag [(.atom 7), (.atom 8), (.atom 9), (.atom 10)])] (.sc (.int .i64)) []
     (.ite (.cmp .neq (.atom 11) (.int .i64 0))
      (.leaf (.sc (.bool false)))
      (.next 8 [(.atom 5), (.ar .add .i64 (.atom 6) (.int .i64 1))])))))
     (.call (.fn 14) [(.sc (.atom 1))] (.tu [(false, [.str]), (false, [.int .i64])]) []
     (.call (.fn 10) [(.sc (.atom 7))] (.tu [(false, [.sl]), (false, [.int .i64]), (false, [.int .i64])]) []
     (.ite (.pick (.cmp .eql (.atom 11) (.int .i64 35)) (.bool true) (.cmp .eql (.atom 11) (.int .i64 34)))
      (.leaf (.sc (.pick (.cmp .eql (.atom 8) (.int .i64 0)) (.cmp .gtr (.slen (.atom 0)) (.int .i64 300)) (.bool false))))
      (.join 15 [.bool]
       (.leaf (.sc (.atom 12)))
       (.ite (.pick (.cmp .eql (.atom 8) (.int .i64 0)) (.cmp .eql (.atom 11) (.int .i64 0)) (.bool false))
        (.call (.fn 13) [(.sc (.atom 1)), (.sc (.atom 9))] (.sc (.bool)) []
        (.next 15 [(.atom 12)]))
        (.next 15 [(.bool false)]))))))))))))
theorem fm_scrimshawlaw04_SourceAgain_eq : execF Tryz.prog { pub := [], nojoin := false } Tryz.f5 = fm_scrimshawlaw04_SourceAgain := by kernel_rfl
theorem tri_scrimshawlaw04_SourceAgain : TriOf Tryz.prog 5 Tryz.f5 fm_scrimshawlaw04_SourceAgain := triOf Tryz.func5 fm_scrimshawlaw04_SourceAgain_eq

/-- scrimshaw/scrimshawlaw04.SourceWrites -/
abbrev n_scrimshawlaw04_SourceWrites : FuncId := 6
def fm_scrimshawlaw04_SourceWrites : Fm VE :=
 (.call (.fn 14) [(.sc (.atom 0))] (.tu [(false, [.str]), (false, [.int .i64])]) []
 (.call (.fn 16) [(.sc (.atom 0))] (.tu [(false, [.str]), (false, [.int .i64])]) []
 (.call (.fn 12) [] (.sc (.bool)) []
 (.leaf (.sc (.pick (.pick (.atom 5) (.scmp .eql (.atom 1) (.atom 3)) (.bool false)) (.cmp .eql (.atom 2) (.atom 4)) (.bool false)))))))
theorem fm_scrimshawlaw04_SourceWrites_eq : execF Tryz.prog { pub := [], nojoin := false } Tryz.f6 = fm_scrimshawlaw04_SourceWrites := by kernel_rfl
theorem tri_scrimshawlaw04_SourceWrites : TriOf Tryz.prog 6 Tryz.f6 fm_scrimshawlaw04_SourceWrites := triOf Tryz.func6 fm_scrimshawlaw04_SourceWrites_eq

/-- scrimshaw/scrimshawlaw04.SourceJoins -/
abbrev n_scrimshawlaw04_SourceJoins : FuncId := 7
def fm_scrimshawlaw04_SourceJoins : Fm VE :=
 (.call (.fn 10) [(.sc (.atom 0))] (.tu [(false, [.sl]), (false, [.int .i64]), (false, [.int .i64])]) []
 (.call (.fn 10) [(.sc (.atom 1))] (.tu [(false, [.sl]), (false, [.int .i64]), (false, [.int .i64])]) []
 (.call (.fn 12) [] (.sc (.bool)) []
 (.ite (.pick (.pick (.pick (.not (.atom 8)) (.bool true) (.cmp .neq (.atom 4) (.int .i64 0))) (.bool true) (.cmp .gtr (.slen (.atom 0)) (.int .i64 500))) (.bool true) (.cmp .gtr (.slen (.atom 1)) (.int .i64 500)))
  (.call (.fn 12) [] (.sc (.bool)) []
  (.leaf (.sc (.atom 9))))
  (.chk [] (.catOk (.atom 0) (.str [10]))
  (.chk [] (.catOk (.cat (.atom 0) (.str [10])) (.atom 1))
  (.call (.fn 10) [(.sc (.cat (.cat (.atom 0) (.str [10])) (.atom 1)))] (.tu [(false, [.sl]), (false, [.int .i64]), (false, [.int .i64])]) []
  (.ite (.cmp .neq (.atom 7) (.int .i64 0))
   (.leaf (.sc (.pick (.pick (.cmp .eql (.atom 11) (.atom 7)) (.cmp .eql (.atom 10) (.ar .add .i64 (.ar .add .i64 (.atom 6) (.slen (.atom 0))) (.int .i64 1))) (.bool false)) (.cmp .eql (.len (.atom 9)) (.int .i64 0)) (.bool false))))
   (.join 8 [.bool]
    (.leaf (.sc (.atom 12)))
    (.ite (.cmp .eql (.atom 11) (.int .i64 0))
     (.sem (.buildSlice 22 0 #[]) 22 [] (.sc (.sl)) []
     (.sem (.call ⟨.builtin .append, #[(.tmp 75), (.tmp 76)], #[22, 22]⟩) 22 [(75, (.sc (.atom 12))), (76, (.sc (.atom 2)))] (.sc (.sl)) []
     (.sem (.call ⟨.builtin .append, #[(.tmp 77), (.tmp 78)], #[22, 22]⟩) 22 [(77, (.sc (.atom 13))), (78, (.sc (.atom 5)))] (.sc (.sl)) []
     (.call (.fn 13) [(.sc (.atom 9)), (.sc (.atom 14))] (.sc (.bool)) []
     (.next 8 [(.atom 15)])))))
     (.next 8 [(.bool false)])))))))))))
theorem fm_scrimshawlaw04_SourceJoins_eq : execF Tryz.prog { pub := [], nojoin := false } Tryz.f7 = fm_scrimshawlaw04_SourceJoins := by kernel_rfl
theorem tri_scrimshawlaw04_SourceJoins : TriOf Tryz.prog 7 Tryz.f7 fm_scrimshawlaw04_SourceJoins := triOf Tryz.func7 fm_scrimshawlaw04_SourceJoins_eq

/-- scrimshaw/scrimshawlaw04.SourceQuotes -/
abbrev n_scrimshawlaw04_SourceQuotes : FuncId := 8
def fm_scrimshawlaw04_SourceQuotes : Fm VE :=
 (.call (.fn 17) [(.ag [(.atom 0), (.atom 1), (.atom 2), (.atom 3)])] (.tu [(false, [.str]), (false, [.int .i64])]) []
 (.call (.fn 12) [] (.sc (.bool)) []
 (.ite (.pick (.pick (.pick (.pick (.not (.atom 7)) (.bool true) (.cmp .neq (.atom 6) (.int .i64 0))) (.bool true) (.cmp .gtr (.slen (.atom 5)) (.int .i64 500))) (.bool true) (.cmp .lss (.atom 4) (.int .i64 0))) (.bool true) (.cmp .gtr (.atom 4) (.int .i64 40)))
  (.call (.fn 12) [] (.sc (.bool)) []
  (.leaf (.sc (.atom 8))))
  (.loop 7 [.str, .int .i64, .int .i64, .int .i64, .str, .sl] [(.atom 5), (.int .i64 0), (.atom 0), (.atom 1), (.atom 2), (.atom 3)]
   (.ite (.cmp .lss (.atom 9) (.atom 4))
    (.chk [] (.catOk (.str [39]) (.atom 8))
    (.sem (.buildSlice 22 2 #[(0, (.tmp 45)), (1, (.tmp 46))]) 22 [(45, (.ag [(.int .i64 4), (.int .i64 0), (.str [113, 117, 111, 116, 101]), (.nil 1)])), (46, (.ag [(.atom 10), (.atom 11), (.atom 12), (.atom 13)]))] (.sc (.sl)) []
    (.next 7 [(.cat (.str [39]) (.atom 8)), (.ar .add .i64 (.atom 9) (.int .i64 1)), (.int .i64 5), (.int .i64 0), (.str []), (.atom 14)])))
    (.call (.fn 10) [(.sc (.atom 8))] (.tu [(false, [.sl]), (false, [.int .i64]), (false, [.int .i64])]) []
    (.ite (.cmp .eql (.atom 16) (.int .i64 43))
     (.join 13 [.bool]
      (.leaf (.sc (.atom 17)))
      (.ite (.pick (.cmp .eql (.len (.atom 14)) (.int .i64 0)) (.cmp .geq (.atom 15) (.int .i64 0)) (.bool false))
       (.call (.fn 15) [(.ag [(.atom 10), (.atom 11), (.atom 12), (.atom 13)])] (.sc (.int .i64)) []
       (.next 13 [(.cmp .eql (.atom 17) (.int .i64 21))]))
       (.next 13 [(.bool false)])))
     (.join 13 [.bool]
      (.leaf (.sc (.atom 17)))
      (.chk [((.pick (.cmp .eql (.atom 16) (.int .i64 0)) (.cmp .eql (.len (.atom 14)) (.int .i64 1)) (.bool false)), true)] (.inSl (.atom 14) (.int .i64 0))
      (.ite (.pick (.cmp .eql (.atom 16) (.int .i64 0)) (.cmp .eql (.len (.atom 14)) (.int .i64 1)) (.bool false))
       (.load (.elt (.atom 14) (.int .i64 0) 4) [.int .i64, .int .i64, .str, .sl]
       (.call (.fn 18) [(.ag [(.atom 17), (.atom 18), (.atom 19), (.atom 20)]), (.ag [(.atom 10), (.atom 11), (.atom 12), (.atom 13)])] (.sc (.bool)) []
       (.ite (.atom 21)
        (.call (.fn 15) [(.ag [(.atom 10), (.atom 11), (.atom 12), (.atom 13)])] (.sc (.int .i64)) []
        (.next 13 [(.cmp .eql (.atom 22) (.int .i64 0))]))
        (.next 13 [(.bool false)]))))
       (.next 13 [(.bool false)])))))))))))
theorem fm_scrimshawlaw04_SourceQuotes_eq : execF Tryz.prog { pub := [], nojoin := false } Tryz.f8 = fm_scrimshawlaw04_SourceQuotes := by kernel_rfl
theorem tri_scrimshawlaw04_SourceQuotes : TriOf Tryz.prog 8 Tryz.f8 fm_scrimshawlaw04_SourceQuotes := triOf Tryz.func8 fm_scrimshawlaw04_SourceQuotes_eq

/-- scrimshaw/scrimshawlaw04.SourceDots -/
abbrev n_scrimshawlaw04_SourceDots : FuncId := 9
def fm_scrimshawlaw04_SourceDots : Fm VE :=
 (.sem (.buildSlice 39 1 #[(0, (.const (.int .u8 40)))]) 39 [] (.sc (.sl)) []
 (.sem (.convert 39 39 (.tmp 14)) 39 [(14, (.sc (.atom 5)))] (.sc (.sl)) []
 (.loop 4 [.bool, .sl, .int .i64] [(.bool false), (.atom 6), (.int .i64 0)]
  (.ite (.pick (.cmp .lss (.atom 9) (.len (.atom 0))) (.cmp .lss (.atom 9) (.int .i64 20)) (.bool false))
   (.chk [] (.inSl (.atom 0) (.atom 9))
   (.load (.elt (.atom 0) (.atom 9) 4) [.int .i64, .int .i64, .str, .sl]
   (.call (.fn 17) [(.ag [(.atom 10), (.atom 11), (.atom 12), (.atom 13)])] (.tu [(false, [.str]), (false, [.int .i64])]) []
   (.ite (.cmp .neq (.atom 15) (.int .i64 0))
    (.call (.fn 12) [] (.sc (.bool)) []
    (.leaf (.sc (.atom 16))))
    (.chk [] (.catOk (.atom 14) (.str [32]))
    (.sem (.call ⟨.builtin .append, #[(.tmp 37), (.tmp 39)], #[39, 9]⟩) 39 [(37, (.sc (.atom 8))), (39, (.sc (.cat (.atom 14) (.str [32]))))] (.sc (.sl)) []
    (.next 4 [(.atom 7), (.atom 16), (.ar .add .i64 (.atom 9) (.int .i64 1))])))))))
   (.call (.fn 17) [(.ag [(.atom 1), (.atom 2), (.atom 3), (.atom 4)])] (.tu [(false, [.str]), (false, [.int .i64])]) []
   (.call (.fn 12) [] (.sc (.bool)) []
   (.ite (.pick (.pick (.pick (.pick (.not (.atom 12)) (.bool true) (.cmp .neq (.atom 11) (.int .i64 0))) (.bool true) (.cmp .lss (.len (.atom 0)) (.int .i64 1))) (.bool true) (.cmp .gtr (.len (.atom 0)) (.int .i64 20))) (.bool true) (.cmp .gtr (.ar .add .i64 (.len (.atom 8)) (.slen (.atom 10))) (.int .i64 800)))
    (.call (.fn 12) [] (.sc (.bool)) []
    (.leaf (.sc (.atom 13))))
    (.sem (.convert 39 9 (.tmp 72)) 9 [(72, (.sc (.atom 8)))] (.sc (.str)) []
    (.chk [] (.catOk (.atom 13) (.str [46, 32]))
    (.chk [] (.catOk (.cat (.atom 13) (.str [46, 32])) (.atom 10))
    (.chk [] (.catOk (.cat (.cat (.atom 13) (.str [46, 32])) (.atom 10)) (.str [41]))
    (.call (.fn 10) [(.sc (.cat (.cat (.cat (.atom 13) (.str [46, 32])) (.atom 10)) (.str [41])))] (.tu [(false, [.sl]), (false, [.int .i64]), (false, [.int .i64])]) []
    (.ite (.cmp .eql (.atom 16) (.int .i64 43))
     (.join 13 [.bool]
      (.leaf (.sc (.atom 17)))
      (.both
       (.sem (.buildSlice 22 0 #[]) 22 [] (.sc (.sl)) []
       (.both
        (.sem (.call ⟨.builtin .append, #[(.tmp 84), (.tmp 85)], #[22, 22]⟩) 22 [(84, (.sc (.atom 17))), (85, (.sc (.atom 0)))] (.sc (.sl)) []
        (.sem (.buildSlice 22 1 #[(0, (.tmp 87))]) 22 [(87, (.ag [(.atom 1), (.atom 2), (.atom 3), (.atom 4)]))] (.sc (.sl)) []
        (.sem (.call ⟨.builtin .append, #[(.tmp 86), (.tmp 88)], #[22, 22]⟩) 22 [(86, (.sc (.atom 18))), (88, (.sc (.atom 19)))] (.sc (.sl)) []
        (.call (.fn 15) [(.ag [(.int .i64 7), (.int .i64 0), (.str []), (.atom 20)])] (.sc (.int .i64)) []
        (.next 13 [(.cmp .eql (.atom 21) (.int .i64 21))])))))
        (.sem (.buildSlice 22 1 #[(0, (.tmp 87))]) 22 [(87, (.ag [(.atom 1), (.atom 2), (.atom 3), (.atom 4)]))] (.sc (.sl)) []
        (.sem (.call ⟨.builtin .append, #[(.tmp 84), (.tmp 85)], #[22, 22]⟩) 22 [(84, (.sc (.atom 17))), (85, (.sc (.atom 0)))] (.sc (.sl)) []
        (.sem (.call ⟨.builtin .append, #[(.tmp 86), (.tmp 88)], #[22, 22]⟩) 22 [(86, (.sc (.atom 19))), (88, (.sc (.atom 18)))] (.sc (.sl)) []
        (.call (.fn 15) [(.ag [(.int .i64 7), (.int .i64 0), (.str []), (.atom 20)])] (.sc (.int .i64)) []
        (.next 13 [(.cmp .eql (.atom 21) (.int .i64 21))])))))))
       (.sem (.buildSlice 22 1 #[(0, (.tmp 87))]) 22 [(87, (.ag [(.atom 1), (.atom 2), (.atom 3), (.atom 4)]))] (.sc (.sl)) []
       (.sem (.buildSlice 22 0 #[]) 22 [] (.sc (.sl)) []
       (.sem (.call ⟨.builtin .append, #[(.tmp 84), (.tmp 85)], #[22, 22]⟩) 22 [(84, (.sc (.atom 18))), (85, (.sc (.atom 0)))] (.sc (.sl)) []
       (.sem (.call ⟨.builtin .append, #[(.tmp 86), (.tmp 88)], #[22, 22]⟩) 22 [(86, (.sc (.atom 19))), (88, (.sc (.atom 17)))] (.sc (.sl)) []
       (.call (.fn 15) [(.ag [(.int .i64 7), (.int .i64 0), (.str []), (.atom 20)])] (.sc (.int .i64)) []
       (.next 13 [(.cmp .eql (.atom 21) (.int .i64 21))]))))))))
     (.join 13 [.bool]
      (.leaf (.sc (.atom 17)))
      (.chk [((.pick (.cmp .eql (.atom 16) (.int .i64 0)) (.cmp .eql (.len (.atom 14)) (.int .i64 1)) (.bool false)), true)] (.inSl (.atom 14) (.int .i64 0))
      (.ite (.pick (.cmp .eql (.atom 16) (.int .i64 0)) (.cmp .eql (.len (.atom 14)) (.int .i64 1)) (.bool false))
       (.load (.elt (.atom 14) (.int .i64 0) 4) [.int .i64, .int .i64, .str, .sl]
       (.call (.fn 19) [(.sc (.atom 0)), (.ag [(.atom 1), (.atom 2), (.atom 3), (.atom 4)])] (.ag [.int .i64, .int .i64, .str, .sl]) [((.elt (.atom 14) (.int .i64 0) 4), [(.atom 17), (.atom 18), (.atom 19), (.atom 20)])]
       (.call (.fn 18) [(.ag [(.atom 17), (.atom 18), (.atom 19), (.atom 20)]), (.ag [(.atom 21), (.atom 22), (.atom 23), (.atom 24)])] (.sc (.bool)) []
       (.next 13 [(.atom 25)]))))
       (.next 13 [(.bool false)])))))))))))))))))
theorem fm_scrimshawlaw04_SourceDots_eq : execF Tryz.prog { pub := [], nojoin := false } Tryz.f9 = fm_scrimshawlaw04_SourceDots := by kernel_rfl
theorem tri_scrimshawlaw04_SourceDots : TriOf Tryz.prog 9 Tryz.f9 fm_scrimshawlaw04_SourceDots := triOf Tryz.func9 fm_scrimshawlaw04_SourceDots_eq

/-- scrimshaw/read.Read: ahead of the closure -/
abbrev n_read_Read : FuncId := 10
def stA_read_Read : St := { fr := [⟨[], (.sc (.atom 0))⟩, ⟨[], (.tu [])⟩, ⟨[], (.sc (.atom 1))⟩, ⟨[], (.sc (.atom 2))⟩, ⟨[], (.sc (.atom 3))⟩, ⟨[], (.sc (.atom 4))⟩, ⟨[], (.tu [])⟩, ⟨[], (.tu [(false, [(.atom 4)]), (false, [(.atom 5)]), (false, [(.atom 6)])])⟩, ⟨[], (.sc (.atom 0))⟩, ⟨[], (.tu [(false, [(.atom 4)]), (false, [(.atom 5)]), (false, [(.atom 6)])])⟩, ⟨[], (.sc (.atom 4))⟩, ⟨[], (.sc (.atom 5))⟩, ⟨[], (.sc (.atom 6))⟩, ⟨[], (.sc (.atom 7))⟩, ⟨[], (.sc (.cmp .neq (.atom 7) (.int .i64 0)))⟩, ⟨[], (.tu [])⟩, ⟨[], (.tu [])⟩, ⟨[], (.tu [])⟩, ⟨[], (.tu [])⟩, ⟨[], (.tu [])⟩, ⟨[], (.tu [])⟩, ⟨[], (.tu [])⟩, ⟨[], (.tu [])⟩, ⟨[], (.tu [])⟩, ⟨[], (.tu [])⟩, ⟨[], (.tu [])⟩, ⟨[], (.tu [])⟩, ⟨[], (.tu [])⟩, ⟨[], (.tu [])⟩, ⟨[], (.tu [])⟩, ⟨[], (.tu [])⟩, ⟨[], (.tu [])⟩, ⟨[], (.tu [])⟩, ⟨[], (.tu [])⟩, ⟨[], (.tu [])⟩, ⟨[], (.tu [])⟩, ⟨[], (.tu [])⟩, ⟨[], (.tu [])⟩], bx := [], nb := 0, nl := 1, tags := [.str, .ptr, .ptr, .ptr, .sl, .int .i64, .int .i64, .int .i64], «as» := [((.cmp .neq (.atom 7) (.int .i64 0)), false)], kn := [], its := [] }
def fmA_read_Read : Fm (Ex × St) :=
 (.new 22 [(.nil 1)]
 (.new 3 [(.int .i64 0)]
 (.new 23 [(.int .i64 0)]
 (.call (.fn 20) [(.sc (.atom 0))] (.tu [(false, [.sl]), (false, [.int .i64]), (false, [.int .i64])]) []
 (.store (.atom 2) [(.atom 5)]
 (.store (.atom 3) [(.atom 6)]
 (.load (.atom 3) [.int .i64]
 (.ite (.cmp .neq (.atom 7) (.int .i64 0))
  (.load (.atom 2) [.int .i64]
  (.load (.atom 3) [.int .i64]
  (.store (.atom 1) [(.nil 1)]
  (.hold [((.atom 3), [(.atom 9)]), ((.atom 2), [(.atom 8)])]
  (.store (.atom 2) [(.atom 8)]
  (.hold [((.atom 3), [(.atom 9)])]
  (.store (.atom 3) [(.atom 9)]
  (.leaf (.ret, { fr := [⟨[], (.sc (.atom 0))⟩, ⟨[], (.tu [])⟩, ⟨[], (.sc (.atom 1))⟩, ⟨[], (.sc (.atom 2))⟩, ⟨[], (.sc (.atom 3))⟩, ⟨[], (.sc (.atom 4))⟩, ⟨[], (.tu [])⟩, ⟨[], (.tu [(false, [(.atom 4)]), (false, [(.atom 5)]), (false, [(.atom 6)])])⟩, ⟨[], (.sc (.atom 0))⟩, ⟨[], (.tu [(false, [(.atom 4)]), (false, [(.atom 5)]), (false, [(.atom 6)])])⟩, ⟨[], (.sc (.atom 4))⟩, ⟨[], (.sc (.atom 5))⟩, ⟨[], (.sc (.atom 6))⟩, ⟨[], (.sc (.atom 7))⟩, ⟨[], (.sc (.cmp .neq (.atom 7) (.int .i64 0)))⟩, ⟨[], (.sc (.atom 8))⟩, ⟨[], (.sc (.atom 9))⟩, ⟨[], (.tu [])⟩, ⟨[], (.tu [])⟩, ⟨[], (.tu [])⟩, ⟨[], (.tu [])⟩, ⟨[], (.tu [])⟩, ⟨[], (.tu [])⟩, ⟨[], (.tu [])⟩, ⟨[], (.tu [])⟩, ⟨[], (.tu [])⟩, ⟨[], (.tu [])⟩, ⟨[], (.tu [])⟩, ⟨[], (.tu [])⟩, ⟨[], (.tu [])⟩, ⟨[], (.tu [])⟩, ⟨[], (.tu [])⟩, ⟨[], (.tu [])⟩, ⟨[], (.tu [])⟩, ⟨[], (.tu [])⟩, ⟨[], (.tu [])⟩, ⟨[], (.tu [])⟩, ⟨[], (.tu [])⟩], bx := [], nb := 0, nl := 2, tags := [.str, .ptr, .ptr, .ptr, .sl, .int .i64, .int .i64, .int .i64, .int .i64, .int .i64], «as» := [((.cmp .neq (.atom 7) (.int .i64 0)), true)], kn := [], its := [] })))))))))
  (.leaf (.normal, stA_read_Read))))))))))
theorem fmA_read_Read_eq : execL Tryz.prog { pub := [2, 3, 4, 22], nojoin := false } (partA Tryz.f10) (st0 Tryz.prog Tryz.f10) = fmA_read_Read := by kernel_rfl
theorem cb_read_Read : callB Tryz.prog 10 = true := by kernel_rfl
/-- scrimshaw/read.Read: behind it -/
def fmB_read_Read : Fm (Ex × St) :=
 (.new 50 [(.atom 4), (.int .i64 0), (.slen (.atom 0))]
 (.loop 3 [] []
  (.chk [] (.some (.atom 9))
  (.load (.padd (.atom 9) 1) [.int .i64]
  (.ite (.cmp .lss (.atom 10) (.len (.atom 4)))
   (.load (.atom 1) [.sl]
   (.both
    (.call (.fn 22) [(.sc (.atom 9)), (.sc (.int .i64 0))] (.ag [.int .i64, .int .i64, .str, .sl]) [((.atom 1), [(.atom 11)])]
    (.sem (.buildSlice 22 1 #[(0, (.const (.agg #[(.int .i64 0), (.int .i64 0), (.string ⟨#[]⟩), (.slice none 0 0)])))]) 22 [] (.sc (.sl)) [((.atom 1), [(.atom 11)])]
    (.sem (.call ⟨.builtin .append, #[(.tmp 30), (.tmp 34)], #[22, 22]⟩) 22 [(30, (.sc (.atom 11))), (34, (.sc (.atom 16)))] (.sc (.sl)) []
    (.chk [] (.inSl (.atom 17) (.len (.atom 11)))
    (.both
     (.store (.elt (.atom 17) (.len (.atom 11)) 4) [(.atom 12), (.atom 13), (.atom 14), (.atom 15)]
     (.store (.atom 1) [(.atom 17)]
     (.next 3 [])))
     (.store (.atom 1) [(.atom 17)]
     (.store (.elt (.atom 17) (.len (.atom 11)) 4) [(.atom 12), (.atom 13), (.atom 14), (.atom 15)]
     (.next 3 []))))))))
    (.sem (.buildSlice 22 1 #[(0, (.const (.agg #[(.int .i64 0), (.int .i64 0), (.string ⟨#[]⟩), (.slice none 0 0)])))]) 22 [] (.sc (.sl)) [((.atom 1), [(.atom 11)])]
    (.call (.fn 22) [(.sc (.atom 9)), (.sc (.int .i64 0))] (.ag [.int .i64, .int .i64, .str, .sl]) [((.atom 1), [(.atom 11)])]
    (.sem (.call ⟨.builtin .append, #[(.tmp 30), (.tmp 34)], #[22, 22]⟩) 22 [(30, (.sc (.atom 11))), (34, (.sc (.atom 12)))] (.sc (.sl)) []
    (.chk [] (.inSl (.atom 17) (.len (.atom 11)))
    (.both
     (.store (.elt (.atom 17) (.len (.atom 11)) 4) [(.atom 13), (.atom 14), (.atom 15), (.atom 16)]
     (.store (.atom 1) [(.atom 17)]
     (.next 3 [])))
     (.store (.atom 1) [(.atom 17)]
     (.store (.elt (.atom 17) (.len (.atom 11)) 4) [(.atom 13), (.atom 14), (.atom 15), (.atom 16)]
     (.next 3 []))))))))))
   (.load (.atom 1) [.sl]
   (.store (.atom 1) [(.atom 11)]
   (.store (.atom 2) [(.int .i64 0)]
   (.store (.atom 3) [(.int .i64 0)]
   (.leaf (.ret, { fr := [⟨[], (.sc (.atom 0))⟩, ⟨[], (.tu [])⟩, ⟨[], (.sc (.atom 1))⟩, ⟨[], (.sc (.atom 2))⟩, ⟨[], (.sc (.atom 3))⟩, ⟨[], (.sc (.atom 4))⟩, ⟨[], (.sc (.atom 9))⟩, ⟨[], .junk⟩, ⟨[], (.sc (.atom 0))⟩, ⟨[], .junk⟩, ⟨[], (.sc (.atom 4))⟩, ⟨[], (.sc (.atom 5))⟩, ⟨[], (.sc (.atom 6))⟩, ⟨[], (.sc (.atom 7))⟩, ⟨[], (.sc (.cmp .neq (.atom 7) (.int .i64 0)))⟩, ⟨[], (.tu [])⟩, ⟨[], (.tu [])⟩, ⟨[], (.sc (.atom 8))⟩, ⟨[], (.sc (.atom 4))⟩, ⟨[], (.sc (.atom 0))⟩, ⟨[], (.sc (.slen (.atom 0)))⟩, ⟨[], (.ag [(.atom 4), (.int .i64 0), (.slen (.atom 0))])⟩, ⟨[], (.sc (.atom 9))⟩, ⟨[], (.sc (.atom 9))⟩, ⟨[], (.sc (.atom 9))⟩, ⟨[], (.sc (.padd (.atom 9) 1))⟩, ⟨[], (.sc (.atom 10))⟩, ⟨[], (.sc (.atom 4))⟩, ⟨[], (.sc (.len (.atom 4)))⟩, ⟨[], (.sc (.cmp .lss (.atom 10) (.len (.atom 4))))⟩, ⟨[], .junk⟩, ⟨[], .junk⟩, ⟨[], .junk⟩, ⟨[], .junk⟩, ⟨[], .junk⟩, ⟨[], .junk⟩, ⟨[], .junk⟩, ⟨[], (.sc (.atom 11))⟩], bx := [], nb := 0, nl := 7, tags := [.str, .ptr, .ptr, .ptr, .sl, .int .i64, .int .i64, .int .i64, .any, .ptr, .int .i64, .sl], «as» := [((.cmp .lss (.atom 10) (.len (.atom 4))), false), ((.cmp .neq (.atom 7) (.int .i64 0)), false)], kn := [(.some (.atom 9))], its := [] })))))))))))
theorem fmB_read_Read_eq : execC Tryz.prog { pub := [2, 3, 4, 22], nojoin := false } (partB Tryz.f10) (addRes stA_read_Read (some 17) (.sc .any)) = fmB_read_Read := by kernel_rfl

/-- scrimshaw/scrimshawlaw04.fixed -/
abbrev n_scrimshawlaw04_fixed : FuncId := 12
def fm_scrimshawlaw04_fixed : Fm VE :=
 (.call (.fn 10) [(.sc (.str [40, 97, 32, 46, 32, 40, 98, 32, 99, 41, 41, 32, 39, 120]))] (.tu [(false, [.sl]), (false, [.int .i64]), (false, [.int .i64])]) []
 (.call (.fn 10) [(.sc (.str [40, 97, 32, 46, 32, 98, 32, 99, 41]))] (.tu [(false, [.sl]), (false, [.int .i64]), (false, [.int .i64])]) []
 (.call (.fn 10) [(.sc (.str [40, 97]))] (.tu [(false, [.sl]), (false, [.int .i64]), (false, [.int .i64])]) []
 (.ite (.pick (.pick (.pick (.pick (.pick (.pick (.cmp .neq (.len (.atom 0)) (.int .i64 2)) (.bool true) (.cmp .neq (.atom 1) (.int .i64 0))) (.bool true) (.cmp .neq (.atom 2) (.int .i64 0))) (.bool true) (.cmp .neq (.atom 4) (.int .i64 7))) (.bool true) (.cmp .neq (.atom 5) (.int .i64 42))) (.bool true) (.cmp .neq (.atom 7) (.int .i64 2))) (.bool true) (.cmp .neq (.atom 8) (.int .i64 41)))
  (.leaf (.sc (.bool false)))
  (.call (.fn 14) [(.sc (.atom 0))] (.tu [(false, [.str]), (false, [.int .i64])]) []
  (.leaf (.sc (.pick (.scmp .eql (.atom 9) (.str [40, 97, 32, 98, 32, 99, 41, 10, 40, 113, 117, 111, 116, 101, 32, 120, 41, 10])) (.cmp .eql (.atom 10) (.int .i64 0)) (.bool false)))))))))
theorem fm_scrimshawlaw04_fixed_eq : execF Tryz.prog { pub := [], nojoin := false } Tryz.f12 = fm_scrimshawlaw04_fixed := by kernel_rfl
theorem cb_scrimshawlaw04_fixed : callB Tryz.prog 12 = true := by kernel_rfl
theorem tri_scrimshawlaw04_fixed : TriOf Tryz.prog 12 Tryz.f12 fm_scrimshawlaw04_fixed := triOf Tryz.func12 fm_scrimshawlaw04_fixed_eq

/-- scrimshaw/scrimshawref02.SameAll -/
abbrev n_scrimshawref02_SameAll : FuncId := 13
def fm_scrimshawref02_SameAll : Fm VE :=
 (.call (.fn 28) [(.ag [(.int .i64 0), (.int .i64 0), (.str []), (.atom 0)]), (.ag [(.int .i64 0), (.int .i64 0), (.str []), (.atom 1)])] (.sc (.bool)) []
 (.leaf (.sc (.atom 2))))
theorem fm_scrimshawref02_SameAll_eq : execF Tryz.prog { pub := [], nojoin := false } Tryz.f13 = fm_scrimshawref02_SameAll := by kernel_rfl
theorem cb_scrimshawref02_SameAll : callB Tryz.prog 13 = true := by kernel_rfl
theorem tri_scrimshawref02_SameAll : TriOf Tryz.prog 13 Tryz.f13 fm_scrimshawref02_SameAll := triOf Tryz.func13 fm_scrimshawref02_SameAll_eq

/-- scrimshaw/read.Write -/
abbrev n_read_Write : FuncId := 14
def fm_read_Write : Fm VE :=
 (.loop 4 [.str, .int .i64, .sl, .int .i64] [(.str []), (.int .i64 0), (.nil 1), (.int .i64 0)]
  (.ite (.cmp .lss (.atom 4) (.len (.atom 0)))
   (.chk [] (.inSl (.atom 0) (.atom 4))
   (.load (.elt (.atom 0) (.atom 4) 4) [.int .i64, .int .i64, .str, .sl]
   (.call (.fn 17) [(.ag [(.atom 5), (.atom 6), (.atom 7), (.atom 8)])] (.tu [(false, [.str]), (false, [.int .i64])]) []
   (.ite (.cmp .neq (.atom 10) (.int .i64 0))
    (.leaf (.tu [(false, [(.str [])]), (false, [(.atom 10)])]))
    (.chk [] (.catOk (.atom 9) (.str [10]))
    (.sem (.call ⟨.builtin .append, #[(.tmp 23), (.tmp 25)], #[39, 9]⟩) 39 [(23, (.sc (.atom 3))), (25, (.sc (.cat (.atom 9) (.str [10]))))] (.sc (.sl)) []
    (.next 4 [(.atom 1), (.atom 2), (.atom 11), (.ar .add .i64 (.atom 4) (.int .i64 1))])))))))
   (.sem (.convert 39 9 (.tmp 28)) 9 [(28, (.sc (.atom 3)))] (.sc (.str)) []
   (.leaf (.tu [(false, [(.atom 5)]), (false, [(.int .i64 0)])])))))
theorem fm_read_Write_eq : execF Tryz.prog { pub := [], nojoin := false } Tryz.f14 = fm_read_Write := by kernel_rfl
theorem cb_read_Write : callB Tryz.prog 14 = true := by kernel_rfl
theorem tri_read_Write : TriOf Tryz.prog 14 Tryz.f14 fm_read_Write := triOf Tryz.func14 fm_read_Write_eq

/-- scrimshaw/data.Check -/
abbrev n_data_Check : FuncId := 15
def fm_data_Check : Fm VE :=
 (.new 64 [(.int .i64 0)]
 (.call (.fn 29) [(.sc (.atom 4)), (.ag [(.atom 0), (.atom 1), (.atom 2), (.atom 3)]), (.sc (.int .i64 0))] (.sc (.int .i64)) []
 (.leaf (.sc (.atom 5)))))
theorem fm_data_Check_eq : execF Tryz.prog { pub := [3], nojoin := false } Tryz.f15 = fm_data_Check := by kernel_rfl
theorem cb_data_Check : callB Tryz.prog 15 = true := by kernel_rfl
theorem tri_data_Check : TriOf Tryz.prog 15 Tryz.f15 fm_data_Check := triOf Tryz.func15 fm_data_Check_eq

/-- scrimshaw/scrimshawref04.Write -/
abbrev n_scrimshawref04_Write : FuncId := 16
def fm_scrimshawref04_Write : Fm VE :=
 (.loop 4 [.str, .int .i64, .str, .int .i64] [(.str []), (.int .i64 0), (.str []), (.int .i64 0)]
  (.ite (.cmp .lss (.atom 4) (.len (.atom 0)))
   (.chk [] (.inSl (.atom 0) (.atom 4))
   (.load (.elt (.atom 0) (.atom 4) 4) [.int .i64, .int .i64, .str, .sl]
   (.call (.fn 30) [(.ag [(.atom 5), (.atom 6), (.atom 7), (.atom 8)])] (.sc (.int .i64)) []
   (.ite (.cmp .neq (.atom 9) (.int .i64 0))
    (.leaf (.tu [(false, [(.str [])]), (false, [(.atom 9)])]))
    (.load (.elt (.atom 0) (.atom 4) 4) [.int .i64, .int .i64, .str, .sl]
    (.call (.fn 31) [(.ag [(.atom 10), (.atom 11), (.atom 12), (.atom 13)]), (.sc (.bool false))] (.sc (.str)) []
    (.chk [] (.catOk (.atom 14) (.str [10]))
    (.chk [] (.catOk (.atom 3) (.cat (.atom 14) (.str [10])))
    (.next 4 [(.atom 1), (.atom 2), (.cat (.atom 3) (.cat (.atom 14) (.str [10]))), (.ar .add .i64 (.atom 4) (.int .i64 1))])))))))))
   (.leaf (.tu [(false, [(.atom 3)]), (false, [(.int .i64 0)])]))))
theorem fm_scrimshawref04_Write_eq : execF Tryz.prog { pub := [], nojoin := false } Tryz.f16 = fm_scrimshawref04_Write := by kernel_rfl
theorem cb_scrimshawref04_Write : callB Tryz.prog 16 = true := by kernel_rfl
theorem tri_scrimshawref04_Write : TriOf Tryz.prog 16 Tryz.f16 fm_scrimshawref04_Write := triOf Tryz.func16 fm_scrimshawref04_Write_eq

/-- scrimshaw/data.Text -/
abbrev n_data_Text : FuncId := 17
def fm_data_Text : Fm VE :=
 (.call (.fn 32) [(.ag [(.atom 0), (.atom 1), (.atom 2), (.atom 3)]), (.sc (.bool false))] (.tu [(false, [.str]), (false, [.int .i64])]) []
 (.leaf (.tu [(false, [(.atom 4)]), (false, [(.atom 5)])])))
theorem fm_data_Text_eq : execF Tryz.prog { pub := [], nojoin := false } Tryz.f17 = fm_data_Text := by kernel_rfl
theorem cb_data_Text : callB Tryz.prog 17 = true := by kernel_rfl
theorem tri_data_Text : TriOf Tryz.prog 17 Tryz.f17 fm_data_Text := triOf Tryz.func17 fm_data_Text_eq

/-- scrimshaw/data.Equal -/
abbrev n_data_Equal : FuncId := 18
def fm_data_Equal : Fm VE :=
 (.join 1 [.bool]
  (.leaf (.sc (.atom 8)))
  (.ite (.pick (.pick (.cmp .eql (.atom 0) (.atom 4)) (.cmp .eql (.atom 1) (.atom 5)) (.bool false)) (.scmp .eql (.atom 2) (.atom 6)) (.bool false))
   (.call (.fn 33) [(.sc (.atom 3)), (.sc (.atom 7)), (.sc (.fn 18))] (.sc (.bool)) []
   (.next 1 [(.atom 8)]))
   (.next 1 [(.bool false)])))
theorem fm_data_Equal_eq : execF Tryz.prog { pub := [], nojoin := false } Tryz.f18 = fm_data_Equal := by kernel_rfl
theorem cb_data_Equal : callB Tryz.prog 18 = true := by kernel_rfl
theorem tri_data_Equal : TriOf Tryz.prog 18 Tryz.f18 fm_data_Equal := triOf Tryz.func18 fm_data_Equal_eq

/-- scrimshaw/data.Make -/
abbrev n_data_Make : FuncId := 19
def fm_data_Make : Fm VE :=
 (.ite (.cmp .eql (.len (.atom 0)) (.int .i64 0))
  (.call (.fn 34) [(.ag [(.atom 1), (.atom 2), (.atom 3), (.atom 4)])] (.ag [.int .i64, .int .i64, .str, .sl]) []
  (.leaf (.ag [(.atom 5), (.atom 6), (.atom 7), (.atom 8)])))
  (.ite (.pick (.cmp .eql (.atom 1) (.int .i64 5)) (.bool true) (.cmp .eql (.atom 1) (.int .i64 6)))
   (.call (.fn 35) [(.sc (.atom 0))] (.sc (.sl)) []
   (.call (.fn 35) [(.sc (.atom 4))] (.sc (.sl)) []
   (.sem (.call ⟨.builtin .append, #[(.tmp 21), (.tmp 24)], #[22, 22]⟩) 22 [(21, (.sc (.atom 5))), (24, (.sc (.atom 6)))] (.sc (.sl)) []
   (.leaf (.ag [(.atom 1), (.int .i64 0), (.str []), (.atom 7)])))))
   (.call (.fn 35) [(.sc (.atom 0))] (.sc (.sl)) []
   (.call (.fn 34) [(.ag [(.atom 1), (.atom 2), (.atom 3), (.atom 4)])] (.ag [.int .i64, .int .i64, .str, .sl]) []
   (.sem (.buildSlice 22 1 #[(0, (.tmp 30))]) 22 [(30, (.ag [(.atom 6), (.atom 7), (.atom 8), (.atom 9)]))] (.sc (.sl)) []
   (.sem (.call ⟨.builtin .append, #[(.tmp 28), (.tmp 31)], #[22, 22]⟩) 22 [(28, (.sc (.atom 5))), (31, (.sc (.atom 10)))] (.sc (.sl)) []
   (.leaf (.ag [(.int .i64 6), (.int .i64 0), (.str []), (.atom 11)]))))))))
theorem fm_data_Make_eq : execF Tryz.prog { pub := [], nojoin := false } Tryz.f19 = fm_data_Make := by kernel_rfl
theorem cb_data_Make : callB Tryz.prog 19 = true := by kernel_rfl
theorem tri_data_Make : TriOf Tryz.prog 19 Tryz.f19 fm_data_Make := triOf Tryz.func19 fm_data_Make_eq

/-- scrimshaw/lex.Tokens -/
abbrev n_lex_Tokens : FuncId := 20
def fm_lex_Tokens : Fm VE :=
 (.ite (.cmp .gtr (.slen (.atom 0)) (.int .i64 4096))
  (.leaf (.tu [(false, [(.nil 1)]), (false, [(.int .i64 0)]), (false, [(.int .i64 35)])]))
  (.new 73 [(.atom 0), (.int .i64 0)]
  (.call (.fn 36) [(.sc (.atom 1))] (.tu []) []
  (.loop 7 [.sl, .int .i64, .int .i64, .sl] [(.nil 1), (.int .i64 0), (.int .i64 0), (.nil 1)]
   (.chk [] (.some (.atom 1))
   (.load (.padd (.atom 1) 1) [.int .i64]
   (.ite (.cmp .lss (.atom 6) (.slen (.atom 0)))
    (.load (.padd (.atom 1) 1) [.int .i64]
    (.ite (.cmp .eql (.len (.atom 5)) (.int .i64 2048))
     (.leaf (.tu [(false, [(.nil 1)]), (false, [(.atom 7)]), (false, [(.int .i64 34)])]))
     (.call (.fn 37) [(.sc (.atom 1))] (.tu [(true, [.int .i64, .str, .int .i64, .int .i64, .int .i64]), (false, [.int .i64])]) []
     (.ite (.cmp .neq (.atom 13) (.int .i64 0))
      (.leaf (.tu [(false, [(.nil 1)]), (false, [(.atom 7)]), (false, [(.atom 13)])]))
      (.load (.padd (.atom 1) 1) [.int .i64]
      (.sem (.buildSlice 42 1 #[(0, (.tmp 52))]) 42 [(52, (.ag [(.atom 8), (.atom 9), (.atom 10), (.atom 7), (.atom 14)]))] (.sc (.sl)) []
      (.sem (.call ⟨.builtin .append, #[(.tmp 51), (.tmp 53)], #[42, 42]⟩) 42 [(51, (.sc (.atom 5))), (53, (.sc (.atom 15)))] (.sc (.sl)) []
      (.call (.fn 36) [(.sc (.atom 1))] (.tu []) []
      (.next 7 [(.atom 2), (.atom 3), (.atom 4), (.atom 16)])))))))))
    (.leaf (.tu [(false, [(.atom 5)]), (false, [(.int .i64 0)]), (false, [(.int .i64 0)])])))))))))
theorem fm_lex_Tokens_eq : execF Tryz.prog { pub := [15], nojoin := false } Tryz.f20 = fm_lex_Tokens := by kernel_rfl
theorem cb_lex_Tokens : callB Tryz.prog 20 = true := by kernel_rfl
theorem tri_lex_Tokens : TriOf Tryz.prog 20 Tryz.f20 fm_lex_Tokens := triOf Tryz.func20 fm_lex_Tokens_eq

/-- scrimshaw/read.Read$1: behind recover -/
abbrev n_read_Read_1 : FuncId := 21
noncomputable def rest_read_Read_1 : Code := match Tryz.f21.body with | some (.seq _ r) => r | _ => .skip
def fmC_read_Read_1 : Fm (Ex × St) :=
 (.sem (.binOp .neq 20 (.tmp 7) (.const .nilIface) 20) 4 [(7, (.sc (.atom 3)))] (.sc (.bool)) []
 (.ite (.atom 4)
  (.sem (.typeAssert (.tmp 10) 20 46 true) 47 [(10, (.sc (.atom 3)))] (.tu [(true, [.int .i64, .int .i64]), (false, [.bool])]) []
  (.join 2 []
   (.store (.atom 0) [(.nil 1)]
   (.store (.atom 1) [(.atom 5)]
   (.store (.atom 2) [(.atom 6)]
   (.leaf (.normal, { fr := [⟨[], (.sc (.atom 0))⟩, ⟨[], (.sc (.atom 1))⟩, ⟨[], (.sc (.atom 2))⟩, ⟨[], (.sc (.atom 3))⟩, ⟨[], (.sc (.box 0 0))⟩, ⟨[], (.sc (.atom 7))⟩, ⟨[], (.sc (.atom 3))⟩, ⟨[], (.sc (.atom 3))⟩, ⟨[], (.sc (.atom 4))⟩, ⟨[], .junk⟩, ⟨[], (.sc (.atom 3))⟩, ⟨[], .junk⟩, ⟨[], (.ag [(.atom 5), (.atom 6)])⟩, ⟨[], (.sc (.atom 7))⟩, ⟨[], .junk⟩, ⟨[], .junk⟩, ⟨[], .junk⟩, ⟨[], (.sc (.box 0 0))⟩, ⟨[], (.sc (.atom 5))⟩, ⟨[], (.sc (.box 0 1))⟩, ⟨[], (.sc (.atom 6))⟩], bx := [⟨0, 46, [(.atom 5), (.atom 6)], 4⟩], nb := 1, nl := 3, tags := [.ptr, .ptr, .ptr, .any, .bool, .int .i64, .int .i64, .bool], «as» := [((.atom 4), true)], kn := [], its := [] })))))
   (.ite (.not (.atom 7))
    (.sem (.panic (.tmp 16)) 0 [(16, (.sc (.atom 3)))] (.tu []) []
    (.next 2 []))
    (.next 2 []))))
  (.leaf (.normal, { fr := [⟨[], (.sc (.atom 0))⟩, ⟨[], (.sc (.atom 1))⟩, ⟨[], (.sc (.atom 2))⟩, ⟨[], (.sc (.atom 3))⟩, ⟨[], (.tu [])⟩, ⟨[], (.tu [])⟩, ⟨[], (.sc (.atom 3))⟩, ⟨[], (.sc (.atom 3))⟩, ⟨[], (.sc (.atom 4))⟩, ⟨[], (.tu [])⟩, ⟨[], (.tu [])⟩, ⟨[], (.tu [])⟩, ⟨[], (.tu [])⟩, ⟨[], (.tu [])⟩, ⟨[], (.tu [])⟩, ⟨[], (.tu [])⟩, ⟨[], (.tu [])⟩, ⟨[], (.tu [])⟩, ⟨[], (.tu [])⟩, ⟨[], (.tu [])⟩, ⟨[], (.tu [])⟩], bx := [], nb := 0, nl := 1, tags := [.ptr, .ptr, .ptr, .any, .bool], «as» := [((.atom 4), false)], kn := [], its := [] }))))
theorem fmC_read_Read_1_eq : execC Tryz.prog { pub := [], nojoin := false } rest_read_Read_1 ((addRes (st00 Tryz.f21 [(.sc (.ptr)), (.sc (.ptr)), (.sc (.ptr))]) (some 6) (.sc .any)).set (some 3) ⟨[], .sc (.atom 3)⟩) = fmC_read_Read_1 := by kernel_rfl
theorem cb_read_Read_1 : callB Tryz.prog 21 = true := by kernel_rfl

/-- (*scrimshaw/read.reader).datum -/
abbrev n_read_reader__datum : FuncId := 22
def fm_read_reader__datum : Fm VE :=
 (.call (.fn 38) [(.sc (.atom 0))] (.sc (.int .i64)) []
 (.join 2 []
  (.chk [] (.some (.atom 0))
  (.load (.padd (.atom 0) 0) [.sl]
  (.load (.padd (.atom 0) 1) [.int .i64]
  (.chk [] (.inSl (.atom 3) (.atom 4))
  (.load (.elt (.atom 3) (.atom 4) 5) [.int .i64, .str, .int .i64, .int .i64, .int .i64]
  (.load (.padd (.atom 0) 1) [.int .i64]
  (.store (.padd (.atom 0) 1) [(.ar .add .i64 (.atom 10) (.int .i64 1))]
  (.join 6 [.int .i64, .int .i64, .str, .sl]
   (.leaf (.ag [(.atom 11), (.atom 12), (.atom 13), (.atom 14)]))
   (.ite (.cmp .eql (.atom 2) (.int .i64 3))
    (.call (.fn 22) [(.sc (.atom 0)), (.sc (.ar .add .i64 (.atom 1) (.int .i64 1)))] (.ag [.int .i64, .int .i64, .str, .sl]) []
    (.sem (.buildSlice 22 2 #[(0, (.tmp 53)), (1, (.tmp 57))]) 22 [(53, (.ag [(.int .i64 4), (.int .i64 0), (.str [113, 117, 111, 116, 101]), (.nil 1)])), (57, (.ag [(.atom 11), (.atom 12), (.atom 13), (.atom 14)]))] (.sc (.sl)) []
    (.leaf (.ag [(.int .i64 5), (.int .i64 0), (.str []), (.atom 15)]))))
    (.ite (.pick (.cmp .eql (.atom 2) (.int .i64 2)) (.cmp .eql (.atom 2) (.int .i64 2)) (.cmp .eql (.atom 2) (.int .i64 0)))
     (.call (.fn 40) [(.sc (.atom 0)), (.sc (.atom 2)), (.sc (.ar .add .i64 (.atom 1) (.int .i64 1)))] (.ag [.int .i64, .int .i64, .str, .sl]) []
     (.leaf (.ag [(.atom 11), (.atom 12), (.atom 13), (.atom 14)])))
     (.ite (.cmp .eql (.atom 2) (.int .i64 6))
      (.next 6 [(.int .i64 1), (.atom 7), (.atom 6), (.nil 1)])
      (.ite (.cmp .eql (.atom 2) (.int .i64 7))
       (.next 6 [(.int .i64 2), (.atom 7), (.atom 6), (.nil 1)])
       (.ite (.cmp .eql (.atom 2) (.int .i64 8))
        (.next 6 [(.int .i64 3), (.atom 7), (.atom 6), (.nil 1)])
        (.next 6 [(.pick (.cmp .eql (.atom 2) (.int .i64 9)) (.int .i64 4) (.int .i64 0)), (.atom 7), (.atom 6), (.nil 1)]))))))))))))))
  (.ite (.pick (.cmp .eql (.atom 2) (.int .i64 (-1))) (.cmp .eql (.atom 2) (.int .i64 (-1))) (.cmp .eql (.atom 2) (.int .i64 1)))
   (.call (.fn 39) [(.sc (.atom 0)), (.sc (.int .i64 40))] (.tu []) []
   (.next 2 []))
   (.ite (.cmp .eql (.atom 2) (.int .i64 4))
    (.call (.fn 39) [(.sc (.atom 0)), (.sc (.int .i64 42))] (.tu []) []
    (.next 2 []))
    (.join 7 [.bool]
     (.ite (.atom 3)
      (.ite (.cmp .eql (.atom 1) (.int .i64 32))
       (.call (.fn 39) [(.sc (.atom 0)), (.sc (.int .i64 43))] (.tu []) []
       (.next 2 []))
       (.next 2 []))
      (.next 2 []))
     (.ite (.cmp .eql (.atom 2) (.int .i64 3))
      (.next 7 [(.cmp .eql (.atom 2) (.int .i64 3))])
      (.next 7 [(.pick (.cmp .eql (.atom 2) (.int .i64 2)) (.cmp .eql (.atom 2) (.int .i64 2)) (.cmp .eql (.atom 2) (.int .i64 0)))])))))))
theorem fm_read_reader__datum_eq : execF Tryz.prog { pub := [], nojoin := false } Tryz.f22 = fm_read_reader__datum := by kernel_rfl
theorem cb_read_reader__datum : callB Tryz.prog 22 = true := by kernel_rfl
theorem tri_read_reader__datum : TriOf Tryz.prog 22 Tryz.f22 fm_read_reader__datum := triOf Tryz.func22 fm_read_reader__datum_eq

/-- scrimshaw/scrimshawref02.Same -/
abbrev n_scrimshawref02_Same : FuncId := 28
def fm_scrimshawref02_Same : Fm VE :=
 (.ite (.pick (.pick (.pick (.cmp .neq (.atom 0) (.atom 4)) (.bool true) (.cmp .neq (.atom 1) (.atom 5))) (.bool true) (.scmp .neq (.atom 2) (.atom 6))) (.bool true) (.cmp .neq (.len (.atom 3)) (.len (.atom 7))))
  (.leaf (.sc (.bool false)))
  (.loop 5 [.bool, .int .i64] [(.bool false), (.int .i64 0)]
   (.ite (.cmp .lss (.atom 9) (.len (.atom 3)))
    (.chk [] (.inSl (.atom 3) (.atom 9))
    (.load (.elt (.atom 3) (.atom 9) 4) [.int .i64, .int .i64, .str, .sl]
    (.chk [] (.inSl (.atom 7) (.atom 9))
    (.load (.elt (.atom 7) (.atom 9) 4) [.int .i64, .int .i64, .str, .sl]
    (.call (.fn 28) [(.ag [(.atom 10), (.atom 11), (.atom 12), (.atom 13)]), (.ag [(.atom 14), (.atom 15), (.atom 16), (.atom 17)])] (.sc (.bool)) []
    (.ite (.not (.atom 18))
     (.leaf (.sc (.bool false)))
     (.next 5 [(.atom 8), (.ar .add .i64 (.atom 9) (.int .i64 1))])))))))
    (.leaf (.sc (.bool true))))))
theorem fm_scrimshawref02_Same_eq : execF Tryz.prog { pub := [], nojoin := false } Tryz.f28 = fm_scrimshawref02_Same := by kernel_rfl
theorem cb_scrimshawref02_Same : callB Tryz.prog 28 = true := by kernel_rfl
theorem tri_scrimshawref02_Same : TriOf Tryz.prog 28 Tryz.f28 fm_scrimshawref02_Same := triOf Tryz.func28 fm_scrimshawref02_Same_eq

/-- (*scrimshaw/data.checker).check -/
abbrev n_data_checker__check : FuncId := 29
def fm_data_checker__check : Fm VE :=
 (.chk [] (.some (.atom 0))
 (.load (.padd (.atom 0) 0) [.int .i64]
 (.ite (.cmp .eql (.atom 6) (.int .i64 4096))
  (.leaf (.sc (.int .i64 22)))
  (.load (.padd (.atom 0) 0) [.int .i64]
  (.store (.padd (.atom 0) 0) [(.ar .add .i64 (.atom 7) (.int .i64 1))]
  (.call (.fn 44) [(.ag [(.atom 1), (.atom 2), (.atom 3), (.atom 4)])] (.sc (.bool)) []
  (.ite (.pick (.atom 8) (.cmp .eql (.atom 5) (.int .i64 32)) (.bool false))
   (.leaf (.sc (.int .i64 21)))
   (.call (.fn 45) [(.ag [(.atom 1), (.atom 2), (.atom 3), (.atom 4)])] (.sc (.bool)) []
   (.ite (.not (.atom 9))
    (.leaf (.sc (.int .i64 20)))
    (.loop 10 [.int .i64, .int .i64] [(.int .i64 0), (.int .i64 0)]
     (.ite (.cmp .lss (.atom 11) (.len (.atom 4)))
      (.chk [] (.inSl (.atom 4) (.atom 11))
      (.load (.elt (.atom 4) (.atom 11) 4) [.int .i64, .int .i64, .str, .sl]
      (.call (.fn 29) [(.sc (.atom 0)), (.ag [(.atom 12), (.atom 13), (.atom 14), (.atom 15)]), (.sc (.ar .add .i64 (.atom 5) (.int .i64 1)))] (.sc (.int .i64)) []
      (.ite (.cmp .neq (.atom 16) (.int .i64 0))
       (.leaf (.sc (.atom 16)))
       (.next 10 [(.atom 10), (.ar .add .i64 (.atom 11) (.int .i64 1))])))))
      (.leaf (.sc (.int .i64 0))))))))))))))
theorem fm_data_checker__check_eq : execF Tryz.prog { pub := [], nojoin := false } Tryz.f29 = fm_data_checker__check := by kernel_rfl
theorem cb_data_checker__check : callB Tryz.prog 29 = true := by kernel_rfl
theorem tri_data_checker__check : TriOf Tryz.prog 29 Tryz.f29 fm_data_checker__check := triOf Tryz.func29 fm_data_checker__check_eq

/-- scrimshaw/scrimshawref02.Check -/
abbrev n_scrimshawref02_Check : FuncId := 30
def fm_scrimshawref02_Check : Fm VE :=
 (.call (.fn 46) [(.ag [(.atom 0), (.atom 1), (.atom 2), (.atom 3)]), (.sc (.int .i64 0)), (.sc (.int .i64 0))] (.tu [(false, [.int .i64]), (false, [.int .i64])]) []
 (.leaf (.sc (.atom 5))))
theorem fm_scrimshawref02_Check_eq : execF Tryz.prog { pub := [], nojoin := false } Tryz.f30 = fm_scrimshawref02_Check := by kernel_rfl
theorem cb_scrimshawref02_Check : callB Tryz.prog 30 = true := by kernel_rfl
theorem tri_scrimshawref02_Check : TriOf Tryz.prog 30 Tryz.f30 fm_scrimshawref02_Check := triOf Tryz.func30 fm_scrimshawref02_Check_eq

/-- scrimshaw/scrimshawref02.Text -/
abbrev n_scrimshawref02_Text : FuncId := 31
def fm_scrimshawref02_Text : Fm VE :=
 (.ite (.cmp .eql (.atom 0) (.int .i64 0))
  (.ite (.cmp .eql (.atom 1) (.int .i64 0))
   (.leaf (.sc (.str [35, 102])))
   (.leaf (.sc (.str [35, 116]))))
  (.ite (.cmp .eql (.atom 0) (.int .i64 1))
   (.call (.fn 47) [(.sc (.atom 1))] (.sc (.str)) []
   (.leaf (.sc (.atom 5))))
   (.ite (.cmp .eql (.atom 0) (.int .i64 2))
    (.ite (.atom 4)
     (.sem (.buildSlice 39 1 #[(0, (.tmp 24))]) 39 [(24, (.sc (.conv .u8 (.atom 1))))] (.sc (.sl)) []
     (.sem (.convert 39 9 (.tmp 25)) 9 [(25, (.sc (.atom 5)))] (.sc (.str)) []
     (.leaf (.sc (.atom 6)))))
     (.call (.fn 48) [(.sc (.conv .u8 (.atom 1)))] (.sc (.str)) []
     (.leaf (.sc (.atom 5)))))
    (.ite (.cmp .eql (.atom 0) (.int .i64 3))
     (.ite (.atom 4)
      (.leaf (.sc (.atom 2)))
      (.call (.fn 49) [(.sc (.atom 2))] (.sc (.str)) []
      (.leaf (.sc (.atom 5)))))
     (.ite (.cmp .eql (.atom 0) (.int .i64 4))
      (.leaf (.sc (.atom 2)))
      (.loop 13 [.str, .int .i64] [(.pick (.cmp .eql (.atom 0) (.int .i64 7)) (.str [35, 40]) (.str [40])), (.int .i64 0)]
       (.ite (.cmp .lss (.atom 6) (.len (.atom 3)))
        (.join 17 [.str]
         (.join 18 [.str]
          (.chk [] (.inSl (.atom 3) (.atom 6))
          (.load (.elt (.atom 3) (.atom 6) 4) [.int .i64, .int .i64, .str, .sl]
          (.call (.fn 31) [(.ag [(.atom 9), (.atom 10), (.atom 11), (.atom 12)]), (.sc (.atom 4))] (.sc (.str)) []
          (.chk [] (.catOk (.atom 8) (.atom 13))
          (.next 13 [(.cat (.atom 8) (.atom 13)), (.ar .add .i64 (.atom 6) (.int .i64 1))])))))
          (.ite (.pick (.cmp .eql (.atom 0) (.int .i64 6)) (.cmp .eql (.atom 6) (.ar .sub .i64 (.len (.atom 3)) (.int .i64 1))) (.bool false))
           (.chk [] (.catOk (.atom 7) (.str [46, 32]))
           (.next 18 [(.cat (.atom 7) (.str [46, 32]))]))
           (.next 18 [(.atom 7)])))
         (.ite (.cmp .gtr (.atom 6) (.int .i64 0))
          (.chk [] (.catOk (.atom 5) (.str [32]))
          (.next 17 [(.cat (.atom 5) (.str [32]))]))
          (.next 17 [(.atom 5)])))
        (.chk [] (.catOk (.atom 5) (.str [41]))
        (.leaf (.sc (.cat (.atom 5) (.str [41]))))))))))))
theorem fm_scrimshawref02_Text_eq : execF Tryz.prog { pub := [], nojoin := false } Tryz.f31 = fm_scrimshawref02_Text := by kernel_rfl
theorem cb_scrimshawref02_Text : callB Tryz.prog 31 = true := by kernel_rfl
theorem tri_scrimshawref02_Text : TriOf Tryz.prog 31 Tryz.f31 fm_scrimshawref02_Text := triOf Tryz.func31 fm_scrimshawref02_Text_eq

/-- scrimshaw/data.written -/
abbrev n_data_written : FuncId := 32
def fm_data_written : Fm VE :=
 (.call (.fn 15) [(.ag [(.atom 0), (.atom 1), (.atom 2), (.atom 3)])] (.sc (.int .i64)) []
 (.ite (.cmp .neq (.atom 5) (.int .i64 0))
  (.leaf (.tu [(false, [(.str [])]), (false, [(.atom 5)])]))
  (.new 91 [(.nil 1), (.atom 4)]
  (.call (.fn 50) [(.sc (.atom 6)), (.ag [(.atom 0), (.atom 1), (.atom 2), (.atom 3)])] (.tu []) []
  (.chk [] (.some (.atom 6))
  (.load (.padd (.atom 6) 0) [.sl]
  (.sem (.convert 39 9 (.tmp 22)) 9 [(22, (.sc (.atom 7)))] (.sc (.str)) []
  (.leaf (.tu [(false, [(.atom 8)]), (false, [(.int .i64 0)])])))))))))
theorem fm_data_written_eq : execF Tryz.prog { pub := [15], nojoin := false } Tryz.f32 = fm_data_written := by kernel_rfl
theorem cb_data_written : callB Tryz.prog 32 = true := by kernel_rfl
theorem tri_data_written : TriOf Tryz.prog 32 Tryz.f32 fm_data_written := triOf Tryz.func32 fm_data_written_eq

/-- slices.EqualFunc[[]scrimshaw/api.Datum,[]scrimshaw/api.Datum,scrimshaw/api.Datum,scrimshaw/api.Datum] -/
abbrev n_slices_EqualFunc___api_Datum___api_Datum_api_Datum_api_Datum_ : FuncId := 33
def fm_slices_EqualFunc___api_Datum___api_Datum_api_Datum_api_Datum_ : Fm VE :=
 (.ite (.cmp .neq (.len (.atom 0)) (.len (.atom 1)))
  (.leaf (.sc (.bool false)))
  (.loop 5 [.bool, .int .i64] [(.bool false), (.int .i64 0)]
   (.ite (.cmp .lss (.atom 4) (.len (.atom 0)))
    (.chk [] (.inSl (.atom 0) (.atom 4))
    (.load (.elt (.atom 0) (.atom 4) 4) [.int .i64, .int .i64, .str, .sl]
    (.chk [] (.inSl (.atom 1) (.atom 4))
    (.load (.elt (.atom 1) (.atom 4) 4) [.int .i64, .int .i64, .str, .sl]
    (.call (.atom 2) [(.ag [(.atom 5), (.atom 6), (.atom 7), (.atom 8)]), (.ag [(.atom 9), (.atom 10), (.atom 11), (.atom 12)])] (.sc (.bool)) []
    (.ite (.not (.atom 13))
     (.leaf (.sc (.bool false)))
     (.next 5 [(.atom 3), (.ar .add .i64 (.atom 4) (.int .i64 1))])))))))
    (.leaf (.sc (.bool true))))))
theorem fm_slices_EqualFunc___api_Datum___api_Datum_api_Datum_api_Datum__eq : execF Tryz.prog { pub := [], nojoin := false } Tryz.f33 = fm_slices_EqualFunc___api_Datum___api_Datum_api_Datum_api_Datum_ := by kernel_rfl
theorem cb_slices_EqualFunc___api_Datum___api_Datum_api_Datum_api_Datum_ : callB Tryz.prog 33 = true := by kernel_rfl
theorem tri_slices_EqualFunc___api_Datum___api_Datum_api_Datum_api_Datum_ : TriOf Tryz.prog 33 Tryz.f33 fm_slices_EqualFunc___api_Datum___api_Datum_api_Datum_api_Datum_ := triOf Tryz.func33 fm_slices_EqualFunc___api_Datum___api_Datum_api_Datum_api_Datum__eq

/-- scrimshaw/data.copied -/
abbrev n_data_copied : FuncId := 34
def fm_data_copied : Fm VE :=
 (.call (.fn 35) [(.sc (.atom 3))] (.sc (.sl)) []
 (.leaf (.ag [(.atom 0), (.atom 1), (.atom 2), (.atom 4)])))
theorem fm_data_copied_eq : execF Tryz.prog { pub := [], nojoin := false } Tryz.f34 = fm_data_copied := by kernel_rfl
theorem cb_data_copied : callB Tryz.prog 34 = true := by kernel_rfl
theorem tri_data_copied : TriOf Tryz.prog 34 Tryz.f34 fm_data_copied := triOf Tryz.func34 fm_data_copied_eq

/-- scrimshaw/data.all -/
abbrev n_data_all : FuncId := 35
def fm_data_all : Fm VE :=
 (.loop 4 [.sl, .int .i64] [(.nil 1), (.int .i64 0)]
  (.ite (.cmp .lss (.atom 2) (.len (.atom 0)))
   (.chk [] (.inSl (.atom 0) (.atom 2))
   (.load (.elt (.atom 0) (.atom 2) 4) [.int .i64, .int .i64, .str, .sl]
   (.call (.fn 34) [(.ag [(.atom 3), (.atom 4), (.atom 5), (.atom 6)])] (.ag [.int .i64, .int .i64, .str, .sl]) []
   (.sem (.buildSlice 22 1 #[(0, (.tmp 14))]) 22 [(14, (.ag [(.atom 7), (.atom 8), (.atom 9), (.atom 10)]))] (.sc (.sl)) []
   (.sem (.call ⟨.builtin .append, #[(.tmp 12), (.tmp 15)], #[22, 22]⟩) 22 [(12, (.sc (.atom 1))), (15, (.sc (.atom 11)))] (.sc (.sl)) []
   (.next 4 [(.atom 12), (.ar .add .i64 (.atom 2) (.int .i64 1))]))))))
   (.leaf (.sc (.atom 1)))))
theorem fm_data_all_eq : execF Tryz.prog { pub := [], nojoin := false } Tryz.f35 = fm_data_all := by kernel_rfl
theorem cb_data_all : callB Tryz.prog 35 = true := by kernel_rfl
theorem tri_data_all : TriOf Tryz.prog 35 Tryz.f35 fm_data_all := triOf Tryz.func35 fm_data_all_eq

/-- (*scrimshaw/lex.lexer).gap -/
abbrev n_lex_lexer__gap : FuncId := 36
def fm_lex_lexer__gap : Fm VE :=
 (.loop 0 [] []
  (.chk [] (.some (.atom 0))
  (.load (.padd (.atom 0) 1) [.int .i64]
  (.load (.padd (.atom 0) 0) [.str]
  (.ite (.cmp .lss (.atom 1) (.slen (.atom 2)))
   (.load (.padd (.atom 0) 0) [.str]
   (.load (.padd (.atom 0) 1) [.int .i64]
   (.chk [] (.inStr (.atom 3) (.atom 4))
   (.call (.fn 51) [(.sc (.str [9, 10, 13, 32])), (.sc (.sidx (.atom 3) (.atom 4)))] (.sc (.int .i64)) []
   (.ite (.cmp .geq (.atom 5) (.int .i64 0))
    (.load (.padd (.atom 0) 1) [.int .i64]
    (.store (.padd (.atom 0) 1) [(.ar .add .i64 (.atom 6) (.int .i64 1))]
    (.next 0 [])))
    (.ite (.cmp .eql (.sidx (.atom 3) (.atom 4)) (.int .u8 59))
     (.load (.padd (.atom 0) 0) [.str]
     (.load (.padd (.atom 0) 1) [.int .i64]
     (.chk [] (.sub (.slen (.atom 6)) (.atom 7) (.slen (.atom 6)))
     (.call (.fn 51) [(.sc (.ssub (.atom 6) (.atom 7) (.slen (.atom 6)))), (.sc (.int .u8 10))] (.sc (.int .i64)) []
     (.ite (.cmp .geq (.atom 8) (.int .i64 0))
      (.load (.padd (.atom 0) 1) [.int .i64]
      (.store (.padd (.atom 0) 1) [(.ar .add .i64 (.atom 9) (.atom 8))]
      (.next 0 [])))
      (.load (.padd (.atom 0) 0) [.str]
      (.store (.padd (.atom 0) 1) [(.slen (.atom 9))]
      (.next 0 []))))))))
     (.leaf (.tu []))))))))
   (.leaf (.tu [])))))))
theorem fm_lex_lexer__gap_eq : execF Tryz.prog { pub := [], nojoin := false } Tryz.f36 = fm_lex_lexer__gap := by kernel_rfl
theorem cb_lex_lexer__gap : callB Tryz.prog 36 = true := by kernel_rfl
theorem tri_lex_lexer__gap : TriOf Tryz.prog 36 Tryz.f36 fm_lex_lexer__gap := triOf Tryz.func36 fm_lex_lexer__gap_eq

/-- (*scrimshaw/lex.lexer).next -/
abbrev n_lex_lexer__next : FuncId := 37
def fm_lex_lexer__next : Fm VE :=
 (.chk [] (.some (.atom 0))
 (.load (.padd (.atom 0) 0) [.str]
 (.load (.padd (.atom 0) 1) [.int .i64]
 (.chk [] (.inStr (.atom 1) (.atom 2))
 (.ite (.cmp .eql (.sidx (.atom 1) (.atom 2)) (.int .u8 40))
  (.load (.padd (.atom 0) 1) [.int .i64]
  (.store (.padd (.atom 0) 1) [(.ar .add .i64 (.atom 3) (.int .i64 1))]
  (.leaf (.tu [(true, [(.int .i64 0), (.str []), (.int .i64 0), (.int .i64 0), (.int .i64 0)]), (false, [(.int .i64 0)])]))))
  (.ite (.cmp .eql (.sidx (.atom 1) (.atom 2)) (.int .u8 41))
   (.load (.padd (.atom 0) 1) [.int .i64]
   (.store (.padd (.atom 0) 1) [(.ar .add .i64 (.atom 3) (.int .i64 1))]
   (.leaf (.tu [(true, [(.int .i64 1), (.str []), (.int .i64 0), (.int .i64 0), (.int .i64 0)]), (false, [(.int .i64 0)])]))))
   (.ite (.cmp .eql (.sidx (.atom 1) (.atom 2)) (.int .u8 39))
    (.load (.padd (.atom 0) 1) [.int .i64]
    (.store (.padd (.atom 0) 1) [(.ar .add .i64 (.atom 3) (.int .i64 1))]
    (.leaf (.tu [(true, [(.int .i64 3), (.str []), (.int .i64 0), (.int .i64 0), (.int .i64 0)]), (false, [(.int .i64 0)])]))))
    (.ite (.cmp .eql (.sidx (.atom 1) (.atom 2)) (.int .u8 35))
     (.call (.fn 52) [(.sc (.atom 0))] (.tu [(true, [.int .i64, .str, .int .i64, .int .i64, .int .i64]), (false, [.int .i64])]) []
     (.leaf (.tu [(true, [(.atom 3), (.atom 4), (.atom 5), (.atom 6), (.atom 7)]), (false, [(.atom 8)])])))
     (.ite (.cmp .eql (.sidx (.atom 1) (.atom 2)) (.int .u8 34))
      (.call (.fn 53) [(.sc (.atom 0))] (.tu [(true, [.int .i64, .str, .int .i64, .int .i64, .int .i64]), (false, [.int .i64])]) []
      (.leaf (.tu [(true, [(.atom 3), (.atom 4), (.atom 5), (.atom 6), (.atom 7)]), (false, [(.atom 8)])])))
      (.call (.fn 54) [(.sc (.atom 0))] (.tu [(true, [.int .i64, .str, .int .i64, .int .i64, .int .i64]), (false, [.int .i64])]) []
      (.leaf (.tu [(true, [(.atom 3), (.atom 4), (.atom 5), (.atom 6), (.atom 7)]), (false, [(.atom 8)])]))))))))))))
theorem fm_lex_lexer__next_eq : execF Tryz.prog { pub := [], nojoin := false } Tryz.f37 = fm_lex_lexer__next := by kernel_rfl
theorem cb_lex_lexer__next : callB Tryz.prog 37 = true := by kernel_rfl
theorem tri_lex_lexer__next : TriOf Tryz.prog 37 Tryz.f37 fm_lex_lexer__next := triOf Tryz.func37 fm_lex_lexer__next_eq

/-- (*scrimshaw/read.reader).kind -/
abbrev n_read_reader__kind : FuncId := 38
def fm_read_reader__kind : Fm VE :=
 (.chk [] (.some (.atom 0))
 (.load (.padd (.atom 0) 1) [.int .i64]
 (.load (.padd (.atom 0) 0) [.sl]
 (.ite (.cmp .eql (.atom 1) (.len (.atom 2)))
  (.leaf (.sc (.int .i64 (-1))))
  (.load (.padd (.atom 0) 0) [.sl]
  (.load (.padd (.atom 0) 1) [.int .i64]
  (.chk [] (.inSl (.atom 3) (.atom 4))
  (.load (.padd (.elt (.atom 3) (.atom 4) 5) 0) [.int .i64]
  (.leaf (.sc (.atom 5)))))))))))
theorem fm_read_reader__kind_eq : execF Tryz.prog { pub := [], nojoin := false } Tryz.f38 = fm_read_reader__kind := by kernel_rfl
theorem cb_read_reader__kind : callB Tryz.prog 38 = true := by kernel_rfl
theorem tri_read_reader__kind : TriOf Tryz.prog 38 Tryz.f38 fm_read_reader__kind := triOf Tryz.func38 fm_read_reader__kind_eq

/-- (*scrimshaw/read.reader).fail -/
abbrev n_read_reader__fail : FuncId := 39
def fm_read_reader__fail : Fm VE :=
 (.chk [] (.some (.atom 0))
 (.load (.padd (.atom 0) 2) [.int .i64]
 (.join 1 [.int .i64, .int .i64]
  (.sem (.makeInterface 46 (.tmp 32)) 20 [(32, (.ag [(.atom 4), (.atom 3)]))] (.sc (.any)) []
  (.sem (.panic (.tmp 33)) 0 [(33, (.sc (.atom 5)))] (.tu []) []
  (.leaf (.tu []))))
  (.load (.padd (.atom 0) 1) [.int .i64]
  (.load (.padd (.atom 0) 0) [.sl]
  (.ite (.cmp .lss (.atom 3) (.len (.atom 4)))
   (.load (.padd (.atom 0) 0) [.sl]
   (.load (.padd (.atom 0) 1) [.int .i64]
   (.chk [] (.inSl (.atom 5) (.atom 6))
   (.load (.padd (.elt (.atom 5) (.atom 6) 5) 3) [.int .i64]
   (.next 1 [(.atom 1), (.atom 7)])))))
   (.next 1 [(.int .i64 41), (.atom 2)])))))))
theorem fm_read_reader__fail_eq : execF Tryz.prog { pub := [], nojoin := false } Tryz.f39 = fm_read_reader__fail := by kernel_rfl
theorem cb_read_reader__fail : callB Tryz.prog 39 = true := by kernel_rfl
theorem tri_read_reader__fail : TriOf Tryz.prog 39 Tryz.f39 fm_read_reader__fail := triOf Tryz.func39 fm_read_reader__fail_eq

/-- (*scrimshaw/read.reader).items -/
abbrev n_read_reader__items : FuncId := 40
def fm_read_reader__items : Fm VE :=
 (.loop 6 [.sl, .int .i64, .int .i64, .str, .sl] [(.nil 1), (.int .i64 0), (.int .i64 0), (.str []), (.nil 1)]
  (.call (.fn 38) [(.sc (.atom 0))] (.sc (.int .i64)) []
  (.ite (.cmp .neq (.atom 8) (.int .i64 1))
   (.call (.fn 38) [(.sc (.atom 0))] (.sc (.int .i64)) []
   (.ite (.pick (.pick (.cmp .eql (.atom 9) (.int .i64 4)) (.cmp .gtr (.len (.atom 3)) (.int .i64 0)) (.bool false)) (.cmp .eql (.pick (.cmp .eql (.atom 1) (.int .i64 2)) (.int .i64 7) (.int .i64 5)) (.int .i64 5)) (.bool false))
    (.chk [] (.some (.atom 0))
    (.load (.padd (.atom 0) 1) [.int .i64]
    (.store (.padd (.atom 0) 1) [(.ar .add .i64 (.atom 10) (.int .i64 1))]
    (.call (.fn 22) [(.sc (.atom 0)), (.sc (.atom 2))] (.ag [.int .i64, .int .i64, .str, .sl]) []
    (.join 13 []
     (.load (.padd (.atom 0) 1) [.int .i64]
     (.store (.padd (.atom 0) 1) [(.ar .add .i64 (.atom 15) (.int .i64 1))]
     (.call (.fn 19) [(.sc (.atom 3)), (.ag [(.atom 11), (.atom 12), (.atom 13), (.atom 14)])] (.ag [.int .i64, .int .i64, .str, .sl]) []
     (.leaf (.ag [(.atom 16), (.atom 17), (.atom 18), (.atom 19)])))))
     (.call (.fn 38) [(.sc (.atom 0))] (.sc (.int .i64)) []
     (.ite (.cmp .neq (.atom 15) (.int .i64 1))
      (.call (.fn 39) [(.sc (.atom 0)), (.sc (.int .i64 42))] (.tu []) []
      (.next 13 []))
      (.next 13 []))))))))
    (.call (.fn 22) [(.sc (.atom 0)), (.sc (.atom 2))] (.ag [.int .i64, .int .i64, .str, .sl]) []
    (.sem (.buildSlice 22 1 #[(0, (.tmp 55))]) 22 [(55, (.ag [(.atom 10), (.atom 11), (.atom 12), (.atom 13)]))] (.sc (.sl)) []
    (.sem (.call ⟨.builtin .append, #[(.tmp 52), (.tmp 56)], #[22, 22]⟩) 22 [(52, (.sc (.atom 3))), (56, (.sc (.atom 14)))] (.sc (.sl)) []
    (.next 6 [(.atom 15), (.atom 4), (.atom 5), (.atom 6), (.atom 7)]))))))
   (.chk [] (.some (.atom 0))
   (.load (.padd (.atom 0) 1) [.int .i64]
   (.store (.padd (.atom 0) 1) [(.ar .add .i64 (.atom 9) (.int .i64 1))]
   (.leaf (.ag [(.pick (.cmp .eql (.atom 1) (.int .i64 2)) (.int .i64 7) (.int .i64 5)), (.int .i64 0), (.str []), (.atom 3)]))))))))
theorem fm_read_reader__items_eq : execF Tryz.prog { pub := [], nojoin := false } Tryz.f40 = fm_read_reader__items := by kernel_rfl
theorem cb_read_reader__items : callB Tryz.prog 40 = true := by kernel_rfl
theorem tri_read_reader__items : TriOf Tryz.prog 40 Tryz.f40 fm_read_reader__items := triOf Tryz.func40 fm_read_reader__items_eq

/-- scrimshaw/data.hasItems -/
abbrev n_data_hasItems : FuncId := 44
def fm_data_hasItems : Fm VE :=
 (.leaf (.sc (.pick (.cmp .geq (.atom 0) (.int .i64 5)) (.cmp .leq (.atom 0) (.int .i64 7)) (.bool false))))
theorem fm_data_hasItems_eq : execF Tryz.prog { pub := [], nojoin := false } Tryz.f44 = fm_data_hasItems := by kernel_rfl
theorem cb_data_hasItems : callB Tryz.prog 44 = true := by kernel_rfl
theorem tri_data_hasItems : TriOf Tryz.prog 44 Tryz.f44 fm_data_hasItems := triOf Tryz.func44 fm_data_hasItems_eq

/-- scrimshaw/data.form -/
abbrev n_data_form : FuncId := 45
def fm_data_form : Fm VE :=
 (.join 2 [.int .i64, .str]
  (.join 4 [.bool]
   (.ite (.atom 6)
    (.leaf (.sc (.bool false)))
    (.ite (.cmp .eql (.atom 0) (.int .i64 4))
     (.call (.fn 59) [(.sc (.atom 2))] (.sc (.bool)) []
     (.leaf (.sc (.atom 7))))
     (.ite (.cmp .eql (.atom 0) (.int .i64 6))
      (.join 9 [.bool]
       (.leaf (.sc (.atom 7)))
       (.chk [((.cmp .gtr (.len (.atom 3)) (.int .i64 1)), true)] (.inSl (.atom 3) (.ar .sub .i64 (.len (.atom 3)) (.int .i64 1)))
       (.chk [((.cmp .gtr (.len (.atom 3)) (.int .i64 1)), true)] (.some (.elt (.atom 3) (.ar .sub .i64 (.len (.atom 3)) (.int .i64 1)) 4))
       (.ite (.cmp .gtr (.len (.atom 3)) (.int .i64 1))
        (.load (.padd (.elt (.atom 3) (.ar .sub .i64 (.len (.atom 3)) (.int .i64 1)) 4) 0) [.int .i64]
        (.chk [((.cmp .neq (.atom 7) (.int .i64 5)), true)] (.inSl (.atom 3) (.ar .sub .i64 (.len (.atom 3)) (.int .i64 1)))
        (.chk [((.cmp .neq (.atom 7) (.int .i64 5)), true)] (.some (.elt (.atom 3) (.ar .sub .i64 (.len (.atom 3)) (.int .i64 1)) 4))
        (.ite (.cmp .neq (.atom 7) (.int .i64 5))
         (.load (.padd (.elt (.atom 3) (.ar .sub .i64 (.len (.atom 3)) (.int .i64 1)) 4) 0) [.int .i64]
         (.next 9 [(.cmp .neq (.atom 8) (.int .i64 6))]))
         (.next 9 [(.bool false)])))))
        (.next 9 [(.bool false)])))))
      (.leaf (.sc (.pick (.cmp .geq (.atom 0) (.int .i64 0)) (.cmp .lss (.atom 0) (.int .i64 8)) (.bool false)))))))
   (.ite (.pick (.cmp .neq (.atom 1) (.atom 4)) (.bool true) (.scmp .neq (.atom 2) (.atom 5)))
    (.next 4 [(.bool true)])
    (.ite (.cmp .gtr (.len (.atom 3)) (.int .i64 0))
     (.call (.fn 44) [(.ag [(.atom 0), (.atom 1), (.atom 2), (.atom 3)])] (.sc (.bool)) []
     (.next 4 [(.not (.atom 6))]))
     (.next 4 [(.bool false)]))))
  (.ite (.cmp .eql (.atom 0) (.int .i64 0))
   (.next 2 [(.ar .and .i64 (.atom 1) (.int .i64 1)), (.str [])])
   (.ite (.cmp .eql (.atom 0) (.int .i64 1))
    (.next 2 [(.pick (.cmp .lss (.int .i64 1152921504606846975) (.pick (.cmp .gtr (.int .i64 (-1152921504606846976)) (.atom 1)) (.int .i64 (-1152921504606846976)) (.atom 1))) (.int .i64 1152921504606846975) (.pick (.cmp .gtr (.int .i64 (-1152921504606846976)) (.atom 1)) (.int .i64 (-1152921504606846976)) (.atom 1))), (.str [])])
    (.ite (.cmp .eql (.atom 0) (.int .i64 2))
     (.next 2 [(.ar .and .i64 (.atom 1) (.int .i64 255)), (.str [])])
     (.ite (.cmp .eql (.atom 0) (.int .i64 3))
      (.chk [] (.sub (.slen (.atom 2)) (.int .i64 0) (.pick (.cmp .lss (.int .i64 4096) (.slen (.atom 2))) (.int .i64 4096) (.slen (.atom 2))))
      (.next 2 [(.int .i64 0), (.ssub (.atom 2) (.int .i64 0) (.pick (.cmp .lss (.int .i64 4096) (.slen (.atom 2))) (.int .i64 4096) (.slen (.atom 2))))]))
      (.next 2 [(.int .i64 0), (.pick (.cmp .eql (.atom 0) (.int .i64 4)) (.atom 2) (.str []))]))))))
theorem fm_data_form_eq : execF Tryz.prog { pub := [], nojoin := false } Tryz.f45 = fm_data_form := by kernel_rfl
theorem cb_data_form : callB Tryz.prog 45 = true := by kernel_rfl
theorem tri_data_form : TriOf Tryz.prog 45 Tryz.f45 fm_data_form := triOf Tryz.func45 fm_data_form_eq

/-- scrimshaw/scrimshawref02.check -/
abbrev n_scrimshawref02_check : FuncId := 46
def fm_scrimshawref02_check : Fm VE :=
 (.ite (.cmp .eql (.atom 5) (.int .i64 4096))
  (.leaf (.tu [(false, [(.atom 5)]), (false, [(.int .i64 22)])]))
  (.call (.fn 60) [(.ag [(.atom 0), (.atom 1), (.atom 2), (.atom 3)])] (.sc (.bool)) []
  (.ite (.pick (.atom 6) (.cmp .eql (.atom 4) (.int .i64 32)) (.bool false))
   (.leaf (.tu [(false, [(.ar .add .i64 (.atom 5) (.int .i64 1))]), (false, [(.int .i64 21)])]))
   (.call (.fn 61) [(.ag [(.atom 0), (.atom 1), (.atom 2), (.atom 3)])] (.sc (.bool)) []
   (.ite (.not (.atom 7))
    (.leaf (.tu [(false, [(.ar .add .i64 (.atom 5) (.int .i64 1))]), (false, [(.int .i64 20)])]))
    (.loop 11 [.int .i64, .int .i64, .int .i64, .int .i64, .int .i64] [(.ar .add .i64 (.atom 5) (.int .i64 1)), (.int .i64 0), (.int .i64 0), (.int .i64 0), (.int .i64 0)]
     (.ite (.cmp .lss (.atom 12) (.len (.atom 3)))
      (.chk [] (.inSl (.atom 3) (.atom 12))
      (.load (.elt (.atom 3) (.atom 12) 4) [.int .i64, .int .i64, .str, .sl]
      (.call (.fn 46) [(.ag [(.atom 13), (.atom 14), (.atom 15), (.atom 16)]), (.sc (.ar .add .i64 (.atom 4) (.int .i64 1))), (.sc (.atom 8))] (.tu [(false, [.int .i64]), (false, [.int .i64])]) []
      (.ite (.cmp .neq (.atom 18) (.int .i64 0))
       (.leaf (.tu [(false, [(.atom 17)]), (false, [(.atom 18)])]))
       (.next 11 [(.atom 17), (.atom 9), (.atom 10), (.atom 18), (.ar .add .i64 (.atom 12) (.int .i64 1))])))))
      (.leaf (.tu [(false, [(.atom 8)]), (false, [(.int .i64 0)])])))))))))
theorem fm_scrimshawref02_check_eq : execF Tryz.prog { pub := [], nojoin := false } Tryz.f46 = fm_scrimshawref02_check := by kernel_rfl
theorem cb_scrimshawref02_check : callB Tryz.prog 46 = true := by kernel_rfl
theorem tri_scrimshawref02_check : TriOf Tryz.prog 46 Tryz.f46 fm_scrimshawref02_check := triOf Tryz.func46 fm_scrimshawref02_check_eq

/-- scrimshaw/scrimshawref02.Digits -/
abbrev n_scrimshawref02_Digits : FuncId := 47
def fm_scrimshawref02_Digits : Fm VE :=
 (.loop 4 [.int .i64, .str] [(.atom 0), (.str [])]
  (.sem (.buildSlice 39 1 #[(0, (.tmp 16))]) 39 [(16, (.sc (.conv .u8 (.ar .add .i64 (.int .i64 48) (.pick (.cmp .lss (.ar .rem .i64 (.atom 1) (.int .i64 10)) (.int .i64 0)) (.ar .sub .i64 (.int .i64 0) (.ar .rem .i64 (.atom 1) (.int .i64 10))) (.ar .rem .i64 (.atom 1) (.int .i64 10)))))))] (.sc (.sl)) []
  (.sem (.convert 39 9 (.tmp 17)) 9 [(17, (.sc (.atom 3)))] (.sc (.str)) []
  (.chk [] (.catOk (.atom 4) (.atom 2))
  (.ite (.cmp .eql (.ar .quo .i64 (.atom 1) (.int .i64 10)) (.int .i64 0))
   (.ite (.cmp .lss (.atom 0) (.int .i64 0))
    (.chk [] (.catOk (.str [45]) (.cat (.atom 4) (.atom 2)))
    (.leaf (.sc (.cat (.str [45]) (.cat (.atom 4) (.atom 2))))))
    (.leaf (.sc (.cat (.atom 4) (.atom 2)))))
   (.next 4 [(.ar .quo .i64 (.atom 1) (.int .i64 10)), (.cat (.atom 4) (.atom 2))]))))))
theorem fm_scrimshawref02_Digits_eq : execF Tryz.prog { pub := [], nojoin := false } Tryz.f47 = fm_scrimshawref02_Digits := by kernel_rfl
theorem cb_scrimshawref02_Digits : callB Tryz.prog 47 = true := by kernel_rfl
theorem tri_scrimshawref02_Digits : TriOf Tryz.prog 47 Tryz.f47 fm_scrimshawref02_Digits := triOf Tryz.func47 fm_scrimshawref02_Digits_eq

/-- scrimshaw/scrimshawref02.char -/
abbrev n_scrimshawref02_char : FuncId := 48
def fm_scrimshawref02_char : Fm VE :=
 (.ite (.cmp .eql (.atom 0) (.int .u8 32))
  (.leaf (.sc (.str [35, 92, 115, 112, 97, 99, 101])))
  (.ite (.cmp .eql (.atom 0) (.int .u8 10))
   (.leaf (.sc (.str [35, 92, 110, 101, 119, 108, 105, 110, 101])))
   (.ite (.pick (.cmp .gtr (.atom 0) (.int .u8 32)) (.cmp .lss (.atom 0) (.int .u8 127)) (.bool false))
    (.sem (.buildSlice 39 1 #[(0, (.tmp 13))]) 39 [(13, (.sc (.atom 0)))] (.sc (.sl)) []
    (.sem (.convert 39 9 (.tmp 14)) 9 [(14, (.sc (.atom 1)))] (.sc (.str)) []
    (.chk [] (.catOk (.str [35, 92]) (.atom 2))
    (.leaf (.sc (.cat (.str [35, 92]) (.atom 2)))))))
    (.call (.fn 62) [(.sc (.atom 0))] (.sc (.str)) []
    (.chk [] (.catOk (.str [35, 92, 120]) (.atom 1))
    (.leaf (.sc (.cat (.str [35, 92, 120]) (.atom 1)))))))))
theorem fm_scrimshawref02_char_eq : execF Tryz.prog { pub := [], nojoin := false } Tryz.f48 = fm_scrimshawref02_char := by kernel_rfl
theorem cb_scrimshawref02_char : callB Tryz.prog 48 = true := by kernel_rfl
theorem tri_scrimshawref02_char : TriOf Tryz.prog 48 Tryz.f48 fm_scrimshawref02_char := triOf Tryz.func48 fm_scrimshawref02_char_eq

/-- scrimshaw/scrimshawref02.Quoted -/
abbrev n_scrimshawref02_Quoted : FuncId := 49
def fm_scrimshawref02_Quoted : Fm VE :=
 (.loop 4 [.str, .int .i64] [(.str [34]), (.int .i64 0)]
  (.ite (.cmp .lss (.atom 2) (.slen (.atom 0)))
   (.join 7 [.str]
    (.next 4 [(.atom 3), (.ar .add .i64 (.atom 2) (.int .i64 1))])
    (.chk [] (.inStr (.atom 0) (.atom 2))
    (.ite (.pick (.cmp .eql (.sidx (.atom 0) (.atom 2)) (.int .u8 34)) (.bool true) (.cmp .eql (.sidx (.atom 0) (.atom 2)) (.int .u8 92)))
     (.chk [] (.sub (.slen (.atom 0)) (.atom 2) (.ar .add .i64 (.atom 2) (.int .i64 1)))
     (.chk [] (.catOk (.str [92]) (.ssub (.atom 0) (.atom 2) (.ar .add .i64 (.atom 2) (.int .i64 1))))
     (.chk [] (.catOk (.atom 1) (.cat (.str [92]) (.ssub (.atom 0) (.atom 2) (.ar .add .i64 (.atom 2) (.int .i64 1)))))
     (.next 7 [(.cat (.atom 1) (.cat (.str [92]) (.ssub (.atom 0) (.atom 2) (.ar .add .i64 (.atom 2) (.int .i64 1)))))]))))
     (.ite (.cmp .eql (.sidx (.atom 0) (.atom 2)) (.int .u8 10))
      (.chk [] (.catOk (.atom 1) (.str [92, 110]))
      (.next 7 [(.cat (.atom 1) (.str [92, 110]))]))
      (.ite (.pick (.cmp .lss (.sidx (.atom 0) (.atom 2)) (.int .u8 32)) (.bool true) (.cmp .gtr (.sidx (.atom 0) (.atom 2)) (.int .u8 126)))
       (.call (.fn 62) [(.sc (.sidx (.atom 0) (.atom 2)))] (.sc (.str)) []
       (.chk [] (.catOk (.str [92, 120]) (.atom 3))
       (.chk [] (.catOk (.atom 1) (.cat (.str [92, 120]) (.atom 3)))
       (.next 7 [(.cat (.atom 1) (.cat (.str [92, 120]) (.atom 3)))]))))
       (.chk [] (.sub (.slen (.atom 0)) (.atom 2) (.ar .add .i64 (.atom 2) (.int .i64 1)))
       (.chk [] (.catOk (.atom 1) (.ssub (.atom 0) (.atom 2) (.ar .add .i64 (.atom 2) (.int .i64 1))))
       (.next 7 [(.cat (.atom 1) (.ssub (.atom 0) (.atom 2) (.ar .add .i64 (.atom 2) (.int .i64 1))))]))))))))
   (.chk [] (.catOk (.atom 1) (.str [34]))
   (.leaf (.sc (.cat (.atom 1) (.str [34])))))))
theorem fm_scrimshawref02_Quoted_eq : execF Tryz.prog { pub := [], nojoin := false } Tryz.f49 = fm_scrimshawref02_Quoted := by kernel_rfl
theorem cb_scrimshawref02_Quoted : callB Tryz.prog 49 = true := by kernel_rfl
theorem tri_scrimshawref02_Quoted : TriOf Tryz.prog 49 Tryz.f49 fm_scrimshawref02_Quoted := triOf Tryz.func49 fm_scrimshawref02_Quoted_eq

/-- (*scrimshaw/data.writer).datum -/
abbrev n_data_writer__datum : FuncId := 50
def fm_data_writer__datum : Fm VE :=
 (.ite (.cmp .eql (.atom 1) (.int .i64 0))
  (.chk [] (.some (.atom 0))
  (.load (.padd (.atom 0) 0) [.sl]
  (.chk [] (.inStr (.str [102, 116]) (.atom 2))
  (.sem (.buildSlice 39 2 #[(0, (.const (.int .u8 35))), (1, (.tmp 18))]) 39 [(18, (.sc (.sidx (.str [102, 116]) (.atom 2))))] (.sc (.sl)) [((.padd (.atom 0) 0), [(.atom 5)])]
  (.sem (.call ⟨.builtin .append, #[(.tmp 15), (.tmp 19)], #[39, 39]⟩) 39 [(15, (.sc (.atom 5))), (19, (.sc (.atom 6)))] (.sc (.sl)) []
  (.store (.padd (.atom 0) 0) [(.atom 7)]
  (.leaf (.tu []))))))))
  (.ite (.cmp .eql (.atom 1) (.int .i64 1))
   (.chk [] (.some (.atom 0))
   (.load (.padd (.atom 0) 0) [.sl]
   (.call (.fn 63) [(.sc (.atom 5)), (.sc (.atom 2)), (.sc (.int .i64 10))] (.sc (.sl)) []
   (.store (.padd (.atom 0) 0) [(.atom 6)]
   (.leaf (.tu []))))))
   (.ite (.cmp .eql (.atom 1) (.int .i64 2))
    (.call (.fn 64) [(.sc (.atom 0)), (.sc (.conv .u8 (.atom 2)))] (.tu []) []
    (.leaf (.tu [])))
    (.ite (.cmp .eql (.atom 1) (.int .i64 3))
     (.call (.fn 65) [(.sc (.atom 0)), (.sc (.atom 3))] (.tu []) []
     (.leaf (.tu [])))
     (.ite (.cmp .eql (.atom 1) (.int .i64 4))
      (.chk [] (.some (.atom 0))
      (.load (.padd (.atom 0) 0) [.sl]
      (.sem (.call ⟨.builtin .append, #[(.tmp 54), (.tmp 56)], #[39, 9]⟩) 39 [(54, (.sc (.atom 5))), (56, (.sc (.atom 3)))] (.sc (.sl)) []
      (.store (.padd (.atom 0) 0) [(.atom 6)]
      (.leaf (.tu []))))))
      (.ite (.cmp .eql (.atom 1) (.int .i64 7))
       (.chk [] (.some (.atom 0))
       (.load (.padd (.atom 0) 0) [.sl]
       (.sem (.buildSlice 39 1 #[(0, (.const (.int .u8 35)))]) 39 [] (.sc (.sl)) []
       (.sem (.call ⟨.builtin .append, #[(.tmp 66), (.tmp 67)], #[39, 39]⟩) 39 [(66, (.sc (.atom 5))), (67, (.sc (.atom 6)))] (.sc (.sl)) []
       (.store (.padd (.atom 0) 0) [(.atom 7)]
       (.call (.fn 66) [(.sc (.atom 0)), (.ag [(.atom 1), (.atom 2), (.atom 3), (.atom 4)])] (.tu []) []
       (.leaf (.tu []))))))))
       (.call (.fn 66) [(.sc (.atom 0)), (.ag [(.atom 1), (.atom 2), (.atom 3), (.atom 4)])] (.tu []) []
       (.leaf (.tu [])))))))))
theorem fm_data_writer__datum_eq : execF Tryz.prog { pub := [], nojoin := false } Tryz.f50 = fm_data_writer__datum := by kernel_rfl
theorem cb_data_writer__datum : callB Tryz.prog 50 = true := by kernel_rfl
theorem tri_data_writer__datum : TriOf Tryz.prog 50 Tryz.f50 fm_data_writer__datum := triOf Tryz.func50 fm_data_writer__datum_eq

/-- strings.IndexByte -/
abbrev n_strings_IndexByte : FuncId := 51
theorem cb_strings_IndexByte : callB Tryz.prog 51 = true := by kernel_rfl
/-- (*scrimshaw/lex.lexer).hash -/
abbrev n_lex_lexer__hash : FuncId := 52
def fm_lex_lexer__hash : Fm VE :=
 (.chk [] (.some (.atom 0))
 (.load (.padd (.atom 0) 1) [.int .i64]
 (.load (.padd (.atom 0) 0) [.str]
 (.load (.padd (.atom 0) 1) [.int .i64]
 (.chk [] (.sub (.slen (.atom 2)) (.ar .add .i64 (.atom 3) (.int .i64 1)) (.slen (.atom 2)))
 (.call (.fn 68) [(.sc (.ssub (.atom 2) (.ar .add .i64 (.atom 3) (.int .i64 1)) (.slen (.atom 2)))), (.sc (.str [40]))] (.sc (.bool)) []
 (.ite (.atom 4)
  (.load (.padd (.atom 0) 1) [.int .i64]
  (.store (.padd (.atom 0) 1) [(.ar .add .i64 (.atom 5) (.int .i64 2))]
  (.leaf (.tu [(true, [(.int .i64 2), (.str []), (.int .i64 0), (.int .i64 0), (.int .i64 0)]), (false, [(.int .i64 0)])]))))
  (.chk [((.cmp .gtr (.slen (.ssub (.atom 2) (.ar .add .i64 (.atom 3) (.int .i64 1)) (.slen (.atom 2)))) (.int .i64 1)), true)] (.inStr (.ssub (.atom 2) (.ar .add .i64 (.atom 3) (.int .i64 1)) (.slen (.atom 2))) (.int .i64 0))
  (.ite (.pick (.cmp .gtr (.slen (.ssub (.atom 2) (.ar .add .i64 (.atom 3) (.int .i64 1)) (.slen (.atom 2)))) (.int .i64 1)) (.cmp .eql (.sidx (.ssub (.atom 2) (.ar .add .i64 (.atom 3) (.int .i64 1)) (.slen (.atom 2))) (.int .i64 0)) (.int .u8 92)) (.bool false))
   (.call (.fn 69) [(.sc (.atom 0)), (.sc (.ar .add .i64 (.atom 1) (.int .i64 2)))] (.sc (.str)) []
   (.join 8 [.str]
    (.call (.fn 70) [(.sc (.atom 6))] (.sc (.int .i64)) []
    (.ite (.cmp .lss (.atom 7) (.int .i64 0))
     (.leaf (.tu [(true, [(.int .i64 0), (.str []), (.int .i64 0), (.int .i64 0), (.int .i64 0)]), (false, [(.int .i64 31)])]))
     (.load (.padd (.atom 0) 1) [.int .i64]
     (.store (.padd (.atom 0) 1) [(.ar .add .i64 (.atom 8) (.ar .add .i64 (.int .i64 2) (.slen (.atom 6))))]
     (.leaf (.tu [(true, [(.int .i64 7), (.str []), (.atom 7), (.int .i64 0), (.int .i64 0)]), (false, [(.int .i64 0)])]))))))
    (.ite (.scmp .eql (.atom 5) (.str []))
     (.chk [] (.sub (.slen (.ssub (.atom 2) (.ar .add .i64 (.atom 3) (.int .i64 1)) (.slen (.atom 2)))) (.int .i64 1) (.int .i64 2))
     (.next 8 [(.ssub (.ssub (.atom 2) (.ar .add .i64 (.atom 3) (.int .i64 1)) (.slen (.atom 2))) (.int .i64 1) (.int .i64 2))]))
     (.next 8 [(.atom 5)]))))
   (.call (.fn 69) [(.sc (.atom 0)), (.sc (.ar .add .i64 (.atom 1) (.int .i64 1)))] (.sc (.str)) []
   (.ite (.pick (.scmp .neq (.atom 5) (.str [116])) (.scmp .neq (.atom 5) (.str [102])) (.bool false))
    (.leaf (.tu [(true, [(.int .i64 0), (.str []), (.int .i64 0), (.int .i64 0), (.int .i64 0)]), (false, [(.int .i64 31)])]))
    (.load (.padd (.atom 0) 1) [.int .i64]
    (.store (.padd (.atom 0) 1) [(.ar .add .i64 (.atom 6) (.int .i64 2))]
    (.call (.fn 71) [(.sc (.str [102, 116])), (.sc (.atom 5))] (.sc (.int .i64)) []
    (.leaf (.tu [(true, [(.int .i64 5), (.str []), (.atom 7), (.int .i64 0), (.int .i64 0)]), (false, [(.int .i64 0)])]))))))))))))))))
theorem fm_lex_lexer__hash_eq : execF Tryz.prog { pub := [], nojoin := false } Tryz.f52 = fm_lex_lexer__hash := by kernel_rfl
theorem cb_lex_lexer__hash : callB Tryz.prog 52 = true := by kernel_rfl
theorem tri_lex_lexer__hash : TriOf Tryz.prog 52 Tryz.f52 fm_lex_lexer__hash := triOf Tryz.func52 fm_lex_lexer__hash_eq

/-- (*scrimshaw/lex.lexer).text -/
abbrev n_lex_lexer__text : FuncId := 53
def fm_lex_lexer__text : Fm VE :=
 (.chk [] (.some (.atom 0))
 (.load (.padd (.atom 0) 1) [.int .i64]
 (.loop 4 [.int .i64, .sl, .int .i64, .int .i64, .str, .int .i64, .int .i64, .int .i64] [(.int .i64 0), (.nil 1), (.ar .add .i64 (.atom 1) (.int .i64 1)), (.int .i64 0), (.str []), (.int .i64 0), (.int .i64 0), (.int .i64 0)]
  (.load (.padd (.atom 0) 0) [.str]
  (.ite (.cmp .lss (.atom 4) (.slen (.atom 10)))
   (.join 7 [.sl, .int .i64]
    (.next 4 [(.atom 2), (.atom 11), (.ar .add .i64 (.atom 12) (.int .i64 1)), (.atom 5), (.atom 6), (.atom 7), (.atom 8), (.atom 9)])
    (.load (.padd (.atom 0) 0) [.str]
    (.chk [] (.inStr (.atom 11) (.atom 4))
    (.ite (.cmp .eql (.sidx (.atom 11) (.atom 4)) (.int .u8 34))
     (.store (.padd (.atom 0) 1) [(.ar .add .i64 (.atom 4) (.int .i64 1))]
     (.sem (.convert 39 9 (.tmp 41)) 9 [(41, (.sc (.atom 3)))] (.sc (.str)) []
     (.leaf (.tu [(true, [(.int .i64 8), (.atom 12), (.int .i64 0), (.int .i64 0), (.int .i64 0)]), (false, [(.int .i64 0)])]))))
     (.ite (.cmp .eql (.sidx (.atom 11) (.atom 4)) (.int .u8 92))
      (.load (.padd (.atom 0) 0) [.str]
      (.chk [] (.sub (.slen (.atom 12)) (.ar .add .i64 (.atom 4) (.int .i64 1)) (.slen (.atom 12)))
      (.call (.fn 72) [(.sc (.ssub (.atom 12) (.ar .add .i64 (.atom 4) (.int .i64 1)) (.slen (.atom 12))))] (.tu [(false, [.int .u8]), (false, [.int .i64])]) []
      (.ite (.cmp .eql (.atom 14) (.int .i64 0))
       (.leaf (.tu [(true, [(.int .i64 0), (.str []), (.int .i64 0), (.int .i64 0), (.int .i64 0)]), (false, [(.int .i64 32)])]))
       (.sem (.buildSlice 39 1 #[(0, (.tmp 61))]) 39 [(61, (.sc (.atom 13)))] (.sc (.sl)) []
       (.sem (.call ⟨.builtin .append, #[(.tmp 60), (.tmp 62)], #[39, 39]⟩) 39 [(60, (.sc (.atom 3))), (62, (.sc (.atom 15)))] (.sc (.sl)) []
       (.next 7 [(.atom 16), (.ar .add .i64 (.atom 4) (.atom 14))])))))))
      (.sem (.buildSlice 39 1 #[(0, (.tmp 31))]) 39 [(31, (.sc (.sidx (.atom 11) (.atom 4))))] (.sc (.sl)) []
      (.sem (.call ⟨.builtin .append, #[(.tmp 30), (.tmp 32)], #[39, 39]⟩) 39 [(30, (.sc (.atom 3))), (32, (.sc (.atom 12)))] (.sc (.sl)) []
      (.next 7 [(.atom 13), (.atom 4)]))))))))
   (.leaf (.tu [(true, [(.int .i64 0), (.str []), (.int .i64 0), (.int .i64 0), (.int .i64 0)]), (false, [(.int .i64 32)])])))))))
theorem fm_lex_lexer__text_eq : execF Tryz.prog { pub := [], nojoin := false } Tryz.f53 = fm_lex_lexer__text := by kernel_rfl
theorem cb_lex_lexer__text : callB Tryz.prog 53 = true := by kernel_rfl
theorem tri_lex_lexer__text : TriOf Tryz.prog 53 Tryz.f53 fm_lex_lexer__text := triOf Tryz.func53 fm_lex_lexer__text_eq

/-- (*scrimshaw/lex.lexer).plain -/
abbrev n_lex_lexer__plain : FuncId := 54
def fm_lex_lexer__plain : Fm VE :=
 (.chk [] (.some (.atom 0))
 (.load (.padd (.atom 0) 1) [.int .i64]
 (.call (.fn 69) [(.sc (.atom 0)), (.sc (.atom 1))] (.sc (.str)) []
 (.load (.padd (.atom 0) 1) [.int .i64]
 (.store (.padd (.atom 0) 1) [(.ar .add .i64 (.atom 3) (.slen (.atom 2)))]
 (.ite (.scmp .eql (.atom 2) (.str []))
  (.leaf (.tu [(true, [(.int .i64 0), (.str []), (.int .i64 0), (.int .i64 0), (.int .i64 0)]), (false, [(.int .i64 30)])]))
  (.ite (.scmp .eql (.atom 2) (.str [46]))
   (.leaf (.tu [(true, [(.int .i64 4), (.str []), (.int .i64 0), (.int .i64 0), (.int .i64 0)]), (false, [(.int .i64 0)])]))
   (.join 8 [.bool]
    (.ite (.atom 4)
     (.call (.fn 74) [(.sc (.atom 2))] (.tu [(false, [.int .i64]), (false, [.any])]) []
     (.sem (.binOp .neq 104 (.tmp 58) (.const .nilIface) 104) 4 [(58, (.sc (.atom 6)))] (.sc (.bool)) []
     (.ite (.pick (.pick (.atom 7) (.bool true) (.cmp .gtr (.atom 5) (.int .i64 1152921504606846975))) (.bool true) (.cmp .lss (.atom 5) (.int .i64 (-1152921504606846976))))
      (.leaf (.tu [(true, [(.int .i64 0), (.str []), (.int .i64 0), (.int .i64 0), (.int .i64 0)]), (false, [(.int .i64 33)])]))
      (.leaf (.tu [(true, [(.int .i64 6), (.str []), (.atom 5), (.int .i64 0), (.int .i64 0)]), (false, [(.int .i64 0)])])))))
     (.ite (.cmp .gtr (.slen (.atom 2)) (.int .i64 64))
      (.leaf (.tu [(true, [(.int .i64 0), (.str []), (.int .i64 0), (.int .i64 0), (.int .i64 0)]), (false, [(.int .i64 36)])]))
      (.leaf (.tu [(true, [(.int .i64 9), (.atom 2), (.int .i64 0), (.int .i64 0), (.int .i64 0)]), (false, [(.int .i64 0)])]))))
    (.chk [] (.sub (.slen (.atom 2)) (.int .i64 1) (.slen (.atom 2)))
    (.call (.fn 73) [(.sc (.ssub (.atom 2) (.int .i64 1) (.slen (.atom 2)))), (.sc (.str [48, 49, 50, 51, 52, 53, 54, 55, 56, 57]))] (.sc (.str)) []
    (.chk [((.scmp .eql (.atom 4) (.str [])), true), ((.cmp .gtr (.slen (.atom 2)) (.int .i64 1)), false)] (.inStr (.atom 2) (.int .i64 0))
    (.chk [((.scmp .eql (.atom 4) (.str [])), true), ((.cmp .gtr (.slen (.atom 2)) (.int .i64 1)), false), ((.cmp .geq (.sidx (.atom 2) (.int .i64 0)) (.int .u8 48)), true)] (.inStr (.atom 2) (.int .i64 0))
    (.chk [((.pick (.scmp .eql (.atom 4) (.str [])) (.pick (.cmp .gtr (.slen (.atom 2)) (.int .i64 1)) (.bool true) (.pick (.cmp .geq (.sidx (.atom 2) (.int .i64 0)) (.int .u8 48)) (.cmp .leq (.sidx (.atom 2) (.int .i64 0)) (.int .u8 57)) (.bool false))) (.bool false)), true)] (.inStr (.atom 2) (.int .i64 0))
    (.ite (.pick (.scmp .eql (.atom 4) (.str [])) (.pick (.cmp .gtr (.slen (.atom 2)) (.int .i64 1)) (.bool true) (.pick (.cmp .geq (.sidx (.atom 2) (.int .i64 0)) (.int .u8 48)) (.cmp .leq (.sidx (.atom 2) (.int .i64 0)) (.int .u8 57)) (.bool false))) (.bool false))
     (.call (.fn 51) [(.sc (.str [43, 45, 48, 49, 50, 51, 52, 53, 54, 55, 56, 57])), (.sc (.sidx (.atom 2) (.int .i64 0)))] (.sc (.int .i64)) []
     (.next 8 [(.cmp .geq (.atom 5) (.int .i64 0))]))
     (.next 8 [(.bool false)])))))))))))))))
theorem fm_lex_lexer__plain_eq : execF Tryz.prog { pub := [], nojoin := false } Tryz.f54 = fm_lex_lexer__plain := by kernel_rfl
theorem cb_lex_lexer__plain : callB Tryz.prog 54 = true := by kernel_rfl
theorem tri_lex_lexer__plain : TriOf Tryz.prog 54 Tryz.f54 fm_lex_lexer__plain := triOf Tryz.func54 fm_lex_lexer__plain_eq

/-- scrimshaw/data.Name -/
abbrev n_data_Name : FuncId := 59
def fm_data_Name : Fm VE :=
 (.loop 3 [.bool, .int .i64] [(.bool false), (.int .i64 0)]
  (.ite (.cmp .lss (.atom 2) (.slen (.atom 0)))
   (.chk [] (.inStr (.atom 0) (.atom 2))
   (.call (.fn 79) [(.sc (.sidx (.atom 0) (.atom 2)))] (.sc (.bool)) []
   (.ite (.not (.atom 3))
    (.leaf (.sc (.bool false)))
    (.next 3 [(.atom 1), (.ar .add .i64 (.atom 2) (.int .i64 1))]))))
   (.join 6 [.bool]
    (.leaf (.sc (.atom 3)))
    (.ite (.pick (.pick (.scmp .neq (.atom 0) (.str [])) (.cmp .leq (.slen (.atom 0)) (.int .i64 64)) (.bool false)) (.scmp .neq (.atom 0) (.str [46])) (.bool false))
     (.call (.fn 80) [(.sc (.atom 0))] (.sc (.bool)) []
     (.next 6 [(.not (.atom 3))]))
     (.next 6 [(.bool false)])))))
theorem fm_data_Name_eq : execF Tryz.prog { pub := [], nojoin := false } Tryz.f59 = fm_data_Name := by kernel_rfl
theorem cb_data_Name : callB Tryz.prog 59 = true := by kernel_rfl
theorem tri_data_Name : TriOf Tryz.prog 59 Tryz.f59 fm_data_Name := triOf Tryz.func59 fm_data_Name_eq

/-- scrimshaw/scrimshawref02.Nested -/
abbrev n_scrimshawref02_Nested : FuncId := 60
def fm_scrimshawref02_Nested : Fm VE :=
 (.leaf (.sc (.pick (.pick (.cmp .eql (.atom 0) (.int .i64 5)) (.bool true) (.cmp .eql (.atom 0) (.int .i64 6))) (.bool true) (.cmp .eql (.atom 0) (.int .i64 7)))))
theorem fm_scrimshawref02_Nested_eq : execF Tryz.prog { pub := [], nojoin := false } Tryz.f60 = fm_scrimshawref02_Nested := by kernel_rfl
theorem cb_scrimshawref02_Nested : callB Tryz.prog 60 = true := by kernel_rfl
theorem tri_scrimshawref02_Nested : TriOf Tryz.prog 60 Tryz.f60 fm_scrimshawref02_Nested := triOf Tryz.func60 fm_scrimshawref02_Nested_eq

/-- scrimshaw/scrimshawref02.form -/
abbrev n_scrimshawref02_form : FuncId := 61
def fm_scrimshawref02_form : Fm VE :=
 (.ite (.cmp .eql (.atom 0) (.int .i64 0))
  (.leaf (.sc (.pick (.pick (.scmp .eql (.atom 2) (.str [])) (.cmp .eql (.len (.atom 3)) (.int .i64 0)) (.bool false)) (.pick (.cmp .eql (.atom 1) (.int .i64 0)) (.bool true) (.cmp .eql (.atom 1) (.int .i64 1))) (.bool false))))
  (.ite (.cmp .eql (.atom 0) (.int .i64 1))
   (.leaf (.sc (.pick (.pick (.pick (.scmp .eql (.atom 2) (.str [])) (.cmp .eql (.len (.atom 3)) (.int .i64 0)) (.bool false)) (.cmp .geq (.atom 1) (.int .i64 (-1152921504606846976))) (.bool false)) (.cmp .lss (.atom 1) (.int .i64 1152921504606846976)) (.bool false))))
   (.ite (.cmp .eql (.atom 0) (.int .i64 2))
    (.leaf (.sc (.pick (.pick (.pick (.scmp .eql (.atom 2) (.str [])) (.cmp .eql (.len (.atom 3)) (.int .i64 0)) (.bool false)) (.cmp .geq (.atom 1) (.int .i64 0)) (.bool false)) (.cmp .leq (.atom 1) (.int .i64 255)) (.bool false))))
    (.ite (.cmp .eql (.atom 0) (.int .i64 3))
     (.leaf (.sc (.pick (.pick (.cmp .eql (.atom 1) (.int .i64 0)) (.cmp .eql (.len (.atom 3)) (.int .i64 0)) (.bool false)) (.cmp .leq (.slen (.atom 2)) (.int .i64 4096)) (.bool false))))
     (.ite (.cmp .eql (.atom 0) (.int .i64 4))
      (.join 10 [.bool]
       (.leaf (.sc (.atom 4)))
       (.ite (.pick (.cmp .eql (.atom 1) (.int .i64 0)) (.cmp .eql (.len (.atom 3)) (.int .i64 0)) (.bool false))
        (.call (.fn 81) [(.sc (.atom 2))] (.sc (.bool)) []
        (.next 10 [(.atom 4)]))
        (.next 10 [(.bool false)])))
      (.ite (.pick (.cmp .eql (.atom 0) (.int .i64 5)) (.cmp .eql (.atom 0) (.int .i64 5)) (.cmp .eql (.atom 0) (.int .i64 7)))
       (.leaf (.sc (.pick (.cmp .eql (.atom 1) (.int .i64 0)) (.scmp .eql (.atom 2) (.str [])) (.bool false))))
       (.ite (.cmp .eql (.atom 0) (.int .i64 6))
        (.join 14 [.bool]
         (.leaf (.sc (.atom 4)))
         (.chk [((.pick (.pick (.cmp .eql (.atom 1) (.int .i64 0)) (.scmp .eql (.atom 2) (.str [])) (.bool false)) (.cmp .geq (.len (.atom 3)) (.int .i64 2)) (.bool false)), true)] (.inSl (.atom 3) (.ar .sub .i64 (.len (.atom 3)) (.int .i64 1)))
         (.chk [((.pick (.pick (.cmp .eql (.atom 1) (.int .i64 0)) (.scmp .eql (.atom 2) (.str [])) (.bool false)) (.cmp .geq (.len (.atom 3)) (.int .i64 2)) (.bool false)), true)] (.some (.elt (.atom 3) (.ar .sub .i64 (.len (.atom 3)) (.int .i64 1)) 4))
         (.ite (.pick (.pick (.cmp .eql (.atom 1) (.int .i64 0)) (.scmp .eql (.atom 2) (.str [])) (.bool false)) (.cmp .geq (.len (.atom 3)) (.int .i64 2)) (.bool false))
          (.load (.padd (.elt (.atom 3) (.ar .sub .i64 (.len (.atom 3)) (.int .i64 1)) 4) 0) [.int .i64]
          (.chk [((.cmp .neq (.atom 4) (.int .i64 5)), true)] (.inSl (.atom 3) (.ar .sub .i64 (.len (.atom 3)) (.int .i64 1)))
          (.chk [((.cmp .neq (.atom 4) (.int .i64 5)), true)] (.some (.elt (.atom 3) (.ar .sub .i64 (.len (.atom 3)) (.int .i64 1)) 4))
          (.ite (.cmp .neq (.atom 4) (.int .i64 5))
           (.load (.padd (.elt (.atom 3) (.ar .sub .i64 (.len (.atom 3)) (.int .i64 1)) 4) 0) [.int .i64]
           (.next 14 [(.cmp .neq (.atom 5) (.int .i64 6))]))
           (.next 14 [(.bool false)])))))
          (.next 14 [(.bool false)])))))
        (.leaf (.sc (.bool false))))))))))
theorem fm_scrimshawref02_form_eq : execF Tryz.prog { pub := [], nojoin := false } Tryz.f61 = fm_scrimshawref02_form := by kernel_rfl
theorem cb_scrimshawref02_form : callB Tryz.prog 61 = true := by kernel_rfl
theorem tri_scrimshawref02_form : TriOf Tryz.prog 61 Tryz.f61 fm_scrimshawref02_form := triOf Tryz.func61 fm_scrimshawref02_form_eq

/-- scrimshaw/scrimshawref02.Two -/
abbrev n_scrimshawref02_Two : FuncId := 62
def fm_scrimshawref02_Two : Fm VE :=
 (.chk [] (.sub (.slen (.str [48, 49, 50, 51, 52, 53, 54, 55, 56, 57, 97, 98, 99, 100, 101, 102])) (.ar .quo .u8 (.atom 0) (.int .u8 16)) (.ar .add .u8 (.ar .quo .u8 (.atom 0) (.int .u8 16)) (.int .u8 1)))
 (.chk [] (.sub (.slen (.str [48, 49, 50, 51, 52, 53, 54, 55, 56, 57, 97, 98, 99, 100, 101, 102])) (.ar .rem .u8 (.atom 0) (.int .u8 16)) (.ar .add .u8 (.ar .rem .u8 (.atom 0) (.int .u8 16)) (.int .u8 1)))
 (.chk [] (.catOk (.ssub (.str [48, 49, 50, 51, 52, 53, 54, 55, 56, 57, 97, 98, 99, 100, 101, 102]) (.ar .quo .u8 (.atom 0) (.int .u8 16)) (.ar .add .u8 (.ar .quo .u8 (.atom 0) (.int .u8 16)) (.int .u8 1))) (.ssub (.str [48, 49, 50, 51, 52, 53, 54, 55, 56, 57, 97, 98, 99, 100, 101, 102]) (.ar .rem .u8 (.atom 0) (.int .u8 16)) (.ar .add .u8 (.ar .rem .u8 (.atom 0) (.int .u8 16)) (.int .u8 1))))
 (.leaf (.sc (.cat (.ssub (.str [48, 49, 50, 51, 52, 53, 54, 55, 56, 57, 97, 98, 99, 100, 101, 102]) (.ar .quo .u8 (.atom 0) (.int .u8 16)) (.ar .add .u8 (.ar .quo .u8 (.atom 0) (.int .u8 16)) (.int .u8 1))) (.ssub (.str [48, 49, 50, 51, 52, 53, 54, 55, 56, 57, 97, 98, 99, 100, 101, 102]) (.ar .rem .u8 (.atom 0) (.int .u8 16)) (.ar .add .u8 (.ar .rem .u8 (.atom 0) (.int .u8 16)) (.int .u8 1)))))))))
theorem fm_scrimshawref02_Two_eq : execF Tryz.prog { pub := [], nojoin := false } Tryz.f62 = fm_scrimshawref02_Two := by kernel_rfl
theorem cb_scrimshawref02_Two : callB Tryz.prog 62 = true := by kernel_rfl
theorem tri_scrimshawref02_Two : TriOf Tryz.prog 62 Tryz.f62 fm_scrimshawref02_Two := triOf Tryz.func62 fm_scrimshawref02_Two_eq

/-- strconv.AppendInt -/
abbrev n_strconv_AppendInt : FuncId := 63
def fm_strconv_AppendInt : Fm VE :=
 (.call (.fn 82) [(.sc (.atom 0)), (.sc (.atom 1)), (.sc (.atom 2))] (.sc (.sl)) []
 (.leaf (.sc (.atom 3))))
theorem fm_strconv_AppendInt_eq : execF Tryz.prog { pub := [], nojoin := false } Tryz.f63 = fm_strconv_AppendInt := by kernel_rfl
theorem cb_strconv_AppendInt : callB Tryz.prog 63 = true := by kernel_rfl
theorem tri_strconv_AppendInt : TriOf Tryz.prog 63 Tryz.f63 fm_strconv_AppendInt := triOf Tryz.func63 fm_strconv_AppendInt_eq

/-- (*scrimshaw/data.writer).char -/
abbrev n_data_writer__char : FuncId := 64
def fm_data_writer__char : Fm VE :=
 (.chk [] (.some (.atom 0))
 (.load (.padd (.atom 0) 1) [.bool]
 (.ite (.atom 2)
  (.load (.padd (.atom 0) 0) [.sl]
  (.sem (.buildSlice 39 1 #[(0, (.tmp 29))]) 39 [(29, (.sc (.atom 1)))] (.sc (.sl)) []
  (.sem (.call ⟨.builtin .append, #[(.tmp 28), (.tmp 30)], #[39, 39]⟩) 39 [(28, (.sc (.atom 3))), (30, (.sc (.atom 4)))] (.sc (.sl)) []
  (.store (.padd (.atom 0) 0) [(.atom 5)]
  (.leaf (.tu []))))))
  (.ite (.cmp .eql (.atom 1) (.int .u8 32))
   (.load (.padd (.atom 0) 0) [.sl]
   (.sem (.call ⟨.builtin .append, #[(.tmp 41), (.const (.string ⟨#[35, 92, 115, 112, 97, 99, 101]⟩))], #[39, 9]⟩) 39 [(41, (.sc (.atom 3)))] (.sc (.sl)) []
   (.store (.padd (.atom 0) 0) [(.atom 4)]
   (.leaf (.tu [])))))
   (.ite (.cmp .eql (.atom 1) (.int .u8 10))
    (.load (.padd (.atom 0) 0) [.sl]
    (.sem (.call ⟨.builtin .append, #[(.tmp 52), (.const (.string ⟨#[35, 92, 110, 101, 119, 108, 105, 110, 101]⟩))], #[39, 9]⟩) 39 [(52, (.sc (.atom 3)))] (.sc (.sl)) []
    (.store (.padd (.atom 0) 0) [(.atom 4)]
    (.leaf (.tu [])))))
    (.ite (.pick (.cmp .gtr (.atom 1) (.int .u8 32)) (.cmp .lss (.atom 1) (.int .u8 127)) (.bool false))
     (.load (.padd (.atom 0) 0) [.sl]
     (.sem (.buildSlice 39 3 #[(0, (.const (.int .u8 35))), (1, (.const (.int .u8 92))), (2, (.tmp 68))]) 39 [(68, (.sc (.atom 1)))] (.sc (.sl)) []
     (.sem (.call ⟨.builtin .append, #[(.tmp 67), (.tmp 69)], #[39, 39]⟩) 39 [(67, (.sc (.atom 3))), (69, (.sc (.atom 4)))] (.sc (.sl)) []
     (.store (.padd (.atom 0) 0) [(.atom 5)]
     (.leaf (.tu []))))))
     (.load (.padd (.atom 0) 0) [.sl]
     (.chk [] (.inStr (.str [48, 49, 50, 51, 52, 53, 54, 55, 56, 57, 97, 98, 99, 100, 101, 102]) (.ar .shr .u8 (.atom 1) (.int .u64 4)))
     (.chk [] (.inStr (.str [48, 49, 50, 51, 52, 53, 54, 55, 56, 57, 97, 98, 99, 100, 101, 102]) (.ar .and .u8 (.atom 1) (.int .u8 15)))
     (.sem (.buildSlice 39 5 #[(0, (.const (.int .u8 35))), (1, (.const (.int .u8 92))), (2, (.const (.int .u8 120))), (3, (.tmp 11)), (4, (.tmp 14))]) 39 [(11, (.sc (.sidx (.str [48, 49, 50, 51, 52, 53, 54, 55, 56, 57, 97, 98, 99, 100, 101, 102]) (.ar .shr .u8 (.atom 1) (.int .u64 4))))), (14, (.sc (.sidx (.str [48, 49, 50, 51, 52, 53, 54, 55, 56, 57, 97, 98, 99, 100, 101, 102]) (.ar .and .u8 (.atom 1) (.int .u8 15)))))] (.sc (.sl)) [((.padd (.atom 0) 0), [(.atom 3)])]
     (.sem (.call ⟨.builtin .append, #[(.tmp 8), (.tmp 15)], #[39, 39]⟩) 39 [(8, (.sc (.atom 3))), (15, (.sc (.atom 4)))] (.sc (.sl)) []
     (.store (.padd (.atom 0) 0) [(.atom 5)]
     (.leaf (.tu []))))))))))))))
theorem fm_data_writer__char_eq : execF Tryz.prog { pub := [], nojoin := false } Tryz.f64 = fm_data_writer__char := by kernel_rfl
theorem cb_data_writer__char : callB Tryz.prog 64 = true := by kernel_rfl
theorem tri_data_writer__char : TriOf Tryz.prog 64 Tryz.f64 fm_data_writer__char := triOf Tryz.func64 fm_data_writer__char_eq

/-- (*scrimshaw/data.writer).text -/
abbrev n_data_writer__text : FuncId := 65
def fm_data_writer__text : Fm VE :=
 (.chk [] (.some (.atom 0))
 (.load (.padd (.atom 0) 1) [.bool]
 (.ite (.atom 2)
  (.load (.padd (.atom 0) 0) [.sl]
  (.sem (.call ⟨.builtin .append, #[(.tmp 14), (.tmp 15)], #[39, 9]⟩) 39 [(14, (.sc (.atom 3))), (15, (.sc (.atom 1)))] (.sc (.sl)) []
  (.store (.padd (.atom 0) 0) [(.atom 4)]
  (.leaf (.tu [])))))
  (.load (.padd (.atom 0) 0) [.sl]
  (.sem (.buildSlice 39 1 #[(0, (.const (.int .u8 34)))]) 39 [] (.sc (.sl)) []
  (.sem (.call ⟨.builtin .append, #[(.tmp 23), (.tmp 24)], #[39, 39]⟩) 39 [(23, (.sc (.atom 3))), (24, (.sc (.atom 4)))] (.sc (.sl)) []
  (.store (.padd (.atom 0) 0) [(.atom 5)]
  (.loop 5 [.int .i64] [(.int .i64 0)]
   (.ite (.cmp .lss (.atom 6) (.slen (.atom 1)))
    (.join 8 []
     (.next 5 [(.ar .add .i64 (.atom 6) (.int .i64 1))])
     (.chk [] (.inStr (.atom 1) (.atom 6))
     (.ite (.pick (.cmp .eql (.sidx (.atom 1) (.atom 6)) (.int .u8 34)) (.bool true) (.cmp .eql (.sidx (.atom 1) (.atom 6)) (.int .u8 92)))
      (.load (.padd (.atom 0) 0) [.sl]
      (.sem (.buildSlice 39 2 #[(0, (.const (.int .u8 92))), (1, (.tmp 58))]) 39 [(58, (.sc (.sidx (.atom 1) (.atom 6))))] (.sc (.sl)) []
      (.sem (.call ⟨.builtin .append, #[(.tmp 57), (.tmp 59)], #[39, 39]⟩) 39 [(57, (.sc (.atom 7))), (59, (.sc (.atom 8)))] (.sc (.sl)) []
      (.store (.padd (.atom 0) 0) [(.atom 9)]
      (.next 8 [])))))
      (.ite (.cmp .eql (.sidx (.atom 1) (.atom 6)) (.int .u8 10))
       (.load (.padd (.atom 0) 0) [.sl]
       (.sem (.buildSlice 39 2 #[(0, (.const (.int .u8 92))), (1, (.const (.int .u8 110)))]) 39 [] (.sc (.sl)) []
       (.sem (.call ⟨.builtin .append, #[(.tmp 70), (.tmp 71)], #[39, 39]⟩) 39 [(70, (.sc (.atom 7))), (71, (.sc (.atom 8)))] (.sc (.sl)) []
       (.store (.padd (.atom 0) 0) [(.atom 9)]
       (.next 8 [])))))
       (.ite (.pick (.cmp .lss (.sidx (.atom 1) (.atom 6)) (.int .u8 32)) (.bool true) (.cmp .gtr (.sidx (.atom 1) (.atom 6)) (.int .u8 126)))
        (.load (.padd (.atom 0) 0) [.sl]
        (.chk [] (.inStr (.str [48, 49, 50, 51, 52, 53, 54, 55, 56, 57, 97, 98, 99, 100, 101, 102]) (.ar .shr .u8 (.sidx (.atom 1) (.atom 6)) (.int .u64 4)))
        (.chk [] (.inStr (.str [48, 49, 50, 51, 52, 53, 54, 55, 56, 57, 97, 98, 99, 100, 101, 102]) (.ar .and .u8 (.sidx (.atom 1) (.atom 6)) (.int .u8 15)))
        (.sem (.buildSlice 39 4 #[(0, (.const (.int .u8 92))), (1, (.const (.int .u8 120))), (2, (.tmp 89)), (3, (.tmp 92))]) 39 [(89, (.sc (.sidx (.str [48, 49, 50, 51, 52, 53, 54, 55, 56, 57, 97, 98, 99, 100, 101, 102]) (.ar .shr .u8 (.sidx (.atom 1) (.atom 6)) (.int .u64 4))))), (92, (.sc (.sidx (.str [48, 49, 50, 51, 52, 53, 54, 55, 56, 57, 97, 98, 99, 100, 101, 102]) (.ar .and .u8 (.sidx (.atom 1) (.atom 6)) (.int .u8 15)))))] (.sc (.sl)) [((.padd (.atom 0) 0), [(.atom 7)])]
        (.sem (.call ⟨.builtin .append, #[(.tmp 86), (.tmp 93)], #[39, 39]⟩) 39 [(86, (.sc (.atom 7))), (93, (.sc (.atom 8)))] (.sc (.sl)) []
        (.store (.padd (.atom 0) 0) [(.atom 9)]
        (.next 8 [])))))))
        (.load (.padd (.atom 0) 0) [.sl]
        (.sem (.buildSlice 39 1 #[(0, (.tmp 41))]) 39 [(41, (.sc (.sidx (.atom 1) (.atom 6))))] (.sc (.sl)) []
        (.sem (.call ⟨.builtin .append, #[(.tmp 40), (.tmp 42)], #[39, 39]⟩) 39 [(40, (.sc (.atom 7))), (42, (.sc (.atom 8)))] (.sc (.sl)) []
        (.store (.padd (.atom 0) 0) [(.atom 9)]
        (.next 8 []))))))))))
    (.load (.padd (.atom 0) 0) [.sl]
    (.sem (.buildSlice 39 1 #[(0, (.const (.int .u8 34)))]) 39 [] (.sc (.sl)) []
    (.sem (.call ⟨.builtin .append, #[(.tmp 102), (.tmp 103)], #[39, 39]⟩) 39 [(102, (.sc (.atom 7))), (103, (.sc (.atom 8)))] (.sc (.sl)) []
    (.store (.padd (.atom 0) 0) [(.atom 9)]
    (.leaf (.tu [])))))))))))))))
theorem fm_data_writer__text_eq : execF Tryz.prog { pub := [], nojoin := false } Tryz.f65 = fm_data_writer__text := by kernel_rfl
theorem cb_data_writer__text : callB Tryz.prog 65 = true := by kernel_rfl
theorem tri_data_writer__text : TriOf Tryz.prog 65 Tryz.f65 fm_data_writer__text := triOf Tryz.func65 fm_data_writer__text_eq

/-- (*scrimshaw/data.writer).items -/
abbrev n_data_writer__items : FuncId := 66
def fm_data_writer__items : Fm VE :=
 (.chk [] (.some (.atom 0))
 (.load (.padd (.atom 0) 0) [.sl]
 (.sem (.buildSlice 39 1 #[(0, (.const (.int .u8 40)))]) 39 [] (.sc (.sl)) []
 (.sem (.call ⟨.builtin .append, #[(.tmp 10), (.tmp 11)], #[39, 39]⟩) 39 [(10, (.sc (.atom 5))), (11, (.sc (.atom 6)))] (.sc (.sl)) []
 (.store (.padd (.atom 0) 0) [(.atom 7)]
 (.loop 4 [.int .i64] [(.int .i64 0)]
  (.ite (.cmp .lss (.atom 8) (.len (.atom 4)))
   (.chk [] (.inSl (.atom 4) (.atom 8))
   (.load (.elt (.atom 4) (.atom 8) 4) [.int .i64, .int .i64, .str, .sl]
   (.join 9 []
    (.call (.fn 50) [(.sc (.atom 0)), (.ag [(.atom 9), (.atom 10), (.atom 11), (.atom 12)])] (.tu []) []
    (.next 4 [(.ar .add .i64 (.atom 8) (.int .i64 1))]))
    (.ite (.cmp .gtr (.atom 8) (.int .i64 0))
     (.load (.padd (.atom 0) 0) [.sl]
     (.sem (.buildSlice 39 1 #[(0, (.const (.int .u8 32)))]) 39 [] (.sc (.sl)) []
     (.sem (.call ⟨.builtin .append, #[(.tmp 29), (.tmp 30)], #[39, 39]⟩) 39 [(29, (.sc (.atom 13))), (30, (.sc (.atom 14)))] (.sc (.sl)) []
     (.store (.padd (.atom 0) 0) [(.atom 15)]
     (.ite (.pick (.cmp .eql (.atom 1) (.int .i64 6)) (.cmp .eql (.atom 8) (.ar .sub .i64 (.len (.atom 4)) (.int .i64 1))) (.bool false))
      (.load (.padd (.atom 0) 0) [.sl]
      (.sem (.buildSlice 39 2 #[(0, (.const (.int .u8 46))), (1, (.const (.int .u8 32)))]) 39 [] (.sc (.sl)) []
      (.sem (.call ⟨.builtin .append, #[(.tmp 49), (.tmp 50)], #[39, 39]⟩) 39 [(49, (.sc (.atom 16))), (50, (.sc (.atom 17)))] (.sc (.sl)) []
      (.store (.padd (.atom 0) 0) [(.atom 18)]
      (.next 9 [])))))
      (.next 9 []))))))
     (.next 9 [])))))
   (.load (.padd (.atom 0) 0) [.sl]
   (.sem (.buildSlice 39 1 #[(0, (.const (.int .u8 41)))]) 39 [] (.sc (.sl)) []
   (.sem (.call ⟨.builtin .append, #[(.tmp 62), (.tmp 63)], #[39, 39]⟩) 39 [(62, (.sc (.atom 9))), (63, (.sc (.atom 10)))] (.sc (.sl)) []
   (.store (.padd (.atom 0) 0) [(.atom 11)]
   (.leaf (.tu [])))))))))))))
theorem fm_data_writer__items_eq : execF Tryz.prog { pub := [], nojoin := false } Tryz.f66 = fm_data_writer__items := by kernel_rfl
theorem cb_data_writer__items : callB Tryz.prog 66 = true := by kernel_rfl
theorem tri_data_writer__items : TriOf Tryz.prog 66 Tryz.f66 fm_data_writer__items := triOf Tryz.func66 fm_data_writer__items_eq

/-- (*scrimshaw/lex.lexer).word -/
abbrev n_lex_lexer__word : FuncId := 69
def fm_lex_lexer__word : Fm VE :=
 (.loop 3 [.int .i64] [(.atom 1)]
  (.join 5 [.bool]
   (.ite (.atom 3)
    (.next 3 [(.ar .add .i64 (.atom 2) (.int .i64 1))])
    (.chk [] (.some (.atom 0))
    (.load (.padd (.atom 0) 0) [.str]
    (.chk [] (.sub (.slen (.atom 4)) (.atom 1) (.atom 2))
    (.leaf (.sc (.ssub (.atom 4) (.atom 1) (.atom 2))))))))
   (.chk [] (.some (.atom 0))
   (.load (.padd (.atom 0) 0) [.str]
   (.ite (.cmp .lss (.atom 2) (.slen (.atom 3)))
    (.load (.padd (.atom 0) 0) [.str]
    (.chk [] (.inStr (.atom 4) (.atom 2))
    (.call (.fn 85) [(.sc (.sidx (.atom 4) (.atom 2)))] (.sc (.bool)) []
    (.next 5 [(.atom 5)]))))
    (.next 5 [(.bool false)]))))))
theorem fm_lex_lexer__word_eq : execF Tryz.prog { pub := [], nojoin := false } Tryz.f69 = fm_lex_lexer__word := by kernel_rfl
theorem cb_lex_lexer__word : callB Tryz.prog 69 = true := by kernel_rfl
theorem tri_lex_lexer__word : TriOf Tryz.prog 69 Tryz.f69 fm_lex_lexer__word := triOf Tryz.func69 fm_lex_lexer__word_eq

/-- scrimshaw/lex.char -/
abbrev n_lex_char : FuncId := 70
def fm_lex_char : Fm VE :=
 (.ite (.cmp .eql (.slen (.atom 0)) (.int .i64 1))
  (.chk [] (.inStr (.atom 0) (.int .i64 0))
  (.leaf (.sc (.conv .i64 (.sidx (.atom 0) (.int .i64 0))))))
  (.ite (.scmp .eql (.atom 0) (.str [115, 112, 97, 99, 101]))
   (.leaf (.sc (.int .i64 32)))
   (.ite (.scmp .eql (.atom 0) (.str [110, 101, 119, 108, 105, 110, 101]))
    (.leaf (.sc (.int .i64 10)))
    (.chk [((.cmp .eql (.slen (.atom 0)) (.int .i64 3)), true)] (.inStr (.atom 0) (.int .i64 0))
    (.ite (.pick (.cmp .eql (.slen (.atom 0)) (.int .i64 3)) (.cmp .eql (.sidx (.atom 0) (.int .i64 0)) (.int .u8 120)) (.bool false))
     (.chk [] (.sub (.slen (.atom 0)) (.int .i64 1) (.slen (.atom 0)))
     (.call (.fn 86) [(.sc (.ssub (.atom 0) (.int .i64 1) (.slen (.atom 0))))] (.sc (.int .i64)) []
     (.leaf (.sc (.atom 1)))))
     (.leaf (.sc (.int .i64 (-1)))))))))
theorem fm_lex_char_eq : execF Tryz.prog { pub := [], nojoin := false } Tryz.f70 = fm_lex_char := by kernel_rfl
theorem cb_lex_char : callB Tryz.prog 70 = true := by kernel_rfl
theorem tri_lex_char : TriOf Tryz.prog 70 Tryz.f70 fm_lex_char := triOf Tryz.func70 fm_lex_char_eq

/-- scrimshaw/lex.escape -/
abbrev n_lex_escape : FuncId := 72
def fm_lex_escape : Fm VE :=
 (.ite (.scmp .eql (.atom 0) (.str []))
  (.leaf (.tu [(false, [(.int .u8 0)]), (false, [(.int .i64 0)])]))
  (.join 3 []
   (.leaf (.tu [(false, [(.int .u8 0)]), (false, [(.int .i64 0)])]))
   (.chk [] (.inStr (.atom 0) (.int .i64 0))
   (.ite (.pick (.cmp .eql (.sidx (.atom 0) (.int .i64 0)) (.int .u8 34)) (.cmp .eql (.sidx (.atom 0) (.int .i64 0)) (.int .u8 34)) (.cmp .eql (.sidx (.atom 0) (.int .i64 0)) (.int .u8 92)))
    (.chk [] (.inStr (.atom 0) (.int .i64 0))
    (.leaf (.tu [(false, [(.sidx (.atom 0) (.int .i64 0))]), (false, [(.int .i64 1)])])))
    (.ite (.cmp .eql (.sidx (.atom 0) (.int .i64 0)) (.int .u8 110))
     (.leaf (.tu [(false, [(.int .u8 10)]), (false, [(.int .i64 1)])]))
     (.ite (.cmp .eql (.sidx (.atom 0) (.int .i64 0)) (.int .u8 120))
      (.chk [] (.sub (.slen (.atom 0)) (.int .i64 1) (.slen (.atom 0)))
      (.call (.fn 86) [(.sc (.ssub (.atom 0) (.int .i64 1) (.slen (.atom 0))))] (.sc (.int .i64)) []
      (.ite (.cmp .geq (.atom 1) (.int .i64 0))
       (.leaf (.tu [(false, [(.conv .u8 (.atom 1))]), (false, [(.int .i64 3)])]))
       (.next 3 []))))
      (.next 3 [])))))))
theorem fm_lex_escape_eq : execF Tryz.prog { pub := [], nojoin := false } Tryz.f72 = fm_lex_escape := by kernel_rfl
theorem cb_lex_escape : callB Tryz.prog 72 = true := by kernel_rfl
theorem tri_lex_escape : TriOf Tryz.prog 72 Tryz.f72 fm_lex_escape := triOf Tryz.func72 fm_lex_escape_eq

/-- strconv.Atoi -/
abbrev n_strconv_Atoi : FuncId := 74
theorem cb_strconv_Atoi : callB Tryz.prog 74 = true := by kernel_rfl
/-- scrimshaw/scrimshawref02.Byte -/
abbrev n_scrimshawref02_Byte : FuncId := 76
def fm_scrimshawref02_Byte : Fm VE :=
 (.call (.fn 98) [(.sc (.atom 0))] (.sc (.bool)) []
 (.ite (.pick (.pick (.atom 1) (.bool true) (.pick (.cmp .geq (.atom 0) (.int .u8 97)) (.cmp .leq (.atom 0) (.int .u8 122)) (.bool false))) (.bool true) (.pick (.cmp .geq (.atom 0) (.int .u8 65)) (.cmp .leq (.atom 0) (.int .u8 90)) (.bool false)))
  (.leaf (.sc (.bool true)))
  (.loop 6 [.bool, .int .i64] [(.bool false), (.int .i64 0)]
   (.ite (.cmp .lss (.atom 3) (.int .i64 18))
    (.chk [] (.inStr (.str [33, 36, 37, 38, 42, 47, 58, 60, 61, 62, 63, 94, 95, 126, 43, 45, 46, 64]) (.atom 3))
    (.ite (.cmp .eql (.sidx (.str [33, 36, 37, 38, 42, 47, 58, 60, 61, 62, 63, 94, 95, 126, 43, 45, 46, 64]) (.atom 3)) (.atom 0))
     (.leaf (.sc (.bool true)))
     (.next 6 [(.atom 2), (.ar .add .i64 (.atom 3) (.int .i64 1))])))
    (.leaf (.sc (.bool false)))))))
theorem fm_scrimshawref02_Byte_eq : execF Tryz.prog { pub := [], nojoin := false } Tryz.f76 = fm_scrimshawref02_Byte := by kernel_rfl
theorem cb_scrimshawref02_Byte : callB Tryz.prog 76 = true := by kernel_rfl
theorem tri_scrimshawref02_Byte : TriOf Tryz.prog 76 Tryz.f76 fm_scrimshawref02_Byte := triOf Tryz.func76 fm_scrimshawref02_Byte_eq

/-- scrimshaw/scrimshawref02.Number -/
abbrev n_scrimshawref02_Number : FuncId := 77
def fm_scrimshawref02_Number : Fm VE :=
 (.chk [((.cmp .gtr (.slen (.atom 0)) (.int .i64 0)), true)] (.inStr (.atom 0) (.int .i64 0))
 (.chk [((.cmp .gtr (.slen (.atom 0)) (.int .i64 0)), true), ((.cmp .eql (.sidx (.atom 0) (.int .i64 0)) (.int .u8 43)), false)] (.inStr (.atom 0) (.int .i64 0))
 (.loop 6 [.bool, .int .i64] [(.bool false), (.pick (.pick (.cmp .gtr (.slen (.atom 0)) (.int .i64 0)) (.pick (.cmp .eql (.sidx (.atom 0) (.int .i64 0)) (.int .u8 43)) (.bool true) (.cmp .eql (.sidx (.atom 0) (.int .i64 0)) (.int .u8 45))) (.bool false)) (.int .i64 1) (.int .i64 0))]
  (.ite (.cmp .lss (.atom 2) (.slen (.atom 0)))
   (.chk [] (.inStr (.atom 0) (.atom 2))
   (.call (.fn 98) [(.sc (.sidx (.atom 0) (.atom 2)))] (.sc (.bool)) []
   (.ite (.not (.atom 3))
    (.leaf (.sc (.bool false)))
    (.next 6 [(.atom 1), (.ar .add .i64 (.atom 2) (.int .i64 1))]))))
   (.leaf (.sc (.cmp .gtr (.slen (.atom 0)) (.pick (.pick (.cmp .gtr (.slen (.atom 0)) (.int .i64 0)) (.pick (.cmp .eql (.sidx (.atom 0) (.int .i64 0)) (.int .u8 43)) (.bool true) (.cmp .eql (.sidx (.atom 0) (.int .i64 0)) (.int .u8 45))) (.bool false)) (.int .i64 1) (.int .i64 0)))))))))
theorem fm_scrimshawref02_Number_eq : execF Tryz.prog { pub := [], nojoin := false } Tryz.f77 = fm_scrimshawref02_Number := by kernel_rfl
theorem cb_scrimshawref02_Number : callB Tryz.prog 77 = true := by kernel_rfl
theorem tri_scrimshawref02_Number : TriOf Tryz.prog 77 Tryz.f77 fm_scrimshawref02_Number := triOf Tryz.func77 fm_scrimshawref02_Number_eq

/-- scrimshaw/data.isName -/
abbrev n_data_isName : FuncId := 79
def fm_data_isName : Fm VE :=
 (.join 1 [.bool]
  (.leaf (.sc (.atom 1)))
  (.call (.fn 99) [(.sc (.atom 0))] (.sc (.bool)) []
  (.ite (.pick (.pick (.atom 1) (.bool true) (.pick (.cmp .geq (.atom 0) (.int .u8 97)) (.cmp .leq (.atom 0) (.int .u8 122)) (.bool false))) (.bool true) (.pick (.cmp .geq (.atom 0) (.int .u8 65)) (.cmp .leq (.atom 0) (.int .u8 90)) (.bool false)))
   (.next 1 [(.bool true)])
   (.call (.fn 51) [(.sc (.str [33, 36, 37, 38, 42, 47, 58, 60, 61, 62, 63, 94, 95, 126, 43, 45, 46, 64])), (.sc (.atom 0))] (.sc (.int .i64)) []
   (.next 1 [(.cmp .geq (.atom 2) (.int .i64 0))])))))
theorem fm_data_isName_eq : execF Tryz.prog { pub := [], nojoin := false } Tryz.f79 = fm_data_isName := by kernel_rfl
theorem cb_data_isName : callB Tryz.prog 79 = true := by kernel_rfl
theorem tri_data_isName : TriOf Tryz.prog 79 Tryz.f79 fm_data_isName := triOf Tryz.func79 fm_data_isName_eq

/-- scrimshaw/data.isNumber -/
abbrev n_data_isNumber : FuncId := 80
def fm_data_isNumber : Fm VE :=
 (.join 1 [.str]
  (.loop 4 [.bool, .int .i64] [(.bool false), (.int .i64 0)]
   (.ite (.cmp .lss (.atom 3) (.slen (.atom 1)))
    (.chk [] (.inStr (.atom 1) (.atom 3))
    (.call (.fn 99) [(.sc (.sidx (.atom 1) (.atom 3)))] (.sc (.bool)) []
    (.ite (.not (.atom 4))
     (.leaf (.sc (.bool false)))
     (.next 4 [(.atom 2), (.ar .add .i64 (.atom 3) (.int .i64 1))]))))
    (.leaf (.sc (.scmp .neq (.atom 1) (.str []))))))
  (.chk [((.scmp .neq (.atom 0) (.str [])), true)] (.inStr (.atom 0) (.int .i64 0))
  (.chk [((.scmp .neq (.atom 0) (.str [])), true), ((.cmp .eql (.sidx (.atom 0) (.int .i64 0)) (.int .u8 43)), false)] (.inStr (.atom 0) (.int .i64 0))
  (.ite (.pick (.scmp .neq (.atom 0) (.str [])) (.pick (.cmp .eql (.sidx (.atom 0) (.int .i64 0)) (.int .u8 43)) (.bool true) (.cmp .eql (.sidx (.atom 0) (.int .i64 0)) (.int .u8 45))) (.bool false))
   (.chk [] (.sub (.slen (.atom 0)) (.int .i64 1) (.slen (.atom 0)))
   (.next 1 [(.ssub (.atom 0) (.int .i64 1) (.slen (.atom 0)))]))
   (.next 1 [(.atom 0)])))))
theorem fm_data_isNumber_eq : execF Tryz.prog { pub := [], nojoin := false } Tryz.f80 = fm_data_isNumber := by kernel_rfl
theorem cb_data_isNumber : callB Tryz.prog 80 = true := by kernel_rfl
theorem tri_data_isNumber : TriOf Tryz.prog 80 Tryz.f80 fm_data_isNumber := triOf Tryz.func80 fm_data_isNumber_eq

/-- scrimshaw/scrimshawref02.Name -/
abbrev n_scrimshawref02_Name : FuncId := 81
def fm_scrimshawref02_Name : Fm VE :=
 (.join 2 [.bool]
  (.ite (.atom 1)
   (.leaf (.sc (.bool false)))
   (.loop 5 [.bool, .int .i64] [(.bool false), (.int .i64 0)]
    (.ite (.cmp .lss (.atom 3) (.slen (.atom 0)))
     (.chk [] (.inStr (.atom 0) (.atom 3))
     (.call (.fn 76) [(.sc (.sidx (.atom 0) (.atom 3)))] (.sc (.bool)) []
     (.ite (.not (.atom 4))
      (.leaf (.sc (.bool false)))
      (.next 5 [(.atom 2), (.ar .add .i64 (.atom 3) (.int .i64 1))]))))
     (.leaf (.sc (.bool true))))))
  (.ite (.pick (.pick (.cmp .lss (.slen (.atom 0)) (.int .i64 1)) (.bool true) (.cmp .gtr (.slen (.atom 0)) (.int .i64 64))) (.bool true) (.scmp .eql (.atom 0) (.str [46])))
   (.next 2 [(.bool true)])
   (.call (.fn 77) [(.sc (.atom 0))] (.sc (.bool)) []
   (.next 2 [(.atom 1)]))))
theorem fm_scrimshawref02_Name_eq : execF Tryz.prog { pub := [], nojoin := false } Tryz.f81 = fm_scrimshawref02_Name := by kernel_rfl
theorem cb_scrimshawref02_Name : callB Tryz.prog 81 = true := by kernel_rfl
theorem tri_scrimshawref02_Name : TriOf Tryz.prog 81 Tryz.f81 fm_scrimshawref02_Name := triOf Tryz.func81 fm_scrimshawref02_Name_eq

/-- internal/strconv.AppendInt -/
abbrev n_internal_strconv_AppendInt : FuncId := 82
def fm_internal_strconv_AppendInt : Fm VE :=
 (.join 2 [.sl, .int .u64]
  (.call (.fn 100) [(.sc (.atom 3)), (.sc (.atom 4)), (.sc (.atom 2))] (.sc (.sl)) []
  (.leaf (.sc (.atom 5))))
  (.ite (.cmp .lss (.atom 1) (.int .i64 0))
   (.sem (.buildSlice 39 1 #[(0, (.const (.int .u8 45)))]) 39 [] (.sc (.sl)) []
   (.sem (.call ⟨.builtin .append, #[(.tmp 12), (.tmp 13)], #[39, 39]⟩) 39 [(12, (.sc (.atom 0))), (13, (.sc (.atom 3)))] (.sc (.sl)) []
   (.next 2 [(.atom 4), (.ar .sub .u64 (.int .u64 0) (.conv .u64 (.atom 1)))])))
   (.next 2 [(.atom 0), (.conv .u64 (.atom 1))])))
theorem fm_internal_strconv_AppendInt_eq : execF Tryz.prog { pub := [], nojoin := false } Tryz.f82 = fm_internal_strconv_AppendInt := by kernel_rfl
theorem cb_internal_strconv_AppendInt : callB Tryz.prog 82 = true := by kernel_rfl
theorem tri_internal_strconv_AppendInt : TriOf Tryz.prog 82 Tryz.f82 fm_internal_strconv_AppendInt := triOf Tryz.func82 fm_internal_strconv_AppendInt_eq

/-- scrimshaw/lex.nameByte -/
abbrev n_lex_nameByte : FuncId := 85
def fm_lex_nameByte : Fm VE :=
 (.sem (.buildSlice 39 1 #[(0, (.tmp 3))]) 39 [(3, (.sc (.atom 0)))] (.sc (.sl)) []
 (.sem (.convert 39 9 (.tmp 4)) 9 [(4, (.sc (.atom 1)))] (.sc (.str)) []
 (.chk [] (.catOk (.str [97]) (.atom 2))
 (.call (.fn 59) [(.sc (.cat (.str [97]) (.atom 2)))] (.sc (.bool)) []
 (.leaf (.sc (.atom 3)))))))
theorem fm_lex_nameByte_eq : execF Tryz.prog { pub := [], nojoin := false } Tryz.f85 = fm_lex_nameByte := by kernel_rfl
theorem cb_lex_nameByte : callB Tryz.prog 85 = true := by kernel_rfl
theorem tri_lex_nameByte : TriOf Tryz.prog 85 Tryz.f85 fm_lex_nameByte := triOf Tryz.func85 fm_lex_nameByte_eq

/-- scrimshaw/lex.two -/
abbrev n_lex_two : FuncId := 86
def fm_lex_two : Fm VE :=
 (.ite (.cmp .lss (.slen (.atom 0)) (.int .i64 2))
  (.leaf (.sc (.int .i64 (-1))))
  (.chk [] (.inStr (.atom 0) (.int .i64 0))
  (.chk [] (.inStr (.atom 0) (.int .i64 1))
  (.call (.fn 101) [(.sc (.sidx (.atom 0) (.int .i64 0)))] (.sc (.int .i64)) []
  (.call (.fn 101) [(.sc (.sidx (.atom 0) (.int .i64 1)))] (.sc (.int .i64)) []
  (.ite (.pick (.cmp .lss (.atom 1) (.int .i64 0)) (.bool true) (.cmp .lss (.atom 2) (.int .i64 0)))
   (.leaf (.sc (.int .i64 (-1))))
   (.leaf (.sc (.ar .or .i64 (.ar .shl .i64 (.atom 1) (.int .u64 4)) (.atom 2))))))))))
theorem fm_lex_two_eq : execF Tryz.prog { pub := [], nojoin := false } Tryz.f86 = fm_lex_two := by kernel_rfl
theorem cb_lex_two : callB Tryz.prog 86 = true := by kernel_rfl
theorem tri_lex_two : TriOf Tryz.prog 86 Tryz.f86 fm_lex_two := triOf Tryz.func86 fm_lex_two_eq

/-- scrimshaw/scrimshawref02.Digit -/
abbrev n_scrimshawref02_Digit : FuncId := 98
def fm_scrimshawref02_Digit : Fm VE :=
 (.leaf (.sc (.pick (.cmp .geq (.atom 0) (.int .u8 48)) (.cmp .leq (.atom 0) (.int .u8 57)) (.bool false))))
theorem fm_scrimshawref02_Digit_eq : execF Tryz.prog { pub := [], nojoin := false } Tryz.f98 = fm_scrimshawref02_Digit := by kernel_rfl
theorem cb_scrimshawref02_Digit : callB Tryz.prog 98 = true := by kernel_rfl
theorem tri_scrimshawref02_Digit : TriOf Tryz.prog 98 Tryz.f98 fm_scrimshawref02_Digit := triOf Tryz.func98 fm_scrimshawref02_Digit_eq

/-- scrimshaw/data.isDigit -/
abbrev n_data_isDigit : FuncId := 99
def fm_data_isDigit : Fm VE :=
 (.leaf (.sc (.pick (.cmp .geq (.atom 0) (.int .u8 48)) (.cmp .leq (.atom 0) (.int .u8 57)) (.bool false))))
theorem fm_data_isDigit_eq : execF Tryz.prog { pub := [], nojoin := false } Tryz.f99 = fm_data_isDigit := by kernel_rfl
theorem cb_data_isDigit : callB Tryz.prog 99 = true := by kernel_rfl
theorem tri_data_isDigit : TriOf Tryz.prog 99 Tryz.f99 fm_data_isDigit := triOf Tryz.func99 fm_data_isDigit_eq

/-- internal/strconv.AppendUint -/
abbrev n_internal_strconv_AppendUint : FuncId := 100
def fm_internal_strconv_AppendUint : Fm VE :=
 (.ite (.cmp .eql (.atom 2) (.int .i64 10))
  (.ite (.cmp .lss (.atom 1) (.int .u64 100))
   (.call (.fn 114) [(.sc (.conv .i64 (.atom 1)))] (.sc (.str)) []
   (.sem (.call ⟨.builtin .append, #[(.tmp 13), (.tmp 16)], #[39, 9]⟩) 39 [(13, (.sc (.atom 0))), (16, (.sc (.atom 3)))] (.sc (.sl)) []
   (.leaf (.sc (.atom 4)))))
   (.new 132 [(.int .u8 0), (.int .u8 0), (.int .u8 0), (.int .u8 0), (.int .u8 0), (.int .u8 0), (.int .u8 0), (.int .u8 0), (.int .u8 0), (.int .u8 0), (.int .u8 0), (.int .u8 0), (.int .u8 0), (.int .u8 0), (.int .u8 0), (.int .u8 0), (.int .u8 0), (.int .u8 0), (.int .u8 0), (.int .u8 0), (.int .u8 0), (.int .u8 0), (.int .u8 0), (.int .u8 0)]
   (.call (.fn 115) [(.sc (.atom 1))] (.sc (.int .i64)) []
   (.sem (.slice 132 (.tmp 7) none (some (.tmp 20)) none) 39 [(7, (.sc (.atom 3))), (20, (.sc (.atom 4)))] (.sc (.sl)) []
   (.call (.fn 116) [(.sc (.atom 5)), (.sc (.atom 1))] (.tu []) []
   (.sem (.slice 132 (.tmp 7) none (some (.tmp 25)) none) 39 [(7, (.sc (.atom 3))), (25, (.sc (.atom 4)))] (.sc (.sl)) []
   (.sem (.call ⟨.builtin .append, #[(.tmp 24), (.tmp 26)], #[39, 39]⟩) 39 [(24, (.sc (.atom 0))), (26, (.sc (.atom 6)))] (.sc (.sl)) []
   (.leaf (.sc (.atom 7))))))))))
  (.call (.fn 117) [(.sc (.atom 0)), (.sc (.atom 1)), (.sc (.atom 2)), (.sc (.bool false)), (.sc (.bool true))] (.tu [(false, [.sl]), (false, [.str])]) []
  (.leaf (.sc (.atom 3)))))
theorem fm_internal_strconv_AppendUint_eq : execF Tryz.prog { pub := [7], nojoin := false } Tryz.f100 = fm_internal_strconv_AppendUint := by kernel_rfl
theorem cb_internal_strconv_AppendUint : callB Tryz.prog 100 = true := by kernel_rfl
theorem tri_internal_strconv_AppendUint : TriOf Tryz.prog 100 Tryz.f100 fm_internal_strconv_AppendUint := triOf Tryz.func100 fm_internal_strconv_AppendUint_eq

/-- scrimshaw/lex.digit -/
abbrev n_lex_digit : FuncId := 101
def fm_lex_digit : Fm VE :=
 (.sem (.buildSlice 39 1 #[(0, (.tmp 6))]) 39 [(6, (.sc (.atom 0)))] (.sc (.sl)) []
 (.sem (.convert 39 9 (.tmp 7)) 9 [(7, (.sc (.atom 1)))] (.sc (.str)) []
 (.call (.fn 118) [(.sc (.atom 2)), (.sc (.int .i64 16)), (.sc (.int .i64 8))] (.tu [(false, [.int .u64]), (false, [.any])]) []
 (.sem (.binOp .neq 104 (.tmp 12) (.const .nilIface) 104) 4 [(12, (.sc (.atom 4)))] (.sc (.bool)) []
 (.ite (.atom 5)
  (.leaf (.sc (.int .i64 (-1))))
  (.leaf (.sc (.conv .i64 (.atom 3)))))))))
theorem fm_lex_digit_eq : execF Tryz.prog { pub := [], nojoin := false } Tryz.f101 = fm_lex_digit := by kernel_rfl
theorem cb_lex_digit : callB Tryz.prog 101 = true := by kernel_rfl
theorem tri_lex_digit : TriOf Tryz.prog 101 Tryz.f101 fm_lex_digit := triOf Tryz.func101 fm_lex_digit_eq

/-- internal/strconv.small -/
abbrev n_internal_strconv_small : FuncId := 114
theorem cb_internal_strconv_small : callB Tryz.prog 114 = true := by kernel_rfl
/-- internal/strconv.numDigits -/
abbrev n_internal_strconv_numDigits : FuncId := 115
theorem cb_internal_strconv_numDigits : callB Tryz.prog 115 = true := by kernel_rfl
/-- internal/strconv.formatBase10 -/
abbrev n_internal_strconv_formatBase10 : FuncId := 116
theorem cb_internal_strconv_formatBase10 : callB Tryz.prog 116 = true := by kernel_rfl
/-- strconv.ParseUint -/
abbrev n_strconv_ParseUint : FuncId := 118
def fm_strconv_ParseUint : Fm VE :=
 (.call (.fn 123) [(.sc (.atom 0)), (.sc (.atom 1)), (.sc (.atom 2))] (.tu [(false, [.int .u64]), (false, [.any])]) []
 (.sem (.binOp .neq 104 (.tmp 17) (.const .nilIface) 104) 4 [(17, (.sc (.atom 4)))] (.sc (.bool)) []
 (.ite (.atom 5)
  (.call (.fn 96) [(.sc (.str [80, 97, 114, 115, 101, 85, 105, 110, 116])), (.sc (.atom 0)), (.sc (.atom 1)), (.sc (.atom 2)), (.sc (.atom 4))] (.sc (.any)) []
  (.leaf (.tu [(false, [(.atom 3)]), (false, [(.atom 6)])])))
  (.leaf (.tu [(false, [(.atom 3)]), (false, [(.nil 4)])])))))
theorem fm_strconv_ParseUint_eq : execF Tryz.prog { pub := [], nojoin := false } Tryz.f118 = fm_strconv_ParseUint := by kernel_rfl
theorem cb_strconv_ParseUint : callB Tryz.prog 118 = true := by kernel_rfl
theorem tri_strconv_ParseUint : TriOf Tryz.prog 118 Tryz.f118 fm_strconv_ParseUint := triOf Tryz.func118 fm_strconv_ParseUint_eq

/-- internal/strconv.ParseUint -/
abbrev n_internal_strconv_ParseUint : FuncId := 123
def fm_internal_strconv_ParseUint : Fm VE :=
 (.ite (.scmp .eql (.atom 0) (.str []))
  (.sem (.makeInterface 126 (.const (.int .i64 2))) 104 [] (.sc (.any)) []
  (.leaf (.tu [(false, [(.int .u64 0)]), (false, [(.atom 3)])])))
  (.join 5 [.str, .int .i64]
   (.join 6 [.int .i64]
    (.join 8 [.int .u64]
     (.sem (.convert 9 39 (.tmp 98)) 39 [(98, (.sc (.atom 3)))] (.sc (.sl)) []
     (.loop 14 [.int .u64, .any, .bool, .int .u64, .int .i64] [(.int .u64 0), (.nil 4), (.bool false), (.int .u64 0), (.int .i64 0)]
      (.ite (.cmp .lss (.atom 12) (.len (.atom 7)))
       (.join 17 [.bool, .int .u64]
        (.next 14 [(.atom 8), (.atom 9), (.atom 13), (.atom 14), (.ar .add .i64 (.atom 12) (.int .i64 1))])
        (.chk [] (.inSl (.atom 7) (.atom 12))
        (.load (.elt (.atom 7) (.atom 12) 1) [.int .u8]
        (.join 20 [.int .u8]
         (.ite (.cmp .geq (.atom 14) (.conv .u8 (.atom 4)))
          (.sem (.makeInterface 126 (.const (.int .i64 2))) 104 [] (.sc (.any)) []
          (.leaf (.tu [(false, [(.int .u64 0)]), (false, [(.atom 15)])])))
          (.ite (.cmp .geq (.atom 11) (.atom 6))
           (.sem (.makeInterface 126 (.const (.int .i64 1))) 104 [] (.sc (.any)) []
           (.leaf (.tu [(false, [(.ar .sub .u64 (.ar .shl .u64 (.int .u64 1) (.conv .u64 (.atom 5))) (.int .u64 1))]), (false, [(.atom 15)])])))
           (.ite (.pick (.cmp .lss (.ar .add .u64 (.ar .mul .u64 (.atom 11) (.conv .u64 (.atom 4))) (.conv .u64 (.atom 14))) (.ar .mul .u64 (.atom 11) (.conv .u64 (.atom 4)))) (.bool true) (.cmp .gtr (.ar .add .u64 (.ar .mul .u64 (.atom 11) (.conv .u64 (.atom 4))) (.conv .u64 (.atom 14))) (.ar .sub .u64 (.ar .shl .u64 (.int .u64 1) (.conv .u64 (.atom 5))) (.int .u64 1))))
            (.sem (.makeInterface 126 (.const (.int .i64 1))) 104 [] (.sc (.any)) []
            (.leaf (.tu [(false, [(.ar .sub .u64 (.ar .shl .u64 (.int .u64 1) (.conv .u64 (.atom 5))) (.int .u64 1))]), (false, [(.atom 15)])])))
            (.next 17 [(.atom 10), (.ar .add .u64 (.ar .mul .u64 (.atom 11) (.conv .u64 (.atom 4))) (.conv .u64 (.atom 14)))]))))
         (.ite (.pick (.cmp .eql (.atom 13) (.int .u8 95)) (.cmp .eql (.atom 1) (.int .i64 0)) (.bool false))
          (.next 17 [(.bool true), (.atom 11)])
          (.ite (.pick (.cmp .leq (.int .u8 48) (.atom 13)) (.cmp .leq (.atom 13) (.int .u8 57)) (.bool false))
           (.next 20 [(.ar .sub .u8 (.atom 13) (.int .u8 48))])
           (.join 23 [.bool]
            (.ite (.atom 14)
             (.call (.fn 133) [(.sc (.atom 13))] (.sc (.int .u8)) []
             (.next 20 [(.ar .add .u8 (.ar .sub .u8 (.atom 15) (.int .u8 97)) (.int .u8 10))]))
             (.sem (.makeInterface 126 (.const (.int .i64 2))) 104 [] (.sc (.any)) []
             (.leaf (.tu [(false, [(.int .u64 0)]), (false, [(.atom 15)])]))))
            (.call (.fn 133) [(.sc (.atom 13))] (.sc (.int .u8)) []
            (.ite (.cmp .leq (.int .u8 97) (.atom 14))
             (.call (.fn 133) [(.sc (.atom 13))] (.sc (.int .u8)) []
             (.next 23 [(.cmp .leq (.atom 15) (.int .u8 122))]))
             (.next 23 [(.bool false)]))))))))))
       (.join 18 [.bool]
        (.ite (.atom 13)
         (.sem (.makeInterface 126 (.const (.int .i64 2))) 104 [] (.sc (.any)) []
         (.leaf (.tu [(false, [(.int .u64 0)]), (false, [(.atom 14)])])))
         (.leaf (.tu [(false, [(.atom 11)]), (false, [(.nil 4)])])))
        (.ite (.atom 10)
         (.call (.fn 134) [(.sc (.atom 0))] (.sc (.bool)) []
         (.next 18 [(.not (.atom 13))]))
         (.next 18 [(.bool false)]))))))
     (.ite (.cmp .eql (.atom 4) (.int .i64 10))
      (.next 8 [(.int .u64 1844674407370955162)])
      (.ite (.cmp .eql (.atom 4) (.int .i64 16))
       (.next 8 [(.int .u64 1152921504606846976)])
       (.chk [] (.nz (.conv .u64 (.atom 4)))
       (.next 8 [(.ar .add .u64 (.ar .quo .u64 (.int .u64 18446744073709551615) (.conv .u64 (.atom 4))) (.int .u64 1))])))))
    (.ite (.cmp .eql (.atom 2) (.int .i64 0))
     (.next 6 [(.int .i64 64)])
     (.ite (.pick (.cmp .lss (.atom 2) (.int .i64 0)) (.bool true) (.cmp .gtr (.atom 2) (.int .i64 64)))
      (.sem (.makeInterface 126 (.const (.int .i64 4))) 104 [] (.sc (.any)) []
      (.leaf (.tu [(false, [(.int .u64 0)]), (false, [(.atom 5)])])))
      (.next 6 [(.atom 2)]))))
   (.ite (.pick (.cmp .leq (.int .i64 2) (.atom 1)) (.cmp .leq (.atom 1) (.int .i64 36)) (.bool false))
    (.next 5 [(.atom 0), (.atom 1)])
    (.ite (.cmp .eql (.atom 1) (.int .i64 0))
     (.chk [] (.inStr (.atom 0) (.int .i64 0))
     (.ite (.cmp .eql (.sidx (.atom 0) (.int .i64 0)) (.int .u8 48))
      (.join 10 [.bool]
       (.ite (.atom 3)
        (.chk [] (.sub (.slen (.atom 0)) (.int .i64 2) (.slen (.atom 0)))
        (.next 5 [(.ssub (.atom 0) (.int .i64 2) (.slen (.atom 0))), (.int .i64 2)]))
        (.join 11 [.bool]
         (.ite (.atom 4)
          (.chk [] (.sub (.slen (.atom 0)) (.int .i64 2) (.slen (.atom 0)))
          (.next 5 [(.ssub (.atom 0) (.int .i64 2) (.slen (.atom 0))), (.int .i64 8)]))
          (.join 12 [.bool]
           (.ite (.atom 5)
            (.chk [] (.sub (.slen (.atom 0)) (.int .i64 2) (.slen (.atom 0)))
            (.next 5 [(.ssub (.atom 0) (.int .i64 2) (.slen (.atom 0))), (.int .i64 16)]))
            (.chk [] (.sub (.slen (.atom 0)) (.int .i64 1) (.slen (.atom 0)))
            (.next 5 [(.ssub (.atom 0) (.int .i64 1) (.slen (.atom 0))), (.int .i64 8)])))
           (.chk [((.cmp .geq (.slen (.atom 0)) (.int .i64 3)), true)] (.inStr (.atom 0) (.int .i64 1))
           (.ite (.cmp .geq (.slen (.atom 0)) (.int .i64 3))
            (.call (.fn 133) [(.sc (.sidx (.atom 0) (.int .i64 1)))] (.sc (.int .u8)) []
            (.next 12 [(.cmp .eql (.atom 5) (.int .u8 120))]))
            (.next 12 [(.bool false)])))))
         (.chk [((.cmp .geq (.slen (.atom 0)) (.int .i64 3)), true)] (.inStr (.atom 0) (.int .i64 1))
         (.ite (.cmp .geq (.slen (.atom 0)) (.int .i64 3))
          (.call (.fn 133) [(.sc (.sidx (.atom 0) (.int .i64 1)))] (.sc (.int .u8)) []
          (.next 11 [(.cmp .eql (.atom 4) (.int .u8 111))]))
          (.next 11 [(.bool false)])))))
       (.chk [((.cmp .geq (.slen (.atom 0)) (.int .i64 3)), true)] (.inStr (.atom 0) (.int .i64 1))
       (.ite (.cmp .geq (.slen (.atom 0)) (.int .i64 3))
        (.call (.fn 133) [(.sc (.sidx (.atom 0) (.int .i64 1)))] (.sc (.int .u8)) []
        (.next 10 [(.cmp .eql (.atom 3) (.int .u8 98))]))
        (.next 10 [(.bool false)]))))
      (.next 5 [(.atom 0), (.int .i64 10)])))
     (.sem (.makeInterface 126 (.const (.int .i64 3))) 104 [] (.sc (.any)) []
     (.leaf (.tu [(false, [(.int .u64 0)]), (false, [(.atom 3)])])))))))
theorem fm_internal_strconv_ParseUint_eq : execF Tryz.prog { pub := [], nojoin := false } Tryz.f123 = fm_internal_strconv_ParseUint := by kernel_rfl
theorem cb_internal_strconv_ParseUint : callB Tryz.prog 123 = true := by kernel_rfl
theorem tri_internal_strconv_ParseUint : TriOf Tryz.prog 123 Tryz.f123 fm_internal_strconv_ParseUint := triOf Tryz.func123 fm_internal_strconv_ParseUint_eq

/-- internal/strconv.lower -/
abbrev n_internal_strconv_lower : FuncId := 133
def fm_internal_strconv_lower : Fm VE :=
 (.leaf (.sc (.ar .or .u8 (.atom 0) (.int .u8 32))))
theorem fm_internal_strconv_lower_eq : execF Tryz.prog { pub := [], nojoin := false } Tryz.f133 = fm_internal_strconv_lower := by kernel_rfl
theorem cb_internal_strconv_lower : callB Tryz.prog 133 = true := by kernel_rfl
theorem tri_internal_strconv_lower : TriOf Tryz.prog 133 Tryz.f133 fm_internal_strconv_lower := triOf Tryz.func133 fm_internal_strconv_lower_eq

end Go.Proofs.YtlnmmakbgldflaaGreatDoor.Vc
