import Derived.Test.YtofbhllknefloaaGreatMi
import Derived.Test.YtofbhllknefloaaGreatRows
import Derived.KernelRfl
set_option linter.unusedSimpArgs false
set_option linter.unusedVariables false
set_option maxRecDepth 100000
namespace Go.Proofs.YtofbhllknefloaaGreat.Vc
open Go
def TriOf (P:Program) (f:FuncId) (fn:Func) (fm:Fm VE):Prop:=∀(E:List Value) {args:Array Value} {H:PH} {R:Ending→PH→Prop},z08 ((z14 P fn).flatMap RS.tags) E=true→args.toList=z18 (z14 P fn) E →
 den P (fun c H'=>R (.panicked c) H') fm E H [] (fun ve E' H' _=>R (.returned (evV E' (fun _=>0) ve)) H')→Tri P f args H R
theorem triOf {P:Program} {f:FuncId} {fn:Func} {fm:Fm VE} {op:Opt} (hf:P.funcs[f]?=some fn) (he:execF P op fn=fm):TriOf P f fn fm:=
 fun E _ _ _ hE ha hd=>Z0e (op:=op) hf hE ha (by rw [he];exact hd)
def Z0w (P:Program) (f:FuncId) (rsl:List RS) (fm:Fm VE):Prop:=∀(E:List Value) {args:Array Value} {H:PH} {R:Ending→PH→Prop},z08 (rsl.flatMap RS.tags) E=true→args.toList=z18 rsl E →
 den P (fun c H'=>R (.panicked c) H') fm E H [] (fun ve E' H' _=>R (.returned (evV E' (fun _=>0) ve)) H')→Tri P f args H R
theorem Z5s {P:Program} {f:FuncId} {fn:Func} {rsl:List RS} {fm:Fm VE} {op:Opt} (hf:P.funcs[f]?=some fn) (he:zpm P op fn rsl=fm):Z0w P f rsl fm:=
 fun E _ _ _ hE ha hd=>zzi (op:=op) hf hE ha (by rw [he];exact hd)
abbrev zj2:FuncId:=6
def z84:Fm VE:=
 (.sem (.buildSlice 31 0 #[]) 31 [] (.sc .sl) []
 (.loop 4 [.sl,.int .i64] [.atom 7,.int .i64 0]
 (.ite (.cmp .lss (.atom 9) (.len (.atom 4)))
 (.join 7 [.sl]
 (.next 4 [.atom 10,(.ar .add .i64 (.atom 9) (.int .i64 1))])
 (.chk [] (.inSl (.atom 4) (.atom 9))
 (.load (.elt (.atom 4) (.atom 9) 1) [.int .i64]
 (.call (.fn 16) [(.ag [.atom 0,.atom 1,.atom 2,.atom 3]),.sc (.atom 5),.sc (.atom 6),.sc (.atom 10)] (.sc .bool) []
 (.ite (.atom 11)
 (.load (.elt (.atom 4) (.atom 9) 1) [.int .i64]
 (.sem (.buildSlice 31 1 #[(0,(.tmp 30))]) 31 [(30,(.sc (.atom 12)))] (.sc .sl) []
 (.sem (.call ⟨.builtin .append,#[.tmp 26,.tmp 31],#[31,31]⟩) 31 [(26,(.sc (.atom 8))),(31,(.sc (.atom 13)))] (.sc .sl) []
 (.next 7 [.atom 14]))))
 (.next 7 [.atom 8]))))))
 (.leaf (.sc (.atom 8))))))
theorem zdv:execF Tryz.prog { pub:=[],nojoin:=false } Tryz.f6=z84:=by kernel_rfl
theorem z7s:callB Tryz.prog 6=true:=by kernel_rfl
theorem zgn:TriOf Tryz.prog 6 Tryz.f6 z84:=triOf Tryz.func6 zdv
abbrev zjn:FuncId:=7
def z8f:Fm VE:=
 (.sem (.buildSlice 31 0 #[]) 31 [] (.sc .sl) []
 (.loop 4 [.sl,.int .i64] [.atom 4,.int .i64 0]
 (.ite (.cmp .lss (.atom 6) (.len (.atom 3)))
 (.join 7 [.sl]
 (.next 4 [.atom 7,(.ar .add .i64 (.atom 6) (.int .i64 1))])
 (.chk [] (.inSl (.atom 3) (.atom 6))
 (.load (.elt (.atom 3) (.atom 6) 7) [.sl,.int .i64,.int .i64,.sl,.int .i64,.int .i64,.int .i64]
 (.loop 11 [.sl,.int .i64] [.atom 5,.int .i64 0]
 (.ite (.cmp .lss (.atom 15) (.len (.atom 7)))
 (.loop 16 [.sl,.int .i64] [.atom 14,.int .i64 0]
 (.chk [] (.inSl (.atom 7) (.atom 15))
 (.load (.padd (.elt (.atom 7) (.atom 15) 8) 2) [.sl]
 (.ite (.cmp .lss (.atom 17) (.len (.atom 18)))
 (.load (.padd (.elt (.atom 7) (.atom 15) 8) 2) [.sl]
 (.chk [] (.inSl (.atom 19) (.atom 17))
 (.load (.elt (.atom 19) (.atom 17) 1) [.int .i64]
 (.call (.fn 17) [.sc (.atom 16),.sc (.atom 20)] (.sc .sl) []
 (.next 16 [.atom 21,(.ar .add .i64 (.atom 17) (.int .i64 1))])))))
 (.next 11 [.atom 16,(.ar .add .i64 (.atom 15) (.int .i64 1))])))))
 (.join 14 [.sl]
 (.ite (.pick (.cmp .eql (.atom 8) (.int .i64 3)) (.bool true) (.cmp .eql (.atom 8) (.int .i64 4)))
 (.loop 17 [.sl,.int .i64] [.atom 16,.int .i64 0]
 (.ite (.cmp .lss (.atom 18) (.len (.atom 10)))
 (.chk [] (.inSl (.atom 10) (.atom 18))
 (.load (.elt (.atom 10) (.atom 18) 1) [.int .i64]
 (.call (.fn 17) [.sc (.atom 17),.sc (.atom 19)] (.sc .sl) []
 (.next 17 [.atom 20,(.ar .add .i64 (.atom 18) (.int .i64 1))]))))
 (.next 7 [.atom 17])))
 (.next 7 [.atom 16]))
 (.call (.fn 18) [(.ag [.atom 8,.atom 9,.atom 10,.atom 11,.atom 12,.atom 13]),.sc (.atom 9)] (.sc .bool) []
 (.ite (.atom 16)
 (.call (.fn 17) [.sc (.atom 14),.sc (.atom 9)] (.sc .sl) []
 (.next 14 [.atom 17]))
 (.next 14 [.atom 14])))))))))
 (.leaf (.sc (.atom 5))))))
theorem zdp:execF Tryz.prog { pub:=[],nojoin:=false } Tryz.f7=z8f:=by kernel_rfl
theorem z83:callB Tryz.prog 7=true:=by kernel_rfl
theorem zg5:TriOf Tryz.prog 7 Tryz.f7 z8f:=triOf Tryz.func7 zdp
abbrev ziy:FuncId:=16
def z81:Fm VE:=
 (.sem (.makeSlice 103 (.tmp 19) (.tmp 19)) 103 [(19,(.sc (.len (.atom 3)))),(19,(.sc (.len (.atom 3))))] (.sc .sl) []
 (.sem (.buildSlice 31 1 #[(0,(.tmp 21))]) 31 [(21,(.sc (.atom 4)))] (.sc .sl) []
 (.loop 5 [.bool,.sl,.int .i64] [.bool false,.atom 8,.atom 5]
 (.ite (.cmp .gtr (.len (.atom 10)) (.int .i64 0))
 (.chk [] (.inSl (.atom 10) (.int .i64 0))
 (.load (.elt (.atom 10) (.int .i64 0) 1) [.int .i64]
 (.chk [] (.inSl (.atom 3) (.atom 12))
 (.load (.elt (.atom 3) (.atom 12) 7) [.sl,.int .i64,.int .i64,.sl,.int .i64,.int .i64,.int .i64]
 (.chk [] (.sub (.cap (.atom 10)) (.int .i64 1) (.len (.atom 10)))
 (.loop 13 [.bool,.bool,.int .i64] [.atom 9,.bool false,.atom 11]
 (.ite (.pick (.cmp .lss (.atom 22) (.len (.atom 13))) (.not (.atom 21)) (.bool false))
 (.join 16 [.bool]
 (.next 13 [.atom 20,.atom 23,(.ar .add .i64 (.atom 22) (.int .i64 1))])
 (.chk [] (.inSl (.atom 13) (.atom 22))
 (.load (.padd (.elt (.atom 13) (.atom 22) 8) 2) [.sl]
 (.call (.fn 23) [.sc (.atom 23),.sc (.atom 6)] (.sc .bool) []
 (.ite (.atom 24)
 (.leaf (.sc (.bool true)))
 (.load (.padd (.elt (.atom 13) (.atom 22) 8) 0) [.str]
 (.ite (.scmp .neq (.atom 25) (.str [116,105,101]))
 (.load (.padd (.elt (.atom 13) (.atom 22) 8) 1) [.int .i64]
 (.next 16 [(.cmp .eql (.atom 26) (.atom 6))]))
 (.next 16 [.bool false]))))))))
 (.ite (.atom 21)
 (.next 5 [.atom 20,(.sls (.atom 10) (.int .i64 1) (.len (.atom 10)) 1),.int .i64 0])
 (.call (.fn 18) [(.ag [.atom 14,.atom 15,.atom 16,.atom 17,.atom 18,.atom 19]),.sc (.atom 6)] (.sc .bool) []
 (.ite (.atom 23)
 (.leaf (.sc (.bool true)))
 (.ite (.pick (.pick (.cmp .eql (.atom 14) (.int .i64 4)) (.bool true) (.cmp .eql (.atom 14) (.int .i64 6))) (.cmp .eql (.atom 17) (.atom 6)) (.bool false))
 (.next 5 [.atom 20,(.sls (.atom 10) (.int .i64 1) (.len (.atom 10)) 1),.int .i64 0])
 (.call (.fn 25) [(.ag [.atom 0,.atom 1,.atom 2,.atom 3]),(.ag [.atom 14,.atom 15,.atom 16,.atom 17,.atom 18,.atom 19])] (.sc .sl) []
 (.loop 25 [.sl,.int .i64] [(.sls (.atom 10) (.int .i64 1) (.len (.atom 10)) 1),.int .i64 0]
 (.ite (.cmp .lss (.atom 26) (.len (.atom 24)))
 (.join 28 [.sl]
 (.next 25 [.atom 27,(.ar .add .i64 (.atom 26) (.int .i64 1))])
 (.chk [] (.inSl (.atom 24) (.atom 26))
 (.load (.elt (.atom 24) (.atom 26) 1) [.int .i64]
 (.chk [] (.inSl (.atom 7) (.atom 27))
 (.load (.elt (.atom 7) (.atom 27) 1) [.bool]
 (.ite (.not (.atom 28))
 (.load (.elt (.atom 24) (.atom 26) 1) [.int .i64]
 (.chk [] (.inSl (.atom 7) (.atom 29))
 (.store (.elt (.atom 7) (.atom 29) 1) [.bool true]
 (.load (.elt (.atom 24) (.atom 26) 1) [.int .i64]
 (.sem (.buildSlice 31 1 #[(0,(.tmp 123))]) 31 [(123,(.sc (.atom 30)))] (.sc .sl) []
 (.sem (.call ⟨.builtin .append,#[.tmp 119,.tmp 124],#[31,31]⟩) 31 [(119,(.sc (.atom 25))),(124,(.sc (.atom 31)))] (.sc .sl) []
 (.next 28 [.atom 32])))))))
 (.next 28 [.atom 25])))))))
 (.next 5 [.atom 20,.atom 25,.int .i64 0])))))))))))))))
 (.leaf (.sc (.bool false)))))))
theorem ze2:execF Tryz.prog { pub:=[],nojoin:=false } Tryz.f16=z81:=by kernel_rfl
theorem zhk:callB Tryz.prog 16=true:=by kernel_rfl
theorem zga:TriOf Tryz.prog 16 Tryz.f16 z81:=triOf Tryz.func16 ze2
abbrev za5:FuncId:=17
def z9d:Fm VE:=
 (.call (.fn 23) [.sc (.atom 0),.sc (.atom 1)] (.sc .bool) []
 (.ite (.atom 2)
 (.leaf (.sc (.atom 0)))
 (.sem (.buildSlice 31 0 #[]) 31 [] (.sc .sl) []
 (.loop 7 [.sl,.bool,.int .i64] [.atom 3,.bool false,.int .i64 0]
 (.ite (.cmp .lss (.atom 6) (.len (.atom 0)))
 (.join 11 [.sl,.bool]
 (.chk [] (.inSl (.atom 0) (.atom 6))
 (.load (.elt (.atom 0) (.atom 6) 1) [.int .i64]
 (.sem (.buildSlice 31 1 #[(0,(.tmp 37))]) 31 [(37,(.sc (.atom 9)))] (.sc .sl) []
 (.sem (.call ⟨.builtin .append,#[.tmp 33,.tmp 38],#[31,31]⟩) 31 [(33,(.sc (.atom 7))),(38,(.sc (.atom 10)))] (.sc .sl) []
 (.next 7 [.atom 11,.atom 8,(.ar .add .i64 (.atom 6) (.int .i64 1))])))))
 (.join 12 [.bool]
 (.ite (.atom 7)
 (.sem (.buildSlice 31 1 #[(0,(.tmp 30))]) 31 [(30,(.sc (.atom 1)))] (.sc .sl) []
 (.sem (.call ⟨.builtin .append,#[.tmp 29,.tmp 31],#[31,31]⟩) 31 [(29,(.sc (.atom 4))),(31,(.sc (.atom 8)))] (.sc .sl) []
 (.next 11 [.atom 9,.bool true])))
 (.next 11 [.atom 4,.atom 5]))
 (.chk [((.not (.atom 5)),true)] (.inSl (.atom 0) (.atom 6))
 (.ite (.not (.atom 5))
 (.load (.elt (.atom 0) (.atom 6) 1) [.int .i64]
 (.next 12 [(.cmp .lss (.atom 1) (.atom 7))]))
 (.next 12 [.bool false])))))
 (.join 10 [.sl]
 (.leaf (.sc (.atom 7)))
 (.ite (.not (.atom 5))
 (.sem (.buildSlice 31 1 #[(0,(.tmp 43))]) 31 [(43,(.sc (.atom 1)))] (.sc .sl) []
 (.sem (.call ⟨.builtin .append,#[.tmp 42,.tmp 44],#[31,31]⟩) 31 [(42,(.sc (.atom 4))),(44,(.sc (.atom 7)))] (.sc .sl) []
 (.next 10 [.atom 8])))
 (.next 10 [.atom 4]))))))))
theorem zfk:execF Tryz.prog { pub:=[],nojoin:=false } Tryz.f17=z9d:=by kernel_rfl
theorem zin:callB Tryz.prog 17=true:=by kernel_rfl
theorem zhi:TriOf Tryz.prog 17 Tryz.f17 z9d:=triOf Tryz.func17 zfk
abbrev zho:FuncId:=18
def z6x:Fm VE:=
 (.join 3 [.bool]
 (.ite (.atom 7)
 (.leaf (.sc (.cmp .eql (.atom 1) (.atom 6))))
 (.ite (.pick (.cmp .eql (.atom 0) (.int .i64 3)) (.cmp .eql (.atom 0) (.int .i64 3)) (.cmp .eql (.atom 0) (.int .i64 4)))
 (.join 6 [.bool]
 (.leaf (.sc (.atom 8)))
 (.ite (.cmp .eql (.atom 1) (.atom 6))
 (.next 6 [.bool true])
 (.call (.fn 23) [.sc (.atom 2),.sc (.atom 6)] (.sc .bool) []
 (.next 6 [.atom 8]))))
 (.leaf (.sc (.bool false)))))
 (.ite (.cmp .eql (.atom 0) (.int .i64 1))
 (.next 3 [(.cmp .eql (.atom 0) (.int .i64 1))])
 (.ite (.cmp .eql (.atom 0) (.int .i64 2))
 (.next 3 [(.cmp .eql (.atom 0) (.int .i64 2))])
 (.next 3 [(.pick (.cmp .eql (.atom 0) (.int .i64 5)) (.cmp .eql (.atom 0) (.int .i64 5)) (.cmp .eql (.atom 0) (.int .i64 6)))]))))
theorem zd5:execF Tryz.prog { pub:=[],nojoin:=false } Tryz.f18=z6x:=by kernel_rfl
theorem z7f:callB Tryz.prog 18=true:=by kernel_rfl
theorem zf5:TriOf Tryz.prog 18 Tryz.f18 z6x:=triOf Tryz.func18 zd5
abbrev zkm:FuncId:=23
def z8z:Fm VE:=
 (.loop 3 [.bool,.int .i64] [.bool false,.int .i64 0]
 (.ite (.cmp .lss (.atom 3) (.len (.atom 0)))
 (.chk [] (.inSl (.atom 0) (.atom 3))
 (.load (.elt (.atom 0) (.atom 3) 1) [.int .i64]
 (.ite (.cmp .eql (.atom 4) (.atom 1))
 (.leaf (.sc (.bool true)))
 (.next 3 [.atom 2,(.ar .add .i64 (.atom 3) (.int .i64 1))]))))
 (.leaf (.sc (.bool false)))))
theorem zen:execF Tryz.prog { pub:=[],nojoin:=false } Tryz.f23=z8z:=by kernel_rfl
theorem z2u:callB Tryz.prog 23=true:=by kernel_rfl
theorem zif:TriOf Tryz.prog 23 Tryz.f23 z8z:=triOf Tryz.func23 zen
abbrev zhu:FuncId:=25
def z7g:Fm VE:=
 (.sem (.buildSlice 31 0 #[]) 31 [] (.sc .sl) []
 (.join 2 [.sl]
 (.join 3 [.sl]
 (.sem (.buildSlice 31 0 #[]) 31 [] (.sc .sl) []
 (.loop 7 [.sl,.int .i64] [.atom 13,.int .i64 0]
 (.ite (.cmp .lss (.atom 15) (.len (.atom 12)))
 (.join 10 [.sl]
 (.next 7 [.atom 16,(.ar .add .i64 (.atom 15) (.int .i64 1))])
 (.join 11 [.bool]
 (.ite (.atom 16)
 (.chk [] (.inSl (.atom 12) (.atom 15))
 (.load (.elt (.atom 12) (.atom 15) 1) [.int .i64]
 (.sem (.buildSlice 31 1 #[(0,(.tmp 66))]) 31 [(66,(.sc (.atom 17)))] (.sc .sl) []
 (.sem (.call ⟨.builtin .append,#[.tmp 62,.tmp 67],#[31,31]⟩) 31 [(62,(.sc (.atom 14))),(67,(.sc (.atom 18)))] (.sc .sl) []
 (.next 10 [.atom 19])))))
 (.next 10 [.atom 14]))
 (.chk [] (.inSl (.atom 12) (.atom 15))
 (.load (.elt (.atom 12) (.atom 15) 1) [.int .i64]
 (.ite (.cmp .geq (.atom 16) (.int .i64 0))
 (.load (.elt (.atom 12) (.atom 15) 1) [.int .i64]
 (.next 11 [(.cmp .lss (.atom 17) (.len (.atom 3)))]))
 (.next 11 [.bool false]))))))
 (.leaf (.sc (.atom 14))))))
 (.ite (.cmp .eql (.atom 4) (.int .i64 1))
 (.sem (.buildSlice 31 1 #[(0,(.tmp 37))]) 31 [(37,(.sc (.atom 9)))] (.sc .sl) []
 (.sem (.call ⟨.builtin .append,#[.tmp 35,.tmp 38],#[31,31]⟩) 31 [(35,(.sc (.atom 11))),(38,(.sc (.atom 12)))] (.sc .sl) []
 (.next 3 [.atom 13])))
 (.next 3 [.atom 11])))
 (.ite (.pick (.pick (.pick (.cmp .eql (.atom 4) (.int .i64 0)) (.bool true) (.cmp .eql (.atom 4) (.int .i64 1))) (.bool true) (.cmp .eql (.atom 4) (.int .i64 4))) (.bool true) (.cmp .eql (.atom 4) (.int .i64 6)))
 (.sem (.buildSlice 31 1 #[(0,(.tmp 29))]) 31 [(29,(.sc (.atom 8)))] (.sc .sl) []
 (.sem (.call ⟨.builtin .append,#[.tmp 27,.tmp 30],#[31,31]⟩) 31 [(27,(.sc (.atom 10))),(30,(.sc (.atom 11)))] (.sc .sl) []
 (.next 2 [.atom 12])))
 (.next 2 [.atom 10]))))
theorem zcm:execF Tryz.prog { pub:=[],nojoin:=false } Tryz.f25=z7g:=by kernel_rfl
theorem z73:callB Tryz.prog 25=true:=by kernel_rfl
theorem zel:TriOf Tryz.prog 25 Tryz.f25 z7g:=triOf Tryz.func25 zcm
abbrev zjl:FuncId:=31
def z7v:Fm VE:=
 (.ite (.pick (.pick (.pick (.cmp .neq (.atom 0) (.atom 4)) (.bool true) (.cmp .neq (.atom 1) (.atom 5))) (.bool true) (.scmp .neq (.atom 2) (.atom 6))) (.bool true) (.cmp .neq (.len (.atom 3)) (.len (.atom 7))))
 (.leaf (.sc (.bool false)))
 (.loop 5 [.bool,.int .i64] [.bool false,.int .i64 0]
 (.ite (.cmp .lss (.atom 9) (.len (.atom 3)))
 (.chk [] (.inSl (.atom 3) (.atom 9))
 (.load (.elt (.atom 3) (.atom 9) 4) [.int .i64,.int .i64,.str,.sl]
 (.chk [] (.inSl (.atom 7) (.atom 9))
 (.load (.elt (.atom 7) (.atom 9) 4) [.int .i64,.int .i64,.str,.sl]
 (.call (.fn 31) [(.ag [.atom 10,.atom 11,.atom 12,.atom 13]),(.ag [.atom 14,.atom 15,.atom 16,.atom 17])] (.sc .bool) []
 (.ite (.not (.atom 18))
 (.leaf (.sc (.bool false)))
 (.next 5 [.atom 8,(.ar .add .i64 (.atom 9) (.int .i64 1))])))))))
 (.leaf (.sc (.bool true))))))
theorem zdq:execF Tryz.prog { pub:=[],nojoin:=false } Tryz.f31=z7v:=by kernel_rfl
theorem z49:callB Tryz.prog 31=true:=by kernel_rfl
theorem zg4:TriOf Tryz.prog 31 Tryz.f31 z7v:=triOf Tryz.func31 zdq
abbrev zhf:FuncId:=37
def z6v:Fm VE:=
 (.call (.fn 58) [(.ag [.atom 0,.atom 1,.atom 2,.atom 3])] (.sc (.int .i64)) []
 (.ite (.cmp .neq (.atom 4) (.int .i64 0))
 (.leaf (.sc (.bool false)))
 (.leaf (.sc (.pick (.pick (.pick (.pick (.cmp .eql (.atom 0) (.int .i64 0)) (.bool true) (.cmp .eql (.atom 0) (.int .i64 1))) (.bool true) (.cmp .eql (.atom 0) (.int .i64 2))) (.bool true) (.cmp .eql (.atom 0) (.int .i64 4))) (.bool true) (.pick (.cmp .eql (.atom 0) (.int .i64 5)) (.cmp .eql (.len (.atom 3)) (.int .i64 0)) (.bool false)))))))
theorem zcu:execF Tryz.prog { pub:=[],nojoin:=false } Tryz.f37=z6v:=by kernel_rfl
theorem zgl:callB Tryz.prog 37=true:=by kernel_rfl
theorem zfd:TriOf Tryz.prog 37 Tryz.f37 z6v:=triOf Tryz.func37 zcu
abbrev zib:FuncId:=38
def z78:Fm VE:=
 (.join 3 [.bool]
 (.ite (.atom 1)
 (.leaf (.sc (.int .i64 0)))
 (.join 4 [.bool]
 (.ite (.atom 2)
 (.leaf (.sc (.int .i64 1)))
 (.join 5 [.bool]
 (.ite (.atom 3)
 (.leaf (.sc (.int .i64 1)))
 (.join 6 [.bool]
 (.ite (.atom 4)
 (.leaf (.sc (.int .i64 2)))
 (.join 7 [.bool]
 (.ite (.atom 5)
 (.leaf (.sc (.int .i64 2)))
 (.ite (.pick (.scmp .eql (.atom 0) (.str [118,101,99,116,111,114,45,115,101,116,33])) (.scmp .eql (.atom 0) (.str [118,101,99,116,111,114,45,115,101,116,33])) (.scmp .eql (.atom 0) (.str [115,116,114,105,110,103,45,115,101,116,33])))
 (.leaf (.sc (.int .i64 3)))
 (.leaf (.sc (.int .i64 (-1))))))
 (.ite (.scmp .eql (.atom 0) (.str [109,97,107,101,45,118,101,99,116,111,114]))
 (.next 7 [(.scmp .eql (.atom 0) (.str [109,97,107,101,45,118,101,99,116,111,114]))])
 (.ite (.scmp .eql (.atom 0) (.str [118,101,99,116,111,114,45,114,101,102]))
 (.next 7 [(.scmp .eql (.atom 0) (.str [118,101,99,116,111,114,45,114,101,102]))])
 (.ite (.scmp .eql (.atom 0) (.str [109,97,107,101,45,115,116,114,105,110,103]))
 (.next 7 [(.scmp .eql (.atom 0) (.str [109,97,107,101,45,115,116,114,105,110,103]))])
 (.next 7 [(.pick (.scmp .eql (.atom 0) (.str [115,116,114,105,110,103,45,114,101,102])) (.scmp .eql (.atom 0) (.str [115,116,114,105,110,103,45,114,101,102])) (.scmp .eql (.atom 0) (.str [37,115,101,116,45,98,111,120,33])))]))))))
 (.ite (.scmp .eql (.atom 0) (.str [43]))
 (.next 6 [(.scmp .eql (.atom 0) (.str [43]))])
 (.ite (.scmp .eql (.atom 0) (.str [45]))
 (.next 6 [(.scmp .eql (.atom 0) (.str [45]))])
 (.ite (.scmp .eql (.atom 0) (.str [42]))
 (.next 6 [(.scmp .eql (.atom 0) (.str [42]))])
 (.ite (.scmp .eql (.atom 0) (.str [113,117,111,116,105,101,110,116]))
 (.next 6 [(.scmp .eql (.atom 0) (.str [113,117,111,116,105,101,110,116]))])
 (.ite (.scmp .eql (.atom 0) (.str [114,101,109,97,105,110,100,101,114]))
 (.next 6 [(.scmp .eql (.atom 0) (.str [114,101,109,97,105,110,100,101,114]))])
 (.ite (.scmp .eql (.atom 0) (.str [60]))
 (.next 6 [(.scmp .eql (.atom 0) (.str [60]))])
 (.ite (.scmp .eql (.atom 0) (.str [61]))
 (.next 6 [(.scmp .eql (.atom 0) (.str [61]))])
 (.ite (.scmp .eql (.atom 0) (.str [101,113,63]))
 (.next 6 [(.scmp .eql (.atom 0) (.str [101,113,63]))])
 (.ite (.scmp .eql (.atom 0) (.str [99,111,110,115]))
 (.next 6 [(.scmp .eql (.atom 0) (.str [99,111,110,115]))])
 (.next 6 [(.pick (.scmp .eql (.atom 0) (.str [115,101,116,45,99,97,114,33])) (.scmp .eql (.atom 0) (.str [115,101,116,45,99,97,114,33])) (.scmp .eql (.atom 0) (.str [115,101,116,45,99,100,114,33])))]))))))))))))
 (.ite (.scmp .eql (.atom 0) (.str [99,97,114]))
 (.next 5 [(.scmp .eql (.atom 0) (.str [99,97,114]))])
 (.ite (.scmp .eql (.atom 0) (.str [99,100,114]))
 (.next 5 [(.scmp .eql (.atom 0) (.str [99,100,114]))])
 (.ite (.scmp .eql (.atom 0) (.str [118,101,99,116,111,114,45,108,101,110,103,116,104]))
 (.next 5 [(.scmp .eql (.atom 0) (.str [118,101,99,116,111,114,45,108,101,110,103,116,104]))])
 (.ite (.scmp .eql (.atom 0) (.str [115,116,114,105,110,103,45,108,101,110,103,116,104]))
 (.next 5 [(.scmp .eql (.atom 0) (.str [115,116,114,105,110,103,45,108,101,110,103,116,104]))])
 (.ite (.scmp .eql (.atom 0) (.str [99,104,97,114,45,62,105,110,116,101,103,101,114]))
 (.next 5 [(.scmp .eql (.atom 0) (.str [99,104,97,114,45,62,105,110,116,101,103,101,114]))])
 (.ite (.scmp .eql (.atom 0) (.str [105,110,116,101,103,101,114,45,62,99,104,97,114]))
 (.next 5 [(.scmp .eql (.atom 0) (.str [105,110,116,101,103,101,114,45,62,99,104,97,114]))])
 (.ite (.scmp .eql (.atom 0) (.str [119,114,105,116,101,45,117,56]))
 (.next 5 [(.scmp .eql (.atom 0) (.str [119,114,105,116,101,45,117,56]))])
 (.ite (.scmp .eql (.atom 0) (.str [37,98,111,120]))
 (.next 5 [(.scmp .eql (.atom 0) (.str [37,98,111,120]))])
 (.ite (.scmp .eql (.atom 0) (.str [37,117,110,98,111,120]))
 (.next 5 [(.scmp .eql (.atom 0) (.str [37,117,110,98,111,120]))])
 (.next 5 [(.pick (.scmp .eql (.atom 0) (.str [37,119,105,110,100,33])) (.scmp .eql (.atom 0) (.str [37,119,105,110,100,33])) (.scmp .eql (.atom 0) (.str [37,99,97,108,108,99,99])))]))))))))))))
 (.ite (.scmp .eql (.atom 0) (.str [110,117,108,108,63]))
 (.next 4 [(.scmp .eql (.atom 0) (.str [110,117,108,108,63]))])
 (.ite (.scmp .eql (.atom 0) (.str [112,97,105,114,63]))
 (.next 4 [(.scmp .eql (.atom 0) (.str [112,97,105,114,63]))])
 (.ite (.scmp .eql (.atom 0) (.str [118,101,99,116,111,114,63]))
 (.next 4 [(.scmp .eql (.atom 0) (.str [118,101,99,116,111,114,63]))])
 (.ite (.scmp .eql (.atom 0) (.str [115,116,114,105,110,103,63]))
 (.next 4 [(.scmp .eql (.atom 0) (.str [115,116,114,105,110,103,63]))])
 (.ite (.scmp .eql (.atom 0) (.str [115,121,109,98,111,108,63]))
 (.next 4 [(.scmp .eql (.atom 0) (.str [115,121,109,98,111,108,63]))])
 (.ite (.scmp .eql (.atom 0) (.str [99,104,97,114,63]))
 (.next 4 [(.scmp .eql (.atom 0) (.str [99,104,97,114,63]))])
 (.ite (.scmp .eql (.atom 0) (.str [105,110,116,101,103,101,114,63]))
 (.next 4 [(.scmp .eql (.atom 0) (.str [105,110,116,101,103,101,114,63]))])
 (.ite (.scmp .eql (.atom 0) (.str [98,111,111,108,101,97,110,63]))
 (.next 4 [(.scmp .eql (.atom 0) (.str [98,111,111,108,101,97,110,63]))])
 (.next 4 [(.pick (.scmp .eql (.atom 0) (.str [112,114,111,99,101,100,117,114,101,63])) (.scmp .eql (.atom 0) (.str [112,114,111,99,101,100,117,114,101,63])) (.scmp .eql (.atom 0) (.str [101,111,102,45,111,98,106,101,99,116,63])))])))))))))))
 (.ite (.scmp .eql (.atom 0) (.str [114,101,97,100,45,117,56]))
 (.next 3 [(.scmp .eql (.atom 0) (.str [114,101,97,100,45,117,56]))])
 (.ite (.scmp .eql (.atom 0) (.str [101,114,114,111,114]))
 (.next 3 [(.scmp .eql (.atom 0) (.str [101,114,114,111,114]))])
 (.ite (.scmp .eql (.atom 0) (.str [118,111,105,100]))
 (.next 3 [(.scmp .eql (.atom 0) (.str [118,111,105,100]))])
 (.next 3 [(.pick (.scmp .eql (.atom 0) (.str [37,119,105,110,100,101,114,115])) (.scmp .eql (.atom 0) (.str [37,119,105,110,100,101,114,115])) (.scmp .eql (.atom 0) (.str [37,117,110,115,101,116])))])))))
theorem zcx:execF Tryz.prog { pub:=[],nojoin:=false } Tryz.f38=z78:=by kernel_rfl
theorem zgg:callB Tryz.prog 38=true:=by kernel_rfl
theorem zfc:TriOf Tryz.prog 38 Tryz.f38 z78:=triOf Tryz.func38 zcx
abbrev Z1y:FuncId:=40
def zqo:Fm VE:=
 (.call (.fn 59) [(.ag [.atom 0,.atom 1,.atom 2,.atom 3])] (.sc .ptr) []
 (.chk [] (.some (.atom 4))
 (.load (.padd (.atom 4) 4) [.sl]
 (.loop 4 [.sl,.int .i64] [(.nil 1),.int .i64 0]
 (.ite (.cmp .lss (.atom 7) (.len (.atom 5)))
 (.chk [] (.inSl (.atom 5) (.atom 7))
 (.load (.elt (.atom 5) (.atom 7) 1) [.map]
 (.call (.fn 60) [.sc (.atom 8)] (.sc .sl) []
 (.sem (.buildSlice 105 1 #[(0,(.tmp 18))]) 105 [(18,(.sc (.atom 9)))] (.sc .sl) []
 (.sem (.call ⟨.builtin .append,#[.tmp 16,.tmp 19],#[105,105]⟩) 105 [(16,(.sc (.atom 6))),(19,(.sc (.atom 10)))] (.sc .sl) []
 (.next 4 [.atom 11,(.ar .add .i64 (.atom 7) (.int .i64 1))]))))))
 (.leaf (.sc (.atom 6))))))))
theorem zt0:execF Tryz.prog { pub:=[],nojoin:=false } Tryz.f40=zqo:=by kernel_rfl
theorem zzk:callB Tryz.prog 40=true:=by kernel_rfl
theorem zwz:TriOf Tryz.prog 40 Tryz.f40 zqo:=triOf Tryz.func40 zt0
abbrev zt9:FuncId:=42
def zja:Fm VE:=
 (.ite (.pick (.cmp .lss (.atom 4) (.int .i64 0)) (.bool true) (.cmp .geq (.atom 4) (.len (.atom 3))))
 (.leaf (.sc (.nil 1)))
 (.call (.fn 59) [(.ag [.atom 0,.atom 1,.atom 2,.atom 3])] (.sc .ptr) []
 (.call (.fn 61) [.sc (.atom 5),.sc (.atom 4)] (.sc .map) []
 (.new 134 [(.nil 2)]
 (.store (.atom 7) [.atom 6]
 (.new 105 [(.nil 1)]
 (.chk [] (.inSl (.atom 3) (.atom 4))
 (.load (.padd (.elt (.atom 3) (.atom 4) 7) 0) [.sl]
 (.call (.fn 62) [.sc (.atom 9)] (.sc .any) []
 (.far 7 (.atom 10) [(.sc (.int .i64)),(.ag [.str,.int .i64,.sl,.int .i64,.int .i64,.str,.sl,.int .i64])]
 (.load (.atom 8) [.sl]
 (.load (.atom 7) [.map]
 (.call (.fn 60) [.sc (.atom 21)] (.sc .sl) [((.atom 8),[.atom 20])]
 (.sem (.buildSlice 105 1 #[(0,(.tmp 33))]) 105 [(33,(.sc (.atom 22)))] (.sc .sl) [((.atom 8),[.atom 20])]
 (.sem (.call ⟨.builtin .append,#[.tmp 31,.tmp 34],#[105,105]⟩) 105 [(31,(.sc (.atom 20))),(34,(.sc (.atom 23)))] (.sc .sl) []
 (.store (.atom 8) [.atom 24]
 (.load (.atom 7) [.map]
 (.call (.fn 63) [.sc (.atom 25),(.ag [.atom 12,.atom 13,.atom 14,.atom 15,.atom 16,.atom 17,.atom 18,.atom 19])] (.tu []) []
 (.next 7 [])))))))))
 (.load (.atom 8) [.sl]
 (.call (.fn 64) [.sc (.atom 11)] (.tu []) []
 (.load (.atom 8) [.sl]
 (.leaf (.sc (.atom 12))))))))))))))))
theorem zn9:execM Tryz.prog { pub:=[5,6],nojoin:=false,far:=[(.sc (.int .i64)),(.ag [.str,.int .i64,.sl,.int .i64,.int .i64,.str,.sl,.int .i64])] } Tryz.f42=zja:=by kernel_rfl
theorem zrt:callB Tryz.prog 42=true:=by kernel_rfl
theorem zpn:zva Tryz.prog 42 Tryz.f42 zja:=Z1p Tryz.func42 zn9
abbrev zth:FuncId:=44
def zio:Fm VE:=
 (.ite (.pick (.cmp .lss (.atom 4) (.int .i64 0)) (.bool true) (.cmp .geq (.atom 4) (.len (.atom 3))))
 (.leaf (.sc (.nil 1)))
 (.chk [] (.inSl (.atom 3) (.atom 4))
 (.load (.padd (.elt (.atom 3) (.atom 4) 7) 1) [.int .i64,.int .i64,.sl,.int .i64,.int .i64,.int .i64]
 (.call (.fn 66) [(.ag [.atom 5,.atom 6,.atom 7,.atom 8,.atom 9,.atom 10])] (.sc .bool) []
 (.ite (.pick (.pick (.not (.atom 11)) (.bool true) (.cmp .lss (.atom 9) (.int .i64 0))) (.bool true) (.cmp .geq (.atom 9) (.len (.atom 3))))
 (.leaf (.sc (.nil 1)))
 (.call (.fn 59) [(.ag [.atom 0,.atom 1,.atom 2,.atom 3])] (.sc .ptr) []
 (.chk [] (.some (.atom 12))
 (.load (.padd (.atom 12) 4) [.sl]
 (.chk [] (.inSl (.atom 13) (.atom 9))
 (.load (.elt (.atom 13) (.atom 9) 1) [.map]
 (.call (.fn 67) [.sc (.atom 14),.sc (.atom 8)] (.tu []) []
 (.call (.fn 60) [.sc (.atom 14)] (.sc .sl) []
 (.leaf (.sc (.atom 15)))))))))))))))
theorem znb:execF Tryz.prog { pub:=[],nojoin:=false } Tryz.f44=zio:=by kernel_rfl
theorem zri:callB Tryz.prog 44=true:=by kernel_rfl
theorem zpo:TriOf Tryz.prog 44 Tryz.f44 zio:=triOf Tryz.func44 znb
abbrev zhx:FuncId:=58
def z75:Fm VE:=
 (.call (.fn 85) [(.ag [.atom 0,.atom 1,.atom 2,.atom 3]),.sc (.int .i64 0),.sc (.int .i64 0)] (.tu [(false,[.int .i64]),(false,[.int .i64])]) []
 (.leaf (.sc (.atom 5))))
theorem zd4:execF Tryz.prog { pub:=[],nojoin:=false } Tryz.f58=z75:=by kernel_rfl
theorem z6w:callB Tryz.prog 58=true:=by kernel_rfl
theorem zfm:TriOf Tryz.prog 58 Tryz.f58 z75:=triOf Tryz.func58 zd4
abbrev zt6:FuncId:=59
def zjg:Fm VE:=
 (.sem (.makeSlice 129 (.tmp 13) (.tmp 13)) 129 [(13,(.sc (.len (.atom 3)))),(13,(.sc (.len (.atom 3))))] (.sc .sl) []
 (.new 131 [.atom 0,.atom 1,.atom 2,.atom 3,.atom 4]
 (.chk [] (.some (.atom 5))
 (.load (.padd (.atom 5) 4) [.sl]
 (.loop 4 [.int .i64] [.int .i64 0]
 (.ite (.cmp .lss (.atom 7) (.len (.atom 6)))
 (.load (.padd (.atom 5) 4) [.sl]
 (.sem (.makeMap 134 none) 134 [] (.sc .map) []
 (.chk [] (.inSl (.atom 8) (.atom 7))
 (.store (.elt (.atom 8) (.atom 7) 1) [.atom 9]
 (.next 4 [(.ar .add .i64 (.atom 7) (.int .i64 1))])))))
 (.loop 9 [.bool] [.bool true]
 (.ite (.atom 8)
 (.loop 14 [.bool,.int .i64] [.bool false,(.ar .sub .i64 (.len (.atom 3)) (.int .i64 1))]
 (.ite (.cmp .geq (.atom 10) (.int .i64 0))
 (.join 17 [.bool]
 (.next 14 [.atom 11,(.ar .sub .i64 (.atom 10) (.int .i64 1))])
 (.call (.fn 61) [.sc (.atom 5),.sc (.atom 10)] (.sc .map) []
 (.new 134 [(.nil 2)]
 (.store (.atom 12) [.atom 11]
 (.chk [] (.inSl (.atom 3) (.atom 10))
 (.load (.padd (.elt (.atom 3) (.atom 10) 7) 0) [.sl]
 (.call (.fn 62) [.sc (.atom 13)] (.sc .any) []
 (.far 21 (.atom 14) [(.sc (.int .i64)),(.ag [.str,.int .i64,.sl,.int .i64,.int .i64,.str,.sl,.int .i64])]
 (.load (.atom 12) [.map]
 (.call (.fn 63) [.sc (.atom 24),(.ag [.atom 16,.atom 17,.atom 18,.atom 19,.atom 20,.atom 21,.atom 22,.atom 23])] (.tu []) []
 (.next 21 [])))
 (.load (.atom 12) [.map]
 (.load (.padd (.atom 5) 4) [.sl]
 (.chk [] (.inSl (.atom 16) (.atom 10))
 (.load (.elt (.atom 16) (.atom 10) 1) [.map]
 (.sem (.call ⟨.builtin .len,#[.tmp 57],#[134]⟩) 3 [(57,(.sc (.atom 15)))] (.sc (.int .i64)) [((.elt (.atom 16) (.atom 10) 1),[.atom 17]),((.padd (.atom 5) 4),[.atom 16])]
 (.sem (.call ⟨.builtin .len,#[.tmp 65],#[134]⟩) 3 [(65,(.sc (.atom 17)))] (.sc (.int .i64)) []
 (.ite (.cmp .neq (.atom 18) (.atom 19))
 (.load (.padd (.atom 5) 4) [.sl]
 (.load (.atom 12) [.map]
 (.chk [] (.inSl (.atom 20) (.atom 10))
 (.store (.elt (.atom 20) (.atom 10) 1) [.atom 21]
 (.next 17 [.bool true])))))
 (.next 17 [.atom 9]))))))))))))))))
 (.next 9 [.atom 9])))
 (.leaf (.sc (.atom 5)))))))))))
theorem znf:execM Tryz.prog { pub:=[7,16],nojoin:=false,far:=[(.sc (.int .i64)),(.ag [.str,.int .i64,.sl,.int .i64,.int .i64,.str,.sl,.int .i64])] } Tryz.f59=zjg:=by kernel_rfl
theorem zbb:callB Tryz.prog 59=true:=by kernel_rfl
theorem zqr:zva Tryz.prog 59 Tryz.f59 zjg:=Z1p Tryz.func59 znf
abbrev zgj:FuncId:=60
def z62:Fm VE:=
 (.sem (.range 134 (.tmp 5)) 0 [(5,(.sc (.atom 0)))] (.sc .ptr) []
 (.loop 4 [.sl] [(.nil 1)]
 (.join 5 [.bool]
 (.ite (.atom 3)
 (.sem (.entry (.tmp 6)) 0 [(6,(.sc (.atom 1)))] (.tu [(false,[.int .i64]),(false,[.int .i64])]) []
 (.sem (.buildSlice 31 1 #[(0,(.tmp 12))]) 31 [(12,(.sc (.atom 4)))] (.sc .sl) []
 (.sem (.call ⟨.builtin .append,#[.tmp 11,.tmp 13],#[31,31]⟩) 31 [(11,(.sc (.atom 2))),(13,(.sc (.atom 6)))] (.sc .sl) []
 (.next 4 [.atom 7]))))
 (.call (.fn 86) [.sc (.atom 2)] (.tu []) []
 (.leaf (.sc (.atom 2)))))
 (.alt (.next (.tmp 6) false) 0 [(6,(.sc (.atom 1)))] (.tu [(false,[.bool])]) (.tu [(false,[.bool]),(false,[.int .i64]),(false,[.int .i64])])
 (.next 5 [.atom 3])
 (.next 5 [.atom 3])))))
theorem zc9:execF Tryz.prog { pub:=[],nojoin:=false } Tryz.f60=z62:=by kernel_rfl
theorem z3g:callB Tryz.prog 60=true:=by kernel_rfl
theorem zdk:TriOf Tryz.prog 60 Tryz.f60 z62:=triOf Tryz.func60 zc9
abbrev zoq:FuncId:=61
def zde:Fm VE:=
 (.chk [] (.some (.atom 0))
 (.load (.padd (.padd (.atom 0) 0) 3) [.sl]
 (.chk [] (.inSl (.atom 2) (.atom 1))
 (.load (.padd (.elt (.atom 2) (.atom 1) 7) 1) [.int .i64,.int .i64,.sl,.int .i64,.int .i64,.int .i64]
 (.sem (.makeMap 134 none) 134 [] (.sc .map) []
 (.call (.fn 87) [(.ag [.atom 3,.atom 4,.atom 5,.atom 6,.atom 7,.atom 8])] (.sc .sl) []
 (.loop 5 [.int .i64] [.int .i64 0]
 (.ite (.cmp .lss (.atom 11) (.len (.atom 10)))
 (.join 8 []
 (.next 5 [(.ar .add .i64 (.atom 11) (.int .i64 1))])
 (.chk [] (.inSl (.atom 10) (.atom 11))
 (.load (.elt (.atom 10) (.atom 11) 1) [.int .i64]
 (.join 10 [.bool]
 (.ite (.atom 13)
 (.load (.padd (.atom 0) 4) [.sl]
 (.chk [] (.inSl (.atom 14) (.atom 12))
 (.load (.elt (.atom 14) (.atom 12) 1) [.map]
 (.call (.fn 88) [.sc (.atom 9),.sc (.atom 15)] (.tu []) []
 (.next 8 [])))))
 (.next 8 []))
 (.ite (.cmp .geq (.atom 12) (.int .i64 0))
 (.load (.padd (.atom 0) 4) [.sl]
 (.next 10 [(.cmp .lss (.atom 12) (.len (.atom 13)))]))
 (.next 10 [.bool false]))))))
 (.join 8 []
 (.call (.fn 90) [(.ag [.atom 3,.atom 4,.atom 5,.atom 6,.atom 7,.atom 8])] (.sc .sl) []
 (.call (.fn 89) [.sc (.atom 9),.sc (.atom 12)] (.tu []) []
 (.leaf (.sc (.atom 9)))))
 (.call (.fn 66) [(.ag [.atom 3,.atom 4,.atom 5,.atom 6,.atom 7,.atom 8])] (.sc .bool) []
 (.ite (.atom 12)
 (.call (.fn 67) [.sc (.atom 9),.sc (.atom 6)] (.tu []) []
 (.next 8 []))
 (.next 8 []))))))))))))
theorem zk9:execF Tryz.prog { pub:=[],nojoin:=false } Tryz.f61=zde:=by kernel_rfl
theorem zdc:callB Tryz.prog 61=true:=by kernel_rfl
theorem zls:TriOf Tryz.prog 61 Tryz.f61 zde:=triOf Tryz.func61 zk9
abbrev z69:FuncId:=62
def z2m:Fm VE:=
 (.new 50 [.atom 0]
 (.sem (.makeFunc (.func 91) #[] #[.tmp 1]) 138 [(1,(.sc (.atom 1)))] (.sc .any) []
 (.leaf (.sc (.atom 2)))))
theorem z59:execF Tryz.prog { pub:=[1],nojoin:=false } Tryz.f62=z2m:=by kernel_rfl
theorem z2l:callB Tryz.prog 62=true:=by kernel_rfl
theorem z5t:TriOf Tryz.prog 62 Tryz.f62 z2m:=triOf Tryz.func62 z59
abbrev zb3:FuncId:=63
def zgw:Fm VE:=
 (.join 1 []
 (.call (.fn 89) [.sc (.atom 0),.sc (.atom 3)] (.tu []) []
 (.leaf (.tu [])))
 (.ite (.scmp .neq (.atom 1) (.str [116,105,101]))
 (.call (.fn 67) [.sc (.atom 0),.sc (.atom 2)] (.tu []) []
 (.next 1 []))
 (.next 1 [])))
theorem zmi:execF Tryz.prog { pub:=[],nojoin:=false } Tryz.f63=zgw:=by kernel_rfl
theorem zh6:callB Tryz.prog 63=true:=by kernel_rfl
theorem zp1:TriOf Tryz.prog 63 Tryz.f63 zgw:=triOf Tryz.func63 zmi
abbrev z9s:FuncId:=64
def z3i:Fm VE:=
 (.loop 1 [.int .i64,.int .i64] [.int .i64 0,(.ar .sub .i64 (.len (.atom 0)) (.int .i64 1))]
 (.ite (.cmp .lss (.atom 1) (.atom 2))
 (.chk [] (.inSl (.atom 0) (.atom 2))
 (.load (.elt (.atom 0) (.atom 2) 1) [.sl]
 (.chk [] (.inSl (.atom 0) (.atom 1))
 (.load (.elt (.atom 0) (.atom 1) 1) [.sl]
 (.store (.elt (.atom 0) (.atom 1) 1) [.atom 3]
 (.store (.elt (.atom 0) (.atom 2) 1) [.atom 4]
 (.next 1 [(.ar .add .i64 (.atom 1) (.int .i64 1)),(.ar .sub .i64 (.atom 2) (.int .i64 1))])))))))
 (.leaf (.tu []))))
theorem z6k:execF Tryz.prog { pub:=[],nojoin:=false } Tryz.f64=z3i:=by kernel_rfl
theorem z8j:callB Tryz.prog 64=true:=by kernel_rfl
theorem z8d:TriOf Tryz.prog 64 Tryz.f64 z3i:=triOf Tryz.func64 z6k
abbrev ztr:FuncId:=66
def zl1:Fm VE:=
 (.leaf (.sc (.pick (.cmp .eql (.atom 0) (.int .i64 4)) (.bool true) (.cmp .eql (.atom 0) (.int .i64 6)))))
theorem zp2:execF Tryz.prog { pub:=[],nojoin:=false } Tryz.f66=zl1:=by kernel_rfl
theorem zks:callB Tryz.prog 66=true:=by kernel_rfl
theorem zro:TriOf Tryz.prog 66 Tryz.f66 zl1:=triOf Tryz.func66 zp2
abbrev z9f:FuncId:=67
def z7z:Fm VE:=
 (.sem (.call ⟨.builtin .delete,#[.tmp 4,.tmp 5],#[134,3]⟩) 0 [(4,(.sc (.atom 0))),(5,(.sc (.atom 1)))] (.tu []) []
 (.leaf (.tu [])))
theorem zdi:execF Tryz.prog { pub:=[],nojoin:=false } Tryz.f67=z7z:=by kernel_rfl
theorem z4b:callB Tryz.prog 67=true:=by kernel_rfl
theorem zgr:TriOf Tryz.prog 67 Tryz.f67 z7z:=triOf Tryz.func67 zdi
abbrev zj6:FuncId:=73
def z82:Fm VE:=
 (.join 2 [.bool]
 (.ite (.atom 1)
 (.leaf (.sc (.bool false)))
 (.loop 5 [.bool,.int .i64] [.bool false,.int .i64 0]
 (.ite (.cmp .lss (.atom 3) (.slen (.atom 0)))
 (.chk [] (.inStr (.atom 0) (.atom 3))
 (.call (.fn 101) [(.sc (.sidx (.atom 0) (.atom 3)))] (.sc .bool) []
 (.ite (.not (.atom 4))
 (.leaf (.sc (.bool false)))
 (.next 5 [.atom 2,(.ar .add .i64 (.atom 3) (.int .i64 1))]))))
 (.leaf (.sc (.bool true))))))
 (.ite (.pick (.pick (.cmp .lss (.slen (.atom 0)) (.int .i64 1)) (.bool true) (.cmp .gtr (.slen (.atom 0)) (.int .i64 64))) (.bool true) (.scmp .eql (.atom 0) (.str [46])))
 (.next 2 [.bool true])
 (.call (.fn 100) [.sc (.atom 0)] (.sc .bool) []
 (.next 2 [.atom 1]))))
theorem zdl:execF Tryz.prog { pub:=[],nojoin:=false } Tryz.f73=z82:=by kernel_rfl
theorem z89:callB Tryz.prog 73=true:=by kernel_rfl
theorem zgh:TriOf Tryz.prog 73 Tryz.f73 z82:=triOf Tryz.func73 zdl
abbrev zjc:FuncId:=74
def z88:Fm VE:=
 (.ite (.cmp .eql (.len (.atom 0)) (.int .i64 0))
 (.leaf (.ag [.atom 1,.atom 2,.atom 3,.atom 4]))
 (.sem (.buildSlice 37 0 #[]) 37 [] (.sc .sl) []
 (.sem (.call ⟨.builtin .append,#[.tmp 10,.tmp 11],#[37,37]⟩) 37 [(10,(.sc (.atom 5))),(11,(.sc (.atom 0)))] (.sc .sl) []
 (.ite (.pick (.cmp .eql (.atom 1) (.int .i64 5)) (.bool true) (.cmp .eql (.atom 1) (.int .i64 6)))
 (.sem (.call ⟨.builtin .append,#[.tmp 23,.tmp 25],#[37,37]⟩) 37 [(23,(.sc (.atom 6))),(25,(.sc (.atom 4)))] (.sc .sl) []
 (.leaf (.ag [.atom 1,.int .i64 0,(.str []),.atom 7])))
 (.sem (.buildSlice 37 1 #[(0,(.tmp 29))]) 37 [(29,(.ag [.atom 1,.atom 2,.atom 3,.atom 4]))] (.sc .sl) []
 (.sem (.call ⟨.builtin .append,#[.tmp 28,.tmp 30],#[37,37]⟩) 37 [(28,(.sc (.atom 6))),(30,(.sc (.atom 7)))] (.sc .sl) []
 (.leaf (.ag [.int .i64 6,.int .i64 0,(.str []),.atom 8]))))))))
theorem zdo:execF Tryz.prog { pub:=[],nojoin:=false } Tryz.f74=z88:=by kernel_rfl
theorem zi6:callB Tryz.prog 74=true:=by kernel_rfl
theorem zgc:TriOf Tryz.prog 74 Tryz.f74 z88:=triOf Tryz.func74 zdo
abbrev zi7:FuncId:=85
def z79:Fm VE:=
 (.ite (.cmp .eql (.atom 5) (.int .i64 4096))
 (.leaf (.tu [(false,[.atom 5]),(false,[.int .i64 22])]))
 (.call (.fn 107) [(.ag [.atom 0,.atom 1,.atom 2,.atom 3])] (.sc .bool) []
 (.ite (.pick (.atom 6) (.cmp .eql (.atom 4) (.int .i64 32)) (.bool false))
 (.leaf (.tu [(false,[(.ar .add .i64 (.atom 5) (.int .i64 1))]),(false,[.int .i64 21])]))
 (.call (.fn 108) [(.ag [.atom 0,.atom 1,.atom 2,.atom 3])] (.sc .bool) []
 (.ite (.not (.atom 7))
 (.leaf (.tu [(false,[(.ar .add .i64 (.atom 5) (.int .i64 1))]),(false,[.int .i64 20])]))
 (.loop 11 [.int .i64,.int .i64,.int .i64,.int .i64,.int .i64] [(.ar .add .i64 (.atom 5) (.int .i64 1)),.int .i64 0,.int .i64 0,.int .i64 0,.int .i64 0]
 (.ite (.cmp .lss (.atom 12) (.len (.atom 3)))
 (.chk [] (.inSl (.atom 3) (.atom 12))
 (.load (.elt (.atom 3) (.atom 12) 4) [.int .i64,.int .i64,.str,.sl]
 (.call (.fn 85) [(.ag [.atom 13,.atom 14,.atom 15,.atom 16]),(.sc (.ar .add .i64 (.atom 4) (.int .i64 1))),.sc (.atom 8)] (.tu [(false,[.int .i64]),(false,[.int .i64])]) []
 (.ite (.cmp .neq (.atom 18) (.int .i64 0))
 (.leaf (.tu [(false,[.atom 17]),(false,[.atom 18])]))
 (.next 11 [.atom 17,.atom 9,.atom 10,.atom 18,(.ar .add .i64 (.atom 12) (.int .i64 1))])))))
 (.leaf (.tu [(false,[.atom 8]),(false,[.int .i64 0])])))))))))
theorem zct:execF Tryz.prog { pub:=[],nojoin:=false } Tryz.f85=z79:=by kernel_rfl
theorem z7b:callB Tryz.prog 85=true:=by kernel_rfl
theorem zg1:TriOf Tryz.prog 85 Tryz.f85 z79:=triOf Tryz.func85 zct
abbrev zvu:FuncId:=87
def zku:Fm VE:=
 (.join 3 [.bool]
 (.ite (.atom 6)
 (.sem (.buildSlice 31 1 #[(0,(.tmp 10))]) 31 [(10,(.sc (.atom 4)))] (.sc .sl) []
 (.leaf (.sc (.atom 7))))
 (.ite (.cmp .eql (.atom 0) (.int .i64 1))
 (.sem (.buildSlice 31 2 #[(0,(.tmp 15)),(1,(.tmp 17))]) 31 [(15,(.sc (.atom 4))),(17,(.sc (.atom 5)))] (.sc .sl) []
 (.leaf (.sc (.atom 7))))
 (.leaf (.sc (.nil 1)))))
 (.ite (.cmp .eql (.atom 0) (.int .i64 0))
 (.next 3 [(.cmp .eql (.atom 0) (.int .i64 0))])
 (.next 3 [(.pick (.cmp .eql (.atom 0) (.int .i64 4)) (.cmp .eql (.atom 0) (.int .i64 4)) (.cmp .eql (.atom 0) (.int .i64 6)))])))
theorem zob:execF Tryz.prog { pub:=[],nojoin:=false } Tryz.f87=zku:=by kernel_rfl
theorem zt7:callB Tryz.prog 87=true:=by kernel_rfl
theorem zrk:TriOf Tryz.prog 87 Tryz.f87 zku:=triOf Tryz.func87 zob
abbrev z94:FuncId:=88
def z86:Fm VE:=
 (.sem (.range 134 (.tmp 5)) 0 [(5,(.sc (.atom 1)))] (.sc .ptr) []
 (.loop 1 [] []
 (.join 2 [.bool]
 (.ite (.atom 3)
 (.sem (.entry (.tmp 6)) 0 [(6,(.sc (.atom 2)))] (.tu [(false,[.int .i64]),(false,[.int .i64])]) []
 (.sem (.mapUpdate 134 (.tmp 11) (.tmp 12) (.const (.int .i64 1))) 0 [(11,(.sc (.atom 0))),(12,(.sc (.atom 4)))] (.tu []) []
 (.next 1 [])))
 (.leaf (.tu [])))
 (.alt (.next (.tmp 6) false) 0 [(6,(.sc (.atom 2)))] (.tu [(false,[.bool])]) (.tu [(false,[.bool]),(false,[.int .i64]),(false,[.int .i64])])
 (.next 2 [.atom 3])
 (.next 2 [.atom 3])))))
theorem zdj:execF Tryz.prog { pub:=[],nojoin:=false } Tryz.f88=z86:=by kernel_rfl
theorem zhg:callB Tryz.prog 88=true:=by kernel_rfl
theorem zgi:TriOf Tryz.prog 88 Tryz.f88 z86:=triOf Tryz.func88 zdj
abbrev z9u:FuncId:=89
def z8y:Fm VE:=
 (.loop 1 [.int .i64] [.int .i64 0]
 (.ite (.cmp .lss (.atom 2) (.len (.atom 1)))
 (.chk [] (.inSl (.atom 1) (.atom 2))
 (.load (.elt (.atom 1) (.atom 2) 1) [.int .i64]
 (.sem (.mapUpdate 134 (.tmp 12) (.tmp 13) (.const (.int .i64 1))) 0 [(12,(.sc (.atom 0))),(13,(.sc (.atom 3)))] (.tu []) []
 (.next 1 [(.ar .add .i64 (.atom 2) (.int .i64 1))]))))
 (.leaf (.tu []))))
theorem zfn:execF Tryz.prog { pub:=[],nojoin:=false } Tryz.f89=z8y:=by kernel_rfl
theorem z9c:callB Tryz.prog 89=true:=by kernel_rfl
theorem zi1:TriOf Tryz.prog 89 Tryz.f89 z8y:=triOf Tryz.func89 zfn
abbrev zv5:FuncId:=90
def zkt:Fm VE:=
 (.join 3 [.bool]
 (.ite (.atom 6)
 (.sem (.buildSlice 31 1 #[(0,(.tmp 11))]) 31 [(11,(.sc (.atom 1)))] (.sc .sl) []
 (.leaf (.sc (.atom 7))))
 (.ite (.pick (.cmp .eql (.atom 0) (.int .i64 3)) (.cmp .eql (.atom 0) (.int .i64 3)) (.cmp .eql (.atom 0) (.int .i64 4)))
 (.sem (.buildSlice 31 1 #[(0,(.tmp 17))]) 31 [(17,(.sc (.atom 1)))] (.sc .sl) []
 (.sem (.call ⟨.builtin .append,#[.tmp 18,.tmp 20],#[31,31]⟩) 31 [(18,(.sc (.atom 7))),(20,(.sc (.atom 2)))] (.sc .sl) []
 (.leaf (.sc (.atom 8)))))
 (.leaf (.sc (.nil 1)))))
 (.ite (.cmp .eql (.atom 0) (.int .i64 1))
 (.next 3 [(.cmp .eql (.atom 0) (.int .i64 1))])
 (.ite (.cmp .eql (.atom 0) (.int .i64 2))
 (.next 3 [(.cmp .eql (.atom 0) (.int .i64 2))])
 (.next 3 [(.pick (.cmp .eql (.atom 0) (.int .i64 5)) (.cmp .eql (.atom 0) (.int .i64 5)) (.cmp .eql (.atom 0) (.int .i64 6)))]))))
theorem zou:execF Tryz.prog { pub:=[],nojoin:=false } Tryz.f90=zkt:=by kernel_rfl
theorem ztf:callB Tryz.prog 90=true:=by kernel_rfl
theorem zr4:TriOf Tryz.prog 90 Tryz.f90 zkt:=triOf Tryz.func90 zou
abbrev zgp:FuncId:=100
def z5y:Fm VE:=
 (.chk [((.cmp .gtr (.slen (.atom 0)) (.int .i64 0)),true)] (.inStr (.atom 0) (.int .i64 0))
 (.chk [((.cmp .gtr (.slen (.atom 0)) (.int .i64 0)),true),((.cmp .eql (.sidx (.atom 0) (.int .i64 0)) (.int .u8 43)),false)] (.inStr (.atom 0) (.int .i64 0))
 (.loop 6 [.bool,.int .i64] [.bool false,(.pick (.pick (.cmp .gtr (.slen (.atom 0)) (.int .i64 0)) (.pick (.cmp .eql (.sidx (.atom 0) (.int .i64 0)) (.int .u8 43)) (.bool true) (.cmp .eql (.sidx (.atom 0) (.int .i64 0)) (.int .u8 45))) (.bool false)) (.int .i64 1) (.int .i64 0))]
 (.ite (.cmp .lss (.atom 2) (.slen (.atom 0)))
 (.chk [] (.inStr (.atom 0) (.atom 2))
 (.call (.fn 112) [(.sc (.sidx (.atom 0) (.atom 2)))] (.sc .bool) []
 (.ite (.not (.atom 3))
 (.leaf (.sc (.bool false)))
 (.next 6 [.atom 1,(.ar .add .i64 (.atom 2) (.int .i64 1))]))))
 (.leaf (.sc (.cmp .gtr (.slen (.atom 0)) (.pick (.pick (.cmp .gtr (.slen (.atom 0)) (.int .i64 0)) (.pick (.cmp .eql (.sidx (.atom 0) (.int .i64 0)) (.int .u8 43)) (.bool true) (.cmp .eql (.sidx (.atom 0) (.int .i64 0)) (.int .u8 45))) (.bool false)) (.int .i64 1) (.int .i64 0)))))))))
theorem zcb:execF Tryz.prog { pub:=[],nojoin:=false } Tryz.f100=z5y:=by kernel_rfl
theorem zfs:callB Tryz.prog 100=true:=by kernel_rfl
theorem ze0:TriOf Tryz.prog 100 Tryz.f100 z5y:=triOf Tryz.func100 zcb
abbrev zjd:FuncId:=101
def z7t:Fm VE:=
 (.call (.fn 112) [.sc (.atom 0)] (.sc .bool) []
 (.ite (.pick (.pick (.atom 1) (.bool true) (.pick (.cmp .geq (.atom 0) (.int .u8 97)) (.cmp .leq (.atom 0) (.int .u8 122)) (.bool false))) (.bool true) (.pick (.cmp .geq (.atom 0) (.int .u8 65)) (.cmp .leq (.atom 0) (.int .u8 90)) (.bool false)))
 (.leaf (.sc (.bool true)))
 (.loop 6 [.bool,.int .i64] [.bool false,.int .i64 0]
 (.ite (.cmp .lss (.atom 3) (.int .i64 18))
 (.chk [] (.inStr (.str [33,36,37,38,42,47,58,60,61,62,63,94,95,126,43,45,46,64]) (.atom 3))
 (.ite (.cmp .eql (.sidx (.str [33,36,37,38,42,47,58,60,61,62,63,94,95,126,43,45,46,64]) (.atom 3)) (.atom 0))
 (.leaf (.sc (.bool true)))
 (.next 6 [.atom 2,(.ar .add .i64 (.atom 3) (.int .i64 1))])))
 (.leaf (.sc (.bool false)))))))
theorem zec:execF Tryz.prog { pub:=[],nojoin:=false } Tryz.f101=z7t:=by kernel_rfl
theorem zid:callB Tryz.prog 101=true:=by kernel_rfl
theorem zgq:TriOf Tryz.prog 101 Tryz.f101 z7t:=triOf Tryz.func101 zec
abbrev zgm:FuncId:=107
def z6b:Fm VE:=
 (.leaf (.sc (.pick (.pick (.cmp .eql (.atom 0) (.int .i64 5)) (.bool true) (.cmp .eql (.atom 0) (.int .i64 6))) (.bool true) (.cmp .eql (.atom 0) (.int .i64 7)))))
theorem zcj:execF Tryz.prog { pub:=[],nojoin:=false } Tryz.f107=z6b:=by kernel_rfl
theorem zf1:callB Tryz.prog 107=true:=by kernel_rfl
theorem zeb:TriOf Tryz.prog 107 Tryz.f107 z6b:=triOf Tryz.func107 zcj
abbrev zjt:FuncId:=108
def z7o:Fm VE:=
 (.ite (.cmp .eql (.atom 0) (.int .i64 0))
 (.leaf (.sc (.pick (.pick (.scmp .eql (.atom 2) (.str [])) (.cmp .eql (.len (.atom 3)) (.int .i64 0)) (.bool false)) (.pick (.cmp .eql (.atom 1) (.int .i64 0)) (.bool true) (.cmp .eql (.atom 1) (.int .i64 1))) (.bool false))))
 (.ite (.cmp .eql (.atom 0) (.int .i64 1))
 (.leaf (.sc (.pick (.pick (.pick (.scmp .eql (.atom 2) (.str [])) (.cmp .eql (.len (.atom 3)) (.int .i64 0)) (.bool false)) (.cmp .geq (.atom 1) (.int .i64 (-1152921504606846976))) (.bool false)) (.cmp .lss (.atom 1) (.int .i64 1152921504606846976)) (.bool false))))
 (.ite (.cmp .eql (.atom 0) (.int .i64 2))
 (.leaf (.sc (.pick (.pick (.pick (.scmp .eql (.atom 2) (.str [])) (.cmp .eql (.len (.atom 3)) (.int .i64 0)) (.bool false)) (.cmp .geq (.atom 1) (.int .i64 0)) (.bool false)) (.cmp .leq (.atom 1) (.int .i64 255)) (.bool false))))
 (.ite (.cmp .eql (.atom 0) (.int .i64 3))
 (.leaf (.sc (.pick (.pick (.cmp .eql (.atom 1) (.int .i64 0)) (.cmp .eql (.len (.atom 3)) (.int .i64 0)) (.bool false)) (.cmp .leq (.slen (.atom 2)) (.int .i64 4096)) (.bool false))))
 (.ite (.cmp .eql (.atom 0) (.int .i64 4))
 (.join 10 [.bool]
 (.leaf (.sc (.atom 4)))
 (.ite (.pick (.cmp .eql (.atom 1) (.int .i64 0)) (.cmp .eql (.len (.atom 3)) (.int .i64 0)) (.bool false))
 (.call (.fn 73) [.sc (.atom 2)] (.sc .bool) []
 (.next 10 [.atom 4]))
 (.next 10 [.bool false])))
 (.ite (.pick (.cmp .eql (.atom 0) (.int .i64 5)) (.cmp .eql (.atom 0) (.int .i64 5)) (.cmp .eql (.atom 0) (.int .i64 7)))
 (.leaf (.sc (.pick (.cmp .eql (.atom 1) (.int .i64 0)) (.scmp .eql (.atom 2) (.str [])) (.bool false))))
 (.ite (.cmp .eql (.atom 0) (.int .i64 6))
 (.join 14 [.bool]
 (.leaf (.sc (.atom 4)))
 (.chk [((.pick (.pick (.cmp .eql (.atom 1) (.int .i64 0)) (.scmp .eql (.atom 2) (.str [])) (.bool false)) (.cmp .geq (.len (.atom 3)) (.int .i64 2)) (.bool false)),true)] (.inSl (.atom 3) (.ar .sub .i64 (.len (.atom 3)) (.int .i64 1)))
 (.chk [((.pick (.pick (.cmp .eql (.atom 1) (.int .i64 0)) (.scmp .eql (.atom 2) (.str [])) (.bool false)) (.cmp .geq (.len (.atom 3)) (.int .i64 2)) (.bool false)),true)] (.some (.elt (.atom 3) (.ar .sub .i64 (.len (.atom 3)) (.int .i64 1)) 4))
 (.ite (.pick (.pick (.cmp .eql (.atom 1) (.int .i64 0)) (.scmp .eql (.atom 2) (.str [])) (.bool false)) (.cmp .geq (.len (.atom 3)) (.int .i64 2)) (.bool false))
 (.load (.padd (.elt (.atom 3) (.ar .sub .i64 (.len (.atom 3)) (.int .i64 1)) 4) 0) [.int .i64]
 (.chk [((.cmp .neq (.atom 4) (.int .i64 5)),true)] (.inSl (.atom 3) (.ar .sub .i64 (.len (.atom 3)) (.int .i64 1)))
 (.chk [((.cmp .neq (.atom 4) (.int .i64 5)),true)] (.some (.elt (.atom 3) (.ar .sub .i64 (.len (.atom 3)) (.int .i64 1)) 4))
 (.ite (.cmp .neq (.atom 4) (.int .i64 5))
 (.load (.padd (.elt (.atom 3) (.ar .sub .i64 (.len (.atom 3)) (.int .i64 1)) 4) 0) [.int .i64]
 (.next 14 [(.cmp .neq (.atom 5) (.int .i64 6))]))
 (.next 14 [.bool false])))))
 (.next 14 [.bool false])))))
 (.leaf (.sc (.bool false))))))))))
theorem ze9:execF Tryz.prog { pub:=[],nojoin:=false } Tryz.f108=z7o:=by kernel_rfl
theorem zhj:callB Tryz.prog 108=true:=by kernel_rfl
theorem zg6:TriOf Tryz.prog 108 Tryz.f108 z7o:=triOf Tryz.func108 ze9
abbrev zic:FuncId:=112
def z71:Fm VE:=
 (.leaf (.sc (.pick (.cmp .geq (.atom 0) (.int .u8 48)) (.cmp .leq (.atom 0) (.int .u8 57)) (.bool false))))
theorem zcn:execF Tryz.prog { pub:=[],nojoin:=false } Tryz.f112=z71:=by kernel_rfl
theorem z7a:callB Tryz.prog 112=true:=by kernel_rfl
theorem zg2:TriOf Tryz.prog 112 Tryz.f112 z71:=triOf Tryz.func112 zcn
abbrev zax:FuncId:=3
def z42:Fm VE:=
 (.join 2 [.bool]
 (.ite (.atom 3)
 (.call (.fn 4) [] (.sc .bool) []
 (.leaf (.sc (.atom 4))))
 (.sem (.buildSlice 22 0 #[]) 22 [] (.sc .sl) []
 (.sem (.call ⟨.builtin .append,#[.tmp 34,.tmp 36],#[22,22]⟩) 22 [(34,(.sc (.atom 4))),(36,(.sc (.atom 0)))] (.sc .sl) []
 (.loop 6 [.bool,.int .i64] [.bool false,.int .i64 0]
 (.ite (.cmp .lss (.atom 7) (.len (.atom 0)))
 (.join 9 [.bool]
 (.next 6 [.atom 8,(.ar .add .i64 (.atom 7) (.int .i64 1))])
 (.chk [] (.inSl (.atom 0) (.atom 7))
 (.load (.elt (.atom 0) (.atom 7) 4) [.int .i64,.int .i64,.int .i64,.sl]
 (.ite (.cmp .gtr (.atom 10) (.int .i64 60))
 (.leaf (.sc (.bool true)))
 (.call (.fn 7) [(.ag [.atom 8,.atom 9,.atom 10,.atom 11])] (.sc .sl) []
 (.call (.fn 6) [(.ag [.atom 8,.atom 9,.atom 10,.atom 11]),.sc (.atom 12),.sc (.int .i64 0),.sc (.int .i64 0)] (.sc .sl) []
 (.loop 17 [.bool,.int .i64] [.bool true,.int .i64 0]
 (.ite (.cmp .lss (.atom 15) (.len (.atom 13)))
 (.join 20 [.bool]
 (.next 17 [.atom 16,(.ar .add .i64 (.atom 15) (.int .i64 1))])
 (.chk [((.atom 14),true)] (.inSl (.atom 13) (.atom 15))
 (.ite (.atom 14)
 (.load (.elt (.atom 13) (.atom 15) 1) [.int .i64]
 (.next 20 [(.cmp .lss (.atom 16) (.atom 8))]))
 (.next 20 [.bool false]))))
 (.ite (.not (.atom 14))
 (.next 9 [.atom 6])
 (.call (.fn 8) [(.ag [.atom 8,.atom 9,.atom 10,.atom 11]),.sc (.atom 1)] (.tu [(false,[.sl]),(false,[.int .i64]),(false,[.int .i64])]) []
 (.ite (.pick (.pick (.pick (.cmp .neq (.atom 18) (.int .i64 0)) (.bool true) (.cmp .neq (.len (.atom 16)) (.atom 10))) (.bool true) (.cmp .lss (.atom 17) (.int .i64 0))) (.bool true) (.cmp .gtr (.atom 17) (.atom 10)))
 (.leaf (.sc (.bool false)))
 (.loop 27 [.bool,.int .i64] [.atom 6,.int .i64 0]
 (.ite (.cmp .lss (.atom 20) (.atom 10))
 (.join 31 [.bool]
 (.ite (.atom 21)
 (.leaf (.sc (.bool false)))
 (.next 27 [.atom 19,(.ar .add .i64 (.atom 20) (.int .i64 1))]))
 (.chk [] (.inSl (.atom 16) (.atom 20))
 (.load (.elt (.atom 16) (.atom 20) 1) [.int .i64]
 (.ite (.cmp .lss (.atom 21) (.int .i64 0))
 (.next 31 [.bool true])
 (.load (.elt (.atom 16) (.atom 20) 1) [.int .i64]
 (.next 31 [(.cmp .geq (.atom 22) (.ar .add .i64 (.atom 1) (.atom 17)))]))))))
 (.call (.fn 9) [(.ag [.atom 8,.atom 9,.atom 10,.atom 11]),.sc (.atom 16),(.sc (.ar .add .i64 (.atom 1) (.atom 17)))] (.ag [.int .i64,.int .i64,.int .i64,.sl]) []
 (.chk [] (.inSl (.atom 5) (.atom 7))
 (.store (.elt (.atom 5) (.atom 7) 4) [.atom 21,.atom 22,.atom 23,.atom 24]
 (.next 9 [.atom 19])))))))))))))))))
 (.call (.fn 10) [(.ag [.atom 0]),.sc (.atom 2),.sc (.int .i64 1000)] (.ag [.int .i64,.str,.int .i64,.int .i64,.str,.sl,.bool,.int .i64]) []
 (.join 11 [.bool]
 (.ite (.atom 16)
 (.join 12 [.bool]
 (.leaf (.sc (.atom 17)))
 (.ite (.cmp .eql (.atom 8) (.int .i64 93))
 (.next 12 [.bool true])
 (.call (.fn 5) [(.ag [.atom 5])] (.sc (.int .i64)) []
 (.next 12 [(.cmp .eql (.atom 17) (.int .i64 151))]))))
 (.call (.fn 10) [(.ag [.atom 5]),.sc (.atom 2),(.sc (.ar .add .i64 (.ar .mul .i64 (.int .i64 9) (.atom 15)) (.int .i64 9)))] (.ag [.int .i64,.str,.int .i64,.int .i64,.str,.sl,.bool,.int .i64]) []
 (.call (.fn 11) [(.ag [.atom 8,.atom 9,.atom 10,.atom 11,.atom 12,.atom 13,.atom 14,.atom 15]),(.ag [.atom 17,.atom 18,.atom 19,.atom 20,.atom 21,.atom 22,.atom 23,.atom 24])] (.sc .bool) []
 (.leaf (.sc (.atom 25))))))
 (.ite (.cmp .eql (.atom 8) (.int .i64 93))
 (.next 11 [.bool true])
 (.call (.fn 5) [(.ag [.atom 5])] (.sc (.int .i64)) []
 (.next 11 [(.cmp .neq (.atom 16) (.int .i64 0))]))))))))))
 (.call (.fn 4) [] (.sc .bool) []
 (.ite (.not (.atom 3))
 (.next 2 [.bool true])
 (.call (.fn 5) [(.ag [.atom 0])] (.sc (.int .i64)) []
 (.next 2 [(.pick (.pick (.cmp .neq (.atom 4) (.int .i64 0)) (.bool true) (.cmp .lss (.atom 1) (.int .i64 1))) (.bool true) (.cmp .gtr (.atom 1) (.int .i64 24)))])))))
theorem z85:execF Tryz.prog { pub:=[],nojoin:=false } Tryz.f3=z42:=by kernel_rfl
theorem z9k:TriOf Tryz.prog 3 Tryz.f3 z42:=triOf Tryz.func3 z85
abbrev zhy:FuncId:=4
def z6u:Fm VE:=
 (.call (.fn 13) [] (.ag [.int .i64,.int .i64,.int .i64,.sl]) []
 (.call (.fn 12) [(.ag [.atom 0,.atom 1,.atom 2,.atom 3])] (.tu [(false,[.sl]),(false,[.int .i64])]) []
 (.call (.fn 13) [] (.ag [.int .i64,.int .i64,.int .i64,.sl]) []
 (.call (.fn 8) [(.ag [.atom 6,.atom 7,.atom 8,.atom 9]),.sc (.int .i64 2)] (.tu [(false,[.sl]),(false,[.int .i64]),(false,[.int .i64])]) []
 (.call (.fn 13) [] (.ag [.int .i64,.int .i64,.int .i64,.sl]) []
 (.call (.fn 8) [(.ag [.atom 13,.atom 14,.atom 15,.atom 16]),.sc (.int .i64 1)] (.tu [(false,[.sl]),(false,[.int .i64]),(false,[.int .i64])]) []
 (.call (.fn 13) [] (.ag [.int .i64,.int .i64,.int .i64,.sl]) []
 (.call (.fn 8) [(.ag [.atom 20,.atom 21,.atom 22,.atom 23]),.sc (.int .i64 0)] (.tu [(false,[.sl]),(false,[.int .i64]),(false,[.int .i64])]) []
 (.join 5 [.bool]
 (.leaf (.sc (.atom 27)))
 (.chk [((.cmp .eql (.len (.atom 4)) (.int .i64 1)),true)] (.inSl (.atom 4) (.int .i64 0))
 (.ite (.cmp .eql (.len (.atom 4)) (.int .i64 1))
 (.load (.elt (.atom 4) (.int .i64 0) 2) [.int .i64,.int .i64]
 (.sem (.binOp .eql 49 (.tmp 41) (.tmp 42) 49) 4 [(41,(.ag [.atom 27,.atom 28])),(42,(.ag [.int .i64 1,.int .i64 2]))] (.sc .bool) []
 (.chk [((.pick (.pick (.atom 29) (.cmp .eql (.atom 5) (.int .i64 0)) (.bool false)) (.cmp .eql (.len (.atom 10)) (.int .i64 4)) (.bool false)),true)] (.inSl (.atom 10) (.int .i64 1))
 (.chk [((.pick (.pick (.atom 29) (.cmp .eql (.atom 5) (.int .i64 0)) (.bool false)) (.cmp .eql (.len (.atom 10)) (.int .i64 4)) (.bool false)),true)] (.inSl (.atom 10) (.int .i64 2))
 (.ite (.pick (.pick (.atom 29) (.cmp .eql (.atom 5) (.int .i64 0)) (.bool false)) (.cmp .eql (.len (.atom 10)) (.int .i64 4)) (.bool false))
 (.load (.elt (.atom 10) (.int .i64 1) 1) [.int .i64]
 (.load (.elt (.atom 10) (.int .i64 2) 1) [.int .i64]
 (.next 5 [(.pick (.pick (.pick (.pick (.pick (.cmp .neq (.atom 30) (.atom 31)) (.cmp .eql (.atom 11) (.int .i64 0)) (.bool false)) (.cmp .eql (.atom 12) (.int .i64 0)) (.bool false)) (.cmp .eql (.atom 18) (.int .i64 1)) (.bool false)) (.cmp .eql (.atom 19) (.int .i64 0)) (.bool false)) (.cmp .eql (.atom 26) (.int .i64 1)) (.bool false))])))
 (.next 5 [.bool false]))))))
 (.next 5 [.bool false]))))))))))))
theorem zd3:execF Tryz.prog { pub:=[],nojoin:=false } Tryz.f4=z6u:=by kernel_rfl
theorem z74:callB Tryz.prog 4=true:=by kernel_rfl
theorem zfu:TriOf Tryz.prog 4 Tryz.f4 z6u:=triOf Tryz.func4 zd3
abbrev zhe:FuncId:=5
def z7c:Fm VE:=
 (.loop 4 [.int .i64,.int .i64,.int .i64] [.int .i64 0,.int .i64 0,.int .i64 0]
 (.ite (.cmp .lss (.atom 3) (.len (.atom 0)))
 (.chk [] (.inSl (.atom 0) (.atom 3))
 (.load (.elt (.atom 0) (.atom 3) 4) [.int .i64,.int .i64,.int .i64,.sl]
 (.ite (.cmp .gtr (.atom 6) (.int .i64 2000))
 (.leaf (.sc (.int .i64 151)))
 (.loop 12 [.int .i64,.int .i64,.int .i64] [.atom 1,.atom 2,.int .i64 0]
 (.ite (.pick (.cmp .lss (.atom 10) (.len (.atom 7))) (.cmp .leq (.atom 9) (.int .i64 4096)) (.bool false))
 (.chk [] (.inSl (.atom 7) (.atom 10))
 (.load (.padd (.elt (.atom 7) (.atom 10) 7) 0) [.sl]
 (.ite (.cmp .gtr (.len (.atom 11)) (.int .i64 4096))
 (.leaf (.sc (.int .i64 151)))
 (.load (.padd (.elt (.atom 7) (.atom 10) 7) 0) [.sl]
 (.next 12 [.atom 8,(.ar .add .i64 (.ar .add .i64 (.atom 9) (.int .i64 1)) (.len (.atom 12))),(.ar .add .i64 (.atom 10) (.int .i64 1))])))))
 (.next 4 [.atom 8,.atom 9,(.ar .add .i64 (.atom 3) (.int .i64 1))]))))))
 (.ite (.pick (.cmp .gtr (.atom 2) (.int .i64 4096)) (.bool true) (.cmp .gtr (.len (.atom 0)) (.int .i64 300)))
 (.leaf (.sc (.int .i64 151)))
 (.join 10 [.bool]
 (.ite (.atom 4)
 (.leaf (.sc (.int .i64 150)))
 (.loop 13 [.int .i64,.int .i64] [.atom 1,.int .i64 0]
 (.ite (.cmp .lss (.atom 6) (.len (.atom 0)))
 (.chk [] (.inSl (.atom 0) (.atom 6))
 (.load (.elt (.atom 0) (.atom 6) 4) [.int .i64,.int .i64,.int .i64,.sl]
 (.ite (.pick (.pick (.pick (.pick (.pick (.cmp .lss (.atom 7) (.int .i64 0)) (.bool true) (.cmp .gtr (.atom 7) (.int .i64 6))) (.bool true) (.cmp .lss (.atom 8) (.int .i64 0))) (.bool true) (.cmp .gtr (.atom 8) (.int .i64 1000))) (.bool true) (.cmp .lss (.atom 9) (.atom 7))) (.bool true) (.cmp .eql (.len (.atom 10)) (.int .i64 0)))
 (.leaf (.sc (.int .i64 150)))
 (.loop 21 [.int .i64,.int .i64] [.atom 5,.int .i64 0]
 (.ite (.cmp .lss (.atom 12) (.len (.atom 10)))
 (.chk [] (.inSl (.atom 10) (.atom 12))
 (.load (.elt (.atom 10) (.atom 12) 7) [.sl,.int .i64,.int .i64,.sl,.int .i64,.int .i64,.int .i64]
 (.loop 28 [.int .i64,.int .i64] [.atom 11,.int .i64 0]
 (.ite (.cmp .lss (.atom 21) (.len (.atom 13)))
 (.chk [] (.inSl (.atom 13) (.atom 21))
 (.load (.elt (.atom 13) (.atom 21) 8) [.str,.int .i64,.sl,.int .i64,.int .i64,.str,.sl,.int .i64]
 (.call (.fn 14) [(.ag [.atom 0]),(.ag [.atom 7,.atom 8,.atom 9,.atom 10]),(.ag [.atom 22,.atom 23,.atom 24,.atom 25,.atom 26,.atom 27,.atom 28,.atom 29])] (.sc .bool) []
 (.ite (.not (.atom 30))
 (.leaf (.sc (.int .i64 150)))
 (.next 28 [.atom 20,(.ar .add .i64 (.atom 21) (.int .i64 1))])))))
 (.call (.fn 15) [(.ag [.atom 7,.atom 8,.atom 9,.atom 10]),(.ag [.atom 14,.atom 15,.atom 16,.atom 17,.atom 18,.atom 19])] (.sc .bool) []
 (.ite (.not (.atom 22))
 (.leaf (.sc (.int .i64 150)))
 (.next 21 [.atom 20,(.ar .add .i64 (.atom 12) (.int .i64 1))])))))))
 (.next 13 [.atom 11,(.ar .add .i64 (.atom 6) (.int .i64 1))]))))))
 (.leaf (.sc (.int .i64 0))))))
 (.chk [((.cmp .eql (.len (.atom 0)) (.int .i64 0)),false)] (.inSl (.atom 0) (.int .i64 0))
 (.chk [((.cmp .eql (.len (.atom 0)) (.int .i64 0)),false)] (.some (.elt (.atom 0) (.int .i64 0) 4))
 (.ite (.cmp .eql (.len (.atom 0)) (.int .i64 0))
 (.next 10 [.bool true])
 (.load (.padd (.elt (.atom 0) (.int .i64 0) 4) 0) [.int .i64]
 (.chk [((.cmp .neq (.atom 4) (.int .i64 0)),false)] (.inSl (.atom 0) (.int .i64 0))
 (.chk [((.cmp .neq (.atom 4) (.int .i64 0)),false)] (.some (.elt (.atom 0) (.int .i64 0) 4))
 (.ite (.cmp .neq (.atom 4) (.int .i64 0))
 (.next 10 [.bool true])
 (.load (.padd (.elt (.atom 0) (.int .i64 0) 4) 1) [.int .i64]
 (.next 10 [(.cmp .neq (.atom 5) (.int .i64 0))])))))))))))))
theorem zcr:execF Tryz.prog { pub:=[],nojoin:=false } Tryz.f5=z7c:=by kernel_rfl
theorem z2e:callB Tryz.prog 5=true:=by kernel_rfl
theorem zff:TriOf Tryz.prog 5 Tryz.f5 z7c:=triOf Tryz.func5 zcr
abbrev ztd:FuncId:=8
def zj7:Fm VE:=
 (.ite (.pick (.cmp .lss (.atom 4) (.int .i64 1)) (.bool true) (.cmp .gtr (.atom 4) (.int .i64 24)))
 (.leaf (.tu [(false,[(.nil 1)]),(false,[.int .i64 0]),(false,[.int .i64 1])]))
 (.call (.fn 19) [(.ag [.atom 0,.atom 1,.atom 2,.atom 3])] (.sc .bool) []
 (.ite (.not (.atom 5))
 (.leaf (.tu [(false,[(.nil 1)]),(false,[.int .i64 0]),(false,[.int .i64 150])]))
 (.call (.fn 20) [(.ag [.atom 0,.atom 1,.atom 2,.atom 3])] (.sc .map) []
 (.sem (.buildSlice 31 1 #[(0,(.const (.int .i64 (-1))))]) 31 [] (.sc .sl) []
 (.call (.fn 21) [.sc (.atom 7),.sc (.atom 2)] (.sc .sl) []
 (.call (.fn 22) [.sc (.atom 6),.sc (.atom 2),.sc (.atom 4)] (.sc .sl) []
 (.loop 10 [.int .i64,.int .i64] [.atom 4,.int .i64 0]
 (.ite (.cmp .lss (.atom 11) (.len (.atom 9)))
 (.chk [] (.inSl (.atom 9) (.atom 11))
 (.load (.elt (.atom 9) (.atom 11) 1) [.int .i64]
 (.sem (.makeMap 67 none) 67 [] (.sc .map) []
 (.sem (.lookup 64 (.tmp 42) (.tmp 43) false) 67 [(42,(.sc (.atom 6))),(43,(.sc (.atom 12)))] (.sc .map) []
 (.sem (.range 67 (.tmp 44)) 0 [(44,(.sc (.atom 14)))] (.sc .ptr) []
 (.loop 18 [] []
 (.join 19 [.bool]
 (.ite (.atom 16)
 (.sem (.entry (.tmp 45)) 0 [(45,(.sc (.atom 15)))] (.tu [(false,[.int .i64]),(false,[.int .i64])]) []
 (.chk [] (.inSl (.atom 8) (.atom 17))
 (.load (.elt (.atom 8) (.atom 17) 1) [.int .i64]
 (.sem (.mapUpdate 67 (.tmp 50) (.tmp 54) (.const (.int .i64 1))) 0 [(50,(.sc (.atom 13))),(54,(.sc (.atom 19)))] (.tu []) []
 (.next 18 [])))))
 (.loop 23 [.int .i64] [.int .i64 0]
 (.sem (.lookup 67 (.tmp 55) (.tmp 56) false) 3 [(55,(.sc (.atom 13))),(56,(.sc (.atom 17)))] (.sc (.int .i64)) []
 (.ite (.cmp .eql (.atom 18) (.int .i64 1))
 (.next 23 [(.ar .add .i64 (.atom 17) (.int .i64 1))])
 (.chk [] (.inSl (.atom 8) (.atom 12))
 (.store (.elt (.atom 8) (.atom 12) 1) [.atom 17]
 (.next 10 [(.pick (.cmp .gtr (.ar .add .i64 (.atom 17) (.int .i64 1)) (.atom 10)) (.ar .add .i64 (.atom 17) (.int .i64 1)) (.atom 10)),(.ar .add .i64 (.atom 11) (.int .i64 1))])))))))
 (.alt (.next (.tmp 45) false) 0 [(45,(.sc (.atom 15)))] (.tu [(false,[.bool])]) (.tu [(false,[.bool]),(false,[.int .i64]),(false,[.int .i64])])
 (.next 19 [.atom 16])
 (.next 19 [.atom 16])))))))))
 (.leaf (.tu [(false,[.atom 8]),(false,[(.ar .sub .i64 (.atom 10) (.atom 4))]),(false,[.int .i64 0])])))))))))))
theorem zne:execF Tryz.prog { pub:=[],nojoin:=false } Tryz.f8=zj7:=by kernel_rfl
theorem z6m:callB Tryz.prog 8=true:=by kernel_rfl
theorem zqd:TriOf Tryz.prog 8 Tryz.f8 zj7:=triOf Tryz.func8 zne
abbrev zhr:FuncId:=9
def z7e:Fm VE:=
 (.call (.fn 7) [(.ag [.atom 0,.atom 1,.atom 2,.atom 3])] (.sc .sl) []
 (.call (.fn 6) [(.ag [.atom 0,.atom 1,.atom 2,.atom 3]),.sc (.atom 6),.sc (.int .i64 0),.sc (.int .i64 0)] (.sc .sl) []
 (.loop 6 [.int .i64,.sl,.int .i64,.int .i64,.sl,.int .i64,.int .i64,.int .i64] [.int .i64 0,(.nil 1),.int .i64 0,.int .i64 0,(.nil 1),.int .i64 0,.int .i64 1,.int .i64 0]
 (.ite (.cmp .lss (.atom 8) (.atom 0))
 (.join 9 [.sl,.int .i64,.int .i64,.sl,.int .i64,.int .i64,.int .i64]
 (.next 6 [(.ar .add .i64 (.atom 8) (.int .i64 1)),.atom 16,.atom 17,.atom 18,.atom 19,.atom 20,.atom 21,.atom 22])
 (.call (.fn 23) [.sc (.atom 7),.sc (.atom 8)] (.sc .bool) []
 (.ite (.atom 16)
 (.chk [] (.inSl (.atom 4) (.atom 8))
 (.load (.elt (.atom 4) (.atom 8) 1) [.int .i64]
 (.sem (.buildSlice 31 1 #[(0,(.tmp 49))]) 31 [(49,(.sc (.atom 8)))] (.sc .sl) [((.elt (.atom 4) (.atom 8) 1),[.atom 17])]
 (.sem (.buildSlice 50 1 #[(0,(.tmp 51))]) 50 [(51,(.ag [(.str [109,111,118,101]),(.ar .add .i64 (.atom 0) (.atom 17)),.atom 18,.int .i64 0,.int .i64 0,(.str []),(.nil 1),.int .i64 0]))] (.sc .sl) []
 (.sem (.call ⟨.builtin .append,#[.tmp 41,.tmp 52],#[50,50]⟩) 50 [(41,(.sc (.atom 9))),(52,(.sc (.atom 19)))] (.sc .sl) []
 (.next 9 [.atom 20,.atom 10,.atom 11,.atom 12,.atom 13,.atom 14,.atom 15]))))))
 (.next 9 [.atom 9,.atom 10,.atom 11,.atom 12,.atom 13,.atom 14,.atom 15]))))
 (.sem (.buildSlice 28 1 #[(0,(.tmp 57))]) 28 [(57,(.ag [.atom 9,.atom 10,.atom 11,.atom 12,.atom 13,.atom 14,.atom 15]))] (.sc .sl) []
 (.sem (.call ⟨.builtin .append,#[.tmp 56,.tmp 58],#[28,28]⟩) 28 [(56,(.sc (.nil 1))),(58,(.sc (.atom 16)))] (.sc .sl) []
 (.loop 12 [.int .i64,.int .i64,.int .i64,.int .i64,.sl] [.int .i64 0,.atom 0,.atom 1,(.ar .add .i64 (.atom 0) (.atom 5)),.atom 17]
 (.ite (.cmp .lss (.atom 18) (.len (.atom 3)))
 (.chk [] (.inSl (.atom 3) (.atom 18))
 (.load (.padd (.elt (.atom 3) (.atom 18) 7) 1) [.int .i64,.int .i64,.sl,.int .i64,.int .i64,.int .i64]
 (.loop 19 [.int .i64,.sl,.int .i64,.int .i64,.sl,.int .i64,.int .i64,.int .i64] [.int .i64 0,(.nil 1),.atom 23,.atom 24,.atom 25,.atom 26,.atom 27,.atom 28]
 (.load (.padd (.elt (.atom 3) (.atom 18) 7) 0) [.sl]
 (.ite (.cmp .lss (.atom 29) (.len (.atom 37)))
 (.load (.padd (.elt (.atom 3) (.atom 18) 7) 0) [.sl]
 (.chk [] (.inSl (.atom 38) (.atom 29))
 (.load (.elt (.atom 38) (.atom 29) 8) [.str,.int .i64,.sl,.int .i64,.int .i64,.str,.sl,.int .i64]
 (.join 24 [.str,.int .i64,.sl,.int .i64,.int .i64,.str,.sl,.int .i64]
 (.call (.fn 24) [.sc (.atom 49),.sc (.atom 4),.sc (.atom 0)] (.sc .sl) []
 (.sem (.buildSlice 50 1 #[(0,(.tmp 116))]) 50 [(116,(.ag [.atom 47,.atom 48,.atom 55,.atom 50,.atom 51,.atom 52,.atom 53,.atom 54]))] (.sc .sl) []
 (.sem (.call ⟨.builtin .append,#[.tmp 115,.tmp 117],#[50,50]⟩) 50 [(115,(.sc (.atom 30))),(117,(.sc (.atom 56)))] (.sc .sl) []
 (.next 19 [(.ar .add .i64 (.atom 29) (.int .i64 1)),.atom 57,.atom 31,.atom 32,.atom 33,.atom 34,.atom 35,.atom 36]))))
 (.ite (.scmp .neq (.atom 39) (.str [116,105,101]))
 (.chk [] (.inSl (.atom 4) (.atom 40))
 (.load (.elt (.atom 4) (.atom 40) 1) [.int .i64]
 (.next 24 [.atom 39,(.ar .add .i64 (.atom 0) (.atom 47)),.atom 41,.atom 42,.atom 43,.atom 44,.atom 45,.atom 46])))
 (.next 24 [.atom 39,.atom 40,.atom 41,.atom 42,.atom 43,.atom 44,.atom 45,.atom 46]))))))
 (.call (.fn 24) [.sc (.atom 33),.sc (.atom 4),.sc (.atom 0)] (.sc .sl) []
 (.join 24 [.sl,.int .i64,.int .i64,.sl,.int .i64,.int .i64,.int .i64]
 (.join 25 [.sl,.int .i64,.int .i64,.sl,.int .i64,.int .i64,.int .i64]
 (.call (.fn 25) [(.ag [.atom 0,.atom 1,.atom 2,.atom 3]),(.ag [.atom 31,.atom 32,.atom 33,.atom 34,.atom 35,.atom 36])] (.sc .sl) []
 (.sem (.buildSlice 28 1 #[(0,(.tmp 181))]) 28 [(181,(.ag [.atom 46,.atom 47,.atom 48,.atom 49,.atom 50,(.pick (.cmp .gtr (.len (.atom 53)) (.int .i64 0)) (.ar .add .i64 (.atom 35) (.int .i64 1)) (.atom 51)),(.pick (.cmp .eql (.atom 31) (.int .i64 1)) (.ar .add .i64 (.atom 36) (.int .i64 1)) (.atom 52))]))] (.sc .sl) []
 (.sem (.call ⟨.builtin .append,#[.tmp 180,.tmp 182],#[28,28]⟩) 28 [(180,(.sc (.atom 22))),(182,(.sc (.atom 54)))] (.sc .sl) []
 (.next 12 [(.ar .add .i64 (.atom 18) (.int .i64 1)),.atom 19,.atom 20,.atom 21,.atom 55]))))
 (.ite (.pick (.cmp .eql (.atom 31) (.int .i64 4)) (.bool true) (.cmp .eql (.atom 31) (.int .i64 6)))
 (.chk [] (.inSl (.atom 4) (.atom 34))
 (.load (.elt (.atom 4) (.atom 34) 1) [.int .i64]
 (.next 25 [.atom 39,.atom 40,.atom 41,.atom 42,(.ar .add .i64 (.atom 0) (.atom 46)),.atom 44,.atom 45])))
 (.next 25 [.atom 39,.atom 40,.atom 41,.atom 42,.atom 43,.atom 44,.atom 45])))
 (.ite (.cmp .neq (.atom 31) (.int .i64 0))
 (.chk [] (.inSl (.atom 4) (.atom 32))
 (.load (.elt (.atom 4) (.atom 32) 1) [.int .i64]
 (.next 24 [.atom 30,.atom 31,(.ar .add .i64 (.atom 0) (.atom 39)),.atom 38,.atom 34,.atom 35,.atom 36])))
 (.next 24 [.atom 30,.atom 31,.atom 32,.atom 38,.atom 34,.atom 35,.atom 36])))))))))
 (.leaf (.ag [.atom 19,.atom 20,.atom 21,.atom 22]))))))))))
theorem zd7:execF Tryz.prog { pub:=[],nojoin:=false } Tryz.f9=z7e:=by kernel_rfl
theorem zgb:callB Tryz.prog 9=true:=by kernel_rfl
theorem zfj:TriOf Tryz.prog 9 Tryz.f9 z7e:=triOf Tryz.func9 zd7
abbrev zkq:FuncId:=10
def z92:Fm VE:=
 (.ite (.pick (.cmp .lss (.atom 2) (.int .i64 0)) (.bool true) (.cmp .gtr (.atom 2) (.int .i64 1000000)))
 (.leaf (.ag [.int .i64 1,(.str []),.int .i64 0,.int .i64 0,(.str []),(.nil 1),.bool false,.int .i64 0]))
 (.call (.fn 5) [(.ag [.atom 0])] (.sc (.int .i64)) []
 (.ite (.cmp .neq (.atom 3) (.int .i64 0))
 (.leaf (.ag [.atom 3,(.str []),.int .i64 0,.int .i64 0,(.str []),(.nil 1),.bool false,.int .i64 0]))
 (.new 75 [(.nil 1)]
 (.new 82 [.atom 0,.atom 4,(.nil 1),(.nil 1),.atom 1,(.nil 1),.int .i64 4,.int .i64 0,(.str []),.int .i64 0,.int .i64 0,(.str []),.bool false,.int .i64 0]
 (.call (.fn 27) [.sc (.atom 5),(.ag [.int .i64 0,.int .i64 0,(.nil 1),.bool false,(.nil 1)])] (.ag [.int .i64,.int .i64,.str]) []
 (.call (.fn 26) [.sc (.atom 5),(.ag [.atom 6,.atom 7,.atom 8]),(.sc (.nil 1)),(.sc (.bool true))] (.tu []) []
 (.join 9 [.int .i64]
 (.join 10 [.ptr]
 (.join 11 []
 (.load (.atom 10) [.int .i64,.str,.int .i64,.int .i64,.str,.sl,.bool,.int .i64]
 (.leaf (.ag [.atom 11,.atom 12,.atom 13,.atom 14,.atom 15,.atom 16,.atom 17,.atom 18])))
 (.chk [] (.some (.atom 5))
 (.load (.padd (.atom 5) 13) [.int .i64]
 (.ite (.cmp .eql (.atom 11) (.int .i64 0))
 (.load (.padd (.atom 5) 1) [.ptr]
 (.load (.padd (.atom 5) 9) [.int .i64,.int .i64,.str]
 (.call (.fn 30) [.sc (.atom 12),(.ag [.atom 13,.atom 14,.atom 15])] (.tu [(true,[.int .i64,.int .i64,.str,.sl]),(false,[.bool])]) []
 (.chk [] (.some (.atom 10))
 (.store (.padd (.atom 10) 2) [.atom 16,.atom 17,.atom 18,.atom 19]
 (.store (.padd (.atom 10) 6) [.atom 20]
 (.next 11 [])))))))
 (.next 11 [])))))
 (.chk [] (.some (.atom 5))
 (.load (.padd (.atom 5) 13) [.int .i64]
 (.load (.padd (.atom 5) 5) [.sl]
 (.both
 (.sem (.convert 80 9 (.tmp 121)) 9 [(121,(.sc (.atom 11)))] (.sc .str) [((.padd (.atom 5) 13),[.atom 10])]
 (.new 41 [.int .i64 0,(.str []),.int .i64 0,.int .i64 0,(.str []),(.nil 1),.bool false,.int .i64 0]
 (.store (.atom 13) [.atom 10,.atom 12,.int .i64 0,.int .i64 0,(.str []),(.nil 1),.bool false,.atom 9]
 (.next 10 [.atom 13]))))
 (.new 41 [.int .i64 0,(.str []),.int .i64 0,.int .i64 0,(.str []),(.nil 1),.bool false,.int .i64 0]
 (.sem (.convert 80 9 (.tmp 121)) 9 [(121,(.sc (.atom 11)))] (.sc .str) [((.padd (.atom 5) 13),[.atom 10])]
 (.store (.atom 12) [.atom 10,.atom 13,.int .i64 0,.int .i64 0,(.str []),(.nil 1),.bool false,.atom 9]
 (.next 10 [.atom 12])))))))))
 (.loop 10 [.int .i64] [.int .i64 0]
 (.join 12 [.bool]
 (.ite (.atom 10)
 (.ite (.cmp .eql (.atom 9) (.atom 2))
 (.chk [] (.some (.atom 5))
 (.store (.padd (.atom 5) 13) [.int .i64 93]
 (.next 9 [.atom 9])))
 (.chk [] (.some (.atom 5))
 (.load (.padd (.atom 5) 3) [.sl]
 (.load (.padd (.atom 5) 3) [.sl]
 (.chk [] (.inSl (.atom 11) (.ar .sub .i64 (.len (.atom 12)) (.int .i64 1)))
 (.load (.padd (.elt (.atom 11) (.ar .sub .i64 (.len (.atom 12)) (.int .i64 1)) 6) 0) [.int .i64]
 (.chk [] (.inSl (.atom 0) (.atom 13))
 (.load (.padd (.elt (.atom 0) (.atom 13) 4) 3) [.sl]
 (.load (.padd (.elt (.atom 11) (.ar .sub .i64 (.len (.atom 12)) (.int .i64 1)) 6) 3) [.int .i64]
 (.chk [] (.inSl (.atom 14) (.atom 15))
 (.load (.elt (.atom 14) (.atom 15) 7) [.sl,.int .i64,.int .i64,.sl,.int .i64,.int .i64,.int .i64]
 (.load (.padd (.elt (.atom 11) (.ar .sub .i64 (.len (.atom 12)) (.int .i64 1)) 6) 4) [.int .i64]
 (.ite (.cmp .lss (.atom 23) (.len (.atom 16)))
 (.load (.padd (.elt (.atom 11) (.ar .sub .i64 (.len (.atom 12)) (.int .i64 1)) 6) 4) [.int .i64]
 (.store (.padd (.elt (.atom 11) (.ar .sub .i64 (.len (.atom 12)) (.int .i64 1)) 6) 4) [(.ar .add .i64 (.atom 24) (.int .i64 1))]
 (.load (.padd (.elt (.atom 11) (.ar .sub .i64 (.len (.atom 12)) (.int .i64 1)) 6) 4) [.int .i64]
 (.chk [] (.inSl (.atom 16) (.ar .sub .i64 (.atom 25) (.int .i64 1)))
 (.load (.elt (.atom 16) (.ar .sub .i64 (.atom 25) (.int .i64 1)) 8) [.str,.int .i64,.sl,.int .i64,.int .i64,.str,.sl,.int .i64]
 (.call (.fn 28) [.sc (.atom 5),(.ag [.atom 26,.atom 27,.atom 28,.atom 29,.atom 30,.atom 31,.atom 32,.atom 33])] (.tu []) []
 (.next 10 [(.ar .add .i64 (.atom 9) (.int .i64 1))])))))))
 (.call (.fn 29) [.sc (.atom 5),(.ag [.atom 17,.atom 18,.atom 19,.atom 20,.atom 21,.atom 22])] (.tu []) []
 (.next 10 [(.ar .add .i64 (.atom 9) (.int .i64 1))])))))))))))))))
 (.next 9 [.atom 9]))
 (.chk [] (.some (.atom 5))
 (.load (.padd (.atom 5) 13) [.int .i64]
 (.ite (.cmp .eql (.atom 10) (.int .i64 0))
 (.load (.padd (.atom 5) 12) [.bool]
 (.next 12 [(.not (.atom 11))]))
 (.next 12 [.bool false]))))))))))))))
theorem zfz:execF Tryz.prog { pub:=[12,28,32],nojoin:=false } Tryz.f10=z92:=by kernel_rfl
theorem z91:callB Tryz.prog 10=true:=by kernel_rfl
theorem zig:TriOf Tryz.prog 10 Tryz.f10 z92:=triOf Tryz.func10 zfz
abbrev zht:FuncId:=11
def z6y:Fm VE:=
 (.join 1 [.bool]
 (.leaf (.sc (.atom 16)))
 (.ite (.pick (.pick (.cmp .eql (.atom 0) (.atom 8)) (.scmp .eql (.atom 1) (.atom 9)) (.bool false)) (.beq (.atom 6) (.atom 14)) (.bool false))
 (.call (.fn 31) [(.ag [.atom 2,.atom 3,.atom 4,.atom 5]),(.ag [.atom 10,.atom 11,.atom 12,.atom 13])] (.sc .bool) []
 (.next 1 [.atom 16]))
 (.next 1 [.bool false])))
theorem zd6:execF Tryz.prog { pub:=[],nojoin:=false } Tryz.f11=z6y:=by kernel_rfl
theorem zg8:callB Tryz.prog 11=true:=by kernel_rfl
theorem zf4:TriOf Tryz.prog 11 Tryz.f11 z6y:=triOf Tryz.func11 zd6
abbrev zt4:FuncId:=12
def zjo:Fm VE:=
 (.call (.fn 19) [(.ag [.atom 0,.atom 1,.atom 2,.atom 3])] (.sc .bool) []
 (.ite (.not (.atom 4))
 (.leaf (.tu [(false,[(.nil 1)]),(false,[.int .i64 150])]))
 (.call (.fn 20) [(.ag [.atom 0,.atom 1,.atom 2,.atom 3])] (.sc .map) []
 (.sem (.range 64 (.tmp 12)) 0 [(12,(.sc (.atom 5)))] (.sc .ptr) []
 (.loop 6 [.sl] [(.nil 1)]
 (.join 7 [.bool]
 (.ite (.atom 8)
 (.sem (.entry (.tmp 13)) 0 [(13,(.sc (.atom 6)))] (.tu [(false,[.int .i64]),(false,[.map])]) []
 (.sem (.range 67 (.tmp 19)) 0 [(19,(.sc (.atom 10)))] (.sc .ptr) []
 (.loop 11 [.sl] [.atom 7]
 (.join 12 [.bool]
 (.ite (.atom 13)
 (.sem (.entry (.tmp 20)) 0 [(20,(.sc (.atom 11)))] (.tu [(false,[.int .i64]),(false,[.int .i64])]) []
 (.ite (.cmp .lss (.atom 9) (.atom 14))
 (.sem (.buildSlice 45 1 #[(0,(.tmp 31))]) 45 [(31,(.ag [.atom 9,.atom 14]))] (.sc .sl) []
 (.sem (.call ⟨.builtin .append,#[.tmp 28,.tmp 32],#[45,45]⟩) 45 [(28,(.sc (.atom 12))),(32,(.sc (.atom 16)))] (.sc .sl) []
 (.next 11 [.atom 17])))
 (.next 11 [.atom 12])))
 (.next 6 [.atom 12]))
 (.alt (.next (.tmp 20) false) 0 [(20,(.sc (.atom 11)))] (.tu [(false,[.bool])]) (.tu [(false,[.bool]),(false,[.int .i64]),(false,[.int .i64])])
 (.next 12 [.atom 13])
 (.next 12 [.atom 13]))))))
 (.call (.fn 32) [.sc (.atom 7),(.sc (.fn 33))] (.tu []) []
 (.leaf (.tu [(false,[.atom 7]),(false,[.int .i64 0])]))))
 (.alt (.next (.tmp 13) false) 0 [(13,(.sc (.atom 6)))] (.tu [(false,[.bool])]) (.tu [(false,[.bool]),(false,[.int .i64]),(false,[.map])])
 (.next 7 [.atom 8])
 (.next 7 [.atom 8]))))))))
theorem zn8:execF Tryz.prog { pub:=[],nojoin:=false } Tryz.f12=zjo:=by kernel_rfl
theorem zqy:callB Tryz.prog 12=true:=by kernel_rfl
theorem zq3:TriOf Tryz.prog 12 Tryz.f12 zjo:=triOf Tryz.func12 zn8
abbrev zgf:FuncId:=13
def z65:Fm VE:=
 (.sem (.buildSlice 31 2 #[(0,(.const (.int .i64 1))),(1,(.const (.int .i64 2)))]) 31 [] (.sc .sl) []
 (.sem (.buildSlice 50 3 #[(0,(.tmp 1)),(1,(.tmp 2)),(2,(.tmp 4))]) 50 [(1,(.ag [(.str [99,111,110,115,116]),.int .i64 1,(.nil 1),.int .i64 0,.int .i64 0,(.str []),(.nil 1),.int .i64 0])),(2,(.ag [(.str [99,111,110,115,116]),.int .i64 2,(.nil 1),.int .i64 0,.int .i64 0,(.str []),(.nil 1),.int .i64 0])),(4,(.ag [(.str [43]),.int .i64 3,.atom 0,.int .i64 0,.int .i64 0,(.str []),(.nil 1),.int .i64 0]))] (.sc .sl) []
 (.sem (.buildSlice 28 1 #[(0,(.tmp 7))]) 28 [(7,(.ag [.atom 1,.int .i64 2,.int .i64 3,(.nil 1),.int .i64 0,.int .i64 0,.int .i64 0]))] (.sc .sl) []
 (.leaf (.ag [.int .i64 0,.int .i64 0,.int .i64 4,.atom 2])))))
theorem zc3:execF Tryz.prog { pub:=[],nojoin:=false } Tryz.f13=z65:=by kernel_rfl
theorem z28:callB Tryz.prog 13=true:=by kernel_rfl
theorem ze4:TriOf Tryz.prog 13 Tryz.f13 z65:=triOf Tryz.func13 zc3
abbrev zkf:FuncId:=14
def z8w:Fm VE:=
 (.join 2 [.bool]
 (.ite (.atom 13)
 (.leaf (.sc (.bool false)))
 (.call (.fn 31) [(.ag [.atom 8,.atom 9,.atom 10,.atom 11]),(.ag [.int .i64 0,.int .i64 0,(.str []),(.nil 1)])] (.sc .bool) []
 (.ite (.scmp .eql (.atom 5) (.str [99,111,110,115,116]))
 (.join 8 [.bool]
 (.leaf (.sc (.atom 15)))
 (.ite (.pick (.cmp .eql (.len (.atom 7)) (.int .i64 0)) (.cmp .eql (.atom 12) (.int .i64 0)) (.bool false))
 (.call (.fn 37) [(.ag [.atom 8,.atom 9,.atom 10,.atom 11])] (.sc .bool) []
 (.next 8 [.atom 15]))
 (.next 8 [.bool false])))
 (.ite (.scmp .eql (.atom 5) (.str [109,111,118,101]))
 (.leaf (.sc (.pick (.pick (.cmp .eql (.len (.atom 7)) (.int .i64 1)) (.cmp .eql (.atom 12) (.int .i64 0)) (.bool false)) (.atom 14) (.bool false))))
 (.ite (.scmp .eql (.atom 5) (.str [104,101,108,100]))
 (.leaf (.sc (.pick (.pick (.pick (.cmp .eql (.len (.atom 7)) (.int .i64 0)) (.cmp .geq (.atom 12) (.int .i64 0)) (.bool false)) (.cmp .lss (.atom 12) (.atom 2)) (.bool false)) (.atom 14) (.bool false))))
 (.ite (.scmp .eql (.atom 5) (.str [99,108,111,115,117,114,101]))
 (.join 11 [.bool]
 (.leaf (.sc (.atom 15)))
 (.chk [((.pick (.cmp .geq (.atom 12) (.int .i64 1)) (.cmp .lss (.atom 12) (.len (.atom 0))) (.bool false)),true)] (.inSl (.atom 0) (.atom 12))
 (.chk [((.pick (.cmp .geq (.atom 12) (.int .i64 1)) (.cmp .lss (.atom 12) (.len (.atom 0))) (.bool false)),true)] (.some (.elt (.atom 0) (.atom 12) 4))
 (.ite (.pick (.cmp .geq (.atom 12) (.int .i64 1)) (.cmp .lss (.atom 12) (.len (.atom 0))) (.bool false))
 (.load (.padd (.elt (.atom 0) (.atom 12) 4) 1) [.int .i64]
 (.next 11 [(.pick (.cmp .eql (.len (.atom 7)) (.atom 15)) (.atom 14) (.bool false))]))
 (.next 11 [.bool false])))))
 (.ite (.scmp .eql (.atom 5) (.str [116,105,101]))
 (.leaf (.sc (.pick (.pick (.pick (.cmp .eql (.len (.atom 7)) (.int .i64 2)) (.cmp .geq (.atom 12) (.int .i64 0)) (.bool false)) (.cmp .eql (.atom 6) (.int .i64 0)) (.bool false)) (.atom 14) (.bool false))))
 (.ite (.scmp .eql (.atom 5) (.str [37,99,97,108,108,99,99]))
 (.leaf (.sc (.bool false)))
 (.call (.fn 38) [.sc (.atom 5)] (.sc (.int .i64)) []
 (.leaf (.sc (.pick (.pick (.cmp .eql (.atom 15) (.len (.atom 7))) (.cmp .eql (.atom 12) (.int .i64 0)) (.bool false)) (.atom 14) (.bool false)))))))))))))
 (.call (.fn 36) [(.ag [.atom 1,.atom 2,.atom 3,.atom 4]),.sc (.atom 7)] (.sc .bool) []
 (.ite (.not (.atom 13))
 (.next 2 [.bool true])
 (.sem (.buildSlice 31 1 #[(0,(.tmp 17))]) 31 [(17,(.sc (.atom 6)))] (.sc .sl) []
 (.call (.fn 36) [(.ag [.atom 1,.atom 2,.atom 3,.atom 4]),.sc (.atom 14)] (.sc .bool) []
 (.next 2 [(.pick (.not (.atom 15)) (.scmp .neq (.atom 5) (.str [116,105,101])) (.bool false))]))))))
theorem zg0:execF Tryz.prog { pub:=[],nojoin:=false } Tryz.f14=z8w:=by kernel_rfl
theorem zjb:callB Tryz.prog 14=true:=by kernel_rfl
theorem zhl:TriOf Tryz.prog 14 Tryz.f14 z8w:=triOf Tryz.func14 zg0
abbrev zki:FuncId:=15
def z95:Fm VE:=
 (.sem (.buildSlice 31 1 #[(0,(.tmp 13))]) 31 [(13,(.sc (.atom 5)))] (.sc .sl) []
 (.call (.fn 36) [(.ag [.atom 0,.atom 1,.atom 2,.atom 3]),.sc (.atom 10)] (.sc .bool) []
 (.sem (.buildSlice 31 1 #[(0,(.tmp 18))]) 31 [(18,(.sc (.atom 7)))] (.sc .sl) []
 (.call (.fn 36) [(.ag [.atom 0,.atom 1,.atom 2,.atom 3]),.sc (.atom 12)] (.sc .bool) []
 (.call (.fn 36) [(.ag [.atom 0,.atom 1,.atom 2,.atom 3]),.sc (.atom 6)] (.sc .bool) []
 (.ite (.cmp .eql (.atom 4) (.int .i64 0))
 (.leaf (.sc (.pick (.pick (.pick (.pick (.pick (.cmp .geq (.atom 8) (.int .i64 0)) (.cmp .lss (.atom 8) (.len (.atom 3))) (.bool false)) (.cmp .eql (.len (.atom 6)) (.int .i64 0)) (.bool false)) (.cmp .eql (.atom 5) (.int .i64 0)) (.bool false)) (.cmp .eql (.atom 7) (.int .i64 0)) (.bool false)) (.cmp .eql (.atom 9) (.int .i64 0)) (.bool false))))
 (.ite (.cmp .eql (.atom 4) (.int .i64 1))
 (.leaf (.sc (.pick (.pick (.pick (.pick (.pick (.cmp .geq (.atom 8) (.int .i64 0)) (.cmp .lss (.atom 8) (.len (.atom 3))) (.bool false)) (.pick (.cmp .geq (.atom 9) (.int .i64 0)) (.cmp .lss (.atom 9) (.len (.atom 3))) (.bool false)) (.bool false)) (.cmp .eql (.len (.atom 6)) (.int .i64 0)) (.bool false)) (.atom 11) (.bool false)) (.cmp .eql (.atom 7) (.int .i64 0)) (.bool false))))
 (.ite (.pick (.cmp .eql (.atom 4) (.int .i64 2)) (.cmp .eql (.atom 4) (.int .i64 2)) (.cmp .eql (.atom 4) (.int .i64 5)))
 (.leaf (.sc (.pick (.pick (.pick (.pick (.atom 11) (.cmp .eql (.len (.atom 6)) (.int .i64 0)) (.bool false)) (.cmp .eql (.atom 7) (.int .i64 0)) (.bool false)) (.cmp .eql (.atom 8) (.int .i64 0)) (.bool false)) (.cmp .eql (.atom 9) (.int .i64 0)) (.bool false))))
 (.ite (.cmp .eql (.atom 4) (.int .i64 3))
 (.leaf (.sc (.pick (.pick (.pick (.pick (.atom 11) (.pick (.atom 14) (.cmp .leq (.len (.atom 6)) (.int .i64 6)) (.bool false)) (.bool false)) (.cmp .eql (.atom 7) (.int .i64 0)) (.bool false)) (.cmp .eql (.atom 8) (.int .i64 0)) (.bool false)) (.cmp .eql (.atom 9) (.int .i64 0)) (.bool false))))
 (.ite (.cmp .eql (.atom 4) (.int .i64 4))
 (.leaf (.sc (.pick (.pick (.pick (.pick (.atom 11) (.pick (.atom 14) (.cmp .leq (.len (.atom 6)) (.int .i64 6)) (.bool false)) (.bool false)) (.atom 13) (.bool false)) (.pick (.cmp .geq (.atom 8) (.int .i64 0)) (.cmp .lss (.atom 8) (.len (.atom 3))) (.bool false)) (.bool false)) (.cmp .eql (.atom 9) (.int .i64 0)) (.bool false))))
 (.ite (.cmp .eql (.atom 4) (.int .i64 6))
 (.leaf (.sc (.pick (.pick (.pick (.pick (.atom 11) (.cmp .eql (.len (.atom 6)) (.int .i64 0)) (.bool false)) (.atom 13) (.bool false)) (.pick (.cmp .geq (.atom 8) (.int .i64 0)) (.cmp .lss (.atom 8) (.len (.atom 3))) (.bool false)) (.bool false)) (.cmp .eql (.atom 9) (.int .i64 0)) (.bool false))))
 (.leaf (.sc (.bool false))))))))))))))
theorem zfo:execF Tryz.prog { pub:=[],nojoin:=false } Tryz.f15=z95:=by kernel_rfl
theorem zj4:callB Tryz.prog 15=true:=by kernel_rfl
theorem zii:TriOf Tryz.prog 15 Tryz.f15 z95:=triOf Tryz.func15 zfo
abbrev zx9:FuncId:=19
def zle:Fm VE:=
 (.new 30 [.atom 0,.atom 1,.atom 2,.atom 3]
 (.join 2 [.bool]
 (.ite (.atom 5)
 (.leaf (.sc (.bool false)))
 (.new 4 [.bool false]
 (.store (.atom 6) [.bool true]
 (.sem (.makeFunc (.func 39) #[] #[.tmp 3,.tmp 1]) 104 [(3,(.sc (.atom 6))),(1,(.sc (.atom 4)))] (.sc .any) []
 (.chk [] (.some (.atom 4))
 (.load (.padd (.atom 4) 3) [.sl]
 (.loop 7 [.int .i64] [.int .i64 0]
 (.ite (.cmp .lss (.atom 9) (.len (.atom 8)))
 (.join 10 []
 (.next 7 [(.ar .add .i64 (.atom 9) (.int .i64 1))])
 (.chk [] (.inSl (.atom 8) (.atom 9))
 (.load (.elt (.atom 8) (.atom 9) 7) [.sl,.int .i64,.int .i64,.sl,.int .i64,.int .i64,.int .i64]
 (.loop 14 [.int .i64] [.int .i64 0]
 (.ite (.cmp .lss (.atom 17) (.len (.atom 10)))
 (.join 17 []
 (.next 14 [(.ar .add .i64 (.atom 17) (.int .i64 1))])
 (.chk [] (.inSl (.atom 10) (.atom 17))
 (.load (.elt (.atom 10) (.atom 17) 8) [.str,.int .i64,.sl,.int .i64,.int .i64,.str,.sl,.int .i64]
 (.call (.atom 7) [.sc (.atom 20)] (.tu []) []
 (.ite (.scmp .neq (.atom 18) (.str [116,105,101]))
 (.sem (.buildSlice 31 1 #[(0,(.tmp 60))]) 31 [(60,(.sc (.atom 19)))] (.sc .sl) []
 (.call (.atom 7) [.sc (.atom 26)] (.tu []) []
 (.next 17 [])))
 (.next 17 []))))))
 (.join 19 [.bool]
 (.ite (.atom 18)
 (.sem (.buildSlice 31 1 #[(0,(.tmp 74))]) 31 [(74,(.sc (.atom 12)))] (.sc .sl) []
 (.call (.atom 7) [.sc (.atom 19)] (.tu []) []
 (.next 10 [])))
 (.ite (.cmp .eql (.atom 11) (.int .i64 3))
 (.sem (.buildSlice 31 1 #[(0,(.tmp 81))]) 31 [(81,(.sc (.atom 12)))] (.sc .sl) []
 (.sem (.call ⟨.builtin .append,#[.tmp 82,.tmp 84],#[31,31]⟩) 31 [(82,(.sc (.atom 19))),(84,(.sc (.atom 13)))] (.sc .sl) []
 (.call (.atom 7) [.sc (.atom 20)] (.tu []) []
 (.next 10 []))))
 (.ite (.cmp .eql (.atom 11) (.int .i64 4))
 (.sem (.buildSlice 31 2 #[(0,(.tmp 91)),(1,(.tmp 93))]) 31 [(91,(.sc (.atom 12))),(93,(.sc (.atom 14)))] (.sc .sl) []
 (.sem (.call ⟨.builtin .append,#[.tmp 94,.tmp 96],#[31,31]⟩) 31 [(94,(.sc (.atom 19))),(96,(.sc (.atom 13)))] (.sc .sl) []
 (.call (.atom 7) [.sc (.atom 20)] (.tu []) []
 (.next 10 []))))
 (.ite (.cmp .eql (.atom 11) (.int .i64 6))
 (.sem (.buildSlice 31 2 #[(0,(.tmp 103)),(1,(.tmp 105))]) 31 [(103,(.sc (.atom 12))),(105,(.sc (.atom 14)))] (.sc .sl) []
 (.call (.atom 7) [.sc (.atom 19)] (.tu []) []
 (.next 10 [])))
 (.next 10 [])))))
 (.ite (.cmp .eql (.atom 11) (.int .i64 1))
 (.next 19 [(.cmp .eql (.atom 11) (.int .i64 1))])
 (.next 19 [(.pick (.cmp .eql (.atom 11) (.int .i64 2)) (.cmp .eql (.atom 11) (.int .i64 2)) (.cmp .eql (.atom 11) (.int .i64 5)))]))))))))
 (.load (.atom 6) [.bool]
 (.leaf (.sc (.atom 10))))))))))))
 (.chk [] (.some (.atom 4))
 (.load (.padd (.atom 4) 2) [.int .i64]
 (.ite (.cmp .lss (.atom 5) (.int .i64 0))
 (.next 2 [.bool true])
 (.load (.padd (.atom 4) 2) [.int .i64]
 (.ite (.cmp .gtr (.atom 6) (.int .i64 2000))
 (.next 2 [.bool true])
 (.load (.padd (.atom 4) 0) [.int .i64]
 (.ite (.cmp .lss (.atom 7) (.int .i64 0))
 (.next 2 [.bool true])
 (.load (.padd (.atom 4) 0) [.int .i64]
 (.load (.padd (.atom 4) 2) [.int .i64]
 (.ite (.cmp .gtr (.atom 8) (.atom 9))
 (.next 2 [.bool true])
 (.load (.padd (.atom 4) 3) [.sl]
 (.next 2 [(.cmp .eql (.len (.atom 10)) (.int .i64 0))]))))))))))))))
theorem zqe:execF Tryz.prog { pub:=[1,3],nojoin:=false } Tryz.f19=zle:=by kernel_rfl
theorem zlf:callB Tryz.prog 19=true:=by kernel_rfl
theorem zt5:TriOf Tryz.prog 19 Tryz.f19 zle:=triOf Tryz.func19 zqe
abbrev zti:FuncId:=20
def zjs:Fm VE:=
 (.sem (.makeMap 64 none) 64 [] (.sc .map) []
 (.call (.fn 40) [(.ag [.atom 0,.atom 1,.atom 2,.atom 3])] (.sc .sl) []
 (.chk [] (.inSl (.atom 5) (.int .i64 0))
 (.load (.elt (.atom 5) (.int .i64 0) 1) [.sl]
 (.loop 5 [.int .i64] [.int .i64 0]
 (.ite (.cmp .lss (.atom 7) (.len (.atom 6)))
 (.chk [] (.inSl (.atom 6) (.atom 7))
 (.load (.elt (.atom 6) (.atom 7) 1) [.int .i64]
 (.load (.elt (.atom 5) (.int .i64 0) 1) [.sl]
 (.chk [] (.sub (.cap (.atom 9)) (.int .i64 0) (.atom 7))
 (.loop 11 [.int .i64] [.int .i64 0]
 (.ite (.cmp .lss (.atom 10) (.len (.sls (.atom 9) (.int .i64 0) (.atom 7) 1)))
 (.chk [] (.inSl (.sls (.atom 9) (.int .i64 0) (.atom 7) 1) (.atom 10))
 (.load (.elt (.sls (.atom 9) (.int .i64 0) (.atom 7) 1) (.atom 10) 1) [.int .i64]
 (.call (.fn 41) [.sc (.atom 4),.sc (.atom 8),.sc (.atom 11)] (.tu []) []
 (.next 11 [(.ar .add .i64 (.atom 10) (.int .i64 1))]))))
 (.next 5 [(.ar .add .i64 (.atom 7) (.int .i64 1))])))))))
 (.loop 10 [.int .i64] [.int .i64 0]
 (.ite (.cmp .lss (.atom 8) (.len (.atom 3)))
 (.join 13 []
 (.next 10 [(.ar .add .i64 (.atom 8) (.int .i64 1))])
 (.chk [] (.inSl (.atom 3) (.atom 8))
 (.load (.elt (.atom 3) (.atom 8) 7) [.sl,.int .i64,.int .i64,.sl,.int .i64,.int .i64,.int .i64]
 (.call (.fn 42) [(.ag [.atom 0,.atom 1,.atom 2,.atom 3]),.sc (.atom 8)] (.sc .sl) []
 (.loop 17 [.int .i64] [.int .i64 0]
 (.ite (.cmp .lss (.atom 17) (.len (.atom 16)))
 (.join 20 []
 (.next 17 [(.ar .add .i64 (.atom 17) (.int .i64 1))])
 (.chk [] (.inSl (.atom 16) (.atom 17))
 (.load (.elt (.atom 16) (.atom 17) 1) [.sl]
 (.chk [] (.inSl (.atom 9) (.atom 17))
 (.load (.elt (.atom 9) (.atom 17) 8) [.str,.int .i64,.sl,.int .i64,.int .i64,.str,.sl,.int .i64]
 (.ite (.scmp .eql (.atom 19) (.str [116,105,101]))
 (.next 20 [])
 (.loop 26 [.int .i64] [.int .i64 0]
 (.ite (.cmp .lss (.atom 27) (.len (.atom 18)))
 (.join 29 []
 (.next 26 [(.ar .add .i64 (.atom 27) (.int .i64 1))])
 (.chk [] (.inSl (.atom 18) (.atom 27))
 (.load (.elt (.atom 18) (.atom 27) 1) [.int .i64]
 (.join 31 [.bool]
 (.ite (.atom 29)
 (.call (.fn 41) [.sc (.atom 4),.sc (.atom 20),.sc (.atom 28)] (.tu []) []
 (.next 29 []))
 (.next 29 []))
 (.ite (.scmp .neq (.atom 19) (.str [109,111,118,101]))
 (.next 31 [.bool true])
 (.call (.fn 43) [.sc (.atom 21),.sc (.atom 28)] (.sc .bool) []
 (.next 31 [(.not (.atom 29))])))))))
 (.next 20 [])))))))))
 (.ite (.pick (.cmp .eql (.atom 10) (.int .i64 4)) (.bool true) (.cmp .eql (.atom 10) (.int .i64 6)))
 (.call (.fn 44) [(.ag [.atom 0,.atom 1,.atom 2,.atom 3]),.sc (.atom 8)] (.sc .sl) []
 (.loop 23 [.int .i64] [.int .i64 0]
 (.ite (.cmp .lss (.atom 19) (.len (.atom 18)))
 (.chk [] (.inSl (.atom 18) (.atom 19))
 (.load (.elt (.atom 18) (.atom 19) 1) [.int .i64]
 (.call (.fn 41) [.sc (.atom 4),.sc (.atom 13),.sc (.atom 20)] (.tu []) []
 (.next 23 [(.ar .add .i64 (.atom 19) (.int .i64 1))]))))
 (.next 13 []))))
 (.next 13 []))))))))
 (.leaf (.sc (.atom 4)))))))))))
theorem zni:execF Tryz.prog { pub:=[],nojoin:=false } Tryz.f20=zjs:=by kernel_rfl
theorem zir:callB Tryz.prog 20=true:=by kernel_rfl
theorem zqq:TriOf Tryz.prog 20 Tryz.f20 zjs:=triOf Tryz.func20 zni
abbrev zd0:FuncId:=21
def z4u:Fm VE:=
 (.join 1 []
 (.call (.fn 45) [(.sc (.conv .u64 (.len (.atom 0)))),(.sc (.conv .u64 (.atom 1)))] (.tu [(false,[.int .u64]),(false,[.int .u64])]) []
 (.join 3 []
 (.sem (.makeSlice 31 (.tmp 29) (.tmp 29)) 31 [(29,(.sc (.conv .i64 (.atom 3)))),(29,(.sc (.conv .i64 (.atom 3))))] (.sc .sl) []
 (.sem (.call ⟨.builtin .copy,#[.tmp 31,.tmp 32],#[31,31]⟩) 3 [(31,(.sc (.atom 4))),(32,(.sc (.atom 0)))] (.sc (.int .i64)) []
 (.loop 7 [.int .i64] [.atom 5]
 (.ite (.cmp .lss (.atom 6) (.len (.atom 4)))
 (.chk [] (.sub (.cap (.atom 4)) (.atom 6) (.len (.atom 4)))
 (.chk [] (.sub (.cap (.atom 4)) (.int .i64 0) (.atom 6))
 (.sem (.call ⟨.builtin .copy,#[.tmp 41,.tmp 44],#[31,31]⟩) 3 [(41,(.sc (.sls (.atom 4) (.atom 6) (.len (.atom 4)) 1))),(44,(.sc (.sls (.atom 4) (.int .i64 0) (.atom 6) 1)))] (.sc (.int .i64)) []
 (.next 7 [(.ar .add .i64 (.atom 6) (.atom 7))]))))
 (.leaf (.sc (.atom 4)))))))
 (.ite (.pick (.cmp .gtr (.atom 2) (.int .u64 0)) (.bool true) (.cmp .gtr (.atom 3) (.int .u64 9223372036854775807)))
 (.sem (.makeInterface 9 (.const (.string ⟨#[116,104,101,32,114,101,115,117,108,116,32,111,102,32,40,108,101,110,40,120,41,32,42,32,99,111,117,110,116,41,32,111,118,101,114,102,108,111,119,115]⟩))) 20 [] (.sc .any) []
 (.sem (.panic (.tmp 27)) 0 [(27,(.sc (.atom 4)))] (.tu []) []
 (.next 3 [])))
 (.next 3 []))))
 (.ite (.cmp .lss (.atom 1) (.int .i64 0))
 (.sem (.makeInterface 9 (.const (.string ⟨#[99,97,110,110,111,116,32,98,101,32,110,101,103,97,116,105,118,101]⟩))) 20 [] (.sc .any) []
 (.sem (.panic (.tmp 11)) 0 [(11,(.sc (.atom 2)))] (.tu []) []
 (.next 1 [])))
 (.next 1 [])))
theorem zac:execF Tryz.prog { pub:=[],nojoin:=false } Tryz.f21=z4u:=by kernel_rfl
theorem zce:callB Tryz.prog 21=true:=by kernel_rfl
theorem zbk:TriOf Tryz.prog 21 Tryz.f21 z4u:=triOf Tryz.func21 zac
abbrev ztj:FuncId:=22
def zjk:Fm VE:=
 (.join 1 [.sl,.sl]
 (.loop 4 [.int .i64] [.int .i64 0]
 (.ite (.cmp .lss (.atom 5) (.atom 1))
 (.sem (.lookup 64 (.tmp 24) (.tmp 25) false) 67 [(24,(.sc (.atom 0))),(25,(.sc (.atom 5)))] (.sc .map) []
 (.sem (.call ⟨.builtin .len,#[.tmp 26],#[67]⟩) 3 [(26,(.sc (.atom 6)))] (.sc (.int .i64)) []
 (.chk [] (.inSl (.atom 3) (.atom 5))
 (.store (.elt (.atom 3) (.atom 5) 1) [.atom 7]
 (.next 4 [(.ar .add .i64 (.atom 5) (.int .i64 1))])))))
 (.loop 9 [.sl] [(.nil 1)]
 (.ite (.cmp .lss (.len (.atom 6)) (.atom 1))
 (.join 13 [.int .i64]
 (.chk [] (.inSl (.atom 4) (.atom 7))
 (.store (.elt (.atom 4) (.atom 7) 1) [.bool true]
 (.sem (.buildSlice 31 1 #[(0,(.tmp 68))]) 31 [(68,(.sc (.atom 7)))] (.sc .sl) []
 (.sem (.call ⟨.builtin .append,#[.tmp 67,.tmp 69],#[31,31]⟩) 31 [(67,(.sc (.atom 6))),(69,(.sc (.atom 8)))] (.sc .sl) []
 (.sem (.lookup 64 (.tmp 71) (.tmp 72) false) 67 [(71,(.sc (.atom 0))),(72,(.sc (.atom 7)))] (.sc .map) []
 (.sem (.range 67 (.tmp 73)) 0 [(73,(.sc (.atom 10)))] (.sc .ptr) []
 (.loop 17 [] []
 (.join 18 [.bool]
 (.ite (.atom 12)
 (.sem (.entry (.tmp 74)) 0 [(74,(.sc (.atom 11)))] (.tu [(false,[.int .i64]),(false,[.int .i64])]) []
 (.chk [] (.inSl (.atom 3) (.atom 13))
 (.load (.elt (.atom 3) (.atom 13) 1) [.int .i64]
 (.store (.elt (.atom 3) (.atom 13) 1) [(.ar .sub .i64 (.atom 15) (.int .i64 1))]
 (.next 17 [])))))
 (.next 9 [.atom 9]))
 (.alt (.next (.tmp 74) false) 0 [(74,(.sc (.atom 11)))] (.tu [(false,[.bool])]) (.tu [(false,[.bool]),(false,[.int .i64]),(false,[.int .i64])])
 (.next 18 [.atom 12])
 (.next 18 [.atom 12]))))))))))
 (.loop 15 [.int .i64,.int .i64] [(.int .i64 (-1)),.int .i64 0]
 (.ite (.cmp .lss (.atom 8) (.atom 1))
 (.join 18 [.int .i64]
 (.next 15 [.atom 9,(.ar .add .i64 (.atom 8) (.int .i64 1))])
 (.chk [] (.inSl (.atom 4) (.atom 8))
 (.load (.elt (.atom 4) (.atom 8) 1) [.bool]
 (.ite (.atom 9)
 (.next 18 [.atom 7])
 (.chk [] (.inSl (.atom 3) (.atom 8))
 (.load (.elt (.atom 3) (.atom 8) 1) [.int .i64]
 (.ite (.cmp .lss (.atom 10) (.atom 2))
 (.next 13 [.atom 8])
 (.join 24 [.bool]
 (.next 18 [(.pick (.atom 11) (.atom 8) (.atom 7))])
 (.chk [((.cmp .lss (.atom 7) (.int .i64 0)),false)] (.inSl (.atom 3) (.atom 7))
 (.ite (.cmp .lss (.atom 7) (.int .i64 0))
 (.next 24 [.bool true])
 (.load (.elt (.atom 3) (.atom 8) 1) [.int .i64]
 (.load (.elt (.atom 3) (.atom 7) 1) [.int .i64]
 (.next 24 [(.cmp .gtr (.atom 11) (.atom 12))])))))))))))))
 (.next 13 [.atom 7]))))
 (.call (.fn 46) [.sc (.atom 6)] (.tu []) []
 (.leaf (.sc (.atom 6))))))))
 (.both
 (.sem (.makeSlice 31 (.tmp 14) (.tmp 14)) 31 [(14,(.sc (.atom 1))),(14,(.sc (.atom 1)))] (.sc .sl) []
 (.sem (.makeSlice 103 (.tmp 16) (.tmp 16)) 103 [(16,(.sc (.atom 1))),(16,(.sc (.atom 1)))] (.sc .sl) []
 (.next 1 [.atom 3,.atom 4])))
 (.sem (.makeSlice 103 (.tmp 16) (.tmp 16)) 103 [(16,(.sc (.atom 1))),(16,(.sc (.atom 1)))] (.sc .sl) []
 (.sem (.makeSlice 31 (.tmp 14) (.tmp 14)) 31 [(14,(.sc (.atom 1))),(14,(.sc (.atom 1)))] (.sc .sl) []
 (.next 1 [.atom 4,.atom 3])))))
theorem zng:execF Tryz.prog { pub:=[],nojoin:=false } Tryz.f22=zjk:=by kernel_rfl
theorem zrr:callB Tryz.prog 22=true:=by kernel_rfl
theorem zqu:TriOf Tryz.prog 22 Tryz.f22 zjk:=triOf Tryz.func22 zng
abbrev zgk:FuncId:=24
def z60:Fm VE:=
 (.sem (.buildSlice 31 0 #[]) 31 [] (.sc .sl) []
 (.loop 4 [.sl,.int .i64] [.atom 3,.int .i64 0]
 (.ite (.cmp .lss (.atom 5) (.len (.atom 0)))
 (.chk [] (.inSl (.atom 0) (.atom 5))
 (.load (.elt (.atom 0) (.atom 5) 1) [.int .i64]
 (.chk [] (.inSl (.atom 1) (.atom 6))
 (.load (.elt (.atom 1) (.atom 6) 1) [.int .i64]
 (.sem (.buildSlice 31 1 #[(0,(.tmp 25))]) 31 [(25,(.sc (.ar .add .i64 (.atom 2) (.atom 7))))] (.sc .sl) []
 (.sem (.call ⟨.builtin .append,#[.tmp 16,.tmp 26],#[31,31]⟩) 31 [(16,(.sc (.atom 4))),(26,(.sc (.atom 8)))] (.sc .sl) []
 (.next 4 [.atom 9,(.ar .add .i64 (.atom 5) (.int .i64 1))])))))))
 (.leaf (.sc (.atom 4))))))
theorem zcd:execF Tryz.prog { pub:=[],nojoin:=false } Tryz.f24=z60:=by kernel_rfl
theorem z68:callB Tryz.prog 24=true:=by kernel_rfl
theorem zdw:TriOf Tryz.prog 24 Tryz.f24 z60:=triOf Tryz.func24 zcd
abbrev zab:FuncId:=26
def z3p:Fm VE:=
 (.call (.fn 47) [.sc (.atom 0),(.ag [.atom 1,.atom 2,.atom 3])] (.sc (.int .i64)) []
 (.ite (.cmp .lss (.atom 6) (.int .i64 0))
 (.chk [] (.some (.atom 0))
 (.store (.padd (.atom 0) 13) [.int .i64 90]
 (.leaf (.tu []))))
 (.chk [] (.some (.atom 0))
 (.load (.padd (.atom 0) 2) [.sl]
 (.chk [] (.inSl (.atom 7) (.atom 6))
 (.load (.elt (.atom 7) (.atom 6) 5) [.int .i64,.int .i64,.sl,.bool,.sl]
 (.ite (.atom 11)
 (.ite (.cmp .neq (.len (.atom 4)) (.int .i64 1))
 (.store (.padd (.atom 0) 13) [.int .i64 91]
 (.leaf (.tu [])))
 (.call (.fn 48) [.sc (.atom 12)] (.sc .sl) []
 (.store (.padd (.atom 0) 3) [.atom 13]
 (.chk [] (.inSl (.atom 4) (.int .i64 0))
 (.load (.elt (.atom 4) (.int .i64 0) 3) [.int .i64,.int .i64,.str]
 (.call (.fn 49) [.sc (.atom 0),(.ag [.atom 14,.atom 15,.atom 16])] (.tu []) []
 (.leaf (.tu []))))))))
 (.load (.padd (.padd (.atom 0) 0) 0) [.sl]
 (.chk [] (.inSl (.atom 13) (.atom 9))
 (.load (.elt (.atom 13) (.atom 9) 4) [.int .i64,.int .i64,.int .i64,.sl]
 (.ite (.cmp .neq (.len (.atom 4)) (.atom 14))
 (.store (.padd (.atom 0) 13) [.int .i64 91]
 (.leaf (.tu [])))
 (.loop 13 [.int .i64,.int .i64,.sl,.int .i64,.int .i64,.int .i64,.int .i64] [.int .i64 0,.atom 9,(.nil 1),.atom 6,.int .i64 0,.int .i64 0,.int .i64 0]
 (.ite (.cmp .lss (.atom 18) (.atom 16))
 (.join 18 [.int .i64,.int .i64,.str]
 (.sem (.buildSlice 85 1 #[(0,(.tmp 86))]) 85 [(86,(.ag [.atom 25,.atom 26,.atom 27]))] (.sc .sl) []
 (.sem (.call ⟨.builtin .append,#[.tmp 85,.tmp 87],#[85,85]⟩) 85 [(85,(.sc (.atom 20))),(87,(.sc (.atom 28)))] (.sc .sl) []
 (.next 13 [(.ar .add .i64 (.atom 18) (.int .i64 1)),.atom 19,.atom 29,.atom 21,.atom 22,.atom 23,.atom 24])))
 (.ite (.cmp .lss (.atom 18) (.len (.atom 4)))
 (.chk [] (.inSl (.atom 4) (.atom 18))
 (.load (.elt (.atom 4) (.atom 18) 3) [.int .i64,.int .i64,.str]
 (.next 18 [.atom 25,.atom 26,.atom 27])))
 (.next 18 [.int .i64 7,.int .i64 0,(.str [])])))
 (.join 16 []
 (.load (.padd (.atom 0) 3) [.sl]
 (.sem (.buildSlice 79 1 #[(0,(.tmp 111))]) 79 [(111,(.ag [.atom 19,.atom 20,.atom 21,.atom 22,.atom 23,.atom 24]))] (.sc .sl) [((.padd (.atom 0) 3),[.atom 25])]
 (.sem (.call ⟨.builtin .append,#[.tmp 110,.tmp 112],#[79,79]⟩) 79 [(110,(.sc (.atom 25))),(112,(.sc (.atom 26)))] (.sc .sl) []
 (.store (.padd (.atom 0) 3) [.atom 27]
 (.leaf (.tu []))))))
 (.ite (.not (.atom 5))
 (.load (.padd (.atom 0) 3) [.sl]
 (.load (.padd (.atom 0) 3) [.sl]
 (.chk [] (.sub (.cap (.atom 25)) (.int .i64 0) (.ar .sub .i64 (.len (.atom 26)) (.int .i64 1)))
 (.store (.padd (.atom 0) 3) [(.sls (.atom 25) (.int .i64 0) (.ar .sub .i64 (.len (.atom 26)) (.int .i64 1)) 6)]
 (.next 16 [])))))
 (.next 16 []))))))))))))))))
theorem z7j:execF Tryz.prog { pub:=[],nojoin:=false } Tryz.f26=z3p:=by kernel_rfl
theorem z13:callB Tryz.prog 26=true:=by kernel_rfl
theorem z8n:TriOf Tryz.prog 26 Tryz.f26 z3p:=triOf Tryz.func26 z7j
abbrev za8:FuncId:=27
def z3q:Fm VE:=
 (.chk [] (.some (.atom 0))
 (.load (.padd (.atom 0) 1) [.ptr]
 (.call (.fn 50) [.sc (.atom 6),.sc (.int .i64 4),(.sc (.nil 1))] (.tu [(true,[.int .i64,.int .i64,.str]),(false,[.int .i64])]) []
 (.load (.padd (.atom 0) 2) [.sl]
 (.sem (.buildSlice 78 1 #[(0,(.tmp 23))]) 78 [(23,(.ag [.atom 8,.atom 2,.atom 3,.atom 4,.atom 5]))] (.sc .sl) [((.padd (.atom 0) 2),[.atom 11])]
 (.sem (.call ⟨.builtin .append,#[.tmp 22,.tmp 24],#[78,78]⟩) 78 [(22,(.sc (.atom 11))),(24,(.sc (.atom 12)))] (.sc .sl) []
 (.store (.padd (.atom 0) 2) [.atom 13]
 (.leaf (.ag [.atom 7,.atom 8,.atom 9])))))))))
theorem z7l:execF Tryz.prog { pub:=[],nojoin:=false } Tryz.f27=z3q:=by kernel_rfl
theorem z1h:callB Tryz.prog 27=true:=by kernel_rfl
theorem z8m:TriOf Tryz.prog 27 Tryz.f27 z3q:=triOf Tryz.func27 z7l
abbrev zbd:FuncId:=28
def z4e:Fm VE:=
 (.chk [] (.some (.atom 0))
 (.load (.padd (.atom 0) 3) [.sl]
 (.load (.padd (.atom 0) 3) [.sl]
 (.chk [] (.inSl (.atom 9) (.ar .sub .i64 (.len (.atom 10)) (.int .i64 1)))
 (.sem (.buildSlice 85 0 #[]) 85 [] (.sc .sl) []
 (.loop 5 [.sl,.int .i64] [.atom 11,.int .i64 0]
 (.ite (.cmp .lss (.atom 13) (.len (.atom 3)))
 (.load (.padd (.elt (.atom 9) (.ar .sub .i64 (.len (.atom 10)) (.int .i64 1)) 6) 1) [.sl]
 (.chk [] (.inSl (.atom 3) (.atom 13))
 (.load (.elt (.atom 3) (.atom 13) 1) [.int .i64]
 (.chk [] (.inSl (.atom 14) (.atom 15))
 (.load (.elt (.atom 14) (.atom 15) 3) [.int .i64,.int .i64,.str]
 (.sem (.buildSlice 85 1 #[(0,(.tmp 39))]) 85 [(39,(.ag [.atom 16,.atom 17,.atom 18]))] (.sc .sl) []
 (.sem (.call ⟨.builtin .append,#[.tmp 28,.tmp 40],#[85,85]⟩) 85 [(28,(.sc (.atom 12))),(40,(.sc (.atom 19)))] (.sc .sl) []
 (.next 5 [.atom 20,(.ar .add .i64 (.atom 13) (.int .i64 1))]))))))))
 (.join 9 [.int .i64,.int .i64,.str]
 (.load (.padd (.atom 0) 13) [.int .i64]
 (.ite (.cmp .eql (.atom 17) (.int .i64 0))
 (.load (.padd (.elt (.atom 9) (.ar .sub .i64 (.len (.atom 10)) (.int .i64 1)) 6) 1) [.sl]
 (.chk [] (.inSl (.atom 18) (.atom 2))
 (.store (.elt (.atom 18) (.atom 2) 3) [.atom 14,.atom 15,.atom 16]
 (.leaf (.tu [])))))
 (.leaf (.tu []))))
 (.ite (.scmp .eql (.atom 1) (.str [99,111,110,115,116]))
 (.call (.fn 51) [(.ag [.atom 4,.atom 5,.atom 6,.atom 7])] (.tu [(true,[.int .i64,.int .i64,.str]),(false,[.bool])]) []
 (.next 9 [.atom 14,.atom 15,.atom 16]))
 (.ite (.scmp .eql (.atom 1) (.str [109,111,118,101]))
 (.chk [] (.inSl (.atom 12) (.int .i64 0))
 (.load (.elt (.atom 12) (.int .i64 0) 3) [.int .i64,.int .i64,.str]
 (.next 9 [.atom 14,.atom 15,.atom 16])))
 (.ite (.scmp .eql (.atom 1) (.str [104,101,108,100]))
 (.load (.padd (.atom 0) 2) [.sl]
 (.load (.padd (.elt (.atom 9) (.ar .sub .i64 (.len (.atom 10)) (.int .i64 1)) 6) 2) [.int .i64]
 (.chk [] (.inSl (.atom 14) (.atom 15))
 (.load (.padd (.elt (.atom 14) (.atom 15) 5) 2) [.sl]
 (.chk [] (.inSl (.atom 16) (.atom 8))
 (.load (.elt (.atom 16) (.atom 8) 3) [.int .i64,.int .i64,.str]
 (.next 9 [.atom 17,.atom 18,.atom 19])))))))
 (.ite (.scmp .eql (.atom 1) (.str [99,108,111,115,117,114,101]))
 (.call (.fn 27) [.sc (.atom 0),(.ag [.int .i64 0,.atom 8,.atom 12,.bool false,(.nil 1)])] (.ag [.int .i64,.int .i64,.str]) []
 (.next 9 [.atom 14,.atom 15,.atom 16]))
 (.ite (.scmp .eql (.atom 1) (.str [116,105,101]))
 (.chk [] (.inSl (.atom 12) (.int .i64 0))
 (.load (.elt (.atom 12) (.int .i64 0) 3) [.int .i64,.int .i64,.str]
 (.call (.fn 47) [.sc (.atom 0),(.ag [.atom 14,.atom 15,.atom 16])] (.sc (.int .i64)) []
 (.join 18 [.bool]
 (.ite (.atom 18)
 (.store (.padd (.atom 0) 13) [.int .i64 80]
 (.leaf (.tu [])))
 (.load (.padd (.atom 0) 2) [.sl]
 (.chk [] (.inSl (.atom 19) (.atom 17))
 (.load (.padd (.elt (.atom 19) (.atom 17) 5) 2) [.sl]
 (.chk [] (.inSl (.atom 12) (.int .i64 1))
 (.load (.elt (.atom 12) (.int .i64 1) 3) [.int .i64,.int .i64,.str]
 (.chk [] (.inSl (.atom 20) (.atom 8))
 (.store (.elt (.atom 20) (.atom 8) 3) [.atom 21,.atom 22,.atom 23]
 (.leaf (.tu []))))))))))
 (.ite (.cmp .lss (.atom 17) (.int .i64 0))
 (.next 18 [.bool true])
 (.load (.padd (.atom 0) 2) [.sl]
 (.chk [] (.inSl (.atom 18) (.atom 17))
 (.load (.padd (.elt (.atom 18) (.atom 17) 5) 2) [.sl]
 (.next 18 [(.cmp .geq (.atom 8) (.len (.atom 19)))])))))))))
 (.call (.fn 52) [.sc (.atom 0),.sc (.atom 1),.sc (.atom 12)] (.ag [.int .i64,.int .i64,.str]) []
 (.next 9 [.atom 14,.atom 15,.atom 16])))))))))))))))
theorem z8u:execF Tryz.prog { pub:=[],nojoin:=false } Tryz.f28=z4e:=by kernel_rfl
theorem zav:callB Tryz.prog 28=true:=by kernel_rfl
theorem z9z:TriOf Tryz.prog 28 Tryz.f28 z4e:=triOf Tryz.func28 z8u
abbrev zay:FuncId:=29
def z40:Fm VE:=
 (.chk [] (.some (.atom 0))
 (.load (.padd (.atom 0) 3) [.sl]
 (.load (.padd (.atom 0) 3) [.sl]
 (.chk [] (.inSl (.atom 8) (.ar .sub .i64 (.len (.atom 7)) (.int .i64 1)))
 (.load (.elt (.atom 8) (.ar .sub .i64 (.len (.atom 7)) (.int .i64 1)) 6) [.int .i64,.sl,.int .i64,.int .i64,.int .i64,.int .i64]
 (.sem (.buildSlice 85 0 #[]) 85 [] (.sc .sl) []
 (.loop 6 [.sl,.int .i64] [.atom 15,.int .i64 0]
 (.ite (.cmp .lss (.atom 17) (.len (.atom 3)))
 (.chk [] (.inSl (.atom 3) (.atom 17))
 (.load (.elt (.atom 3) (.atom 17) 1) [.int .i64]
 (.chk [] (.inSl (.atom 10) (.atom 18))
 (.load (.elt (.atom 10) (.atom 18) 3) [.int .i64,.int .i64,.str]
 (.sem (.buildSlice 85 1 #[(0,(.tmp 41))]) 85 [(41,(.ag [.atom 19,.atom 20,.atom 21]))] (.sc .sl) []
 (.sem (.call ⟨.builtin .append,#[.tmp 32,.tmp 42],#[85,85]⟩) 85 [(32,(.sc (.atom 16))),(42,(.sc (.atom 22)))] (.sc .sl) []
 (.next 6 [.atom 23,(.ar .add .i64 (.atom 17) (.int .i64 1))])))))))
 (.join 10 [.int .i64,.int .i64,.str]
 (.load (.padd (.atom 0) 3) [.sl]
 (.chk [] (.inSl (.atom 21) (.ar .sub .i64 (.len (.atom 7)) (.int .i64 1)))
 (.store (.padd (.elt (.atom 21) (.ar .sub .i64 (.len (.atom 7)) (.int .i64 1)) 6) 4) [.int .i64 0]
 (.load (.padd (.atom 0) 3) [.sl]
 (.chk [] (.inSl (.atom 22) (.ar .sub .i64 (.len (.atom 7)) (.int .i64 1)))
 (.store (.padd (.elt (.atom 22) (.ar .sub .i64 (.len (.atom 7)) (.int .i64 1)) 6) 3) [.atom 5]
 (.load (.padd (.atom 0) 3) [.sl]
 (.chk [] (.inSl (.atom 23) (.ar .sub .i64 (.len (.atom 7)) (.int .i64 1)))
 (.store (.padd (.elt (.atom 23) (.ar .sub .i64 (.len (.atom 7)) (.int .i64 1)) 6) 5) [.atom 4]
 (.ite (.cmp .eql (.atom 1) (.int .i64 1))
 (.sem (.binOp .eql 77 (.tmp 83) (.tmp 84) 77) 4 [(83,(.ag [.atom 18,.atom 19,.atom 20])),(84,(.ag [.int .i64 0,.int .i64 0,(.str [])]))] (.sc .bool) []
 (.ite (.atom 24)
 (.load (.padd (.atom 0) 3) [.sl]
 (.chk [] (.inSl (.atom 25) (.ar .sub .i64 (.len (.atom 7)) (.int .i64 1)))
 (.store (.padd (.elt (.atom 25) (.ar .sub .i64 (.len (.atom 7)) (.int .i64 1)) 6) 3) [.atom 6]
 (.leaf (.tu [])))))
 (.leaf (.tu []))))
 (.ite (.cmp .eql (.atom 1) (.int .i64 2))
 (.load (.padd (.atom 0) 3) [.sl]
 (.chk [] (.sub (.cap (.atom 24)) (.int .i64 0) (.ar .sub .i64 (.len (.atom 7)) (.int .i64 1)))
 (.store (.padd (.atom 0) 3) [(.sls (.atom 24) (.int .i64 0) (.ar .sub .i64 (.len (.atom 7)) (.int .i64 1)) 6)]
 (.call (.fn 49) [.sc (.atom 0),(.ag [.atom 18,.atom 19,.atom 20])] (.tu []) []
 (.leaf (.tu []))))))
 (.ite (.cmp .eql (.atom 1) (.int .i64 3))
 (.call (.fn 26) [.sc (.atom 0),(.ag [.atom 18,.atom 19,.atom 20]),.sc (.atom 16),(.sc (.bool false))] (.tu []) []
 (.leaf (.tu [])))
 (.ite (.cmp .eql (.atom 1) (.int .i64 4))
 (.call (.fn 26) [.sc (.atom 0),(.ag [.atom 18,.atom 19,.atom 20]),.sc (.atom 16),(.sc (.bool true))] (.tu []) []
 (.leaf (.tu [])))
 (.ite (.cmp .eql (.atom 1) (.int .i64 5))
 (.load (.padd (.atom 0) 3) [.sl]
 (.chk [] (.sub (.cap (.atom 24)) (.int .i64 0) (.ar .sub .i64 (.len (.atom 7)) (.int .i64 1)))
 (.call (.fn 48) [(.sc (.sls (.atom 24) (.int .i64 0) (.ar .sub .i64 (.len (.atom 7)) (.int .i64 1)) 6))] (.sc .sl) []
 (.call (.fn 27) [.sc (.atom 0),(.ag [.int .i64 0,.int .i64 0,(.nil 1),.bool true,.atom 25])] (.ag [.int .i64,.int .i64,.str]) []
 (.sem (.buildSlice 85 1 #[(0,(.tmp 135))]) 85 [(135,(.ag [.atom 26,.atom 27,.atom 28]))] (.sc .sl) []
 (.call (.fn 26) [.sc (.atom 0),(.ag [.atom 18,.atom 19,.atom 20]),.sc (.atom 29),(.sc (.bool false))] (.tu []) []
 (.leaf (.tu []))))))))
 (.ite (.cmp .eql (.atom 1) (.int .i64 6))
 (.load (.padd (.atom 0) 3) [.sl]
 (.call (.fn 48) [.sc (.atom 24)] (.sc .sl) []
 (.call (.fn 27) [.sc (.atom 0),(.ag [.int .i64 0,.int .i64 0,(.nil 1),.bool true,.atom 25])] (.ag [.int .i64,.int .i64,.str]) []
 (.sem (.buildSlice 85 1 #[(0,(.tmp 150))]) 85 [(150,(.ag [.atom 26,.atom 27,.atom 28]))] (.sc .sl) []
 (.call (.fn 26) [.sc (.atom 0),(.ag [.atom 18,.atom 19,.atom 20]),.sc (.atom 29),(.sc (.bool true))] (.tu []) []
 (.leaf (.tu [])))))))
 (.leaf (.tu [])))))))))))))))))
 (.ite (.cmp .neq (.atom 1) (.int .i64 0))
 (.chk [] (.inSl (.atom 10) (.atom 2))
 (.load (.elt (.atom 10) (.atom 2) 3) [.int .i64,.int .i64,.str]
 (.next 10 [.atom 18,.atom 19,.atom 20])))
 (.next 10 [.int .i64 0,.int .i64 0,(.str [])])))))))))))
theorem z8a:execF Tryz.prog { pub:=[],nojoin:=false } Tryz.f29=z40:=by kernel_rfl
theorem zal:callB Tryz.prog 29=true:=by kernel_rfl
theorem z9o:TriOf Tryz.prog 29 Tryz.f29 z40:=triOf Tryz.func29 z8a
abbrev zck:FuncId:=30
def z4n:Fm VE:=
 (.call (.fn 53) [.sc (.atom 0),(.ag [.atom 1,.atom 2,.atom 3])] (.sc .bool) []
 (.ite (.not (.atom 4))
 (.leaf (.tu [(true,[.int .i64 0,.int .i64 0,(.str []),(.nil 1)]),(false,[.bool false])]))
 (.call (.fn 54) [.sc (.atom 0),(.ag [.atom 1,.atom 2,.atom 3]),.sc (.int .i64 0),.sc (.int .i64 0)] (.tu [(true,[.int .i64,.int .i64,.str,.sl]),(false,[.int .i64]),(false,[.bool])]) []
 (.ite (.not (.atom 10))
 (.leaf (.tu [(true,[.int .i64 0,.int .i64 0,(.str []),(.nil 1)]),(false,[.bool false])]))
 (.leaf (.tu [(true,[.atom 5,.atom 6,.atom 7,.atom 8]),(false,[.bool true])]))))))
theorem z9m:execF Tryz.prog { pub:=[],nojoin:=false } Tryz.f30=z4n:=by kernel_rfl
theorem zb7:callB Tryz.prog 30=true:=by kernel_rfl
theorem zap:TriOf Tryz.prog 30 Tryz.f30 z4n:=triOf Tryz.func30 z9m
abbrev zjf:FuncId:=36
def z7y:Fm VE:=
 (.loop 3 [.bool,.int .i64] [.bool false,.int .i64 0]
 (.ite (.cmp .lss (.atom 6) (.len (.atom 4)))
 (.join 7 [.bool]
 (.ite (.atom 7)
 (.leaf (.sc (.bool false)))
 (.next 3 [.atom 5,(.ar .add .i64 (.atom 6) (.int .i64 1))]))
 (.chk [] (.inSl (.atom 4) (.atom 6))
 (.load (.elt (.atom 4) (.atom 6) 1) [.int .i64]
 (.ite (.cmp .lss (.atom 7) (.int .i64 0))
 (.next 7 [.bool true])
 (.load (.elt (.atom 4) (.atom 6) 1) [.int .i64]
 (.next 7 [(.cmp .geq (.atom 8) (.atom 2))]))))))
 (.leaf (.sc (.bool true)))))
theorem ze6:execF Tryz.prog { pub:=[],nojoin:=false } Tryz.f36=z7y:=by kernel_rfl
theorem z1x:callB Tryz.prog 36=true:=by kernel_rfl
theorem zgs:TriOf Tryz.prog 36 Tryz.f36 z7y:=triOf Tryz.func36 ze6
abbrev z1q:FuncId:=39
def zj3:Fm VE:=
 (.loop 1 [.int .i64] [.int .i64 0]
 (.ite (.cmp .lss (.atom 3) (.len (.atom 0)))
 (.join 4 []
 (.next 1 [(.ar .add .i64 (.atom 3) (.int .i64 1))])
 (.chk [] (.inSl (.atom 0) (.atom 3))
 (.load (.elt (.atom 0) (.atom 3) 1) [.int .i64]
 (.load (.atom 1) [.bool]
 (.chk [((.pick (.atom 5) (.cmp .geq (.atom 4) (.int .i64 0)) (.bool false)),true)] (.some (.atom 2))
 (.ite (.pick (.atom 5) (.cmp .geq (.atom 4) (.int .i64 0)) (.bool false))
 (.load (.padd (.atom 2) 2) [.int .i64]
 (.store (.atom 1) [(.cmp .lss (.atom 4) (.atom 6))]
 (.next 4 [])))
 (.store (.atom 1) [.bool false]
 (.next 4 []))))))))
 (.leaf (.tu []))))
theorem znh:zpm Tryz.prog { pub:=[],nojoin:=false } Tryz.f39 [(.sc (.sl)),(.sc (.ptr)),(.sc (.ptr))]=zj3:=by kernel_rfl
theorem z38:callB Tryz.prog 39=true:=by kernel_rfl
theorem zqi:Z0w Tryz.prog 39 [(.sc (.sl)),(.sc (.ptr)),(.sc (.ptr))] zj3:=Z5s Tryz.func39 znh
abbrev zf9:FuncId:=41
def z5u:Fm VE:=
 (.ite (.cmp .eql (.atom 1) (.atom 2))
 (.leaf (.tu []))
 (.loop 3 [.int .i64] [.int .i64 0]
 (.ite (.cmp .lss (.atom 3) (.int .i64 2))
 (.sem (.index 136 (.tmp 17) (.tmp 18)) 49 [(17,(.ag [.atom 1,.atom 2,.atom 2,.atom 1])),(18,(.sc (.atom 3)))] (.ag [.int .i64,.int .i64]) []
 (.join 8 []
 (.sem (.lookup 64 (.tmp 30) (.tmp 32) false) 67 [(30,(.sc (.atom 0))),(32,(.sc (.atom 4)))] (.sc .map) []
 (.sem (.mapUpdate 67 (.tmp 33) (.tmp 35) (.const (.int .i64 1))) 0 [(33,(.sc (.atom 6))),(35,(.sc (.atom 5)))] (.tu []) []
 (.next 3 [(.ar .add .i64 (.atom 3) (.int .i64 1))])))
 (.sem (.lookup 64 (.tmp 21) (.tmp 23) false) 67 [(21,(.sc (.atom 0))),(23,(.sc (.atom 4)))] (.sc .map) []
 (.ite (.isnil (.atom 6))
 (.sem (.makeMap 67 none) 67 [] (.sc .map) []
 (.sem (.mapUpdate 64 (.tmp 26) (.tmp 28) (.tmp 29)) 0 [(26,(.sc (.atom 0))),(28,(.sc (.atom 4))),(29,(.sc (.atom 7)))] (.tu []) []
 (.next 8 [])))
 (.next 8 [])))))
 (.leaf (.tu [])))))
theorem zbr:execF Tryz.prog { pub:=[],nojoin:=false } Tryz.f41=z5u:=by kernel_rfl
theorem z31:callB Tryz.prog 41=true:=by kernel_rfl
theorem zco:TriOf Tryz.prog 41 Tryz.f41 z5u:=triOf Tryz.func41 zbr
abbrev zb6:FuncId:=43
def z4d:Fm VE:=
 (.call (.fn 65) [.sc (.atom 0),.sc (.atom 1)] (.sc (.int .i64)) []
 (.leaf (.sc (.cmp .geq (.atom 2) (.int .i64 0)))))
theorem z8k:execF Tryz.prog { pub:=[],nojoin:=false } Tryz.f43=z4d:=by kernel_rfl
theorem zat:callB Tryz.prog 43=true:=by kernel_rfl
theorem z9v:TriOf Tryz.prog 43 Tryz.f43 z4d:=triOf Tryz.func43 z8k
abbrev zpc:FuncId:=45
def zft:Fm VE:=
 (.call (.fn 69) [.sc (.atom 0),.sc (.atom 1)] (.tu [(false,[.int .u64]),(false,[.int .u64])]) []
 (.leaf (.tu [(false,[.atom 2]),(false,[.atom 3])])))
theorem zl6:execF Tryz.prog { pub:=[],nojoin:=false } Tryz.f45=zft:=by kernel_rfl
theorem zoc:callB Tryz.prog 45=true:=by kernel_rfl
theorem zna:TriOf Tryz.prog 45 Tryz.f45 zft:=triOf Tryz.func45 zl6
abbrev zch:FuncId:=46
def z4o:Fm VE:=
 (.loop 1 [.int .i64,.int .i64] [.int .i64 0,(.ar .sub .i64 (.len (.atom 0)) (.int .i64 1))]
 (.ite (.cmp .lss (.atom 1) (.atom 2))
 (.chk [] (.inSl (.atom 0) (.atom 2))
 (.load (.elt (.atom 0) (.atom 2) 1) [.int .i64]
 (.chk [] (.inSl (.atom 0) (.atom 1))
 (.load (.elt (.atom 0) (.atom 1) 1) [.int .i64]
 (.store (.elt (.atom 0) (.atom 1) 1) [.atom 3]
 (.store (.elt (.atom 0) (.atom 2) 1) [.atom 4]
 (.next 1 [(.ar .add .i64 (.atom 1) (.int .i64 1)),(.ar .sub .i64 (.atom 2) (.int .i64 1))])))))))
 (.leaf (.tu []))))
theorem z9l:execF Tryz.prog { pub:=[],nojoin:=false } Tryz.f46=z4o:=by kernel_rfl
theorem zbj:callB Tryz.prog 46=true:=by kernel_rfl
theorem zar:TriOf Tryz.prog 46 Tryz.f46 z4o:=triOf Tryz.func46 z9l
abbrev zaj:FuncId:=47
def z3r:Fm VE:=
 (.loop 3 [.int .i64,.int .i64] [.int .i64 0,.int .i64 0]
 (.chk [] (.some (.atom 0))
 (.load (.padd (.atom 0) 2) [.sl]
 (.ite (.cmp .lss (.atom 5) (.len (.atom 6)))
 (.join 7 [.bool]
 (.ite (.atom 7)
 (.leaf (.sc (.atom 5)))
 (.next 3 [.atom 4,(.ar .add .i64 (.atom 5) (.int .i64 1))]))
 (.ite (.cmp .eql (.atom 1) (.int .i64 8))
 (.load (.padd (.atom 0) 2) [.sl]
 (.chk [] (.inSl (.atom 7) (.atom 5))
 (.load (.padd (.elt (.atom 7) (.atom 5) 5) 0) [.int .i64]
 (.next 7 [(.cmp .eql (.atom 8) (.atom 2))]))))
 (.next 7 [.bool false])))
 (.leaf (.sc (.int .i64 (-1))))))))
theorem z7i:execF Tryz.prog { pub:=[],nojoin:=false } Tryz.f47=z3r:=by kernel_rfl
theorem z3o:callB Tryz.prog 47=true:=by kernel_rfl
theorem z8t:TriOf Tryz.prog 47 Tryz.f47 z3r:=triOf Tryz.func47 z7i
abbrev z3t:FuncId:=48
def z67:Fm VE:=
 (.sem (.buildSlice 79 0 #[]) 79 [] (.sc .sl) []
 (.loop 4 [.sl,.int .i64] [.atom 1,.int .i64 0]
 (.ite (.cmp .lss (.atom 3) (.len (.atom 0)))
 (.chk [] (.inSl (.atom 0) (.atom 3))
 (.load (.elt (.atom 0) (.atom 3) 6) [.int .i64,.sl,.int .i64,.int .i64,.int .i64,.int .i64]
 (.sem (.buildSlice 85 0 #[]) 85 [] (.sc .sl) []
 (.sem (.call ⟨.builtin .append,#[.tmp 17,.tmp 19],#[85,85]⟩) 85 [(17,(.sc (.atom 10))),(19,(.sc (.atom 5)))] (.sc .sl) []
 (.sem (.buildSlice 79 1 #[(0,(.tmp 23))]) 79 [(23,(.ag [.atom 4,.atom 11,.atom 6,.atom 7,.atom 8,.atom 9]))] (.sc .sl) []
 (.sem (.call ⟨.builtin .append,#[.tmp 22,.tmp 24],#[79,79]⟩) 79 [(22,(.sc (.atom 2))),(24,(.sc (.atom 12)))] (.sc .sl) []
 (.next 4 [.atom 13,(.ar .add .i64 (.atom 3) (.int .i64 1))])))))))
 (.leaf (.sc (.atom 2))))))
theorem zcc:execF Tryz.prog { pub:=[],nojoin:=false } Tryz.f48=z67:=by kernel_rfl
theorem z3h:callB Tryz.prog 48=true:=by kernel_rfl
theorem zdm:TriOf Tryz.prog 48 Tryz.f48 z67:=triOf Tryz.func48 zcc
abbrev z9y:FuncId:=49
def z3l:Fm VE:=
 (.chk [] (.some (.atom 0))
 (.load (.padd (.atom 0) 3) [.sl]
 (.ite (.cmp .eql (.len (.atom 4)) (.int .i64 0))
 (.store (.padd (.atom 0) 9) [.atom 1,.atom 2,.atom 3]
 (.store (.padd (.atom 0) 12) [.bool true]
 (.leaf (.tu []))))
 (.load (.padd (.atom 0) 3) [.sl]
 (.chk [] (.inSl (.atom 5) (.ar .sub .i64 (.len (.atom 4)) (.int .i64 1)))
 (.load (.padd (.elt (.atom 5) (.ar .sub .i64 (.len (.atom 4)) (.int .i64 1)) 6) 1) [.sl]
 (.load (.padd (.atom 0) 3) [.sl]
 (.chk [] (.inSl (.atom 7) (.ar .sub .i64 (.len (.atom 4)) (.int .i64 1)))
 (.load (.padd (.elt (.atom 7) (.ar .sub .i64 (.len (.atom 4)) (.int .i64 1)) 6) 5) [.int .i64]
 (.chk [] (.inSl (.atom 6) (.atom 8))
 (.store (.elt (.atom 6) (.atom 8) 3) [.atom 1,.atom 2,.atom 3]
 (.leaf (.tu [])))))))))))))
theorem z7k:execF Tryz.prog { pub:=[],nojoin:=false } Tryz.f49=z3l:=by kernel_rfl
theorem z3n:callB Tryz.prog 49=true:=by kernel_rfl
theorem z8q:TriOf Tryz.prog 49 Tryz.f49 z3l:=triOf Tryz.func49 z7k
abbrev zc2:FuncId:=50
def z4q:Fm VE:=
 (.ite (.pick (.pick (.pick (.pick (.cmp .lss (.atom 1) (.int .i64 0)) (.bool true) (.cmp .gtr (.atom 1) (.int .i64 4))) (.bool true) (.pick (.cmp .eql (.atom 1) (.int .i64 0)) (.cmp .neq (.len (.atom 2)) (.int .i64 2)) (.bool false))) (.bool true) (.pick (.cmp .eql (.atom 1) (.int .i64 3)) (.cmp .neq (.len (.atom 2)) (.int .i64 1)) (.bool false))) (.bool true) (.pick (.pick (.cmp .eql (.atom 1) (.int .i64 1)) (.bool true) (.cmp .eql (.atom 1) (.int .i64 2))) (.cmp .gtr (.len (.atom 2)) (.int .i64 1000)) (.bool false)))
 (.leaf (.tu [(true,[.int .i64 0,.int .i64 0,(.str [])]),(false,[.int .i64 1])]))
 (.loop 6 [.int .i64,.int .i64,.int .i64,.int .i64,.str] [.int .i64 0,.int .i64 0,.int .i64 0,.int .i64 0,(.str [])]
 (.ite (.cmp .lss (.atom 4) (.len (.atom 2)))
 (.join 10 [.bool]
 (.ite (.atom 8)
 (.leaf (.tu [(true,[.int .i64 0,.int .i64 0,(.str [])]),(false,[.int .i64 1])]))
 (.next 6 [.atom 3,(.ar .add .i64 (.atom 4) (.int .i64 1)),.atom 5,.atom 6,.atom 7]))
 (.chk [] (.inSl (.atom 2) (.atom 4))
 (.load (.elt (.atom 2) (.atom 4) 3) [.int .i64,.int .i64,.str]
 (.call (.fn 53) [.sc (.atom 0),(.ag [.atom 8,.atom 9,.atom 10])] (.sc .bool) []
 (.ite (.not (.atom 11))
 (.next 10 [.bool true])
 (.ite (.cmp .eql (.atom 1) (.int .i64 2))
 (.load (.padd (.elt (.atom 2) (.atom 4) 3) 0) [.int .i64]
 (.next 10 [(.cmp .neq (.atom 12) (.int .i64 2))]))
 (.next 10 [.bool false])))))))
 (.call (.fn 70) [.sc (.atom 0),.sc (.atom 1),.sc (.atom 2)] (.ag [.int .i64,.int .i64,.str]) []
 (.leaf (.tu [(true,[.atom 8,.atom 9,.atom 10]),(false,[.int .i64 0])]))))))
theorem z9n:execF Tryz.prog { pub:=[],nojoin:=false } Tryz.f50=z4q:=by kernel_rfl
theorem zb2:callB Tryz.prog 50=true:=by kernel_rfl
theorem zan:TriOf Tryz.prog 50 Tryz.f50 z4q:=triOf Tryz.func50 z9n
abbrev zhm:FuncId:=51
def z6z:Fm VE:=
 (.call (.fn 58) [(.ag [.atom 0,.atom 1,.atom 2,.atom 3])] (.sc (.int .i64)) []
 (.ite (.cmp .neq (.atom 4) (.int .i64 0))
 (.leaf (.tu [(true,[.int .i64 0,.int .i64 0,(.str [])]),(false,[.bool false])]))
 (.join 3 []
 (.leaf (.tu [(true,[.int .i64 0,.int .i64 0,(.str [])]),(false,[.bool false])]))
 (.join 5 [.bool]
 (.ite (.atom 5)
 (.leaf (.tu [(true,[.atom 0,.atom 1,(.str [])]),(false,[.bool true])]))
 (.ite (.cmp .eql (.atom 0) (.int .i64 4))
 (.leaf (.tu [(true,[.int .i64 3,.int .i64 0,.atom 2]),(false,[.bool true])]))
 (.ite (.cmp .eql (.atom 0) (.int .i64 5))
 (.ite (.cmp .eql (.len (.atom 3)) (.int .i64 0))
 (.leaf (.tu [(true,[.int .i64 4,.int .i64 0,(.str [])]),(false,[.bool true])]))
 (.next 3 []))
 (.next 3 []))))
 (.ite (.cmp .eql (.atom 0) (.int .i64 0))
 (.next 5 [(.cmp .eql (.atom 0) (.int .i64 0))])
 (.next 5 [(.pick (.cmp .eql (.atom 0) (.int .i64 1)) (.cmp .eql (.atom 0) (.int .i64 1)) (.cmp .eql (.atom 0) (.int .i64 2)))]))))))
theorem zcy:execF Tryz.prog { pub:=[],nojoin:=false } Tryz.f51=z6z:=by kernel_rfl
theorem zgu:callB Tryz.prog 51=true:=by kernel_rfl
theorem zey:TriOf Tryz.prog 51 Tryz.f51 z6z:=triOf Tryz.func51 zcy
abbrev z9x:FuncId:=52
def z3m:Fm VE:=
 (.ite (.scmp .eql (.atom 1) (.str [114,101,97,100,45,117,56]))
 (.chk [] (.some (.atom 0))
 (.load (.padd (.atom 0) 4) [.str]
 (.ite (.scmp .eql (.atom 3) (.str []))
 (.leaf (.ag [.int .i64 6,.int .i64 0,(.str [])]))
 (.load (.padd (.atom 0) 4) [.str]
 (.chk [] (.inStr (.atom 4) (.int .i64 0))
 (.load (.padd (.atom 0) 4) [.str]
 (.chk [] (.sub (.slen (.atom 5)) (.int .i64 1) (.slen (.atom 5)))
 (.store (.padd (.atom 0) 4) [(.ssub (.atom 5) (.int .i64 1) (.slen (.atom 5)))]
 (.leaf (.ag [.int .i64 1,(.conv .i64 (.sidx (.atom 4) (.int .i64 0))),(.str [])]))))))))))
 (.ite (.scmp .eql (.atom 1) (.str [119,114,105,116,101,45,117,56]))
 (.chk [] (.inSl (.atom 2) (.int .i64 0))
 (.load (.padd (.elt (.atom 2) (.int .i64 0) 3) 0) [.int .i64]
 (.ite (.cmp .neq (.atom 3) (.int .i64 1))
 (.chk [] (.some (.atom 0))
 (.store (.padd (.atom 0) 13) [.int .i64 80]
 (.leaf (.ag [.int .i64 5,.int .i64 0,(.str [])]))))
 (.join 9 [.bool]
 (.ite (.atom 4)
 (.chk [] (.some (.atom 0))
 (.store (.padd (.atom 0) 13) [.int .i64 83]
 (.leaf (.ag [.int .i64 5,.int .i64 0,(.str [])]))))
 (.chk [] (.some (.atom 0))
 (.load (.padd (.atom 0) 5) [.sl]
 (.load (.padd (.elt (.atom 2) (.int .i64 0) 3) 1) [.int .i64]
 (.sem (.buildSlice 80 1 #[(0,(.tmp 73))]) 80 [(73,(.sc (.conv .u8 (.atom 6))))] (.sc .sl) [((.padd (.atom 0) 5),[.atom 5])]
 (.sem (.call ⟨.builtin .append,#[.tmp 68,.tmp 74],#[80,80]⟩) 80 [(68,(.sc (.atom 5))),(74,(.sc (.atom 7)))] (.sc .sl) []
 (.store (.padd (.atom 0) 5) [.atom 8]
 (.leaf (.ag [.int .i64 5,.int .i64 0,(.str [])])))))))))
 (.load (.padd (.elt (.atom 2) (.int .i64 0) 3) 1) [.int .i64]
 (.ite (.cmp .lss (.atom 4) (.int .i64 0))
 (.next 9 [.bool true])
 (.load (.padd (.elt (.atom 2) (.int .i64 0) 3) 1) [.int .i64]
 (.next 9 [(.cmp .gtr (.atom 5) (.int .i64 255))]))))))))
 (.ite (.scmp .eql (.atom 1) (.str [101,114,114,111,114]))
 (.chk [] (.some (.atom 0))
 (.store (.padd (.atom 0) 13) [.int .i64 92]
 (.leaf (.ag [.int .i64 5,.int .i64 0,(.str [])]))))
 (.ite (.scmp .eql (.atom 1) (.str [37,119,105,110,100,101,114,115]))
 (.chk [] (.some (.atom 0))
 (.load (.padd (.atom 0) 6) [.int .i64,.int .i64,.str]
 (.leaf (.ag [.atom 3,.atom 4,.atom 5]))))
 (.ite (.scmp .eql (.atom 1) (.str [37,119,105,110,100,33]))
 (.chk [] (.inSl (.atom 2) (.int .i64 0))
 (.load (.elt (.atom 2) (.int .i64 0) 3) [.int .i64,.int .i64,.str]
 (.chk [] (.some (.atom 0))
 (.store (.padd (.atom 0) 6) [.atom 3,.atom 4,.atom 5]
 (.leaf (.ag [.int .i64 5,.int .i64 0,(.str [])]))))))
 (.chk [] (.some (.atom 0))
 (.load (.padd (.atom 0) 1) [.ptr]
 (.call (.fn 71) [.sc (.atom 3),.sc (.atom 1),.sc (.atom 2)] (.tu [(true,[.int .i64,.int .i64,.str]),(false,[.int .i64])]) []
 (.store (.padd (.atom 0) 13) [.atom 7]
 (.leaf (.ag [.atom 4,.atom 5,.atom 6])))))))))))
theorem z7h:execF Tryz.prog { pub:=[],nojoin:=false } Tryz.f52=z3m:=by kernel_rfl
theorem z9r:callB Tryz.prog 52=true:=by kernel_rfl
theorem z8r:TriOf Tryz.prog 52 Tryz.f52 z3m:=triOf Tryz.func52 z7h
abbrev zcl:FuncId:=53
def z51:Fm VE:=
 (.ite (.pick (.cmp .neq (.atom 1) (.int .i64 3)) (.scmp .neq (.atom 3) (.str [])) (.bool false))
 (.leaf (.sc (.bool false)))
 (.ite (.cmp .eql (.atom 1) (.int .i64 0))
 (.leaf (.sc (.pick (.cmp .eql (.atom 2) (.int .i64 0)) (.bool true) (.cmp .eql (.atom 2) (.int .i64 1)))))
 (.ite (.cmp .eql (.atom 1) (.int .i64 1))
 (.call (.fn 72) [.sc (.atom 2)] (.sc .bool) []
 (.leaf (.sc (.atom 4))))
 (.ite (.cmp .eql (.atom 1) (.int .i64 2))
 (.leaf (.sc (.pick (.cmp .geq (.atom 2) (.int .i64 0)) (.cmp .leq (.atom 2) (.int .i64 255)) (.bool false))))
 (.ite (.cmp .eql (.atom 1) (.int .i64 3))
 (.join 9 [.bool]
 (.leaf (.sc (.atom 4)))
 (.ite (.cmp .eql (.atom 2) (.int .i64 0))
 (.call (.fn 73) [.sc (.atom 3)] (.sc .bool) []
 (.next 9 [.atom 4]))
 (.next 9 [.bool false])))
 (.join 9 [.bool]
 (.ite (.atom 4)
 (.leaf (.sc (.cmp .eql (.atom 2) (.int .i64 0))))
 (.ite (.cmp .eql (.atom 1) (.int .i64 8))
 (.join 11 [.bool]
 (.leaf (.sc (.atom 5)))
 (.chk [((.cmp .geq (.atom 2) (.int .i64 0)),true)] (.some (.atom 0))
 (.chk [((.cmp .geq (.atom 2) (.int .i64 0)),true)] (.some (.atom 0))
 (.ite (.cmp .geq (.atom 2) (.int .i64 0))
 (.load (.padd (.atom 0) 0) [.sl]
 (.next 11 [(.cmp .lss (.atom 2) (.len (.atom 5)))]))
 (.next 11 [.bool false])))))
 (.leaf (.sc (.bool false)))))
 (.ite (.cmp .eql (.atom 1) (.int .i64 4))
 (.next 9 [(.cmp .eql (.atom 1) (.int .i64 4))])
 (.ite (.cmp .eql (.atom 1) (.int .i64 5))
 (.next 9 [(.cmp .eql (.atom 1) (.int .i64 5))])
 (.next 9 [(.pick (.cmp .eql (.atom 1) (.int .i64 6)) (.cmp .eql (.atom 1) (.int .i64 6)) (.cmp .eql (.atom 1) (.int .i64 7)))])))))))))
theorem zaf:execF Tryz.prog { pub:=[],nojoin:=false } Tryz.f53=z51:=by kernel_rfl
theorem z4x:callB Tryz.prog 53=true:=by kernel_rfl
theorem zbh:TriOf Tryz.prog 53 Tryz.f53 z51:=triOf Tryz.func53 zaf
abbrev z4w:FuncId:=54
def z4j:Fm VE:=
 (.ite (.pick (.cmp .geq (.atom 5) (.int .i64 200)) (.bool true) (.cmp .gtr (.atom 4) (.int .i64 32)))
 (.leaf (.tu [(true,[.int .i64 0,.int .i64 0,(.str []),(.nil 1)]),(false,[.atom 5]),(false,[.bool false])]))
 (.sem (.buildSlice 155 8 #[(0,(.const (.string ⟨#[]⟩))),(1,(.const (.string ⟨#[]⟩))),(2,(.const (.string ⟨#[]⟩))),(3,(.const (.string ⟨#[]⟩))),(4,(.const (.string ⟨#[]⟩))),(5,(.const (.string ⟨#[118,111,105,100]⟩))),(6,(.const (.string ⟨#[101,111,102]⟩))),(7,(.const (.string ⟨#[117,110,115,101,116]⟩)))]) 155 [] (.sc .sl) []
 (.ite (.pick (.cmp .eql (.atom 1) (.int .i64 1)) (.cmp .eql (.atom 1) (.int .i64 1)) (.cmp .eql (.atom 1) (.int .i64 2)))
 (.leaf (.tu [(true,[.atom 1,.atom 2,(.str []),(.nil 1)]),(false,[(.ar .add .i64 (.atom 5) (.int .i64 1))]),(false,[.bool true])]))
 (.ite (.cmp .eql (.atom 1) (.int .i64 3))
 (.leaf (.tu [(true,[.int .i64 4,.int .i64 0,.atom 3,(.nil 1)]),(false,[(.ar .add .i64 (.atom 5) (.int .i64 1))]),(false,[.bool true])]))
 (.ite (.cmp .eql (.atom 1) (.int .i64 4))
 (.leaf (.tu [(true,[.int .i64 5,.int .i64 0,(.str []),(.nil 1)]),(false,[(.ar .add .i64 (.atom 5) (.int .i64 1))]),(false,[.bool true])]))
 (.join 12 [.bool]
 (.ite (.atom 7)
 (.chk [] (.inSl (.atom 6) (.atom 1))
 (.load (.elt (.atom 6) (.atom 1) 1) [.str]
 (.leaf (.tu [(true,[.int .i64 4,.int .i64 0,.atom 8,(.nil 1)]),(false,[(.ar .add .i64 (.atom 5) (.int .i64 1))]),(false,[.bool true])]))))
 (.ite (.cmp .eql (.atom 1) (.int .i64 0))
 (.leaf (.tu [(true,[.int .i64 0,.atom 2,(.str []),(.nil 1)]),(false,[(.ar .add .i64 (.atom 5) (.int .i64 1))]),(false,[.bool true])]))
 (.chk [] (.some (.atom 0))
 (.load (.padd (.atom 0) 0) [.sl]
 (.chk [] (.inSl (.atom 8) (.atom 2))
 (.load (.elt (.atom 8) (.atom 2) 2) [.int .i64,.sl]
 (.ite (.cmp .eql (.atom 9) (.int .i64 3))
 (.leaf (.tu [(true,[.int .i64 4,.int .i64 0,(.str [98,111,120]),(.nil 1)]),(false,[(.ar .add .i64 (.atom 5) (.int .i64 1))]),(false,[.bool true])]))
 (.ite (.cmp .eql (.atom 9) (.int .i64 4))
 (.leaf (.tu [(true,[.int .i64 4,.int .i64 0,(.str [112,114,111,99,101,100,117,114,101]),(.nil 1)]),(false,[(.ar .add .i64 (.atom 5) (.int .i64 1))]),(false,[.bool true])]))
 (.ite (.cmp .eql (.atom 9) (.int .i64 2))
 (.sem (.buildSlice 80 0 #[]) 80 [] (.sc .sl) []
 (.loop 24 [.sl,.int .i64] [.atom 11,.int .i64 0]
 (.ite (.cmp .lss (.atom 13) (.len (.atom 10)))
 (.chk [] (.inSl (.atom 10) (.atom 13))
 (.load (.padd (.elt (.atom 10) (.atom 13) 3) 1) [.int .i64]
 (.sem (.buildSlice 80 1 #[(0,(.tmp 106))]) 80 [(106,(.sc (.conv .u8 (.atom 14))))] (.sc .sl) []
 (.sem (.call ⟨.builtin .append,#[.tmp 99,.tmp 107],#[80,80]⟩) 80 [(99,(.sc (.atom 12))),(107,(.sc (.atom 15)))] (.sc .sl) []
 (.next 24 [.atom 16,(.ar .add .i64 (.atom 13) (.int .i64 1))])))))
 (.sem (.convert 80 9 (.tmp 109)) 9 [(109,(.sc (.atom 12)))] (.sc .str) []
 (.leaf (.tu [(true,[.int .i64 3,.int .i64 0,.atom 14,(.nil 1)]),(false,[(.ar .add .i64 (.atom 5) (.int .i64 1))]),(false,[.bool true])]))))))
 (.sem (.buildSlice 37 0 #[]) 37 [] (.sc .sl) []
 (.loop 26 [.int .i64,.int .i64,.bool,.sl,.bool,.int .i64,.int .i64,.int .i64,.str,.sl,.int .i64,.int .i64,.str,.sl] [(.ar .add .i64 (.atom 5) (.int .i64 1)),.int .i64 0,.bool false,.atom 11,.bool true,.int .i64 0,.int .i64 0,.int .i64 0,(.str []),(.nil 1),.int .i64 0,.int .i64 0,(.str []),(.nil 1)]
 (.ite (.cmp .lss (.atom 17) (.len (.atom 10)))
 (.chk [] (.inSl (.atom 10) (.atom 17))
 (.load (.elt (.atom 10) (.atom 17) 3) [.int .i64,.int .i64,.str]
 (.call (.fn 54) [.sc (.atom 0),(.ag [.atom 26,.atom 27,.atom 28]),(.sc (.pick (.pick (.cmp .eql (.atom 9) (.int .i64 0)) (.cmp .eql (.atom 17) (.int .i64 1)) (.bool false)) (.atom 4) (.ar .add .i64 (.atom 4) (.int .i64 1)))),.sc (.atom 12)] (.tu [(true,[.int .i64,.int .i64,.str,.sl]),(false,[.int .i64]),(false,[.bool])]) []
 (.ite (.not (.atom 34))
 (.leaf (.tu [(true,[.int .i64 0,.int .i64 0,(.str []),(.nil 1)]),(false,[.atom 33]),(false,[.bool false])]))
 (.sem (.buildSlice 37 1 #[(0,(.tmp 150))]) 37 [(150,(.ag [.atom 29,.atom 30,.atom 31,.atom 32]))] (.sc .sl) []
 (.sem (.call ⟨.builtin .append,#[.tmp 149,.tmp 151],#[37,37]⟩) 37 [(149,(.sc (.atom 15))),(151,(.sc (.atom 35)))] (.sc .sl) []
 (.next 26 [.atom 33,.atom 13,.atom 14,.atom 36,.atom 34,(.ar .add .i64 (.atom 17) (.int .i64 1)),.atom 29,.atom 30,.atom 31,.atom 32,.atom 22,.atom 23,.atom 24,.atom 25])))))))
 (.ite (.cmp .eql (.atom 9) (.int .i64 0))
 (.chk [] (.sub (.cap (.atom 15)) (.int .i64 0) (.int .i64 1))
 (.chk [] (.inSl (.atom 15) (.int .i64 1))
 (.load (.elt (.atom 15) (.int .i64 1) 4) [.int .i64,.int .i64,.str,.sl]
 (.call (.fn 74) [(.sc (.sls (.atom 15) (.int .i64 0) (.int .i64 1) 4)),(.ag [.atom 26,.atom 27,.atom 28,.atom 29])] (.ag [.int .i64,.int .i64,.str,.sl]) []
 (.leaf (.tu [(true,[.atom 30,.atom 31,.atom 32,.atom 33]),(false,[.atom 12]),(false,[.bool true])]))))))
 (.leaf (.tu [(true,[.int .i64 7,.int .i64 0,(.str []),.atom 15]),(false,[.atom 12]),(false,[.bool true])])))))))))))))))
 (.ite (.cmp .eql (.atom 1) (.int .i64 5))
 (.next 12 [(.cmp .eql (.atom 1) (.int .i64 5))])
 (.next 12 [(.pick (.cmp .eql (.atom 1) (.int .i64 6)) (.cmp .eql (.atom 1) (.int .i64 6)) (.cmp .eql (.atom 1) (.int .i64 7)))]))))))))
theorem z9j:execF Tryz.prog { pub:=[],nojoin:=false } Tryz.f54=z4j:=by kernel_rfl
theorem z4k:callB Tryz.prog 54=true:=by kernel_rfl
theorem z4c:TriOf Tryz.prog 54 Tryz.f54 z4j:=triOf Tryz.func54 z9j
abbrev zdn:FuncId:=65
def z5f:Fm VE:=
 (.loop 3 [.int .i64,.int .i64] [.int .i64 0,.int .i64 0]
 (.ite (.cmp .lss (.atom 3) (.len (.atom 0)))
 (.chk [] (.inSl (.atom 0) (.atom 3))
 (.load (.elt (.atom 0) (.atom 3) 1) [.int .i64]
 (.ite (.cmp .eql (.atom 1) (.atom 4))
 (.leaf (.sc (.atom 3)))
 (.next 3 [.atom 2,(.ar .add .i64 (.atom 3) (.int .i64 1))]))))
 (.leaf (.sc (.int .i64 (-1))))))
theorem zaw:execF Tryz.prog { pub:=[],nojoin:=false } Tryz.f65=z5f:=by kernel_rfl
theorem zd2:callB Tryz.prog 65=true:=by kernel_rfl
theorem z4v:TriOf Tryz.prog 65 Tryz.f65 z5f:=triOf Tryz.func65 zaw
abbrev znd:FuncId:=69
def z43:Fm VE:=
 (.leaf (.tu [(false,[(.ar .add .u64 (.ar .add .u64 (.ar .mul .u64 (.ar .shr .u64 (.atom 0) (.int .u64 32)) (.ar .shr .u64 (.atom 1) (.int .u64 32))) (.ar .shr .u64 (.ar .add .u64 (.ar .mul .u64 (.ar .shr .u64 (.atom 0) (.int .u64 32)) (.ar .and .u64 (.atom 1) (.int .u64 4294967295))) (.ar .shr .u64 (.ar .mul .u64 (.ar .and .u64 (.atom 0) (.int .u64 4294967295)) (.ar .and .u64 (.atom 1) (.int .u64 4294967295))) (.int .u64 32))) (.int .u64 32))) (.ar .shr .u64 (.ar .add .u64 (.ar .and .u64 (.ar .add .u64 (.ar .mul .u64 (.ar .shr .u64 (.atom 0) (.int .u64 32)) (.ar .and .u64 (.atom 1) (.int .u64 4294967295))) (.ar .shr .u64 (.ar .mul .u64 (.ar .and .u64 (.atom 0) (.int .u64 4294967295)) (.ar .and .u64 (.atom 1) (.int .u64 4294967295))) (.int .u64 32))) (.int .u64 4294967295)) (.ar .mul .u64 (.ar .and .u64 (.atom 0) (.int .u64 4294967295)) (.ar .shr .u64 (.atom 1) (.int .u64 32)))) (.int .u64 32)))]),(false,[(.ar .mul .u64 (.atom 0) (.atom 1))])]))
theorem zjq:execF Tryz.prog { pub:=[],nojoin:=false } Tryz.f69=z43:=by kernel_rfl
theorem zlu:callB Tryz.prog 69=true:=by kernel_rfl
theorem zl7:TriOf Tryz.prog 69 Tryz.f69 z43:=triOf Tryz.func69 zjq
abbrev zdb:FuncId:=70
def z4t:Fm VE:=
 (.chk [] (.some (.atom 0))
 (.load (.padd (.atom 0) 0) [.sl]
 (.sem (.buildSlice 85 0 #[]) 85 [] (.sc .sl) [((.padd (.atom 0) 0),[.atom 3])]
 (.sem (.call ⟨.builtin .append,#[.tmp 13,.tmp 14],#[85,85]⟩) 85 [(13,(.sc (.atom 4))),(14,(.sc (.atom 2)))] (.sc .sl) [((.padd (.atom 0) 0),[.atom 3])]
 (.sem (.buildSlice 73 1 #[(0,(.tmp 16))]) 73 [(16,(.ag [.atom 1,.atom 5]))] (.sc .sl) [((.padd (.atom 0) 0),[.atom 3])]
 (.sem (.call ⟨.builtin .append,#[.tmp 11,.tmp 17],#[73,73]⟩) 73 [(11,(.sc (.atom 3))),(17,(.sc (.atom 6)))] (.sc .sl) []
 (.store (.padd (.atom 0) 0) [.atom 7]
 (.load (.padd (.atom 0) 0) [.sl]
 (.leaf (.ag [.int .i64 8,(.ar .sub .i64 (.len (.atom 8)) (.int .i64 1)),(.str [])]))))))))))
theorem zai:execF Tryz.prog { pub:=[],nojoin:=false } Tryz.f70=z4t:=by kernel_rfl
theorem z1v:callB Tryz.prog 70=true:=by kernel_rfl
theorem zb9:TriOf Tryz.prog 70 Tryz.f70 z4t:=triOf Tryz.func70 zai
abbrev zdz:FuncId:=71
def z5j:Fm VE:=
 (.call (.fn 92) [] (.sc .sl) []
 (.loop 5 [.int .i64,.int .i64] [(.int .i64 (-1)),.int .i64 0]
 (.ite (.cmp .lss (.atom 5) (.len (.atom 3)))
 (.chk [] (.inSl (.atom 3) (.atom 5))
 (.load (.padd (.elt (.atom 3) (.atom 5) 2) 0) [.str]
 (.next 5 [(.pick (.scmp .eql (.atom 6) (.atom 1)) (.atom 5) (.atom 4)),(.ar .add .i64 (.atom 5) (.int .i64 1))])))
 (.join 9 [.bool]
 (.ite (.atom 6)
 (.leaf (.tu [(true,[.int .i64 0,.int .i64 0,(.str [])]),(false,[.int .i64 1])]))
 (.loop 12 [.int .i64,.int .i64,.int .i64,.int .i64,.str] [.int .i64 0,.int .i64 0,.int .i64 0,.int .i64 0,(.str [])]
 (.ite (.cmp .lss (.atom 8) (.len (.atom 2)))
 (.chk [] (.inSl (.atom 2) (.atom 8))
 (.load (.elt (.atom 2) (.atom 8) 3) [.int .i64,.int .i64,.str]
 (.call (.fn 53) [.sc (.atom 0),(.ag [.atom 12,.atom 13,.atom 14])] (.sc .bool) []
 (.ite (.not (.atom 15))
 (.leaf (.tu [(true,[.int .i64 0,.int .i64 0,(.str [])]),(false,[.int .i64 1])]))
 (.next 12 [.atom 7,(.ar .add .i64 (.atom 8) (.int .i64 1)),.atom 9,.atom 10,.atom 11])))))
 (.loop 17 [.int .i64,.int .i64,.int .i64,.int .i64,.str] [.atom 7,.int .i64 0,.atom 9,.atom 10,.atom 11]
 (.ite (.cmp .lss (.atom 13) (.len (.atom 2)))
 (.chk [] (.inSl (.atom 3) (.atom 4))
 (.load (.padd (.elt (.atom 3) (.atom 4) 2) 1) [.sl]
 (.chk [] (.inSl (.atom 17) (.atom 13))
 (.load (.elt (.atom 17) (.atom 13) 1) [.int .i64]
 (.join 22 [.bool]
 (.ite (.atom 19)
 (.leaf (.tu [(true,[.int .i64 0,.int .i64 0,(.str [])]),(false,[.int .i64 80])]))
 (.next 17 [.atom 12,(.ar .add .i64 (.atom 13) (.int .i64 1)),.atom 14,.atom 15,.atom 16]))
 (.chk [((.cmp .geq (.atom 18) (.int .i64 10)),true)] (.inSl (.atom 2) (.atom 13))
 (.ite (.cmp .geq (.atom 18) (.int .i64 10))
 (.load (.elt (.atom 2) (.atom 13) 3) [.int .i64,.int .i64,.str]
 (.call (.fn 93) [.sc (.atom 0),(.ag [.atom 19,.atom 20,.atom 21])] (.sc (.int .i64)) []
 (.chk [((.cmp .neq (.atom 22) (.ar .sub .i64 (.atom 18) (.int .i64 10))),false),((.pick (.cmp .geq (.atom 18) (.int .i64 0)) (.cmp .lss (.atom 18) (.int .i64 10)) (.bool false)),true)] (.inSl (.atom 2) (.atom 13))
 (.chk [((.cmp .neq (.atom 22) (.ar .sub .i64 (.atom 18) (.int .i64 10))),false),((.pick (.cmp .geq (.atom 18) (.int .i64 0)) (.cmp .lss (.atom 18) (.int .i64 10)) (.bool false)),true)] (.some (.elt (.atom 2) (.atom 13) 3))
 (.ite (.cmp .neq (.atom 22) (.ar .sub .i64 (.atom 18) (.int .i64 10)))
 (.next 22 [.bool true])
 (.ite (.pick (.cmp .geq (.atom 18) (.int .i64 0)) (.cmp .lss (.atom 18) (.int .i64 10)) (.bool false))
 (.load (.padd (.elt (.atom 2) (.atom 13) 3) 0) [.int .i64]
 (.next 22 [(.cmp .neq (.atom 23) (.atom 18))]))
 (.next 22 [.bool false])))))))
 (.chk [((.pick (.cmp .geq (.atom 18) (.int .i64 0)) (.cmp .lss (.atom 18) (.int .i64 10)) (.bool false)),true)] (.inSl (.atom 2) (.atom 13))
 (.chk [((.pick (.cmp .geq (.atom 18) (.int .i64 0)) (.cmp .lss (.atom 18) (.int .i64 10)) (.bool false)),true)] (.some (.elt (.atom 2) (.atom 13) 3))
 (.ite (.pick (.cmp .geq (.atom 18) (.int .i64 0)) (.cmp .lss (.atom 18) (.int .i64 10)) (.bool false))
 (.load (.padd (.elt (.atom 2) (.atom 13) 3) 0) [.int .i64]
 (.next 22 [(.cmp .neq (.atom 19) (.atom 18))]))
 (.next 22 [.bool false])))))))))))
 (.join 23 [.int .i64,.int .i64,.str]
 (.join 24 [.int .i64,.int .i64,.str]
 (.join 25 [.int .i64,.int .i64,.str]
 (.ite (.scmp .eql (.atom 1) (.str [43]))
 (.call (.fn 94) [.sc (.int .i64 0),(.ag [.atom 17,.atom 18,.atom 19]),(.ag [.atom 20,.atom 21,.atom 22])] (.tu [(true,[.int .i64,.int .i64,.str]),(false,[.int .i64])]) []
 (.leaf (.tu [(true,[.atom 26,.atom 27,.atom 28]),(false,[.atom 29])])))
 (.ite (.scmp .eql (.atom 1) (.str [45]))
 (.call (.fn 94) [.sc (.int .i64 1),(.ag [.atom 17,.atom 18,.atom 19]),(.ag [.atom 20,.atom 21,.atom 22])] (.tu [(true,[.int .i64,.int .i64,.str]),(false,[.int .i64])]) []
 (.leaf (.tu [(true,[.atom 26,.atom 27,.atom 28]),(false,[.atom 29])])))
 (.ite (.scmp .eql (.atom 1) (.str [42]))
 (.call (.fn 94) [.sc (.int .i64 2),(.ag [.atom 17,.atom 18,.atom 19]),(.ag [.atom 20,.atom 21,.atom 22])] (.tu [(true,[.int .i64,.int .i64,.str]),(false,[.int .i64])]) []
 (.leaf (.tu [(true,[.atom 26,.atom 27,.atom 28]),(false,[.atom 29])])))
 (.ite (.scmp .eql (.atom 1) (.str [113,117,111,116,105,101,110,116]))
 (.call (.fn 94) [.sc (.int .i64 3),(.ag [.atom 17,.atom 18,.atom 19]),(.ag [.atom 20,.atom 21,.atom 22])] (.tu [(true,[.int .i64,.int .i64,.str]),(false,[.int .i64])]) []
 (.leaf (.tu [(true,[.atom 26,.atom 27,.atom 28]),(false,[.atom 29])])))
 (.ite (.scmp .eql (.atom 1) (.str [114,101,109,97,105,110,100,101,114]))
 (.call (.fn 94) [.sc (.int .i64 4),(.ag [.atom 17,.atom 18,.atom 19]),(.ag [.atom 20,.atom 21,.atom 22])] (.tu [(true,[.int .i64,.int .i64,.str]),(false,[.int .i64])]) []
 (.leaf (.tu [(true,[.atom 26,.atom 27,.atom 28]),(false,[.atom 29])])))
 (.ite (.scmp .eql (.atom 1) (.str [60]))
 (.call (.fn 95) [(.sc (.cmp .lss (.atom 18) (.atom 21)))] (.ag [.int .i64,.int .i64,.str]) []
 (.leaf (.tu [(true,[.atom 26,.atom 27,.atom 28]),(false,[.int .i64 0])])))
 (.ite (.pick (.scmp .eql (.atom 1) (.str [61])) (.scmp .eql (.atom 1) (.str [61])) (.scmp .eql (.atom 1) (.str [101,113,63])))
 (.sem (.binOp .eql 77 (.tmp 175) (.tmp 176) 77) 4 [(175,(.ag [.atom 17,.atom 18,.atom 19])),(176,(.ag [.atom 20,.atom 21,.atom 22]))] (.sc .bool) []
 (.call (.fn 95) [.sc (.atom 26)] (.ag [.int .i64,.int .i64,.str]) []
 (.leaf (.tu [(true,[.atom 27,.atom 28,.atom 29]),(false,[.int .i64 0])]))))
 (.ite (.scmp .eql (.atom 1) (.str [110,117,108,108,63]))
 (.call (.fn 95) [(.sc (.cmp .eql (.atom 17) (.int .i64 4)))] (.ag [.int .i64,.int .i64,.str]) []
 (.leaf (.tu [(true,[.atom 26,.atom 27,.atom 28]),(false,[.int .i64 0])])))
 (.ite (.scmp .eql (.atom 1) (.str [115,121,109,98,111,108,63]))
 (.call (.fn 95) [(.sc (.cmp .eql (.atom 17) (.int .i64 3)))] (.ag [.int .i64,.int .i64,.str]) []
 (.leaf (.tu [(true,[.atom 26,.atom 27,.atom 28]),(false,[.int .i64 0])])))
 (.ite (.scmp .eql (.atom 1) (.str [99,104,97,114,63]))
 (.call (.fn 95) [(.sc (.cmp .eql (.atom 17) (.int .i64 2)))] (.ag [.int .i64,.int .i64,.str]) []
 (.leaf (.tu [(true,[.atom 26,.atom 27,.atom 28]),(false,[.int .i64 0])])))
 (.ite (.scmp .eql (.atom 1) (.str [105,110,116,101,103,101,114,63]))
 (.call (.fn 95) [(.sc (.cmp .eql (.atom 17) (.int .i64 1)))] (.ag [.int .i64,.int .i64,.str]) []
 (.leaf (.tu [(true,[.atom 26,.atom 27,.atom 28]),(false,[.int .i64 0])])))
 (.ite (.scmp .eql (.atom 1) (.str [98,111,111,108,101,97,110,63]))
 (.call (.fn 95) [(.sc (.cmp .eql (.atom 17) (.int .i64 0)))] (.ag [.int .i64,.int .i64,.str]) []
 (.leaf (.tu [(true,[.atom 26,.atom 27,.atom 28]),(false,[.int .i64 0])])))
 (.ite (.scmp .eql (.atom 1) (.str [101,111,102,45,111,98,106,101,99,116,63]))
 (.call (.fn 95) [(.sc (.cmp .eql (.atom 17) (.int .i64 6)))] (.ag [.int .i64,.int .i64,.str]) []
 (.leaf (.tu [(true,[.atom 26,.atom 27,.atom 28]),(false,[.int .i64 0])])))
 (.ite (.scmp .eql (.atom 1) (.str [112,97,105,114,63]))
 (.call (.fn 93) [.sc (.atom 0),(.ag [.atom 17,.atom 18,.atom 19])] (.sc (.int .i64)) []
 (.call (.fn 95) [(.sc (.cmp .eql (.atom 26) (.int .i64 0)))] (.ag [.int .i64,.int .i64,.str]) []
 (.leaf (.tu [(true,[.atom 27,.atom 28,.atom 29]),(false,[.int .i64 0])]))))
 (.ite (.scmp .eql (.atom 1) (.str [118,101,99,116,111,114,63]))
 (.call (.fn 93) [.sc (.atom 0),(.ag [.atom 17,.atom 18,.atom 19])] (.sc (.int .i64)) []
 (.call (.fn 95) [(.sc (.cmp .eql (.atom 26) (.int .i64 1)))] (.ag [.int .i64,.int .i64,.str]) []
 (.leaf (.tu [(true,[.atom 27,.atom 28,.atom 29]),(false,[.int .i64 0])]))))
 (.ite (.scmp .eql (.atom 1) (.str [115,116,114,105,110,103,63]))
 (.call (.fn 93) [.sc (.atom 0),(.ag [.atom 17,.atom 18,.atom 19])] (.sc (.int .i64)) []
 (.call (.fn 95) [(.sc (.cmp .eql (.atom 26) (.int .i64 2)))] (.ag [.int .i64,.int .i64,.str]) []
 (.leaf (.tu [(true,[.atom 27,.atom 28,.atom 29]),(false,[.int .i64 0])]))))
 (.ite (.scmp .eql (.atom 1) (.str [112,114,111,99,101,100,117,114,101,63]))
 (.call (.fn 93) [.sc (.atom 0),(.ag [.atom 17,.atom 18,.atom 19])] (.sc (.int .i64)) []
 (.call (.fn 95) [(.sc (.cmp .eql (.atom 26) (.int .i64 4)))] (.ag [.int .i64,.int .i64,.str]) []
 (.leaf (.tu [(true,[.atom 27,.atom 28,.atom 29]),(false,[.int .i64 0])]))))
 (.ite (.scmp .eql (.atom 1) (.str [99,111,110,115]))
 (.call (.fn 70) [.sc (.atom 0),.sc (.int .i64 0),.sc (.atom 2)] (.ag [.int .i64,.int .i64,.str]) []
 (.leaf (.tu [(true,[.atom 26,.atom 27,.atom 28]),(false,[.int .i64 0])])))
 (.ite (.scmp .eql (.atom 1) (.str [37,98,111,120]))
 (.call (.fn 70) [.sc (.atom 0),.sc (.int .i64 3),.sc (.atom 2)] (.ag [.int .i64,.int .i64,.str]) []
 (.leaf (.tu [(true,[.atom 26,.atom 27,.atom 28]),(false,[.int .i64 0])])))
 (.ite (.scmp .eql (.atom 1) (.str [109,97,107,101,45,118,101,99,116,111,114]))
 (.call (.fn 96) [.sc (.atom 0),.sc (.int .i64 1),.sc (.atom 18),(.ag [.atom 20,.atom 21,.atom 22])] (.tu [(true,[.int .i64,.int .i64,.str]),(false,[.int .i64])]) []
 (.leaf (.tu [(true,[.atom 26,.atom 27,.atom 28]),(false,[.atom 29])])))
 (.ite (.scmp .eql (.atom 1) (.str [109,97,107,101,45,115,116,114,105,110,103]))
 (.call (.fn 96) [.sc (.atom 0),.sc (.int .i64 2),.sc (.atom 18),(.ag [.atom 20,.atom 21,.atom 22])] (.tu [(true,[.int .i64,.int .i64,.str]),(false,[.int .i64])]) []
 (.leaf (.tu [(true,[.atom 26,.atom 27,.atom 28]),(false,[.atom 29])])))
 (.ite (.pick (.scmp .eql (.atom 1) (.str [118,101,99,116,111,114,45,108,101,110,103,116,104])) (.scmp .eql (.atom 1) (.str [118,101,99,116,111,114,45,108,101,110,103,116,104])) (.scmp .eql (.atom 1) (.str [115,116,114,105,110,103,45,108,101,110,103,116,104])))
 (.chk [] (.some (.atom 0))
 (.load (.padd (.atom 0) 0) [.sl]
 (.chk [] (.inSl (.atom 26) (.atom 18))
 (.load (.padd (.elt (.atom 26) (.atom 18) 2) 1) [.sl]
 (.call (.fn 97) [(.sc (.len (.atom 27)))] (.ag [.int .i64,.int .i64,.str]) []
 (.leaf (.tu [(true,[.atom 28,.atom 29,.atom 30]),(false,[.int .i64 0])])))))))
 (.ite (.pick (.scmp .eql (.atom 1) (.str [99,97,114])) (.scmp .eql (.atom 1) (.str [99,97,114])) (.scmp .eql (.atom 1) (.str [37,117,110,98,111,120])))
 (.call (.fn 98) [.sc (.atom 0),(.ag [.atom 17,.atom 18,.atom 19]),.sc (.int .i64 0)] (.tu [(true,[.int .i64,.int .i64,.str]),(false,[.int .i64])]) []
 (.leaf (.tu [(true,[.atom 26,.atom 27,.atom 28]),(false,[.atom 29])])))
 (.ite (.scmp .eql (.atom 1) (.str [99,100,114]))
 (.call (.fn 98) [.sc (.atom 0),(.ag [.atom 17,.atom 18,.atom 19]),.sc (.int .i64 1)] (.tu [(true,[.int .i64,.int .i64,.str]),(false,[.int .i64])]) []
 (.leaf (.tu [(true,[.atom 26,.atom 27,.atom 28]),(false,[.atom 29])])))
 (.ite (.pick (.scmp .eql (.atom 1) (.str [118,101,99,116,111,114,45,114,101,102])) (.scmp .eql (.atom 1) (.str [118,101,99,116,111,114,45,114,101,102])) (.scmp .eql (.atom 1) (.str [115,116,114,105,110,103,45,114,101,102])))
 (.call (.fn 98) [.sc (.atom 0),(.ag [.atom 17,.atom 18,.atom 19]),.sc (.atom 21)] (.tu [(true,[.int .i64,.int .i64,.str]),(false,[.int .i64])]) []
 (.leaf (.tu [(true,[.atom 26,.atom 27,.atom 28]),(false,[.atom 29])])))
 (.ite (.pick (.scmp .eql (.atom 1) (.str [115,101,116,45,99,97,114,33])) (.scmp .eql (.atom 1) (.str [115,101,116,45,99,97,114,33])) (.scmp .eql (.atom 1) (.str [37,115,101,116,45,98,111,120,33])))
 (.call (.fn 99) [.sc (.atom 0),(.ag [.atom 17,.atom 18,.atom 19]),.sc (.int .i64 0),(.ag [.atom 20,.atom 21,.atom 22])] (.tu [(true,[.int .i64,.int .i64,.str]),(false,[.int .i64])]) []
 (.leaf (.tu [(true,[.atom 26,.atom 27,.atom 28]),(false,[.atom 29])])))
 (.ite (.scmp .eql (.atom 1) (.str [115,101,116,45,99,100,114,33]))
 (.call (.fn 99) [.sc (.atom 0),(.ag [.atom 17,.atom 18,.atom 19]),.sc (.int .i64 1),(.ag [.atom 20,.atom 21,.atom 22])] (.tu [(true,[.int .i64,.int .i64,.str]),(false,[.int .i64])]) []
 (.leaf (.tu [(true,[.atom 26,.atom 27,.atom 28]),(false,[.atom 29])])))
 (.ite (.pick (.scmp .eql (.atom 1) (.str [118,101,99,116,111,114,45,115,101,116,33])) (.scmp .eql (.atom 1) (.str [118,101,99,116,111,114,45,115,101,116,33])) (.scmp .eql (.atom 1) (.str [115,116,114,105,110,103,45,115,101,116,33])))
 (.call (.fn 99) [.sc (.atom 0),(.ag [.atom 17,.atom 18,.atom 19]),.sc (.atom 21),(.ag [.atom 23,.atom 24,.atom 25])] (.tu [(true,[.int .i64,.int .i64,.str]),(false,[.int .i64])]) []
 (.leaf (.tu [(true,[.atom 26,.atom 27,.atom 28]),(false,[.atom 29])])))
 (.ite (.scmp .eql (.atom 1) (.str [99,104,97,114,45,62,105,110,116,101,103,101,114]))
 (.call (.fn 97) [.sc (.atom 18)] (.ag [.int .i64,.int .i64,.str]) []
 (.leaf (.tu [(true,[.atom 26,.atom 27,.atom 28]),(false,[.int .i64 0])])))
 (.ite (.scmp .eql (.atom 1) (.str [105,110,116,101,103,101,114,45,62,99,104,97,114]))
 (.ite (.pick (.cmp .lss (.atom 18) (.int .i64 0)) (.bool true) (.cmp .gtr (.atom 18) (.int .i64 255)))
 (.leaf (.tu [(true,[.int .i64 0,.int .i64 0,(.str [])]),(false,[.int .i64 83])]))
 (.leaf (.tu [(true,[.int .i64 2,.atom 18,(.str [])]),(false,[.int .i64 0])])))
 (.ite (.scmp .eql (.atom 1) (.str [37,117,110,115,101,116]))
 (.leaf (.tu [(true,[.int .i64 7,.int .i64 0,(.str [])]),(false,[.int .i64 0])]))
 (.leaf (.tu [(true,[.int .i64 5,.int .i64 0,(.str [])]),(false,[.int .i64 0])])))))))))))))))))))))))))))))))))
 (.ite (.cmp .gtr (.len (.atom 2)) (.int .i64 2))
 (.chk [] (.inSl (.atom 2) (.int .i64 2))
 (.load (.elt (.atom 2) (.int .i64 2) 3) [.int .i64,.int .i64,.str]
 (.next 25 [.atom 23,.atom 24,.atom 25])))
 (.next 25 [.int .i64 0,.int .i64 0,(.str [])])))
 (.ite (.cmp .gtr (.len (.atom 2)) (.int .i64 1))
 (.chk [] (.inSl (.atom 2) (.int .i64 1))
 (.load (.elt (.atom 2) (.int .i64 1) 3) [.int .i64,.int .i64,.str]
 (.next 24 [.atom 20,.atom 21,.atom 22])))
 (.next 24 [.int .i64 0,.int .i64 0,(.str [])])))
 (.ite (.cmp .gtr (.len (.atom 2)) (.int .i64 0))
 (.chk [] (.inSl (.atom 2) (.int .i64 0))
 (.load (.elt (.atom 2) (.int .i64 0) 3) [.int .i64,.int .i64,.str]
 (.next 23 [.atom 17,.atom 18,.atom 19])))
 (.next 23 [.int .i64 0,.int .i64 0,(.str [])]))))))))
 (.chk [((.cmp .lss (.atom 4) (.int .i64 0)),false)] (.inSl (.atom 3) (.atom 4))
 (.chk [((.cmp .lss (.atom 4) (.int .i64 0)),false)] (.some (.elt (.atom 3) (.atom 4) 2))
 (.ite (.cmp .lss (.atom 4) (.int .i64 0))
 (.next 9 [.bool true])
 (.load (.padd (.elt (.atom 3) (.atom 4) 2) 1) [.sl]
 (.next 9 [(.cmp .neq (.len (.atom 6)) (.len (.atom 2)))])))))))))
theorem zau:execF Tryz.prog { pub:=[],nojoin:=false } Tryz.f71=z5j:=by kernel_rfl
theorem zda:callB Tryz.prog 71=true:=by kernel_rfl
theorem zci:TriOf Tryz.prog 71 Tryz.f71 z5j:=triOf Tryz.func71 zau
abbrev zl5:FuncId:=72
def za9:Fm VE:=
 (.leaf (.sc (.pick (.cmp .geq (.atom 0) (.int .i64 (-1152921504606846976))) (.cmp .leq (.atom 0) (.int .i64 1152921504606846975)) (.bool false))))
theorem zgt:execF Tryz.prog { pub:=[],nojoin:=false } Tryz.f72=za9:=by kernel_rfl
theorem zjz:callB Tryz.prog 72=true:=by kernel_rfl
theorem zim:TriOf Tryz.prog 72 Tryz.f72 za9:=triOf Tryz.func72 zgt
abbrev zix:FuncId:=92
def z48:Fm VE:=
 (.sem (.buildSlice 31 2 #[(0,(.const (.int .i64 1))),(1,(.const (.int .i64 1)))]) 31 [] (.sc .sl) []
 (.sem (.buildSlice 31 2 #[(0,(.const (.int .i64 1))),(1,(.const (.int .i64 1)))]) 31 [] (.sc .sl) []
 (.sem (.buildSlice 31 2 #[(0,(.const (.int .i64 1))),(1,(.const (.int .i64 1)))]) 31 [] (.sc .sl) []
 (.sem (.buildSlice 31 2 #[(0,(.const (.int .i64 1))),(1,(.const (.int .i64 1)))]) 31 [] (.sc .sl) []
 (.sem (.buildSlice 31 2 #[(0,(.const (.int .i64 1))),(1,(.const (.int .i64 1)))]) 31 [] (.sc .sl) []
 (.sem (.buildSlice 31 2 #[(0,(.const (.int .i64 1))),(1,(.const (.int .i64 1)))]) 31 [] (.sc .sl) []
 (.sem (.buildSlice 31 2 #[(0,(.const (.int .i64 1))),(1,(.const (.int .i64 1)))]) 31 [] (.sc .sl) []
 (.sem (.buildSlice 31 2 #[(0,(.const (.int .i64 (-1)))),(1,(.const (.int .i64 (-1))))]) 31 [] (.sc .sl) []
 (.sem (.buildSlice 31 1 #[(0,(.const (.int .i64 (-1))))]) 31 [] (.sc .sl) []
 (.sem (.buildSlice 31 1 #[(0,(.const (.int .i64 (-1))))]) 31 [] (.sc .sl) []
 (.sem (.buildSlice 31 1 #[(0,(.const (.int .i64 (-1))))]) 31 [] (.sc .sl) []
 (.sem (.buildSlice 31 1 #[(0,(.const (.int .i64 (-1))))]) 31 [] (.sc .sl) []
 (.sem (.buildSlice 31 1 #[(0,(.const (.int .i64 (-1))))]) 31 [] (.sc .sl) []
 (.sem (.buildSlice 31 1 #[(0,(.const (.int .i64 (-1))))]) 31 [] (.sc .sl) []
 (.sem (.buildSlice 31 1 #[(0,(.const (.int .i64 (-1))))]) 31 [] (.sc .sl) []
 (.sem (.buildSlice 31 1 #[(0,(.const (.int .i64 (-1))))]) 31 [] (.sc .sl) []
 (.sem (.buildSlice 31 1 #[(0,(.const (.int .i64 (-1))))]) 31 [] (.sc .sl) []
 (.sem (.buildSlice 31 1 #[(0,(.const (.int .i64 (-1))))]) 31 [] (.sc .sl) []
 (.sem (.buildSlice 31 2 #[(0,(.const (.int .i64 (-1)))),(1,(.const (.int .i64 (-1))))]) 31 [] (.sc .sl) []
 (.sem (.buildSlice 31 1 #[(0,(.const (.int .i64 10)))]) 31 [] (.sc .sl) []
 (.sem (.buildSlice 31 1 #[(0,(.const (.int .i64 10)))]) 31 [] (.sc .sl) []
 (.sem (.buildSlice 31 2 #[(0,(.const (.int .i64 10))),(1,(.const (.int .i64 (-1))))]) 31 [] (.sc .sl) []
 (.sem (.buildSlice 31 2 #[(0,(.const (.int .i64 10))),(1,(.const (.int .i64 (-1))))]) 31 [] (.sc .sl) []
 (.sem (.buildSlice 31 2 #[(0,(.const (.int .i64 1))),(1,(.const (.int .i64 (-1))))]) 31 [] (.sc .sl) []
 (.sem (.buildSlice 31 2 #[(0,(.const (.int .i64 1))),(1,(.const (.int .i64 2)))]) 31 [] (.sc .sl) []
 (.sem (.buildSlice 31 1 #[(0,(.const (.int .i64 11)))]) 31 [] (.sc .sl) []
 (.sem (.buildSlice 31 1 #[(0,(.const (.int .i64 12)))]) 31 [] (.sc .sl) []
 (.sem (.buildSlice 31 2 #[(0,(.const (.int .i64 11))),(1,(.const (.int .i64 1)))]) 31 [] (.sc .sl) []
 (.sem (.buildSlice 31 2 #[(0,(.const (.int .i64 12))),(1,(.const (.int .i64 1)))]) 31 [] (.sc .sl) []
 (.sem (.buildSlice 31 3 #[(0,(.const (.int .i64 11))),(1,(.const (.int .i64 1))),(2,(.const (.int .i64 (-1))))]) 31 [] (.sc .sl) []
 (.sem (.buildSlice 31 3 #[(0,(.const (.int .i64 12))),(1,(.const (.int .i64 1))),(2,(.const (.int .i64 2)))]) 31 [] (.sc .sl) []
 (.sem (.buildSlice 31 1 #[(0,(.const (.int .i64 2)))]) 31 [] (.sc .sl) []
 (.sem (.buildSlice 31 1 #[(0,(.const (.int .i64 1)))]) 31 [] (.sc .sl) []
 (.sem (.buildSlice 31 1 #[(0,(.const (.int .i64 (-1))))]) 31 [] (.sc .sl) []
 (.sem (.buildSlice 31 1 #[(0,(.const (.int .i64 13)))]) 31 [] (.sc .sl) []
 (.sem (.buildSlice 31 2 #[(0,(.const (.int .i64 13))),(1,(.const (.int .i64 (-1))))]) 31 [] (.sc .sl) []
 (.sem (.buildSlice 174 38 #[(0,(.tmp 2)),(1,(.tmp 4)),(2,(.tmp 6)),(3,(.tmp 8)),(4,(.tmp 10)),(5,(.tmp 12)),(6,(.tmp 14)),(7,(.tmp 16)),(8,(.tmp 18)),(9,(.tmp 20)),(10,(.tmp 22)),(11,(.tmp 24)),(12,(.tmp 26)),(13,(.tmp 28)),(14,(.tmp 30)),(15,(.tmp 32)),(16,(.tmp 34)),(17,(.tmp 36)),(18,(.tmp 38)),(19,(.tmp 40)),(20,(.tmp 42)),(21,(.tmp 44)),(22,(.tmp 46)),(23,(.tmp 48)),(24,(.tmp 50)),(25,(.tmp 52)),(26,(.tmp 54)),(27,(.tmp 56)),(28,(.tmp 58)),(29,(.tmp 60)),(30,(.tmp 62)),(31,(.tmp 64)),(32,(.tmp 66)),(33,(.tmp 68)),(34,(.tmp 70)),(35,(.tmp 72)),(36,(.tmp 73)),(37,(.tmp 74))]) 174 [(2,(.ag [(.str [43]),.atom 0])),(4,(.ag [(.str [45]),.atom 1])),(6,(.ag [(.str [42]),.atom 2])),(8,(.ag [(.str [113,117,111,116,105,101,110,116]),.atom 3])),(10,(.ag [(.str [114,101,109,97,105,110,100,101,114]),.atom 4])),(12,(.ag [(.str [60]),.atom 5])),(14,(.ag [(.str [61]),.atom 6])),(16,(.ag [(.str [101,113,63]),.atom 7])),(18,(.ag [(.str [110,117,108,108,63]),.atom 8])),(20,(.ag [(.str [115,121,109,98,111,108,63]),.atom 9])),(22,(.ag [(.str [99,104,97,114,63]),.atom 10])),(24,(.ag [(.str [105,110,116,101,103,101,114,63]),.atom 11])),(26,(.ag [(.str [98,111,111,108,101,97,110,63]),.atom 12])),(28,(.ag [(.str [101,111,102,45,111,98,106,101,99,116,63]),.atom 13])),(30,(.ag [(.str [112,97,105,114,63]),.atom 14])),(32,(.ag [(.str [118,101,99,116,111,114,63]),.atom 15])),(34,(.ag [(.str [115,116,114,105,110,103,63]),.atom 16])),(36,(.ag [(.str [112,114,111,99,101,100,117,114,101,63]),.atom 17])),(38,(.ag [(.str [99,111,110,115]),.atom 18])),(40,(.ag [(.str [99,97,114]),.atom 19])),(42,(.ag [(.str [99,100,114]),.atom 20])),(44,(.ag [(.str [115,101,116,45,99,97,114,33]),.atom 21])),(46,(.ag [(.str [115,101,116,45,99,100,114,33]),.atom 22])),(48,(.ag [(.str [109,97,107,101,45,118,101,99,116,111,114]),.atom 23])),(50,(.ag [(.str [109,97,107,101,45,115,116,114,105,110,103]),.atom 24])),(52,(.ag [(.str [118,101,99,116,111,114,45,108,101,110,103,116,104]),.atom 25])),(54,(.ag [(.str [115,116,114,105,110,103,45,108,101,110,103,116,104]),.atom 26])),(56,(.ag [(.str [118,101,99,116,111,114,45,114,101,102]),.atom 27])),(58,(.ag [(.str [115,116,114,105,110,103,45,114,101,102]),.atom 28])),(60,(.ag [(.str [118,101,99,116,111,114,45,115,101,116,33]),.atom 29])),(62,(.ag [(.str [115,116,114,105,110,103,45,115,101,116,33]),.atom 30])),(64,(.ag [(.str [99,104,97,114,45,62,105,110,116,101,103,101,114]),.atom 31])),(66,(.ag [(.str [105,110,116,101,103,101,114,45,62,99,104,97,114]),.atom 32])),(68,(.ag [(.str [37,98,111,120]),.atom 33])),(70,(.ag [(.str [37,117,110,98,111,120]),.atom 34])),(72,(.ag [(.str [37,115,101,116,45,98,111,120,33]),.atom 35])),(73,(.ag [(.str [118,111,105,100]),(.nil 1)])),(74,(.ag [(.str [37,117,110,115,101,116]),(.nil 1)]))] (.sc .sl) []
 (.leaf (.sc (.atom 36))))))))))))))))))))))))))))))))))))))))
theorem zdx:execF Tryz.prog { pub:=[],nojoin:=false } Tryz.f92=z48:=by kernel_rfl
theorem zhh:callB Tryz.prog 92=true:=by kernel_rfl
theorem zg7:TriOf Tryz.prog 92 Tryz.f92 z48:=triOf Tryz.func92 zdx
abbrev zca:FuncId:=93
def z4f:Fm VE:=
 (.ite (.cmp .neq (.atom 1) (.int .i64 8))
 (.leaf (.sc (.int .i64 (-1))))
 (.chk [] (.some (.atom 0))
 (.load (.padd (.atom 0) 0) [.sl]
 (.chk [] (.inSl (.atom 4) (.atom 2))
 (.load (.padd (.elt (.atom 4) (.atom 2) 2) 0) [.int .i64]
 (.leaf (.sc (.atom 5))))))))
theorem z9p:execF Tryz.prog { pub:=[],nojoin:=false } Tryz.f93=z4f:=by kernel_rfl
theorem z19:callB Tryz.prog 93=true:=by kernel_rfl
theorem zao:TriOf Tryz.prog 93 Tryz.f93 z4f:=triOf Tryz.func93 z9p
abbrev ze8:FuncId:=94
def z5n:Fm VE:=
 (.call (.fn 110) [.sc (.atom 0),(.sc (.ar .mul .i64 (.int .i64 8) (.atom 2))),(.sc (.ar .mul .i64 (.int .i64 8) (.atom 5)))] (.tu [(false,[.int .i64]),(false,[.int .i64])]) []
 (.ite (.cmp .eql (.atom 8) (.int .i64 10))
 (.leaf (.tu [(true,[.int .i64 0,.int .i64 0,(.str [])]),(false,[.int .i64 81])]))
 (.ite (.cmp .eql (.atom 8) (.int .i64 11))
 (.leaf (.tu [(true,[.int .i64 0,.int .i64 0,(.str [])]),(false,[.int .i64 82])]))
 (.call (.fn 111) [.sc (.atom 7)] (.sc (.int .i64)) []
 (.call (.fn 97) [.sc (.atom 9)] (.ag [.int .i64,.int .i64,.str]) []
 (.leaf (.tu [(true,[.atom 10,.atom 11,.atom 12]),(false,[.int .i64 0])])))))))
theorem zaq:execF Tryz.prog { pub:=[],nojoin:=false } Tryz.f94=z5n:=by kernel_rfl
theorem z1g:callB Tryz.prog 94=true:=by kernel_rfl
theorem zcf:TriOf Tryz.prog 94 Tryz.f94 z5n:=triOf Tryz.func94 zaq
abbrev zi0:FuncId:=95
def z6t:Fm VE:=
 (.ite (.atom 0)
 (.leaf (.ag [.int .i64 0,.int .i64 1,(.str [])]))
 (.leaf (.ag [.int .i64 0,.int .i64 0,(.str [])])))
theorem zcw:execF Tryz.prog { pub:=[],nojoin:=false } Tryz.f95=z6t:=by kernel_rfl
theorem z0e:callB Tryz.prog 95=true:=by kernel_rfl
theorem zf2:TriOf Tryz.prog 95 Tryz.f95 z6t:=triOf Tryz.func95 zcw
abbrev zas:FuncId:=96
def z3y:Fm VE:=
 (.ite (.pick (.cmp .lss (.atom 2) (.int .i64 0)) (.bool true) (.cmp .gtr (.atom 2) (.int .i64 1000)))
 (.leaf (.tu [(true,[.int .i64 0,.int .i64 0,(.str [])]),(false,[.int .i64 83])]))
 (.sem (.buildSlice 85 0 #[]) 85 [] (.sc .sl) []
 (.loop 6 [.sl,.int .i64] [.atom 6,.int .i64 0]
 (.ite (.cmp .lss (.atom 8) (.atom 2))
 (.sem (.buildSlice 85 1 #[(0,(.tmp 26))]) 85 [(26,(.ag [.atom 3,.atom 4,.atom 5]))] (.sc .sl) []
 (.sem (.call ⟨.builtin .append,#[.tmp 25,.tmp 27],#[85,85]⟩) 85 [(25,(.sc (.atom 7))),(27,(.sc (.atom 9)))] (.sc .sl) []
 (.next 6 [.atom 10,(.ar .add .i64 (.atom 8) (.int .i64 1))])))
 (.call (.fn 70) [.sc (.atom 0),.sc (.atom 1),.sc (.atom 7)] (.ag [.int .i64,.int .i64,.str]) []
 (.leaf (.tu [(true,[.atom 9,.atom 10,.atom 11]),(false,[.int .i64 0])])))))))
theorem z7n:execF Tryz.prog { pub:=[],nojoin:=false } Tryz.f96=z3y:=by kernel_rfl
theorem z3x:callB Tryz.prog 96=true:=by kernel_rfl
theorem z9q:TriOf Tryz.prog 96 Tryz.f96 z3y:=triOf Tryz.func96 z7n
abbrev zk7:FuncId:=97
def z8v:Fm VE:=
 (.leaf (.ag [.int .i64 1,.atom 0,(.str [])]))
theorem zfl:execF Tryz.prog { pub:=[],nojoin:=false } Tryz.f97=z8v:=by kernel_rfl
theorem z2t:callB Tryz.prog 97=true:=by kernel_rfl
theorem zhv:TriOf Tryz.prog 97 Tryz.f97 z8v:=triOf Tryz.func97 zfl
abbrev zd8:FuncId:=98
def z52:Fm VE:=
 (.chk [] (.some (.atom 0))
 (.load (.padd (.atom 0) 0) [.sl]
 (.chk [] (.inSl (.atom 5) (.atom 2))
 (.load (.padd (.elt (.atom 5) (.atom 2) 2) 1) [.sl]
 (.ite (.pick (.cmp .lss (.atom 4) (.int .i64 0)) (.bool true) (.cmp .geq (.atom 4) (.len (.atom 6))))
 (.leaf (.tu [(true,[.int .i64 0,.int .i64 0,(.str [])]),(false,[.int .i64 83])]))
 (.chk [] (.inSl (.atom 6) (.atom 4))
 (.load (.elt (.atom 6) (.atom 4) 3) [.int .i64,.int .i64,.str]
 (.leaf (.tu [(true,[.atom 7,.atom 8,.atom 9]),(false,[.int .i64 0])])))))))))
theorem zah:execF Tryz.prog { pub:=[],nojoin:=false } Tryz.f98=z52:=by kernel_rfl
theorem z1c:callB Tryz.prog 98=true:=by kernel_rfl
theorem zbl:TriOf Tryz.prog 98 Tryz.f98 z52:=triOf Tryz.func98 zah
abbrev zcv:FuncId:=99
def z4y:Fm VE:=
 (.chk [] (.some (.atom 0))
 (.load (.padd (.atom 0) 0) [.sl]
 (.chk [] (.inSl (.atom 8) (.atom 2))
 (.load (.padd (.elt (.atom 8) (.atom 2) 2) 1) [.sl]
 (.ite (.pick (.cmp .lss (.atom 4) (.int .i64 0)) (.bool true) (.cmp .geq (.atom 4) (.len (.atom 9))))
 (.leaf (.tu [(true,[.int .i64 0,.int .i64 0,(.str [])]),(false,[.int .i64 83])]))
 (.chk [] (.inSl (.atom 9) (.atom 4))
 (.store (.elt (.atom 9) (.atom 4) 3) [.atom 5,.atom 6,.atom 7]
 (.leaf (.tu [(true,[.int .i64 5,.int .i64 0,(.str [])]),(false,[.int .i64 0])])))))))))
theorem za7:execF Tryz.prog { pub:=[],nojoin:=false } Tryz.f99=z4y:=by kernel_rfl
theorem z1d:callB Tryz.prog 99=true:=by kernel_rfl
theorem zbo:TriOf Tryz.prog 99 Tryz.f99 z4y:=triOf Tryz.func99 za7
abbrev zgo:FuncId:=110
def z6f:Fm VE:=
 (.ite (.pick (.cmp .lss (.atom 0) (.int .i64 0)) (.bool true) (.cmp .gtr (.atom 0) (.int .i64 4)))
 (.leaf (.tu [(false,[.int .i64 0]),(false,[.int .i64 1])]))
 (.join 4 [.bool]
 (.ite (.atom 3)
 (.leaf (.tu [(false,[.int .i64 0]),(false,[.int .i64 12])]))
 (.call (.fn 111) [.sc (.atom 1)] (.sc (.int .i64)) []
 (.call (.fn 111) [.sc (.atom 2)] (.sc (.int .i64)) []
 (.join 9 [.int .i64,.bool]
 (.ite (.pick (.pick (.not (.atom 7)) (.bool true) (.cmp .lss (.atom 6) (.int .i64 (-1152921504606846976)))) (.bool true) (.cmp .gtr (.atom 6) (.int .i64 1152921504606846975)))
 (.leaf (.tu [(false,[.int .i64 0]),(false,[.int .i64 10])]))
 (.leaf (.tu [(false,[(.ar .mul .i64 (.int .i64 8) (.atom 6))]),(false,[.int .i64 0])])))
 (.ite (.cmp .eql (.atom 0) (.int .i64 0))
 (.next 9 [(.ar .add .i64 (.atom 4) (.atom 5)),.bool true])
 (.ite (.cmp .eql (.atom 0) (.int .i64 1))
 (.next 9 [(.ar .sub .i64 (.atom 4) (.atom 5)),.bool true])
 (.ite (.cmp .eql (.atom 0) (.int .i64 2))
 (.call (.fn 124) [.sc (.atom 4),.sc (.atom 5)] (.tu [(false,[.int .i64]),(false,[.bool])]) []
 (.next 9 [.atom 6,.atom 7]))
 (.ite (.cmp .eql (.atom 5) (.int .i64 0))
 (.leaf (.tu [(false,[.int .i64 0]),(false,[.int .i64 11])]))
 (.chk [] (.nz (.atom 5))
 (.next 9 [(.pick (.cmp .eql (.atom 0) (.int .i64 4)) (.ar .sub .i64 (.atom 4) (.ar .mul .i64 (.ar .quo .i64 (.atom 4) (.atom 5)) (.atom 5))) (.ar .quo .i64 (.atom 4) (.atom 5))),.bool true]))))))))))
 (.call (.fn 123) [.sc (.atom 1)] (.sc (.int .i64)) []
 (.ite (.cmp .neq (.atom 3) (.int .i64 0))
 (.next 4 [.bool true])
 (.call (.fn 123) [.sc (.atom 2)] (.sc (.int .i64)) []
 (.next 4 [(.cmp .neq (.atom 4) (.int .i64 0))]))))))
theorem zc5:execF Tryz.prog { pub:=[],nojoin:=false } Tryz.f110=z6f:=by kernel_rfl
theorem zep:callB Tryz.prog 110=true:=by kernel_rfl
theorem zdr:TriOf Tryz.prog 110 Tryz.f110 z6f:=triOf Tryz.func110 zc5
abbrev zih:FuncId:=111
def z72:Fm VE:=
 (.leaf (.sc (.pick (.cmp .lss (.ar .rem .i64 (.atom 0) (.int .i64 8)) (.int .i64 0)) (.ar .sub .i64 (.ar .quo .i64 (.atom 0) (.int .i64 8)) (.int .i64 1)) (.ar .quo .i64 (.atom 0) (.int .i64 8)))))
theorem zcq:execF Tryz.prog { pub:=[],nojoin:=false } Tryz.f111=z72:=by kernel_rfl
theorem z3s:callB Tryz.prog 111=true:=by kernel_rfl
theorem zex:TriOf Tryz.prog 111 Tryz.f111 z72:=triOf Tryz.func111 zcq
abbrev zkl:FuncId:=123
def z9i:Fm VE:=
 (.leaf (.sc (.pick (.cmp .lss (.ar .rem .i64 (.atom 0) (.int .i64 8)) (.int .i64 0)) (.ar .add .i64 (.ar .rem .i64 (.atom 0) (.int .i64 8)) (.int .i64 8)) (.ar .rem .i64 (.atom 0) (.int .i64 8)))))
theorem zg3:execF Tryz.prog { pub:=[],nojoin:=false } Tryz.f123=z9i:=by kernel_rfl
theorem z98:callB Tryz.prog 123=true:=by kernel_rfl
theorem zie:TriOf Tryz.prog 123 Tryz.f123 z9i:=triOf Tryz.func123 zg3
abbrev zhq:FuncId:=124
def z7d:Fm VE:=
 (.ite (.pick (.cmp .eql (.atom 0) (.int .i64 0)) (.bool true) (.cmp .eql (.atom 1) (.int .i64 0)))
 (.leaf (.tu [(false,[.int .i64 0]),(false,[.bool true])]))
 (.ite (.pick (.cmp .eql (.atom 0) (.int .i64 (-1))) (.bool true) (.cmp .eql (.atom 1) (.int .i64 (-1))))
 (.leaf (.tu [(false,[(.pick (.cmp .eql (.atom 0) (.int .i64 (-1))) (.ar .sub .i64 (.int .i64 0) (.atom 1)) (.ar .sub .i64 (.int .i64 0) (.atom 0)))]),(false,[(.cmp .leq (.pick (.cmp .eql (.atom 0) (.int .i64 (-1))) (.ar .sub .i64 (.int .i64 0) (.atom 1)) (.ar .sub .i64 (.int .i64 0) (.atom 0))) (.int .i64 1152921504606846975))])]))
 (.chk [] (.nz (.atom 1))
 (.chk [] (.nz (.atom 1))
 (.ite (.pick (.cmp .gtr (.atom 0) (.pick (.cmp .lss (.atom 1) (.int .i64 0)) (.ar .quo .i64 (.int .i64 (-1152921504606846976)) (.atom 1)) (.ar .quo .i64 (.int .i64 1152921504606846975) (.atom 1)))) (.bool true) (.cmp .lss (.atom 0) (.pick (.cmp .lss (.atom 1) (.int .i64 0)) (.ar .quo .i64 (.int .i64 1152921504606846975) (.atom 1)) (.ar .quo .i64 (.int .i64 (-1152921504606846976)) (.atom 1)))))
 (.leaf (.tu [(false,[.int .i64 0]),(false,[.bool false])]))
 (.leaf (.tu [(false,[(.ar .mul .i64 (.atom 0) (.atom 1))]),(false,[.bool true])])))))))
theorem zd9:execF Tryz.prog { pub:=[],nojoin:=false } Tryz.f124=z7d:=by kernel_rfl
theorem zg9:callB Tryz.prog 124=true:=by kernel_rfl
theorem zer:TriOf Tryz.prog 124 Tryz.f124 z7d:=triOf Tryz.func124 zd9
end Go.Proofs.YtofbhllknefloaaGreat.Vc
