import Derived.Test.YtfkclejklgoccaaGreatMh
import Derived.Test.YtfkclejklgoccaaGreatRows
import Derived.KernelRfl
set_option linter.unusedSimpArgs false
set_option linter.unusedVariables false
set_option maxRecDepth 100000
namespace Go.Proofs.YtfkclejklgoccaaGreat.Vc
open Go
def TriOf (P:Program) (f:FuncId) (fn:Func) (fm:Fm VE):Prop:=∀(E:List Value) {args:Array Value} {H:PH} {R:Ending→PH→Prop},z0h ((z1a P fn).flatMap RS.tags) E=true→args.toList=z1g (z1a P fn) E →
 den P (fun c H'=>R (.panicked c) H') fm E H [] (fun ve E' H' _=>R (.returned (evV E' (fun _=>0) ve)) H')→Tri P f args H R
theorem triOf {P:Program} {f:FuncId} {fn:Func} {fm:Fm VE} {op:Opt} (hf:P.funcs[f]?=some fn) (he:execF P op fn=fm):TriOf P f fn fm:=
 fun E _ _ _ hE ha hd=>Z30 (op:=op) hf hE ha (by rw [he];exact hd)
def Z4n (P:Program) (f:FuncId) (rsl:List RS) (fm:Fm VE):Prop:=∀(E:List Value) {args:Array Value} {H:PH} {R:Ending→PH→Prop},z0h (rsl.flatMap RS.tags) E=true→args.toList=z1g rsl E →
 den P (fun c H'=>R (.panicked c) H') fm E H [] (fun ve E' H' _=>R (.returned (evV E' (fun _=>0) ve)) H')→Tri P f args H R
theorem Z8m {P:Program} {f:FuncId} {fn:Func} {rsl:List RS} {fm:Fm VE} {op:Opt} (hf:P.funcs[f]?=some fn) (he:zpp P op fn rsl=fm):Z4n P f rsl fm:=
 fun E _ _ _ hE ha hd=>Z2s (op:=op) hf hE ha (by rw [he];exact hd)
abbrev z8b:FuncId:=35
def z3a:Fm VE:=
 (.loop 3 [.int .i64,.int .i64] [.int .i64 0,.int .i64 0]
 (.ite (.cmp .lss (.atom 3) (.len (.atom 0)))
 (.chk [] (.inSl (.atom 0) (.atom 3))
 (.load (.elt (.atom 0) (.atom 3) 1) [.str]
 (.ite (.scmp .eql (.atom 1) (.atom 4))
 (.leaf (.sc (.atom 3)))
 (.next 3 [.atom 2,(.ar .add .i64 (.atom 3) (.int .i64 1))]))))
 (.leaf (.sc (.int .i64 (-1))))))
theorem z5n:execF Tryz.prog { pub:=[],nojoin:=false } Tryz.f35=z3a:=by kernel_rfl
theorem z7a:callB Tryz.prog 35=true:=by kernel_rfl
theorem z6z:TriOf Tryz.prog 35 Tryz.f35 z3a:=triOf Tryz.func35 z5n
abbrev z8a:FuncId:=44
def z3c:Fm VE:=
 (.ite (.isnil (.atom 0))
 (.leaf (.sc (.nil 1)))
 (.sem (.buildSlice 24 0 #[]) 24 [] (.sc .sl) []
 (.sem (.call ⟨.builtin .append,#[.tmp 5,.tmp 6],#[24,24]⟩) 24 [(5,(.sc (.atom 1))),(6,(.sc (.atom 0)))] (.sc .sl) []
 (.leaf (.sc (.atom 2))))))
theorem z5m:execF Tryz.prog { pub:=[],nojoin:=false } Tryz.f44=z3c:=by kernel_rfl
theorem z75:callB Tryz.prog 44=true:=by kernel_rfl
theorem z6n:TriOf Tryz.prog 44 Tryz.f44 z3c:=triOf Tryz.func44 z5m
abbrev zug:FuncId:=125
def zhh:Fm VE:=
 (.ite (.pick (.cmp .lss (.atom 4) (.int .i64 0)) (.bool true) (.cmp .geq (.atom 4) (.len (.atom 3))))
 (.leaf (.sc (.nil 1)))
 (.chk [] (.inSl (.atom 3) (.atom 4))
 (.load (.padd (.elt (.atom 3) (.atom 4) 7) 1) [.int .i64,.int .i64,.sl,.int .i64,.int .i64,.int .i64]
 (.call (.fn 175) [(.ag [.atom 5,.atom 6,.atom 7,.atom 8,.atom 9,.atom 10])] (.sc .bool) []
 (.ite (.pick (.pick (.not (.atom 11)) (.bool true) (.cmp .lss (.atom 9) (.int .i64 0))) (.bool true) (.cmp .geq (.atom 9) (.len (.atom 3))))
 (.leaf (.sc (.nil 1)))
 (.call (.fn 176) [(.ag [.atom 0,.atom 1,.atom 2,.atom 3])] (.sc .ptr) []
 (.chk [] (.some (.atom 12))
 (.load (.padd (.atom 12) 4) [.sl]
 (.chk [] (.inSl (.atom 13) (.atom 9))
 (.load (.elt (.atom 13) (.atom 9) 1) [.map]
 (.call (.fn 177) [.sc (.atom 14),.sc (.atom 8)] (.tu []) []
 (.call (.fn 178) [.sc (.atom 14)] (.sc .sl) []
 (.leaf (.sc (.atom 15)))))))))))))))
theorem zlt:execF Tryz.prog { pub:=[],nojoin:=false } Tryz.f125=zhh:=by kernel_rfl
theorem zr0:callB Tryz.prog 125=true:=by kernel_rfl
theorem zqa:TriOf Tryz.prog 125 Tryz.f125 zhh:=triOf Tryz.func125 zlt
abbrev Z3f:FuncId:=129
def zph:Fm VE:=
 (.call (.fn 176) [(.ag [.atom 0,.atom 1,.atom 2,.atom 3])] (.sc .ptr) []
 (.chk [] (.some (.atom 4))
 (.load (.padd (.atom 4) 4) [.sl]
 (.loop 4 [.sl,.int .i64] [(.nil 1),.int .i64 0]
 (.ite (.cmp .lss (.atom 7) (.len (.atom 5)))
 (.chk [] (.inSl (.atom 5) (.atom 7))
 (.load (.elt (.atom 5) (.atom 7) 1) [.map]
 (.call (.fn 178) [.sc (.atom 8)] (.sc .sl) []
 (.sem (.buildSlice 185 1 #[(0,(.tmp 18))]) 185 [(18,(.sc (.atom 9)))] (.sc .sl) []
 (.sem (.call ⟨.builtin .append,#[.tmp 16,.tmp 19],#[185,185]⟩) 185 [(16,(.sc (.atom 6))),(19,(.sc (.atom 10)))] (.sc .sl) []
 (.next 4 [.atom 11,(.ar .add .i64 (.atom 7) (.int .i64 1))]))))))
 (.leaf (.sc (.atom 6))))))))
theorem zuu:execF Tryz.prog { pub:=[],nojoin:=false } Tryz.f129=zph:=by kernel_rfl
theorem zq2:callB Tryz.prog 129=true:=by kernel_rfl
theorem zyv:TriOf Tryz.prog 129 Tryz.f129 zph:=triOf Tryz.func129 zuu
abbrev zwy:FuncId:=164
def zji:Fm VE:=
 (.join 3 [.bool]
 (.ite (.atom 1)
 (.leaf (.sc (.int .i64 0)))
 (.join 4 [.bool]
 (.ite (.atom 2)
 (.leaf (.sc (.int .i64 1)))
 (.join 5 [.bool]
 (.ite (.atom 3)
 (.leaf (.sc (.int .i64 2)))
 (.ite (.pick (.scmp .eql (.atom 0) (.str [118,101,99,116,111,114,45,115,101,116,33])) (.scmp .eql (.atom 0) (.str [118,101,99,116,111,114,45,115,101,116,33])) (.scmp .eql (.atom 0) (.str [115,116,114,105,110,103,45,115,101,116,33])))
 (.leaf (.sc (.int .i64 3)))
 (.leaf (.sc (.int .i64 (-1))))))
 (.ite (.scmp .eql (.atom 0) (.str [43]))
 (.next 5 [(.scmp .eql (.atom 0) (.str [43]))])
 (.ite (.scmp .eql (.atom 0) (.str [45]))
 (.next 5 [(.scmp .eql (.atom 0) (.str [45]))])
 (.ite (.scmp .eql (.atom 0) (.str [42]))
 (.next 5 [(.scmp .eql (.atom 0) (.str [42]))])
 (.ite (.scmp .eql (.atom 0) (.str [113,117,111,116,105,101,110,116]))
 (.next 5 [(.scmp .eql (.atom 0) (.str [113,117,111,116,105,101,110,116]))])
 (.ite (.scmp .eql (.atom 0) (.str [114,101,109,97,105,110,100,101,114]))
 (.next 5 [(.scmp .eql (.atom 0) (.str [114,101,109,97,105,110,100,101,114]))])
 (.ite (.scmp .eql (.atom 0) (.str [60]))
 (.next 5 [(.scmp .eql (.atom 0) (.str [60]))])
 (.ite (.scmp .eql (.atom 0) (.str [61]))
 (.next 5 [(.scmp .eql (.atom 0) (.str [61]))])
 (.ite (.scmp .eql (.atom 0) (.str [101,113,63]))
 (.next 5 [(.scmp .eql (.atom 0) (.str [101,113,63]))])
 (.ite (.scmp .eql (.atom 0) (.str [99,111,110,115]))
 (.next 5 [(.scmp .eql (.atom 0) (.str [99,111,110,115]))])
 (.ite (.scmp .eql (.atom 0) (.str [115,101,116,45,99,97,114,33]))
 (.next 5 [(.scmp .eql (.atom 0) (.str [115,101,116,45,99,97,114,33]))])
 (.ite (.scmp .eql (.atom 0) (.str [115,101,116,45,99,100,114,33]))
 (.next 5 [(.scmp .eql (.atom 0) (.str [115,101,116,45,99,100,114,33]))])
 (.ite (.scmp .eql (.atom 0) (.str [109,97,107,101,45,118,101,99,116,111,114]))
 (.next 5 [(.scmp .eql (.atom 0) (.str [109,97,107,101,45,118,101,99,116,111,114]))])
 (.ite (.scmp .eql (.atom 0) (.str [118,101,99,116,111,114,45,114,101,102]))
 (.next 5 [(.scmp .eql (.atom 0) (.str [118,101,99,116,111,114,45,114,101,102]))])
 (.ite (.scmp .eql (.atom 0) (.str [109,97,107,101,45,115,116,114,105,110,103]))
 (.next 5 [(.scmp .eql (.atom 0) (.str [109,97,107,101,45,115,116,114,105,110,103]))])
 (.next 5 [(.pick (.scmp .eql (.atom 0) (.str [115,116,114,105,110,103,45,114,101,102])) (.scmp .eql (.atom 0) (.str [115,116,114,105,110,103,45,114,101,102])) (.scmp .eql (.atom 0) (.str [37,115,101,116,45,98,111,120,33])))])))))))))))))))))
 (.ite (.scmp .eql (.atom 0) (.str [110,117,108,108,63]))
 (.next 4 [(.scmp .eql (.atom 0) (.str [110,117,108,108,63]))])
 (.ite (.scmp .eql (.atom 0) (.str [112,97,105,114,63]))
 (.next 4 [(.scmp .eql (.atom 0) (.str [112,97,105,114,63]))])
 (.ite (.scmp .eql (.atom 0) (.str [118,101,99,116,111,114,63]))
 (.next 4 [(.scmp .eql (.atom 0) (.str [118,101,99,116,111,114,63]))])
 (.ite (.scmp .eql (.atom 0) (.str [115,116,114,105,110,103,63]))
 (.next 4 [(.scmp .eql (.atom 0) (.str [115,116,114,105,110,103,63]))])
 (.ite (.scmp .eql (.atom 0) (.str [115,121,109,98,111,108,63]))
 (.next 4 [(.scmp .eql (.atom 0) (.str [115,121,109,98,111,108,63]))])
 (.ite (.scmp .eql (.atom 0) (.str [99,104,97,114,63]))
 (.next 4 [(.scmp .eql (.atom 0) (.str [99,104,97,114,63]))])
 (.ite (.scmp .eql (.atom 0) (.str [105,110,116,101,103,101,114,63]))
 (.next 4 [(.scmp .eql (.atom 0) (.str [105,110,116,101,103,101,114,63]))])
 (.ite (.scmp .eql (.atom 0) (.str [98,111,111,108,101,97,110,63]))
 (.next 4 [(.scmp .eql (.atom 0) (.str [98,111,111,108,101,97,110,63]))])
 (.ite (.scmp .eql (.atom 0) (.str [112,114,111,99,101,100,117,114,101,63]))
 (.next 4 [(.scmp .eql (.atom 0) (.str [112,114,111,99,101,100,117,114,101,63]))])
 (.ite (.scmp .eql (.atom 0) (.str [101,111,102,45,111,98,106,101,99,116,63]))
 (.next 4 [(.scmp .eql (.atom 0) (.str [101,111,102,45,111,98,106,101,99,116,63]))])
 (.ite (.scmp .eql (.atom 0) (.str [99,97,114]))
 (.next 4 [(.scmp .eql (.atom 0) (.str [99,97,114]))])
 (.ite (.scmp .eql (.atom 0) (.str [99,100,114]))
 (.next 4 [(.scmp .eql (.atom 0) (.str [99,100,114]))])
 (.ite (.scmp .eql (.atom 0) (.str [118,101,99,116,111,114,45,108,101,110,103,116,104]))
 (.next 4 [(.scmp .eql (.atom 0) (.str [118,101,99,116,111,114,45,108,101,110,103,116,104]))])
 (.ite (.scmp .eql (.atom 0) (.str [115,116,114,105,110,103,45,108,101,110,103,116,104]))
 (.next 4 [(.scmp .eql (.atom 0) (.str [115,116,114,105,110,103,45,108,101,110,103,116,104]))])
 (.ite (.scmp .eql (.atom 0) (.str [99,104,97,114,45,62,105,110,116,101,103,101,114]))
 (.next 4 [(.scmp .eql (.atom 0) (.str [99,104,97,114,45,62,105,110,116,101,103,101,114]))])
 (.ite (.scmp .eql (.atom 0) (.str [105,110,116,101,103,101,114,45,62,99,104,97,114]))
 (.next 4 [(.scmp .eql (.atom 0) (.str [105,110,116,101,103,101,114,45,62,99,104,97,114]))])
 (.ite (.scmp .eql (.atom 0) (.str [119,114,105,116,101,45,117,56]))
 (.next 4 [(.scmp .eql (.atom 0) (.str [119,114,105,116,101,45,117,56]))])
 (.ite (.scmp .eql (.atom 0) (.str [37,98,111,120]))
 (.next 4 [(.scmp .eql (.atom 0) (.str [37,98,111,120]))])
 (.ite (.scmp .eql (.atom 0) (.str [37,117,110,98,111,120]))
 (.next 4 [(.scmp .eql (.atom 0) (.str [37,117,110,98,111,120]))])
 (.next 4 [(.pick (.scmp .eql (.atom 0) (.str [37,119,105,110,100,33])) (.scmp .eql (.atom 0) (.str [37,119,105,110,100,33])) (.scmp .eql (.atom 0) (.str [37,99,97,108,108,99,99])))]))))))))))))))))))))))
 (.ite (.scmp .eql (.atom 0) (.str [114,101,97,100,45,117,56]))
 (.next 3 [(.scmp .eql (.atom 0) (.str [114,101,97,100,45,117,56]))])
 (.ite (.scmp .eql (.atom 0) (.str [101,114,114,111,114]))
 (.next 3 [(.scmp .eql (.atom 0) (.str [101,114,114,111,114]))])
 (.ite (.scmp .eql (.atom 0) (.str [118,111,105,100]))
 (.next 3 [(.scmp .eql (.atom 0) (.str [118,111,105,100]))])
 (.next 3 [(.pick (.scmp .eql (.atom 0) (.str [37,119,105,110,100,101,114,115])) (.scmp .eql (.atom 0) (.str [37,119,105,110,100,101,114,115])) (.scmp .eql (.atom 0) (.str [37,117,110,115,101,116])))])))))
theorem znr:execF Tryz.prog { pub:=[],nojoin:=false } Tryz.f164=zji:=by kernel_rfl
theorem zus:callB Tryz.prog 164=true:=by kernel_rfl
theorem zrs:TriOf Tryz.prog 164 Tryz.f164 zji:=triOf Tryz.func164 znr
abbrev z8s:FuncId:=167
def zjh:Fm VE:=
 (.join 1 [.bool]
 (.leaf (.sc (.atom 8)))
 (.ite (.pick (.pick (.cmp .eql (.atom 0) (.atom 4)) (.cmp .eql (.atom 1) (.atom 5)) (.bool false)) (.scmp .eql (.atom 2) (.atom 6)) (.bool false))
 (.call (.fn 199) [.sc (.atom 3),.sc (.atom 7),(.sc (.fn 167))] (.sc .bool) []
 (.next 1 [.atom 8]))
 (.next 1 [.bool false])))
theorem zno:execF Tryz.prog { pub:=[],nojoin:=false } Tryz.f167=zjh:=by kernel_rfl
theorem zjj:callB Tryz.prog 167=true:=by kernel_rfl
theorem zr8:TriOf Tryz.prog 167 Tryz.f167 zjh:=triOf Tryz.func167 zno
abbrev zul:FuncId:=171
def zgk:Fm VE:=
 (.ite (.pick (.cmp .lss (.atom 4) (.int .i64 0)) (.bool true) (.cmp .geq (.atom 4) (.len (.atom 3))))
 (.leaf (.sc (.nil 1)))
 (.call (.fn 176) [(.ag [.atom 0,.atom 1,.atom 2,.atom 3])] (.sc .ptr) []
 (.call (.fn 200) [.sc (.atom 5),.sc (.atom 4)] (.sc .map) []
 (.new 216 [(.nil 2)]
 (.store (.atom 7) [.atom 6]
 (.new 185 [(.nil 1)]
 (.chk [] (.inSl (.atom 3) (.atom 4))
 (.load (.padd (.elt (.atom 3) (.atom 4) 7) 0) [.sl]
 (.call (.fn 201) [.sc (.atom 9)] (.sc .any) []
 (.far 7 (.atom 10) [(.sc (.int .i64)),(.ag [.str,.int .i64,.sl,.int .i64,.int .i64,.str,.sl,.int .i64])]
 (.load (.atom 8) [.sl]
 (.load (.atom 7) [.map]
 (.call (.fn 178) [.sc (.atom 21)] (.sc .sl) [((.atom 8),[.atom 20])]
 (.sem (.buildSlice 185 1 #[(0,(.tmp 33))]) 185 [(33,(.sc (.atom 22)))] (.sc .sl) [((.atom 8),[.atom 20])]
 (.sem (.call ⟨.builtin .append,#[.tmp 31,.tmp 34],#[185,185]⟩) 185 [(31,(.sc (.atom 20))),(34,(.sc (.atom 23)))] (.sc .sl) []
 (.store (.atom 8) [.atom 24]
 (.load (.atom 7) [.map]
 (.call (.fn 202) [.sc (.atom 25),(.ag [.atom 12,.atom 13,.atom 14,.atom 15,.atom 16,.atom 17,.atom 18,.atom 19])] (.tu []) []
 (.next 7 [])))))))))
 (.load (.atom 8) [.sl]
 (.call (.fn 203) [.sc (.atom 11)] (.tu []) []
 (.load (.atom 8) [.sl]
 (.leaf (.sc (.atom 12))))))))))))))))
theorem zls:execM Tryz.prog { pub:=[5,6],nojoin:=false,far:=[(.sc (.int .i64)),(.ag [.str,.int .i64,.sl,.int .i64,.int .i64,.str,.sl,.int .i64])] } Tryz.f171=zgk:=by kernel_rfl
theorem zqu:callB Tryz.prog 171=true:=by kernel_rfl
theorem zok:zw3 Tryz.prog 171 Tryz.f171 zgk:=Z58 Tryz.func171 zls
abbrev zwz:FuncId:=175
def zj5:Fm VE:=
 (.leaf (.sc (.pick (.cmp .eql (.atom 0) (.int .i64 4)) (.bool true) (.cmp .eql (.atom 0) (.int .i64 6)))))
theorem zn1:execF Tryz.prog { pub:=[],nojoin:=false } Tryz.f175=zj5:=by kernel_rfl
theorem zjn:callB Tryz.prog 175=true:=by kernel_rfl
theorem zs6:TriOf Tryz.prog 175 Tryz.f175 zj5:=triOf Tryz.func175 zn1
abbrev zts:FuncId:=176
def zhf:Fm VE:=
 (.sem (.makeSlice 217 (.tmp 13) (.tmp 13)) 217 [(13,(.sc (.len (.atom 3)))),(13,(.sc (.len (.atom 3))))] (.sc .sl) []
 (.new 219 [.atom 0,.atom 1,.atom 2,.atom 3,.atom 4]
 (.chk [] (.some (.atom 5))
 (.load (.padd (.atom 5) 4) [.sl]
 (.loop 4 [.int .i64] [.int .i64 0]
 (.ite (.cmp .lss (.atom 7) (.len (.atom 6)))
 (.load (.padd (.atom 5) 4) [.sl]
 (.sem (.makeMap 216 none) 216 [] (.sc .map) []
 (.chk [] (.inSl (.atom 8) (.atom 7))
 (.store (.elt (.atom 8) (.atom 7) 1) [.atom 9]
 (.next 4 [(.ar .add .i64 (.atom 7) (.int .i64 1))])))))
 (.loop 9 [.bool] [.bool true]
 (.ite (.atom 8)
 (.loop 14 [.bool,.int .i64] [.bool false,(.ar .sub .i64 (.len (.atom 3)) (.int .i64 1))]
 (.ite (.cmp .geq (.atom 10) (.int .i64 0))
 (.join 17 [.bool]
 (.next 14 [.atom 11,(.ar .sub .i64 (.atom 10) (.int .i64 1))])
 (.call (.fn 200) [.sc (.atom 5),.sc (.atom 10)] (.sc .map) []
 (.new 216 [(.nil 2)]
 (.store (.atom 12) [.atom 11]
 (.chk [] (.inSl (.atom 3) (.atom 10))
 (.load (.padd (.elt (.atom 3) (.atom 10) 7) 0) [.sl]
 (.call (.fn 201) [.sc (.atom 13)] (.sc .any) []
 (.far 21 (.atom 14) [(.sc (.int .i64)),(.ag [.str,.int .i64,.sl,.int .i64,.int .i64,.str,.sl,.int .i64])]
 (.load (.atom 12) [.map]
 (.call (.fn 202) [.sc (.atom 24),(.ag [.atom 16,.atom 17,.atom 18,.atom 19,.atom 20,.atom 21,.atom 22,.atom 23])] (.tu []) []
 (.next 21 [])))
 (.load (.atom 12) [.map]
 (.load (.padd (.atom 5) 4) [.sl]
 (.chk [] (.inSl (.atom 16) (.atom 10))
 (.load (.elt (.atom 16) (.atom 10) 1) [.map]
 (.sem (.call ⟨.builtin .len,#[.tmp 57],#[216]⟩) 3 [(57,(.sc (.atom 15)))] (.sc (.int .i64)) [((.elt (.atom 16) (.atom 10) 1),[.atom 17]),((.padd (.atom 5) 4),[.atom 16])]
 (.sem (.call ⟨.builtin .len,#[.tmp 65],#[216]⟩) 3 [(65,(.sc (.atom 17)))] (.sc (.int .i64)) []
 (.ite (.cmp .neq (.atom 18) (.atom 19))
 (.load (.padd (.atom 5) 4) [.sl]
 (.load (.atom 12) [.map]
 (.chk [] (.inSl (.atom 20) (.atom 10))
 (.store (.elt (.atom 20) (.atom 10) 1) [.atom 21]
 (.next 17 [.bool true])))))
 (.next 17 [.atom 9]))))))))))))))))
 (.next 9 [.atom 9])))
 (.leaf (.sc (.atom 5)))))))))))
theorem zlx:execM Tryz.prog { pub:=[7,16],nojoin:=false,far:=[(.sc (.int .i64)),(.ag [.str,.int .i64,.sl,.int .i64,.int .i64,.str,.sl,.int .i64])] } Tryz.f176=zhf:=by kernel_rfl
theorem z9n:callB Tryz.prog 176=true:=by kernel_rfl
theorem zql:zw3 Tryz.prog 176 Tryz.f176 zhf:=Z58 Tryz.func176 zlx
abbrev z86:FuncId:=177
def z6q:Fm VE:=
 (.sem (.call ⟨.builtin .delete,#[.tmp 4,.tmp 5],#[216,3]⟩) 0 [(4,(.sc (.atom 0))),(5,(.sc (.atom 1)))] (.tu []) []
 (.leaf (.tu [])))
theorem zbk:execF Tryz.prog { pub:=[],nojoin:=false } Tryz.f177=z6q:=by kernel_rfl
theorem z3y:callB Tryz.prog 177=true:=by kernel_rfl
theorem zdq:TriOf Tryz.prog 177 Tryz.f177 z6q:=triOf Tryz.func177 zbk
abbrev ze7:FuncId:=178
def z51:Fm VE:=
 (.sem (.range 216 (.tmp 5)) 0 [(5,(.sc (.atom 0)))] (.sc .ptr) []
 (.loop 4 [.sl] [(.nil 1)]
 (.join 5 [.bool]
 (.ite (.atom 3)
 (.sem (.entry (.tmp 6)) 0 [(6,(.sc (.atom 1)))] (.tu [(false,[.int .i64]),(false,[.int .i64])]) []
 (.sem (.buildSlice 29 1 #[(0,(.tmp 12))]) 29 [(12,(.sc (.atom 4)))] (.sc .sl) []
 (.sem (.call ⟨.builtin .append,#[.tmp 11,.tmp 13],#[29,29]⟩) 29 [(11,(.sc (.atom 2))),(13,(.sc (.atom 6)))] (.sc .sl) []
 (.next 4 [.atom 7]))))
 (.call (.fn 207) [.sc (.atom 2)] (.tu []) []
 (.leaf (.sc (.atom 2)))))
 (.alt (.next (.tmp 6) false) 0 [(6,(.sc (.atom 1)))] (.tu [(false,[.bool])]) (.tu [(false,[.bool]),(false,[.int .i64]),(false,[.int .i64])])
 (.next 5 [.atom 3])
 (.next 5 [.atom 3])))))
theorem za3:execF Tryz.prog { pub:=[],nojoin:=false } Tryz.f178=z51:=by kernel_rfl
theorem z3f:callB Tryz.prog 178=true:=by kernel_rfl
theorem zb2:TriOf Tryz.prog 178 Tryz.f178 z51:=triOf Tryz.func178 za3
abbrev z26:FuncId:=199
def z16:Fm VE:=
 (.ite (.cmp .neq (.len (.atom 0)) (.len (.atom 1)))
 (.leaf (.sc (.bool false)))
 (.loop 5 [.bool,.int .i64] [.bool false,.int .i64 0]
 (.ite (.cmp .lss (.atom 4) (.len (.atom 0)))
 (.chk [] (.inSl (.atom 0) (.atom 4))
 (.load (.elt (.atom 0) (.atom 4) 4) [.int .i64,.int .i64,.str,.sl]
 (.chk [] (.inSl (.atom 1) (.atom 4))
 (.load (.elt (.atom 1) (.atom 4) 4) [.int .i64,.int .i64,.str,.sl]
 (.call (.atom 2) [(.ag [.atom 5,.atom 6,.atom 7,.atom 8]),(.ag [.atom 9,.atom 10,.atom 11,.atom 12])] (.sc .bool) []
 (.ite (.not (.atom 13))
 (.leaf (.sc (.bool false)))
 (.next 5 [.atom 3,(.ar .add .i64 (.atom 4) (.int .i64 1))])))))))
 (.leaf (.sc (.bool true))))))
theorem z1y:execF Tryz.prog { pub:=[],nojoin:=false } Tryz.f199=z16:=by kernel_rfl
theorem z24:callB Tryz.prog 199=true:=by kernel_rfl
theorem z21:TriOf Tryz.prog 199 Tryz.f199 z16:=triOf Tryz.func199 z1y
abbrev znz:FuncId:=200
def zaz:Fm VE:=
 (.chk [] (.some (.atom 0))
 (.load (.padd (.padd (.atom 0) 0) 3) [.sl]
 (.chk [] (.inSl (.atom 2) (.atom 1))
 (.load (.padd (.elt (.atom 2) (.atom 1) 7) 1) [.int .i64,.int .i64,.sl,.int .i64,.int .i64,.int .i64]
 (.sem (.makeMap 216 none) 216 [] (.sc .map) []
 (.call (.fn 216) [(.ag [.atom 3,.atom 4,.atom 5,.atom 6,.atom 7,.atom 8])] (.sc .sl) []
 (.loop 5 [.int .i64] [.int .i64 0]
 (.ite (.cmp .lss (.atom 11) (.len (.atom 10)))
 (.join 8 []
 (.next 5 [(.ar .add .i64 (.atom 11) (.int .i64 1))])
 (.chk [] (.inSl (.atom 10) (.atom 11))
 (.load (.elt (.atom 10) (.atom 11) 1) [.int .i64]
 (.join 10 [.bool]
 (.ite (.atom 13)
 (.load (.padd (.atom 0) 4) [.sl]
 (.chk [] (.inSl (.atom 14) (.atom 12))
 (.load (.elt (.atom 14) (.atom 12) 1) [.map]
 (.call (.fn 217) [.sc (.atom 9),.sc (.atom 15)] (.tu []) []
 (.next 8 [])))))
 (.next 8 []))
 (.ite (.cmp .geq (.atom 12) (.int .i64 0))
 (.load (.padd (.atom 0) 4) [.sl]
 (.next 10 [(.cmp .lss (.atom 12) (.len (.atom 13)))]))
 (.next 10 [.bool false]))))))
 (.join 8 []
 (.call (.fn 219) [(.ag [.atom 3,.atom 4,.atom 5,.atom 6,.atom 7,.atom 8])] (.sc .sl) []
 (.call (.fn 218) [.sc (.atom 9),.sc (.atom 12)] (.tu []) []
 (.leaf (.sc (.atom 9)))))
 (.call (.fn 175) [(.ag [.atom 3,.atom 4,.atom 5,.atom 6,.atom 7,.atom 8])] (.sc .bool) []
 (.ite (.atom 12)
 (.call (.fn 177) [.sc (.atom 9),.sc (.atom 6)] (.tu []) []
 (.next 8 []))
 (.next 8 []))))))))))))
theorem zj0:execF Tryz.prog { pub:=[],nojoin:=false } Tryz.f200=zaz:=by kernel_rfl
theorem zay:callB Tryz.prog 200=true:=by kernel_rfl
theorem zl0:TriOf Tryz.prog 200 Tryz.f200 zaz:=triOf Tryz.func200 zj0
abbrev z5f:FuncId:=201
def z2p:Fm VE:=
 (.new 36 [.atom 0]
 (.sem (.makeFunc (.func 220) #[] #[.tmp 1]) 236 [(1,(.sc (.atom 1)))] (.sc .any) []
 (.leaf (.sc (.atom 2)))))
theorem z4j:execF Tryz.prog { pub:=[1],nojoin:=false } Tryz.f201=z2p:=by kernel_rfl
theorem z2o:callB Tryz.prog 201=true:=by kernel_rfl
theorem z4w:TriOf Tryz.prog 201 Tryz.f201 z2p:=triOf Tryz.func201 z4j
abbrev z9w:FuncId:=202
def zed:Fm VE:=
 (.join 1 []
 (.call (.fn 218) [.sc (.atom 0),.sc (.atom 3)] (.tu []) []
 (.leaf (.tu [])))
 (.ite (.scmp .neq (.atom 1) (.str [116,105,101]))
 (.call (.fn 177) [.sc (.atom 0),.sc (.atom 2)] (.tu []) []
 (.next 1 []))
 (.next 1 [])))
theorem zlk:execF Tryz.prog { pub:=[],nojoin:=false } Tryz.f202=zed:=by kernel_rfl
theorem zem:callB Tryz.prog 202=true:=by kernel_rfl
theorem znl:TriOf Tryz.prog 202 Tryz.f202 zed:=triOf Tryz.func202 zlk
abbrev z8e:FuncId:=203
def z3j:Fm VE:=
 (.loop 1 [.int .i64,.int .i64] [.int .i64 0,(.ar .sub .i64 (.len (.atom 0)) (.int .i64 1))]
 (.ite (.cmp .lss (.atom 1) (.atom 2))
 (.chk [] (.inSl (.atom 0) (.atom 2))
 (.load (.elt (.atom 0) (.atom 2) 1) [.sl]
 (.chk [] (.inSl (.atom 0) (.atom 1))
 (.load (.elt (.atom 0) (.atom 1) 1) [.sl]
 (.store (.elt (.atom 0) (.atom 1) 1) [.atom 3]
 (.store (.elt (.atom 0) (.atom 2) 1) [.atom 4]
 (.next 1 [(.ar .add .i64 (.atom 1) (.int .i64 1)),(.ar .sub .i64 (.atom 2) (.int .i64 1))])))))))
 (.leaf (.tu []))))
theorem z5p:execF Tryz.prog { pub:=[],nojoin:=false } Tryz.f203=z3j:=by kernel_rfl
theorem z76:callB Tryz.prog 203=true:=by kernel_rfl
theorem z6y:TriOf Tryz.prog 203 Tryz.f203 z3j:=triOf Tryz.func203 z5p
abbrev zvl:FuncId:=209
def zjd:Fm VE:=
 (.new 256 [.int .i64 0]
 (.call (.fn 223) [.sc (.atom 4),(.ag [.atom 0,.atom 1,.atom 2,.atom 3]),.sc (.int .i64 0)] (.sc (.int .i64)) []
 (.leaf (.sc (.atom 5)))))
theorem znd:execF Tryz.prog { pub:=[3],nojoin:=false } Tryz.f209=zjd:=by kernel_rfl
theorem zuy:callB Tryz.prog 209=true:=by kernel_rfl
theorem zs4:TriOf Tryz.prog 209 Tryz.f209 zjd:=triOf Tryz.func209 znd
abbrev zxe:FuncId:=216
def zje:Fm VE:=
 (.join 3 [.bool]
 (.ite (.atom 6)
 (.sem (.buildSlice 29 1 #[(0,(.tmp 10))]) 29 [(10,(.sc (.atom 4)))] (.sc .sl) []
 (.leaf (.sc (.atom 7))))
 (.ite (.cmp .eql (.atom 0) (.int .i64 1))
 (.sem (.buildSlice 29 2 #[(0,(.tmp 15)),(1,(.tmp 17))]) 29 [(15,(.sc (.atom 4))),(17,(.sc (.atom 5)))] (.sc .sl) []
 (.leaf (.sc (.atom 7))))
 (.leaf (.sc (.nil 1)))))
 (.ite (.cmp .eql (.atom 0) (.int .i64 0))
 (.next 3 [(.cmp .eql (.atom 0) (.int .i64 0))])
 (.next 3 [(.pick (.cmp .eql (.atom 0) (.int .i64 4)) (.cmp .eql (.atom 0) (.int .i64 4)) (.cmp .eql (.atom 0) (.int .i64 6)))])))
theorem znt:execF Tryz.prog { pub:=[],nojoin:=false } Tryz.f216=zje:=by kernel_rfl
theorem zut:callB Tryz.prog 216=true:=by kernel_rfl
theorem zqq:TriOf Tryz.prog 216 Tryz.f216 zje:=triOf Tryz.func216 znt
abbrev z7z:FuncId:=217
def z67:Fm VE:=
 (.sem (.range 216 (.tmp 5)) 0 [(5,(.sc (.atom 1)))] (.sc .ptr) []
 (.loop 1 [] []
 (.join 2 [.bool]
 (.ite (.atom 3)
 (.sem (.entry (.tmp 6)) 0 [(6,(.sc (.atom 2)))] (.tu [(false,[.int .i64]),(false,[.int .i64])]) []
 (.sem (.mapUpdate 216 (.tmp 11) (.tmp 12) (.const (.int .i64 1))) 0 [(11,(.sc (.atom 0))),(12,(.sc (.atom 4)))] (.tu []) []
 (.next 1 [])))
 (.leaf (.tu [])))
 (.alt (.next (.tmp 6) false) 0 [(6,(.sc (.atom 2)))] (.tu [(false,[.bool])]) (.tu [(false,[.bool]),(false,[.int .i64]),(false,[.int .i64])])
 (.next 2 [.atom 3])
 (.next 2 [.atom 3])))))
theorem zbq:execF Tryz.prog { pub:=[],nojoin:=false } Tryz.f217=z67:=by kernel_rfl
theorem zg1:callB Tryz.prog 217=true:=by kernel_rfl
theorem zdy:TriOf Tryz.prog 217 Tryz.f217 z67:=triOf Tryz.func217 zbq
abbrev z8f:FuncId:=218
def z7n:Fm VE:=
 (.loop 1 [.int .i64] [.int .i64 0]
 (.ite (.cmp .lss (.atom 2) (.len (.atom 1)))
 (.chk [] (.inSl (.atom 1) (.atom 2))
 (.load (.elt (.atom 1) (.atom 2) 1) [.int .i64]
 (.sem (.mapUpdate 216 (.tmp 12) (.tmp 13) (.const (.int .i64 1))) 0 [(12,(.sc (.atom 0))),(13,(.sc (.atom 3)))] (.tu []) []
 (.next 1 [(.ar .add .i64 (.atom 2) (.int .i64 1))]))))
 (.leaf (.tu []))))
theorem zcv:execF Tryz.prog { pub:=[],nojoin:=false } Tryz.f218=z7n:=by kernel_rfl
theorem z7x:callB Tryz.prog 218=true:=by kernel_rfl
theorem zfi:TriOf Tryz.prog 218 Tryz.f218 z7n:=triOf Tryz.func218 zcv
abbrev zxn:FuncId:=219
def zjc:Fm VE:=
 (.join 3 [.bool]
 (.ite (.atom 6)
 (.sem (.buildSlice 29 1 #[(0,(.tmp 11))]) 29 [(11,(.sc (.atom 1)))] (.sc .sl) []
 (.leaf (.sc (.atom 7))))
 (.ite (.pick (.cmp .eql (.atom 0) (.int .i64 3)) (.cmp .eql (.atom 0) (.int .i64 3)) (.cmp .eql (.atom 0) (.int .i64 4)))
 (.sem (.buildSlice 29 1 #[(0,(.tmp 17))]) 29 [(17,(.sc (.atom 1)))] (.sc .sl) []
 (.sem (.call ⟨.builtin .append,#[.tmp 18,.tmp 20],#[29,29]⟩) 29 [(18,(.sc (.atom 7))),(20,(.sc (.atom 2)))] (.sc .sl) []
 (.leaf (.sc (.atom 8)))))
 (.leaf (.sc (.nil 1)))))
 (.ite (.cmp .eql (.atom 0) (.int .i64 1))
 (.next 3 [(.cmp .eql (.atom 0) (.int .i64 1))])
 (.ite (.cmp .eql (.atom 0) (.int .i64 2))
 (.next 3 [(.cmp .eql (.atom 0) (.int .i64 2))])
 (.next 3 [(.pick (.cmp .eql (.atom 0) (.int .i64 5)) (.cmp .eql (.atom 0) (.int .i64 5)) (.cmp .eql (.atom 0) (.int .i64 6)))]))))
theorem zng:execF Tryz.prog { pub:=[],nojoin:=false } Tryz.f219=zjc:=by kernel_rfl
theorem ztq:callB Tryz.prog 219=true:=by kernel_rfl
theorem zqz:TriOf Tryz.prog 219 Tryz.f219 zjc:=triOf Tryz.func219 zng
abbrev zg5:FuncId:=223
def z6s:Fm VE:=
 (.chk [] (.some (.atom 0))
 (.load (.padd (.atom 0) 0) [.int .i64]
 (.ite (.cmp .eql (.atom 6) (.int .i64 4096))
 (.leaf (.sc (.int .i64 22)))
 (.load (.padd (.atom 0) 0) [.int .i64]
 (.store (.padd (.atom 0) 0) [(.ar .add .i64 (.atom 7) (.int .i64 1))]
 (.call (.fn 236) [(.ag [.atom 1,.atom 2,.atom 3,.atom 4])] (.sc .bool) []
 (.ite (.pick (.atom 8) (.cmp .eql (.atom 5) (.int .i64 32)) (.bool false))
 (.leaf (.sc (.int .i64 21)))
 (.call (.fn 237) [(.ag [.atom 1,.atom 2,.atom 3,.atom 4])] (.sc .bool) []
 (.ite (.not (.atom 9))
 (.leaf (.sc (.int .i64 20)))
 (.loop 10 [.int .i64,.int .i64] [.int .i64 0,.int .i64 0]
 (.ite (.cmp .lss (.atom 11) (.len (.atom 4)))
 (.chk [] (.inSl (.atom 4) (.atom 11))
 (.load (.elt (.atom 4) (.atom 11) 4) [.int .i64,.int .i64,.str,.sl]
 (.call (.fn 223) [.sc (.atom 0),(.ag [.atom 12,.atom 13,.atom 14,.atom 15]),(.sc (.ar .add .i64 (.atom 5) (.int .i64 1)))] (.sc (.int .i64)) []
 (.ite (.cmp .neq (.atom 16) (.int .i64 0))
 (.leaf (.sc (.atom 16)))
 (.next 10 [.atom 10,(.ar .add .i64 (.atom 11) (.int .i64 1))])))))
 (.leaf (.sc (.int .i64 0))))))))))))))
theorem zbf:execF Tryz.prog { pub:=[],nojoin:=false } Tryz.f223=z6s:=by kernel_rfl
theorem z6g:callB Tryz.prog 223=true:=by kernel_rfl
theorem zds:TriOf Tryz.prog 223 Tryz.f223 z6s:=triOf Tryz.func223 zbf
abbrev zq1:FuncId:=236
def zdd:Fm VE:=
 (.leaf (.sc (.pick (.cmp .geq (.atom 0) (.int .i64 5)) (.cmp .leq (.atom 0) (.int .i64 7)) (.bool false))))
theorem zjt:execF Tryz.prog { pub:=[],nojoin:=false } Tryz.f236=zdd:=by kernel_rfl
theorem zde:callB Tryz.prog 236=true:=by kernel_rfl
theorem zm8:TriOf Tryz.prog 236 Tryz.f236 zdd:=triOf Tryz.func236 zjt
abbrev zze:FuncId:=237
def zl4:Fm VE:=
 (.join 2 [.int .i64,.str]
 (.join 4 [.bool]
 (.ite (.atom 6)
 (.leaf (.sc (.bool false)))
 (.ite (.cmp .eql (.atom 0) (.int .i64 4))
 (.call (.fn 246) [.sc (.atom 2)] (.sc .bool) []
 (.leaf (.sc (.atom 7))))
 (.ite (.cmp .eql (.atom 0) (.int .i64 6))
 (.join 9 [.bool]
 (.leaf (.sc (.atom 7)))
 (.chk [((.cmp .gtr (.len (.atom 3)) (.int .i64 1)),true)] (.inSl (.atom 3) (.ar .sub .i64 (.len (.atom 3)) (.int .i64 1)))
 (.chk [((.cmp .gtr (.len (.atom 3)) (.int .i64 1)),true)] (.some (.elt (.atom 3) (.ar .sub .i64 (.len (.atom 3)) (.int .i64 1)) 4))
 (.ite (.cmp .gtr (.len (.atom 3)) (.int .i64 1))
 (.load (.padd (.elt (.atom 3) (.ar .sub .i64 (.len (.atom 3)) (.int .i64 1)) 4) 0) [.int .i64]
 (.chk [((.cmp .neq (.atom 7) (.int .i64 5)),true)] (.inSl (.atom 3) (.ar .sub .i64 (.len (.atom 3)) (.int .i64 1)))
 (.chk [((.cmp .neq (.atom 7) (.int .i64 5)),true)] (.some (.elt (.atom 3) (.ar .sub .i64 (.len (.atom 3)) (.int .i64 1)) 4))
 (.ite (.cmp .neq (.atom 7) (.int .i64 5))
 (.load (.padd (.elt (.atom 3) (.ar .sub .i64 (.len (.atom 3)) (.int .i64 1)) 4) 0) [.int .i64]
 (.next 9 [(.cmp .neq (.atom 8) (.int .i64 6))]))
 (.next 9 [.bool false])))))
 (.next 9 [.bool false])))))
 (.leaf (.sc (.pick (.cmp .geq (.atom 0) (.int .i64 0)) (.cmp .lss (.atom 0) (.int .i64 8)) (.bool false)))))))
 (.ite (.pick (.cmp .neq (.atom 1) (.atom 4)) (.bool true) (.scmp .neq (.atom 2) (.atom 5)))
 (.next 4 [.bool true])
 (.ite (.cmp .gtr (.len (.atom 3)) (.int .i64 0))
 (.call (.fn 236) [(.ag [.atom 0,.atom 1,.atom 2,.atom 3])] (.sc .bool) []
 (.next 4 [(.not (.atom 6))]))
 (.next 4 [.bool false]))))
 (.ite (.cmp .eql (.atom 0) (.int .i64 0))
 (.next 2 [(.ar .and .i64 (.atom 1) (.int .i64 1)),(.str [])])
 (.ite (.cmp .eql (.atom 0) (.int .i64 1))
 (.next 2 [(.pick (.cmp .lss (.int .i64 1152921504606846975) (.pick (.cmp .gtr (.int .i64 (-1152921504606846976)) (.atom 1)) (.int .i64 (-1152921504606846976)) (.atom 1))) (.int .i64 1152921504606846975) (.pick (.cmp .gtr (.int .i64 (-1152921504606846976)) (.atom 1)) (.int .i64 (-1152921504606846976)) (.atom 1))),(.str [])])
 (.ite (.cmp .eql (.atom 0) (.int .i64 2))
 (.next 2 [(.ar .and .i64 (.atom 1) (.int .i64 255)),(.str [])])
 (.ite (.cmp .eql (.atom 0) (.int .i64 3))
 (.chk [] (.sub (.slen (.atom 2)) (.int .i64 0) (.pick (.cmp .lss (.int .i64 4096) (.slen (.atom 2))) (.int .i64 4096) (.slen (.atom 2))))
 (.next 2 [.int .i64 0,(.ssub (.atom 2) (.int .i64 0) (.pick (.cmp .lss (.int .i64 4096) (.slen (.atom 2))) (.int .i64 4096) (.slen (.atom 2))))]))
 (.next 2 [.int .i64 0,(.pick (.cmp .eql (.atom 0) (.int .i64 4)) (.atom 2) (.str []))]))))))
theorem zqb:execF Tryz.prog { pub:=[],nojoin:=false } Tryz.f237=zl4:=by kernel_rfl
theorem zwc:callB Tryz.prog 237=true:=by kernel_rfl
theorem zu1:TriOf Tryz.prog 237 Tryz.f237 zl4:=triOf Tryz.func237 zqb
abbrev zyi:FuncId:=246
def zl9:Fm VE:=
 (.loop 3 [.bool,.int .i64] [.bool false,.int .i64 0]
 (.ite (.cmp .lss (.atom 2) (.slen (.atom 0)))
 (.chk [] (.inStr (.atom 0) (.atom 2))
 (.call (.fn 249) [(.sc (.sidx (.atom 0) (.atom 2)))] (.sc .bool) []
 (.ite (.not (.atom 3))
 (.leaf (.sc (.bool false)))
 (.next 3 [.atom 1,(.ar .add .i64 (.atom 2) (.int .i64 1))]))))
 (.join 6 [.bool]
 (.leaf (.sc (.atom 3)))
 (.ite (.pick (.pick (.scmp .neq (.atom 0) (.str [])) (.cmp .leq (.slen (.atom 0)) (.int .i64 64)) (.bool false)) (.scmp .neq (.atom 0) (.str [46])) (.bool false))
 (.call (.fn 250) [.sc (.atom 0)] (.sc .bool) []
 (.next 6 [(.not (.atom 3))]))
 (.next 6 [.bool false])))))
theorem zov:execF Tryz.prog { pub:=[],nojoin:=false } Tryz.f246=zl9:=by kernel_rfl
theorem zx0:callB Tryz.prog 246=true:=by kernel_rfl
theorem zuc:TriOf Tryz.prog 246 Tryz.f246 zl9:=triOf Tryz.func246 zov
abbrev zui:FuncId:=249
def zg6:Fm VE:=
 (.join 1 [.bool]
 (.leaf (.sc (.atom 1)))
 (.call (.fn 251) [.sc (.atom 0)] (.sc .bool) []
 (.ite (.pick (.pick (.atom 1) (.bool true) (.pick (.cmp .geq (.atom 0) (.int .u8 97)) (.cmp .leq (.atom 0) (.int .u8 122)) (.bool false))) (.bool true) (.pick (.cmp .geq (.atom 0) (.int .u8 65)) (.cmp .leq (.atom 0) (.int .u8 90)) (.bool false)))
 (.next 1 [.bool true])
 (.call (.fn 252) [(.sc (.str [33,36,37,38,42,47,58,60,61,62,63,94,95,126,43,45,46,64])),.sc (.atom 0)] (.sc (.int .i64)) []
 (.next 1 [(.cmp .geq (.atom 2) (.int .i64 0))])))))
theorem zlw:execF Tryz.prog { pub:=[],nojoin:=false } Tryz.f249=zg6:=by kernel_rfl
theorem zrp:callB Tryz.prog 249=true:=by kernel_rfl
theorem zoo:TriOf Tryz.prog 249 Tryz.f249 zg6:=triOf Tryz.func249 zlw
abbrev zqg:FuncId:=250
def zc6:Fm VE:=
 (.join 1 [.str]
 (.loop 4 [.bool,.int .i64] [.bool false,.int .i64 0]
 (.ite (.cmp .lss (.atom 3) (.slen (.atom 1)))
 (.chk [] (.inStr (.atom 1) (.atom 3))
 (.call (.fn 251) [(.sc (.sidx (.atom 1) (.atom 3)))] (.sc .bool) []
 (.ite (.not (.atom 4))
 (.leaf (.sc (.bool false)))
 (.next 4 [.atom 2,(.ar .add .i64 (.atom 3) (.int .i64 1))]))))
 (.leaf (.sc (.scmp .neq (.atom 1) (.str []))))))
 (.chk [((.scmp .neq (.atom 0) (.str [])),true)] (.inStr (.atom 0) (.int .i64 0))
 (.chk [((.scmp .neq (.atom 0) (.str [])),true),((.cmp .eql (.sidx (.atom 0) (.int .i64 0)) (.int .u8 43)),false)] (.inStr (.atom 0) (.int .i64 0))
 (.ite (.pick (.scmp .neq (.atom 0) (.str [])) (.pick (.cmp .eql (.sidx (.atom 0) (.int .i64 0)) (.int .u8 43)) (.bool true) (.cmp .eql (.sidx (.atom 0) (.int .i64 0)) (.int .u8 45))) (.bool false))
 (.chk [] (.sub (.slen (.atom 0)) (.int .i64 1) (.slen (.atom 0)))
 (.next 1 [(.ssub (.atom 0) (.int .i64 1) (.slen (.atom 0)))]))
 (.next 1 [.atom 0])))))
theorem zk1:execF Tryz.prog { pub:=[],nojoin:=false } Tryz.f250=zc6:=by kernel_rfl
theorem znq:callB Tryz.prog 250=true:=by kernel_rfl
theorem zm3:TriOf Tryz.prog 250 Tryz.f250 zc6:=triOf Tryz.func250 zk1
abbrev zsg:FuncId:=251
def zeh:Fm VE:=
 (.leaf (.sc (.pick (.cmp .geq (.atom 0) (.int .u8 48)) (.cmp .leq (.atom 0) (.int .u8 57)) (.bool false))))
theorem zkh:execF Tryz.prog { pub:=[],nojoin:=false } Tryz.f251=zeh:=by kernel_rfl
theorem zee:callB Tryz.prog 251=true:=by kernel_rfl
theorem znc:TriOf Tryz.prog 251 Tryz.f251 zeh:=triOf Tryz.func251 zkh
abbrev zjv:FuncId:=252
theorem zi4:callB Tryz.prog 252=true:=by kernel_rfl
abbrev zjs:FuncId:=36
def z8o:Fm VE:=
 (.leaf (.sc (.pick (.cmp .geq (.atom 0) (.int .i64 (-1152921504606846976))) (.cmp .leq (.atom 0) (.int .i64 1152921504606846975)) (.bool false))))
theorem zdo:execF Tryz.prog { pub:=[],nojoin:=false } Tryz.f36=z8o:=by kernel_rfl
theorem ziy:callB Tryz.prog 36=true:=by kernel_rfl
theorem zgb:TriOf Tryz.prog 36 Tryz.f36 z8o:=triOf Tryz.func36 zdo
abbrev zup:FuncId:=81
def zgl:Fm VE:=
 (.ite (.pick (.cmp .lss (.atom 4) (.int .i64 1)) (.bool true) (.cmp .gtr (.atom 4) (.int .i64 24)))
 (.leaf (.tu [(false,[(.nil 1)]),(false,[.int .i64 0]),(false,[.int .i64 1])]))
 (.call (.fn 121) [(.ag [.atom 0,.atom 1,.atom 2,.atom 3])] (.sc .bool) []
 (.ite (.not (.atom 5))
 (.leaf (.tu [(false,[(.nil 1)]),(false,[.int .i64 0]),(false,[.int .i64 150])]))
 (.call (.fn 122) [(.ag [.atom 0,.atom 1,.atom 2,.atom 3])] (.sc .map) []
 (.sem (.buildSlice 29 1 #[(0,(.const (.int .i64 (-1))))]) 29 [] (.sc .sl) []
 (.call (.fn 123) [.sc (.atom 7),.sc (.atom 2)] (.sc .sl) []
 (.call (.fn 124) [.sc (.atom 6),.sc (.atom 2),.sc (.atom 4)] (.sc .sl) []
 (.loop 10 [.int .i64,.int .i64] [.atom 4,.int .i64 0]
 (.ite (.cmp .lss (.atom 11) (.len (.atom 9)))
 (.chk [] (.inSl (.atom 9) (.atom 11))
 (.load (.elt (.atom 9) (.atom 11) 1) [.int .i64]
 (.sem (.makeMap 135 none) 135 [] (.sc .map) []
 (.sem (.lookup 179 (.tmp 42) (.tmp 43) false) 135 [(42,(.sc (.atom 6))),(43,(.sc (.atom 12)))] (.sc .map) []
 (.sem (.range 135 (.tmp 44)) 0 [(44,(.sc (.atom 14)))] (.sc .ptr) []
 (.loop 18 [] []
 (.join 19 [.bool]
 (.ite (.atom 16)
 (.sem (.entry (.tmp 45)) 0 [(45,(.sc (.atom 15)))] (.tu [(false,[.int .i64]),(false,[.int .i64])]) []
 (.chk [] (.inSl (.atom 8) (.atom 17))
 (.load (.elt (.atom 8) (.atom 17) 1) [.int .i64]
 (.sem (.mapUpdate 135 (.tmp 50) (.tmp 54) (.const (.int .i64 1))) 0 [(50,(.sc (.atom 13))),(54,(.sc (.atom 19)))] (.tu []) []
 (.next 18 [])))))
 (.loop 23 [.int .i64] [.int .i64 0]
 (.sem (.lookup 135 (.tmp 55) (.tmp 56) false) 3 [(55,(.sc (.atom 13))),(56,(.sc (.atom 17)))] (.sc (.int .i64)) []
 (.ite (.cmp .eql (.atom 18) (.int .i64 1))
 (.next 23 [(.ar .add .i64 (.atom 17) (.int .i64 1))])
 (.chk [] (.inSl (.atom 8) (.atom 12))
 (.store (.elt (.atom 8) (.atom 12) 1) [.atom 17]
 (.next 10 [(.pick (.cmp .gtr (.ar .add .i64 (.atom 17) (.int .i64 1)) (.atom 10)) (.ar .add .i64 (.atom 17) (.int .i64 1)) (.atom 10)),(.ar .add .i64 (.atom 11) (.int .i64 1))])))))))
 (.alt (.next (.tmp 45) false) 0 [(45,(.sc (.atom 15)))] (.tu [(false,[.bool])]) (.tu [(false,[.bool]),(false,[.int .i64]),(false,[.int .i64])])
 (.next 19 [.atom 16])
 (.next 19 [.atom 16])))))))))
 (.leaf (.tu [(false,[.atom 8]),(false,[(.ar .sub .i64 (.atom 10) (.atom 4))]),(false,[.int .i64 0])])))))))))))
theorem zm6:execF Tryz.prog { pub:=[],nojoin:=false } Tryz.f81=zgl:=by kernel_rfl
theorem zh2:callB Tryz.prog 81=true:=by kernel_rfl
theorem zp7:TriOf Tryz.prog 81 Tryz.f81 zgl:=triOf Tryz.func81 zm6
abbrev zyx:FuncId:=121
def zkf:Fm VE:=
 (.new 43 [.atom 0,.atom 1,.atom 2,.atom 3]
 (.join 2 [.bool]
 (.ite (.atom 5)
 (.leaf (.sc (.bool false)))
 (.new 4 [.bool false]
 (.store (.atom 6) [.bool true]
 (.sem (.makeFunc (.func 169) #[] #[.tmp 3,.tmp 1]) 209 [(3,(.sc (.atom 6))),(1,(.sc (.atom 4)))] (.sc .any) []
 (.chk [] (.some (.atom 4))
 (.load (.padd (.atom 4) 3) [.sl]
 (.loop 7 [.int .i64] [.int .i64 0]
 (.ite (.cmp .lss (.atom 9) (.len (.atom 8)))
 (.join 10 []
 (.next 7 [(.ar .add .i64 (.atom 9) (.int .i64 1))])
 (.chk [] (.inSl (.atom 8) (.atom 9))
 (.load (.elt (.atom 8) (.atom 9) 7) [.sl,.int .i64,.int .i64,.sl,.int .i64,.int .i64,.int .i64]
 (.loop 14 [.int .i64] [.int .i64 0]
 (.ite (.cmp .lss (.atom 17) (.len (.atom 10)))
 (.join 17 []
 (.next 14 [(.ar .add .i64 (.atom 17) (.int .i64 1))])
 (.chk [] (.inSl (.atom 10) (.atom 17))
 (.load (.elt (.atom 10) (.atom 17) 8) [.str,.int .i64,.sl,.int .i64,.int .i64,.str,.sl,.int .i64]
 (.call (.atom 7) [.sc (.atom 20)] (.tu []) []
 (.ite (.scmp .neq (.atom 18) (.str [116,105,101]))
 (.sem (.buildSlice 29 1 #[(0,(.tmp 60))]) 29 [(60,(.sc (.atom 19)))] (.sc .sl) []
 (.call (.atom 7) [.sc (.atom 26)] (.tu []) []
 (.next 17 [])))
 (.next 17 []))))))
 (.join 19 [.bool]
 (.ite (.atom 18)
 (.sem (.buildSlice 29 1 #[(0,(.tmp 74))]) 29 [(74,(.sc (.atom 12)))] (.sc .sl) []
 (.call (.atom 7) [.sc (.atom 19)] (.tu []) []
 (.next 10 [])))
 (.ite (.cmp .eql (.atom 11) (.int .i64 3))
 (.sem (.buildSlice 29 1 #[(0,(.tmp 81))]) 29 [(81,(.sc (.atom 12)))] (.sc .sl) []
 (.sem (.call ⟨.builtin .append,#[.tmp 82,.tmp 84],#[29,29]⟩) 29 [(82,(.sc (.atom 19))),(84,(.sc (.atom 13)))] (.sc .sl) []
 (.call (.atom 7) [.sc (.atom 20)] (.tu []) []
 (.next 10 []))))
 (.ite (.cmp .eql (.atom 11) (.int .i64 4))
 (.sem (.buildSlice 29 2 #[(0,(.tmp 91)),(1,(.tmp 93))]) 29 [(91,(.sc (.atom 12))),(93,(.sc (.atom 14)))] (.sc .sl) []
 (.sem (.call ⟨.builtin .append,#[.tmp 94,.tmp 96],#[29,29]⟩) 29 [(94,(.sc (.atom 19))),(96,(.sc (.atom 13)))] (.sc .sl) []
 (.call (.atom 7) [.sc (.atom 20)] (.tu []) []
 (.next 10 []))))
 (.ite (.cmp .eql (.atom 11) (.int .i64 6))
 (.sem (.buildSlice 29 2 #[(0,(.tmp 103)),(1,(.tmp 105))]) 29 [(103,(.sc (.atom 12))),(105,(.sc (.atom 14)))] (.sc .sl) []
 (.call (.atom 7) [.sc (.atom 19)] (.tu []) []
 (.next 10 [])))
 (.next 10 [])))))
 (.ite (.cmp .eql (.atom 11) (.int .i64 1))
 (.next 19 [(.cmp .eql (.atom 11) (.int .i64 1))])
 (.next 19 [(.pick (.cmp .eql (.atom 11) (.int .i64 2)) (.cmp .eql (.atom 11) (.int .i64 2)) (.cmp .eql (.atom 11) (.int .i64 5)))]))))))))
 (.load (.atom 6) [.bool]
 (.leaf (.sc (.atom 10))))))))))))
 (.chk [] (.some (.atom 4))
 (.load (.padd (.atom 4) 2) [.int .i64]
 (.ite (.cmp .lss (.atom 5) (.int .i64 0))
 (.next 2 [.bool true])
 (.load (.padd (.atom 4) 2) [.int .i64]
 (.ite (.cmp .gtr (.atom 6) (.int .i64 2000))
 (.next 2 [.bool true])
 (.load (.padd (.atom 4) 0) [.int .i64]
 (.ite (.cmp .lss (.atom 7) (.int .i64 0))
 (.next 2 [.bool true])
 (.load (.padd (.atom 4) 0) [.int .i64]
 (.load (.padd (.atom 4) 2) [.int .i64]
 (.ite (.cmp .gtr (.atom 8) (.atom 9))
 (.next 2 [.bool true])
 (.load (.padd (.atom 4) 3) [.sl]
 (.next 2 [(.cmp .eql (.len (.atom 10)) (.int .i64 0))]))))))))))))))
theorem zqi:execF Tryz.prog { pub:=[1,3],nojoin:=false } Tryz.f121=zkf:=by kernel_rfl
theorem zwv:callB Tryz.prog 121=true:=by kernel_rfl
theorem zuo:TriOf Tryz.prog 121 Tryz.f121 zkf:=triOf Tryz.func121 zqi
abbrev zu6:FuncId:=122
def zgq:Fm VE:=
 (.sem (.makeMap 179 none) 179 [] (.sc .map) []
 (.call (.fn 129) [(.ag [.atom 0,.atom 1,.atom 2,.atom 3])] (.sc .sl) []
 (.chk [] (.inSl (.atom 5) (.int .i64 0))
 (.load (.elt (.atom 5) (.int .i64 0) 1) [.sl]
 (.loop 5 [.int .i64] [.int .i64 0]
 (.ite (.cmp .lss (.atom 7) (.len (.atom 6)))
 (.chk [] (.inSl (.atom 6) (.atom 7))
 (.load (.elt (.atom 6) (.atom 7) 1) [.int .i64]
 (.load (.elt (.atom 5) (.int .i64 0) 1) [.sl]
 (.chk [] (.sub (.cap (.atom 9)) (.int .i64 0) (.atom 7))
 (.loop 11 [.int .i64] [.int .i64 0]
 (.ite (.cmp .lss (.atom 10) (.len (.sls (.atom 9) (.int .i64 0) (.atom 7) 1)))
 (.chk [] (.inSl (.sls (.atom 9) (.int .i64 0) (.atom 7) 1) (.atom 10))
 (.load (.elt (.sls (.atom 9) (.int .i64 0) (.atom 7) 1) (.atom 10) 1) [.int .i64]
 (.call (.fn 170) [.sc (.atom 4),.sc (.atom 8),.sc (.atom 11)] (.tu []) []
 (.next 11 [(.ar .add .i64 (.atom 10) (.int .i64 1))]))))
 (.next 5 [(.ar .add .i64 (.atom 7) (.int .i64 1))])))))))
 (.loop 10 [.int .i64] [.int .i64 0]
 (.ite (.cmp .lss (.atom 8) (.len (.atom 3)))
 (.join 13 []
 (.next 10 [(.ar .add .i64 (.atom 8) (.int .i64 1))])
 (.chk [] (.inSl (.atom 3) (.atom 8))
 (.load (.elt (.atom 3) (.atom 8) 7) [.sl,.int .i64,.int .i64,.sl,.int .i64,.int .i64,.int .i64]
 (.call (.fn 171) [(.ag [.atom 0,.atom 1,.atom 2,.atom 3]),.sc (.atom 8)] (.sc .sl) []
 (.loop 17 [.int .i64] [.int .i64 0]
 (.ite (.cmp .lss (.atom 17) (.len (.atom 16)))
 (.join 20 []
 (.next 17 [(.ar .add .i64 (.atom 17) (.int .i64 1))])
 (.chk [] (.inSl (.atom 16) (.atom 17))
 (.load (.elt (.atom 16) (.atom 17) 1) [.sl]
 (.chk [] (.inSl (.atom 9) (.atom 17))
 (.load (.elt (.atom 9) (.atom 17) 8) [.str,.int .i64,.sl,.int .i64,.int .i64,.str,.sl,.int .i64]
 (.ite (.scmp .eql (.atom 19) (.str [116,105,101]))
 (.next 20 [])
 (.loop 26 [.int .i64] [.int .i64 0]
 (.ite (.cmp .lss (.atom 27) (.len (.atom 18)))
 (.join 29 []
 (.next 26 [(.ar .add .i64 (.atom 27) (.int .i64 1))])
 (.chk [] (.inSl (.atom 18) (.atom 27))
 (.load (.elt (.atom 18) (.atom 27) 1) [.int .i64]
 (.join 31 [.bool]
 (.ite (.atom 29)
 (.call (.fn 170) [.sc (.atom 4),.sc (.atom 20),.sc (.atom 28)] (.tu []) []
 (.next 29 []))
 (.next 29 []))
 (.ite (.scmp .neq (.atom 19) (.str [109,111,118,101]))
 (.next 31 [.bool true])
 (.call (.fn 172) [.sc (.atom 21),.sc (.atom 28)] (.sc .bool) []
 (.next 31 [(.not (.atom 29))])))))))
 (.next 20 [])))))))))
 (.ite (.pick (.cmp .eql (.atom 10) (.int .i64 4)) (.bool true) (.cmp .eql (.atom 10) (.int .i64 6)))
 (.call (.fn 125) [(.ag [.atom 0,.atom 1,.atom 2,.atom 3]),.sc (.atom 8)] (.sc .sl) []
 (.loop 23 [.int .i64] [.int .i64 0]
 (.ite (.cmp .lss (.atom 19) (.len (.atom 18)))
 (.chk [] (.inSl (.atom 18) (.atom 19))
 (.load (.elt (.atom 18) (.atom 19) 1) [.int .i64]
 (.call (.fn 170) [.sc (.atom 4),.sc (.atom 13),.sc (.atom 20)] (.tu []) []
 (.next 23 [(.ar .add .i64 (.atom 19) (.int .i64 1))]))))
 (.next 13 []))))
 (.next 13 []))))))))
 (.leaf (.sc (.atom 4)))))))))))
theorem zm5:execF Tryz.prog { pub:=[],nojoin:=false } Tryz.f122=zgq:=by kernel_rfl
theorem zsd:callB Tryz.prog 122=true:=by kernel_rfl
theorem zo7:TriOf Tryz.prog 122 Tryz.f122 zgq:=triOf Tryz.func122 zm5
abbrev zai:FuncId:=123
def z4f:Fm VE:=
 (.join 1 []
 (.call (.fn 173) [(.sc (.conv .u64 (.len (.atom 0)))),(.sc (.conv .u64 (.atom 1)))] (.tu [(false,[.int .u64]),(false,[.int .u64])]) []
 (.join 3 []
 (.sem (.makeSlice 29 (.tmp 29) (.tmp 29)) 29 [(29,(.sc (.conv .i64 (.atom 3)))),(29,(.sc (.conv .i64 (.atom 3))))] (.sc .sl) []
 (.sem (.call ⟨.builtin .copy,#[.tmp 31,.tmp 32],#[29,29]⟩) 3 [(31,(.sc (.atom 4))),(32,(.sc (.atom 0)))] (.sc (.int .i64)) []
 (.loop 7 [.int .i64] [.atom 5]
 (.ite (.cmp .lss (.atom 6) (.len (.atom 4)))
 (.chk [] (.sub (.cap (.atom 4)) (.atom 6) (.len (.atom 4)))
 (.chk [] (.sub (.cap (.atom 4)) (.int .i64 0) (.atom 6))
 (.sem (.call ⟨.builtin .copy,#[.tmp 41,.tmp 44],#[29,29]⟩) 3 [(41,(.sc (.sls (.atom 4) (.atom 6) (.len (.atom 4)) 1))),(44,(.sc (.sls (.atom 4) (.int .i64 0) (.atom 6) 1)))] (.sc (.int .i64)) []
 (.next 7 [(.ar .add .i64 (.atom 6) (.atom 7))]))))
 (.leaf (.sc (.atom 4)))))))
 (.ite (.pick (.cmp .gtr (.atom 2) (.int .u64 0)) (.bool true) (.cmp .gtr (.atom 3) (.int .u64 9223372036854775807)))
 (.sem (.makeInterface 9 (.const (.string ⟨#[116,104,101,32,114,101,115,117,108,116,32,111,102,32,40,108,101,110,40,120,41,32,42,32,99,111,117,110,116,41,32,111,118,101,114,102,108,111,119,115]⟩))) 20 [] (.sc .any) []
 (.sem (.panic (.tmp 27)) 0 [(27,(.sc (.atom 4)))] (.tu []) []
 (.next 3 [])))
 (.next 3 []))))
 (.ite (.cmp .lss (.atom 1) (.int .i64 0))
 (.sem (.makeInterface 9 (.const (.string ⟨#[99,97,110,110,111,116,32,98,101,32,110,101,103,97,116,105,118,101]⟩))) 20 [] (.sc .any) []
 (.sem (.panic (.tmp 11)) 0 [(11,(.sc (.atom 2)))] (.tu []) []
 (.next 1 [])))
 (.next 1 [])))
theorem z90:execF Tryz.prog { pub:=[],nojoin:=false } Tryz.f123=z4f:=by kernel_rfl
theorem zad:callB Tryz.prog 123=true:=by kernel_rfl
theorem z9p:TriOf Tryz.prog 123 Tryz.f123 z4f:=triOf Tryz.func123 z90
abbrev zuh:FuncId:=124
def zhi:Fm VE:=
 (.join 1 [.sl,.sl]
 (.loop 4 [.int .i64] [.int .i64 0]
 (.ite (.cmp .lss (.atom 5) (.atom 1))
 (.sem (.lookup 179 (.tmp 24) (.tmp 25) false) 135 [(24,(.sc (.atom 0))),(25,(.sc (.atom 5)))] (.sc .map) []
 (.sem (.call ⟨.builtin .len,#[.tmp 26],#[135]⟩) 3 [(26,(.sc (.atom 6)))] (.sc (.int .i64)) []
 (.chk [] (.inSl (.atom 3) (.atom 5))
 (.store (.elt (.atom 3) (.atom 5) 1) [.atom 7]
 (.next 4 [(.ar .add .i64 (.atom 5) (.int .i64 1))])))))
 (.loop 9 [.sl] [(.nil 1)]
 (.ite (.cmp .lss (.len (.atom 6)) (.atom 1))
 (.join 13 [.int .i64]
 (.chk [] (.inSl (.atom 4) (.atom 7))
 (.store (.elt (.atom 4) (.atom 7) 1) [.bool true]
 (.sem (.buildSlice 29 1 #[(0,(.tmp 68))]) 29 [(68,(.sc (.atom 7)))] (.sc .sl) []
 (.sem (.call ⟨.builtin .append,#[.tmp 67,.tmp 69],#[29,29]⟩) 29 [(67,(.sc (.atom 6))),(69,(.sc (.atom 8)))] (.sc .sl) []
 (.sem (.lookup 179 (.tmp 71) (.tmp 72) false) 135 [(71,(.sc (.atom 0))),(72,(.sc (.atom 7)))] (.sc .map) []
 (.sem (.range 135 (.tmp 73)) 0 [(73,(.sc (.atom 10)))] (.sc .ptr) []
 (.loop 17 [] []
 (.join 18 [.bool]
 (.ite (.atom 12)
 (.sem (.entry (.tmp 74)) 0 [(74,(.sc (.atom 11)))] (.tu [(false,[.int .i64]),(false,[.int .i64])]) []
 (.chk [] (.inSl (.atom 3) (.atom 13))
 (.load (.elt (.atom 3) (.atom 13) 1) [.int .i64]
 (.store (.elt (.atom 3) (.atom 13) 1) [(.ar .sub .i64 (.atom 15) (.int .i64 1))]
 (.next 17 [])))))
 (.next 9 [.atom 9]))
 (.alt (.next (.tmp 74) false) 0 [(74,(.sc (.atom 11)))] (.tu [(false,[.bool])]) (.tu [(false,[.bool]),(false,[.int .i64]),(false,[.int .i64])])
 (.next 18 [.atom 12])
 (.next 18 [.atom 12]))))))))))
 (.loop 15 [.int .i64,.int .i64] [(.int .i64 (-1)),.int .i64 0]
 (.ite (.cmp .lss (.atom 8) (.atom 1))
 (.join 18 [.int .i64]
 (.next 15 [.atom 9,(.ar .add .i64 (.atom 8) (.int .i64 1))])
 (.chk [] (.inSl (.atom 4) (.atom 8))
 (.load (.elt (.atom 4) (.atom 8) 1) [.bool]
 (.ite (.atom 9)
 (.next 18 [.atom 7])
 (.chk [] (.inSl (.atom 3) (.atom 8))
 (.load (.elt (.atom 3) (.atom 8) 1) [.int .i64]
 (.ite (.cmp .lss (.atom 10) (.atom 2))
 (.next 13 [.atom 8])
 (.join 24 [.bool]
 (.next 18 [(.pick (.atom 11) (.atom 8) (.atom 7))])
 (.chk [((.cmp .lss (.atom 7) (.int .i64 0)),false)] (.inSl (.atom 3) (.atom 7))
 (.ite (.cmp .lss (.atom 7) (.int .i64 0))
 (.next 24 [.bool true])
 (.load (.elt (.atom 3) (.atom 8) 1) [.int .i64]
 (.load (.elt (.atom 3) (.atom 7) 1) [.int .i64]
 (.next 24 [(.cmp .gtr (.atom 11) (.atom 12))])))))))))))))
 (.next 13 [.atom 7]))))
 (.call (.fn 174) [.sc (.atom 6)] (.tu []) []
 (.leaf (.sc (.atom 6))))))))
 (.both
 (.sem (.makeSlice 29 (.tmp 14) (.tmp 14)) 29 [(14,(.sc (.atom 1))),(14,(.sc (.atom 1)))] (.sc .sl) []
 (.sem (.makeSlice 116 (.tmp 16) (.tmp 16)) 116 [(16,(.sc (.atom 1))),(16,(.sc (.atom 1)))] (.sc .sl) []
 (.next 1 [.atom 3,.atom 4])))
 (.sem (.makeSlice 116 (.tmp 16) (.tmp 16)) 116 [(16,(.sc (.atom 1))),(16,(.sc (.atom 1)))] (.sc .sl) []
 (.sem (.makeSlice 29 (.tmp 14) (.tmp 14)) 29 [(14,(.sc (.atom 1))),(14,(.sc (.atom 1)))] (.sc .sl) []
 (.next 1 [.atom 4,.atom 3])))))
theorem zlv:execF Tryz.prog { pub:=[],nojoin:=false } Tryz.f124=zhi:=by kernel_rfl
theorem zrl:callB Tryz.prog 124=true:=by kernel_rfl
theorem zoe:TriOf Tryz.prog 124 Tryz.f124 zhi:=triOf Tryz.func124 zlv
abbrev z1t:FuncId:=169
def zh5:Fm VE:=
 (.loop 1 [.int .i64] [.int .i64 0]
 (.ite (.cmp .lss (.atom 3) (.len (.atom 0)))
 (.join 4 []
 (.next 1 [(.ar .add .i64 (.atom 3) (.int .i64 1))])
 (.chk [] (.inSl (.atom 0) (.atom 3))
 (.load (.elt (.atom 0) (.atom 3) 1) [.int .i64]
 (.load (.atom 1) [.bool]
 (.chk [((.pick (.atom 5) (.cmp .geq (.atom 4) (.int .i64 0)) (.bool false)),true)] (.some (.atom 2))
 (.ite (.pick (.atom 5) (.cmp .geq (.atom 4) (.int .i64 0)) (.bool false))
 (.load (.padd (.atom 2) 2) [.int .i64]
 (.store (.atom 1) [(.cmp .lss (.atom 4) (.atom 6))]
 (.next 4 [])))
 (.store (.atom 1) [.bool false]
 (.next 4 []))))))))
 (.leaf (.tu []))))
theorem zly:zpp Tryz.prog { pub:=[],nojoin:=false } Tryz.f169 [(.sc (.sl)),(.sc (.ptr)),(.sc (.ptr))]=zh5:=by kernel_rfl
theorem z34:callB Tryz.prog 169=true:=by kernel_rfl
theorem zps:Z4n Tryz.prog 169 [(.sc (.sl)),(.sc (.ptr)),(.sc (.ptr))] zh5:=Z8m Tryz.func169 zly
abbrev zcp:FuncId:=170
def z4x:Fm VE:=
 (.ite (.cmp .eql (.atom 1) (.atom 2))
 (.leaf (.tu []))
 (.loop 3 [.int .i64] [.int .i64 0]
 (.ite (.cmp .lss (.atom 3) (.int .i64 2))
 (.sem (.index 234 (.tmp 17) (.tmp 18)) 233 [(17,(.ag [.atom 1,.atom 2,.atom 2,.atom 1])),(18,(.sc (.atom 3)))] (.ag [.int .i64,.int .i64]) []
 (.join 8 []
 (.sem (.lookup 179 (.tmp 30) (.tmp 32) false) 135 [(30,(.sc (.atom 0))),(32,(.sc (.atom 4)))] (.sc .map) []
 (.sem (.mapUpdate 135 (.tmp 33) (.tmp 35) (.const (.int .i64 1))) 0 [(33,(.sc (.atom 6))),(35,(.sc (.atom 5)))] (.tu []) []
 (.next 3 [(.ar .add .i64 (.atom 3) (.int .i64 1))])))
 (.sem (.lookup 179 (.tmp 21) (.tmp 23) false) 135 [(21,(.sc (.atom 0))),(23,(.sc (.atom 4)))] (.sc .map) []
 (.ite (.isnil (.atom 6))
 (.sem (.makeMap 135 none) 135 [] (.sc .map) []
 (.sem (.mapUpdate 179 (.tmp 26) (.tmp 28) (.tmp 29)) 0 [(26,(.sc (.atom 0))),(28,(.sc (.atom 4))),(29,(.sc (.atom 7)))] (.tu []) []
 (.next 8 [])))
 (.next 8 [])))))
 (.leaf (.tu [])))))
theorem z9h:execF Tryz.prog { pub:=[],nojoin:=false } Tryz.f170=z4x:=by kernel_rfl
theorem z2z:callB Tryz.prog 170=true:=by kernel_rfl
theorem zaq:TriOf Tryz.prog 170 Tryz.f170 z4x:=triOf Tryz.func170 z9h
abbrev z9q:FuncId:=172
def z3z:Fm VE:=
 (.call (.fn 204) [.sc (.atom 0),.sc (.atom 1)] (.sc (.int .i64)) []
 (.leaf (.sc (.cmp .geq (.atom 2) (.int .i64 0)))))
theorem z78:execF Tryz.prog { pub:=[],nojoin:=false } Tryz.f172=z3z:=by kernel_rfl
theorem z98:callB Tryz.prog 172=true:=by kernel_rfl
theorem z92:TriOf Tryz.prog 172 Tryz.f172 z3z:=triOf Tryz.func172 z78
abbrev zpd:FuncId:=173
def zd5:Fm VE:=
 (.call (.fn 206) [.sc (.atom 0),.sc (.atom 1)] (.tu [(false,[.int .u64]),(false,[.int .u64])]) []
 (.leaf (.tu [(false,[.atom 2]),(false,[.atom 3])])))
theorem zk0:execF Tryz.prog { pub:=[],nojoin:=false } Tryz.f173=zd5:=by kernel_rfl
theorem zns:callB Tryz.prog 173=true:=by kernel_rfl
theorem zlu:TriOf Tryz.prog 173 Tryz.f173 zd5:=triOf Tryz.func173 zk0
abbrev zag:FuncId:=174
def z4d:Fm VE:=
 (.loop 1 [.int .i64,.int .i64] [.int .i64 0,(.ar .sub .i64 (.len (.atom 0)) (.int .i64 1))]
 (.ite (.cmp .lss (.atom 1) (.atom 2))
 (.chk [] (.inSl (.atom 0) (.atom 2))
 (.load (.elt (.atom 0) (.atom 2) 1) [.int .i64]
 (.chk [] (.inSl (.atom 0) (.atom 1))
 (.load (.elt (.atom 0) (.atom 1) 1) [.int .i64]
 (.store (.elt (.atom 0) (.atom 1) 1) [.atom 3]
 (.store (.elt (.atom 0) (.atom 2) 1) [.atom 4]
 (.next 1 [(.ar .add .i64 (.atom 1) (.int .i64 1)),(.ar .sub .i64 (.atom 2) (.int .i64 1))])))))))
 (.leaf (.tu []))))
theorem z89:execF Tryz.prog { pub:=[],nojoin:=false } Tryz.f174=z4d:=by kernel_rfl
theorem z9v:callB Tryz.prog 174=true:=by kernel_rfl
theorem z9a:TriOf Tryz.prog 174 Tryz.f174 z4d:=triOf Tryz.func174 z89
abbrev zb8:FuncId:=204
def z4n:Fm VE:=
 (.loop 3 [.int .i64,.int .i64] [.int .i64 0,.int .i64 0]
 (.ite (.cmp .lss (.atom 3) (.len (.atom 0)))
 (.chk [] (.inSl (.atom 0) (.atom 3))
 (.load (.elt (.atom 0) (.atom 3) 1) [.int .i64]
 (.ite (.cmp .eql (.atom 1) (.atom 4))
 (.leaf (.sc (.atom 3)))
 (.next 3 [.atom 2,(.ar .add .i64 (.atom 3) (.int .i64 1))]))))
 (.leaf (.sc (.int .i64 (-1))))))
theorem z9b:execF Tryz.prog { pub:=[],nojoin:=false } Tryz.f204=z4n:=by kernel_rfl
theorem zav:callB Tryz.prog 204=true:=by kernel_rfl
theorem z4e:TriOf Tryz.prog 204 Tryz.f204 z4n:=triOf Tryz.func204 z9b
abbrev zm2:FuncId:=206
def z3v:Fm VE:=
 (.leaf (.tu [(false,[(.ar .add .u64 (.ar .add .u64 (.ar .mul .u64 (.ar .shr .u64 (.atom 0) (.int .u64 32)) (.ar .shr .u64 (.atom 1) (.int .u64 32))) (.ar .shr .u64 (.ar .add .u64 (.ar .mul .u64 (.ar .shr .u64 (.atom 0) (.int .u64 32)) (.ar .and .u64 (.atom 1) (.int .u64 4294967295))) (.ar .shr .u64 (.ar .mul .u64 (.ar .and .u64 (.atom 0) (.int .u64 4294967295)) (.ar .and .u64 (.atom 1) (.int .u64 4294967295))) (.int .u64 32))) (.int .u64 32))) (.ar .shr .u64 (.ar .add .u64 (.ar .and .u64 (.ar .add .u64 (.ar .mul .u64 (.ar .shr .u64 (.atom 0) (.int .u64 32)) (.ar .and .u64 (.atom 1) (.int .u64 4294967295))) (.ar .shr .u64 (.ar .mul .u64 (.ar .and .u64 (.atom 0) (.int .u64 4294967295)) (.ar .and .u64 (.atom 1) (.int .u64 4294967295))) (.int .u64 32))) (.int .u64 4294967295)) (.ar .mul .u64 (.ar .and .u64 (.atom 0) (.int .u64 4294967295)) (.ar .shr .u64 (.atom 1) (.int .u64 32)))) (.int .u64 32)))]),(false,[(.ar .mul .u64 (.atom 0) (.atom 1))])]))
theorem zgx:execF Tryz.prog { pub:=[],nojoin:=false } Tryz.f206=z3v:=by kernel_rfl
theorem zld:callB Tryz.prog 206=true:=by kernel_rfl
theorem zju:TriOf Tryz.prog 206 Tryz.f206 z3v:=triOf Tryz.func206 zgx
abbrev z8d:FuncId:=3
def z3g:Fm VE:=
 (.call (.fn 10) [(.ag [.atom 0,.atom 1,.atom 2]),.sc (.atom 3)] (.tu [(false,[.int .i64]),(false,[.bool])]) []
 (.call (.fn 11) [(.ag [.atom 0,.atom 1,.atom 2]),.sc (.atom 3)] (.tu [(false,[.int .i64]),(false,[.bool])]) []
 (.call (.fn 12) [] (.sc .bool) []
 (.ite (.pick (.not (.atom 8)) (.bool true) (.not (.beq (.atom 5) (.atom 7))))
 (.leaf (.sc (.bool false)))
 (.leaf (.sc (.pick (.pick (.not (.atom 5)) (.cmp .eql (.atom 4) (.int .i64 0)) (.bool false)) (.bool true) (.pick (.atom 5) (.cmp .eql (.atom 4) (.atom 6)) (.bool false)))))))))
theorem z5q:execF Tryz.prog { pub:=[],nojoin:=false } Tryz.f3=z3g:=by kernel_rfl
theorem z6v:TriOf Tryz.prog 3 Tryz.f3 z3g:=triOf Tryz.func3 z5q
abbrev Z1m:FuncId:=10
def zmu:Fm VE:=
 (.ite (.pick (.pick (.cmp .neq (.atom 0) (.int .i64 3)) (.scmp .neq (.atom 2) (.str [])) (.bool false)) (.bool true) (.pick (.pick (.pick (.cmp .neq (.atom 0) (.int .i64 1)) (.cmp .neq (.atom 0) (.int .i64 2)) (.bool false)) (.cmp .neq (.atom 0) (.int .i64 0)) (.bool false)) (.cmp .neq (.atom 1) (.int .i64 0)) (.bool false)))
 (.leaf (.tu [(false,[.int .i64 0]),(false,[.bool false])]))
 (.join 3 []
 (.leaf (.tu [(false,[.int .i64 0]),(false,[.bool false])]))
 (.ite (.cmp .eql (.atom 0) (.int .i64 1))
 (.call (.fn 33) [.sc (.atom 1)] (.tu [(false,[.int .i64]),(false,[.int .i64])]) []
 (.leaf (.tu [(false,[.atom 4]),(false,[(.cmp .eql (.atom 5) (.int .i64 0))])])))
 (.ite (.cmp .eql (.atom 0) (.int .i64 0))
 (.ite (.cmp .eql (.ar .and .i64 (.atom 1) (.int .i64 1)) (.atom 1))
 (.call (.fn 34) [.sc (.atom 1)] (.sc (.int .i64)) []
 (.leaf (.tu [(false,[.atom 4]),(false,[.bool true])])))
 (.next 3 []))
 (.ite (.cmp .eql (.atom 0) (.int .i64 2))
 (.ite (.cmp .eql (.ar .and .i64 (.atom 1) (.int .i64 255)) (.atom 1))
 (.call (.fn 34) [(.sc (.ar .add .i64 (.int .i64 256) (.atom 1)))] (.sc (.int .i64)) []
 (.leaf (.tu [(false,[.atom 4]),(false,[.bool true])])))
 (.next 3 []))
 (.ite (.cmp .eql (.atom 0) (.int .i64 3))
 (.call (.fn 35) [.sc (.atom 3),.sc (.atom 2)] (.sc (.int .i64)) []
 (.ite (.cmp .geq (.atom 4) (.int .i64 0))
 (.leaf (.tu [(false,[(.ar .or .i64 (.ar .shl .i64 (.atom 4) (.int .u64 3)) (.int .i64 3))]),(false,[.bool true])]))
 (.next 3 [])))
 (.ite (.cmp .eql (.atom 0) (.int .i64 4))
 (.call (.fn 34) [.sc (.int .i64 2)] (.sc (.int .i64)) []
 (.leaf (.tu [(false,[.atom 4]),(false,[.bool true])])))
 (.ite (.cmp .eql (.atom 0) (.int .i64 5))
 (.call (.fn 34) [.sc (.int .i64 3)] (.sc (.int .i64)) []
 (.leaf (.tu [(false,[.atom 4]),(false,[.bool true])])))
 (.ite (.cmp .eql (.atom 0) (.int .i64 6))
 (.call (.fn 34) [.sc (.int .i64 4)] (.sc (.int .i64)) []
 (.leaf (.tu [(false,[.atom 4]),(false,[.bool true])])))
 (.ite (.cmp .eql (.atom 0) (.int .i64 7))
 (.call (.fn 34) [.sc (.int .i64 5)] (.sc (.int .i64)) []
 (.leaf (.tu [(false,[.atom 4]),(false,[.bool true])])))
 (.next 3 [])))))))))))
theorem zr4:execF Tryz.prog { pub:=[],nojoin:=false } Tryz.f10=zmu:=by kernel_rfl
theorem zfd:callB Tryz.prog 10=true:=by kernel_rfl
theorem zx5:TriOf Tryz.prog 10 Tryz.f10 zmu:=triOf Tryz.func10 zr4
abbrev zgf:FuncId:=11
def z6x:Fm VE:=
 (.ite (.pick (.scmp .neq (.atom 2) (.str [])) (.cmp .neq (.atom 0) (.int .i64 3)) (.bool false))
 (.leaf (.tu [(false,[.int .i64 0]),(false,[.bool false])]))
 (.ite (.cmp .eql (.atom 0) (.int .i64 0))
 (.ite (.pick (.cmp .neq (.atom 1) (.int .i64 0)) (.cmp .neq (.atom 1) (.int .i64 1)) (.bool false))
 (.leaf (.tu [(false,[.int .i64 0]),(false,[.bool false])]))
 (.leaf (.tu [(false,[(.ar .add .i64 (.ar .mul .i64 (.int .i64 8) (.atom 1)) (.int .i64 2))]),(false,[.bool true])])))
 (.ite (.cmp .eql (.atom 0) (.int .i64 1))
 (.call (.fn 36) [.sc (.atom 1)] (.sc .bool) []
 (.ite (.not (.atom 4))
 (.leaf (.tu [(false,[.int .i64 0]),(false,[.bool false])]))
 (.leaf (.tu [(false,[(.ar .mul .i64 (.int .i64 8) (.atom 1))]),(false,[.bool true])]))))
 (.ite (.cmp .eql (.atom 0) (.int .i64 2))
 (.ite (.pick (.cmp .lss (.atom 1) (.int .i64 0)) (.bool true) (.cmp .gtr (.atom 1) (.int .i64 255)))
 (.leaf (.tu [(false,[.int .i64 0]),(false,[.bool false])]))
 (.leaf (.tu [(false,[(.ar .add .i64 (.ar .mul .i64 (.int .i64 8) (.ar .add .i64 (.int .i64 256) (.atom 1))) (.int .i64 2))]),(false,[.bool true])])))
 (.ite (.cmp .eql (.atom 0) (.int .i64 3))
 (.loop 12 [.int .i64,.bool,.int .i64] [.int .i64 0,.bool false,.int .i64 0]
 (.ite (.pick (.cmp .lss (.atom 6) (.len (.atom 3))) (.cmp .eql (.atom 1) (.int .i64 0)) (.bool false))
 (.chk [] (.inSl (.atom 3) (.atom 6))
 (.load (.elt (.atom 3) (.atom 6) 1) [.str]
 (.ite (.scmp .eql (.atom 7) (.atom 2))
 (.leaf (.tu [(false,[(.ar .add .i64 (.ar .mul .i64 (.int .i64 8) (.atom 6)) (.int .i64 3))]),(false,[.bool true])]))
 (.next 12 [.atom 4,.atom 5,(.ar .add .i64 (.atom 6) (.int .i64 1))]))))
 (.leaf (.tu [(false,[.int .i64 0]),(false,[.bool false])]))))
 (.join 10 [.bool]
 (.ite (.atom 4)
 (.leaf (.tu [(false,[(.ar .add .i64 (.ar .mul .i64 (.int .i64 8) (.ar .sub .i64 (.atom 0) (.int .i64 2))) (.int .i64 2))]),(false,[(.cmp .eql (.atom 1) (.int .i64 0))])]))
 (.leaf (.tu [(false,[.int .i64 0]),(false,[.bool false])])))
 (.ite (.cmp .eql (.atom 0) (.int .i64 4))
 (.next 10 [(.cmp .eql (.atom 0) (.int .i64 4))])
 (.ite (.cmp .eql (.atom 0) (.int .i64 5))
 (.next 10 [(.cmp .eql (.atom 0) (.int .i64 5))])
 (.next 10 [(.pick (.cmp .eql (.atom 0) (.int .i64 6)) (.cmp .eql (.atom 0) (.int .i64 6)) (.cmp .eql (.atom 0) (.int .i64 7)))])))))))))
theorem zbs:execF Tryz.prog { pub:=[],nojoin:=false } Tryz.f11=z6x:=by kernel_rfl
theorem zfk:callB Tryz.prog 11=true:=by kernel_rfl
theorem zdi:TriOf Tryz.prog 11 Tryz.f11 z6x:=triOf Tryz.func11 zbs
abbrev zfn:FuncId:=12
def z5u:Fm VE:=
 (.call (.fn 37) [] (.ag [.sl]) []
 (.call (.fn 14) [(.ag [.atom 0])] (.tu [(false,[.int .i64]),(false,[.int .i64])]) []
 (.call (.fn 37) [] (.ag [.sl]) []
 (.call (.fn 15) [(.ag [.atom 3]),.sc (.atom 1)] (.tu [(false,[.sl]),(false,[.sl]),(false,[.int .i64])]) []
 (.call (.fn 37) [] (.ag [.sl]) []
 (.call (.fn 15) [(.ag [.atom 7]),(.sc (.ar .sub .i64 (.atom 1) (.int .i64 1)))] (.tu [(false,[.sl]),(false,[.sl]),(false,[.int .i64])]) []
 (.call (.fn 10) [(.ag [.int .i64 1,.int .i64 5,(.str [])]),(.sc (.nil 1))] (.tu [(false,[.int .i64]),(false,[.bool])]) []
 (.call (.fn 17) [] (.sc .sl) []
 (.call (.fn 18) [] (.sc .sl) []
 (.call (.fn 16) [.sc (.atom 13),.sc (.atom 14),.sc (.atom 4),.sc (.atom 1),.sc (.int .i64 10)] (.tu [(true,[.sl,.sl,.int .i64]),(false,[.bool])]) []
 (.call (.fn 19) [(.ag [.atom 15,.atom 16,.atom 17]),(.sc (.str [])),.sc (.int .i64 200000)] (.ag [.int .i64,.int .i64,.str,.int .i64,.int .i64,.int .i64,.int .i64,.int .i64,.int .i64,.int .i64,.int .i64,.int .i64,.int .i64,.int .i64,.int .i64,.int .i64,.int .i64,.int .i64,.int .i64,.int .i64,.int .i64,.int .i64,.int .i64,.int .i64,.int .i64,.int .i64,.int .i64,.int .i64,.int .i64,.int .i64,.int .i64,.int .i64,.int .i64,.int .i64,.int .i64,.int .i64,.int .i64,.sl]) []
 (.leaf (.sc (.pick (.pick (.pick (.pick (.pick (.pick (.pick (.pick (.pick (.pick (.cmp .eql (.atom 2) (.int .i64 0)) (.cmp .geq (.atom 1) (.int .i64 2)) (.bool false)) (.cmp .eql (.atom 6) (.int .i64 0)) (.bool false)) (.cmp .eql (.len (.atom 5)) (.int .i64 0)) (.bool false)) (.cmp .eql (.atom 10) (.int .i64 250)) (.bool false)) (.cmp .eql (.atom 11) (.int .i64 40)) (.bool false)) (.atom 12) (.bool false)) (.atom 18) (.bool false)) (.cmp .eql (.atom 19) (.int .i64 0)) (.bool false)) (.cmp .eql (.atom 20) (.int .i64 0)) (.bool false)) (.cmp .eql (.atom 25) (.int .i64 40)) (.bool false)))))))))))))))
theorem zar:execF Tryz.prog { pub:=[],nojoin:=false } Tryz.f12=z5u:=by kernel_rfl
theorem zec:callB Tryz.prog 12=true:=by kernel_rfl
theorem zda:TriOf Tryz.prog 12 Tryz.f12 z5u:=triOf Tryz.func12 zar
abbrev zi7:FuncId:=13
def z88:Fm VE:=
 (.leaf (.ag [.int .i64 1,.atom 0,(.str []),(.nil 1)]))
theorem zc4:execF Tryz.prog { pub:=[],nojoin:=false } Tryz.f13=z88:=by kernel_rfl
theorem zgh:callB Tryz.prog 13=true:=by kernel_rfl
theorem zg2:TriOf Tryz.prog 13 Tryz.f13 z88:=triOf Tryz.func13 zc4
abbrev zfl:FuncId:=16
def z5w:Fm VE:=
 (.sem (.buildSlice 50 0 #[]) 50 [] (.sc .sl) []
 (.sem (.call ⟨.builtin .append,#[.tmp 18,.tmp 19],#[50,50]⟩) 50 [(18,(.sc (.atom 5))),(19,(.sc (.atom 0)))] (.sc .sl) []
 (.sem (.call ⟨.builtin .append,#[.tmp 20,.tmp 21],#[50,50]⟩) 50 [(20,(.sc (.atom 6))),(21,(.sc (.atom 1)))] (.sc .sl) []
 (.sem (.call ⟨.builtin .append,#[.tmp 22,.tmp 23],#[50,50]⟩) 50 [(22,(.sc (.atom 7))),(23,(.sc (.atom 2)))] (.sc .sl) []
 (.call (.fn 45) [.sc (.atom 8)] (.tu [(false,[.sl]),(false,[.sl]),(false,[.int .i64])]) []
 (.sem (.makeSlice 29 (.const (.int .i64 32)) (.const (.int .i64 32))) 29 [] (.sc .sl) []
 (.chk [] (.inSl (.atom 12) (.int .i64 28))
 (.store (.elt (.atom 12) (.int .i64 28) 1) [(.ar .add .i64 (.int .i64 32) (.atom 3))]
 (.chk [] (.inSl (.atom 12) (.int .i64 29))
 (.store (.elt (.atom 12) (.int .i64 29) 1) [(.ar .add .i64 (.ar .add .i64 (.int .i64 32) (.atom 3)) (.atom 4))]
 (.chk [] (.inSl (.atom 12) (.int .i64 30))
 (.store (.elt (.atom 12) (.int .i64 30) 1) [(.ar .add .i64 (.ar .add .i64 (.int .i64 32) (.atom 3)) (.atom 4))]
 (.chk [] (.inSl (.atom 12) (.int .i64 31))
 (.store (.elt (.atom 12) (.int .i64 31) 1) [(.ar .add .i64 (.ar .add .i64 (.int .i64 32) (.atom 3)) (.ar .mul .i64 (.int .i64 2) (.atom 4)))]
 (.leaf (.tu [(true,[.atom 9,.atom 12,(.ar .add .i64 (.ar .add .i64 (.int .i64 32) (.atom 3)) (.ar .mul .i64 (.int .i64 2) (.atom 4)))]),(false,[(.cmp .eql (.atom 11) (.int .i64 0))])]))))))))))))))))
theorem zas:execF Tryz.prog { pub:=[],nojoin:=false } Tryz.f16=z5w:=by kernel_rfl
theorem ze0:callB Tryz.prog 16=true:=by kernel_rfl
theorem zck:TriOf Tryz.prog 16 Tryz.f16 z5w:=triOf Tryz.func16 zas
abbrev zhw:FuncId:=19
def z7d:Fm VE:=
 (.ite (.pick (.pick (.pick (.pick (.cmp .lss (.atom 2) (.int .i64 0)) (.bool true) (.cmp .gtr (.atom 2) (.int .i64 1048576))) (.bool true) (.cmp .gtr (.len (.atom 0)) (.int .i64 1048576))) (.bool true) (.cmp .gtr (.len (.atom 1)) (.atom 2))) (.bool true) (.cmp .lss (.atom 4) (.int .i64 0)))
 (.leaf (.ag [.int .i64 7,.int .i64 0,(.str []),.int .i64 0,.int .i64 0,.int .i64 0,.int .i64 0,.int .i64 0,.int .i64 0,.int .i64 0,.int .i64 0,.int .i64 0,.int .i64 0,.int .i64 0,.int .i64 0,.int .i64 0,.int .i64 0,.int .i64 0,.int .i64 0,.int .i64 0,.int .i64 0,.int .i64 0,.int .i64 0,.int .i64 0,.int .i64 0,.int .i64 0,.int .i64 0,.int .i64 0,.int .i64 0,.int .i64 0,.int .i64 0,.int .i64 0,.int .i64 0,.int .i64 0,.int .i64 0,.int .i64 0,.int .i64 0,(.nil 1)]))
 (.new 114 [.int .i64 0,.int .i64 0,(.str []),.int .i64 0,.int .i64 0,.int .i64 0,.int .i64 0,.int .i64 0,.int .i64 0,.int .i64 0,.int .i64 0,.int .i64 0,.int .i64 0,.int .i64 0,.int .i64 0,.int .i64 0,.int .i64 0,.int .i64 0,.int .i64 0,.int .i64 0,.int .i64 0,.int .i64 0,.int .i64 0,.int .i64 0,.int .i64 0,.int .i64 0,.int .i64 0,.int .i64 0,.int .i64 0,.int .i64 0,.int .i64 0,.int .i64 0,.int .i64 0,.int .i64 0,.int .i64 0,.int .i64 0,.int .i64 0,(.nil 1),.atom 3,(.nil 1)]
 (.sem (.makeSlice 29 (.tmp 45) (.tmp 45)) 29 [(45,(.sc (.atom 2))),(45,(.sc (.atom 2)))] (.sc .sl) []
 (.chk [] (.some (.atom 5))
 (.store (.padd (.padd (.atom 5) 0) 37) [.atom 6]
 (.load (.padd (.padd (.atom 5) 0) 37) [.sl]
 (.sem (.call ⟨.builtin .copy,#[.tmp 54,.tmp 56],#[29,29]⟩) 3 [(54,(.sc (.atom 7))),(56,(.sc (.atom 1)))] (.sc (.int .i64)) []
 (.store (.padd (.padd (.atom 5) 0) 0) [.int .i64 6]
 (.sem (.makeSlice 115 (.tmp 64) (.tmp 64)) 115 [(64,(.sc (.len (.atom 0)))),(64,(.sc (.len (.atom 0))))] (.sc .sl) []
 (.sem (.makeSlice 116 (.tmp 68) (.tmp 68)) 116 [(68,(.sc (.len (.atom 0)))),(68,(.sc (.len (.atom 0))))] (.sc .sl) []
 (.join 9 []
 (.load (.padd (.atom 5) 39) [.sl]
 (.sem (.convert 112 9 (.tmp 144)) 9 [(144,(.sc (.atom 11)))] (.sc .str) []
 (.store (.padd (.padd (.atom 5) 0) 2) [.atom 12]
 (.load (.padd (.atom 5) 0) [.int .i64,.int .i64,.str,.int .i64,.int .i64,.int .i64,.int .i64,.int .i64,.int .i64,.int .i64,.int .i64,.int .i64,.int .i64,.int .i64,.int .i64,.int .i64,.int .i64,.int .i64,.int .i64,.int .i64,.int .i64,.int .i64,.int .i64,.int .i64,.int .i64,.int .i64,.int .i64,.int .i64,.int .i64,.int .i64,.int .i64,.int .i64,.int .i64,.int .i64,.int .i64,.int .i64,.int .i64,.sl]
 (.leaf (.ag [.atom 13,.atom 14,.atom 15,.atom 16,.atom 17,.atom 18,.atom 19,.atom 20,.atom 21,.atom 22,.atom 23,.atom 24,.atom 25,.atom 26,.atom 27,.atom 28,.atom 29,.atom 30,.atom 31,.atom 32,.atom 33,.atom 34,.atom 35,.atom 36,.atom 37,.atom 38,.atom 39,.atom 40,.atom 41,.atom 42,.atom 43,.atom 44,.atom 45,.atom 46,.atom 47,.atom 48,.atom 49,.atom 50]))))))
 (.loop 10 [] []
 (.join 12 [.bool]
 (.ite (.atom 11)
 (.load (.padd (.padd (.atom 5) 0) 4) [.int .i64]
 (.ite (.pick (.cmp .lss (.atom 12) (.int .i64 0)) (.bool true) (.cmp .geq (.atom 12) (.len (.atom 0))))
 (.store (.padd (.padd (.atom 5) 0) 0) [.int .i64 3]
 (.next 9 []))
 (.join 16 []
 (.chk [] (.inSl (.atom 9) (.atom 12))
 (.load (.elt (.atom 9) (.atom 12) 5) [.int .i64,.int .i64,.int .i64,.int .i64,.int .i64]
 (.call (.fn 66) [.sc (.atom 5),(.ag [.atom 13,.atom 14,.atom 15,.atom 16,.atom 17])] (.sc (.int .i64)) []
 (.store (.padd (.padd (.atom 5) 0) 0) [.atom 18]
 (.next 10 [])))))
 (.chk [] (.inSl (.atom 10) (.atom 12))
 (.load (.elt (.atom 10) (.atom 12) 1) [.bool]
 (.ite (.not (.atom 13))
 (.chk [] (.inSl (.atom 0) (.atom 12))
 (.load (.elt (.atom 0) (.atom 12) 1) [.int .u32]
 (.call (.fn 65) [.sc (.atom 14)] (.tu [(true,[.int .i64,.int .i64,.int .i64,.int .i64,.int .i64]),(false,[.bool])]) []
 (.ite (.not (.atom 20))
 (.store (.padd (.padd (.atom 5) 0) 0) [.int .i64 1]
 (.next 9 []))
 (.chk [] (.inSl (.atom 9) (.atom 12))
 (.store (.elt (.atom 9) (.atom 12) 5) [.atom 15,.atom 16,.atom 17,.atom 18,.atom 19]
 (.store (.elt (.atom 10) (.atom 12) 1) [.bool true]
 (.next 16 []))))))))
 (.next 16 [])))))))
 (.next 9 []))
 (.load (.padd (.padd (.atom 5) 0) 0) [.int .i64]
 (.ite (.cmp .eql (.atom 11) (.int .i64 6))
 (.load (.padd (.padd (.atom 5) 0) 3) [.int .i64]
 (.next 12 [(.cmp .lss (.atom 12) (.atom 4))]))
 (.next 12 [.bool false]))))))))))))))))
theorem zcy:execF Tryz.prog { pub:=[42],nojoin:=false } Tryz.f19=z7d:=by kernel_rfl
theorem zgo:callB Tryz.prog 19=true:=by kernel_rfl
theorem zf2:TriOf Tryz.prog 19 Tryz.f19 z7d:=triOf Tryz.func19 zcy
abbrev Z17:FuncId:=33
def zmp:Fm VE:=
 (.call (.fn 78) [.sc (.atom 0)] (.sc .bool) []
 (.ite (.not (.atom 1))
 (.leaf (.tu [(false,[.int .i64 0]),(false,[.int .i64 10])]))
 (.call (.fn 79) [.sc (.int .i64 0),.sc (.atom 0)] (.sc (.int .i64)) []
 (.leaf (.tu [(false,[.atom 2]),(false,[.int .i64 0])])))))
theorem zqx:execF Tryz.prog { pub:=[],nojoin:=false } Tryz.f33=zmp:=by kernel_rfl
theorem zyu:callB Tryz.prog 33=true:=by kernel_rfl
theorem zx8:TriOf Tryz.prog 33 Tryz.f33 zmp:=triOf Tryz.func33 zqx
abbrev zh6:FuncId:=34
def zei:Fm VE:=
 (.leaf (.sc (.ar .or .i64 (.ar .shl .i64 (.atom 0) (.int .u64 3)) (.int .i64 2))))
theorem zl6:execF Tryz.prog { pub:=[],nojoin:=false } Tryz.f34=zei:=by kernel_rfl
theorem z2x:callB Tryz.prog 34=true:=by kernel_rfl
theorem zo0:TriOf Tryz.prog 34 Tryz.f34 zei:=triOf Tryz.func34 zl6
abbrev zgz:FuncId:=37
def z6a:Fm VE:=
 (.call (.fn 13) [.sc (.int .i64 5)] (.ag [.int .i64,.int .i64,.str,.sl]) []
 (.sem (.buildSlice 36 1 #[(0,(.tmp 2))]) 36 [(2,(.ag [(.str [99,111,110,115,116]),.int .i64 0,(.nil 1),.atom 0,.atom 1,.atom 2,.atom 3,.int .i64 0]))] (.sc .sl) []
 (.sem (.buildSlice 41 1 #[(0,(.tmp 5))]) 41 [(5,(.ag [.atom 4,.int .i64 2,.int .i64 0,(.nil 1),.int .i64 0,.int .i64 0,.int .i64 0]))] (.sc .sl) []
 (.sem (.buildSlice 44 1 #[(0,(.tmp 7))]) 44 [(7,(.ag [.int .i64 0,.int .i64 0,.int .i64 1,.atom 5]))] (.sc .sl) []
 (.leaf (.ag [.atom 6]))))))
theorem zbm:execF Tryz.prog { pub:=[],nojoin:=false } Tryz.f37=z6a:=by kernel_rfl
theorem z3x:callB Tryz.prog 37=true:=by kernel_rfl
theorem ze8:TriOf Tryz.prog 37 Tryz.f37 z6a:=triOf Tryz.func37 zbm
abbrev zbn:FuncId:=45
def z4k:Fm VE:=
 (.ite (.cmp .gtr (.len (.atom 0)) (.int .i64 65536))
 (.leaf (.tu [(false,[(.nil 1)]),(false,[(.nil 1)]),(false,[.int .i64 213])]))
 (.loop 5 [.sl,.sl,.int .i64,.int .i64] [(.nil 1),(.nil 1),.int .i64 0,.int .i64 0]
 (.ite (.cmp .lss (.atom 4) (.len (.atom 0)))
 (.chk [] (.inSl (.atom 0) (.atom 4))
 (.load (.elt (.atom 0) (.atom 4) 8) [.int .i64,.int .i64,.int .i64,.int .i64,.int .i64,.int .i64,.int .i64,.int .i64]
 (.call (.fn 87) [(.ag [.atom 5,.atom 6,.atom 7,.atom 8,.atom 9,.atom 10,.atom 11,.atom 12])] (.sc .bool) []
 (.ite (.not (.atom 13))
 (.leaf (.tu [(false,[(.nil 1)]),(false,[(.nil 1)]),(false,[.int .i64 210])]))
 (.join 11 [.bool]
 (.ite (.atom 14)
 (.leaf (.tu [(false,[(.nil 1)]),(false,[(.nil 1)]),(false,[.int .i64 211])]))
 (.next 5 [.atom 1,.atom 2,.atom 3,(.ar .add .i64 (.atom 4) (.int .i64 1))]))
 (.load (.padd (.elt (.atom 0) (.atom 4) 8) 0) [.int .i64]
 (.chk [((.cmp .eql (.atom 14) (.int .i64 1)),true)] (.sub (.cap (.atom 0)) (.int .i64 0) (.atom 4))
 (.ite (.cmp .eql (.atom 14) (.int .i64 1))
 (.load (.padd (.elt (.atom 0) (.atom 4) 8) 6) [.int .i64]
 (.call (.fn 88) [(.sc (.sls (.atom 0) (.int .i64 0) (.atom 4) 8)),.sc (.atom 15)] (.sc (.int .i64)) []
 (.next 11 [(.cmp .geq (.atom 16) (.int .i64 0))])))
 (.next 11 [.bool false])))))))))
 (.loop 10 [.sl,.sl,.int .i64,.int .i64] [.atom 1,.atom 2,.atom 3,.int .i64 0]
 (.ite (.cmp .lss (.atom 8) (.len (.atom 0)))
 (.join 14 [.bool]
 (.ite (.atom 9)
 (.leaf (.tu [(false,[(.nil 1)]),(false,[(.nil 1)]),(false,[.int .i64 212])]))
 (.next 10 [.atom 5,.atom 6,.atom 7,(.ar .add .i64 (.atom 8) (.int .i64 1))]))
 (.chk [] (.inSl (.atom 0) (.atom 8))
 (.load (.elt (.atom 0) (.atom 8) 8) [.int .i64,.int .i64,.int .i64,.int .i64,.int .i64,.int .i64,.int .i64,.int .i64]
 (.call (.fn 89) [(.ag [.atom 9,.atom 10,.atom 11,.atom 12,.atom 13,.atom 14,.atom 15,.atom 16])] (.sc .bool) []
 (.ite (.atom 17)
 (.load (.padd (.elt (.atom 0) (.atom 8) 8) 6) [.int .i64]
 (.call (.fn 88) [.sc (.atom 0),.sc (.atom 18)] (.sc (.int .i64)) []
 (.next 14 [(.cmp .lss (.atom 19) (.int .i64 0))])))
 (.next 14 [.bool false]))))))
 (.call (.fn 90) [.sc (.atom 0)] (.tu [(false,[.sl]),(false,[.sl])]) []
 (.sem (.buildSlice 53 0 #[]) 53 [] (.sc .sl) []
 (.loop 17 [.sl,.int .i64] [.atom 11,.int .i64 0]
 (.ite (.cmp .lss (.atom 13) (.len (.atom 0)))
 (.join 22 [.int .i64]
 (.chk [] (.inSl (.atom 0) (.atom 13))
 (.load (.elt (.atom 0) (.atom 13) 8) [.int .i64,.int .i64,.int .i64,.int .i64,.int .i64,.int .i64,.int .i64,.int .i64]
 (.chk [] (.inSl (.atom 9) (.atom 13))
 (.load (.elt (.atom 9) (.atom 13) 1) [.bool]
 (.chk [] (.inSl (.atom 10) (.atom 13))
 (.load (.elt (.atom 10) (.atom 13) 1) [.int .i64]
 (.call (.fn 91) [(.ag [.atom 15,.atom 16,.atom 17,.atom 18,.atom 19,.atom 20,.atom 21,.atom 22]),.sc (.atom 23),.sc (.atom 24),.sc (.atom 14)] (.sc .sl) []
 (.loop 25 [.sl,.int .i64] [.atom 12,.int .i64 0]
 (.ite (.cmp .lss (.atom 27) (.len (.atom 25)))
 (.chk [] (.inSl (.atom 25) (.atom 27))
 (.load (.elt (.atom 25) (.atom 27) 5) [.int .i64,.int .i64,.int .i64,.int .i64,.int .i64]
 (.call (.fn 92) [(.ag [.atom 28,.atom 29,.atom 30,.atom 31,.atom 32])] (.tu [(false,[.int .u32]),(false,[.int .i64])]) []
 (.sem (.buildSlice 53 1 #[(0,(.tmp 126))]) 53 [(126,(.sc (.atom 33)))] (.sc .sl) []
 (.sem (.call ⟨.builtin .append,#[.tmp 125,.tmp 127],#[53,53]⟩) 53 [(125,(.sc (.atom 26))),(127,(.sc (.atom 35)))] (.sc .sl) []
 (.next 25 [.atom 36,(.ar .add .i64 (.atom 27) (.int .i64 1))]))))))
 (.next 17 [.atom 26,(.ar .add .i64 (.atom 13) (.int .i64 1))]))))))))))
 (.chk [] (.inSl (.atom 0) (.atom 13))
 (.load (.elt (.atom 0) (.atom 13) 8) [.int .i64,.int .i64,.int .i64,.int .i64,.int .i64,.int .i64,.int .i64,.int .i64]
 (.call (.fn 89) [(.ag [.atom 14,.atom 15,.atom 16,.atom 17,.atom 18,.atom 19,.atom 20,.atom 21])] (.sc .bool) []
 (.ite (.atom 22)
 (.load (.padd (.elt (.atom 0) (.atom 13) 8) 6) [.int .i64]
 (.call (.fn 88) [.sc (.atom 0),.sc (.atom 23)] (.sc (.int .i64)) []
 (.chk [] (.inSl (.atom 10) (.atom 24))
 (.load (.elt (.atom 10) (.atom 24) 1) [.int .i64]
 (.next 22 [.atom 25])))))
 (.next 22 [.int .i64 0]))))))
 (.chk [] (.sub (.cap (.atom 10)) (.int .i64 0) (.len (.atom 0)))
 (.leaf (.tu [(false,[.atom 12]),(false,[(.sls (.atom 10) (.int .i64 0) (.len (.atom 0)) 1)]),(false,[.int .i64 0])]))))))))))))
theorem z97:execF Tryz.prog { pub:=[],nojoin:=false } Tryz.f45=z4k:=by kernel_rfl
theorem zaj:callB Tryz.prog 45=true:=by kernel_rfl
theorem za8:TriOf Tryz.prog 45 Tryz.f45 z4k:=triOf Tryz.func45 z97
abbrev ze3:FuncId:=65
def z5b:Fm VE:=
 (.call (.fn 100) [] (.sc .sl) []
 (.ite (.cmp .geq (.ar .quo .i64 (.conv .i64 (.atom 0)) (.int .i64 67108864)) (.len (.atom 1)))
 (.leaf (.tu [(true,[.int .i64 0,.int .i64 0,.int .i64 0,.int .i64 0,.int .i64 0]),(false,[.bool false])]))
 (.chk [] (.inSl (.atom 1) (.ar .quo .i64 (.conv .i64 (.atom 0)) (.int .i64 67108864)))
 (.load (.elt (.atom 1) (.ar .quo .i64 (.conv .i64 (.atom 0)) (.int .i64 67108864)) 6) [.bool,.bool,.bool,.int .u64,.int .i64,.int .i64]
 (.join 12 [.int .i64,.int .i64,.int .i64,.int .i64,.int .i64]
 (.call (.fn 92) [(.ag [.atom 8,.atom 9,.atom 10,.atom 11,.atom 12])] (.tu [(false,[.int .u32]),(false,[.int .i64])]) []
 (.ite (.pick (.cmp .neq (.atom 14) (.int .i64 0)) (.bool true) (.cmp .neq (.atom 13) (.atom 0)))
 (.leaf (.tu [(true,[.int .i64 0,.int .i64 0,.int .i64 0,.int .i64 0,.int .i64 0]),(false,[.bool false])]))
 (.leaf (.tu [(true,[.atom 8,.atom 9,.atom 10,.atom 11,.atom 12]),(false,[.bool true])]))))
 (.ite (.cmp .gtr (.atom 5) (.int .u64 0))
 (.chk [] (.nneg (.atom 5))
 (.chk [] (.nz (.ar .shl .i64 (.int .i64 1) (.atom 5)))
 (.ite (.pick (.cmp .gtr (.ar .rem .i64 (.conv .i64 (.atom 0)) (.ar .shl .i64 (.int .i64 1) (.atom 5))) (.atom 7)) (.cmp .lss (.atom 6) (.int .i64 0)) (.bool false))
 (.chk [] (.nneg (.atom 5))
 (.next 12 [(.ar .quo .i64 (.conv .i64 (.atom 0)) (.int .i64 67108864)),(.ar .rem .i64 (.ar .quo .i64 (.conv .i64 (.atom 0)) (.int .i64 2097152)) (.int .i64 32)),(.pick (.atom 3) (.ar .rem .i64 (.ar .quo .i64 (.conv .i64 (.atom 0)) (.int .i64 65536)) (.int .i64 32)) (.int .i64 0)),(.pick (.atom 4) (.ar .rem .i64 (.ar .quo .i64 (.conv .i64 (.atom 0)) (.int .i64 2048)) (.int .i64 32)) (.int .i64 0)),(.ar .sub .i64 (.ar .rem .i64 (.conv .i64 (.atom 0)) (.ar .shl .i64 (.int .i64 1) (.atom 5))) (.ar .shl .i64 (.int .i64 1) (.atom 5)))]))
 (.next 12 [(.ar .quo .i64 (.conv .i64 (.atom 0)) (.int .i64 67108864)),(.ar .rem .i64 (.ar .quo .i64 (.conv .i64 (.atom 0)) (.int .i64 2097152)) (.int .i64 32)),(.pick (.atom 3) (.ar .rem .i64 (.ar .quo .i64 (.conv .i64 (.atom 0)) (.int .i64 65536)) (.int .i64 32)) (.int .i64 0)),(.pick (.atom 4) (.ar .rem .i64 (.ar .quo .i64 (.conv .i64 (.atom 0)) (.int .i64 2048)) (.int .i64 32)) (.int .i64 0)),(.ar .rem .i64 (.conv .i64 (.atom 0)) (.ar .shl .i64 (.int .i64 1) (.atom 5)))]))))
 (.next 12 [(.ar .quo .i64 (.conv .i64 (.atom 0)) (.int .i64 67108864)),(.ar .rem .i64 (.ar .quo .i64 (.conv .i64 (.atom 0)) (.int .i64 2097152)) (.int .i64 32)),(.pick (.atom 3) (.ar .rem .i64 (.ar .quo .i64 (.conv .i64 (.atom 0)) (.int .i64 65536)) (.int .i64 32)) (.int .i64 0)),(.pick (.atom 4) (.ar .rem .i64 (.ar .quo .i64 (.conv .i64 (.atom 0)) (.int .i64 2048)) (.int .i64 32)) (.int .i64 0)),.int .i64 0])))))))
theorem zae:execF Tryz.prog { pub:=[],nojoin:=false } Tryz.f65=z5b:=by kernel_rfl
theorem zd4:callB Tryz.prog 65=true:=by kernel_rfl
theorem zbd:TriOf Tryz.prog 65 Tryz.f65 z5b:=triOf Tryz.func65 zae
abbrev z8n:FuncId:=66
def z3k:Fm VE:=
 (.chk [] (.some (.atom 0))
 (.sem (.indexAddr 59 (.tmp 16) (.tmp 13)) 0 [(16,(.sc (.padd (.padd (.atom 0) 0) 5))),(13,(.sc (.atom 2)))] (.sc .ptr) []
 (.load (.atom 6) [.int .i64]
 (.sem (.indexAddr 59 (.tmp 24) (.tmp 21)) 0 [(24,(.sc (.padd (.padd (.atom 0) 0) 5))),(21,(.sc (.atom 3)))] (.sc .ptr) []
 (.load (.atom 8) [.int .i64]
 (.load (.padd (.padd (.atom 0) 0) 4) [.int .i64]
 (.join 6 [.int .i64,.bool,.int .i64]
 (.join 7 []
 (.store (.padd (.padd (.atom 0) 0) 4) [.atom 13]
 (.load (.padd (.padd (.atom 0) 0) 3) [.int .i64]
 (.store (.padd (.padd (.atom 0) 0) 3) [(.ar .add .i64 (.atom 14) (.int .i64 1))]
 (.leaf (.sc (.int .i64 6))))))
 (.ite (.pick (.atom 12) (.cmp .neq (.atom 2) (.int .i64 0)) (.bool false))
 (.sem (.indexAddr 59 (.tmp 287) (.tmp 283)) 0 [(287,(.sc (.padd (.padd (.atom 0) 0) 5))),(283,(.sc (.atom 2)))] (.sc .ptr) []
 (.store (.atom 14) [.atom 11]
 (.next 7 [])))
 (.next 7 [])))
 (.ite (.cmp .eql (.atom 1) (.int .i64 0))
 (.store (.padd (.padd (.atom 0) 0) 1) [.atom 7]
 (.load (.padd (.padd (.atom 0) 0) 3) [.int .i64]
 (.store (.padd (.padd (.atom 0) 0) 3) [(.ar .add .i64 (.atom 11) (.int .i64 1))]
 (.leaf (.sc (.int .i64 0))))))
 (.ite (.pick (.cmp .eql (.atom 1) (.int .i64 5)) (.cmp .eql (.atom 1) (.int .i64 5)) (.cmp .eql (.atom 1) (.int .i64 6)))
 (.sem (.indexAddr 59 (.tmp 71) (.tmp 68)) 0 [(71,(.sc (.padd (.padd (.atom 0) 0) 5))),(68,(.sc (.atom 4)))] (.sc .ptr) []
 (.load (.atom 11) [.int .i64]
 (.ite (.cmp .eql (.atom 12) (.int .i64 0))
 (.leaf (.sc (.int .i64 4)))
 (.sem (.indexAddr 59 (.tmp 83) (.tmp 80)) 0 [(83,(.sc (.padd (.padd (.atom 0) 0) 5))),(80,(.sc (.atom 4)))] (.sc .ptr) []
 (.load (.atom 13) [.int .i64]
 (.call (.fn 101) [.sc (.atom 1),.sc (.atom 9),.sc (.atom 14)] (.sc (.int .i64)) []
 (.next 6 [.atom 15,.bool true,(.ar .add .i64 (.atom 10) (.int .i64 1))])))))))
 (.ite (.cmp .eql (.atom 1) (.int .i64 15))
 (.next 6 [(.ar .add .i64 (.atom 9) (.atom 5)),.bool true,(.ar .add .i64 (.atom 10) (.int .i64 1))])
 (.ite (.cmp .eql (.atom 1) (.int .i64 16))
 (.next 6 [(.ar .and .i64 (.atom 9) (.atom 5)),.bool true,(.ar .add .i64 (.atom 10) (.int .i64 1))])
 (.ite (.cmp .eql (.atom 1) (.int .i64 17))
 (.next 6 [(.ar .or .i64 (.atom 9) (.atom 5)),.bool true,(.ar .add .i64 (.atom 10) (.int .i64 1))])
 (.ite (.cmp .eql (.atom 1) (.int .i64 18))
 (.next 6 [(.ar .shl .i64 (.atom 9) (.conv .u64 (.atom 5))),.bool true,(.ar .add .i64 (.atom 10) (.int .i64 1))])
 (.ite (.cmp .eql (.atom 1) (.int .i64 19))
 (.next 6 [(.ar .shr .i64 (.atom 9) (.conv .u64 (.atom 5))),.bool true,(.ar .add .i64 (.atom 10) (.int .i64 1))])
 (.ite (.cmp .eql (.atom 1) (.int .i64 20))
 (.next 6 [.atom 5,.bool true,(.ar .add .i64 (.atom 10) (.int .i64 1))])
 (.ite (.cmp .eql (.atom 1) (.int .i64 21))
 (.next 6 [(.ar .or .i64 (.ar .mul .i64 (.atom 7) (.int .i64 65536)) (.atom 5)),.bool true,(.ar .add .i64 (.atom 10) (.int .i64 1))])
 (.ite (.pick (.cmp .eql (.atom 1) (.int .i64 22)) (.cmp .eql (.atom 1) (.int .i64 22)) (.cmp .eql (.atom 1) (.int .i64 23)))
 (.join 22 [.bool]
 (.ite (.atom 11)
 (.leaf (.sc (.int .i64 2)))
 (.ite (.cmp .eql (.atom 1) (.int .i64 23))
 (.load (.padd (.padd (.atom 0) 0) 37) [.sl]
 (.chk [] (.inSl (.atom 12) (.ar .add .i64 (.atom 9) (.atom 5)))
 (.store (.elt (.atom 12) (.ar .add .i64 (.atom 9) (.atom 5)) 1) [.atom 7]
 (.next 6 [.int .i64 0,.bool false,(.ar .add .i64 (.atom 10) (.int .i64 1))]))))
 (.load (.padd (.padd (.atom 0) 0) 37) [.sl]
 (.chk [] (.inSl (.atom 12) (.ar .add .i64 (.atom 9) (.atom 5)))
 (.load (.elt (.atom 12) (.ar .add .i64 (.atom 9) (.atom 5)) 1) [.int .i64]
 (.next 6 [.atom 13,.bool true,(.ar .add .i64 (.atom 10) (.int .i64 1))]))))))
 (.ite (.cmp .lss (.ar .add .i64 (.atom 9) (.atom 5)) (.int .i64 0))
 (.next 22 [.bool true])
 (.load (.padd (.padd (.atom 0) 0) 37) [.sl]
 (.next 22 [(.cmp .geq (.ar .add .i64 (.atom 9) (.atom 5)) (.len (.atom 11)))]))))
 (.join 20 [.bool]
 (.ite (.atom 11)
 (.ite (.pick (.pick (.pick (.pick (.cmp .eql (.atom 1) (.int .i64 24)) (.cmp .eql (.atom 7) (.atom 9)) (.bool false)) (.bool true) (.pick (.cmp .eql (.atom 1) (.int .i64 25)) (.cmp .neq (.atom 7) (.atom 9)) (.bool false))) (.bool true) (.pick (.cmp .eql (.atom 1) (.int .i64 26)) (.cmp .lss (.atom 7) (.atom 9)) (.bool false))) (.bool true) (.pick (.cmp .eql (.atom 1) (.int .i64 27)) (.cmp .geq (.atom 7) (.atom 9)) (.bool false)))
 (.load (.padd (.padd (.atom 0) 0) 4) [.int .i64]
 (.next 6 [.int .i64 0,.bool false,(.ar .add .i64 (.atom 12) (.atom 5))]))
 (.next 6 [.int .i64 0,.bool false,(.ar .add .i64 (.atom 10) (.int .i64 1))]))
 (.ite (.cmp .eql (.atom 1) (.int .i64 28))
 (.load (.padd (.padd (.atom 0) 0) 4) [.int .i64]
 (.next 6 [(.ar .add .i64 (.atom 10) (.int .i64 1)),.bool true,(.ar .add .i64 (.atom 12) (.atom 5))]))
 (.ite (.cmp .eql (.atom 1) (.int .i64 29))
 (.next 6 [(.ar .add .i64 (.atom 10) (.int .i64 1)),.bool true,.atom 9])
 (.ite (.cmp .eql (.atom 1) (.int .i64 30))
 (.load (.padd (.atom 0) 38) [.str]
 (.ite (.cmp .gtr (.slen (.atom 12)) (.int .i64 0))
 (.load (.padd (.atom 0) 38) [.str]
 (.chk [] (.inStr (.atom 13) (.int .i64 0))
 (.load (.padd (.atom 0) 38) [.str]
 (.chk [] (.sub (.slen (.atom 14)) (.int .i64 1) (.slen (.atom 14)))
 (.store (.padd (.atom 0) 38) [(.ssub (.atom 14) (.int .i64 1) (.slen (.atom 14)))]
 (.next 6 [(.conv .i64 (.sidx (.atom 13) (.int .i64 0))),.bool true,(.ar .add .i64 (.atom 10) (.int .i64 1))]))))))
 (.next 6 [(.int .i64 (-1)),.bool true,(.ar .add .i64 (.atom 10) (.int .i64 1))])))
 (.ite (.cmp .eql (.atom 1) (.int .i64 31))
 (.ite (.pick (.cmp .lss (.atom 7) (.int .i64 0)) (.bool true) (.cmp .gtr (.atom 7) (.int .i64 255)))
 (.leaf (.sc (.int .i64 5)))
 (.load (.padd (.atom 0) 39) [.sl]
 (.sem (.buildSlice 112 1 #[(0,(.tmp 270))]) 112 [(270,(.sc (.conv .u8 (.atom 7))))] (.sc .sl) []
 (.sem (.call ⟨.builtin .append,#[.tmp 268,.tmp 271],#[112,112]⟩) 112 [(268,(.sc (.atom 12))),(271,(.sc (.atom 13)))] (.sc .sl) []
 (.store (.padd (.atom 0) 39) [.atom 14]
 (.next 6 [.int .i64 0,.bool false,(.ar .add .i64 (.atom 10) (.int .i64 1))]))))))
 (.sem (.indexAddr 59 (.tmp 43) (.tmp 40)) 0 [(43,(.sc (.padd (.padd (.atom 0) 0) 5))),(40,(.sc (.atom 4)))] (.sc .ptr) []
 (.load (.atom 12) [.int .i64]
 (.call (.fn 101) [.sc (.atom 1),.sc (.atom 9),.sc (.atom 13)] (.sc (.int .i64)) []
 (.next 6 [.atom 14,.bool true,(.ar .add .i64 (.atom 10) (.int .i64 1))])))))))))
 (.ite (.cmp .eql (.atom 1) (.int .i64 24))
 (.next 20 [(.cmp .eql (.atom 1) (.int .i64 24))])
 (.ite (.cmp .eql (.atom 1) (.int .i64 25))
 (.next 20 [(.cmp .eql (.atom 1) (.int .i64 25))])
 (.next 20 [(.pick (.cmp .eql (.atom 1) (.int .i64 26)) (.cmp .eql (.atom 1) (.int .i64 26)) (.cmp .eql (.atom 1) (.int .i64 27)))])))))))))))))))))))))
theorem z62:execF Tryz.prog { pub:=[],nojoin:=false } Tryz.f66=z3k:=by kernel_rfl
theorem z8c:callB Tryz.prog 66=true:=by kernel_rfl
theorem z79:TriOf Tryz.prog 66 Tryz.f66 z3k:=triOf Tryz.func66 z62
abbrev zoc:FuncId:=78
def zcq:Fm VE:=
 (.leaf (.sc (.pick (.cmp .geq (.atom 0) (.int .i64 (-1152921504606846976))) (.cmp .leq (.atom 0) (.int .i64 1152921504606846975)) (.bool false))))
theorem zk3:execF Tryz.prog { pub:=[],nojoin:=false } Tryz.f78=zcq:=by kernel_rfl
theorem zn5:callB Tryz.prog 78=true:=by kernel_rfl
theorem zm4:TriOf Tryz.prog 78 Tryz.f78 zcq:=triOf Tryz.func78 zk3
def zmn:Fm VE:=
 (.leaf (.sc (.ar .or .i64 (.ar .shl .i64 (.atom 1) (.int .u64 3)) (.atom 0))))
theorem zs7:execF Tryz.prog { pub:=[],nojoin:=false } Tryz.f79=zmn:=by kernel_rfl
theorem zy1:callB Tryz.prog 79=true:=by kernel_rfl
theorem zxj:TriOf Tryz.prog 79 Tryz.f79 zmn:=triOf Tryz.func79 zs7
abbrev zi0:FuncId:=87
def z7l:Fm VE:=
 (.call (.fn 92) [(.ag [.atom 1,.atom 2,.atom 3,.atom 4,.atom 5])] (.tu [(false,[.int .u32]),(false,[.int .i64])]) []
 (.ite (.cmp .eql (.atom 0) (.int .i64 0))
 (.leaf (.sc (.pick (.pick (.cmp .eql (.atom 9) (.int .i64 0)) (.cmp .eql (.atom 6) (.int .i64 0)) (.bool false)) (.cmp .eql (.atom 7) (.int .i64 0)) (.bool false))))
 (.ite (.cmp .eql (.atom 0) (.int .i64 1))
 (.sem (.binOp .eql 118 (.tmp 31) (.tmp 32) 118) 4 [(31,(.ag [.atom 1,.atom 2,.atom 3,.atom 4,.atom 5])),(32,(.ag [.int .i64 0,.int .i64 0,.int .i64 0,.int .i64 0,.int .i64 0]))] (.sc .bool) []
 (.leaf (.sc (.pick (.atom 10) (.cmp .eql (.atom 7) (.int .i64 0)) (.bool false)))))
 (.ite (.cmp .eql (.atom 0) (.int .i64 2))
 (.leaf (.sc (.pick (.pick (.pick (.pick (.cmp .eql (.atom 9) (.int .i64 0)) (.cmp .geq (.atom 1) (.int .i64 24)) (.bool false)) (.cmp .leq (.atom 1) (.int .i64 27)) (.bool false)) (.cmp .eql (.atom 5) (.int .i64 0)) (.bool false)) (.cmp .eql (.atom 7) (.int .i64 0)) (.bool false))))
 (.ite (.cmp .eql (.atom 0) (.int .i64 3))
 (.leaf (.sc (.pick (.pick (.pick (.cmp .eql (.atom 9) (.int .i64 0)) (.cmp .eql (.atom 1) (.int .i64 28)) (.bool false)) (.cmp .eql (.atom 5) (.int .i64 0)) (.bool false)) (.cmp .eql (.atom 7) (.int .i64 0)) (.bool false))))
 (.ite (.cmp .eql (.atom 0) (.int .i64 4))
 (.leaf (.sc (.pick (.pick (.pick (.cmp .eql (.atom 9) (.int .i64 0)) (.cmp .eql (.atom 1) (.int .i64 20)) (.bool false)) (.cmp .eql (.atom 5) (.int .i64 0)) (.bool false)) (.cmp .eql (.atom 6) (.int .i64 0)) (.bool false))))
 (.ite (.cmp .eql (.atom 0) (.int .i64 5))
 (.leaf (.sc (.pick (.pick (.pick (.cmp .eql (.atom 9) (.int .i64 0)) (.cmp .eql (.atom 1) (.int .i64 20)) (.bool false)) (.cmp .eql (.atom 5) (.int .i64 0)) (.bool false)) (.cmp .eql (.atom 7) (.int .i64 0)) (.bool false))))
 (.leaf (.sc (.bool false))))))))))
theorem zcg:execF Tryz.prog { pub:=[],nojoin:=false } Tryz.f87=z7l:=by kernel_rfl
theorem zgc:callB Tryz.prog 87=true:=by kernel_rfl
theorem zfh:TriOf Tryz.prog 87 Tryz.f87 z7l:=triOf Tryz.func87 zcg
abbrev zgy:FuncId:=88
def z69:Fm VE:=
 (.loop 3 [.int .i64,.int .i64] [.int .i64 0,.int .i64 0]
 (.ite (.cmp .lss (.atom 3) (.len (.atom 0)))
 (.join 7 [.bool]
 (.ite (.atom 4)
 (.leaf (.sc (.atom 3)))
 (.next 3 [.atom 2,(.ar .add .i64 (.atom 3) (.int .i64 1))]))
 (.chk [] (.inSl (.atom 0) (.atom 3))
 (.load (.padd (.elt (.atom 0) (.atom 3) 8) 0) [.int .i64]
 (.ite (.cmp .eql (.atom 4) (.int .i64 1))
 (.load (.padd (.elt (.atom 0) (.atom 3) 8) 6) [.int .i64]
 (.next 7 [(.cmp .eql (.atom 5) (.atom 1))]))
 (.next 7 [.bool false])))))
 (.leaf (.sc (.int .i64 (-1))))))
theorem zb5:execF Tryz.prog { pub:=[],nojoin:=false } Tryz.f88=z69:=by kernel_rfl
theorem z2r:callB Tryz.prog 88=true:=by kernel_rfl
theorem ze4:TriOf Tryz.prog 88 Tryz.f88 z69:=triOf Tryz.func88 zb5
abbrev zf1:FuncId:=89
def z5z:Fm VE:=
 (.leaf (.sc (.pick (.pick (.cmp .eql (.atom 0) (.int .i64 2)) (.bool true) (.cmp .eql (.atom 0) (.int .i64 3))) (.bool true) (.cmp .eql (.atom 0) (.int .i64 5)))))
theorem zau:execF Tryz.prog { pub:=[],nojoin:=false } Tryz.f89=z5z:=by kernel_rfl
theorem z3l:callB Tryz.prog 89=true:=by kernel_rfl
theorem zc5:TriOf Tryz.prog 89 Tryz.f89 z5z:=triOf Tryz.func89 zau
abbrev zdj:FuncId:=90
def z5i:Fm VE:=
 (.sem (.makeSlice 116 (.tmp 12) (.tmp 12)) 116 [(12,(.sc (.len (.atom 0)))),(12,(.sc (.len (.atom 0))))] (.sc .sl) []
 (.sem (.makeSlice 29 (.tmp 15) (.tmp 15)) 29 [(15,(.sc (.len (.atom 0)))),(15,(.sc (.len (.atom 0))))] (.sc .sl) []
 (.loop 5 [.int .i64] [.int .i64 0]
 (.ite (.cmp .lss (.atom 3) (.len (.atom 0)))
 (.join 8 []
 (.next 5 [(.ar .add .i64 (.atom 3) (.int .i64 1))])
 (.chk [] (.inSl (.atom 0) (.atom 3))
 (.load (.elt (.atom 0) (.atom 3) 8) [.int .i64,.int .i64,.int .i64,.int .i64,.int .i64,.int .i64,.int .i64,.int .i64]
 (.call (.fn 89) [(.ag [.atom 4,.atom 5,.atom 6,.atom 7,.atom 8,.atom 9,.atom 10,.atom 11])] (.sc .bool) []
 (.ite (.atom 12)
 (.load (.padd (.elt (.atom 0) (.atom 3) 8) 6) [.int .i64]
 (.call (.fn 88) [.sc (.atom 0),.sc (.atom 13)] (.sc (.int .i64)) []
 (.chk [] (.inSl (.atom 2) (.atom 3))
 (.store (.elt (.atom 2) (.atom 3) 1) [.atom 14]
 (.next 8 [])))))
 (.next 8 []))))))
 (.loop 8 [.sl,.sl] [(.nil 1),(.nil 1)]
 (.call (.fn 147) [.sc (.atom 0),.sc (.atom 1)] (.sc .sl) []
 (.loop 13 [.bool,.int .i64] [.bool false,.int .i64 0]
 (.ite (.cmp .lss (.atom 8) (.len (.atom 0)))
 (.join 16 [.bool]
 (.next 13 [.atom 9,(.ar .add .i64 (.atom 8) (.int .i64 1))])
 (.join 18 [.bool]
 (.ite (.atom 9)
 (.next 16 [.atom 7])
 (.chk [] (.inSl (.atom 2) (.atom 8))
 (.load (.elt (.atom 2) (.atom 8) 1) [.int .i64]
 (.chk [] (.inSl (.atom 6) (.atom 10))
 (.load (.elt (.atom 6) (.atom 10) 1) [.int .i64]
 (.chk [] (.inSl (.atom 6) (.atom 8))
 (.load (.elt (.atom 6) (.atom 8) 1) [.int .i64]
 (.ite (.pick (.cmp .lss (.ar .sub .i64 (.atom 11) (.atom 12)) (.int .i64 (-512))) (.bool true) (.cmp .gtr (.ar .sub .i64 (.atom 11) (.atom 12)) (.int .i64 511)))
 (.chk [] (.inSl (.atom 1) (.atom 8))
 (.store (.elt (.atom 1) (.atom 8) 1) [.bool true]
 (.next 16 [.bool true])))
 (.next 16 [.atom 7])))))))))
 (.chk [] (.inSl (.atom 0) (.atom 8))
 (.load (.padd (.elt (.atom 0) (.atom 8) 8) 0) [.int .i64]
 (.chk [((.cmp .neq (.atom 9) (.int .i64 2)),false)] (.inSl (.atom 1) (.atom 8))
 (.ite (.cmp .neq (.atom 9) (.int .i64 2))
 (.next 18 [.bool true])
 (.load (.elt (.atom 1) (.atom 8) 1) [.bool]
 (.next 18 [.atom 10]))))))))
 (.ite (.not (.atom 7))
 (.leaf (.tu [(false,[.atom 1]),(false,[.atom 6])]))
 (.next 8 [.atom 4,.atom 5]))))))))))
theorem zaf:execF Tryz.prog { pub:=[],nojoin:=false } Tryz.f90=z5i:=by kernel_rfl
theorem zcz:callB Tryz.prog 90=true:=by kernel_rfl
theorem zbc:TriOf Tryz.prog 90 Tryz.f90 z5i:=triOf Tryz.func90 zaf
abbrev zdw:FuncId:=91
def z5c:Fm VE:=
 (.sem (.buildSlice 29 4 #[(0,(.const (.int .i64 25))),(1,(.const (.int .i64 24))),(2,(.const (.int .i64 27))),(3,(.const (.int .i64 26)))]) 29 [] (.sc .sl) []
 (.ite (.cmp .eql (.atom 0) (.int .i64 0))
 (.sem (.buildSlice 115 1 #[(0,(.tmp 18))]) 115 [(18,(.ag [.atom 1,.atom 2,.atom 3,.atom 4,.atom 5]))] (.sc .sl) []
 (.leaf (.sc (.atom 12))))
 (.ite (.cmp .eql (.atom 0) (.int .i64 2))
 (.ite (.atom 8)
 (.chk [] (.inSl (.atom 11) (.ar .sub .i64 (.atom 1) (.int .i64 24)))
 (.load (.elt (.atom 11) (.ar .sub .i64 (.atom 1) (.int .i64 24)) 1) [.int .i64]
 (.sem (.buildSlice 115 2 #[(0,(.tmp 33)),(1,(.tmp 38))]) 115 [(33,(.ag [.atom 12,.atom 2,.atom 3,.int .i64 0,.int .i64 2])),(38,(.ag [.int .i64 28,.int .i64 0,.int .i64 0,.int .i64 0,(.ar .sub .i64 (.ar .sub .i64 (.atom 10) (.atom 9)) (.int .i64 1))]))] (.sc .sl) []
 (.leaf (.sc (.atom 13))))))
 (.sem (.buildSlice 115 1 #[(0,(.tmp 49))]) 115 [(49,(.ag [.atom 1,.atom 2,.atom 3,.int .i64 0,(.ar .sub .i64 (.atom 10) (.atom 9))]))] (.sc .sl) []
 (.leaf (.sc (.atom 12)))))
 (.ite (.cmp .eql (.atom 0) (.int .i64 3))
 (.sem (.buildSlice 115 1 #[(0,(.tmp 58))]) 115 [(58,(.ag [.int .i64 28,.atom 2,.int .i64 0,.int .i64 0,(.ar .sub .i64 (.atom 10) (.atom 9))]))] (.sc .sl) []
 (.leaf (.sc (.atom 12))))
 (.ite (.cmp .eql (.atom 0) (.int .i64 4))
 (.call (.fn 149) [.sc (.atom 7)] (.sc (.int .i64)) []
 (.call (.fn 148) [.sc (.atom 2),.sc (.atom 7),.sc (.atom 12)] (.sc .sl) []
 (.leaf (.sc (.atom 13)))))
 (.ite (.cmp .eql (.atom 0) (.int .i64 5))
 (.call (.fn 148) [.sc (.atom 2),.sc (.atom 10),.sc (.int .i64 2)] (.sc .sl) []
 (.leaf (.sc (.atom 12))))
 (.leaf (.sc (.nil 1)))))))))
theorem za2:execF Tryz.prog { pub:=[],nojoin:=false } Tryz.f91=z5c:=by kernel_rfl
theorem zd8:callB Tryz.prog 91=true:=by kernel_rfl
theorem zbt:TriOf Tryz.prog 91 Tryz.f91 z5c:=triOf Tryz.func91 za2
abbrev ze9:FuncId:=92
def z5a:Fm VE:=
 (.call (.fn 100) [] (.sc .sl) []
 (.ite (.pick (.cmp .lss (.atom 0) (.int .i64 0)) (.bool true) (.cmp .geq (.atom 0) (.len (.atom 5))))
 (.leaf (.tu [(false,[.int .u32 0]),(false,[.int .i64 200])]))
 (.chk [] (.inSl (.atom 5) (.atom 0))
 (.load (.elt (.atom 5) (.atom 0) 6) [.bool,.bool,.bool,.int .u64,.int .i64,.int .i64]
 (.join 6 [.bool]
 (.ite (.atom 12)
 (.leaf (.tu [(false,[.int .u32 0]),(false,[.int .i64 200])]))
 (.join 8 [.int .i64]
 (.leaf (.tu [(false,[(.conv .u32 (.ar .add .i64 (.ar .add .i64 (.ar .add .i64 (.ar .add .i64 (.ar .mul .i64 (.atom 0) (.int .i64 67108864)) (.ar .mul .i64 (.atom 1) (.int .i64 2097152))) (.ar .mul .i64 (.atom 2) (.int .i64 65536))) (.ar .mul .i64 (.atom 3) (.int .i64 2048))) (.atom 13)))]),(false,[.int .i64 0])]))
 (.ite (.cmp .lss (.atom 4) (.int .i64 0))
 (.chk [] (.nneg (.atom 9))
 (.next 8 [(.ar .add .i64 (.atom 4) (.ar .shl .i64 (.int .i64 1) (.atom 9)))]))
 (.next 8 [.atom 4]))))
 (.call (.fn 150) [.sc (.atom 1),.sc (.atom 6)] (.sc .bool) []
 (.ite (.not (.atom 12))
 (.next 6 [.bool true])
 (.call (.fn 150) [.sc (.atom 2),.sc (.atom 7)] (.sc .bool) []
 (.ite (.not (.atom 13))
 (.next 6 [.bool true])
 (.call (.fn 150) [.sc (.atom 3),.sc (.atom 8)] (.sc .bool) []
 (.next 6 [(.pick (.pick (.not (.atom 14)) (.bool true) (.cmp .lss (.atom 4) (.atom 10))) (.bool true) (.cmp .gtr (.atom 4) (.atom 11)))])))))))))))
theorem za7:execF Tryz.prog { pub:=[],nojoin:=false } Tryz.f92=z5a:=by kernel_rfl
theorem z3e:callB Tryz.prog 92=true:=by kernel_rfl
theorem zb7:TriOf Tryz.prog 92 Tryz.f92 z5a:=triOf Tryz.func92 za7
abbrev zgr:FuncId:=100
def z6f:Fm VE:=
 (.sem (.buildSlice 159 1 #[(0,(.tmp 15))]) 159 [(15,(.ag [.bool true,.bool false,.bool false,.int .u64 0,.int .i64 0,.int .i64 0]))] (.sc .sl) []
 (.loop 10 [.sl,.int .i64] [.atom 0,.int .i64 0]
 (.ite (.cmp .lss (.atom 2) (.int .i64 14))
 (.sem (.buildSlice 159 1 #[(0,(.tmp 22))]) 159 [(22,(.ag [.bool true,.bool true,.bool true,.int .u64 0,.int .i64 0,.int .i64 0]))] (.sc .sl) []
 (.sem (.call ⟨.builtin .append,#[.tmp 21,.tmp 23],#[159,159]⟩) 159 [(21,(.sc (.atom 1))),(23,(.sc (.atom 3)))] (.sc .sl) []
 (.next 10 [.atom 4,(.ar .add .i64 (.atom 2) (.int .i64 1))])))
 (.sem (.buildSlice 159 5 #[(0,(.tmp 26)),(1,(.tmp 27)),(2,(.tmp 28)),(3,(.tmp 29)),(4,(.tmp 30))]) 159 [(26,(.ag [.bool true,.bool true,.bool false,.int .u64 16,(.int .i64 (-32768)),.int .i64 32767])),(27,(.ag [.bool true,.bool true,.bool false,.int .u64 16,.int .i64 0,.int .i64 65535])),(28,(.ag [.bool true,.bool true,.bool false,.int .u64 16,.int .i64 0,.int .i64 65535])),(29,(.ag [.bool true,.bool true,.bool false,.int .u64 16,.int .i64 0,.int .i64 63])),(30,(.ag [.bool true,.bool true,.bool false,.int .u64 16,.int .i64 0,.int .i64 63]))] (.sc .sl) []
 (.sem (.call ⟨.builtin .append,#[.tmp 25,.tmp 31],#[159,159]⟩) 159 [(25,(.sc (.atom 1))),(31,(.sc (.atom 3)))] (.sc .sl) []
 (.sem (.buildSlice 159 4 #[(0,(.tmp 34)),(1,(.tmp 35)),(2,(.tmp 36)),(3,(.tmp 37))]) 159 [(34,(.ag [.bool true,.bool false,.bool false,.int .u64 16,(.int .i64 (-32768)),.int .i64 32767])),(35,(.ag [.bool true,.bool false,.bool false,.int .u64 16,.int .i64 0,.int .i64 65535])),(36,(.ag [.bool true,.bool true,.bool false,.int .u64 16,(.int .i64 (-32768)),.int .i64 32767])),(37,(.ag [.bool true,.bool true,.bool false,.int .u64 16,(.int .i64 (-32768)),.int .i64 32767]))] (.sc .sl) []
 (.sem (.call ⟨.builtin .append,#[.tmp 33,.tmp 38],#[159,159]⟩) 159 [(33,(.sc (.atom 4))),(38,(.sc (.atom 5)))] (.sc .sl) []
 (.sem (.buildSlice 159 4 #[(0,(.tmp 41)),(1,(.tmp 42)),(2,(.tmp 43)),(3,(.tmp 44))]) 159 [(41,(.ag [.bool true,.bool true,.bool false,.int .u64 10,(.int .i64 (-512)),.int .i64 511])),(42,(.ag [.bool true,.bool true,.bool false,.int .u64 10,(.int .i64 (-512)),.int .i64 511])),(43,(.ag [.bool true,.bool true,.bool false,.int .u64 10,(.int .i64 (-512)),.int .i64 511])),(44,(.ag [.bool true,.bool true,.bool false,.int .u64 10,(.int .i64 (-512)),.int .i64 511]))] (.sc .sl) []
 (.sem (.call ⟨.builtin .append,#[.tmp 40,.tmp 45],#[159,159]⟩) 159 [(40,(.sc (.atom 6))),(45,(.sc (.atom 7)))] (.sc .sl) []
 (.sem (.buildSlice 159 4 #[(0,(.tmp 48)),(1,(.tmp 49)),(2,(.tmp 50)),(3,(.tmp 51))]) 159 [(48,(.ag [.bool true,.bool false,.bool false,.int .u64 21,(.int .i64 (-1048576)),.int .i64 1048575])),(49,(.ag [.bool true,.bool true,.bool false,.int .u64 0,.int .i64 0,.int .i64 0])),(50,(.ag [.bool true,.bool false,.bool false,.int .u64 0,.int .i64 0,.int .i64 0])),(51,(.ag [.bool true,.bool false,.bool false,.int .u64 0,.int .i64 0,.int .i64 0]))] (.sc .sl) []
 (.sem (.call ⟨.builtin .append,#[.tmp 47,.tmp 52],#[159,159]⟩) 159 [(47,(.sc (.atom 8))),(52,(.sc (.atom 9)))] (.sc .sl) []
 (.leaf (.sc (.atom 10))))))))))))))
theorem zbr:execF Tryz.prog { pub:=[],nojoin:=false } Tryz.f100=z6f:=by kernel_rfl
theorem z6b:callB Tryz.prog 100=true:=by kernel_rfl
theorem zdp:TriOf Tryz.prog 100 Tryz.f100 z6f:=triOf Tryz.func100 zbr
abbrev zfo:FuncId:=101
def z61:Fm VE:=
 (.ite (.cmp .eql (.atom 0) (.int .i64 1))
 (.leaf (.sc (.ar .add .i64 (.atom 1) (.atom 2))))
 (.ite (.cmp .eql (.atom 0) (.int .i64 2))
 (.leaf (.sc (.ar .sub .i64 (.atom 1) (.atom 2))))
 (.ite (.cmp .eql (.atom 0) (.int .i64 3))
 (.leaf (.sc (.ar .mul .i64 (.atom 1) (.atom 2))))
 (.ite (.cmp .eql (.atom 0) (.int .i64 4))
 (.call (.fn 152) [.sc (.atom 1),.sc (.atom 2)] (.sc (.int .i64)) []
 (.leaf (.sc (.atom 3))))
 (.ite (.cmp .eql (.atom 0) (.int .i64 5))
 (.chk [] (.nz (.atom 2))
 (.leaf (.sc (.ar .quo .i64 (.atom 1) (.atom 2)))))
 (.ite (.cmp .eql (.atom 0) (.int .i64 6))
 (.chk [] (.nz (.atom 2))
 (.leaf (.sc (.ar .sub .i64 (.atom 1) (.ar .mul .i64 (.ar .quo .i64 (.atom 1) (.atom 2)) (.atom 2))))))
 (.ite (.cmp .eql (.atom 0) (.int .i64 7))
 (.leaf (.sc (.ar .and .i64 (.atom 1) (.atom 2))))
 (.ite (.cmp .eql (.atom 0) (.int .i64 8))
 (.leaf (.sc (.ar .or .i64 (.atom 1) (.atom 2))))
 (.ite (.cmp .eql (.atom 0) (.int .i64 9))
 (.leaf (.sc (.ar .xor .i64 (.atom 1) (.atom 2))))
 (.ite (.cmp .eql (.atom 0) (.int .i64 10))
 (.leaf (.sc (.ar .shl .i64 (.atom 1) (.conv .u64 (.ar .and .i64 (.atom 2) (.int .i64 63))))))
 (.ite (.cmp .eql (.atom 0) (.int .i64 11))
 (.leaf (.sc (.ar .shr .i64 (.atom 1) (.conv .u64 (.ar .and .i64 (.atom 2) (.int .i64 63))))))
 (.ite (.cmp .eql (.atom 0) (.int .i64 12))
 (.leaf (.sc (.conv .i64 (.ar .shr .u64 (.conv .u64 (.atom 1)) (.conv .u64 (.ar .and .i64 (.atom 2) (.int .i64 63)))))))
 (.ite (.cmp .eql (.atom 0) (.int .i64 13))
 (.ite (.cmp .lss (.atom 1) (.atom 2))
 (.leaf (.sc (.int .i64 1)))
 (.leaf (.sc (.int .i64 0))))
 (.ite (.cmp .lss (.conv .u64 (.atom 1)) (.conv .u64 (.atom 2)))
 (.leaf (.sc (.int .i64 1)))
 (.leaf (.sc (.int .i64 0)))))))))))))))))
theorem zax:execF Tryz.prog { pub:=[],nojoin:=false } Tryz.f101=z61:=by kernel_rfl
theorem z60:callB Tryz.prog 101=true:=by kernel_rfl
theorem zct:TriOf Tryz.prog 101 Tryz.f101 z61:=triOf Tryz.func101 zax
abbrev zdu:FuncId:=147
def z5e:Fm VE:=
 (.sem (.buildSlice 29 1 #[(0,(.const (.int .i64 0)))]) 29 [] (.sc .sl) []
 (.loop 5 [.sl,.int .i64,.int .i64] [.atom 2,.int .i64 0,.int .i64 0]
 (.ite (.cmp .lss (.atom 5) (.len (.atom 0)))
 (.join 10 [.int .i64]
 (.sem (.buildSlice 29 1 #[(0,(.tmp 43))]) 29 [(43,(.sc (.ar .add .i64 (.atom 4) (.atom 6))))] (.sc .sl) []
 (.sem (.call ⟨.builtin .append,#[.tmp 42,.tmp 44],#[29,29]⟩) 29 [(42,(.sc (.atom 3))),(44,(.sc (.atom 7)))] (.sc .sl) []
 (.next 5 [.atom 8,(.ar .add .i64 (.atom 4) (.atom 6)),(.ar .add .i64 (.atom 5) (.int .i64 1))])))
 (.chk [] (.inSl (.atom 0) (.atom 5))
 (.load (.padd (.elt (.atom 0) (.atom 5) 8) 0) [.int .i64]
 (.ite (.cmp .eql (.atom 6) (.int .i64 1))
 (.next 10 [.int .i64 0])
 (.ite (.cmp .eql (.atom 6) (.int .i64 2))
 (.chk [] (.inSl (.atom 1) (.atom 5))
 (.load (.elt (.atom 1) (.atom 5) 1) [.bool]
 (.next 10 [(.pick (.atom 7) (.int .i64 2) (.int .i64 1))])))
 (.ite (.cmp .eql (.atom 6) (.int .i64 4))
 (.load (.padd (.elt (.atom 0) (.atom 5) 8) 7) [.int .i64]
 (.call (.fn 149) [.sc (.atom 7)] (.sc (.int .i64)) []
 (.next 10 [.atom 8])))
 (.next 10 [(.pick (.cmp .eql (.atom 6) (.int .i64 5)) (.int .i64 2) (.int .i64 1))])))))))
 (.leaf (.sc (.atom 3))))))
theorem za1:execF Tryz.prog { pub:=[],nojoin:=false } Tryz.f147=z5e:=by kernel_rfl
theorem zcf:callB Tryz.prog 147=true:=by kernel_rfl
theorem zbh:TriOf Tryz.prog 147 Tryz.f147 z5e:=triOf Tryz.func147 za1
abbrev zdr:FuncId:=148
def z58:Fm VE:=
 (.sem (.buildSlice 115 1 #[(0,(.tmp 21))]) 115 [(21,(.ag [.int .i64 20,.atom 0,.int .i64 0,.int .i64 0,(.ar .sub .i64 (.ar .and .i64 (.ar .add .i64 (.ar .shr .i64 (.atom 1) (.conv .u64 (.ar .mul .i64 (.int .i64 16) (.ar .sub .i64 (.atom 2) (.int .i64 1))))) (.int .i64 32768)) (.int .i64 65535)) (.int .i64 32768))]))] (.sc .sl) []
 (.loop 5 [.sl,.int .i64] [.atom 3,(.ar .sub .i64 (.atom 2) (.int .i64 2))]
 (.ite (.cmp .geq (.atom 5) (.int .i64 0))
 (.sem (.buildSlice 115 1 #[(0,(.tmp 37))]) 115 [(37,(.ag [.int .i64 21,.atom 0,.int .i64 0,.int .i64 0,(.ar .and .i64 (.ar .shr .i64 (.atom 1) (.conv .u64 (.ar .mul .i64 (.int .i64 16) (.atom 5)))) (.int .i64 65535))]))] (.sc .sl) []
 (.sem (.call ⟨.builtin .append,#[.tmp 29,.tmp 38],#[115,115]⟩) 115 [(29,(.sc (.atom 4))),(38,(.sc (.atom 6)))] (.sc .sl) []
 (.next 5 [.atom 7,(.ar .sub .i64 (.atom 5) (.int .i64 1))])))
 (.leaf (.sc (.atom 4))))))
theorem za6:execF Tryz.prog { pub:=[],nojoin:=false } Tryz.f148=z58:=by kernel_rfl
theorem z5d:callB Tryz.prog 148=true:=by kernel_rfl
theorem zb4:TriOf Tryz.prog 148 Tryz.f148 z58:=triOf Tryz.func148 za6
abbrev ze1:FuncId:=149
def z56:Fm VE:=
 (.join 2 [.int .i64]
 (.leaf (.sc (.atom 1)))
 (.loop 3 [.int .i64] [.int .i64 1]
 (.ite (.cmp .lss (.atom 1) (.int .i64 4))
 (.ite (.pick (.cmp .geq (.ar .shr .i64 (.atom 0) (.conv .u64 (.ar .mul .i64 (.int .i64 16) (.ar .sub .i64 (.atom 1) (.int .i64 1))))) (.int .i64 (-32768))) (.cmp .leq (.ar .shr .i64 (.atom 0) (.conv .u64 (.ar .mul .i64 (.int .i64 16) (.ar .sub .i64 (.atom 1) (.int .i64 1))))) (.int .i64 32767)) (.bool false))
 (.next 2 [.atom 1])
 (.next 3 [(.ar .add .i64 (.atom 1) (.int .i64 1))]))
 (.next 2 [.atom 1]))))
theorem zab:execF Tryz.prog { pub:=[],nojoin:=false } Tryz.f149=z56:=by kernel_rfl
theorem z5j:callB Tryz.prog 149=true:=by kernel_rfl
theorem zbg:TriOf Tryz.prog 149 Tryz.f149 z56:=triOf Tryz.func149 zab
abbrev zif:FuncId:=150
def z7m:Fm VE:=
 (.ite (.not (.atom 1))
 (.leaf (.sc (.cmp .eql (.atom 0) (.int .i64 0))))
 (.leaf (.sc (.pick (.cmp .geq (.atom 0) (.int .i64 0)) (.cmp .leq (.atom 0) (.int .i64 31)) (.bool false)))))
theorem zcc:execF Tryz.prog { pub:=[],nojoin:=false } Tryz.f150=z7m:=by kernel_rfl
theorem z4c:callB Tryz.prog 150=true:=by kernel_rfl
theorem zg0:TriOf Tryz.prog 150 Tryz.f150 z7m:=triOf Tryz.func150 zcc
abbrev zg7:FuncId:=152
def z68:Fm VE:=
 (.leaf (.sc (.ar .add .i64 (.ar .add .i64 (.ar .mul .i64 (.ar .shr .i64 (.atom 0) (.int .u64 32)) (.ar .shr .i64 (.atom 1) (.int .u64 32))) (.ar .shr .i64 (.ar .add .i64 (.ar .mul .i64 (.ar .shr .i64 (.atom 0) (.int .u64 32)) (.ar .and .i64 (.atom 1) (.int .i64 4294967295))) (.conv .i64 (.ar .shr .u64 (.ar .mul .u64 (.conv .u64 (.ar .and .i64 (.atom 0) (.int .i64 4294967295))) (.conv .u64 (.ar .and .i64 (.atom 1) (.int .i64 4294967295)))) (.int .u64 32)))) (.int .u64 32))) (.ar .shr .i64 (.ar .add .i64 (.ar .mul .i64 (.ar .and .i64 (.atom 0) (.int .i64 4294967295)) (.ar .shr .i64 (.atom 1) (.int .u64 32))) (.ar .and .i64 (.ar .add .i64 (.ar .mul .i64 (.ar .shr .i64 (.atom 0) (.int .u64 32)) (.ar .and .i64 (.atom 1) (.int .i64 4294967295))) (.conv .i64 (.ar .shr .u64 (.ar .mul .u64 (.conv .u64 (.ar .and .i64 (.atom 0) (.int .i64 4294967295))) (.conv .u64 (.ar .and .i64 (.atom 1) (.int .i64 4294967295)))) (.int .u64 32)))) (.int .i64 4294967295))) (.int .u64 32)))))
theorem zb3:execF Tryz.prog { pub:=[],nojoin:=false } Tryz.f152=z68:=by kernel_rfl
theorem zfq:callB Tryz.prog 152=true:=by kernel_rfl
theorem zea:TriOf Tryz.prog 152 Tryz.f152 z68:=triOf Tryz.func152 zb3
abbrev Z1o:FuncId:=14
def zmb:Fm VE:=
 (.call (.fn 38) [(.ag [.atom 0])] (.sc (.int .i64)) []
 (.ite (.cmp .neq (.atom 1) (.int .i64 0))
 (.leaf (.tu [(false,[.int .i64 0]),(false,[.atom 1])]))
 (.loop 7 [.int .i64,.int .i64] [.int .i64 0,.int .i64 0]
 (.ite (.cmp .lss (.atom 3) (.len (.atom 0)))
 (.chk [] (.inSl (.atom 0) (.atom 3))
 (.load (.elt (.atom 0) (.atom 3) 4) [.int .i64,.int .i64,.int .i64,.sl]
 (.call (.fn 39) [(.ag [.atom 4,.atom 5,.atom 6,.atom 7])] (.sc .ptr) []
 (.call (.fn 40) [.sc (.atom 8)] (.sc (.int .i64)) []
 (.next 7 [(.pick (.cmp .gtr (.atom 9) (.atom 2)) (.atom 9) (.atom 2)),(.ar .add .i64 (.atom 3) (.int .i64 1))])))))
 (.leaf (.tu [(false,[(.ar .add .i64 (.atom 2) (.int .i64 2))]),(false,[.int .i64 0])]))))))
theorem zsc:execF Tryz.prog { pub:=[],nojoin:=false } Tryz.f14=zmb:=by kernel_rfl
theorem zmw:callB Tryz.prog 14=true:=by kernel_rfl
theorem zwl:TriOf Tryz.prog 14 Tryz.f14 zmb:=triOf Tryz.func14 zsc
abbrev Z4r:FuncId:=15
def zpw:Fm VE:=
 (.call (.fn 14) [(.ag [.atom 0])] (.tu [(false,[.int .i64]),(false,[.int .i64])]) []
 (.ite (.cmp .neq (.atom 3) (.int .i64 0))
 (.leaf (.tu [(false,[(.nil 1)]),(false,[(.nil 1)]),(false,[.atom 3])]))
 (.ite (.pick (.cmp .lss (.atom 1) (.atom 2)) (.bool true) (.cmp .gtr (.atom 1) (.int .i64 131072)))
 (.leaf (.tu [(false,[(.nil 1)]),(false,[(.nil 1)]),(false,[.int .i64 250])]))
 (.call (.fn 41) [(.ag [.atom 0])] (.sc .sl) []
 (.new 100 [(.nil 1),.atom 4,(.nil 1),.int .i64 10000,.atom 1]
 (.loop 9 [.int .i64] [.int .i64 0]
 (.ite (.cmp .lss (.atom 6) (.len (.atom 0)))
 (.join 12 []
 (.next 9 [(.ar .add .i64 (.atom 6) (.int .i64 1))])
 (.chk [] (.some (.atom 5))
 (.load (.padd (.atom 5) 2) [.sl]
 (.call (.fn 42) [.sc (.atom 5)] (.sc (.int .i64)) [((.padd (.atom 5) 2),[.atom 7])]
 (.sem (.buildSlice 29 1 #[(0,(.tmp 45))]) 29 [(45,(.sc (.atom 8)))] (.sc .sl) [((.padd (.atom 5) 2),[.atom 7])]
 (.sem (.call ⟨.builtin .append,#[.tmp 43,.tmp 46],#[29,29]⟩) 29 [(43,(.sc (.atom 7))),(46,(.sc (.atom 9)))] (.sc .sl) []
 (.store (.padd (.atom 5) 2) [.atom 10]
 (.ite (.cmp .eql (.atom 6) (.int .i64 0))
 (.load (.padd (.atom 5) 2) [.sl]
 (.chk [] (.inSl (.atom 11) (.int .i64 0))
 (.store (.elt (.atom 11) (.int .i64 0) 1) [.int .i64 10]
 (.next 12 []))))
 (.next 12 [])))))))))
 (.loop 14 [.sl,.sl,.int .i64,.int .i64] [(.nil 1),(.nil 1),.int .i64 0,.int .i64 0]
 (.ite (.cmp .lss (.atom 10) (.len (.atom 0)))
 (.chk [] (.inSl (.atom 0) (.atom 10))
 (.load (.elt (.atom 0) (.atom 10) 4) [.int .i64,.int .i64,.int .i64,.sl]
 (.chk [] (.some (.atom 5))
 (.load (.padd (.atom 5) 2) [.sl]
 (.chk [] (.inSl (.atom 15) (.atom 10))
 (.load (.elt (.atom 15) (.atom 10) 1) [.int .i64]
 (.call (.fn 43) [.sc (.atom 5),(.ag [.atom 11,.atom 12,.atom 13,.atom 14]),.sc (.atom 16)] (.tu []) []
 (.load (.padd (.padd (.atom 5) 0) 0) [.sl]
 (.ite (.cmp .gtr (.len (.atom 17)) (.int .i64 64536))
 (.leaf (.tu [(false,[(.nil 1)]),(false,[(.nil 1)]),(false,[.int .i64 151])]))
 (.next 14 [.atom 7,.atom 8,.atom 9,(.ar .add .i64 (.atom 10) (.int .i64 1))]))))))))))
 (.chk [] (.some (.atom 5))
 (.load (.padd (.padd (.atom 5) 0) 0) [.sl]
 (.load (.padd (.atom 5) 1) [.sl]
 (.call (.fn 44) [.sc (.atom 12)] (.sc .sl) [((.padd (.padd (.atom 5) 0) 0),[.atom 11])]
 (.leaf (.tu [(false,[.atom 11]),(false,[.atom 13]),(false,[.int .i64 0])])))))))))))))))
theorem zud:execF Tryz.prog { pub:=[32],nojoin:=false } Tryz.f15=zpw:=by kernel_rfl
theorem zp3:callB Tryz.prog 15=true:=by kernel_rfl
theorem zxt:TriOf Tryz.prog 15 Tryz.f15 zpw:=triOf Tryz.func15 zud
abbrev Z43:FuncId:=17
def zpo:Fm VE:=
 (.new 98 [(.nil 1)]
 (.call (.fn 46) [.sc (.atom 0)] (.tu []) []
 (.call (.fn 47) [.sc (.atom 0)] (.tu []) []
 (.call (.fn 48) [.sc (.atom 0)] (.tu []) []
 (.call (.fn 49) [.sc (.atom 0)] (.tu []) []
 (.call (.fn 50) [.sc (.atom 0)] (.tu []) []
 (.loop 9 [.int .i64] [.int .i64 80]
 (.ite (.cmp .leq (.atom 1) (.int .i64 95))
 (.call (.fn 52) [.sc (.atom 1)] (.sc (.int .i64)) []
 (.call (.fn 51) [.sc (.atom 0),.sc (.atom 2)] (.tu []) []
 (.call (.fn 53) [.sc (.atom 0),.sc (.int .i64 26),.sc (.atom 1)] (.tu []) []
 (.next 9 [(.ar .add .i64 (.atom 1) (.int .i64 1))]))))
 (.chk [] (.some (.atom 0))
 (.load (.padd (.atom 0) 0) [.sl]
 (.leaf (.sc (.atom 2)))))))))))))
theorem zur:execF Tryz.prog { pub:=[4],nojoin:=false } Tryz.f17=zpo:=by kernel_rfl
theorem Z1q:callB Tryz.prog 17=true:=by kernel_rfl
theorem zya:TriOf Tryz.prog 17 Tryz.f17 zpo:=triOf Tryz.func17 zur
abbrev Z54:FuncId:=18
def zpf:Fm VE:=
 (.new 98 [(.nil 1)]
 (.call (.fn 51) [.sc (.atom 0),.sc (.int .i64 1)] (.tu []) []
 (.loop 5 [.int .i64] [.int .i64 1]
 (.ite (.cmp .leq (.atom 1) (.int .i64 25))
 (.call (.fn 54) [.sc (.atom 0),.sc (.atom 1),.sc (.int .i64 0),(.sc (.ar .sub .i64 (.ar .add .i64 (.int .i64 0) (.atom 1)) (.int .i64 1)))] (.tu []) []
 (.next 5 [(.ar .add .i64 (.atom 1) (.int .i64 1))]))
 (.call (.fn 55) [.sc (.atom 0),.sc (.int .i64 1),.sc (.int .i64 0),.sc (.int .i64 30)] (.tu []) []
 (.call (.fn 56) [.sc (.atom 0),.sc (.int .i64 2),.sc (.int .i64 1)] (.tu []) []
 (.call (.fn 57) [.sc (.atom 0),.sc (.int .i64 3),.sc (.int .i64 0)] (.tu []) []
 (.call (.fn 57) [.sc (.atom 0),.sc (.int .i64 4),.sc (.int .i64 27)] (.tu []) []
 (.call (.fn 58) [.sc (.atom 0),.sc (.int .i64 5),.sc (.int .i64 1003)] (.tu []) []
 (.call (.fn 57) [.sc (.atom 0),.sc (.int .i64 3),.sc (.int .i64 32)] (.tu []) []
 (.call (.fn 56) [.sc (.atom 0),.sc (.int .i64 4),.sc (.int .i64 30)] (.tu []) []
 (.call (.fn 58) [.sc (.atom 0),.sc (.int .i64 5),.sc (.int .i64 1003)] (.tu []) []
 (.call (.fn 51) [.sc (.atom 0),.sc (.int .i64 1000)] (.tu []) []
 (.call (.fn 59) [.sc (.atom 0),.sc (.int .i64 27),.sc (.int .i64 2),.sc (.int .i64 1),.sc (.int .i64 1001)] (.tu []) []
 (.call (.fn 56) [.sc (.atom 0),.sc (.int .i64 3),.sc (.int .i64 2)] (.tu []) []
 (.call (.fn 56) [.sc (.atom 0),.sc (.int .i64 4),.sc (.int .i64 1)] (.tu []) []
 (.call (.fn 56) [.sc (.atom 0),.sc (.int .i64 2),.sc (.int .i64 1)] (.tu []) []
 (.call (.fn 58) [.sc (.atom 0),.sc (.int .i64 5),.sc (.int .i64 1003)] (.tu []) []
 (.call (.fn 60) [.sc (.atom 0),.sc (.int .i64 1000)] (.tu []) []
 (.call (.fn 51) [.sc (.atom 0),.sc (.int .i64 1001)] (.tu []) []
 (.call (.fn 61) [.sc (.atom 0),.sc (.int .i64 28),.sc (.int .i64 30)] (.tu []) []
 (.call (.fn 61) [.sc (.atom 0),.sc (.int .i64 29),.sc (.int .i64 31)] (.tu []) []
 (.call (.fn 56) [.sc (.atom 0),.sc (.int .i64 29),.sc (.int .i64 1)] (.tu []) []
 (.call (.fn 62) [.sc (.atom 0),.sc (.int .i64 1),.sc (.int .i64 3),.sc (.int .i64 1),.sc (.int .i64 26)] (.tu []) []
 (.call (.fn 55) [.sc (.atom 0),.sc (.int .i64 4),.sc (.int .i64 0),.sc (.int .i64 29)] (.tu []) []
 (.call (.fn 59) [.sc (.atom 0),.sc (.int .i64 26),.sc (.int .i64 4),.sc (.int .i64 3),.sc (.int .i64 1002)] (.tu []) []
 (.loop 32 [.int .i64] [.int .i64 1]
 (.ite (.cmp .leq (.atom 2) (.int .i64 25))
 (.call (.fn 55) [.sc (.atom 0),.sc (.atom 2),.sc (.int .i64 0),(.sc (.ar .sub .i64 (.ar .add .i64 (.int .i64 0) (.atom 2)) (.int .i64 1)))] (.tu []) []
 (.next 32 [(.ar .add .i64 (.atom 2) (.int .i64 1))]))
 (.call (.fn 63) [.sc (.atom 0),.sc (.int .i64 31)] (.tu []) []
 (.call (.fn 51) [.sc (.atom 0),.sc (.int .i64 1002)] (.tu []) []
 (.call (.fn 53) [.sc (.atom 0),.sc (.int .i64 26),.sc (.int .i64 95)] (.tu []) []
 (.call (.fn 64) [.sc (.atom 0)] (.tu []) []
 (.chk [] (.some (.atom 0))
 (.load (.padd (.atom 0) 0) [.sl]
 (.leaf (.sc (.atom 3)))))))))))))))))))))))))))))))))))))
theorem ztx:execF Tryz.prog { pub:=[5],nojoin:=false } Tryz.f18=zpf:=by kernel_rfl
theorem Z2u:callB Tryz.prog 18=true:=by kernel_rfl
theorem zzf:TriOf Tryz.prog 18 Tryz.f18 zpf:=triOf Tryz.func18 ztx
abbrev Z20:FuncId:=38
def zm9:Fm VE:=
 (.loop 4 [.int .i64,.int .i64,.int .i64] [.int .i64 0,.int .i64 0,.int .i64 0]
 (.ite (.cmp .lss (.atom 3) (.len (.atom 0)))
 (.chk [] (.inSl (.atom 0) (.atom 3))
 (.load (.elt (.atom 0) (.atom 3) 4) [.int .i64,.int .i64,.int .i64,.sl]
 (.join 9 [.int .i64]
 (.ite (.pick (.cmp .gtr (.atom 6) (.int .i64 2000)) (.bool true) (.cmp .gtr (.atom 8) (.int .i64 4096)))
 (.leaf (.sc (.int .i64 151)))
 (.next 4 [.atom 1,.atom 8,(.ar .add .i64 (.atom 3) (.int .i64 1))]))
 (.loop 11 [.int .i64,.int .i64] [.atom 2,.int .i64 0]
 (.ite (.cmp .lss (.atom 9) (.len (.atom 7)))
 (.chk [] (.inSl (.atom 7) (.atom 9))
 (.load (.elt (.atom 7) (.atom 9) 7) [.sl,.int .i64,.int .i64,.sl,.int .i64,.int .i64,.int .i64]
 (.ite (.cmp .gtr (.ar .add .i64 (.atom 8) (.ar .add .i64 (.int .i64 1) (.len (.atom 10)))) (.int .i64 4096))
 (.next 9 [(.ar .add .i64 (.atom 8) (.ar .add .i64 (.int .i64 1) (.len (.atom 10))))])
 (.next 11 [(.ar .add .i64 (.atom 8) (.ar .add .i64 (.int .i64 1) (.len (.atom 10)))),(.ar .add .i64 (.atom 9) (.int .i64 1))]))))
 (.next 9 [.atom 8]))))))
 (.ite (.cmp .gtr (.len (.atom 0)) (.int .i64 300))
 (.leaf (.sc (.int .i64 151)))
 (.join 10 [.bool]
 (.ite (.atom 4)
 (.leaf (.sc (.int .i64 150)))
 (.loop 13 [.int .i64,.int .i64] [.atom 1,.int .i64 0]
 (.ite (.cmp .lss (.atom 6) (.len (.atom 0)))
 (.chk [] (.inSl (.atom 0) (.atom 6))
 (.load (.elt (.atom 0) (.atom 6) 4) [.int .i64,.int .i64,.int .i64,.sl]
 (.call (.fn 80) [(.ag [.atom 0]),(.ag [.atom 7,.atom 8,.atom 9,.atom 10])] (.sc .bool) []
 (.ite (.not (.atom 11))
 (.leaf (.sc (.int .i64 150)))
 (.next 13 [.atom 5,(.ar .add .i64 (.atom 6) (.int .i64 1))])))))
 (.leaf (.sc (.int .i64 0))))))
 (.chk [((.cmp .eql (.len (.atom 0)) (.int .i64 0)),false)] (.inSl (.atom 0) (.int .i64 0))
 (.chk [((.cmp .eql (.len (.atom 0)) (.int .i64 0)),false)] (.some (.elt (.atom 0) (.int .i64 0) 4))
 (.ite (.cmp .eql (.len (.atom 0)) (.int .i64 0))
 (.next 10 [.bool true])
 (.load (.padd (.elt (.atom 0) (.int .i64 0) 4) 0) [.int .i64]
 (.chk [((.cmp .neq (.atom 4) (.int .i64 0)),false)] (.inSl (.atom 0) (.int .i64 0))
 (.chk [((.cmp .neq (.atom 4) (.int .i64 0)),false)] (.some (.elt (.atom 0) (.int .i64 0) 4))
 (.ite (.cmp .neq (.atom 4) (.int .i64 0))
 (.next 10 [.bool true])
 (.load (.padd (.elt (.atom 0) (.int .i64 0) 4) 1) [.int .i64]
 (.next 10 [(.cmp .neq (.atom 5) (.int .i64 0))])))))))))))))
theorem zqo:execF Tryz.prog { pub:=[],nojoin:=false } Tryz.f38=zm9:=by kernel_rfl
theorem zxr:callB Tryz.prog 38=true:=by kernel_rfl
theorem zv7:TriOf Tryz.prog 38 Tryz.f38 zm9:=triOf Tryz.func38 zqo
abbrev zkm:FuncId:=39
def zj4:Fm VE:=
 (.new 142 [(.nil 0),.atom 0,.atom 1,.atom 2,.atom 3,(.nil 1),.int .i64 0,(.nil 1),.int .i64 0]
 (.call (.fn 81) [(.ag [.atom 0,.atom 1,.atom 2,.atom 3]),.sc (.int .i64 24)] (.tu [(false,[.sl]),(false,[.int .i64]),(false,[.int .i64])]) []
 (.chk [] (.some (.atom 4))
 (.store (.padd (.atom 4) 5) [.atom 5]
 (.store (.padd (.atom 4) 6) [.atom 6]
 (.leaf (.sc (.atom 4))))))))
theorem znx:execF Tryz.prog { pub:=[6],nojoin:=false } Tryz.f39=zj4:=by kernel_rfl
theorem zj9:callB Tryz.prog 39=true:=by kernel_rfl
theorem zgi:TriOf Tryz.prog 39 Tryz.f39 zj4:=triOf Tryz.func39 znx
abbrev zia:FuncId:=40
def z7y:Fm VE:=
 (.chk [] (.some (.atom 0))
 (.load (.padd (.padd (.atom 0) 1) 3) [.sl]
 (.loop 4 [.int .i64,.int .i64] [.int .i64 0,.int .i64 0]
 (.ite (.cmp .lss (.atom 3) (.len (.atom 1)))
 (.join 7 [.int .i64]
 (.next 4 [.atom 4,(.ar .add .i64 (.atom 3) (.int .i64 1))])
 (.chk [] (.inSl (.atom 1) (.atom 3))
 (.load (.elt (.atom 1) (.atom 3) 7) [.sl,.int .i64,.int .i64,.sl,.int .i64,.int .i64,.int .i64]
 (.ite (.pick (.cmp .eql (.atom 5) (.int .i64 4)) (.bool true) (.cmp .eql (.atom 5) (.int .i64 6)))
 (.call (.fn 82) [.sc (.atom 0),.sc (.atom 3)] (.tu [(false,[.sl]),(false,[.bool])]) []
 (.next 7 [(.pick (.cmp .gtr (.ar .add .i64 (.len (.atom 11)) (.int .i64 2)) (.atom 2)) (.ar .add .i64 (.len (.atom 11)) (.int .i64 2)) (.atom 2))]))
 (.next 7 [.atom 2])))))
 (.load (.padd (.atom 0) 6) [.int .i64]
 (.leaf (.sc (.ar .add .i64 (.atom 4) (.atom 2)))))))))
theorem zcn:execF Tryz.prog { pub:=[],nojoin:=false } Tryz.f40=z7y:=by kernel_rfl
theorem z7o:callB Tryz.prog 40=true:=by kernel_rfl
theorem zfv:TriOf Tryz.prog 40 Tryz.f40 z7y:=triOf Tryz.func40 zcn
abbrev ztv:FuncId:=41
def zh8:Fm VE:=
 (.loop 4 [.sl,.int .i64] [(.nil 1),.int .i64 0]
 (.ite (.cmp .lss (.atom 2) (.len (.atom 0)))
 (.chk [] (.inSl (.atom 0) (.atom 2))
 (.load (.elt (.atom 0) (.atom 2) 4) [.int .i64,.int .i64,.int .i64,.sl]
 (.loop 10 [.sl,.int .i64] [.atom 1,.int .i64 0]
 (.ite (.cmp .lss (.atom 8) (.len (.atom 6)))
 (.chk [] (.inSl (.atom 6) (.atom 8))
 (.load (.elt (.atom 6) (.atom 8) 7) [.sl,.int .i64,.int .i64,.sl,.int .i64,.int .i64,.int .i64]
 (.loop 16 [.sl,.int .i64] [.atom 7,.int .i64 0]
 (.ite (.cmp .lss (.atom 17) (.len (.atom 9)))
 (.join 19 [.sl]
 (.next 16 [.atom 18,(.ar .add .i64 (.atom 17) (.int .i64 1))])
 (.chk [] (.inSl (.atom 9) (.atom 17))
 (.load (.elt (.atom 9) (.atom 17) 8) [.str,.int .i64,.sl,.int .i64,.int .i64,.str,.sl,.int .i64]
 (.join 22 [.bool]
 (.ite (.atom 26)
 (.sem (.buildSlice 24 1 #[(0,(.tmp 51))]) 24 [(51,(.sc (.atom 23)))] (.sc .sl) []
 (.sem (.call ⟨.builtin .append,#[.tmp 50,.tmp 52],#[24,24]⟩) 24 [(50,(.sc (.atom 16))),(52,(.sc (.atom 27)))] (.sc .sl) []
 (.next 19 [.atom 28])))
 (.next 19 [.atom 16]))
 (.ite (.pick (.scmp .eql (.atom 18) (.str [99,111,110,115,116])) (.cmp .eql (.atom 21) (.int .i64 4)) (.bool false))
 (.call (.fn 83) [.sc (.atom 16),.sc (.atom 23)] (.sc .bool) []
 (.next 22 [(.not (.atom 26))]))
 (.next 22 [.bool false]))))))
 (.next 10 [.atom 16,(.ar .add .i64 (.atom 8) (.int .i64 1))])))))
 (.next 4 [.atom 7,(.ar .add .i64 (.atom 2) (.int .i64 1))])))))
 (.leaf (.sc (.atom 1)))))
theorem zm7:execF Tryz.prog { pub:=[],nojoin:=false } Tryz.f41=zh8:=by kernel_rfl
theorem zr9:callB Tryz.prog 41=true:=by kernel_rfl
theorem zpk:TriOf Tryz.prog 41 Tryz.f41 zh8:=triOf Tryz.func41 zm7
abbrev zfa:FuncId:=42
def z5v:Fm VE:=
 (.chk [] (.some (.atom 0))
 (.load (.padd (.atom 0) 3) [.int .i64]
 (.store (.padd (.atom 0) 3) [(.ar .add .i64 (.atom 1) (.int .i64 1))]
 (.load (.padd (.atom 0) 3) [.int .i64]
 (.leaf (.sc (.ar .sub .i64 (.atom 2) (.int .i64 1))))))))
theorem zao:execF Tryz.prog { pub:=[],nojoin:=false } Tryz.f42=z5v:=by kernel_rfl
theorem z5x:callB Tryz.prog 42=true:=by kernel_rfl
theorem zc3:TriOf Tryz.prog 42 Tryz.f42 z5v:=triOf Tryz.func42 zao
abbrev zbu:FuncId:=43
def z4m:Fm VE:=
 (.call (.fn 39) [(.ag [.atom 1,.atom 2,.atom 3,.atom 4])] (.sc .ptr) []
 (.chk [] (.some (.atom 6))
 (.store (.padd (.atom 6) 0) [.atom 0]
 (.loop 5 [.int .i64] [.int .i64 0]
 (.ite (.cmp .lss (.atom 7) (.len (.atom 4)))
 (.load (.padd (.atom 6) 7) [.sl]
 (.call (.fn 42) [.sc (.atom 0)] (.sc (.int .i64)) [((.padd (.atom 6) 7),[.atom 8])]
 (.sem (.buildSlice 29 1 #[(0,(.tmp 28))]) 29 [(28,(.sc (.atom 9)))] (.sc .sl) [((.padd (.atom 6) 7),[.atom 8])]
 (.sem (.call ⟨.builtin .append,#[.tmp 26,.tmp 29],#[29,29]⟩) 29 [(26,(.sc (.atom 8))),(29,(.sc (.atom 10)))] (.sc .sl) []
 (.store (.padd (.atom 6) 7) [.atom 11]
 (.next 5 [(.ar .add .i64 (.atom 7) (.int .i64 1))]))))))
 (.call (.fn 84) [.sc (.atom 6),.sc (.atom 5)] (.tu []) []
 (.load (.padd (.atom 6) 0) [.ptr]
 (.chk [] (.some (.atom 8))
 (.load (.padd (.atom 6) 7) [.sl]
 (.chk [] (.inSl (.atom 9) (.int .i64 0))
 (.load (.elt (.atom 9) (.int .i64 0) 1) [.int .i64]
 (.call (.fn 60) [(.sc (.padd (.atom 8) 0)),.sc (.atom 10)] (.tu []) []
 (.loop 11 [.int .i64] [.int .i64 0]
 (.ite (.cmp .lss (.atom 11) (.len (.atom 4)))
 (.chk [] (.inSl (.atom 4) (.atom 11))
 (.load (.elt (.atom 4) (.atom 11) 7) [.sl,.int .i64,.int .i64,.sl,.int .i64,.int .i64,.int .i64]
 (.load (.padd (.atom 6) 0) [.ptr]
 (.chk [] (.some (.atom 19))
 (.load (.padd (.atom 6) 7) [.sl]
 (.chk [] (.inSl (.atom 20) (.atom 11))
 (.load (.elt (.atom 20) (.atom 11) 1) [.int .i64]
 (.call (.fn 51) [(.sc (.padd (.atom 19) 0)),.sc (.atom 21)] (.tu []) []
 (.loop 19 [.int .i64] [.int .i64 0]
 (.ite (.cmp .lss (.atom 22) (.len (.atom 12)))
 (.chk [] (.inSl (.atom 12) (.atom 22))
 (.load (.elt (.atom 12) (.atom 22) 8) [.str,.int .i64,.sl,.int .i64,.int .i64,.str,.sl,.int .i64]
 (.call (.fn 85) [.sc (.atom 6),(.ag [.atom 23,.atom 24,.atom 25,.atom 26,.atom 27,.atom 28,.atom 29,.atom 30])] (.tu []) []
 (.next 19 [(.ar .add .i64 (.atom 22) (.int .i64 1))]))))
 (.call (.fn 86) [.sc (.atom 6),.sc (.atom 11),(.ag [.atom 13,.atom 14,.atom 15,.atom 16,.atom 17,.atom 18])] (.tu []) []
 (.next 11 [(.ar .add .i64 (.atom 11) (.int .i64 1))]))))))))))))
 (.leaf (.tu []))))))))))))))))
theorem z99:execF Tryz.prog { pub:=[],nojoin:=false } Tryz.f43=z4m:=by kernel_rfl
theorem zap:callB Tryz.prog 43=true:=by kernel_rfl
theorem za0:TriOf Tryz.prog 43 Tryz.f43 z4m:=triOf Tryz.func43 z99
abbrev Z18:FuncId:=46
def zmz:Fm VE:=
 (.call (.fn 51) [.sc (.atom 0),.sc (.int .i64 9)] (.tu []) []
 (.call (.fn 55) [.sc (.atom 0),.sc (.int .i64 29),.sc (.int .i64 0),.sc (.int .i64 28)] (.tu []) []
 (.call (.fn 93) [.sc (.atom 0),.sc (.int .i64 27),.sc (.int .i64 5),.sc (.int .i64 15)] (.tu []) []
 (.call (.fn 54) [.sc (.atom 0),.sc (.int .i64 27),.sc (.int .i64 0),.sc (.int .i64 32)] (.tu []) []
 (.call (.fn 57) [.sc (.atom 0),.sc (.int .i64 30),.sc (.int .i64 33)] (.tu []) []
 (.call (.fn 57) [.sc (.atom 0),.sc (.int .i64 27),.sc (.int .i64 18)] (.tu []) []
 (.call (.fn 54) [.sc (.atom 0),.sc (.int .i64 27),.sc (.int .i64 0),.sc (.int .i64 25)] (.tu []) []
 (.call (.fn 54) [.sc (.atom 0),.sc (.int .i64 27),.sc (.int .i64 0),.sc (.int .i64 26)] (.tu []) []
 (.call (.fn 94) [.sc (.atom 0),.sc (.int .i64 2)] (.tu []) []
 (.call (.fn 95) [.sc (.int .i64 5),.sc (.int .i64 1)] (.sc (.int .i64)) []
 (.call (.fn 57) [.sc (.atom 0),.sc (.int .i64 27),.sc (.atom 1)] (.tu []) []
 (.call (.fn 54) [.sc (.atom 0),.sc (.int .i64 27),.sc (.int .i64 29),.sc (.int .i64 0)] (.tu []) []
 (.call (.fn 93) [.sc (.atom 0),.sc (.int .i64 27),.sc (.int .i64 10),.sc (.int .i64 3)] (.tu []) []
 (.call (.fn 54) [.sc (.atom 0),.sc (.int .i64 27),.sc (.int .i64 29),.sc (.int .i64 1)] (.tu []) []
 (.call (.fn 96) [.sc (.atom 0),.sc (.int .i64 25),.sc (.int .i64 2)] (.tu []) []
 (.call (.fn 57) [.sc (.atom 0),.sc (.int .i64 28),.sc (.int .i64 0)] (.tu []) []
 (.call (.fn 60) [.sc (.atom 0),.sc (.int .i64 10)] (.tu []) []
 (.leaf (.tu [])))))))))))))))))))
theorem zs0:execF Tryz.prog { pub:=[],nojoin:=false } Tryz.f46=zmz:=by kernel_rfl
theorem zzl:callB Tryz.prog 46=true:=by kernel_rfl
theorem zvq:TriOf Tryz.prog 46 Tryz.f46 zmz:=triOf Tryz.func46 zs0
abbrev Z35:FuncId:=47
def zog:Fm VE:=
 (.call (.fn 51) [.sc (.atom 0),.sc (.int .i64 2)] (.tu []) []
 (.call (.fn 62) [.sc (.atom 0),.sc (.int .i64 1),.sc (.int .i64 27),.sc (.int .i64 29),.sc (.int .i64 26)] (.tu []) []
 (.call (.fn 55) [.sc (.atom 0),.sc (.int .i64 28),.sc (.int .i64 0),.sc (.int .i64 29)] (.tu []) []
 (.call (.fn 59) [.sc (.atom 0),.sc (.int .i64 26),.sc (.int .i64 28),.sc (.int .i64 27),.sc (.int .i64 1)] (.tu []) []
 (.call (.fn 63) [.sc (.atom 0),.sc (.int .i64 31)] (.tu []) []
 (.call (.fn 51) [.sc (.atom 0),.sc (.int .i64 3)] (.tu []) []
 (.call (.fn 97) [.sc (.atom 0),.sc (.int .i64 16),.sc (.int .i64 26),.sc (.int .i64 25),.sc (.int .i64 7)] (.tu []) []
 (.call (.fn 57) [.sc (.atom 0),.sc (.int .i64 27),.sc (.int .i64 1)] (.tu []) []
 (.call (.fn 52) [.sc (.int .i64 90)] (.sc (.int .i64)) []
 (.call (.fn 59) [.sc (.atom 0),.sc (.int .i64 25),.sc (.int .i64 26),.sc (.int .i64 27),.sc (.atom 1)] (.tu []) []
 (.call (.fn 97) [.sc (.atom 0),.sc (.int .i64 19),.sc (.int .i64 26),.sc (.int .i64 25),.sc (.int .i64 3)] (.tu []) []
 (.call (.fn 55) [.sc (.atom 0),.sc (.int .i64 27),.sc (.int .i64 26),.sc (.int .i64 0)] (.tu []) []
 (.call (.fn 97) [.sc (.atom 0),.sc (.int .i64 19),.sc (.int .i64 27),.sc (.int .i64 27),.sc (.int .i64 3)] (.tu []) []
 (.call (.fn 97) [.sc (.atom 0),.sc (.int .i64 16),.sc (.int .i64 27),.sc (.int .i64 27),.sc (.int .i64 7)] (.tu []) []
 (.call (.fn 57) [.sc (.atom 0),.sc (.int .i64 31),.sc (.int .i64 5)] (.tu []) []
 (.call (.fn 59) [.sc (.atom 0),.sc (.int .i64 24),.sc (.int .i64 27),.sc (.int .i64 31),.sc (.int .i64 2009)] (.tu []) []
 (.call (.fn 57) [.sc (.atom 0),.sc (.int .i64 31),.sc (.int .i64 7)] (.tu []) []
 (.call (.fn 52) [.sc (.int .i64 90)] (.sc (.int .i64)) []
 (.call (.fn 59) [.sc (.atom 0),.sc (.int .i64 25),.sc (.int .i64 27),.sc (.int .i64 31),.sc (.atom 2)] (.tu []) []
 (.call (.fn 51) [.sc (.atom 0),.sc (.int .i64 2009)] (.tu []) []
 (.call (.fn 55) [.sc (.atom 0),.sc (.int .i64 26),.sc (.int .i64 26),.sc (.int .i64 1)] (.tu []) []
 (.call (.fn 97) [.sc (.atom 0),.sc (.int .i64 19),.sc (.int .i64 26),.sc (.int .i64 26),.sc (.int .i64 3)] (.tu []) []
 (.call (.fn 63) [.sc (.atom 0),.sc (.int .i64 26)] (.tu []) []
 (.call (.fn 51) [.sc (.atom 0),.sc (.int .i64 4)] (.tu []) []
 (.call (.fn 55) [.sc (.atom 0),.sc (.int .i64 26),.sc (.int .i64 30),(.sc (.int .i64 (-1)))] (.tu []) []
 (.call (.fn 97) [.sc (.atom 0),.sc (.int .i64 19),.sc (.int .i64 26),.sc (.int .i64 26),.sc (.int .i64 15)] (.tu []) []
 (.call (.fn 63) [.sc (.atom 0),.sc (.int .i64 26)] (.tu []) []
 (.leaf (.tu [])))))))))))))))))))))))))))))
theorem zu3:execF Tryz.prog { pub:=[],nojoin:=false } Tryz.f47=zog:=by kernel_rfl
theorem Z2t:callB Tryz.prog 47=true:=by kernel_rfl
theorem zzi:TriOf Tryz.prog 47 Tryz.f47 zog:=triOf Tryz.func47 zu3
abbrev Z21:FuncId:=48
def zmf:Fm VE:=
 (.call (.fn 51) [.sc (.atom 0),.sc (.int .i64 6)] (.tu []) []
 (.call (.fn 57) [.sc (.atom 0),.sc (.int .i64 26),.sc (.int .i64 33)] (.tu []) []
 (.call (.fn 59) [.sc (.atom 0),.sc (.int .i64 25),.sc (.int .i64 26),.sc (.int .i64 30),.sc (.int .i64 2000)] (.tu []) []
 (.call (.fn 63) [.sc (.atom 0),.sc (.int .i64 31)] (.tu []) []
 (.call (.fn 51) [.sc (.atom 0),.sc (.int .i64 2000)] (.tu []) []
 (.call (.fn 54) [.sc (.atom 0),.sc (.int .i64 31),.sc (.int .i64 0),.sc (.int .i64 27)] (.tu []) []
 (.call (.fn 97) [.sc (.atom 0),.sc (.int .i64 15),.sc (.int .i64 26),.sc (.int .i64 30),(.sc (.int .i64 (-33)))] (.tu []) []
 (.call (.fn 97) [.sc (.atom 0),.sc (.int .i64 18),.sc (.int .i64 27),.sc (.int .i64 26),.sc (.int .i64 1)] (.tu []) []
 (.call (.fn 62) [.sc (.atom 0),.sc (.int .i64 1),.sc (.int .i64 26),.sc (.int .i64 26),.sc (.int .i64 27)] (.tu []) []
 (.call (.fn 58) [.sc (.atom 0),.sc (.int .i64 31),.sc (.int .i64 2)] (.tu []) []
 (.call (.fn 55) [.sc (.atom 0),.sc (.int .i64 31),.sc (.int .i64 0),.sc (.int .i64 25)] (.tu []) []
 (.call (.fn 97) [.sc (.atom 0),.sc (.int .i64 18),.sc (.int .i64 27),.sc (.int .i64 29),.sc (.int .i64 3)] (.tu []) []
 (.call (.fn 97) [.sc (.atom 0),.sc (.int .i64 17),.sc (.int .i64 27),.sc (.int .i64 27),.sc (.int .i64 1)] (.tu []) []
 (.call (.fn 54) [.sc (.atom 0),.sc (.int .i64 27),.sc (.int .i64 0),.sc (.int .i64 25)] (.tu []) []
 (.call (.fn 51) [.sc (.atom 0),.sc (.int .i64 2001)] (.tu []) []
 (.call (.fn 98) [.sc (.atom 0)] (.tu []) []
 (.call (.fn 57) [.sc (.atom 0),.sc (.int .i64 27),.sc (.int .i64 33)] (.tu []) []
 (.call (.fn 59) [.sc (.atom 0),.sc (.int .i64 25),.sc (.int .i64 30),.sc (.int .i64 27),.sc (.int .i64 2001)] (.tu []) []
 (.call (.fn 55) [.sc (.atom 0),.sc (.int .i64 31),.sc (.int .i64 0),.sc (.int .i64 27)] (.tu []) []
 (.call (.fn 63) [.sc (.atom 0),.sc (.int .i64 31)] (.tu []) []
 (.leaf (.tu []))))))))))))))))))))))
theorem zri:execF Tryz.prog { pub:=[],nojoin:=false } Tryz.f48=zmf:=by kernel_rfl
theorem zxw:callB Tryz.prog 48=true:=by kernel_rfl
theorem zvt:TriOf Tryz.prog 48 Tryz.f48 zmf:=triOf Tryz.func48 zri
abbrev zs9:FuncId:=49
def zeg:Fm VE:=
 (.call (.fn 51) [.sc (.atom 0),.sc (.int .i64 5)] (.tu []) []
 (.call (.fn 55) [.sc (.atom 0),.sc (.int .i64 26),.sc (.int .i64 0),.sc (.int .i64 25)] (.tu []) []
 (.call (.fn 57) [.sc (.atom 0),.sc (.int .i64 27),.sc (.int .i64 18)] (.tu []) []
 (.call (.fn 59) [.sc (.atom 0),.sc (.int .i64 25),.sc (.int .i64 26),.sc (.int .i64 27),.sc (.int .i64 2007)] (.tu []) []
 (.call (.fn 97) [.sc (.atom 0),.sc (.int .i64 0),.sc (.int .i64 0),.sc (.int .i64 0),.sc (.int .i64 0)] (.tu []) []
 (.call (.fn 51) [.sc (.atom 0),.sc (.int .i64 2007)] (.tu []) []
 (.call (.fn 97) [.sc (.atom 0),.sc (.int .i64 19),.sc (.int .i64 26),.sc (.int .i64 26),.sc (.int .i64 3)] (.tu []) []
 (.call (.fn 55) [.sc (.atom 0),.sc (.int .i64 27),.sc (.int .i64 26),.sc (.int .i64 1)] (.tu []) []
 (.call (.fn 54) [.sc (.atom 0),.sc (.int .i64 27),.sc (.int .i64 0),.sc (.int .i64 25)] (.tu []) []
 (.call (.fn 55) [.sc (.atom 0),.sc (.int .i64 27),.sc (.int .i64 26),.sc (.int .i64 0)] (.tu []) []
 (.call (.fn 97) [.sc (.atom 0),.sc (.int .i64 19),.sc (.int .i64 27),.sc (.int .i64 27),.sc (.int .i64 6)] (.tu []) []
 (.call (.fn 62) [.sc (.atom 0),.sc (.int .i64 1),.sc (.int .i64 27),.sc (.int .i64 27),.sc (.int .i64 26)] (.tu []) []
 (.call (.fn 97) [.sc (.atom 0),.sc (.int .i64 15),.sc (.int .i64 26),.sc (.int .i64 26),.sc (.int .i64 2)] (.tu []) []
 (.call (.fn 57) [.sc (.atom 0),.sc (.int .i64 30),.sc (.int .i64 33)] (.tu []) []
 (.call (.fn 51) [.sc (.atom 0),.sc (.int .i64 2004)] (.tu []) []
 (.call (.fn 59) [.sc (.atom 0),.sc (.int .i64 26),.sc (.int .i64 27),.sc (.int .i64 26),.sc (.int .i64 2008)] (.tu []) []
 (.call (.fn 55) [.sc (.atom 0),.sc (.int .i64 28),.sc (.int .i64 26),.sc (.int .i64 0)] (.tu []) []
 (.call (.fn 54) [.sc (.atom 0),.sc (.int .i64 28),.sc (.int .i64 30),.sc (.int .i64 0)] (.tu []) []
 (.call (.fn 97) [.sc (.atom 0),.sc (.int .i64 15),.sc (.int .i64 26),.sc (.int .i64 26),.sc (.int .i64 1)] (.tu []) []
 (.call (.fn 97) [.sc (.atom 0),.sc (.int .i64 15),.sc (.int .i64 30),.sc (.int .i64 30),.sc (.int .i64 1)] (.tu []) []
 (.call (.fn 60) [.sc (.atom 0),.sc (.int .i64 2004)] (.tu []) []
 (.call (.fn 51) [.sc (.atom 0),.sc (.int .i64 2008)] (.tu []) []
 (.call (.fn 60) [.sc (.atom 0),.sc (.int .i64 4)] (.tu []) []
 (.leaf (.tu [])))))))))))))))))))))))))
theorem zkd:execF Tryz.prog { pub:=[],nojoin:=false } Tryz.f49=zeg:=by kernel_rfl
theorem zo6:callB Tryz.prog 49=true:=by kernel_rfl
theorem znh:TriOf Tryz.prog 49 Tryz.f49 zeg:=triOf Tryz.func49 zkd
abbrev Z2d:FuncId:=50
def zmj:Fm VE:=
 (.call (.fn 51) [.sc (.atom 0),.sc (.int .i64 7)] (.tu []) []
 (.call (.fn 58) [.sc (.atom 0),.sc (.int .i64 31),.sc (.int .i64 6)] (.tu []) []
 (.call (.fn 94) [.sc (.atom 0),.sc (.int .i64 3)] (.tu []) []
 (.call (.fn 95) [.sc (.int .i64 7),.sc (.int .i64 2)] (.sc (.int .i64)) []
 (.call (.fn 57) [.sc (.atom 0),.sc (.int .i64 27),.sc (.atom 1)] (.tu []) []
 (.call (.fn 54) [.sc (.atom 0),.sc (.int .i64 27),.sc (.int .i64 29),.sc (.int .i64 0)] (.tu []) []
 (.call (.fn 93) [.sc (.atom 0),.sc (.int .i64 27),.sc (.int .i64 8),.sc (.int .i64 3)] (.tu []) []
 (.call (.fn 54) [.sc (.atom 0),.sc (.int .i64 27),.sc (.int .i64 29),.sc (.int .i64 1)] (.tu []) []
 (.call (.fn 55) [.sc (.atom 0),.sc (.int .i64 27),.sc (.int .i64 0),.sc (.int .i64 25)] (.tu []) []
 (.call (.fn 54) [.sc (.atom 0),.sc (.int .i64 27),.sc (.int .i64 29),.sc (.int .i64 2)] (.tu []) []
 (.call (.fn 96) [.sc (.atom 0),.sc (.int .i64 1),.sc (.int .i64 3)] (.tu []) []
 (.call (.fn 57) [.sc (.atom 0),.sc (.int .i64 28),.sc (.int .i64 1)] (.tu []) []
 (.call (.fn 60) [.sc (.atom 0),.sc (.int .i64 3)] (.tu []) []
 (.call (.fn 51) [.sc (.atom 0),.sc (.int .i64 8)] (.tu []) []
 (.call (.fn 57) [.sc (.atom 0),.sc (.int .i64 26),.sc (.int .i64 1)] (.tu []) []
 (.call (.fn 52) [.sc (.int .i64 91)] (.sc (.int .i64)) []
 (.call (.fn 59) [.sc (.atom 0),.sc (.int .i64 25),.sc (.int .i64 26),.sc (.int .i64 28),.sc (.atom 2)] (.tu []) []
 (.call (.fn 97) [.sc (.atom 0),.sc (.int .i64 19),.sc (.int .i64 26),.sc (.int .i64 25),.sc (.int .i64 3)] (.tu []) []
 (.call (.fn 55) [.sc (.atom 0),.sc (.int .i64 27),.sc (.int .i64 26),.sc (.int .i64 2)] (.tu []) []
 (.call (.fn 54) [.sc (.atom 0),.sc (.int .i64 27),.sc (.int .i64 0),.sc (.int .i64 25)] (.tu []) []
 (.call (.fn 57) [.sc (.atom 0),.sc (.int .i64 30),.sc (.int .i64 33)] (.tu []) []
 (.call (.fn 60) [.sc (.atom 0),.sc (.int .i64 4)] (.tu []) []
 (.leaf (.tu []))))))))))))))))))))))))
theorem zrx:execF Tryz.prog { pub:=[],nojoin:=false } Tryz.f50=zmj:=by kernel_rfl
theorem zz8:callB Tryz.prog 50=true:=by kernel_rfl
theorem zwt:TriOf Tryz.prog 50 Tryz.f50 zmj:=triOf Tryz.func50 zrx
abbrev zha:FuncId:=51
def z6i:Fm VE:=
 (.call (.fn 99) [.sc (.atom 0),(.ag [.int .i64 1,.int .i64 0,.int .i64 0,.int .i64 0,.int .i64 0,.int .i64 0,.atom 1,.int .i64 0])] (.tu []) []
 (.leaf (.tu [])))
theorem zbp:execF Tryz.prog { pub:=[],nojoin:=false } Tryz.f51=z6i:=by kernel_rfl
theorem z0c:callB Tryz.prog 51=true:=by kernel_rfl
theorem zdm:TriOf Tryz.prog 51 Tryz.f51 z6i:=triOf Tryz.func51 zbp
abbrev zw7:FuncId:=52
def zj7:Fm VE:=
 (.leaf (.sc (.ar .add .i64 (.int .i64 11) (.ar .sub .i64 (.atom 0) (.int .i64 80)))))
theorem znm:execF Tryz.prog { pub:=[],nojoin:=false } Tryz.f52=zj7:=by kernel_rfl
theorem z70:callB Tryz.prog 52=true:=by kernel_rfl
theorem zr3:TriOf Tryz.prog 52 Tryz.f52 zj7:=triOf Tryz.func52 znm
abbrev ziw:FuncId:=53
def z81:Fm VE:=
 (.call (.fn 57) [.sc (.atom 0),.sc (.atom 1),.sc (.atom 2)] (.tu []) []
 (.call (.fn 97) [.sc (.atom 0),.sc (.int .i64 0),.sc (.atom 1),.sc (.int .i64 0),.sc (.int .i64 0)] (.tu []) []
 (.leaf (.tu []))))
theorem zca:execF Tryz.prog { pub:=[],nojoin:=false } Tryz.f53=z81:=by kernel_rfl
theorem z7u:callB Tryz.prog 53=true:=by kernel_rfl
theorem zf9:TriOf Tryz.prog 53 Tryz.f53 z81:=triOf Tryz.func53 zca
abbrev z7h:FuncId:=54
def z6o:Fm VE:=
 (.call (.fn 97) [.sc (.atom 0),.sc (.int .i64 23),.sc (.atom 1),.sc (.atom 2),.sc (.atom 3)] (.tu []) []
 (.leaf (.tu [])))
theorem zb6:execF Tryz.prog { pub:=[],nojoin:=false } Tryz.f54=z6o:=by kernel_rfl
theorem z0e:callB Tryz.prog 54=true:=by kernel_rfl
theorem zdh:TriOf Tryz.prog 54 Tryz.f54 z6o:=triOf Tryz.func54 zb6
abbrev z8q:FuncId:=55
def z7w:Fm VE:=
 (.call (.fn 97) [.sc (.atom 0),.sc (.int .i64 22),.sc (.atom 1),.sc (.atom 2),.sc (.atom 3)] (.tu []) []
 (.leaf (.tu [])))
theorem zcw:execF Tryz.prog { pub:=[],nojoin:=false } Tryz.f55=z7w:=by kernel_rfl
theorem z0f:callB Tryz.prog 55=true:=by kernel_rfl
theorem zfr:TriOf Tryz.prog 55 Tryz.f55 z7w:=triOf Tryz.func55 zcw
abbrev zie:FuncId:=56
def z7g:Fm VE:=
 (.call (.fn 97) [.sc (.atom 0),.sc (.int .i64 15),.sc (.atom 1),.sc (.atom 2),.sc (.int .i64 0)] (.tu []) []
 (.leaf (.tu [])))
theorem zcb:execF Tryz.prog { pub:=[],nojoin:=false } Tryz.f56=z7g:=by kernel_rfl
theorem z14:callB Tryz.prog 56=true:=by kernel_rfl
theorem zf4:TriOf Tryz.prog 56 Tryz.f56 z7g:=triOf Tryz.func56 zcb
abbrev zfz:FuncId:=57
def z5y:Fm VE:=
 (.call (.fn 99) [.sc (.atom 0),(.ag [.int .i64 4,.int .i64 20,.atom 1,.int .i64 0,.int .i64 0,.int .i64 0,.int .i64 0,.atom 2])] (.tu []) []
 (.leaf (.tu [])))
theorem zam:execF Tryz.prog { pub:=[],nojoin:=false } Tryz.f57=z5y:=by kernel_rfl
theorem z0d:callB Tryz.prog 57=true:=by kernel_rfl
theorem zcr:TriOf Tryz.prog 57 Tryz.f57 z5y:=triOf Tryz.func57 zam
abbrev zis:FuncId:=58
def z7q:Fm VE:=
 (.call (.fn 99) [.sc (.atom 0),(.ag [.int .i64 3,.int .i64 28,.atom 1,.int .i64 0,.int .i64 0,.int .i64 0,.atom 2,.int .i64 0])] (.tu []) []
 (.leaf (.tu [])))
theorem zcx:execF Tryz.prog { pub:=[],nojoin:=false } Tryz.f58=z7q:=by kernel_rfl
theorem z1e:callB Tryz.prog 58=true:=by kernel_rfl
theorem zfb:TriOf Tryz.prog 58 Tryz.f58 z7q:=triOf Tryz.func58 zcx
abbrev zkx:FuncId:=59
def z9c:Fm VE:=
 (.call (.fn 99) [.sc (.atom 0),(.ag [.int .i64 2,.atom 1,.atom 2,.atom 3,.int .i64 0,.int .i64 0,.atom 4,.int .i64 0])] (.tu []) []
 (.leaf (.tu [])))
theorem zg4:execF Tryz.prog { pub:=[],nojoin:=false } Tryz.f59=z9c:=by kernel_rfl
theorem z0k:callB Tryz.prog 59=true:=by kernel_rfl
theorem zi9:TriOf Tryz.prog 59 Tryz.f59 z9c:=triOf Tryz.func59 zg4
abbrev zhl:FuncId:=60
def z7s:Fm VE:=
 (.call (.fn 58) [.sc (.atom 0),.sc (.int .i64 0),.sc (.atom 1)] (.tu []) []
 (.leaf (.tu [])))
theorem zci:execF Tryz.prog { pub:=[],nojoin:=false } Tryz.f60=z7s:=by kernel_rfl
theorem z0r:callB Tryz.prog 60=true:=by kernel_rfl
theorem zez:TriOf Tryz.prog 60 Tryz.f60 z7s:=triOf Tryz.func60 zci
abbrev Z32:FuncId:=61
def zpb:Fm VE:=
 (.call (.fn 55) [.sc (.atom 0),.sc (.int .i64 3),.sc (.int .i64 0),.sc (.atom 1)] (.tu []) []
 (.call (.fn 55) [.sc (.atom 0),.sc (.int .i64 4),.sc (.int .i64 0),.sc (.atom 2)] (.tu []) []
 (.call (.fn 54) [.sc (.atom 0),.sc (.int .i64 4),.sc (.int .i64 0),.sc (.atom 1)] (.tu []) []
 (.call (.fn 54) [.sc (.atom 0),.sc (.int .i64 3),.sc (.int .i64 0),.sc (.atom 2)] (.tu []) []
 (.leaf (.tu []))))))
theorem zu2:execF Tryz.prog { pub:=[],nojoin:=false } Tryz.f61=zpb:=by kernel_rfl
theorem zof:callB Tryz.prog 61=true:=by kernel_rfl
theorem zyh:TriOf Tryz.prog 61 Tryz.f61 zpb:=triOf Tryz.func61 zu2
abbrev zgp:FuncId:=62
def z6c:Fm VE:=
 (.call (.fn 99) [.sc (.atom 0),(.ag [.int .i64 0,.atom 1,.atom 2,.atom 3,.atom 4,.int .i64 0,.int .i64 0,.int .i64 0])] (.tu []) []
 (.leaf (.tu [])))
theorem zbv:execF Tryz.prog { pub:=[],nojoin:=false } Tryz.f62=z6c:=by kernel_rfl
theorem z1m:callB Tryz.prog 62=true:=by kernel_rfl
theorem zdl:TriOf Tryz.prog 62 Tryz.f62 z6c:=triOf Tryz.func62 zbv
abbrev zhn:FuncId:=63
def z7t:Fm VE:=
 (.call (.fn 97) [.sc (.atom 0),.sc (.int .i64 29),.sc (.int .i64 0),.sc (.atom 1),.sc (.int .i64 0)] (.tu []) []
 (.leaf (.tu [])))
theorem zc9:execF Tryz.prog { pub:=[],nojoin:=false } Tryz.f63=z7t:=by kernel_rfl
theorem z1h:callB Tryz.prog 63=true:=by kernel_rfl
theorem zex:TriOf Tryz.prog 63 Tryz.f63 z7t:=triOf Tryz.func63 zc9
abbrev zv9:FuncId:=64
def zj8:Fm VE:=
 (.call (.fn 51) [.sc (.atom 0),.sc (.int .i64 1003)] (.tu []) []
 (.call (.fn 59) [.sc (.atom 0),.sc (.int .i64 27),.sc (.int .i64 3),.sc (.int .i64 4),.sc (.int .i64 1005)] (.tu []) []
 (.call (.fn 55) [.sc (.atom 0),.sc (.int .i64 6),.sc (.int .i64 3),.sc (.int .i64 0)] (.tu []) []
 (.call (.fn 97) [.sc (.atom 0),.sc (.int .i64 16),.sc (.int .i64 7),.sc (.int .i64 6),.sc (.int .i64 7)] (.tu []) []
 (.call (.fn 57) [.sc (.atom 0),.sc (.int .i64 8),.sc (.int .i64 1)] (.tu []) []
 (.call (.fn 59) [.sc (.atom 0),.sc (.int .i64 25),.sc (.int .i64 7),.sc (.int .i64 8),.sc (.int .i64 1004)] (.tu []) []
 (.call (.fn 97) [.sc (.atom 0),.sc (.int .i64 19),.sc (.int .i64 7),.sc (.int .i64 6),.sc (.int .i64 3)] (.tu []) []
 (.call (.fn 55) [.sc (.atom 0),.sc (.int .i64 9),.sc (.int .i64 7),.sc (.int .i64 0)] (.tu []) []
 (.call (.fn 97) [.sc (.atom 0),.sc (.int .i64 16),.sc (.int .i64 10),.sc (.int .i64 9),.sc (.int .i64 7)] (.tu []) []
 (.call (.fn 59) [.sc (.atom 0),.sc (.int .i64 24),.sc (.int .i64 10),.sc (.int .i64 8),.sc (.int .i64 1007)] (.tu []) []
 (.call (.fn 97) [.sc (.atom 0),.sc (.int .i64 19),.sc (.int .i64 10),.sc (.int .i64 9),.sc (.int .i64 6)] (.tu []) []
 (.call (.fn 97) [.sc (.atom 0),.sc (.int .i64 18),.sc (.int .i64 6),.sc (.int .i64 1),.sc (.int .i64 3)] (.tu []) []
 (.call (.fn 97) [.sc (.atom 0),.sc (.int .i64 17),.sc (.int .i64 6),.sc (.int .i64 6),.sc (.int .i64 1)] (.tu []) []
 (.call (.fn 54) [.sc (.atom 0),.sc (.int .i64 9),.sc (.int .i64 1),.sc (.int .i64 0)] (.tu []) []
 (.call (.fn 54) [.sc (.atom 0),.sc (.int .i64 6),.sc (.int .i64 7),.sc (.int .i64 0)] (.tu []) []
 (.call (.fn 54) [.sc (.atom 0),.sc (.int .i64 6),.sc (.int .i64 3),.sc (.int .i64 0)] (.tu []) []
 (.call (.fn 97) [.sc (.atom 0),.sc (.int .i64 15),.sc (.int .i64 1),.sc (.int .i64 1),.sc (.int .i64 1)] (.tu []) []
 (.call (.fn 51) [.sc (.atom 0),.sc (.int .i64 1006)] (.tu []) []
 (.call (.fn 59) [.sc (.atom 0),.sc (.int .i64 24),.sc (.int .i64 10),.sc (.int .i64 0),.sc (.int .i64 1004)] (.tu []) []
 (.call (.fn 97) [.sc (.atom 0),.sc (.int .i64 15),.sc (.int .i64 7),.sc (.int .i64 7),.sc (.int .i64 1)] (.tu []) []
 (.call (.fn 55) [.sc (.atom 0),.sc (.int .i64 9),.sc (.int .i64 7),.sc (.int .i64 0)] (.tu []) []
 (.call (.fn 54) [.sc (.atom 0),.sc (.int .i64 9),.sc (.int .i64 1),.sc (.int .i64 0)] (.tu []) []
 (.call (.fn 97) [.sc (.atom 0),.sc (.int .i64 15),.sc (.int .i64 1),.sc (.int .i64 1),.sc (.int .i64 1)] (.tu []) []
 (.call (.fn 97) [.sc (.atom 0),.sc (.int .i64 15),.sc (.int .i64 10),.sc (.int .i64 10),(.sc (.int .i64 (-1)))] (.tu []) []
 (.call (.fn 60) [.sc (.atom 0),.sc (.int .i64 1006)] (.tu []) []
 (.call (.fn 51) [.sc (.atom 0),.sc (.int .i64 1007)] (.tu []) []
 (.call (.fn 54) [.sc (.atom 0),.sc (.int .i64 9),.sc (.int .i64 3),.sc (.int .i64 0)] (.tu []) []
 (.call (.fn 51) [.sc (.atom 0),.sc (.int .i64 1004)] (.tu []) []
 (.call (.fn 97) [.sc (.atom 0),.sc (.int .i64 15),.sc (.int .i64 3),.sc (.int .i64 3),.sc (.int .i64 1)] (.tu []) []
 (.call (.fn 60) [.sc (.atom 0),.sc (.int .i64 1003)] (.tu []) []
 (.call (.fn 51) [.sc (.atom 0),.sc (.int .i64 1005)] (.tu []) []
 (.call (.fn 63) [.sc (.atom 0),.sc (.int .i64 5)] (.tu []) []
 (.leaf (.tu []))))))))))))))))))))))))))))))))))
theorem zn4:execF Tryz.prog { pub:=[],nojoin:=false } Tryz.f64=zj8:=by kernel_rfl
theorem zuk:callB Tryz.prog 64=true:=by kernel_rfl
theorem zr1:TriOf Tryz.prog 64 Tryz.f64 zj8:=triOf Tryz.func64 zn4
abbrev Z3d:FuncId:=80
def zoj:Fm VE:=
 (.ite (.pick (.pick (.pick (.pick (.pick (.cmp .lss (.atom 1) (.int .i64 0)) (.bool true) (.cmp .gtr (.atom 1) (.int .i64 6))) (.bool true) (.cmp .lss (.atom 2) (.int .i64 0))) (.bool true) (.cmp .gtr (.atom 2) (.int .i64 1000))) (.bool true) (.cmp .lss (.atom 3) (.atom 1))) (.bool true) (.cmp .eql (.len (.atom 4)) (.int .i64 0)))
 (.leaf (.sc (.bool false)))
 (.loop 5 [.bool,.int .i64] [.bool false,.int .i64 0]
 (.ite (.cmp .lss (.atom 6) (.len (.atom 4)))
 (.chk [] (.inSl (.atom 4) (.atom 6))
 (.load (.elt (.atom 4) (.atom 6) 7) [.sl,.int .i64,.int .i64,.sl,.int .i64,.int .i64,.int .i64]
 (.loop 12 [.bool,.int .i64] [.atom 5,.int .i64 0]
 (.ite (.cmp .lss (.atom 15) (.len (.atom 7)))
 (.chk [] (.inSl (.atom 7) (.atom 15))
 (.load (.elt (.atom 7) (.atom 15) 8) [.str,.int .i64,.sl,.int .i64,.int .i64,.str,.sl,.int .i64]
 (.call (.fn 119) [(.ag [.atom 0]),(.ag [.atom 1,.atom 2,.atom 3,.atom 4]),(.ag [.atom 16,.atom 17,.atom 18,.atom 19,.atom 20,.atom 21,.atom 22,.atom 23])] (.sc .bool) []
 (.ite (.not (.atom 24))
 (.leaf (.sc (.bool false)))
 (.next 12 [.atom 14,(.ar .add .i64 (.atom 15) (.int .i64 1))])))))
 (.call (.fn 120) [(.ag [.atom 1,.atom 2,.atom 3,.atom 4]),(.ag [.atom 8,.atom 9,.atom 10,.atom 11,.atom 12,.atom 13])] (.sc .bool) []
 (.ite (.not (.atom 16))
 (.leaf (.sc (.bool false)))
 (.next 5 [.atom 14,(.ar .add .i64 (.atom 6) (.int .i64 1))])))))))
 (.leaf (.sc (.bool true))))))
theorem ztu:execF Tryz.prog { pub:=[],nojoin:=false } Tryz.f80=zoj:=by kernel_rfl
theorem Z1i:callB Tryz.prog 80=true:=by kernel_rfl
theorem zyz:TriOf Tryz.prog 80 Tryz.f80 zoj:=triOf Tryz.func80 ztu
abbrev zgm:FuncId:=84
def z6h:Fm VE:=
 (.chk [] (.some (.atom 0))
 (.load (.padd (.atom 0) 0) [.ptr]
 (.chk [] (.some (.atom 2))
 (.call (.fn 51) [(.sc (.padd (.atom 2) 0)),.sc (.atom 1)] (.tu []) []
 (.load (.padd (.atom 0) 0) [.ptr]
 (.chk [] (.some (.atom 3))
 (.load (.padd (.padd (.atom 0) 1) 0) [.int .i64]
 (.call (.fn 57) [(.sc (.padd (.atom 3) 0)),.sc (.int .i64 26),.sc (.atom 4)] (.tu []) []
 (.load (.padd (.atom 0) 0) [.ptr]
 (.chk [] (.some (.atom 5))
 (.call (.fn 127) [.sc (.int .i64 91)] (.sc (.int .i64)) [((.padd (.atom 0) 0),[.atom 5])]
 (.call (.fn 59) [(.sc (.padd (.atom 5) 0)),.sc (.int .i64 25),.sc (.int .i64 26),.sc (.int .i64 28),.sc (.atom 6)] (.tu []) []
 (.join 3 []
 (.load (.padd (.atom 0) 6) [.int .i64]
 (.loop 6 [.int .i64] [.int .i64 0]
 (.ite (.cmp .lss (.atom 8) (.atom 7))
 (.load (.padd (.atom 0) 0) [.ptr]
 (.chk [] (.some (.atom 9))
 (.call (.fn 54) [(.sc (.padd (.atom 9) 0)),.sc (.int .i64 0),.sc (.int .i64 30),.sc (.atom 8)] (.tu []) []
 (.next 6 [(.ar .add .i64 (.atom 8) (.int .i64 1))]))))
 (.load (.padd (.atom 0) 6) [.int .i64]
 (.call (.fn 128) [.sc (.atom 0),.sc (.atom 9)] (.tu []) []
 (.load (.padd (.atom 0) 1) [.int .i64,.int .i64,.int .i64,.sl]
 (.call (.fn 129) [(.ag [.atom 10,.atom 11,.atom 12,.atom 13])] (.sc .sl) []
 (.chk [] (.inSl (.atom 14) (.int .i64 0))
 (.load (.elt (.atom 14) (.int .i64 0) 1) [.sl]
 (.loop 14 [.sl,.int .i64] [(.nil 1),.int .i64 0]
 (.ite (.cmp .lss (.atom 17) (.len (.atom 15)))
 (.join 17 [.sl]
 (.next 14 [.atom 18,(.ar .add .i64 (.atom 17) (.int .i64 1))])
 (.chk [] (.inSl (.atom 15) (.atom 17))
 (.load (.elt (.atom 15) (.atom 17) 1) [.int .i64]
 (.load (.padd (.padd (.atom 0) 1) 0) [.int .i64]
 (.ite (.cmp .geq (.atom 18) (.atom 19))
 (.next 17 [.atom 16])
 (.call (.fn 126) [.sc (.atom 0),.sc (.atom 18)] (.sc .bool) []
 (.ite (.atom 20)
 (.call (.fn 130) [.sc (.atom 0),.sc (.atom 18)] (.sc (.int .i64)) []
 (.sem (.buildSlice 184 1 #[(0,(.tmp 155))]) 184 [(155,(.ag [.atom 21,(.ar .add .i64 (.int .i64 1) (.atom 18))]))] (.sc .sl) []
 (.sem (.call ⟨.builtin .append,#[.tmp 149,.tmp 156],#[184,184]⟩) 184 [(149,(.sc (.atom 16))),(156,(.sc (.atom 22)))] (.sc .sl) []
 (.next 17 [.atom 23]))))
 (.load (.padd (.atom 0) 0) [.ptr]
 (.chk [] (.some (.atom 21))
 (.call (.fn 131) [.sc (.atom 0),.sc (.atom 18)] (.sc (.int .i64)) [((.padd (.atom 0) 0),[.atom 21])]
 (.call (.fn 54) [(.sc (.padd (.atom 21) 0)),(.sc (.ar .add .i64 (.int .i64 1) (.atom 18))),.sc (.int .i64 30),.sc (.atom 22)] (.tu []) []
 (.next 17 [.atom 16]))))))))))))
 (.call (.fn 132) [.sc (.atom 0),.sc (.atom 16)] (.tu []) []
 (.loop 19 [.int .i64] [.int .i64 0]
 (.ite (.cmp .lss (.atom 18) (.len (.atom 15)))
 (.join 22 []
 (.next 19 [(.ar .add .i64 (.atom 18) (.int .i64 1))])
 (.chk [] (.inSl (.atom 15) (.atom 18))
 (.load (.elt (.atom 15) (.atom 18) 1) [.int .i64]
 (.load (.padd (.padd (.atom 0) 1) 0) [.int .i64]
 (.ite (.cmp .geq (.atom 19) (.atom 20))
 (.call (.fn 34) [.sc (.int .i64 5)] (.sc (.int .i64)) []
 (.call (.fn 133) [.sc (.atom 0),.sc (.atom 19),.sc (.atom 21)] (.tu []) []
 (.next 22 [])))
 (.next 22 []))))))
 (.leaf (.tu []))))))))))))))))
 (.call (.fn 40) [.sc (.atom 0)] (.sc (.int .i64)) []
 (.ite (.cmp .gtr (.atom 7) (.int .i64 0))
 (.load (.padd (.atom 0) 0) [.ptr]
 (.call (.fn 42) [.sc (.atom 8)] (.sc (.int .i64)) []
 (.load (.padd (.atom 0) 0) [.ptr]
 (.chk [] (.some (.atom 10))
 (.load (.padd (.atom 0) 0) [.ptr]
 (.chk [] (.some (.atom 11))
 (.load (.padd (.atom 11) 4) [.int .i64]
 (.call (.fn 57) [(.sc (.padd (.atom 10) 0)),.sc (.int .i64 27),(.sc (.ar .sub .i64 (.ar .add .i64 (.int .i64 32) (.atom 12)) (.atom 7)))] (.tu []) []
 (.load (.padd (.atom 0) 0) [.ptr]
 (.chk [] (.some (.atom 13))
 (.call (.fn 59) [(.sc (.padd (.atom 13) 0)),.sc (.int .i64 27),.sc (.int .i64 27),.sc (.int .i64 30),.sc (.atom 9)] (.tu []) []
 (.load (.padd (.atom 0) 0) [.ptr]
 (.chk [] (.some (.atom 14))
 (.call (.fn 58) [(.sc (.padd (.atom 14) 0)),.sc (.int .i64 31),.sc (.int .i64 6)] (.tu []) []
 (.load (.padd (.atom 0) 0) [.ptr]
 (.chk [] (.some (.atom 15))
 (.call (.fn 51) [(.sc (.padd (.atom 15) 0)),.sc (.atom 9)] (.tu []) []
 (.next 3 []))))))))))))))))))
 (.next 3 []))))))))))))))))
theorem zbo:execF Tryz.prog { pub:=[],nojoin:=false } Tryz.f84=z6h:=by kernel_rfl
theorem zfg:callB Tryz.prog 84=true:=by kernel_rfl
theorem zeb:TriOf Tryz.prog 84 Tryz.f84 z6h:=triOf Tryz.func84 zbo
abbrev zjx:FuncId:=85
def z8t:Fm VE:=
 (.ite (.scmp .eql (.atom 1) (.str [99,111,110,115,116]))
 (.chk [] (.some (.atom 0))
 (.load (.padd (.atom 0) 0) [.ptr]
 (.chk [] (.some (.atom 9))
 (.load (.padd (.atom 9) 1) [.sl]
 (.call (.fn 134) [(.ag [.atom 4,.atom 5,.atom 6,.atom 7]),.sc (.atom 10)] (.sc (.int .i64)) []
 (.call (.fn 133) [.sc (.atom 0),.sc (.atom 2),.sc (.atom 11)] (.tu []) []
 (.leaf (.tu []))))))))
 (.ite (.scmp .eql (.atom 1) (.str [109,111,118,101]))
 (.chk [] (.inSl (.atom 3) (.int .i64 0))
 (.load (.elt (.atom 3) (.int .i64 0) 1) [.int .i64]
 (.call (.fn 136) [.sc (.atom 0),.sc (.atom 9),.sc (.int .i64 26)] (.sc (.int .i64)) []
 (.call (.fn 135) [.sc (.atom 0),.sc (.atom 2),.sc (.atom 10)] (.tu []) []
 (.leaf (.tu []))))))
 (.ite (.scmp .eql (.atom 1) (.str [104,101,108,100]))
 (.chk [] (.some (.atom 0))
 (.load (.padd (.atom 0) 0) [.ptr]
 (.chk [] (.some (.atom 9))
 (.call (.fn 97) [(.sc (.padd (.atom 9) 0)),.sc (.int .i64 19),.sc (.int .i64 26),.sc (.int .i64 25),.sc (.int .i64 3)] (.tu []) []
 (.load (.padd (.atom 0) 0) [.ptr]
 (.chk [] (.some (.atom 10))
 (.call (.fn 55) [(.sc (.padd (.atom 10) 0)),.sc (.int .i64 26),.sc (.int .i64 26),(.sc (.ar .add .i64 (.int .i64 2) (.atom 8)))] (.tu []) []
 (.call (.fn 135) [.sc (.atom 0),.sc (.atom 2),.sc (.int .i64 26)] (.tu []) []
 (.leaf (.tu []))))))))))
 (.ite (.scmp .eql (.atom 1) (.str [99,108,111,115,117,114,101]))
 (.call (.fn 137) [.sc (.atom 0),(.ag [.atom 1,.atom 2,.atom 3,.atom 4,.atom 5,.atom 6,.atom 7,.atom 8])] (.tu []) []
 (.leaf (.tu [])))
 (.ite (.scmp .eql (.atom 1) (.str [116,105,101]))
 (.call (.fn 138) [.sc (.atom 0),(.ag [.atom 1,.atom 2,.atom 3,.atom 4,.atom 5,.atom 6,.atom 7,.atom 8])] (.tu []) []
 (.leaf (.tu [])))
 (.join 7 [.bool]
 (.ite (.atom 9)
 (.call (.fn 139) [.sc (.atom 0),(.ag [.atom 1,.atom 2,.atom 3,.atom 4,.atom 5,.atom 6,.atom 7,.atom 8])] (.tu []) []
 (.leaf (.tu [])))
 (.join 8 [.bool]
 (.ite (.atom 10)
 (.call (.fn 140) [.sc (.atom 0),(.ag [.atom 1,.atom 2,.atom 3,.atom 4,.atom 5,.atom 6,.atom 7,.atom 8])] (.tu []) []
 (.leaf (.tu [])))
 (.ite (.scmp .eql (.atom 1) (.str [99,111,110,115]))
 (.call (.fn 141) [.sc (.atom 0),(.ag [.atom 1,.atom 2,.atom 3,.atom 4,.atom 5,.atom 6,.atom 7,.atom 8]),.sc (.int .i64 1)] (.tu []) []
 (.leaf (.tu [])))
 (.ite (.scmp .eql (.atom 1) (.str [37,98,111,120]))
 (.call (.fn 141) [.sc (.atom 0),(.ag [.atom 1,.atom 2,.atom 3,.atom 4,.atom 5,.atom 6,.atom 7,.atom 8]),.sc (.int .i64 4)] (.tu []) []
 (.leaf (.tu [])))
 (.ite (.pick (.scmp .eql (.atom 1) (.str [99,97,114])) (.scmp .eql (.atom 1) (.str [99,97,114])) (.scmp .eql (.atom 1) (.str [115,101,116,45,99,97,114,33])))
 (.call (.fn 142) [.sc (.atom 0),(.ag [.atom 1,.atom 2,.atom 3,.atom 4,.atom 5,.atom 6,.atom 7,.atom 8]),.sc (.int .i64 1),.sc (.int .i64 0)] (.tu []) []
 (.leaf (.tu [])))
 (.ite (.pick (.scmp .eql (.atom 1) (.str [99,100,114])) (.scmp .eql (.atom 1) (.str [99,100,114])) (.scmp .eql (.atom 1) (.str [115,101,116,45,99,100,114,33])))
 (.call (.fn 142) [.sc (.atom 0),(.ag [.atom 1,.atom 2,.atom 3,.atom 4,.atom 5,.atom 6,.atom 7,.atom 8]),.sc (.int .i64 1),.sc (.int .i64 1)] (.tu []) []
 (.leaf (.tu [])))
 (.ite (.pick (.scmp .eql (.atom 1) (.str [37,117,110,98,111,120])) (.scmp .eql (.atom 1) (.str [37,117,110,98,111,120])) (.scmp .eql (.atom 1) (.str [37,115,101,116,45,98,111,120,33])))
 (.call (.fn 142) [.sc (.atom 0),(.ag [.atom 1,.atom 2,.atom 3,.atom 4,.atom 5,.atom 6,.atom 7,.atom 8]),.sc (.int .i64 4),.sc (.int .i64 0)] (.tu []) []
 (.leaf (.tu [])))
 (.ite (.scmp .eql (.atom 1) (.str [109,97,107,101,45,118,101,99,116,111,114]))
 (.call (.fn 143) [.sc (.atom 0),(.ag [.atom 1,.atom 2,.atom 3,.atom 4,.atom 5,.atom 6,.atom 7,.atom 8]),.sc (.int .i64 2)] (.tu []) []
 (.leaf (.tu [])))
 (.ite (.scmp .eql (.atom 1) (.str [109,97,107,101,45,115,116,114,105,110,103]))
 (.call (.fn 143) [.sc (.atom 0),(.ag [.atom 1,.atom 2,.atom 3,.atom 4,.atom 5,.atom 6,.atom 7,.atom 8]),.sc (.int .i64 3)] (.tu []) []
 (.leaf (.tu [])))
 (.call (.fn 144) [.sc (.atom 0),(.ag [.atom 1,.atom 2,.atom 3,.atom 4,.atom 5,.atom 6,.atom 7,.atom 8])] (.tu []) []
 (.leaf (.tu [])))))))))))
 (.ite (.scmp .eql (.atom 1) (.str [60]))
 (.next 8 [(.scmp .eql (.atom 1) (.str [60]))])
 (.next 8 [(.pick (.scmp .eql (.atom 1) (.str [61])) (.scmp .eql (.atom 1) (.str [61])) (.scmp .eql (.atom 1) (.str [101,113,63])))]))))
 (.ite (.scmp .eql (.atom 1) (.str [43]))
 (.next 7 [(.scmp .eql (.atom 1) (.str [43]))])
 (.ite (.scmp .eql (.atom 1) (.str [45]))
 (.next 7 [(.scmp .eql (.atom 1) (.str [45]))])
 (.ite (.scmp .eql (.atom 1) (.str [42]))
 (.next 7 [(.scmp .eql (.atom 1) (.str [42]))])
 (.next 7 [(.pick (.scmp .eql (.atom 1) (.str [113,117,111,116,105,101,110,116])) (.scmp .eql (.atom 1) (.str [113,117,111,116,105,101,110,116])) (.scmp .eql (.atom 1) (.str [114,101,109,97,105,110,100,101,114])))]))))))))))
theorem zdx:execF Tryz.prog { pub:=[],nojoin:=false } Tryz.f85=z8t:=by kernel_rfl
theorem zil:callB Tryz.prog 85=true:=by kernel_rfl
theorem zhb:TriOf Tryz.prog 85 Tryz.f85 z8t:=triOf Tryz.func85 zdx
abbrev zjy:FuncId:=86
def z8j:Fm VE:=
 (.ite (.cmp .eql (.atom 2) (.int .i64 0))
 (.chk [] (.some (.atom 0))
 (.load (.padd (.atom 0) 0) [.ptr]
 (.chk [] (.some (.atom 8))
 (.load (.padd (.atom 0) 7) [.sl]
 (.chk [] (.inSl (.atom 9) (.atom 6))
 (.load (.elt (.atom 9) (.atom 6) 1) [.int .i64]
 (.call (.fn 60) [(.sc (.padd (.atom 8) 0)),.sc (.atom 10)] (.tu []) []
 (.leaf (.tu [])))))))))
 (.ite (.cmp .eql (.atom 2) (.int .i64 1))
 (.call (.fn 136) [.sc (.atom 0),.sc (.atom 3),.sc (.int .i64 26)] (.sc (.int .i64)) []
 (.chk [] (.some (.atom 0))
 (.load (.padd (.atom 0) 0) [.ptr]
 (.chk [] (.some (.atom 9))
 (.call (.fn 34) [.sc (.int .i64 0)] (.sc (.int .i64)) [((.padd (.atom 0) 0),[.atom 9])]
 (.call (.fn 57) [(.sc (.padd (.atom 9) 0)),.sc (.int .i64 28),.sc (.atom 10)] (.tu []) []
 (.load (.padd (.atom 0) 0) [.ptr]
 (.chk [] (.some (.atom 11))
 (.load (.padd (.atom 0) 7) [.sl]
 (.chk [] (.inSl (.atom 12) (.atom 7))
 (.load (.elt (.atom 12) (.atom 7) 1) [.int .i64]
 (.call (.fn 59) [(.sc (.padd (.atom 11) 0)),.sc (.int .i64 24),.sc (.atom 8),.sc (.int .i64 28),.sc (.atom 13)] (.tu []) []
 (.load (.padd (.atom 0) 0) [.ptr]
 (.chk [] (.some (.atom 14))
 (.load (.padd (.atom 0) 7) [.sl]
 (.chk [] (.inSl (.atom 15) (.atom 6))
 (.load (.elt (.atom 15) (.atom 6) 1) [.int .i64]
 (.call (.fn 60) [(.sc (.padd (.atom 14) 0)),.sc (.atom 16)] (.tu []) []
 (.leaf (.tu []))))))))))))))))))))
 (.ite (.cmp .eql (.atom 2) (.int .i64 2))
 (.chk [] (.some (.atom 0))
 (.load (.padd (.atom 0) 0) [.ptr]
 (.chk [] (.some (.atom 8))
 (.call (.fn 136) [.sc (.atom 0),.sc (.atom 3),.sc (.int .i64 26)] (.sc (.int .i64)) [((.padd (.atom 0) 0),[.atom 8])]
 (.call (.fn 56) [(.sc (.padd (.atom 8) 0)),.sc (.int .i64 1),.sc (.atom 9)] (.tu []) []
 (.load (.padd (.atom 0) 6) [.int .i64]
 (.call (.fn 128) [.sc (.atom 0),(.sc (.ar .sub .i64 (.int .i64 0) (.atom 10)))] (.tu []) []
 (.load (.padd (.atom 0) 0) [.ptr]
 (.chk [] (.some (.atom 11))
 (.call (.fn 60) [(.sc (.padd (.atom 11) 0)),.sc (.int .i64 4)] (.tu []) []
 (.leaf (.tu []))))))))))))
 (.ite (.pick (.cmp .eql (.atom 2) (.int .i64 3)) (.cmp .eql (.atom 2) (.int .i64 3)) (.cmp .eql (.atom 2) (.int .i64 5)))
 (.call (.fn 145) [.sc (.atom 0),.sc (.atom 3),.sc (.atom 4)] (.tu []) []
 (.chk [] (.some (.atom 0))
 (.load (.padd (.atom 0) 6) [.int .i64]
 (.call (.fn 128) [.sc (.atom 0),(.sc (.ar .sub .i64 (.int .i64 0) (.atom 8)))] (.tu []) []
 (.ite (.cmp .eql (.atom 2) (.int .i64 3))
 (.load (.padd (.atom 0) 0) [.ptr]
 (.chk [] (.some (.atom 9))
 (.call (.fn 60) [(.sc (.padd (.atom 9) 0)),.sc (.int .i64 3)] (.tu []) []
 (.leaf (.tu [])))))
 (.load (.padd (.atom 0) 0) [.ptr]
 (.chk [] (.some (.atom 9))
 (.call (.fn 60) [(.sc (.padd (.atom 9) 0)),.sc (.int .i64 7)] (.tu []) []
 (.leaf (.tu []))))))))))
 (.ite (.cmp .eql (.atom 2) (.int .i64 4))
 (.call (.fn 146) [.sc (.atom 0),.sc (.atom 1),(.ag [.atom 2,.atom 3,.atom 4,.atom 5,.atom 6,.atom 7]),.sc (.int .i64 3)] (.tu []) []
 (.leaf (.tu [])))
 (.ite (.cmp .eql (.atom 2) (.int .i64 6))
 (.call (.fn 146) [.sc (.atom 0),.sc (.atom 1),(.ag [.atom 2,.atom 3,.atom 4,.atom 5,.atom 6,.atom 7]),.sc (.int .i64 7)] (.tu []) []
 (.leaf (.tu [])))
 (.leaf (.tu []))))))))
theorem zdz:execF Tryz.prog { pub:=[],nojoin:=false } Tryz.f86=z8j:=by kernel_rfl
theorem zhr:callB Tryz.prog 86=true:=by kernel_rfl
theorem zhe:TriOf Tryz.prog 86 Tryz.f86 z8j:=triOf Tryz.func86 zdz
abbrev zxv:FuncId:=93
def zki:Fm VE:=
 (.call (.fn 151) [.sc (.atom 0),.sc (.atom 1),.sc (.atom 2)] (.tu []) []
 (.call (.fn 97) [.sc (.atom 0),.sc (.int .i64 18),.sc (.atom 1),.sc (.atom 1),.sc (.atom 3)] (.tu []) []
 (.leaf (.tu []))))
theorem zq3:execF Tryz.prog { pub:=[],nojoin:=false } Tryz.f93=zki:=by kernel_rfl
theorem zdc:callB Tryz.prog 93=true:=by kernel_rfl
theorem zum:TriOf Tryz.prog 93 Tryz.f93 zki:=triOf Tryz.func93 zq3
abbrev Z4a:FuncId:=94
def zpu:Fm VE:=
 (.call (.fn 57) [.sc (.atom 0),.sc (.int .i64 26),.sc (.atom 1)] (.tu []) []
 (.call (.fn 58) [.sc (.atom 0),.sc (.int .i64 31),.sc (.int .i64 2)] (.tu []) []
 (.leaf (.tu []))))
theorem zuq:execF Tryz.prog { pub:=[],nojoin:=false } Tryz.f94=zpu:=by kernel_rfl
theorem zpm:callB Tryz.prog 94=true:=by kernel_rfl
theorem zza:TriOf Tryz.prog 94 Tryz.f94 zpu:=triOf Tryz.func94 zuq
abbrev Z5b:FuncId:=95
def zo8:Fm VE:=
 (.leaf (.sc (.ar .or .i64 (.ar .shl .i64 (.ar .or .i64 (.ar .shl .i64 (.atom 1) (.int .u64 3)) (.atom 0)) (.int .u64 3)) (.int .i64 7))))
theorem zty:execF Tryz.prog { pub:=[],nojoin:=false } Tryz.f95=zo8:=by kernel_rfl
theorem zq6:callB Tryz.prog 95=true:=by kernel_rfl
theorem zzq:TriOf Tryz.prog 95 Tryz.f95 zo8:=triOf Tryz.func95 zty
abbrev Z3u:FuncId:=96
def zpi:Fm VE:=
 (.call (.fn 97) [.sc (.atom 0),.sc (.int .i64 18),.sc (.atom 1),.sc (.int .i64 29),.sc (.int .i64 3)] (.tu []) []
 (.call (.fn 97) [.sc (.atom 0),.sc (.int .i64 17),.sc (.atom 1),.sc (.atom 1),.sc (.int .i64 1)] (.tu []) []
 (.call (.fn 97) [.sc (.atom 0),.sc (.int .i64 15),.sc (.int .i64 29),.sc (.int .i64 29),.sc (.atom 2)] (.tu []) []
 (.leaf (.tu [])))))
theorem ztz:execF Tryz.prog { pub:=[],nojoin:=false } Tryz.f96=zpi:=by kernel_rfl
theorem zpl:callB Tryz.prog 96=true:=by kernel_rfl
theorem zy9:TriOf Tryz.prog 96 Tryz.f96 zpi:=triOf Tryz.func96 ztz
abbrev zi3:FuncId:=97
def z7r:Fm VE:=
 (.call (.fn 99) [.sc (.atom 0),(.ag [.int .i64 0,.atom 1,.atom 2,.atom 3,.int .i64 0,.atom 4,.int .i64 0,.int .i64 0])] (.tu []) []
 (.leaf (.tu [])))
theorem zcd:execF Tryz.prog { pub:=[],nojoin:=false } Tryz.f97=z7r:=by kernel_rfl
theorem z08:callB Tryz.prog 97=true:=by kernel_rfl
theorem zfp:TriOf Tryz.prog 97 Tryz.f97 z7r:=triOf Tryz.func97 zcd
abbrev Z2k:FuncId:=98
def zma:Fm VE:=
 (.call (.fn 55) [.sc (.atom 0),.sc (.int .i64 26),.sc (.int .i64 30),(.sc (.int .i64 (-1)))] (.tu []) []
 (.call (.fn 97) [.sc (.atom 0),.sc (.int .i64 19),.sc (.int .i64 26),.sc (.int .i64 26),.sc (.int .i64 3)] (.tu []) []
 (.call (.fn 97) [.sc (.atom 0),.sc (.int .i64 16),.sc (.int .i64 26),.sc (.int .i64 26),.sc (.int .i64 4095)] (.tu []) []
 (.call (.fn 97) [.sc (.atom 0),.sc (.int .i64 15),.sc (.int .i64 27),.sc (.int .i64 26),.sc (.int .i64 2)] (.tu []) []
 (.call (.fn 97) [.sc (.atom 0),.sc (.int .i64 18),.sc (.int .i64 27),.sc (.int .i64 27),.sc (.int .i64 3)] (.tu []) []
 (.call (.fn 97) [.sc (.atom 0),.sc (.int .i64 17),.sc (.int .i64 27),.sc (.int .i64 27),.sc (.int .i64 6)] (.tu []) []
 (.call (.fn 97) [.sc (.atom 0),.sc (.int .i64 18),.sc (.int .i64 27),.sc (.int .i64 27),.sc (.int .i64 3)] (.tu []) []
 (.call (.fn 97) [.sc (.atom 0),.sc (.int .i64 17),.sc (.int .i64 27),.sc (.int .i64 27),.sc (.int .i64 7)] (.tu []) []
 (.call (.fn 54) [.sc (.atom 0),.sc (.int .i64 27),.sc (.int .i64 29),.sc (.int .i64 0)] (.tu []) []
 (.call (.fn 97) [.sc (.atom 0),.sc (.int .i64 15),.sc (.int .i64 26),.sc (.int .i64 26),.sc (.int .i64 1)] (.tu []) []
 (.call (.fn 62) [.sc (.atom 0),.sc (.int .i64 2),.sc (.int .i64 28),.sc (.int .i64 30),.sc (.int .i64 26)] (.tu []) []
 (.call (.fn 57) [.sc (.atom 0),.sc (.int .i64 27),.sc (.int .i64 33)] (.tu []) []
 (.call (.fn 59) [.sc (.atom 0),.sc (.int .i64 24),.sc (.int .i64 28),.sc (.int .i64 27),.sc (.int .i64 2005)] (.tu []) []
 (.call (.fn 62) [.sc (.atom 0),.sc (.int .i64 1),.sc (.int .i64 27),.sc (.int .i64 29),.sc (.int .i64 26)] (.tu []) []
 (.call (.fn 97) [.sc (.atom 0),.sc (.int .i64 15),.sc (.int .i64 27),.sc (.int .i64 27),.sc (.int .i64 2)] (.tu []) []
 (.call (.fn 97) [.sc (.atom 0),.sc (.int .i64 18),.sc (.int .i64 27),.sc (.int .i64 27),.sc (.int .i64 3)] (.tu []) []
 (.call (.fn 97) [.sc (.atom 0),.sc (.int .i64 17),.sc (.int .i64 27),.sc (.int .i64 27),.sc (.int .i64 1)] (.tu []) []
 (.call (.fn 54) [.sc (.atom 0),.sc (.int .i64 27),.sc (.int .i64 29),.sc (.int .i64 1)] (.tu []) []
 (.call (.fn 60) [.sc (.atom 0),.sc (.int .i64 2006)] (.tu []) []
 (.call (.fn 51) [.sc (.atom 0),.sc (.int .i64 2005)] (.tu []) []
 (.call (.fn 54) [.sc (.atom 0),.sc (.int .i64 31),.sc (.int .i64 29),.sc (.int .i64 1)] (.tu []) []
 (.call (.fn 51) [.sc (.atom 0),.sc (.int .i64 2006)] (.tu []) []
 (.call (.fn 97) [.sc (.atom 0),.sc (.int .i64 15),.sc (.int .i64 29),.sc (.int .i64 29),.sc (.int .i64 2)] (.tu []) []
 (.call (.fn 56) [.sc (.atom 0),.sc (.int .i64 30),.sc (.int .i64 28)] (.tu []) []
 (.call (.fn 51) [.sc (.atom 0),.sc (.int .i64 2002)] (.tu []) []
 (.call (.fn 59) [.sc (.atom 0),.sc (.int .i64 24),.sc (.int .i64 26),.sc (.int .i64 0),.sc (.int .i64 2003)] (.tu []) []
 (.call (.fn 55) [.sc (.atom 0),.sc (.int .i64 27),.sc (.int .i64 30),.sc (.int .i64 0)] (.tu []) []
 (.call (.fn 54) [.sc (.atom 0),.sc (.int .i64 27),.sc (.int .i64 29),.sc (.int .i64 0)] (.tu []) []
 (.call (.fn 97) [.sc (.atom 0),.sc (.int .i64 15),.sc (.int .i64 30),.sc (.int .i64 30),.sc (.int .i64 1)] (.tu []) []
 (.call (.fn 97) [.sc (.atom 0),.sc (.int .i64 15),.sc (.int .i64 29),.sc (.int .i64 29),.sc (.int .i64 1)] (.tu []) []
 (.call (.fn 97) [.sc (.atom 0),.sc (.int .i64 15),.sc (.int .i64 26),.sc (.int .i64 26),(.sc (.int .i64 (-1)))] (.tu []) []
 (.call (.fn 60) [.sc (.atom 0),.sc (.int .i64 2002)] (.tu []) []
 (.call (.fn 51) [.sc (.atom 0),.sc (.int .i64 2003)] (.tu []) []
 (.call (.fn 56) [.sc (.atom 0),.sc (.int .i64 30),.sc (.int .i64 28)] (.tu []) []
 (.leaf (.tu []))))))))))))))))))))))))))))))))))))
theorem zsa:execF Tryz.prog { pub:=[],nojoin:=false } Tryz.f98=zma:=by kernel_rfl
theorem zyy:callB Tryz.prog 98=true:=by kernel_rfl
theorem zvd:TriOf Tryz.prog 98 Tryz.f98 zma:=triOf Tryz.func98 zsa
abbrev zjz:FuncId:=99
def z8w:Fm VE:=
 (.chk [] (.some (.atom 0))
 (.load (.padd (.atom 0) 0) [.sl]
 (.sem (.buildSlice 50 1 #[(0,(.tmp 9))]) 50 [(9,(.ag [.atom 1,.atom 2,.atom 3,.atom 4,.atom 5,.atom 6,.atom 7,.atom 8]))] (.sc .sl) [((.padd (.atom 0) 0),[.atom 9])]
 (.sem (.call ⟨.builtin .append,#[.tmp 8,.tmp 10],#[50,50]⟩) 50 [(8,(.sc (.atom 9))),(10,(.sc (.atom 10)))] (.sc .sl) []
 (.store (.padd (.atom 0) 0) [.atom 11]
 (.leaf (.tu [])))))))
theorem zdn:execF Tryz.prog { pub:=[],nojoin:=false } Tryz.f99=z8w:=by kernel_rfl
theorem z1l:callB Tryz.prog 99=true:=by kernel_rfl
theorem zhj:TriOf Tryz.prog 99 Tryz.f99 z8w:=triOf Tryz.func99 zdn
abbrev Z6f:FuncId:=119
def zt2:Fm VE:=
 (.call (.fn 164) [.sc (.atom 5)] (.sc (.int .i64)) []
 (.sem (.buildSlice 29 1 #[(0,(.tmp 18))]) 29 [(18,(.sc (.atom 6)))] (.sc .sl) []
 (.call (.fn 165) [(.ag [.atom 1,.atom 2,.atom 3,.atom 4]),.sc (.atom 14)] (.sc .bool) []
 (.join 3 [.int .i64,.bool,.bool]
 (.join 4 [.bool]
 (.leaf (.sc (.atom 19)))
 (.ite (.pick (.pick (.cmp .eql (.len (.atom 7)) (.atom 16)) (.atom 17) (.bool false)) (.atom 18) (.bool false))
 (.call (.fn 165) [(.ag [.atom 1,.atom 2,.atom 3,.atom 4]),.sc (.atom 7)] (.sc .bool) []
 (.ite (.atom 19)
 (.call (.fn 167) [(.ag [.atom 8,.atom 9,.atom 10,.atom 11]),(.ag [.int .i64 0,.int .i64 0,(.str []),(.nil 1)])] (.sc .bool) []
 (.next 4 [.atom 20]))
 (.next 4 [.bool false])))
 (.next 4 [.bool false])))
 (.ite (.scmp .eql (.atom 5) (.str [99,111,110,115,116]))
 (.join 6 [.bool]
 (.leaf (.sc (.atom 16)))
 (.ite (.pick (.pick (.cmp .eql (.len (.atom 7)) (.int .i64 0)) (.cmp .eql (.atom 12) (.int .i64 0)) (.bool false)) (.atom 15) (.bool false))
 (.call (.fn 166) [(.ag [.atom 8,.atom 9,.atom 10,.atom 11])] (.sc .bool) []
 (.next 6 [.atom 16]))
 (.next 6 [.bool false])))
 (.ite (.scmp .eql (.atom 5) (.str [109,111,118,101]))
 (.next 3 [.int .i64 1,(.cmp .eql (.atom 12) (.int .i64 0)),.atom 15])
 (.ite (.scmp .eql (.atom 5) (.str [104,101,108,100]))
 (.next 3 [.int .i64 0,(.pick (.cmp .geq (.atom 12) (.int .i64 0)) (.cmp .lss (.atom 12) (.atom 2)) (.bool false)),.atom 15])
 (.ite (.scmp .eql (.atom 5) (.str [99,108,111,115,117,114,101]))
 (.ite (.pick (.cmp .lss (.atom 12) (.int .i64 1)) (.bool true) (.cmp .geq (.atom 12) (.len (.atom 0))))
 (.leaf (.sc (.bool false)))
 (.chk [] (.inSl (.atom 0) (.atom 12))
 (.load (.padd (.elt (.atom 0) (.atom 12) 4) 1) [.int .i64]
 (.next 3 [.atom 16,.bool true,.atom 15]))))
 (.ite (.scmp .eql (.atom 5) (.str [116,105,101]))
 (.next 3 [.int .i64 2,(.cmp .geq (.atom 12) (.int .i64 0)),(.cmp .eql (.atom 6) (.int .i64 0))])
 (.ite (.scmp .eql (.atom 5) (.str [37,99,97,108,108,99,99]))
 (.leaf (.sc (.bool false)))
 (.next 3 [.atom 13,(.cmp .eql (.atom 12) (.int .i64 0)),.atom 15])))))))))))
theorem zxh:execF Tryz.prog { pub:=[],nojoin:=false } Tryz.f119=zt2:=by kernel_rfl
theorem Z4f:callB Tryz.prog 119=true:=by kernel_rfl
theorem Z1w:TriOf Tryz.prog 119 Tryz.f119 zt2:=triOf Tryz.func119 zxh
abbrev Z76:FuncId:=120
def zsl:Fm VE:=
 (.join 1 [.bool]
 (.sem (.buildSlice 29 1 #[(0,(.tmp 24))]) 29 [(24,(.sc (.atom 8)))] (.sc .sl) []
 (.call (.fn 168) [(.ag [.atom 0,.atom 1,.atom 2,.atom 3]),.sc (.atom 11)] (.sc .bool) []
 (.ite (.cmp .eql (.atom 4) (.int .i64 0))
 (.leaf (.sc (.pick (.pick (.pick (.pick (.atom 12) (.cmp .eql (.len (.atom 6)) (.int .i64 0)) (.bool false)) (.cmp .eql (.atom 5) (.int .i64 0)) (.bool false)) (.cmp .eql (.atom 7) (.int .i64 0)) (.bool false)) (.cmp .eql (.atom 9) (.int .i64 0)) (.bool false))))
 (.ite (.cmp .eql (.atom 4) (.int .i64 1))
 (.join 8 [.bool]
 (.leaf (.sc (.atom 13)))
 (.ite (.pick (.atom 12) (.cmp .eql (.len (.atom 6)) (.int .i64 0)) (.bool false))
 (.sem (.buildSlice 29 1 #[(0,(.tmp 59))]) 29 [(59,(.sc (.atom 5)))] (.sc .sl) []
 (.call (.fn 165) [(.ag [.atom 0,.atom 1,.atom 2,.atom 3]),.sc (.atom 13)] (.sc .bool) []
 (.ite (.atom 14)
 (.sem (.buildSlice 29 1 #[(0,(.tmp 66))]) 29 [(66,(.sc (.atom 9)))] (.sc .sl) []
 (.call (.fn 168) [(.ag [.atom 0,.atom 1,.atom 2,.atom 3]),.sc (.atom 15)] (.sc .bool) []
 (.next 8 [(.pick (.atom 16) (.cmp .eql (.atom 7) (.int .i64 0)) (.bool false))])))
 (.next 8 [.bool false]))))
 (.next 8 [.bool false])))
 (.ite (.pick (.cmp .eql (.atom 4) (.int .i64 2)) (.cmp .eql (.atom 4) (.int .i64 2)) (.cmp .eql (.atom 4) (.int .i64 5)))
 (.sem (.buildSlice 29 1 #[(0,(.tmp 80))]) 29 [(80,(.sc (.atom 5)))] (.sc .sl) []
 (.call (.fn 165) [(.ag [.atom 0,.atom 1,.atom 2,.atom 3]),.sc (.atom 13)] (.sc .bool) []
 (.leaf (.sc (.pick (.pick (.pick (.pick (.atom 14) (.cmp .eql (.len (.atom 6)) (.int .i64 0)) (.bool false)) (.cmp .eql (.atom 7) (.int .i64 0)) (.bool false)) (.cmp .eql (.atom 8) (.int .i64 0)) (.bool false)) (.cmp .eql (.atom 9) (.int .i64 0)) (.bool false))))))
 (.ite (.cmp .eql (.atom 4) (.int .i64 3))
 (.sem (.buildSlice 29 1 #[(0,(.tmp 105))]) 29 [(105,(.sc (.atom 5)))] (.sc .sl) []
 (.call (.fn 165) [(.ag [.atom 0,.atom 1,.atom 2,.atom 3]),.sc (.atom 13)] (.sc .bool) []
 (.leaf (.sc (.pick (.pick (.pick (.pick (.atom 14) (.atom 10) (.bool false)) (.cmp .eql (.atom 7) (.int .i64 0)) (.bool false)) (.cmp .eql (.atom 8) (.int .i64 0)) (.bool false)) (.cmp .eql (.atom 9) (.int .i64 0)) (.bool false))))))
 (.ite (.cmp .eql (.atom 4) (.int .i64 4))
 (.sem (.buildSlice 29 2 #[(0,(.tmp 130)),(1,(.tmp 132))]) 29 [(130,(.sc (.atom 5))),(132,(.sc (.atom 7)))] (.sc .sl) []
 (.call (.fn 165) [(.ag [.atom 0,.atom 1,.atom 2,.atom 3]),.sc (.atom 13)] (.sc .bool) []
 (.leaf (.sc (.pick (.pick (.pick (.atom 14) (.atom 10) (.bool false)) (.atom 12) (.bool false)) (.cmp .eql (.atom 9) (.int .i64 0)) (.bool false))))))
 (.ite (.cmp .eql (.atom 4) (.int .i64 6))
 (.sem (.buildSlice 29 2 #[(0,(.tmp 150)),(1,(.tmp 152))]) 29 [(150,(.sc (.atom 5))),(152,(.sc (.atom 7)))] (.sc .sl) []
 (.call (.fn 165) [(.ag [.atom 0,.atom 1,.atom 2,.atom 3]),.sc (.atom 13)] (.sc .bool) []
 (.leaf (.sc (.pick (.pick (.pick (.atom 14) (.cmp .eql (.len (.atom 6)) (.int .i64 0)) (.bool false)) (.atom 12) (.bool false)) (.cmp .eql (.atom 9) (.int .i64 0)) (.bool false))))))
 (.leaf (.sc (.bool false)))))))))))
 (.ite (.cmp .leq (.len (.atom 6)) (.int .i64 6))
 (.call (.fn 165) [(.ag [.atom 0,.atom 1,.atom 2,.atom 3]),.sc (.atom 6)] (.sc .bool) []
 (.next 1 [.atom 10]))
 (.next 1 [.bool false])))
theorem zw9:execF Tryz.prog { pub:=[],nojoin:=false } Tryz.f120=zsl:=by kernel_rfl
theorem Z5a:callB Tryz.prog 120=true:=by kernel_rfl
theorem Z2i:TriOf Tryz.prog 120 Tryz.f120 zsl:=triOf Tryz.func120 zw9
abbrev zd1:FuncId:=126
def z4z:Fm VE:=
 (.chk [] (.some (.atom 0))
 (.load (.padd (.atom 0) 5) [.sl]
 (.chk [] (.inSl (.atom 2) (.atom 1))
 (.load (.elt (.atom 2) (.atom 1) 1) [.int .i64]
 (.leaf (.sc (.cmp .lss (.atom 3) (.int .i64 24))))))))
theorem z9e:execF Tryz.prog { pub:=[],nojoin:=false } Tryz.f126=z4z:=by kernel_rfl
theorem z4y:callB Tryz.prog 126=true:=by kernel_rfl
theorem zaw:TriOf Tryz.prog 126 Tryz.f126 z4z:=triOf Tryz.func126 z9e
abbrev zuf:FuncId:=127
def zhc:Fm VE:=
 (.leaf (.sc (.ar .add .i64 (.int .i64 11) (.ar .sub .i64 (.atom 0) (.int .i64 80)))))
theorem zm0:execF Tryz.prog { pub:=[],nojoin:=false } Tryz.f127=zhc:=by kernel_rfl
theorem zqt:callB Tryz.prog 127=true:=by kernel_rfl
theorem zpr:TriOf Tryz.prog 127 Tryz.f127 zhc:=triOf Tryz.func127 zm0
abbrev z8p:FuncId:=128
def z7c:Fm VE:=
 (.ite (.cmp .neq (.atom 1) (.int .i64 0))
 (.chk [] (.some (.atom 0))
 (.load (.padd (.atom 0) 0) [.ptr]
 (.chk [] (.some (.atom 2))
 (.call (.fn 97) [(.sc (.padd (.atom 2) 0)),.sc (.int .i64 15),.sc (.int .i64 30),.sc (.int .i64 30),.sc (.atom 1)] (.tu []) []
 (.leaf (.tu []))))))
 (.leaf (.tu [])))
theorem zd7:execF Tryz.prog { pub:=[],nojoin:=false } Tryz.f128=z7c:=by kernel_rfl
theorem z80:callB Tryz.prog 128=true:=by kernel_rfl
theorem z6d:TriOf Tryz.prog 128 Tryz.f128 z7c:=triOf Tryz.func128 zd7
abbrev zjw:FuncId:=130
def z8r:Fm VE:=
 (.chk [] (.some (.atom 0))
 (.load (.padd (.atom 0) 5) [.sl]
 (.chk [] (.inSl (.atom 2) (.atom 1))
 (.load (.elt (.atom 2) (.atom 1) 1) [.int .i64]
 (.leaf (.sc (.ar .add .i64 (.int .i64 1) (.atom 3))))))))
theorem ze6:execF Tryz.prog { pub:=[],nojoin:=false } Tryz.f130=z8r:=by kernel_rfl
theorem z8i:callB Tryz.prog 130=true:=by kernel_rfl
theorem zgj:TriOf Tryz.prog 130 Tryz.f130 z8r:=triOf Tryz.func130 ze6
abbrev zi1:FuncId:=131
def z7v:Fm VE:=
 (.chk [] (.some (.atom 0))
 (.load (.padd (.atom 0) 5) [.sl]
 (.chk [] (.inSl (.atom 2) (.atom 1))
 (.load (.elt (.atom 2) (.atom 1) 1) [.int .i64]
 (.load (.padd (.atom 0) 6) [.int .i64]
 (.load (.padd (.atom 0) 8) [.int .i64]
 (.leaf (.sc (.ar .sub .i64 (.ar .sub .i64 (.ar .sub .i64 (.atom 3) (.int .i64 24)) (.atom 4)) (.atom 5))))))))))
theorem zce:execF Tryz.prog { pub:=[],nojoin:=false } Tryz.f131=z7v:=by kernel_rfl
theorem z85:callB Tryz.prog 131=true:=by kernel_rfl
theorem zfc:TriOf Tryz.prog 131 Tryz.f131 z7v:=triOf Tryz.func131 zce
abbrev zhg:FuncId:=132
def z6l:Fm VE:=
 (.call (.fn 179) [.sc (.atom 1),.sc (.int .i64 26)] (.tu [(false,[.sl]),(false,[.int .i64])]) []
 (.loop 2 [.int .i64] [.int .i64 0]
 (.ite (.cmp .lss (.atom 4) (.len (.atom 2)))
 (.chk [] (.inSl (.atom 2) (.atom 4))
 (.load (.elt (.atom 2) (.atom 4) 2) [.int .i64,.int .i64]
 (.chk [] (.some (.atom 0))
 (.load (.padd (.atom 0) 0) [.ptr]
 (.chk [] (.some (.atom 7))
 (.call (.fn 56) [(.sc (.padd (.atom 7) 0)),.sc (.atom 5),.sc (.atom 6)] (.tu []) []
 (.next 2 [(.ar .add .i64 (.atom 4) (.int .i64 1))])))))))
 (.leaf (.tu [])))))
theorem zbi:execF Tryz.prog { pub:=[],nojoin:=false } Tryz.f132=z6l:=by kernel_rfl
theorem zff:callB Tryz.prog 132=true:=by kernel_rfl
theorem zdv:TriOf Tryz.prog 132 Tryz.f132 z6l:=triOf Tryz.func132 zbi
abbrev zf0:FuncId:=133
def z5t:Fm VE:=
 (.call (.fn 126) [.sc (.atom 0),.sc (.atom 1)] (.sc .bool) []
 (.ite (.atom 3)
 (.chk [] (.some (.atom 0))
 (.load (.padd (.atom 0) 0) [.ptr]
 (.chk [] (.some (.atom 4))
 (.call (.fn 130) [.sc (.atom 0),.sc (.atom 1)] (.sc (.int .i64)) [((.padd (.atom 0) 0),[.atom 4])]
 (.call (.fn 57) [(.sc (.padd (.atom 4) 0)),.sc (.atom 5),.sc (.atom 2)] (.tu []) []
 (.leaf (.tu [])))))))
 (.chk [] (.some (.atom 0))
 (.load (.padd (.atom 0) 0) [.ptr]
 (.chk [] (.some (.atom 4))
 (.call (.fn 57) [(.sc (.padd (.atom 4) 0)),.sc (.int .i64 26),.sc (.atom 2)] (.tu []) []
 (.load (.padd (.atom 0) 0) [.ptr]
 (.chk [] (.some (.atom 5))
 (.call (.fn 131) [.sc (.atom 0),.sc (.atom 1)] (.sc (.int .i64)) [((.padd (.atom 0) 0),[.atom 5])]
 (.call (.fn 54) [(.sc (.padd (.atom 5) 0)),.sc (.int .i64 26),.sc (.int .i64 30),.sc (.atom 6)] (.tu []) []
 (.leaf (.tu []))))))))))))
theorem zal:execF Tryz.prog { pub:=[],nojoin:=false } Tryz.f133=z5t:=by kernel_rfl
theorem ze5:callB Tryz.prog 133=true:=by kernel_rfl
theorem zd9:TriOf Tryz.prog 133 Tryz.f133 z5t:=triOf Tryz.func133 zal
abbrev zv8:FuncId:=134
def zj6:Fm VE:=
 (.call (.fn 180) [(.ag [.atom 0,.atom 1,.atom 2,.atom 3])] (.tu [(true,[.int .i64,.int .i64,.str]),(false,[.bool])]) []
 (.call (.fn 10) [(.ag [.atom 5,.atom 6,.atom 7]),.sc (.atom 4)] (.tu [(false,[.int .i64]),(false,[.bool])]) []
 (.leaf (.sc (.atom 9)))))
theorem znp:execF Tryz.prog { pub:=[],nojoin:=false } Tryz.f134=zj6:=by kernel_rfl
theorem ztw:callB Tryz.prog 134=true:=by kernel_rfl
theorem zqr:TriOf Tryz.prog 134 Tryz.f134 zj6:=triOf Tryz.func134 znp
abbrev zk2:FuncId:=136
def z8g:Fm VE:=
 (.call (.fn 126) [.sc (.atom 0),.sc (.atom 1)] (.sc .bool) []
 (.ite (.atom 3)
 (.call (.fn 130) [.sc (.atom 0),.sc (.atom 1)] (.sc (.int .i64)) []
 (.leaf (.sc (.atom 4))))
 (.chk [] (.some (.atom 0))
 (.load (.padd (.atom 0) 0) [.ptr]
 (.chk [] (.some (.atom 4))
 (.call (.fn 131) [.sc (.atom 0),.sc (.atom 1)] (.sc (.int .i64)) [((.padd (.atom 0) 0),[.atom 4])]
 (.call (.fn 55) [(.sc (.padd (.atom 4) 0)),.sc (.atom 2),.sc (.int .i64 30),.sc (.atom 5)] (.tu []) []
 (.leaf (.sc (.atom 2))))))))))
theorem zdk:execF Tryz.prog { pub:=[],nojoin:=false } Tryz.f136=z8g:=by kernel_rfl
theorem zih:callB Tryz.prog 136=true:=by kernel_rfl
theorem zh7:TriOf Tryz.prog 136 Tryz.f136 z8g:=triOf Tryz.func136 zdk
abbrev zgs:FuncId:=151
def z6e:Fm VE:=
 (.call (.fn 99) [.sc (.atom 0),(.ag [.int .i64 5,.int .i64 20,.atom 1,.int .i64 0,.int .i64 0,.int .i64 0,.atom 2,.int .i64 0])] (.tu []) []
 (.leaf (.tu [])))
theorem zb1:execF Tryz.prog { pub:=[],nojoin:=false } Tryz.f151=z6e:=by kernel_rfl
theorem zfm:callB Tryz.prog 151=true:=by kernel_rfl
theorem ze2:TriOf Tryz.prog 151 Tryz.f151 z6e:=triOf Tryz.func151 zb1
abbrev Z3n:FuncId:=165
def zpa:Fm VE:=
 (.loop 3 [.bool,.int .i64] [.bool false,.int .i64 0]
 (.ite (.cmp .lss (.atom 6) (.len (.atom 4)))
 (.chk [] (.inSl (.atom 4) (.atom 6))
 (.load (.elt (.atom 4) (.atom 6) 1) [.int .i64]
 (.ite (.pick (.cmp .lss (.atom 7) (.int .i64 0)) (.bool true) (.cmp .geq (.atom 7) (.atom 2)))
 (.leaf (.sc (.bool false)))
 (.next 3 [.atom 5,(.ar .add .i64 (.atom 6) (.int .i64 1))]))))
 (.leaf (.sc (.bool true)))))
theorem zu5:execF Tryz.prog { pub:=[],nojoin:=false } Tryz.f165=zpa:=by kernel_rfl
theorem z3s:callB Tryz.prog 165=true:=by kernel_rfl
theorem zy0:TriOf Tryz.prog 165 Tryz.f165 zpa:=triOf Tryz.func165 zu5
abbrev zwq:FuncId:=166
def zjl:Fm VE:=
 (.call (.fn 180) [(.ag [.atom 0,.atom 1,.atom 2,.atom 3])] (.tu [(true,[.int .i64,.int .i64,.str]),(false,[.bool])]) []
 (.leaf (.sc (.atom 7))))
theorem zn6:execF Tryz.prog { pub:=[],nojoin:=false } Tryz.f166=zjl:=by kernel_rfl
theorem ztt:callB Tryz.prog 166=true:=by kernel_rfl
theorem zse:TriOf Tryz.prog 166 Tryz.f166 zjl:=triOf Tryz.func166 zn6
abbrev zzs:FuncId:=168
def zlf:Fm VE:=
 (.loop 3 [.bool,.int .i64] [.bool false,.int .i64 0]
 (.ite (.cmp .lss (.atom 6) (.len (.atom 4)))
 (.chk [] (.inSl (.atom 4) (.atom 6))
 (.load (.elt (.atom 4) (.atom 6) 1) [.int .i64]
 (.ite (.pick (.cmp .lss (.atom 7) (.int .i64 0)) (.bool true) (.cmp .geq (.atom 7) (.len (.atom 3))))
 (.leaf (.sc (.bool false)))
 (.next 3 [.atom 5,(.ar .add .i64 (.atom 6) (.int .i64 1))]))))
 (.leaf (.sc (.bool true)))))
theorem zoh:execF Tryz.prog { pub:=[],nojoin:=false } Tryz.f168=zlf:=by kernel_rfl
theorem zk5:callB Tryz.prog 168=true:=by kernel_rfl
theorem zuv:TriOf Tryz.prog 168 Tryz.f168 zlf:=triOf Tryz.func168 zoh
abbrev zuz:FuncId:=179
def zgt:Fm VE:=
 (.ite (.cmp .gtr (.len (.atom 0)) (.int .i64 1000))
 (.leaf (.tu [(false,[(.nil 1)]),(false,[.int .i64 1])]))
 (.sem (.makeMap 135 none) 135 [] (.sc .map) []
 (.sem (.makeMap 135 none) 135 [] (.sc .map) []
 (.new 248 [.atom 2,.atom 3,(.nil 1)]
 (.loop 6 [.sl,.int .i64,.int .i64] [(.nil 1),.int .i64 0,.int .i64 0]
 (.ite (.cmp .lss (.atom 7) (.len (.atom 0)))
 (.chk [] (.inSl (.atom 0) (.atom 7))
 (.load (.elt (.atom 0) (.atom 7) 2) [.int .i64,.int .i64]
 (.chk [] (.some (.atom 4))
 (.load (.padd (.atom 4) 0) [.map]
 (.sem (.lookup 135 (.tmp 37) (.tmp 39) true) 25 [(37,(.sc (.atom 10))),(39,(.sc (.atom 8)))] (.tu [(false,[.int .i64]),(false,[.bool])]) []
 (.ite (.pick (.pick (.atom 12) (.bool true) (.cmp .eql (.atom 8) (.atom 1))) (.bool true) (.cmp .eql (.atom 9) (.atom 1)))
 (.leaf (.tu [(false,[(.nil 1)]),(false,[.int .i64 1])]))
 (.load (.padd (.atom 4) 0) [.map]
 (.sem (.mapUpdate 135 (.tmp 59) (.tmp 61) (.tmp 63)) 0 [(59,(.sc (.atom 13))),(61,(.sc (.atom 8))),(63,(.sc (.atom 9)))] (.tu []) []
 (.next 6 [.atom 5,.atom 6,(.ar .add .i64 (.atom 7) (.int .i64 1))])))))))))
 (.loop 11 [.int .i64] [.int .i64 0]
 (.ite (.cmp .lss (.atom 8) (.len (.atom 0)))
 (.join 14 []
 (.next 11 [(.ar .add .i64 (.atom 8) (.int .i64 1))])
 (.chk [] (.inSl (.atom 0) (.atom 8))
 (.load (.elt (.atom 0) (.atom 8) 2) [.int .i64,.int .i64]
 (.ite (.cmp .eql (.atom 9) (.atom 10))
 (.chk [] (.some (.atom 4))
 (.load (.padd (.atom 4) 0) [.map]
 (.sem (.call ⟨.builtin .delete,#[.tmp 79,.tmp 81],#[135,3]⟩) 0 [(79,(.sc (.atom 11))),(81,(.sc (.atom 9)))] (.tu []) []
 (.next 14 []))))
 (.chk [] (.some (.atom 4))
 (.load (.padd (.atom 4) 1) [.map]
 (.sem (.lookup 135 (.tmp 85) (.tmp 87) false) 3 [(85,(.sc (.atom 11))),(87,(.sc (.atom 10)))] (.sc (.int .i64)) []
 (.sem (.mapUpdate 135 (.tmp 85) (.tmp 87) (.tmp 89)) 0 [(85,(.sc (.atom 11))),(87,(.sc (.atom 10))),(89,(.sc (.ar .add .i64 (.atom 12) (.int .i64 1))))] (.tu []) []
 (.next 14 [])))))))))
 (.loop 16 [.int .i64] [.int .i64 0]
 (.ite (.cmp .lss (.atom 9) (.len (.atom 0)))
 (.chk [] (.inSl (.atom 0) (.atom 9))
 (.load (.elt (.atom 0) (.atom 9) 2) [.int .i64,.int .i64]
 (.call (.fn 208) [.sc (.atom 4),.sc (.atom 10)] (.tu []) []
 (.next 16 [(.ar .add .i64 (.atom 9) (.int .i64 1))]))))
 (.loop 21 [.int .i64] [.int .i64 0]
 (.ite (.cmp .lss (.atom 10) (.len (.atom 0)))
 (.join 24 []
 (.next 21 [(.ar .add .i64 (.atom 10) (.int .i64 1))])
 (.chk [] (.inSl (.atom 0) (.atom 10))
 (.load (.elt (.atom 0) (.atom 10) 2) [.int .i64,.int .i64]
 (.chk [] (.some (.atom 4))
 (.load (.padd (.atom 4) 0) [.map]
 (.sem (.lookup 135 (.tmp 112) (.tmp 114) true) 25 [(112,(.sc (.atom 13))),(114,(.sc (.atom 11)))] (.tu [(false,[.int .i64]),(false,[.bool])]) []
 (.ite (.atom 15)
 (.load (.padd (.atom 4) 2) [.sl]
 (.sem (.buildSlice 184 1 #[(0,(.tmp 127))]) 184 [(127,(.ag [.atom 1,.atom 11]))] (.sc .sl) [((.padd (.atom 4) 2),[.atom 16])]
 (.sem (.call ⟨.builtin .append,#[.tmp 123,.tmp 128],#[184,184]⟩) 184 [(123,(.sc (.atom 16))),(128,(.sc (.atom 17)))] (.sc .sl) []
 (.store (.padd (.atom 4) 2) [.atom 18]
 (.loop 31 [.int .i64] [.atom 11]
 (.load (.padd (.atom 4) 0) [.map]
 (.sem (.lookup 135 (.tmp 137) (.tmp 138) false) 3 [(137,(.sc (.atom 20))),(138,(.sc (.atom 19)))] (.sc (.int .i64)) []
 (.ite (.cmp .neq (.atom 21) (.atom 11))
 (.load (.padd (.atom 4) 0) [.map]
 (.sem (.lookup 135 (.tmp 146) (.tmp 147) false) 3 [(146,(.sc (.atom 22))),(147,(.sc (.atom 19)))] (.sc (.int .i64)) []
 (.next 31 [.atom 23])))
 (.load (.padd (.atom 4) 0) [.map]
 (.sem (.mapUpdate 135 (.tmp 152) (.tmp 153) (.tmp 154)) 0 [(152,(.sc (.atom 22))),(153,(.sc (.atom 19))),(154,(.sc (.atom 1)))] (.tu []) []
 (.load (.padd (.atom 4) 1) [.map]
 (.sem (.lookup 135 (.tmp 158) (.tmp 160) false) 3 [(158,(.sc (.atom 23))),(160,(.sc (.atom 11)))] (.sc (.int .i64)) []
 (.sem (.mapUpdate 135 (.tmp 158) (.tmp 160) (.tmp 162)) 0 [(158,(.sc (.atom 23))),(160,(.sc (.atom 11))),(162,(.sc (.ar .sub .i64 (.atom 24) (.int .i64 1))))] (.tu []) []
 (.call (.fn 208) [.sc (.atom 4),.sc (.atom 11)] (.tu []) []
 (.next 24 [])))))))))))))))
 (.next 24 []))))))))
 (.chk [] (.some (.atom 4))
 (.load (.padd (.atom 4) 2) [.sl]
 (.leaf (.tu [(false,[.atom 11]),(false,[.int .i64 0])]))))))))))))))))
theorem zm1:execF Tryz.prog { pub:=[26],nojoin:=false } Tryz.f179=zgt:=by kernel_rfl
theorem zqp:callB Tryz.prog 179=true:=by kernel_rfl
theorem zpz:TriOf Tryz.prog 179 Tryz.f179 zgt:=triOf Tryz.func179 zm1
abbrev zxg:FuncId:=180
def zjq:Fm VE:=
 (.call (.fn 209) [(.ag [.atom 0,.atom 1,.atom 2,.atom 3])] (.sc (.int .i64)) []
 (.ite (.cmp .neq (.atom 4) (.int .i64 0))
 (.leaf (.tu [(true,[.int .i64 0,.int .i64 0,(.str [])]),(false,[.bool false])]))
 (.join 3 []
 (.leaf (.tu [(true,[.int .i64 0,.int .i64 0,(.str [])]),(false,[.bool false])]))
 (.ite (.cmp .eql (.atom 0) (.int .i64 0))
 (.leaf (.tu [(true,[.int .i64 0,.atom 1,(.str [])]),(false,[.bool true])]))
 (.ite (.cmp .eql (.atom 0) (.int .i64 1))
 (.leaf (.tu [(true,[.int .i64 1,.atom 1,(.str [])]),(false,[.bool true])]))
 (.ite (.cmp .eql (.atom 0) (.int .i64 2))
 (.leaf (.tu [(true,[.int .i64 2,.atom 1,(.str [])]),(false,[.bool true])]))
 (.ite (.cmp .eql (.atom 0) (.int .i64 4))
 (.leaf (.tu [(true,[.int .i64 3,.int .i64 0,.atom 2]),(false,[.bool true])]))
 (.ite (.cmp .eql (.atom 0) (.int .i64 5))
 (.ite (.cmp .eql (.len (.atom 3)) (.int .i64 0))
 (.leaf (.tu [(true,[.int .i64 4,.int .i64 0,(.str [])]),(false,[.bool true])]))
 (.next 3 []))
 (.next 3 [])))))))))
theorem zn2:execF Tryz.prog { pub:=[],nojoin:=false } Tryz.f180=zjq:=by kernel_rfl
theorem zjf:callB Tryz.prog 180=true:=by kernel_rfl
theorem zqm:TriOf Tryz.prog 180 Tryz.f180 zjq:=triOf Tryz.func180 zn2
end Go.Proofs.YtfkclejklgoccaaGreat.Vc
