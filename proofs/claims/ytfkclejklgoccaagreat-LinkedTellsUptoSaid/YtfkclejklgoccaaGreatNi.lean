import Derived.Test.YtfkclejklgoccaaGreatNh
import Derived.Test.YtfkclejklgoccaaGreatRows
import Derived.KernelRfl
set_option linter.unusedSimpArgs false
set_option linter.unusedVariables false
set_option maxRecDepth 100000
namespace Go.Proofs.YtfkclejklgoccaaGreat.Vc
open Go
def TriOf (P:Program) (f:FuncId) (fn:Func) (fm:Fm VE):Prop:=∀(E:List Value) {args:Array Value} {H:PH} {R:Ending→PH→Prop},z0c ((z18 P fn).flatMap RS.tags) E=true→args.toList=z1c (z18 P fn) E →
 den P (fun c H'=>R (.panicked c) H') fm E H [] (fun ve E' H' _=>R (.returned (evV E' (fun _=>0) ve)) H')→Tri P f args H R
theorem triOf {P:Program} {f:FuncId} {fn:Func} {fm:Fm VE} {op:Opt} (hf:P.funcs[f]?=some fn) (he:execF P op fn=fm):TriOf P f fn fm:=
 fun E _ _ _ hE ha hd=>Zat (op:=op) hf hE ha (by rw [he];exact hd)
def Z9w (P:Program) (f:FuncId) (rsl:List RS) (fm:Fm VE):Prop:=∀(E:List Value) {args:Array Value} {H:PH} {R:Ending→PH→Prop},z0c (rsl.flatMap RS.tags) E=true→args.toList=z1c rsl E →
 den P (fun c H'=>R (.panicked c) H') fm E H [] (fun ve E' H' _=>R (.returned (evV E' (fun _=>0) ve)) H')→Tri P f args H R
theorem Zey {P:Program} {f:FuncId} {fn:Func} {rsl:List RS} {fm:Fm VE} {op:Opt} (hf:P.funcs[f]?=some fn) (he:zrd P op fn rsl=fm):Z9w P f rsl fm:=
 fun E _ _ _ hE ha hd=>Z62 (op:=op) hf hE ha (by rw [he];exact hd)
abbrev zhb:FuncId:=23
def z6j:Fm VE:=
 (.ite (.pick (.pick (.pick (.cmp .neq (.atom 0) (.atom 4)) (.bool true) (.cmp .neq (.atom 1) (.atom 5))) (.bool true) (.scmp .neq (.atom 2) (.atom 6))) (.bool true) (.cmp .neq (.len (.atom 3)) (.len (.atom 7))))
 (.leaf (.sc (.bool false)))
 (.loop 5 [.bool,.int .i64] [.bool false,.int .i64 0]
 (.ite (.cmp .lss (.atom 9) (.len (.atom 3)))
 (.chk [] (.inSl (.atom 3) (.atom 9))
 (.load (.elt (.atom 3) (.atom 9) 4) [.int .i64,.int .i64,.str,.sl]
 (.chk [] (.inSl (.atom 7) (.atom 9))
 (.load (.elt (.atom 7) (.atom 9) 4) [.int .i64,.int .i64,.str,.sl]
 (.call (.fn 23) [(.ag [.atom 10,.atom 11,.atom 12,.atom 13]),(.ag [.atom 14,.atom 15,.atom 16,.atom 17])] (.sc .bool) []
 (.ite (.not (.atom 18))
 (.leaf (.sc (.bool false)))
 (.next 5 [.atom 8,(.ar .add .i64 (.atom 9) (.int .i64 1))])))))))
 (.leaf (.sc (.bool true))))))
theorem zci:execF Tryz.prog { pub:=[],nojoin:=false } Tryz.f23=z6j:=by kernel_rfl
theorem z48:callB Tryz.prog 23=true:=by kernel_rfl
theorem zel:TriOf Tryz.prog 23 Tryz.f23 z6j:=triOf Tryz.func23 zci
abbrev z8q:FuncId:=35
def z3q:Fm VE:=
 (.loop 3 [.int .i64,.int .i64] [.int .i64 0,.int .i64 0]
 (.ite (.cmp .lss (.atom 3) (.len (.atom 0)))
 (.chk [] (.inSl (.atom 0) (.atom 3))
 (.load (.elt (.atom 0) (.atom 3) 1) [.str]
 (.ite (.scmp .eql (.atom 1) (.atom 4))
 (.leaf (.sc (.atom 3)))
 (.next 3 [.atom 2,(.ar .add .i64 (.atom 3) (.int .i64 1))]))))
 (.leaf (.sc (.int .i64 (-1))))))
theorem z5r:execF Tryz.prog { pub:=[],nojoin:=false } Tryz.f35=z3q:=by kernel_rfl
theorem z7i:callB Tryz.prog 35=true:=by kernel_rfl
theorem z6u:TriOf Tryz.prog 35 Tryz.f35 z3q:=triOf Tryz.func35 z5r
abbrev z8p:FuncId:=44
def z3n:Fm VE:=
 (.ite (.isnil (.atom 0))
 (.leaf (.sc (.nil 1)))
 (.sem (.buildSlice 24 0 #[]) 24 [] (.sc .sl) []
 (.sem (.call ⟨.builtin .append,#[.tmp 5,.tmp 6],#[24,24]⟩) 24 [(5,(.sc (.atom 1))),(6,(.sc (.atom 0)))] (.sc .sl) []
 (.leaf (.sc (.atom 2))))))
theorem z5y:execF Tryz.prog { pub:=[],nojoin:=false } Tryz.f44=z3n:=by kernel_rfl
theorem z7h:callB Tryz.prog 44=true:=by kernel_rfl
theorem z6o:TriOf Tryz.prog 44 Tryz.f44 z3n:=triOf Tryz.func44 z5y
abbrev zht:FuncId:=105
def z6f:Fm VE:=
 (.ite (.cmp .eql (.len (.atom 0)) (.int .i64 0))
 (.leaf (.ag [.atom 1,.atom 2,.atom 3,.atom 4]))
 (.sem (.buildSlice 30 0 #[]) 30 [] (.sc .sl) []
 (.sem (.call ⟨.builtin .append,#[.tmp 10,.tmp 11],#[30,30]⟩) 30 [(10,(.sc (.atom 5))),(11,(.sc (.atom 0)))] (.sc .sl) []
 (.ite (.pick (.cmp .eql (.atom 1) (.int .i64 5)) (.bool true) (.cmp .eql (.atom 1) (.int .i64 6)))
 (.sem (.call ⟨.builtin .append,#[.tmp 23,.tmp 25],#[30,30]⟩) 30 [(23,(.sc (.atom 6))),(25,(.sc (.atom 4)))] (.sc .sl) []
 (.leaf (.ag [.atom 1,.int .i64 0,(.str []),.atom 7])))
 (.sem (.buildSlice 30 1 #[(0,(.tmp 29))]) 30 [(29,(.ag [.atom 1,.atom 2,.atom 3,.atom 4]))] (.sc .sl) []
 (.sem (.call ⟨.builtin .append,#[.tmp 28,.tmp 30],#[30,30]⟩) 30 [(28,(.sc (.atom 6))),(30,(.sc (.atom 7)))] (.sc .sl) []
 (.leaf (.ag [.int .i64 6,.int .i64 0,(.str []),.atom 8]))))))))
theorem zbu:execF Tryz.prog { pub:=[],nojoin:=false } Tryz.f105=z6f:=by kernel_rfl
theorem zgl:callB Tryz.prog 105=true:=by kernel_rfl
theorem zex:TriOf Tryz.prog 105 Tryz.f105 z6f:=triOf Tryz.func105 zbu
abbrev zxm:FuncId:=125
def zi3:Fm VE:=
 (.ite (.pick (.cmp .lss (.atom 4) (.int .i64 0)) (.bool true) (.cmp .geq (.atom 4) (.len (.atom 3))))
 (.leaf (.sc (.nil 1)))
 (.chk [] (.inSl (.atom 3) (.atom 4))
 (.load (.padd (.elt (.atom 3) (.atom 4) 7) 1) [.int .i64,.int .i64,.sl,.int .i64,.int .i64,.int .i64]
 (.call (.fn 175) [(.ag [.atom 5,.atom 6,.atom 7,.atom 8,.atom 9,.atom 10])] (.sc .bool) []
 (.ite (.pick (.pick (.not (.atom 11)) (.bool true) (.cmp .lss (.atom 9) (.int .i64 0))) (.bool true) (.cmp .geq (.atom 9) (.len (.atom 3))))
 (.leaf (.sc (.nil 1)))
 (.call (.fn 176) [(.ag [.atom 0,.atom 1,.atom 2,.atom 3])] (.sc .ptr) []
 (.chk [] (.some (.atom 12))
 (.load (.padd (.atom 12) 4) [.sl]
 (.chk [] (.inSl (.atom 13) (.atom 9))
 (.load (.elt (.atom 13) (.atom 9) 1) [.map]
 (.call (.fn 177) [.sc (.atom 14),.sc (.atom 8)] (.tu []) []
 (.call (.fn 178) [.sc (.atom 14)] (.sc .sl) []
 (.leaf (.sc (.atom 15)))))))))))))))
theorem znv:execF Tryz.prog { pub:=[],nojoin:=false } Tryz.f125=zi3:=by kernel_rfl
theorem zvd:callB Tryz.prog 125=true:=by kernel_rfl
theorem zra:TriOf Tryz.prog 125 Tryz.f125 zi3:=triOf Tryz.func125 znv
abbrev Z8t:FuncId:=129
def ztj:Fm VE:=
 (.call (.fn 176) [(.ag [.atom 0,.atom 1,.atom 2,.atom 3])] (.sc .ptr) []
 (.chk [] (.some (.atom 4))
 (.load (.padd (.atom 4) 4) [.sl]
 (.loop 4 [.sl,.int .i64] [(.nil 1),.int .i64 0]
 (.ite (.cmp .lss (.atom 7) (.len (.atom 5)))
 (.chk [] (.inSl (.atom 5) (.atom 7))
 (.load (.elt (.atom 5) (.atom 7) 1) [.map]
 (.call (.fn 178) [.sc (.atom 8)] (.sc .sl) []
 (.sem (.buildSlice 185 1 #[(0,(.tmp 18))]) 185 [(18,(.sc (.atom 9)))] (.sc .sl) []
 (.sem (.call ⟨.builtin .append,#[.tmp 16,.tmp 19],#[185,185]⟩) 185 [(16,(.sc (.atom 6))),(19,(.sc (.atom 10)))] (.sc .sl) []
 (.next 4 [.atom 11,(.ar .add .i64 (.atom 7) (.int .i64 1))]))))))
 (.leaf (.sc (.atom 6))))))))
theorem zyc:execF Tryz.prog { pub:=[],nojoin:=false } Tryz.f129=ztj:=by kernel_rfl
theorem zto:callB Tryz.prog 129=true:=by kernel_rfl
theorem Z3w:TriOf Tryz.prog 129 Tryz.f129 ztj:=triOf Tryz.func129 zyc
abbrev Z2s:FuncId:=154
def zn8:Fm VE:=
 (.ite (.cmp .eql (.len (.atom 0)) (.int .i64 0))
 (.call (.fn 194) [(.ag [.atom 1,.atom 2,.atom 3,.atom 4])] (.ag [.int .i64,.int .i64,.str,.sl]) []
 (.leaf (.ag [.atom 5,.atom 6,.atom 7,.atom 8])))
 (.ite (.pick (.cmp .eql (.atom 1) (.int .i64 5)) (.bool true) (.cmp .eql (.atom 1) (.int .i64 6)))
 (.call (.fn 195) [.sc (.atom 0)] (.sc .sl) []
 (.call (.fn 195) [.sc (.atom 4)] (.sc .sl) []
 (.sem (.call ⟨.builtin .append,#[.tmp 21,.tmp 24],#[30,30]⟩) 30 [(21,(.sc (.atom 5))),(24,(.sc (.atom 6)))] (.sc .sl) []
 (.leaf (.ag [.atom 1,.int .i64 0,(.str []),.atom 7])))))
 (.call (.fn 195) [.sc (.atom 0)] (.sc .sl) []
 (.call (.fn 194) [(.ag [.atom 1,.atom 2,.atom 3,.atom 4])] (.ag [.int .i64,.int .i64,.str,.sl]) []
 (.sem (.buildSlice 30 1 #[(0,(.tmp 30))]) 30 [(30,(.ag [.atom 6,.atom 7,.atom 8,.atom 9]))] (.sc .sl) []
 (.sem (.call ⟨.builtin .append,#[.tmp 28,.tmp 31],#[30,30]⟩) 30 [(28,(.sc (.atom 5))),(31,(.sc (.atom 10)))] (.sc .sl) []
 (.leaf (.ag [.int .i64 6,.int .i64 0,(.str []),.atom 11]))))))))
theorem zr3:execF Tryz.prog { pub:=[],nojoin:=false } Tryz.f154=zn8:=by kernel_rfl
theorem Z0l:callB Tryz.prog 154=true:=by kernel_rfl
theorem zxi:TriOf Tryz.prog 154 Tryz.f154 zn8:=triOf Tryz.func154 zr3
abbrev zzo:FuncId:=164
def zk0:Fm VE:=
 (.join 3 [.bool]
 (.ite (.atom 1)
 (.leaf (.sc (.int .i64 0)))
 (.join 4 [.bool]
 (.ite (.atom 2)
 (.leaf (.sc (.int .i64 1)))
 (.join 5 [.bool]
 (.ite (.atom 3)
 (.leaf (.sc (.int .i64 2)))
 (.ite (.pick (.scmp .eql (.atom 0) (.str [118,101,99,116,111,114,45,115,101,116,33])) (.scmp .eql (.atom 0) (.str [118,101,99,116,111,114,45,115,101,116,33])) (.scmp .eql (.atom 0) (.str [115,116,114,105,110,103,45,115,101,116,33])))
 (.leaf (.sc (.int .i64 3)))
 (.leaf (.sc (.int .i64 (-1))))))
 (.ite (.scmp .eql (.atom 0) (.str [43]))
 (.next 5 [(.scmp .eql (.atom 0) (.str [43]))])
 (.ite (.scmp .eql (.atom 0) (.str [45]))
 (.next 5 [(.scmp .eql (.atom 0) (.str [45]))])
 (.ite (.scmp .eql (.atom 0) (.str [42]))
 (.next 5 [(.scmp .eql (.atom 0) (.str [42]))])
 (.ite (.scmp .eql (.atom 0) (.str [113,117,111,116,105,101,110,116]))
 (.next 5 [(.scmp .eql (.atom 0) (.str [113,117,111,116,105,101,110,116]))])
 (.ite (.scmp .eql (.atom 0) (.str [114,101,109,97,105,110,100,101,114]))
 (.next 5 [(.scmp .eql (.atom 0) (.str [114,101,109,97,105,110,100,101,114]))])
 (.ite (.scmp .eql (.atom 0) (.str [60]))
 (.next 5 [(.scmp .eql (.atom 0) (.str [60]))])
 (.ite (.scmp .eql (.atom 0) (.str [61]))
 (.next 5 [(.scmp .eql (.atom 0) (.str [61]))])
 (.ite (.scmp .eql (.atom 0) (.str [101,113,63]))
 (.next 5 [(.scmp .eql (.atom 0) (.str [101,113,63]))])
 (.ite (.scmp .eql (.atom 0) (.str [99,111,110,115]))
 (.next 5 [(.scmp .eql (.atom 0) (.str [99,111,110,115]))])
 (.ite (.scmp .eql (.atom 0) (.str [115,101,116,45,99,97,114,33]))
 (.next 5 [(.scmp .eql (.atom 0) (.str [115,101,116,45,99,97,114,33]))])
 (.ite (.scmp .eql (.atom 0) (.str [115,101,116,45,99,100,114,33]))
 (.next 5 [(.scmp .eql (.atom 0) (.str [115,101,116,45,99,100,114,33]))])
 (.ite (.scmp .eql (.atom 0) (.str [109,97,107,101,45,118,101,99,116,111,114]))
 (.next 5 [(.scmp .eql (.atom 0) (.str [109,97,107,101,45,118,101,99,116,111,114]))])
 (.ite (.scmp .eql (.atom 0) (.str [118,101,99,116,111,114,45,114,101,102]))
 (.next 5 [(.scmp .eql (.atom 0) (.str [118,101,99,116,111,114,45,114,101,102]))])
 (.ite (.scmp .eql (.atom 0) (.str [109,97,107,101,45,115,116,114,105,110,103]))
 (.next 5 [(.scmp .eql (.atom 0) (.str [109,97,107,101,45,115,116,114,105,110,103]))])
 (.next 5 [(.pick (.scmp .eql (.atom 0) (.str [115,116,114,105,110,103,45,114,101,102])) (.scmp .eql (.atom 0) (.str [115,116,114,105,110,103,45,114,101,102])) (.scmp .eql (.atom 0) (.str [37,115,101,116,45,98,111,120,33])))])))))))))))))))))
 (.ite (.scmp .eql (.atom 0) (.str [110,117,108,108,63]))
 (.next 4 [(.scmp .eql (.atom 0) (.str [110,117,108,108,63]))])
 (.ite (.scmp .eql (.atom 0) (.str [112,97,105,114,63]))
 (.next 4 [(.scmp .eql (.atom 0) (.str [112,97,105,114,63]))])
 (.ite (.scmp .eql (.atom 0) (.str [118,101,99,116,111,114,63]))
 (.next 4 [(.scmp .eql (.atom 0) (.str [118,101,99,116,111,114,63]))])
 (.ite (.scmp .eql (.atom 0) (.str [115,116,114,105,110,103,63]))
 (.next 4 [(.scmp .eql (.atom 0) (.str [115,116,114,105,110,103,63]))])
 (.ite (.scmp .eql (.atom 0) (.str [115,121,109,98,111,108,63]))
 (.next 4 [(.scmp .eql (.atom 0) (.str [115,121,109,98,111,108,63]))])
 (.ite (.scmp .eql (.atom 0) (.str [99,104,97,114,63]))
 (.next 4 [(.scmp .eql (.atom 0) (.str [99,104,97,114,63]))])
 (.ite (.scmp .eql (.atom 0) (.str [105,110,116,101,103,101,114,63]))
 (.next 4 [(.scmp .eql (.atom 0) (.str [105,110,116,101,103,101,114,63]))])
 (.ite (.scmp .eql (.atom 0) (.str [98,111,111,108,101,97,110,63]))
 (.next 4 [(.scmp .eql (.atom 0) (.str [98,111,111,108,101,97,110,63]))])
 (.ite (.scmp .eql (.atom 0) (.str [112,114,111,99,101,100,117,114,101,63]))
 (.next 4 [(.scmp .eql (.atom 0) (.str [112,114,111,99,101,100,117,114,101,63]))])
 (.ite (.scmp .eql (.atom 0) (.str [101,111,102,45,111,98,106,101,99,116,63]))
 (.next 4 [(.scmp .eql (.atom 0) (.str [101,111,102,45,111,98,106,101,99,116,63]))])
 (.ite (.scmp .eql (.atom 0) (.str [99,97,114]))
 (.next 4 [(.scmp .eql (.atom 0) (.str [99,97,114]))])
 (.ite (.scmp .eql (.atom 0) (.str [99,100,114]))
 (.next 4 [(.scmp .eql (.atom 0) (.str [99,100,114]))])
 (.ite (.scmp .eql (.atom 0) (.str [118,101,99,116,111,114,45,108,101,110,103,116,104]))
 (.next 4 [(.scmp .eql (.atom 0) (.str [118,101,99,116,111,114,45,108,101,110,103,116,104]))])
 (.ite (.scmp .eql (.atom 0) (.str [115,116,114,105,110,103,45,108,101,110,103,116,104]))
 (.next 4 [(.scmp .eql (.atom 0) (.str [115,116,114,105,110,103,45,108,101,110,103,116,104]))])
 (.ite (.scmp .eql (.atom 0) (.str [99,104,97,114,45,62,105,110,116,101,103,101,114]))
 (.next 4 [(.scmp .eql (.atom 0) (.str [99,104,97,114,45,62,105,110,116,101,103,101,114]))])
 (.ite (.scmp .eql (.atom 0) (.str [105,110,116,101,103,101,114,45,62,99,104,97,114]))
 (.next 4 [(.scmp .eql (.atom 0) (.str [105,110,116,101,103,101,114,45,62,99,104,97,114]))])
 (.ite (.scmp .eql (.atom 0) (.str [119,114,105,116,101,45,117,56]))
 (.next 4 [(.scmp .eql (.atom 0) (.str [119,114,105,116,101,45,117,56]))])
 (.ite (.scmp .eql (.atom 0) (.str [37,98,111,120]))
 (.next 4 [(.scmp .eql (.atom 0) (.str [37,98,111,120]))])
 (.ite (.scmp .eql (.atom 0) (.str [37,117,110,98,111,120]))
 (.next 4 [(.scmp .eql (.atom 0) (.str [37,117,110,98,111,120]))])
 (.next 4 [(.pick (.scmp .eql (.atom 0) (.str [37,119,105,110,100,33])) (.scmp .eql (.atom 0) (.str [37,119,105,110,100,33])) (.scmp .eql (.atom 0) (.str [37,99,97,108,108,99,99])))]))))))))))))))))))))))
 (.ite (.scmp .eql (.atom 0) (.str [114,101,97,100,45,117,56]))
 (.next 3 [(.scmp .eql (.atom 0) (.str [114,101,97,100,45,117,56]))])
 (.ite (.scmp .eql (.atom 0) (.str [101,114,114,111,114]))
 (.next 3 [(.scmp .eql (.atom 0) (.str [101,114,114,111,114]))])
 (.ite (.scmp .eql (.atom 0) (.str [118,111,105,100]))
 (.next 3 [(.scmp .eql (.atom 0) (.str [118,111,105,100]))])
 (.next 3 [(.pick (.scmp .eql (.atom 0) (.str [37,119,105,110,100,101,114,115])) (.scmp .eql (.atom 0) (.str [37,119,105,110,100,101,114,115])) (.scmp .eql (.atom 0) (.str [37,117,110,115,101,116])))])))))
theorem zq8:execF Tryz.prog { pub:=[],nojoin:=false } Tryz.f164=zk0:=by kernel_rfl
theorem zxh:callB Tryz.prog 164=true:=by kernel_rfl
theorem zuu:TriOf Tryz.prog 164 Tryz.f164 zk0:=triOf Tryz.func164 zq8
abbrev z95:FuncId:=167
def zki:Fm VE:=
 (.join 1 [.bool]
 (.leaf (.sc (.atom 8)))
 (.ite (.pick (.pick (.cmp .eql (.atom 0) (.atom 4)) (.cmp .eql (.atom 1) (.atom 5)) (.bool false)) (.scmp .eql (.atom 2) (.atom 6)) (.bool false))
 (.call (.fn 199) [.sc (.atom 3),.sc (.atom 7),(.sc (.fn 167))] (.sc .bool) []
 (.next 1 [.atom 8]))
 (.next 1 [.bool false])))
theorem zqa:execF Tryz.prog { pub:=[],nojoin:=false } Tryz.f167=zki:=by kernel_rfl
theorem zjy:callB Tryz.prog 167=true:=by kernel_rfl
theorem zvg:TriOf Tryz.prog 167 Tryz.f167 zki:=triOf Tryz.func167 zqa
abbrev zxw:FuncId:=171
def zh1:Fm VE:=
 (.ite (.pick (.cmp .lss (.atom 4) (.int .i64 0)) (.bool true) (.cmp .geq (.atom 4) (.len (.atom 3))))
 (.leaf (.sc (.nil 1)))
 (.call (.fn 176) [(.ag [.atom 0,.atom 1,.atom 2,.atom 3])] (.sc .ptr) []
 (.call (.fn 200) [.sc (.atom 5),.sc (.atom 4)] (.sc .map) []
 (.new 216 [(.nil 2)]
 (.store (.atom 7) [.atom 6]
 (.new 185 [(.nil 1)]
 (.chk [] (.inSl (.atom 3) (.atom 4))
 (.load (.padd (.elt (.atom 3) (.atom 4) 7) 0) [.sl]
 (.call (.fn 201) [.sc (.atom 9)] (.sc .any) []
 (.far 7 (.atom 10) [(.sc (.int .i64)),(.ag [.str,.int .i64,.sl,.int .i64,.int .i64,.str,.sl,.int .i64])]
 (.load (.atom 8) [.sl]
 (.load (.atom 7) [.map]
 (.call (.fn 178) [.sc (.atom 21)] (.sc .sl) [((.atom 8),[.atom 20])]
 (.sem (.buildSlice 185 1 #[(0,(.tmp 33))]) 185 [(33,(.sc (.atom 22)))] (.sc .sl) [((.atom 8),[.atom 20])]
 (.sem (.call ⟨.builtin .append,#[.tmp 31,.tmp 34],#[185,185]⟩) 185 [(31,(.sc (.atom 20))),(34,(.sc (.atom 23)))] (.sc .sl) []
 (.store (.atom 8) [.atom 24]
 (.load (.atom 7) [.map]
 (.call (.fn 202) [.sc (.atom 25),(.ag [.atom 12,.atom 13,.atom 14,.atom 15,.atom 16,.atom 17,.atom 18,.atom 19])] (.tu []) []
 (.next 7 [])))))))))
 (.load (.atom 8) [.sl]
 (.call (.fn 203) [.sc (.atom 11)] (.tu []) []
 (.load (.atom 8) [.sl]
 (.leaf (.sc (.atom 12))))))))))))))))
theorem zob:execM Tryz.prog { pub:=[5,6],nojoin:=false,far:=[(.sc (.int .i64)),(.ag [.str,.int .i64,.sl,.int .i64,.int .i64,.str,.sl,.int .i64])] } Tryz.f171=zh1:=by kernel_rfl
theorem zv5:callB Tryz.prog 171=true:=by kernel_rfl
theorem ztm:Z0e Tryz.prog 171 Tryz.f171 zh1:=Z8e Tryz.func171 zob
abbrev Z0o:FuncId:=175
def zkk:Fm VE:=
 (.leaf (.sc (.pick (.cmp .eql (.atom 0) (.int .i64 4)) (.bool true) (.cmp .eql (.atom 0) (.int .i64 6)))))
theorem zqi:execF Tryz.prog { pub:=[],nojoin:=false } Tryz.f175=zkk:=by kernel_rfl
theorem zk6:callB Tryz.prog 175=true:=by kernel_rfl
theorem zvj:TriOf Tryz.prog 175 Tryz.f175 zkk:=triOf Tryz.func175 zqi
abbrev zym:FuncId:=176
def zh5:Fm VE:=
 (.sem (.makeSlice 217 (.tmp 13) (.tmp 13)) 217 [(13,(.sc (.len (.atom 3)))),(13,(.sc (.len (.atom 3))))] (.sc .sl) []
 (.new 219 [.atom 0,.atom 1,.atom 2,.atom 3,.atom 4]
 (.chk [] (.some (.atom 5))
 (.load (.padd (.atom 5) 4) [.sl]
 (.loop 4 [.int .i64] [.int .i64 0]
 (.ite (.cmp .lss (.atom 7) (.len (.atom 6)))
 (.load (.padd (.atom 5) 4) [.sl]
 (.sem (.makeMap 216 none) 216 [] (.sc .map) []
 (.chk [] (.inSl (.atom 8) (.atom 7))
 (.store (.elt (.atom 8) (.atom 7) 1) [.atom 9]
 (.next 4 [(.ar .add .i64 (.atom 7) (.int .i64 1))])))))
 (.loop 9 [.bool] [.bool true]
 (.ite (.atom 8)
 (.loop 14 [.bool,.int .i64] [.bool false,(.ar .sub .i64 (.len (.atom 3)) (.int .i64 1))]
 (.ite (.cmp .geq (.atom 10) (.int .i64 0))
 (.join 17 [.bool]
 (.next 14 [.atom 11,(.ar .sub .i64 (.atom 10) (.int .i64 1))])
 (.call (.fn 200) [.sc (.atom 5),.sc (.atom 10)] (.sc .map) []
 (.new 216 [(.nil 2)]
 (.store (.atom 12) [.atom 11]
 (.chk [] (.inSl (.atom 3) (.atom 10))
 (.load (.padd (.elt (.atom 3) (.atom 10) 7) 0) [.sl]
 (.call (.fn 201) [.sc (.atom 13)] (.sc .any) []
 (.far 21 (.atom 14) [(.sc (.int .i64)),(.ag [.str,.int .i64,.sl,.int .i64,.int .i64,.str,.sl,.int .i64])]
 (.load (.atom 12) [.map]
 (.call (.fn 202) [.sc (.atom 24),(.ag [.atom 16,.atom 17,.atom 18,.atom 19,.atom 20,.atom 21,.atom 22,.atom 23])] (.tu []) []
 (.next 21 [])))
 (.load (.atom 12) [.map]
 (.load (.padd (.atom 5) 4) [.sl]
 (.chk [] (.inSl (.atom 16) (.atom 10))
 (.load (.elt (.atom 16) (.atom 10) 1) [.map]
 (.sem (.call ⟨.builtin .len,#[.tmp 57],#[216]⟩) 3 [(57,(.sc (.atom 15)))] (.sc (.int .i64)) [((.elt (.atom 16) (.atom 10) 1),[.atom 17]),((.padd (.atom 5) 4),[.atom 16])]
 (.sem (.call ⟨.builtin .len,#[.tmp 65],#[216]⟩) 3 [(65,(.sc (.atom 17)))] (.sc (.int .i64)) []
 (.ite (.cmp .neq (.atom 18) (.atom 19))
 (.load (.padd (.atom 5) 4) [.sl]
 (.load (.atom 12) [.map]
 (.chk [] (.inSl (.atom 20) (.atom 10))
 (.store (.elt (.atom 20) (.atom 10) 1) [.atom 21]
 (.next 17 [.bool true])))))
 (.next 17 [.atom 9]))))))))))))))))
 (.next 9 [.atom 9])))
 (.leaf (.sc (.atom 5)))))))))))
theorem zo6:execM Tryz.prog { pub:=[7,16],nojoin:=false,far:=[(.sc (.int .i64)),(.ag [.str,.int .i64,.sl,.int .i64,.int .i64,.str,.sl,.int .i64])] } Tryz.f176=zh5:=by kernel_rfl
theorem za5:callB Tryz.prog 176=true:=by kernel_rfl
theorem zts:Z0e Tryz.prog 176 Tryz.f176 zh5:=Z8e Tryz.func176 zo6
abbrev z8a:FuncId:=177
def z74:Fm VE:=
 (.sem (.call ⟨.builtin .delete,#[.tmp 4,.tmp 5],#[216,3]⟩) 0 [(4,(.sc (.atom 0))),(5,(.sc (.atom 1)))] (.tu []) []
 (.leaf (.tu [])))
theorem zcc:execF Tryz.prog { pub:=[],nojoin:=false } Tryz.f177=z74:=by kernel_rfl
theorem z47:callB Tryz.prog 177=true:=by kernel_rfl
theorem zec:TriOf Tryz.prog 177 Tryz.f177 z74:=triOf Tryz.func177 zcc
abbrev zeg:FuncId:=178
def z5o:Fm VE:=
 (.sem (.range 216 (.tmp 5)) 0 [(5,(.sc (.atom 0)))] (.sc .ptr) []
 (.loop 4 [.sl] [(.nil 1)]
 (.join 5 [.bool]
 (.ite (.atom 3)
 (.sem (.entry (.tmp 6)) 0 [(6,(.sc (.atom 1)))] (.tu [(false,[.int .i64]),(false,[.int .i64])]) []
 (.sem (.buildSlice 29 1 #[(0,(.tmp 12))]) 29 [(12,(.sc (.atom 4)))] (.sc .sl) []
 (.sem (.call ⟨.builtin .append,#[.tmp 11,.tmp 13],#[29,29]⟩) 29 [(11,(.sc (.atom 2))),(13,(.sc (.atom 6)))] (.sc .sl) []
 (.next 4 [.atom 7]))))
 (.call (.fn 207) [.sc (.atom 2)] (.tu []) []
 (.leaf (.sc (.atom 2)))))
 (.alt (.next (.tmp 6) false) 0 [(6,(.sc (.atom 1)))] (.tu [(false,[.bool])]) (.tu [(false,[.bool]),(false,[.int .i64]),(false,[.int .i64])])
 (.next 5 [.atom 3])
 (.next 5 [.atom 3])))))
theorem zb2:execF Tryz.prog { pub:=[],nojoin:=false } Tryz.f178=z5o:=by kernel_rfl
theorem z3h:callB Tryz.prog 178=true:=by kernel_rfl
theorem zbt:TriOf Tryz.prog 178 Tryz.f178 z5o:=triOf Tryz.func178 zb2
abbrev zxe:FuncId:=194
def zii:Fm VE:=
 (.call (.fn 195) [.sc (.atom 3)] (.sc .sl) []
 (.leaf (.ag [.atom 0,.atom 1,.atom 2,.atom 4])))
theorem zo8:execF Tryz.prog { pub:=[],nojoin:=false } Tryz.f194=zii:=by kernel_rfl
theorem za3:callB Tryz.prog 194=true:=by kernel_rfl
theorem zrx:TriOf Tryz.prog 194 Tryz.f194 zii:=triOf Tryz.func194 zo8
abbrev zt8:FuncId:=195
def zot:Fm VE:=
 (.loop 4 [.sl,.int .i64] [(.nil 1),.int .i64 0]
 (.ite (.cmp .lss (.atom 2) (.len (.atom 0)))
 (.chk [] (.inSl (.atom 0) (.atom 2))
 (.load (.elt (.atom 0) (.atom 2) 4) [.int .i64,.int .i64,.str,.sl]
 (.call (.fn 194) [(.ag [.atom 3,.atom 4,.atom 5,.atom 6])] (.ag [.int .i64,.int .i64,.str,.sl]) []
 (.sem (.buildSlice 30 1 #[(0,(.tmp 14))]) 30 [(14,(.ag [.atom 7,.atom 8,.atom 9,.atom 10]))] (.sc .sl) []
 (.sem (.call ⟨.builtin .append,#[.tmp 12,.tmp 15],#[30,30]⟩) 30 [(12,(.sc (.atom 1))),(15,(.sc (.atom 11)))] (.sc .sl) []
 (.next 4 [.atom 12,(.ar .add .i64 (.atom 2) (.int .i64 1))]))))))
 (.leaf (.sc (.atom 1)))))
theorem zu0:execF Tryz.prog { pub:=[],nojoin:=false } Tryz.f195=zot:=by kernel_rfl
theorem zam:callB Tryz.prog 195=true:=by kernel_rfl
theorem Z09:TriOf Tryz.prog 195 Tryz.f195 zot:=triOf Tryz.func195 zu0
abbrev z26:FuncId:=199
def z14:Fm VE:=
 (.ite (.cmp .neq (.len (.atom 0)) (.len (.atom 1)))
 (.leaf (.sc (.bool false)))
 (.loop 5 [.bool,.int .i64] [.bool false,.int .i64 0]
 (.ite (.cmp .lss (.atom 4) (.len (.atom 0)))
 (.chk [] (.inSl (.atom 0) (.atom 4))
 (.load (.elt (.atom 0) (.atom 4) 4) [.int .i64,.int .i64,.str,.sl]
 (.chk [] (.inSl (.atom 1) (.atom 4))
 (.load (.elt (.atom 1) (.atom 4) 4) [.int .i64,.int .i64,.str,.sl]
 (.call (.atom 2) [(.ag [.atom 5,.atom 6,.atom 7,.atom 8]),(.ag [.atom 9,.atom 10,.atom 11,.atom 12])] (.sc .bool) []
 (.ite (.not (.atom 13))
 (.leaf (.sc (.bool false)))
 (.next 5 [.atom 3,(.ar .add .i64 (.atom 4) (.int .i64 1))])))))))
 (.leaf (.sc (.bool true))))))
theorem z1x:execF Tryz.prog { pub:=[],nojoin:=false } Tryz.f199=z14:=by kernel_rfl
theorem z21:callB Tryz.prog 199=true:=by kernel_rfl
theorem z20:TriOf Tryz.prog 199 Tryz.f199 z14:=triOf Tryz.func199 z1x
abbrev zq0:FuncId:=200
def zbn:Fm VE:=
 (.chk [] (.some (.atom 0))
 (.load (.padd (.padd (.atom 0) 0) 3) [.sl]
 (.chk [] (.inSl (.atom 2) (.atom 1))
 (.load (.padd (.elt (.atom 2) (.atom 1) 7) 1) [.int .i64,.int .i64,.sl,.int .i64,.int .i64,.int .i64]
 (.sem (.makeMap 216 none) 216 [] (.sc .map) []
 (.call (.fn 216) [(.ag [.atom 3,.atom 4,.atom 5,.atom 6,.atom 7,.atom 8])] (.sc .sl) []
 (.loop 5 [.int .i64] [.int .i64 0]
 (.ite (.cmp .lss (.atom 11) (.len (.atom 10)))
 (.join 8 []
 (.next 5 [(.ar .add .i64 (.atom 11) (.int .i64 1))])
 (.chk [] (.inSl (.atom 10) (.atom 11))
 (.load (.elt (.atom 10) (.atom 11) 1) [.int .i64]
 (.join 10 [.bool]
 (.ite (.atom 13)
 (.load (.padd (.atom 0) 4) [.sl]
 (.chk [] (.inSl (.atom 14) (.atom 12))
 (.load (.elt (.atom 14) (.atom 12) 1) [.map]
 (.call (.fn 217) [.sc (.atom 9),.sc (.atom 15)] (.tu []) []
 (.next 8 [])))))
 (.next 8 []))
 (.ite (.cmp .geq (.atom 12) (.int .i64 0))
 (.load (.padd (.atom 0) 4) [.sl]
 (.next 10 [(.cmp .lss (.atom 12) (.len (.atom 13)))]))
 (.next 10 [.bool false]))))))
 (.join 8 []
 (.call (.fn 219) [(.ag [.atom 3,.atom 4,.atom 5,.atom 6,.atom 7,.atom 8])] (.sc .sl) []
 (.call (.fn 218) [.sc (.atom 9),.sc (.atom 12)] (.tu []) []
 (.leaf (.sc (.atom 9)))))
 (.call (.fn 175) [(.ag [.atom 3,.atom 4,.atom 5,.atom 6,.atom 7,.atom 8])] (.sc .bool) []
 (.ite (.atom 12)
 (.call (.fn 177) [.sc (.atom 9),.sc (.atom 6)] (.tu []) []
 (.next 8 []))
 (.next 8 []))))))))))))
theorem zix:execF Tryz.prog { pub:=[],nojoin:=false } Tryz.f200=zbn:=by kernel_rfl
theorem zbo:callB Tryz.prog 200=true:=by kernel_rfl
theorem zm3:TriOf Tryz.prog 200 Tryz.f200 zbn:=triOf Tryz.func200 zix
abbrev z5m:FuncId:=201
def z2q:Fm VE:=
 (.new 36 [.atom 0]
 (.sem (.makeFunc (.func 220) #[] #[.tmp 1]) 236 [(1,(.sc (.atom 1)))] (.sc .any) []
 (.leaf (.sc (.atom 2)))))
theorem z4q:execF Tryz.prog { pub:=[1],nojoin:=false } Tryz.f201=z2q:=by kernel_rfl
theorem z2p:callB Tryz.prog 201=true:=by kernel_rfl
theorem z54:TriOf Tryz.prog 201 Tryz.f201 z2q:=triOf Tryz.func201 z4q
abbrev za2:FuncId:=202
def zfg:Fm VE:=
 (.join 1 []
 (.call (.fn 218) [.sc (.atom 0),.sc (.atom 3)] (.tu []) []
 (.leaf (.tu [])))
 (.ite (.scmp .neq (.atom 1) (.str [116,105,101]))
 (.call (.fn 177) [.sc (.atom 0),.sc (.atom 2)] (.tu []) []
 (.next 1 []))
 (.next 1 [])))
theorem zm8:execF Tryz.prog { pub:=[],nojoin:=false } Tryz.f202=zfg:=by kernel_rfl
theorem zff:callB Tryz.prog 202=true:=by kernel_rfl
theorem zpd:TriOf Tryz.prog 202 Tryz.f202 zfg:=triOf Tryz.func202 zm8
abbrev z8o:FuncId:=203
def z3p:Fm VE:=
 (.loop 1 [.int .i64,.int .i64] [.int .i64 0,(.ar .sub .i64 (.len (.atom 0)) (.int .i64 1))]
 (.ite (.cmp .lss (.atom 1) (.atom 2))
 (.chk [] (.inSl (.atom 0) (.atom 2))
 (.load (.elt (.atom 0) (.atom 2) 1) [.sl]
 (.chk [] (.inSl (.atom 0) (.atom 1))
 (.load (.elt (.atom 0) (.atom 1) 1) [.sl]
 (.store (.elt (.atom 0) (.atom 1) 1) [.atom 3]
 (.store (.elt (.atom 0) (.atom 2) 1) [.atom 4]
 (.next 1 [(.ar .add .i64 (.atom 1) (.int .i64 1)),(.ar .sub .i64 (.atom 2) (.int .i64 1))])))))))
 (.leaf (.tu []))))
theorem z5s:execF Tryz.prog { pub:=[],nojoin:=false } Tryz.f203=z3p:=by kernel_rfl
theorem z7d:callB Tryz.prog 203=true:=by kernel_rfl
theorem z6q:TriOf Tryz.prog 203 Tryz.f203 z3p:=triOf Tryz.func203 z5s
abbrev zzn:FuncId:=209
def zkn:Fm VE:=
 (.new 256 [.int .i64 0]
 (.call (.fn 223) [.sc (.atom 4),(.ag [.atom 0,.atom 1,.atom 2,.atom 3]),.sc (.int .i64 0)] (.sc (.int .i64)) []
 (.leaf (.sc (.atom 5)))))
theorem zpq:execF Tryz.prog { pub:=[3],nojoin:=false } Tryz.f209=zkn:=by kernel_rfl
theorem zxx:callB Tryz.prog 209=true:=by kernel_rfl
theorem zuy:TriOf Tryz.prog 209 Tryz.f209 zkn:=triOf Tryz.func209 zpq
abbrev zzz:FuncId:=216
def zka:Fm VE:=
 (.join 3 [.bool]
 (.ite (.atom 6)
 (.sem (.buildSlice 29 1 #[(0,(.tmp 10))]) 29 [(10,(.sc (.atom 4)))] (.sc .sl) []
 (.leaf (.sc (.atom 7))))
 (.ite (.cmp .eql (.atom 0) (.int .i64 1))
 (.sem (.buildSlice 29 2 #[(0,(.tmp 15)),(1,(.tmp 17))]) 29 [(15,(.sc (.atom 4))),(17,(.sc (.atom 5)))] (.sc .sl) []
 (.leaf (.sc (.atom 7))))
 (.leaf (.sc (.nil 1)))))
 (.ite (.cmp .eql (.atom 0) (.int .i64 0))
 (.next 3 [(.cmp .eql (.atom 0) (.int .i64 0))])
 (.next 3 [(.pick (.cmp .eql (.atom 0) (.int .i64 4)) (.cmp .eql (.atom 0) (.int .i64 4)) (.cmp .eql (.atom 0) (.int .i64 6)))])))
theorem zpe:execF Tryz.prog { pub:=[],nojoin:=false } Tryz.f216=zka:=by kernel_rfl
theorem zyi:callB Tryz.prog 216=true:=by kernel_rfl
theorem zvn:TriOf Tryz.prog 216 Tryz.f216 zka:=triOf Tryz.func216 zpe
abbrev z85:FuncId:=217
def z6n:Fm VE:=
 (.sem (.range 216 (.tmp 5)) 0 [(5,(.sc (.atom 1)))] (.sc .ptr) []
 (.loop 1 [] []
 (.join 2 [.bool]
 (.ite (.atom 3)
 (.sem (.entry (.tmp 6)) 0 [(6,(.sc (.atom 2)))] (.tu [(false,[.int .i64]),(false,[.int .i64])]) []
 (.sem (.mapUpdate 216 (.tmp 11) (.tmp 12) (.const (.int .i64 1))) 0 [(11,(.sc (.atom 0))),(12,(.sc (.atom 4)))] (.tu []) []
 (.next 1 [])))
 (.leaf (.tu [])))
 (.alt (.next (.tmp 6) false) 0 [(6,(.sc (.atom 2)))] (.tu [(false,[.bool])]) (.tu [(false,[.bool]),(false,[.int .i64]),(false,[.int .i64])])
 (.next 2 [.atom 3])
 (.next 2 [.atom 3])))))
theorem zc6:execF Tryz.prog { pub:=[],nojoin:=false } Tryz.f217=z6n:=by kernel_rfl
theorem zgy:callB Tryz.prog 217=true:=by kernel_rfl
theorem ze8:TriOf Tryz.prog 217 Tryz.f217 z6n:=triOf Tryz.func217 zc6
abbrev z9g:FuncId:=218
def z7l:Fm VE:=
 (.loop 1 [.int .i64] [.int .i64 0]
 (.ite (.cmp .lss (.atom 2) (.len (.atom 1)))
 (.chk [] (.inSl (.atom 1) (.atom 2))
 (.load (.elt (.atom 1) (.atom 2) 1) [.int .i64]
 (.sem (.mapUpdate 216 (.tmp 12) (.tmp 13) (.const (.int .i64 1))) 0 [(12,(.sc (.atom 0))),(13,(.sc (.atom 3)))] (.tu []) []
 (.next 1 [(.ar .add .i64 (.atom 2) (.int .i64 1))]))))
 (.leaf (.tu []))))
theorem zdi:execF Tryz.prog { pub:=[],nojoin:=false } Tryz.f218=z7l:=by kernel_rfl
theorem z87:callB Tryz.prog 218=true:=by kernel_rfl
theorem zfn:TriOf Tryz.prog 218 Tryz.f218 z7l:=triOf Tryz.func218 zdi
abbrev Z0x:FuncId:=219
def zkc:Fm VE:=
 (.join 3 [.bool]
 (.ite (.atom 6)
 (.sem (.buildSlice 29 1 #[(0,(.tmp 11))]) 29 [(11,(.sc (.atom 1)))] (.sc .sl) []
 (.leaf (.sc (.atom 7))))
 (.ite (.pick (.cmp .eql (.atom 0) (.int .i64 3)) (.cmp .eql (.atom 0) (.int .i64 3)) (.cmp .eql (.atom 0) (.int .i64 4)))
 (.sem (.buildSlice 29 1 #[(0,(.tmp 17))]) 29 [(17,(.sc (.atom 1)))] (.sc .sl) []
 (.sem (.call ⟨.builtin .append,#[.tmp 18,.tmp 20],#[29,29]⟩) 29 [(18,(.sc (.atom 7))),(20,(.sc (.atom 2)))] (.sc .sl) []
 (.leaf (.sc (.atom 8)))))
 (.leaf (.sc (.nil 1)))))
 (.ite (.cmp .eql (.atom 0) (.int .i64 1))
 (.next 3 [(.cmp .eql (.atom 0) (.int .i64 1))])
 (.ite (.cmp .eql (.atom 0) (.int .i64 2))
 (.next 3 [(.cmp .eql (.atom 0) (.int .i64 2))])
 (.next 3 [(.pick (.cmp .eql (.atom 0) (.int .i64 5)) (.cmp .eql (.atom 0) (.int .i64 5)) (.cmp .eql (.atom 0) (.int .i64 6)))]))))
theorem zq7:execF Tryz.prog { pub:=[],nojoin:=false } Tryz.f219=zkc:=by kernel_rfl
theorem zxs:callB Tryz.prog 219=true:=by kernel_rfl
theorem zuj:TriOf Tryz.prog 219 Tryz.f219 zkc:=triOf Tryz.func219 zq7
abbrev zhp:FuncId:=223
def z6k:Fm VE:=
 (.chk [] (.some (.atom 0))
 (.load (.padd (.atom 0) 0) [.int .i64]
 (.ite (.cmp .eql (.atom 6) (.int .i64 4096))
 (.leaf (.sc (.int .i64 22)))
 (.load (.padd (.atom 0) 0) [.int .i64]
 (.store (.padd (.atom 0) 0) [(.ar .add .i64 (.atom 7) (.int .i64 1))]
 (.call (.fn 236) [(.ag [.atom 1,.atom 2,.atom 3,.atom 4])] (.sc .bool) []
 (.ite (.pick (.atom 8) (.cmp .eql (.atom 5) (.int .i64 32)) (.bool false))
 (.leaf (.sc (.int .i64 21)))
 (.call (.fn 237) [(.ag [.atom 1,.atom 2,.atom 3,.atom 4])] (.sc .bool) []
 (.ite (.not (.atom 9))
 (.leaf (.sc (.int .i64 20)))
 (.loop 10 [.int .i64,.int .i64] [.int .i64 0,.int .i64 0]
 (.ite (.cmp .lss (.atom 11) (.len (.atom 4)))
 (.chk [] (.inSl (.atom 4) (.atom 11))
 (.load (.elt (.atom 4) (.atom 11) 4) [.int .i64,.int .i64,.str,.sl]
 (.call (.fn 223) [.sc (.atom 0),(.ag [.atom 12,.atom 13,.atom 14,.atom 15]),(.sc (.ar .add .i64 (.atom 5) (.int .i64 1)))] (.sc (.int .i64)) []
 (.ite (.cmp .neq (.atom 16) (.int .i64 0))
 (.leaf (.sc (.atom 16)))
 (.next 10 [.atom 10,(.ar .add .i64 (.atom 11) (.int .i64 1))])))))
 (.leaf (.sc (.int .i64 0))))))))))))))
theorem zc3:execF Tryz.prog { pub:=[],nojoin:=false } Tryz.f223=z6k:=by kernel_rfl
theorem z70:callB Tryz.prog 223=true:=by kernel_rfl
theorem zew:TriOf Tryz.prog 223 Tryz.f223 z6k:=triOf Tryz.func223 zc3
abbrev zro:FuncId:=236
def ze7:Fm VE:=
 (.leaf (.sc (.pick (.cmp .geq (.atom 0) (.int .i64 5)) (.cmp .leq (.atom 0) (.int .i64 7)) (.bool false))))
theorem zkw:execF Tryz.prog { pub:=[],nojoin:=false } Tryz.f236=ze7:=by kernel_rfl
theorem zd9:callB Tryz.prog 236=true:=by kernel_rfl
theorem znw:TriOf Tryz.prog 236 Tryz.f236 ze7:=triOf Tryz.func236 zkw
abbrev Z3j:FuncId:=237
def zli:Fm VE:=
 (.join 2 [.int .i64,.str]
 (.join 4 [.bool]
 (.ite (.atom 6)
 (.leaf (.sc (.bool false)))
 (.ite (.cmp .eql (.atom 0) (.int .i64 4))
 (.call (.fn 246) [.sc (.atom 2)] (.sc .bool) []
 (.leaf (.sc (.atom 7))))
 (.ite (.cmp .eql (.atom 0) (.int .i64 6))
 (.join 9 [.bool]
 (.leaf (.sc (.atom 7)))
 (.chk [((.cmp .gtr (.len (.atom 3)) (.int .i64 1)),true)] (.inSl (.atom 3) (.ar .sub .i64 (.len (.atom 3)) (.int .i64 1)))
 (.chk [((.cmp .gtr (.len (.atom 3)) (.int .i64 1)),true)] (.some (.elt (.atom 3) (.ar .sub .i64 (.len (.atom 3)) (.int .i64 1)) 4))
 (.ite (.cmp .gtr (.len (.atom 3)) (.int .i64 1))
 (.load (.padd (.elt (.atom 3) (.ar .sub .i64 (.len (.atom 3)) (.int .i64 1)) 4) 0) [.int .i64]
 (.chk [((.cmp .neq (.atom 7) (.int .i64 5)),true)] (.inSl (.atom 3) (.ar .sub .i64 (.len (.atom 3)) (.int .i64 1)))
 (.chk [((.cmp .neq (.atom 7) (.int .i64 5)),true)] (.some (.elt (.atom 3) (.ar .sub .i64 (.len (.atom 3)) (.int .i64 1)) 4))
 (.ite (.cmp .neq (.atom 7) (.int .i64 5))
 (.load (.padd (.elt (.atom 3) (.ar .sub .i64 (.len (.atom 3)) (.int .i64 1)) 4) 0) [.int .i64]
 (.next 9 [(.cmp .neq (.atom 8) (.int .i64 6))]))
 (.next 9 [.bool false])))))
 (.next 9 [.bool false])))))
 (.leaf (.sc (.pick (.cmp .geq (.atom 0) (.int .i64 0)) (.cmp .lss (.atom 0) (.int .i64 8)) (.bool false)))))))
 (.ite (.pick (.cmp .neq (.atom 1) (.atom 4)) (.bool true) (.scmp .neq (.atom 2) (.atom 5)))
 (.next 4 [.bool true])
 (.ite (.cmp .gtr (.len (.atom 3)) (.int .i64 0))
 (.call (.fn 236) [(.ag [.atom 0,.atom 1,.atom 2,.atom 3])] (.sc .bool) []
 (.next 4 [(.not (.atom 6))]))
 (.next 4 [.bool false]))))
 (.ite (.cmp .eql (.atom 0) (.int .i64 0))
 (.next 2 [(.ar .and .i64 (.atom 1) (.int .i64 1)),(.str [])])
 (.ite (.cmp .eql (.atom 0) (.int .i64 1))
 (.next 2 [(.pick (.cmp .lss (.int .i64 1152921504606846975) (.pick (.cmp .gtr (.int .i64 (-1152921504606846976)) (.atom 1)) (.int .i64 (-1152921504606846976)) (.atom 1))) (.int .i64 1152921504606846975) (.pick (.cmp .gtr (.int .i64 (-1152921504606846976)) (.atom 1)) (.int .i64 (-1152921504606846976)) (.atom 1))),(.str [])])
 (.ite (.cmp .eql (.atom 0) (.int .i64 2))
 (.next 2 [(.ar .and .i64 (.atom 1) (.int .i64 255)),(.str [])])
 (.ite (.cmp .eql (.atom 0) (.int .i64 3))
 (.chk [] (.sub (.slen (.atom 2)) (.int .i64 0) (.pick (.cmp .lss (.int .i64 4096) (.slen (.atom 2))) (.int .i64 4096) (.slen (.atom 2))))
 (.next 2 [.int .i64 0,(.ssub (.atom 2) (.int .i64 0) (.pick (.cmp .lss (.int .i64 4096) (.slen (.atom 2))) (.int .i64 4096) (.slen (.atom 2))))]))
 (.next 2 [.int .i64 0,(.pick (.cmp .eql (.atom 0) (.int .i64 4)) (.atom 2) (.str []))]))))))
theorem ztp:execF Tryz.prog { pub:=[],nojoin:=false } Tryz.f237=zli:=by kernel_rfl
theorem Z11:callB Tryz.prog 237=true:=by kernel_rfl
theorem zxb:TriOf Tryz.prog 237 Tryz.f237 zli:=triOf Tryz.func237 ztp
abbrev Z3x:FuncId:=246
def zm9:Fm VE:=
 (.loop 3 [.bool,.int .i64] [.bool false,.int .i64 0]
 (.ite (.cmp .lss (.atom 2) (.slen (.atom 0)))
 (.chk [] (.inStr (.atom 0) (.atom 2))
 (.call (.fn 249) [(.sc (.sidx (.atom 0) (.atom 2)))] (.sc .bool) []
 (.ite (.not (.atom 3))
 (.leaf (.sc (.bool false)))
 (.next 3 [.atom 1,(.ar .add .i64 (.atom 2) (.int .i64 1))]))))
 (.join 6 [.bool]
 (.leaf (.sc (.atom 3)))
 (.ite (.pick (.pick (.scmp .neq (.atom 0) (.str [])) (.cmp .leq (.slen (.atom 0)) (.int .i64 64)) (.bool false)) (.scmp .neq (.atom 0) (.str [46])) (.bool false))
 (.call (.fn 250) [.sc (.atom 0)] (.sc .bool) []
 (.next 6 [(.not (.atom 3))]))
 (.next 6 [.bool false])))))
theorem zsm:execF Tryz.prog { pub:=[],nojoin:=false } Tryz.f246=zm9:=by kernel_rfl
theorem Z1b:callB Tryz.prog 246=true:=by kernel_rfl
theorem zya:TriOf Tryz.prog 246 Tryz.f246 zm9:=triOf Tryz.func246 zsm
abbrev zy9:FuncId:=249
def zhk:Fm VE:=
 (.join 1 [.bool]
 (.leaf (.sc (.atom 1)))
 (.call (.fn 251) [.sc (.atom 0)] (.sc .bool) []
 (.ite (.pick (.pick (.atom 1) (.bool true) (.pick (.cmp .geq (.atom 0) (.int .u8 97)) (.cmp .leq (.atom 0) (.int .u8 122)) (.bool false))) (.bool true) (.pick (.cmp .geq (.atom 0) (.int .u8 65)) (.cmp .leq (.atom 0) (.int .u8 90)) (.bool false)))
 (.next 1 [.bool true])
 (.call (.fn 252) [(.sc (.str [33,36,37,38,42,47,58,60,61,62,63,94,95,126,43,45,46,64])),.sc (.atom 0)] (.sc (.int .i64)) []
 (.next 1 [(.cmp .geq (.atom 2) (.int .i64 0))])))))
theorem zo1:execF Tryz.prog { pub:=[],nojoin:=false } Tryz.f249=zhk:=by kernel_rfl
theorem zvf:callB Tryz.prog 249=true:=by kernel_rfl
theorem zrq:TriOf Tryz.prog 249 Tryz.f249 zhk:=triOf Tryz.func249 zo1
abbrev zt0:FuncId:=250
def zds:Fm VE:=
 (.join 1 [.str]
 (.loop 4 [.bool,.int .i64] [.bool false,.int .i64 0]
 (.ite (.cmp .lss (.atom 3) (.slen (.atom 1)))
 (.chk [] (.inStr (.atom 1) (.atom 3))
 (.call (.fn 251) [(.sc (.sidx (.atom 1) (.atom 3)))] (.sc .bool) []
 (.ite (.not (.atom 4))
 (.leaf (.sc (.bool false)))
 (.next 4 [.atom 2,(.ar .add .i64 (.atom 3) (.int .i64 1))]))))
 (.leaf (.sc (.scmp .neq (.atom 1) (.str []))))))
 (.chk [((.scmp .neq (.atom 0) (.str [])),true)] (.inStr (.atom 0) (.int .i64 0))
 (.chk [((.scmp .neq (.atom 0) (.str [])),true),((.cmp .eql (.sidx (.atom 0) (.int .i64 0)) (.int .u8 43)),false)] (.inStr (.atom 0) (.int .i64 0))
 (.ite (.pick (.scmp .neq (.atom 0) (.str [])) (.pick (.cmp .eql (.sidx (.atom 0) (.int .i64 0)) (.int .u8 43)) (.bool true) (.cmp .eql (.sidx (.atom 0) (.int .i64 0)) (.int .u8 45))) (.bool false))
 (.chk [] (.sub (.slen (.atom 0)) (.int .i64 1) (.slen (.atom 0)))
 (.next 1 [(.ssub (.atom 0) (.int .i64 1) (.slen (.atom 0)))]))
 (.next 1 [.atom 0])))))
theorem zkz:execF Tryz.prog { pub:=[],nojoin:=false } Tryz.f250=zds:=by kernel_rfl
theorem zqc:callB Tryz.prog 250=true:=by kernel_rfl
theorem znq:TriOf Tryz.prog 250 Tryz.f250 zds:=triOf Tryz.func250 zkz
abbrev zul:FuncId:=251
def zf2:Fm VE:=
 (.leaf (.sc (.pick (.cmp .geq (.atom 0) (.int .u8 48)) (.cmp .leq (.atom 0) (.int .u8 57)) (.bool false))))
theorem zmy:execF Tryz.prog { pub:=[],nojoin:=false } Tryz.f251=zf2:=by kernel_rfl
theorem zfc:callB Tryz.prog 251=true:=by kernel_rfl
theorem zq1:TriOf Tryz.prog 251 Tryz.f251 zf2:=triOf Tryz.func251 zmy
abbrev zl3:FuncId:=252
theorem zjo:callB Tryz.prog 252=true:=by kernel_rfl
abbrev zxd:FuncId:=81
def zh6:Fm VE:=
 (.ite (.pick (.cmp .lss (.atom 4) (.int .i64 1)) (.bool true) (.cmp .gtr (.atom 4) (.int .i64 24)))
 (.leaf (.tu [(false,[(.nil 1)]),(false,[.int .i64 0]),(false,[.int .i64 1])]))
 (.call (.fn 121) [(.ag [.atom 0,.atom 1,.atom 2,.atom 3])] (.sc .bool) []
 (.ite (.not (.atom 5))
 (.leaf (.tu [(false,[(.nil 1)]),(false,[.int .i64 0]),(false,[.int .i64 150])]))
 (.call (.fn 122) [(.ag [.atom 0,.atom 1,.atom 2,.atom 3])] (.sc .map) []
 (.sem (.buildSlice 29 1 #[(0,(.const (.int .i64 (-1))))]) 29 [] (.sc .sl) []
 (.call (.fn 123) [.sc (.atom 7),.sc (.atom 2)] (.sc .sl) []
 (.call (.fn 124) [.sc (.atom 6),.sc (.atom 2),.sc (.atom 4)] (.sc .sl) []
 (.loop 10 [.int .i64,.int .i64] [.atom 4,.int .i64 0]
 (.ite (.cmp .lss (.atom 11) (.len (.atom 9)))
 (.chk [] (.inSl (.atom 9) (.atom 11))
 (.load (.elt (.atom 9) (.atom 11) 1) [.int .i64]
 (.sem (.makeMap 135 none) 135 [] (.sc .map) []
 (.sem (.lookup 179 (.tmp 42) (.tmp 43) false) 135 [(42,(.sc (.atom 6))),(43,(.sc (.atom 12)))] (.sc .map) []
 (.sem (.range 135 (.tmp 44)) 0 [(44,(.sc (.atom 14)))] (.sc .ptr) []
 (.loop 18 [] []
 (.join 19 [.bool]
 (.ite (.atom 16)
 (.sem (.entry (.tmp 45)) 0 [(45,(.sc (.atom 15)))] (.tu [(false,[.int .i64]),(false,[.int .i64])]) []
 (.chk [] (.inSl (.atom 8) (.atom 17))
 (.load (.elt (.atom 8) (.atom 17) 1) [.int .i64]
 (.sem (.mapUpdate 135 (.tmp 50) (.tmp 54) (.const (.int .i64 1))) 0 [(50,(.sc (.atom 13))),(54,(.sc (.atom 19)))] (.tu []) []
 (.next 18 [])))))
 (.loop 23 [.int .i64] [.int .i64 0]
 (.sem (.lookup 135 (.tmp 55) (.tmp 56) false) 3 [(55,(.sc (.atom 13))),(56,(.sc (.atom 17)))] (.sc (.int .i64)) []
 (.ite (.cmp .eql (.atom 18) (.int .i64 1))
 (.next 23 [(.ar .add .i64 (.atom 17) (.int .i64 1))])
 (.chk [] (.inSl (.atom 8) (.atom 12))
 (.store (.elt (.atom 8) (.atom 12) 1) [.atom 17]
 (.next 10 [(.pick (.cmp .gtr (.ar .add .i64 (.atom 17) (.int .i64 1)) (.atom 10)) (.ar .add .i64 (.atom 17) (.int .i64 1)) (.atom 10)),(.ar .add .i64 (.atom 11) (.int .i64 1))])))))))
 (.alt (.next (.tmp 45) false) 0 [(45,(.sc (.atom 15)))] (.tu [(false,[.bool])]) (.tu [(false,[.bool]),(false,[.int .i64]),(false,[.int .i64])])
 (.next 19 [.atom 16])
 (.next 19 [.atom 16])))))))))
 (.leaf (.tu [(false,[.atom 8]),(false,[(.ar .sub .i64 (.atom 10) (.atom 4))]),(false,[.int .i64 0])])))))))))))
theorem zo2:execF Tryz.prog { pub:=[],nojoin:=false } Tryz.f81=zh6:=by kernel_rfl
theorem zhg:callB Tryz.prog 81=true:=by kernel_rfl
theorem zt4:TriOf Tryz.prog 81 Tryz.f81 zh6:=triOf Tryz.func81 zo2
abbrev Z3l:FuncId:=121
def zn7:Fm VE:=
 (.new 43 [.atom 0,.atom 1,.atom 2,.atom 3]
 (.join 2 [.bool]
 (.ite (.atom 5)
 (.leaf (.sc (.bool false)))
 (.new 4 [.bool false]
 (.store (.atom 6) [.bool true]
 (.sem (.makeFunc (.func 169) #[] #[.tmp 3,.tmp 1]) 209 [(3,(.sc (.atom 6))),(1,(.sc (.atom 4)))] (.sc .any) []
 (.chk [] (.some (.atom 4))
 (.load (.padd (.atom 4) 3) [.sl]
 (.loop 7 [.int .i64] [.int .i64 0]
 (.ite (.cmp .lss (.atom 9) (.len (.atom 8)))
 (.join 10 []
 (.next 7 [(.ar .add .i64 (.atom 9) (.int .i64 1))])
 (.chk [] (.inSl (.atom 8) (.atom 9))
 (.load (.elt (.atom 8) (.atom 9) 7) [.sl,.int .i64,.int .i64,.sl,.int .i64,.int .i64,.int .i64]
 (.loop 14 [.int .i64] [.int .i64 0]
 (.ite (.cmp .lss (.atom 17) (.len (.atom 10)))
 (.join 17 []
 (.next 14 [(.ar .add .i64 (.atom 17) (.int .i64 1))])
 (.chk [] (.inSl (.atom 10) (.atom 17))
 (.load (.elt (.atom 10) (.atom 17) 8) [.str,.int .i64,.sl,.int .i64,.int .i64,.str,.sl,.int .i64]
 (.call (.atom 7) [.sc (.atom 20)] (.tu []) []
 (.ite (.scmp .neq (.atom 18) (.str [116,105,101]))
 (.sem (.buildSlice 29 1 #[(0,(.tmp 60))]) 29 [(60,(.sc (.atom 19)))] (.sc .sl) []
 (.call (.atom 7) [.sc (.atom 26)] (.tu []) []
 (.next 17 [])))
 (.next 17 []))))))
 (.join 19 [.bool]
 (.ite (.atom 18)
 (.sem (.buildSlice 29 1 #[(0,(.tmp 74))]) 29 [(74,(.sc (.atom 12)))] (.sc .sl) []
 (.call (.atom 7) [.sc (.atom 19)] (.tu []) []
 (.next 10 [])))
 (.ite (.cmp .eql (.atom 11) (.int .i64 3))
 (.sem (.buildSlice 29 1 #[(0,(.tmp 81))]) 29 [(81,(.sc (.atom 12)))] (.sc .sl) []
 (.sem (.call ⟨.builtin .append,#[.tmp 82,.tmp 84],#[29,29]⟩) 29 [(82,(.sc (.atom 19))),(84,(.sc (.atom 13)))] (.sc .sl) []
 (.call (.atom 7) [.sc (.atom 20)] (.tu []) []
 (.next 10 []))))
 (.ite (.cmp .eql (.atom 11) (.int .i64 4))
 (.sem (.buildSlice 29 2 #[(0,(.tmp 91)),(1,(.tmp 93))]) 29 [(91,(.sc (.atom 12))),(93,(.sc (.atom 14)))] (.sc .sl) []
 (.sem (.call ⟨.builtin .append,#[.tmp 94,.tmp 96],#[29,29]⟩) 29 [(94,(.sc (.atom 19))),(96,(.sc (.atom 13)))] (.sc .sl) []
 (.call (.atom 7) [.sc (.atom 20)] (.tu []) []
 (.next 10 []))))
 (.ite (.cmp .eql (.atom 11) (.int .i64 6))
 (.sem (.buildSlice 29 2 #[(0,(.tmp 103)),(1,(.tmp 105))]) 29 [(103,(.sc (.atom 12))),(105,(.sc (.atom 14)))] (.sc .sl) []
 (.call (.atom 7) [.sc (.atom 19)] (.tu []) []
 (.next 10 [])))
 (.next 10 [])))))
 (.ite (.cmp .eql (.atom 11) (.int .i64 1))
 (.next 19 [(.cmp .eql (.atom 11) (.int .i64 1))])
 (.next 19 [(.pick (.cmp .eql (.atom 11) (.int .i64 2)) (.cmp .eql (.atom 11) (.int .i64 2)) (.cmp .eql (.atom 11) (.int .i64 5)))]))))))))
 (.load (.atom 6) [.bool]
 (.leaf (.sc (.atom 10))))))))))))
 (.chk [] (.some (.atom 4))
 (.load (.padd (.atom 4) 2) [.int .i64]
 (.ite (.cmp .lss (.atom 5) (.int .i64 0))
 (.next 2 [.bool true])
 (.load (.padd (.atom 4) 2) [.int .i64]
 (.ite (.cmp .gtr (.atom 6) (.int .i64 2000))
 (.next 2 [.bool true])
 (.load (.padd (.atom 4) 0) [.int .i64]
 (.ite (.cmp .lss (.atom 7) (.int .i64 0))
 (.next 2 [.bool true])
 (.load (.padd (.atom 4) 0) [.int .i64]
 (.load (.padd (.atom 4) 2) [.int .i64]
 (.ite (.cmp .gtr (.atom 8) (.atom 9))
 (.next 2 [.bool true])
 (.load (.padd (.atom 4) 3) [.sl]
 (.next 2 [(.cmp .eql (.len (.atom 10)) (.int .i64 0))]))))))))))))))
theorem zt1:execF Tryz.prog { pub:=[1,3],nojoin:=false } Tryz.f121=zn7:=by kernel_rfl
theorem Z1y:callB Tryz.prog 121=true:=by kernel_rfl
theorem zys:TriOf Tryz.prog 121 Tryz.f121 zn7:=triOf Tryz.func121 zt1
abbrev zyf:FuncId:=122
def zi8:Fm VE:=
 (.sem (.makeMap 179 none) 179 [] (.sc .map) []
 (.call (.fn 129) [(.ag [.atom 0,.atom 1,.atom 2,.atom 3])] (.sc .sl) []
 (.chk [] (.inSl (.atom 5) (.int .i64 0))
 (.load (.elt (.atom 5) (.int .i64 0) 1) [.sl]
 (.loop 5 [.int .i64] [.int .i64 0]
 (.ite (.cmp .lss (.atom 7) (.len (.atom 6)))
 (.chk [] (.inSl (.atom 6) (.atom 7))
 (.load (.elt (.atom 6) (.atom 7) 1) [.int .i64]
 (.load (.elt (.atom 5) (.int .i64 0) 1) [.sl]
 (.chk [] (.sub (.cap (.atom 9)) (.int .i64 0) (.atom 7))
 (.loop 11 [.int .i64] [.int .i64 0]
 (.ite (.cmp .lss (.atom 10) (.len (.sls (.atom 9) (.int .i64 0) (.atom 7) 1)))
 (.chk [] (.inSl (.sls (.atom 9) (.int .i64 0) (.atom 7) 1) (.atom 10))
 (.load (.elt (.sls (.atom 9) (.int .i64 0) (.atom 7) 1) (.atom 10) 1) [.int .i64]
 (.call (.fn 170) [.sc (.atom 4),.sc (.atom 8),.sc (.atom 11)] (.tu []) []
 (.next 11 [(.ar .add .i64 (.atom 10) (.int .i64 1))]))))
 (.next 5 [(.ar .add .i64 (.atom 7) (.int .i64 1))])))))))
 (.loop 10 [.int .i64] [.int .i64 0]
 (.ite (.cmp .lss (.atom 8) (.len (.atom 3)))
 (.join 13 []
 (.next 10 [(.ar .add .i64 (.atom 8) (.int .i64 1))])
 (.chk [] (.inSl (.atom 3) (.atom 8))
 (.load (.elt (.atom 3) (.atom 8) 7) [.sl,.int .i64,.int .i64,.sl,.int .i64,.int .i64,.int .i64]
 (.call (.fn 171) [(.ag [.atom 0,.atom 1,.atom 2,.atom 3]),.sc (.atom 8)] (.sc .sl) []
 (.loop 17 [.int .i64] [.int .i64 0]
 (.ite (.cmp .lss (.atom 17) (.len (.atom 16)))
 (.join 20 []
 (.next 17 [(.ar .add .i64 (.atom 17) (.int .i64 1))])
 (.chk [] (.inSl (.atom 16) (.atom 17))
 (.load (.elt (.atom 16) (.atom 17) 1) [.sl]
 (.chk [] (.inSl (.atom 9) (.atom 17))
 (.load (.elt (.atom 9) (.atom 17) 8) [.str,.int .i64,.sl,.int .i64,.int .i64,.str,.sl,.int .i64]
 (.ite (.scmp .eql (.atom 19) (.str [116,105,101]))
 (.next 20 [])
 (.loop 26 [.int .i64] [.int .i64 0]
 (.ite (.cmp .lss (.atom 27) (.len (.atom 18)))
 (.join 29 []
 (.next 26 [(.ar .add .i64 (.atom 27) (.int .i64 1))])
 (.chk [] (.inSl (.atom 18) (.atom 27))
 (.load (.elt (.atom 18) (.atom 27) 1) [.int .i64]
 (.join 31 [.bool]
 (.ite (.atom 29)
 (.call (.fn 170) [.sc (.atom 4),.sc (.atom 20),.sc (.atom 28)] (.tu []) []
 (.next 29 []))
 (.next 29 []))
 (.ite (.scmp .neq (.atom 19) (.str [109,111,118,101]))
 (.next 31 [.bool true])
 (.call (.fn 172) [.sc (.atom 21),.sc (.atom 28)] (.sc .bool) []
 (.next 31 [(.not (.atom 29))])))))))
 (.next 20 [])))))))))
 (.ite (.pick (.cmp .eql (.atom 10) (.int .i64 4)) (.bool true) (.cmp .eql (.atom 10) (.int .i64 6)))
 (.call (.fn 125) [(.ag [.atom 0,.atom 1,.atom 2,.atom 3]),.sc (.atom 8)] (.sc .sl) []
 (.loop 23 [.int .i64] [.int .i64 0]
 (.ite (.cmp .lss (.atom 19) (.len (.atom 18)))
 (.chk [] (.inSl (.atom 18) (.atom 19))
 (.load (.elt (.atom 18) (.atom 19) 1) [.int .i64]
 (.call (.fn 170) [.sc (.atom 4),.sc (.atom 13),.sc (.atom 20)] (.tu []) []
 (.next 23 [(.ar .add .i64 (.atom 19) (.int .i64 1))]))))
 (.next 13 []))))
 (.next 13 []))))))))
 (.leaf (.sc (.atom 4)))))))))))
theorem znr:execF Tryz.prog { pub:=[],nojoin:=false } Tryz.f122=zi8:=by kernel_rfl
theorem zuh:callB Tryz.prog 122=true:=by kernel_rfl
theorem zs8:TriOf Tryz.prog 122 Tryz.f122 zi8:=triOf Tryz.func122 znr
abbrev zbm:FuncId:=123
def z4m:Fm VE:=
 (.join 1 []
 (.call (.fn 173) [(.sc (.conv .u64 (.len (.atom 0)))),(.sc (.conv .u64 (.atom 1)))] (.tu [(false,[.int .u64]),(false,[.int .u64])]) []
 (.join 3 []
 (.sem (.makeSlice 29 (.tmp 29) (.tmp 29)) 29 [(29,(.sc (.conv .i64 (.atom 3)))),(29,(.sc (.conv .i64 (.atom 3))))] (.sc .sl) []
 (.sem (.call ⟨.builtin .copy,#[.tmp 31,.tmp 32],#[29,29]⟩) 3 [(31,(.sc (.atom 4))),(32,(.sc (.atom 0)))] (.sc (.int .i64)) []
 (.loop 7 [.int .i64] [.atom 5]
 (.ite (.cmp .lss (.atom 6) (.len (.atom 4)))
 (.chk [] (.sub (.cap (.atom 4)) (.atom 6) (.len (.atom 4)))
 (.chk [] (.sub (.cap (.atom 4)) (.int .i64 0) (.atom 6))
 (.sem (.call ⟨.builtin .copy,#[.tmp 41,.tmp 44],#[29,29]⟩) 3 [(41,(.sc (.sls (.atom 4) (.atom 6) (.len (.atom 4)) 1))),(44,(.sc (.sls (.atom 4) (.int .i64 0) (.atom 6) 1)))] (.sc (.int .i64)) []
 (.next 7 [(.ar .add .i64 (.atom 6) (.atom 7))]))))
 (.leaf (.sc (.atom 4)))))))
 (.ite (.pick (.cmp .gtr (.atom 2) (.int .u64 0)) (.bool true) (.cmp .gtr (.atom 3) (.int .u64 9223372036854775807)))
 (.sem (.makeInterface 9 (.const (.string ⟨#[116,104,101,32,114,101,115,117,108,116,32,111,102,32,40,108,101,110,40,120,41,32,42,32,99,111,117,110,116,41,32,111,118,101,114,102,108,111,119,115]⟩))) 20 [] (.sc .any) []
 (.sem (.panic (.tmp 27)) 0 [(27,(.sc (.atom 4)))] (.tu []) []
 (.next 3 [])))
 (.next 3 []))))
 (.ite (.cmp .lss (.atom 1) (.int .i64 0))
 (.sem (.makeInterface 9 (.const (.string ⟨#[99,97,110,110,111,116,32,98,101,32,110,101,103,97,116,105,118,101]⟩))) 20 [] (.sc .any) []
 (.sem (.panic (.tmp 11)) 0 [(11,(.sc (.atom 2)))] (.tu []) []
 (.next 1 [])))
 (.next 1 [])))
theorem z94:execF Tryz.prog { pub:=[],nojoin:=false } Tryz.f123=z4m:=by kernel_rfl
theorem zaw:callB Tryz.prog 123=true:=by kernel_rfl
theorem zag:TriOf Tryz.prog 123 Tryz.f123 z4m:=triOf Tryz.func123 z94
abbrev zyg:FuncId:=124
def zhu:Fm VE:=
 (.join 1 [.sl,.sl]
 (.loop 4 [.int .i64] [.int .i64 0]
 (.ite (.cmp .lss (.atom 5) (.atom 1))
 (.sem (.lookup 179 (.tmp 24) (.tmp 25) false) 135 [(24,(.sc (.atom 0))),(25,(.sc (.atom 5)))] (.sc .map) []
 (.sem (.call ⟨.builtin .len,#[.tmp 26],#[135]⟩) 3 [(26,(.sc (.atom 6)))] (.sc (.int .i64)) []
 (.chk [] (.inSl (.atom 3) (.atom 5))
 (.store (.elt (.atom 3) (.atom 5) 1) [.atom 7]
 (.next 4 [(.ar .add .i64 (.atom 5) (.int .i64 1))])))))
 (.loop 9 [.sl] [(.nil 1)]
 (.ite (.cmp .lss (.len (.atom 6)) (.atom 1))
 (.join 13 [.int .i64]
 (.chk [] (.inSl (.atom 4) (.atom 7))
 (.store (.elt (.atom 4) (.atom 7) 1) [.bool true]
 (.sem (.buildSlice 29 1 #[(0,(.tmp 68))]) 29 [(68,(.sc (.atom 7)))] (.sc .sl) []
 (.sem (.call ⟨.builtin .append,#[.tmp 67,.tmp 69],#[29,29]⟩) 29 [(67,(.sc (.atom 6))),(69,(.sc (.atom 8)))] (.sc .sl) []
 (.sem (.lookup 179 (.tmp 71) (.tmp 72) false) 135 [(71,(.sc (.atom 0))),(72,(.sc (.atom 7)))] (.sc .map) []
 (.sem (.range 135 (.tmp 73)) 0 [(73,(.sc (.atom 10)))] (.sc .ptr) []
 (.loop 17 [] []
 (.join 18 [.bool]
 (.ite (.atom 12)
 (.sem (.entry (.tmp 74)) 0 [(74,(.sc (.atom 11)))] (.tu [(false,[.int .i64]),(false,[.int .i64])]) []
 (.chk [] (.inSl (.atom 3) (.atom 13))
 (.load (.elt (.atom 3) (.atom 13) 1) [.int .i64]
 (.store (.elt (.atom 3) (.atom 13) 1) [(.ar .sub .i64 (.atom 15) (.int .i64 1))]
 (.next 17 [])))))
 (.next 9 [.atom 9]))
 (.alt (.next (.tmp 74) false) 0 [(74,(.sc (.atom 11)))] (.tu [(false,[.bool])]) (.tu [(false,[.bool]),(false,[.int .i64]),(false,[.int .i64])])
 (.next 18 [.atom 12])
 (.next 18 [.atom 12]))))))))))
 (.loop 15 [.int .i64,.int .i64] [(.int .i64 (-1)),.int .i64 0]
 (.ite (.cmp .lss (.atom 8) (.atom 1))
 (.join 18 [.int .i64]
 (.next 15 [.atom 9,(.ar .add .i64 (.atom 8) (.int .i64 1))])
 (.chk [] (.inSl (.atom 4) (.atom 8))
 (.load (.elt (.atom 4) (.atom 8) 1) [.bool]
 (.ite (.atom 9)
 (.next 18 [.atom 7])
 (.chk [] (.inSl (.atom 3) (.atom 8))
 (.load (.elt (.atom 3) (.atom 8) 1) [.int .i64]
 (.ite (.cmp .lss (.atom 10) (.atom 2))
 (.next 13 [.atom 8])
 (.join 24 [.bool]
 (.next 18 [(.pick (.atom 11) (.atom 8) (.atom 7))])
 (.chk [((.cmp .lss (.atom 7) (.int .i64 0)),false)] (.inSl (.atom 3) (.atom 7))
 (.ite (.cmp .lss (.atom 7) (.int .i64 0))
 (.next 24 [.bool true])
 (.load (.elt (.atom 3) (.atom 8) 1) [.int .i64]
 (.load (.elt (.atom 3) (.atom 7) 1) [.int .i64]
 (.next 24 [(.cmp .gtr (.atom 11) (.atom 12))])))))))))))))
 (.next 13 [.atom 7]))))
 (.call (.fn 174) [.sc (.atom 6)] (.tu []) []
 (.leaf (.sc (.atom 6))))))))
 (.both
 (.sem (.makeSlice 29 (.tmp 14) (.tmp 14)) 29 [(14,(.sc (.atom 1))),(14,(.sc (.atom 1)))] (.sc .sl) []
 (.sem (.makeSlice 116 (.tmp 16) (.tmp 16)) 116 [(16,(.sc (.atom 1))),(16,(.sc (.atom 1)))] (.sc .sl) []
 (.next 1 [.atom 3,.atom 4])))
 (.sem (.makeSlice 116 (.tmp 16) (.tmp 16)) 116 [(16,(.sc (.atom 1))),(16,(.sc (.atom 1)))] (.sc .sl) []
 (.sem (.makeSlice 29 (.tmp 14) (.tmp 14)) 29 [(14,(.sc (.atom 1))),(14,(.sc (.atom 1)))] (.sc .sl) []
 (.next 1 [.atom 4,.atom 3])))))
theorem znu:execF Tryz.prog { pub:=[],nojoin:=false } Tryz.f124=zhu:=by kernel_rfl
theorem zv1:callB Tryz.prog 124=true:=by kernel_rfl
theorem ztu:TriOf Tryz.prog 124 Tryz.f124 zhu:=triOf Tryz.func124 znu
abbrev z1s:FuncId:=169
def zi2:Fm VE:=
 (.loop 1 [.int .i64] [.int .i64 0]
 (.ite (.cmp .lss (.atom 3) (.len (.atom 0)))
 (.join 4 []
 (.next 1 [(.ar .add .i64 (.atom 3) (.int .i64 1))])
 (.chk [] (.inSl (.atom 0) (.atom 3))
 (.load (.elt (.atom 0) (.atom 3) 1) [.int .i64]
 (.load (.atom 1) [.bool]
 (.chk [((.pick (.atom 5) (.cmp .geq (.atom 4) (.int .i64 0)) (.bool false)),true)] (.some (.atom 2))
 (.ite (.pick (.atom 5) (.cmp .geq (.atom 4) (.int .i64 0)) (.bool false))
 (.load (.padd (.atom 2) 2) [.int .i64]
 (.store (.atom 1) [(.cmp .lss (.atom 4) (.atom 6))]
 (.next 4 [])))
 (.store (.atom 1) [.bool false]
 (.next 4 []))))))))
 (.leaf (.tu []))))
theorem zo4:zrd Tryz.prog { pub:=[],nojoin:=false } Tryz.f169 [(.sc (.sl)),(.sc (.ptr)),(.sc (.ptr))]=zi2:=by kernel_rfl
theorem z3c:callB Tryz.prog 169=true:=by kernel_rfl
theorem zrg:Z9w Tryz.prog 169 [(.sc (.sl)),(.sc (.ptr)),(.sc (.ptr))] zi2:=Zey Tryz.func169 zo4
abbrev zda:FuncId:=170
def z59:Fm VE:=
 (.ite (.cmp .eql (.atom 1) (.atom 2))
 (.leaf (.tu []))
 (.loop 3 [.int .i64] [.int .i64 0]
 (.ite (.cmp .lss (.atom 3) (.int .i64 2))
 (.sem (.index 234 (.tmp 17) (.tmp 18)) 233 [(17,(.ag [.atom 1,.atom 2,.atom 2,.atom 1])),(18,(.sc (.atom 3)))] (.ag [.int .i64,.int .i64]) []
 (.join 8 []
 (.sem (.lookup 179 (.tmp 30) (.tmp 32) false) 135 [(30,(.sc (.atom 0))),(32,(.sc (.atom 4)))] (.sc .map) []
 (.sem (.mapUpdate 135 (.tmp 33) (.tmp 35) (.const (.int .i64 1))) 0 [(33,(.sc (.atom 6))),(35,(.sc (.atom 5)))] (.tu []) []
 (.next 3 [(.ar .add .i64 (.atom 3) (.int .i64 1))])))
 (.sem (.lookup 179 (.tmp 21) (.tmp 23) false) 135 [(21,(.sc (.atom 0))),(23,(.sc (.atom 4)))] (.sc .map) []
 (.ite (.isnil (.atom 6))
 (.sem (.makeMap 135 none) 135 [] (.sc .map) []
 (.sem (.mapUpdate 179 (.tmp 26) (.tmp 28) (.tmp 29)) 0 [(26,(.sc (.atom 0))),(28,(.sc (.atom 4))),(29,(.sc (.atom 7)))] (.tu []) []
 (.next 8 [])))
 (.next 8 [])))))
 (.leaf (.tu [])))))
theorem z9r:execF Tryz.prog { pub:=[],nojoin:=false } Tryz.f170=z59:=by kernel_rfl
theorem z39:callB Tryz.prog 170=true:=by kernel_rfl
theorem zbc:TriOf Tryz.prog 170 Tryz.f170 z59:=triOf Tryz.func170 z9r
abbrev z9s:FuncId:=172
def z49:Fm VE:=
 (.call (.fn 204) [.sc (.atom 0),.sc (.atom 1)] (.sc (.int .i64)) []
 (.leaf (.sc (.cmp .geq (.atom 2) (.int .i64 0)))))
theorem z7j:execF Tryz.prog { pub:=[],nojoin:=false } Tryz.f172=z49:=by kernel_rfl
theorem z9n:callB Tryz.prog 172=true:=by kernel_rfl
theorem z9d:TriOf Tryz.prog 172 Tryz.f172 z49:=triOf Tryz.func172 z7j
abbrev zss:FuncId:=173
def zd4:Fm VE:=
 (.call (.fn 206) [.sc (.atom 0),.sc (.atom 1)] (.tu [(false,[.int .u64]),(false,[.int .u64])]) []
 (.leaf (.tu [(false,[.atom 2]),(false,[.atom 3])])))
theorem zku:execF Tryz.prog { pub:=[],nojoin:=false } Tryz.f173=zd4:=by kernel_rfl
theorem zqn:callB Tryz.prog 173=true:=by kernel_rfl
theorem zns:TriOf Tryz.prog 173 Tryz.f173 zd4:=triOf Tryz.func173 zku
abbrev zb1:FuncId:=174
def z4j:Fm VE:=
 (.loop 1 [.int .i64,.int .i64] [.int .i64 0,(.ar .sub .i64 (.len (.atom 0)) (.int .i64 1))]
 (.ite (.cmp .lss (.atom 1) (.atom 2))
 (.chk [] (.inSl (.atom 0) (.atom 2))
 (.load (.elt (.atom 0) (.atom 2) 1) [.int .i64]
 (.chk [] (.inSl (.atom 0) (.atom 1))
 (.load (.elt (.atom 0) (.atom 1) 1) [.int .i64]
 (.store (.elt (.atom 0) (.atom 1) 1) [.atom 3]
 (.store (.elt (.atom 0) (.atom 2) 1) [.atom 4]
 (.next 1 [(.ar .add .i64 (.atom 1) (.int .i64 1)),(.ar .sub .i64 (.atom 2) (.int .i64 1))])))))))
 (.leaf (.tu []))))
theorem z8n:execF Tryz.prog { pub:=[],nojoin:=false } Tryz.f174=z4j:=by kernel_rfl
theorem za7:callB Tryz.prog 174=true:=by kernel_rfl
theorem z9l:TriOf Tryz.prog 174 Tryz.f174 z4j:=triOf Tryz.func174 z8n
abbrev zcb:FuncId:=204
def z4u:Fm VE:=
 (.loop 3 [.int .i64,.int .i64] [.int .i64 0,.int .i64 0]
 (.ite (.cmp .lss (.atom 3) (.len (.atom 0)))
 (.chk [] (.inSl (.atom 0) (.atom 3))
 (.load (.elt (.atom 0) (.atom 3) 1) [.int .i64]
 (.ite (.cmp .eql (.atom 1) (.atom 4))
 (.leaf (.sc (.atom 3)))
 (.next 3 [.atom 2,(.ar .add .i64 (.atom 3) (.int .i64 1))]))))
 (.leaf (.sc (.int .i64 (-1))))))
theorem z9k:execF Tryz.prog { pub:=[],nojoin:=false } Tryz.f204=z4u:=by kernel_rfl
theorem zbf:callB Tryz.prog 204=true:=by kernel_rfl
theorem z4n:TriOf Tryz.prog 204 Tryz.f204 z4u:=triOf Tryz.func204 z9k
abbrev z6c:FuncId:=206
def z40:Fm VE:=
 (.leaf (.tu [(false,[(.ar .add .u64 (.ar .add .u64 (.ar .mul .u64 (.ar .shr .u64 (.atom 0) (.int .u64 32)) (.ar .shr .u64 (.atom 1) (.int .u64 32))) (.ar .shr .u64 (.ar .add .u64 (.ar .mul .u64 (.ar .shr .u64 (.atom 0) (.int .u64 32)) (.ar .and .u64 (.atom 1) (.int .u64 4294967295))) (.ar .shr .u64 (.ar .mul .u64 (.ar .and .u64 (.atom 0) (.int .u64 4294967295)) (.ar .and .u64 (.atom 1) (.int .u64 4294967295))) (.int .u64 32))) (.int .u64 32))) (.ar .shr .u64 (.ar .add .u64 (.ar .and .u64 (.ar .add .u64 (.ar .mul .u64 (.ar .shr .u64 (.atom 0) (.int .u64 32)) (.ar .and .u64 (.atom 1) (.int .u64 4294967295))) (.ar .shr .u64 (.ar .mul .u64 (.ar .and .u64 (.atom 0) (.int .u64 4294967295)) (.ar .and .u64 (.atom 1) (.int .u64 4294967295))) (.int .u64 32))) (.int .u64 4294967295)) (.ar .mul .u64 (.ar .and .u64 (.atom 0) (.int .u64 4294967295)) (.ar .shr .u64 (.atom 1) (.int .u64 32)))) (.int .u64 32)))]),(false,[(.ar .mul .u64 (.atom 0) (.atom 1))])]))
theorem zhn:execF Tryz.prog { pub:=[],nojoin:=false } Tryz.f206=z40:=by kernel_rfl
theorem zas:callB Tryz.prog 206=true:=by kernel_rfl
theorem z9p:TriOf Tryz.prog 206 Tryz.f206 z40:=triOf Tryz.func206 zhn
abbrev zab:FuncId:=6
def z4a:Fm VE:=
 (.call (.fn 20) [.sc (.atom 0),.sc (.atom 1),.sc (.atom 2)] (.tu [(true,[.int .i64,.int .i64,.str,.sl]),(false,[.bool])]) []
 (.call (.fn 21) [.sc (.atom 0),.sc (.atom 1),.sc (.atom 2)] (.tu [(true,[.int .i64,.int .i64,.str,.sl]),(false,[.bool])]) []
 (.join 3 [.bool]
 (.leaf (.sc (.atom 13)))
 (.call (.fn 22) [] (.sc .bool) []
 (.ite (.pick (.atom 13) (.beq (.atom 7) (.atom 12)) (.bool false))
 (.call (.fn 23) [(.ag [.atom 3,.atom 4,.atom 5,.atom 6]),(.ag [.atom 8,.atom 9,.atom 10,.atom 11])] (.sc .bool) []
 (.next 3 [.atom 14]))
 (.next 3 [.bool false]))))))
theorem z7e:execF Tryz.prog { pub:=[],nojoin:=false } Tryz.f6=z4a:=by kernel_rfl
theorem z91:TriOf Tryz.prog 6 Tryz.f6 z4a:=triOf Tryz.func6 z7e
abbrev Z6g:FuncId:=10
def zp5:Fm VE:=
 (.ite (.pick (.pick (.cmp .neq (.atom 0) (.int .i64 3)) (.scmp .neq (.atom 2) (.str [])) (.bool false)) (.bool true) (.pick (.pick (.pick (.cmp .neq (.atom 0) (.int .i64 1)) (.cmp .neq (.atom 0) (.int .i64 2)) (.bool false)) (.cmp .neq (.atom 0) (.int .i64 0)) (.bool false)) (.cmp .neq (.atom 1) (.int .i64 0)) (.bool false)))
 (.leaf (.tu [(false,[.int .i64 0]),(false,[.bool false])]))
 (.join 3 []
 (.leaf (.tu [(false,[.int .i64 0]),(false,[.bool false])]))
 (.ite (.cmp .eql (.atom 0) (.int .i64 1))
 (.call (.fn 33) [.sc (.atom 1)] (.tu [(false,[.int .i64]),(false,[.int .i64])]) []
 (.leaf (.tu [(false,[.atom 4]),(false,[(.cmp .eql (.atom 5) (.int .i64 0))])])))
 (.ite (.cmp .eql (.atom 0) (.int .i64 0))
 (.ite (.cmp .eql (.ar .and .i64 (.atom 1) (.int .i64 1)) (.atom 1))
 (.call (.fn 34) [.sc (.atom 1)] (.sc (.int .i64)) []
 (.leaf (.tu [(false,[.atom 4]),(false,[.bool true])])))
 (.next 3 []))
 (.ite (.cmp .eql (.atom 0) (.int .i64 2))
 (.ite (.cmp .eql (.ar .and .i64 (.atom 1) (.int .i64 255)) (.atom 1))
 (.call (.fn 34) [(.sc (.ar .add .i64 (.int .i64 256) (.atom 1)))] (.sc (.int .i64)) []
 (.leaf (.tu [(false,[.atom 4]),(false,[.bool true])])))
 (.next 3 []))
 (.ite (.cmp .eql (.atom 0) (.int .i64 3))
 (.call (.fn 35) [.sc (.atom 3),.sc (.atom 2)] (.sc (.int .i64)) []
 (.ite (.cmp .geq (.atom 4) (.int .i64 0))
 (.leaf (.tu [(false,[(.ar .or .i64 (.ar .shl .i64 (.atom 4) (.int .u64 3)) (.int .i64 3))]),(false,[.bool true])]))
 (.next 3 [])))
 (.ite (.cmp .eql (.atom 0) (.int .i64 4))
 (.call (.fn 34) [.sc (.int .i64 2)] (.sc (.int .i64)) []
 (.leaf (.tu [(false,[.atom 4]),(false,[.bool true])])))
 (.ite (.cmp .eql (.atom 0) (.int .i64 5))
 (.call (.fn 34) [.sc (.int .i64 3)] (.sc (.int .i64)) []
 (.leaf (.tu [(false,[.atom 4]),(false,[.bool true])])))
 (.ite (.cmp .eql (.atom 0) (.int .i64 6))
 (.call (.fn 34) [.sc (.int .i64 4)] (.sc (.int .i64)) []
 (.leaf (.tu [(false,[.atom 4]),(false,[.bool true])])))
 (.ite (.cmp .eql (.atom 0) (.int .i64 7))
 (.call (.fn 34) [.sc (.int .i64 5)] (.sc (.int .i64)) []
 (.leaf (.tu [(false,[.atom 4]),(false,[.bool true])])))
 (.next 3 [])))))))))))
theorem zuo:execF Tryz.prog { pub:=[],nojoin:=false } Tryz.f10=zp5:=by kernel_rfl
theorem Z3o:callB Tryz.prog 10=true:=by kernel_rfl
theorem zzl:TriOf Tryz.prog 10 Tryz.f10 zp5:=triOf Tryz.func10 zuo
abbrev Z2r:FuncId:=20
def zn3:Fm VE:=
 (.new 125 [.atom 0,.atom 2,.int .i64 200]
 (.call (.fn 67) [.sc (.atom 3),.sc (.atom 1),.sc (.int .i64 0)] (.tu [(true,[.int .i64,.int .i64,.str,.sl]),(false,[.bool])]) []
 (.ite (.not (.atom 8))
 (.leaf (.tu [(true,[.int .i64 0,.int .i64 0,(.str []),(.nil 1)]),(false,[.bool false])]))
 (.leaf (.tu [(true,[.atom 4,.atom 5,.atom 6,.atom 7]),(false,[.bool true])])))))
theorem zrt:execF Tryz.prog { pub:=[14],nojoin:=false } Tryz.f20=zn3:=by kernel_rfl
theorem zdp:callB Tryz.prog 20=true:=by kernel_rfl
theorem zxn:TriOf Tryz.prog 20 Tryz.f20 zn3:=triOf Tryz.func20 zrt
abbrev zic:FuncId:=21
def z71:Fm VE:=
 (.call (.fn 68) [.sc (.atom 0),.sc (.atom 1),.sc (.atom 2),.sc (.int .i64 0),.sc (.int .i64 0)] (.tu [(true,[.int .i64,.int .i64,.str,.sl]),(false,[.int .i64]),(false,[.bool])]) []
 (.ite (.not (.atom 8))
 (.leaf (.tu [(true,[.int .i64 0,.int .i64 0,(.str []),(.nil 1)]),(false,[.bool false])]))
 (.leaf (.tu [(true,[.atom 3,.atom 4,.atom 5,.atom 6]),(false,[.bool true])]))))
theorem zc1:execF Tryz.prog { pub:=[],nojoin:=false } Tryz.f21=z71:=by kernel_rfl
theorem zfr:callB Tryz.prog 21=true:=by kernel_rfl
theorem zei:TriOf Tryz.prog 21 Tryz.f21 z71:=triOf Tryz.func21 zc1
abbrev zg9:FuncId:=22
def z65:Fm VE:=
 (.call (.fn 69) [.sc (.int .i64 5)] (.ag [.int .i64,.int .i64,.str,.sl]) []
 (.sem (.buildSlice 36 1 #[(0,(.tmp 8))]) 36 [(8,(.ag [(.str [99,111,110,115,116]),.int .i64 0,(.nil 1),.atom 0,.atom 1,.atom 2,.atom 3,.int .i64 0]))] (.sc .sl) []
 (.sem (.buildSlice 41 1 #[(0,(.tmp 11))]) 41 [(11,(.ag [.atom 4,.int .i64 2,.int .i64 0,(.nil 1),.int .i64 0,.int .i64 0,.int .i64 0]))] (.sc .sl) []
 (.sem (.buildSlice 44 1 #[(0,(.tmp 13))]) 44 [(13,(.ag [.int .i64 0,.int .i64 0,.int .i64 1,.atom 5]))] (.sc .sl) []
 (.call (.fn 31) [(.ag [.atom 6]),.sc (.int .i64 50),.sc (.int .i64 10),(.sc (.str [])),.sc (.int .i64 100000)] (.ag [.int .i64,.str,.int .i64,.int .i64,.str,.sl,.bool,.int .i64]) []
 (.call (.fn 31) [(.ag [.atom 6]),.sc (.int .i64 50),.sc (.int .i64 1),(.sc (.str [])),.sc (.int .i64 100000)] (.ag [.int .i64,.str,.int .i64,.int .i64,.str,.sl,.bool,.int .i64]) []
 (.sem (.buildSlice 29 3 #[(0,(.const (.int .i64 87))),(1,(.const (.int .i64 8))),(2,(.const (.int .i64 18)))]) 29 [] (.sc .sl) []
 (.call (.fn 20) [.sc (.atom 23),.sc (.int .i64 1),(.sc (.nil 1))] (.tu [(true,[.int .i64,.int .i64,.str,.sl]),(false,[.bool])]) []
 (.call (.fn 31) [(.ag [.atom 6]),.sc (.int .i64 50),(.sc (.int .i64 (-1))),(.sc (.str [])),.sc (.int .i64 1000)] (.ag [.int .i64,.str,.int .i64,.int .i64,.str,.sl,.bool,.int .i64]) []
 (.join 6 [.bool]
 (.leaf (.sc (.atom 37)))
 (.ite (.pick (.cmp .eql (.atom 7) (.int .i64 0)) (.atom 13) (.bool false))
 (.call (.fn 69) [.sc (.int .i64 5)] (.ag [.int .i64,.int .i64,.str,.sl]) []
 (.call (.fn 23) [(.ag [.atom 9,.atom 10,.atom 11,.atom 12]),(.ag [.atom 37,.atom 38,.atom 39,.atom 40])] (.sc .bool) []
 (.next 6 [(.pick (.pick (.pick (.pick (.pick (.atom 41) (.cmp .eql (.atom 15) (.int .i64 95)) (.bool false)) (.atom 28) (.bool false)) (.cmp .eql (.atom 24) (.int .i64 7)) (.bool false)) (.cmp .eql (.len (.atom 27)) (.int .i64 1)) (.bool false)) (.cmp .eql (.atom 29) (.int .i64 251)) (.bool false))])))
 (.next 6 [.bool false]))))))))))))
theorem zb7:execF Tryz.prog { pub:=[],nojoin:=false } Tryz.f22=z65:=by kernel_rfl
theorem zej:callB Tryz.prog 22=true:=by kernel_rfl
theorem zdg:TriOf Tryz.prog 22 Tryz.f22 z65:=triOf Tryz.func22 zb7
abbrev z5i:FuncId:=24
def zkf:Fm VE:=
 (.call (.fn 38) [(.ag [.atom 0])] (.sc (.int .i64)) []
 (.ite (.cmp .neq (.atom 3) (.int .i64 0))
 (.leaf (.tu [(true,[(.nil 1),(.nil 1),.int .i64 0]),(false,[(.nil 1)]),(false,[.atom 3])]))
 (.ite (.pick (.cmp .lss (.atom 2) (.int .i64 0)) (.bool true) (.cmp .gtr (.atom 2) (.int .i64 131072)))
 (.leaf (.tu [(true,[(.nil 1),(.nil 1),.int .i64 0]),(false,[(.nil 1)]),(false,[.int .i64 251])]))
 (.call (.fn 15) [(.ag [.atom 0]),.sc (.atom 1)] (.tu [(false,[.sl]),(false,[.sl]),(false,[.int .i64])]) []
 (.ite (.cmp .neq (.atom 6) (.int .i64 0))
 (.leaf (.tu [(true,[(.nil 1),(.nil 1),.int .i64 0]),(false,[(.nil 1)]),(false,[.atom 6])]))
 (.call (.fn 17) [] (.sc .sl) []
 (.call (.fn 18) [] (.sc .sl) []
 (.sem (.buildSlice 167 3 #[(0,(.tmp 42)),(1,(.tmp 43)),(2,(.tmp 44))]) 167 [(42,(.sc (.atom 7))),(43,(.sc (.atom 8))),(44,(.sc (.atom 4)))] (.sc .sl) []
 (.call (.fn 70) [.sc (.atom 9)] (.sc .sl) []
 (.call (.fn 27) [.sc (.atom 10)] (.tu [(false,[.sl]),(false,[.sl]),(false,[.int .i64])]) []
 (.ite (.cmp .neq (.atom 13) (.int .i64 0))
 (.leaf (.tu [(true,[(.nil 1),(.nil 1),.int .i64 0]),(false,[(.nil 1)]),(false,[.int .i64 151])]))
 (.sem (.makeSlice 29 (.const (.int .i64 32)) (.const (.int .i64 32))) 29 [] (.sc .sl) []
 (.chk [] (.inSl (.atom 14) (.int .i64 28))
 (.store (.elt (.atom 14) (.int .i64 28) 1) [(.ar .add .i64 (.int .i64 32) (.atom 1))]
 (.chk [] (.inSl (.atom 14) (.int .i64 29))
 (.store (.elt (.atom 14) (.int .i64 29) 1) [(.ar .add .i64 (.ar .add .i64 (.int .i64 32) (.atom 1)) (.atom 2))]
 (.chk [] (.inSl (.atom 14) (.int .i64 30))
 (.store (.elt (.atom 14) (.int .i64 30) 1) [(.ar .add .i64 (.ar .add .i64 (.int .i64 32) (.atom 1)) (.atom 2))]
 (.chk [] (.inSl (.atom 14) (.int .i64 31))
 (.store (.elt (.atom 14) (.int .i64 31) 1) [(.ar .add .i64 (.ar .add .i64 (.int .i64 32) (.atom 1)) (.ar .mul .i64 (.int .i64 2) (.atom 2)))]
 (.leaf (.tu [(true,[.atom 11,.atom 14,(.ar .add .i64 (.ar .add .i64 (.int .i64 32) (.atom 1)) (.ar .mul .i64 (.int .i64 2) (.atom 2)))]),(false,[.atom 5]),(false,[.int .i64 0])]))))))))))))))))))))))
theorem zpk:execF Tryz.prog { pub:=[],nojoin:=false } Tryz.f24=zkf:=by kernel_rfl
theorem zko:callB Tryz.prog 24=true:=by kernel_rfl
theorem zhd:TriOf Tryz.prog 24 Tryz.f24 zkf:=triOf Tryz.func24 zpk
abbrev zun:FuncId:=27
def zfm:Fm VE:=
 (.ite (.cmp .gtr (.len (.atom 0)) (.int .i64 65536))
 (.leaf (.tu [(false,[(.nil 1)]),(false,[(.nil 1)]),(false,[.int .i64 213])]))
 (.join 3 [.ptr]
 (.loop 6 [.sl,.sl,.int .i64,.int .i64] [(.nil 1),(.nil 1),.int .i64 0,.int .i64 0]
 (.ite (.cmp .lss (.atom 5) (.len (.atom 0)))
 (.join 9 []
 (.next 6 [.atom 2,.atom 3,.atom 4,(.ar .add .i64 (.atom 5) (.int .i64 1))])
 (.chk [] (.inSl (.atom 0) (.atom 5))
 (.load (.elt (.atom 0) (.atom 5) 8) [.int .i64,.int .i64,.int .i64,.int .i64,.int .i64,.int .i64,.int .i64,.int .i64]
 (.call (.fn 73) [(.ag [.atom 6,.atom 7,.atom 8,.atom 9,.atom 10,.atom 11,.atom 12,.atom 13])] (.sc .bool) []
 (.ite (.not (.atom 14))
 (.leaf (.tu [(false,[(.nil 1)]),(false,[(.nil 1)]),(false,[.int .i64 210])]))
 (.ite (.cmp .eql (.atom 6) (.int .i64 1))
 (.chk [] (.some (.atom 1))
 (.load (.padd (.atom 1) 1) [.map]
 (.sem (.lookup 135 (.tmp 45) (.tmp 47) true) 25 [(45,(.sc (.atom 15))),(47,(.sc (.atom 12)))] (.tu [(false,[.int .i64]),(false,[.bool])]) []
 (.ite (.atom 17)
 (.leaf (.tu [(false,[(.nil 1)]),(false,[(.nil 1)]),(false,[.int .i64 211])]))
 (.load (.padd (.atom 1) 1) [.map]
 (.sem (.mapUpdate 135 (.tmp 55) (.tmp 57) (.tmp 58)) 0 [(55,(.sc (.atom 18))),(57,(.sc (.atom 12))),(58,(.sc (.atom 5)))] (.tu []) []
 (.next 9 [])))))))
 (.next 9 [])))))))
 (.loop 11 [.sl,.sl,.int .i64,.int .i64] [.atom 2,.atom 3,.atom 4,.int .i64 0]
 (.ite (.cmp .lss (.atom 9) (.len (.atom 0)))
 (.chk [] (.inSl (.atom 0) (.atom 9))
 (.load (.elt (.atom 0) (.atom 9) 8) [.int .i64,.int .i64,.int .i64,.int .i64,.int .i64,.int .i64,.int .i64,.int .i64]
 (.chk [] (.some (.atom 1))
 (.load (.padd (.atom 1) 1) [.map]
 (.sem (.lookup 135 (.tmp 70) (.tmp 72) true) 25 [(70,(.sc (.atom 18))),(72,(.sc (.atom 16)))] (.tu [(false,[.int .i64]),(false,[.bool])]) []
 (.ite (.pick (.not (.atom 20)) (.pick (.pick (.cmp .eql (.atom 10) (.int .i64 2)) (.bool true) (.cmp .eql (.atom 10) (.int .i64 3))) (.bool true) (.cmp .eql (.atom 10) (.int .i64 5))) (.bool false))
 (.leaf (.tu [(false,[(.nil 1)]),(false,[(.nil 1)]),(false,[.int .i64 212])]))
 (.next 11 [.atom 6,.atom 7,.atom 8,(.ar .add .i64 (.atom 9) (.int .i64 1))])))))))
 (.call (.fn 74) [.sc (.atom 1)] (.tu []) []
 (.loop 16 [] []
 (.call (.fn 75) [.sc (.atom 1)] (.sc .bool) []
 (.ite (.atom 10)
 (.call (.fn 74) [.sc (.atom 1)] (.tu []) []
 (.next 16 []))
 (.loop 21 [.int .i64] [.int .i64 0]
 (.ite (.cmp .lss (.atom 11) (.len (.atom 0)))
 (.call (.fn 76) [.sc (.atom 1),.sc (.atom 11)] (.tu []) []
 (.next 21 [(.ar .add .i64 (.atom 11) (.int .i64 1))]))
 (.chk [] (.some (.atom 1))
 (.load (.padd (.atom 1) 4) [.sl]
 (.load (.padd (.atom 1) 3) [.sl]
 (.leaf (.tu [(false,[.atom 12]),(false,[.atom 13]),(false,[.int .i64 0])])))))))))))))))
 (.both
 (.sem (.makeMap 135 none) 135 [] (.sc .map) []
 (.both
 (.sem (.makeSlice 116 (.tmp 21) (.tmp 21)) 116 [(21,(.sc (.len (.atom 0)))),(21,(.sc (.len (.atom 0))))] (.sc .sl) []
 (.sem (.makeSlice 29 (.tmp 24) (.tmp 24)) 29 [(24,(.sc (.len (.atom 0)))),(24,(.sc (.len (.atom 0))))] (.sc .sl) []
 (.new 137 [.atom 0,.atom 1,.atom 2,.atom 3,(.nil 1)]
 (.next 3 [.atom 4]))))
 (.sem (.makeSlice 29 (.tmp 24) (.tmp 24)) 29 [(24,(.sc (.len (.atom 0)))),(24,(.sc (.len (.atom 0))))] (.sc .sl) []
 (.sem (.makeSlice 116 (.tmp 21) (.tmp 21)) 116 [(21,(.sc (.len (.atom 0)))),(21,(.sc (.len (.atom 0))))] (.sc .sl) []
 (.new 137 [.atom 0,.atom 1,.atom 3,.atom 2,(.nil 1)]
 (.next 3 [.atom 4]))))))
 (.both
 (.sem (.makeSlice 116 (.tmp 21) (.tmp 21)) 116 [(21,(.sc (.len (.atom 0)))),(21,(.sc (.len (.atom 0))))] (.sc .sl) []
 (.both
 (.sem (.makeMap 135 none) 135 [] (.sc .map) []
 (.sem (.makeSlice 29 (.tmp 24) (.tmp 24)) 29 [(24,(.sc (.len (.atom 0)))),(24,(.sc (.len (.atom 0))))] (.sc .sl) []
 (.new 137 [.atom 0,.atom 2,.atom 1,.atom 3,(.nil 1)]
 (.next 3 [.atom 4]))))
 (.sem (.makeSlice 29 (.tmp 24) (.tmp 24)) 29 [(24,(.sc (.len (.atom 0)))),(24,(.sc (.len (.atom 0))))] (.sc .sl) []
 (.sem (.makeMap 135 none) 135 [] (.sc .map) []
 (.new 137 [.atom 0,.atom 3,.atom 1,.atom 2,(.nil 1)]
 (.next 3 [.atom 4]))))))
 (.sem (.makeSlice 29 (.tmp 24) (.tmp 24)) 29 [(24,(.sc (.len (.atom 0)))),(24,(.sc (.len (.atom 0))))] (.sc .sl) []
 (.both
 (.sem (.makeMap 135 none) 135 [] (.sc .map) []
 (.sem (.makeSlice 116 (.tmp 21) (.tmp 21)) 116 [(21,(.sc (.len (.atom 0)))),(21,(.sc (.len (.atom 0))))] (.sc .sl) []
 (.new 137 [.atom 0,.atom 2,.atom 3,.atom 1,(.nil 1)]
 (.next 3 [.atom 4]))))
 (.sem (.makeSlice 116 (.tmp 21) (.tmp 21)) 116 [(21,(.sc (.len (.atom 0)))),(21,(.sc (.len (.atom 0))))] (.sc .sl) []
 (.sem (.makeMap 135 none) 135 [] (.sc .map) []
 (.new 137 [.atom 0,.atom 3,.atom 2,.atom 1,(.nil 1)]
 (.next 3 [.atom 4]))))))))))
theorem zn4:execF Tryz.prog { pub:=[27],nojoin:=false } Tryz.f27=zfm:=by kernel_rfl
theorem zsx:callB Tryz.prog 27=true:=by kernel_rfl
theorem zqd:TriOf Tryz.prog 27 Tryz.f27 zfm:=triOf Tryz.func27 zn4
abbrev zsd:FuncId:=31
def zoi:Fm VE:=
 (.ite (.cmp .lss (.atom 4) (.int .i64 0))
 (.leaf (.ag [.int .i64 1,(.str []),.int .i64 0,.int .i64 0,(.str []),(.nil 1),.bool false,.int .i64 0]))
 (.call (.fn 24) [(.ag [.atom 0]),.sc (.atom 1),.sc (.atom 2)] (.tu [(true,[.sl,.sl,.int .i64]),(false,[.sl]),(false,[.int .i64])]) []
 (.ite (.cmp .neq (.atom 9) (.int .i64 0))
 (.leaf (.ag [.atom 9,(.str []),.int .i64 0,.int .i64 0,(.str []),(.nil 1),.bool false,.int .i64 0]))
 (.call (.fn 77) [(.ag [.atom 5,.atom 6,.atom 7]),.sc (.atom 3),.sc (.atom 4)] (.ag [.int .i64,.int .i64,.str,.int .i64,.int .i64,.int .i64,.int .i64,.int .i64,.int .i64,.int .i64,.int .i64,.int .i64,.int .i64,.int .i64,.int .i64,.int .i64,.int .i64,.int .i64,.int .i64,.int .i64,.int .i64,.int .i64,.int .i64,.int .i64,.int .i64,.int .i64,.int .i64,.int .i64,.int .i64,.int .i64,.int .i64,.int .i64,.int .i64,.int .i64,.int .i64,.int .i64,.int .i64,.sl]) []
 (.join 8 [.int .i64,.str,.int .i64,.int .i64,.str,.sl,.bool,.int .i64]
 (.leaf (.ag [.atom 48,.atom 49,.atom 50,.atom 51,.atom 52,.atom 53,.atom 54,.atom 55]))
 (.ite (.cmp .eql (.atom 10) (.int .i64 6))
 (.next 8 [.int .i64 93,.atom 12,.int .i64 0,.int .i64 0,(.str []),(.nil 1),.bool false,.atom 13])
 (.ite (.cmp .eql (.atom 10) (.int .i64 0))
 (.ite (.cmp .eql (.atom 11) (.int .i64 0))
 (.call (.fn 20) [.sc (.atom 47),.sc (.atom 16),.sc (.atom 8)] (.tu [(true,[.int .i64,.int .i64,.str,.sl]),(false,[.bool])]) []
 (.next 8 [.atom 11,.atom 12,.atom 48,.atom 49,.atom 50,.atom 51,.atom 52,.atom 13]))
 (.next 8 [.atom 11,.atom 12,.int .i64 0,.int .i64 0,(.str []),(.nil 1),.bool false,.atom 13]))
 (.next 8 [.int .i64 252,.atom 12,.int .i64 0,.int .i64 0,(.str []),(.nil 1),.bool false,.atom 13]))))))))
theorem zus:execF Tryz.prog { pub:=[],nojoin:=false } Tryz.f31=zoi:=by kernel_rfl
theorem zgq:callB Tryz.prog 31=true:=by kernel_rfl
theorem zm7:TriOf Tryz.prog 31 Tryz.f31 zoi:=triOf Tryz.func31 zus
abbrev Z7c:FuncId:=33
def zp3:Fm VE:=
 (.call (.fn 78) [.sc (.atom 0)] (.sc .bool) []
 (.ite (.not (.atom 1))
 (.leaf (.tu [(false,[.int .i64 0]),(false,[.int .i64 10])]))
 (.call (.fn 79) [.sc (.int .i64 0),.sc (.atom 0)] (.sc (.int .i64)) []
 (.leaf (.tu [(false,[.atom 2]),(false,[.int .i64 0])])))))
theorem zug:execF Tryz.prog { pub:=[],nojoin:=false } Tryz.f33=zp3:=by kernel_rfl
theorem Z2w:callB Tryz.prog 33=true:=by kernel_rfl
theorem Z16:TriOf Tryz.prog 33 Tryz.f33 zp3:=triOf Tryz.func33 zug
abbrev zie:FuncId:=34
def zfh:Fm VE:=
 (.leaf (.sc (.ar .or .i64 (.ar .shl .i64 (.atom 0) (.int .u64 3)) (.int .i64 2))))
theorem zlg:execF Tryz.prog { pub:=[],nojoin:=false } Tryz.f34=zfh:=by kernel_rfl
theorem z2y:callB Tryz.prog 34=true:=by kernel_rfl
theorem zpm:TriOf Tryz.prog 34 Tryz.f34 zfh:=triOf Tryz.func34 zlg
abbrev zkx:FuncId:=67
def z93:Fm VE:=
 (.chk [] (.some (.atom 0))
 (.load (.padd (.atom 0) 2) [.int .i64]
 (.ite (.pick (.cmp .eql (.atom 3) (.int .i64 0)) (.bool true) (.cmp .gtr (.atom 2) (.int .i64 32)))
 (.leaf (.tu [(true,[.int .i64 0,.int .i64 0,(.str []),(.nil 1)]),(false,[.bool false])]))
 (.load (.padd (.atom 0) 2) [.int .i64]
 (.store (.padd (.atom 0) 2) [(.ar .sub .i64 (.atom 4) (.int .i64 1))]
 (.join 5 []
 (.leaf (.tu [(true,[.int .i64 0,.int .i64 0,(.str []),(.nil 1)]),(false,[.bool false])]))
 (.ite (.cmp .eql (.ar .and .i64 (.atom 1) (.int .i64 7)) (.int .i64 0))
 (.leaf (.tu [(true,[.int .i64 1,(.ar .shr .i64 (.atom 1) (.int .u64 3)),(.str []),(.nil 1)]),(false,[.bool true])]))
 (.ite (.cmp .eql (.ar .and .i64 (.atom 1) (.int .i64 7)) (.int .i64 2))
 (.call (.fn 102) [(.sc (.ar .shr .i64 (.atom 1) (.int .u64 3)))] (.tu [(true,[.int .i64,.int .i64,.str,.sl]),(false,[.bool])]) []
 (.leaf (.tu [(true,[.atom 5,.atom 6,.atom 7,.atom 8]),(false,[.atom 9])])))
 (.ite (.cmp .eql (.ar .and .i64 (.atom 1) (.int .i64 7)) (.int .i64 3))
 (.join 10 [.bool]
 (.ite (.atom 5)
 (.load (.padd (.atom 0) 1) [.sl]
 (.chk [] (.inSl (.atom 6) (.ar .shr .i64 (.atom 1) (.int .u64 3)))
 (.load (.elt (.atom 6) (.ar .shr .i64 (.atom 1) (.int .u64 3)) 1) [.str]
 (.leaf (.tu [(true,[.int .i64 4,.int .i64 0,.atom 7,(.nil 1)]),(false,[.bool true])])))))
 (.next 5 []))
 (.ite (.cmp .geq (.ar .shr .i64 (.atom 1) (.int .u64 3)) (.int .i64 0))
 (.load (.padd (.atom 0) 1) [.sl]
 (.next 10 [(.cmp .lss (.ar .shr .i64 (.atom 1) (.int .u64 3)) (.len (.atom 5)))]))
 (.next 10 [.bool false])))
 (.ite (.cmp .eql (.ar .and .i64 (.atom 1) (.int .i64 7)) (.int .i64 1))
 (.join 11 [.bool]
 (.ite (.atom 5)
 (.call (.fn 103) [.sc (.atom 0),(.sc (.ar .shr .i64 (.atom 1) (.int .u64 3))),.sc (.atom 2)] (.tu [(true,[.int .i64,.int .i64,.str,.sl]),(false,[.bool])]) []
 (.leaf (.tu [(true,[.atom 6,.atom 7,.atom 8,.atom 9]),(false,[.atom 10])])))
 (.next 5 []))
 (.ite (.cmp .geq (.ar .shr .i64 (.atom 1) (.int .u64 3)) (.int .i64 0))
 (.load (.padd (.atom 0) 0) [.sl]
 (.ite (.cmp .lss (.ar .shr .i64 (.atom 1) (.int .u64 3)) (.len (.atom 5)))
 (.load (.padd (.atom 0) 0) [.sl]
 (.chk [] (.inSl (.atom 6) (.ar .shr .i64 (.atom 1) (.int .u64 3)))
 (.load (.elt (.atom 6) (.ar .shr .i64 (.atom 1) (.int .u64 3)) 1) [.int .i64]
 (.next 11 [(.cmp .eql (.ar .and .i64 (.atom 7) (.int .i64 7)) (.int .i64 7))]))))
 (.next 11 [.bool false])))
 (.next 11 [.bool false])))
 (.next 5 [])))))))))))
theorem zef:execF Tryz.prog { pub:=[],nojoin:=false } Tryz.f67=z93:=by kernel_rfl
theorem z37:callB Tryz.prog 67=true:=by kernel_rfl
theorem z8d:TriOf Tryz.prog 67 Tryz.f67 z93:=triOf Tryz.func67 zef
abbrev z83:FuncId:=68
def z6h:Fm VE:=
 (.ite (.pick (.cmp .geq (.atom 4) (.int .i64 200)) (.bool true) (.cmp .gtr (.atom 3) (.int .i64 32)))
 (.leaf (.tu [(true,[.int .i64 0,.int .i64 0,(.str []),(.nil 1)]),(false,[.atom 4]),(false,[.bool false])]))
 (.ite (.cmp .neq (.ar .and .i64 (.atom 1) (.int .i64 7)) (.int .i64 1))
 (.call (.fn 104) [.sc (.atom 1),.sc (.atom 2)] (.tu [(true,[.int .i64,.int .i64,.str,.sl]),(false,[.bool])]) []
 (.leaf (.tu [(true,[.atom 5,.atom 6,.atom 7,.atom 8]),(false,[(.ar .add .i64 (.atom 4) (.int .i64 1))]),(false,[.atom 9])])))
 (.join 8 [.bool]
 (.ite (.atom 5)
 (.leaf (.tu [(true,[.int .i64 0,.int .i64 0,(.str []),(.nil 1)]),(false,[(.ar .add .i64 (.atom 4) (.int .i64 1))]),(false,[.bool false])]))
 (.chk [] (.inSl (.atom 0) (.ar .shr .i64 (.atom 1) (.int .u64 3)))
 (.load (.elt (.atom 0) (.ar .shr .i64 (.atom 1) (.int .u64 3)) 1) [.int .i64]
 (.load (.elt (.atom 0) (.ar .shr .i64 (.atom 1) (.int .u64 3)) 1) [.int .i64]
 (.ite (.pick (.pick (.pick (.pick (.pick (.cmp .lss (.ar .shr .i64 (.atom 6) (.int .u64 6)) (.int .i64 0)) (.bool true) (.cmp .gtr (.ar .shr .i64 (.atom 6) (.int .u64 6)) (.len (.atom 0)))) (.bool true) (.cmp .geq (.ar .add .i64 (.ar .shr .i64 (.atom 1) (.int .u64 3)) (.ar .shr .i64 (.atom 6) (.int .u64 6))) (.len (.atom 0)))) (.bool true) (.pick (.cmp .eql (.ar .and .i64 (.ar .shr .i64 (.atom 7) (.int .u64 3)) (.int .i64 7)) (.int .i64 1)) (.cmp .neq (.ar .shr .i64 (.atom 6) (.int .u64 6)) (.int .i64 2)) (.bool false))) (.bool true) (.cmp .eql (.ar .and .i64 (.ar .shr .i64 (.atom 7) (.int .u64 3)) (.int .i64 7)) (.int .i64 0))) (.bool true) (.cmp .eql (.ar .and .i64 (.ar .shr .i64 (.atom 7) (.int .u64 3)) (.int .i64 7)) (.int .i64 6)))
 (.leaf (.tu [(true,[.int .i64 0,.int .i64 0,(.str []),(.nil 1)]),(false,[(.ar .add .i64 (.atom 4) (.int .i64 1))]),(false,[.bool false])]))
 (.ite (.cmp .eql (.ar .and .i64 (.ar .shr .i64 (.atom 7) (.int .u64 3)) (.int .i64 7)) (.int .i64 4))
 (.leaf (.tu [(true,[.int .i64 4,.int .i64 0,(.str [98,111,120]),(.nil 1)]),(false,[(.ar .add .i64 (.atom 4) (.int .i64 1))]),(false,[.bool true])]))
 (.ite (.pick (.cmp .eql (.ar .and .i64 (.ar .shr .i64 (.atom 7) (.int .u64 3)) (.int .i64 7)) (.int .i64 5)) (.cmp .eql (.ar .and .i64 (.ar .shr .i64 (.atom 7) (.int .u64 3)) (.int .i64 7)) (.int .i64 5)) (.cmp .eql (.ar .and .i64 (.ar .shr .i64 (.atom 7) (.int .u64 3)) (.int .i64 7)) (.int .i64 7)))
 (.leaf (.tu [(true,[.int .i64 4,.int .i64 0,(.str [112,114,111,99,101,100,117,114,101]),(.nil 1)]),(false,[(.ar .add .i64 (.atom 4) (.int .i64 1))]),(false,[.bool true])]))
 (.ite (.cmp .eql (.ar .and .i64 (.ar .shr .i64 (.atom 7) (.int .u64 3)) (.int .i64 7)) (.int .i64 3))
 (.sem (.buildSlice 112 0 #[]) 112 [] (.sc .sl) []
 (.loop 22 [.int .i64,.bool,.sl,.int .i64,.int .i64,.int .i64,.str,.sl] [.int .i64 0,.bool false,.atom 8,.int .i64 1,.int .i64 0,.int .i64 0,(.str []),(.nil 1)]
 (.ite (.cmp .leq (.atom 12) (.ar .shr .i64 (.atom 6) (.int .u64 6)))
 (.chk [] (.inSl (.atom 0) (.ar .add .i64 (.ar .shr .i64 (.atom 1) (.int .u64 3)) (.atom 12)))
 (.load (.elt (.atom 0) (.ar .add .i64 (.ar .shr .i64 (.atom 1) (.int .u64 3)) (.atom 12)) 1) [.int .i64]
 (.call (.fn 104) [.sc (.atom 17),.sc (.atom 2)] (.tu [(true,[.int .i64,.int .i64,.str,.sl]),(false,[.bool])]) []
 (.join 28 [.bool]
 (.ite (.atom 23)
 (.leaf (.tu [(true,[.int .i64 0,.int .i64 0,(.str []),(.nil 1)]),(false,[(.ar .add .i64 (.atom 4) (.int .i64 1))]),(false,[.bool false])]))
 (.sem (.buildSlice 112 1 #[(0,(.tmp 166))]) 112 [(166,(.sc (.conv .u8 (.atom 19))))] (.sc .sl) []
 (.sem (.call ⟨.builtin .append,#[.tmp 163,.tmp 167],#[112,112]⟩) 112 [(163,(.sc (.atom 11))),(167,(.sc (.atom 24)))] (.sc .sl) []
 (.next 22 [.atom 9,.atom 10,.atom 25,(.ar .add .i64 (.atom 12) (.int .i64 1)),.atom 13,.atom 14,.atom 15,.atom 16]))))
 (.ite (.pick (.not (.atom 22)) (.bool true) (.cmp .neq (.atom 18) (.int .i64 2)))
 (.next 28 [.bool true])
 (.load (.elt (.atom 0) (.ar .add .i64 (.ar .shr .i64 (.atom 1) (.int .u64 3)) (.atom 12)) 1) [.int .i64]
 (.next 28 [(.cmp .neq (.ar .and .i64 (.atom 23) (.int .i64 7)) (.int .i64 2))])))))))
 (.sem (.convert 112 9 (.tmp 169)) 9 [(169,(.sc (.atom 11)))] (.sc .str) []
 (.leaf (.tu [(true,[.int .i64 3,.int .i64 0,.atom 17,(.nil 1)]),(false,[(.ar .add .i64 (.atom 4) (.int .i64 1))]),(false,[.bool true])]))))))
 (.sem (.buildSlice 30 0 #[]) 30 [] (.sc .sl) []
 (.loop 22 [.int .i64,.int .i64,.bool,.sl,.int .i64,.int .i64,.int .i64,.str,.sl] [(.ar .add .i64 (.atom 4) (.int .i64 1)),.int .i64 0,.bool false,.atom 8,.int .i64 1,.int .i64 0,.int .i64 0,(.str []),(.nil 1)]
 (.ite (.cmp .leq (.atom 13) (.ar .shr .i64 (.atom 6) (.int .u64 6)))
 (.chk [] (.inSl (.atom 0) (.ar .add .i64 (.ar .shr .i64 (.atom 1) (.int .u64 3)) (.atom 13)))
 (.load (.elt (.atom 0) (.ar .add .i64 (.ar .shr .i64 (.atom 1) (.int .u64 3)) (.atom 13)) 1) [.int .i64]
 (.call (.fn 68) [.sc (.atom 0),.sc (.atom 18),.sc (.atom 2),(.sc (.pick (.pick (.cmp .eql (.ar .and .i64 (.ar .shr .i64 (.atom 7) (.int .u64 3)) (.int .i64 7)) (.int .i64 1)) (.cmp .eql (.atom 13) (.int .i64 2)) (.bool false)) (.atom 3) (.ar .add .i64 (.atom 3) (.int .i64 1)))),.sc (.atom 9)] (.tu [(true,[.int .i64,.int .i64,.str,.sl]),(false,[.int .i64]),(false,[.bool])]) []
 (.ite (.not (.atom 24))
 (.leaf (.tu [(true,[.int .i64 0,.int .i64 0,(.str []),(.nil 1)]),(false,[.atom 23]),(false,[.bool false])]))
 (.sem (.buildSlice 30 1 #[(0,(.tmp 209))]) 30 [(209,(.ag [.atom 19,.atom 20,.atom 21,.atom 22]))] (.sc .sl) []
 (.sem (.call ⟨.builtin .append,#[.tmp 208,.tmp 210],#[30,30]⟩) 30 [(208,(.sc (.atom 12))),(210,(.sc (.atom 25)))] (.sc .sl) []
 (.next 22 [.atom 23,.atom 10,.atom 11,.atom 26,(.ar .add .i64 (.atom 13) (.int .i64 1)),.atom 14,.atom 15,.atom 16,.atom 17])))))))
 (.ite (.cmp .eql (.ar .and .i64 (.ar .shr .i64 (.atom 7) (.int .u64 3)) (.int .i64 7)) (.int .i64 1))
 (.chk [] (.sub (.cap (.atom 12)) (.int .i64 0) (.int .i64 1))
 (.chk [] (.inSl (.atom 12) (.int .i64 1))
 (.load (.elt (.atom 12) (.int .i64 1) 4) [.int .i64,.int .i64,.str,.sl]
 (.call (.fn 105) [(.sc (.sls (.atom 12) (.int .i64 0) (.int .i64 1) 4)),(.ag [.atom 18,.atom 19,.atom 20,.atom 21])] (.ag [.int .i64,.int .i64,.str,.sl]) []
 (.leaf (.tu [(true,[.atom 22,.atom 23,.atom 24,.atom 25]),(false,[.atom 9]),(false,[.bool true])]))))))
 (.leaf (.tu [(true,[.int .i64 7,.int .i64 0,(.str []),.atom 12]),(false,[.atom 9]),(false,[.bool true])]))))))))))))))
 (.chk [((.pick (.cmp .lss (.ar .shr .i64 (.atom 1) (.int .u64 3)) (.int .i64 0)) (.bool true) (.cmp .geq (.ar .shr .i64 (.atom 1) (.int .u64 3)) (.len (.atom 0)))),false)] (.inSl (.atom 0) (.ar .shr .i64 (.atom 1) (.int .u64 3)))
 (.ite (.pick (.cmp .lss (.ar .shr .i64 (.atom 1) (.int .u64 3)) (.int .i64 0)) (.bool true) (.cmp .geq (.ar .shr .i64 (.atom 1) (.int .u64 3)) (.len (.atom 0))))
 (.next 8 [.bool true])
 (.load (.elt (.atom 0) (.ar .shr .i64 (.atom 1) (.int .u64 3)) 1) [.int .i64]
 (.next 8 [(.cmp .neq (.ar .and .i64 (.atom 5) (.int .i64 7)) (.int .i64 7))])))))))
theorem zca:execF Tryz.prog { pub:=[],nojoin:=false } Tryz.f68=z6h:=by kernel_rfl
theorem z6s:callB Tryz.prog 68=true:=by kernel_rfl
theorem z67:TriOf Tryz.prog 68 Tryz.f68 z6h:=triOf Tryz.func68 zca
abbrev zj1:FuncId:=69
def z86:Fm VE:=
 (.leaf (.ag [.int .i64 1,.atom 0,(.str []),(.nil 1)]))
theorem zdx:execF Tryz.prog { pub:=[],nojoin:=false } Tryz.f69=z86:=by kernel_rfl
theorem z8b:callB Tryz.prog 69=true:=by kernel_rfl
theorem zgc:TriOf Tryz.prog 69 Tryz.f69 z86:=triOf Tryz.func69 zdx
abbrev z5b:FuncId:=70
def z2o:Fm VE:=
 (.loop 4 [.int .i64,.int .i64] [.int .i64 0,.int .i64 0]
 (.ite (.cmp .lss (.atom 2) (.len (.atom 0)))
 (.join 7 [.int .i64]
 (.next 4 [.atom 3,(.ar .add .i64 (.atom 2) (.int .i64 1))])
 (.chk [] (.inSl (.atom 0) (.atom 2))
 (.load (.elt (.atom 0) (.atom 2) 1) [.sl]
 (.ite (.cmp .lss (.ar .add .i64 (.atom 1) (.len (.atom 3))) (.int .i64 0))
 (.sem (.makeInterface 9 (.const (.string ⟨#[108,101,110,32,111,117,116,32,111,102,32,114,97,110,103,101]⟩))) 20 [] (.sc .any) []
 (.sem (.panic (.tmp 21)) 0 [(21,(.sc (.atom 4)))] (.tu []) []
 (.next 7 [(.ar .add .i64 (.atom 1) (.len (.atom 3)))])))
 (.next 7 [(.ar .add .i64 (.atom 1) (.len (.atom 3)))])))))
 (.call (.fn 106) [(.sc (.nil 1)),.sc (.atom 1)] (.sc .sl) []
 (.loop 10 [.sl,.int .i64] [.atom 3,.int .i64 0]
 (.ite (.cmp .lss (.atom 5) (.len (.atom 0)))
 (.chk [] (.inSl (.atom 0) (.atom 5))
 (.load (.elt (.atom 0) (.atom 5) 1) [.sl]
 (.sem (.call ⟨.builtin .append,#[.tmp 31,.tmp 32],#[50,50]⟩) 50 [(31,(.sc (.atom 4))),(32,(.sc (.atom 6)))] (.sc .sl) []
 (.next 10 [.atom 7,(.ar .add .i64 (.atom 5) (.int .i64 1))]))))
 (.leaf (.sc (.atom 4))))))))
theorem z4p:execF Tryz.prog { pub:=[],nojoin:=false } Tryz.f70=z2o:=by kernel_rfl
theorem z5a:callB Tryz.prog 70=true:=by kernel_rfl
theorem z55:TriOf Tryz.prog 70 Tryz.f70 z2o:=triOf Tryz.func70 z4p
abbrev Zao:FuncId:=73
def zsz:Fm VE:=
 (.ite (.cmp .eql (.atom 0) (.int .i64 0))
 (.call (.fn 110) [(.ag [.atom 1,.atom 2,.atom 3,.atom 4,.atom 5])] (.tu [(false,[.int .u32]),(false,[.int .i64])]) []
 (.leaf (.sc (.pick (.pick (.cmp .eql (.atom 9) (.int .i64 0)) (.cmp .eql (.atom 6) (.int .i64 0)) (.bool false)) (.cmp .eql (.atom 7) (.int .i64 0)) (.bool false)))))
 (.ite (.cmp .eql (.atom 0) (.int .i64 1))
 (.sem (.binOp .eql 118 (.tmp 41) (.tmp 42) 118) 4 [(41,(.ag [.atom 1,.atom 2,.atom 3,.atom 4,.atom 5])),(42,(.ag [.int .i64 0,.int .i64 0,.int .i64 0,.int .i64 0,.int .i64 0]))] (.sc .bool) []
 (.leaf (.sc (.pick (.atom 8) (.cmp .eql (.atom 7) (.int .i64 0)) (.bool false)))))
 (.ite (.cmp .eql (.atom 0) (.int .i64 2))
 (.call (.fn 110) [(.ag [.atom 1,.atom 2,.atom 3,.atom 4,.atom 5])] (.tu [(false,[.int .u32]),(false,[.int .i64])]) []
 (.leaf (.sc (.pick (.pick (.pick (.pick (.cmp .eql (.atom 9) (.int .i64 0)) (.cmp .geq (.atom 1) (.int .i64 24)) (.bool false)) (.cmp .leq (.atom 1) (.int .i64 27)) (.bool false)) (.cmp .eql (.atom 5) (.int .i64 0)) (.bool false)) (.cmp .eql (.atom 7) (.int .i64 0)) (.bool false)))))
 (.ite (.cmp .eql (.atom 0) (.int .i64 3))
 (.call (.fn 110) [(.ag [.atom 1,.atom 2,.atom 3,.atom 4,.atom 5])] (.tu [(false,[.int .u32]),(false,[.int .i64])]) []
 (.leaf (.sc (.pick (.pick (.pick (.cmp .eql (.atom 9) (.int .i64 0)) (.cmp .eql (.atom 1) (.int .i64 28)) (.bool false)) (.cmp .eql (.atom 5) (.int .i64 0)) (.bool false)) (.cmp .eql (.atom 7) (.int .i64 0)) (.bool false)))))
 (.ite (.cmp .eql (.atom 0) (.int .i64 4))
 (.call (.fn 110) [(.ag [.atom 1,.atom 2,.atom 3,.atom 4,.atom 5])] (.tu [(false,[.int .u32]),(false,[.int .i64])]) []
 (.leaf (.sc (.pick (.pick (.pick (.cmp .eql (.atom 9) (.int .i64 0)) (.cmp .eql (.atom 1) (.int .i64 20)) (.bool false)) (.cmp .eql (.atom 5) (.int .i64 0)) (.bool false)) (.cmp .eql (.atom 6) (.int .i64 0)) (.bool false)))))
 (.ite (.cmp .eql (.atom 0) (.int .i64 5))
 (.call (.fn 110) [(.ag [.atom 1,.atom 2,.atom 3,.atom 4,.atom 5])] (.tu [(false,[.int .u32]),(false,[.int .i64])]) []
 (.leaf (.sc (.pick (.pick (.pick (.cmp .eql (.atom 9) (.int .i64 0)) (.cmp .eql (.atom 1) (.int .i64 20)) (.bool false)) (.cmp .eql (.atom 5) (.int .i64 0)) (.bool false)) (.cmp .eql (.atom 7) (.int .i64 0)) (.bool false)))))
 (.leaf (.sc (.bool false)))))))))
theorem zyp:execF Tryz.prog { pub:=[],nojoin:=false } Tryz.f73=zsz:=by kernel_rfl
theorem Z7q:callB Tryz.prog 73=true:=by kernel_rfl
theorem Z47:TriOf Tryz.prog 73 Tryz.f73 zsz:=triOf Tryz.func73 zyp
abbrev zjg:FuncId:=74
def z7z:Fm VE:=
 (.chk [] (.some (.atom 0))
 (.load (.padd (.atom 0) 0) [.sl]
 (.loop 2 [.int .i64,.int .i64] [.int .i64 0,.int .i64 0]
 (.ite (.cmp .lss (.atom 3) (.len (.atom 1)))
 (.load (.padd (.atom 0) 3) [.sl]
 (.chk [] (.inSl (.atom 4) (.atom 3))
 (.store (.elt (.atom 4) (.atom 3) 1) [.atom 2]
 (.call (.fn 111) [.sc (.atom 0),.sc (.atom 3)] (.sc (.int .i64)) []
 (.next 2 [(.ar .add .i64 (.atom 2) (.atom 5)),(.ar .add .i64 (.atom 3) (.int .i64 1))])))))
 (.leaf (.tu []))))))
theorem ze0:execF Tryz.prog { pub:=[],nojoin:=false } Tryz.f74=z7z:=by kernel_rfl
theorem z7r:callB Tryz.prog 74=true:=by kernel_rfl
theorem zgk:TriOf Tryz.prog 74 Tryz.f74 z7z:=triOf Tryz.func74 ze0
abbrev zhf:FuncId:=75
def z6p:Fm VE:=
 (.chk [] (.some (.atom 0))
 (.load (.padd (.atom 0) 0) [.sl]
 (.loop 4 [.bool,.int .i64] [.bool false,.int .i64 0]
 (.ite (.cmp .lss (.atom 3) (.len (.atom 1)))
 (.join 7 [.bool]
 (.next 4 [.atom 4,(.ar .add .i64 (.atom 3) (.int .i64 1))])
 (.chk [] (.inSl (.atom 1) (.atom 3))
 (.load (.elt (.atom 1) (.atom 3) 8) [.int .i64,.int .i64,.int .i64,.int .i64,.int .i64,.int .i64,.int .i64,.int .i64]
 (.join 10 [.bool]
 (.ite (.atom 12)
 (.next 7 [.atom 2])
 (.load (.padd (.atom 0) 3) [.sl]
 (.load (.padd (.atom 0) 1) [.map]
 (.load (.padd (.atom 0) 3) [.sl]
 (.chk [] (.inSl (.atom 15) (.atom 3))
 (.load (.elt (.atom 15) (.atom 3) 1) [.int .i64]
 (.sem (.lookup 135 (.tmp 36) (.tmp 38) false) 3 [(36,(.sc (.atom 14))),(38,(.sc (.atom 10)))] (.sc (.int .i64)) [((.elt (.atom 15) (.atom 3) 1),[.atom 16]),((.padd (.atom 0) 3),[.atom 15]),((.padd (.atom 0) 3),[.atom 13])]
 (.chk [] (.inSl (.atom 13) (.atom 17))
 (.load (.elt (.atom 13) (.atom 17) 1) [.int .i64]
 (.ite (.pick (.cmp .lss (.ar .sub .i64 (.atom 18) (.atom 16)) (.int .i64 (-512))) (.bool true) (.cmp .gtr (.ar .sub .i64 (.atom 18) (.atom 16)) (.int .i64 511)))
 (.load (.padd (.atom 0) 2) [.sl]
 (.chk [] (.inSl (.atom 19) (.atom 3))
 (.store (.elt (.atom 19) (.atom 3) 1) [.bool true]
 (.next 7 [.bool true]))))
 (.next 7 [.atom 2])))))))))))
 (.ite (.cmp .neq (.atom 4) (.int .i64 2))
 (.next 10 [.bool true])
 (.load (.padd (.atom 0) 2) [.sl]
 (.chk [] (.inSl (.atom 12) (.atom 3))
 (.load (.elt (.atom 12) (.atom 3) 1) [.bool]
 (.next 10 [.atom 13])))))))))
 (.leaf (.sc (.atom 2)))))))
theorem zbr:execF Tryz.prog { pub:=[],nojoin:=false } Tryz.f75=z6p:=by kernel_rfl
theorem zgx:callB Tryz.prog 75=true:=by kernel_rfl
theorem zed:TriOf Tryz.prog 75 Tryz.f75 z6p:=triOf Tryz.func75 zbr
abbrev zg5:FuncId:=76
def z61:Fm VE:=
 (.chk [] (.some (.atom 0))
 (.load (.padd (.atom 0) 0) [.sl]
 (.chk [] (.inSl (.atom 2) (.atom 1))
 (.load (.elt (.atom 2) (.atom 1) 8) [.int .i64,.int .i64,.int .i64,.int .i64,.int .i64,.int .i64,.int .i64,.int .i64]
 (.join 3 [.int .i64]
 (.ite (.cmp .eql (.atom 3) (.int .i64 0))
 (.call (.fn 112) [.sc (.atom 0),(.ag [.atom 4,.atom 5,.atom 6,.atom 7,.atom 8])] (.tu []) []
 (.leaf (.tu [])))
 (.ite (.cmp .eql (.atom 3) (.int .i64 2))
 (.load (.padd (.atom 0) 2) [.sl]
 (.chk [] (.inSl (.atom 12) (.atom 1))
 (.load (.elt (.atom 12) (.atom 1) 1) [.bool]
 (.ite (.atom 13)
 (.call (.fn 113) [.sc (.atom 4)] (.sc (.int .i64)) []
 (.call (.fn 112) [.sc (.atom 0),(.ag [.atom 14,.atom 5,.atom 6,.int .i64 0,.int .i64 2])] (.tu []) []
 (.call (.fn 112) [.sc (.atom 0),(.ag [.int .i64 28,.int .i64 0,.int .i64 0,.int .i64 0,(.ar .sub .i64 (.atom 11) (.int .i64 1))])] (.tu []) []
 (.leaf (.tu [])))))
 (.call (.fn 112) [.sc (.atom 0),(.ag [.atom 4,.atom 5,.atom 6,.atom 7,.atom 11])] (.tu []) []
 (.leaf (.tu [])))))))
 (.ite (.cmp .eql (.atom 3) (.int .i64 3))
 (.call (.fn 112) [.sc (.atom 0),(.ag [.atom 4,.atom 5,.atom 6,.atom 7,.atom 11])] (.tu []) []
 (.leaf (.tu [])))
 (.ite (.cmp .eql (.atom 3) (.int .i64 4))
 (.call (.fn 115) [.sc (.atom 10)] (.sc (.int .i64)) []
 (.call (.fn 114) [.sc (.atom 0),.sc (.atom 5),.sc (.atom 10),.sc (.atom 12)] (.tu []) []
 (.leaf (.tu []))))
 (.ite (.cmp .eql (.atom 3) (.int .i64 5))
 (.load (.padd (.atom 0) 3) [.sl]
 (.chk [] (.inSl (.atom 12) (.atom 1))
 (.load (.elt (.atom 12) (.atom 1) 1) [.int .i64]
 (.call (.fn 114) [.sc (.atom 0),.sc (.atom 5),(.sc (.ar .add .i64 (.atom 11) (.atom 13))),.sc (.int .i64 2)] (.tu []) []
 (.leaf (.tu []))))))
 (.leaf (.tu [])))))))
 (.ite (.pick (.pick (.cmp .eql (.atom 3) (.int .i64 2)) (.bool true) (.cmp .eql (.atom 3) (.int .i64 3))) (.bool true) (.cmp .eql (.atom 3) (.int .i64 5)))
 (.load (.padd (.atom 0) 3) [.sl]
 (.load (.padd (.atom 0) 1) [.map]
 (.load (.padd (.atom 0) 3) [.sl]
 (.chk [] (.inSl (.atom 13) (.atom 1))
 (.load (.elt (.atom 13) (.atom 1) 1) [.int .i64]
 (.sem (.lookup 135 (.tmp 36) (.tmp 38) false) 3 [(36,(.sc (.atom 12))),(38,(.sc (.atom 9)))] (.sc (.int .i64)) [((.elt (.atom 13) (.atom 1) 1),[.atom 14]),((.padd (.atom 0) 3),[.atom 13]),((.padd (.atom 0) 3),[.atom 11])]
 (.chk [] (.inSl (.atom 11) (.atom 15))
 (.load (.elt (.atom 11) (.atom 15) 1) [.int .i64]
 (.next 3 [(.ar .sub .i64 (.atom 16) (.atom 14))])))))))))
 (.next 3 [.int .i64 0])))))))
theorem zbe:execF Tryz.prog { pub:=[],nojoin:=false } Tryz.f76=z61:=by kernel_rfl
theorem zes:callB Tryz.prog 76=true:=by kernel_rfl
theorem zdb:TriOf Tryz.prog 76 Tryz.f76 z61:=triOf Tryz.func76 zbe
abbrev Z5n:FuncId:=77
def zok:Fm VE:=
 (.ite (.pick (.pick (.pick (.pick (.cmp .lss (.atom 2) (.int .i64 0)) (.bool true) (.cmp .gtr (.atom 2) (.int .i64 1048576))) (.bool true) (.cmp .gtr (.len (.atom 0)) (.int .i64 1048576))) (.bool true) (.cmp .gtr (.len (.atom 1)) (.atom 2))) (.bool true) (.cmp .lss (.atom 4) (.int .i64 0)))
 (.leaf (.ag [.int .i64 7,.int .i64 0,(.str []),.int .i64 0,.int .i64 0,.int .i64 0,.int .i64 0,.int .i64 0,.int .i64 0,.int .i64 0,.int .i64 0,.int .i64 0,.int .i64 0,.int .i64 0,.int .i64 0,.int .i64 0,.int .i64 0,.int .i64 0,.int .i64 0,.int .i64 0,.int .i64 0,.int .i64 0,.int .i64 0,.int .i64 0,.int .i64 0,.int .i64 0,.int .i64 0,.int .i64 0,.int .i64 0,.int .i64 0,.int .i64 0,.int .i64 0,.int .i64 0,.int .i64 0,.int .i64 0,.int .i64 0,.int .i64 0,(.nil 1)]))
 (.new 175 [.int .i64 0,.int .i64 0,(.str []),.int .i64 0,.int .i64 0,.int .i64 0,.int .i64 0,.int .i64 0,.int .i64 0,.int .i64 0,.int .i64 0,.int .i64 0,.int .i64 0,.int .i64 0,.int .i64 0,.int .i64 0,.int .i64 0,.int .i64 0,.int .i64 0,.int .i64 0,.int .i64 0,.int .i64 0,.int .i64 0,.int .i64 0,.int .i64 0,.int .i64 0,.int .i64 0,.int .i64 0,.int .i64 0,.int .i64 0,.int .i64 0,.int .i64 0,.int .i64 0,.int .i64 0,.int .i64 0,.int .i64 0,.int .i64 0,(.nil 1),.atom 3,(.nil 1)]
 (.call (.fn 116) [.sc (.atom 1)] (.sc .sl) []
 (.sem (.call ⟨.builtin .append,#[.tmp 43,.tmp 49],#[29,3]⟩) 29 [(43,(.sc (.atom 6))),(49,(.sc (.ar .sub .i64 (.atom 2) (.len (.atom 1)))))] (.sc .sl) []
 (.chk [] (.some (.atom 5))
 (.store (.padd (.padd (.atom 5) 0) 37) [.atom 7]
 (.store (.padd (.padd (.atom 5) 0) 0) [.int .i64 6]
 (.loop 7 [] []
 (.load (.padd (.padd (.atom 5) 0) 0) [.int .i64]
 (.ite (.cmp .eql (.atom 8) (.int .i64 6))
 (.load (.padd (.padd (.atom 5) 0) 3) [.int .i64]
 (.ite (.cmp .lss (.atom 9) (.atom 4))
 (.load (.padd (.padd (.atom 5) 0) 4) [.int .i64]
 (.ite (.cmp .lss (.atom 10) (.int .i64 0))
 (.store (.padd (.padd (.atom 5) 0) 0) [.int .i64 3]
 (.load (.padd (.atom 5) 39) [.sl]
 (.sem (.convert 112 9 (.tmp 124)) 9 [(124,(.sc (.atom 11)))] (.sc .str) []
 (.store (.padd (.padd (.atom 5) 0) 2) [.atom 12]
 (.load (.padd (.atom 5) 0) [.int .i64,.int .i64,.str,.int .i64,.int .i64,.int .i64,.int .i64,.int .i64,.int .i64,.int .i64,.int .i64,.int .i64,.int .i64,.int .i64,.int .i64,.int .i64,.int .i64,.int .i64,.int .i64,.int .i64,.int .i64,.int .i64,.int .i64,.int .i64,.int .i64,.int .i64,.int .i64,.int .i64,.int .i64,.int .i64,.int .i64,.int .i64,.int .i64,.int .i64,.int .i64,.int .i64,.int .i64,.sl]
 (.leaf (.ag [.atom 13,.atom 14,.atom 15,.atom 16,.atom 17,.atom 18,.atom 19,.atom 20,.atom 21,.atom 22,.atom 23,.atom 24,.atom 25,.atom 26,.atom 27,.atom 28,.atom 29,.atom 30,.atom 31,.atom 32,.atom 33,.atom 34,.atom 35,.atom 36,.atom 37,.atom 38,.atom 39,.atom 40,.atom 41,.atom 42,.atom 43,.atom 44,.atom 45,.atom 46,.atom 47,.atom 48,.atom 49,.atom 50])))))))
 (.load (.padd (.padd (.atom 5) 0) 4) [.int .i64]
 (.ite (.cmp .geq (.atom 11) (.len (.atom 0)))
 (.store (.padd (.padd (.atom 5) 0) 0) [.int .i64 3]
 (.load (.padd (.atom 5) 39) [.sl]
 (.sem (.convert 112 9 (.tmp 124)) 9 [(124,(.sc (.atom 12)))] (.sc .str) []
 (.store (.padd (.padd (.atom 5) 0) 2) [.atom 13]
 (.load (.padd (.atom 5) 0) [.int .i64,.int .i64,.str,.int .i64,.int .i64,.int .i64,.int .i64,.int .i64,.int .i64,.int .i64,.int .i64,.int .i64,.int .i64,.int .i64,.int .i64,.int .i64,.int .i64,.int .i64,.int .i64,.int .i64,.int .i64,.int .i64,.int .i64,.int .i64,.int .i64,.int .i64,.int .i64,.int .i64,.int .i64,.int .i64,.int .i64,.int .i64,.int .i64,.int .i64,.int .i64,.int .i64,.int .i64,.sl]
 (.leaf (.ag [.atom 14,.atom 15,.atom 16,.atom 17,.atom 18,.atom 19,.atom 20,.atom 21,.atom 22,.atom 23,.atom 24,.atom 25,.atom 26,.atom 27,.atom 28,.atom 29,.atom 30,.atom 31,.atom 32,.atom 33,.atom 34,.atom 35,.atom 36,.atom 37,.atom 38,.atom 39,.atom 40,.atom 41,.atom 42,.atom 43,.atom 44,.atom 45,.atom 46,.atom 47,.atom 48,.atom 49,.atom 50,.atom 51])))))))
 (.load (.padd (.padd (.atom 5) 0) 4) [.int .i64]
 (.chk [] (.inSl (.atom 0) (.atom 12))
 (.load (.elt (.atom 0) (.atom 12) 1) [.int .u32]
 (.both
 (.call (.fn 117) [.sc (.atom 13)] (.tu [(true,[.int .i64,.int .i64,.int .i64,.int .i64,.int .i64]),(false,[.bool])]) []
 (.ite (.not (.atom 19))
 (.store (.padd (.padd (.atom 5) 0) 0) [.int .i64 1]
 (.load (.padd (.atom 5) 39) [.sl]
 (.sem (.convert 112 9 (.tmp 124)) 9 [(124,(.sc (.atom 20)))] (.sc .str) []
 (.store (.padd (.padd (.atom 5) 0) 2) [.atom 21]
 (.load (.padd (.atom 5) 0) [.int .i64,.int .i64,.str,.int .i64,.int .i64,.int .i64,.int .i64,.int .i64,.int .i64,.int .i64,.int .i64,.int .i64,.int .i64,.int .i64,.int .i64,.int .i64,.int .i64,.int .i64,.int .i64,.int .i64,.int .i64,.int .i64,.int .i64,.int .i64,.int .i64,.int .i64,.int .i64,.int .i64,.int .i64,.int .i64,.int .i64,.int .i64,.int .i64,.int .i64,.int .i64,.int .i64,.int .i64,.sl]
 (.leaf (.ag [.atom 22,.atom 23,.atom 24,.atom 25,.atom 26,.atom 27,.atom 28,.atom 29,.atom 30,.atom 31,.atom 32,.atom 33,.atom 34,.atom 35,.atom 36,.atom 37,.atom 38,.atom 39,.atom 40,.atom 41,.atom 42,.atom 43,.atom 44,.atom 45,.atom 46,.atom 47,.atom 48,.atom 49,.atom 50,.atom 51,.atom 52,.atom 53,.atom 54,.atom 55,.atom 56,.atom 57,.atom 58,.atom 59])))))))
 (.call (.fn 118) [.sc (.atom 5),(.ag [.atom 14,.atom 15,.atom 16,.atom 17,.atom 18])] (.sc (.int .i64)) []
 (.store (.padd (.padd (.atom 5) 0) 0) [.atom 20]
 (.next 7 [])))))
 (.call (.fn 117) [.sc (.atom 13)] (.tu [(true,[.int .i64,.int .i64,.int .i64,.int .i64,.int .i64]),(false,[.bool])]) []
 (.ite (.not (.atom 19))
 (.store (.padd (.padd (.atom 5) 0) 0) [.int .i64 1]
 (.load (.padd (.atom 5) 39) [.sl]
 (.sem (.convert 112 9 (.tmp 124)) 9 [(124,(.sc (.atom 20)))] (.sc .str) []
 (.store (.padd (.padd (.atom 5) 0) 2) [.atom 21]
 (.load (.padd (.atom 5) 0) [.int .i64,.int .i64,.str,.int .i64,.int .i64,.int .i64,.int .i64,.int .i64,.int .i64,.int .i64,.int .i64,.int .i64,.int .i64,.int .i64,.int .i64,.int .i64,.int .i64,.int .i64,.int .i64,.int .i64,.int .i64,.int .i64,.int .i64,.int .i64,.int .i64,.int .i64,.int .i64,.int .i64,.int .i64,.int .i64,.int .i64,.int .i64,.int .i64,.int .i64,.int .i64,.int .i64,.int .i64,.sl]
 (.leaf (.ag [.atom 22,.atom 23,.atom 24,.atom 25,.atom 26,.atom 27,.atom 28,.atom 29,.atom 30,.atom 31,.atom 32,.atom 33,.atom 34,.atom 35,.atom 36,.atom 37,.atom 38,.atom 39,.atom 40,.atom 41,.atom 42,.atom 43,.atom 44,.atom 45,.atom 46,.atom 47,.atom 48,.atom 49,.atom 50,.atom 51,.atom 52,.atom 53,.atom 54,.atom 55,.atom 56,.atom 57,.atom 58,.atom 59])))))))
 (.call (.fn 118) [.sc (.atom 5),(.ag [.atom 14,.atom 15,.atom 16,.atom 17,.atom 18])] (.sc (.int .i64)) []
 (.store (.padd (.padd (.atom 5) 0) 0) [.atom 20]
 (.next 7 [])))))))))))))
 (.load (.padd (.atom 5) 39) [.sl]
 (.sem (.convert 112 9 (.tmp 124)) 9 [(124,(.sc (.atom 10)))] (.sc .str) []
 (.store (.padd (.padd (.atom 5) 0) 2) [.atom 11]
 (.load (.padd (.atom 5) 0) [.int .i64,.int .i64,.str,.int .i64,.int .i64,.int .i64,.int .i64,.int .i64,.int .i64,.int .i64,.int .i64,.int .i64,.int .i64,.int .i64,.int .i64,.int .i64,.int .i64,.int .i64,.int .i64,.int .i64,.int .i64,.int .i64,.int .i64,.int .i64,.int .i64,.int .i64,.int .i64,.int .i64,.int .i64,.int .i64,.int .i64,.int .i64,.int .i64,.int .i64,.int .i64,.int .i64,.int .i64,.sl]
 (.leaf (.ag [.atom 12,.atom 13,.atom 14,.atom 15,.atom 16,.atom 17,.atom 18,.atom 19,.atom 20,.atom 21,.atom 22,.atom 23,.atom 24,.atom 25,.atom 26,.atom 27,.atom 28,.atom 29,.atom 30,.atom 31,.atom 32,.atom 33,.atom 34,.atom 35,.atom 36,.atom 37,.atom 38,.atom 39,.atom 40,.atom 41,.atom 42,.atom 43,.atom 44,.atom 45,.atom 46,.atom 47,.atom 48,.atom 49]))))))))
 (.load (.padd (.atom 5) 39) [.sl]
 (.sem (.convert 112 9 (.tmp 124)) 9 [(124,(.sc (.atom 9)))] (.sc .str) []
 (.store (.padd (.padd (.atom 5) 0) 2) [.atom 10]
 (.load (.padd (.atom 5) 0) [.int .i64,.int .i64,.str,.int .i64,.int .i64,.int .i64,.int .i64,.int .i64,.int .i64,.int .i64,.int .i64,.int .i64,.int .i64,.int .i64,.int .i64,.int .i64,.int .i64,.int .i64,.int .i64,.int .i64,.int .i64,.int .i64,.int .i64,.int .i64,.int .i64,.int .i64,.int .i64,.int .i64,.int .i64,.int .i64,.int .i64,.int .i64,.int .i64,.int .i64,.int .i64,.int .i64,.int .i64,.sl]
 (.leaf (.ag [.atom 11,.atom 12,.atom 13,.atom 14,.atom 15,.atom 16,.atom 17,.atom 18,.atom 19,.atom 20,.atom 21,.atom 22,.atom 23,.atom 24,.atom 25,.atom 26,.atom 27,.atom 28,.atom 29,.atom 30,.atom 31,.atom 32,.atom 33,.atom 34,.atom 35,.atom 36,.atom 37,.atom 38,.atom 39,.atom 40,.atom 41,.atom 42,.atom 43,.atom 44,.atom 45,.atom 46,.atom 47,.atom 48]))))))))))))))))
theorem zvb:execF Tryz.prog { pub:=[39],nojoin:=true } Tryz.f77=zok:=by kernel_rfl
theorem Z2x:callB Tryz.prog 77=true:=by kernel_rfl
theorem Z1p:TriOf Tryz.prog 77 Tryz.f77 zok:=triOf Tryz.func77 zvb
abbrev zr8:FuncId:=78
def zd5:Fm VE:=
 (.leaf (.sc (.pick (.cmp .geq (.atom 0) (.int .i64 (-1152921504606846976))) (.cmp .leq (.atom 0) (.int .i64 1152921504606846975)) (.bool false))))
theorem zl1:execF Tryz.prog { pub:=[],nojoin:=false } Tryz.f78=zd5:=by kernel_rfl
theorem zps:callB Tryz.prog 78=true:=by kernel_rfl
theorem zo5:TriOf Tryz.prog 78 Tryz.f78 zd5:=triOf Tryz.func78 zl1
def zoe:Fm VE:=
 (.leaf (.sc (.ar .or .i64 (.ar .shl .i64 (.atom 1) (.int .u64 3)) (.atom 0))))
theorem zvm:execF Tryz.prog { pub:=[],nojoin:=false } Tryz.f79=zoe:=by kernel_rfl
theorem Z3h:callB Tryz.prog 79=true:=by kernel_rfl
theorem Z05:TriOf Tryz.prog 79 Tryz.f79 zoe:=triOf Tryz.func79 zvm
abbrev zrp:FuncId:=102
def ze2:Fm VE:=
 (.ite (.pick (.cmp .eql (.atom 0) (.int .i64 0)) (.cmp .eql (.atom 0) (.int .i64 0)) (.cmp .eql (.atom 0) (.int .i64 1)))
 (.leaf (.tu [(true,[.int .i64 0,.atom 0,(.str []),(.nil 1)]),(false,[.bool true])]))
 (.ite (.cmp .eql (.atom 0) (.int .i64 2))
 (.leaf (.tu [(true,[.int .i64 5,.int .i64 0,(.str []),(.nil 1)]),(false,[.bool true])]))
 (.ite (.cmp .eql (.atom 0) (.int .i64 3))
 (.leaf (.tu [(true,[.int .i64 4,.int .i64 0,(.str [118,111,105,100]),(.nil 1)]),(false,[.bool true])]))
 (.ite (.cmp .eql (.atom 0) (.int .i64 4))
 (.leaf (.tu [(true,[.int .i64 4,.int .i64 0,(.str [101,111,102]),(.nil 1)]),(false,[.bool true])]))
 (.ite (.cmp .eql (.atom 0) (.int .i64 5))
 (.leaf (.tu [(true,[.int .i64 4,.int .i64 0,(.str [117,110,115,101,116]),(.nil 1)]),(false,[.bool true])]))
 (.leaf (.tu [(true,[.int .i64 2,(.ar .and .i64 (.ar .sub .i64 (.atom 0) (.int .i64 256)) (.int .i64 255)),(.str []),(.nil 1)]),(false,[(.pick (.cmp .geq (.ar .sub .i64 (.atom 0) (.int .i64 256)) (.int .i64 0)) (.cmp .lss (.ar .sub .i64 (.atom 0) (.int .i64 256)) (.int .i64 256)) (.bool false))])])))))))
theorem zl0:execF Tryz.prog { pub:=[],nojoin:=false } Tryz.f102=ze2:=by kernel_rfl
theorem zd0:callB Tryz.prog 102=true:=by kernel_rfl
theorem znt:TriOf Tryz.prog 102 Tryz.f102 ze2:=triOf Tryz.func102 zl0
abbrev zj0:FuncId:=103
def z82:Fm VE:=
 (.chk [] (.some (.atom 0))
 (.load (.padd (.atom 0) 0) [.sl]
 (.chk [] (.inSl (.atom 3) (.atom 1))
 (.load (.elt (.atom 3) (.atom 1) 1) [.int .i64]
 (.join 3 [.bool]
 (.ite (.atom 5)
 (.leaf (.tu [(true,[.int .i64 0,.int .i64 0,(.str []),(.nil 1)]),(false,[.bool false])]))
 (.load (.padd (.atom 0) 0) [.sl]
 (.chk [] (.sub (.cap (.atom 6)) (.ar .add .i64 (.atom 1) (.int .i64 1)) (.ar .add .i64 (.ar .add .i64 (.atom 1) (.int .i64 1)) (.ar .shr .i64 (.atom 4) (.int .u64 6))))
 (.join 5 []
 (.leaf (.tu [(true,[.int .i64 0,.int .i64 0,(.str []),(.nil 1)]),(false,[.bool false])]))
 (.load (.padd (.atom 0) 0) [.sl]
 (.chk [] (.inSl (.atom 7) (.atom 1))
 (.load (.elt (.atom 7) (.atom 1) 1) [.int .i64]
 (.ite (.cmp .eql (.ar .and .i64 (.ar .shr .i64 (.atom 8) (.int .u64 3)) (.int .i64 7)) (.int .i64 4))
 (.leaf (.tu [(true,[.int .i64 4,.int .i64 0,(.str [98,111,120]),(.nil 1)]),(false,[.bool true])]))
 (.ite (.pick (.cmp .eql (.ar .and .i64 (.ar .shr .i64 (.atom 8) (.int .u64 3)) (.int .i64 7)) (.int .i64 5)) (.cmp .eql (.ar .and .i64 (.ar .shr .i64 (.atom 8) (.int .u64 3)) (.int .i64 7)) (.int .i64 5)) (.cmp .eql (.ar .and .i64 (.ar .shr .i64 (.atom 8) (.int .u64 3)) (.int .i64 7)) (.int .i64 7)))
 (.leaf (.tu [(true,[.int .i64 4,.int .i64 0,(.str [112,114,111,99,101,100,117,114,101]),(.nil 1)]),(false,[.bool true])]))
 (.ite (.cmp .eql (.ar .and .i64 (.ar .shr .i64 (.atom 8) (.int .u64 3)) (.int .i64 7)) (.int .i64 3))
 (.call (.fn 153) [(.sc (.sls (.atom 6) (.ar .add .i64 (.atom 1) (.int .i64 1)) (.ar .add .i64 (.ar .add .i64 (.atom 1) (.int .i64 1)) (.ar .shr .i64 (.atom 4) (.int .u64 6))) 1))] (.tu [(true,[.int .i64,.int .i64,.str,.sl]),(false,[.bool])]) []
 (.leaf (.tu [(true,[.atom 9,.atom 10,.atom 11,.atom 12]),(false,[.atom 13])])))
 (.ite (.cmp .eql (.ar .and .i64 (.ar .shr .i64 (.atom 8) (.int .u64 3)) (.int .i64 7)) (.int .i64 2))
 (.loop 16 [.bool,.int .i64,.int .i64,.int .i64,.str,.sl,.int .i64,.int .i64,.str,.sl] [.bool false,.int .i64 0,.int .i64 7,.int .i64 0,(.str []),(.nil 1),.int .i64 0,.int .i64 0,(.str []),(.nil 1)]
 (.ite (.cmp .lss (.atom 10) (.len (.sls (.atom 6) (.ar .add .i64 (.atom 1) (.int .i64 1)) (.ar .add .i64 (.ar .add .i64 (.atom 1) (.int .i64 1)) (.ar .shr .i64 (.atom 4) (.int .u64 6))) 1)))
 (.chk [] (.inSl (.sls (.atom 6) (.ar .add .i64 (.atom 1) (.int .i64 1)) (.ar .add .i64 (.ar .add .i64 (.atom 1) (.int .i64 1)) (.ar .shr .i64 (.atom 4) (.int .u64 6))) 1) (.atom 10))
 (.load (.elt (.sls (.atom 6) (.ar .add .i64 (.atom 1) (.int .i64 1)) (.ar .add .i64 (.ar .add .i64 (.atom 1) (.int .i64 1)) (.ar .shr .i64 (.atom 4) (.int .u64 6))) 1) (.atom 10) 1) [.int .i64]
 (.call (.fn 67) [.sc (.atom 0),.sc (.atom 19),(.sc (.ar .add .i64 (.atom 2) (.int .i64 1)))] (.tu [(true,[.int .i64,.int .i64,.str,.sl]),(false,[.bool])]) []
 (.ite (.not (.atom 24))
 (.leaf (.tu [(true,[.int .i64 0,.int .i64 0,(.str []),(.nil 1)]),(false,[.bool false])]))
 (.sem (.buildSlice 30 1 #[(0,(.tmp 98))]) 30 [(98,(.ag [.atom 20,.atom 21,.atom 22,.atom 23]))] (.sc .sl) []
 (.sem (.call ⟨.builtin .append,#[.tmp 97,.tmp 99],#[30,30]⟩) 30 [(97,(.sc (.atom 14))),(99,(.sc (.atom 25)))] (.sc .sl) []
 (.next 16 [.atom 9,(.ar .add .i64 (.atom 10) (.int .i64 1)),.atom 11,.atom 12,.atom 13,.atom 26,.atom 15,.atom 16,.atom 17,.atom 18])))))))
 (.leaf (.tu [(true,[.atom 11,.atom 12,.atom 13,.atom 14]),(false,[.bool true])]))))
 (.ite (.cmp .eql (.ar .and .i64 (.ar .shr .i64 (.atom 8) (.int .u64 3)) (.int .i64 7)) (.int .i64 1))
 (.ite (.cmp .neq (.ar .shr .i64 (.atom 4) (.int .u64 6)) (.int .i64 2))
 (.next 5 [])
 (.chk [] (.inSl (.sls (.atom 6) (.ar .add .i64 (.atom 1) (.int .i64 1)) (.ar .add .i64 (.ar .add .i64 (.atom 1) (.int .i64 1)) (.ar .shr .i64 (.atom 4) (.int .u64 6))) 1) (.int .i64 0))
 (.load (.elt (.sls (.atom 6) (.ar .add .i64 (.atom 1) (.int .i64 1)) (.ar .add .i64 (.ar .add .i64 (.atom 1) (.int .i64 1)) (.ar .shr .i64 (.atom 4) (.int .u64 6))) 1) (.int .i64 0) 1) [.int .i64]
 (.call (.fn 67) [.sc (.atom 0),.sc (.atom 9),(.sc (.ar .add .i64 (.atom 2) (.int .i64 1)))] (.tu [(true,[.int .i64,.int .i64,.str,.sl]),(false,[.bool])]) []
 (.ite (.not (.atom 14))
 (.next 5 [])
 (.chk [] (.inSl (.sls (.atom 6) (.ar .add .i64 (.atom 1) (.int .i64 1)) (.ar .add .i64 (.ar .add .i64 (.atom 1) (.int .i64 1)) (.ar .shr .i64 (.atom 4) (.int .u64 6))) 1) (.int .i64 1))
 (.load (.elt (.sls (.atom 6) (.ar .add .i64 (.atom 1) (.int .i64 1)) (.ar .add .i64 (.ar .add .i64 (.atom 1) (.int .i64 1)) (.ar .shr .i64 (.atom 4) (.int .u64 6))) 1) (.int .i64 1) 1) [.int .i64]
 (.call (.fn 67) [.sc (.atom 0),.sc (.atom 15),.sc (.atom 2)] (.tu [(true,[.int .i64,.int .i64,.str,.sl]),(false,[.bool])]) []
 (.ite (.not (.atom 20))
 (.next 5 [])
 (.sem (.buildSlice 30 1 #[(0,(.tmp 131))]) 30 [(131,(.ag [.atom 10,.atom 11,.atom 12,.atom 13]))] (.sc .sl) []
 (.call (.fn 154) [.sc (.atom 21),(.ag [.atom 16,.atom 17,.atom 18,.atom 19])] (.ag [.int .i64,.int .i64,.str,.sl]) []
 (.leaf (.tu [(true,[.atom 22,.atom 23,.atom 24,.atom 25]),(false,[.bool true])])))))))))))))
 (.next 5 [])))))))))))))
 (.ite (.cmp .lss (.ar .shr .i64 (.atom 4) (.int .u64 6)) (.int .i64 0))
 (.next 3 [.bool true])
 (.load (.padd (.atom 0) 0) [.sl]
 (.next 3 [(.cmp .gtr (.ar .shr .i64 (.atom 4) (.int .u64 6)) (.ar .sub .i64 (.ar .sub .i64 (.len (.atom 5)) (.atom 1)) (.int .i64 1)))]))))))))
theorem zd2:execF Tryz.prog { pub:=[],nojoin:=false } Tryz.f103=z82:=by kernel_rfl
theorem zih:callB Tryz.prog 103=true:=by kernel_rfl
theorem zg0:TriOf Tryz.prog 103 Tryz.f103 z82:=triOf Tryz.func103 zd2
abbrev zh0:FuncId:=104
def z6z:Fm VE:=
 (.sem (.buildSlice 24 3 #[(0,(.const (.string ⟨#[118,111,105,100]⟩))),(1,(.const (.string ⟨#[101,111,102]⟩))),(2,(.const (.string ⟨#[117,110,115,101,116]⟩)))]) 24 [] (.sc .sl) []
 (.join 3 []
 (.leaf (.tu [(true,[.int .i64 0,.int .i64 0,(.str []),(.nil 1)]),(false,[.bool false])]))
 (.ite (.cmp .eql (.ar .and .i64 (.atom 0) (.int .i64 7)) (.int .i64 0))
 (.leaf (.tu [(true,[.int .i64 1,(.ar .shr .i64 (.atom 0) (.int .u64 3)),(.str []),(.nil 1)]),(false,[.bool true])]))
 (.ite (.cmp .eql (.ar .and .i64 (.atom 0) (.int .i64 7)) (.int .i64 3))
 (.ite (.pick (.cmp .lss (.ar .shr .i64 (.atom 0) (.int .u64 3)) (.int .i64 0)) (.bool true) (.cmp .geq (.ar .shr .i64 (.atom 0) (.int .u64 3)) (.len (.atom 1))))
 (.leaf (.tu [(true,[.int .i64 0,.int .i64 0,(.str []),(.nil 1)]),(false,[.bool false])]))
 (.chk [] (.inSl (.atom 1) (.ar .shr .i64 (.atom 0) (.int .u64 3)))
 (.load (.elt (.atom 1) (.ar .shr .i64 (.atom 0) (.int .u64 3)) 1) [.str]
 (.leaf (.tu [(true,[.int .i64 4,.int .i64 0,.atom 3,(.nil 1)]),(false,[.bool true])])))))
 (.ite (.cmp .eql (.ar .and .i64 (.atom 0) (.int .i64 7)) (.int .i64 2))
 (.ite (.pick (.cmp .eql (.ar .shr .i64 (.atom 0) (.int .u64 3)) (.int .i64 0)) (.bool true) (.cmp .eql (.ar .shr .i64 (.atom 0) (.int .u64 3)) (.int .i64 1)))
 (.leaf (.tu [(true,[.int .i64 0,(.ar .shr .i64 (.atom 0) (.int .u64 3)),(.str []),(.nil 1)]),(false,[.bool true])]))
 (.ite (.cmp .eql (.ar .shr .i64 (.atom 0) (.int .u64 3)) (.int .i64 2))
 (.leaf (.tu [(true,[.int .i64 5,.int .i64 0,(.str []),(.nil 1)]),(false,[.bool true])]))
 (.ite (.pick (.cmp .geq (.ar .shr .i64 (.atom 0) (.int .u64 3)) (.int .i64 3)) (.cmp .leq (.ar .shr .i64 (.atom 0) (.int .u64 3)) (.int .i64 5)) (.bool false))
 (.chk [] (.inSl (.atom 2) (.ar .sub .i64 (.ar .shr .i64 (.atom 0) (.int .u64 3)) (.int .i64 3)))
 (.load (.elt (.atom 2) (.ar .sub .i64 (.ar .shr .i64 (.atom 0) (.int .u64 3)) (.int .i64 3)) 1) [.str]
 (.leaf (.tu [(true,[.int .i64 4,.int .i64 0,.atom 3,(.nil 1)]),(false,[.bool true])]))))
 (.ite (.pick (.cmp .geq (.ar .shr .i64 (.atom 0) (.int .u64 3)) (.int .i64 256)) (.cmp .leq (.ar .shr .i64 (.atom 0) (.int .u64 3)) (.int .i64 511)) (.bool false))
 (.leaf (.tu [(true,[.int .i64 2,(.ar .sub .i64 (.ar .shr .i64 (.atom 0) (.int .u64 3)) (.int .i64 256)),(.str []),(.nil 1)]),(false,[.bool true])]))
 (.next 3 [])))))
 (.next 3 []))))))
theorem zch:execF Tryz.prog { pub:=[],nojoin:=false } Tryz.f104=z6z:=by kernel_rfl
theorem z79:callB Tryz.prog 104=true:=by kernel_rfl
theorem zeh:TriOf Tryz.prog 104 Tryz.f104 z6z:=triOf Tryz.func104 zch
abbrev z6b:FuncId:=106
def z2z:Fm VE:=
 (.join 1 []
 (.join 2 [.sl,.int .i64]
 (.leaf (.sc (.atom 2)))
 (.ite (.cmp .gtr (.ar .sub .i64 (.atom 1) (.ar .sub .i64 (.cap (.atom 0)) (.len (.atom 0)))) (.int .i64 0))
 (.chk [] (.sub (.cap (.atom 0)) (.int .i64 0) (.cap (.atom 0)))
 (.sem (.call ⟨.builtin .append,#[.tmp 20,.tmp 21],#[50,3]⟩) 50 [(20,(.sc (.sls (.atom 0) (.int .i64 0) (.cap (.atom 0)) 8))),(21,(.sc (.ar .sub .i64 (.atom 1) (.ar .sub .i64 (.cap (.atom 0)) (.len (.atom 0))))))] (.sc .sl) []
 (.chk [] (.sub (.cap (.atom 2)) (.int .i64 0) (.len (.atom 0)))
 (.next 2 [(.sls (.atom 2) (.int .i64 0) (.len (.atom 0)) 8),(.ar .sub .i64 (.atom 1) (.ar .sub .i64 (.cap (.atom 0)) (.len (.atom 0))))]))))
 (.next 2 [.atom 0,(.ar .sub .i64 (.atom 1) (.ar .sub .i64 (.cap (.atom 0)) (.len (.atom 0))))])))
 (.ite (.cmp .lss (.atom 1) (.int .i64 0))
 (.sem (.makeInterface 9 (.const (.string ⟨#[99,97,110,110,111,116,32,98,101,32,110,101,103,97,116,105,118,101]⟩))) 20 [] (.sc .any) []
 (.sem (.panic (.tmp 7)) 0 [(7,(.sc (.atom 2)))] (.tu []) []
 (.next 1 [])))
 (.next 1 [])))
theorem z52:execF Tryz.prog { pub:=[],nojoin:=false } Tryz.f106=z2z:=by kernel_rfl
theorem z5j:TriOf Tryz.prog 106 Tryz.f106 z2z:=triOf Tryz.func106 z52
abbrev zyh:FuncId:=110
def zhv:Fm VE:=
 (.call (.fn 156) [.sc (.atom 0)] (.sc (.int .i64)) []
 (.call (.fn 157) [.sc (.atom 0)] (.tu [(false,[.int .i64]),(false,[.int .i64])]) []
 (.join 5 [.bool]
 (.ite (.atom 8)
 (.leaf (.tu [(false,[.int .u32 0]),(false,[.int .i64 200])]))
 (.join 7 [.int .u32]
 (.leaf (.tu [(false,[.atom 9]),(false,[.int .i64 0])]))
 (.ite (.pick (.cmp .eql (.atom 5) (.int .i64 2)) (.cmp .eql (.atom 5) (.int .i64 2)) (.cmp .eql (.atom 5) (.int .i64 3)))
 (.next 7 [(.ar .or .u32 (.ar .or .u32 (.ar .or .u32 (.ar .or .u32 (.ar .shl .u32 (.conv .u32 (.atom 0)) (.int .u64 26)) (.ar .shl .u32 (.conv .u32 (.atom 1)) (.int .u64 21))) (.ar .shl .u32 (.conv .u32 (.atom 2)) (.int .u64 16))) (.ar .shl .u32 (.conv .u32 (.atom 3)) (.int .u64 11))) (.conv .u32 (.conv .u16 (.atom 4))))])
 (.ite (.cmp .eql (.atom 5) (.int .i64 4))
 (.next 7 [(.ar .or .u32 (.ar .or .u32 (.ar .or .u32 (.ar .or .u32 (.ar .shl .u32 (.conv .u32 (.atom 0)) (.int .u64 26)) (.ar .shl .u32 (.conv .u32 (.atom 1)) (.int .u64 21))) (.ar .shl .u32 (.conv .u32 (.atom 2)) (.int .u64 16))) (.ar .shl .u32 (.conv .u32 (.atom 3)) (.int .u64 11))) (.ar .and .u32 (.conv .u32 (.atom 4)) (.int .u32 1023)))])
 (.next 7 [(.pick (.cmp .eql (.atom 5) (.int .i64 5)) (.ar .or .u32 (.ar .or .u32 (.ar .or .u32 (.ar .or .u32 (.ar .shl .u32 (.conv .u32 (.atom 0)) (.int .u64 26)) (.ar .shl .u32 (.conv .u32 (.atom 1)) (.int .u64 21))) (.ar .shl .u32 (.conv .u32 (.atom 2)) (.int .u64 16))) (.ar .shl .u32 (.conv .u32 (.atom 3)) (.int .u64 11))) (.ar .and .u32 (.conv .u32 (.atom 4)) (.int .u32 2097151))) (.ar .or .u32 (.ar .or .u32 (.ar .or .u32 (.ar .shl .u32 (.conv .u32 (.atom 0)) (.int .u64 26)) (.ar .shl .u32 (.conv .u32 (.atom 1)) (.int .u64 21))) (.ar .shl .u32 (.conv .u32 (.atom 2)) (.int .u64 16))) (.ar .shl .u32 (.conv .u32 (.atom 3)) (.int .u64 11))))])))))
 (.ite (.cmp .eql (.atom 5) (.int .i64 7))
 (.next 5 [.bool true])
 (.call (.fn 158) [.sc (.atom 1)] (.sc .bool) []
 (.ite (.not (.atom 8))
 (.next 5 [.bool true])
 (.call (.fn 158) [.sc (.atom 2)] (.sc .bool) []
 (.ite (.not (.atom 9))
 (.next 5 [.bool true])
 (.call (.fn 158) [.sc (.atom 3)] (.sc .bool) []
 (.next 5 [(.pick (.pick (.pick (.pick (.not (.atom 10)) (.bool true) (.pick (.not (.pick (.pick (.cmp .neq (.atom 5) (.int .i64 0)) (.cmp .neq (.atom 5) (.int .i64 3)) (.bool false)) (.cmp .neq (.atom 5) (.int .i64 5)) (.bool false))) (.cmp .neq (.atom 2) (.int .i64 0)) (.bool false))) (.bool true) (.pick (.cmp .neq (.atom 5) (.int .i64 1)) (.cmp .neq (.atom 3) (.int .i64 0)) (.bool false))) (.bool true) (.cmp .lss (.atom 4) (.atom 6))) (.bool true) (.cmp .gtr (.atom 4) (.atom 7)))]))))))))))
theorem zo9:execF Tryz.prog { pub:=[],nojoin:=false } Tryz.f110=zhv:=by kernel_rfl
theorem z2m:callB Tryz.prog 110=true:=by kernel_rfl
theorem zsg:TriOf Tryz.prog 110 Tryz.f110 zhv:=triOf Tryz.func110 zo9
abbrev zh4:FuncId:=111
def z6w:Fm VE:=
 (.join 1 []
 (.leaf (.sc (.int .i64 1)))
 (.chk [] (.some (.atom 0))
 (.load (.padd (.atom 0) 0) [.sl]
 (.chk [] (.inSl (.atom 2) (.atom 1))
 (.load (.elt (.atom 2) (.atom 1) 8) [.int .i64,.int .i64,.int .i64,.int .i64,.int .i64,.int .i64,.int .i64,.int .i64]
 (.ite (.cmp .eql (.atom 3) (.int .i64 1))
 (.leaf (.sc (.int .i64 0)))
 (.ite (.cmp .eql (.atom 3) (.int .i64 2))
 (.load (.padd (.atom 0) 2) [.sl]
 (.chk [] (.inSl (.atom 11) (.atom 1))
 (.load (.elt (.atom 11) (.atom 1) 1) [.bool]
 (.ite (.atom 12)
 (.leaf (.sc (.int .i64 2)))
 (.next 1 [])))))
 (.ite (.cmp .eql (.atom 3) (.int .i64 4))
 (.call (.fn 115) [.sc (.atom 10)] (.sc (.int .i64)) []
 (.leaf (.sc (.atom 11))))
 (.ite (.cmp .eql (.atom 3) (.int .i64 5))
 (.leaf (.sc (.int .i64 2)))
 (.next 1 []))))))))))
theorem zc7:execF Tryz.prog { pub:=[],nojoin:=false } Tryz.f111=z6w:=by kernel_rfl
theorem zfo:callB Tryz.prog 111=true:=by kernel_rfl
theorem zek:TriOf Tryz.prog 111 Tryz.f111 z6w:=triOf Tryz.func111 zc7
abbrev z38:FuncId:=112
def z7v:Fm VE:=
 (.call (.fn 110) [(.ag [.atom 1,.atom 2,.atom 3,.atom 4,.atom 5])] (.tu [(false,[.int .u32]),(false,[.int .i64])]) []
 (.chk [] (.some (.atom 0))
 (.load (.padd (.atom 0) 4) [.sl]
 (.sem (.buildSlice 53 1 #[(0,(.tmp 16))]) 53 [(16,(.sc (.atom 6)))] (.sc .sl) []
 (.sem (.call ⟨.builtin .append,#[.tmp 15,.tmp 17],#[53,53]⟩) 53 [(15,(.sc (.atom 8))),(17,(.sc (.atom 9)))] (.sc .sl) []
 (.store (.padd (.atom 0) 4) [.atom 10]
 (.leaf (.tu []))))))))
theorem ze1:execF Tryz.prog { pub:=[],nojoin:=false } Tryz.f112=z7v:=by kernel_rfl
theorem z1b:callB Tryz.prog 112=true:=by kernel_rfl
theorem zgb:TriOf Tryz.prog 112 Tryz.f112 z7v:=triOf Tryz.func112 ze1
abbrev zvh:FuncId:=113
def zf1:Fm VE:=
 (.ite (.cmp .eql (.atom 0) (.int .i64 24))
 (.leaf (.sc (.int .i64 25)))
 (.ite (.cmp .eql (.atom 0) (.int .i64 25))
 (.leaf (.sc (.int .i64 24)))
 (.ite (.cmp .eql (.atom 0) (.int .i64 26))
 (.leaf (.sc (.int .i64 27)))
 (.leaf (.sc (.int .i64 26))))))
theorem zlk:execF Tryz.prog { pub:=[],nojoin:=false } Tryz.f113=zf1:=by kernel_rfl
theorem ztr:callB Tryz.prog 113=true:=by kernel_rfl
theorem zqh:TriOf Tryz.prog 113 Tryz.f113 zf1:=triOf Tryz.func113 zlk
abbrev z62:FuncId:=114
def z5g:Fm VE:=
 (.chk [] (.nneg (.ar .mul .i64 (.int .i64 16) (.ar .sub .i64 (.atom 3) (.int .i64 1))))
 (.call (.fn 112) [.sc (.atom 0),(.ag [.int .i64 20,.atom 1,.int .i64 0,.int .i64 0,(.conv .i64 (.conv .i16 (.ar .shr .i64 (.atom 2) (.ar .mul .i64 (.int .i64 16) (.ar .sub .i64 (.atom 3) (.int .i64 1))))))])] (.tu []) []
 (.loop 2 [.int .i64] [(.ar .sub .i64 (.atom 3) (.int .i64 1))]
 (.ite (.cmp .gtr (.atom 4) (.int .i64 0))
 (.chk [] (.nneg (.ar .mul .i64 (.int .i64 16) (.ar .sub .i64 (.atom 4) (.int .i64 1))))
 (.call (.fn 112) [.sc (.atom 0),(.ag [.int .i64 21,.atom 1,.int .i64 0,.int .i64 0,(.ar .and .i64 (.ar .shr .i64 (.atom 2) (.ar .mul .i64 (.int .i64 16) (.ar .sub .i64 (.atom 4) (.int .i64 1)))) (.int .i64 65535))])] (.tu []) []
 (.next 2 [(.ar .sub .i64 (.atom 4) (.int .i64 1))])))
 (.leaf (.tu []))))))
theorem zaq:execF Tryz.prog { pub:=[],nojoin:=false } Tryz.f114=z5g:=by kernel_rfl
theorem z5f:callB Tryz.prog 114=true:=by kernel_rfl
theorem zc9:TriOf Tryz.prog 114 Tryz.f114 z5g:=triOf Tryz.func114 zaq
abbrev Z1h:FuncId:=115
def zk7:Fm VE:=
 (.loop 3 [.int .i64] [.int .i64 1]
 (.chk [((.cmp .lss (.atom 1) (.int .i64 4)),true)] (.nneg (.ar .sub .i64 (.ar .mul .i64 (.int .i64 16) (.atom 1)) (.int .i64 1)))
 (.chk [((.cmp .lss (.atom 1) (.int .i64 4)),true),((.cmp .lss (.atom 0) (.ar .shl .i64 (.int .i64 (-1)) (.ar .sub .i64 (.ar .mul .i64 (.int .i64 16) (.atom 1)) (.int .i64 1)))),false)] (.nneg (.ar .sub .i64 (.ar .mul .i64 (.int .i64 16) (.atom 1)) (.int .i64 1)))
 (.ite (.pick (.cmp .lss (.atom 1) (.int .i64 4)) (.pick (.cmp .lss (.atom 0) (.ar .shl .i64 (.int .i64 (-1)) (.ar .sub .i64 (.ar .mul .i64 (.int .i64 16) (.atom 1)) (.int .i64 1)))) (.bool true) (.cmp .gtr (.atom 0) (.ar .sub .i64 (.ar .shl .i64 (.int .i64 1) (.ar .sub .i64 (.ar .mul .i64 (.int .i64 16) (.atom 1)) (.int .i64 1))) (.int .i64 1)))) (.bool false))
 (.next 3 [(.ar .add .i64 (.atom 1) (.int .i64 1))])
 (.leaf (.sc (.atom 1)))))))
theorem zpo:execF Tryz.prog { pub:=[],nojoin:=false } Tryz.f115=zk7:=by kernel_rfl
theorem zkl:callB Tryz.prog 115=true:=by kernel_rfl
theorem zvu:TriOf Tryz.prog 115 Tryz.f115 zk7:=triOf Tryz.func115 zpo
abbrev zc0:FuncId:=116
def z4t:Fm VE:=
 (.ite (.isnil (.atom 0))
 (.leaf (.sc (.nil 1)))
 (.sem (.buildSlice 29 0 #[]) 29 [] (.sc .sl) []
 (.sem (.call ⟨.builtin .append,#[.tmp 5,.tmp 6],#[29,29]⟩) 29 [(5,(.sc (.atom 1))),(6,(.sc (.atom 0)))] (.sc .sl) []
 (.leaf (.sc (.atom 2))))))
theorem z9j:execF Tryz.prog { pub:=[],nojoin:=false } Tryz.f116=z4t:=by kernel_rfl
theorem zb8:callB Tryz.prog 116=true:=by kernel_rfl
theorem zax:TriOf Tryz.prog 116 Tryz.f116 z4t:=triOf Tryz.func116 z9j
abbrev zy1:FuncId:=117
def zhc:Fm VE:=
 (.call (.fn 157) [(.sc (.conv .i64 (.ar .shr .u32 (.atom 0) (.int .u64 26))))] (.tu [(false,[.int .i64]),(false,[.int .i64])]) []
 (.call (.fn 156) [(.sc (.conv .i64 (.ar .shr .u32 (.atom 0) (.int .u64 26))))] (.sc (.int .i64)) []
 (.join 6 [.int .i64,.int .i64,.int .i64,.int .i64,.int .i64]
 (.call (.fn 110) [(.ag [.atom 4,.atom 5,.atom 6,.atom 7,.atom 8])] (.tu [(false,[.int .u32]),(false,[.int .i64])]) []
 (.ite (.pick (.cmp .neq (.atom 10) (.int .i64 0)) (.bool true) (.cmp .neq (.atom 9) (.atom 0)))
 (.leaf (.tu [(true,[.int .i64 0,.int .i64 0,.int .i64 0,.int .i64 0,.int .i64 0]),(false,[.bool false])]))
 (.leaf (.tu [(true,[.atom 4,.atom 5,.atom 6,.atom 7,.atom 8]),(false,[.bool true])]))))
 (.ite (.cmp .eql (.atom 3) (.int .i64 1))
 (.next 6 [(.conv .i64 (.ar .shr .u32 (.atom 0) (.int .u64 26))),(.conv .i64 (.ar .and .u32 (.ar .shr .u32 (.atom 0) (.int .u64 21)) (.int .u32 31))),(.pick (.pick (.pick (.cmp .neq (.atom 3) (.int .i64 0)) (.cmp .neq (.atom 3) (.int .i64 3)) (.bool false)) (.cmp .neq (.atom 3) (.int .i64 5)) (.bool false)) (.conv .i64 (.ar .and .u32 (.ar .shr .u32 (.atom 0) (.int .u64 16)) (.int .u32 31))) (.int .i64 0)),(.conv .i64 (.ar .and .u32 (.ar .shr .u32 (.atom 0) (.int .u64 11)) (.int .u32 31))),.int .i64 0])
 (.ite (.pick (.cmp .eql (.atom 3) (.int .i64 2)) (.cmp .eql (.atom 3) (.int .i64 2)) (.cmp .eql (.atom 3) (.int .i64 3)))
 (.call (.fn 159) [.sc (.atom 0),.sc (.int .i64 16)] (.sc (.int .i64)) []
 (.next 6 [(.conv .i64 (.ar .shr .u32 (.atom 0) (.int .u64 26))),(.conv .i64 (.ar .and .u32 (.ar .shr .u32 (.atom 0) (.int .u64 21)) (.int .u32 31))),(.pick (.pick (.pick (.cmp .neq (.atom 3) (.int .i64 0)) (.cmp .neq (.atom 3) (.int .i64 3)) (.bool false)) (.cmp .neq (.atom 3) (.int .i64 5)) (.bool false)) (.conv .i64 (.ar .and .u32 (.ar .shr .u32 (.atom 0) (.int .u64 16)) (.int .u32 31))) (.int .i64 0)),.int .i64 0,(.pick (.cmp .eql (.atom 1) (.int .i64 0)) (.conv .i64 (.conv .u16 (.atom 0))) (.atom 4))]))
 (.ite (.cmp .eql (.atom 3) (.int .i64 4))
 (.call (.fn 159) [.sc (.atom 0),.sc (.int .i64 10)] (.sc (.int .i64)) []
 (.next 6 [(.conv .i64 (.ar .shr .u32 (.atom 0) (.int .u64 26))),(.conv .i64 (.ar .and .u32 (.ar .shr .u32 (.atom 0) (.int .u64 21)) (.int .u32 31))),(.pick (.pick (.pick (.cmp .neq (.atom 3) (.int .i64 0)) (.cmp .neq (.atom 3) (.int .i64 3)) (.bool false)) (.cmp .neq (.atom 3) (.int .i64 5)) (.bool false)) (.conv .i64 (.ar .and .u32 (.ar .shr .u32 (.atom 0) (.int .u64 16)) (.int .u32 31))) (.int .i64 0)),.int .i64 0,.atom 4]))
 (.ite (.cmp .eql (.atom 3) (.int .i64 5))
 (.call (.fn 159) [.sc (.atom 0),.sc (.int .i64 21)] (.sc (.int .i64)) []
 (.next 6 [(.conv .i64 (.ar .shr .u32 (.atom 0) (.int .u64 26))),(.conv .i64 (.ar .and .u32 (.ar .shr .u32 (.atom 0) (.int .u64 21)) (.int .u32 31))),(.pick (.pick (.pick (.cmp .neq (.atom 3) (.int .i64 0)) (.cmp .neq (.atom 3) (.int .i64 3)) (.bool false)) (.cmp .neq (.atom 3) (.int .i64 5)) (.bool false)) (.conv .i64 (.ar .and .u32 (.ar .shr .u32 (.atom 0) (.int .u64 16)) (.int .u32 31))) (.int .i64 0)),.int .i64 0,.atom 4]))
 (.next 6 [(.conv .i64 (.ar .shr .u32 (.atom 0) (.int .u64 26))),(.conv .i64 (.ar .and .u32 (.ar .shr .u32 (.atom 0) (.int .u64 21)) (.int .u32 31))),(.pick (.pick (.pick (.cmp .neq (.atom 3) (.int .i64 0)) (.cmp .neq (.atom 3) (.int .i64 3)) (.bool false)) (.cmp .neq (.atom 3) (.int .i64 5)) (.bool false)) (.conv .i64 (.ar .and .u32 (.ar .shr .u32 (.atom 0) (.int .u64 16)) (.int .u32 31))) (.int .i64 0)),.int .i64 0,.int .i64 0]))))))))
theorem zoa:execF Tryz.prog { pub:=[],nojoin:=false } Tryz.f117=zhc:=by kernel_rfl
theorem zu7:callB Tryz.prog 117=true:=by kernel_rfl
theorem zsp:TriOf Tryz.prog 117 Tryz.f117 zhc:=triOf Tryz.func117 zoa
abbrev ziu:FuncId:=118
def z8c:Fm VE:=
 (.join 1 [.int .i64,.int .i64]
 (.chk [] (.some (.atom 0))
 (.load (.padd (.padd (.atom 0) 0) 4) [.int .i64]
 (.join 3 [.int .i64]
 (.store (.padd (.padd (.atom 0) 0) 4) [.atom 9]
 (.load (.padd (.padd (.atom 0) 0) 3) [.int .i64]
 (.store (.padd (.padd (.atom 0) 0) 3) [(.ar .add .i64 (.atom 10) (.int .i64 1))]
 (.ite (.cmp .eql (.atom 1) (.int .i64 0))
 (.leaf (.sc (.int .i64 0)))
 (.leaf (.sc (.int .i64 6)))))))
 (.call (.fn 156) [.sc (.atom 1)] (.sc (.int .i64)) []
 (.ite (.cmp .eql (.atom 1) (.int .i64 0))
 (.load (.padd (.padd (.atom 0) 0) 4) [.int .i64]
 (.store (.padd (.padd (.atom 0) 0) 1) [.atom 6]
 (.next 3 [.atom 10])))
 (.ite (.cmp .eql (.atom 9) (.int .i64 1))
 (.sem (.indexAddr 59 (.tmp 68) (.tmp 65)) 0 [(68,(.sc (.padd (.padd (.atom 0) 0) 5))),(65,(.sc (.atom 4)))] (.sc .ptr) []
 (.load (.atom 10) [.int .i64]
 (.ite (.pick (.pick (.cmp .eql (.atom 1) (.int .i64 5)) (.bool true) (.cmp .eql (.atom 1) (.int .i64 6))) (.cmp .eql (.atom 11) (.int .i64 0)) (.bool false))
 (.leaf (.sc (.int .i64 4)))
 (.call (.fn 161) [.sc (.atom 1),.sc (.atom 7),.sc (.atom 11)] (.sc (.int .i64)) []
 (.call (.fn 160) [.sc (.atom 0),.sc (.atom 2),.sc (.atom 12)] (.tu []) []
 (.next 3 [(.ar .add .i64 (.atom 8) (.int .i64 1))]))))))
 (.ite (.cmp .eql (.atom 9) (.int .i64 4))
 (.call (.fn 162) [.sc (.atom 1),.sc (.atom 6),.sc (.atom 7)] (.sc .bool) []
 (.ite (.atom 10)
 (.load (.padd (.padd (.atom 0) 0) 4) [.int .i64]
 (.next 3 [(.ar .add .i64 (.atom 11) (.atom 5))]))
 (.next 3 [(.ar .add .i64 (.atom 8) (.int .i64 1))])))
 (.ite (.pick (.cmp .eql (.atom 1) (.int .i64 22)) (.bool true) (.cmp .eql (.atom 1) (.int .i64 23)))
 (.join 11 [.bool]
 (.ite (.atom 10)
 (.leaf (.sc (.int .i64 2)))
 (.ite (.cmp .eql (.atom 1) (.int .i64 23))
 (.load (.padd (.padd (.atom 0) 0) 37) [.sl]
 (.chk [] (.inSl (.atom 11) (.ar .add .i64 (.atom 7) (.atom 5)))
 (.store (.elt (.atom 11) (.ar .add .i64 (.atom 7) (.atom 5)) 1) [.atom 6]
 (.next 3 [(.ar .add .i64 (.atom 8) (.int .i64 1))]))))
 (.load (.padd (.padd (.atom 0) 0) 37) [.sl]
 (.chk [] (.inSl (.atom 11) (.ar .add .i64 (.atom 7) (.atom 5)))
 (.load (.elt (.atom 11) (.ar .add .i64 (.atom 7) (.atom 5)) 1) [.int .i64]
 (.call (.fn 160) [.sc (.atom 0),.sc (.atom 2),.sc (.atom 12)] (.tu []) []
 (.next 3 [(.ar .add .i64 (.atom 8) (.int .i64 1))])))))))
 (.ite (.cmp .lss (.ar .add .i64 (.atom 7) (.atom 5)) (.int .i64 0))
 (.next 11 [.bool true])
 (.load (.padd (.padd (.atom 0) 0) 37) [.sl]
 (.next 11 [(.cmp .geq (.ar .add .i64 (.atom 7) (.atom 5)) (.len (.atom 10)))]))))
 (.ite (.cmp .eql (.atom 1) (.int .i64 28))
 (.call (.fn 160) [.sc (.atom 0),.sc (.atom 2),(.sc (.ar .add .i64 (.atom 8) (.int .i64 1)))] (.tu []) []
 (.load (.padd (.padd (.atom 0) 0) 4) [.int .i64]
 (.next 3 [(.ar .add .i64 (.atom 10) (.atom 5))])))
 (.ite (.cmp .eql (.atom 1) (.int .i64 29))
 (.call (.fn 160) [.sc (.atom 0),.sc (.atom 2),(.sc (.ar .add .i64 (.atom 8) (.int .i64 1)))] (.tu []) []
 (.next 3 [.atom 7]))
 (.ite (.cmp .eql (.atom 1) (.int .i64 30))
 (.join 13 [.int .i64]
 (.call (.fn 160) [.sc (.atom 0),.sc (.atom 2),.sc (.atom 10)] (.tu []) []
 (.next 3 [(.ar .add .i64 (.atom 8) (.int .i64 1))]))
 (.load (.padd (.atom 0) 38) [.str]
 (.ite (.scmp .neq (.atom 10) (.str []))
 (.load (.padd (.atom 0) 38) [.str]
 (.chk [] (.inStr (.atom 11) (.int .i64 0))
 (.load (.padd (.atom 0) 38) [.str]
 (.chk [] (.sub (.slen (.atom 12)) (.int .i64 1) (.slen (.atom 12)))
 (.store (.padd (.atom 0) 38) [(.ssub (.atom 12) (.int .i64 1) (.slen (.atom 12)))]
 (.next 13 [(.conv .i64 (.sidx (.atom 11) (.int .i64 0)))]))))))
 (.next 13 [(.int .i64 (-1))]))))
 (.ite (.cmp .eql (.atom 1) (.int .i64 31))
 (.ite (.pick (.cmp .lss (.atom 6) (.int .i64 0)) (.bool true) (.cmp .gtr (.atom 6) (.int .i64 255)))
 (.leaf (.sc (.int .i64 5)))
 (.load (.padd (.atom 0) 39) [.sl]
 (.sem (.buildSlice 112 1 #[(0,(.tmp 227))]) 112 [(227,(.sc (.conv .u8 (.atom 6))))] (.sc .sl) []
 (.sem (.call ⟨.builtin .append,#[.tmp 225,.tmp 228],#[112,112]⟩) 112 [(225,(.sc (.atom 10))),(228,(.sc (.atom 11)))] (.sc .sl) []
 (.store (.padd (.atom 0) 39) [.atom 12]
 (.next 3 [(.ar .add .i64 (.atom 8) (.int .i64 1))]))))))
 (.call (.fn 163) [.sc (.atom 0),(.ag [.atom 1,.atom 2,.atom 3,.atom 4,.atom 5]),.sc (.atom 6),.sc (.atom 7)] (.sc (.int .i64)) []
 (.call (.fn 160) [.sc (.atom 0),.sc (.atom 2),.sc (.atom 10)] (.tu []) []
 (.next 3 [(.ar .add .i64 (.atom 8) (.int .i64 1))])))))))))))))))
 (.chk [] (.some (.atom 0))
 (.both
 (.sem (.indexAddr 59 (.tmp 17) (.tmp 14)) 0 [(17,(.sc (.padd (.padd (.atom 0) 0) 5))),(14,(.sc (.atom 2)))] (.sc .ptr) []
 (.load (.atom 6) [.int .i64]
 (.sem (.indexAddr 59 (.tmp 25) (.tmp 22)) 0 [(25,(.sc (.padd (.padd (.atom 0) 0) 5))),(22,(.sc (.atom 3)))] (.sc .ptr) [((.atom 6),[.atom 7])]
 (.load (.atom 8) [.int .i64]
 (.next 1 [.atom 7,.atom 9])))))
 (.sem (.indexAddr 59 (.tmp 25) (.tmp 22)) 0 [(25,(.sc (.padd (.padd (.atom 0) 0) 5))),(22,(.sc (.atom 3)))] (.sc .ptr) []
 (.load (.atom 6) [.int .i64]
 (.sem (.indexAddr 59 (.tmp 17) (.tmp 14)) 0 [(17,(.sc (.padd (.padd (.atom 0) 0) 5))),(14,(.sc (.atom 2)))] (.sc .ptr) [((.atom 6),[.atom 7])]
 (.load (.atom 8) [.int .i64]
 (.next 1 [.atom 9,.atom 7]))))))))
theorem zdl:execF Tryz.prog { pub:=[],nojoin:=false } Tryz.f118=z8c:=by kernel_rfl
theorem zhy:callB Tryz.prog 118=true:=by kernel_rfl
theorem zfq:TriOf Tryz.prog 118 Tryz.f118 z8c:=triOf Tryz.func118 zdl
abbrev Z2j:FuncId:=153
def zlw:Fm VE:=
 (.loop 4 [.bool,.sl,.int .i64,.int .i64,.int .i64,.str,.sl] [.bool false,(.nil 1),.int .i64 0,.int .i64 0,.int .i64 0,(.str []),(.nil 1)]
 (.ite (.cmp .lss (.atom 3) (.len (.atom 0)))
 (.chk [] (.inSl (.atom 0) (.atom 3))
 (.load (.elt (.atom 0) (.atom 3) 1) [.int .i64]
 (.call (.fn 102) [(.sc (.ar .shr .i64 (.atom 8) (.int .u64 3)))] (.tu [(true,[.int .i64,.int .i64,.str,.sl]),(false,[.bool])]) []
 (.ite (.pick (.pick (.cmp .neq (.ar .and .i64 (.atom 8) (.int .i64 7)) (.int .i64 2)) (.bool true) (.not (.atom 13))) (.bool true) (.cmp .neq (.atom 9) (.int .i64 2)))
 (.leaf (.tu [(true,[.int .i64 0,.int .i64 0,(.str []),(.nil 1)]),(false,[.bool false])]))
 (.sem (.buildSlice 112 1 #[(0,(.tmp 37))]) 112 [(37,(.sc (.conv .u8 (.atom 10))))] (.sc .sl) []
 (.sem (.call ⟨.builtin .append,#[.tmp 34,.tmp 38],#[112,112]⟩) 112 [(34,(.sc (.atom 2))),(38,(.sc (.atom 14)))] (.sc .sl) []
 (.next 4 [.atom 1,.atom 15,(.ar .add .i64 (.atom 3) (.int .i64 1)),.atom 4,.atom 5,.atom 6,.atom 7])))))))
 (.sem (.convert 112 9 (.tmp 41)) 9 [(41,(.sc (.atom 2)))] (.sc .str) []
 (.leaf (.tu [(true,[.int .i64 3,.int .i64 0,.atom 8,(.nil 1)]),(false,[.bool true])])))))
theorem zrz:execF Tryz.prog { pub:=[],nojoin:=false } Tryz.f153=zlw:=by kernel_rfl
theorem Z0r:callB Tryz.prog 153=true:=by kernel_rfl
theorem zyl:TriOf Tryz.prog 153 Tryz.f153 zlw:=triOf Tryz.func153 zrz
abbrev zop:FuncId:=156
def zl8:Fm VE:=
 (.join 2 [.bool]
 (.ite (.atom 1)
 (.leaf (.sc (.int .i64 0)))
 (.ite (.pick (.cmp .geq (.atom 0) (.int .i64 1)) (.cmp .leq (.atom 0) (.int .i64 14)) (.bool false))
 (.leaf (.sc (.int .i64 1)))
 (.join 4 [.bool]
 (.ite (.atom 2)
 (.leaf (.sc (.int .i64 2)))
 (.ite (.pick (.cmp .eql (.atom 0) (.int .i64 20)) (.cmp .eql (.atom 0) (.int .i64 20)) (.cmp .eql (.atom 0) (.int .i64 21)))
 (.leaf (.sc (.int .i64 3)))
 (.ite (.pick (.cmp .geq (.atom 0) (.int .i64 24)) (.cmp .leq (.atom 0) (.int .i64 27)) (.bool false))
 (.leaf (.sc (.int .i64 4)))
 (.ite (.cmp .eql (.atom 0) (.int .i64 28))
 (.leaf (.sc (.int .i64 5)))
 (.ite (.cmp .eql (.atom 0) (.int .i64 29))
 (.leaf (.sc (.int .i64 6)))
 (.leaf (.sc (.int .i64 7))))))))
 (.ite (.pick (.cmp .geq (.atom 0) (.int .i64 15)) (.cmp .leq (.atom 0) (.int .i64 19)) (.bool false))
 (.next 4 [(.pick (.cmp .geq (.atom 0) (.int .i64 15)) (.cmp .leq (.atom 0) (.int .i64 19)) (.bool false))])
 (.next 4 [(.pick (.cmp .eql (.atom 0) (.int .i64 22)) (.cmp .eql (.atom 0) (.int .i64 22)) (.cmp .eql (.atom 0) (.int .i64 23)))])))))
 (.ite (.cmp .eql (.atom 0) (.int .i64 0))
 (.next 2 [(.cmp .eql (.atom 0) (.int .i64 0))])
 (.next 2 [(.pick (.cmp .eql (.atom 0) (.int .i64 30)) (.cmp .eql (.atom 0) (.int .i64 30)) (.cmp .eql (.atom 0) (.int .i64 31)))])))
theorem ztn:execF Tryz.prog { pub:=[],nojoin:=false } Tryz.f156=zl8:=by kernel_rfl
theorem z8r:callB Tryz.prog 156=true:=by kernel_rfl
theorem zxr:TriOf Tryz.prog 156 Tryz.f156 zl8:=triOf Tryz.func156 ztn
abbrev zp0:FuncId:=157
def zm0:Fm VE:=
 (.join 3 [.bool]
 (.ite (.atom 1)
 (.leaf (.tu [(false,[.int .i64 0]),(false,[.int .i64 65535])]))
 (.ite (.pick (.cmp .eql (.atom 0) (.int .i64 18)) (.cmp .eql (.atom 0) (.int .i64 18)) (.cmp .eql (.atom 0) (.int .i64 19)))
 (.leaf (.tu [(false,[.int .i64 0]),(false,[.int .i64 63])]))
 (.call (.fn 156) [.sc (.atom 0)] (.sc (.int .i64)) []
 (.ite (.pick (.cmp .eql (.atom 2) (.int .i64 2)) (.cmp .eql (.atom 2) (.int .i64 2)) (.cmp .eql (.atom 2) (.int .i64 3)))
 (.leaf (.tu [(false,[(.int .i64 (-32768))]),(false,[.int .i64 32767])]))
 (.ite (.cmp .eql (.atom 2) (.int .i64 4))
 (.leaf (.tu [(false,[(.int .i64 (-512))]),(false,[.int .i64 511])]))
 (.ite (.cmp .eql (.atom 2) (.int .i64 5))
 (.leaf (.tu [(false,[(.int .i64 (-1048576))]),(false,[.int .i64 1048575])]))
 (.leaf (.tu [(false,[.int .i64 0]),(false,[.int .i64 0])]))))))))
 (.ite (.cmp .eql (.atom 0) (.int .i64 16))
 (.next 3 [(.cmp .eql (.atom 0) (.int .i64 16))])
 (.next 3 [(.pick (.cmp .eql (.atom 0) (.int .i64 17)) (.cmp .eql (.atom 0) (.int .i64 17)) (.cmp .eql (.atom 0) (.int .i64 21)))])))
theorem zre:execF Tryz.prog { pub:=[],nojoin:=false } Tryz.f157=zm0:=by kernel_rfl
theorem zn1:callB Tryz.prog 157=true:=by kernel_rfl
theorem zy0:TriOf Tryz.prog 157 Tryz.f157 zm0:=triOf Tryz.func157 zre
abbrev Z1j:FuncId:=158
def zk1:Fm VE:=
 (.leaf (.sc (.pick (.cmp .geq (.atom 0) (.int .i64 0)) (.cmp .lss (.atom 0) (.int .i64 32)) (.bool false))))
theorem zpl:execF Tryz.prog { pub:=[],nojoin:=false } Tryz.f158=zk1:=by kernel_rfl
theorem zbh:callB Tryz.prog 158=true:=by kernel_rfl
theorem zut:TriOf Tryz.prog 158 Tryz.f158 zk1:=triOf Tryz.func158 zpl
abbrev zx5:FuncId:=159
def zhh:Fm VE:=
 (.chk [] (.nneg (.ar .sub .i64 (.int .i64 32) (.atom 1)))
 (.chk [] (.nneg (.ar .sub .i64 (.int .i64 32) (.atom 1)))
 (.leaf (.sc (.conv .i64 (.ar .shr .i32 (.conv .i32 (.ar .shl .u32 (.atom 0) (.ar .sub .i64 (.int .i64 32) (.atom 1)))) (.ar .sub .i64 (.int .i64 32) (.atom 1))))))))
theorem znz:execF Tryz.prog { pub:=[],nojoin:=false } Tryz.f159=zhh:=by kernel_rfl
theorem za1:callB Tryz.prog 159=true:=by kernel_rfl
theorem zr9:TriOf Tryz.prog 159 Tryz.f159 zhh:=triOf Tryz.func159 znz
abbrev z9q:FuncId:=160
def z9a:Fm VE:=
 (.ite (.cmp .neq (.atom 1) (.int .i64 0))
 (.chk [] (.some (.atom 0))
 (.sem (.indexAddr 59 (.tmp 13) (.tmp 9)) 0 [(13,(.sc (.padd (.padd (.atom 0) 0) 5))),(9,(.sc (.atom 1)))] (.sc .ptr) []
 (.store (.atom 3) [.atom 2]
 (.leaf (.tu [])))))
 (.leaf (.tu [])))
theorem zey:execF Tryz.prog { pub:=[],nojoin:=false } Tryz.f160=z9a:=by kernel_rfl
theorem z1v:callB Tryz.prog 160=true:=by kernel_rfl
theorem zhz:TriOf Tryz.prog 160 Tryz.f160 z9a:=triOf Tryz.func160 zey
abbrev zy4:FuncId:=161
def zh9:Fm VE:=
 (.ite (.cmp .eql (.atom 0) (.int .i64 1))
 (.leaf (.sc (.ar .add .i64 (.atom 1) (.atom 2))))
 (.ite (.cmp .eql (.atom 0) (.int .i64 2))
 (.leaf (.sc (.ar .sub .i64 (.atom 1) (.atom 2))))
 (.ite (.cmp .eql (.atom 0) (.int .i64 3))
 (.leaf (.sc (.ar .mul .i64 (.atom 1) (.atom 2))))
 (.ite (.cmp .eql (.atom 0) (.int .i64 4))
 (.call (.fn 197) [.sc (.atom 1),.sc (.atom 2)] (.sc (.int .i64)) []
 (.leaf (.sc (.atom 3))))
 (.ite (.cmp .eql (.atom 0) (.int .i64 5))
 (.chk [] (.nz (.atom 2))
 (.leaf (.sc (.ar .quo .i64 (.atom 1) (.atom 2)))))
 (.ite (.cmp .eql (.atom 0) (.int .i64 6))
 (.chk [] (.nz (.atom 2))
 (.leaf (.sc (.ar .rem .i64 (.atom 1) (.atom 2)))))
 (.ite (.cmp .eql (.atom 0) (.int .i64 7))
 (.leaf (.sc (.ar .and .i64 (.atom 1) (.atom 2))))
 (.ite (.cmp .eql (.atom 0) (.int .i64 8))
 (.leaf (.sc (.ar .or .i64 (.atom 1) (.atom 2))))
 (.ite (.cmp .eql (.atom 0) (.int .i64 9))
 (.leaf (.sc (.ar .xor .i64 (.atom 1) (.atom 2))))
 (.ite (.cmp .eql (.atom 0) (.int .i64 10))
 (.chk [] (.nneg (.ar .and .u64 (.conv .u64 (.atom 2)) (.int .u64 63)))
 (.leaf (.sc (.ar .shl .i64 (.atom 1) (.ar .and .u64 (.conv .u64 (.atom 2)) (.int .u64 63))))))
 (.ite (.cmp .eql (.atom 0) (.int .i64 11))
 (.chk [] (.nneg (.ar .and .u64 (.conv .u64 (.atom 2)) (.int .u64 63)))
 (.leaf (.sc (.ar .shr .i64 (.atom 1) (.ar .and .u64 (.conv .u64 (.atom 2)) (.int .u64 63))))))
 (.ite (.cmp .eql (.atom 0) (.int .i64 12))
 (.chk [] (.nneg (.ar .and .u64 (.conv .u64 (.atom 2)) (.int .u64 63)))
 (.leaf (.sc (.conv .i64 (.ar .shr .u64 (.conv .u64 (.atom 1)) (.ar .and .u64 (.conv .u64 (.atom 2)) (.int .u64 63)))))))
 (.ite (.cmp .eql (.atom 0) (.int .i64 13))
 (.call (.fn 198) [(.sc (.cmp .lss (.atom 1) (.atom 2)))] (.sc (.int .i64)) []
 (.leaf (.sc (.atom 3))))
 (.call (.fn 198) [(.sc (.cmp .lss (.conv .u64 (.atom 1)) (.conv .u64 (.atom 2))))] (.sc (.int .i64)) []
 (.leaf (.sc (.atom 3)))))))))))))))))
theorem zo7:execF Tryz.prog { pub:=[],nojoin:=false } Tryz.f161=zh9:=by kernel_rfl
theorem zuk:callB Tryz.prog 161=true:=by kernel_rfl
theorem zrw:TriOf Tryz.prog 161 Tryz.f161 zh9:=triOf Tryz.func161 zo7
abbrev Z07:FuncId:=162
def zjz:Fm VE:=
 (.ite (.cmp .eql (.atom 0) (.int .i64 24))
 (.leaf (.sc (.cmp .eql (.atom 1) (.atom 2))))
 (.ite (.cmp .eql (.atom 0) (.int .i64 25))
 (.leaf (.sc (.cmp .neq (.atom 1) (.atom 2))))
 (.ite (.cmp .eql (.atom 0) (.int .i64 26))
 (.leaf (.sc (.cmp .lss (.atom 1) (.atom 2))))
 (.leaf (.sc (.cmp .geq (.atom 1) (.atom 2)))))))
theorem zpj:execF Tryz.prog { pub:=[],nojoin:=false } Tryz.f162=zjz:=by kernel_rfl
theorem zx6:callB Tryz.prog 162=true:=by kernel_rfl
theorem zu9:TriOf Tryz.prog 162 Tryz.f162 zjz:=triOf Tryz.func162 zpj
abbrev zfu:FuncId:=163
def z6a:Fm VE:=
 (.ite (.cmp .eql (.atom 1) (.int .i64 15))
 (.leaf (.sc (.ar .add .i64 (.atom 7) (.atom 5))))
 (.ite (.cmp .eql (.atom 1) (.int .i64 16))
 (.leaf (.sc (.ar .and .i64 (.atom 7) (.atom 5))))
 (.ite (.cmp .eql (.atom 1) (.int .i64 17))
 (.leaf (.sc (.ar .or .i64 (.atom 7) (.atom 5))))
 (.ite (.cmp .eql (.atom 1) (.int .i64 18))
 (.leaf (.sc (.ar .shl .i64 (.atom 7) (.conv .u64 (.atom 5)))))
 (.ite (.cmp .eql (.atom 1) (.int .i64 19))
 (.leaf (.sc (.ar .shr .i64 (.atom 7) (.conv .u64 (.atom 5)))))
 (.ite (.cmp .eql (.atom 1) (.int .i64 21))
 (.leaf (.sc (.ar .or .i64 (.ar .shl .i64 (.atom 6) (.int .u64 16)) (.atom 5))))
 (.leaf (.sc (.atom 5)))))))))
theorem zbj:execF Tryz.prog { pub:=[],nojoin:=false } Tryz.f163=z6a:=by kernel_rfl
theorem zen:callB Tryz.prog 163=true:=by kernel_rfl
theorem zd6:TriOf Tryz.prog 163 Tryz.f163 z6a:=triOf Tryz.func163 zbj
abbrev Z2k:FuncId:=197
def zl5:Fm VE:=
 (.call (.fn 206) [(.sc (.conv .u64 (.atom 0))),(.sc (.conv .u64 (.atom 1)))] (.tu [(false,[.int .u64]),(false,[.int .u64])]) []
 (.leaf (.sc (.conv .i64 (.pick (.cmp .lss (.atom 1) (.int .i64 0)) (.ar .sub .u64 (.pick (.cmp .lss (.atom 0) (.int .i64 0)) (.ar .sub .u64 (.atom 2) (.conv .u64 (.atom 1))) (.atom 2)) (.conv .u64 (.atom 0))) (.pick (.cmp .lss (.atom 0) (.int .i64 0)) (.ar .sub .u64 (.atom 2) (.conv .u64 (.atom 1))) (.atom 2)))))))
theorem zsv:execF Tryz.prog { pub:=[],nojoin:=false } Tryz.f197=zl5:=by kernel_rfl
theorem Z23:callB Tryz.prog 197=true:=by kernel_rfl
theorem zy5:TriOf Tryz.prog 197 Tryz.f197 zl5:=triOf Tryz.func197 zsv
abbrev Z7w:FuncId:=198
def zod:Fm VE:=
 (.ite (.atom 0)
 (.leaf (.sc (.int .i64 1)))
 (.leaf (.sc (.int .i64 0))))
theorem zv7:execF Tryz.prog { pub:=[],nojoin:=false } Tryz.f198=zod:=by kernel_rfl
theorem zom:callB Tryz.prog 198=true:=by kernel_rfl
theorem Z0q:TriOf Tryz.prog 198 Tryz.f198 zod:=triOf Tryz.func198 zv7
abbrev Z6f:FuncId:=14
def zow:Fm VE:=
 (.call (.fn 38) [(.ag [.atom 0])] (.sc (.int .i64)) []
 (.ite (.cmp .neq (.atom 1) (.int .i64 0))
 (.leaf (.tu [(false,[.int .i64 0]),(false,[.atom 1])]))
 (.loop 7 [.int .i64,.int .i64] [.int .i64 0,.int .i64 0]
 (.ite (.cmp .lss (.atom 3) (.len (.atom 0)))
 (.chk [] (.inSl (.atom 0) (.atom 3))
 (.load (.elt (.atom 0) (.atom 3) 4) [.int .i64,.int .i64,.int .i64,.sl]
 (.call (.fn 39) [(.ag [.atom 4,.atom 5,.atom 6,.atom 7])] (.sc .ptr) []
 (.call (.fn 40) [.sc (.atom 8)] (.sc (.int .i64)) []
 (.next 7 [(.pick (.cmp .gtr (.atom 9) (.atom 2)) (.atom 9) (.atom 2)),(.ar .add .i64 (.atom 3) (.int .i64 1))])))))
 (.leaf (.tu [(false,[(.ar .add .i64 (.atom 2) (.int .i64 2))]),(false,[.int .i64 0])]))))))
theorem zur:execF Tryz.prog { pub:=[],nojoin:=false } Tryz.f14=zow:=by kernel_rfl
theorem Z2a:callB Tryz.prog 14=true:=by kernel_rfl
theorem Z06:TriOf Tryz.prog 14 Tryz.f14 zow:=triOf Tryz.func14 zur
abbrev zwb:FuncId:=15
def zrc:Fm VE:=
 (.call (.fn 14) [(.ag [.atom 0])] (.tu [(false,[.int .i64]),(false,[.int .i64])]) []
 (.ite (.cmp .neq (.atom 3) (.int .i64 0))
 (.leaf (.tu [(false,[(.nil 1)]),(false,[(.nil 1)]),(false,[.atom 3])]))
 (.ite (.pick (.cmp .lss (.atom 1) (.atom 2)) (.bool true) (.cmp .gtr (.atom 1) (.int .i64 131072)))
 (.leaf (.tu [(false,[(.nil 1)]),(false,[(.nil 1)]),(false,[.int .i64 250])]))
 (.call (.fn 41) [(.ag [.atom 0])] (.sc .sl) []
 (.new 100 [(.nil 1),.atom 4,(.nil 1),.int .i64 10000,.atom 1]
 (.loop 9 [.int .i64] [.int .i64 0]
 (.ite (.cmp .lss (.atom 6) (.len (.atom 0)))
 (.join 12 []
 (.next 9 [(.ar .add .i64 (.atom 6) (.int .i64 1))])
 (.chk [] (.some (.atom 5))
 (.load (.padd (.atom 5) 2) [.sl]
 (.call (.fn 42) [.sc (.atom 5)] (.sc (.int .i64)) [((.padd (.atom 5) 2),[.atom 7])]
 (.sem (.buildSlice 29 1 #[(0,(.tmp 45))]) 29 [(45,(.sc (.atom 8)))] (.sc .sl) [((.padd (.atom 5) 2),[.atom 7])]
 (.sem (.call ⟨.builtin .append,#[.tmp 43,.tmp 46],#[29,29]⟩) 29 [(43,(.sc (.atom 7))),(46,(.sc (.atom 9)))] (.sc .sl) []
 (.store (.padd (.atom 5) 2) [.atom 10]
 (.ite (.cmp .eql (.atom 6) (.int .i64 0))
 (.load (.padd (.atom 5) 2) [.sl]
 (.chk [] (.inSl (.atom 11) (.int .i64 0))
 (.store (.elt (.atom 11) (.int .i64 0) 1) [.int .i64 10]
 (.next 12 []))))
 (.next 12 [])))))))))
 (.loop 14 [.sl,.sl,.int .i64,.int .i64] [(.nil 1),(.nil 1),.int .i64 0,.int .i64 0]
 (.ite (.cmp .lss (.atom 10) (.len (.atom 0)))
 (.chk [] (.inSl (.atom 0) (.atom 10))
 (.load (.elt (.atom 0) (.atom 10) 4) [.int .i64,.int .i64,.int .i64,.sl]
 (.chk [] (.some (.atom 5))
 (.load (.padd (.atom 5) 2) [.sl]
 (.chk [] (.inSl (.atom 15) (.atom 10))
 (.load (.elt (.atom 15) (.atom 10) 1) [.int .i64]
 (.call (.fn 43) [.sc (.atom 5),(.ag [.atom 11,.atom 12,.atom 13,.atom 14]),.sc (.atom 16)] (.tu []) []
 (.load (.padd (.padd (.atom 5) 0) 0) [.sl]
 (.ite (.cmp .gtr (.len (.atom 17)) (.int .i64 64536))
 (.leaf (.tu [(false,[(.nil 1)]),(false,[(.nil 1)]),(false,[.int .i64 151])]))
 (.next 14 [.atom 7,.atom 8,.atom 9,(.ar .add .i64 (.atom 10) (.int .i64 1))]))))))))))
 (.chk [] (.some (.atom 5))
 (.load (.padd (.padd (.atom 5) 0) 0) [.sl]
 (.load (.padd (.atom 5) 1) [.sl]
 (.call (.fn 44) [.sc (.atom 12)] (.sc .sl) [((.padd (.padd (.atom 5) 0) 0),[.atom 11])]
 (.leaf (.tu [(false,[.atom 11]),(false,[.atom 13]),(false,[.int .i64 0])])))))))))))))))
theorem zy3:execF Tryz.prog { pub:=[32],nojoin:=false } Tryz.f15=zrc:=by kernel_rfl
theorem Z61:callB Tryz.prog 15=true:=by kernel_rfl
theorem Z44:TriOf Tryz.prog 15 Tryz.f15 zrc:=triOf Tryz.func15 zy3
abbrev Z86:FuncId:=17
def zri:Fm VE:=
 (.new 98 [(.nil 1)]
 (.call (.fn 46) [.sc (.atom 0)] (.tu []) []
 (.call (.fn 47) [.sc (.atom 0)] (.tu []) []
 (.call (.fn 48) [.sc (.atom 0)] (.tu []) []
 (.call (.fn 49) [.sc (.atom 0)] (.tu []) []
 (.call (.fn 50) [.sc (.atom 0)] (.tu []) []
 (.loop 9 [.int .i64] [.int .i64 80]
 (.ite (.cmp .leq (.atom 1) (.int .i64 95))
 (.call (.fn 52) [.sc (.atom 1)] (.sc (.int .i64)) []
 (.call (.fn 51) [.sc (.atom 0),.sc (.atom 2)] (.tu []) []
 (.call (.fn 53) [.sc (.atom 0),.sc (.int .i64 26),.sc (.atom 1)] (.tu []) []
 (.next 9 [(.ar .add .i64 (.atom 1) (.int .i64 1))]))))
 (.chk [] (.some (.atom 0))
 (.load (.padd (.atom 0) 0) [.sl]
 (.leaf (.sc (.atom 2)))))))))))))
theorem zye:execF Tryz.prog { pub:=[4],nojoin:=false } Tryz.f17=zri:=by kernel_rfl
theorem Z6e:callB Tryz.prog 17=true:=by kernel_rfl
theorem Z41:TriOf Tryz.prog 17 Tryz.f17 zri:=triOf Tryz.func17 zye
abbrev Z9h:FuncId:=18
def zrk:Fm VE:=
 (.new 98 [(.nil 1)]
 (.call (.fn 51) [.sc (.atom 0),.sc (.int .i64 1)] (.tu []) []
 (.loop 5 [.int .i64] [.int .i64 1]
 (.ite (.cmp .leq (.atom 1) (.int .i64 25))
 (.call (.fn 54) [.sc (.atom 0),.sc (.atom 1),.sc (.int .i64 0),(.sc (.ar .sub .i64 (.ar .add .i64 (.int .i64 0) (.atom 1)) (.int .i64 1)))] (.tu []) []
 (.next 5 [(.ar .add .i64 (.atom 1) (.int .i64 1))]))
 (.call (.fn 55) [.sc (.atom 0),.sc (.int .i64 1),.sc (.int .i64 0),.sc (.int .i64 30)] (.tu []) []
 (.call (.fn 56) [.sc (.atom 0),.sc (.int .i64 2),.sc (.int .i64 1)] (.tu []) []
 (.call (.fn 57) [.sc (.atom 0),.sc (.int .i64 3),.sc (.int .i64 0)] (.tu []) []
 (.call (.fn 57) [.sc (.atom 0),.sc (.int .i64 4),.sc (.int .i64 27)] (.tu []) []
 (.call (.fn 58) [.sc (.atom 0),.sc (.int .i64 5),.sc (.int .i64 1003)] (.tu []) []
 (.call (.fn 57) [.sc (.atom 0),.sc (.int .i64 3),.sc (.int .i64 32)] (.tu []) []
 (.call (.fn 56) [.sc (.atom 0),.sc (.int .i64 4),.sc (.int .i64 30)] (.tu []) []
 (.call (.fn 58) [.sc (.atom 0),.sc (.int .i64 5),.sc (.int .i64 1003)] (.tu []) []
 (.call (.fn 51) [.sc (.atom 0),.sc (.int .i64 1000)] (.tu []) []
 (.call (.fn 59) [.sc (.atom 0),.sc (.int .i64 27),.sc (.int .i64 2),.sc (.int .i64 1),.sc (.int .i64 1001)] (.tu []) []
 (.call (.fn 56) [.sc (.atom 0),.sc (.int .i64 3),.sc (.int .i64 2)] (.tu []) []
 (.call (.fn 56) [.sc (.atom 0),.sc (.int .i64 4),.sc (.int .i64 1)] (.tu []) []
 (.call (.fn 56) [.sc (.atom 0),.sc (.int .i64 2),.sc (.int .i64 1)] (.tu []) []
 (.call (.fn 58) [.sc (.atom 0),.sc (.int .i64 5),.sc (.int .i64 1003)] (.tu []) []
 (.call (.fn 60) [.sc (.atom 0),.sc (.int .i64 1000)] (.tu []) []
 (.call (.fn 51) [.sc (.atom 0),.sc (.int .i64 1001)] (.tu []) []
 (.call (.fn 61) [.sc (.atom 0),.sc (.int .i64 28),.sc (.int .i64 30)] (.tu []) []
 (.call (.fn 61) [.sc (.atom 0),.sc (.int .i64 29),.sc (.int .i64 31)] (.tu []) []
 (.call (.fn 56) [.sc (.atom 0),.sc (.int .i64 29),.sc (.int .i64 1)] (.tu []) []
 (.call (.fn 62) [.sc (.atom 0),.sc (.int .i64 1),.sc (.int .i64 3),.sc (.int .i64 1),.sc (.int .i64 26)] (.tu []) []
 (.call (.fn 55) [.sc (.atom 0),.sc (.int .i64 4),.sc (.int .i64 0),.sc (.int .i64 29)] (.tu []) []
 (.call (.fn 59) [.sc (.atom 0),.sc (.int .i64 26),.sc (.int .i64 4),.sc (.int .i64 3),.sc (.int .i64 1002)] (.tu []) []
 (.loop 32 [.int .i64] [.int .i64 1]
 (.ite (.cmp .leq (.atom 2) (.int .i64 25))
 (.call (.fn 55) [.sc (.atom 0),.sc (.atom 2),.sc (.int .i64 0),(.sc (.ar .sub .i64 (.ar .add .i64 (.int .i64 0) (.atom 2)) (.int .i64 1)))] (.tu []) []
 (.next 32 [(.ar .add .i64 (.atom 2) (.int .i64 1))]))
 (.call (.fn 63) [.sc (.atom 0),.sc (.int .i64 31)] (.tu []) []
 (.call (.fn 51) [.sc (.atom 0),.sc (.int .i64 1002)] (.tu []) []
 (.call (.fn 53) [.sc (.atom 0),.sc (.int .i64 26),.sc (.int .i64 95)] (.tu []) []
 (.call (.fn 64) [.sc (.atom 0)] (.tu []) []
 (.chk [] (.some (.atom 0))
 (.load (.padd (.atom 0) 0) [.sl]
 (.leaf (.sc (.atom 3)))))))))))))))))))))))))))))))))))))
theorem zx9:execF Tryz.prog { pub:=[5],nojoin:=false } Tryz.f18=zrk:=by kernel_rfl
theorem Z6n:callB Tryz.prog 18=true:=by kernel_rfl
theorem Z49:TriOf Tryz.prog 18 Tryz.f18 zrk:=triOf Tryz.func18 zx9
abbrev Z5x:FuncId:=38
def zp6:Fm VE:=
 (.loop 4 [.int .i64,.int .i64,.int .i64] [.int .i64 0,.int .i64 0,.int .i64 0]
 (.ite (.cmp .lss (.atom 3) (.len (.atom 0)))
 (.chk [] (.inSl (.atom 0) (.atom 3))
 (.load (.elt (.atom 0) (.atom 3) 4) [.int .i64,.int .i64,.int .i64,.sl]
 (.join 9 [.int .i64]
 (.ite (.pick (.cmp .gtr (.atom 6) (.int .i64 2000)) (.bool true) (.cmp .gtr (.atom 8) (.int .i64 4096)))
 (.leaf (.sc (.int .i64 151)))
 (.next 4 [.atom 1,.atom 8,(.ar .add .i64 (.atom 3) (.int .i64 1))]))
 (.loop 11 [.int .i64,.int .i64] [.atom 2,.int .i64 0]
 (.ite (.cmp .lss (.atom 9) (.len (.atom 7)))
 (.chk [] (.inSl (.atom 7) (.atom 9))
 (.load (.elt (.atom 7) (.atom 9) 7) [.sl,.int .i64,.int .i64,.sl,.int .i64,.int .i64,.int .i64]
 (.ite (.cmp .gtr (.ar .add .i64 (.atom 8) (.ar .add .i64 (.int .i64 1) (.len (.atom 10)))) (.int .i64 4096))
 (.next 9 [(.ar .add .i64 (.atom 8) (.ar .add .i64 (.int .i64 1) (.len (.atom 10))))])
 (.next 11 [(.ar .add .i64 (.atom 8) (.ar .add .i64 (.int .i64 1) (.len (.atom 10)))),(.ar .add .i64 (.atom 9) (.int .i64 1))]))))
 (.next 9 [.atom 8]))))))
 (.ite (.cmp .gtr (.len (.atom 0)) (.int .i64 300))
 (.leaf (.sc (.int .i64 151)))
 (.join 10 [.bool]
 (.ite (.atom 4)
 (.leaf (.sc (.int .i64 150)))
 (.loop 13 [.int .i64,.int .i64] [.atom 1,.int .i64 0]
 (.ite (.cmp .lss (.atom 6) (.len (.atom 0)))
 (.chk [] (.inSl (.atom 0) (.atom 6))
 (.load (.elt (.atom 0) (.atom 6) 4) [.int .i64,.int .i64,.int .i64,.sl]
 (.call (.fn 80) [(.ag [.atom 0]),(.ag [.atom 7,.atom 8,.atom 9,.atom 10])] (.sc .bool) []
 (.ite (.not (.atom 11))
 (.leaf (.sc (.int .i64 150)))
 (.next 13 [.atom 5,(.ar .add .i64 (.atom 6) (.int .i64 1))])))))
 (.leaf (.sc (.int .i64 0))))))
 (.chk [((.cmp .eql (.len (.atom 0)) (.int .i64 0)),false)] (.inSl (.atom 0) (.int .i64 0))
 (.chk [((.cmp .eql (.len (.atom 0)) (.int .i64 0)),false)] (.some (.elt (.atom 0) (.int .i64 0) 4))
 (.ite (.cmp .eql (.len (.atom 0)) (.int .i64 0))
 (.next 10 [.bool true])
 (.load (.padd (.elt (.atom 0) (.int .i64 0) 4) 0) [.int .i64]
 (.chk [((.cmp .neq (.atom 4) (.int .i64 0)),false)] (.inSl (.atom 0) (.int .i64 0))
 (.chk [((.cmp .neq (.atom 4) (.int .i64 0)),false)] (.some (.elt (.atom 0) (.int .i64 0) 4))
 (.ite (.cmp .neq (.atom 4) (.int .i64 0))
 (.next 10 [.bool true])
 (.load (.padd (.elt (.atom 0) (.int .i64 0) 4) 1) [.int .i64]
 (.next 10 [(.cmp .neq (.atom 5) (.int .i64 0))])))))))))))))
theorem zv9:execF Tryz.prog { pub:=[],nojoin:=false } Tryz.f38=zp6:=by kernel_rfl
theorem zgr:callB Tryz.prog 38=true:=by kernel_rfl
theorem Z13:TriOf Tryz.prog 38 Tryz.f38 zp6:=triOf Tryz.func38 zv9
abbrev zl7:FuncId:=39
def zkj:Fm VE:=
 (.new 142 [(.nil 0),.atom 0,.atom 1,.atom 2,.atom 3,(.nil 1),.int .i64 0,(.nil 1),.int .i64 0]
 (.call (.fn 81) [(.ag [.atom 0,.atom 1,.atom 2,.atom 3]),.sc (.int .i64 24)] (.tu [(false,[.sl]),(false,[.int .i64]),(false,[.int .i64])]) []
 (.chk [] (.some (.atom 4))
 (.store (.padd (.atom 4) 5) [.atom 5]
 (.store (.padd (.atom 4) 6) [.atom 6]
 (.leaf (.sc (.atom 4))))))))
theorem zq4:execF Tryz.prog { pub:=[6],nojoin:=false } Tryz.f39=zkj:=by kernel_rfl
theorem zk4:callB Tryz.prog 39=true:=by kernel_rfl
theorem zhm:TriOf Tryz.prog 39 Tryz.f39 zkj:=triOf Tryz.func39 zq4
abbrev zis:FuncId:=40
def z89:Fm VE:=
 (.chk [] (.some (.atom 0))
 (.load (.padd (.padd (.atom 0) 1) 3) [.sl]
 (.loop 4 [.int .i64,.int .i64] [.int .i64 0,.int .i64 0]
 (.ite (.cmp .lss (.atom 3) (.len (.atom 1)))
 (.join 7 [.int .i64]
 (.next 4 [.atom 4,(.ar .add .i64 (.atom 3) (.int .i64 1))])
 (.chk [] (.inSl (.atom 1) (.atom 3))
 (.load (.elt (.atom 1) (.atom 3) 7) [.sl,.int .i64,.int .i64,.sl,.int .i64,.int .i64,.int .i64]
 (.ite (.pick (.cmp .eql (.atom 5) (.int .i64 4)) (.bool true) (.cmp .eql (.atom 5) (.int .i64 6)))
 (.call (.fn 82) [.sc (.atom 0),.sc (.atom 3)] (.tu [(false,[.sl]),(false,[.bool])]) []
 (.next 7 [(.pick (.cmp .gtr (.ar .add .i64 (.len (.atom 11)) (.int .i64 2)) (.atom 2)) (.ar .add .i64 (.len (.atom 11)) (.int .i64 2)) (.atom 2))]))
 (.next 7 [.atom 2])))))
 (.load (.padd (.atom 0) 6) [.int .i64]
 (.leaf (.sc (.ar .add .i64 (.atom 4) (.atom 2)))))))))
theorem zdv:execF Tryz.prog { pub:=[],nojoin:=false } Tryz.f40=z89:=by kernel_rfl
theorem z8m:callB Tryz.prog 40=true:=by kernel_rfl
theorem zg3:TriOf Tryz.prog 40 Tryz.f40 z89:=triOf Tryz.func40 zdv
abbrev zxj:FuncId:=41
def zig:Fm VE:=
 (.loop 4 [.sl,.int .i64] [(.nil 1),.int .i64 0]
 (.ite (.cmp .lss (.atom 2) (.len (.atom 0)))
 (.chk [] (.inSl (.atom 0) (.atom 2))
 (.load (.elt (.atom 0) (.atom 2) 4) [.int .i64,.int .i64,.int .i64,.sl]
 (.loop 10 [.sl,.int .i64] [.atom 1,.int .i64 0]
 (.ite (.cmp .lss (.atom 8) (.len (.atom 6)))
 (.chk [] (.inSl (.atom 6) (.atom 8))
 (.load (.elt (.atom 6) (.atom 8) 7) [.sl,.int .i64,.int .i64,.sl,.int .i64,.int .i64,.int .i64]
 (.loop 16 [.sl,.int .i64] [.atom 7,.int .i64 0]
 (.ite (.cmp .lss (.atom 17) (.len (.atom 9)))
 (.join 19 [.sl]
 (.next 16 [.atom 18,(.ar .add .i64 (.atom 17) (.int .i64 1))])
 (.chk [] (.inSl (.atom 9) (.atom 17))
 (.load (.elt (.atom 9) (.atom 17) 8) [.str,.int .i64,.sl,.int .i64,.int .i64,.str,.sl,.int .i64]
 (.join 22 [.bool]
 (.ite (.atom 26)
 (.sem (.buildSlice 24 1 #[(0,(.tmp 51))]) 24 [(51,(.sc (.atom 23)))] (.sc .sl) []
 (.sem (.call ⟨.builtin .append,#[.tmp 50,.tmp 52],#[24,24]⟩) 24 [(50,(.sc (.atom 16))),(52,(.sc (.atom 27)))] (.sc .sl) []
 (.next 19 [.atom 28])))
 (.next 19 [.atom 16]))
 (.ite (.pick (.scmp .eql (.atom 18) (.str [99,111,110,115,116])) (.cmp .eql (.atom 21) (.int .i64 4)) (.bool false))
 (.call (.fn 83) [.sc (.atom 16),.sc (.atom 23)] (.sc .bool) []
 (.next 22 [(.not (.atom 26))]))
 (.next 22 [.bool false]))))))
 (.next 10 [.atom 16,(.ar .add .i64 (.atom 8) (.int .i64 1))])))))
 (.next 4 [.atom 7,(.ar .add .i64 (.atom 2) (.int .i64 1))])))))
 (.leaf (.sc (.atom 1)))))
theorem zo3:execF Tryz.prog { pub:=[],nojoin:=false } Tryz.f41=zig:=by kernel_rfl
theorem zvp:callB Tryz.prog 41=true:=by kernel_rfl
theorem zs3:TriOf Tryz.prog 41 Tryz.f41 zig:=triOf Tryz.func41 zo3
abbrev zg1:FuncId:=42
def z66:Fm VE:=
 (.chk [] (.some (.atom 0))
 (.load (.padd (.atom 0) 3) [.int .i64]
 (.store (.padd (.atom 0) 3) [(.ar .add .i64 (.atom 1) (.int .i64 1))]
 (.load (.padd (.atom 0) 3) [.int .i64]
 (.leaf (.sc (.ar .sub .i64 (.atom 2) (.int .i64 1))))))))
theorem zbb:execF Tryz.prog { pub:=[],nojoin:=false } Tryz.f42=z66:=by kernel_rfl
theorem z68:callB Tryz.prog 42=true:=by kernel_rfl
theorem ze3:TriOf Tryz.prog 42 Tryz.f42 z66:=triOf Tryz.func42 zbb
abbrev zbw:FuncId:=43
def z4s:Fm VE:=
 (.call (.fn 39) [(.ag [.atom 1,.atom 2,.atom 3,.atom 4])] (.sc .ptr) []
 (.chk [] (.some (.atom 6))
 (.store (.padd (.atom 6) 0) [.atom 0]
 (.loop 5 [.int .i64] [.int .i64 0]
 (.ite (.cmp .lss (.atom 7) (.len (.atom 4)))
 (.load (.padd (.atom 6) 7) [.sl]
 (.call (.fn 42) [.sc (.atom 0)] (.sc (.int .i64)) [((.padd (.atom 6) 7),[.atom 8])]
 (.sem (.buildSlice 29 1 #[(0,(.tmp 28))]) 29 [(28,(.sc (.atom 9)))] (.sc .sl) [((.padd (.atom 6) 7),[.atom 8])]
 (.sem (.call ⟨.builtin .append,#[.tmp 26,.tmp 29],#[29,29]⟩) 29 [(26,(.sc (.atom 8))),(29,(.sc (.atom 10)))] (.sc .sl) []
 (.store (.padd (.atom 6) 7) [.atom 11]
 (.next 5 [(.ar .add .i64 (.atom 7) (.int .i64 1))]))))))
 (.call (.fn 84) [.sc (.atom 6),.sc (.atom 5)] (.tu []) []
 (.load (.padd (.atom 6) 0) [.ptr]
 (.chk [] (.some (.atom 8))
 (.load (.padd (.atom 6) 7) [.sl]
 (.chk [] (.inSl (.atom 9) (.int .i64 0))
 (.load (.elt (.atom 9) (.int .i64 0) 1) [.int .i64]
 (.call (.fn 60) [(.sc (.padd (.atom 8) 0)),.sc (.atom 10)] (.tu []) []
 (.loop 11 [.int .i64] [.int .i64 0]
 (.ite (.cmp .lss (.atom 11) (.len (.atom 4)))
 (.chk [] (.inSl (.atom 4) (.atom 11))
 (.load (.elt (.atom 4) (.atom 11) 7) [.sl,.int .i64,.int .i64,.sl,.int .i64,.int .i64,.int .i64]
 (.load (.padd (.atom 6) 0) [.ptr]
 (.chk [] (.some (.atom 19))
 (.load (.padd (.atom 6) 7) [.sl]
 (.chk [] (.inSl (.atom 20) (.atom 11))
 (.load (.elt (.atom 20) (.atom 11) 1) [.int .i64]
 (.call (.fn 51) [(.sc (.padd (.atom 19) 0)),.sc (.atom 21)] (.tu []) []
 (.loop 19 [.int .i64] [.int .i64 0]
 (.ite (.cmp .lss (.atom 22) (.len (.atom 12)))
 (.chk [] (.inSl (.atom 12) (.atom 22))
 (.load (.elt (.atom 12) (.atom 22) 8) [.str,.int .i64,.sl,.int .i64,.int .i64,.str,.sl,.int .i64]
 (.call (.fn 85) [.sc (.atom 6),(.ag [.atom 23,.atom 24,.atom 25,.atom 26,.atom 27,.atom 28,.atom 29,.atom 30])] (.tu []) []
 (.next 19 [(.ar .add .i64 (.atom 22) (.int .i64 1))]))))
 (.call (.fn 86) [.sc (.atom 6),.sc (.atom 11),(.ag [.atom 13,.atom 14,.atom 15,.atom 16,.atom 17,.atom 18])] (.tu []) []
 (.next 11 [(.ar .add .i64 (.atom 11) (.int .i64 1))]))))))))))))
 (.leaf (.tu []))))))))))))))))
theorem z9m:execF Tryz.prog { pub:=[],nojoin:=false } Tryz.f43=z4s:=by kernel_rfl
theorem zbl:callB Tryz.prog 43=true:=by kernel_rfl
theorem zb3:TriOf Tryz.prog 43 Tryz.f43 z4s:=triOf Tryz.func43 z9m
abbrev Z7l:FuncId:=46
def zoz:Fm VE:=
 (.call (.fn 51) [.sc (.atom 0),.sc (.int .i64 9)] (.tu []) []
 (.call (.fn 55) [.sc (.atom 0),.sc (.int .i64 29),.sc (.int .i64 0),.sc (.int .i64 28)] (.tu []) []
 (.call (.fn 93) [.sc (.atom 0),.sc (.int .i64 27),.sc (.int .i64 5),.sc (.int .i64 15)] (.tu []) []
 (.call (.fn 54) [.sc (.atom 0),.sc (.int .i64 27),.sc (.int .i64 0),.sc (.int .i64 32)] (.tu []) []
 (.call (.fn 57) [.sc (.atom 0),.sc (.int .i64 30),.sc (.int .i64 33)] (.tu []) []
 (.call (.fn 57) [.sc (.atom 0),.sc (.int .i64 27),.sc (.int .i64 18)] (.tu []) []
 (.call (.fn 54) [.sc (.atom 0),.sc (.int .i64 27),.sc (.int .i64 0),.sc (.int .i64 25)] (.tu []) []
 (.call (.fn 54) [.sc (.atom 0),.sc (.int .i64 27),.sc (.int .i64 0),.sc (.int .i64 26)] (.tu []) []
 (.call (.fn 94) [.sc (.atom 0),.sc (.int .i64 2)] (.tu []) []
 (.call (.fn 95) [.sc (.int .i64 5),.sc (.int .i64 1)] (.sc (.int .i64)) []
 (.call (.fn 57) [.sc (.atom 0),.sc (.int .i64 27),.sc (.atom 1)] (.tu []) []
 (.call (.fn 54) [.sc (.atom 0),.sc (.int .i64 27),.sc (.int .i64 29),.sc (.int .i64 0)] (.tu []) []
 (.call (.fn 93) [.sc (.atom 0),.sc (.int .i64 27),.sc (.int .i64 10),.sc (.int .i64 3)] (.tu []) []
 (.call (.fn 54) [.sc (.atom 0),.sc (.int .i64 27),.sc (.int .i64 29),.sc (.int .i64 1)] (.tu []) []
 (.call (.fn 96) [.sc (.atom 0),.sc (.int .i64 25),.sc (.int .i64 2)] (.tu []) []
 (.call (.fn 57) [.sc (.atom 0),.sc (.int .i64 28),.sc (.int .i64 0)] (.tu []) []
 (.call (.fn 60) [.sc (.atom 0),.sc (.int .i64 10)] (.tu []) []
 (.leaf (.tu [])))))))))))))))))))
theorem zue:execF Tryz.prog { pub:=[],nojoin:=false } Tryz.f46=zoz:=by kernel_rfl
theorem Z3m:callB Tryz.prog 46=true:=by kernel_rfl
theorem zze:TriOf Tryz.prog 46 Tryz.f46 zoz:=triOf Tryz.func46 zue
abbrev Z8n:FuncId:=47
def zse:Fm VE:=
 (.call (.fn 51) [.sc (.atom 0),.sc (.int .i64 2)] (.tu []) []
 (.call (.fn 62) [.sc (.atom 0),.sc (.int .i64 1),.sc (.int .i64 27),.sc (.int .i64 29),.sc (.int .i64 26)] (.tu []) []
 (.call (.fn 55) [.sc (.atom 0),.sc (.int .i64 28),.sc (.int .i64 0),.sc (.int .i64 29)] (.tu []) []
 (.call (.fn 59) [.sc (.atom 0),.sc (.int .i64 26),.sc (.int .i64 28),.sc (.int .i64 27),.sc (.int .i64 1)] (.tu []) []
 (.call (.fn 63) [.sc (.atom 0),.sc (.int .i64 31)] (.tu []) []
 (.call (.fn 51) [.sc (.atom 0),.sc (.int .i64 3)] (.tu []) []
 (.call (.fn 97) [.sc (.atom 0),.sc (.int .i64 16),.sc (.int .i64 26),.sc (.int .i64 25),.sc (.int .i64 7)] (.tu []) []
 (.call (.fn 57) [.sc (.atom 0),.sc (.int .i64 27),.sc (.int .i64 1)] (.tu []) []
 (.call (.fn 52) [.sc (.int .i64 90)] (.sc (.int .i64)) []
 (.call (.fn 59) [.sc (.atom 0),.sc (.int .i64 25),.sc (.int .i64 26),.sc (.int .i64 27),.sc (.atom 1)] (.tu []) []
 (.call (.fn 97) [.sc (.atom 0),.sc (.int .i64 19),.sc (.int .i64 26),.sc (.int .i64 25),.sc (.int .i64 3)] (.tu []) []
 (.call (.fn 55) [.sc (.atom 0),.sc (.int .i64 27),.sc (.int .i64 26),.sc (.int .i64 0)] (.tu []) []
 (.call (.fn 97) [.sc (.atom 0),.sc (.int .i64 19),.sc (.int .i64 27),.sc (.int .i64 27),.sc (.int .i64 3)] (.tu []) []
 (.call (.fn 97) [.sc (.atom 0),.sc (.int .i64 16),.sc (.int .i64 27),.sc (.int .i64 27),.sc (.int .i64 7)] (.tu []) []
 (.call (.fn 57) [.sc (.atom 0),.sc (.int .i64 31),.sc (.int .i64 5)] (.tu []) []
 (.call (.fn 59) [.sc (.atom 0),.sc (.int .i64 24),.sc (.int .i64 27),.sc (.int .i64 31),.sc (.int .i64 2009)] (.tu []) []
 (.call (.fn 57) [.sc (.atom 0),.sc (.int .i64 31),.sc (.int .i64 7)] (.tu []) []
 (.call (.fn 52) [.sc (.int .i64 90)] (.sc (.int .i64)) []
 (.call (.fn 59) [.sc (.atom 0),.sc (.int .i64 25),.sc (.int .i64 27),.sc (.int .i64 31),.sc (.atom 2)] (.tu []) []
 (.call (.fn 51) [.sc (.atom 0),.sc (.int .i64 2009)] (.tu []) []
 (.call (.fn 55) [.sc (.atom 0),.sc (.int .i64 26),.sc (.int .i64 26),.sc (.int .i64 1)] (.tu []) []
 (.call (.fn 97) [.sc (.atom 0),.sc (.int .i64 19),.sc (.int .i64 26),.sc (.int .i64 26),.sc (.int .i64 3)] (.tu []) []
 (.call (.fn 63) [.sc (.atom 0),.sc (.int .i64 26)] (.tu []) []
 (.call (.fn 51) [.sc (.atom 0),.sc (.int .i64 4)] (.tu []) []
 (.call (.fn 55) [.sc (.atom 0),.sc (.int .i64 26),.sc (.int .i64 30),(.sc (.int .i64 (-1)))] (.tu []) []
 (.call (.fn 97) [.sc (.atom 0),.sc (.int .i64 19),.sc (.int .i64 26),.sc (.int .i64 26),.sc (.int .i64 15)] (.tu []) []
 (.call (.fn 63) [.sc (.atom 0),.sc (.int .i64 26)] (.tu []) []
 (.leaf (.tu [])))))))))))))))))))))))))))))
theorem zyd:execF Tryz.prog { pub:=[],nojoin:=false } Tryz.f47=zse:=by kernel_rfl
theorem Z7t:callB Tryz.prog 47=true:=by kernel_rfl
theorem Z2t:TriOf Tryz.prog 47 Tryz.f47 zse:=triOf Tryz.func47 zyd
abbrev Z5r:FuncId:=48
def zpc:Fm VE:=
 (.call (.fn 51) [.sc (.atom 0),.sc (.int .i64 6)] (.tu []) []
 (.call (.fn 57) [.sc (.atom 0),.sc (.int .i64 26),.sc (.int .i64 33)] (.tu []) []
 (.call (.fn 59) [.sc (.atom 0),.sc (.int .i64 25),.sc (.int .i64 26),.sc (.int .i64 30),.sc (.int .i64 2000)] (.tu []) []
 (.call (.fn 63) [.sc (.atom 0),.sc (.int .i64 31)] (.tu []) []
 (.call (.fn 51) [.sc (.atom 0),.sc (.int .i64 2000)] (.tu []) []
 (.call (.fn 54) [.sc (.atom 0),.sc (.int .i64 31),.sc (.int .i64 0),.sc (.int .i64 27)] (.tu []) []
 (.call (.fn 97) [.sc (.atom 0),.sc (.int .i64 15),.sc (.int .i64 26),.sc (.int .i64 30),(.sc (.int .i64 (-33)))] (.tu []) []
 (.call (.fn 97) [.sc (.atom 0),.sc (.int .i64 18),.sc (.int .i64 27),.sc (.int .i64 26),.sc (.int .i64 1)] (.tu []) []
 (.call (.fn 62) [.sc (.atom 0),.sc (.int .i64 1),.sc (.int .i64 26),.sc (.int .i64 26),.sc (.int .i64 27)] (.tu []) []
 (.call (.fn 58) [.sc (.atom 0),.sc (.int .i64 31),.sc (.int .i64 2)] (.tu []) []
 (.call (.fn 55) [.sc (.atom 0),.sc (.int .i64 31),.sc (.int .i64 0),.sc (.int .i64 25)] (.tu []) []
 (.call (.fn 97) [.sc (.atom 0),.sc (.int .i64 18),.sc (.int .i64 27),.sc (.int .i64 29),.sc (.int .i64 3)] (.tu []) []
 (.call (.fn 97) [.sc (.atom 0),.sc (.int .i64 17),.sc (.int .i64 27),.sc (.int .i64 27),.sc (.int .i64 1)] (.tu []) []
 (.call (.fn 54) [.sc (.atom 0),.sc (.int .i64 27),.sc (.int .i64 0),.sc (.int .i64 25)] (.tu []) []
 (.call (.fn 51) [.sc (.atom 0),.sc (.int .i64 2001)] (.tu []) []
 (.call (.fn 98) [.sc (.atom 0)] (.tu []) []
 (.call (.fn 57) [.sc (.atom 0),.sc (.int .i64 27),.sc (.int .i64 33)] (.tu []) []
 (.call (.fn 59) [.sc (.atom 0),.sc (.int .i64 25),.sc (.int .i64 30),.sc (.int .i64 27),.sc (.int .i64 2001)] (.tu []) []
 (.call (.fn 55) [.sc (.atom 0),.sc (.int .i64 31),.sc (.int .i64 0),.sc (.int .i64 27)] (.tu []) []
 (.call (.fn 63) [.sc (.atom 0),.sc (.int .i64 31)] (.tu []) []
 (.leaf (.tu []))))))))))))))))))))))
theorem zuc:execF Tryz.prog { pub:=[],nojoin:=false } Tryz.f48=zpc:=by kernel_rfl
theorem Z4b:callB Tryz.prog 48=true:=by kernel_rfl
theorem Z04:TriOf Tryz.prog 48 Tryz.f48 zpc:=triOf Tryz.func48 zuc
abbrev zvr:FuncId:=49
def zf6:Fm VE:=
 (.call (.fn 51) [.sc (.atom 0),.sc (.int .i64 5)] (.tu []) []
 (.call (.fn 55) [.sc (.atom 0),.sc (.int .i64 26),.sc (.int .i64 0),.sc (.int .i64 25)] (.tu []) []
 (.call (.fn 57) [.sc (.atom 0),.sc (.int .i64 27),.sc (.int .i64 18)] (.tu []) []
 (.call (.fn 59) [.sc (.atom 0),.sc (.int .i64 25),.sc (.int .i64 26),.sc (.int .i64 27),.sc (.int .i64 2007)] (.tu []) []
 (.call (.fn 97) [.sc (.atom 0),.sc (.int .i64 0),.sc (.int .i64 0),.sc (.int .i64 0),.sc (.int .i64 0)] (.tu []) []
 (.call (.fn 51) [.sc (.atom 0),.sc (.int .i64 2007)] (.tu []) []
 (.call (.fn 97) [.sc (.atom 0),.sc (.int .i64 19),.sc (.int .i64 26),.sc (.int .i64 26),.sc (.int .i64 3)] (.tu []) []
 (.call (.fn 55) [.sc (.atom 0),.sc (.int .i64 27),.sc (.int .i64 26),.sc (.int .i64 1)] (.tu []) []
 (.call (.fn 54) [.sc (.atom 0),.sc (.int .i64 27),.sc (.int .i64 0),.sc (.int .i64 25)] (.tu []) []
 (.call (.fn 55) [.sc (.atom 0),.sc (.int .i64 27),.sc (.int .i64 26),.sc (.int .i64 0)] (.tu []) []
 (.call (.fn 97) [.sc (.atom 0),.sc (.int .i64 19),.sc (.int .i64 27),.sc (.int .i64 27),.sc (.int .i64 6)] (.tu []) []
 (.call (.fn 62) [.sc (.atom 0),.sc (.int .i64 1),.sc (.int .i64 27),.sc (.int .i64 27),.sc (.int .i64 26)] (.tu []) []
 (.call (.fn 97) [.sc (.atom 0),.sc (.int .i64 15),.sc (.int .i64 26),.sc (.int .i64 26),.sc (.int .i64 2)] (.tu []) []
 (.call (.fn 57) [.sc (.atom 0),.sc (.int .i64 30),.sc (.int .i64 33)] (.tu []) []
 (.call (.fn 51) [.sc (.atom 0),.sc (.int .i64 2004)] (.tu []) []
 (.call (.fn 59) [.sc (.atom 0),.sc (.int .i64 26),.sc (.int .i64 27),.sc (.int .i64 26),.sc (.int .i64 2008)] (.tu []) []
 (.call (.fn 55) [.sc (.atom 0),.sc (.int .i64 28),.sc (.int .i64 26),.sc (.int .i64 0)] (.tu []) []
 (.call (.fn 54) [.sc (.atom 0),.sc (.int .i64 28),.sc (.int .i64 30),.sc (.int .i64 0)] (.tu []) []
 (.call (.fn 97) [.sc (.atom 0),.sc (.int .i64 15),.sc (.int .i64 26),.sc (.int .i64 26),.sc (.int .i64 1)] (.tu []) []
 (.call (.fn 97) [.sc (.atom 0),.sc (.int .i64 15),.sc (.int .i64 30),.sc (.int .i64 30),.sc (.int .i64 1)] (.tu []) []
 (.call (.fn 60) [.sc (.atom 0),.sc (.int .i64 2004)] (.tu []) []
 (.call (.fn 51) [.sc (.atom 0),.sc (.int .i64 2008)] (.tu []) []
 (.call (.fn 60) [.sc (.atom 0),.sc (.int .i64 4)] (.tu []) []
 (.leaf (.tu [])))))))))))))))))))))))))
theorem zly:execF Tryz.prog { pub:=[],nojoin:=false } Tryz.f49=zf6:=by kernel_rfl
theorem zs0:callB Tryz.prog 49=true:=by kernel_rfl
theorem zph:TriOf Tryz.prog 49 Tryz.f49 zf6:=triOf Tryz.func49 zly
abbrev Z7u:FuncId:=50
def zp9:Fm VE:=
 (.call (.fn 51) [.sc (.atom 0),.sc (.int .i64 7)] (.tu []) []
 (.call (.fn 58) [.sc (.atom 0),.sc (.int .i64 31),.sc (.int .i64 6)] (.tu []) []
 (.call (.fn 94) [.sc (.atom 0),.sc (.int .i64 3)] (.tu []) []
 (.call (.fn 95) [.sc (.int .i64 7),.sc (.int .i64 2)] (.sc (.int .i64)) []
 (.call (.fn 57) [.sc (.atom 0),.sc (.int .i64 27),.sc (.atom 1)] (.tu []) []
 (.call (.fn 54) [.sc (.atom 0),.sc (.int .i64 27),.sc (.int .i64 29),.sc (.int .i64 0)] (.tu []) []
 (.call (.fn 93) [.sc (.atom 0),.sc (.int .i64 27),.sc (.int .i64 8),.sc (.int .i64 3)] (.tu []) []
 (.call (.fn 54) [.sc (.atom 0),.sc (.int .i64 27),.sc (.int .i64 29),.sc (.int .i64 1)] (.tu []) []
 (.call (.fn 55) [.sc (.atom 0),.sc (.int .i64 27),.sc (.int .i64 0),.sc (.int .i64 25)] (.tu []) []
 (.call (.fn 54) [.sc (.atom 0),.sc (.int .i64 27),.sc (.int .i64 29),.sc (.int .i64 2)] (.tu []) []
 (.call (.fn 96) [.sc (.atom 0),.sc (.int .i64 1),.sc (.int .i64 3)] (.tu []) []
 (.call (.fn 57) [.sc (.atom 0),.sc (.int .i64 28),.sc (.int .i64 1)] (.tu []) []
 (.call (.fn 60) [.sc (.atom 0),.sc (.int .i64 3)] (.tu []) []
 (.call (.fn 51) [.sc (.atom 0),.sc (.int .i64 8)] (.tu []) []
 (.call (.fn 57) [.sc (.atom 0),.sc (.int .i64 26),.sc (.int .i64 1)] (.tu []) []
 (.call (.fn 52) [.sc (.int .i64 91)] (.sc (.int .i64)) []
 (.call (.fn 59) [.sc (.atom 0),.sc (.int .i64 25),.sc (.int .i64 26),.sc (.int .i64 28),.sc (.atom 2)] (.tu []) []
 (.call (.fn 97) [.sc (.atom 0),.sc (.int .i64 19),.sc (.int .i64 26),.sc (.int .i64 25),.sc (.int .i64 3)] (.tu []) []
 (.call (.fn 55) [.sc (.atom 0),.sc (.int .i64 27),.sc (.int .i64 26),.sc (.int .i64 2)] (.tu []) []
 (.call (.fn 54) [.sc (.atom 0),.sc (.int .i64 27),.sc (.int .i64 0),.sc (.int .i64 25)] (.tu []) []
 (.call (.fn 57) [.sc (.atom 0),.sc (.int .i64 30),.sc (.int .i64 33)] (.tu []) []
 (.call (.fn 60) [.sc (.atom 0),.sc (.int .i64 4)] (.tu []) []
 (.leaf (.tu []))))))))))))))))))))))))
theorem zuz:execF Tryz.prog { pub:=[],nojoin:=false } Tryz.f50=zp9:=by kernel_rfl
theorem Z2b:callB Tryz.prog 50=true:=by kernel_rfl
theorem zyv:TriOf Tryz.prog 50 Tryz.f50 zp9:=triOf Tryz.func50 zuz
abbrev zi0:FuncId:=51
def z6l:Fm VE:=
 (.call (.fn 99) [.sc (.atom 0),(.ag [.int .i64 1,.int .i64 0,.int .i64 0,.int .i64 0,.int .i64 0,.int .i64 0,.atom 1,.int .i64 0])] (.tu []) []
 (.leaf (.tu [])))
theorem zbx:execF Tryz.prog { pub:=[],nojoin:=false } Tryz.f51=z6l:=by kernel_rfl
theorem z07:callB Tryz.prog 51=true:=by kernel_rfl
theorem zev:TriOf Tryz.prog 51 Tryz.f51 z6l:=triOf Tryz.func51 zbx
abbrev zzd:FuncId:=52
def zk8:Fm VE:=
 (.leaf (.sc (.ar .add .i64 (.int .i64 11) (.ar .sub .i64 (.atom 0) (.int .i64 80)))))
theorem zqj:execF Tryz.prog { pub:=[],nojoin:=false } Tryz.f52=zk8:=by kernel_rfl
theorem z7a:callB Tryz.prog 52=true:=by kernel_rfl
theorem zuq:TriOf Tryz.prog 52 Tryz.f52 zk8:=triOf Tryz.func52 zqj
abbrev zjn:FuncId:=53
def z7s:Fm VE:=
 (.call (.fn 57) [.sc (.atom 0),.sc (.atom 1),.sc (.atom 2)] (.tu []) []
 (.call (.fn 97) [.sc (.atom 0),.sc (.int .i64 0),.sc (.atom 1),.sc (.int .i64 0),.sc (.int .i64 0)] (.tu []) []
 (.leaf (.tu []))))
theorem zcy:execF Tryz.prog { pub:=[],nojoin:=false } Tryz.f53=z7s:=by kernel_rfl
theorem z84:callB Tryz.prog 53=true:=by kernel_rfl
theorem zfy:TriOf Tryz.prog 53 Tryz.f53 z7s:=triOf Tryz.func53 zcy
abbrev z8h:FuncId:=54
def z6y:Fm VE:=
 (.call (.fn 97) [.sc (.atom 0),.sc (.int .i64 23),.sc (.atom 1),.sc (.atom 2),.sc (.atom 3)] (.tu []) []
 (.leaf (.tu [])))
theorem zcg:execF Tryz.prog { pub:=[],nojoin:=false } Tryz.f54=z6y:=by kernel_rfl
theorem z09:callB Tryz.prog 54=true:=by kernel_rfl
theorem zea:TriOf Tryz.prog 54 Tryz.f54 z6y:=triOf Tryz.func54 zcg
abbrev z96:FuncId:=55
def z80:Fm VE:=
 (.call (.fn 97) [.sc (.atom 0),.sc (.int .i64 22),.sc (.atom 1),.sc (.atom 2),.sc (.atom 3)] (.tu []) []
 (.leaf (.tu [])))
theorem ze4:execF Tryz.prog { pub:=[],nojoin:=false } Tryz.f55=z80:=by kernel_rfl
theorem z0a:callB Tryz.prog 55=true:=by kernel_rfl
theorem zgm:TriOf Tryz.prog 55 Tryz.f55 z80:=triOf Tryz.func55 ze4
abbrev zjc:FuncId:=56
def z8f:Fm VE:=
 (.call (.fn 97) [.sc (.atom 0),.sc (.int .i64 15),.sc (.atom 1),.sc (.atom 2),.sc (.int .i64 0)] (.tu []) []
 (.leaf (.tu [])))
theorem zdz:execF Tryz.prog { pub:=[],nojoin:=false } Tryz.f56=z8f:=by kernel_rfl
theorem z0z:callB Tryz.prog 56=true:=by kernel_rfl
theorem zgj:TriOf Tryz.prog 56 Tryz.f56 z8f:=triOf Tryz.func56 zdz
abbrev zfs:FuncId:=57
def z69:Fm VE:=
 (.call (.fn 99) [.sc (.atom 0),(.ag [.int .i64 4,.int .i64 20,.atom 1,.int .i64 0,.int .i64 0,.int .i64 0,.int .i64 0,.atom 2])] (.tu []) []
 (.leaf (.tu [])))
theorem zb6:execF Tryz.prog { pub:=[],nojoin:=false } Tryz.f57=z69:=by kernel_rfl
theorem z08:callB Tryz.prog 57=true:=by kernel_rfl
theorem zdd:TriOf Tryz.prog 57 Tryz.f57 z69:=triOf Tryz.func57 zb6
abbrev zjv:FuncId:=58
def z81:Fm VE:=
 (.call (.fn 99) [.sc (.atom 0),(.ag [.int .i64 3,.int .i64 28,.atom 1,.int .i64 0,.int .i64 0,.int .i64 0,.atom 2,.int .i64 0])] (.tu []) []
 (.leaf (.tu [])))
theorem zcw:execF Tryz.prog { pub:=[],nojoin:=false } Tryz.f58=z81:=by kernel_rfl
theorem z1d:callB Tryz.prog 58=true:=by kernel_rfl
theorem zgu:TriOf Tryz.prog 58 Tryz.f58 z81:=triOf Tryz.func58 zcw
abbrev zm2:FuncId:=59
def z9o:Fm VE:=
 (.call (.fn 99) [.sc (.atom 0),(.ag [.int .i64 2,.atom 1,.atom 2,.atom 3,.int .i64 0,.int .i64 0,.atom 4,.int .i64 0])] (.tu []) []
 (.leaf (.tu [])))
theorem zg6:execF Tryz.prog { pub:=[],nojoin:=false } Tryz.f59=z9o:=by kernel_rfl
theorem z0i:callB Tryz.prog 59=true:=by kernel_rfl
theorem zil:TriOf Tryz.prog 59 Tryz.f59 z9o:=triOf Tryz.func59 zg6
abbrev zjt:FuncId:=60
def z7w:Fm VE:=
 (.call (.fn 58) [.sc (.atom 0),.sc (.int .i64 0),.sc (.atom 1)] (.tu []) []
 (.leaf (.tu [])))
theorem zdn:execF Tryz.prog { pub:=[],nojoin:=false } Tryz.f60=z7w:=by kernel_rfl
theorem z0q:callB Tryz.prog 60=true:=by kernel_rfl
theorem zgp:TriOf Tryz.prog 60 Tryz.f60 z7w:=triOf Tryz.func60 zdn
abbrev Za9:FuncId:=61
def ztf:Fm VE:=
 (.call (.fn 55) [.sc (.atom 0),.sc (.int .i64 3),.sc (.int .i64 0),.sc (.atom 1)] (.tu []) []
 (.call (.fn 55) [.sc (.atom 0),.sc (.int .i64 4),.sc (.int .i64 0),.sc (.atom 2)] (.tu []) []
 (.call (.fn 54) [.sc (.atom 0),.sc (.int .i64 4),.sc (.int .i64 0),.sc (.atom 1)] (.tu []) []
 (.call (.fn 54) [.sc (.atom 0),.sc (.int .i64 3),.sc (.int .i64 0),.sc (.atom 2)] (.tu []) []
 (.leaf (.tu []))))))
theorem zxk:execF Tryz.prog { pub:=[],nojoin:=false } Tryz.f61=ztf:=by kernel_rfl
theorem zrv:callB Tryz.prog 61=true:=by kernel_rfl
theorem Z3v:TriOf Tryz.prog 61 Tryz.f61 ztf:=triOf Tryz.func61 zxk
abbrev zho:FuncId:=62
def z6i:Fm VE:=
 (.call (.fn 99) [.sc (.atom 0),(.ag [.int .i64 0,.atom 1,.atom 2,.atom 3,.atom 4,.int .i64 0,.int .i64 0,.int .i64 0])] (.tu []) []
 (.leaf (.tu [])))
theorem zbv:execF Tryz.prog { pub:=[],nojoin:=false } Tryz.f62=z6i:=by kernel_rfl
theorem z1l:callB Tryz.prog 62=true:=by kernel_rfl
theorem zer:TriOf Tryz.prog 62 Tryz.f62 z6i:=triOf Tryz.func62 zbv
abbrev zjd:FuncId:=63
def z8j:Fm VE:=
 (.call (.fn 97) [.sc (.atom 0),.sc (.int .i64 29),.sc (.int .i64 0),.sc (.atom 1),.sc (.int .i64 0)] (.tu []) []
 (.leaf (.tu [])))
theorem zd7:execF Tryz.prog { pub:=[],nojoin:=false } Tryz.f63=z8j:=by kernel_rfl
theorem z1e:callB Tryz.prog 63=true:=by kernel_rfl
theorem zgo:TriOf Tryz.prog 63 Tryz.f63 z8j:=triOf Tryz.func63 zd7
abbrev Z0v:FuncId:=64
def zkr:Fm VE:=
 (.call (.fn 51) [.sc (.atom 0),.sc (.int .i64 1003)] (.tu []) []
 (.call (.fn 59) [.sc (.atom 0),.sc (.int .i64 27),.sc (.int .i64 3),.sc (.int .i64 4),.sc (.int .i64 1005)] (.tu []) []
 (.call (.fn 55) [.sc (.atom 0),.sc (.int .i64 6),.sc (.int .i64 3),.sc (.int .i64 0)] (.tu []) []
 (.call (.fn 97) [.sc (.atom 0),.sc (.int .i64 16),.sc (.int .i64 7),.sc (.int .i64 6),.sc (.int .i64 7)] (.tu []) []
 (.call (.fn 57) [.sc (.atom 0),.sc (.int .i64 8),.sc (.int .i64 1)] (.tu []) []
 (.call (.fn 59) [.sc (.atom 0),.sc (.int .i64 25),.sc (.int .i64 7),.sc (.int .i64 8),.sc (.int .i64 1004)] (.tu []) []
 (.call (.fn 97) [.sc (.atom 0),.sc (.int .i64 19),.sc (.int .i64 7),.sc (.int .i64 6),.sc (.int .i64 3)] (.tu []) []
 (.call (.fn 55) [.sc (.atom 0),.sc (.int .i64 9),.sc (.int .i64 7),.sc (.int .i64 0)] (.tu []) []
 (.call (.fn 97) [.sc (.atom 0),.sc (.int .i64 16),.sc (.int .i64 10),.sc (.int .i64 9),.sc (.int .i64 7)] (.tu []) []
 (.call (.fn 59) [.sc (.atom 0),.sc (.int .i64 24),.sc (.int .i64 10),.sc (.int .i64 8),.sc (.int .i64 1007)] (.tu []) []
 (.call (.fn 97) [.sc (.atom 0),.sc (.int .i64 19),.sc (.int .i64 10),.sc (.int .i64 9),.sc (.int .i64 6)] (.tu []) []
 (.call (.fn 97) [.sc (.atom 0),.sc (.int .i64 18),.sc (.int .i64 6),.sc (.int .i64 1),.sc (.int .i64 3)] (.tu []) []
 (.call (.fn 97) [.sc (.atom 0),.sc (.int .i64 17),.sc (.int .i64 6),.sc (.int .i64 6),.sc (.int .i64 1)] (.tu []) []
 (.call (.fn 54) [.sc (.atom 0),.sc (.int .i64 9),.sc (.int .i64 1),.sc (.int .i64 0)] (.tu []) []
 (.call (.fn 54) [.sc (.atom 0),.sc (.int .i64 6),.sc (.int .i64 7),.sc (.int .i64 0)] (.tu []) []
 (.call (.fn 54) [.sc (.atom 0),.sc (.int .i64 6),.sc (.int .i64 3),.sc (.int .i64 0)] (.tu []) []
 (.call (.fn 97) [.sc (.atom 0),.sc (.int .i64 15),.sc (.int .i64 1),.sc (.int .i64 1),.sc (.int .i64 1)] (.tu []) []
 (.call (.fn 51) [.sc (.atom 0),.sc (.int .i64 1006)] (.tu []) []
 (.call (.fn 59) [.sc (.atom 0),.sc (.int .i64 24),.sc (.int .i64 10),.sc (.int .i64 0),.sc (.int .i64 1004)] (.tu []) []
 (.call (.fn 97) [.sc (.atom 0),.sc (.int .i64 15),.sc (.int .i64 7),.sc (.int .i64 7),.sc (.int .i64 1)] (.tu []) []
 (.call (.fn 55) [.sc (.atom 0),.sc (.int .i64 9),.sc (.int .i64 7),.sc (.int .i64 0)] (.tu []) []
 (.call (.fn 54) [.sc (.atom 0),.sc (.int .i64 9),.sc (.int .i64 1),.sc (.int .i64 0)] (.tu []) []
 (.call (.fn 97) [.sc (.atom 0),.sc (.int .i64 15),.sc (.int .i64 1),.sc (.int .i64 1),.sc (.int .i64 1)] (.tu []) []
 (.call (.fn 97) [.sc (.atom 0),.sc (.int .i64 15),.sc (.int .i64 10),.sc (.int .i64 10),(.sc (.int .i64 (-1)))] (.tu []) []
 (.call (.fn 60) [.sc (.atom 0),.sc (.int .i64 1006)] (.tu []) []
 (.call (.fn 51) [.sc (.atom 0),.sc (.int .i64 1007)] (.tu []) []
 (.call (.fn 54) [.sc (.atom 0),.sc (.int .i64 9),.sc (.int .i64 3),.sc (.int .i64 0)] (.tu []) []
 (.call (.fn 51) [.sc (.atom 0),.sc (.int .i64 1004)] (.tu []) []
 (.call (.fn 97) [.sc (.atom 0),.sc (.int .i64 15),.sc (.int .i64 3),.sc (.int .i64 3),.sc (.int .i64 1)] (.tu []) []
 (.call (.fn 60) [.sc (.atom 0),.sc (.int .i64 1003)] (.tu []) []
 (.call (.fn 51) [.sc (.atom 0),.sc (.int .i64 1005)] (.tu []) []
 (.call (.fn 63) [.sc (.atom 0),.sc (.int .i64 5)] (.tu []) []
 (.leaf (.tu []))))))))))))))))))))))))))))))))))
theorem zq6:execF Tryz.prog { pub:=[],nojoin:=false } Tryz.f64=zkr:=by kernel_rfl
theorem zxv:callB Tryz.prog 64=true:=by kernel_rfl
theorem zu2:TriOf Tryz.prog 64 Tryz.f64 zkr:=triOf Tryz.func64 zq6
abbrev Z95:FuncId:=80
def zs5:Fm VE:=
 (.ite (.pick (.pick (.pick (.pick (.pick (.cmp .lss (.atom 1) (.int .i64 0)) (.bool true) (.cmp .gtr (.atom 1) (.int .i64 6))) (.bool true) (.cmp .lss (.atom 2) (.int .i64 0))) (.bool true) (.cmp .gtr (.atom 2) (.int .i64 1000))) (.bool true) (.cmp .lss (.atom 3) (.atom 1))) (.bool true) (.cmp .eql (.len (.atom 4)) (.int .i64 0)))
 (.leaf (.sc (.bool false)))
 (.loop 5 [.bool,.int .i64] [.bool false,.int .i64 0]
 (.ite (.cmp .lss (.atom 6) (.len (.atom 4)))
 (.chk [] (.inSl (.atom 4) (.atom 6))
 (.load (.elt (.atom 4) (.atom 6) 7) [.sl,.int .i64,.int .i64,.sl,.int .i64,.int .i64,.int .i64]
 (.loop 12 [.bool,.int .i64] [.atom 5,.int .i64 0]
 (.ite (.cmp .lss (.atom 15) (.len (.atom 7)))
 (.chk [] (.inSl (.atom 7) (.atom 15))
 (.load (.elt (.atom 7) (.atom 15) 8) [.str,.int .i64,.sl,.int .i64,.int .i64,.str,.sl,.int .i64]
 (.call (.fn 119) [(.ag [.atom 0]),(.ag [.atom 1,.atom 2,.atom 3,.atom 4]),(.ag [.atom 16,.atom 17,.atom 18,.atom 19,.atom 20,.atom 21,.atom 22,.atom 23])] (.sc .bool) []
 (.ite (.not (.atom 24))
 (.leaf (.sc (.bool false)))
 (.next 12 [.atom 14,(.ar .add .i64 (.atom 15) (.int .i64 1))])))))
 (.call (.fn 120) [(.ag [.atom 1,.atom 2,.atom 3,.atom 4]),(.ag [.atom 8,.atom 9,.atom 10,.atom 11,.atom 12,.atom 13])] (.sc .bool) []
 (.ite (.not (.atom 16))
 (.leaf (.sc (.bool false)))
 (.next 5 [.atom 14,(.ar .add .i64 (.atom 6) (.int .i64 1))])))))))
 (.leaf (.sc (.bool true))))))
theorem zxf:execF Tryz.prog { pub:=[],nojoin:=false } Tryz.f80=zs5:=by kernel_rfl
theorem Z6h:callB Tryz.prog 80=true:=by kernel_rfl
theorem Z2p:TriOf Tryz.prog 80 Tryz.f80 zs5:=triOf Tryz.func80 zxf
abbrev zi1:FuncId:=84
def z6x:Fm VE:=
 (.chk [] (.some (.atom 0))
 (.load (.padd (.atom 0) 0) [.ptr]
 (.chk [] (.some (.atom 2))
 (.call (.fn 51) [(.sc (.padd (.atom 2) 0)),.sc (.atom 1)] (.tu []) []
 (.load (.padd (.atom 0) 0) [.ptr]
 (.chk [] (.some (.atom 3))
 (.load (.padd (.padd (.atom 0) 1) 0) [.int .i64]
 (.call (.fn 57) [(.sc (.padd (.atom 3) 0)),.sc (.int .i64 26),.sc (.atom 4)] (.tu []) []
 (.load (.padd (.atom 0) 0) [.ptr]
 (.chk [] (.some (.atom 5))
 (.call (.fn 127) [.sc (.int .i64 91)] (.sc (.int .i64)) [((.padd (.atom 0) 0),[.atom 5])]
 (.call (.fn 59) [(.sc (.padd (.atom 5) 0)),.sc (.int .i64 25),.sc (.int .i64 26),.sc (.int .i64 28),.sc (.atom 6)] (.tu []) []
 (.join 3 []
 (.load (.padd (.atom 0) 6) [.int .i64]
 (.loop 6 [.int .i64] [.int .i64 0]
 (.ite (.cmp .lss (.atom 8) (.atom 7))
 (.load (.padd (.atom 0) 0) [.ptr]
 (.chk [] (.some (.atom 9))
 (.call (.fn 54) [(.sc (.padd (.atom 9) 0)),.sc (.int .i64 0),.sc (.int .i64 30),.sc (.atom 8)] (.tu []) []
 (.next 6 [(.ar .add .i64 (.atom 8) (.int .i64 1))]))))
 (.load (.padd (.atom 0) 6) [.int .i64]
 (.call (.fn 128) [.sc (.atom 0),.sc (.atom 9)] (.tu []) []
 (.load (.padd (.atom 0) 1) [.int .i64,.int .i64,.int .i64,.sl]
 (.call (.fn 129) [(.ag [.atom 10,.atom 11,.atom 12,.atom 13])] (.sc .sl) []
 (.chk [] (.inSl (.atom 14) (.int .i64 0))
 (.load (.elt (.atom 14) (.int .i64 0) 1) [.sl]
 (.loop 14 [.sl,.int .i64] [(.nil 1),.int .i64 0]
 (.ite (.cmp .lss (.atom 17) (.len (.atom 15)))
 (.join 17 [.sl]
 (.next 14 [.atom 18,(.ar .add .i64 (.atom 17) (.int .i64 1))])
 (.chk [] (.inSl (.atom 15) (.atom 17))
 (.load (.elt (.atom 15) (.atom 17) 1) [.int .i64]
 (.load (.padd (.padd (.atom 0) 1) 0) [.int .i64]
 (.ite (.cmp .geq (.atom 18) (.atom 19))
 (.next 17 [.atom 16])
 (.call (.fn 126) [.sc (.atom 0),.sc (.atom 18)] (.sc .bool) []
 (.ite (.atom 20)
 (.call (.fn 130) [.sc (.atom 0),.sc (.atom 18)] (.sc (.int .i64)) []
 (.sem (.buildSlice 184 1 #[(0,(.tmp 155))]) 184 [(155,(.ag [.atom 21,(.ar .add .i64 (.int .i64 1) (.atom 18))]))] (.sc .sl) []
 (.sem (.call ⟨.builtin .append,#[.tmp 149,.tmp 156],#[184,184]⟩) 184 [(149,(.sc (.atom 16))),(156,(.sc (.atom 22)))] (.sc .sl) []
 (.next 17 [.atom 23]))))
 (.load (.padd (.atom 0) 0) [.ptr]
 (.chk [] (.some (.atom 21))
 (.call (.fn 131) [.sc (.atom 0),.sc (.atom 18)] (.sc (.int .i64)) [((.padd (.atom 0) 0),[.atom 21])]
 (.call (.fn 54) [(.sc (.padd (.atom 21) 0)),(.sc (.ar .add .i64 (.int .i64 1) (.atom 18))),.sc (.int .i64 30),.sc (.atom 22)] (.tu []) []
 (.next 17 [.atom 16]))))))))))))
 (.call (.fn 132) [.sc (.atom 0),.sc (.atom 16)] (.tu []) []
 (.loop 19 [.int .i64] [.int .i64 0]
 (.ite (.cmp .lss (.atom 18) (.len (.atom 15)))
 (.join 22 []
 (.next 19 [(.ar .add .i64 (.atom 18) (.int .i64 1))])
 (.chk [] (.inSl (.atom 15) (.atom 18))
 (.load (.elt (.atom 15) (.atom 18) 1) [.int .i64]
 (.load (.padd (.padd (.atom 0) 1) 0) [.int .i64]
 (.ite (.cmp .geq (.atom 19) (.atom 20))
 (.call (.fn 34) [.sc (.int .i64 5)] (.sc (.int .i64)) []
 (.call (.fn 133) [.sc (.atom 0),.sc (.atom 19),.sc (.atom 21)] (.tu []) []
 (.next 22 [])))
 (.next 22 []))))))
 (.leaf (.tu []))))))))))))))))
 (.call (.fn 40) [.sc (.atom 0)] (.sc (.int .i64)) []
 (.ite (.cmp .gtr (.atom 7) (.int .i64 0))
 (.load (.padd (.atom 0) 0) [.ptr]
 (.call (.fn 42) [.sc (.atom 8)] (.sc (.int .i64)) []
 (.load (.padd (.atom 0) 0) [.ptr]
 (.chk [] (.some (.atom 10))
 (.load (.padd (.atom 0) 0) [.ptr]
 (.chk [] (.some (.atom 11))
 (.load (.padd (.atom 11) 4) [.int .i64]
 (.call (.fn 57) [(.sc (.padd (.atom 10) 0)),.sc (.int .i64 27),(.sc (.ar .sub .i64 (.ar .add .i64 (.int .i64 32) (.atom 12)) (.atom 7)))] (.tu []) []
 (.load (.padd (.atom 0) 0) [.ptr]
 (.chk [] (.some (.atom 13))
 (.call (.fn 59) [(.sc (.padd (.atom 13) 0)),.sc (.int .i64 27),.sc (.int .i64 27),.sc (.int .i64 30),.sc (.atom 9)] (.tu []) []
 (.load (.padd (.atom 0) 0) [.ptr]
 (.chk [] (.some (.atom 14))
 (.call (.fn 58) [(.sc (.padd (.atom 14) 0)),.sc (.int .i64 31),.sc (.int .i64 6)] (.tu []) []
 (.load (.padd (.atom 0) 0) [.ptr]
 (.chk [] (.some (.atom 15))
 (.call (.fn 51) [(.sc (.padd (.atom 15) 0)),.sc (.atom 9)] (.tu []) []
 (.next 3 []))))))))))))))))))
 (.next 3 []))))))))))))))))
theorem zc2:execF Tryz.prog { pub:=[],nojoin:=false } Tryz.f84=z6x:=by kernel_rfl
theorem zgg:callB Tryz.prog 84=true:=by kernel_rfl
theorem zeu:TriOf Tryz.prog 84 Tryz.f84 z6x:=triOf Tryz.func84 zc2
abbrev zky:FuncId:=85
def z8w:Fm VE:=
 (.ite (.scmp .eql (.atom 1) (.str [99,111,110,115,116]))
 (.chk [] (.some (.atom 0))
 (.load (.padd (.atom 0) 0) [.ptr]
 (.chk [] (.some (.atom 9))
 (.load (.padd (.atom 9) 1) [.sl]
 (.call (.fn 134) [(.ag [.atom 4,.atom 5,.atom 6,.atom 7]),.sc (.atom 10)] (.sc (.int .i64)) []
 (.call (.fn 133) [.sc (.atom 0),.sc (.atom 2),.sc (.atom 11)] (.tu []) []
 (.leaf (.tu []))))))))
 (.ite (.scmp .eql (.atom 1) (.str [109,111,118,101]))
 (.chk [] (.inSl (.atom 3) (.int .i64 0))
 (.load (.elt (.atom 3) (.int .i64 0) 1) [.int .i64]
 (.call (.fn 136) [.sc (.atom 0),.sc (.atom 9),.sc (.int .i64 26)] (.sc (.int .i64)) []
 (.call (.fn 135) [.sc (.atom 0),.sc (.atom 2),.sc (.atom 10)] (.tu []) []
 (.leaf (.tu []))))))
 (.ite (.scmp .eql (.atom 1) (.str [104,101,108,100]))
 (.chk [] (.some (.atom 0))
 (.load (.padd (.atom 0) 0) [.ptr]
 (.chk [] (.some (.atom 9))
 (.call (.fn 97) [(.sc (.padd (.atom 9) 0)),.sc (.int .i64 19),.sc (.int .i64 26),.sc (.int .i64 25),.sc (.int .i64 3)] (.tu []) []
 (.load (.padd (.atom 0) 0) [.ptr]
 (.chk [] (.some (.atom 10))
 (.call (.fn 55) [(.sc (.padd (.atom 10) 0)),.sc (.int .i64 26),.sc (.int .i64 26),(.sc (.ar .add .i64 (.int .i64 2) (.atom 8)))] (.tu []) []
 (.call (.fn 135) [.sc (.atom 0),.sc (.atom 2),.sc (.int .i64 26)] (.tu []) []
 (.leaf (.tu []))))))))))
 (.ite (.scmp .eql (.atom 1) (.str [99,108,111,115,117,114,101]))
 (.call (.fn 137) [.sc (.atom 0),(.ag [.atom 1,.atom 2,.atom 3,.atom 4,.atom 5,.atom 6,.atom 7,.atom 8])] (.tu []) []
 (.leaf (.tu [])))
 (.ite (.scmp .eql (.atom 1) (.str [116,105,101]))
 (.call (.fn 138) [.sc (.atom 0),(.ag [.atom 1,.atom 2,.atom 3,.atom 4,.atom 5,.atom 6,.atom 7,.atom 8])] (.tu []) []
 (.leaf (.tu [])))
 (.join 7 [.bool]
 (.ite (.atom 9)
 (.call (.fn 139) [.sc (.atom 0),(.ag [.atom 1,.atom 2,.atom 3,.atom 4,.atom 5,.atom 6,.atom 7,.atom 8])] (.tu []) []
 (.leaf (.tu [])))
 (.join 8 [.bool]
 (.ite (.atom 10)
 (.call (.fn 140) [.sc (.atom 0),(.ag [.atom 1,.atom 2,.atom 3,.atom 4,.atom 5,.atom 6,.atom 7,.atom 8])] (.tu []) []
 (.leaf (.tu [])))
 (.ite (.scmp .eql (.atom 1) (.str [99,111,110,115]))
 (.call (.fn 141) [.sc (.atom 0),(.ag [.atom 1,.atom 2,.atom 3,.atom 4,.atom 5,.atom 6,.atom 7,.atom 8]),.sc (.int .i64 1)] (.tu []) []
 (.leaf (.tu [])))
 (.ite (.scmp .eql (.atom 1) (.str [37,98,111,120]))
 (.call (.fn 141) [.sc (.atom 0),(.ag [.atom 1,.atom 2,.atom 3,.atom 4,.atom 5,.atom 6,.atom 7,.atom 8]),.sc (.int .i64 4)] (.tu []) []
 (.leaf (.tu [])))
 (.ite (.pick (.scmp .eql (.atom 1) (.str [99,97,114])) (.scmp .eql (.atom 1) (.str [99,97,114])) (.scmp .eql (.atom 1) (.str [115,101,116,45,99,97,114,33])))
 (.call (.fn 142) [.sc (.atom 0),(.ag [.atom 1,.atom 2,.atom 3,.atom 4,.atom 5,.atom 6,.atom 7,.atom 8]),.sc (.int .i64 1),.sc (.int .i64 0)] (.tu []) []
 (.leaf (.tu [])))
 (.ite (.pick (.scmp .eql (.atom 1) (.str [99,100,114])) (.scmp .eql (.atom 1) (.str [99,100,114])) (.scmp .eql (.atom 1) (.str [115,101,116,45,99,100,114,33])))
 (.call (.fn 142) [.sc (.atom 0),(.ag [.atom 1,.atom 2,.atom 3,.atom 4,.atom 5,.atom 6,.atom 7,.atom 8]),.sc (.int .i64 1),.sc (.int .i64 1)] (.tu []) []
 (.leaf (.tu [])))
 (.ite (.pick (.scmp .eql (.atom 1) (.str [37,117,110,98,111,120])) (.scmp .eql (.atom 1) (.str [37,117,110,98,111,120])) (.scmp .eql (.atom 1) (.str [37,115,101,116,45,98,111,120,33])))
 (.call (.fn 142) [.sc (.atom 0),(.ag [.atom 1,.atom 2,.atom 3,.atom 4,.atom 5,.atom 6,.atom 7,.atom 8]),.sc (.int .i64 4),.sc (.int .i64 0)] (.tu []) []
 (.leaf (.tu [])))
 (.ite (.scmp .eql (.atom 1) (.str [109,97,107,101,45,118,101,99,116,111,114]))
 (.call (.fn 143) [.sc (.atom 0),(.ag [.atom 1,.atom 2,.atom 3,.atom 4,.atom 5,.atom 6,.atom 7,.atom 8]),.sc (.int .i64 2)] (.tu []) []
 (.leaf (.tu [])))
 (.ite (.scmp .eql (.atom 1) (.str [109,97,107,101,45,115,116,114,105,110,103]))
 (.call (.fn 143) [.sc (.atom 0),(.ag [.atom 1,.atom 2,.atom 3,.atom 4,.atom 5,.atom 6,.atom 7,.atom 8]),.sc (.int .i64 3)] (.tu []) []
 (.leaf (.tu [])))
 (.call (.fn 144) [.sc (.atom 0),(.ag [.atom 1,.atom 2,.atom 3,.atom 4,.atom 5,.atom 6,.atom 7,.atom 8])] (.tu []) []
 (.leaf (.tu [])))))))))))
 (.ite (.scmp .eql (.atom 1) (.str [60]))
 (.next 8 [(.scmp .eql (.atom 1) (.str [60]))])
 (.next 8 [(.pick (.scmp .eql (.atom 1) (.str [61])) (.scmp .eql (.atom 1) (.str [61])) (.scmp .eql (.atom 1) (.str [101,113,63])))]))))
 (.ite (.scmp .eql (.atom 1) (.str [43]))
 (.next 7 [(.scmp .eql (.atom 1) (.str [43]))])
 (.ite (.scmp .eql (.atom 1) (.str [45]))
 (.next 7 [(.scmp .eql (.atom 1) (.str [45]))])
 (.ite (.scmp .eql (.atom 1) (.str [42]))
 (.next 7 [(.scmp .eql (.atom 1) (.str [42]))])
 (.next 7 [(.pick (.scmp .eql (.atom 1) (.str [113,117,111,116,105,101,110,116])) (.scmp .eql (.atom 1) (.str [113,117,111,116,105,101,110,116])) (.scmp .eql (.atom 1) (.str [114,101,109,97,105,110,100,101,114])))]))))))))))
theorem zeb:execF Tryz.prog { pub:=[],nojoin:=false } Tryz.f85=z8w:=by kernel_rfl
theorem ziy:callB Tryz.prog 85=true:=by kernel_rfl
theorem zhw:TriOf Tryz.prog 85 Tryz.f85 z8w:=triOf Tryz.func85 zeb
abbrev zl2:FuncId:=86
def z99:Fm VE:=
 (.ite (.cmp .eql (.atom 2) (.int .i64 0))
 (.chk [] (.some (.atom 0))
 (.load (.padd (.atom 0) 0) [.ptr]
 (.chk [] (.some (.atom 8))
 (.load (.padd (.atom 0) 7) [.sl]
 (.chk [] (.inSl (.atom 9) (.atom 6))
 (.load (.elt (.atom 9) (.atom 6) 1) [.int .i64]
 (.call (.fn 60) [(.sc (.padd (.atom 8) 0)),.sc (.atom 10)] (.tu []) []
 (.leaf (.tu [])))))))))
 (.ite (.cmp .eql (.atom 2) (.int .i64 1))
 (.call (.fn 136) [.sc (.atom 0),.sc (.atom 3),.sc (.int .i64 26)] (.sc (.int .i64)) []
 (.chk [] (.some (.atom 0))
 (.load (.padd (.atom 0) 0) [.ptr]
 (.chk [] (.some (.atom 9))
 (.call (.fn 34) [.sc (.int .i64 0)] (.sc (.int .i64)) [((.padd (.atom 0) 0),[.atom 9])]
 (.call (.fn 57) [(.sc (.padd (.atom 9) 0)),.sc (.int .i64 28),.sc (.atom 10)] (.tu []) []
 (.load (.padd (.atom 0) 0) [.ptr]
 (.chk [] (.some (.atom 11))
 (.load (.padd (.atom 0) 7) [.sl]
 (.chk [] (.inSl (.atom 12) (.atom 7))
 (.load (.elt (.atom 12) (.atom 7) 1) [.int .i64]
 (.call (.fn 59) [(.sc (.padd (.atom 11) 0)),.sc (.int .i64 24),.sc (.atom 8),.sc (.int .i64 28),.sc (.atom 13)] (.tu []) []
 (.load (.padd (.atom 0) 0) [.ptr]
 (.chk [] (.some (.atom 14))
 (.load (.padd (.atom 0) 7) [.sl]
 (.chk [] (.inSl (.atom 15) (.atom 6))
 (.load (.elt (.atom 15) (.atom 6) 1) [.int .i64]
 (.call (.fn 60) [(.sc (.padd (.atom 14) 0)),.sc (.atom 16)] (.tu []) []
 (.leaf (.tu []))))))))))))))))))))
 (.ite (.cmp .eql (.atom 2) (.int .i64 2))
 (.chk [] (.some (.atom 0))
 (.load (.padd (.atom 0) 0) [.ptr]
 (.chk [] (.some (.atom 8))
 (.call (.fn 136) [.sc (.atom 0),.sc (.atom 3),.sc (.int .i64 26)] (.sc (.int .i64)) [((.padd (.atom 0) 0),[.atom 8])]
 (.call (.fn 56) [(.sc (.padd (.atom 8) 0)),.sc (.int .i64 1),.sc (.atom 9)] (.tu []) []
 (.load (.padd (.atom 0) 6) [.int .i64]
 (.call (.fn 128) [.sc (.atom 0),(.sc (.ar .sub .i64 (.int .i64 0) (.atom 10)))] (.tu []) []
 (.load (.padd (.atom 0) 0) [.ptr]
 (.chk [] (.some (.atom 11))
 (.call (.fn 60) [(.sc (.padd (.atom 11) 0)),.sc (.int .i64 4)] (.tu []) []
 (.leaf (.tu []))))))))))))
 (.ite (.pick (.cmp .eql (.atom 2) (.int .i64 3)) (.cmp .eql (.atom 2) (.int .i64 3)) (.cmp .eql (.atom 2) (.int .i64 5)))
 (.call (.fn 145) [.sc (.atom 0),.sc (.atom 3),.sc (.atom 4)] (.tu []) []
 (.chk [] (.some (.atom 0))
 (.load (.padd (.atom 0) 6) [.int .i64]
 (.call (.fn 128) [.sc (.atom 0),(.sc (.ar .sub .i64 (.int .i64 0) (.atom 8)))] (.tu []) []
 (.ite (.cmp .eql (.atom 2) (.int .i64 3))
 (.load (.padd (.atom 0) 0) [.ptr]
 (.chk [] (.some (.atom 9))
 (.call (.fn 60) [(.sc (.padd (.atom 9) 0)),.sc (.int .i64 3)] (.tu []) []
 (.leaf (.tu [])))))
 (.load (.padd (.atom 0) 0) [.ptr]
 (.chk [] (.some (.atom 9))
 (.call (.fn 60) [(.sc (.padd (.atom 9) 0)),.sc (.int .i64 7)] (.tu []) []
 (.leaf (.tu []))))))))))
 (.ite (.cmp .eql (.atom 2) (.int .i64 4))
 (.call (.fn 146) [.sc (.atom 0),.sc (.atom 1),(.ag [.atom 2,.atom 3,.atom 4,.atom 5,.atom 6,.atom 7]),.sc (.int .i64 3)] (.tu []) []
 (.leaf (.tu [])))
 (.ite (.cmp .eql (.atom 2) (.int .i64 6))
 (.call (.fn 146) [.sc (.atom 0),.sc (.atom 1),(.ag [.atom 2,.atom 3,.atom 4,.atom 5,.atom 6,.atom 7]),.sc (.int .i64 7)] (.tu []) []
 (.leaf (.tu [])))
 (.leaf (.tu []))))))))
theorem zeo:execF Tryz.prog { pub:=[],nojoin:=false } Tryz.f86=z99:=by kernel_rfl
theorem zj3:callB Tryz.prog 86=true:=by kernel_rfl
theorem zha:TriOf Tryz.prog 86 Tryz.f86 z99:=triOf Tryz.func86 zeo
abbrev Z48:FuncId:=93
def zlf:Fm VE:=
 (.call (.fn 151) [.sc (.atom 0),.sc (.atom 1),.sc (.atom 2)] (.tu []) []
 (.call (.fn 97) [.sc (.atom 0),.sc (.int .i64 18),.sc (.atom 1),.sc (.atom 1),.sc (.atom 3)] (.tu []) []
 (.leaf (.tu []))))
theorem zr2:execF Tryz.prog { pub:=[],nojoin:=false } Tryz.f93=zlf:=by kernel_rfl
theorem zde:callB Tryz.prog 93=true:=by kernel_rfl
theorem zy2:TriOf Tryz.prog 93 Tryz.f93 zlf:=triOf Tryz.func93 zr2
abbrev Z9o:FuncId:=94
def zrn:Fm VE:=
 (.call (.fn 57) [.sc (.atom 0),.sc (.int .i64 26),.sc (.atom 1)] (.tu []) []
 (.call (.fn 58) [.sc (.atom 0),.sc (.int .i64 31),.sc (.int .i64 2)] (.tu []) []
 (.leaf (.tu []))))
theorem zy8:execF Tryz.prog { pub:=[],nojoin:=false } Tryz.f94=zrn:=by kernel_rfl
theorem zry:callB Tryz.prog 94=true:=by kernel_rfl
theorem Z36:TriOf Tryz.prog 94 Tryz.f94 zrn:=triOf Tryz.func94 zy8
abbrev Z8j:FuncId:=95
def zr0:Fm VE:=
 (.leaf (.sc (.ar .or .i64 (.ar .shl .i64 (.ar .or .i64 (.ar .shl .i64 (.atom 1) (.int .u64 3)) (.atom 0)) (.int .u64 3)) (.int .i64 7))))
theorem zyo:execF Tryz.prog { pub:=[],nojoin:=false } Tryz.f95=zr0:=by kernel_rfl
theorem zte:callB Tryz.prog 95=true:=by kernel_rfl
theorem Z3p:TriOf Tryz.prog 95 Tryz.f95 zr0:=triOf Tryz.func95 zyo
abbrev Z8b:FuncId:=96
def zt9:Fm VE:=
 (.call (.fn 97) [.sc (.atom 0),.sc (.int .i64 18),.sc (.atom 1),.sc (.int .i64 29),.sc (.int .i64 3)] (.tu []) []
 (.call (.fn 97) [.sc (.atom 0),.sc (.int .i64 17),.sc (.atom 1),.sc (.atom 1),.sc (.int .i64 1)] (.tu []) []
 (.call (.fn 97) [.sc (.atom 0),.sc (.int .i64 15),.sc (.int .i64 29),.sc (.int .i64 29),.sc (.atom 2)] (.tu []) []
 (.leaf (.tu [])))))
theorem zyk:execF Tryz.prog { pub:=[],nojoin:=false } Tryz.f96=zt9:=by kernel_rfl
theorem zqr:callB Tryz.prog 96=true:=by kernel_rfl
theorem Z29:TriOf Tryz.prog 96 Tryz.f96 zt9:=triOf Tryz.func96 zyk
abbrev zjp:FuncId:=97
def z7o:Fm VE:=
 (.call (.fn 99) [.sc (.atom 0),(.ag [.int .i64 0,.atom 1,.atom 2,.atom 3,.int .i64 0,.atom 4,.int .i64 0,.int .i64 0])] (.tu []) []
 (.leaf (.tu [])))
theorem zdu:execF Tryz.prog { pub:=[],nojoin:=false } Tryz.f97=z7o:=by kernel_rfl
theorem z03:callB Tryz.prog 97=true:=by kernel_rfl
theorem zg4:TriOf Tryz.prog 97 Tryz.f97 z7o:=triOf Tryz.func97 zdu
abbrev Z6d:FuncId:=98
def zoc:Fm VE:=
 (.call (.fn 55) [.sc (.atom 0),.sc (.int .i64 26),.sc (.int .i64 30),(.sc (.int .i64 (-1)))] (.tu []) []
 (.call (.fn 97) [.sc (.atom 0),.sc (.int .i64 19),.sc (.int .i64 26),.sc (.int .i64 26),.sc (.int .i64 3)] (.tu []) []
 (.call (.fn 97) [.sc (.atom 0),.sc (.int .i64 16),.sc (.int .i64 26),.sc (.int .i64 26),.sc (.int .i64 4095)] (.tu []) []
 (.call (.fn 97) [.sc (.atom 0),.sc (.int .i64 15),.sc (.int .i64 27),.sc (.int .i64 26),.sc (.int .i64 2)] (.tu []) []
 (.call (.fn 97) [.sc (.atom 0),.sc (.int .i64 18),.sc (.int .i64 27),.sc (.int .i64 27),.sc (.int .i64 3)] (.tu []) []
 (.call (.fn 97) [.sc (.atom 0),.sc (.int .i64 17),.sc (.int .i64 27),.sc (.int .i64 27),.sc (.int .i64 6)] (.tu []) []
 (.call (.fn 97) [.sc (.atom 0),.sc (.int .i64 18),.sc (.int .i64 27),.sc (.int .i64 27),.sc (.int .i64 3)] (.tu []) []
 (.call (.fn 97) [.sc (.atom 0),.sc (.int .i64 17),.sc (.int .i64 27),.sc (.int .i64 27),.sc (.int .i64 7)] (.tu []) []
 (.call (.fn 54) [.sc (.atom 0),.sc (.int .i64 27),.sc (.int .i64 29),.sc (.int .i64 0)] (.tu []) []
 (.call (.fn 97) [.sc (.atom 0),.sc (.int .i64 15),.sc (.int .i64 26),.sc (.int .i64 26),.sc (.int .i64 1)] (.tu []) []
 (.call (.fn 62) [.sc (.atom 0),.sc (.int .i64 2),.sc (.int .i64 28),.sc (.int .i64 30),.sc (.int .i64 26)] (.tu []) []
 (.call (.fn 57) [.sc (.atom 0),.sc (.int .i64 27),.sc (.int .i64 33)] (.tu []) []
 (.call (.fn 59) [.sc (.atom 0),.sc (.int .i64 24),.sc (.int .i64 28),.sc (.int .i64 27),.sc (.int .i64 2005)] (.tu []) []
 (.call (.fn 62) [.sc (.atom 0),.sc (.int .i64 1),.sc (.int .i64 27),.sc (.int .i64 29),.sc (.int .i64 26)] (.tu []) []
 (.call (.fn 97) [.sc (.atom 0),.sc (.int .i64 15),.sc (.int .i64 27),.sc (.int .i64 27),.sc (.int .i64 2)] (.tu []) []
 (.call (.fn 97) [.sc (.atom 0),.sc (.int .i64 18),.sc (.int .i64 27),.sc (.int .i64 27),.sc (.int .i64 3)] (.tu []) []
 (.call (.fn 97) [.sc (.atom 0),.sc (.int .i64 17),.sc (.int .i64 27),.sc (.int .i64 27),.sc (.int .i64 1)] (.tu []) []
 (.call (.fn 54) [.sc (.atom 0),.sc (.int .i64 27),.sc (.int .i64 29),.sc (.int .i64 1)] (.tu []) []
 (.call (.fn 60) [.sc (.atom 0),.sc (.int .i64 2006)] (.tu []) []
 (.call (.fn 51) [.sc (.atom 0),.sc (.int .i64 2005)] (.tu []) []
 (.call (.fn 54) [.sc (.atom 0),.sc (.int .i64 31),.sc (.int .i64 29),.sc (.int .i64 1)] (.tu []) []
 (.call (.fn 51) [.sc (.atom 0),.sc (.int .i64 2006)] (.tu []) []
 (.call (.fn 97) [.sc (.atom 0),.sc (.int .i64 15),.sc (.int .i64 29),.sc (.int .i64 29),.sc (.int .i64 2)] (.tu []) []
 (.call (.fn 56) [.sc (.atom 0),.sc (.int .i64 30),.sc (.int .i64 28)] (.tu []) []
 (.call (.fn 51) [.sc (.atom 0),.sc (.int .i64 2002)] (.tu []) []
 (.call (.fn 59) [.sc (.atom 0),.sc (.int .i64 24),.sc (.int .i64 26),.sc (.int .i64 0),.sc (.int .i64 2003)] (.tu []) []
 (.call (.fn 55) [.sc (.atom 0),.sc (.int .i64 27),.sc (.int .i64 30),.sc (.int .i64 0)] (.tu []) []
 (.call (.fn 54) [.sc (.atom 0),.sc (.int .i64 27),.sc (.int .i64 29),.sc (.int .i64 0)] (.tu []) []
 (.call (.fn 97) [.sc (.atom 0),.sc (.int .i64 15),.sc (.int .i64 30),.sc (.int .i64 30),.sc (.int .i64 1)] (.tu []) []
 (.call (.fn 97) [.sc (.atom 0),.sc (.int .i64 15),.sc (.int .i64 29),.sc (.int .i64 29),.sc (.int .i64 1)] (.tu []) []
 (.call (.fn 97) [.sc (.atom 0),.sc (.int .i64 15),.sc (.int .i64 26),.sc (.int .i64 26),(.sc (.int .i64 (-1)))] (.tu []) []
 (.call (.fn 60) [.sc (.atom 0),.sc (.int .i64 2002)] (.tu []) []
 (.call (.fn 51) [.sc (.atom 0),.sc (.int .i64 2003)] (.tu []) []
 (.call (.fn 56) [.sc (.atom 0),.sc (.int .i64 30),.sc (.int .i64 28)] (.tu []) []
 (.leaf (.tu []))))))))))))))))))))))))))))))))))))
theorem zu3:execF Tryz.prog { pub:=[],nojoin:=false } Tryz.f98=zoc:=by kernel_rfl
theorem Z2g:callB Tryz.prog 98=true:=by kernel_rfl
theorem zzm:TriOf Tryz.prog 98 Tryz.f98 zoc:=triOf Tryz.func98 zu3
abbrev zkt:FuncId:=99
def z92:Fm VE:=
 (.chk [] (.some (.atom 0))
 (.load (.padd (.atom 0) 0) [.sl]
 (.sem (.buildSlice 50 1 #[(0,(.tmp 9))]) 50 [(9,(.ag [.atom 1,.atom 2,.atom 3,.atom 4,.atom 5,.atom 6,.atom 7,.atom 8]))] (.sc .sl) [((.padd (.atom 0) 0),[.atom 9])]
 (.sem (.call ⟨.builtin .append,#[.tmp 8,.tmp 10],#[50,50]⟩) 50 [(8,(.sc (.atom 9))),(10,(.sc (.atom 10)))] (.sc .sl) []
 (.store (.padd (.atom 0) 0) [.atom 11]
 (.leaf (.tu [])))))))
theorem ze9:execF Tryz.prog { pub:=[],nojoin:=false } Tryz.f99=z92:=by kernel_rfl
theorem z1i:callB Tryz.prog 99=true:=by kernel_rfl
theorem zi4:TriOf Tryz.prog 99 Tryz.f99 z92:=triOf Tryz.func99 ze9
abbrev Zce:FuncId:=119
def zwg:Fm VE:=
 (.call (.fn 164) [.sc (.atom 5)] (.sc (.int .i64)) []
 (.sem (.buildSlice 29 1 #[(0,(.tmp 18))]) 29 [(18,(.sc (.atom 6)))] (.sc .sl) []
 (.call (.fn 165) [(.ag [.atom 1,.atom 2,.atom 3,.atom 4]),.sc (.atom 14)] (.sc .bool) []
 (.join 3 [.int .i64,.bool,.bool]
 (.join 4 [.bool]
 (.leaf (.sc (.atom 19)))
 (.ite (.pick (.pick (.cmp .eql (.len (.atom 7)) (.atom 16)) (.atom 17) (.bool false)) (.atom 18) (.bool false))
 (.call (.fn 165) [(.ag [.atom 1,.atom 2,.atom 3,.atom 4]),.sc (.atom 7)] (.sc .bool) []
 (.ite (.atom 19)
 (.call (.fn 167) [(.ag [.atom 8,.atom 9,.atom 10,.atom 11]),(.ag [.int .i64 0,.int .i64 0,(.str []),(.nil 1)])] (.sc .bool) []
 (.next 4 [.atom 20]))
 (.next 4 [.bool false])))
 (.next 4 [.bool false])))
 (.ite (.scmp .eql (.atom 5) (.str [99,111,110,115,116]))
 (.join 6 [.bool]
 (.leaf (.sc (.atom 16)))
 (.ite (.pick (.pick (.cmp .eql (.len (.atom 7)) (.int .i64 0)) (.cmp .eql (.atom 12) (.int .i64 0)) (.bool false)) (.atom 15) (.bool false))
 (.call (.fn 166) [(.ag [.atom 8,.atom 9,.atom 10,.atom 11])] (.sc .bool) []
 (.next 6 [.atom 16]))
 (.next 6 [.bool false])))
 (.ite (.scmp .eql (.atom 5) (.str [109,111,118,101]))
 (.next 3 [.int .i64 1,(.cmp .eql (.atom 12) (.int .i64 0)),.atom 15])
 (.ite (.scmp .eql (.atom 5) (.str [104,101,108,100]))
 (.next 3 [.int .i64 0,(.pick (.cmp .geq (.atom 12) (.int .i64 0)) (.cmp .lss (.atom 12) (.atom 2)) (.bool false)),.atom 15])
 (.ite (.scmp .eql (.atom 5) (.str [99,108,111,115,117,114,101]))
 (.ite (.pick (.cmp .lss (.atom 12) (.int .i64 1)) (.bool true) (.cmp .geq (.atom 12) (.len (.atom 0))))
 (.leaf (.sc (.bool false)))
 (.chk [] (.inSl (.atom 0) (.atom 12))
 (.load (.padd (.elt (.atom 0) (.atom 12) 4) 1) [.int .i64]
 (.next 3 [.atom 16,.bool true,.atom 15]))))
 (.ite (.scmp .eql (.atom 5) (.str [116,105,101]))
 (.next 3 [.int .i64 2,(.cmp .geq (.atom 12) (.int .i64 0)),(.cmp .eql (.atom 6) (.int .i64 0))])
 (.ite (.scmp .eql (.atom 5) (.str [37,99,97,108,108,99,99]))
 (.leaf (.sc (.bool false)))
 (.next 3 [.atom 13,(.cmp .eql (.atom 12) (.int .i64 0)),.atom 15])))))))))))
theorem zzg:execF Tryz.prog { pub:=[],nojoin:=false } Tryz.f119=zwg:=by kernel_rfl
theorem Z84:callB Tryz.prog 119=true:=by kernel_rfl
theorem Z64:TriOf Tryz.prog 119 Tryz.f119 zwg:=triOf Tryz.func119 zzg
abbrev Zd1:FuncId:=120
def zw4:Fm VE:=
 (.join 1 [.bool]
 (.sem (.buildSlice 29 1 #[(0,(.tmp 24))]) 29 [(24,(.sc (.atom 8)))] (.sc .sl) []
 (.call (.fn 168) [(.ag [.atom 0,.atom 1,.atom 2,.atom 3]),.sc (.atom 11)] (.sc .bool) []
 (.ite (.cmp .eql (.atom 4) (.int .i64 0))
 (.leaf (.sc (.pick (.pick (.pick (.pick (.atom 12) (.cmp .eql (.len (.atom 6)) (.int .i64 0)) (.bool false)) (.cmp .eql (.atom 5) (.int .i64 0)) (.bool false)) (.cmp .eql (.atom 7) (.int .i64 0)) (.bool false)) (.cmp .eql (.atom 9) (.int .i64 0)) (.bool false))))
 (.ite (.cmp .eql (.atom 4) (.int .i64 1))
 (.join 8 [.bool]
 (.leaf (.sc (.atom 13)))
 (.ite (.pick (.atom 12) (.cmp .eql (.len (.atom 6)) (.int .i64 0)) (.bool false))
 (.sem (.buildSlice 29 1 #[(0,(.tmp 59))]) 29 [(59,(.sc (.atom 5)))] (.sc .sl) []
 (.call (.fn 165) [(.ag [.atom 0,.atom 1,.atom 2,.atom 3]),.sc (.atom 13)] (.sc .bool) []
 (.ite (.atom 14)
 (.sem (.buildSlice 29 1 #[(0,(.tmp 66))]) 29 [(66,(.sc (.atom 9)))] (.sc .sl) []
 (.call (.fn 168) [(.ag [.atom 0,.atom 1,.atom 2,.atom 3]),.sc (.atom 15)] (.sc .bool) []
 (.next 8 [(.pick (.atom 16) (.cmp .eql (.atom 7) (.int .i64 0)) (.bool false))])))
 (.next 8 [.bool false]))))
 (.next 8 [.bool false])))
 (.ite (.pick (.cmp .eql (.atom 4) (.int .i64 2)) (.cmp .eql (.atom 4) (.int .i64 2)) (.cmp .eql (.atom 4) (.int .i64 5)))
 (.sem (.buildSlice 29 1 #[(0,(.tmp 80))]) 29 [(80,(.sc (.atom 5)))] (.sc .sl) []
 (.call (.fn 165) [(.ag [.atom 0,.atom 1,.atom 2,.atom 3]),.sc (.atom 13)] (.sc .bool) []
 (.leaf (.sc (.pick (.pick (.pick (.pick (.atom 14) (.cmp .eql (.len (.atom 6)) (.int .i64 0)) (.bool false)) (.cmp .eql (.atom 7) (.int .i64 0)) (.bool false)) (.cmp .eql (.atom 8) (.int .i64 0)) (.bool false)) (.cmp .eql (.atom 9) (.int .i64 0)) (.bool false))))))
 (.ite (.cmp .eql (.atom 4) (.int .i64 3))
 (.sem (.buildSlice 29 1 #[(0,(.tmp 105))]) 29 [(105,(.sc (.atom 5)))] (.sc .sl) []
 (.call (.fn 165) [(.ag [.atom 0,.atom 1,.atom 2,.atom 3]),.sc (.atom 13)] (.sc .bool) []
 (.leaf (.sc (.pick (.pick (.pick (.pick (.atom 14) (.atom 10) (.bool false)) (.cmp .eql (.atom 7) (.int .i64 0)) (.bool false)) (.cmp .eql (.atom 8) (.int .i64 0)) (.bool false)) (.cmp .eql (.atom 9) (.int .i64 0)) (.bool false))))))
 (.ite (.cmp .eql (.atom 4) (.int .i64 4))
 (.sem (.buildSlice 29 2 #[(0,(.tmp 130)),(1,(.tmp 132))]) 29 [(130,(.sc (.atom 5))),(132,(.sc (.atom 7)))] (.sc .sl) []
 (.call (.fn 165) [(.ag [.atom 0,.atom 1,.atom 2,.atom 3]),.sc (.atom 13)] (.sc .bool) []
 (.leaf (.sc (.pick (.pick (.pick (.atom 14) (.atom 10) (.bool false)) (.atom 12) (.bool false)) (.cmp .eql (.atom 9) (.int .i64 0)) (.bool false))))))
 (.ite (.cmp .eql (.atom 4) (.int .i64 6))
 (.sem (.buildSlice 29 2 #[(0,(.tmp 150)),(1,(.tmp 152))]) 29 [(150,(.sc (.atom 5))),(152,(.sc (.atom 7)))] (.sc .sl) []
 (.call (.fn 165) [(.ag [.atom 0,.atom 1,.atom 2,.atom 3]),.sc (.atom 13)] (.sc .bool) []
 (.leaf (.sc (.pick (.pick (.pick (.atom 14) (.cmp .eql (.len (.atom 6)) (.int .i64 0)) (.bool false)) (.atom 12) (.bool false)) (.cmp .eql (.atom 9) (.int .i64 0)) (.bool false))))))
 (.leaf (.sc (.bool false)))))))))))
 (.ite (.cmp .leq (.len (.atom 6)) (.int .i64 6))
 (.call (.fn 165) [(.ag [.atom 0,.atom 1,.atom 2,.atom 3]),.sc (.atom 6)] (.sc .bool) []
 (.next 1 [.atom 10]))
 (.next 1 [.bool false])))
theorem zyz:execF Tryz.prog { pub:=[],nojoin:=false } Tryz.f120=zw4:=by kernel_rfl
theorem Z8u:callB Tryz.prog 120=true:=by kernel_rfl
theorem Z63:TriOf Tryz.prog 120 Tryz.f120 zw4:=triOf Tryz.func120 zyz
abbrev zdk:FuncId:=126
def z56:Fm VE:=
 (.chk [] (.some (.atom 0))
 (.load (.padd (.atom 0) 5) [.sl]
 (.chk [] (.inSl (.atom 2) (.atom 1))
 (.load (.elt (.atom 2) (.atom 1) 1) [.int .i64]
 (.leaf (.sc (.cmp .lss (.atom 3) (.int .i64 24))))))))
theorem z9y:execF Tryz.prog { pub:=[],nojoin:=false } Tryz.f126=z56:=by kernel_rfl
theorem z58:callB Tryz.prog 126=true:=by kernel_rfl
theorem zbi:TriOf Tryz.prog 126 Tryz.f126 z56:=triOf Tryz.func126 z9y
abbrev zxp:FuncId:=127
def zh2:Fm VE:=
 (.leaf (.sc (.ar .add .i64 (.int .i64 11) (.ar .sub .i64 (.atom 0) (.int .i64 80)))))
theorem znx:execF Tryz.prog { pub:=[],nojoin:=false } Tryz.f127=zh2:=by kernel_rfl
theorem zua:callB Tryz.prog 127=true:=by kernel_rfl
theorem zsa:TriOf Tryz.prog 127 Tryz.f127 zh2:=triOf Tryz.func127 znx
abbrev z9i:FuncId:=128
def z88:Fm VE:=
 (.ite (.cmp .neq (.atom 1) (.int .i64 0))
 (.chk [] (.some (.atom 0))
 (.load (.padd (.atom 0) 0) [.ptr]
 (.chk [] (.some (.atom 2))
 (.call (.fn 97) [(.sc (.padd (.atom 2) 0)),.sc (.int .i64 15),.sc (.int .i64 30),.sc (.int .i64 30),.sc (.atom 1)] (.tu []) []
 (.leaf (.tu []))))))
 (.leaf (.tu [])))
theorem zcz:execF Tryz.prog { pub:=[],nojoin:=false } Tryz.f128=z88:=by kernel_rfl
theorem z7x:callB Tryz.prog 128=true:=by kernel_rfl
theorem z6e:TriOf Tryz.prog 128 Tryz.f128 z88:=triOf Tryz.func128 zcz
abbrev zkv:FuncId:=130
def z9c:Fm VE:=
 (.chk [] (.some (.atom 0))
 (.load (.padd (.atom 0) 5) [.sl]
 (.chk [] (.inSl (.atom 2) (.atom 1))
 (.load (.elt (.atom 2) (.atom 1) 1) [.int .i64]
 (.leaf (.sc (.ar .add .i64 (.int .i64 1) (.atom 3))))))))
theorem zep:execF Tryz.prog { pub:=[],nojoin:=false } Tryz.f130=z9c:=by kernel_rfl
theorem z9h:callB Tryz.prog 130=true:=by kernel_rfl
theorem zia:TriOf Tryz.prog 130 Tryz.f130 z9c:=triOf Tryz.func130 zep
abbrev zjs:FuncId:=131
def z8e:Fm VE:=
 (.chk [] (.some (.atom 0))
 (.load (.padd (.atom 0) 5) [.sl]
 (.chk [] (.inSl (.atom 2) (.atom 1))
 (.load (.elt (.atom 2) (.atom 1) 1) [.int .i64]
 (.load (.padd (.atom 0) 6) [.int .i64]
 (.load (.padd (.atom 0) 8) [.int .i64]
 (.leaf (.sc (.ar .sub .i64 (.ar .sub .i64 (.ar .sub .i64 (.atom 3) (.int .i64 24)) (.atom 4)) (.atom 5))))))))))
theorem zcx:execF Tryz.prog { pub:=[],nojoin:=false } Tryz.f131=z8e:=by kernel_rfl
theorem z7y:callB Tryz.prog 131=true:=by kernel_rfl
theorem zft:TriOf Tryz.prog 131 Tryz.f131 z8e:=triOf Tryz.func131 zcx
abbrev zi9:FuncId:=132
def z73:Fm VE:=
 (.call (.fn 179) [.sc (.atom 1),.sc (.int .i64 26)] (.tu [(false,[.sl]),(false,[.int .i64])]) []
 (.loop 2 [.int .i64] [.int .i64 0]
 (.ite (.cmp .lss (.atom 4) (.len (.atom 2)))
 (.chk [] (.inSl (.atom 2) (.atom 4))
 (.load (.elt (.atom 2) (.atom 4) 2) [.int .i64,.int .i64]
 (.chk [] (.some (.atom 0))
 (.load (.padd (.atom 0) 0) [.ptr]
 (.chk [] (.some (.atom 7))
 (.call (.fn 56) [(.sc (.padd (.atom 7) 0)),.sc (.atom 5),.sc (.atom 6)] (.tu []) []
 (.next 2 [(.ar .add .i64 (.atom 4) (.int .i64 1))])))))))
 (.leaf (.tu [])))))
theorem zcj:execF Tryz.prog { pub:=[],nojoin:=false } Tryz.f132=z73:=by kernel_rfl
theorem zga:callB Tryz.prog 132=true:=by kernel_rfl
theorem zee:TriOf Tryz.prog 132 Tryz.f132 z73:=triOf Tryz.func132 zcj
abbrev zfw:FuncId:=133
def z60:Fm VE:=
 (.call (.fn 126) [.sc (.atom 0),.sc (.atom 1)] (.sc .bool) []
 (.ite (.atom 3)
 (.chk [] (.some (.atom 0))
 (.load (.padd (.atom 0) 0) [.ptr]
 (.chk [] (.some (.atom 4))
 (.call (.fn 130) [.sc (.atom 0),.sc (.atom 1)] (.sc (.int .i64)) [((.padd (.atom 0) 0),[.atom 4])]
 (.call (.fn 57) [(.sc (.padd (.atom 4) 0)),.sc (.atom 5),.sc (.atom 2)] (.tu []) []
 (.leaf (.tu [])))))))
 (.chk [] (.some (.atom 0))
 (.load (.padd (.atom 0) 0) [.ptr]
 (.chk [] (.some (.atom 4))
 (.call (.fn 57) [(.sc (.padd (.atom 4) 0)),.sc (.int .i64 26),.sc (.atom 2)] (.tu []) []
 (.load (.padd (.atom 0) 0) [.ptr]
 (.chk [] (.some (.atom 5))
 (.call (.fn 131) [.sc (.atom 0),.sc (.atom 1)] (.sc (.int .i64)) [((.padd (.atom 0) 0),[.atom 5])]
 (.call (.fn 54) [(.sc (.padd (.atom 5) 0)),.sc (.int .i64 26),.sc (.int .i64 30),.sc (.atom 6)] (.tu []) []
 (.leaf (.tu []))))))))))))
theorem zbd:execF Tryz.prog { pub:=[],nojoin:=false } Tryz.f133=z60:=by kernel_rfl
theorem zet:callB Tryz.prog 133=true:=by kernel_rfl
theorem zdw:TriOf Tryz.prog 133 Tryz.f133 z60:=triOf Tryz.func133 zbd
abbrev zzr:FuncId:=134
def zkp:Fm VE:=
 (.call (.fn 180) [(.ag [.atom 0,.atom 1,.atom 2,.atom 3])] (.tu [(true,[.int .i64,.int .i64,.str]),(false,[.bool])]) []
 (.call (.fn 10) [(.ag [.atom 5,.atom 6,.atom 7]),.sc (.atom 4)] (.tu [(false,[.int .i64]),(false,[.bool])]) []
 (.leaf (.sc (.atom 9)))))
theorem zpw:execF Tryz.prog { pub:=[],nojoin:=false } Tryz.f134=zkp:=by kernel_rfl
theorem zx8:callB Tryz.prog 134=true:=by kernel_rfl
theorem zv6:TriOf Tryz.prog 134 Tryz.f134 zkp:=triOf Tryz.func134 zpw
abbrev zl4:FuncId:=136
def z8z:Fm VE:=
 (.call (.fn 126) [.sc (.atom 0),.sc (.atom 1)] (.sc .bool) []
 (.ite (.atom 3)
 (.call (.fn 130) [.sc (.atom 0),.sc (.atom 1)] (.sc (.int .i64)) []
 (.leaf (.sc (.atom 4))))
 (.chk [] (.some (.atom 0))
 (.load (.padd (.atom 0) 0) [.ptr]
 (.chk [] (.some (.atom 4))
 (.call (.fn 131) [.sc (.atom 0),.sc (.atom 1)] (.sc (.int .i64)) [((.padd (.atom 0) 0),[.atom 4])]
 (.call (.fn 55) [(.sc (.padd (.atom 4) 0)),.sc (.atom 2),.sc (.int .i64 30),.sc (.atom 5)] (.tu []) []
 (.leaf (.sc (.atom 2))))))))))
theorem zez:execF Tryz.prog { pub:=[],nojoin:=false } Tryz.f136=z8z:=by kernel_rfl
theorem zjx:callB Tryz.prog 136=true:=by kernel_rfl
theorem zi6:TriOf Tryz.prog 136 Tryz.f136 z8z:=triOf Tryz.func136 zez
abbrev zif:FuncId:=151
def z72:Fm VE:=
 (.call (.fn 99) [.sc (.atom 0),(.ag [.int .i64 5,.int .i64 20,.atom 1,.int .i64 0,.int .i64 0,.int .i64 0,.atom 2,.int .i64 0])] (.tu []) []
 (.leaf (.tu [])))
theorem zcd:execF Tryz.prog { pub:=[],nojoin:=false } Tryz.f151=z72:=by kernel_rfl
theorem zgf:callB Tryz.prog 151=true:=by kernel_rfl
theorem zeq:TriOf Tryz.prog 151 Tryz.f151 z72:=triOf Tryz.func151 zcd
abbrev Z8o:FuncId:=165
def zso:Fm VE:=
 (.loop 3 [.bool,.int .i64] [.bool false,.int .i64 0]
 (.ite (.cmp .lss (.atom 6) (.len (.atom 4)))
 (.chk [] (.inSl (.atom 4) (.atom 6))
 (.load (.elt (.atom 4) (.atom 6) 1) [.int .i64]
 (.ite (.pick (.cmp .lss (.atom 7) (.int .i64 0)) (.bool true) (.cmp .geq (.atom 7) (.atom 2)))
 (.leaf (.sc (.bool false)))
 (.next 3 [.atom 5,(.ar .add .i64 (.atom 6) (.int .i64 1))]))))
 (.leaf (.sc (.bool true)))))
theorem zyt:execF Tryz.prog { pub:=[],nojoin:=false } Tryz.f165=zso:=by kernel_rfl
theorem z3y:callB Tryz.prog 165=true:=by kernel_rfl
theorem Z2m:TriOf Tryz.prog 165 Tryz.f165 zso:=triOf Tryz.func165 zyt
abbrev Z1c:FuncId:=166
def zk5:Fm VE:=
 (.call (.fn 180) [(.ag [.atom 0,.atom 1,.atom 2,.atom 3])] (.tu [(true,[.int .i64,.int .i64,.str]),(false,[.bool])]) []
 (.leaf (.sc (.atom 7))))
theorem zqb:execF Tryz.prog { pub:=[],nojoin:=false } Tryz.f166=zk5:=by kernel_rfl
theorem zy6:callB Tryz.prog 166=true:=by kernel_rfl
theorem zvt:TriOf Tryz.prog 166 Tryz.f166 zk5:=triOf Tryz.func166 zqb
abbrev Z2f:FuncId:=168
def zlo:Fm VE:=
 (.loop 3 [.bool,.int .i64] [.bool false,.int .i64 0]
 (.ite (.cmp .lss (.atom 6) (.len (.atom 4)))
 (.chk [] (.inSl (.atom 4) (.atom 6))
 (.load (.elt (.atom 4) (.atom 6) 1) [.int .i64]
 (.ite (.pick (.cmp .lss (.atom 7) (.int .i64 0)) (.bool true) (.cmp .geq (.atom 7) (.len (.atom 3))))
 (.leaf (.sc (.bool false)))
 (.next 3 [.atom 5,(.ar .add .i64 (.atom 6) (.int .i64 1))]))))
 (.leaf (.sc (.bool true)))))
theorem zs7:execF Tryz.prog { pub:=[],nojoin:=false } Tryz.f168=zlo:=by kernel_rfl
theorem zn9:callB Tryz.prog 168=true:=by kernel_rfl
theorem zx7:TriOf Tryz.prog 168 Tryz.f168 zlo:=triOf Tryz.func168 zs7
abbrev zxc:FuncId:=179
def zgz:Fm VE:=
 (.ite (.cmp .gtr (.len (.atom 0)) (.int .i64 1000))
 (.leaf (.tu [(false,[(.nil 1)]),(false,[.int .i64 1])]))
 (.sem (.makeMap 135 none) 135 [] (.sc .map) []
 (.sem (.makeMap 135 none) 135 [] (.sc .map) []
 (.new 248 [.atom 2,.atom 3,(.nil 1)]
 (.loop 6 [.sl,.int .i64,.int .i64] [(.nil 1),.int .i64 0,.int .i64 0]
 (.ite (.cmp .lss (.atom 7) (.len (.atom 0)))
 (.chk [] (.inSl (.atom 0) (.atom 7))
 (.load (.elt (.atom 0) (.atom 7) 2) [.int .i64,.int .i64]
 (.chk [] (.some (.atom 4))
 (.load (.padd (.atom 4) 0) [.map]
 (.sem (.lookup 135 (.tmp 37) (.tmp 39) true) 25 [(37,(.sc (.atom 10))),(39,(.sc (.atom 8)))] (.tu [(false,[.int .i64]),(false,[.bool])]) []
 (.ite (.pick (.pick (.atom 12) (.bool true) (.cmp .eql (.atom 8) (.atom 1))) (.bool true) (.cmp .eql (.atom 9) (.atom 1)))
 (.leaf (.tu [(false,[(.nil 1)]),(false,[.int .i64 1])]))
 (.load (.padd (.atom 4) 0) [.map]
 (.sem (.mapUpdate 135 (.tmp 59) (.tmp 61) (.tmp 63)) 0 [(59,(.sc (.atom 13))),(61,(.sc (.atom 8))),(63,(.sc (.atom 9)))] (.tu []) []
 (.next 6 [.atom 5,.atom 6,(.ar .add .i64 (.atom 7) (.int .i64 1))])))))))))
 (.loop 11 [.int .i64] [.int .i64 0]
 (.ite (.cmp .lss (.atom 8) (.len (.atom 0)))
 (.join 14 []
 (.next 11 [(.ar .add .i64 (.atom 8) (.int .i64 1))])
 (.chk [] (.inSl (.atom 0) (.atom 8))
 (.load (.elt (.atom 0) (.atom 8) 2) [.int .i64,.int .i64]
 (.ite (.cmp .eql (.atom 9) (.atom 10))
 (.chk [] (.some (.atom 4))
 (.load (.padd (.atom 4) 0) [.map]
 (.sem (.call ⟨.builtin .delete,#[.tmp 79,.tmp 81],#[135,3]⟩) 0 [(79,(.sc (.atom 11))),(81,(.sc (.atom 9)))] (.tu []) []
 (.next 14 []))))
 (.chk [] (.some (.atom 4))
 (.load (.padd (.atom 4) 1) [.map]
 (.sem (.lookup 135 (.tmp 85) (.tmp 87) false) 3 [(85,(.sc (.atom 11))),(87,(.sc (.atom 10)))] (.sc (.int .i64)) []
 (.sem (.mapUpdate 135 (.tmp 85) (.tmp 87) (.tmp 89)) 0 [(85,(.sc (.atom 11))),(87,(.sc (.atom 10))),(89,(.sc (.ar .add .i64 (.atom 12) (.int .i64 1))))] (.tu []) []
 (.next 14 [])))))))))
 (.loop 16 [.int .i64] [.int .i64 0]
 (.ite (.cmp .lss (.atom 9) (.len (.atom 0)))
 (.chk [] (.inSl (.atom 0) (.atom 9))
 (.load (.elt (.atom 0) (.atom 9) 2) [.int .i64,.int .i64]
 (.call (.fn 208) [.sc (.atom 4),.sc (.atom 10)] (.tu []) []
 (.next 16 [(.ar .add .i64 (.atom 9) (.int .i64 1))]))))
 (.loop 21 [.int .i64] [.int .i64 0]
 (.ite (.cmp .lss (.atom 10) (.len (.atom 0)))
 (.join 24 []
 (.next 21 [(.ar .add .i64 (.atom 10) (.int .i64 1))])
 (.chk [] (.inSl (.atom 0) (.atom 10))
 (.load (.elt (.atom 0) (.atom 10) 2) [.int .i64,.int .i64]
 (.chk [] (.some (.atom 4))
 (.load (.padd (.atom 4) 0) [.map]
 (.sem (.lookup 135 (.tmp 112) (.tmp 114) true) 25 [(112,(.sc (.atom 13))),(114,(.sc (.atom 11)))] (.tu [(false,[.int .i64]),(false,[.bool])]) []
 (.ite (.atom 15)
 (.load (.padd (.atom 4) 2) [.sl]
 (.sem (.buildSlice 184 1 #[(0,(.tmp 127))]) 184 [(127,(.ag [.atom 1,.atom 11]))] (.sc .sl) [((.padd (.atom 4) 2),[.atom 16])]
 (.sem (.call ⟨.builtin .append,#[.tmp 123,.tmp 128],#[184,184]⟩) 184 [(123,(.sc (.atom 16))),(128,(.sc (.atom 17)))] (.sc .sl) []
 (.store (.padd (.atom 4) 2) [.atom 18]
 (.loop 31 [.int .i64] [.atom 11]
 (.load (.padd (.atom 4) 0) [.map]
 (.sem (.lookup 135 (.tmp 137) (.tmp 138) false) 3 [(137,(.sc (.atom 20))),(138,(.sc (.atom 19)))] (.sc (.int .i64)) []
 (.ite (.cmp .neq (.atom 21) (.atom 11))
 (.load (.padd (.atom 4) 0) [.map]
 (.sem (.lookup 135 (.tmp 146) (.tmp 147) false) 3 [(146,(.sc (.atom 22))),(147,(.sc (.atom 19)))] (.sc (.int .i64)) []
 (.next 31 [.atom 23])))
 (.load (.padd (.atom 4) 0) [.map]
 (.sem (.mapUpdate 135 (.tmp 152) (.tmp 153) (.tmp 154)) 0 [(152,(.sc (.atom 22))),(153,(.sc (.atom 19))),(154,(.sc (.atom 1)))] (.tu []) []
 (.load (.padd (.atom 4) 1) [.map]
 (.sem (.lookup 135 (.tmp 158) (.tmp 160) false) 3 [(158,(.sc (.atom 23))),(160,(.sc (.atom 11)))] (.sc (.int .i64)) []
 (.sem (.mapUpdate 135 (.tmp 158) (.tmp 160) (.tmp 162)) 0 [(158,(.sc (.atom 23))),(160,(.sc (.atom 11))),(162,(.sc (.ar .sub .i64 (.atom 24) (.int .i64 1))))] (.tu []) []
 (.call (.fn 208) [.sc (.atom 4),.sc (.atom 11)] (.tu []) []
 (.next 24 [])))))))))))))))
 (.next 24 []))))))))
 (.chk [] (.some (.atom 4))
 (.load (.padd (.atom 4) 2) [.sl]
 (.leaf (.tu [(false,[.atom 11]),(false,[.int .i64 0])]))))))))))))))))
theorem zny:execF Tryz.prog { pub:=[26],nojoin:=false } Tryz.f179=zgz:=by kernel_rfl
theorem ztx:callB Tryz.prog 179=true:=by kernel_rfl
theorem zqy:TriOf Tryz.prog 179 Tryz.f179 zgz:=triOf Tryz.func179 zny
abbrev zzk:FuncId:=180
def zks:Fm VE:=
 (.call (.fn 209) [(.ag [.atom 0,.atom 1,.atom 2,.atom 3])] (.sc (.int .i64)) []
 (.ite (.cmp .neq (.atom 4) (.int .i64 0))
 (.leaf (.tu [(true,[.int .i64 0,.int .i64 0,(.str [])]),(false,[.bool false])]))
 (.join 3 []
 (.leaf (.tu [(true,[.int .i64 0,.int .i64 0,(.str [])]),(false,[.bool false])]))
 (.ite (.cmp .eql (.atom 0) (.int .i64 0))
 (.leaf (.tu [(true,[.int .i64 0,.atom 1,(.str [])]),(false,[.bool true])]))
 (.ite (.cmp .eql (.atom 0) (.int .i64 1))
 (.leaf (.tu [(true,[.int .i64 1,.atom 1,(.str [])]),(false,[.bool true])]))
 (.ite (.cmp .eql (.atom 0) (.int .i64 2))
 (.leaf (.tu [(true,[.int .i64 2,.atom 1,(.str [])]),(false,[.bool true])]))
 (.ite (.cmp .eql (.atom 0) (.int .i64 4))
 (.leaf (.tu [(true,[.int .i64 3,.int .i64 0,.atom 2]),(false,[.bool true])]))
 (.ite (.cmp .eql (.atom 0) (.int .i64 5))
 (.ite (.cmp .eql (.len (.atom 3)) (.int .i64 0))
 (.leaf (.tu [(true,[.int .i64 4,.int .i64 0,(.str [])]),(false,[.bool true])]))
 (.next 3 []))
 (.next 3 [])))))))))
theorem zqg:execF Tryz.prog { pub:=[],nojoin:=false } Tryz.f180=zks:=by kernel_rfl
theorem zk2:callB Tryz.prog 180=true:=by kernel_rfl
theorem zu5:TriOf Tryz.prog 180 Tryz.f180 zks:=triOf Tryz.func180 zqg
end Go.Proofs.YtfkclejklgoccaaGreat.Vc
