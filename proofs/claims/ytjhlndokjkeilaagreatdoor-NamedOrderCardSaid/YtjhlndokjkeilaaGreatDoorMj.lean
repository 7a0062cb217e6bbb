import Derived.Test.YtjhlndokjkeilaaGreatDoorMi
import Derived.Test.YtjhlndokjkeilaaGreatDoorRows
import Derived.KernelRfl
set_option linter.unusedSimpArgs false
set_option linter.unusedVariables false
set_option maxRecDepth 100000
namespace Go.Proofs.YtjhlndokjkeilaaGreatDoor.Vc
open Go
def TriOf (P:Program) (f:FuncId) (fn:Func) (fm:Fm VE):Prop:=∀(E:List Value) {args:Array Value} {H:PH} {R:Ending→PH→Prop},z0c ((z24 P fn).flatMap RS.tags) E=true→args.toList=z2a (z24 P fn) E →
 den P (fun c H'=>R (.panicked c) H') fm E H [] (fun ve E' H' _=>R (.returned (evV E' (fun _=>0) ve)) H')→Tri P f args H R
theorem triOf {P:Program} {f:FuncId} {fn:Func} {fm:Fm VE} {op:Opt} (hf:P.funcs[f]?=some fn) (he:execF P op fn=fm):TriOf P f fn fm:=
 fun E _ _ _ hE ha hd=>Z0g (op:=op) hf hE ha (by rw [he];exact hd)
abbrev zi8:FuncId:=10
def z7n:Fm VE:=
 (.join 2 [.bool]
  (.ite (.atom 16)
   (.leaf (.sc (.bool false)))
   (.loop 5 [.bool,.int .i64] [.bool false,.int .i64 0]
    (.ite (.cmp .lss (.atom 18) (.len (.atom 7)))
     (.chk [] (.inSl (.atom 7) (.atom 18))
     (.load (.elt (.atom 7) (.atom 18) 8) [.int .i64,.str,.sl,.int .i64,.int .i64,.str,.sl,.sl]
     (.chk [] (.inSl (.atom 15) (.atom 18))
     (.load (.elt (.atom 15) (.atom 18) 8) [.int .i64,.str,.sl,.int .i64,.int .i64,.str,.sl,.sl]
     (.call (.fn 10) [(.ag [.atom 19,.atom 20,.atom 21,.atom 22,.atom 23,.atom 24,.atom 25,.atom 26]),(.ag [.atom 27,.atom 28,.atom 29,.atom 30,.atom 31,.atom 32,.atom 33,.atom 34])] (.sc .bool) []
     (.ite (.not (.atom 35))
      (.leaf (.sc (.bool false)))
      (.next 5 [.atom 17,(.ar .add .i64 (.atom 18) (.int .i64 1))])))))))
     (.leaf (.sc (.bool true))))))
  (.ite (.pick (.cmp .neq (.atom 0) (.atom 8)) (.bool true) (.scmp .neq (.atom 1) (.atom 9)))
   (.next 2 [.bool true])
   (.call (.fn 23) [.sc (.atom 2),.sc (.atom 10)] (.sc .bool) []
   (.ite (.not (.atom 16))
    (.next 2 [.bool true])
    (.call (.fn 26) [(.ag [.atom 3,.atom 4,.atom 5,.atom 6]),(.ag [.atom 11,.atom 12,.atom 13,.atom 14])] (.sc .bool) []
    (.next 2 [(.pick (.not (.atom 17)) (.bool true) (.cmp .neq (.len (.atom 7)) (.len (.atom 15))))]))))))
theorem zcs:execF Tryz.prog { pub:=[],nojoin:=false } Tryz.f10=z7n:=by kernel_rfl
theorem z3y:callB Tryz.prog 10=true:=by kernel_rfl
theorem zfp:TriOf Tryz.prog 10 Tryz.f10 z7n:=triOf Tryz.func10 zcs
abbrev zte:FuncId:=16
def zk7:Fm VE:=
 (.new 3 [.int .i64 0]
 (.call (.fn 32) [(.ag [.atom 0,.atom 1,.atom 2,.atom 3,.atom 4,.atom 5,.atom 6,.atom 7]),.sc (.int .i64 0),.sc (.atom 8)] (.sc (.int .i64)) []
 (.leaf (.sc (.atom 9)))))
theorem zo4:execF Tryz.prog { pub:=[4],nojoin:=false } Tryz.f16=zk7:=by kernel_rfl
theorem zk2:callB Tryz.prog 16=true:=by kernel_rfl
theorem zql:TriOf Tryz.prog 16 Tryz.f16 zk7:=triOf Tryz.func16 zo4
abbrev zxo:FuncId:=17
def zn2:Fm VE:=
 (.call (.atom 8) [(.ag [.atom 0,.atom 1,.atom 2,.atom 3,.atom 4,.atom 5,.atom 6,.atom 7])] (.sc .bool) []
 (.ite (.atom 9)
  (.leaf (.sc (.bool true)))
  (.loop 5 [.bool,.int .i64] [.bool false,.int .i64 0]
   (.ite (.cmp .lss (.atom 11) (.len (.atom 7)))
    (.chk [] (.inSl (.atom 7) (.atom 11))
    (.load (.elt (.atom 7) (.atom 11) 8) [.int .i64,.str,.sl,.int .i64,.int .i64,.str,.sl,.sl]
    (.call (.fn 17) [(.ag [.atom 12,.atom 13,.atom 14,.atom 15,.atom 16,.atom 17,.atom 18,.atom 19]),.sc (.atom 8)] (.sc .bool) []
    (.ite (.atom 20)
     (.leaf (.sc (.bool true)))
     (.next 5 [.atom 10,(.ar .add .i64 (.atom 11) (.int .i64 1))])))))
    (.leaf (.sc (.bool false)))))))
theorem zq1:execF Tryz.prog { pub:=[],nojoin:=false } Tryz.f17=zn2:=by kernel_rfl
theorem zni:callB Tryz.prog 17=true:=by kernel_rfl
theorem zux:TriOf Tryz.prog 17 Tryz.f17 zn2:=triOf Tryz.func17 zq1
abbrev zvm:FuncId:=19
def zkn:Fm VE:=
 (.call (.fn 16) [(.ag [.atom 0,.atom 1,.atom 2,.atom 3,.atom 4,.atom 5,.atom 6,.atom 7])] (.sc (.int .i64)) []
 (.ite (.cmp .neq (.atom 8) (.int .i64 0))
  (.leaf (.tu [(true,[.int .i64 0,(.str []),(.nil 1),.int .i64 0,.int .i64 0,(.str []),(.nil 1),(.nil 1)]),(false,[.int .i64 101])]))
  (.call (.fn 33) [(.ag [.atom 0,.atom 1,.atom 2,.atom 3,.atom 4,.atom 5,.atom 6,.atom 7])] (.ag [.int .i64,.str,.sl,.int .i64,.int .i64,.str,.sl,.sl]) []
  (.leaf (.tu [(true,[.atom 9,.atom 10,.atom 11,.atom 12,.atom 13,.atom 14,.atom 15,.atom 16]),(false,[.int .i64 0])])))))
theorem zoq:execF Tryz.prog { pub:=[],nojoin:=false } Tryz.f19=zkn:=by kernel_rfl
theorem zt3:callB Tryz.prog 19=true:=by kernel_rfl
theorem zrv:TriOf Tryz.prog 19 Tryz.f19 zkn:=triOf Tryz.func19 zoq
abbrev zha:FuncId:=21
def z6f:Fm VE:=
 (.call (.fn 36) [(.ag [.atom 0,.atom 1,.atom 2,.atom 3,.atom 4,.atom 5,.atom 6,.atom 7]),.sc (.int .i64 0),.sc (.int .i64 0)] (.tu [(false,[.int .i64]),(false,[.int .i64])]) []
 (.leaf (.sc (.atom 9))))
theorem zc8:execF Tryz.prog { pub:=[],nojoin:=false } Tryz.f21=z6f:=by kernel_rfl
theorem z3j:callB Tryz.prog 21=true:=by kernel_rfl
theorem zej:TriOf Tryz.prog 21 Tryz.f21 z6f:=triOf Tryz.func21 zc8
abbrev zj1:FuncId:=22
def z8f:Fm VE:=
 (.ite (.cmp .eql (.atom 0) (.atom 8))
  (.leaf (.sc (.bool true)))
  (.loop 5 [.bool,.int .i64] [.bool false,.int .i64 0]
   (.ite (.cmp .lss (.atom 10) (.len (.atom 7)))
    (.chk [] (.inSl (.atom 7) (.atom 10))
    (.load (.elt (.atom 7) (.atom 10) 8) [.int .i64,.str,.sl,.int .i64,.int .i64,.str,.sl,.sl]
    (.call (.fn 22) [(.ag [.atom 11,.atom 12,.atom 13,.atom 14,.atom 15,.atom 16,.atom 17,.atom 18]),.sc (.atom 8)] (.sc .bool) []
    (.ite (.atom 19)
     (.leaf (.sc (.bool true)))
     (.next 5 [.atom 9,(.ar .add .i64 (.atom 10) (.int .i64 1))])))))
    (.leaf (.sc (.bool false))))))
theorem zeb:execF Tryz.prog { pub:=[],nojoin:=false } Tryz.f22=z8f:=by kernel_rfl
theorem z1w:callB Tryz.prog 22=true:=by kernel_rfl
theorem zg3:TriOf Tryz.prog 22 Tryz.f22 z8f:=triOf Tryz.func22 zeb
abbrev zc2:FuncId:=23
def z4r:Fm VE:=
 (.ite (.cmp .neq (.len (.atom 0)) (.len (.atom 1)))
  (.leaf (.sc (.bool false)))
  (.loop 5 [.bool,.int .i64] [.bool false,.int .i64 0]
   (.ite (.cmp .lss (.atom 3) (.len (.atom 0)))
    (.chk [] (.inSl (.atom 0) (.atom 3))
    (.load (.elt (.atom 0) (.atom 3) 1) [.str]
    (.chk [] (.inSl (.atom 1) (.atom 3))
    (.load (.elt (.atom 1) (.atom 3) 1) [.str]
    (.ite (.scmp .neq (.atom 4) (.atom 5))
     (.leaf (.sc (.bool false)))
     (.next 5 [.atom 2,(.ar .add .i64 (.atom 3) (.int .i64 1))]))))))
    (.leaf (.sc (.bool true))))))
theorem z9g:execF Tryz.prog { pub:=[],nojoin:=false } Tryz.f23=z4r:=by kernel_rfl
theorem z4k:callB Tryz.prog 23=true:=by kernel_rfl
theorem zah:TriOf Tryz.prog 23 Tryz.f23 z4r:=triOf Tryz.func23 z9g
abbrev zi3:FuncId:=24
def z7y:Fm VE:=
 (.call (.fn 37) [(.ag [.atom 0,.atom 1,.atom 2,.atom 3,.atom 4,.atom 5,.atom 6,.atom 7]),(.sc (.nil 1)),(.sc (.nil 1))] (.sc .sl) []
 (.leaf (.sc (.atom 8))))
theorem zcr:execF Tryz.prog { pub:=[],nojoin:=false } Tryz.f24=z7y:=by kernel_rfl
theorem z1s:callB Tryz.prog 24=true:=by kernel_rfl
theorem zfj:TriOf Tryz.prog 24 Tryz.f24 z7y:=triOf Tryz.func24 zcr
abbrev zhs:FuncId:=26
def z7r:Fm VE:=
 (.ite (.pick (.pick (.pick (.cmp .neq (.atom 0) (.atom 4)) (.bool true) (.cmp .neq (.atom 1) (.atom 5))) (.bool true) (.scmp .neq (.atom 2) (.atom 6))) (.bool true) (.cmp .neq (.len (.atom 3)) (.len (.atom 7))))
  (.leaf (.sc (.bool false)))
  (.loop 5 [.bool,.int .i64] [.bool false,.int .i64 0]
   (.ite (.cmp .lss (.atom 9) (.len (.atom 3)))
    (.chk [] (.inSl (.atom 3) (.atom 9))
    (.load (.elt (.atom 3) (.atom 9) 4) [.int .i64,.int .i64,.str,.sl]
    (.chk [] (.inSl (.atom 7) (.atom 9))
    (.load (.elt (.atom 7) (.atom 9) 4) [.int .i64,.int .i64,.str,.sl]
    (.call (.fn 26) [(.ag [.atom 10,.atom 11,.atom 12,.atom 13]),(.ag [.atom 14,.atom 15,.atom 16,.atom 17])] (.sc .bool) []
    (.ite (.not (.atom 18))
     (.leaf (.sc (.bool false)))
     (.next 5 [.atom 8,(.ar .add .i64 (.atom 9) (.int .i64 1))])))))))
    (.leaf (.sc (.bool true))))))
theorem zcp:execF Tryz.prog { pub:=[],nojoin:=false } Tryz.f26=z7r:=by kernel_rfl
theorem z2l:callB Tryz.prog 26=true:=by kernel_rfl
theorem zf6:TriOf Tryz.prog 26 Tryz.f26 z7r:=triOf Tryz.func26 zcp
abbrev zie:FuncId:=27
def z73:Fm VE:=
 (.loop 4 [.int .i64,.int .i64] [.int .i64 1,.int .i64 0]
  (.ite (.cmp .lss (.atom 9) (.len (.atom 7)))
   (.chk [] (.inSl (.atom 7) (.atom 9))
   (.load (.elt (.atom 7) (.atom 9) 8) [.int .i64,.str,.sl,.int .i64,.int .i64,.str,.sl,.sl]
   (.call (.fn 27) [(.ag [.atom 10,.atom 11,.atom 12,.atom 13,.atom 14,.atom 15,.atom 16,.atom 17])] (.sc (.int .i64)) []
   (.next 4 [(.ar .add .i64 (.atom 8) (.atom 18)),(.ar .add .i64 (.atom 9) (.int .i64 1))]))))
   (.leaf (.sc (.atom 8)))))
theorem zcx:execF Tryz.prog { pub:=[],nojoin:=false } Tryz.f27=z73:=by kernel_rfl
theorem z7d:callB Tryz.prog 27=true:=by kernel_rfl
theorem zff:TriOf Tryz.prog 27 Tryz.f27 z73:=triOf Tryz.func27 zcx
abbrev ztc:FuncId:=32
def zjt:Fm VE:=
 (.chk [] (.some (.atom 9))
 (.load (.atom 9) [.int .i64]
 (.ite (.cmp .eql (.atom 10) (.int .i64 4096))
  (.leaf (.sc (.int .i64 62)))
  (.load (.atom 9) [.int .i64]
  (.store (.atom 9) [(.ar .add .i64 (.atom 11) (.int .i64 1))]
  (.ite (.cmp .geq (.atom 8) (.int .i64 250))
   (.leaf (.sc (.int .i64 61)))
   (.call (.fn 42) [(.ag [.atom 0,.atom 1,.atom 2,.atom 3,.atom 4,.atom 5,.atom 6,.atom 7])] (.sc .bool) []
   (.ite (.not (.atom 12))
    (.leaf (.sc (.int .i64 60)))
    (.loop 10 [.int .i64,.int .i64] [.int .i64 0,.int .i64 0]
     (.ite (.cmp .lss (.atom 14) (.len (.atom 7)))
      (.chk [] (.inSl (.atom 7) (.atom 14))
      (.load (.elt (.atom 7) (.atom 14) 8) [.int .i64,.str,.sl,.int .i64,.int .i64,.str,.sl,.sl]
      (.call (.fn 32) [(.ag [.atom 15,.atom 16,.atom 17,.atom 18,.atom 19,.atom 20,.atom 21,.atom 22]),(.sc (.ar .add .i64 (.atom 8) (.int .i64 1))),.sc (.atom 9)] (.sc (.int .i64)) []
      (.ite (.cmp .neq (.atom 23) (.int .i64 0))
       (.leaf (.sc (.atom 23)))
       (.next 10 [.atom 13,(.ar .add .i64 (.atom 14) (.int .i64 1))])))))
      (.leaf (.sc (.int .i64 0)))))))))))))
theorem znz:execF Tryz.prog { pub:=[],nojoin:=false } Tryz.f32=zjt:=by kernel_rfl
theorem zk8:callB Tryz.prog 32=true:=by kernel_rfl
theorem zqe:TriOf Tryz.prog 32 Tryz.f32 zjt:=triOf Tryz.func32 znz
abbrev zbp:FuncId:=33
def zhq:Fm VE:=
 (.call (.fn 43) [.sc (.atom 2)] (.sc .sl) []
 (.call (.fn 35) [(.ag [.atom 0,.atom 1,.atom 8,.atom 3,.atom 4,.atom 5,.atom 6,.atom 7]),(.sc (.fn 33))] (.ag [.int .i64,.str,.sl,.int .i64,.int .i64,.str,.sl,.sl]) []
 (.leaf (.ag [.atom 9,.atom 10,.atom 11,.atom 12,.atom 13,.atom 14,.atom 15,.atom 16]))))
theorem zmf:execF Tryz.prog { pub:=[],nojoin:=false } Tryz.f33=zhq:=by kernel_rfl
theorem zi1:callB Tryz.prog 33=true:=by kernel_rfl
theorem zog:TriOf Tryz.prog 33 Tryz.f33 zhq:=triOf Tryz.func33 zmf
abbrev zji:FuncId:=35
def znc:Fm VE:=
 (.loop 4 [.sl,.int .i64] [(.nil 1),.int .i64 0]
  (.ite (.cmp .lss (.atom 10) (.len (.atom 7)))
   (.chk [] (.inSl (.atom 7) (.atom 10))
   (.load (.elt (.atom 7) (.atom 10) 8) [.int .i64,.str,.sl,.int .i64,.int .i64,.str,.sl,.sl]
   (.call (.atom 8) [(.ag [.atom 11,.atom 12,.atom 13,.atom 14,.atom 15,.atom 16,.atom 17,.atom 18])] (.ag [.int .i64,.str,.sl,.int .i64,.int .i64,.str,.sl,.sl]) []
   (.sem (.buildSlice 26 1 #[(0,(.tmp 18))]) 26 [(18,(.ag [.atom 19,.atom 20,.atom 21,.atom 22,.atom 23,.atom 24,.atom 25,.atom 26]))] (.sc .sl) []
   (.sem (.call ⟨.builtin .append,#[.tmp 15,.tmp 19],#[26,26]⟩) 26 [(15,(.sc (.atom 9))),(19,(.sc (.atom 27)))] (.sc .sl) []
   (.next 4 [.atom 28,(.ar .add .i64 (.atom 10) (.int .i64 1))]))))))
   (.leaf (.ag [.atom 0,.atom 1,.atom 2,.atom 3,.atom 4,.atom 5,.atom 6,.atom 9]))))
theorem zqv:execF Tryz.prog { pub:=[],nojoin:=false } Tryz.f35=znc:=by kernel_rfl
theorem zmp:callB Tryz.prog 35=true:=by kernel_rfl
theorem zth:TriOf Tryz.prog 35 Tryz.f35 znc:=triOf Tryz.func35 zqv
abbrev zgy:FuncId:=36
def z69:Fm VE:=
 (.ite (.cmp .eql (.atom 9) (.int .i64 4096))
  (.leaf (.tu [(false,[.atom 9]),(false,[.int .i64 62])]))
  (.ite (.cmp .geq (.atom 8) (.int .i64 250))
   (.leaf (.tu [(false,[(.ar .add .i64 (.atom 9) (.int .i64 1))]),(false,[.int .i64 61])]))
   (.call (.fn 48) [(.ag [.atom 0,.atom 1,.atom 2,.atom 3,.atom 4,.atom 5,.atom 6,.atom 7])] (.sc .bool) []
   (.ite (.not (.atom 10))
    (.leaf (.tu [(false,[(.ar .add .i64 (.atom 9) (.int .i64 1))]),(false,[.int .i64 60])]))
    (.loop 11 [.int .i64,.int .i64,.int .i64,.int .i64,.int .i64] [(.ar .add .i64 (.atom 9) (.int .i64 1)),.int .i64 0,.int .i64 0,.int .i64 0,.int .i64 0]
     (.ite (.cmp .lss (.atom 15) (.len (.atom 7)))
      (.chk [] (.inSl (.atom 7) (.atom 15))
      (.load (.elt (.atom 7) (.atom 15) 8) [.int .i64,.str,.sl,.int .i64,.int .i64,.str,.sl,.sl]
      (.call (.fn 36) [(.ag [.atom 16,.atom 17,.atom 18,.atom 19,.atom 20,.atom 21,.atom 22,.atom 23]),(.sc (.ar .add .i64 (.atom 8) (.int .i64 1))),.sc (.atom 11)] (.tu [(false,[.int .i64]),(false,[.int .i64])]) []
      (.ite (.cmp .neq (.atom 25) (.int .i64 0))
       (.leaf (.tu [(false,[.atom 24]),(false,[.atom 25])]))
       (.next 11 [.atom 24,.atom 12,.atom 13,.atom 25,(.ar .add .i64 (.atom 15) (.int .i64 1))])))))
      (.leaf (.tu [(false,[.atom 11]),(false,[.int .i64 0])]))))))))
theorem zbu:execF Tryz.prog { pub:=[],nojoin:=false } Tryz.f36=z69:=by kernel_rfl
theorem z6e:callB Tryz.prog 36=true:=by kernel_rfl
theorem zee:TriOf Tryz.prog 36 Tryz.f36 z69:=triOf Tryz.func36 zbu
abbrev zhd:FuncId:=37
def z7k:Fm VE:=
 (.join 1 [.sl]
  (.loop 4 [.sl,.int .i64] [.atom 10,.int .i64 0]
   (.ite (.cmp .lss (.atom 12) (.len (.atom 7)))
    (.join 9 [.sl]
     (.chk [] (.inSl (.atom 7) (.atom 12))
     (.load (.elt (.atom 7) (.atom 12) 8) [.int .i64,.str,.sl,.int .i64,.int .i64,.str,.sl,.sl]
     (.call (.fn 37) [(.ag [.atom 14,.atom 15,.atom 16,.atom 17,.atom 18,.atom 19,.atom 20,.atom 21]),.sc (.atom 13),.sc (.atom 11)] (.sc .sl) []
     (.next 4 [.atom 22,(.ar .add .i64 (.atom 12) (.int .i64 1))]))))
     (.call (.fn 51) [(.ag [.atom 0,.atom 1,.atom 2,.atom 3,.atom 4,.atom 5,.atom 6,.atom 7]),.sc (.atom 12)] (.sc .bool) []
     (.ite (.atom 13)
      (.sem (.buildSlice 22 0 #[]) 22 [] (.sc .sl) []
      (.sem (.call ⟨.builtin .append,#[.tmp 39,.tmp 40],#[22,22]⟩) 22 [(39,(.sc (.atom 14))),(40,(.sc (.atom 8)))] (.sc .sl) []
      (.sem (.call ⟨.builtin .append,#[.tmp 41,.tmp 43],#[22,22]⟩) 22 [(41,(.sc (.atom 15))),(43,(.sc (.atom 2)))] (.sc .sl) []
      (.next 9 [.atom 16]))))
      (.next 9 [.atom 8]))))
    (.leaf (.sc (.atom 11)))))
  (.join 2 [.bool]
   (.ite (.atom 10)
    (.call (.fn 50) [.sc (.atom 9),.sc (.atom 1)] (.sc .sl) []
    (.next 1 [.atom 11]))
    (.next 1 [.atom 9]))
   (.ite (.pick (.cmp .eql (.atom 0) (.int .i64 1)) (.bool true) (.cmp .eql (.atom 0) (.int .i64 2)))
    (.call (.fn 49) [.sc (.atom 8),.sc (.atom 1)] (.sc .bool) []
    (.next 2 [(.not (.atom 10))]))
    (.next 2 [.bool false]))))
theorem zct:execF Tryz.prog { pub:=[],nojoin:=false } Tryz.f37=z7k:=by kernel_rfl
theorem z7l:callB Tryz.prog 37=true:=by kernel_rfl
theorem zfe:TriOf Tryz.prog 37 Tryz.f37 z7k:=triOf Tryz.func37 zct
abbrev zgi:FuncId:=38
def z6b:Fm VE:=
 (.call (.fn 52) [(.ag [.atom 0,.atom 1,.atom 2,.atom 3])] (.sc (.int .i64)) []
 (.ite (.cmp .neq (.atom 4) (.int .i64 0))
  (.leaf (.sc (.bool false)))
  (.leaf (.sc (.pick (.pick (.pick (.pick (.cmp .eql (.atom 0) (.int .i64 0)) (.bool true) (.cmp .eql (.atom 0) (.int .i64 1))) (.bool true) (.cmp .eql (.atom 0) (.int .i64 2))) (.bool true) (.cmp .eql (.atom 0) (.int .i64 4))) (.bool true) (.pick (.cmp .eql (.atom 0) (.int .i64 5)) (.cmp .eql (.len (.atom 3)) (.int .i64 0)) (.bool false)))))))
theorem zcd:execF Tryz.prog { pub:=[],nojoin:=false } Tryz.f38=z6b:=by kernel_rfl
theorem zf5:callB Tryz.prog 38=true:=by kernel_rfl
theorem zes:TriOf Tryz.prog 38 Tryz.f38 z6b:=triOf Tryz.func38 zcd
abbrev zvg:FuncId:=42
def zkk:Fm VE:=
 (.call (.fn 61) [(.ag [.atom 0,.atom 1,.atom 2,.atom 3,.atom 4,.atom 5,.atom 6,.atom 7])] (.tu [(true,[.bool,.bool,.int .i64,.int .i64]),(false,[.bool])]) []
 (.join 3 [.bool]
  (.ite (.atom 13)
   (.leaf (.sc (.bool false)))
   (.join 5 [.bool]
    (.ite (.atom 14)
     (.leaf (.sc (.bool false)))
     (.ite (.cmp .eql (.atom 0) (.int .i64 0))
      (.call (.fn 64) [(.ag [.atom 3,.atom 4,.atom 5,.atom 6])] (.sc .bool) []
      (.leaf (.sc (.atom 15))))
      (.join 8 [.bool]
       (.join 9 [.bool]
        (.leaf (.sc (.atom 16)))
        (.ite (.atom 15)
         (.call (.fn 67) [(.ag [.atom 3,.atom 4,.atom 5,.atom 6]),(.ag [.int .i64 0,.int .i64 0,(.str []),(.nil 1)])] (.sc .bool) []
         (.next 9 [.atom 16]))
         (.next 9 [.bool false])))
       (.chk [((.cmp .neq (.atom 0) (.int .i64 10)),false)] (.sub (.cap (.atom 7)) (.int .i64 0) (.len (.atom 2)))
       (.ite (.cmp .neq (.atom 0) (.int .i64 10))
        (.next 8 [.bool true])
        (.call (.fn 65) [(.sc (.sls (.atom 7) (.int .i64 0) (.len (.atom 2)) 8)),(.sc (.fn 66))] (.sc .bool) []
        (.next 8 [(.not (.atom 15))])))))))
    (.ite (.pick (.atom 8) (.cmp .neq (.atom 0) (.int .i64 7)) (.bool false))
     (.call (.fn 63) [.sc (.atom 1)] (.sc .bool) []
     (.next 5 [(.pick (.not (.atom 14)) (.bool true) (.pick (.not (.atom 8)) (.scmp .neq (.atom 1) (.str [])) (.bool false)))]))
     (.next 5 [(.pick (.not (.atom 8)) (.scmp .neq (.atom 1) (.str [])) (.bool false))]))))
  (.ite (.pick (.pick (.pick (.not (.atom 12)) (.bool true) (.cmp .lss (.len (.atom 7)) (.atom 10))) (.bool true) (.cmp .gtr (.len (.atom 7)) (.atom 11))) (.bool true) (.pick (.cmp .gtr (.len (.atom 2)) (.int .i64 0)) (.not (.atom 9)) (.bool false)))
   (.next 3 [.bool true])
   (.call (.fn 62) [.sc (.atom 2)] (.sc .bool) []
   (.next 3 [(.not (.atom 13))])))))
theorem zph:execF Tryz.prog { pub:=[],nojoin:=false } Tryz.f42=zkk:=by kernel_rfl
theorem zts:callB Tryz.prog 42=true:=by kernel_rfl
theorem zsi:TriOf Tryz.prog 42 Tryz.f42 zkk:=triOf Tryz.func42 zph
abbrev z98:FuncId:=43
def z31:Fm VE:=
 (.ite (.isnil (.atom 0))
  (.leaf (.sc (.nil 1)))
  (.sem (.buildSlice 22 0 #[]) 22 [] (.sc .sl) []
  (.sem (.call ⟨.builtin .append,#[.tmp 5,.tmp 6],#[22,22]⟩) 22 [(5,(.sc (.atom 1))),(6,(.sc (.atom 0)))] (.sc .sl) []
  (.leaf (.sc (.atom 2))))))
theorem z5z:execF Tryz.prog { pub:=[],nojoin:=false } Tryz.f43=z31:=by kernel_rfl
theorem z71:TriOf Tryz.prog 43 Tryz.f43 z31:=triOf Tryz.func43 z5z
abbrev zy1:FuncId:=46
def zn8:Fm VE:=
 (.leaf (.ag [.int .i64 1,.atom 0,(.nil 1),.int .i64 0,.int .i64 0,(.str []),(.nil 1),(.nil 1)]))
theorem zpz:execF Tryz.prog { pub:=[],nojoin:=false } Tryz.f46=zn8:=by kernel_rfl
theorem zvt:callB Tryz.prog 46=true:=by kernel_rfl
theorem zuu:TriOf Tryz.prog 46 Tryz.f46 zn8:=triOf Tryz.func46 zpz
abbrev zhe:FuncId:=48
def z7o:Fm VE:=
 (.ite (.cmp .eql (.atom 0) (.int .i64 0))
  (.join 3 [.bool]
   (.leaf (.sc (.atom 8)))
   (.ite (.pick (.pick (.scmp .eql (.atom 1) (.str [])) (.cmp .eql (.len (.atom 2)) (.int .i64 0)) (.bool false)) (.cmp .eql (.len (.atom 7)) (.int .i64 0)) (.bool false))
    (.call (.fn 38) [(.ag [.atom 3,.atom 4,.atom 5,.atom 6])] (.sc .bool) []
    (.next 3 [.atom 8]))
    (.next 3 [.bool false])))
  (.join 4 [.bool]
   (.ite (.atom 8)
    (.leaf (.sc (.bool false)))
    (.call (.fn 70) [.sc (.atom 1)] (.sc .bool) []
    (.ite (.cmp .eql (.atom 0) (.int .i64 1))
     (.leaf (.sc (.pick (.pick (.atom 9) (.cmp .eql (.len (.atom 2)) (.int .i64 0)) (.bool false)) (.cmp .eql (.len (.atom 7)) (.int .i64 0)) (.bool false))))
     (.ite (.cmp .eql (.atom 0) (.int .i64 2))
      (.leaf (.sc (.pick (.pick (.atom 9) (.cmp .eql (.len (.atom 2)) (.int .i64 0)) (.bool false)) (.cmp .eql (.len (.atom 7)) (.int .i64 1)) (.bool false))))
      (.ite (.cmp .eql (.atom 0) (.int .i64 3))
       (.leaf (.sc (.pick (.pick (.scmp .eql (.atom 1) (.str [])) (.cmp .eql (.len (.atom 2)) (.int .i64 0)) (.bool false)) (.cmp .eql (.len (.atom 7)) (.int .i64 3)) (.bool false))))
       (.ite (.cmp .eql (.atom 0) (.int .i64 4))
        (.leaf (.sc (.pick (.pick (.scmp .eql (.atom 1) (.str [])) (.cmp .eql (.len (.atom 2)) (.int .i64 0)) (.bool false)) (.cmp .geq (.len (.atom 7)) (.int .i64 2)) (.bool false))))
        (.ite (.cmp .eql (.atom 0) (.int .i64 5))
         (.leaf (.sc (.pick (.pick (.scmp .eql (.atom 1) (.str [])) (.cmp .leq (.len (.atom 2)) (.int .i64 6)) (.bool false)) (.cmp .eql (.len (.atom 7)) (.int .i64 1)) (.bool false))))
         (.ite (.cmp .eql (.atom 0) (.int .i64 6))
          (.leaf (.sc (.pick (.pick (.pick (.scmp .eql (.atom 1) (.str [])) (.cmp .eql (.len (.atom 2)) (.int .i64 0)) (.bool false)) (.cmp .geq (.len (.atom 7)) (.int .i64 1)) (.bool false)) (.cmp .leq (.len (.atom 7)) (.int .i64 7)) (.bool false))))
          (.ite (.cmp .eql (.atom 0) (.int .i64 7))
           (.join 18 [.bool]
            (.leaf (.sc (.atom 10)))
            (.ite (.cmp .eql (.len (.atom 2)) (.int .i64 0))
             (.call (.fn 71) [.sc (.atom 1)] (.sc (.int .i64)) []
             (.next 18 [(.cmp .eql (.atom 10) (.len (.atom 7)))]))
             (.next 18 [.bool false])))
           (.ite (.pick (.cmp .eql (.atom 0) (.int .i64 8)) (.cmp .eql (.atom 0) (.int .i64 8)) (.cmp .eql (.atom 0) (.int .i64 9)))
            (.leaf (.sc (.pick (.scmp .eql (.atom 1) (.str [])) (.cmp .eql (.len (.atom 7)) (.ar .add .i64 (.len (.atom 2)) (.int .i64 1))) (.bool false))))
            (.ite (.cmp .eql (.atom 0) (.int .i64 10))
             (.ite (.pick (.pick (.scmp .neq (.atom 1) (.str [])) (.bool true) (.cmp .lss (.len (.atom 2)) (.int .i64 1))) (.bool true) (.cmp .neq (.len (.atom 7)) (.ar .add .i64 (.len (.atom 2)) (.int .i64 1))))
              (.leaf (.sc (.bool false)))
              (.loop 25 [.bool,.int .i64] [.bool false,.int .i64 0]
               (.ite (.cmp .lss (.atom 11) (.len (.atom 2)))
                (.chk [] (.inSl (.atom 7) (.atom 11))
                (.load (.padd (.elt (.atom 7) (.atom 11) 8) 0) [.int .i64]
                (.ite (.cmp .neq (.atom 12) (.int .i64 5))
                 (.leaf (.sc (.bool false)))
                 (.next 25 [.atom 10,(.ar .add .i64 (.atom 11) (.int .i64 1))]))))
                (.leaf (.sc (.bool true))))))
             (.leaf (.sc (.bool false))))))))))))))
   (.call (.fn 26) [(.ag [.atom 3,.atom 4,.atom 5,.atom 6]),(.ag [.int .i64 0,.int .i64 0,(.str []),(.nil 1)])] (.sc .bool) []
   (.ite (.not (.atom 8))
    (.next 4 [.bool true])
    (.call (.fn 69) [.sc (.atom 2)] (.sc .bool) []
    (.next 4 [(.not (.atom 9))]))))))
theorem zck:execF Tryz.prog { pub:=[],nojoin:=false } Tryz.f48=z7o:=by kernel_rfl
theorem zgs:callB Tryz.prog 48=true:=by kernel_rfl
theorem zf3:TriOf Tryz.prog 48 Tryz.f48 z7o:=triOf Tryz.func48 zck
abbrev zjp:FuncId:=49
def z8e:Fm VE:=
 (.loop 3 [.bool,.int .i64] [.bool false,.int .i64 0]
  (.ite (.cmp .lss (.atom 3) (.len (.atom 0)))
   (.chk [] (.inSl (.atom 0) (.atom 3))
   (.load (.elt (.atom 0) (.atom 3) 1) [.str]
   (.ite (.scmp .eql (.atom 4) (.atom 1))
    (.leaf (.sc (.bool true)))
    (.next 3 [.atom 2,(.ar .add .i64 (.atom 3) (.int .i64 1))]))))
   (.leaf (.sc (.bool false)))))
theorem zeq:execF Tryz.prog { pub:=[],nojoin:=false } Tryz.f49=z8e:=by kernel_rfl
theorem z4b:callB Tryz.prog 49=true:=by kernel_rfl
theorem zgk:TriOf Tryz.prog 49 Tryz.f49 z8e:=triOf Tryz.func49 zeq
abbrev zje:FuncId:=50
def z8n:Fm VE:=
 (.call (.fn 49) [.sc (.atom 0),.sc (.atom 1)] (.sc .bool) []
 (.ite (.atom 2)
  (.leaf (.sc (.atom 0)))
  (.sem (.buildSlice 22 0 #[]) 22 [] (.sc .sl) []
  (.loop 7 [.sl,.bool,.int .i64] [.atom 3,.bool false,.int .i64 0]
   (.ite (.cmp .lss (.atom 6) (.len (.atom 0)))
    (.join 11 [.sl,.bool]
     (.chk [] (.inSl (.atom 0) (.atom 6))
     (.load (.elt (.atom 0) (.atom 6) 1) [.str]
     (.sem (.buildSlice 22 1 #[(0,(.tmp 37))]) 22 [(37,(.sc (.atom 9)))] (.sc .sl) []
     (.sem (.call ⟨.builtin .append,#[.tmp 33,.tmp 38],#[22,22]⟩) 22 [(33,(.sc (.atom 7))),(38,(.sc (.atom 10)))] (.sc .sl) []
     (.next 7 [.atom 11,.atom 8,(.ar .add .i64 (.atom 6) (.int .i64 1))])))))
     (.join 12 [.bool]
      (.ite (.atom 7)
       (.sem (.buildSlice 22 1 #[(0,(.tmp 30))]) 22 [(30,(.sc (.atom 1)))] (.sc .sl) []
       (.sem (.call ⟨.builtin .append,#[.tmp 29,.tmp 31],#[22,22]⟩) 22 [(29,(.sc (.atom 4))),(31,(.sc (.atom 8)))] (.sc .sl) []
       (.next 11 [.atom 9,.bool true])))
       (.next 11 [.atom 4,.atom 5]))
      (.chk [((.not (.atom 5)),true)] (.inSl (.atom 0) (.atom 6))
      (.ite (.not (.atom 5))
       (.load (.elt (.atom 0) (.atom 6) 1) [.str]
       (.next 12 [(.scmp .lss (.atom 1) (.atom 7))]))
       (.next 12 [.bool false])))))
    (.join 10 [.sl]
     (.leaf (.sc (.atom 7)))
     (.ite (.not (.atom 5))
      (.sem (.buildSlice 22 1 #[(0,(.tmp 43))]) 22 [(43,(.sc (.atom 1)))] (.sc .sl) []
      (.sem (.call ⟨.builtin .append,#[.tmp 42,.tmp 44],#[22,22]⟩) 22 [(42,(.sc (.atom 4))),(44,(.sc (.atom 7)))] (.sc .sl) []
      (.next 10 [.atom 8])))
      (.next 10 [.atom 4]))))))))
theorem ze7:execF Tryz.prog { pub:=[],nojoin:=false } Tryz.f50=z8n:=by kernel_rfl
theorem zhn:callB Tryz.prog 50=true:=by kernel_rfl
theorem zg6:TriOf Tryz.prog 50 Tryz.f50 z8n:=triOf Tryz.func50 ze7
abbrev zgx:FuncId:=51
def z6g:Fm VE:=
 (.leaf (.sc (.pick (.pick (.pick (.cmp .eql (.atom 0) (.int .i64 5)) (.bool true) (.cmp .eql (.atom 0) (.int .i64 9))) (.bool true) (.cmp .eql (.atom 0) (.int .i64 10))) (.bool true) (.pick (.cmp .eql (.atom 0) (.int .i64 8)) (.cmp .eql (.atom 8) (.ar .sub .i64 (.len (.atom 7)) (.int .i64 1))) (.bool false)))))
theorem zc5:execF Tryz.prog { pub:=[],nojoin:=false } Tryz.f51=z6g:=by kernel_rfl
theorem zfd:callB Tryz.prog 51=true:=by kernel_rfl
theorem zdv:TriOf Tryz.prog 51 Tryz.f51 z6g:=triOf Tryz.func51 zc5
abbrev zh7:FuncId:=52
def z6q:Fm VE:=
 (.call (.fn 72) [(.ag [.atom 0,.atom 1,.atom 2,.atom 3]),.sc (.int .i64 0),.sc (.int .i64 0)] (.tu [(false,[.int .i64]),(false,[.int .i64])]) []
 (.leaf (.sc (.atom 5))))
theorem zbz:execF Tryz.prog { pub:=[],nojoin:=false } Tryz.f52=z6q:=by kernel_rfl
theorem z6o:callB Tryz.prog 52=true:=by kernel_rfl
theorem zdj:TriOf Tryz.prog 52 Tryz.f52 z6q:=triOf Tryz.func52 zbz
abbrev zsc:FuncId:=61
def zig:Fm VE:=
 (.ite (.cmp .eql (.atom 0) (.int .i64 0))
  (.leaf (.tu [(true,[.bool false,.bool false,.int .i64 0,.int .i64 0]),(false,[.bool true])]))
  (.ite (.cmp .eql (.atom 0) (.int .i64 1))
   (.leaf (.tu [(true,[.bool true,.bool false,.int .i64 0,.int .i64 0]),(false,[.bool true])]))
   (.ite (.cmp .eql (.atom 0) (.int .i64 2))
    (.leaf (.tu [(true,[.bool true,.bool false,.int .i64 1,.int .i64 1]),(false,[.bool true])]))
    (.ite (.cmp .eql (.atom 0) (.int .i64 3))
     (.leaf (.tu [(true,[.bool false,.bool false,.int .i64 3,.int .i64 3]),(false,[.bool true])]))
     (.ite (.cmp .eql (.atom 0) (.int .i64 4))
      (.leaf (.tu [(true,[.bool false,.bool false,.int .i64 2,.int .i64 4096]),(false,[.bool true])]))
      (.ite (.cmp .eql (.atom 0) (.int .i64 5))
       (.leaf (.tu [(true,[.bool false,.bool true,.int .i64 1,.int .i64 1]),(false,[(.cmp .leq (.len (.atom 2)) (.int .i64 6))])]))
       (.ite (.cmp .eql (.atom 0) (.int .i64 6))
        (.leaf (.tu [(true,[.bool false,.bool false,.int .i64 1,.int .i64 7]),(false,[.bool true])]))
        (.ite (.cmp .eql (.atom 0) (.int .i64 7))
         (.call (.fn 82) [.sc (.atom 1)] (.sc (.int .i64)) []
         (.leaf (.tu [(true,[.bool true,.bool false,.atom 8,.atom 8]),(false,[(.cmp .geq (.atom 8) (.int .i64 0))])])))
         (.ite (.pick (.cmp .eql (.atom 0) (.int .i64 8)) (.cmp .eql (.atom 0) (.int .i64 8)) (.cmp .eql (.atom 0) (.int .i64 9)))
          (.leaf (.tu [(true,[.bool false,.bool true,(.ar .add .i64 (.len (.atom 2)) (.int .i64 1)),(.ar .add .i64 (.len (.atom 2)) (.int .i64 1))]),(false,[.bool true])]))
          (.ite (.cmp .eql (.atom 0) (.int .i64 10))
           (.leaf (.tu [(true,[.bool false,.bool true,(.ar .add .i64 (.len (.atom 2)) (.int .i64 1)),(.ar .add .i64 (.len (.atom 2)) (.int .i64 1))]),(false,[(.cmp .gtr (.len (.atom 2)) (.int .i64 0))])]))
           (.leaf (.tu [(true,[.bool false,.bool false,.int .i64 0,.int .i64 0]),(false,[.bool false])]))))))))))))
theorem zmd:execF Tryz.prog { pub:=[],nojoin:=false } Tryz.f61=zig:=by kernel_rfl
theorem zqr:callB Tryz.prog 61=true:=by kernel_rfl
theorem zpg:TriOf Tryz.prog 61 Tryz.f61 zig:=triOf Tryz.func61 zmd
abbrev zu0:FuncId:=62
def zka:Fm VE:=
 (.loop 3 [.bool,.int .i64] [.bool false,.int .i64 0]
  (.ite (.cmp .lss (.atom 2) (.len (.atom 0)))
   (.chk [] (.inSl (.atom 0) (.atom 2))
   (.load (.elt (.atom 0) (.atom 2) 1) [.str]
   (.join 8 [.bool]
    (.ite (.atom 4)
     (.leaf (.sc (.bool false)))
     (.next 3 [.atom 1,(.ar .add .i64 (.atom 2) (.int .i64 1))]))
    (.call (.fn 63) [.sc (.atom 3)] (.sc .bool) []
    (.chk [((.not (.atom 4)),false)] (.sub (.cap (.atom 0)) (.int .i64 0) (.atom 2))
    (.ite (.not (.atom 4))
     (.next 8 [.bool true])
     (.call (.fn 83) [(.sc (.sls (.atom 0) (.int .i64 0) (.atom 2) 1)),.sc (.atom 3)] (.sc .bool) []
     (.next 8 [.atom 5]))))))))
   (.leaf (.sc (.bool true)))))
theorem znl:execF Tryz.prog { pub:=[],nojoin:=false } Tryz.f62=zka:=by kernel_rfl
theorem zru:callB Tryz.prog 62=true:=by kernel_rfl
theorem zq9:TriOf Tryz.prog 62 Tryz.f62 zka:=triOf Tryz.func62 znl
abbrev zv8:FuncId:=63
def zkl:Fm VE:=
 (.loop 3 [.bool,.int .i64] [.bool false,.int .i64 0]
  (.ite (.cmp .lss (.atom 2) (.slen (.atom 0)))
   (.chk [] (.inStr (.atom 0) (.atom 2))
   (.call (.fn 84) [(.sc (.sidx (.atom 0) (.atom 2)))] (.sc .bool) []
   (.ite (.not (.atom 3))
    (.leaf (.sc (.bool false)))
    (.next 3 [.atom 1,(.ar .add .i64 (.atom 2) (.int .i64 1))]))))
   (.join 6 [.bool]
    (.leaf (.sc (.atom 3)))
    (.ite (.pick (.pick (.scmp .neq (.atom 0) (.str [])) (.cmp .leq (.slen (.atom 0)) (.int .i64 64)) (.bool false)) (.scmp .neq (.atom 0) (.str [46])) (.bool false))
     (.call (.fn 85) [.sc (.atom 0)] (.sc .bool) []
     (.next 6 [(.not (.atom 3))]))
     (.next 6 [.bool false])))))
theorem zop:execF Tryz.prog { pub:=[],nojoin:=false } Tryz.f63=zkl:=by kernel_rfl
theorem ze8:callB Tryz.prog 63=true:=by kernel_rfl
theorem zsa:TriOf Tryz.prog 63 Tryz.f63 zkl:=triOf Tryz.func63 zop
abbrev zqg:FuncId:=64
def zft:Fm VE:=
 (.call (.fn 86) [(.ag [.atom 0,.atom 1,.atom 2,.atom 3])] (.sc (.int .i64)) []
 (.leaf (.sc (.pick (.pick (.cmp .eql (.atom 4) (.int .i64 0)) (.cmp .neq (.atom 0) (.int .i64 3)) (.bool false)) (.pick (.cmp .lss (.atom 0) (.int .i64 5)) (.bool true) (.pick (.cmp .eql (.atom 0) (.int .i64 5)) (.cmp .eql (.len (.atom 3)) (.int .i64 0)) (.bool false))) (.bool false)))))
theorem zl0:execF Tryz.prog { pub:=[],nojoin:=false } Tryz.f64=zft:=by kernel_rfl
theorem zp9:callB Tryz.prog 64=true:=by kernel_rfl
theorem znw:TriOf Tryz.prog 64 Tryz.f64 zft:=triOf Tryz.func64 zl0
abbrev z4a:FuncId:=65
def z1u:Fm VE:=
 (.call (.fn 87) [.sc (.atom 0),.sc (.atom 1)] (.sc (.int .i64)) []
 (.leaf (.sc (.cmp .geq (.atom 2) (.int .i64 0)))))
theorem z3i:execF Tryz.prog { pub:=[],nojoin:=false } Tryz.f65=z1u:=by kernel_rfl
theorem z44:callB Tryz.prog 65=true:=by kernel_rfl
theorem z40:TriOf Tryz.prog 65 Tryz.f65 z1u:=triOf Tryz.func65 z3i
abbrev z55:FuncId:=66
def zhw:Fm VE:=
 (.leaf (.sc (.cmp .neq (.atom 0) (.int .i64 5))))
theorem zme:execF Tryz.prog { pub:=[],nojoin:=false } Tryz.f66=zhw:=by kernel_rfl
theorem zqq:callB Tryz.prog 66=true:=by kernel_rfl
theorem zod:TriOf Tryz.prog 66 Tryz.f66 zhw:=triOf Tryz.func66 zme
abbrev z9c:FuncId:=67
def zjv:Fm VE:=
 (.join 1 [.bool]
  (.leaf (.sc (.atom 8)))
  (.ite (.pick (.pick (.cmp .eql (.atom 0) (.atom 4)) (.cmp .eql (.atom 1) (.atom 5)) (.bool false)) (.scmp .eql (.atom 2) (.atom 6)) (.bool false))
   (.call (.fn 88) [.sc (.atom 3),.sc (.atom 7),(.sc (.fn 67))] (.sc .bool) []
   (.next 1 [.atom 8]))
   (.next 1 [.bool false])))
theorem znm:execF Tryz.prog { pub:=[],nojoin:=false } Tryz.f67=zjv:=by kernel_rfl
theorem zjw:callB Tryz.prog 67=true:=by kernel_rfl
theorem zqt:TriOf Tryz.prog 67 Tryz.f67 zjv:=triOf Tryz.func67 znm
abbrev zh5:FuncId:=69
def z6h:Fm VE:=
 (.loop 3 [.bool,.int .i64] [.bool false,.int .i64 0]
  (.ite (.cmp .lss (.atom 2) (.len (.atom 0)))
   (.join 7 [.bool]
    (.ite (.atom 3)
     (.leaf (.sc (.bool false)))
     (.next 3 [.atom 1,(.ar .add .i64 (.atom 2) (.int .i64 1))]))
    (.chk [] (.inSl (.atom 0) (.atom 2))
    (.load (.elt (.atom 0) (.atom 2) 1) [.str]
    (.call (.fn 70) [.sc (.atom 3)] (.sc .bool) []
    (.chk [((.not (.atom 4)),false)] (.sub (.cap (.atom 0)) (.int .i64 0) (.atom 2))
    (.ite (.not (.atom 4))
     (.next 7 [.bool true])
     (.load (.elt (.atom 0) (.atom 2) 1) [.str]
     (.call (.fn 49) [(.sc (.sls (.atom 0) (.int .i64 0) (.atom 2) 1)),.sc (.atom 5)] (.sc .bool) []
     (.next 7 [.atom 6])))))))))
   (.leaf (.sc (.bool true)))))
theorem zc1:execF Tryz.prog { pub:=[],nojoin:=false } Tryz.f69=z6h:=by kernel_rfl
theorem zf0:callB Tryz.prog 69=true:=by kernel_rfl
theorem zdh:TriOf Tryz.prog 69 Tryz.f69 z6h:=triOf Tryz.func69 zc1
abbrev zhp:FuncId:=70
def z7w:Fm VE:=
 (.join 2 [.bool]
  (.ite (.atom 1)
   (.leaf (.sc (.bool false)))
   (.loop 5 [.bool,.int .i64] [.bool false,.int .i64 0]
    (.ite (.cmp .lss (.atom 3) (.slen (.atom 0)))
     (.chk [] (.inStr (.atom 0) (.atom 3))
     (.call (.fn 91) [(.sc (.sidx (.atom 0) (.atom 3)))] (.sc .bool) []
     (.ite (.not (.atom 4))
      (.leaf (.sc (.bool false)))
      (.next 5 [.atom 2,(.ar .add .i64 (.atom 3) (.int .i64 1))]))))
     (.leaf (.sc (.bool true))))))
  (.ite (.pick (.pick (.cmp .lss (.slen (.atom 0)) (.int .i64 1)) (.bool true) (.cmp .gtr (.slen (.atom 0)) (.int .i64 64))) (.bool true) (.scmp .eql (.atom 0) (.str [46])))
   (.next 2 [.bool true])
   (.call (.fn 90) [.sc (.atom 0)] (.sc .bool) []
   (.next 2 [.atom 1]))))
theorem zcl:execF Tryz.prog { pub:=[],nojoin:=false } Tryz.f70=z7w:=by kernel_rfl
theorem z2k:callB Tryz.prog 70=true:=by kernel_rfl
theorem zfh:TriOf Tryz.prog 70 Tryz.f70 z7w:=triOf Tryz.func70 zcl
abbrev zh1:FuncId:=71
def z63:Fm VE:=
 (.join 3 [.bool]
  (.ite (.atom 1)
   (.leaf (.sc (.int .i64 0)))
   (.join 4 [.bool]
    (.ite (.atom 2)
     (.leaf (.sc (.int .i64 1)))
     (.join 5 [.bool]
      (.ite (.atom 3)
       (.leaf (.sc (.int .i64 1)))
       (.join 6 [.bool]
        (.ite (.atom 4)
         (.leaf (.sc (.int .i64 2)))
         (.join 7 [.bool]
          (.ite (.atom 5)
           (.leaf (.sc (.int .i64 2)))
           (.ite (.pick (.scmp .eql (.atom 0) (.str [118,101,99,116,111,114,45,115,101,116,33])) (.scmp .eql (.atom 0) (.str [118,101,99,116,111,114,45,115,101,116,33])) (.scmp .eql (.atom 0) (.str [115,116,114,105,110,103,45,115,101,116,33])))
            (.leaf (.sc (.int .i64 3)))
            (.leaf (.sc (.int .i64 (-1))))))
          (.ite (.scmp .eql (.atom 0) (.str [109,97,107,101,45,118,101,99,116,111,114]))
           (.next 7 [(.scmp .eql (.atom 0) (.str [109,97,107,101,45,118,101,99,116,111,114]))])
           (.ite (.scmp .eql (.atom 0) (.str [118,101,99,116,111,114,45,114,101,102]))
            (.next 7 [(.scmp .eql (.atom 0) (.str [118,101,99,116,111,114,45,114,101,102]))])
            (.ite (.scmp .eql (.atom 0) (.str [109,97,107,101,45,115,116,114,105,110,103]))
             (.next 7 [(.scmp .eql (.atom 0) (.str [109,97,107,101,45,115,116,114,105,110,103]))])
             (.next 7 [(.pick (.scmp .eql (.atom 0) (.str [115,116,114,105,110,103,45,114,101,102])) (.scmp .eql (.atom 0) (.str [115,116,114,105,110,103,45,114,101,102])) (.scmp .eql (.atom 0) (.str [37,115,101,116,45,98,111,120,33])))]))))))
        (.ite (.scmp .eql (.atom 0) (.str [43]))
         (.next 6 [(.scmp .eql (.atom 0) (.str [43]))])
         (.ite (.scmp .eql (.atom 0) (.str [45]))
          (.next 6 [(.scmp .eql (.atom 0) (.str [45]))])
          (.ite (.scmp .eql (.atom 0) (.str [42]))
           (.next 6 [(.scmp .eql (.atom 0) (.str [42]))])
           (.ite (.scmp .eql (.atom 0) (.str [113,117,111,116,105,101,110,116]))
            (.next 6 [(.scmp .eql (.atom 0) (.str [113,117,111,116,105,101,110,116]))])
            (.ite (.scmp .eql (.atom 0) (.str [114,101,109,97,105,110,100,101,114]))
             (.next 6 [(.scmp .eql (.atom 0) (.str [114,101,109,97,105,110,100,101,114]))])
             (.ite (.scmp .eql (.atom 0) (.str [60]))
              (.next 6 [(.scmp .eql (.atom 0) (.str [60]))])
              (.ite (.scmp .eql (.atom 0) (.str [61]))
               (.next 6 [(.scmp .eql (.atom 0) (.str [61]))])
               (.ite (.scmp .eql (.atom 0) (.str [101,113,63]))
                (.next 6 [(.scmp .eql (.atom 0) (.str [101,113,63]))])
                (.ite (.scmp .eql (.atom 0) (.str [99,111,110,115]))
                 (.next 6 [(.scmp .eql (.atom 0) (.str [99,111,110,115]))])
                 (.next 6 [(.pick (.scmp .eql (.atom 0) (.str [115,101,116,45,99,97,114,33])) (.scmp .eql (.atom 0) (.str [115,101,116,45,99,97,114,33])) (.scmp .eql (.atom 0) (.str [115,101,116,45,99,100,114,33])))]))))))))))))
      (.ite (.scmp .eql (.atom 0) (.str [99,97,114]))
       (.next 5 [(.scmp .eql (.atom 0) (.str [99,97,114]))])
       (.ite (.scmp .eql (.atom 0) (.str [99,100,114]))
        (.next 5 [(.scmp .eql (.atom 0) (.str [99,100,114]))])
        (.ite (.scmp .eql (.atom 0) (.str [118,101,99,116,111,114,45,108,101,110,103,116,104]))
         (.next 5 [(.scmp .eql (.atom 0) (.str [118,101,99,116,111,114,45,108,101,110,103,116,104]))])
         (.ite (.scmp .eql (.atom 0) (.str [115,116,114,105,110,103,45,108,101,110,103,116,104]))
          (.next 5 [(.scmp .eql (.atom 0) (.str [115,116,114,105,110,103,45,108,101,110,103,116,104]))])
          (.ite (.scmp .eql (.atom 0) (.str [99,104,97,114,45,62,105,110,116,101,103,101,114]))
           (.next 5 [(.scmp .eql (.atom 0) (.str [99,104,97,114,45,62,105,110,116,101,103,101,114]))])
           (.ite (.scmp .eql (.atom 0) (.str [105,110,116,101,103,101,114,45,62,99,104,97,114]))
            (.next 5 [(.scmp .eql (.atom 0) (.str [105,110,116,101,103,101,114,45,62,99,104,97,114]))])
            (.ite (.scmp .eql (.atom 0) (.str [119,114,105,116,101,45,117,56]))
             (.next 5 [(.scmp .eql (.atom 0) (.str [119,114,105,116,101,45,117,56]))])
             (.ite (.scmp .eql (.atom 0) (.str [37,98,111,120]))
              (.next 5 [(.scmp .eql (.atom 0) (.str [37,98,111,120]))])
              (.ite (.scmp .eql (.atom 0) (.str [37,117,110,98,111,120]))
               (.next 5 [(.scmp .eql (.atom 0) (.str [37,117,110,98,111,120]))])
               (.next 5 [(.pick (.scmp .eql (.atom 0) (.str [37,119,105,110,100,33])) (.scmp .eql (.atom 0) (.str [37,119,105,110,100,33])) (.scmp .eql (.atom 0) (.str [37,99,97,108,108,99,99])))]))))))))))))
    (.ite (.scmp .eql (.atom 0) (.str [110,117,108,108,63]))
     (.next 4 [(.scmp .eql (.atom 0) (.str [110,117,108,108,63]))])
     (.ite (.scmp .eql (.atom 0) (.str [112,97,105,114,63]))
      (.next 4 [(.scmp .eql (.atom 0) (.str [112,97,105,114,63]))])
      (.ite (.scmp .eql (.atom 0) (.str [118,101,99,116,111,114,63]))
       (.next 4 [(.scmp .eql (.atom 0) (.str [118,101,99,116,111,114,63]))])
       (.ite (.scmp .eql (.atom 0) (.str [115,116,114,105,110,103,63]))
        (.next 4 [(.scmp .eql (.atom 0) (.str [115,116,114,105,110,103,63]))])
        (.ite (.scmp .eql (.atom 0) (.str [115,121,109,98,111,108,63]))
         (.next 4 [(.scmp .eql (.atom 0) (.str [115,121,109,98,111,108,63]))])
         (.ite (.scmp .eql (.atom 0) (.str [99,104,97,114,63]))
          (.next 4 [(.scmp .eql (.atom 0) (.str [99,104,97,114,63]))])
          (.ite (.scmp .eql (.atom 0) (.str [105,110,116,101,103,101,114,63]))
           (.next 4 [(.scmp .eql (.atom 0) (.str [105,110,116,101,103,101,114,63]))])
           (.ite (.scmp .eql (.atom 0) (.str [98,111,111,108,101,97,110,63]))
            (.next 4 [(.scmp .eql (.atom 0) (.str [98,111,111,108,101,97,110,63]))])
            (.next 4 [(.pick (.scmp .eql (.atom 0) (.str [112,114,111,99,101,100,117,114,101,63])) (.scmp .eql (.atom 0) (.str [112,114,111,99,101,100,117,114,101,63])) (.scmp .eql (.atom 0) (.str [101,111,102,45,111,98,106,101,99,116,63])))])))))))))))
  (.ite (.scmp .eql (.atom 0) (.str [114,101,97,100,45,117,56]))
   (.next 3 [(.scmp .eql (.atom 0) (.str [114,101,97,100,45,117,56]))])
   (.ite (.scmp .eql (.atom 0) (.str [101,114,114,111,114]))
    (.next 3 [(.scmp .eql (.atom 0) (.str [101,114,114,111,114]))])
    (.ite (.scmp .eql (.atom 0) (.str [118,111,105,100]))
     (.next 3 [(.scmp .eql (.atom 0) (.str [118,111,105,100]))])
     (.next 3 [(.pick (.scmp .eql (.atom 0) (.str [37,119,105,110,100,101,114,115])) (.scmp .eql (.atom 0) (.str [37,119,105,110,100,101,114,115])) (.scmp .eql (.atom 0) (.str [37,117,110,115,101,116])))])))))
theorem zbr:execF Tryz.prog { pub:=[],nojoin:=false } Tryz.f71=z63:=by kernel_rfl
theorem zfc:callB Tryz.prog 71=true:=by kernel_rfl
theorem zdx:TriOf Tryz.prog 71 Tryz.f71 z63:=triOf Tryz.func71 zbr
abbrev zgt:FuncId:=72
def z66:Fm VE:=
 (.ite (.cmp .eql (.atom 5) (.int .i64 4096))
  (.leaf (.tu [(false,[.atom 5]),(false,[.int .i64 22])]))
  (.call (.fn 92) [(.ag [.atom 0,.atom 1,.atom 2,.atom 3])] (.sc .bool) []
  (.ite (.pick (.atom 6) (.cmp .eql (.atom 4) (.int .i64 32)) (.bool false))
   (.leaf (.tu [(false,[(.ar .add .i64 (.atom 5) (.int .i64 1))]),(false,[.int .i64 21])]))
   (.call (.fn 93) [(.ag [.atom 0,.atom 1,.atom 2,.atom 3])] (.sc .bool) []
   (.ite (.not (.atom 7))
    (.leaf (.tu [(false,[(.ar .add .i64 (.atom 5) (.int .i64 1))]),(false,[.int .i64 20])]))
    (.loop 11 [.int .i64,.int .i64,.int .i64,.int .i64,.int .i64] [(.ar .add .i64 (.atom 5) (.int .i64 1)),.int .i64 0,.int .i64 0,.int .i64 0,.int .i64 0]
     (.ite (.cmp .lss (.atom 12) (.len (.atom 3)))
      (.chk [] (.inSl (.atom 3) (.atom 12))
      (.load (.elt (.atom 3) (.atom 12) 4) [.int .i64,.int .i64,.str,.sl]
      (.call (.fn 72) [(.ag [.atom 13,.atom 14,.atom 15,.atom 16]),(.sc (.ar .add .i64 (.atom 4) (.int .i64 1))),.sc (.atom 8)] (.tu [(false,[.int .i64]),(false,[.int .i64])]) []
      (.ite (.cmp .neq (.atom 18) (.int .i64 0))
       (.leaf (.tu [(false,[.atom 17]),(false,[.atom 18])]))
       (.next 11 [.atom 17,.atom 9,.atom 10,.atom 18,(.ar .add .i64 (.atom 12) (.int .i64 1))])))))
      (.leaf (.tu [(false,[.atom 8]),(false,[.int .i64 0])])))))))))
theorem zc0:execF Tryz.prog { pub:=[],nojoin:=false } Tryz.f72=z66:=by kernel_rfl
theorem z6r:callB Tryz.prog 72=true:=by kernel_rfl
theorem zdn:TriOf Tryz.prog 72 Tryz.f72 z66:=triOf Tryz.func72 zc0
abbrev zih:FuncId:=81
def z7h:Fm VE:=
 (.ite (.cmp .eql (.len (.atom 0)) (.int .i64 0))
  (.leaf (.ag [.atom 1,.atom 2,.atom 3,.atom 4]))
  (.sem (.buildSlice 23 0 #[]) 23 [] (.sc .sl) []
  (.sem (.call ⟨.builtin .append,#[.tmp 10,.tmp 11],#[23,23]⟩) 23 [(10,(.sc (.atom 5))),(11,(.sc (.atom 0)))] (.sc .sl) []
  (.ite (.pick (.cmp .eql (.atom 1) (.int .i64 5)) (.bool true) (.cmp .eql (.atom 1) (.int .i64 6)))
   (.sem (.call ⟨.builtin .append,#[.tmp 23,.tmp 25],#[23,23]⟩) 23 [(23,(.sc (.atom 6))),(25,(.sc (.atom 4)))] (.sc .sl) []
   (.leaf (.ag [.atom 1,.int .i64 0,(.str []),.atom 7])))
   (.sem (.buildSlice 23 1 #[(0,(.tmp 29))]) 23 [(29,(.ag [.atom 1,.atom 2,.atom 3,.atom 4]))] (.sc .sl) []
   (.sem (.call ⟨.builtin .append,#[.tmp 28,.tmp 30],#[23,23]⟩) 23 [(28,(.sc (.atom 6))),(30,(.sc (.atom 7)))] (.sc .sl) []
   (.leaf (.ag [.int .i64 6,.int .i64 0,(.str []),.atom 8]))))))))
theorem zd7:execF Tryz.prog { pub:=[],nojoin:=false } Tryz.f81=z7h:=by kernel_rfl
theorem zh0:callB Tryz.prog 81=true:=by kernel_rfl
theorem zey:TriOf Tryz.prog 81 Tryz.f81 z7h:=triOf Tryz.func81 zd7
abbrev zuj:FuncId:=82
def zk1:Fm VE:=
 (.join 3 [.bool]
  (.ite (.atom 1)
   (.leaf (.sc (.int .i64 0)))
   (.join 4 [.bool]
    (.ite (.atom 2)
     (.leaf (.sc (.int .i64 1)))
     (.join 5 [.bool]
      (.ite (.atom 3)
       (.leaf (.sc (.int .i64 2)))
       (.ite (.pick (.scmp .eql (.atom 0) (.str [118,101,99,116,111,114,45,115,101,116,33])) (.scmp .eql (.atom 0) (.str [118,101,99,116,111,114,45,115,101,116,33])) (.scmp .eql (.atom 0) (.str [115,116,114,105,110,103,45,115,101,116,33])))
        (.leaf (.sc (.int .i64 3)))
        (.leaf (.sc (.int .i64 (-1))))))
      (.ite (.scmp .eql (.atom 0) (.str [43]))
       (.next 5 [(.scmp .eql (.atom 0) (.str [43]))])
       (.ite (.scmp .eql (.atom 0) (.str [45]))
        (.next 5 [(.scmp .eql (.atom 0) (.str [45]))])
        (.ite (.scmp .eql (.atom 0) (.str [42]))
         (.next 5 [(.scmp .eql (.atom 0) (.str [42]))])
         (.ite (.scmp .eql (.atom 0) (.str [113,117,111,116,105,101,110,116]))
          (.next 5 [(.scmp .eql (.atom 0) (.str [113,117,111,116,105,101,110,116]))])
          (.ite (.scmp .eql (.atom 0) (.str [114,101,109,97,105,110,100,101,114]))
           (.next 5 [(.scmp .eql (.atom 0) (.str [114,101,109,97,105,110,100,101,114]))])
           (.ite (.scmp .eql (.atom 0) (.str [60]))
            (.next 5 [(.scmp .eql (.atom 0) (.str [60]))])
            (.ite (.scmp .eql (.atom 0) (.str [61]))
             (.next 5 [(.scmp .eql (.atom 0) (.str [61]))])
             (.ite (.scmp .eql (.atom 0) (.str [101,113,63]))
              (.next 5 [(.scmp .eql (.atom 0) (.str [101,113,63]))])
              (.ite (.scmp .eql (.atom 0) (.str [99,111,110,115]))
               (.next 5 [(.scmp .eql (.atom 0) (.str [99,111,110,115]))])
               (.ite (.scmp .eql (.atom 0) (.str [115,101,116,45,99,97,114,33]))
                (.next 5 [(.scmp .eql (.atom 0) (.str [115,101,116,45,99,97,114,33]))])
                (.ite (.scmp .eql (.atom 0) (.str [115,101,116,45,99,100,114,33]))
                 (.next 5 [(.scmp .eql (.atom 0) (.str [115,101,116,45,99,100,114,33]))])
                 (.ite (.scmp .eql (.atom 0) (.str [109,97,107,101,45,118,101,99,116,111,114]))
                  (.next 5 [(.scmp .eql (.atom 0) (.str [109,97,107,101,45,118,101,99,116,111,114]))])
                  (.ite (.scmp .eql (.atom 0) (.str [118,101,99,116,111,114,45,114,101,102]))
                   (.next 5 [(.scmp .eql (.atom 0) (.str [118,101,99,116,111,114,45,114,101,102]))])
                   (.ite (.scmp .eql (.atom 0) (.str [109,97,107,101,45,115,116,114,105,110,103]))
                    (.next 5 [(.scmp .eql (.atom 0) (.str [109,97,107,101,45,115,116,114,105,110,103]))])
                    (.next 5 [(.pick (.scmp .eql (.atom 0) (.str [115,116,114,105,110,103,45,114,101,102])) (.scmp .eql (.atom 0) (.str [115,116,114,105,110,103,45,114,101,102])) (.scmp .eql (.atom 0) (.str [37,115,101,116,45,98,111,120,33])))])))))))))))))))))
    (.ite (.scmp .eql (.atom 0) (.str [110,117,108,108,63]))
     (.next 4 [(.scmp .eql (.atom 0) (.str [110,117,108,108,63]))])
     (.ite (.scmp .eql (.atom 0) (.str [112,97,105,114,63]))
      (.next 4 [(.scmp .eql (.atom 0) (.str [112,97,105,114,63]))])
      (.ite (.scmp .eql (.atom 0) (.str [118,101,99,116,111,114,63]))
       (.next 4 [(.scmp .eql (.atom 0) (.str [118,101,99,116,111,114,63]))])
       (.ite (.scmp .eql (.atom 0) (.str [115,116,114,105,110,103,63]))
        (.next 4 [(.scmp .eql (.atom 0) (.str [115,116,114,105,110,103,63]))])
        (.ite (.scmp .eql (.atom 0) (.str [115,121,109,98,111,108,63]))
         (.next 4 [(.scmp .eql (.atom 0) (.str [115,121,109,98,111,108,63]))])
         (.ite (.scmp .eql (.atom 0) (.str [99,104,97,114,63]))
          (.next 4 [(.scmp .eql (.atom 0) (.str [99,104,97,114,63]))])
          (.ite (.scmp .eql (.atom 0) (.str [105,110,116,101,103,101,114,63]))
           (.next 4 [(.scmp .eql (.atom 0) (.str [105,110,116,101,103,101,114,63]))])
           (.ite (.scmp .eql (.atom 0) (.str [98,111,111,108,101,97,110,63]))
            (.next 4 [(.scmp .eql (.atom 0) (.str [98,111,111,108,101,97,110,63]))])
            (.ite (.scmp .eql (.atom 0) (.str [112,114,111,99,101,100,117,114,101,63]))
             (.next 4 [(.scmp .eql (.atom 0) (.str [112,114,111,99,101,100,117,114,101,63]))])
             (.ite (.scmp .eql (.atom 0) (.str [101,111,102,45,111,98,106,101,99,116,63]))
              (.next 4 [(.scmp .eql (.atom 0) (.str [101,111,102,45,111,98,106,101,99,116,63]))])
              (.ite (.scmp .eql (.atom 0) (.str [99,97,114]))
               (.next 4 [(.scmp .eql (.atom 0) (.str [99,97,114]))])
               (.ite (.scmp .eql (.atom 0) (.str [99,100,114]))
                (.next 4 [(.scmp .eql (.atom 0) (.str [99,100,114]))])
                (.ite (.scmp .eql (.atom 0) (.str [118,101,99,116,111,114,45,108,101,110,103,116,104]))
                 (.next 4 [(.scmp .eql (.atom 0) (.str [118,101,99,116,111,114,45,108,101,110,103,116,104]))])
                 (.ite (.scmp .eql (.atom 0) (.str [115,116,114,105,110,103,45,108,101,110,103,116,104]))
                  (.next 4 [(.scmp .eql (.atom 0) (.str [115,116,114,105,110,103,45,108,101,110,103,116,104]))])
                  (.ite (.scmp .eql (.atom 0) (.str [99,104,97,114,45,62,105,110,116,101,103,101,114]))
                   (.next 4 [(.scmp .eql (.atom 0) (.str [99,104,97,114,45,62,105,110,116,101,103,101,114]))])
                   (.ite (.scmp .eql (.atom 0) (.str [105,110,116,101,103,101,114,45,62,99,104,97,114]))
                    (.next 4 [(.scmp .eql (.atom 0) (.str [105,110,116,101,103,101,114,45,62,99,104,97,114]))])
                    (.ite (.scmp .eql (.atom 0) (.str [119,114,105,116,101,45,117,56]))
                     (.next 4 [(.scmp .eql (.atom 0) (.str [119,114,105,116,101,45,117,56]))])
                     (.ite (.scmp .eql (.atom 0) (.str [37,98,111,120]))
                      (.next 4 [(.scmp .eql (.atom 0) (.str [37,98,111,120]))])
                      (.ite (.scmp .eql (.atom 0) (.str [37,117,110,98,111,120]))
                       (.next 4 [(.scmp .eql (.atom 0) (.str [37,117,110,98,111,120]))])
                       (.next 4 [(.pick (.scmp .eql (.atom 0) (.str [37,119,105,110,100,33])) (.scmp .eql (.atom 0) (.str [37,119,105,110,100,33])) (.scmp .eql (.atom 0) (.str [37,99,97,108,108,99,99])))]))))))))))))))))))))))
  (.ite (.scmp .eql (.atom 0) (.str [114,101,97,100,45,117,56]))
   (.next 3 [(.scmp .eql (.atom 0) (.str [114,101,97,100,45,117,56]))])
   (.ite (.scmp .eql (.atom 0) (.str [101,114,114,111,114]))
    (.next 3 [(.scmp .eql (.atom 0) (.str [101,114,114,111,114]))])
    (.ite (.scmp .eql (.atom 0) (.str [118,111,105,100]))
     (.next 3 [(.scmp .eql (.atom 0) (.str [118,111,105,100]))])
     (.next 3 [(.pick (.scmp .eql (.atom 0) (.str [37,119,105,110,100,101,114,115])) (.scmp .eql (.atom 0) (.str [37,119,105,110,100,101,114,115])) (.scmp .eql (.atom 0) (.str [37,117,110,115,101,116])))])))))
theorem zo0:execF Tryz.prog { pub:=[],nojoin:=false } Tryz.f82=zk1:=by kernel_rfl
theorem zrw:callB Tryz.prog 82=true:=by kernel_rfl
theorem zpx:TriOf Tryz.prog 82 Tryz.f82 zk1:=triOf Tryz.func82 zo0
abbrev z6t:FuncId:=83
def z2s:Fm VE:=
 (.call (.fn 103) [.sc (.atom 0),.sc (.atom 1)] (.sc (.int .i64)) []
 (.leaf (.sc (.cmp .geq (.atom 2) (.int .i64 0)))))
theorem z5f:execF Tryz.prog { pub:=[],nojoin:=false } Tryz.f83=z2s:=by kernel_rfl
theorem z61:callB Tryz.prog 83=true:=by kernel_rfl
theorem z5m:TriOf Tryz.prog 83 Tryz.f83 z2s:=triOf Tryz.func83 z5f
abbrev zsj:FuncId:=84
def zi6:Fm VE:=
 (.join 1 [.bool]
  (.leaf (.sc (.atom 1)))
  (.call (.fn 104) [.sc (.atom 0)] (.sc .bool) []
  (.ite (.pick (.pick (.atom 1) (.bool true) (.pick (.cmp .geq (.atom 0) (.int .u8 97)) (.cmp .leq (.atom 0) (.int .u8 122)) (.bool false))) (.bool true) (.pick (.cmp .geq (.atom 0) (.int .u8 65)) (.cmp .leq (.atom 0) (.int .u8 90)) (.bool false)))
   (.next 1 [.bool true])
   (.call (.fn 105) [(.sc (.str [33,36,37,38,42,47,58,60,61,62,63,94,95,126,43,45,46,64])),.sc (.atom 0)] (.sc (.int .i64)) []
   (.next 1 [(.cmp .geq (.atom 2) (.int .i64 0))])))))
theorem zmc:execF Tryz.prog { pub:=[],nojoin:=false } Tryz.f84=zi6:=by kernel_rfl
theorem zqd:callB Tryz.prog 84=true:=by kernel_rfl
theorem zor:TriOf Tryz.prog 84 Tryz.f84 zi6:=triOf Tryz.func84 zmc
abbrev zoi:FuncId:=85
def zdg:Fm VE:=
 (.join 1 [.str]
  (.loop 4 [.bool,.int .i64] [.bool false,.int .i64 0]
   (.ite (.cmp .lss (.atom 3) (.slen (.atom 1)))
    (.chk [] (.inStr (.atom 1) (.atom 3))
    (.call (.fn 104) [(.sc (.sidx (.atom 1) (.atom 3)))] (.sc .bool) []
    (.ite (.not (.atom 4))
     (.leaf (.sc (.bool false)))
     (.next 4 [.atom 2,(.ar .add .i64 (.atom 3) (.int .i64 1))]))))
    (.leaf (.sc (.scmp .neq (.atom 1) (.str []))))))
  (.chk [((.scmp .neq (.atom 0) (.str [])),true)] (.inStr (.atom 0) (.int .i64 0))
  (.chk [((.scmp .neq (.atom 0) (.str [])),true),((.cmp .eql (.sidx (.atom 0) (.int .i64 0)) (.int .u8 43)),false)] (.inStr (.atom 0) (.int .i64 0))
  (.ite (.pick (.scmp .neq (.atom 0) (.str [])) (.pick (.cmp .eql (.sidx (.atom 0) (.int .i64 0)) (.int .u8 43)) (.bool true) (.cmp .eql (.sidx (.atom 0) (.int .i64 0)) (.int .u8 45))) (.bool false))
   (.chk [] (.sub (.slen (.atom 0)) (.int .i64 1) (.slen (.atom 0)))
   (.next 1 [(.ssub (.atom 0) (.int .i64 1) (.slen (.atom 0)))]))
   (.next 1 [.atom 0])))))
theorem zkd:execF Tryz.prog { pub:=[],nojoin:=false } Tryz.f85=zdg:=by kernel_rfl
theorem zoa:callB Tryz.prog 85=true:=by kernel_rfl
theorem zmb:TriOf Tryz.prog 85 Tryz.f85 zdg:=triOf Tryz.func85 zkd
abbrev zsz:FuncId:=86
def zk9:Fm VE:=
 (.new 147 [.int .i64 0]
 (.call (.fn 106) [.sc (.atom 4),(.ag [.atom 0,.atom 1,.atom 2,.atom 3]),.sc (.int .i64 0)] (.sc (.int .i64)) []
 (.leaf (.sc (.atom 5)))))
theorem znn:execF Tryz.prog { pub:=[3],nojoin:=false } Tryz.f86=zk9:=by kernel_rfl
theorem zs2:callB Tryz.prog 86=true:=by kernel_rfl
theorem zqp:TriOf Tryz.prog 86 Tryz.f86 zk9:=triOf Tryz.func86 znn
abbrev z59:FuncId:=87
def z29:Fm VE:=
 (.loop 3 [.int .i64,.int .i64] [.int .i64 0,.int .i64 0]
  (.ite (.cmp .lss (.atom 3) (.len (.atom 0)))
   (.chk [] (.inSl (.atom 0) (.atom 3))
   (.load (.elt (.atom 0) (.atom 3) 8) [.int .i64,.str,.sl,.int .i64,.int .i64,.str,.sl,.sl]
   (.call (.atom 1) [(.ag [.atom 4,.atom 5,.atom 6,.atom 7,.atom 8,.atom 9,.atom 10,.atom 11])] (.sc .bool) []
   (.ite (.atom 12)
    (.leaf (.sc (.atom 3)))
    (.next 3 [.atom 2,(.ar .add .i64 (.atom 3) (.int .i64 1))])))))
   (.leaf (.sc (.int .i64 (-1))))))
theorem z43:execF Tryz.prog { pub:=[],nojoin:=false } Tryz.f87=z29:=by kernel_rfl
theorem z4w:callB Tryz.prog 87=true:=by kernel_rfl
theorem z4j:TriOf Tryz.prog 87 Tryz.f87 z29:=triOf Tryz.func87 z43
abbrev z1y:FuncId:=88
def z10:Fm VE:=
 (.ite (.cmp .neq (.len (.atom 0)) (.len (.atom 1)))
  (.leaf (.sc (.bool false)))
  (.loop 5 [.bool,.int .i64] [.bool false,.int .i64 0]
   (.ite (.cmp .lss (.atom 4) (.len (.atom 0)))
    (.chk [] (.inSl (.atom 0) (.atom 4))
    (.load (.elt (.atom 0) (.atom 4) 4) [.int .i64,.int .i64,.str,.sl]
    (.chk [] (.inSl (.atom 1) (.atom 4))
    (.load (.elt (.atom 1) (.atom 4) 4) [.int .i64,.int .i64,.str,.sl]
    (.call (.atom 2) [(.ag [.atom 5,.atom 6,.atom 7,.atom 8]),(.ag [.atom 9,.atom 10,.atom 11,.atom 12])] (.sc .bool) []
    (.ite (.not (.atom 13))
     (.leaf (.sc (.bool false)))
     (.next 5 [.atom 3,(.ar .add .i64 (.atom 4) (.int .i64 1))])))))))
    (.leaf (.sc (.bool true))))))
theorem z1q:execF Tryz.prog { pub:=[],nojoin:=false } Tryz.f88=z10:=by kernel_rfl
theorem z1v:callB Tryz.prog 88=true:=by kernel_rfl
theorem z1t:TriOf Tryz.prog 88 Tryz.f88 z10:=triOf Tryz.func88 z1q
abbrev zf4:FuncId:=90
def z5s:Fm VE:=
 (.chk [((.cmp .gtr (.slen (.atom 0)) (.int .i64 0)),true)] (.inStr (.atom 0) (.int .i64 0))
 (.chk [((.cmp .gtr (.slen (.atom 0)) (.int .i64 0)),true),((.cmp .eql (.sidx (.atom 0) (.int .i64 0)) (.int .u8 43)),false)] (.inStr (.atom 0) (.int .i64 0))
 (.loop 6 [.bool,.int .i64] [.bool false,(.pick (.pick (.cmp .gtr (.slen (.atom 0)) (.int .i64 0)) (.pick (.cmp .eql (.sidx (.atom 0) (.int .i64 0)) (.int .u8 43)) (.bool true) (.cmp .eql (.sidx (.atom 0) (.int .i64 0)) (.int .u8 45))) (.bool false)) (.int .i64 1) (.int .i64 0))]
  (.ite (.cmp .lss (.atom 2) (.slen (.atom 0)))
   (.chk [] (.inStr (.atom 0) (.atom 2))
   (.call (.fn 108) [(.sc (.sidx (.atom 0) (.atom 2)))] (.sc .bool) []
   (.ite (.not (.atom 3))
    (.leaf (.sc (.bool false)))
    (.next 6 [.atom 1,(.ar .add .i64 (.atom 2) (.int .i64 1))]))))
   (.leaf (.sc (.cmp .gtr (.slen (.atom 0)) (.pick (.pick (.cmp .gtr (.slen (.atom 0)) (.int .i64 0)) (.pick (.cmp .eql (.sidx (.atom 0) (.int .i64 0)) (.int .u8 43)) (.bool true) (.cmp .eql (.sidx (.atom 0) (.int .i64 0)) (.int .u8 45))) (.bool false)) (.int .i64 1) (.int .i64 0)))))))))
theorem zb1:execF Tryz.prog { pub:=[],nojoin:=false } Tryz.f90=z5s:=by kernel_rfl
theorem zec:callB Tryz.prog 90=true:=by kernel_rfl
theorem zch:TriOf Tryz.prog 90 Tryz.f90 z5s:=triOf Tryz.func90 zb1
abbrev zid:FuncId:=91
def z74:Fm VE:=
 (.call (.fn 108) [.sc (.atom 0)] (.sc .bool) []
 (.ite (.pick (.pick (.atom 1) (.bool true) (.pick (.cmp .geq (.atom 0) (.int .u8 97)) (.cmp .leq (.atom 0) (.int .u8 122)) (.bool false))) (.bool true) (.pick (.cmp .geq (.atom 0) (.int .u8 65)) (.cmp .leq (.atom 0) (.int .u8 90)) (.bool false)))
  (.leaf (.sc (.bool true)))
  (.loop 6 [.bool,.int .i64] [.bool false,.int .i64 0]
   (.ite (.cmp .lss (.atom 3) (.int .i64 18))
    (.chk [] (.inStr (.str [33,36,37,38,42,47,58,60,61,62,63,94,95,126,43,45,46,64]) (.atom 3))
    (.ite (.cmp .eql (.sidx (.str [33,36,37,38,42,47,58,60,61,62,63,94,95,126,43,45,46,64]) (.atom 3)) (.atom 0))
     (.leaf (.sc (.bool true)))
     (.next 6 [.atom 2,(.ar .add .i64 (.atom 3) (.int .i64 1))])))
    (.leaf (.sc (.bool false)))))))
theorem zcn:execF Tryz.prog { pub:=[],nojoin:=false } Tryz.f91=z74:=by kernel_rfl
theorem zhb:callB Tryz.prog 91=true:=by kernel_rfl
theorem zfb:TriOf Tryz.prog 91 Tryz.f91 z74:=triOf Tryz.func91 zcn
abbrev zf2:FuncId:=92
def z5l:Fm VE:=
 (.leaf (.sc (.pick (.pick (.cmp .eql (.atom 0) (.int .i64 5)) (.bool true) (.cmp .eql (.atom 0) (.int .i64 6))) (.bool true) (.cmp .eql (.atom 0) (.int .i64 7)))))
theorem zb9:execF Tryz.prog { pub:=[],nojoin:=false } Tryz.f92=z5l:=by kernel_rfl
theorem zdw:callB Tryz.prog 92=true:=by kernel_rfl
theorem zcz:TriOf Tryz.prog 92 Tryz.f92 z5l:=triOf Tryz.func92 zb9
abbrev zik:FuncId:=93
def z7s:Fm VE:=
 (.ite (.cmp .eql (.atom 0) (.int .i64 0))
  (.leaf (.sc (.pick (.pick (.scmp .eql (.atom 2) (.str [])) (.cmp .eql (.len (.atom 3)) (.int .i64 0)) (.bool false)) (.pick (.cmp .eql (.atom 1) (.int .i64 0)) (.bool true) (.cmp .eql (.atom 1) (.int .i64 1))) (.bool false))))
  (.ite (.cmp .eql (.atom 0) (.int .i64 1))
   (.leaf (.sc (.pick (.pick (.pick (.scmp .eql (.atom 2) (.str [])) (.cmp .eql (.len (.atom 3)) (.int .i64 0)) (.bool false)) (.cmp .geq (.atom 1) (.int .i64 (-1152921504606846976))) (.bool false)) (.cmp .lss (.atom 1) (.int .i64 1152921504606846976)) (.bool false))))
   (.ite (.cmp .eql (.atom 0) (.int .i64 2))
    (.leaf (.sc (.pick (.pick (.pick (.scmp .eql (.atom 2) (.str [])) (.cmp .eql (.len (.atom 3)) (.int .i64 0)) (.bool false)) (.cmp .geq (.atom 1) (.int .i64 0)) (.bool false)) (.cmp .leq (.atom 1) (.int .i64 255)) (.bool false))))
    (.ite (.cmp .eql (.atom 0) (.int .i64 3))
     (.leaf (.sc (.pick (.pick (.cmp .eql (.atom 1) (.int .i64 0)) (.cmp .eql (.len (.atom 3)) (.int .i64 0)) (.bool false)) (.cmp .leq (.slen (.atom 2)) (.int .i64 4096)) (.bool false))))
     (.ite (.cmp .eql (.atom 0) (.int .i64 4))
      (.join 10 [.bool]
       (.leaf (.sc (.atom 4)))
       (.ite (.pick (.cmp .eql (.atom 1) (.int .i64 0)) (.cmp .eql (.len (.atom 3)) (.int .i64 0)) (.bool false))
        (.call (.fn 70) [.sc (.atom 2)] (.sc .bool) []
        (.next 10 [.atom 4]))
        (.next 10 [.bool false])))
      (.ite (.pick (.cmp .eql (.atom 0) (.int .i64 5)) (.cmp .eql (.atom 0) (.int .i64 5)) (.cmp .eql (.atom 0) (.int .i64 7)))
       (.leaf (.sc (.pick (.cmp .eql (.atom 1) (.int .i64 0)) (.scmp .eql (.atom 2) (.str [])) (.bool false))))
       (.ite (.cmp .eql (.atom 0) (.int .i64 6))
        (.join 14 [.bool]
         (.leaf (.sc (.atom 4)))
         (.chk [((.pick (.pick (.cmp .eql (.atom 1) (.int .i64 0)) (.scmp .eql (.atom 2) (.str [])) (.bool false)) (.cmp .geq (.len (.atom 3)) (.int .i64 2)) (.bool false)),true)] (.inSl (.atom 3) (.ar .sub .i64 (.len (.atom 3)) (.int .i64 1)))
         (.chk [((.pick (.pick (.cmp .eql (.atom 1) (.int .i64 0)) (.scmp .eql (.atom 2) (.str [])) (.bool false)) (.cmp .geq (.len (.atom 3)) (.int .i64 2)) (.bool false)),true)] (.some (.elt (.atom 3) (.ar .sub .i64 (.len (.atom 3)) (.int .i64 1)) 4))
         (.ite (.pick (.pick (.cmp .eql (.atom 1) (.int .i64 0)) (.scmp .eql (.atom 2) (.str [])) (.bool false)) (.cmp .geq (.len (.atom 3)) (.int .i64 2)) (.bool false))
          (.load (.padd (.elt (.atom 3) (.ar .sub .i64 (.len (.atom 3)) (.int .i64 1)) 4) 0) [.int .i64]
          (.chk [((.cmp .neq (.atom 4) (.int .i64 5)),true)] (.inSl (.atom 3) (.ar .sub .i64 (.len (.atom 3)) (.int .i64 1)))
          (.chk [((.cmp .neq (.atom 4) (.int .i64 5)),true)] (.some (.elt (.atom 3) (.ar .sub .i64 (.len (.atom 3)) (.int .i64 1)) 4))
          (.ite (.cmp .neq (.atom 4) (.int .i64 5))
           (.load (.padd (.elt (.atom 3) (.ar .sub .i64 (.len (.atom 3)) (.int .i64 1)) 4) 0) [.int .i64]
           (.next 14 [(.cmp .neq (.atom 5) (.int .i64 6))]))
           (.next 14 [.bool false])))))
          (.next 14 [.bool false])))))
        (.leaf (.sc (.bool false))))))))))
theorem zd0:execF Tryz.prog { pub:=[],nojoin:=false } Tryz.f93=z7s:=by kernel_rfl
theorem zga:callB Tryz.prog 93=true:=by kernel_rfl
theorem zez:TriOf Tryz.prog 93 Tryz.f93 z7s:=triOf Tryz.func93 zd0
abbrev z8w:FuncId:=103
def z34:Fm VE:=
 (.loop 3 [.int .i64,.int .i64] [.int .i64 0,.int .i64 0]
  (.ite (.cmp .lss (.atom 3) (.len (.atom 0)))
   (.chk [] (.inSl (.atom 0) (.atom 3))
   (.load (.elt (.atom 0) (.atom 3) 1) [.str]
   (.ite (.scmp .eql (.atom 1) (.atom 4))
    (.leaf (.sc (.atom 3)))
    (.next 3 [.atom 2,(.ar .add .i64 (.atom 3) (.int .i64 1))]))))
   (.leaf (.sc (.int .i64 (-1))))))
theorem z62:execF Tryz.prog { pub:=[],nojoin:=false } Tryz.f103=z34:=by kernel_rfl
theorem z81:callB Tryz.prog 103=true:=by kernel_rfl
theorem z78:TriOf Tryz.prog 103 Tryz.f103 z34:=triOf Tryz.func103 z62
abbrev zq5:FuncId:=104
def zfs:Fm VE:=
 (.leaf (.sc (.pick (.cmp .geq (.atom 0) (.int .u8 48)) (.cmp .leq (.atom 0) (.int .u8 57)) (.bool false))))
theorem zkt:execF Tryz.prog { pub:=[],nojoin:=false } Tryz.f104=zfs:=by kernel_rfl
theorem zfu:callB Tryz.prog 104=true:=by kernel_rfl
theorem zny:TriOf Tryz.prog 104 Tryz.f104 zfs:=triOf Tryz.func104 zkt
abbrev zke:FuncId:=105
theorem zj6:callB Tryz.prog 105=true:=by kernel_rfl
abbrev zi0:FuncId:=106
def z7v:Fm VE:=
 (.chk [] (.some (.atom 0))
 (.load (.padd (.atom 0) 0) [.int .i64]
 (.ite (.cmp .eql (.atom 6) (.int .i64 4096))
  (.leaf (.sc (.int .i64 22)))
  (.load (.padd (.atom 0) 0) [.int .i64]
  (.store (.padd (.atom 0) 0) [(.ar .add .i64 (.atom 7) (.int .i64 1))]
  (.call (.fn 112) [(.ag [.atom 1,.atom 2,.atom 3,.atom 4])] (.sc .bool) []
  (.ite (.pick (.atom 8) (.cmp .eql (.atom 5) (.int .i64 32)) (.bool false))
   (.leaf (.sc (.int .i64 21)))
   (.call (.fn 113) [(.ag [.atom 1,.atom 2,.atom 3,.atom 4])] (.sc .bool) []
   (.ite (.not (.atom 9))
    (.leaf (.sc (.int .i64 20)))
    (.loop 10 [.int .i64,.int .i64] [.int .i64 0,.int .i64 0]
     (.ite (.cmp .lss (.atom 11) (.len (.atom 4)))
      (.chk [] (.inSl (.atom 4) (.atom 11))
      (.load (.elt (.atom 4) (.atom 11) 4) [.int .i64,.int .i64,.str,.sl]
      (.call (.fn 106) [.sc (.atom 0),(.ag [.atom 12,.atom 13,.atom 14,.atom 15]),(.sc (.ar .add .i64 (.atom 5) (.int .i64 1)))] (.sc (.int .i64)) []
      (.ite (.cmp .neq (.atom 16) (.int .i64 0))
       (.leaf (.sc (.atom 16)))
       (.next 10 [.atom 10,(.ar .add .i64 (.atom 11) (.int .i64 1))])))))
      (.leaf (.sc (.int .i64 0))))))))))))))
theorem zd3:execF Tryz.prog { pub:=[],nojoin:=false } Tryz.f106=z7v:=by kernel_rfl
theorem z72:callB Tryz.prog 106=true:=by kernel_rfl
theorem zf7:TriOf Tryz.prog 106 Tryz.f106 z7v:=triOf Tryz.func106 zd3
abbrev zgp:FuncId:=108
def z67:Fm VE:=
 (.leaf (.sc (.pick (.cmp .geq (.atom 0) (.int .u8 48)) (.cmp .leq (.atom 0) (.int .u8 57)) (.bool false))))
theorem zcf:execF Tryz.prog { pub:=[],nojoin:=false } Tryz.f108=z67:=by kernel_rfl
theorem z6a:callB Tryz.prog 108=true:=by kernel_rfl
theorem zed:TriOf Tryz.prog 108 Tryz.f108 z67:=triOf Tryz.func108 zcf
abbrev zon:FuncId:=112
def zeo:Fm VE:=
 (.leaf (.sc (.pick (.cmp .geq (.atom 0) (.int .i64 5)) (.cmp .leq (.atom 0) (.int .i64 7)) (.bool false))))
theorem zkg:execF Tryz.prog { pub:=[],nojoin:=false } Tryz.f112=zeo:=by kernel_rfl
theorem ze5:callB Tryz.prog 112=true:=by kernel_rfl
theorem zm7:TriOf Tryz.prog 112 Tryz.f112 zeo:=triOf Tryz.func112 zkg
abbrev zwd:FuncId:=113
def zkr:Fm VE:=
 (.join 2 [.int .i64,.str]
  (.join 4 [.bool]
   (.ite (.atom 6)
    (.leaf (.sc (.bool false)))
    (.ite (.cmp .eql (.atom 0) (.int .i64 4))
     (.call (.fn 63) [.sc (.atom 2)] (.sc .bool) []
     (.leaf (.sc (.atom 7))))
     (.ite (.cmp .eql (.atom 0) (.int .i64 6))
      (.join 9 [.bool]
       (.leaf (.sc (.atom 7)))
       (.chk [((.cmp .gtr (.len (.atom 3)) (.int .i64 1)),true)] (.inSl (.atom 3) (.ar .sub .i64 (.len (.atom 3)) (.int .i64 1)))
       (.chk [((.cmp .gtr (.len (.atom 3)) (.int .i64 1)),true)] (.some (.elt (.atom 3) (.ar .sub .i64 (.len (.atom 3)) (.int .i64 1)) 4))
       (.ite (.cmp .gtr (.len (.atom 3)) (.int .i64 1))
        (.load (.padd (.elt (.atom 3) (.ar .sub .i64 (.len (.atom 3)) (.int .i64 1)) 4) 0) [.int .i64]
        (.chk [((.cmp .neq (.atom 7) (.int .i64 5)),true)] (.inSl (.atom 3) (.ar .sub .i64 (.len (.atom 3)) (.int .i64 1)))
        (.chk [((.cmp .neq (.atom 7) (.int .i64 5)),true)] (.some (.elt (.atom 3) (.ar .sub .i64 (.len (.atom 3)) (.int .i64 1)) 4))
        (.ite (.cmp .neq (.atom 7) (.int .i64 5))
         (.load (.padd (.elt (.atom 3) (.ar .sub .i64 (.len (.atom 3)) (.int .i64 1)) 4) 0) [.int .i64]
         (.next 9 [(.cmp .neq (.atom 8) (.int .i64 6))]))
         (.next 9 [.bool false])))))
        (.next 9 [.bool false])))))
      (.leaf (.sc (.pick (.cmp .geq (.atom 0) (.int .i64 0)) (.cmp .lss (.atom 0) (.int .i64 8)) (.bool false)))))))
   (.ite (.pick (.cmp .neq (.atom 1) (.atom 4)) (.bool true) (.scmp .neq (.atom 2) (.atom 5)))
    (.next 4 [.bool true])
    (.ite (.cmp .gtr (.len (.atom 3)) (.int .i64 0))
     (.call (.fn 112) [(.ag [.atom 0,.atom 1,.atom 2,.atom 3])] (.sc .bool) []
     (.next 4 [(.not (.atom 6))]))
     (.next 4 [.bool false]))))
  (.ite (.cmp .eql (.atom 0) (.int .i64 0))
   (.next 2 [(.ar .and .i64 (.atom 1) (.int .i64 1)),(.str [])])
   (.ite (.cmp .eql (.atom 0) (.int .i64 1))
    (.next 2 [(.pick (.cmp .lss (.int .i64 1152921504606846975) (.pick (.cmp .gtr (.int .i64 (-1152921504606846976)) (.atom 1)) (.int .i64 (-1152921504606846976)) (.atom 1))) (.int .i64 1152921504606846975) (.pick (.cmp .gtr (.int .i64 (-1152921504606846976)) (.atom 1)) (.int .i64 (-1152921504606846976)) (.atom 1))),(.str [])])
    (.ite (.cmp .eql (.atom 0) (.int .i64 2))
     (.next 2 [(.ar .and .i64 (.atom 1) (.int .i64 255)),(.str [])])
     (.ite (.cmp .eql (.atom 0) (.int .i64 3))
      (.chk [] (.sub (.slen (.atom 2)) (.int .i64 0) (.pick (.cmp .lss (.int .i64 4096) (.slen (.atom 2))) (.int .i64 4096) (.slen (.atom 2))))
      (.next 2 [.int .i64 0,(.ssub (.atom 2) (.int .i64 0) (.pick (.cmp .lss (.int .i64 4096) (.slen (.atom 2))) (.int .i64 4096) (.slen (.atom 2))))]))
      (.next 2 [.int .i64 0,(.pick (.cmp .eql (.atom 0) (.int .i64 4)) (.atom 2) (.str []))]))))))
theorem zpc:execF Tryz.prog { pub:=[],nojoin:=false } Tryz.f113=zkr:=by kernel_rfl
theorem zt6:callB Tryz.prog 113=true:=by kernel_rfl
theorem zs3:TriOf Tryz.prog 113 Tryz.f113 zkr:=triOf Tryz.func113 zpc
abbrev zbh:FuncId:=5
def z4h:Fm VE:=
 (.call (.fn 7) [] (.sc .bool) []
 (.ite (.pick (.not (.atom 2)) (.bool true) (.cmp .gtr (.len (.atom 0)) (.int .i64 24)))
  (.call (.fn 7) [] (.sc .bool) []
  (.leaf (.sc (.atom 3))))
  (.call (.fn 11) [.sc (.int .i64 0)] (.ag [.int .i64,.str,.sl,.int .i64,.int .i64,.str,.sl,.sl]) []
  (.loop 6 [.int .i64,.int .i64,.str,.sl,.int .i64,.int .i64,.str,.sl,.sl] [(.ar .sub .i64 (.len (.atom 0)) (.int .i64 1)),.atom 3,.atom 4,.atom 5,.atom 6,.atom 7,.atom 8,.atom 9,.atom 10]
   (.ite (.cmp .geq (.atom 11) (.int .i64 0))
    (.join 9 [.int .i64,.str,.sl,.int .i64,.int .i64,.str,.sl,.sl]
     (.next 6 [(.ar .sub .i64 (.atom 11) (.int .i64 1)),.atom 20,.atom 21,.atom 22,.atom 23,.atom 24,.atom 25,.atom 26,.atom 27])
     (.chk [] (.inSl (.atom 0) (.atom 11))
     (.load (.elt (.atom 0) (.atom 11) 1) [.int .u8]
     (.call (.fn 11) [(.sc (.conv .i64 (.atom 20)))] (.ag [.int .i64,.str,.sl,.int .i64,.int .i64,.str,.sl,.sl]) []
     (.sem (.buildSlice 26 1 #[(0,(.tmp 31))]) 26 [(31,(.ag [.atom 21,.atom 22,.atom 23,.atom 24,.atom 25,.atom 26,.atom 27,.atom 28]))] (.sc .sl) []
     (.call (.fn 12) [(.sc (.str [119,114,105,116,101,45,117,56])),.sc (.atom 29)] (.ag [.int .i64,.str,.sl,.int .i64,.int .i64,.str,.sl,.sl]) []
     (.ite (.cmp .eql (.ar .rem .i64 (.ar .add .i64 (.ar .rem .i64 (.atom 1) (.int .i64 3)) (.int .i64 3)) (.int .i64 3)) (.int .i64 0))
      (.sem (.buildSlice 26 2 #[(0,(.tmp 40)),(1,(.tmp 41))]) 26 [(40,(.ag [.atom 30,.atom 31,.atom 32,.atom 33,.atom 34,.atom 35,.atom 36,.atom 37])),(41,(.ag [.atom 12,.atom 13,.atom 14,.atom 15,.atom 16,.atom 17,.atom 18,.atom 19]))] (.sc .sl) []
      (.call (.fn 12) [(.sc (.str [101,113,63])),.sc (.atom 38)] (.ag [.int .i64,.str,.sl,.int .i64,.int .i64,.str,.sl,.sl]) []
      (.next 9 [.atom 39,.atom 40,.atom 41,.atom 42,.atom 43,.atom 44,.atom 45,.atom 46])))
      (.ite (.cmp .eql (.ar .rem .i64 (.ar .add .i64 (.ar .rem .i64 (.atom 1) (.int .i64 3)) (.int .i64 3)) (.int .i64 3)) (.int .i64 1))
       (.sem (.buildSlice 26 2 #[(0,(.tmp 46)),(1,(.tmp 47))]) 26 [(46,(.ag [.atom 30,.atom 31,.atom 32,.atom 33,.atom 34,.atom 35,.atom 36,.atom 37])),(47,(.ag [.atom 12,.atom 13,.atom 14,.atom 15,.atom 16,.atom 17,.atom 18,.atom 19]))] (.sc .sl) []
       (.call (.fn 12) [(.sc (.str [99,111,110,115])),.sc (.atom 38)] (.ag [.int .i64,.str,.sl,.int .i64,.int .i64,.str,.sl,.sl]) []
       (.sem (.buildSlice 26 1 #[(0,(.tmp 49))]) 26 [(49,(.ag [.atom 39,.atom 40,.atom 41,.atom 42,.atom 43,.atom 44,.atom 45,.atom 46]))] (.sc .sl) []
       (.call (.fn 12) [(.sc (.str [99,97,114])),.sc (.atom 47)] (.ag [.int .i64,.str,.sl,.int .i64,.int .i64,.str,.sl,.sl]) []
       (.next 9 [.atom 48,.atom 49,.atom 50,.atom 51,.atom 52,.atom 53,.atom 54,.atom 55])))))
       (.ite (.cmp .eql (.ar .rem .i64 (.ar .add .i64 (.ar .rem .i64 (.atom 1) (.int .i64 3)) (.int .i64 3)) (.int .i64 3)) (.int .i64 2))
        (.call (.fn 11) [.sc (.int .i64 1)] (.ag [.int .i64,.str,.sl,.int .i64,.int .i64,.str,.sl,.sl]) []
        (.sem (.buildSlice 26 3 #[(0,(.tmp 54)),(1,(.tmp 55)),(2,(.tmp 56))]) 26 [(54,(.ag [.atom 30,.atom 31,.atom 32,.atom 33,.atom 34,.atom 35,.atom 36,.atom 37])),(55,(.ag [.atom 12,.atom 13,.atom 14,.atom 15,.atom 16,.atom 17,.atom 18,.atom 19])),(56,(.ag [.atom 38,.atom 39,.atom 40,.atom 41,.atom 42,.atom 43,.atom 44,.atom 45]))] (.sc .sl) []
        (.next 9 [.int .i64 3,(.str []),(.nil 1),.int .i64 0,.int .i64 0,(.str []),(.nil 1),.atom 46])))
        (.next 9 [.atom 12,.atom 13,.atom 14,.atom 15,.atom 16,.atom 17,.atom 18,.atom 19]))))))))))
    (.call (.fn 6) [(.ag [.atom 12,.atom 13,.atom 14,.atom 15,.atom 16,.atom 17,.atom 18,.atom 19])] (.tu [(true,[.int .i64,.str,.sl,.int .i64,.int .i64,.str,.sl,.sl]),(false,[.int .i64])]) []
    (.ite (.cmp .neq (.atom 28) (.int .i64 0))
     (.join 12 [.bool]
      (.leaf (.sc (.atom 29)))
      (.ite (.cmp .eql (.atom 28) (.int .i64 101))
       (.call (.fn 13) [(.ag [.atom 12,.atom 13,.atom 14,.atom 15,.atom 16,.atom 17,.atom 18,.atom 19])] (.sc .bool) []
       (.next 12 [(.not (.atom 29))]))
       (.next 12 [.bool false])))
     (.join 12 [.bool]
      (.leaf (.sc (.atom 29)))
      (.call (.fn 8) [(.ag [.atom 12,.atom 13,.atom 14,.atom 15,.atom 16,.atom 17,.atom 18,.atom 19]),(.ag [.atom 20,.atom 21,.atom 22,.atom 23,.atom 24,.atom 25,.atom 26,.atom 27]),.sc (.atom 28)] (.sc .bool) []
      (.ite (.atom 29)
       (.call (.fn 14) [(.ag [.atom 12,.atom 13,.atom 14,.atom 15,.atom 16,.atom 17,.atom 18,.atom 19]),(.ag [.atom 20,.atom 21,.atom 22,.atom 23,.atom 24,.atom 25,.atom 26,.atom 27]),(.sc (.nil 1)),(.sc (.str [])),.sc (.int .i64 4),.sc (.int .i64 4)] (.sc .bool) []
       (.next 12 [.atom 30]))
       (.next 12 [.bool false])))))))))))
theorem z91:execF Tryz.prog { pub:=[],nojoin:=false } Tryz.f5=z4h:=by kernel_rfl
theorem za7:TriOf Tryz.prog 5 Tryz.f5 z4h:=triOf Tryz.func5 z91
abbrev zy7:FuncId:=6
def zmo:Fm VE:=
 (.join 3 [.bool]
  (.ite (.atom 8)
   (.leaf (.tu [(true,[.int .i64 0,(.str []),(.nil 1),.int .i64 0,.int .i64 0,(.str []),(.nil 1),(.nil 1)]),(false,[.int .i64 100])]))
   (.sem (.makeMap 44 none) 44 [] (.sc .map) []
   (.new 46 [.atom 9,.int .i64 0]
   (.call (.fn 18) [.sc (.atom 10),(.ag [.atom 0,.atom 1,.atom 2,.atom 3,.atom 4,.atom 5,.atom 6,.atom 7])] (.tu []) []
   (.call (.fn 20) [.sc (.atom 10),(.ag [.atom 0,.atom 1,.atom 2,.atom 3,.atom 4,.atom 5,.atom 6,.atom 7])] (.ag [.int .i64,.str,.sl,.int .i64,.int .i64,.str,.sl,.sl]) []
   (.call (.fn 19) [(.ag [.atom 11,.atom 12,.atom 13,.atom 14,.atom 15,.atom 16,.atom 17,.atom 18])] (.tu [(true,[.int .i64,.str,.sl,.int .i64,.int .i64,.str,.sl,.sl]),(false,[.int .i64])]) []
   (.leaf (.tu [(true,[.atom 19,.atom 20,.atom 21,.atom 22,.atom 23,.atom 24,.atom 25,.atom 26]),(false,[.atom 27])]))))))))
  (.call (.fn 16) [(.ag [.atom 0,.atom 1,.atom 2,.atom 3,.atom 4,.atom 5,.atom 6,.atom 7])] (.sc (.int .i64)) []
  (.ite (.cmp .neq (.atom 8) (.int .i64 0))
   (.next 3 [.bool true])
   (.call (.fn 17) [(.ag [.atom 0,.atom 1,.atom 2,.atom 3,.atom 4,.atom 5,.atom 6,.atom 7]),(.sc (.fn 15))] (.sc .bool) []
   (.next 3 [.atom 9])))))
theorem zq0:execF Tryz.prog { pub:=[17],nojoin:=false } Tryz.f6=zmo:=by kernel_rfl
theorem zh4:callB Tryz.prog 6=true:=by kernel_rfl
theorem zsw:TriOf Tryz.prog 6 Tryz.f6 zmo:=triOf Tryz.func6 zq0
abbrev zgj:FuncId:=7
def z6m:Fm VE:=
 (.call (.fn 11) [.sc (.int .i64 1)] (.ag [.int .i64,.str,.sl,.int .i64,.int .i64,.str,.sl,.sl]) []
 (.call (.fn 11) [.sc (.int .i64 2)] (.ag [.int .i64,.str,.sl,.int .i64,.int .i64,.str,.sl,.sl]) []
 (.call (.fn 11) [.sc (.int .i64 3)] (.ag [.int .i64,.str,.sl,.int .i64,.int .i64,.str,.sl,.sl]) []
 (.sem (.buildSlice 26 2 #[(0,(.tmp 7)),(1,(.tmp 8))]) 26 [(7,(.ag [.atom 8,.atom 9,.atom 10,.atom 11,.atom 12,.atom 13,.atom 14,.atom 15])),(8,(.ag [.atom 16,.atom 17,.atom 18,.atom 19,.atom 20,.atom 21,.atom 22,.atom 23]))] (.sc .sl) []
 (.call (.fn 12) [(.sc (.str [42])),.sc (.atom 24)] (.ag [.int .i64,.str,.sl,.int .i64,.int .i64,.str,.sl,.sl]) []
 (.sem (.buildSlice 26 2 #[(0,(.tmp 6)),(1,(.tmp 10))]) 26 [(6,(.ag [.atom 0,.atom 1,.atom 2,.atom 3,.atom 4,.atom 5,.atom 6,.atom 7])),(10,(.ag [.atom 25,.atom 26,.atom 27,.atom 28,.atom 29,.atom 30,.atom 31,.atom 32]))] (.sc .sl) []
 (.call (.fn 12) [(.sc (.str [43])),.sc (.atom 33)] (.ag [.int .i64,.str,.sl,.int .i64,.int .i64,.str,.sl,.sl]) []
 (.call (.fn 6) [(.ag [.atom 34,.atom 35,.atom 36,.atom 37,.atom 38,.atom 39,.atom 40,.atom 41])] (.tu [(true,[.int .i64,.str,.sl,.int .i64,.int .i64,.str,.sl,.sl]),(false,[.int .i64])]) []
 (.call (.fn 11) [.sc (.int .i64 1)] (.ag [.int .i64,.str,.sl,.int .i64,.int .i64,.str,.sl,.sl]) []
 (.sem (.buildSlice 26 1 #[(0,(.tmp 19))]) 26 [(19,(.ag [.atom 51,.atom 52,.atom 53,.atom 54,.atom 55,.atom 56,.atom 57,.atom 58]))] (.sc .sl) []
 (.call (.fn 6) [(.ag [.int .i64 2,(.str [120]),(.nil 1),.int .i64 0,.int .i64 0,(.str []),(.nil 1),.atom 59])] (.tu [(true,[.int .i64,.str,.sl,.int .i64,.int .i64,.str,.sl,.sl]),(false,[.int .i64])]) []
 (.join 4 [.bool]
  (.leaf (.sc (.atom 69)))
  (.ite (.cmp .eql (.atom 50) (.int .i64 0))
   (.call (.fn 9) [(.ag [.atom 42,.atom 43,.atom 44,.atom 45,.atom 46,.atom 47,.atom 48,.atom 49])] (.sc .bool) []
   (.ite (.atom 69)
    (.call (.fn 14) [(.ag [.atom 34,.atom 35,.atom 36,.atom 37,.atom 38,.atom 39,.atom 40,.atom 41]),(.ag [.atom 42,.atom 43,.atom 44,.atom 45,.atom 46,.atom 47,.atom 48,.atom 49]),(.sc (.nil 1)),(.sc (.str [])),.sc (.int .i64 4),.sc (.int .i64 4)] (.sc .bool) []
    (.next 4 [(.pick (.atom 70) (.cmp .eql (.atom 68) (.int .i64 100)) (.bool false))]))
    (.next 4 [.bool false])))
   (.next 4 [.bool false]))))))))))))))
theorem zbq:execF Tryz.prog { pub:=[],nojoin:=false } Tryz.f7=z6m:=by kernel_rfl
theorem z65:callB Tryz.prog 7=true:=by kernel_rfl
theorem zeu:TriOf Tryz.prog 7 Tryz.f7 z6m:=triOf Tryz.func7 zbq
abbrev zhm:FuncId:=8
def z7m:Fm VE:=
 (.join 2 [.bool]
  (.ite (.atom 17)
   (.join 3 [.bool]
    (.leaf (.sc (.atom 18)))
    (.ite (.cmp .eql (.atom 16) (.int .i64 100))
     (.call (.fn 10) [(.ag [.atom 8,.atom 9,.atom 10,.atom 11,.atom 12,.atom 13,.atom 14,.atom 15]),(.ag [.int .i64 0,(.str []),(.nil 1),.int .i64 0,.int .i64 0,(.str []),(.nil 1),(.nil 1)])] (.sc .bool) []
     (.next 3 [.atom 18]))
     (.next 3 [.bool false])))
   (.ite (.cmp .neq (.atom 16) (.int .i64 0))
    (.join 5 [.bool]
     (.leaf (.sc (.atom 18)))
     (.ite (.cmp .eql (.atom 16) (.int .i64 101))
      (.call (.fn 10) [(.ag [.atom 8,.atom 9,.atom 10,.atom 11,.atom 12,.atom 13,.atom 14,.atom 15]),(.ag [.int .i64 0,(.str []),(.nil 1),.int .i64 0,.int .i64 0,(.str []),(.nil 1),(.nil 1)])] (.sc .bool) []
      (.ite (.atom 18)
       (.call (.fn 13) [(.ag [.atom 0,.atom 1,.atom 2,.atom 3,.atom 4,.atom 5,.atom 6,.atom 7])] (.sc .bool) []
       (.next 5 [(.not (.atom 19))]))
       (.next 5 [.bool false])))
      (.next 5 [.bool false])))
    (.join 5 [.bool]
     (.leaf (.sc (.atom 18)))
     (.call (.fn 21) [(.ag [.atom 8,.atom 9,.atom 10,.atom 11,.atom 12,.atom 13,.atom 14,.atom 15])] (.sc (.int .i64)) []
     (.ite (.cmp .eql (.atom 18) (.int .i64 0))
      (.call (.fn 22) [(.ag [.atom 8,.atom 9,.atom 10,.atom 11,.atom 12,.atom 13,.atom 14,.atom 15]),.sc (.int .i64 9)] (.sc .bool) []
      (.ite (.not (.atom 19))
       (.call (.fn 22) [(.ag [.atom 8,.atom 9,.atom 10,.atom 11,.atom 12,.atom 13,.atom 14,.atom 15]),.sc (.int .i64 2)] (.sc .bool) []
       (.ite (.not (.atom 20))
        (.call (.fn 9) [(.ag [.atom 8,.atom 9,.atom 10,.atom 11,.atom 12,.atom 13,.atom 14,.atom 15])] (.sc .bool) []
        (.ite (.atom 21)
         (.call (.fn 24) [(.ag [.atom 8,.atom 9,.atom 10,.atom 11,.atom 12,.atom 13,.atom 14,.atom 15])] (.sc .sl) []
         (.call (.fn 24) [(.ag [.atom 0,.atom 1,.atom 2,.atom 3,.atom 4,.atom 5,.atom 6,.atom 7])] (.sc .sl) []
         (.call (.fn 23) [.sc (.atom 22),.sc (.atom 23)] (.sc .bool) []
         (.next 5 [.atom 24]))))
         (.next 5 [.bool false])))
        (.next 5 [.bool false])))
       (.next 5 [.bool false])))
      (.next 5 [.bool false]))))))
  (.call (.fn 21) [(.ag [.atom 0,.atom 1,.atom 2,.atom 3,.atom 4,.atom 5,.atom 6,.atom 7])] (.sc (.int .i64)) []
  (.ite (.cmp .neq (.atom 17) (.int .i64 0))
   (.next 2 [.bool true])
   (.call (.fn 22) [(.ag [.atom 0,.atom 1,.atom 2,.atom 3,.atom 4,.atom 5,.atom 6,.atom 7]),.sc (.int .i64 9)] (.sc .bool) []
   (.ite (.atom 18)
    (.next 2 [.bool true])
    (.call (.fn 22) [(.ag [.atom 0,.atom 1,.atom 2,.atom 3,.atom 4,.atom 5,.atom 6,.atom 7]),.sc (.int .i64 2)] (.sc .bool) []
    (.next 2 [.atom 19])))))))
theorem zd4:execF Tryz.prog { pub:=[],nojoin:=false } Tryz.f8=z7m:=by kernel_rfl
theorem zgu:callB Tryz.prog 8=true:=by kernel_rfl
theorem zfo:TriOf Tryz.prog 8 Tryz.f8 z7m:=triOf Tryz.func8 zd4
abbrev zg5:FuncId:=9
def z6l:Fm VE:=
 (.loop 3 [.bool,.int .i64] [.bool false,.int .i64 0]
  (.ite (.cmp .lss (.atom 9) (.len (.atom 7)))
   (.join 8 [.bool]
    (.ite (.atom 10)
     (.leaf (.sc (.bool false)))
     (.next 3 [.atom 8,(.ar .add .i64 (.atom 9) (.int .i64 1))]))
    (.chk [((.pick (.pick (.cmp .eql (.atom 0) (.int .i64 6)) (.bool true) (.cmp .eql (.atom 0) (.int .i64 7))) (.bool true) (.pick (.cmp .eql (.atom 0) (.int .i64 3)) (.cmp .eql (.atom 9) (.int .i64 0)) (.bool false))),true)] (.inSl (.atom 7) (.atom 9))
    (.ite (.pick (.pick (.cmp .eql (.atom 0) (.int .i64 6)) (.bool true) (.cmp .eql (.atom 0) (.int .i64 7))) (.bool true) (.pick (.cmp .eql (.atom 0) (.int .i64 3)) (.cmp .eql (.atom 9) (.int .i64 0)) (.bool false)))
     (.load (.elt (.atom 7) (.atom 9) 8) [.int .i64,.str,.sl,.int .i64,.int .i64,.str,.sl,.sl]
     (.call (.fn 25) [(.ag [.atom 10,.atom 11,.atom 12,.atom 13,.atom 14,.atom 15,.atom 16,.atom 17])] (.sc .bool) []
     (.chk [((.not (.atom 18)),false)] (.inSl (.atom 7) (.atom 9))
     (.ite (.not (.atom 18))
      (.next 8 [.bool true])
      (.load (.elt (.atom 7) (.atom 9) 8) [.int .i64,.str,.sl,.int .i64,.int .i64,.str,.sl,.sl]
      (.call (.fn 9) [(.ag [.atom 19,.atom 20,.atom 21,.atom 22,.atom 23,.atom 24,.atom 25,.atom 26])] (.sc .bool) []
      (.next 8 [(.not (.atom 27))])))))))
     (.chk [] (.inSl (.atom 7) (.atom 9))
     (.load (.elt (.atom 7) (.atom 9) 8) [.int .i64,.str,.sl,.int .i64,.int .i64,.str,.sl,.sl]
     (.call (.fn 9) [(.ag [.atom 10,.atom 11,.atom 12,.atom 13,.atom 14,.atom 15,.atom 16,.atom 17])] (.sc .bool) []
     (.next 8 [(.not (.atom 18))])))))))
   (.leaf (.sc (.bool true)))))
theorem zbw:execF Tryz.prog { pub:=[],nojoin:=false } Tryz.f9=z6l:=by kernel_rfl
theorem z2f:callB Tryz.prog 9=true:=by kernel_rfl
theorem zdq:TriOf Tryz.prog 9 Tryz.f9 z6l:=triOf Tryz.func9 zbw
abbrev zj0:FuncId:=11
def z8u:Fm VE:=
 (.leaf (.ag [.int .i64 0,(.str []),(.nil 1),.int .i64 1,.atom 0,(.str []),(.nil 1),(.nil 1)]))
theorem zel:execF Tryz.prog { pub:=[],nojoin:=false } Tryz.f11=z8u:=by kernel_rfl
theorem z13:callB Tryz.prog 11=true:=by kernel_rfl
theorem zgc:TriOf Tryz.prog 11 Tryz.f11 z8u:=triOf Tryz.func11 zel
abbrev zhi:FuncId:=12
def z7t:Fm VE:=
 (.leaf (.ag [.int .i64 7,.atom 0,(.nil 1),.int .i64 0,.int .i64 0,(.str []),(.nil 1),.atom 1]))
theorem zcj:execF Tryz.prog { pub:=[],nojoin:=false } Tryz.f12=z7t:=by kernel_rfl
theorem z1g:callB Tryz.prog 12=true:=by kernel_rfl
theorem zfa:TriOf Tryz.prog 12 Tryz.f12 z7t:=triOf Tryz.func12 zcj
abbrev zh9:FuncId:=13
def z6n:Fm VE:=
 (.join 1 [.bool]
  (.leaf (.sc (.atom 8)))
  (.call (.fn 27) [(.ag [.atom 0,.atom 1,.atom 2,.atom 3,.atom 4,.atom 5,.atom 6,.atom 7])] (.sc (.int .i64)) []
  (.ite (.cmp .leq (.atom 8) (.int .i64 400))
   (.call (.fn 28) [(.ag [.atom 0,.atom 1,.atom 2,.atom 3,.atom 4,.atom 5,.atom 6,.atom 7])] (.sc (.int .i64)) []
   (.next 1 [(.cmp .leq (.atom 9) (.int .i64 25))]))
   (.next 1 [.bool false]))))
theorem zbv:execF Tryz.prog { pub:=[],nojoin:=false } Tryz.f13=z6n:=by kernel_rfl
theorem z6p:callB Tryz.prog 13=true:=by kernel_rfl
theorem zds:TriOf Tryz.prog 13 Tryz.f13 z6n:=triOf Tryz.func13 zbv
abbrev zgl:FuncId:=14
def z6c:Fm VE:=
 (.call (.fn 29) [(.ag [.atom 0,.atom 1,.atom 2,.atom 3,.atom 4,.atom 5,.atom 6,.atom 7]),.sc (.atom 16)] (.ag [.int .i64,.str,.sl,.int .i64,.int .i64,.str,.sl,.sl]) []
 (.join 3 [.int .i64,.str,.sl,.int .i64,.int .i64,.str,.sl,.sl]
  (.call (.fn 30) [(.ag [.atom 20,.atom 21,.atom 22,.atom 23,.atom 24,.atom 25,.atom 26,.atom 27]),.sc (.atom 17),.sc (.int .i64 1500)] (.ag [.int .i64,.str,.int .i64,.int .i64,.str,.sl,.bool,.int .i64]) []
  (.ite (.pick (.cmp .eql (.atom 36) (.int .i64 93)) (.bool true) (.cmp .eql (.atom 36) (.int .i64 94)))
   (.leaf (.sc (.bool true)))
   (.call (.fn 30) [(.ag [.atom 28,.atom 29,.atom 30,.atom 31,.atom 32,.atom 33,.atom 34,.atom 35]),.sc (.atom 17),(.sc (.ar .add .i64 (.ar .mul .i64 (.atom 18) (.atom 43)) (.atom 19)))] (.ag [.int .i64,.str,.int .i64,.int .i64,.str,.sl,.bool,.int .i64]) []
   (.call (.fn 31) [(.ag [.atom 36,.atom 37,.atom 38,.atom 39,.atom 40,.atom 41,.atom 42,.atom 43]),(.ag [.atom 44,.atom 45,.atom 46,.atom 47,.atom 48,.atom 49,.atom 50,.atom 51])] (.sc .bool) []
   (.leaf (.sc (.atom 52)))))))
  (.call (.fn 24) [(.ag [.atom 0,.atom 1,.atom 2,.atom 3,.atom 4,.atom 5,.atom 6,.atom 7])] (.sc .sl) []
  (.ite (.cmp .gtr (.len (.atom 28)) (.int .i64 0))
   (.chk [] (.sub (.cap (.atom 27)) (.int .i64 0) (.len (.atom 22)))
   (.both
    (.sem (.buildSlice 26 0 #[]) 26 [] (.sc .sl) []
    (.both
     (.sem (.call ⟨.builtin .append,#[.tmp 26,.tmp 32],#[26,26]⟩) 26 [(26,(.sc (.atom 29))),(32,(.sc (.sls (.atom 27) (.int .i64 0) (.len (.atom 22)) 8)))] (.sc .sl) []
     (.sem (.buildSlice 26 1 #[(0,(.tmp 34))]) 26 [(34,(.ag [.atom 8,.atom 9,.atom 10,.atom 11,.atom 12,.atom 13,.atom 14,.atom 15]))] (.sc .sl) []
     (.sem (.call ⟨.builtin .append,#[.tmp 33,.tmp 35],#[26,26]⟩) 26 [(33,(.sc (.atom 30))),(35,(.sc (.atom 31)))] (.sc .sl) []
     (.next 3 [.atom 20,.atom 21,.atom 22,.atom 23,.atom 24,.atom 25,.atom 26,.atom 32]))))
     (.sem (.buildSlice 26 1 #[(0,(.tmp 34))]) 26 [(34,(.ag [.atom 8,.atom 9,.atom 10,.atom 11,.atom 12,.atom 13,.atom 14,.atom 15]))] (.sc .sl) []
     (.sem (.call ⟨.builtin .append,#[.tmp 26,.tmp 32],#[26,26]⟩) 26 [(26,(.sc (.atom 29))),(32,(.sc (.sls (.atom 27) (.int .i64 0) (.len (.atom 22)) 8)))] (.sc .sl) []
     (.sem (.call ⟨.builtin .append,#[.tmp 33,.tmp 35],#[26,26]⟩) 26 [(33,(.sc (.atom 31))),(35,(.sc (.atom 30)))] (.sc .sl) []
     (.next 3 [.atom 20,.atom 21,.atom 22,.atom 23,.atom 24,.atom 25,.atom 26,.atom 32]))))))
    (.sem (.buildSlice 26 1 #[(0,(.tmp 34))]) 26 [(34,(.ag [.atom 8,.atom 9,.atom 10,.atom 11,.atom 12,.atom 13,.atom 14,.atom 15]))] (.sc .sl) []
    (.sem (.buildSlice 26 0 #[]) 26 [] (.sc .sl) []
    (.sem (.call ⟨.builtin .append,#[.tmp 26,.tmp 32],#[26,26]⟩) 26 [(26,(.sc (.atom 30))),(32,(.sc (.sls (.atom 27) (.int .i64 0) (.len (.atom 22)) 8)))] (.sc .sl) []
    (.sem (.call ⟨.builtin .append,#[.tmp 33,.tmp 35],#[26,26]⟩) 26 [(33,(.sc (.atom 31))),(35,(.sc (.atom 29)))] (.sc .sl) []
    (.next 3 [.atom 20,.atom 21,.atom 22,.atom 23,.atom 24,.atom 25,.atom 26,.atom 32])))))))
   (.next 3 [.atom 8,.atom 9,.atom 10,.atom 11,.atom 12,.atom 13,.atom 14,.atom 15])))))
theorem zbt:execF Tryz.prog { pub:=[],nojoin:=false } Tryz.f14=z6c:=by kernel_rfl
theorem z6d:callB Tryz.prog 14=true:=by kernel_rfl
theorem ze4:TriOf Tryz.prog 14 Tryz.f14 z6c:=triOf Tryz.func14 zbt
abbrev z9m:FuncId:=15
def zk3:Fm VE:=
 (.leaf (.sc (.pick (.cmp .eql (.atom 0) (.int .i64 9)) (.bool true) (.cmp .eql (.atom 0) (.int .i64 2)))))
theorem znx:execF Tryz.prog { pub:=[],nojoin:=false } Tryz.f15=zk3:=by kernel_rfl
theorem zsh:callB Tryz.prog 15=true:=by kernel_rfl
theorem zqs:TriOf Tryz.prog 15 Tryz.f15 zk3:=triOf Tryz.func15 znx
abbrev zma:FuncId:=18
def zbb:Fm VE:=
 (.chk [] (.some (.atom 0))
 (.load (.padd (.atom 0) 0) [.map]
 (.sem (.mapUpdate 44 (.tmp 11) (.tmp 13) (.const (.int .i64 1))) 0 [(11,(.sc (.atom 9))),(13,(.sc (.atom 2)))] (.tu []) []
 (.loop 4 [.int .i64] [.int .i64 0]
  (.ite (.cmp .lss (.atom 10) (.len (.atom 3)))
   (.chk [] (.inSl (.atom 3) (.atom 10))
   (.load (.elt (.atom 3) (.atom 10) 1) [.str]
   (.load (.padd (.atom 0) 0) [.map]
   (.sem (.mapUpdate 44 (.tmp 24) (.tmp 25) (.const (.int .i64 1))) 0 [(24,(.sc (.atom 12))),(25,(.sc (.atom 11)))] (.tu []) []
   (.next 4 [(.ar .add .i64 (.atom 10) (.int .i64 1))])))))
   (.loop 8 [.int .i64] [.int .i64 0]
    (.ite (.cmp .lss (.atom 11) (.len (.atom 8)))
     (.chk [] (.inSl (.atom 8) (.atom 11))
     (.load (.elt (.atom 8) (.atom 11) 8) [.int .i64,.str,.sl,.int .i64,.int .i64,.str,.sl,.sl]
     (.call (.fn 18) [.sc (.atom 0),(.ag [.atom 12,.atom 13,.atom 14,.atom 15,.atom 16,.atom 17,.atom 18,.atom 19])] (.tu []) []
     (.next 8 [(.ar .add .i64 (.atom 11) (.int .i64 1))]))))
     (.leaf (.tu [])))))))))
theorem zim:execF Tryz.prog { pub:=[],nojoin:=false } Tryz.f18=zbb:=by kernel_rfl
theorem zbg:callB Tryz.prog 18=true:=by kernel_rfl
theorem zkh:TriOf Tryz.prog 18 Tryz.f18 zbb:=triOf Tryz.func18 zim
abbrev z45:FuncId:=20
def zbe:Fm VE:=
 (.ite (.pick (.cmp .eql (.atom 1) (.int .i64 6)) (.cmp .eql (.atom 1) (.int .i64 6)) (.cmp .eql (.atom 1) (.int .i64 7)))
  (.call (.fn 34) [.sc (.atom 0),(.ag [.atom 1,.atom 2,.atom 3,.atom 4,.atom 5,.atom 6,.atom 7,.atom 8]),(.sc (.len (.atom 8)))] (.ag [.int .i64,.str,.sl,.int .i64,.int .i64,.str,.sl,.sl]) []
  (.leaf (.ag [.atom 9,.atom 10,.atom 11,.atom 12,.atom 13,.atom 14,.atom 15,.atom 16])))
  (.ite (.cmp .eql (.atom 1) (.int .i64 3))
   (.call (.fn 34) [.sc (.atom 0),(.ag [.atom 1,.atom 2,.atom 3,.atom 4,.atom 5,.atom 6,.atom 7,.atom 8]),.sc (.int .i64 1)] (.ag [.int .i64,.str,.sl,.int .i64,.int .i64,.str,.sl,.sl]) []
   (.leaf (.ag [.atom 9,.atom 10,.atom 11,.atom 12,.atom 13,.atom 14,.atom 15,.atom 16])))
   (.sem (.makeFunc (.func 20) #[.tmp 22] #[]) 48 [(22,(.sc (.atom 0)))] (.sc .any) []
   (.call (.fn 35) [(.ag [.atom 1,.atom 2,.atom 3,.atom 4,.atom 5,.atom 6,.atom 7,.atom 8]),.sc (.atom 9)] (.ag [.int .i64,.str,.sl,.int .i64,.int .i64,.str,.sl,.sl]) []
   (.leaf (.ag [.atom 10,.atom 11,.atom 12,.atom 13,.atom 14,.atom 15,.atom 16,.atom 17]))))))
theorem zi2:execF Tryz.prog { pub:=[],nojoin:=false } Tryz.f20=zbe:=by kernel_rfl
theorem z3u:callB Tryz.prog 20=true:=by kernel_rfl
theorem zkf:TriOf Tryz.prog 20 Tryz.f20 zbe:=triOf Tryz.func20 zi2
abbrev zfm:FuncId:=25
def z5u:Fm VE:=
 (.leaf (.sc (.pick (.cmp .eql (.atom 0) (.int .i64 0)) (.bool true) (.cmp .eql (.atom 0) (.int .i64 1)))))
theorem zb8:execF Tryz.prog { pub:=[],nojoin:=false } Tryz.f25=z5u:=by kernel_rfl
theorem zet:callB Tryz.prog 25=true:=by kernel_rfl
theorem zcv:TriOf Tryz.prog 25 Tryz.f25 z5u:=triOf Tryz.func25 zb8
abbrev zio:FuncId:=28
def z7f:Fm VE:=
 (.loop 4 [.int .i64,.int .i64] [.int .i64 0,.int .i64 0]
  (.ite (.cmp .lss (.atom 9) (.len (.atom 7)))
   (.chk [] (.inSl (.atom 7) (.atom 9))
   (.load (.elt (.atom 7) (.atom 9) 8) [.int .i64,.str,.sl,.int .i64,.int .i64,.str,.sl,.sl]
   (.call (.fn 28) [(.ag [.atom 10,.atom 11,.atom 12,.atom 13,.atom 14,.atom 15,.atom 16,.atom 17])] (.sc (.int .i64)) []
   (.next 4 [(.pick (.cmp .gtr (.atom 18) (.atom 8)) (.atom 18) (.atom 8)),(.ar .add .i64 (.atom 9) (.int .i64 1))]))))
   (.leaf (.sc (.ar .add .i64 (.atom 8) (.int .i64 1))))))
theorem zd2:execF Tryz.prog { pub:=[],nojoin:=false } Tryz.f28=z7f:=by kernel_rfl
theorem z7u:callB Tryz.prog 28=true:=by kernel_rfl
theorem zfg:TriOf Tryz.prog 28 Tryz.f28 z7f:=triOf Tryz.func28 zd2
abbrev zf9:FuncId:=29
def z5v:Fm VE:=
 (.call (.fn 24) [(.ag [.atom 0,.atom 1,.atom 2,.atom 3,.atom 4,.atom 5,.atom 6,.atom 7])] (.sc .sl) []
 (.ite (.cmp .eql (.len (.atom 9)) (.int .i64 0))
  (.leaf (.ag [.atom 0,.atom 1,.atom 2,.atom 3,.atom 4,.atom 5,.atom 6,.atom 7]))
  (.loop 7 [.int .i64,.int .i64,.str,.sl,.int .i64,.int .i64,.str,.sl,.sl] [.int .i64 0,.int .i64 8,(.str []),.atom 9,.int .i64 0,.int .i64 0,(.str []),(.nil 1),(.nil 1)]
   (.ite (.cmp .lss (.atom 10) (.len (.atom 9)))
    (.join 12 [.int .i64,.int .i64,.str,.sl]
     (.sem (.buildSlice 26 1 #[(0,(.tmp 48))]) 26 [(48,(.ag [.int .i64 0,(.str []),(.nil 1),.atom 19,.atom 20,.atom 21,.atom 22,(.nil 1)]))] (.sc .sl) []
     (.sem (.call ⟨.builtin .append,#[.tmp 46,.tmp 49],#[26,26]⟩) 26 [(46,(.sc (.atom 18))),(49,(.sc (.atom 23)))] (.sc .sl) []
     (.next 7 [(.ar .add .i64 (.atom 10) (.int .i64 1)),.atom 11,.atom 12,.atom 13,.atom 14,.atom 15,.atom 16,.atom 17,.atom 24])))
     (.join 13 [.bool]
      (.ite (.atom 19)
       (.chk [] (.nz (.len (.atom 8)))
       (.chk [] (.inSl (.atom 8) (.ar .rem .i64 (.atom 10) (.len (.atom 8))))
       (.load (.elt (.atom 8) (.ar .rem .i64 (.atom 10) (.len (.atom 8))) 4) [.int .i64,.int .i64,.str,.sl]
       (.next 12 [.atom 20,.atom 21,.atom 22,.atom 23]))))
       (.next 12 [.int .i64 1,.atom 10,(.str []),(.nil 1)]))
      (.chk [((.cmp .gtr (.len (.atom 8)) (.int .i64 0)),true)] (.nz (.len (.atom 8)))
      (.chk [((.cmp .gtr (.len (.atom 8)) (.int .i64 0)),true)] (.inSl (.atom 8) (.ar .rem .i64 (.atom 10) (.len (.atom 8))))
      (.ite (.cmp .gtr (.len (.atom 8)) (.int .i64 0))
       (.load (.elt (.atom 8) (.ar .rem .i64 (.atom 10) (.len (.atom 8))) 4) [.int .i64,.int .i64,.str,.sl]
       (.call (.fn 38) [(.ag [.atom 19,.atom 20,.atom 21,.atom 22])] (.sc .bool) []
       (.next 13 [.atom 23])))
       (.next 13 [.bool false]))))))
    (.sem (.buildSlice 26 1 #[(0,(.tmp 54))]) 26 [(54,(.ag [.atom 0,.atom 1,.atom 2,.atom 3,.atom 4,.atom 5,.atom 6,.atom 7]))] (.sc .sl) []
    (.sem (.call ⟨.builtin .append,#[.tmp 53,.tmp 55],#[26,26]⟩) 26 [(53,(.sc (.atom 18))),(55,(.sc (.atom 19)))] (.sc .sl) []
    (.leaf (.ag [.atom 11,.atom 12,.atom 13,.atom 14,.atom 15,.atom 16,.atom 17,.atom 20]))))))))
theorem zb3:execF Tryz.prog { pub:=[],nojoin:=false } Tryz.f29=z5v:=by kernel_rfl
theorem zdy:callB Tryz.prog 29=true:=by kernel_rfl
theorem zd1:TriOf Tryz.prog 29 Tryz.f29 z5v:=triOf Tryz.func29 zb3
abbrev ziy:FuncId:=30
def z8l:Fm VE:=
 (.ite (.pick (.cmp .lss (.atom 9) (.int .i64 0)) (.bool true) (.cmp .gtr (.atom 9) (.int .i64 1000000)))
  (.leaf (.ag [.int .i64 1,(.str []),.int .i64 0,.int .i64 0,(.str []),(.nil 1),.bool false,.int .i64 0]))
  (.join 4 [.bool]
   (.ite (.atom 10)
    (.leaf (.ag [.int .i64 94,(.str []),.int .i64 0,.int .i64 0,(.str []),(.nil 1),.bool false,.int .i64 0]))
    (.new 71 [(.nil 1)]
    (.new 78 [.atom 11,(.nil 1),(.nil 1),.atom 8,(.nil 1),.int .i64 4,.int .i64 0,(.str []),.int .i64 0,.atom 9,(.nil 1),(.nil 1),.int .i64 0]
    (.call (.fn 39) [.sc (.atom 12),(.ag [.int .i64 0,.atom 0,.atom 1,.atom 2,.atom 3,.atom 4,.atom 5,.atom 6,.atom 7,(.nil 1),.int .i64 0])] (.tu []) []
    (.loop 8 [] []
     (.join 10 [.bool]
      (.ite (.atom 13)
       (.call (.fn 40) [.sc (.atom 12)] (.tu []) []
       (.next 8 []))
       (.join 11 [.ptr]
        (.join 12 []
         (.load (.atom 14) [.int .i64,.str,.int .i64,.int .i64,.str,.sl,.bool,.int .i64]
         (.leaf (.ag [.atom 15,.atom 16,.atom 17,.atom 18,.atom 19,.atom 20,.atom 21,.atom 22])))
         (.chk [] (.some (.atom 12))
         (.load (.padd (.atom 12) 12) [.int .i64]
         (.ite (.cmp .eql (.atom 15) (.int .i64 0))
          (.load (.padd (.atom 12) 0) [.ptr]
          (.load (.padd (.atom 12) 11) [.sl]
          (.chk [] (.inSl (.atom 17) (.int .i64 0))
          (.load (.elt (.atom 17) (.int .i64 0) 3) [.int .i64,.int .i64,.str]
          (.call (.fn 41) [.sc (.atom 16),(.ag [.atom 18,.atom 19,.atom 20])] (.tu [(true,[.int .i64,.int .i64,.str,.sl]),(false,[.bool])]) []
          (.chk [] (.some (.atom 14))
          (.store (.padd (.atom 14) 2) [.atom 21,.atom 22,.atom 23,.atom 24]
          (.store (.padd (.atom 14) 6) [.atom 25]
          (.next 12 [])))))))))
          (.next 12 [])))))
        (.chk [] (.some (.atom 12))
        (.load (.padd (.atom 12) 12) [.int .i64]
        (.load (.padd (.atom 12) 4) [.sl]
        (.load (.padd (.atom 12) 8) [.int .i64]
        (.both
         (.sem (.convert 36 9 (.tmp 59)) 9 [(59,(.sc (.atom 15)))] (.sc .str) [((.padd (.atom 12) 8),[.atom 16]),((.padd (.atom 12) 12),[.atom 14])]
         (.new 56 [.int .i64 0,(.str []),.int .i64 0,.int .i64 0,(.str []),(.nil 1),.bool false,.int .i64 0]
         (.store (.atom 18) [.atom 14,.atom 17,.int .i64 0,.int .i64 0,(.str []),(.nil 1),.bool false,.atom 16]
         (.next 11 [.atom 18]))))
         (.new 56 [.int .i64 0,(.str []),.int .i64 0,.int .i64 0,(.str []),(.nil 1),.bool false,.int .i64 0]
         (.sem (.convert 36 9 (.tmp 59)) 9 [(59,(.sc (.atom 15)))] (.sc .str) [((.padd (.atom 12) 8),[.atom 16]),((.padd (.atom 12) 12),[.atom 14])]
         (.store (.atom 17) [.atom 14,.atom 18,.int .i64 0,.int .i64 0,(.str []),(.nil 1),.bool false,.atom 16]
         (.next 11 [.atom 17])))))))))))
      (.chk [] (.some (.atom 12))
      (.load (.padd (.atom 12) 12) [.int .i64]
      (.ite (.cmp .eql (.atom 13) (.int .i64 0))
       (.load (.padd (.atom 12) 10) [.sl]
       (.next 10 [(.cmp .gtr (.len (.atom 14)) (.int .i64 0))]))
       (.next 10 [.bool false]))))))))))
   (.call (.fn 21) [(.ag [.atom 0,.atom 1,.atom 2,.atom 3,.atom 4,.atom 5,.atom 6,.atom 7])] (.sc (.int .i64)) []
   (.ite (.cmp .neq (.atom 10) (.int .i64 0))
    (.next 4 [.bool true])
    (.call (.fn 24) [(.ag [.atom 0,.atom 1,.atom 2,.atom 3,.atom 4,.atom 5,.atom 6,.atom 7])] (.sc .sl) []
    (.next 4 [(.cmp .gtr (.len (.atom 11)) (.int .i64 0))]))))))
theorem zdd:execF Tryz.prog { pub:=[8,27,32],nojoin:=false } Tryz.f30=z8l:=by kernel_rfl
theorem z8k:callB Tryz.prog 30=true:=by kernel_rfl
theorem zgh:TriOf Tryz.prog 30 Tryz.f30 z8l:=triOf Tryz.func30 zdd
abbrev zh2:FuncId:=31
def z64:Fm VE:=
 (.join 1 [.bool]
  (.leaf (.sc (.atom 16)))
  (.ite (.pick (.pick (.cmp .eql (.atom 0) (.atom 8)) (.scmp .eql (.atom 1) (.atom 9)) (.bool false)) (.beq (.atom 6) (.atom 14)) (.bool false))
   (.call (.fn 26) [(.ag [.atom 2,.atom 3,.atom 4,.atom 5]),(.ag [.atom 10,.atom 11,.atom 12,.atom 13])] (.sc .bool) []
   (.next 1 [.atom 16]))
   (.next 1 [.bool false])))
theorem zcb:execF Tryz.prog { pub:=[],nojoin:=false } Tryz.f31=z64:=by kernel_rfl
theorem zf8:callB Tryz.prog 31=true:=by kernel_rfl
theorem zeg:TriOf Tryz.prog 31 Tryz.f31 z64:=triOf Tryz.func31 zcb
abbrev zln:FuncId:=34
def za9:Fm VE:=
 (.sem (.buildSlice 26 0 #[]) 26 [] (.sc .sl) []
 (.sem (.call ⟨.builtin .append,#[.tmp 14,.tmp 16],#[26,26]⟩) 26 [(14,(.sc (.atom 10))),(16,(.sc (.atom 8)))] (.sc .sl) []
 (.loop 6 [.sl,.sl,.int .i64] [(.nil 1),(.nil 1),.int .i64 0]
  (.ite (.cmp .lss (.atom 14) (.atom 9))
   (.join 9 [.sl,.sl]
    (.next 6 [.atom 15,.atom 16,(.ar .add .i64 (.atom 14) (.int .i64 1))])
    (.chk [] (.inSl (.atom 11) (.atom 14))
    (.load (.elt (.atom 11) (.atom 14) 8) [.int .i64,.str,.sl,.int .i64,.int .i64,.str,.sl,.sl]
    (.call (.fn 44) [(.ag [.atom 15,.atom 16,.atom 17,.atom 18,.atom 19,.atom 20,.atom 21,.atom 22])] (.sc .bool) []
    (.ite (.not (.atom 23))
     (.call (.fn 45) [.sc (.atom 0)] (.sc .str) []
     (.load (.elt (.atom 11) (.atom 14) 8) [.int .i64,.str,.sl,.int .i64,.int .i64,.str,.sl,.sl]
     (.sem (.buildSlice 22 1 #[(0,(.tmp 31))]) 22 [(31,(.sc (.atom 24)))] (.sc .sl) [((.elt (.atom 11) (.atom 14) 8),[.atom 25,.atom 26,.atom 27,.atom 28,.atom 29,.atom 30,.atom 31,.atom 32])]
     (.sem (.call ⟨.builtin .append,#[.tmp 30,.tmp 32],#[22,22]⟩) 22 [(30,(.sc (.atom 12))),(32,(.sc (.atom 33)))] (.sc .sl) [((.elt (.atom 11) (.atom 14) 8),[.atom 25,.atom 26,.atom 27,.atom 28,.atom 29,.atom 30,.atom 31,.atom 32])]
     (.call (.fn 20) [.sc (.atom 0),(.ag [.atom 25,.atom 26,.atom 27,.atom 28,.atom 29,.atom 30,.atom 31,.atom 32])] (.ag [.int .i64,.str,.sl,.int .i64,.int .i64,.str,.sl,.sl]) []
     (.sem (.buildSlice 26 1 #[(0,(.tmp 40))]) 26 [(40,(.ag [.atom 35,.atom 36,.atom 37,.atom 38,.atom 39,.atom 40,.atom 41,.atom 42]))] (.sc .sl) []
     (.sem (.call ⟨.builtin .append,#[.tmp 34,.tmp 41],#[26,26]⟩) 26 [(34,(.sc (.atom 13))),(41,(.sc (.atom 43)))] (.sc .sl) []
     (.call (.fn 46) [.sc (.atom 24)] (.ag [.int .i64,.str,.sl,.int .i64,.int .i64,.str,.sl,.sl]) []
     (.store (.elt (.atom 11) (.atom 14) 8) [.atom 45,.atom 46,.atom 47,.atom 48,.atom 49,.atom 50,.atom 51,.atom 52]
     (.next 9 [.atom 34,.atom 44]))))))))))
     (.next 9 [.atom 12,.atom 13]))))))
   (.loop 11 [.int .i64] [.atom 9]
    (.ite (.cmp .lss (.atom 15) (.len (.atom 11)))
     (.chk [] (.inSl (.atom 11) (.atom 15))
     (.load (.elt (.atom 11) (.atom 15) 8) [.int .i64,.str,.sl,.int .i64,.int .i64,.str,.sl,.sl]
     (.call (.fn 20) [.sc (.atom 0),(.ag [.atom 16,.atom 17,.atom 18,.atom 19,.atom 20,.atom 21,.atom 22,.atom 23])] (.ag [.int .i64,.str,.sl,.int .i64,.int .i64,.str,.sl,.sl]) []
     (.store (.elt (.atom 11) (.atom 15) 8) [.atom 24,.atom 25,.atom 26,.atom 27,.atom 28,.atom 29,.atom 30,.atom 31]
     (.next 11 [(.ar .add .i64 (.atom 15) (.int .i64 1))])))))
     (.loop 17 [.int .i64,.int .i64,.str,.sl,.int .i64,.int .i64,.str,.sl,.sl] [(.ar .sub .i64 (.len (.atom 12)) (.int .i64 1)),.atom 1,.atom 2,.atom 3,.atom 4,.atom 5,.atom 6,.atom 7,.atom 11]
      (.ite (.cmp .geq (.atom 16) (.int .i64 0))
       (.chk [] (.sub (.cap (.atom 12)) (.atom 16) (.ar .add .i64 (.atom 16) (.int .i64 1)))
       (.chk [] (.sub (.cap (.atom 13)) (.atom 16) (.ar .add .i64 (.atom 16) (.int .i64 1)))
       (.call (.fn 47) [(.sc (.sls (.atom 12) (.atom 16) (.ar .add .i64 (.atom 16) (.int .i64 1)) 1)),(.sc (.sls (.atom 13) (.atom 16) (.ar .add .i64 (.atom 16) (.int .i64 1)) 8)),(.ag [.atom 17,.atom 18,.atom 19,.atom 20,.atom 21,.atom 22,.atom 23,.atom 24])] (.ag [.int .i64,.str,.sl,.int .i64,.int .i64,.str,.sl,.sl]) []
       (.next 17 [(.ar .sub .i64 (.atom 16) (.int .i64 1)),.atom 25,.atom 26,.atom 27,.atom 28,.atom 29,.atom 30,.atom 31,.atom 32]))))
       (.leaf (.ag [.atom 17,.atom 18,.atom 19,.atom 20,.atom 21,.atom 22,.atom 23,.atom 24]))))))))))
theorem zh6:execF Tryz.prog { pub:=[],nojoin:=false } Tryz.f34=za9:=by kernel_rfl
theorem zab:callB Tryz.prog 34=true:=by kernel_rfl
theorem ziv:TriOf Tryz.prog 34 Tryz.f34 za9:=triOf Tryz.func34 zh6
abbrev z1h:FuncId:=39
def z3d:Fm VE:=
 (.chk [] (.some (.atom 0))
 (.load (.padd (.atom 0) 10) [.sl]
 (.sem (.buildSlice 76 1 #[(0,(.tmp 9))]) 76 [(9,(.ag [.atom 1,.atom 2,.atom 3,.atom 4,.atom 5,.atom 6,.atom 7,.atom 8,.atom 9,.atom 10,.atom 11]))] (.sc .sl) [((.padd (.atom 0) 10),[.atom 12])]
 (.sem (.call ⟨.builtin .append,#[.tmp 8,.tmp 10],#[76,76]⟩) 76 [(8,(.sc (.atom 12))),(10,(.sc (.atom 13)))] (.sc .sl) []
 (.store (.padd (.atom 0) 10) [.atom 14]
 (.leaf (.tu [])))))))
theorem z70:execF Tryz.prog { pub:=[],nojoin:=false } Tryz.f39=z3d:=by kernel_rfl
theorem z0a:callB Tryz.prog 39=true:=by kernel_rfl
theorem z89:TriOf Tryz.prog 39 Tryz.f39 z3d:=triOf Tryz.func39 z70
abbrev z9l:FuncId:=40
def z3c:Fm VE:=
 (.chk [] (.some (.atom 0))
 (.load (.padd (.atom 0) 10) [.sl]
 (.load (.padd (.atom 0) 10) [.sl]
 (.chk [] (.inSl (.atom 2) (.ar .sub .i64 (.len (.atom 1)) (.int .i64 1)))
 (.load (.elt (.atom 2) (.ar .sub .i64 (.len (.atom 1)) (.int .i64 1)) 11) [.int .i64,.int .i64,.str,.sl,.int .i64,.int .i64,.str,.sl,.sl,.sl,.int .i64]
 (.load (.padd (.atom 0) 10) [.sl]
 (.chk [] (.sub (.cap (.atom 14)) (.int .i64 0) (.ar .sub .i64 (.len (.atom 1)) (.int .i64 1)))
 (.store (.padd (.atom 0) 10) [(.sls (.atom 14) (.int .i64 0) (.ar .sub .i64 (.len (.atom 1)) (.int .i64 1)) 11)]
 (.ite (.cmp .eql (.atom 3) (.int .i64 0))
  (.call (.fn 53) [.sc (.atom 0),(.ag [.atom 4,.atom 5,.atom 6,.atom 7,.atom 8,.atom 9,.atom 10,.atom 11]),.sc (.atom 12)] (.tu []) []
  (.leaf (.tu [])))
  (.ite (.cmp .eql (.atom 3) (.int .i64 1))
   (.call (.fn 54) [.sc (.atom 0),.sc (.int .i64 1)] (.sc .sl) []
   (.leaf (.tu [])))
   (.ite (.cmp .eql (.atom 3) (.int .i64 2))
    (.load (.padd (.atom 0) 1) [.sl]
    (.call (.fn 54) [.sc (.atom 0),.sc (.int .i64 1)] (.sc .sl) [((.padd (.atom 0) 1),[.atom 15])]
    (.chk [] (.inSl (.atom 16) (.int .i64 0))
    (.load (.elt (.atom 16) (.int .i64 0) 3) [.int .i64,.int .i64,.str]
    (.chk [] (.inSl (.atom 15) (.atom 13))
    (.store (.elt (.atom 15) (.atom 13) 3) [.atom 17,.atom 18,.atom 19]
    (.call (.fn 55) [.sc (.atom 0),(.ag [.int .i64 5,.int .i64 0,(.str [])])] (.tu []) []
    (.leaf (.tu [])))))))))
    (.ite (.cmp .eql (.atom 3) (.int .i64 3))
     (.call (.fn 54) [.sc (.atom 0),.sc (.int .i64 1)] (.sc .sl) []
     (.chk [] (.inSl (.atom 15) (.int .i64 0))
     (.load (.elt (.atom 15) (.int .i64 0) 3) [.int .i64,.int .i64,.str]
     (.sem (.binOp .eql 73 (.tmp 67) (.tmp 68) 73) 4 [(67,(.ag [.atom 16,.atom 17,.atom 18])),(68,(.ag [.int .i64 0,.int .i64 0,(.str [])]))] (.sc .bool) []
     (.ite (.atom 19)
      (.chk [] (.inSl (.atom 11) (.int .i64 2))
      (.load (.elt (.atom 11) (.int .i64 2) 8) [.int .i64,.str,.sl,.int .i64,.int .i64,.str,.sl,.sl]
      (.call (.fn 39) [.sc (.atom 0),(.ag [.int .i64 0,.atom 20,.atom 21,.atom 22,.atom 23,.atom 24,.atom 25,.atom 26,.atom 27,.atom 12,.int .i64 0])] (.tu []) []
      (.leaf (.tu [])))))
      (.chk [] (.inSl (.atom 11) (.int .i64 1))
      (.load (.elt (.atom 11) (.int .i64 1) 8) [.int .i64,.str,.sl,.int .i64,.int .i64,.str,.sl,.sl]
      (.call (.fn 39) [.sc (.atom 0),(.ag [.int .i64 0,.atom 20,.atom 21,.atom 22,.atom 23,.atom 24,.atom 25,.atom 26,.atom 27,.atom 12,.int .i64 0])] (.tu []) []
      (.leaf (.tu []))))))))))
     (.ite (.cmp .eql (.atom 3) (.int .i64 4))
      (.call (.fn 54) [.sc (.atom 0),.sc (.atom 13)] (.sc .sl) []
      (.chk [] (.inSl (.atom 15) (.int .i64 0))
      (.load (.elt (.atom 15) (.int .i64 0) 3) [.int .i64,.int .i64,.str]
      (.chk [] (.sub (.cap (.atom 15)) (.int .i64 1) (.len (.atom 15)))
      (.call (.fn 56) [.sc (.atom 0),(.ag [.atom 16,.atom 17,.atom 18]),(.sc (.sls (.atom 15) (.int .i64 1) (.len (.atom 15)) 3))] (.tu []) []
      (.leaf (.tu [])))))))
      (.ite (.cmp .eql (.atom 3) (.int .i64 5))
       (.call (.fn 54) [.sc (.atom 0),(.sc (.len (.atom 11)))] (.sc .sl) []
       (.call (.fn 57) [.sc (.atom 0),.sc (.atom 5),.sc (.atom 15)] (.tu []) []
       (.leaf (.tu []))))
       (.ite (.cmp .eql (.atom 3) (.int .i64 6))
        (.call (.fn 54) [.sc (.atom 0),(.sc (.len (.atom 6)))] (.sc .sl) []
        (.chk [] (.inSl (.atom 11) (.len (.atom 6)))
        (.load (.elt (.atom 11) (.len (.atom 6)) 8) [.int .i64,.str,.sl,.int .i64,.int .i64,.str,.sl,.sl]
        (.call (.fn 58) [.sc (.atom 0),.sc (.atom 12),.sc (.atom 6),.sc (.atom 15)] (.sc .sl) [((.elt (.atom 11) (.len (.atom 6)) 8),[.atom 16,.atom 17,.atom 18,.atom 19,.atom 20,.atom 21,.atom 22,.atom 23])]
        (.call (.fn 39) [.sc (.atom 0),(.ag [.int .i64 0,.atom 16,.atom 17,.atom 18,.atom 19,.atom 20,.atom 21,.atom 22,.atom 23,.atom 24,.int .i64 0])] (.tu []) []
        (.leaf (.tu [])))))))
        (.ite (.cmp .eql (.atom 3) (.int .i64 7))
         (.load (.padd (.atom 0) 1) [.sl]
         (.call (.fn 54) [.sc (.atom 0),.sc (.int .i64 1)] (.sc .sl) [((.padd (.atom 0) 1),[.atom 15])]
         (.chk [] (.inSl (.atom 16) (.int .i64 0))
         (.load (.elt (.atom 16) (.int .i64 0) 3) [.int .i64,.int .i64,.str]
         (.chk [] (.inSl (.atom 15) (.atom 13))
         (.store (.elt (.atom 15) (.atom 13) 3) [.atom 17,.atom 18,.atom 19]
         (.leaf (.tu []))))))))
         (.leaf (.tu []))))))))))))))))))
theorem z6y:execF Tryz.prog { pub:=[],nojoin:=false } Tryz.f40=z3c:=by kernel_rfl
theorem z95:callB Tryz.prog 40=true:=by kernel_rfl
theorem z8a:TriOf Tryz.prog 40 Tryz.f40 z3c:=triOf Tryz.func40 z6y
abbrev zb6:FuncId:=41
def z48:Fm VE:=
 (.call (.fn 59) [.sc (.atom 0),(.ag [.atom 1,.atom 2,.atom 3])] (.sc .bool) []
 (.ite (.not (.atom 4))
  (.leaf (.tu [(true,[.int .i64 0,.int .i64 0,(.str []),(.nil 1)]),(false,[.bool false])]))
  (.call (.fn 60) [.sc (.atom 0),(.ag [.atom 1,.atom 2,.atom 3]),.sc (.int .i64 0),.sc (.int .i64 0)] (.tu [(true,[.int .i64,.int .i64,.str,.sl]),(false,[.int .i64]),(false,[.bool])]) []
  (.ite (.not (.atom 10))
   (.leaf (.tu [(true,[.int .i64 0,.int .i64 0,(.str []),(.nil 1)]),(false,[.bool false])]))
   (.leaf (.tu [(true,[.atom 5,.atom 6,.atom 7,.atom 8]),(false,[.bool true])]))))))
theorem z9a:execF Tryz.prog { pub:=[],nojoin:=false } Tryz.f41=z48:=by kernel_rfl
theorem zas:callB Tryz.prog 41=true:=by kernel_rfl
theorem za1:TriOf Tryz.prog 41 Tryz.f41 z48:=triOf Tryz.func41 z9a
abbrev zss:FuncId:=44
def zkc:Fm VE:=
 (.leaf (.sc (.pick (.cmp .eql (.atom 0) (.int .i64 0)) (.bool true) (.cmp .eql (.atom 0) (.int .i64 1)))))
theorem zo9:execF Tryz.prog { pub:=[],nojoin:=false } Tryz.f44=zkc:=by kernel_rfl
theorem zsf:callB Tryz.prog 44=true:=by kernel_rfl
theorem zq4:TriOf Tryz.prog 44 Tryz.f44 zkc:=triOf Tryz.func44 zo9
abbrev zkq:FuncId:=45
def zaa:Fm VE:=
 (.loop 1 [.str] [(.str [])]
  (.chk [] (.some (.atom 0))
  (.load (.padd (.atom 0) 1) [.int .i64]
  (.call (.fn 68) [.sc (.atom 2)] (.sc .str) []
  (.chk [] (.catOk (.str [110,46]) (.atom 3))
  (.load (.padd (.atom 0) 1) [.int .i64]
  (.store (.padd (.atom 0) 1) [(.ar .add .i64 (.atom 4) (.int .i64 1))]
  (.load (.padd (.atom 0) 0) [.map]
  (.sem (.lookup 44 (.tmp 20) (.tmp 21) false) 3 [(20,(.sc (.atom 5))),(21,(.sc (.cat (.str [110,46]) (.atom 3))))] (.sc (.int .i64)) []
  (.ite (.cmp .eql (.atom 6) (.int .i64 0))
   (.leaf (.sc (.cat (.str [110,46]) (.atom 3))))
   (.next 1 [.atom 1])))))))))))
theorem zgg:execF Tryz.prog { pub:=[],nojoin:=false } Tryz.f45=zaa:=by kernel_rfl
theorem zkj:callB Tryz.prog 45=true:=by kernel_rfl
theorem zjg:TriOf Tryz.prog 45 Tryz.f45 zaa:=triOf Tryz.func45 zgg
abbrev zxx:FuncId:=47
def zna:Fm VE:=
 (.ite (.cmp .eql (.len (.atom 0)) (.int .i64 0))
  (.leaf (.ag [.atom 2,.atom 3,.atom 4,.atom 5,.atom 6,.atom 7,.atom 8,.atom 9]))
  (.join 3 [.int .i64,.str,.sl,.int .i64,.int .i64,.str,.sl,.sl]
   (.leaf (.ag [.atom 10,.atom 11,.atom 12,.atom 13,.atom 14,.atom 15,.atom 16,.atom 17]))
   (.both
    (.sem (.buildSlice 26 0 #[]) 26 [] (.sc .sl) []
    (.both
     (.sem (.call ⟨.builtin .append,#[.tmp 12,.tmp 13],#[26,26]⟩) 26 [(12,(.sc (.atom 10))),(13,(.sc (.atom 1)))] (.sc .sl) []
     (.sem (.buildSlice 26 1 #[(0,(.tmp 15))]) 26 [(15,(.ag [.atom 2,.atom 3,.atom 4,.atom 5,.atom 6,.atom 7,.atom 8,.atom 9]))] (.sc .sl) []
     (.sem (.call ⟨.builtin .append,#[.tmp 14,.tmp 16],#[26,26]⟩) 26 [(14,(.sc (.atom 11))),(16,(.sc (.atom 12)))] (.sc .sl) []
     (.next 3 [.int .i64 8,(.str []),.atom 0,.int .i64 0,.int .i64 0,(.str []),(.nil 1),.atom 13]))))
     (.sem (.buildSlice 26 1 #[(0,(.tmp 15))]) 26 [(15,(.ag [.atom 2,.atom 3,.atom 4,.atom 5,.atom 6,.atom 7,.atom 8,.atom 9]))] (.sc .sl) []
     (.sem (.call ⟨.builtin .append,#[.tmp 12,.tmp 13],#[26,26]⟩) 26 [(12,(.sc (.atom 10))),(13,(.sc (.atom 1)))] (.sc .sl) []
     (.sem (.call ⟨.builtin .append,#[.tmp 14,.tmp 16],#[26,26]⟩) 26 [(14,(.sc (.atom 12))),(16,(.sc (.atom 11)))] (.sc .sl) []
     (.next 3 [.int .i64 8,(.str []),.atom 0,.int .i64 0,.int .i64 0,(.str []),(.nil 1),.atom 13]))))))
    (.sem (.buildSlice 26 1 #[(0,(.tmp 15))]) 26 [(15,(.ag [.atom 2,.atom 3,.atom 4,.atom 5,.atom 6,.atom 7,.atom 8,.atom 9]))] (.sc .sl) []
    (.sem (.buildSlice 26 0 #[]) 26 [] (.sc .sl) []
    (.sem (.call ⟨.builtin .append,#[.tmp 12,.tmp 13],#[26,26]⟩) 26 [(12,(.sc (.atom 11))),(13,(.sc (.atom 1)))] (.sc .sl) []
    (.sem (.call ⟨.builtin .append,#[.tmp 14,.tmp 16],#[26,26]⟩) 26 [(14,(.sc (.atom 12))),(16,(.sc (.atom 10)))] (.sc .sl) []
    (.next 3 [.int .i64 8,(.str []),.atom 0,.int .i64 0,.int .i64 0,(.str []),(.nil 1),.atom 13]))))))))
theorem zqn:execF Tryz.prog { pub:=[],nojoin:=false } Tryz.f47=zna:=by kernel_rfl
theorem zvv:callB Tryz.prog 47=true:=by kernel_rfl
theorem ztv:TriOf Tryz.prog 47 Tryz.f47 zna:=triOf Tryz.func47 zqn
abbrev z9e:FuncId:=53
def z3h:Fm VE:=
 (.chk [] (.some (.atom 0))
 (.load (.padd (.atom 0) 8) [.int .i64]
 (.load (.padd (.atom 0) 9) [.int .i64]
 (.ite (.cmp .eql (.atom 10) (.atom 11))
  (.store (.padd (.atom 0) 12) [.int .i64 93]
  (.leaf (.tu [])))
  (.load (.padd (.atom 0) 8) [.int .i64]
  (.store (.padd (.atom 0) 8) [(.ar .add .i64 (.atom 12) (.int .i64 1))]
  (.ite (.cmp .eql (.atom 1) (.int .i64 0))
   (.call (.fn 73) [(.ag [.atom 4,.atom 5,.atom 6,.atom 7])] (.tu [(true,[.int .i64,.int .i64,.str]),(false,[.bool])]) []
   (.call (.fn 55) [.sc (.atom 0),(.ag [.atom 13,.atom 14,.atom 15])] (.tu []) []
   (.leaf (.tu []))))
   (.ite (.cmp .eql (.atom 1) (.int .i64 1))
    (.load (.padd (.atom 0) 1) [.sl]
    (.call (.fn 74) [.sc (.atom 9),.sc (.atom 2)] (.sc (.int .i64)) [((.padd (.atom 0) 1),[.atom 13])]
    (.chk [] (.inSl (.atom 13) (.atom 14))
    (.load (.elt (.atom 13) (.atom 14) 3) [.int .i64,.int .i64,.str]
    (.call (.fn 55) [.sc (.atom 0),(.ag [.atom 15,.atom 16,.atom 17])] (.tu []) []
    (.leaf (.tu [])))))))
    (.ite (.cmp .eql (.atom 1) (.int .i64 2))
     (.call (.fn 74) [.sc (.atom 9),.sc (.atom 2)] (.sc (.int .i64)) []
     (.call (.fn 39) [.sc (.atom 0),(.ag [.int .i64 2,.int .i64 0,(.str []),(.nil 1),.int .i64 0,.int .i64 0,(.str []),(.nil 1),(.nil 1),(.nil 1),.atom 13])] (.tu []) []
     (.chk [] (.inSl (.atom 8) (.int .i64 0))
     (.load (.elt (.atom 8) (.int .i64 0) 8) [.int .i64,.str,.sl,.int .i64,.int .i64,.str,.sl,.sl]
     (.call (.fn 39) [.sc (.atom 0),(.ag [.int .i64 0,.atom 14,.atom 15,.atom 16,.atom 17,.atom 18,.atom 19,.atom 20,.atom 21,.atom 9,.int .i64 0])] (.tu []) []
     (.leaf (.tu [])))))))
     (.ite (.cmp .eql (.atom 1) (.int .i64 3))
      (.call (.fn 39) [.sc (.atom 0),(.ag [.int .i64 3,.atom 1,.atom 2,.atom 3,.atom 4,.atom 5,.atom 6,.atom 7,.atom 8,.atom 9,.int .i64 0])] (.tu []) []
      (.chk [] (.inSl (.atom 8) (.int .i64 0))
      (.load (.elt (.atom 8) (.int .i64 0) 8) [.int .i64,.str,.sl,.int .i64,.int .i64,.str,.sl,.sl]
      (.call (.fn 39) [.sc (.atom 0),(.ag [.int .i64 0,.atom 13,.atom 14,.atom 15,.atom 16,.atom 17,.atom 18,.atom 19,.atom 20,.atom 9,.int .i64 0])] (.tu []) []
      (.leaf (.tu []))))))
      (.ite (.cmp .eql (.atom 1) (.int .i64 4))
       (.chk [] (.inSl (.atom 8) (.ar .sub .i64 (.len (.atom 8)) (.int .i64 1)))
       (.load (.elt (.atom 8) (.ar .sub .i64 (.len (.atom 8)) (.int .i64 1)) 8) [.int .i64,.str,.sl,.int .i64,.int .i64,.str,.sl,.sl]
       (.call (.fn 39) [.sc (.atom 0),(.ag [.int .i64 0,.atom 13,.atom 14,.atom 15,.atom 16,.atom 17,.atom 18,.atom 19,.atom 20,.atom 9,.int .i64 0])] (.tu []) []
       (.loop 13 [.int .i64] [(.ar .sub .i64 (.len (.atom 8)) (.int .i64 2))]
        (.ite (.cmp .geq (.atom 21) (.int .i64 0))
         (.call (.fn 39) [.sc (.atom 0),(.ag [.int .i64 1,.int .i64 0,(.str []),(.nil 1),.int .i64 0,.int .i64 0,(.str []),(.nil 1),(.nil 1),(.nil 1),.int .i64 0])] (.tu []) []
         (.chk [] (.inSl (.atom 8) (.atom 21))
         (.load (.elt (.atom 8) (.atom 21) 8) [.int .i64,.str,.sl,.int .i64,.int .i64,.str,.sl,.sl]
         (.call (.fn 39) [.sc (.atom 0),(.ag [.int .i64 0,.atom 22,.atom 23,.atom 24,.atom 25,.atom 26,.atom 27,.atom 28,.atom 29,.atom 9,.int .i64 0])] (.tu []) []
         (.next 13 [(.ar .sub .i64 (.atom 21) (.int .i64 1))])))))
         (.leaf (.tu [])))))))
       (.ite (.cmp .eql (.atom 1) (.int .i64 5))
        (.call (.fn 75) [.sc (.atom 0),(.ag [.int .i64 0,.atom 1,.atom 2,.atom 3,.atom 4,.atom 5,.atom 6,.atom 7,.atom 8,.atom 9,.bool false,(.nil 1),(.nil 1)])] (.ag [.int .i64,.int .i64,.str]) []
        (.call (.fn 55) [.sc (.atom 0),(.ag [.atom 13,.atom 14,.atom 15])] (.tu []) []
        (.leaf (.tu []))))
        (.ite (.cmp .eql (.atom 1) (.int .i64 6))
         (.call (.fn 39) [.sc (.atom 0),(.ag [.int .i64 4,.int .i64 0,(.str []),(.nil 1),.int .i64 0,.int .i64 0,(.str []),(.nil 1),(.nil 1),(.nil 1),(.len (.atom 8))])] (.tu []) []
         (.call (.fn 76) [.sc (.atom 0),.sc (.atom 8),.sc (.atom 9)] (.tu []) []
         (.leaf (.tu []))))
         (.ite (.cmp .eql (.atom 1) (.int .i64 7))
          (.call (.fn 39) [.sc (.atom 0),(.ag [.int .i64 5,.atom 1,.atom 2,.atom 3,.atom 4,.atom 5,.atom 6,.atom 7,.atom 8,(.nil 1),.int .i64 0])] (.tu []) []
          (.call (.fn 76) [.sc (.atom 0),.sc (.atom 8),.sc (.atom 9)] (.tu []) []
          (.leaf (.tu []))))
          (.ite (.cmp .eql (.atom 1) (.int .i64 8))
           (.call (.fn 39) [.sc (.atom 0),(.ag [.int .i64 6,.atom 1,.atom 2,.atom 3,.atom 4,.atom 5,.atom 6,.atom 7,.atom 8,.atom 9,.int .i64 0])] (.tu []) []
           (.chk [] (.sub (.cap (.atom 8)) (.int .i64 0) (.ar .sub .i64 (.len (.atom 8)) (.int .i64 1)))
           (.call (.fn 76) [.sc (.atom 0),(.sc (.sls (.atom 8) (.int .i64 0) (.ar .sub .i64 (.len (.atom 8)) (.int .i64 1)) 8)),.sc (.atom 9)] (.tu []) []
           (.leaf (.tu [])))))
           (.ite (.pick (.cmp .eql (.atom 1) (.int .i64 9)) (.cmp .eql (.atom 1) (.int .i64 9)) (.cmp .eql (.atom 1) (.int .i64 10)))
            (.call (.fn 77) [.sc (.atom 0),(.ag [.atom 1,.atom 2,.atom 3,.atom 4,.atom 5,.atom 6,.atom 7,.atom 8]),.sc (.atom 9)] (.tu []) []
            (.leaf (.tu [])))
            (.leaf (.tu []))))))))))))))))))
theorem z6x:execF Tryz.prog { pub:=[],nojoin:=false } Tryz.f53=z3h:=by kernel_rfl
theorem z8y:callB Tryz.prog 53=true:=by kernel_rfl
theorem z84:TriOf Tryz.prog 53 Tryz.f53 z3h:=triOf Tryz.func53 z6x
abbrev za2:FuncId:=54
def z3o:Fm VE:=
 (.chk [] (.some (.atom 0))
 (.load (.padd (.atom 0) 11) [.sl]
 (.sem (.buildSlice 74 0 #[]) 74 [] (.sc .sl) []
 (.load (.padd (.atom 0) 11) [.sl]
 (.chk [] (.sub (.cap (.atom 4)) (.ar .sub .i64 (.len (.atom 2)) (.atom 1)) (.len (.atom 4)))
 (.sem (.call ⟨.builtin .append,#[.tmp 14,.tmp 20],#[74,74]⟩) 74 [(14,(.sc (.atom 3))),(20,(.sc (.sls (.atom 4) (.ar .sub .i64 (.len (.atom 2)) (.atom 1)) (.len (.atom 4)) 3)))] (.sc .sl) []
 (.load (.padd (.atom 0) 11) [.sl]
 (.chk [] (.sub (.cap (.atom 6)) (.int .i64 0) (.ar .sub .i64 (.len (.atom 2)) (.atom 1)))
 (.store (.padd (.atom 0) 11) [(.sls (.atom 6) (.int .i64 0) (.ar .sub .i64 (.len (.atom 2)) (.atom 1)) 3)]
 (.leaf (.sc (.atom 5))))))))))))
theorem z7i:execF Tryz.prog { pub:=[],nojoin:=false } Tryz.f54=z3o:=by kernel_rfl
theorem z0q:callB Tryz.prog 54=true:=by kernel_rfl
theorem z90:TriOf Tryz.prog 54 Tryz.f54 z3o:=triOf Tryz.func54 z7i
abbrev z3t:FuncId:=55
def z3a:Fm VE:=
 (.chk [] (.some (.atom 0))
 (.load (.padd (.atom 0) 11) [.sl]
 (.sem (.buildSlice 74 1 #[(0,(.tmp 9))]) 74 [(9,(.ag [.atom 1,.atom 2,.atom 3]))] (.sc .sl) [((.padd (.atom 0) 11),[.atom 4])]
 (.sem (.call ⟨.builtin .append,#[.tmp 8,.tmp 10],#[74,74]⟩) 74 [(8,(.sc (.atom 4))),(10,(.sc (.atom 5)))] (.sc .sl) []
 (.store (.padd (.atom 0) 11) [.atom 6]
 (.leaf (.tu [])))))))
theorem z6w:execF Tryz.prog { pub:=[],nojoin:=false } Tryz.f55=z3a:=by kernel_rfl
theorem z0d:callB Tryz.prog 55=true:=by kernel_rfl
theorem z8b:TriOf Tryz.prog 55 Tryz.f55 z3a:=triOf Tryz.func55 z6w
abbrev z9h:FuncId:=56
def z3e:Fm VE:=
 (.chk [] (.some (.atom 0))
 (.load (.padd (.atom 0) 0) [.ptr]
 (.call (.fn 78) [.sc (.atom 5),(.ag [.atom 1,.atom 2,.atom 3])] (.sc (.int .i64)) []
 (.ite (.cmp .neq (.atom 6) (.int .i64 4))
  (.store (.padd (.atom 0) 12) [.int .i64 90]
  (.leaf (.tu [])))
  (.loop 6 [.int .i64,.int .i64,.int .i64,.str,.sl,.int .i64,.int .i64,.str,.sl,.sl,.sl,.bool,.sl,.sl] [.int .i64 0,.int .i64 0,.int .i64 0,(.str []),(.nil 1),.int .i64 0,.int .i64 0,(.str []),(.nil 1),(.nil 1),(.nil 1),.bool false,(.nil 1),(.nil 1)]
   (.load (.padd (.atom 0) 2) [.sl]
   (.ite (.cmp .lss (.atom 7) (.len (.atom 21)))
    (.join 9 [.int .i64,.int .i64,.str,.sl,.int .i64,.int .i64,.str,.sl,.sl,.sl,.bool,.sl,.sl]
     (.next 6 [(.ar .add .i64 (.atom 7) (.int .i64 1)),.atom 22,.atom 23,.atom 24,.atom 25,.atom 26,.atom 27,.atom 28,.atom 29,.atom 30,.atom 31,.atom 32,.atom 33,.atom 34])
     (.load (.padd (.atom 0) 2) [.sl]
     (.chk [] (.inSl (.atom 22) (.atom 7))
     (.load (.padd (.elt (.atom 22) (.atom 7) 13) 0) [.int .i64]
     (.ite (.cmp .eql (.atom 23) (.atom 2))
      (.load (.padd (.atom 0) 2) [.sl]
      (.chk [] (.inSl (.atom 24) (.atom 7))
      (.load (.elt (.atom 24) (.atom 7) 13) [.int .i64,.int .i64,.str,.sl,.int .i64,.int .i64,.str,.sl,.sl,.sl,.bool,.sl,.sl]
      (.next 9 [.atom 25,.atom 26,.atom 27,.atom 28,.atom 29,.atom 30,.atom 31,.atom 32,.atom 33,.atom 34,.atom 35,.atom 36,.atom 37]))))
      (.next 9 [.atom 8,.atom 9,.atom 10,.atom 11,.atom 12,.atom 13,.atom 14,.atom 15,.atom 16,.atom 17,.atom 18,.atom 19,.atom 20]))))))
    (.ite (.atom 18)
     (.ite (.cmp .neq (.len (.atom 4)) (.int .i64 1))
      (.store (.padd (.atom 0) 12) [.int .i64 91]
      (.leaf (.tu [])))
      (.sem (.buildSlice 76 0 #[]) 76 [] (.sc .sl) []
      (.sem (.call ⟨.builtin .append,#[.tmp 55,.tmp 57],#[76,76]⟩) 76 [(55,(.sc (.atom 22))),(57,(.sc (.atom 19)))] (.sc .sl) []
      (.store (.padd (.atom 0) 10) [.atom 23]
      (.sem (.buildSlice 74 0 #[]) 74 [] (.sc .sl) []
      (.sem (.call ⟨.builtin .append,#[.tmp 62,.tmp 64],#[74,74]⟩) 74 [(62,(.sc (.atom 24))),(64,(.sc (.atom 20)))] (.sc .sl) []
      (.store (.padd (.atom 0) 11) [.atom 25]
      (.chk [] (.inSl (.atom 4) (.int .i64 0))
      (.load (.elt (.atom 4) (.int .i64 0) 3) [.int .i64,.int .i64,.str]
      (.call (.fn 55) [.sc (.atom 0),(.ag [.atom 26,.atom 27,.atom 28])] (.tu []) []
      (.leaf (.tu []))))))))))))
     (.ite (.cmp .neq (.len (.atom 4)) (.len (.atom 11)))
      (.store (.padd (.atom 0) 12) [.int .i64 91]
      (.leaf (.tu [])))
      (.chk [] (.inSl (.atom 16) (.int .i64 0))
      (.load (.elt (.atom 16) (.int .i64 0) 8) [.int .i64,.str,.sl,.int .i64,.int .i64,.str,.sl,.sl]
      (.call (.fn 58) [.sc (.atom 0),.sc (.atom 17),.sc (.atom 11),.sc (.atom 4)] (.sc .sl) [((.elt (.atom 16) (.int .i64 0) 8),[.atom 22,.atom 23,.atom 24,.atom 25,.atom 26,.atom 27,.atom 28,.atom 29])]
      (.call (.fn 39) [.sc (.atom 0),(.ag [.int .i64 0,.atom 22,.atom 23,.atom 24,.atom 25,.atom 26,.atom 27,.atom 28,.atom 29,.atom 30,.int .i64 0])] (.tu []) []
      (.leaf (.tu [])))))))))))))))
theorem z6u:execF Tryz.prog { pub:=[],nojoin:=false } Tryz.f56=z3e:=by kernel_rfl
theorem z97:callB Tryz.prog 56=true:=by kernel_rfl
theorem z87:TriOf Tryz.prog 56 Tryz.f56 z3e:=triOf Tryz.func56 z6u
abbrev z9x:FuncId:=57
def z3b:Fm VE:=
 (.ite (.scmp .eql (.atom 1) (.str [114,101,97,100,45,117,56]))
  (.chk [] (.some (.atom 0))
  (.load (.padd (.atom 0) 3) [.str]
  (.ite (.scmp .eql (.atom 3) (.str []))
   (.call (.fn 55) [.sc (.atom 0),(.ag [.int .i64 6,.int .i64 0,(.str [])])] (.tu []) []
   (.leaf (.tu [])))
   (.load (.padd (.atom 0) 3) [.str]
   (.chk [] (.inStr (.atom 4) (.int .i64 0))
   (.call (.fn 55) [.sc (.atom 0),(.ag [.int .i64 1,(.conv .i64 (.sidx (.atom 4) (.int .i64 0))),(.str [])])] (.tu []) []
   (.load (.padd (.atom 0) 3) [.str]
   (.chk [] (.sub (.slen (.atom 5)) (.int .i64 1) (.slen (.atom 5)))
   (.store (.padd (.atom 0) 3) [(.ssub (.atom 5) (.int .i64 1) (.slen (.atom 5)))]
   (.leaf (.tu [])))))))))))
  (.ite (.scmp .eql (.atom 1) (.str [119,114,105,116,101,45,117,56]))
   (.chk [] (.inSl (.atom 2) (.int .i64 0))
   (.load (.elt (.atom 2) (.int .i64 0) 3) [.int .i64,.int .i64,.str]
   (.ite (.cmp .neq (.atom 3) (.int .i64 1))
    (.chk [] (.some (.atom 0))
    (.store (.padd (.atom 0) 12) [.int .i64 80]
    (.leaf (.tu []))))
    (.ite (.pick (.cmp .lss (.atom 4) (.int .i64 0)) (.bool true) (.cmp .gtr (.atom 4) (.int .i64 255)))
     (.chk [] (.some (.atom 0))
     (.store (.padd (.atom 0) 12) [.int .i64 83]
     (.leaf (.tu []))))
     (.chk [] (.some (.atom 0))
     (.load (.padd (.atom 0) 4) [.sl]
     (.sem (.buildSlice 36 1 #[(0,(.tmp 86))]) 36 [(86,(.sc (.conv .u8 (.atom 4))))] (.sc .sl) [((.padd (.atom 0) 4),[.atom 6])]
     (.sem (.call ⟨.builtin .append,#[.tmp 83,.tmp 87],#[36,36]⟩) 36 [(83,(.sc (.atom 6))),(87,(.sc (.atom 7)))] (.sc .sl) []
     (.store (.padd (.atom 0) 4) [.atom 8]
     (.call (.fn 55) [.sc (.atom 0),(.ag [.int .i64 5,.int .i64 0,(.str [])])] (.tu []) []
     (.leaf (.tu []))))))))))))
   (.ite (.scmp .eql (.atom 1) (.str [101,114,114,111,114]))
    (.chk [] (.some (.atom 0))
    (.store (.padd (.atom 0) 12) [.int .i64 92]
    (.leaf (.tu []))))
    (.ite (.scmp .eql (.atom 1) (.str [37,119,105,110,100,101,114,115]))
     (.chk [] (.some (.atom 0))
     (.load (.padd (.atom 0) 5) [.int .i64,.int .i64,.str]
     (.call (.fn 55) [.sc (.atom 0),(.ag [.atom 3,.atom 4,.atom 5])] (.tu []) []
     (.leaf (.tu [])))))
     (.ite (.scmp .eql (.atom 1) (.str [37,119,105,110,100,33]))
      (.chk [] (.inSl (.atom 2) (.int .i64 0))
      (.load (.elt (.atom 2) (.int .i64 0) 3) [.int .i64,.int .i64,.str]
      (.chk [] (.some (.atom 0))
      (.store (.padd (.atom 0) 5) [.atom 3,.atom 4,.atom 5]
      (.call (.fn 55) [.sc (.atom 0),(.ag [.int .i64 5,.int .i64 0,(.str [])])] (.tu []) []
      (.leaf (.tu [])))))))
      (.ite (.scmp .eql (.atom 1) (.str [37,99,97,108,108,99,99]))
       (.join 8 [.ptr]
        (.chk [] (.inSl (.atom 2) (.int .i64 0))
        (.load (.elt (.atom 2) (.int .i64 0) 3) [.int .i64,.int .i64,.str]
        (.load (.atom 3) [.int .i64,.int .i64,.str]
        (.sem (.buildSlice 74 1 #[(0,(.tmp 139))]) 74 [(139,(.ag [.atom 7,.atom 8,.atom 9]))] (.sc .sl) [((.elt (.atom 2) (.int .i64 0) 3),[.atom 4,.atom 5,.atom 6])]
        (.call (.fn 56) [.sc (.atom 0),(.ag [.atom 4,.atom 5,.atom 6]),.sc (.atom 10)] (.tu []) []
        (.leaf (.tu [])))))))
        (.chk [] (.some (.atom 0))
        (.load (.padd (.atom 0) 10) [.sl]
        (.load (.padd (.atom 0) 11) [.sl]
        (.both
         (.sem (.buildSlice 76 0 #[]) 76 [] (.sc .sl) [((.padd (.atom 0) 11),[.atom 4]),((.padd (.atom 0) 10),[.atom 3])]
         (.both
          (.sem (.call ⟨.builtin .append,#[.tmp 121,.tmp 125],#[76,76]⟩) 76 [(121,(.sc (.atom 5))),(125,(.sc (.atom 3)))] (.sc .sl) [((.padd (.atom 0) 11),[.atom 4])]
          (.both
           (.sem (.buildSlice 74 0 #[]) 74 [] (.sc .sl) [((.padd (.atom 0) 11),[.atom 4])]
           (.both
            (.sem (.call ⟨.builtin .append,#[.tmp 127,.tmp 131],#[74,74]⟩) 74 [(127,(.sc (.atom 7))),(131,(.sc (.atom 4)))] (.sc .sl) []
            (.both
             (.call (.fn 75) [.sc (.atom 0),(.ag [.int .i64 0,.int .i64 0,(.str []),(.nil 1),.int .i64 0,.int .i64 0,(.str []),(.nil 1),(.nil 1),(.nil 1),.bool true,.atom 6,.atom 8])] (.ag [.int .i64,.int .i64,.str]) []
             (.new 73 [.int .i64 0,.int .i64 0,(.str [])]
             (.store (.atom 12) [.atom 9,.atom 10,.atom 11]
             (.next 8 [.atom 12]))))
             (.new 73 [.int .i64 0,.int .i64 0,(.str [])]
             (.call (.fn 75) [.sc (.atom 0),(.ag [.int .i64 0,.int .i64 0,(.str []),(.nil 1),.int .i64 0,.int .i64 0,(.str []),(.nil 1),(.nil 1),(.nil 1),.bool true,.atom 6,.atom 8])] (.ag [.int .i64,.int .i64,.str]) []
             (.store (.atom 9) [.atom 10,.atom 11,.atom 12]
             (.next 8 [.atom 9]))))))
            (.new 73 [.int .i64 0,.int .i64 0,(.str [])]
            (.sem (.call ⟨.builtin .append,#[.tmp 127,.tmp 131],#[74,74]⟩) 74 [(127,(.sc (.atom 7))),(131,(.sc (.atom 4)))] (.sc .sl) []
            (.call (.fn 75) [.sc (.atom 0),(.ag [.int .i64 0,.int .i64 0,(.str []),(.nil 1),.int .i64 0,.int .i64 0,(.str []),(.nil 1),(.nil 1),(.nil 1),.bool true,.atom 6,.atom 9])] (.ag [.int .i64,.int .i64,.str]) []
            (.store (.atom 8) [.atom 10,.atom 11,.atom 12]
            (.next 8 [.atom 8])))))))
           (.new 73 [.int .i64 0,.int .i64 0,(.str [])]
           (.sem (.buildSlice 74 0 #[]) 74 [] (.sc .sl) [((.padd (.atom 0) 11),[.atom 4])]
           (.sem (.call ⟨.builtin .append,#[.tmp 127,.tmp 131],#[74,74]⟩) 74 [(127,(.sc (.atom 8))),(131,(.sc (.atom 4)))] (.sc .sl) []
           (.call (.fn 75) [.sc (.atom 0),(.ag [.int .i64 0,.int .i64 0,(.str []),(.nil 1),.int .i64 0,.int .i64 0,(.str []),(.nil 1),(.nil 1),(.nil 1),.bool true,.atom 6,.atom 9])] (.ag [.int .i64,.int .i64,.str]) []
           (.store (.atom 7) [.atom 10,.atom 11,.atom 12]
           (.next 8 [.atom 7]))))))))
          (.both
           (.sem (.buildSlice 74 0 #[]) 74 [] (.sc .sl) [((.padd (.atom 0) 11),[.atom 4]),((.padd (.atom 0) 10),[.atom 3])]
           (.both
            (.sem (.call ⟨.builtin .append,#[.tmp 121,.tmp 125],#[76,76]⟩) 76 [(121,(.sc (.atom 5))),(125,(.sc (.atom 3)))] (.sc .sl) [((.padd (.atom 0) 11),[.atom 4])]
            (.both
             (.sem (.call ⟨.builtin .append,#[.tmp 127,.tmp 131],#[74,74]⟩) 74 [(127,(.sc (.atom 6))),(131,(.sc (.atom 4)))] (.sc .sl) []
             (.both
              (.call (.fn 75) [.sc (.atom 0),(.ag [.int .i64 0,.int .i64 0,(.str []),(.nil 1),.int .i64 0,.int .i64 0,(.str []),(.nil 1),(.nil 1),(.nil 1),.bool true,.atom 7,.atom 8])] (.ag [.int .i64,.int .i64,.str]) []
              (.new 73 [.int .i64 0,.int .i64 0,(.str [])]
              (.store (.atom 12) [.atom 9,.atom 10,.atom 11]
              (.next 8 [.atom 12]))))
              (.new 73 [.int .i64 0,.int .i64 0,(.str [])]
              (.call (.fn 75) [.sc (.atom 0),(.ag [.int .i64 0,.int .i64 0,(.str []),(.nil 1),.int .i64 0,.int .i64 0,(.str []),(.nil 1),(.nil 1),(.nil 1),.bool true,.atom 7,.atom 8])] (.ag [.int .i64,.int .i64,.str]) []
              (.store (.atom 9) [.atom 10,.atom 11,.atom 12]
              (.next 8 [.atom 9]))))))
             (.new 73 [.int .i64 0,.int .i64 0,(.str [])]
             (.sem (.call ⟨.builtin .append,#[.tmp 127,.tmp 131],#[74,74]⟩) 74 [(127,(.sc (.atom 6))),(131,(.sc (.atom 4)))] (.sc .sl) []
             (.call (.fn 75) [.sc (.atom 0),(.ag [.int .i64 0,.int .i64 0,(.str []),(.nil 1),.int .i64 0,.int .i64 0,(.str []),(.nil 1),(.nil 1),(.nil 1),.bool true,.atom 7,.atom 9])] (.ag [.int .i64,.int .i64,.str]) []
             (.store (.atom 8) [.atom 10,.atom 11,.atom 12]
             (.next 8 [.atom 8])))))))
            (.new 73 [.int .i64 0,.int .i64 0,(.str [])]
            (.sem (.call ⟨.builtin .append,#[.tmp 121,.tmp 125],#[76,76]⟩) 76 [(121,(.sc (.atom 5))),(125,(.sc (.atom 3)))] (.sc .sl) [((.padd (.atom 0) 11),[.atom 4])]
            (.sem (.call ⟨.builtin .append,#[.tmp 127,.tmp 131],#[74,74]⟩) 74 [(127,(.sc (.atom 6))),(131,(.sc (.atom 4)))] (.sc .sl) []
            (.call (.fn 75) [.sc (.atom 0),(.ag [.int .i64 0,.int .i64 0,(.str []),(.nil 1),.int .i64 0,.int .i64 0,(.str []),(.nil 1),(.nil 1),(.nil 1),.bool true,.atom 8,.atom 9])] (.ag [.int .i64,.int .i64,.str]) []
            (.store (.atom 7) [.atom 10,.atom 11,.atom 12]
            (.next 8 [.atom 7]))))))))
           (.new 73 [.int .i64 0,.int .i64 0,(.str [])]
           (.both
            (.sem (.call ⟨.builtin .append,#[.tmp 121,.tmp 125],#[76,76]⟩) 76 [(121,(.sc (.atom 5))),(125,(.sc (.atom 3)))] (.sc .sl) [((.padd (.atom 0) 11),[.atom 4])]
            (.sem (.buildSlice 74 0 #[]) 74 [] (.sc .sl) [((.padd (.atom 0) 11),[.atom 4])]
            (.sem (.call ⟨.builtin .append,#[.tmp 127,.tmp 131],#[74,74]⟩) 74 [(127,(.sc (.atom 8))),(131,(.sc (.atom 4)))] (.sc .sl) []
            (.call (.fn 75) [.sc (.atom 0),(.ag [.int .i64 0,.int .i64 0,(.str []),(.nil 1),.int .i64 0,.int .i64 0,(.str []),(.nil 1),(.nil 1),(.nil 1),.bool true,.atom 7,.atom 9])] (.ag [.int .i64,.int .i64,.str]) []
            (.store (.atom 6) [.atom 10,.atom 11,.atom 12]
            (.next 8 [.atom 6]))))))
            (.sem (.buildSlice 74 0 #[]) 74 [] (.sc .sl) [((.padd (.atom 0) 11),[.atom 4]),((.padd (.atom 0) 10),[.atom 3])]
            (.sem (.call ⟨.builtin .append,#[.tmp 121,.tmp 125],#[76,76]⟩) 76 [(121,(.sc (.atom 5))),(125,(.sc (.atom 3)))] (.sc .sl) [((.padd (.atom 0) 11),[.atom 4])]
            (.sem (.call ⟨.builtin .append,#[.tmp 127,.tmp 131],#[74,74]⟩) 74 [(127,(.sc (.atom 7))),(131,(.sc (.atom 4)))] (.sc .sl) []
            (.call (.fn 75) [.sc (.atom 0),(.ag [.int .i64 0,.int .i64 0,(.str []),(.nil 1),.int .i64 0,.int .i64 0,(.str []),(.nil 1),(.nil 1),(.nil 1),.bool true,.atom 8,.atom 9])] (.ag [.int .i64,.int .i64,.str]) []
            (.store (.atom 6) [.atom 10,.atom 11,.atom 12]
            (.next 8 [.atom 6])))))))))))
         (.both
          (.sem (.buildSlice 74 0 #[]) 74 [] (.sc .sl) [((.padd (.atom 0) 11),[.atom 4]),((.padd (.atom 0) 10),[.atom 3])]
          (.both
           (.sem (.buildSlice 76 0 #[]) 76 [] (.sc .sl) [((.padd (.atom 0) 11),[.atom 4]),((.padd (.atom 0) 10),[.atom 3])]
           (.both
            (.sem (.call ⟨.builtin .append,#[.tmp 121,.tmp 125],#[76,76]⟩) 76 [(121,(.sc (.atom 6))),(125,(.sc (.atom 3)))] (.sc .sl) [((.padd (.atom 0) 11),[.atom 4])]
            (.both
             (.sem (.call ⟨.builtin .append,#[.tmp 127,.tmp 131],#[74,74]⟩) 74 [(127,(.sc (.atom 5))),(131,(.sc (.atom 4)))] (.sc .sl) []
             (.both
              (.call (.fn 75) [.sc (.atom 0),(.ag [.int .i64 0,.int .i64 0,(.str []),(.nil 1),.int .i64 0,.int .i64 0,(.str []),(.nil 1),(.nil 1),(.nil 1),.bool true,.atom 7,.atom 8])] (.ag [.int .i64,.int .i64,.str]) []
              (.new 73 [.int .i64 0,.int .i64 0,(.str [])]
              (.store (.atom 12) [.atom 9,.atom 10,.atom 11]
              (.next 8 [.atom 12]))))
              (.new 73 [.int .i64 0,.int .i64 0,(.str [])]
              (.call (.fn 75) [.sc (.atom 0),(.ag [.int .i64 0,.int .i64 0,(.str []),(.nil 1),.int .i64 0,.int .i64 0,(.str []),(.nil 1),(.nil 1),(.nil 1),.bool true,.atom 7,.atom 8])] (.ag [.int .i64,.int .i64,.str]) []
              (.store (.atom 9) [.atom 10,.atom 11,.atom 12]
              (.next 8 [.atom 9]))))))
             (.new 73 [.int .i64 0,.int .i64 0,(.str [])]
             (.sem (.call ⟨.builtin .append,#[.tmp 127,.tmp 131],#[74,74]⟩) 74 [(127,(.sc (.atom 5))),(131,(.sc (.atom 4)))] (.sc .sl) []
             (.call (.fn 75) [.sc (.atom 0),(.ag [.int .i64 0,.int .i64 0,(.str []),(.nil 1),.int .i64 0,.int .i64 0,(.str []),(.nil 1),(.nil 1),(.nil 1),.bool true,.atom 7,.atom 9])] (.ag [.int .i64,.int .i64,.str]) []
             (.store (.atom 8) [.atom 10,.atom 11,.atom 12]
             (.next 8 [.atom 8])))))))
            (.new 73 [.int .i64 0,.int .i64 0,(.str [])]
            (.sem (.call ⟨.builtin .append,#[.tmp 121,.tmp 125],#[76,76]⟩) 76 [(121,(.sc (.atom 6))),(125,(.sc (.atom 3)))] (.sc .sl) [((.padd (.atom 0) 11),[.atom 4])]
            (.sem (.call ⟨.builtin .append,#[.tmp 127,.tmp 131],#[74,74]⟩) 74 [(127,(.sc (.atom 5))),(131,(.sc (.atom 4)))] (.sc .sl) []
            (.call (.fn 75) [.sc (.atom 0),(.ag [.int .i64 0,.int .i64 0,(.str []),(.nil 1),.int .i64 0,.int .i64 0,(.str []),(.nil 1),(.nil 1),(.nil 1),.bool true,.atom 8,.atom 9])] (.ag [.int .i64,.int .i64,.str]) []
            (.store (.atom 7) [.atom 10,.atom 11,.atom 12]
            (.next 8 [.atom 7]))))))))
           (.new 73 [.int .i64 0,.int .i64 0,(.str [])]
           (.sem (.buildSlice 76 0 #[]) 76 [] (.sc .sl) [((.padd (.atom 0) 11),[.atom 4]),((.padd (.atom 0) 10),[.atom 3])]
           (.sem (.call ⟨.builtin .append,#[.tmp 121,.tmp 125],#[76,76]⟩) 76 [(121,(.sc (.atom 7))),(125,(.sc (.atom 3)))] (.sc .sl) [((.padd (.atom 0) 11),[.atom 4])]
           (.sem (.call ⟨.builtin .append,#[.tmp 127,.tmp 131],#[74,74]⟩) 74 [(127,(.sc (.atom 5))),(131,(.sc (.atom 4)))] (.sc .sl) []
           (.call (.fn 75) [.sc (.atom 0),(.ag [.int .i64 0,.int .i64 0,(.str []),(.nil 1),.int .i64 0,.int .i64 0,(.str []),(.nil 1),(.nil 1),(.nil 1),.bool true,.atom 8,.atom 9])] (.ag [.int .i64,.int .i64,.str]) []
           (.store (.atom 6) [.atom 10,.atom 11,.atom 12]
           (.next 8 [.atom 6])))))))))
          (.new 73 [.int .i64 0,.int .i64 0,(.str [])]
          (.both
           (.sem (.buildSlice 76 0 #[]) 76 [] (.sc .sl) [((.padd (.atom 0) 11),[.atom 4]),((.padd (.atom 0) 10),[.atom 3])]
           (.both
            (.sem (.call ⟨.builtin .append,#[.tmp 121,.tmp 125],#[76,76]⟩) 76 [(121,(.sc (.atom 6))),(125,(.sc (.atom 3)))] (.sc .sl) [((.padd (.atom 0) 11),[.atom 4])]
            (.sem (.buildSlice 74 0 #[]) 74 [] (.sc .sl) [((.padd (.atom 0) 11),[.atom 4])]
            (.sem (.call ⟨.builtin .append,#[.tmp 127,.tmp 131],#[74,74]⟩) 74 [(127,(.sc (.atom 8))),(131,(.sc (.atom 4)))] (.sc .sl) []
            (.call (.fn 75) [.sc (.atom 0),(.ag [.int .i64 0,.int .i64 0,(.str []),(.nil 1),.int .i64 0,.int .i64 0,(.str []),(.nil 1),(.nil 1),(.nil 1),.bool true,.atom 7,.atom 9])] (.ag [.int .i64,.int .i64,.str]) []
            (.store (.atom 5) [.atom 10,.atom 11,.atom 12]
            (.next 8 [.atom 5]))))))
            (.sem (.buildSlice 74 0 #[]) 74 [] (.sc .sl) [((.padd (.atom 0) 11),[.atom 4]),((.padd (.atom 0) 10),[.atom 3])]
            (.sem (.call ⟨.builtin .append,#[.tmp 121,.tmp 125],#[76,76]⟩) 76 [(121,(.sc (.atom 6))),(125,(.sc (.atom 3)))] (.sc .sl) [((.padd (.atom 0) 11),[.atom 4])]
            (.sem (.call ⟨.builtin .append,#[.tmp 127,.tmp 131],#[74,74]⟩) 74 [(127,(.sc (.atom 7))),(131,(.sc (.atom 4)))] (.sc .sl) []
            (.call (.fn 75) [.sc (.atom 0),(.ag [.int .i64 0,.int .i64 0,(.str []),(.nil 1),.int .i64 0,.int .i64 0,(.str []),(.nil 1),(.nil 1),(.nil 1),.bool true,.atom 8,.atom 9])] (.ag [.int .i64,.int .i64,.str]) []
            (.store (.atom 5) [.atom 10,.atom 11,.atom 12]
            (.next 8 [.atom 5]))))))))
           (.sem (.buildSlice 74 0 #[]) 74 [] (.sc .sl) [((.padd (.atom 0) 11),[.atom 4]),((.padd (.atom 0) 10),[.atom 3])]
           (.sem (.buildSlice 76 0 #[]) 76 [] (.sc .sl) [((.padd (.atom 0) 11),[.atom 4]),((.padd (.atom 0) 10),[.atom 3])]
           (.sem (.call ⟨.builtin .append,#[.tmp 121,.tmp 125],#[76,76]⟩) 76 [(121,(.sc (.atom 7))),(125,(.sc (.atom 3)))] (.sc .sl) [((.padd (.atom 0) 11),[.atom 4])]
           (.sem (.call ⟨.builtin .append,#[.tmp 127,.tmp 131],#[74,74]⟩) 74 [(127,(.sc (.atom 6))),(131,(.sc (.atom 4)))] (.sc .sl) []
           (.call (.fn 75) [.sc (.atom 0),(.ag [.int .i64 0,.int .i64 0,(.str []),(.nil 1),.int .i64 0,.int .i64 0,(.str []),(.nil 1),(.nil 1),(.nil 1),.bool true,.atom 8,.atom 9])] (.ag [.int .i64,.int .i64,.str]) []
           (.store (.atom 5) [.atom 10,.atom 11,.atom 12]
           (.next 8 [.atom 5])))))))))))))))
       (.chk [] (.some (.atom 0))
       (.load (.padd (.atom 0) 0) [.ptr]
       (.call (.fn 79) [.sc (.atom 3),.sc (.atom 1),.sc (.atom 2)] (.tu [(true,[.int .i64,.int .i64,.str]),(false,[.int .i64])]) []
       (.store (.padd (.atom 0) 12) [.atom 7]
       (.call (.fn 55) [.sc (.atom 0),(.ag [.atom 4,.atom 5,.atom 6])] (.tu []) []
       (.leaf (.tu [])))))))))))))
theorem z6z:execF Tryz.prog { pub:=[8],nojoin:=false } Tryz.f57=z3b:=by kernel_rfl
theorem z94:callB Tryz.prog 57=true:=by kernel_rfl
theorem z8d:TriOf Tryz.prog 57 Tryz.f57 z3b:=triOf Tryz.func57 z6z
abbrev z9n:FuncId:=58
def z3f:Fm VE:=
 (.sem (.buildSlice 80 0 #[]) 80 [] (.sc .sl) []
 (.sem (.call ⟨.builtin .append,#[.tmp 11,.tmp 12],#[80,80]⟩) 80 [(11,(.sc (.atom 4))),(12,(.sc (.atom 1)))] (.sc .sl) []
 (.loop 4 [.sl,.int .i64] [.atom 5,.int .i64 0]
  (.ite (.cmp .lss (.atom 7) (.len (.atom 2)))
   (.chk [] (.some (.atom 0))
   (.load (.padd (.atom 0) 1) [.sl]
   (.chk [] (.inSl (.atom 3) (.atom 7))
   (.load (.elt (.atom 3) (.atom 7) 3) [.int .i64,.int .i64,.str]
   (.sem (.buildSlice 74 1 #[(0,(.tmp 28))]) 74 [(28,(.ag [.atom 9,.atom 10,.atom 11]))] (.sc .sl) [((.padd (.atom 0) 1),[.atom 8])]
   (.sem (.call ⟨.builtin .append,#[.tmp 24,.tmp 29],#[74,74]⟩) 74 [(24,(.sc (.atom 8))),(29,(.sc (.atom 12)))] (.sc .sl) []
   (.store (.padd (.atom 0) 1) [.atom 13]
   (.chk [] (.inSl (.atom 2) (.atom 7))
   (.load (.elt (.atom 2) (.atom 7) 1) [.str]
   (.load (.padd (.atom 0) 1) [.sl]
   (.sem (.buildSlice 80 1 #[(0,(.tmp 44))]) 80 [(44,(.ag [.atom 14,(.ar .sub .i64 (.len (.atom 15)) (.int .i64 1))]))] (.sc .sl) []
   (.sem (.call ⟨.builtin .append,#[.tmp 33,.tmp 45],#[80,80]⟩) 80 [(33,(.sc (.atom 6))),(45,(.sc (.atom 16)))] (.sc .sl) []
   (.next 4 [.atom 17,(.ar .add .i64 (.atom 7) (.int .i64 1))])))))))))))))
   (.leaf (.sc (.atom 6)))))))
theorem z6s:execF Tryz.prog { pub:=[],nojoin:=false } Tryz.f58=z3f:=by kernel_rfl
theorem z25:callB Tryz.prog 58=true:=by kernel_rfl
theorem z8c:TriOf Tryz.prog 58 Tryz.f58 z3f:=triOf Tryz.func58 z6s
abbrev zc4:FuncId:=59
def z4s:Fm VE:=
 (.ite (.pick (.cmp .neq (.atom 1) (.int .i64 3)) (.scmp .neq (.atom 3) (.str [])) (.bool false))
  (.leaf (.sc (.bool false)))
  (.ite (.cmp .eql (.atom 1) (.int .i64 0))
   (.leaf (.sc (.pick (.cmp .eql (.atom 2) (.int .i64 0)) (.bool true) (.cmp .eql (.atom 2) (.int .i64 1)))))
   (.ite (.cmp .eql (.atom 1) (.int .i64 1))
    (.call (.fn 80) [.sc (.atom 2)] (.sc .bool) []
    (.leaf (.sc (.atom 4))))
    (.ite (.cmp .eql (.atom 1) (.int .i64 2))
     (.leaf (.sc (.pick (.cmp .geq (.atom 2) (.int .i64 0)) (.cmp .leq (.atom 2) (.int .i64 255)) (.bool false))))
     (.ite (.cmp .eql (.atom 1) (.int .i64 3))
      (.join 9 [.bool]
       (.leaf (.sc (.atom 4)))
       (.ite (.cmp .eql (.atom 2) (.int .i64 0))
        (.call (.fn 70) [.sc (.atom 3)] (.sc .bool) []
        (.next 9 [.atom 4]))
        (.next 9 [.bool false])))
      (.join 9 [.bool]
       (.ite (.atom 4)
        (.leaf (.sc (.cmp .eql (.atom 2) (.int .i64 0))))
        (.ite (.cmp .eql (.atom 1) (.int .i64 8))
         (.join 11 [.bool]
          (.leaf (.sc (.atom 5)))
          (.chk [((.cmp .geq (.atom 2) (.int .i64 0)),true)] (.some (.atom 0))
          (.chk [((.cmp .geq (.atom 2) (.int .i64 0)),true)] (.some (.atom 0))
          (.ite (.cmp .geq (.atom 2) (.int .i64 0))
           (.load (.padd (.atom 0) 0) [.sl]
           (.next 11 [(.cmp .lss (.atom 2) (.len (.atom 5)))]))
           (.next 11 [.bool false])))))
         (.leaf (.sc (.bool false)))))
       (.ite (.cmp .eql (.atom 1) (.int .i64 4))
        (.next 9 [(.cmp .eql (.atom 1) (.int .i64 4))])
        (.ite (.cmp .eql (.atom 1) (.int .i64 5))
         (.next 9 [(.cmp .eql (.atom 1) (.int .i64 5))])
         (.next 9 [(.pick (.cmp .eql (.atom 1) (.int .i64 6)) (.cmp .eql (.atom 1) (.int .i64 6)) (.cmp .eql (.atom 1) (.int .i64 7)))])))))))))
theorem z9v:execF Tryz.prog { pub:=[],nojoin:=false } Tryz.f59=z4s:=by kernel_rfl
theorem z4p:callB Tryz.prog 59=true:=by kernel_rfl
theorem zan:TriOf Tryz.prog 59 Tryz.f59 z4s:=triOf Tryz.func59 z9v
abbrev z4q:FuncId:=60
def z47:Fm VE:=
 (.ite (.pick (.cmp .geq (.atom 5) (.int .i64 200)) (.bool true) (.cmp .gtr (.atom 4) (.int .i64 32)))
  (.leaf (.tu [(true,[.int .i64 0,.int .i64 0,(.str []),(.nil 1)]),(false,[.atom 5]),(false,[.bool false])]))
  (.sem (.buildSlice 22 8 #[(0,(.const (.string ⟨#[]⟩))),(1,(.const (.string ⟨#[]⟩))),(2,(.const (.string ⟨#[]⟩))),(3,(.const (.string ⟨#[]⟩))),(4,(.const (.string ⟨#[]⟩))),(5,(.const (.string ⟨#[118,111,105,100]⟩))),(6,(.const (.string ⟨#[101,111,102]⟩))),(7,(.const (.string ⟨#[117,110,115,101,116]⟩)))]) 22 [] (.sc .sl) []
  (.ite (.pick (.cmp .eql (.atom 1) (.int .i64 1)) (.cmp .eql (.atom 1) (.int .i64 1)) (.cmp .eql (.atom 1) (.int .i64 2)))
   (.leaf (.tu [(true,[.atom 1,.atom 2,(.str []),(.nil 1)]),(false,[(.ar .add .i64 (.atom 5) (.int .i64 1))]),(false,[.bool true])]))
   (.ite (.cmp .eql (.atom 1) (.int .i64 3))
    (.leaf (.tu [(true,[.int .i64 4,.int .i64 0,.atom 3,(.nil 1)]),(false,[(.ar .add .i64 (.atom 5) (.int .i64 1))]),(false,[.bool true])]))
    (.ite (.cmp .eql (.atom 1) (.int .i64 4))
     (.leaf (.tu [(true,[.int .i64 5,.int .i64 0,(.str []),(.nil 1)]),(false,[(.ar .add .i64 (.atom 5) (.int .i64 1))]),(false,[.bool true])]))
     (.join 12 [.bool]
      (.ite (.atom 7)
       (.chk [] (.inSl (.atom 6) (.atom 1))
       (.load (.elt (.atom 6) (.atom 1) 1) [.str]
       (.leaf (.tu [(true,[.int .i64 4,.int .i64 0,.atom 8,(.nil 1)]),(false,[(.ar .add .i64 (.atom 5) (.int .i64 1))]),(false,[.bool true])]))))
       (.ite (.cmp .eql (.atom 1) (.int .i64 0))
        (.leaf (.tu [(true,[.int .i64 0,.atom 2,(.str []),(.nil 1)]),(false,[(.ar .add .i64 (.atom 5) (.int .i64 1))]),(false,[.bool true])]))
        (.chk [] (.some (.atom 0))
        (.load (.padd (.atom 0) 0) [.sl]
        (.chk [] (.inSl (.atom 8) (.atom 2))
        (.load (.elt (.atom 8) (.atom 2) 2) [.int .i64,.sl]
        (.ite (.cmp .eql (.atom 9) (.int .i64 3))
         (.leaf (.tu [(true,[.int .i64 4,.int .i64 0,(.str [98,111,120]),(.nil 1)]),(false,[(.ar .add .i64 (.atom 5) (.int .i64 1))]),(false,[.bool true])]))
         (.ite (.cmp .eql (.atom 9) (.int .i64 4))
          (.leaf (.tu [(true,[.int .i64 4,.int .i64 0,(.str [112,114,111,99,101,100,117,114,101]),(.nil 1)]),(false,[(.ar .add .i64 (.atom 5) (.int .i64 1))]),(false,[.bool true])]))
          (.ite (.cmp .eql (.atom 9) (.int .i64 2))
           (.sem (.buildSlice 36 0 #[]) 36 [] (.sc .sl) []
           (.loop 24 [.sl,.int .i64] [.atom 11,.int .i64 0]
            (.ite (.cmp .lss (.atom 13) (.len (.atom 10)))
             (.chk [] (.inSl (.atom 10) (.atom 13))
             (.load (.padd (.elt (.atom 10) (.atom 13) 3) 1) [.int .i64]
             (.sem (.buildSlice 36 1 #[(0,(.tmp 106))]) 36 [(106,(.sc (.conv .u8 (.atom 14))))] (.sc .sl) []
             (.sem (.call ⟨.builtin .append,#[.tmp 99,.tmp 107],#[36,36]⟩) 36 [(99,(.sc (.atom 12))),(107,(.sc (.atom 15)))] (.sc .sl) []
             (.next 24 [.atom 16,(.ar .add .i64 (.atom 13) (.int .i64 1))])))))
             (.sem (.convert 36 9 (.tmp 109)) 9 [(109,(.sc (.atom 12)))] (.sc .str) []
             (.leaf (.tu [(true,[.int .i64 3,.int .i64 0,.atom 14,(.nil 1)]),(false,[(.ar .add .i64 (.atom 5) (.int .i64 1))]),(false,[.bool true])]))))))
           (.sem (.buildSlice 23 0 #[]) 23 [] (.sc .sl) []
           (.loop 26 [.int .i64,.int .i64,.bool,.sl,.bool,.int .i64,.int .i64,.int .i64,.str,.sl,.int .i64,.int .i64,.str,.sl] [(.ar .add .i64 (.atom 5) (.int .i64 1)),.int .i64 0,.bool false,.atom 11,.bool true,.int .i64 0,.int .i64 0,.int .i64 0,(.str []),(.nil 1),.int .i64 0,.int .i64 0,(.str []),(.nil 1)]
            (.ite (.cmp .lss (.atom 17) (.len (.atom 10)))
             (.chk [] (.inSl (.atom 10) (.atom 17))
             (.load (.elt (.atom 10) (.atom 17) 3) [.int .i64,.int .i64,.str]
             (.call (.fn 60) [.sc (.atom 0),(.ag [.atom 26,.atom 27,.atom 28]),(.sc (.pick (.pick (.cmp .eql (.atom 9) (.int .i64 0)) (.cmp .eql (.atom 17) (.int .i64 1)) (.bool false)) (.atom 4) (.ar .add .i64 (.atom 4) (.int .i64 1)))),.sc (.atom 12)] (.tu [(true,[.int .i64,.int .i64,.str,.sl]),(false,[.int .i64]),(false,[.bool])]) []
             (.ite (.not (.atom 34))
              (.leaf (.tu [(true,[.int .i64 0,.int .i64 0,(.str []),(.nil 1)]),(false,[.atom 33]),(false,[.bool false])]))
              (.sem (.buildSlice 23 1 #[(0,(.tmp 150))]) 23 [(150,(.ag [.atom 29,.atom 30,.atom 31,.atom 32]))] (.sc .sl) []
              (.sem (.call ⟨.builtin .append,#[.tmp 149,.tmp 151],#[23,23]⟩) 23 [(149,(.sc (.atom 15))),(151,(.sc (.atom 35)))] (.sc .sl) []
              (.next 26 [.atom 33,.atom 13,.atom 14,.atom 36,.atom 34,(.ar .add .i64 (.atom 17) (.int .i64 1)),.atom 29,.atom 30,.atom 31,.atom 32,.atom 22,.atom 23,.atom 24,.atom 25])))))))
             (.ite (.cmp .eql (.atom 9) (.int .i64 0))
              (.chk [] (.sub (.cap (.atom 15)) (.int .i64 0) (.int .i64 1))
              (.chk [] (.inSl (.atom 15) (.int .i64 1))
              (.load (.elt (.atom 15) (.int .i64 1) 4) [.int .i64,.int .i64,.str,.sl]
              (.call (.fn 81) [(.sc (.sls (.atom 15) (.int .i64 0) (.int .i64 1) 4)),(.ag [.atom 26,.atom 27,.atom 28,.atom 29])] (.ag [.int .i64,.int .i64,.str,.sl]) []
              (.leaf (.tu [(true,[.atom 30,.atom 31,.atom 32,.atom 33]),(false,[.atom 12]),(false,[.bool true])]))))))
              (.leaf (.tu [(true,[.int .i64 7,.int .i64 0,(.str []),.atom 15]),(false,[.atom 12]),(false,[.bool true])])))))))))))))))
      (.ite (.cmp .eql (.atom 1) (.int .i64 5))
       (.next 12 [(.cmp .eql (.atom 1) (.int .i64 5))])
       (.next 12 [(.pick (.cmp .eql (.atom 1) (.int .i64 6)) (.cmp .eql (.atom 1) (.int .i64 6)) (.cmp .eql (.atom 1) (.int .i64 7)))]))))))))
theorem z8x:execF Tryz.prog { pub:=[],nojoin:=false } Tryz.f60=z47:=by kernel_rfl
theorem z4e:callB Tryz.prog 60=true:=by kernel_rfl
theorem z42:TriOf Tryz.prog 60 Tryz.f60 z47:=triOf Tryz.func60 z8x
abbrev zg9:FuncId:=73
def z6k:Fm VE:=
 (.call (.fn 52) [(.ag [.atom 0,.atom 1,.atom 2,.atom 3])] (.sc (.int .i64)) []
 (.ite (.cmp .neq (.atom 4) (.int .i64 0))
  (.leaf (.tu [(true,[.int .i64 0,.int .i64 0,(.str [])]),(false,[.bool false])]))
  (.join 3 []
   (.leaf (.tu [(true,[.int .i64 0,.int .i64 0,(.str [])]),(false,[.bool false])]))
   (.join 5 [.bool]
    (.ite (.atom 5)
     (.leaf (.tu [(true,[.atom 0,.atom 1,(.str [])]),(false,[.bool true])]))
     (.ite (.cmp .eql (.atom 0) (.int .i64 4))
      (.leaf (.tu [(true,[.int .i64 3,.int .i64 0,.atom 2]),(false,[.bool true])]))
      (.ite (.cmp .eql (.atom 0) (.int .i64 5))
       (.ite (.cmp .eql (.len (.atom 3)) (.int .i64 0))
        (.leaf (.tu [(true,[.int .i64 4,.int .i64 0,(.str [])]),(false,[.bool true])]))
        (.next 3 []))
       (.next 3 []))))
    (.ite (.cmp .eql (.atom 0) (.int .i64 0))
     (.next 5 [(.cmp .eql (.atom 0) (.int .i64 0))])
     (.next 5 [(.pick (.cmp .eql (.atom 0) (.int .i64 1)) (.cmp .eql (.atom 0) (.int .i64 1)) (.cmp .eql (.atom 0) (.int .i64 2)))]))))))
theorem zbn:execF Tryz.prog { pub:=[],nojoin:=false } Tryz.f73=z6k:=by kernel_rfl
theorem zfq:callB Tryz.prog 73=true:=by kernel_rfl
theorem zdo:TriOf Tryz.prog 73 Tryz.f73 z6k:=triOf Tryz.func73 zbn
abbrev zhr:FuncId:=74
def z7g:Fm VE:=
 (.loop 4 [.int .i64,.int .i64] [(.int .i64 (-1)),.int .i64 0]
  (.ite (.cmp .lss (.atom 3) (.len (.atom 0)))
   (.join 7 [.int .i64]
    (.next 4 [.atom 4,(.ar .add .i64 (.atom 3) (.int .i64 1))])
    (.chk [] (.inSl (.atom 0) (.atom 3))
    (.load (.padd (.elt (.atom 0) (.atom 3) 2) 0) [.str]
    (.ite (.scmp .eql (.atom 4) (.atom 1))
     (.load (.padd (.elt (.atom 0) (.atom 3) 2) 1) [.int .i64]
     (.next 7 [.atom 5]))
     (.next 7 [.atom 2])))))
   (.leaf (.sc (.atom 2)))))
theorem zd6:execF Tryz.prog { pub:=[],nojoin:=false } Tryz.f74=z7g:=by kernel_rfl
theorem z41:callB Tryz.prog 74=true:=by kernel_rfl
theorem zfk:TriOf Tryz.prog 74 Tryz.f74 z7g:=triOf Tryz.func74 zd6
abbrev z9t:FuncId:=75
def z3g:Fm VE:=
 (.chk [] (.some (.atom 0))
 (.load (.padd (.atom 0) 0) [.ptr]
 (.call (.fn 94) [.sc (.atom 14),.sc (.int .i64 4),(.sc (.nil 1))] (.tu [(true,[.int .i64,.int .i64,.str]),(false,[.int .i64])]) []
 (.load (.padd (.atom 0) 2) [.sl]
 (.sem (.buildSlice 75 1 #[(0,(.tmp 23))]) 75 [(23,(.ag [.atom 16,.atom 2,.atom 3,.atom 4,.atom 5,.atom 6,.atom 7,.atom 8,.atom 9,.atom 10,.atom 11,.atom 12,.atom 13]))] (.sc .sl) [((.padd (.atom 0) 2),[.atom 19])]
 (.sem (.call ⟨.builtin .append,#[.tmp 22,.tmp 24],#[75,75]⟩) 75 [(22,(.sc (.atom 19))),(24,(.sc (.atom 20)))] (.sc .sl) []
 (.store (.padd (.atom 0) 2) [.atom 21]
 (.leaf (.ag [.atom 15,.atom 16,.atom 17])))))))))
theorem z6v:execF Tryz.prog { pub:=[],nojoin:=false } Tryz.f75=z3g:=by kernel_rfl
theorem z93:callB Tryz.prog 75=true:=by kernel_rfl
theorem z80:TriOf Tryz.prog 75 Tryz.f75 z3g:=triOf Tryz.func75 z6v
abbrev za8:FuncId:=76
def z3p:Fm VE:=
 (.loop 1 [.int .i64] [(.ar .sub .i64 (.len (.atom 1)) (.int .i64 1))]
  (.ite (.cmp .geq (.atom 3) (.int .i64 0))
   (.chk [] (.inSl (.atom 1) (.atom 3))
   (.load (.elt (.atom 1) (.atom 3) 8) [.int .i64,.str,.sl,.int .i64,.int .i64,.str,.sl,.sl]
   (.call (.fn 39) [.sc (.atom 0),(.ag [.int .i64 0,.atom 4,.atom 5,.atom 6,.atom 7,.atom 8,.atom 9,.atom 10,.atom 11,.atom 2,.int .i64 0])] (.tu []) []
   (.next 1 [(.ar .sub .i64 (.atom 3) (.int .i64 1))]))))
   (.leaf (.tu []))))
theorem z7q:execF Tryz.prog { pub:=[],nojoin:=false } Tryz.f76=z3p:=by kernel_rfl
theorem z26:callB Tryz.prog 76=true:=by kernel_rfl
theorem z8v:TriOf Tryz.prog 76 Tryz.f76 z3p:=triOf Tryz.func76 z7q
abbrev za0:FuncId:=77
def z3r:Fm VE:=
 (.sem (.buildSlice 74 0 #[]) 74 [] (.sc .sl) []
 (.loop 5 [.sl,.int .i64] [.atom 10,.int .i64 0]
  (.ite (.cmp .lss (.atom 12) (.len (.atom 3)))
   (.sem (.buildSlice 74 1 #[(0,(.tmp 23))]) 74 [(23,(.ag [.int .i64 7,.int .i64 0,(.str [])]))] (.sc .sl) []
   (.sem (.call ⟨.builtin .append,#[.tmp 22,.tmp 24],#[74,74]⟩) 74 [(22,(.sc (.atom 11))),(24,(.sc (.atom 13)))] (.sc .sl) []
   (.next 5 [.atom 14,(.ar .add .i64 (.atom 12) (.int .i64 1))])))
   (.call (.fn 58) [.sc (.atom 0),.sc (.atom 9),.sc (.atom 3),.sc (.atom 11)] (.sc .sl) []
   (.chk [] (.inSl (.atom 8) (.len (.atom 3)))
   (.load (.elt (.atom 8) (.len (.atom 3)) 8) [.int .i64,.str,.sl,.int .i64,.int .i64,.str,.sl,.sl]
   (.call (.fn 39) [.sc (.atom 0),(.ag [.int .i64 0,.atom 14,.atom 15,.atom 16,.atom 17,.atom 18,.atom 19,.atom 20,.atom 21,.atom 13,.int .i64 0])] (.tu []) []
   (.loop 11 [.int .i64] [.int .i64 1]
    (.ite (.cmp .geq (.atom 22) (.int .i64 0))
     (.loop 16 [.int .i64] [(.ar .sub .i64 (.len (.atom 3)) (.int .i64 1))]
      (.ite (.cmp .geq (.atom 23) (.int .i64 0))
       (.join 19 []
        (.next 16 [(.ar .sub .i64 (.atom 23) (.int .i64 1))])
        (.chk [] (.inSl (.atom 8) (.atom 23))
        (.load (.padd (.elt (.atom 8) (.atom 23) 8) 0) [.int .i64]
        (.ite (.beq (.cmp .eql (.atom 24) (.int .i64 5)) (.cmp .eql (.atom 22) (.int .i64 0)))
         (.chk [] (.inSl (.atom 3) (.atom 23))
         (.load (.elt (.atom 3) (.atom 23) 1) [.str]
         (.call (.fn 74) [.sc (.atom 13),.sc (.atom 25)] (.sc (.int .i64)) []
         (.call (.fn 39) [.sc (.atom 0),(.ag [.int .i64 7,.int .i64 0,(.str []),(.nil 1),.int .i64 0,.int .i64 0,(.str []),(.nil 1),(.nil 1),(.nil 1),.atom 26])] (.tu []) []
         (.load (.elt (.atom 8) (.atom 23) 8) [.int .i64,.str,.sl,.int .i64,.int .i64,.str,.sl,.sl]
         (.call (.fn 39) [.sc (.atom 0),(.ag [.int .i64 0,.atom 27,.atom 28,.atom 29,.atom 30,.atom 31,.atom 32,.atom 33,.atom 34,.atom 13,.int .i64 0])] (.tu []) []
         (.next 19 [])))))))
         (.next 19 [])))))
       (.next 11 [(.ar .sub .i64 (.atom 22) (.int .i64 1))])))
     (.leaf (.tu [])))))))))))
theorem z7p:execF Tryz.prog { pub:=[],nojoin:=false } Tryz.f77=z3r:=by kernel_rfl
theorem z9k:callB Tryz.prog 77=true:=by kernel_rfl
theorem z96:TriOf Tryz.prog 77 Tryz.f77 z3r:=triOf Tryz.func77 z7p
abbrev zbj:FuncId:=78
def z4d:Fm VE:=
 (.ite (.cmp .neq (.atom 1) (.int .i64 8))
  (.leaf (.sc (.int .i64 (-1))))
  (.chk [] (.some (.atom 0))
  (.load (.padd (.atom 0) 0) [.sl]
  (.chk [] (.inSl (.atom 4) (.atom 2))
  (.load (.padd (.elt (.atom 4) (.atom 2) 2) 0) [.int .i64]
  (.leaf (.sc (.atom 5))))))))
theorem z8z:execF Tryz.prog { pub:=[],nojoin:=false } Tryz.f78=z4d:=by kernel_rfl
theorem z0z:callB Tryz.prog 78=true:=by kernel_rfl
theorem za4:TriOf Tryz.prog 78 Tryz.f78 z4d:=triOf Tryz.func78 z8z
abbrev zcm:FuncId:=79
def z50:Fm VE:=
 (.call (.fn 95) [] (.sc .sl) []
 (.loop 5 [.int .i64,.int .i64] [(.int .i64 (-1)),.int .i64 0]
  (.ite (.cmp .lss (.atom 5) (.len (.atom 3)))
   (.chk [] (.inSl (.atom 3) (.atom 5))
   (.load (.padd (.elt (.atom 3) (.atom 5) 2) 0) [.str]
   (.next 5 [(.pick (.scmp .eql (.atom 6) (.atom 1)) (.atom 5) (.atom 4)),(.ar .add .i64 (.atom 5) (.int .i64 1))])))
   (.join 9 [.bool]
    (.ite (.atom 6)
     (.leaf (.tu [(true,[.int .i64 0,.int .i64 0,(.str [])]),(false,[.int .i64 1])]))
     (.loop 12 [.int .i64,.int .i64,.int .i64,.int .i64,.str] [.int .i64 0,.int .i64 0,.int .i64 0,.int .i64 0,(.str [])]
      (.ite (.cmp .lss (.atom 8) (.len (.atom 2)))
       (.chk [] (.inSl (.atom 2) (.atom 8))
       (.load (.elt (.atom 2) (.atom 8) 3) [.int .i64,.int .i64,.str]
       (.call (.fn 59) [.sc (.atom 0),(.ag [.atom 12,.atom 13,.atom 14])] (.sc .bool) []
       (.ite (.not (.atom 15))
        (.leaf (.tu [(true,[.int .i64 0,.int .i64 0,(.str [])]),(false,[.int .i64 1])]))
        (.next 12 [.atom 7,(.ar .add .i64 (.atom 8) (.int .i64 1)),.atom 9,.atom 10,.atom 11])))))
       (.loop 17 [.int .i64,.int .i64,.int .i64,.int .i64,.str] [.atom 7,.int .i64 0,.atom 9,.atom 10,.atom 11]
        (.ite (.cmp .lss (.atom 13) (.len (.atom 2)))
         (.chk [] (.inSl (.atom 3) (.atom 4))
         (.load (.padd (.elt (.atom 3) (.atom 4) 2) 1) [.sl]
         (.chk [] (.inSl (.atom 17) (.atom 13))
         (.load (.elt (.atom 17) (.atom 13) 1) [.int .i64]
         (.join 22 [.bool]
          (.ite (.atom 19)
           (.leaf (.tu [(true,[.int .i64 0,.int .i64 0,(.str [])]),(false,[.int .i64 80])]))
           (.next 17 [.atom 12,(.ar .add .i64 (.atom 13) (.int .i64 1)),.atom 14,.atom 15,.atom 16]))
          (.chk [((.cmp .geq (.atom 18) (.int .i64 10)),true)] (.inSl (.atom 2) (.atom 13))
          (.ite (.cmp .geq (.atom 18) (.int .i64 10))
           (.load (.elt (.atom 2) (.atom 13) 3) [.int .i64,.int .i64,.str]
           (.call (.fn 78) [.sc (.atom 0),(.ag [.atom 19,.atom 20,.atom 21])] (.sc (.int .i64)) []
           (.chk [((.cmp .neq (.atom 22) (.ar .sub .i64 (.atom 18) (.int .i64 10))),false),((.pick (.cmp .geq (.atom 18) (.int .i64 0)) (.cmp .lss (.atom 18) (.int .i64 10)) (.bool false)),true)] (.inSl (.atom 2) (.atom 13))
           (.chk [((.cmp .neq (.atom 22) (.ar .sub .i64 (.atom 18) (.int .i64 10))),false),((.pick (.cmp .geq (.atom 18) (.int .i64 0)) (.cmp .lss (.atom 18) (.int .i64 10)) (.bool false)),true)] (.some (.elt (.atom 2) (.atom 13) 3))
           (.ite (.cmp .neq (.atom 22) (.ar .sub .i64 (.atom 18) (.int .i64 10)))
            (.next 22 [.bool true])
            (.ite (.pick (.cmp .geq (.atom 18) (.int .i64 0)) (.cmp .lss (.atom 18) (.int .i64 10)) (.bool false))
             (.load (.padd (.elt (.atom 2) (.atom 13) 3) 0) [.int .i64]
             (.next 22 [(.cmp .neq (.atom 23) (.atom 18))]))
             (.next 22 [.bool false])))))))
           (.chk [((.pick (.cmp .geq (.atom 18) (.int .i64 0)) (.cmp .lss (.atom 18) (.int .i64 10)) (.bool false)),true)] (.inSl (.atom 2) (.atom 13))
           (.chk [((.pick (.cmp .geq (.atom 18) (.int .i64 0)) (.cmp .lss (.atom 18) (.int .i64 10)) (.bool false)),true)] (.some (.elt (.atom 2) (.atom 13) 3))
           (.ite (.pick (.cmp .geq (.atom 18) (.int .i64 0)) (.cmp .lss (.atom 18) (.int .i64 10)) (.bool false))
            (.load (.padd (.elt (.atom 2) (.atom 13) 3) 0) [.int .i64]
            (.next 22 [(.cmp .neq (.atom 19) (.atom 18))]))
            (.next 22 [.bool false])))))))))))
         (.join 23 [.int .i64,.int .i64,.str]
          (.join 24 [.int .i64,.int .i64,.str]
           (.join 25 [.int .i64,.int .i64,.str]
            (.ite (.scmp .eql (.atom 1) (.str [43]))
             (.call (.fn 96) [.sc (.int .i64 0),(.ag [.atom 17,.atom 18,.atom 19]),(.ag [.atom 20,.atom 21,.atom 22])] (.tu [(true,[.int .i64,.int .i64,.str]),(false,[.int .i64])]) []
             (.leaf (.tu [(true,[.atom 26,.atom 27,.atom 28]),(false,[.atom 29])])))
             (.ite (.scmp .eql (.atom 1) (.str [45]))
              (.call (.fn 96) [.sc (.int .i64 1),(.ag [.atom 17,.atom 18,.atom 19]),(.ag [.atom 20,.atom 21,.atom 22])] (.tu [(true,[.int .i64,.int .i64,.str]),(false,[.int .i64])]) []
              (.leaf (.tu [(true,[.atom 26,.atom 27,.atom 28]),(false,[.atom 29])])))
              (.ite (.scmp .eql (.atom 1) (.str [42]))
               (.call (.fn 96) [.sc (.int .i64 2),(.ag [.atom 17,.atom 18,.atom 19]),(.ag [.atom 20,.atom 21,.atom 22])] (.tu [(true,[.int .i64,.int .i64,.str]),(false,[.int .i64])]) []
               (.leaf (.tu [(true,[.atom 26,.atom 27,.atom 28]),(false,[.atom 29])])))
               (.ite (.scmp .eql (.atom 1) (.str [113,117,111,116,105,101,110,116]))
                (.call (.fn 96) [.sc (.int .i64 3),(.ag [.atom 17,.atom 18,.atom 19]),(.ag [.atom 20,.atom 21,.atom 22])] (.tu [(true,[.int .i64,.int .i64,.str]),(false,[.int .i64])]) []
                (.leaf (.tu [(true,[.atom 26,.atom 27,.atom 28]),(false,[.atom 29])])))
                (.ite (.scmp .eql (.atom 1) (.str [114,101,109,97,105,110,100,101,114]))
                 (.call (.fn 96) [.sc (.int .i64 4),(.ag [.atom 17,.atom 18,.atom 19]),(.ag [.atom 20,.atom 21,.atom 22])] (.tu [(true,[.int .i64,.int .i64,.str]),(false,[.int .i64])]) []
                 (.leaf (.tu [(true,[.atom 26,.atom 27,.atom 28]),(false,[.atom 29])])))
                 (.ite (.scmp .eql (.atom 1) (.str [60]))
                  (.call (.fn 97) [(.sc (.cmp .lss (.atom 18) (.atom 21)))] (.ag [.int .i64,.int .i64,.str]) []
                  (.leaf (.tu [(true,[.atom 26,.atom 27,.atom 28]),(false,[.int .i64 0])])))
                  (.ite (.pick (.scmp .eql (.atom 1) (.str [61])) (.scmp .eql (.atom 1) (.str [61])) (.scmp .eql (.atom 1) (.str [101,113,63])))
                   (.sem (.binOp .eql 73 (.tmp 175) (.tmp 176) 73) 4 [(175,(.ag [.atom 17,.atom 18,.atom 19])),(176,(.ag [.atom 20,.atom 21,.atom 22]))] (.sc .bool) []
                   (.call (.fn 97) [.sc (.atom 26)] (.ag [.int .i64,.int .i64,.str]) []
                   (.leaf (.tu [(true,[.atom 27,.atom 28,.atom 29]),(false,[.int .i64 0])]))))
                   (.ite (.scmp .eql (.atom 1) (.str [110,117,108,108,63]))
                    (.call (.fn 97) [(.sc (.cmp .eql (.atom 17) (.int .i64 4)))] (.ag [.int .i64,.int .i64,.str]) []
                    (.leaf (.tu [(true,[.atom 26,.atom 27,.atom 28]),(false,[.int .i64 0])])))
                    (.ite (.scmp .eql (.atom 1) (.str [115,121,109,98,111,108,63]))
                     (.call (.fn 97) [(.sc (.cmp .eql (.atom 17) (.int .i64 3)))] (.ag [.int .i64,.int .i64,.str]) []
                     (.leaf (.tu [(true,[.atom 26,.atom 27,.atom 28]),(false,[.int .i64 0])])))
                     (.ite (.scmp .eql (.atom 1) (.str [99,104,97,114,63]))
                      (.call (.fn 97) [(.sc (.cmp .eql (.atom 17) (.int .i64 2)))] (.ag [.int .i64,.int .i64,.str]) []
                      (.leaf (.tu [(true,[.atom 26,.atom 27,.atom 28]),(false,[.int .i64 0])])))
                      (.ite (.scmp .eql (.atom 1) (.str [105,110,116,101,103,101,114,63]))
                       (.call (.fn 97) [(.sc (.cmp .eql (.atom 17) (.int .i64 1)))] (.ag [.int .i64,.int .i64,.str]) []
                       (.leaf (.tu [(true,[.atom 26,.atom 27,.atom 28]),(false,[.int .i64 0])])))
                       (.ite (.scmp .eql (.atom 1) (.str [98,111,111,108,101,97,110,63]))
                        (.call (.fn 97) [(.sc (.cmp .eql (.atom 17) (.int .i64 0)))] (.ag [.int .i64,.int .i64,.str]) []
                        (.leaf (.tu [(true,[.atom 26,.atom 27,.atom 28]),(false,[.int .i64 0])])))
                        (.ite (.scmp .eql (.atom 1) (.str [101,111,102,45,111,98,106,101,99,116,63]))
                         (.call (.fn 97) [(.sc (.cmp .eql (.atom 17) (.int .i64 6)))] (.ag [.int .i64,.int .i64,.str]) []
                         (.leaf (.tu [(true,[.atom 26,.atom 27,.atom 28]),(false,[.int .i64 0])])))
                         (.ite (.scmp .eql (.atom 1) (.str [112,97,105,114,63]))
                          (.call (.fn 78) [.sc (.atom 0),(.ag [.atom 17,.atom 18,.atom 19])] (.sc (.int .i64)) []
                          (.call (.fn 97) [(.sc (.cmp .eql (.atom 26) (.int .i64 0)))] (.ag [.int .i64,.int .i64,.str]) []
                          (.leaf (.tu [(true,[.atom 27,.atom 28,.atom 29]),(false,[.int .i64 0])]))))
                          (.ite (.scmp .eql (.atom 1) (.str [118,101,99,116,111,114,63]))
                           (.call (.fn 78) [.sc (.atom 0),(.ag [.atom 17,.atom 18,.atom 19])] (.sc (.int .i64)) []
                           (.call (.fn 97) [(.sc (.cmp .eql (.atom 26) (.int .i64 1)))] (.ag [.int .i64,.int .i64,.str]) []
                           (.leaf (.tu [(true,[.atom 27,.atom 28,.atom 29]),(false,[.int .i64 0])]))))
                           (.ite (.scmp .eql (.atom 1) (.str [115,116,114,105,110,103,63]))
                            (.call (.fn 78) [.sc (.atom 0),(.ag [.atom 17,.atom 18,.atom 19])] (.sc (.int .i64)) []
                            (.call (.fn 97) [(.sc (.cmp .eql (.atom 26) (.int .i64 2)))] (.ag [.int .i64,.int .i64,.str]) []
                            (.leaf (.tu [(true,[.atom 27,.atom 28,.atom 29]),(false,[.int .i64 0])]))))
                            (.ite (.scmp .eql (.atom 1) (.str [112,114,111,99,101,100,117,114,101,63]))
                             (.call (.fn 78) [.sc (.atom 0),(.ag [.atom 17,.atom 18,.atom 19])] (.sc (.int .i64)) []
                             (.call (.fn 97) [(.sc (.cmp .eql (.atom 26) (.int .i64 4)))] (.ag [.int .i64,.int .i64,.str]) []
                             (.leaf (.tu [(true,[.atom 27,.atom 28,.atom 29]),(false,[.int .i64 0])]))))
                             (.ite (.scmp .eql (.atom 1) (.str [99,111,110,115]))
                              (.call (.fn 98) [.sc (.atom 0),.sc (.int .i64 0),.sc (.atom 2)] (.ag [.int .i64,.int .i64,.str]) []
                              (.leaf (.tu [(true,[.atom 26,.atom 27,.atom 28]),(false,[.int .i64 0])])))
                              (.ite (.scmp .eql (.atom 1) (.str [37,98,111,120]))
                               (.call (.fn 98) [.sc (.atom 0),.sc (.int .i64 3),.sc (.atom 2)] (.ag [.int .i64,.int .i64,.str]) []
                               (.leaf (.tu [(true,[.atom 26,.atom 27,.atom 28]),(false,[.int .i64 0])])))
                               (.ite (.scmp .eql (.atom 1) (.str [109,97,107,101,45,118,101,99,116,111,114]))
                                (.call (.fn 99) [.sc (.atom 0),.sc (.int .i64 1),.sc (.atom 18),(.ag [.atom 20,.atom 21,.atom 22])] (.tu [(true,[.int .i64,.int .i64,.str]),(false,[.int .i64])]) []
                                (.leaf (.tu [(true,[.atom 26,.atom 27,.atom 28]),(false,[.atom 29])])))
                                (.ite (.scmp .eql (.atom 1) (.str [109,97,107,101,45,115,116,114,105,110,103]))
                                 (.call (.fn 99) [.sc (.atom 0),.sc (.int .i64 2),.sc (.atom 18),(.ag [.atom 20,.atom 21,.atom 22])] (.tu [(true,[.int .i64,.int .i64,.str]),(false,[.int .i64])]) []
                                 (.leaf (.tu [(true,[.atom 26,.atom 27,.atom 28]),(false,[.atom 29])])))
                                 (.ite (.pick (.scmp .eql (.atom 1) (.str [118,101,99,116,111,114,45,108,101,110,103,116,104])) (.scmp .eql (.atom 1) (.str [118,101,99,116,111,114,45,108,101,110,103,116,104])) (.scmp .eql (.atom 1) (.str [115,116,114,105,110,103,45,108,101,110,103,116,104])))
                                  (.chk [] (.some (.atom 0))
                                  (.load (.padd (.atom 0) 0) [.sl]
                                  (.chk [] (.inSl (.atom 26) (.atom 18))
                                  (.load (.padd (.elt (.atom 26) (.atom 18) 2) 1) [.sl]
                                  (.call (.fn 100) [(.sc (.len (.atom 27)))] (.ag [.int .i64,.int .i64,.str]) []
                                  (.leaf (.tu [(true,[.atom 28,.atom 29,.atom 30]),(false,[.int .i64 0])])))))))
                                  (.ite (.pick (.scmp .eql (.atom 1) (.str [99,97,114])) (.scmp .eql (.atom 1) (.str [99,97,114])) (.scmp .eql (.atom 1) (.str [37,117,110,98,111,120])))
                                   (.call (.fn 101) [.sc (.atom 0),(.ag [.atom 17,.atom 18,.atom 19]),.sc (.int .i64 0)] (.tu [(true,[.int .i64,.int .i64,.str]),(false,[.int .i64])]) []
                                   (.leaf (.tu [(true,[.atom 26,.atom 27,.atom 28]),(false,[.atom 29])])))
                                   (.ite (.scmp .eql (.atom 1) (.str [99,100,114]))
                                    (.call (.fn 101) [.sc (.atom 0),(.ag [.atom 17,.atom 18,.atom 19]),.sc (.int .i64 1)] (.tu [(true,[.int .i64,.int .i64,.str]),(false,[.int .i64])]) []
                                    (.leaf (.tu [(true,[.atom 26,.atom 27,.atom 28]),(false,[.atom 29])])))
                                    (.ite (.pick (.scmp .eql (.atom 1) (.str [118,101,99,116,111,114,45,114,101,102])) (.scmp .eql (.atom 1) (.str [118,101,99,116,111,114,45,114,101,102])) (.scmp .eql (.atom 1) (.str [115,116,114,105,110,103,45,114,101,102])))
                                     (.call (.fn 101) [.sc (.atom 0),(.ag [.atom 17,.atom 18,.atom 19]),.sc (.atom 21)] (.tu [(true,[.int .i64,.int .i64,.str]),(false,[.int .i64])]) []
                                     (.leaf (.tu [(true,[.atom 26,.atom 27,.atom 28]),(false,[.atom 29])])))
                                     (.ite (.pick (.scmp .eql (.atom 1) (.str [115,101,116,45,99,97,114,33])) (.scmp .eql (.atom 1) (.str [115,101,116,45,99,97,114,33])) (.scmp .eql (.atom 1) (.str [37,115,101,116,45,98,111,120,33])))
                                      (.call (.fn 102) [.sc (.atom 0),(.ag [.atom 17,.atom 18,.atom 19]),.sc (.int .i64 0),(.ag [.atom 20,.atom 21,.atom 22])] (.tu [(true,[.int .i64,.int .i64,.str]),(false,[.int .i64])]) []
                                      (.leaf (.tu [(true,[.atom 26,.atom 27,.atom 28]),(false,[.atom 29])])))
                                      (.ite (.scmp .eql (.atom 1) (.str [115,101,116,45,99,100,114,33]))
                                       (.call (.fn 102) [.sc (.atom 0),(.ag [.atom 17,.atom 18,.atom 19]),.sc (.int .i64 1),(.ag [.atom 20,.atom 21,.atom 22])] (.tu [(true,[.int .i64,.int .i64,.str]),(false,[.int .i64])]) []
                                       (.leaf (.tu [(true,[.atom 26,.atom 27,.atom 28]),(false,[.atom 29])])))
                                       (.ite (.pick (.scmp .eql (.atom 1) (.str [118,101,99,116,111,114,45,115,101,116,33])) (.scmp .eql (.atom 1) (.str [118,101,99,116,111,114,45,115,101,116,33])) (.scmp .eql (.atom 1) (.str [115,116,114,105,110,103,45,115,101,116,33])))
                                        (.call (.fn 102) [.sc (.atom 0),(.ag [.atom 17,.atom 18,.atom 19]),.sc (.atom 21),(.ag [.atom 23,.atom 24,.atom 25])] (.tu [(true,[.int .i64,.int .i64,.str]),(false,[.int .i64])]) []
                                        (.leaf (.tu [(true,[.atom 26,.atom 27,.atom 28]),(false,[.atom 29])])))
                                        (.ite (.scmp .eql (.atom 1) (.str [99,104,97,114,45,62,105,110,116,101,103,101,114]))
                                         (.call (.fn 100) [.sc (.atom 18)] (.ag [.int .i64,.int .i64,.str]) []
                                         (.leaf (.tu [(true,[.atom 26,.atom 27,.atom 28]),(false,[.int .i64 0])])))
                                         (.ite (.scmp .eql (.atom 1) (.str [105,110,116,101,103,101,114,45,62,99,104,97,114]))
                                          (.ite (.pick (.cmp .lss (.atom 18) (.int .i64 0)) (.bool true) (.cmp .gtr (.atom 18) (.int .i64 255)))
                                           (.leaf (.tu [(true,[.int .i64 0,.int .i64 0,(.str [])]),(false,[.int .i64 83])]))
                                           (.leaf (.tu [(true,[.int .i64 2,.atom 18,(.str [])]),(false,[.int .i64 0])])))
                                          (.ite (.scmp .eql (.atom 1) (.str [37,117,110,115,101,116]))
                                           (.leaf (.tu [(true,[.int .i64 7,.int .i64 0,(.str [])]),(false,[.int .i64 0])]))
                                           (.leaf (.tu [(true,[.int .i64 5,.int .i64 0,(.str [])]),(false,[.int .i64 0])])))))))))))))))))))))))))))))))))
            (.ite (.cmp .gtr (.len (.atom 2)) (.int .i64 2))
             (.chk [] (.inSl (.atom 2) (.int .i64 2))
             (.load (.elt (.atom 2) (.int .i64 2) 3) [.int .i64,.int .i64,.str]
             (.next 25 [.atom 23,.atom 24,.atom 25])))
             (.next 25 [.int .i64 0,.int .i64 0,(.str [])])))
           (.ite (.cmp .gtr (.len (.atom 2)) (.int .i64 1))
            (.chk [] (.inSl (.atom 2) (.int .i64 1))
            (.load (.elt (.atom 2) (.int .i64 1) 3) [.int .i64,.int .i64,.str]
            (.next 24 [.atom 20,.atom 21,.atom 22])))
            (.next 24 [.int .i64 0,.int .i64 0,(.str [])])))
          (.ite (.cmp .gtr (.len (.atom 2)) (.int .i64 0))
           (.chk [] (.inSl (.atom 2) (.int .i64 0))
           (.load (.elt (.atom 2) (.int .i64 0) 3) [.int .i64,.int .i64,.str]
           (.next 23 [.atom 17,.atom 18,.atom 19])))
           (.next 23 [.int .i64 0,.int .i64 0,(.str [])]))))))))
    (.chk [((.cmp .lss (.atom 4) (.int .i64 0)),false)] (.inSl (.atom 3) (.atom 4))
    (.chk [((.cmp .lss (.atom 4) (.int .i64 0)),false)] (.some (.elt (.atom 3) (.atom 4) 2))
    (.ite (.cmp .lss (.atom 4) (.int .i64 0))
     (.next 9 [.bool true])
     (.load (.padd (.elt (.atom 3) (.atom 4) 2) 1) [.sl]
     (.next 9 [(.cmp .neq (.len (.atom 6)) (.len (.atom 2)))])))))))))
theorem za6:execF Tryz.prog { pub:=[],nojoin:=false } Tryz.f79=z50:=by kernel_rfl
theorem zbs:callB Tryz.prog 79=true:=by kernel_rfl
theorem zbd:TriOf Tryz.prog 79 Tryz.f79 z50:=triOf Tryz.func79 za6
abbrev zki:FuncId:=80
def z9u:Fm VE:=
 (.leaf (.sc (.pick (.cmp .geq (.atom 0) (.int .i64 (-1152921504606846976))) (.cmp .leq (.atom 0) (.int .i64 1152921504606846975)) (.bool false))))
theorem zfn:execF Tryz.prog { pub:=[],nojoin:=false } Tryz.f80=z9u:=by kernel_rfl
theorem zjc:callB Tryz.prog 80=true:=by kernel_rfl
theorem zia:TriOf Tryz.prog 80 Tryz.f80 z9u:=triOf Tryz.func80 zfn
abbrev zb5:FuncId:=94
def z4i:Fm VE:=
 (.ite (.pick (.pick (.pick (.pick (.cmp .lss (.atom 1) (.int .i64 0)) (.bool true) (.cmp .gtr (.atom 1) (.int .i64 4))) (.bool true) (.pick (.cmp .eql (.atom 1) (.int .i64 0)) (.cmp .neq (.len (.atom 2)) (.int .i64 2)) (.bool false))) (.bool true) (.pick (.cmp .eql (.atom 1) (.int .i64 3)) (.cmp .neq (.len (.atom 2)) (.int .i64 1)) (.bool false))) (.bool true) (.pick (.pick (.cmp .eql (.atom 1) (.int .i64 1)) (.bool true) (.cmp .eql (.atom 1) (.int .i64 2))) (.cmp .gtr (.len (.atom 2)) (.int .i64 1000)) (.bool false)))
  (.leaf (.tu [(true,[.int .i64 0,.int .i64 0,(.str [])]),(false,[.int .i64 1])]))
  (.loop 6 [.int .i64,.int .i64,.int .i64,.int .i64,.str] [.int .i64 0,.int .i64 0,.int .i64 0,.int .i64 0,(.str [])]
   (.ite (.cmp .lss (.atom 4) (.len (.atom 2)))
    (.join 10 [.bool]
     (.ite (.atom 8)
      (.leaf (.tu [(true,[.int .i64 0,.int .i64 0,(.str [])]),(false,[.int .i64 1])]))
      (.next 6 [.atom 3,(.ar .add .i64 (.atom 4) (.int .i64 1)),.atom 5,.atom 6,.atom 7]))
     (.chk [] (.inSl (.atom 2) (.atom 4))
     (.load (.elt (.atom 2) (.atom 4) 3) [.int .i64,.int .i64,.str]
     (.call (.fn 59) [.sc (.atom 0),(.ag [.atom 8,.atom 9,.atom 10])] (.sc .bool) []
     (.ite (.not (.atom 11))
      (.next 10 [.bool true])
      (.ite (.cmp .eql (.atom 1) (.int .i64 2))
       (.load (.padd (.elt (.atom 2) (.atom 4) 3) 0) [.int .i64]
       (.next 10 [(.cmp .neq (.atom 12) (.int .i64 2))]))
       (.next 10 [.bool false])))))))
    (.call (.fn 98) [.sc (.atom 0),.sc (.atom 1),.sc (.atom 2)] (.ag [.int .i64,.int .i64,.str]) []
    (.leaf (.tu [(true,[.atom 8,.atom 9,.atom 10]),(false,[.int .i64 0])]))))))
theorem z92:execF Tryz.prog { pub:=[],nojoin:=false } Tryz.f94=z4i:=by kernel_rfl
theorem zar:callB Tryz.prog 94=true:=by kernel_rfl
theorem za3:TriOf Tryz.prog 94 Tryz.f94 z4i:=triOf Tryz.func94 z92
abbrev zhy:FuncId:=95
def z3x:Fm VE:=
 (.sem (.buildSlice 133 2 #[(0,(.const (.int .i64 1))),(1,(.const (.int .i64 1)))]) 133 [] (.sc .sl) []
 (.sem (.buildSlice 133 2 #[(0,(.const (.int .i64 1))),(1,(.const (.int .i64 1)))]) 133 [] (.sc .sl) []
 (.sem (.buildSlice 133 2 #[(0,(.const (.int .i64 1))),(1,(.const (.int .i64 1)))]) 133 [] (.sc .sl) []
 (.sem (.buildSlice 133 2 #[(0,(.const (.int .i64 1))),(1,(.const (.int .i64 1)))]) 133 [] (.sc .sl) []
 (.sem (.buildSlice 133 2 #[(0,(.const (.int .i64 1))),(1,(.const (.int .i64 1)))]) 133 [] (.sc .sl) []
 (.sem (.buildSlice 133 2 #[(0,(.const (.int .i64 1))),(1,(.const (.int .i64 1)))]) 133 [] (.sc .sl) []
 (.sem (.buildSlice 133 2 #[(0,(.const (.int .i64 1))),(1,(.const (.int .i64 1)))]) 133 [] (.sc .sl) []
 (.sem (.buildSlice 133 2 #[(0,(.const (.int .i64 (-1)))),(1,(.const (.int .i64 (-1))))]) 133 [] (.sc .sl) []
 (.sem (.buildSlice 133 1 #[(0,(.const (.int .i64 (-1))))]) 133 [] (.sc .sl) []
 (.sem (.buildSlice 133 1 #[(0,(.const (.int .i64 (-1))))]) 133 [] (.sc .sl) []
 (.sem (.buildSlice 133 1 #[(0,(.const (.int .i64 (-1))))]) 133 [] (.sc .sl) []
 (.sem (.buildSlice 133 1 #[(0,(.const (.int .i64 (-1))))]) 133 [] (.sc .sl) []
 (.sem (.buildSlice 133 1 #[(0,(.const (.int .i64 (-1))))]) 133 [] (.sc .sl) []
 (.sem (.buildSlice 133 1 #[(0,(.const (.int .i64 (-1))))]) 133 [] (.sc .sl) []
 (.sem (.buildSlice 133 1 #[(0,(.const (.int .i64 (-1))))]) 133 [] (.sc .sl) []
 (.sem (.buildSlice 133 1 #[(0,(.const (.int .i64 (-1))))]) 133 [] (.sc .sl) []
 (.sem (.buildSlice 133 1 #[(0,(.const (.int .i64 (-1))))]) 133 [] (.sc .sl) []
 (.sem (.buildSlice 133 1 #[(0,(.const (.int .i64 (-1))))]) 133 [] (.sc .sl) []
 (.sem (.buildSlice 133 2 #[(0,(.const (.int .i64 (-1)))),(1,(.const (.int .i64 (-1))))]) 133 [] (.sc .sl) []
 (.sem (.buildSlice 133 1 #[(0,(.const (.int .i64 10)))]) 133 [] (.sc .sl) []
 (.sem (.buildSlice 133 1 #[(0,(.const (.int .i64 10)))]) 133 [] (.sc .sl) []
 (.sem (.buildSlice 133 2 #[(0,(.const (.int .i64 10))),(1,(.const (.int .i64 (-1))))]) 133 [] (.sc .sl) []
 (.sem (.buildSlice 133 2 #[(0,(.const (.int .i64 10))),(1,(.const (.int .i64 (-1))))]) 133 [] (.sc .sl) []
 (.sem (.buildSlice 133 2 #[(0,(.const (.int .i64 1))),(1,(.const (.int .i64 (-1))))]) 133 [] (.sc .sl) []
 (.sem (.buildSlice 133 2 #[(0,(.const (.int .i64 1))),(1,(.const (.int .i64 2)))]) 133 [] (.sc .sl) []
 (.sem (.buildSlice 133 1 #[(0,(.const (.int .i64 11)))]) 133 [] (.sc .sl) []
 (.sem (.buildSlice 133 1 #[(0,(.const (.int .i64 12)))]) 133 [] (.sc .sl) []
 (.sem (.buildSlice 133 2 #[(0,(.const (.int .i64 11))),(1,(.const (.int .i64 1)))]) 133 [] (.sc .sl) []
 (.sem (.buildSlice 133 2 #[(0,(.const (.int .i64 12))),(1,(.const (.int .i64 1)))]) 133 [] (.sc .sl) []
 (.sem (.buildSlice 133 3 #[(0,(.const (.int .i64 11))),(1,(.const (.int .i64 1))),(2,(.const (.int .i64 (-1))))]) 133 [] (.sc .sl) []
 (.sem (.buildSlice 133 3 #[(0,(.const (.int .i64 12))),(1,(.const (.int .i64 1))),(2,(.const (.int .i64 2)))]) 133 [] (.sc .sl) []
 (.sem (.buildSlice 133 1 #[(0,(.const (.int .i64 2)))]) 133 [] (.sc .sl) []
 (.sem (.buildSlice 133 1 #[(0,(.const (.int .i64 1)))]) 133 [] (.sc .sl) []
 (.sem (.buildSlice 133 1 #[(0,(.const (.int .i64 (-1))))]) 133 [] (.sc .sl) []
 (.sem (.buildSlice 133 1 #[(0,(.const (.int .i64 13)))]) 133 [] (.sc .sl) []
 (.sem (.buildSlice 133 2 #[(0,(.const (.int .i64 13))),(1,(.const (.int .i64 (-1))))]) 133 [] (.sc .sl) []
 (.sem (.buildSlice 131 38 #[(0,(.tmp 2)),(1,(.tmp 4)),(2,(.tmp 6)),(3,(.tmp 8)),(4,(.tmp 10)),(5,(.tmp 12)),(6,(.tmp 14)),(7,(.tmp 16)),(8,(.tmp 18)),(9,(.tmp 20)),(10,(.tmp 22)),(11,(.tmp 24)),(12,(.tmp 26)),(13,(.tmp 28)),(14,(.tmp 30)),(15,(.tmp 32)),(16,(.tmp 34)),(17,(.tmp 36)),(18,(.tmp 38)),(19,(.tmp 40)),(20,(.tmp 42)),(21,(.tmp 44)),(22,(.tmp 46)),(23,(.tmp 48)),(24,(.tmp 50)),(25,(.tmp 52)),(26,(.tmp 54)),(27,(.tmp 56)),(28,(.tmp 58)),(29,(.tmp 60)),(30,(.tmp 62)),(31,(.tmp 64)),(32,(.tmp 66)),(33,(.tmp 68)),(34,(.tmp 70)),(35,(.tmp 72)),(36,(.tmp 73)),(37,(.tmp 74))]) 131 [(2,(.ag [(.str [43]),.atom 0])),(4,(.ag [(.str [45]),.atom 1])),(6,(.ag [(.str [42]),.atom 2])),(8,(.ag [(.str [113,117,111,116,105,101,110,116]),.atom 3])),(10,(.ag [(.str [114,101,109,97,105,110,100,101,114]),.atom 4])),(12,(.ag [(.str [60]),.atom 5])),(14,(.ag [(.str [61]),.atom 6])),(16,(.ag [(.str [101,113,63]),.atom 7])),(18,(.ag [(.str [110,117,108,108,63]),.atom 8])),(20,(.ag [(.str [115,121,109,98,111,108,63]),.atom 9])),(22,(.ag [(.str [99,104,97,114,63]),.atom 10])),(24,(.ag [(.str [105,110,116,101,103,101,114,63]),.atom 11])),(26,(.ag [(.str [98,111,111,108,101,97,110,63]),.atom 12])),(28,(.ag [(.str [101,111,102,45,111,98,106,101,99,116,63]),.atom 13])),(30,(.ag [(.str [112,97,105,114,63]),.atom 14])),(32,(.ag [(.str [118,101,99,116,111,114,63]),.atom 15])),(34,(.ag [(.str [115,116,114,105,110,103,63]),.atom 16])),(36,(.ag [(.str [112,114,111,99,101,100,117,114,101,63]),.atom 17])),(38,(.ag [(.str [99,111,110,115]),.atom 18])),(40,(.ag [(.str [99,97,114]),.atom 19])),(42,(.ag [(.str [99,100,114]),.atom 20])),(44,(.ag [(.str [115,101,116,45,99,97,114,33]),.atom 21])),(46,(.ag [(.str [115,101,116,45,99,100,114,33]),.atom 22])),(48,(.ag [(.str [109,97,107,101,45,118,101,99,116,111,114]),.atom 23])),(50,(.ag [(.str [109,97,107,101,45,115,116,114,105,110,103]),.atom 24])),(52,(.ag [(.str [118,101,99,116,111,114,45,108,101,110,103,116,104]),.atom 25])),(54,(.ag [(.str [115,116,114,105,110,103,45,108,101,110,103,116,104]),.atom 26])),(56,(.ag [(.str [118,101,99,116,111,114,45,114,101,102]),.atom 27])),(58,(.ag [(.str [115,116,114,105,110,103,45,114,101,102]),.atom 28])),(60,(.ag [(.str [118,101,99,116,111,114,45,115,101,116,33]),.atom 29])),(62,(.ag [(.str [115,116,114,105,110,103,45,115,101,116,33]),.atom 30])),(64,(.ag [(.str [99,104,97,114,45,62,105,110,116,101,103,101,114]),.atom 31])),(66,(.ag [(.str [105,110,116,101,103,101,114,45,62,99,104,97,114]),.atom 32])),(68,(.ag [(.str [37,98,111,120]),.atom 33])),(70,(.ag [(.str [37,117,110,98,111,120]),.atom 34])),(72,(.ag [(.str [37,115,101,116,45,98,111,120,33]),.atom 35])),(73,(.ag [(.str [118,111,105,100]),(.nil 1)])),(74,(.ag [(.str [37,117,110,115,101,116]),(.nil 1)]))] (.sc .sl) []
 (.leaf (.sc (.atom 36))))))))))))))))))))))))))))))))))))))))
theorem zco:execF Tryz.prog { pub:=[],nojoin:=false } Tryz.f95=z3x:=by kernel_rfl
theorem zh8:callB Tryz.prog 95=true:=by kernel_rfl
theorem zfl:TriOf Tryz.prog 95 Tryz.f95 z3x:=triOf Tryz.func95 zco
abbrev zd5:FuncId:=96
def z57:Fm VE:=
 (.call (.fn 109) [.sc (.atom 0),(.sc (.ar .mul .i64 (.int .i64 8) (.atom 2))),(.sc (.ar .mul .i64 (.int .i64 8) (.atom 5)))] (.tu [(false,[.int .i64]),(false,[.int .i64])]) []
 (.ite (.cmp .eql (.atom 8) (.int .i64 10))
  (.leaf (.tu [(true,[.int .i64 0,.int .i64 0,(.str [])]),(false,[.int .i64 81])]))
  (.ite (.cmp .eql (.atom 8) (.int .i64 11))
   (.leaf (.tu [(true,[.int .i64 0,.int .i64 0,(.str [])]),(false,[.int .i64 82])]))
   (.call (.fn 110) [.sc (.atom 7)] (.sc (.int .i64)) []
   (.call (.fn 100) [.sc (.atom 9)] (.ag [.int .i64,.int .i64,.str]) []
   (.leaf (.tu [(true,[.atom 10,.atom 11,.atom 12]),(false,[.int .i64 0])])))))))
theorem za5:execF Tryz.prog { pub:=[],nojoin:=false } Tryz.f96=z57:=by kernel_rfl
theorem z1b:callB Tryz.prog 96=true:=by kernel_rfl
theorem zay:TriOf Tryz.prog 96 Tryz.f96 z57:=triOf Tryz.func96 za5
abbrev zg4:FuncId:=97
def z6j:Fm VE:=
 (.ite (.atom 0)
  (.leaf (.ag [.int .i64 0,.int .i64 1,(.str [])]))
  (.leaf (.ag [.int .i64 0,.int .i64 0,(.str [])])))
theorem zc9:execF Tryz.prog { pub:=[],nojoin:=false } Tryz.f97=z6j:=by kernel_rfl
theorem z0h:callB Tryz.prog 97=true:=by kernel_rfl
theorem zdp:TriOf Tryz.prog 97 Tryz.f97 z6j:=triOf Tryz.func97 zc9
abbrev zbm:FuncId:=98
def z4o:Fm VE:=
 (.chk [] (.some (.atom 0))
 (.load (.padd (.atom 0) 0) [.sl]
 (.sem (.buildSlice 74 0 #[]) 74 [] (.sc .sl) [((.padd (.atom 0) 0),[.atom 3])]
 (.sem (.call ⟨.builtin .append,#[.tmp 13,.tmp 14],#[74,74]⟩) 74 [(13,(.sc (.atom 4))),(14,(.sc (.atom 2)))] (.sc .sl) [((.padd (.atom 0) 0),[.atom 3])]
 (.sem (.buildSlice 69 1 #[(0,(.tmp 16))]) 69 [(16,(.ag [.atom 1,.atom 5]))] (.sc .sl) [((.padd (.atom 0) 0),[.atom 3])]
 (.sem (.call ⟨.builtin .append,#[.tmp 11,.tmp 17],#[69,69]⟩) 69 [(11,(.sc (.atom 3))),(17,(.sc (.atom 6)))] (.sc .sl) []
 (.store (.padd (.atom 0) 0) [.atom 7]
 (.load (.padd (.atom 0) 0) [.sl]
 (.leaf (.ag [.int .i64 8,(.ar .sub .i64 (.len (.atom 8)) (.int .i64 1)),(.str [])]))))))))))
theorem z9s:execF Tryz.prog { pub:=[],nojoin:=false } Tryz.f98=z4o:=by kernel_rfl
theorem z1p:callB Tryz.prog 98=true:=by kernel_rfl
theorem zal:TriOf Tryz.prog 98 Tryz.f98 z4o:=triOf Tryz.func98 z9s
abbrev z9z:FuncId:=99
def z3s:Fm VE:=
 (.ite (.pick (.cmp .lss (.atom 2) (.int .i64 0)) (.bool true) (.cmp .gtr (.atom 2) (.int .i64 1000)))
  (.leaf (.tu [(true,[.int .i64 0,.int .i64 0,(.str [])]),(false,[.int .i64 83])]))
  (.sem (.buildSlice 74 0 #[]) 74 [] (.sc .sl) []
  (.loop 6 [.sl,.int .i64] [.atom 6,.int .i64 0]
   (.ite (.cmp .lss (.atom 8) (.atom 2))
    (.sem (.buildSlice 74 1 #[(0,(.tmp 26))]) 74 [(26,(.ag [.atom 3,.atom 4,.atom 5]))] (.sc .sl) []
    (.sem (.call ⟨.builtin .append,#[.tmp 25,.tmp 27],#[74,74]⟩) 74 [(25,(.sc (.atom 7))),(27,(.sc (.atom 9)))] (.sc .sl) []
    (.next 6 [.atom 10,(.ar .add .i64 (.atom 8) (.int .i64 1))])))
    (.call (.fn 98) [.sc (.atom 0),.sc (.atom 1),.sc (.atom 7)] (.ag [.int .i64,.int .i64,.str]) []
    (.leaf (.tu [(true,[.atom 9,.atom 10,.atom 11]),(false,[.int .i64 0])])))))))
theorem z7x:execF Tryz.prog { pub:=[],nojoin:=false } Tryz.f99=z3s:=by kernel_rfl
theorem z3m:callB Tryz.prog 99=true:=by kernel_rfl
theorem z99:TriOf Tryz.prog 99 Tryz.f99 z3s:=triOf Tryz.func99 z7x
abbrev zjq:FuncId:=100
def z8o:Fm VE:=
 (.leaf (.ag [.int .i64 1,.atom 0,(.str [])]))
theorem zdk:execF Tryz.prog { pub:=[],nojoin:=false } Tryz.f100=z8o:=by kernel_rfl
theorem z2r:callB Tryz.prog 100=true:=by kernel_rfl
theorem zgw:TriOf Tryz.prog 100 Tryz.f100 z8o:=triOf Tryz.func100 zdk
abbrev zca:FuncId:=101
def z4l:Fm VE:=
 (.chk [] (.some (.atom 0))
 (.load (.padd (.atom 0) 0) [.sl]
 (.chk [] (.inSl (.atom 5) (.atom 2))
 (.load (.padd (.elt (.atom 5) (.atom 2) 2) 1) [.sl]
 (.ite (.pick (.cmp .lss (.atom 4) (.int .i64 0)) (.bool true) (.cmp .geq (.atom 4) (.len (.atom 6))))
  (.leaf (.tu [(true,[.int .i64 0,.int .i64 0,(.str [])]),(false,[.int .i64 83])]))
  (.chk [] (.inSl (.atom 6) (.atom 4))
  (.load (.elt (.atom 6) (.atom 4) 3) [.int .i64,.int .i64,.str]
  (.leaf (.tu [(true,[.atom 7,.atom 8,.atom 9]),(false,[.int .i64 0])])))))))))
theorem z9p:execF Tryz.prog { pub:=[],nojoin:=false } Tryz.f101=z4l:=by kernel_rfl
theorem z14:callB Tryz.prog 101=true:=by kernel_rfl
theorem zak:TriOf Tryz.prog 101 Tryz.f101 z4l:=triOf Tryz.func101 z9p
abbrev zby:FuncId:=102
def z4n:Fm VE:=
 (.chk [] (.some (.atom 0))
 (.load (.padd (.atom 0) 0) [.sl]
 (.chk [] (.inSl (.atom 8) (.atom 2))
 (.load (.padd (.elt (.atom 8) (.atom 2) 2) 1) [.sl]
 (.ite (.pick (.cmp .lss (.atom 4) (.int .i64 0)) (.bool true) (.cmp .geq (.atom 4) (.len (.atom 9))))
  (.leaf (.tu [(true,[.int .i64 0,.int .i64 0,(.str [])]),(false,[.int .i64 83])]))
  (.chk [] (.inSl (.atom 9) (.atom 4))
  (.store (.elt (.atom 9) (.atom 4) 3) [.atom 5,.atom 6,.atom 7]
  (.leaf (.tu [(true,[.int .i64 5,.int .i64 0,(.str [])]),(false,[.int .i64 0])])))))))))
theorem z9o:execF Tryz.prog { pub:=[],nojoin:=false } Tryz.f102=z4n:=by kernel_rfl
theorem z15:callB Tryz.prog 102=true:=by kernel_rfl
theorem zai:TriOf Tryz.prog 102 Tryz.f102 z4n:=triOf Tryz.func102 z9o
abbrev zf1:FuncId:=109
def z5i:Fm VE:=
 (.ite (.pick (.cmp .lss (.atom 0) (.int .i64 0)) (.bool true) (.cmp .gtr (.atom 0) (.int .i64 4)))
  (.leaf (.tu [(false,[.int .i64 0]),(false,[.int .i64 1])]))
  (.join 4 [.bool]
   (.ite (.atom 3)
    (.leaf (.tu [(false,[.int .i64 0]),(false,[.int .i64 12])]))
    (.call (.fn 110) [.sc (.atom 1)] (.sc (.int .i64)) []
    (.call (.fn 110) [.sc (.atom 2)] (.sc (.int .i64)) []
    (.join 9 [.int .i64,.bool]
     (.ite (.pick (.pick (.not (.atom 7)) (.bool true) (.cmp .lss (.atom 6) (.int .i64 (-1152921504606846976)))) (.bool true) (.cmp .gtr (.atom 6) (.int .i64 1152921504606846975)))
      (.leaf (.tu [(false,[.int .i64 0]),(false,[.int .i64 10])]))
      (.leaf (.tu [(false,[(.ar .mul .i64 (.int .i64 8) (.atom 6))]),(false,[.int .i64 0])])))
     (.ite (.cmp .eql (.atom 0) (.int .i64 0))
      (.next 9 [(.ar .add .i64 (.atom 4) (.atom 5)),.bool true])
      (.ite (.cmp .eql (.atom 0) (.int .i64 1))
       (.next 9 [(.ar .sub .i64 (.atom 4) (.atom 5)),.bool true])
       (.ite (.cmp .eql (.atom 0) (.int .i64 2))
        (.call (.fn 119) [.sc (.atom 4),.sc (.atom 5)] (.tu [(false,[.int .i64]),(false,[.bool])]) []
        (.next 9 [.atom 6,.atom 7]))
        (.ite (.cmp .eql (.atom 5) (.int .i64 0))
         (.leaf (.tu [(false,[.int .i64 0]),(false,[.int .i64 11])]))
         (.chk [] (.nz (.atom 5))
         (.next 9 [(.pick (.cmp .eql (.atom 0) (.int .i64 4)) (.ar .sub .i64 (.atom 4) (.ar .mul .i64 (.ar .quo .i64 (.atom 4) (.atom 5)) (.atom 5))) (.ar .quo .i64 (.atom 4) (.atom 5))),.bool true]))))))))))
   (.call (.fn 118) [.sc (.atom 1)] (.sc (.int .i64)) []
   (.ite (.cmp .neq (.atom 3) (.int .i64 0))
    (.next 4 [.bool true])
    (.call (.fn 118) [.sc (.atom 2)] (.sc (.int .i64)) []
    (.next 4 [(.cmp .neq (.atom 4) (.int .i64 0))]))))))
theorem zb4:execF Tryz.prog { pub:=[],nojoin:=false } Tryz.f109=z5i:=by kernel_rfl
theorem ze3:callB Tryz.prog 109=true:=by kernel_rfl
theorem zcu:TriOf Tryz.prog 109 Tryz.f109 z5i:=triOf Tryz.func109 zb4
abbrev zgz:FuncId:=110
def z68:Fm VE:=
 (.leaf (.sc (.pick (.cmp .lss (.ar .rem .i64 (.atom 0) (.int .i64 8)) (.int .i64 0)) (.ar .sub .i64 (.ar .quo .i64 (.atom 0) (.int .i64 8)) (.int .i64 1)) (.ar .quo .i64 (.atom 0) (.int .i64 8)))))
theorem zcc:execF Tryz.prog { pub:=[],nojoin:=false } Tryz.f110=z68:=by kernel_rfl
theorem z3k:callB Tryz.prog 110=true:=by kernel_rfl
theorem zen:TriOf Tryz.prog 110 Tryz.f110 z68:=triOf Tryz.func110 zcc
abbrev zjr:FuncId:=118
def z8i:Fm VE:=
 (.leaf (.sc (.pick (.cmp .lss (.ar .rem .i64 (.atom 0) (.int .i64 8)) (.int .i64 0)) (.ar .add .i64 (.ar .rem .i64 (.atom 0) (.int .i64 8)) (.int .i64 8)) (.ar .rem .i64 (.atom 0) (.int .i64 8)))))
theorem ze1:execF Tryz.prog { pub:=[],nojoin:=false } Tryz.f118=z8i:=by kernel_rfl
theorem z8g:callB Tryz.prog 118=true:=by kernel_rfl
theorem zgm:TriOf Tryz.prog 118 Tryz.f118 z8i:=triOf Tryz.func118 ze1
abbrev zgo:FuncId:=119
def z6i:Fm VE:=
 (.ite (.pick (.cmp .eql (.atom 0) (.int .i64 0)) (.bool true) (.cmp .eql (.atom 1) (.int .i64 0)))
  (.leaf (.tu [(false,[.int .i64 0]),(false,[.bool true])]))
  (.ite (.pick (.cmp .eql (.atom 0) (.int .i64 (-1))) (.bool true) (.cmp .eql (.atom 1) (.int .i64 (-1))))
   (.leaf (.tu [(false,[(.pick (.cmp .eql (.atom 0) (.int .i64 (-1))) (.ar .sub .i64 (.int .i64 0) (.atom 1)) (.ar .sub .i64 (.int .i64 0) (.atom 0)))]),(false,[(.cmp .leq (.pick (.cmp .eql (.atom 0) (.int .i64 (-1))) (.ar .sub .i64 (.int .i64 0) (.atom 1)) (.ar .sub .i64 (.int .i64 0) (.atom 0))) (.int .i64 1152921504606846975))])]))
   (.chk [] (.nz (.atom 1))
   (.chk [] (.nz (.atom 1))
   (.ite (.pick (.cmp .gtr (.atom 0) (.pick (.cmp .lss (.atom 1) (.int .i64 0)) (.ar .quo .i64 (.int .i64 (-1152921504606846976)) (.atom 1)) (.ar .quo .i64 (.int .i64 1152921504606846975) (.atom 1)))) (.bool true) (.cmp .lss (.atom 0) (.pick (.cmp .lss (.atom 1) (.int .i64 0)) (.ar .quo .i64 (.int .i64 1152921504606846975) (.atom 1)) (.ar .quo .i64 (.int .i64 (-1152921504606846976)) (.atom 1)))))
    (.leaf (.tu [(false,[.int .i64 0]),(false,[.bool false])]))
    (.leaf (.tu [(false,[(.ar .mul .i64 (.atom 0) (.atom 1))]),(false,[.bool true])])))))))
theorem zc3:execF Tryz.prog { pub:=[],nojoin:=false } Tryz.f119=z6i:=by kernel_rfl
theorem zfi:callB Tryz.prog 119=true:=by kernel_rfl
theorem zde:TriOf Tryz.prog 119 Tryz.f119 z6i:=triOf Tryz.func119 zc3
end Go.Proofs.YtjhlndokjkeilaaGreatDoor.Vc
