import Derived.Test.YtofbhllknefloaaGreatMe
import Derived.Shelf.SlSortCmp.WholeK
import Derived.Lib.Hide
import Derived.Deep.RegionHeld3
import Derived.Test.YtofbhllknefloaaGreatProg
set_option linter.unusedSimpArgs false
set_option linter.unusedVariables false
set_option maxRecDepth 100000
namespace Go.Proofs
open Go.Shelf Go.RowKit Go.Lib Go.Sort
theorem Tryz.nan63 (x:Int) (W:World):Calls Tryz.prog 57 #[.int .i64 x] W fun e w'=>e=.returned (.bool false)∧w'=W:=by
 go_enter Tryz.func57,Tryz.ntmps57
 go_wp2
 go_ret
 exact ⟨rfl,rfl⟩
def cmpI2 (x y:Int):Int:=if x < y then -1 else if y < x then 1 else 0
theorem Tryz.cmp45 (x y:Int) (W:World):Calls Tryz.prog 35 #[.int .i64 x,.int .i64 y] W fun e w'=>e=.returned (.int .i64 (cmpI2 x y))∧w'=W:=by
 go_enter Tryz.func35,Tryz.ntmps35
 go_wp2_with (go_at_call 57;refine (Tryz.nan63 _ _).mono ?_;rintro e w' ⟨rfl,rfl⟩)
 all_goals go_ret
 all_goals refine ⟨?_,rfl⟩
 ·unfold cmpI2;rw [if_pos ‹_›];rfl
 ·unfold cmpI2;rw [if_neg (by omega),if_pos ‹_›];rfl
 ·unfold cmpI2;rw [if_neg (by omega),if_neg (by omega)];rfl
def orI (x y:Int):Int:=if x=0 then y else x
set_option maxHeartbeats 1000000 in
theorem Tryz.or44 (b:Nat) (x y:Int) (W:World) (h0:W.cell? ⟨b,0,none⟩=some (.int .i64 x)) (h1:W.cell? ⟨b,1,none⟩=some (.int .i64 y)):Calls Tryz.prog 34 #[.slice (some ⟨b,0,none⟩) 2 2] W fun e w'=>e=.returned (.int .i64 (orI x y))∧w'=W:=by
 have h2:x=0→orI x y=y:=fun h=>if_pos h
 have h3:x≠0→orI x y=x:=fun h=>if_neg h
 generalize orI x y=r at *
 have H2:=Lib.hid h2;have H3:=Lib.hid h3;clear h2 h3
 go_enter Tryz.func34,Tryz.ntmps34
 go_wp2
 go_loop [8] (fun i=>∃k:Nat,k≤2∧i=.int .i64 k∧(1≤k→x=0)∧(2≤k→y=0)) (fun i=>2 - (intOf i).toNat)
 case atStart=>exact ⟨0,by omega,rfl,by omega,by omega⟩
 case round=>
  obtain ⟨k,hk,rfl,hx,hy⟩:=hrel
  match k with
  | 0=>
   clear hx hy
   by_cases e:x=0
   ·subst e
    go_wp2
    go_round
    case rel=>exact ⟨1,by omega,by go_num,by simp,by omega⟩
    case measure=>simp [intOf]
   ·go_wp2
    go_ret
    exact ⟨by rw [H3.out e];rfl,rfl⟩
  | 1=>
   have e:=hx (by omega)
   clear hx hy
   subst e
   by_cases e2:y=0
   ·subst e2
    go_wp2
    go_round
    case rel=>exact ⟨2,by omega,by go_num,by simp,by simp⟩
    case measure=>simp [intOf]
   ·go_wp2
    go_ret
    exact ⟨by rw [H2.out (by simp)];rfl,rfl⟩
  | 2=>
   have e:=hx (by omega)
   have e2:=hy (by omega)
   clear hx hy
   subst e e2
   go_wp2
   go_ret
   exact ⟨by rw [H2.out (by simp)];rfl,rfl⟩
  | k+3=>omega
def encP2 (x:Int×Int):List Value:=[.int .i64 x.1,.int .i64 x.2]
def cmpP2 (x y:Int×Int):Int:=orI (cmpI2 x.1 y.1) (cmpI2 x.2 y.2)
theorem Z6g (W:World) (o1 o2:Obj) (a b:Value) (T:TypeId):((((W.alloc o1).alloc o2).alloc (.cells #[a,b] T)).drew).cell? ⟨W.heap.size+1+1,0,none⟩=some a:=by
 have h:(((W.heap.push o1).push o2).push (.cells #[a,b] T (0,0)))[W.heap.size+1+1]?=some (.cells #[a,b] T (0,0)):=by
  rw [Array.getElem?_push,if_pos (by simp)]
 show (match (((W.heap.push o1).push o2).push (.cells #[a,b] T (0,0)))[W.heap.size+1+1]? with | some (.cells c _ _)=>_ | _=>_)=_
 rw [h];rfl
theorem Z5p (W:World) (o1 o2:Obj) (a b:Value) (T:TypeId):((((W.alloc o1).alloc o2).alloc (.cells #[a,b] T)).drew).cell? ⟨W.heap.size+1+1,1,none⟩=some b:=by
 have h:(((W.heap.push o1).push o2).push (.cells #[a,b] T (0,0)))[W.heap.size+1+1]?=some (.cells #[a,b] T (0,0)):=by
  rw [Array.getElem?_push,if_pos (by simp)]
 show (match (((W.heap.push o1).push o2).push (.cells #[a,b] T (0,0)))[W.heap.size+1+1]? with | some (.cells c _ _)=>_ | _=>_)=_
 rw [h];rfl
theorem drew3 (W:World) (o1 o2 o3:Obj):((((W.alloc o1).alloc o2).alloc o3).drew)=grow (W.drewN 1) #[o1,o2,o3]:=by
 show ({ heap:=((W.heap.push o1).push o2).push o3,tape:=W.tape,drawn:=W.drawn+1,os:=W.os,output:=W.output }:World)={ heap:=W.heap++#[o1,o2,o3],tape:=W.tape,drawn:=W.drawn+1,os:=W.os,output:=W.output }
 congr 1
set_option maxHeartbeats 1000000 in
theorem Tryz.closure43 (x y:Int×Int) (W:World):Calls Tryz.prog 33 #[.agg #[.int .i64 x.1,.int .i64 x.2],.agg #[.int .i64 y.1,.int .i64 y.2]] W fun e w'=>e=.returned (.int .i64 (cmpP2 x y))∧∃q os',w'=grow (W.drewN q) os':=by
 generalize hr:cmpP2 x y=r
 have HR:=Lib.hid hr;clear hr
 go_enter Tryz.func33,Tryz.ntmps33
 go_wp2
 go_region_held3 (fun w'=>w'.cell? ⟨W.heap.size,0,none⟩=some (.int .i64 x.1)∧w'.cell? ⟨W.heap.size,1,none⟩=some (.int .i64 x.2)∧w'.cell? ⟨W.heap.size+1,0,none⟩=some (.int .i64 y.1)∧w'.cell? ⟨W.heap.size+1,1,none⟩=some (.int .i64 y.2)) (go_keep)
  (first | (go_at_call 35;refine (Tryz.cmp45 _ _ _).mono ?_;rintro e w' ⟨rfl,rfl⟩) | (go_at_call 34;refine (Tryz.or44 _ _ _ _ (Z6g _ _ _ _ _ _) (Z5p _ _ _ _ _ _)).mono ?_;rintro e w' ⟨rfl,rfl⟩))
 go_wp2
 go_ret
 refine ⟨?_,1,_,drew3 _ _ _ _⟩
 rw [←HR.out]
 rfl
theorem Tryz.ins70 (p:Option Addr) (cap:Nat) (fv:Value) (w:World) :
  Calls Tryz.prog 75 #[.slice p 0 cap,.int .i64 0,.int .i64 0,fv] w fun e w'=>e=.returned (.tuple #[])∧w'=w:=by
 go_enter Tryz.func75,Tryz.ntmps75
 go_wp2
 refine wp_loop_rounds 1 ?_
 rw [rounds_succ]
 go_wp2
 go_end0
 exact ⟨rfl,rfl⟩
theorem Tryz.pdq61 (p:Option Addr) (cap:Nat) (lim:Int) (fv:Value) (w:World) :
  Calls Tryz.prog 55 #[.slice p 0 cap,.int .i64 0,.int .i64 0,.int .i64 lim,fv] w fun e w'=>e=.returned (.tuple #[])∧w'=w:=by
 go_enter Tryz.func55,Tryz.ntmps55
 go_wp2
 refine wp_loop_rounds 1 ?_
 rw [rounds_succ]
 go_wp2_with (go_at_call 75;refine (Tryz.ins70 _ _ _ _).mono ?_;rintro e w' ⟨rfl,rfl⟩)
 (try simp only [Exit.inBlock,Exit.then]);refine bodyPost_ret (results_none rfl _ _ _) rfl ?_
 exact ⟨rfl,rfl⟩
theorem Tryz.len62 (w:World) :
  Calls Tryz.prog 56 #[.int .u64 0] w fun e w'=>e=.returned (.int .i64 0)∧w'=w:=by
 go_enter Tryz.func56,Tryz.ntmps56
 go_wp2
 go_ret
 exact ⟨by kernel_rfl,rfl⟩
theorem Tryz.sort42none (p:Option Addr) (cap:Nat) (fv:Value) (w:World) :
  Calls Tryz.prog 32 #[.slice p 0 cap,fv] w fun e w'=>e=.returned (.tuple #[])∧w'=w:=by
 go_enter Tryz.func32,Tryz.ntmps32
 go_wp2_with (first | (go_at_call 56;refine (Tryz.len62 _).mono ?_;rintro e w' ⟨rfl,rfl⟩) | (go_at_call 55;refine (Tryz.pdq61 _ _ _ _ _).mono ?_;rintro e w' ⟨rfl,rfl⟩))
 go_end0
 exact ⟨rfl,rfl⟩
end Go.Proofs
