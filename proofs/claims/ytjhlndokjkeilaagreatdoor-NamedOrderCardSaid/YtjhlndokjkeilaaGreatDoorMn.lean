import Derived.Test.YtjhlndokjkeilaaGreatDoorMm
set_option linter.unusedSimpArgs false
set_option linter.unusedVariables false
set_option maxRecDepth 100000
namespace Go.Proofs.YtjhlndokjkeilaaGreatDoor.Vc
open Go
def exZ:Xp:=.mk 0 [] [] dat0 []
def slot (e:Xp) (b:Xp):FunX:=⟨e.names,freeS (Xp.fr [] e),b⟩
theorem Xps.size_append:∀l m:List Xp,Xps.size (l++m)=Xps.size l+Xps.size m
 | [],m=>by simp [Xps.size]
 | e::l,m=>by simp only [List.cons_append,Xps.size,Xps.size_append l m];omega
theorem Xps.size_at {l:List Xp} {j:Nat} {a:Xp} (h:l[j]?=some a):Xps.size (l.take j)+a.size≤Xps.size l:=by
 have:=Xps.size_append (l.take j) (l.drop j)
 rw [List.take_append_drop,z4v h,Xps.size] at this
 omega
theorem Xp.size_eq (e:Xp):e.size=1+Xps.size e.kids:=by cases e;simp only [Xp.size,Xp.kids]
mutual
def Xp.any (p:Int→Bool):Xp→Bool
 | .mk k _ _ _ l=>p k || Xps.any p l
def Xps.any (p:Int→Bool):List Xp→Bool
 | []=>false
 | e::l=>Xp.any p e || Xps.any p l
end
mutual
theorem Xp.any_or (p q:Int→Bool):∀e:Xp,Xp.any (fun k=>p k || q k) e=(Xp.any p e || Xp.any q e)
 | .mk k _ _ _ l=>by
  simp only [Xp.any,Xps.any_or p q l]
  cases p k<;>cases q k<;>cases Xps.any p l<;>cases Xps.any q l<;>rfl
theorem Xps.any_or (p q:Int→Bool):∀l:List Xp,Xps.any (fun k=>p k || q k) l=(Xps.any p l || Xps.any q l)
 | []=>by simp only [Xps.any];rfl
 | e::l=>by
  simp only [Xps.any,Xp.any_or p q e,Xps.any_or p q l]
  cases Xp.any p e<;>cases Xp.any q e<;>cases Xps.any p l<;>cases Xps.any q l<;>rfl
end
theorem Xp.any_eq (p:Int→Bool) (e:Xp):e.any p=(p e.kind || Xps.any p e.kids):=by cases e;simp only [Xp.any,Xp.kind,Xp.kids]
def badK (k:Int):Bool:=decide (k=9) || decide (k=2)
theorem zav (k0:Int):∀(e:Xp) (cs:List Value) (H:PH),e.Rep H cs→Gives Tryz.prog zj1 [.agg cs.toArray,.int .i64 k0] H (.bool (e.any fun k=>decide (k=k0))):=by
 refine Xp.ind fun e ih cs H he=>?_
 have he':=he
 obtain ⟨nb,db,kb,nc,dc,kc,rfl,hx⟩:=Xp.Rep.open he
 have hk:=hx.kids.max
 simp only [maxLen] at hk
 refine zg3 (exVs e nb db kb nc dc kc++[.int .i64 k0]) (by kernel_rfl) (by kernel_rfl) ?_
 rw [Xp.any_eq]
 refine ⟨fun g=>?_,fun g=>?_⟩
 ·simp only [ev0,ev,evV,List.cons_append,List.nil_append,List.getD_cons_zero,List.getD_cons_succ,List.map_cons,List.map_nil,iOf,bOf,sOf,pOf,slLen,z04,cmpI,arI,Value.ite_bool,z01,z03,z00,z02,zdt] at g
  refine ⟨?_,PH.le_refl _⟩
  rw [g];simp [ev0,ev,evV,List.cons_append,List.nil_append,List.getD_cons_zero,List.getD_cons_succ,List.map_cons,List.map_nil,iOf,bOf,sOf,pOf,slLen,z04,cmpI,arI,Value.ite_bool,z01,z03,z00,z02]
 simp only [ev0,ev,evV,List.cons_append,List.nil_append,List.getD_cons_zero,List.getD_cons_succ,List.map_cons,List.map_nil,iOf,bOf,sOf,pOf,slLen,z04,cmpI,arI,Value.ite_bool,z01,z03,z00,z02,zdf] at g
 refine ⟨fun n vs H'=>∃k:Nat,vs=[.bool false,.int .i64 k]∧k+n=e.kids.length∧(decide (e.kind=k0) || Xps.any (fun k=>decide (k=k0)) e.kids)=Xps.any (fun k=>decide (k=k0)) (e.kids.drop k)∧PH.le H H',⟨e.kids.length,0,rfl,by omega,by rw [decide_eq_false g,List.drop_zero];rfl,PH.le_refl _⟩,?_⟩
 rintro n vs H2 _ ⟨k,rfl,hkn,hz,l2⟩
 refine ⟨fun g1=>?_,fun g1=>?_⟩
 ·simp only [ev0,ev,evV,List.cons_append,List.nil_append,List.getD_cons_zero,List.getD_cons_succ,List.map_cons,List.map_nil,iOf,bOf,sOf,pOf,slLen,z04,cmpI,arI,Value.ite_bool,z01,z03,z00,z02,zdt] at g1
  obtain ⟨a,ha⟩:∃a,e.kids[k]?=some a:=⟨_,zge (show k < e.kids.length by omega)⟩
  obtain ⟨q1,_,ces,g2,g3⟩:=(hx.kids.le l2).get ha
  have hmem:=List.mem_of_getElem? ha
  have htags:=Xp.Rep.tags g2
  have g2':=g2
  obtain ⟨nb',db',kb',nc',dc',kc',rfl,_⟩:=Xp.Rep.open g2'
  refine ⟨fun _=>?_,_,htags,by simp only [ev0,ev,evV,List.cons_append,List.nil_append,List.getD_cons_zero,List.getD_cons_succ,List.map_cons,List.map_nil,iOf,bOf,sOf,pOf,slLen,z04,cmpI,arI,Value.ite_bool,z01,z03,z00,z02];exact g3,?_⟩
  ·simp only [Chk.holds,ev0,ev,evV,List.cons_append,List.nil_append,List.getD_cons_zero,List.getD_cons_succ,List.map_cons,List.map_nil,iOf,bOf,sOf,pOf,slLen,z04,cmpI,arI,Value.ite_bool,z01,z03,z00,z02];exact ⟨q1,by omega,by omega⟩
  rw [z4v ha,Xps.any] at hz
  refine z07 [.bool (a.any fun k=>decide (k=k0))] z1w (ih a hmem _ H2 g2) rfl z05 fun H3 l3=>?_
  refine ⟨fun g4=>?_,fun g4=>?_⟩
  ·simp only [ev0,ev,evV,List.cons_append,List.nil_append,List.getD_cons_zero,List.getD_cons_succ,List.map_cons,List.map_nil,iOf,bOf,sOf,pOf,slLen,z04,cmpI,arI,Value.ite_bool,z01,z03,z00,z02] at g4
   rw [hz,g4]
   exact ⟨rfl,PH.le_trans l2 l3⟩
  ·simp only [ev0,ev,evV,List.cons_append,List.nil_append,List.getD_cons_zero,List.getD_cons_succ,List.map_cons,List.map_nil,iOf,bOf,sOf,pOf,slLen,z04,cmpI,arI,Value.ite_bool,z01,z03,z00,z02] at g4
   refine ⟨_,z06,n - 1,by omega,k+1,?_,by omega,by rw [hz,g4];rfl,PH.le_trans l2 l3⟩
   simp only [ev0,ev,evV,List.cons_append,List.nil_append,List.getD_cons_zero,List.getD_cons_succ,List.map_cons,List.map_nil,iOf,bOf,sOf,pOf,slLen,z04,cmpI,arI,Value.ite_bool,z01,z03,z00,z02]
   rw [w64 (by omega) (by omega)]
   rfl
 ·simp only [ev0,ev,evV,List.cons_append,List.nil_append,List.getD_cons_zero,List.getD_cons_succ,List.map_cons,List.map_nil,iOf,bOf,sOf,pOf,slLen,z04,cmpI,arI,Value.ite_bool,z01,z03,z00,z02,zdf] at g1
  rw [List.drop_eq_nil_of_le (by omega)] at hz
  rw [hz]
  exact ⟨by simp only [Xps.any];rfl,l2⟩
mutual
def Xp.note:Xp→List (List UInt8)
 | .mk _ s ns _ l=>s::(ns++Xps.note l)
def Xps.note:List Xp→List (List UInt8)
 | []=>[]
 | e::l=>Xp.note e++Xps.note l
end
theorem Xp.note_eq (e:Xp):e.note=e.name::(e.names++Xps.note e.kids):=by cases e;simp only [Xp.note,Xp.name,Xp.names,Xp.kids]
theorem Xps.note_append:∀l m:List Xp,Xps.note (l++m)=Xps.note l++Xps.note m
 | [],m=>rfl
 | e::l,m=>by simp only [List.cons_append,Xps.note,Xps.note_append l m,List.append_assoc]
def nwL (n:Nat):List UInt8:=[110,46]++Lib.decDigits n
theorem zwi {m n:Nat} (h:nwL m=nwL n):m=n:=Z42 (List.append_cancel_left h)
def frF (used:List (List UInt8)):Nat→Nat→Nat
 | 0,n=>n
 | f+1,n=>if used.contains (nwL n) then frF used f (n+1) else n
def frN (used:List (List UInt8)) (n:Nat):Nat:=frF used (used.length+1) n
theorem zsr (used:List (List UInt8)):∀f n,n≤frF used f n∧frF used f n≤n+f∧(∀i,n≤i→i < frF used f n→nwL i∈used)∧(frF used f n < n+f→nwL (frF used f n)∉used)
 | 0,n=>⟨Nat.le_refl _,Nat.le_refl _,fun i h1 h2=>absurd h2 (by simp [frF];omega),fun h=>absurd h (by simp [frF])⟩
 | f+1,n=>by
  simp only [frF]
  split
  ·rename_i hc
   obtain ⟨h1,h2,h3,h4⟩:=zsr used f (n+1)
   refine ⟨by omega,by omega,fun i hi hl=>?_,fun h=>h4 (by omega)⟩
   by_cases he:i=n
   ·subst he;exact List.contains_iff_mem.1 hc
   ·exact h3 i (by omega) hl
  ·rename_i hc
   exact ⟨Nat.le_refl _,by omega,fun i h1 h2=>by omega,fun _ h=>hc (List.contains_iff_mem.2 h)⟩
theorem z5o (used:List (List UInt8)) (n:Nat):n≤frN used n∧frN used n≤n+used.length∧nwL (frN used n)∉used∧∀i,n≤i→i < frN used n→nwL i∈used:=by
 obtain ⟨h1,h2,h3,h4⟩:=zsr used (used.length+1) n
 have hlt:frN used n≤n+used.length:=by
  by_cases h:frN used n≤n+used.length
  ·exact h
  ·exfalso
   have he:frN used n=n+(used.length+1):=by unfold frN at h ⊢;omega
   have:=zoc (l:=(List.range' n (used.length+1)).map nwL) (m:=used) (by
    exact List.pairwise_map.2 (List.Pairwise.imp (fun h e=>h (zwi e)) List.nodup_range')) fun x hx=>by
     obtain ⟨i,hi,rfl⟩:=List.mem_map.1 hx
     rw [List.mem_range'_1] at hi
     exact h3 i hi.1 (by show i < frN used n;omega)
   simp at this
   omega
 exact ⟨h1,hlt,h4 (by show frN used n < _;omega),h3⟩
theorem zht {used:List (List UInt8)} {n:Nat} (h:nwL n∉used):frN used n=n:=by
 have hs:=z5o used n
 by_cases he:frN used n=n
 ·exact he
 ·exact absurd (hs.2.2.2 n (Nat.le_refl _) (by omega)) h
theorem Z1w {used:List (List UInt8)} {n:Nat} (h:nwL n∈used):frN used n=frN used (n+1):=by
 have h1:=z5o used n
 have h2:=z5o used (n+1)
 have hn:frN used n≠n:=fun e=>h1.2.2.1 (by rw [e];exact h)
 by_cases h3:frN used n < frN used (n+1)
 ·exact absurd (h2.2.2.2 _ (by omega) h3) h1.2.2.1
 by_cases h4:frN used (n+1) < frN used n
 ·exact absurd (h1.2.2.2 _ (by omega) h4) h2.2.2.1
 omega
def simX (e:Xp):Bool:=decide (e.kind=0) || decide (e.kind=1)
def refX (s:List UInt8):Xp:=.mk 1 s [] dat0 []
def letX (s:List UInt8) (i b:Xp):Xp:=.mk 8 [] [s] dat0 [i,b]
def wrapX:List (List UInt8×Xp)→Xp→Xp
 | [],b=>b
 | x::l,b=>letX x.1 x.2 (wrapX l b)
def someN (k:Int) (n:Nat):Nat:=if k=6∨k=7 then n else if k=3 then 1 else 0
mutual
def Xp.nam (U:List (List UInt8)):Xp→Nat→Xp×Nat
 | .mk k s ns d l,n=>(wrapX (Xps.nam U (someN k l.length) l n).2.1 (.mk k s ns d (Xps.nam U (someN k l.length) l n).1),(Xps.nam U (someN k l.length) l n).2.2)
def Xps.nam (U:List (List UInt8)) (c:Nat):List Xp→Nat→List Xp×List (List UInt8×Xp)×Nat
 | [],n=>([],[],n)
 | e::l,n=>
  if c=0 then ((Xp.nam U e n).1::(Xps.nam U 0 l (Xp.nam U e n).2).1,(Xps.nam U 0 l (Xp.nam U e n).2).2)
  else if simX e=true then (e::(Xps.nam U (c - 1) l n).1,(Xps.nam U (c - 1) l n).2)
  else (refX (nwL (frN U n))::(Xps.nam U (c - 1) l (Xp.nam U e (frN U n+1)).2).1,(nwL (frN U n),(Xp.nam U e (frN U n+1)).1)::(Xps.nam U (c - 1) l (Xp.nam U e (frN U n+1)).2).2.1,(Xps.nam U (c - 1) l (Xp.nam U e (frN U n+1)).2).2.2)
end
theorem Xp.nam_eq (U:List (List UInt8)) (e:Xp) (n:Nat):e.nam U n=(wrapX (Xps.nam U (someN e.kind e.kids.length) e.kids n).2.1 (.mk e.kind e.name e.names e.const (Xps.nam U (someN e.kind e.kids.length) e.kids n).1),(Xps.nam U (someN e.kind e.kids.length) e.kids n).2.2):=by
 cases e;simp only [Xp.nam,Xp.kind,Xp.name,Xp.names,Xp.const,Xp.kids]
theorem Xps.nam_nil (U:List (List UInt8)) (c n:Nat):Xps.nam U c [] n=([],[],n):=by simp only [Xps.nam]
theorem Xps.nam_zero (U:List (List UInt8)) (e:Xp) (l:List Xp) (n:Nat):Xps.nam U 0 (e::l) n=((Xp.nam U e n).1::(Xps.nam U 0 l (Xp.nam U e n).2).1,(Xps.nam U 0 l (Xp.nam U e n).2).2):=by simp only [Xps.nam,if_true]
theorem Xps.nam_sim (U:List (List UInt8)) {c:Nat} {e:Xp} {l:List Xp} {n:Nat} (h:simX e=true):Xps.nam U (c+1) (e::l) n=(e::(Xps.nam U c l n).1,(Xps.nam U c l n).2):=by
 simp only [Xps.nam,Nat.add_one_sub_one]
 rw [if_neg (by omega),if_pos h]
theorem Xps.nam_new (U:List (List UInt8)) {c:Nat} {e:Xp} {l:List Xp} {n:Nat} (h:simX e=false):Xps.nam U (c+1) (e::l) n=(refX (nwL (frN U n))::(Xps.nam U c l (Xp.nam U e (frN U n+1)).2).1,(nwL (frN U n),(Xp.nam U e (frN U n+1)).1)::(Xps.nam U c l (Xp.nam U e (frN U n+1)).2).2.1,(Xps.nam U c l (Xp.nam U e (frN U n+1)).2).2.2):=by
 simp only [Xps.nam,Nat.add_one_sub_one]
 rw [if_neg (by omega),if_neg (by rw [h];exact Bool.false_ne_true)]
theorem Xps.nam_len (U:List (List UInt8)):∀(l:List Xp) (c n:Nat),(Xps.nam U c l n).1.length=l.length
 | [],c,n=>by rw [Xps.nam_nil]
 | e::l,0,n=>by rw [Xps.nam_zero];simp only [zlc,Xps.nam_len U l]
 | e::l,c+1,n=>by
  cases h:simX e with
  | true=>rw [Xps.nam_sim U h];simp only [zlc,Xps.nam_len U l]
  | false=>rw [Xps.nam_new U h];simp only [zlc,Xps.nam_len U l]
theorem Xps.nam_binds0 (U:List (List UInt8)):∀(l:List Xp) (n:Nat),(Xps.nam U 0 l n).2.1=[]
 | [],n=>by rw [Xps.nam_nil]
 | e::l,n=>by rw [Xps.nam_zero];exact Xps.nam_binds0 U l _
theorem Xps.nam_bindsLen (U:List (List UInt8)):∀(l:List Xp) (c n:Nat),(Xps.nam U c l n).2.1.length≤c∧(Xps.nam U c l n).2.1.length≤l.length
 | [],c,n=>by rw [Xps.nam_nil];simp
 | e::l,0,n=>by rw [Xps.nam_binds0];simp
 | e::l,c+1,n=>by
  cases h:simX e with
  | true=>
   rw [Xps.nam_sim U h]
   have:=Xps.nam_bindsLen U l c n
   simp only [zlc];omega
  | false=>
   rw [Xps.nam_new U h]
   have:=Xps.nam_bindsLen U l c (Xp.nam U e (frN U n+1)).2
   simp only [zlc];omega
mutual
def Xp.namedB:Xp→Bool
 | .mk k _ _ _ l=>Xps.namedB (someN k l.length) l
def Xps.namedB (c:Nat):List Xp→Bool
 | []=>true
 | e::l=>(decide (c=0) || simX e) && Xp.namedB e && Xps.namedB (c - 1) l
end
theorem Xp.namedB_eq (e:Xp):e.namedB=Xps.namedB (someN e.kind e.kids.length) e.kids:=by cases e;simp only [Xp.namedB,Xp.kind,Xp.kids]
def Z1d (U:List (List UInt8)) (e:Xp):Prop:=∀n,e.namedB=true→e.nam U n=(e,n)
theorem Xps.stay (U:List (List UInt8)):∀(l:List Xp),(∀e∈l,Z1d U e)→∀c n,Xps.namedB c l=true→Xps.nam U c l n=(l,[],n)
 | [],_,c,n,_=>Xps.nam_nil U c n
 | e::l,h,0,n,hb=>by
  simp only [Xps.namedB,zba] at hb
  rw [Xps.nam_zero,h e (zms) n hb.1.2]
  dsimp only
  rw [Xps.stay U l (fun x hx=>h x (zmm _ hx)) 0 n hb.2]
 | e::l,h,c+1,n,hb=>by
  simp only [Xps.namedB,zba,Bool.or_eq_true,zdt] at hb
  have hs:simX e=true:=by
   rcases hb.1.1 with h | h
   ·omega
   ·exact h
  rw [Xps.nam_sim U hs,Xps.stay U l (fun x hx=>h x (zmm _ hx)) c n hb.2]
theorem Xp.stay (U:List (List UInt8)):∀e,Z1d U e:=by
 refine Xp.ind fun e ih n hb=>?_
 rw [Xp.namedB_eq] at hb
 rw [Xp.nam_eq,Xps.stay U e.kids ih _ n hb]
 dsimp only [wrapX]
 cases e;simp only [Xp.kind,Xp.name,Xp.names,Xp.const,Xp.kids]
theorem Xps.namedB_zero:∀(l:List Xp),(∀e∈l,e.namedB=true)→Xps.namedB 0 l=true
 | [],_=>rfl
 | e::l,h=>by
  simp only [Xps.namedB,Nat.zero_sub,decide_true,Bool.true_or,Bool.true_and,zba]
  exact ⟨h e (zms),Xps.namedB_zero l fun x hx=>h x (zmm _ hx)⟩
theorem zmz:∀(bs:List (List UInt8×Xp)) (b:Xp),(∀x∈bs,x.2.namedB=true)→b.namedB=true→(wrapX bs b).namedB=true
 | [],b,_,h=>h
 | x::bs,b,hx,h=>by
  show (letX x.1 x.2 (wrapX bs b)).namedB=true
  have:=zmz bs b (fun y hy=>hx y (zmm _ hy)) h
  simp only [letX,Xp.namedB]
  refine Xps.namedB_zero _ fun e he=>?_
  rcases List.mem_cons.1 he with rfl | he
  ·exact hx x (zms)
  ·rw [List.mem_singleton.1 he];exact this
def leafB (e:Xp):Prop:=simX e=true→e.kids=[]
mutual
def Xp.leafy:Xp→Prop
 | .mk k s ns d l=>leafB (.mk k s ns d l)∧Xps.leafy l
def Xps.leafy:List Xp→Prop
 | []=>True
 | e::l=>Xp.leafy e∧Xps.leafy l
end
theorem Xps.leafy_iff:∀{l:List Xp},Xps.leafy l↔∀e∈l,e.leafy
 | []=>by simp [Xps.leafy]
 | e::l=>by simp [Xps.leafy,Xps.leafy_iff (l:=l)]
theorem Xp.leafy_eq (e:Xp):e.leafy↔leafB e∧∀x∈e.kids,x.leafy:=by
 cases e;simp only [Xp.leafy,Xp.kids,Xps.leafy_iff]
theorem Z0i {e:Xp} (h:simX e=true) (hl:e.leafy):e.namedB=true:=by
 rw [Xp.namedB_eq,(e.leafy_eq.1 hl).1 h];rfl
theorem Xps.namedB_split (c:Nat):∀(l:List Xp),(Xps.namedB c l=true)↔(∀e∈l,e.namedB=true)∧∀e∈l.take c,simX e=true
 | []=>by simp [Xps.namedB]
 | e::l=>by
  simp only [Xps.namedB,zba,Bool.or_eq_true,zdt,Xps.namedB_split (c - 1) l,List.mem_cons,forall_eq_or_imp]
  cases c with
  | zero=>simp
  | succ c=>simp;grind
def NamAt (U:List (List UInt8)) (e:Xp):Prop:=e.leafy→∀n,(e.nam U n).1.namedB=true
theorem Xps.named (U:List (List UInt8)):∀(l:List Xp),(∀e∈l,NamAt U e)→(∀e∈l,e.leafy)→∀c n,(∀x∈(Xps.nam U c l n).1,x.namedB=true)∧(∀x∈(Xps.nam U c l n).1.take c,simX x=true)∧∀x∈(Xps.nam U c l n).2.1,x.2.namedB=true
 | [],_,_,c,n=>by rw [Xps.nam_nil];simp
 | e::l,h,hl,0,n=>by
  rw [Xps.nam_zero]
  obtain ⟨h1,h2,h3⟩:=Xps.named U l (fun x hx=>h x (zmm _ hx)) (fun x hx=>hl x (zmm _ hx)) 0 (Xp.nam U e n).2
  refine ⟨fun x hx=>?_,by simp,h3⟩
  rcases List.mem_cons.1 hx with rfl | hx
  ·exact h e (zms) (hl e (zms)) n
  ·exact h1 x hx
 | e::l,h,hl,c+1,n=>by
  cases hs:simX e with
  | true=>
   rw [Xps.nam_sim U hs]
   obtain ⟨h1,h2,h3⟩:=Xps.named U l (fun x hx=>h x (zmm _ hx)) (fun x hx=>hl x (zmm _ hx)) c n
   refine ⟨fun x hx=>?_,fun x hx=>?_,h3⟩
   ·rcases List.mem_cons.1 hx with rfl | hx
    ·exact Z0i hs (hl _ (zms))
    ·exact h1 x hx
   ·rw [List.take_succ_cons] at hx
    rcases List.mem_cons.1 hx with rfl | hx
    ·exact hs
    ·exact h2 x hx
  | false=>
   rw [Xps.nam_new U hs]
   obtain ⟨h1,h2,h3⟩:=Xps.named U l (fun x hx=>h x (zmm _ hx)) (fun x hx=>hl x (zmm _ hx)) c (Xp.nam U e (frN U n+1)).2
   refine ⟨fun x hx=>?_,fun x hx=>?_,fun x hx=>?_⟩
   ·rcases List.mem_cons.1 hx with rfl | hx
    ·rfl
    ·exact h1 x hx
   ·rw [List.take_succ_cons] at hx
    rcases List.mem_cons.1 hx with rfl | hx
    ·rfl
    ·exact h2 x hx
   ·rcases List.mem_cons.1 hx with rfl | hx
    ·exact h e (zms) (hl e (zms)) _
    ·exact h3 x hx
theorem Xp.named (U:List (List UInt8)):∀e,NamAt U e:=by
 refine Xp.ind fun e ih hl n=>?_
 obtain ⟨h1,h2,h3⟩:=Xps.named U e.kids ih ((e.leafy_eq.1 hl).2) (someN e.kind e.kids.length) n
 rw [Xp.nam_eq]
 refine zmz _ _ h3 ?_
 rw [Xp.namedB_eq]
 simp only [Xp.kind_mk,Xp.kids_mk,Xps.nam_len]
 exact (Xps.namedB_split _ _).2 ⟨h1,h2⟩
mutual
def Xp.occ (s:List UInt8):Xp→Bool
 | .mk k t ns _ l=>((decide (k=1) || decide (k=2)) && decide (t=s)) || Xps.occ s ns k l
def Xps.occ (s:List UInt8) (ns:List (List UInt8)) (k:Int):List Xp→Bool
 | []=>false
 | e::l=>(Xp.occ s e && !(inB k l && ns.contains s)) || Xps.occ s ns k l
end
theorem Xp.occ_eq (s:List UInt8) (e:Xp):e.occ s=(((decide (e.kind=1) || decide (e.kind=2)) && decide (e.name=s)) || Xps.occ s e.names e.kind e.kids):=by cases e;simp only [Xp.occ,Xp.kind,Xp.name,Xp.names,Xp.kids];rfl
theorem Xp.occ_mk (s:List UInt8) (k:Int) (t:List UInt8) (ns:List (List UInt8)) (d:Dat) (l:List Xp):(Xp.mk k t ns d l).occ s=(((decide (k=1) || decide (k=2)) && decide (t=s)) || Xps.occ s ns k l):=Xp.occ_eq s (.mk k t ns d l)
def FrOcc (e:Xp):Prop:=∀s b,s∈e.fr b↔e.occ s=true∧s∉b
theorem Xps.fr_occ:∀(l:List Xp),(∀e∈l,FrOcc e)→∀s b ns k,s∈Xps.fr b (b++ns) k l↔Xps.occ s ns k l=true∧s∉b
 | [],_,s,b,ns,k=>by simp [Xps.fr,Xps.occ]
 | e::l,h,s,b,ns,k=>by
  have h1:=h e (zms) s (if inB k l then b++ns else b)
  have h2:=Xps.fr_occ l (fun x hx=>h x (zmm _ hx)) s b ns k
  simp only [Xps.fr,Xps.occ,List.mem_append,h1,h2,Bool.or_eq_true,zba,Bool.not_eq_true',Bool.and_eq_false_iff]
  cases inB k l with
  | true=>simp only [if_true,List.mem_append,not_or,Bool.true_eq_false,false_or,List.contains_eq_mem,zdf];grind
  | false=>simp;grind
theorem Xp.fr_occ:∀e,FrOcc e:=by
 refine Xp.ind fun e ih s b=>?_
 rw [Xp.fr_eq,Xp.occ_eq,List.mem_append,Xps.fr_occ e.kids ih s b e.names e.kind]
 simp only [Bool.or_eq_true,zba,zdt]
 by_cases h:(e.kind=1∨e.kind=2)∧e.name∉b
 ·rw [if_pos h]
  simp only [List.mem_singleton]
  constructor
  ·rintro (rfl | h2)
   ·exact ⟨.inl ⟨h.1,rfl⟩,h.2⟩
   ·exact ⟨.inr h2.1,h2.2⟩
  ·rintro ⟨⟨_,h2⟩ | h2,h3⟩
   ·exact .inl h2.symm
   ·exact .inr ⟨h2,h3⟩
 ·rw [if_neg h]
  simp only [List.not_mem_nil,false_or]
  constructor
  ·exact fun h2=>⟨.inr h2.1,h2.2⟩
  ·rintro ⟨⟨h2,rfl⟩ | h2,h3⟩
   ·exact absurd ⟨h2,h3⟩ h
   ·exact ⟨h2,h3⟩
theorem Xps.occ_note:∀(l:List Xp),(∀e∈l,∀s,e.occ s=true→s∈e.note)→∀s ns k,Xps.occ s ns k l=true→s∈Xps.note l
 | [],_,s,ns,k,h=>by simp [Xps.occ] at h
 | e::l,ih,s,ns,k,h=>by
  simp only [Xps.occ,Bool.or_eq_true,zba] at h
  simp only [Xps.note,List.mem_append]
  rcases h with h | h
  ·exact .inl (ih e (zms) s h.1)
  ·exact .inr (Xps.occ_note l (fun x hx=>ih x (zmm _ hx)) s ns k h)
theorem Xp.occ_note:∀e:Xp,∀s,e.occ s=true→s∈e.note:=by
 refine Xp.ind fun e ih s h=>?_
 rw [Xp.occ_eq] at h
 rw [Xp.note_eq]
 simp only [Bool.or_eq_true,zba,zdt] at h
 rcases h with h | h
 ·rw [h.2];exact zms
 ·exact zmm _ (List.mem_append_right _ (Xps.occ_note e.kids ih s _ _ h))
def overW (s:List UInt8):List (List UInt8×Xp)→Bool→Bool
 | [],x=>x
 | b::l,x=>b.2.occ s || (!decide (b.1=s) && overW s l x)
theorem zr7 (s:List UInt8):∀(bs:List (List UInt8×Xp)) (b:Xp),(wrapX bs b).occ s=overW s bs (b.occ s)
 | [],b=>rfl
 | x::bs,b=>by
  show (letX x.1 x.2 (wrapX bs b)).occ s=_
  simp only [letX,Xp.occ,Xps.occ,inB,zr7 s bs b,overW]
  have:([x.1].contains s)=decide (x.1=s):=by
   simp only [List.contains_cons,List.contains_nil,Bool.or_false]
   by_cases h:x.1=s
   ·subst h;simp
   ·simp [h,Ne.symm h]
  rw [this]
  cases x.2.occ s<;>cases overW s bs (b.occ s)<;>cases decide (x.1=s)<;>rfl
def OccAt (U:List (List UInt8)) (e:Xp):Prop:=(∀s∈e.note,s∈U)→∀n s,(e.nam U n).1.occ s=e.occ s
theorem Xps.occ_zero (U:List (List UInt8)):∀(l:List Xp),(∀e∈l,OccAt U e)→(∀s∈Xps.note l,s∈U)→∀n s ns k,Xps.occ s ns k (Xps.nam U 0 l n).1=Xps.occ s ns k l
 | [],_,_,n,s,ns,k=>by rw [Xps.nam_nil]
 | e::l,h,hU,n,s,ns,k=>by
  simp only [Xps.note,List.mem_append] at hU
  have h1:=h e (zms) (fun s hs=>hU s (.inl hs)) n s
  have h2:=Xps.occ_zero U l (fun x hx=>h x (zmm _ hx)) (fun s hs=>hU s (.inr hs)) (Xp.nam U e n).2 s ns k
  have h3:inB k (Xps.nam U 0 l (Xp.nam U e n).2).1=inB k l:=by
   have:=Xps.nam_len U l 0 (Xp.nam U e n).2
   unfold inB
   cases l with
   | nil=>rw [Xps.nam_nil]
   | cons a l=>rw [Xps.nam_zero];rfl
  rw [Xps.nam_zero]
  simp only [Xps.occ,h1,h2,h3]
theorem Xps.occ_plain {s:List UInt8} {k:Int} (hk:k=3∨k=6∨k=7) (e:Xp) (l:List Xp) (ns:List (List UInt8)):Xps.occ s ns k (e::l)=(e.occ s || Xps.occ s ns k l):=by
 have:inB k l=false:=by rcases hk with rfl | rfl | rfl<;>rfl
 simp only [Xps.occ,this,Bool.false_and,Bool.not_false,Bool.and_true]
theorem Xps.occ_some (U:List (List UInt8)) {k:Int} (hk:k=3∨k=6∨k=7) (ns:List (List UInt8)) (s:List UInt8):∀(l:List Xp),(∀e∈l,OccAt U e)→(∀s∈Xps.note l,s∈U)→∀(c n:Nat) (y:Bool),(y=true→s∈U)→overW s (Xps.nam U c l n).2.1 (y || Xps.occ s ns k (Xps.nam U c l n).1)=(y || Xps.occ s ns k l)
 | [],_,_,c,n,y,_=>by rw [Xps.nam_nil];rfl
 | e::l,h,hU,0,n,y,hy=>by
  rw [Xps.nam_binds0]
  show (y || Xps.occ s ns k _)=_
  rw [Xps.occ_zero U (e::l) h hU]
 | e::l,h,hU,c+1,n,y,hy=>by
  simp only [Xps.note,List.mem_append] at hU
  have hl:∀x∈l,OccAt U x:=fun x hx=>h x (zmm _ hx)
  have hUl:∀s∈Xps.note l,s∈U:=fun s hs=>hU s (.inr hs)
  have heU:e.occ s=true→s∈U:=fun h=>hU s (.inl (Xp.occ_note e s h))
  cases hs:simX e with
  | true=>
   rw [Xps.nam_sim U hs]
   dsimp only
   rw [Xps.occ_plain hk,Xps.occ_plain hk,←Bool.or_assoc,Xps.occ_some U hk ns s l hl hUl c n (y || e.occ s) (fun h=>by
    rcases Bool.or_eq_true _ _ ▸ h with h | h
    ·exact hy h
    ·exact heU h),Bool.or_assoc]
  | false=>
   rw [Xps.nam_new U hs]
   dsimp only [overW]
   have h1:=h e (zms) (fun s hs=>hU s (.inl hs)) (frN U n+1) s
   rw [h1,Xps.occ_plain hk,Xps.occ_plain hk]
   have hr:(refX (nwL (frN U n))).occ s=decide (nwL (frN U n)=s):=by simp [refX,Xp.occ,Xps.occ]
   rw [hr]
   by_cases he:nwL (frN U n)=s
   ·have hn:s∉U:=he ▸ (z5o U n).2.2.1
    have e1:e.occ s=false:=Bool.eq_false_iff.2 fun h=>hn (heU h)
    have e2:y=false:=Bool.eq_false_iff.2 fun h=>hn (hy h)
    have e3:Xps.occ s ns k l=false:=Bool.eq_false_iff.2 fun h=>hn (hUl s (Xps.occ_note l (fun x _=>Xp.occ_note x) s ns k h))
    rw [e1,e2,e3,decide_eq_true he];rfl
   ·rw [decide_eq_false he]
    have:=Xps.occ_some U hk ns s l hl hUl c (Xp.nam U e (frN U n+1)).2 y hy
    simp only [Bool.false_or,Bool.not_false,Bool.true_and,this]
    cases y<;>cases e.occ s<;>rfl
theorem zcq {k:Int} {n:Nat} (h:¬(k=3∨k=6∨k=7)):someN k n=0:=by
 unfold someN
 rw [if_neg (fun h2=>h (by omega)),if_neg (fun h2=>h (by omega))]
theorem Xp.occ_nam (U:List (List UInt8)):∀e,OccAt U e:=by
 refine Xp.ind fun e ih hU n s=>?_
 rw [Xp.note_eq] at hU
 have hUl:∀s∈Xps.note e.kids,s∈U:=fun s hs=>hU s (zmm _ (List.mem_append_right _ hs))
 rw [Xp.nam_eq]
 dsimp only
 rw [zr7,Xp.occ_mk,Xp.occ_eq s e]
 by_cases hk:e.kind=3∨e.kind=6∨e.kind=7
 ·have h0:((decide (e.kind=1) || decide (e.kind=2)) && decide (e.name=s))=false:=by
   have h1:decide (e.kind=1)=false:=decide_eq_false (by omega)
   have h2:decide (e.kind=2)=false:=decide_eq_false (by omega)
   rw [h1,h2];rfl
  rw [h0]
  exact Xps.occ_some U hk e.names s e.kids ih hUl _ n false (fun h=>by cases h)
 ·rw [zcq hk,Xps.nam_binds0]
  show (_ || _)=_
  rw [Xps.occ_zero U e.kids ih hUl]
theorem zuc {U:List (List UInt8)} {e:Xp} (hU:∀s∈e.note,s∈U) (n:Nat):∀s,s∈(e.nam U n).1.fr []↔s∈e.fr []:=fun s=>by
 rw [Xp.fr_occ,Xp.fr_occ,Xp.occ_nam U e hU]
theorem zqw (p:Int→Bool) (h8:p 8=false):∀(bs:List (List UInt8×Xp)) (b:Xp),(∀x∈bs,x.2.any p=false)→b.any p=false→(wrapX bs b).any p=false
 | [],b,_,h=>h
 | x::bs,b,hx,h=>by
  show (letX x.1 x.2 (wrapX bs b)).any p=false
  have:=zqw p h8 bs b (fun y hy=>hx y (zmm _ hy)) h
  simp only [letX,Xp.any,Xps.any,h8,this,hx x (zms),Bool.or_false]
theorem Xps.any_iff (p:Int→Bool):∀l:List Xp,Xps.any p l=false↔∀e∈l,e.any p=false
 | []=>by simp [Xps.any]
 | e::l=>by simp [Xps.any,Xps.any_iff p l]
def AnyAt (U:List (List UInt8)) (p:Int→Bool) (e:Xp):Prop:=e.any p=false→∀n,(e.nam U n).1.any p=false
theorem Xps.any_nam (U:List (List UInt8)) (p:Int→Bool) (h1:p 1=false):∀(l:List Xp),(∀e∈l,AnyAt U p e)→(∀e∈l,e.any p=false)→∀c n,(∀x∈(Xps.nam U c l n).1,x.any p=false)∧∀x∈(Xps.nam U c l n).2.1,x.2.any p=false
 | [],_,_,c,n=>by rw [Xps.nam_nil];simp
 | e::l,h,hl,0,n=>by
  rw [Xps.nam_zero]
  obtain ⟨g1,g3⟩:=Xps.any_nam U p h1 l (fun x hx=>h x (zmm _ hx)) (fun x hx=>hl x (zmm _ hx)) 0 (Xp.nam U e n).2
  refine ⟨fun x hx=>?_,g3⟩
  rcases List.mem_cons.1 hx with rfl | hx
  ·exact h e (zms) (hl e (zms)) n
  ·exact g1 x hx
 | e::l,h,hl,c+1,n=>by
  cases hs:simX e with
  | true=>
   rw [Xps.nam_sim U hs]
   obtain ⟨g1,g3⟩:=Xps.any_nam U p h1 l (fun x hx=>h x (zmm _ hx)) (fun x hx=>hl x (zmm _ hx)) c n
   refine ⟨fun x hx=>?_,g3⟩
   rcases List.mem_cons.1 hx with rfl | hx
   ·exact hl _ (zms)
   ·exact g1 x hx
  | false=>
   rw [Xps.nam_new U hs]
   obtain ⟨g1,g3⟩:=Xps.any_nam U p h1 l (fun x hx=>h x (zmm _ hx)) (fun x hx=>hl x (zmm _ hx)) c (Xp.nam U e (frN U n+1)).2
   refine ⟨fun x hx=>?_,fun x hx=>?_⟩
   ·rcases List.mem_cons.1 hx with rfl | hx
    ·simp only [refX,Xp.any,Xps.any,h1,Bool.or_false]
    ·exact g1 x hx
   ·rcases List.mem_cons.1 hx with rfl | hx
    ·exact h e (zms) (hl e (zms)) _
    ·exact g3 x hx
theorem Xp.any_nam (U:List (List UInt8)) (p:Int→Bool) (h1:p 1=false) (h8:p 8=false):∀e,AnyAt U p e:=by
 refine Xp.ind fun e ih he n=>?_
 rw [Xp.any_eq,Bool.or_eq_false_iff] at he
 obtain ⟨g1,g3⟩:=Xps.any_nam U p h1 e.kids ih ((Xps.any_iff p _).1 he.2) (someN e.kind e.kids.length) n
 rw [Xp.nam_eq]
 refine zqw p h8 _ _ g3 ?_
 rw [Xp.any_eq,Bool.or_eq_false_iff]
 exact ⟨he.1,(Xps.any_iff p _).2 g1⟩
def sizeW:List (List UInt8×Xp)→Nat
 | []=>0
 | x::l=>1+x.2.size+sizeW l
theorem zpr:∀(bs:List (List UInt8×Xp)) (b:Xp),(wrapX bs b).size=sizeW bs+b.size
 | [],b=>by simp only [wrapX,sizeW];omega
 | x::bs,b=>by
  show (letX x.1 x.2 (wrapX bs b)).size=_
  simp only [letX,Xp.size,Xps.size,zpr bs b,sizeW];omega
theorem Xp.size_pos (e:Xp):1≤e.size:=by rw [Xp.size_eq];omega
def zum (U:List (List UInt8)) (e:Xp):Prop:=∀n,(e.nam U n).1.size+2≤3 * e.size
theorem Xps.size_nam (U:List (List UInt8)):∀(l:List Xp),(∀e∈l,zum U e)→∀c n,sizeW (Xps.nam U c l n).2.1+Xps.size (Xps.nam U c l n).1≤3 * Xps.size l
 | [],_,c,n=>by rw [Xps.nam_nil];simp [sizeW,Xps.size]
 | e::l,h,0,n=>by
  rw [Xps.nam_zero]
  have h1:=h e (zms) n
  have h2:=Xps.size_nam U l (fun x hx=>h x (zmm _ hx)) 0 (Xp.nam U e n).2
  dsimp only
  simp only [Xps.size];omega
 | e::l,h,c+1,n=>by
  have hl:∀x∈l,zum U x:=fun x hx=>h x (zmm _ hx)
  cases hs:simX e with
  | true=>
   rw [Xps.nam_sim U hs]
   have h2:=Xps.size_nam U l hl c n
   dsimp only
   simp only [Xps.size];omega
  | false=>
   rw [Xps.nam_new U hs]
   have h1:=h e (zms) (frN U n+1)
   have h2:=Xps.size_nam U l hl c (Xp.nam U e (frN U n+1)).2
   have hr:(refX (nwL (frN U n))).size=1:=by simp [refX,Xp.size,Xps.size]
   dsimp only
   simp only [Xps.size,sizeW,hr];omega
theorem Xp.size_nam (U:List (List UInt8)):∀e,zum U e:=by
 refine Xp.ind fun e ih n=>?_
 have h:=Xps.size_nam U e.kids ih (someN e.kind e.kids.length) n
 rw [Xp.nam_eq]
 dsimp only
 rw [zpr,Xp.size_eq e,Xp.size_eq (.mk _ _ _ _ _)]
 simp only [Xp.kids_mk];omega
mutual
def Xp.dep:Xp→Nat
 | .mk _ _ _ _ l=>Xps.dep l+1
def Xps.dep:List Xp→Nat
 | []=>0
 | e::l=>max (Xp.dep e) (Xps.dep l)
end
theorem Xp.dep_eq (e:Xp):e.dep=Xps.dep e.kids+1:=by cases e;simp only [Xp.dep,Xp.kids]
theorem Xps.dep_le {n:Nat}:∀{l:List Xp},Xps.dep l≤n↔∀e∈l,e.dep≤n
 | []=>by simp [Xps.dep]
 | e::l=>by
  simp only [Xps.dep,List.mem_cons,forall_eq_or_imp,←Xps.dep_le (l:=l) (n:=n)];omega
theorem zrf {n:Nat}:∀(bs:List (List UInt8×Xp)) (b:Xp),(∀x∈bs,x.2.dep≤n)→b.dep≤n→(wrapX bs b).dep≤n+bs.length
 | [],b,_,h=>h
 | x::bs,b,hx,h=>by
  show (letX x.1 x.2 (wrapX bs b)).dep≤_
  have h1:=zrf bs b (fun y hy=>hx y (zmm _ hy)) h
  have h2:=hx x (zms)
  simp only [letX,Xp.dep,Xps.dep,zlc];omega
def DepAt (U:List (List UInt8)) (e:Xp):Prop:=e.okF true→∀n,(e.nam U n).1.dep≤8 * e.dep
theorem Xps.dep_nam (U:List (List UInt8)) {m:Nat}:∀(l:List Xp),(∀e∈l,DepAt U e)→(∀e∈l,e.okF true)→(∀e∈l,e.dep≤m)→∀c n,(∀x∈(Xps.nam U c l n).1,x.dep≤8 * m)∧∀x∈(Xps.nam U c l n).2.1,x.2.dep≤8 * m
 | [],_,_,_,c,n=>by rw [Xps.nam_nil];simp
 | e::l,h,ho,hm,0,n=>by
  rw [Xps.nam_zero]
  obtain ⟨g1,g2⟩:=Xps.dep_nam U l (fun x hx=>h x (zmm _ hx)) (fun x hx=>ho x (zmm _ hx)) (fun x hx=>hm x (zmm _ hx)) 0 (Xp.nam U e n).2
  have h1:=h e (zms) (ho e (zms)) n
  have h2:=hm e (zms)
  refine ⟨fun x hx=>?_,g2⟩
  rcases List.mem_cons.1 hx with rfl | hx
  ·omega
  ·exact g1 x hx
 | e::l,h,ho,hm,c+1,n=>by
  have hl:∀x∈l,DepAt U x:=fun x hx=>h x (zmm _ hx)
  have hol:∀x∈l,x.okF true:=fun x hx=>ho x (zmm _ hx)
  have hml:∀x∈l,x.dep≤m:=fun x hx=>hm x (zmm _ hx)
  have h2:=hm e (zms)
  have h3:=Xp.dep_eq e
  cases hs:simX e with
  | true=>
   rw [Xps.nam_sim U hs]
   obtain ⟨g1,g2⟩:=Xps.dep_nam U l hl hol hml c n
   refine ⟨fun x hx=>?_,g2⟩
   rcases List.mem_cons.1 hx with rfl | hx
   ·omega
   ·exact g1 x hx
  | false=>
   rw [Xps.nam_new U hs]
   obtain ⟨g1,g2⟩:=Xps.dep_nam U l hl hol hml c (Xp.nam U e (frN U n+1)).2
   have h1:=h e (zms) (ho e (zms)) (frN U n+1)
   have hr:(refX (nwL (frN U n))).dep=1:=by simp [refX,Xp.dep,Xps.dep]
   refine ⟨fun x hx=>?_,fun x hx=>?_⟩
   ·rcases List.mem_cons.1 hx with rfl | hx
    ·rw [hr];omega
    ·exact g1 x hx
   ·rcases List.mem_cons.1 hx with rfl | hx
    ·dsimp only;omega
    ·exact g2 x hx
theorem zpq {e:Xp} (h:z0i e=true) (hk:e.kind=6∨e.kind=7):e.kids.length≤7:=by
 unfold z0i at h
 rw [if_neg (by omega)] at h
 simp only [zba] at h
 obtain ⟨_,h⟩:=h
 rcases hk with hk | hk
 ·rw [if_neg (by omega),if_neg (by omega),if_neg (by omega),if_neg (by omega),if_neg (by omega),if_pos hk] at h
  simp only [zba,zdt] at h
  omega
 ·rw [if_neg (by omega),if_neg (by omega),if_neg (by omega),if_neg (by omega),if_neg (by omega),if_neg (by omega),if_pos hk] at h
  simp only [zba,zdt] at h
  have:=zzp e.name
  omega
theorem zvx {U:List (List UInt8)} {e:Xp} (h:z0i e=true) (n:Nat):(Xps.nam U (someN e.kind e.kids.length) e.kids n).2.1.length≤7:=by
 have h1:=Xps.nam_bindsLen U e.kids (someN e.kind e.kids.length) n
 by_cases hk:e.kind=6∨e.kind=7
 ·have:=zpq h hk;omega
 ·have:someN e.kind e.kids.length≤1:=by
   unfold someN
   rw [if_neg hk]
   split<;>omega
  omega
theorem Xp.dep_nam (U:List (List UInt8)):∀e,DepAt U e:=by
 refine Xp.ind fun e ih ho n=>?_
 obtain ⟨hf,hk⟩:=Xp.okF_form ho
 obtain ⟨g1,g2⟩:=Xps.dep_nam U (m:=Xps.dep e.kids) e.kids ih hk (Xps.dep_le.1 (Nat.le_refl _)) (someN e.kind e.kids.length) n
 have hb:=zvx (U:=U) hf n
 rw [Xp.nam_eq,Xp.dep_eq e]
 dsimp only
 have:=zrf (n:=8 * Xps.dep e.kids+1) (Xps.nam U (someN e.kind e.kids.length) e.kids n).2.1 (.mk e.kind e.name e.names e.const (Xps.nam U (someN e.kind e.kids.length) e.kids n).1) (fun x hx=>by have:=g2 x hx;omega) (by
  rw [Xp.dep_eq]
  have:=Xps.dep_le.2 g1
  simp only [Xp.kids_mk];omega)
 omega
theorem Z18 {k:Nat} (h:k < 1000000000000000000):z0p (nwL k)=true:=by
 have h1:=zem h
 have hv:=zq6 k
 have hall:(nwL k).all nameB=true:=by
  unfold nwL
  rw [List.all_append,zba]
  refine ⟨by decide +kernel,List.all_eq_true.2 fun c hc=>zyp (List.all_eq_true.1 hv.2.2 c hc)⟩
 have h46:nwL k≠[46]:=by unfold nwL;simp
 have hnum:numB (nwL k)=false:=by
  rw [zil]
  have hs:signB (nwL k)=false:=by unfold nwL;rfl
  rw [hs]
  simp only [Bool.false_eq_true,if_false,List.drop_zero,Bool.and_eq_false_iff]
  right
  unfold nwL
  rfl
 have hne:(nwL k).isEmpty=false:=by unfold nwL;rfl
 have hlen:(nwL k).length≤64:=by unfold nwL;simp only [zla,zlc,List.length_nil];omega
 unfold z0p
 rw [hall,hne,hnum,decide_eq_true hlen,decide_eq_true h46];rfl
theorem Z2v {s:List UInt8} (h:z0p s=true) (i b:Xp):z0i (letX s i b)=true:=by
 simp [z0i,letX,Xp.kind,Xp.name,Xp.names,Xp.kids,Xp.const,z1n,z2d,h,z36,dat0,Dat.kind,Dat.int,Dat.text,Dat.list]
theorem Z2e {s:List UInt8} (h:z0p s=true):z0i (refX s)=true:=by
 simp [z0i,refX,Xp.kind,Xp.name,Xp.names,Xp.kids,Xp.const,z1n,z2d,h,z36,dat0,Dat.kind,Dat.int,Dat.text,Dat.list]
theorem z9f {e:Xp} (h:z0i e=true) (hk:e.kind≠4):z18 e=true:=by
 unfold z18
 rw [h,decide_eq_false hk];rfl
theorem zyo {e e':Xp} (h:z18 e=true) (hk:e'.kind=e.kind) (hn:e'.name=e.name) (hns:e'.names=e.names) (hc:e'.const=e.const) (hl:e'.kids.length=e.kids.length) (h5:e.kind=10→∀(i:Nat) (x:Xp),e.kids[i]?=some x→x.kind=5→∃y,e'.kids[i]?=some y∧y.kind=5):z18 e'=true:=by
 have he:e'.kids.isEmpty=e.kids.isEmpty:=by
  cases h1:e.kids<;>cases h2:e'.kids<;>rw [h1,h2] at hl<;>first | rfl | simp at hl
 have h10:e.kind=10→((e.kids.take e.names.length).all fun x=>decide (x.kind=5))=true→((e'.kids.take e.names.length).all fun x=>decide (x.kind=5))=true:=fun hk ha=>by
  rw [List.all_eq_true] at ha ⊢
  intro y hy
  obtain ⟨i,hi⟩:=List.getElem?_of_mem hy
  rw [List.getElem?_take] at hi
  split at hi
  ·rename_i hin
   have hil:i < e.kids.length:=by have:=(List.getElem?_eq_some_iff.1 hi).1;omega
   have h1:=ha (e.kids[i]) (by
    refine List.mem_of_getElem? (i:=i) ?_
    rw [List.getElem?_take,if_pos hin];exact zge hil)
   obtain ⟨z,hz,hz5⟩:=h5 hk i e.kids[i] (zge hil) (by simpa using h1)
   rw [hi] at hz;cases hz
   exact decide_eq_true hz5
  ·cases hi
 unfold z18 at h ⊢
 simp only [zba] at h
 rw [hk,hl,zba]
 refine ⟨?_,h.2⟩
 have h1:=h.1
 unfold z0i at h1 ⊢
 rw [hk,hn,hns,hc,hl,he]
 by_cases e0:e.kind=0
 ·rw [if_pos e0] at h1 ⊢;exact h1
 rw [if_neg e0] at h1 ⊢
 by_cases e10:e.kind=10
 ·rw [if_neg (by omega),if_neg (by omega),if_neg (by omega),if_neg (by omega),if_neg (by omega),if_neg (by omega),if_neg (by omega),if_neg (by omega),if_pos e10] at h1 ⊢
  simp only [zba] at h1 ⊢
  exact ⟨h1.1,h1.2.1,h10 e10 h1.2.2⟩
 ·simp only [if_neg e10] at h1 ⊢;exact h1
theorem Z0r {k:Int} {s:List UInt8} {ns:List (List UInt8)} {d:Dat} {l l':List Xp} (h:z18 (.mk k s ns d l)=true) (hl:l'.length=l.length) (h5:k=10→∀(i:Nat) (x:Xp),l[i]?=some x→x.kind=5→∃y,l'[i]?=some y∧y.kind=5):z18 (.mk k s ns d l')=true:=
 zyo (e':=.mk k s ns d l') h rfl rfl rfl rfl hl h5
theorem Xp.okF_eq (e:Xp):e.okF true↔z18 e=true∧∀x∈e.kids,x.okF true:=by
 cases e;simp only [Xp.okF,if_true,Xps.okF_iff,Xp.kids]
theorem zrn:∀(bs:List (List UInt8×Xp)) (b:Xp),(∀x∈bs,z0p x.1=true∧x.2.okF true)→b.okF true→(wrapX bs b).okF true
 | [],b,_,h=>h
 | x::bs,b,hx,h=>by
  show (letX x.1 x.2 (wrapX bs b)).okF true
  have h1:=zrn bs b (fun y hy=>hx y (zmm _ hy)) h
  obtain ⟨h2,h3⟩:=hx x (zms)
  refine (Xp.okF_eq _).2 ⟨z9f (Z2v h2 _ _) (by show (8:Int)≠4;decide),fun y hy=>?_⟩
  simp only [letX,Xp.kids_mk,List.mem_cons,List.not_mem_nil,or_false] at hy
  rcases hy with rfl | rfl
  ·exact h3
  ·exact h1
def OkAt (U:List (List UInt8)) (e:Xp):Prop:=e.okF true→∀n,n≤(e.nam U n).2∧(e.nam U n).2+(U.length+1)≤n+e.size * (U.length+1)∧((e.nam U n).2≤1000000000000000000→(e.nam U n).1.okF true)
theorem Z3f {U:List (List UInt8)} {e:Xp} (h:e.kind=5) (n:Nat):(e.nam U n).1.kind=5:=by
 rw [Xp.nam_eq,zcq (by omega),Xps.nam_binds0];exact h
theorem Xps.okF_nam (U:List (List UInt8)):∀(l:List Xp),(∀e∈l,OkAt U e)→(∀e∈l,e.okF true)→∀c n,n≤(Xps.nam U c l n).2.2∧(Xps.nam U c l n).2.2≤n+Xps.size l * (U.length+1)∧((Xps.nam U c l n).2.2≤1000000000000000000 →
  (∀x∈(Xps.nam U c l n).1,x.okF true)∧(∀x∈(Xps.nam U c l n).2.1,z0p x.1=true∧x.2.okF true))
 | [],_,_,c,n=>by rw [Xps.nam_nil];simp
 | e::l,h,ho,0,n=>by
  rw [Xps.nam_zero]
  obtain ⟨a1,a2,a3⟩:=h e (zms) (ho e (zms)) n
  obtain ⟨b1,b2,b3⟩:=Xps.okF_nam U l (fun x hx=>h x (zmm _ hx)) (fun x hx=>ho x (zmm _ hx)) 0 (Xp.nam U e n).2
  dsimp only
  simp only [Xps.size,Nat.add_mul]
  refine ⟨by omega,by omega,fun hb=>⟨fun x hx=>?_,(b3 (by omega)).2⟩⟩
  rcases List.mem_cons.1 hx with rfl | hx
  ·exact a3 (by omega)
  ·exact (b3 (by omega)).1 x hx
 | e::l,h,ho,c+1,n=>by
  have hl:∀x∈l,OkAt U x:=fun x hx=>h x (zmm _ hx)
  have hol:∀x∈l,x.okF true:=fun x hx=>ho x (zmm _ hx)
  have hp:=Xp.size_pos e
  have hmul:U.length+1≤e.size * (U.length+1):=Nat.le_mul_of_pos_left _ (by omega)
  cases hs:simX e with
  | true=>
   rw [Xps.nam_sim U hs]
   obtain ⟨b1,b2,b3⟩:=Xps.okF_nam U l hl hol c n
   dsimp only
   simp only [Xps.size,Nat.add_mul]
   refine ⟨by omega,by omega,fun hb=>⟨fun x hx=>?_,(b3 (by omega)).2⟩⟩
   rcases List.mem_cons.1 hx with rfl | hx
   ·exact ho _ (zms)
   ·exact (b3 (by omega)).1 x hx
  | false=>
   rw [Xps.nam_new U hs]
   obtain ⟨f1,f2,_,_⟩:=z5o U n
   obtain ⟨a1,a2,a3⟩:=h e (zms) (ho e (zms)) (frN U n+1)
   obtain ⟨b1,b2,b3⟩:=Xps.okF_nam U l hl hol c (Xp.nam U e (frN U n+1)).2
   dsimp only
   simp only [Xps.size,Nat.add_mul] at a2 b2 b3 ⊢
   refine ⟨by omega,by omega,fun hb=>⟨fun x hx=>?_,fun x hx=>?_⟩⟩
   ·rcases List.mem_cons.1 hx with rfl | hx
    ·refine (Xp.okF_eq _).2 ⟨z9f (Z2e (Z18 (by omega))) (by show (1:Int)≠4;decide),fun y hy=>?_⟩
     simp [refX,Xp.kids] at hy
    ·exact (b3 (by omega)).1 x hx
   ·rcases List.mem_cons.1 hx with rfl | hx
    ·exact ⟨Z18 (by omega),a3 (by omega)⟩
    ·exact (b3 (by omega)).2 x hx
theorem Xps.nam_kinds (U:List (List UInt8)):∀(l:List Xp) (n i:Nat) (x:Xp),l[i]?=some x→x.kind=5→∃y,(Xps.nam U 0 l n).1[i]?=some y∧y.kind=5
 | [],n,i,x,h,_=>by simp at h
 | e::l,n,0,x,h,h5=>by
  rw [Xps.nam_zero]
  simp only [List.getElem?_cons_zero,Option.some.injEq] at h
  subst h
  exact ⟨_,rfl,Z3f h5 n⟩
 | e::l,n,i+1,x,h,h5=>by
  rw [Xps.nam_zero]
  simp only [List.getElem?_cons_succ] at h
  obtain ⟨y,h1,h2⟩:=Xps.nam_kinds U l (Xp.nam U e n).2 i x h h5
  exact ⟨y,by simpa using h1,h2⟩
theorem Xp.okF_nam (U:List (List UInt8)):∀e,OkAt U e:=by
 refine Xp.ind fun e ih ho n=>?_
 obtain ⟨hf,hk⟩:=(Xp.okF_eq e).1 ho
 obtain ⟨b1,b2,b3⟩:=Xps.okF_nam U e.kids ih hk (someN e.kind e.kids.length) n
 rw [Xp.nam_eq,Xp.size_eq e]
 simp only [Nat.add_mul,Nat.one_mul]
 refine ⟨b1,by omega,fun hb=>?_⟩
 obtain ⟨g1,g2⟩:=b3 (by omega)
 refine zrn _ _ g2 ((Xp.okF_eq _).2 ⟨?_,g1⟩)
 refine Z0r (l:=e.kids) ?_ (Xps.nam_len U _ _ _) fun h10 i x hi h5=>?_
 ·cases e;exact hf
 ·rw [zcq (by omega)];exact Xps.nam_kinds U e.kids n i x hi h5
def ChkAt (e:Xp):Prop:=e.okF true→∀deep seen,deep+e.dep≤250→seen+e.size≤4096→e.chk true deep seen=(seen+e.size,0)
theorem Xps.chk_of:∀(l:List Xp),(∀e∈l,ChkAt e)→(∀e∈l,e.okF true)→∀deep seen,deep+Xps.dep l≤250→seen+Xps.size l≤4096→Xps.chk true l deep seen=(seen+Xps.size l,0)
 | [],_,_,deep,seen,_,_=>by simp only [Xps.chk,Xps.size,Nat.add_zero]
 | e::l,h,ho,deep,seen,h1,h2=>by
  simp only [Xps.dep,Xps.size] at h1 h2
  have h3:=h e (zms) (ho e (zms)) deep seen (by omega) (by omega)
  have h4:=Xps.chk_of l (fun x hx=>h x (zmm _ hx)) (fun x hx=>ho x (zmm _ hx)) deep (seen+e.size) (by omega) (by omega)
  simp only [Xps.chk,h3,ne_eq,not_true_eq_false,if_false,h4,Xps.size,Nat.add_assoc]
theorem Xp.chk_of:∀e,ChkAt e:=by
 refine Xp.ind fun e ih ho deep seen h1 h2=>?_
 obtain ⟨hf,hk⟩:=(Xp.okF_eq e).1 ho
 have h3:=Xp.dep_eq e
 have h4:=Xp.size_eq e
 have h5:=Xps.chk_of e.kids ih hk (deep+1) (seen+1) (by omega) (by omega)
 obtain ⟨k,s,ns,d,l⟩:=e
 simp only [Xp.kids] at h5 h4 h3
 simp only [Xp.chk,if_true,hf,Bool.true_eq_false,if_false]
 rw [if_neg (by omega),if_neg (by omega),h5,h4]
 simp only [Nat.add_assoc]
theorem ztu:∀e:Xp,e.note.length≤e.size+e.bnd.length:=by
 refine Xp.ind fun e ih=>?_
 have:∀l:List Xp,(∀e∈l,e.note.length≤e.size+e.bnd.length)→(Xps.note l).length≤Xps.size l+(Xps.bnd l).length:=fun l=>by
  induction l with
  | nil=>simp [Xps.note]
  | cons a l ihl=>
   intro h
   have h1:=h a (zms)
   have h2:=ihl fun x hx=>h x (zmm _ hx)
   simp only [Xps.note,Xps.size,Xps.bnd,zla];omega
 have h:=this e.kids ih
 rw [Xp.note_eq,Xp.size_eq,Xp.bnd_eq]
 simp only [zlc,zla];omega
def namX (e:Xp):Xp:=(e.nam e.note 0).1
theorem Z0v:∀e:Xp,e.okF true→e.leafy:=by
 refine Xp.ind fun e ih ho=>?_
 obtain ⟨hf,hk⟩:=Xp.okF_form ho
 refine e.leafy_eq.2 ⟨fun hs=>?_,fun x hx=>ih x hx (hk x hx)⟩
 unfold simX at hs
 simp only [Bool.or_eq_true,zdt] at hs
 rcases hs with hs | hs
 ·exact ztb hf hs
 ·unfold z0i at hf
  rw [if_neg (by omega),if_pos hs] at hf
  simp only [zba,zdt] at hf
  exact List.length_eq_zero_iff.1 hf.2.2
theorem Z07 {l m:List (List UInt8)} (h:∀s,s∈l↔s∈m):freeS l=freeS m:=by
 have h1:=zev l
 have h2:=zev m
 have hm:∀s,s∈freeS l↔s∈freeS m:=fun s=>by rw [mem_freeS,mem_freeS,h]
 exact List.Perm.eq_of_pairwise (fun a b _ _ h3 h4=>absurd (List.lt_trans h3 h4) (List.lt_irrefl a)) h1 h2 ((List.perm_ext_iff_of_nodup (h1.imp fun h e=>by subst e;exact absurd h (List.lt_irrefl _)) (h2.imp fun h e=>by subst e;exact absurd h (List.lt_irrefl _))).2 hm)
theorem zv5 (e:Xp):freeS ((namX e).fr [])=freeS (e.fr []):=Z07 (zuc (fun _ hs=>hs) 0)
theorem zzy {e:Xp} (h:(e.chk true 0 0).2=0):(namX e).namedB=true:=Xp.named _ e (Z0v e (Xp.chk_ok true e 0 0 h).1) 0
theorem Z3a {e:Xp} (h:e.any badK=false):(namX e).any badK=false:=Xp.any_nam _ badK (by decide) (by decide) e h 0
def z75 (e:Xp):Bool:=decide (e.size≤400) && decide (e.dep≤25)
theorem zrd {e:Xp} (h:(e.chk true 0 0).2=0) (hs:z75 e=true):((namX e).chk true 0 0).2=0:=by
 unfold z75 at hs
 simp only [zba,zdt] at hs
 have ho:=(Xp.chk_ok true e 0 0 h).1
 have hb:=z3q h
 have hn:=ztu e
 have h1:=Xp.size_nam e.note e 0
 have h2:=Xp.dep_nam e.note e ho 0
 have hmul:e.size * (e.note.length+1)≤400 * 40000:=Nat.mul_le_mul hs.1 (by omega)
 have h3:=(Xp.okF_nam e.note e ho 0).2.2 (by have:=(Xp.okF_nam e.note e ho 0).2.1;omega)
 have:=Xp.chk_of (namX e) h3 0 0 (by unfold namX;omega) (by unfold namX;omega)
 rw [this]
structure VX where
 kind:Int
 int:Int
 text:List UInt8
deriving DecidableEq,Inhabited
structure TX where
 kind:Int
 parts:List VX
deriving DecidableEq,Inhabited
abbrev HX:=List TX
def VX.pv (v:VX):List PV:=[.int .i64 v.kind,.int .i64 v.int,.str v.text]
instance encVal:Enc VX:=⟨VX.pv,3,fun _=>rfl⟩
theorem val_iff {H:PH} {v:VX} {cs:List Value}:CsR H v cs↔cs=[.int .i64 v.kind,.int .i64 v.int,txt v.text]∧InI v.kind∧InI v.int∧v.text.length≤maxLen:=by
 show PV.RepRow H (VX.pv v) cs↔_
 simp only [VX.pv,PV.RepRow,z4u,zeh]
 constructor
 ·rintro ⟨v1,_,rfl,⟨rfl,h1⟩,v2,_,rfl,⟨rfl,h2⟩,v3,_,rfl,⟨rfl,h3⟩,rfl⟩
  exact ⟨rfl,h1,h2,h3⟩
 ·rintro ⟨rfl,h1,h2,h3⟩
  exact ⟨_,_,rfl,⟨rfl,h1⟩,_,_,rfl,⟨rfl,h2⟩,_,_,rfl,⟨rfl,h3⟩,rfl⟩
structure TR where
 kind:Int
 b:Option Addr
 n:Nat
 c:Nat
def TR.sl (t:TR):Value:=.slice t.b t.n t.c
def TR.pv (t:TR):List PV:=[.int .i64 t.kind,.own t.b t.n t.c]
instance encThing:Enc TR:=⟨TR.pv,2,fun _=>rfl⟩
theorem thing_iff {H:PH} {t:TR} {cs:List Value}:CsR H t cs↔cs=[.int .i64 t.kind,t.sl]∧InI t.kind:=by
 show PV.RepRow H (TR.pv t) cs↔_
 simp only [TR.pv,PV.RepRow,z4u,PV.Rep]
 constructor
 ·rintro ⟨v1,_,rfl,⟨rfl,h1⟩,v2,_,rfl,rfl,rfl⟩
  exact ⟨rfl,h1⟩
 ·rintro ⟨rfl,h1⟩
  exact ⟨_,_,rfl,⟨rfl,h1⟩,_,_,rfl,rfl,rfl⟩
def isNum (n:Int):Bool:=decide (-1152921504606846976≤n∧n≤1152921504606846975)
def mayV (n:Nat) (v:VX):Bool:=
 if v.kind≠3∧v.text≠[] then false
 else if v.kind=0 then decide (v.int=0∨v.int=1)
 else if v.kind=1 then isNum v.int
 else if v.kind=2 then decide (0≤v.int∧v.int≤255)
 else if v.kind=3 then decide (v.int=0) && z0p v.text
 else if v.kind=4∨v.kind=5∨v.kind=6∨v.kind=7 then decide (v.int=0)
 else if v.kind=8 then decide (0≤v.int∧v.int < (n:Int))
 else false
def zij:VX:=⟨0,0,[]⟩
def z0g (b:Bool):VX:=⟨0,if b then 1 else 0,[]⟩
def vNum (n:Int):VX:=⟨1,n,[]⟩
def vVoid:VX:=⟨5,0,[]⟩
def addX (h:HX) (kind:Int) (parts:List VX):HX×VX:=(h++[⟨kind,parts⟩],⟨8,h.length,[]⟩)
def z0s (h:HX) (v:VX):Int:=if v.kind≠8 then -1 else (h.getD v.int.toNat default).kind
def z2t (op:Nat) (x y:Int):VX×Int:=
 let told (n:Int):VX×Int:=if isNum n then (vNum n,0) else (⟨0,0,[]⟩,1)
 match op with
 | 0=>told (x+y)
 | 1=>told (x - y)
 | 2=>told (x * y)
 | 3=>if y=0 then (⟨0,0,[]⟩,2) else told (x.tdiv y)
 | _=>if y=0 then (⟨0,0,[]⟩,2) else told (x.tmod y)
def rowsX:List (List UInt8×List Int):=[([43],[1,1]),
 ([45],[1,1]),
 ([42],[1,1]),
 ([113,117,111,116,105,101,110,116],[1,1]),
 ([114,101,109,97,105,110,100,101,114],[1,1]),
 ([60],[1,1]),
 ([61],[1,1]),
 ([101,113,63],[-1,-1]),
 ([110,117,108,108,63],[-1]),
 ([115,121,109,98,111,108,63],[-1]),
 ([99,104,97,114,63],[-1]),
 ([105,110,116,101,103,101,114,63],[-1]),
 ([98,111,111,108,101,97,110,63],[-1]),
 ([101,111,102,45,111,98,106,101,99,116,63],[-1]),
 ([112,97,105,114,63],[-1]),
 ([118,101,99,116,111,114,63],[-1]),
 ([115,116,114,105,110,103,63],[-1]),
 ([112,114,111,99,101,100,117,114,101,63],[-1]),
 ([99,111,110,115],[-1,-1]),
 ([99,97,114],[10]),
 ([99,100,114],[10]),
 ([115,101,116,45,99,97,114,33],[10,-1]),
 ([115,101,116,45,99,100,114,33],[10,-1]),
 ([109,97,107,101,45,118,101,99,116,111,114],[1,-1]),
 ([109,97,107,101,45,115,116,114,105,110,103],[1,2]),
 ([118,101,99,116,111,114,45,108,101,110,103,116,104],[11]),
 ([115,116,114,105,110,103,45,108,101,110,103,116,104],[12]),
 ([118,101,99,116,111,114,45,114,101,102],[11,1]),
 ([115,116,114,105,110,103,45,114,101,102],[12,1]),
 ([118,101,99,116,111,114,45,115,101,116,33],[11,1,-1]),
 ([115,116,114,105,110,103,45,115,101,116,33],[12,1,2]),
 ([99,104,97,114,45,62,105,110,116,101,103,101,114],[2]),
 ([105,110,116,101,103,101,114,45,62,99,104,97,114],[1]),
 ([37,98,111,120],[-1]),
 ([37,117,110,98,111,120],[13]),
 ([37,115,101,116,45,98,111,120,33],[13,-1]),
 ([118,111,105,100],[]),
 ([37,117,110,115,101,116],[])]
def kOk (h:HX) (k:Int) (v:VX):Bool:=if 10≤k then decide (z0s h v=k - 10) else if 0≤k then decide (v.kind=k) else true
def vNone:VX:=⟨0,0,[]⟩
def getX (h:HX) (v:VX) (i:Int):VX×Int:=
 let l:=(h.getD v.int.toNat default).parts
 if i < 0∨(l.length:Int)≤i then (vNone,83) else (l.getD i.toNat default,0)
def putX (h:HX) (v:VX) (i:Int) (x:VX):HX×VX×Int:=
 let t:=h.getD v.int.toNat default
 if i < 0∨(t.parts.length:Int)≤i then (h,vNone,83) else (h.set v.int.toNat ⟨t.kind,t.parts.set i.toNat x⟩,vVoid,0)
def z1f (h:HX) (kind n:Int) (v:VX):HX×VX×Int:=
 if n < 0∨1000 < n then (h,vNone,83) else ((addX h kind (List.replicate n.toNat v)).1,(addX h kind (List.replicate n.toNat v)).2,0)
def z0f (h:HX) (op:Nat) (a b:VX):HX×VX×Int:=
 let r:=z2t op a.int b.int
 if r.2=1 then (h,vNone,81) else if r.2=2 then (h,vNone,82) else (h,r.1,0)
def actX (h:HX) (s:List UInt8) (args:List VX):HX×VX×Int:=
 let a:=args.getD 0 vNone
 let b:=args.getD 1 vNone
 let c:=args.getD 2 vNone
 let told (v:VX):HX×VX×Int:=(h,v,0)
 if s=[43] then z0f h 0 a b
 else if s=[45] then z0f h 1 a b
 else if s=[42] then z0f h 2 a b
 else if s=[113,117,111,116,105,101,110,116] then z0f h 3 a b
 else if s=[114,101,109,97,105,110,100,101,114] then z0f h 4 a b
 else if s=[60] then told (z0g (decide (a.int < b.int)))
 else if s=[61]∨s=[101,113,63] then told (z0g (decide (a=b)))
 else if s=[110,117,108,108,63] then told (z0g (decide (a.kind=4)))
 else if s=[115,121,109,98,111,108,63] then told (z0g (decide (a.kind=3)))
 else if s=[99,104,97,114,63] then told (z0g (decide (a.kind=2)))
 else if s=[105,110,116,101,103,101,114,63] then told (z0g (decide (a.kind=1)))
 else if s=[98,111,111,108,101,97,110,63] then told (z0g (decide (a.kind=0)))
 else if s=[101,111,102,45,111,98,106,101,99,116,63] then told (z0g (decide (a.kind=6)))
 else if s=[112,97,105,114,63] then told (z0g (decide (z0s h a=0)))
 else if s=[118,101,99,116,111,114,63] then told (z0g (decide (z0s h a=1)))
 else if s=[115,116,114,105,110,103,63] then told (z0g (decide (z0s h a=2)))
 else if s=[112,114,111,99,101,100,117,114,101,63] then told (z0g (decide (z0s h a=4)))
 else if s=[99,111,110,115] then ((addX h 0 args).1,(addX h 0 args).2,0)
 else if s=[37,98,111,120] then ((addX h 3 args).1,(addX h 3 args).2,0)
 else if s=[109,97,107,101,45,118,101,99,116,111,114] then z1f h 1 a.int b
 else if s=[109,97,107,101,45,115,116,114,105,110,103] then z1f h 2 a.int b
 else if s=[118,101,99,116,111,114,45,108,101,110,103,116,104]∨s=[115,116,114,105,110,103,45,108,101,110,103,116,104] then told (vNum (h.getD a.int.toNat default).parts.length)
 else if s=[99,97,114]∨s=[37,117,110,98,111,120] then (h,getX h a 0)
 else if s=[99,100,114] then (h,getX h a 1)
 else if s=[118,101,99,116,111,114,45,114,101,102]∨s=[115,116,114,105,110,103,45,114,101,102] then (h,getX h a b.int)
 else if s=[115,101,116,45,99,97,114,33]∨s=[37,115,101,116,45,98,111,120,33] then putX h a 0 b
 else if s=[115,101,116,45,99,100,114,33] then putX h a 1 b
 else if s=[118,101,99,116,111,114,45,115,101,116,33]∨s=[115,116,114,105,110,103,45,115,101,116,33] then putX h a b.int c
 else if s=[99,104,97,114,45,62,105,110,116,101,103,101,114] then told (vNum a.int)
 else if s=[105,110,116,101,103,101,114,45,62,99,104,97,114] then if a.int < 0∨255 < a.int then (h,vNone,83) else told ⟨2,a.int,[]⟩
 else if s=[37,117,110,115,101,116] then told ⟨7,0,[]⟩
 else told vVoid
def doX (h:HX) (s:List UInt8) (args:List VX):HX×VX×Int:=
 match rowsX.find? fun r=>decide (r.1=s) with
 | none=>(h,vNone,1)
 | some r=>
  if r.2.length≠args.length then (h,vNone,1)
  else if !args.all (mayV h.length) then (h,vNone,1)
  else if !((r.2.zip args).all fun x=>kOk h x.1 x.2) then (h,vNone,80)
  else actX h s args
structure HeapOk (h:HX):Prop where
 may:∀t∈h,∀v∈t.parts,mayV h.length v=true
 kinds:∀t∈h,0≤t.kind∧t.kind≤4
 pair:∀t∈h,t.kind=0→t.parts.length=2
 box:∀t∈h,t.kind=3→t.parts.length=1
 str:∀t∈h,t.kind=2→∀v∈t.parts,v.kind=2
 few:∀t∈h,(t.parts.length:Int)≤1000
theorem zt0 {n m:Nat} (hnm:n≤m) {v:VX} (h:mayV n v=true):mayV m v=true:=by
 unfold mayV at *
 split at h
 ·cases h
 ·rename_i h0
  rw [if_neg h0]
  split at h
  ·rename_i h1;rw [if_pos h1];exact h
  ·rename_i h1;rw [if_neg h1]
   split at h
   ·rename_i h2;rw [if_pos h2];exact h
   ·rename_i h2;rw [if_neg h2]
    split at h
    ·rename_i h3;rw [if_pos h3];exact h
    ·rename_i h3;rw [if_neg h3]
     split at h
     ·rename_i h4;rw [if_pos h4];exact h
     ·rename_i h4;rw [if_neg h4]
      split at h
      ·rename_i h5;rw [if_pos h5];exact h
      ·rename_i h5;rw [if_neg h5]
       split at h
       ·rename_i h6
        rw [if_pos h6]
        have:=of_decide_eq_true h
        exact decide_eq_true (by omega)
       ·cases h
theorem zxb {h:HX} (ok:HeapOk h) {kind:Int} {parts:List VX} (hk:0≤kind∧kind≤4) (hp:∀v∈parts,mayV h.length v=true) (h0:kind=0→parts.length=2) (h3:kind=3→parts.length=1) (h2:kind=2→∀v∈parts,v.kind=2) (hf:(parts.length:Int)≤1000):HeapOk (addX h kind parts).1∧mayV (addX h kind parts).1.length (addX h kind parts).2=true:=by
 have hl:(addX h kind parts).1.length=h.length+1:=by simp [addX]
 have hmem:∀t,t∈(addX h kind parts).1→t∈h∨t=⟨kind,parts⟩:=fun t ht=>by simpa [addX] using ht
 refine ⟨⟨fun t ht v hv=>?_,fun t ht=>?_,fun t ht e=>?_,fun t ht e=>?_,fun t ht e=>?_,fun t ht=>?_⟩,?_⟩
 ·rw [hl]
  rcases hmem t ht with h | rfl
  ·exact zt0 (Nat.le_succ _) (ok.may t h v hv)
  ·exact zt0 (Nat.le_succ _) (hp v hv)
 ·rcases hmem t ht with h | rfl
  ·exact ok.kinds t h
  ·exact hk
 ·rcases hmem t ht with h | rfl
  ·exact ok.pair t h e
  ·exact h0 e
 ·rcases hmem t ht with h | rfl
  ·exact ok.box t h e
  ·exact h3 e
 ·rcases hmem t ht with h | rfl
  ·exact ok.str t h e
  ·exact h2 e
 ·rcases hmem t ht with h | rfl
  ·exact ok.few t h
  ·exact hf
 ·rw [hl]
  show mayV (h.length+1) ⟨8,(h.length:Int),[]⟩=true
  unfold mayV
  simp
  omega
def GoodX (h:HX) (x:HX×VX×Int):Prop:=HeapOk x.1∧h.length≤x.1.length∧mayV x.1.length x.2.1=true
theorem z38 (n:Nat):mayV n vNone=true:=by simp [mayV,vNone]
theorem ze2 (n:Nat):mayV n vVoid=true:=by simp [mayV,vVoid]
theorem z1z (n:Nat) (b:Bool):mayV n (z0g b)=true:=by cases b<;>simp [mayV,z0g]
theorem zly {n:Nat} {i:Int} (h:isNum i=true):mayV n (vNum i)=true:=by simp [mayV,vNum,h]
theorem z0k {h:HX} (ok:HeapOk h) {v:VX} (hv:mayV h.length v=true) (e:Int):GoodX h (h,v,e):=⟨ok,Nat.le_refl _,hv⟩
theorem zo5 {h:HX} (ok:HeapOk h) {kind:Int} {parts:List VX} (hk:0≤kind∧kind≤4) (hp:∀v∈parts,mayV h.length v=true) (h0:kind=0→parts.length=2) (h3:kind=3→parts.length=1) (h2:kind=2→∀v∈parts,v.kind=2) (hf:(parts.length:Int)≤1000) (e:Int):GoodX h ((addX h kind parts).1,(addX h kind parts).2,e):=by
 obtain ⟨h4,h5⟩:=zxb ok hk hp h0 h3 h2 hf
 exact ⟨h4,by simp [addX],h5⟩
theorem zer {h:HX} (ok:HeapOk h) (v:VX) (i:Int):GoodX h (h,getX h v i):=by
 unfold getX
 simp only
 split
 ·exact z0k ok (z38 _) _
 ·rename_i hi
  refine z0k ok ?_ _
  have hlt:i.toNat < (h.getD v.int.toNat default).parts.length:=by omega
  rw [zgd,zge hlt]
  have hin:h.getD v.int.toNat default∈h:=by
   rw [zgd]
   cases hx:h[v.int.toNat]? with
   | none=>
    rw [zgd,hx] at hlt
    exact absurd hlt (by simp [show (default:TX).parts=[] from rfl])
   | some t=>exact List.mem_of_getElem? hx
  exact ok.may _ hin _ (List.getElem_mem hlt)
theorem zmg {h:HX} (ok:HeapOk h) {kind n:Int} {v:VX} (hk:kind=1∨kind=2) (hv:mayV h.length v=true) (h2:kind=2→v.kind=2):GoodX h (z1f h kind n v):=by
 unfold z1f
 split
 ·exact z0k ok (z38 _) _
 ·refine zo5 ok (by omega) (fun x hx=>by rw [(List.mem_replicate.1 hx).2];exact hv) (by omega) (by omega) (fun e x hx=>by rw [(List.mem_replicate.1 hx).2];exact h2 e) (by rw [List.length_replicate];omega) _
theorem zei {h:HX} (ok:HeapOk h) (v:VX) (i:Int) {x:VX} (hx:mayV h.length x=true) (h2:(h.getD v.int.toNat default).kind=2→x.kind=2):GoodX h (putX h v i x):=by
 unfold putX
 simp only
 split
 ·exact z0k ok (z38 _) _
 ·have hset:∀t∈h.set v.int.toNat ⟨(h.getD v.int.toNat default).kind,(h.getD v.int.toNat default).parts.set i.toNat x⟩,t∈h∨(t=⟨(h.getD v.int.toNat default).kind,(h.getD v.int.toNat default).parts.set i.toNat x⟩∧h.getD v.int.toNat default∈h):=fun t ht=>by
   obtain ⟨j,hj⟩:=List.getElem?_of_mem ht
   rw [List.getElem?_set] at hj
   split at hj
   ·split at hj
    ·rename_i _ hlt
     refine .inr ⟨(Option.some.inj hj).symm,?_⟩
     rw [zgd,zge hlt]
     exact List.getElem_mem hlt
    ·cases hj
   ·exact .inl (List.mem_of_getElem? hj)
  refine ⟨⟨fun t ht u hu=>?_,fun t ht=>?_,fun t ht e=>?_,fun t ht e=>?_,fun t ht e u hu=>?_,fun t ht=>?_⟩,by simp,ze2 _⟩
  ·simp only [List.length_set]
   rcases hset t ht with h | ⟨rfl,hin⟩
   ·exact ok.may t h u hu
   ·rcases List.mem_or_eq_of_mem_set hu with h | rfl
    ·exact ok.may _ hin u h
    ·exact hx
  ·rcases hset t ht with h' | ⟨rfl,hin⟩
   ·exact ok.kinds t h'
   ·exact ok.kinds (h.getD v.int.toNat default) hin
  ·rcases hset t ht with h | ⟨rfl,hin⟩
   ·exact ok.pair t h e
   ·simpa using ok.pair _ hin e
  ·rcases hset t ht with h | ⟨rfl,hin⟩
   ·exact ok.box t h e
   ·simpa using ok.box _ hin e
  ·rcases hset t ht with h | ⟨rfl,hin⟩
   ·exact ok.str t h e u hu
   ·rcases List.mem_or_eq_of_mem_set hu with h | rfl
    ·exact ok.str _ hin e u h
    ·exact h2 e
  ·rcases hset t ht with h | ⟨rfl,hin⟩
   ·exact ok.few t h
   ·simpa using ok.few _ hin
theorem z52 {h:HX} (ok:HeapOk h) (op:Nat) (a b:VX):GoodX h (z0f h op a b):=by
 have key:∀n:Int,GoodX h (let r:=(if isNum n then (vNum n,(0:Int)) else (⟨0,0,[]⟩,1));if r.2=1 then (h,vNone,81) else if r.2=2 then (h,vNone,82) else (h,r.1,0)):=fun n=>by
  by_cases hn:isNum n=true
  ·simp only [hn,if_true]
   exact z0k ok (zly hn) _
  ·simp only [hn,if_false]
   exact z0k ok (z38 _) _
 unfold z0f z2t
 match op with
 | 0=>exact key _
 | 1=>exact key _
 | 2=>exact key _
 | 3=>
  simp only
  split
  ·exact z0k ok (z38 _) _
  ·exact key _
 | n+4=>
  simp only
  split
  ·exact z0k ok (z38 _) _
  ·exact key _
theorem Z3g {h:HX} (ok:HeapOk h) {s:List UInt8} {ks:List Int} (hr:(s,ks)∈rowsX) {args:List VX} (hl:ks.length=args.length) (hm:∀v∈args,mayV h.length v=true) (hk:∀k v,(k,v)∈ks.zip args→kOk h k v=true):GoodX h (actX h s args):=by
 have hlen:∀a:VX,isNum ((h.getD a.int.toNat default).parts.length:Int)=true:=fun a=>by
  have:((h.getD a.int.toNat default).parts.length:Int)≤1000:=by
   rw [zgd]
   cases hx:h[a.int.toNat]? with
   | none=>exact (by decide:((default:TX).parts.length:Int)≤1000)
   | some t=>exact ok.few t (List.mem_of_getElem? hx)
  exact decide_eq_true (by omega)
 have hnot:∀{P:Prop} (a:VX) (k:Int),k=10∨k=11∨k=13→kOk h k a=true→(h.getD a.int.toNat default).kind=2→P:=fun {P} a k hk h1 h2=>by
  unfold kOk z0s at h1
  rw [if_pos (by omega)] at h1
  have h3:=of_decide_eq_true h1
  split at h3
  ·exact (show False by omega).elim
  ·exact (show False by omega).elim
 have hchr:∀a:VX,kOk h 2 a=true→mayV h.length a=true→isNum a.int=true:=fun a h1 h2=>by
  have h3:a.kind=2:=by simpa [kOk] using h1
  unfold mayV at h2
  rw [h3] at h2
  split at h2
  ·cases h2
  ·simp at h2
   exact decide_eq_true (by omega)
 have one:∀{l:List VX},1=l.length→∃a,l=[a]:=fun {l} h=>by
  match l,h with
  | [a],_=>exact ⟨a,rfl⟩
 have two:∀{l:List VX},2=l.length→∃a b,l=[a,b]:=fun {l} h=>by
  match l,h with
  | [a,b],_=>exact ⟨a,b,rfl⟩
 have three:∀{l:List VX},3=l.length→∃a b c,l=[a,b,c]:=fun {l} h=>by
  match l,h with
  | [a,b,c],_=>exact ⟨a,b,c,rfl⟩
 simp only [rowsX,List.mem_cons,Prod.mk.injEq,List.not_mem_nil,or_false] at hr
 rcases hr with ⟨rfl,rfl⟩ | ⟨rfl,rfl⟩ | ⟨rfl,rfl⟩ | ⟨rfl,rfl⟩ | ⟨rfl,rfl⟩ | ⟨rfl,rfl⟩ | ⟨rfl,rfl⟩ | ⟨rfl,rfl⟩ | ⟨rfl,rfl⟩ | ⟨rfl,rfl⟩ | ⟨rfl,rfl⟩ | ⟨rfl,rfl⟩ | ⟨rfl,rfl⟩ | ⟨rfl,rfl⟩ | ⟨rfl,rfl⟩ | ⟨rfl,rfl⟩ | ⟨rfl,rfl⟩ | ⟨rfl,rfl⟩ | ⟨rfl,rfl⟩ | ⟨rfl,rfl⟩ | ⟨rfl,rfl⟩ | ⟨rfl,rfl⟩ | ⟨rfl,rfl⟩ | ⟨rfl,rfl⟩ | ⟨rfl,rfl⟩ | ⟨rfl,rfl⟩ | ⟨rfl,rfl⟩ | ⟨rfl,rfl⟩ | ⟨rfl,rfl⟩ | ⟨rfl,rfl⟩ | ⟨rfl,rfl⟩ | ⟨rfl,rfl⟩ | ⟨rfl,rfl⟩ | ⟨rfl,rfl⟩ | ⟨rfl,rfl⟩ | ⟨rfl,rfl⟩ | ⟨rfl,rfl⟩ | ⟨rfl,rfl⟩
 ·obtain ⟨a,b,rfl⟩:=two hl
  rw [show actX h [43] [a,b]=z0f h 0 a b from by kernel_rfl]
  exact z52 ok 0 a b
 ·obtain ⟨a,b,rfl⟩:=two hl
  rw [show actX h [45] [a,b]=z0f h 1 a b from by kernel_rfl]
  exact z52 ok 1 a b
 ·obtain ⟨a,b,rfl⟩:=two hl
  rw [show actX h [42] [a,b]=z0f h 2 a b from by kernel_rfl]
  exact z52 ok 2 a b
 ·obtain ⟨a,b,rfl⟩:=two hl
  rw [show actX h [113,117,111,116,105,101,110,116] [a,b]=z0f h 3 a b from by kernel_rfl]
  exact z52 ok 3 a b
 ·obtain ⟨a,b,rfl⟩:=two hl
  rw [show actX h [114,101,109,97,105,110,100,101,114] [a,b]=z0f h 4 a b from by kernel_rfl]
  exact z52 ok 4 a b
 ·obtain ⟨a,b,rfl⟩:=two hl
  rw [show actX h [60] [a,b]=(h,z0g (decide (a.int < b.int)),0) from by kernel_rfl]
  exact z0k ok (z1z _ _) _
 ·obtain ⟨a,b,rfl⟩:=two hl
  rw [show actX h [61] [a,b]=(h,z0g (decide (a=b)),0) from by kernel_rfl]
  exact z0k ok (z1z _ _) _
 ·obtain ⟨a,b,rfl⟩:=two hl
  rw [show actX h [101,113,63] [a,b]=(h,z0g (decide (a=b)),0) from by kernel_rfl]
  exact z0k ok (z1z _ _) _
 ·obtain ⟨a,rfl⟩:=one hl
  rw [show actX h [110,117,108,108,63] [a]=(h,z0g (decide (a.kind=4)),0) from by kernel_rfl]
  exact z0k ok (z1z _ _) _
 ·obtain ⟨a,rfl⟩:=one hl
  rw [show actX h [115,121,109,98,111,108,63] [a]=(h,z0g (decide (a.kind=3)),0) from by kernel_rfl]
  exact z0k ok (z1z _ _) _
 ·obtain ⟨a,rfl⟩:=one hl
  rw [show actX h [99,104,97,114,63] [a]=(h,z0g (decide (a.kind=2)),0) from by kernel_rfl]
  exact z0k ok (z1z _ _) _
 ·obtain ⟨a,rfl⟩:=one hl
  rw [show actX h [105,110,116,101,103,101,114,63] [a]=(h,z0g (decide (a.kind=1)),0) from by kernel_rfl]
  exact z0k ok (z1z _ _) _
 ·obtain ⟨a,rfl⟩:=one hl
  rw [show actX h [98,111,111,108,101,97,110,63] [a]=(h,z0g (decide (a.kind=0)),0) from by kernel_rfl]
  exact z0k ok (z1z _ _) _
 ·obtain ⟨a,rfl⟩:=one hl
  rw [show actX h [101,111,102,45,111,98,106,101,99,116,63] [a]=(h,z0g (decide (a.kind=6)),0) from by kernel_rfl]
  exact z0k ok (z1z _ _) _
 ·obtain ⟨a,rfl⟩:=one hl
  rw [show actX h [112,97,105,114,63] [a]=(h,z0g (decide (z0s h a=0)),0) from by kernel_rfl]
  exact z0k ok (z1z _ _) _
 ·obtain ⟨a,rfl⟩:=one hl
  rw [show actX h [118,101,99,116,111,114,63] [a]=(h,z0g (decide (z0s h a=1)),0) from by kernel_rfl]
  exact z0k ok (z1z _ _) _
 ·obtain ⟨a,rfl⟩:=one hl
  rw [show actX h [115,116,114,105,110,103,63] [a]=(h,z0g (decide (z0s h a=2)),0) from by kernel_rfl]
  exact z0k ok (z1z _ _) _
 ·obtain ⟨a,rfl⟩:=one hl
  rw [show actX h [112,114,111,99,101,100,117,114,101,63] [a]=(h,z0g (decide (z0s h a=4)),0) from by kernel_rfl]
  exact z0k ok (z1z _ _) _
 ·obtain ⟨a,b,rfl⟩:=two hl
  rw [show actX h [99,111,110,115] [a,b]=((addX h 0 [a,b]).1,(addX h 0 [a,b]).2,0) from by kernel_rfl]
  exact zo5 ok (by omega) hm (fun _=>rfl) (by omega) (by omega) (by simp) _
 ·obtain ⟨a,rfl⟩:=one hl
  rw [show actX h [99,97,114] [a]=(h,getX h a 0) from by kernel_rfl]
  exact zer ok a 0
 ·obtain ⟨a,rfl⟩:=one hl
  rw [show actX h [99,100,114] [a]=(h,getX h a 1) from by kernel_rfl]
  exact zer ok a 1
 ·obtain ⟨a,b,rfl⟩:=two hl
  rw [show actX h [115,101,116,45,99,97,114,33] [a,b]=putX h a 0 b from by kernel_rfl]
  exact zei ok a 0 (hm b (by simp)) (hnot a 10 (by omega) (hk 10 a (by simp)))
 ·obtain ⟨a,b,rfl⟩:=two hl
  rw [show actX h [115,101,116,45,99,100,114,33] [a,b]=putX h a 1 b from by kernel_rfl]
  exact zei ok a 1 (hm b (by simp)) (hnot a 10 (by omega) (hk 10 a (by simp)))
 ·obtain ⟨a,b,rfl⟩:=two hl
  rw [show actX h [109,97,107,101,45,118,101,99,116,111,114] [a,b]=z1f h 1 a.int b from by kernel_rfl]
  exact zmg ok (.inl rfl) (hm b (by simp)) (by omega)
 ·obtain ⟨a,b,rfl⟩:=two hl
  rw [show actX h [109,97,107,101,45,115,116,114,105,110,103] [a,b]=z1f h 2 a.int b from by kernel_rfl]
  exact zmg ok (.inr rfl) (hm b (by simp)) (fun _=>by simpa [kOk] using (hk 2 b (by simp)))
 ·obtain ⟨a,rfl⟩:=one hl
  rw [show actX h [118,101,99,116,111,114,45,108,101,110,103,116,104] [a]=(h,vNum (h.getD a.int.toNat default).parts.length,0) from by kernel_rfl]
  exact z0k ok (zly (hlen a)) _
 ·obtain ⟨a,rfl⟩:=one hl
  rw [show actX h [115,116,114,105,110,103,45,108,101,110,103,116,104] [a]=(h,vNum (h.getD a.int.toNat default).parts.length,0) from by kernel_rfl]
  exact z0k ok (zly (hlen a)) _
 ·obtain ⟨a,b,rfl⟩:=two hl
  rw [show actX h [118,101,99,116,111,114,45,114,101,102] [a,b]=(h,getX h a b.int) from by kernel_rfl]
  exact zer ok a b.int
 ·obtain ⟨a,b,rfl⟩:=two hl
  rw [show actX h [115,116,114,105,110,103,45,114,101,102] [a,b]=(h,getX h a b.int) from by kernel_rfl]
  exact zer ok a b.int
 ·obtain ⟨a,b,c,rfl⟩:=three hl
  rw [show actX h [118,101,99,116,111,114,45,115,101,116,33] [a,b,c]=putX h a b.int c from by kernel_rfl]
  exact zei ok a b.int (hm c (by simp)) (hnot a 11 (by omega) (hk 11 a (by simp)))
 ·obtain ⟨a,b,c,rfl⟩:=three hl
  rw [show actX h [115,116,114,105,110,103,45,115,101,116,33] [a,b,c]=putX h a b.int c from by kernel_rfl]
  exact zei ok a b.int (hm c (by simp)) (fun _=>by simpa [kOk] using (hk 2 c (by simp)))
 ·obtain ⟨a,rfl⟩:=one hl
  rw [show actX h [99,104,97,114,45,62,105,110,116,101,103,101,114] [a]=(h,vNum a.int,0) from by kernel_rfl]
  exact z0k ok (zly (hchr a (hk 2 a (by simp)) (hm a (by simp)))) _
 ·obtain ⟨a,rfl⟩:=one hl
  rw [show actX h [105,110,116,101,103,101,114,45,62,99,104,97,114] [a]=(if a.int < 0∨255 < a.int then (h,vNone,83) else (h,⟨2,a.int,[]⟩,0)) from by kernel_rfl]
  split
  ·exact z0k ok (z38 _) _
  ·exact z0k ok (by simp [mayV];omega) _
 ·obtain ⟨a,rfl⟩:=one hl
  rw [show actX h [37,98,111,120] [a]=((addX h 3 [a]).1,(addX h 3 [a]).2,0) from by kernel_rfl]
  exact zo5 ok (by omega) hm (by omega) (fun _=>rfl) (by omega) (by simp) _
 ·obtain ⟨a,rfl⟩:=one hl
  rw [show actX h [37,117,110,98,111,120] [a]=(h,getX h a 0) from by kernel_rfl]
  exact zer ok a 0
 ·obtain ⟨a,b,rfl⟩:=two hl
  rw [show actX h [37,115,101,116,45,98,111,120,33] [a,b]=putX h a 0 b from by kernel_rfl]
  exact zei ok a 0 (hm b (by simp)) (hnot a 13 (by omega) (hk 13 a (by simp)))
 ·obtain rfl:args=[]:=List.length_eq_zero_iff.1 hl.symm
  rw [show actX h [118,111,105,100] []=(h,vVoid,0) from by kernel_rfl]
  exact z0k ok (ze2 _) _
 ·obtain rfl:args=[]:=List.length_eq_zero_iff.1 hl.symm
  rw [show actX h [37,117,110,115,101,116] []=(h,⟨7,0,[]⟩,0) from by kernel_rfl]
  exact z0k ok (by simp [mayV]) _
theorem Z0h {h:HX} (ok:HeapOk h) (s:List UInt8) (args:List VX):GoodX h (doX h s args):=by
 unfold doX
 split
 ·exact z0k ok (z38 _) _
 ·rename_i r hr
  split
  ·exact z0k ok (z38 _) _
  ·rename_i hl
   split
   ·exact z0k ok (z38 _) _
   ·rename_i hm
    split
    ·exact z0k ok (z38 _) _
    ·rename_i hk
     have hs:r.1=s:=by simpa using List.find?_some hr
     have hmem:(s,r.2)∈rowsX:=hs ▸ List.mem_of_find?_eq_some hr
     have hm':args.all (mayV h.length)=true:=by simpa using hm
     have hk':((r.2.zip args).all fun x=>kOk h x.1 x.2)=true:=by simpa using hk
     exact Z3g ok hmem (Decidable.not_not.1 hl) (List.all_eq_true.1 hm') fun k v hkv=>List.all_eq_true.1 hk' (k,v) hkv
theorem Z1z (h:HX) (s:List UInt8) (args:List VX):(actX h s args).1.length≤h.length+1:=by
 have a1:∀k l,(addX h k l).1.length≤h.length+1:=fun k l=>by simp [addX]
 have a2:∀op a b,(z0f h op a b).1.length≤h.length+1:=fun op a b=>by
  unfold z0f;simp only
  split
  ·simp
  ·split<;>simp
 have a3:∀k i v,(z1f h k i v).1.length≤h.length+1:=fun k i v=>by
  unfold z1f
  split
  ·simp
  ·exact a1 _ _
 have a4:∀v i x,(putX h v i x).1.length≤h.length+1:=fun v i x=>by
  unfold putX;simp only
  split
  ·simp
  ·simp
 have a5:h.length≤h.length+1:=Nat.le_succ _
 have key:∀(p:Prop) [Decidable p] (x y:HX×VX×Int),x.1.length≤h.length+1→y.1.length≤h.length+1→(if p then x else y).1.length≤h.length+1:=fun p _ x y hx hy=>by
  by_cases hp:p
  ·rw [if_pos hp];exact hx
  ·rw [if_neg hp];exact hy
 unfold actX
 simp only
 repeat' (first | exact a5 | exact a2 _ _ _ | exact a1 _ _ | exact a3 _ _ _ | exact a4 _ _ _ | apply key)
theorem Z3w (h:HX) (s:List UInt8) (args:List VX):(doX h s args).1.length≤h.length+1:=by
 unfold doX
 repeat' split
 all_goals first | exact Z1z _ _ _ | exact Nat.le_succ _
theorem evs:(∀E s,ev0 E s=ev E (fun _=>0) s)∧(∀E r i,ev E r (.atom i)=E.getD i (.bool false))∧(∀E r k n,ev E r (.int k n)=.int k n)∧(∀E r b,ev E r (.bool b)=.bool b)∧(∀E r l,ev E r (.str l)=.string ⟨l.toArray⟩)∧(∀E r c,ev E r (.nil c)=nilV c) ∧
  (∀E r f,ev E r (.fn f)=.func (.func f) #[] #[])∧(∀E r op k a b,ev E r (.ar op k a b)=.int k (arI op k (iOf (ev E r a)) (iOf (ev E r b))))∧(∀E r op a b,ev E r (.cmp op a b)=.bool (cmpI op (iOf (ev E r a)) (iOf (ev E r b)))) ∧
  (∀E r op a b,ev E r (.scmp op a b)=.bool (cmpS op (sOf (ev E r a)) (sOf (ev E r b))))∧(∀E r a b,ev E r (.beq a b)=.bool (bOf (ev E r a) == bOf (ev E r b)))∧(∀E r a,ev E r (.isnil a)=.bool (z5h (ev E r a)))∧(∀E r c a b,ev E r (.pick c a b)=if bOf (ev E r c) then ev E r a else ev E r b) ∧
  (∀E r a,ev E r (.not a)=.bool (!bOf (ev E r a)))∧(∀E r k a,ev E r (.conv k a)=.int k (k.wrap (iOf (ev E r a))))∧(∀E r a,ev E r (.len a)=.int .i64 (slLen (ev E r a)))∧(∀E r a,ev E r (.cap a)=.int .i64 (slCap (ev E r a)))∧(∀E r a,ev E r (.slen a)=.int .i64 (sOf (ev E r a)).size) ∧
  (∀E r p n,ev E r (.padd p n)=.pointer ((pOf (ev E r p)).map (·.add n)))∧(∀E r s i sz,ev E r (.elt s i sz)=eltV (ev E r s) (iOf (ev E r i)) sz)∧(∀E r s i,ev E r (.sidx s i)=.int .u8 (((sOf (ev E r s))[(iOf (ev E r i)).toNat]?).getD 0).toNat) ∧
  (∀E r s lo hi,ev E r (.ssub s lo hi)=.string ((sOf (ev E r s)).extract (iOf (ev E r lo)).toNat (iOf (ev E r hi)).toNat))∧(∀E r a b,ev E r (.cat a b)=.string (sOf (ev E r a)++sOf (ev E r b)))∧(∀E r s lo hi sz,ev E r (.sls s lo hi sz)=slsV (ev E r s) (iOf (ev E r lo)) (iOf (ev E r hi)) sz) ∧
  (∀E r s,evV E r (.sc s)=ev E r s)∧(∀E r cs,evV E r (.ag cs)=.agg (cs.map (ev E r)).toArray)∧(∀E r vs,evV E r (.tu vs)=.tuple (vs.map (partV E r)).toArray) ∧
  (∀(a:Value) (l m:List Value),a::l++m=a::(l++m))∧(∀l:List Value,[]++l=l)∧(∀(a d:Value) (l:List Value),(a::l).getD 0 d=a)∧(∀(a d:Value) (l:List Value) (n:Nat),(a::l).getD (n+1) d=l.getD n d) ∧
  (∀(α:Type) (f:α→Value) (a:α) (l:List α),(a::l).map f=f a::l.map f)∧(∀(α:Type) (f:α→Value),[].map f=[]) ∧
  (∀k n,iOf (.int k n)=n)∧(∀b,bOf (.bool b)=b)∧(∀s,sOf (.string s)=s)∧(∀p,pOf (.pointer p)=p)∧(∀b n c,slLen (.slice b n c)=n)∧(∀b n c,z04 (.slice b n c)=b) ∧
  (∀x y,cmpI .eql x y=(x == y))∧(∀x y,cmpI .neq x y=(x != y))∧(∀x y,cmpI .lss x y=decide (x < y))∧(∀x y,cmpI .leq x y=decide (x≤y))∧(∀x y,cmpI .gtr x y=decide (x > y))∧(∀x y,cmpI .geq x y=decide (x ≥ y)) ∧
  (∀k x y,arI .add k x y=k.wrap (x+y))∧(∀k x y,arI .sub k x y=k.wrap (x - y))∧(∀k x y,arI .mul k x y=k.wrap (x * y))∧(∀k x y,arI .quo k x y=k.wrap (x.tdiv y))∧(∀k x y,arI .rem k x y=x.tmod y) ∧
  (∀(p:Bool) (a b:Bool),(if p=true then Value.bool a else Value.bool b)=Value.bool (if p=true then a else b)):=
 ⟨fun _ _=>rfl,fun _ _ _=>rfl,fun _ _ _ _=>rfl,fun _ _ _=>rfl,fun _ _ _=>rfl,fun _ _ _=>rfl,fun _ _ _=>rfl,fun _ _ _ _ _ _=>rfl,fun _ _ _ _ _=>rfl,fun _ _ _ _ _=>rfl,fun _ _ _ _=>rfl,fun _ _ _=>rfl,fun _ _ _ _ _=>rfl,fun _ _ _=>rfl,fun _ _ _ _=>rfl,fun _ _ _=>rfl,fun _ _ _=>rfl,fun _ _ _=>rfl,fun _ _ _ _=>rfl,fun _ _ _ _ _=>rfl,fun _ _ _ _=>rfl,fun _ _ _ _ _=>rfl,fun _ _ _ _=>rfl,fun _ _ _ _ _ _=>rfl,
  fun _ _ _=>rfl,fun _ _ _=>rfl,fun _ _ _=>rfl,fun _ _ _=>rfl,fun _=>rfl,fun _ _ _=>rfl,fun _ _ _ _=>rfl,fun _ _ _ _=>rfl,fun _ _=>rfl,fun _ _=>rfl,fun _=>rfl,fun _=>rfl,fun _=>rfl,fun _ _ _=>rfl,fun _ _ _=>rfl,
  fun _ _=>rfl,fun _ _=>rfl,fun _ _=>rfl,fun _ _=>rfl,fun _ _=>rfl,fun _ _=>rfl,fun _ _ _=>rfl,fun _ _ _=>rfl,fun _ _ _=>rfl,fun _ _ _=>rfl,fun _ _ _=>rfl,fun p a b=>by cases p<;>rfl⟩
theorem evb:(∀a b:Int,(a == b)=decide (a=b))∧(∀a b:Int,(a != b)=decide (a≠b))∧(∀a b:Bool,(if a=true then b else false)=(a && b))∧(∀a b:Bool,(if a=true then true else b)=(a || b)):=
 ⟨fun a b=>by by_cases h:a=b<;>simp [h],fun a b=>by by_cases h:a=b<;>simp [h],fun a b=>by cases a<;>rfl,fun a b=>by cases a<;>rfl⟩
theorem cns:(∀(α:Type) (a:α) (l m:List α),a::l++m=a::(l++m))∧(∀(α:Type) (l:List α),[]++l=l):=⟨fun _ _ _ _=>rfl,fun _ _=>rfl⟩
abbrev valVs (v:VX):List Value:=[.int .i64 v.kind,.int .i64 v.int,txt v.text]
abbrev valV (v:VX):Value:=.agg (valVs v).toArray
theorem isNum_iff {n:Int}:isNum n=true↔-1152921504606846976≤n∧n≤1152921504606846975:=by unfold isNum;rw [zdt]
theorem Z24 (n:Int) (H:PH):Gives Tryz.prog zki [.int .i64 n] H (.bool (isNum n)):=by
 refine zia [.int .i64 n] (by kernel_rfl) (by kernel_rfl) ?_
 refine ⟨?_,PH.le_refl _⟩
 simp only [evs,evb,isNum,Bool.decide_and,ge_iff_le]
theorem tm8 (n:Int):(8 * n).tmod 8=0:=by rw [Int.mul_tmod_right]
theorem td8 (n:Int):(8 * n).tdiv 8=n:=by rw [Int.mul_tdiv_cancel_left _ (by decide)]
theorem zp0 (n:Int) (hn:isNum n=true) (H:PH):Gives Tryz.prog zjr [.int .i64 (8 * n)] H (.int .i64 0):=by
 have h:=isNum_iff.1 hn
 refine zgm [.int .i64 (8 * n)] (by kernel_rfl) (by kernel_rfl) ?_
 refine ⟨?_,PH.le_refl _⟩
 have h0:IntKind.i64.wrap ((8 * n).tmod 8)=0:=by rw [tm8];rfl
 simp [evs,evb,h0]
theorem zex (n:Int) (hn:isNum n=true) (H:PH):Gives Tryz.prog zgz [.int .i64 (8 * n)] H (.int .i64 n):=by
 have h:=isNum_iff.1 hn
 refine zen [.int .i64 (8 * n)] (by kernel_rfl) (by kernel_rfl) ?_
 refine ⟨?_,PH.le_refl _⟩
 have h0:IntKind.i64.wrap ((8 * n).tmod 8)=0:=by rw [tm8];rfl
 have h1:IntKind.i64.wrap ((8 * n).tdiv 8)=n:=by rw [td8];exact w64 (by omega) (by omega)
 have h2:IntKind.i64.wrap n=n:=w64 (by omega) (by omega)
 simp [evs,evb,h0,h1,h2]
theorem Z1b (a b:Int) (ha:isNum a=true) (hb:isNum b=true) (H:PH):Tri Tryz.prog zgo #[.int .i64 a,.int .i64 b] H fun x H'=>PH.le H H'∧∃n ok,x=.returned (.tuple #[.int .i64 n,.bool ok])∧InI n∧((ok=true∧n=a * b∧isNum (a * b)=true)∨((ok=false∨isNum n=false)∧isNum (a * b)=false)):=by
  have h1:=isNum_iff.1 ha
  have h2:=isNum_iff.1 hb
  refine zde [.int .i64 a,.int .i64 b] (by kernel_rfl) (by kernel_rfl) ?_
  refine ⟨fun g=>?_,fun g=>⟨fun g2=>?_,fun g2=>?_⟩⟩
  · simp only [evs,evb] at g
    simp only [Bool.or_eq_true,zdt] at g
    refine ⟨PH.le_refl _,0,true,rfl,by unfold InI;omega,.inl ⟨rfl,?_,?_⟩⟩
    · rcases g with rfl | rfl<;>simp
    · rcases g with rfl | rfl<;>simp [isNum]
  · simp only [evs,evb] at g2
    simp only [Bool.or_eq_true,zdt] at g2
    have hn:∃n:Int,n=a * b∧-1152921504606846975≤n∧n≤1152921504606846976∧(if a=-1 then 0 - b else 0 - a)=n:=by
      by_cases e:a=-1
      · subst e;exact ⟨-b,by omega,by omega,by omega,by rw [if_pos rfl];omega⟩
      · have e2:b=-1:=by
                               rcases g2 with h | h
                               · exact absurd h e
                               · exact h
        subst e2
        exact ⟨-a,by omega,by omega,by omega,by rw [if_neg e];omega⟩
    obtain ⟨n,hn1,hn2,hn3,hn4⟩:=hn
    refine ⟨PH.le_refl _,n,decide (n≤1152921504606846975),?_,by unfold InI;omega,?_⟩
    · rw [←hn4]
      by_cases e:a=-1
      · simp only [if_pos e] at hn4 ⊢
        have hw:IntKind.i64.wrap (-b)=-b:=w64 (by omega) (by omega)
        simp [partV,evs,evb,e,hw]
      · simp only [if_neg e] at hn4 ⊢
        have hw:IntKind.i64.wrap (-a)=-a:=w64 (by omega) (by omega)
        simp [partV,evs,evb,e,hw]
    · by_cases hm:n≤1152921504606846975
      · exact .inl ⟨decide_eq_true hm,hn1,by rw [←hn1,isNum_iff];omega⟩
      · refine .inr ⟨.inl (decide_eq_false hm),?_⟩
        cases hh:isNum (a * b) with
        | false=>rfl
        | true=>rw [←hn1,isNum_iff] at hh;omega
  · simp only [evs,evb] at g g2
    simp only [Bool.or_eq_false_iff,zdf] at g g2
    have hb0:b≠0:=g.2
    refine ⟨fun _=>?_,fun _=>?_,?_⟩
    · simp only [Chk.holds,evs,evb];exact hb0
    · simp only [Chk.holds,evs,evb];exact hb0
    obtain ⟨q1,q2,hq1,hq2,hm⟩:∃q1 q2:Int,(if b < 0 then (-1152921504606846976:Int).tdiv b else (1152921504606846975:Int).tdiv b)=q1∧(if b < 0 then (1152921504606846975:Int).tdiv b else (-1152921504606846976:Int).tdiv b)=q2∧(isNum (a * b)=true↔¬(q1 < a∨a < q2)):=by
      refine ⟨_,_,rfl,rfl,?_⟩
      rw [isNum_iff]
      by_cases hneg:b < 0
      · rw [if_pos hneg,if_pos hneg]
        obtain ⟨c,rfl⟩:∃c,b=-c:=⟨-b,by omega⟩
        have hc:0 < c:=by omega
        have k1:=times_le (M:=1152921504606846976) (a:=a) (by decide) hc
        have k2:=times_le (M:=1152921504606846975) (a:=-a) (by decide) hc
        have e1:(-1152921504606846976:Int).tdiv (-c)=(1152921504606846976:Int).tdiv c:=by
          rw [show (-1152921504606846976:Int)=-(1152921504606846976:Int) from rfl,Int.neg_tdiv_neg]
        have e2:(1152921504606846975:Int).tdiv (-c)=-((1152921504606846975:Int).tdiv c):=Int.tdiv_neg ..
        rw [e1,e2]
        rw [Int.neg_mul] at k2
        rw [Int.mul_neg]
        omega
      · rw [if_neg hneg,if_neg hneg]
        have hc:0 < b:=by omega
        have k1:=times_le (M:=1152921504606846976) (a:=-a) (by decide) hc
        have k2:=times_le (M:=1152921504606846975) (a:=a) (by decide) hc
        have e1:(-1152921504606846976:Int).tdiv b=-((1152921504606846976:Int).tdiv b):=by
          rw [show (-1152921504606846976:Int)=-(1152921504606846976:Int) from rfl,Int.neg_tdiv]
        rw [e1]
        rw [Int.neg_mul] at k1
        omega
    have hr1:IntKind.i64.wrap ((-1152921504606846976:Int).tdiv b)=(-1152921504606846976:Int).tdiv b:=by
      have:=tdiv_small (-1152921504606846976) b (by decide)
      exact w64 (by omega) (by omega)
    have hr2:IntKind.i64.wrap ((1152921504606846975:Int).tdiv b)=(1152921504606846975:Int).tdiv b:=by
      have:=tdiv_small 1152921504606846975 b (by decide)
      exact w64 (by omega) (by omega)
    refine ⟨fun g3=>?_,fun g3=>?_⟩
    · refine ⟨PH.le_refl _,0,false,rfl,by unfold InI;omega,.inr ⟨.inl rfl,?_⟩⟩
      cases hh:isNum (a * b) with
      | false=>rfl
      | true=>
        exfalso
        have:=hm.1 hh
        simp only [ev0,ev,evV,List.cons_append,List.nil_append,List.getD_cons_zero,List.getD_cons_succ,List.map_cons,List.map_nil,iOf,bOf,sOf,pOf,slLen,z04,cmpI,arI,Value.ite_bool,z01,z03,z00,z02,hr1,hr2] at g3
        by_cases hneg:b < 0<;>simp only [hneg,decide_true,decide_false,if_true,if_false,Bool.or_eq_true,zdt,Bool.false_eq_true] at g3 hq1 hq2<;>omega
    · have hh:isNum (a * b)=true:=by
        rw [hm]
        simp only [ev0,ev,evV,List.cons_append,List.nil_append,List.getD_cons_zero,List.getD_cons_succ,List.map_cons,List.map_nil,iOf,bOf,sOf,pOf,slLen,z04,cmpI,arI,Value.ite_bool,z01,z03,z00,z02,hr1,hr2] at g3
        by_cases hneg:b < 0<;>simp only [hneg,decide_true,decide_false,if_true,if_false,Bool.or_eq_false_iff,zdf,Bool.false_eq_true] at g3 hq1 hq2<;>omega
      have hh2:=isNum_iff.1 hh
      refine ⟨PH.le_refl _,a * b,true,?_,by unfold InI;omega,.inl ⟨rfl,rfl,hh⟩⟩
      have hw:IntKind.i64.wrap (a * b)=a * b:=w64 (by omega) (by omega)
      simp [partV,evs,evb,hw]
where
  times_le {M a c:Int} (hM:0≤M) (hc:0 < c):a≤M.tdiv c↔a * c≤M:=by
    rw [Int.tdiv_eq_ediv_of_nonneg hM];exact Int.le_ediv_iff_mul_le hc
  tdiv_small (M b:Int) (hM:-1152921504606846976≤M∧M≤1152921504606846976):-1152921504606846976≤M.tdiv b∧M.tdiv b≤1152921504606846976:=by
    have h1:(M.tdiv b).natAbs≤M.natAbs:=by
      rw [Int.natAbs_tdiv];exact Nat.div_le_self ..
    omega
def toldX (n:Int):VX×Int:=if isNum n then (vNum n,0) else (⟨0,0,[]⟩,1)
theorem zxy (op:Nat) (hop:op≤4) (a b:Int) (ha:isNum a=true) (hb:isNum b=true) (H:PH):Tri Tryz.prog zf1 #[.int .i64 (op:Int),.int .i64 (8 * a),.int .i64 (8 * b)] H fun x H'=>PH.le H H'∧∃w e:Int,x=.returned (.tuple #[.int .i64 w,.int .i64 e])∧((∃n,e=0∧w=8 * n∧isNum n=true∧z2t op a b=(vNum n,0))∨(e=10∧(z2t op a b).2=1)∨(e=11∧(z2t op a b).2=2)):=by
 have h1:=isNum_iff.1 ha
 have h2:=isNum_iff.1 hb
 refine zcu [.int .i64 (op:Int),.int .i64 (8 * a),.int .i64 (8 * b)] (by kernel_rfl) (by kernel_rfl) ?_
 refine ⟨fun g=>?_,fun g=>?_⟩
 ·exfalso
  simp only [evs,evb] at g
  simp only [Bool.or_eq_true,zdt] at g
  omega
 refine ⟨fun vs K=>vs=[.bool false]∧PH.le H K,?_,?_⟩
 rotate_left
 ·refine z07 [.int .i64 0] z8g (zp0 a ha H) rfl z05 fun K1 l1=>⟨fun g2=>?_,fun g2=>?_⟩
  ·simp [evs,evb] at g2
  refine z07 [.int .i64 0] z8g (zp0 b hb K1) rfl z05 fun K2 l2=>⟨_,z06,?_,PH.le_trans l1 l2⟩
  simp [evs,evb]
 rintro vs K _ ⟨rfl,l0⟩
 refine ⟨fun g2=>?_,fun g2=>?_⟩
 ·simp [evs,evb] at g2
 refine z07 [.int .i64 a] z3k (zex a ha K) rfl z05 fun K1 l1=>?_
 refine z07 [.int .i64 b] z3k (zex b hb K1) rfl z05 fun K2 l2=>?_
 simp only [cns]
 have l02:=PH.le_trans l0 (PH.le_trans l1 l2)
 refine ⟨fun vs K=>PH.le H K∧∃n ok,vs=[.int .i64 n,.bool ok]∧InI n∧((ok=true∧z2t op a b=toldX n)∨((ok=false∨isNum n=false)∧(z2t op a b).2=1)),?_,fun g3=>?_,fun g3=>⟨fun g4=>?_,fun g4=>⟨fun g5=>?_,fun g5=>⟨fun g6=>?_,fun g6=>?_⟩⟩⟩⟩
 ·rintro vs K3 _ ⟨l3,n,ok,rfl,hn,hr⟩
  refine ⟨fun g3=>?_,fun g3=>?_⟩
  ·simp only [evs,evb] at g3
   simp only [Bool.or_eq_true,zdt,Bool.not_eq_true'] at g3
   refine ⟨l3,0,10,rfl,.inr (.inl ⟨rfl,?_⟩)⟩
   rcases hr with ⟨rfl,hr⟩ | ⟨_,hr⟩
   ·have:isNum n=false:=by
     cases hh:isNum n with
     | false=>rfl
     | true=>rw [isNum_iff] at hh;simp at g3;omega
    rw [hr];unfold toldX;rw [this];rfl
   ·exact hr
  ·simp only [evs,evb] at g3
   simp only [Bool.or_eq_false_iff,zdf,Bool.not_eq_false'] at g3
   obtain ⟨⟨rfl,g4⟩,g5⟩:=g3
   have hnn:isNum n=true:=by rw [isNum_iff];omega
   refine ⟨l3,8 * n,0,?_,.inl ⟨n,rfl,rfl,hnn,?_⟩⟩
   ·have hw:IntKind.i64.wrap (8 * n)=8 * n:=w64 (by omega) (by omega)
    simp [partV,evs,evb,hw]
   ·rcases hr with ⟨_,hr⟩ | ⟨h | h,_⟩
    ·rw [hr];unfold toldX;rw [hnn];rfl
    ·cases h
    ·rw [hnn] at h;cases h
 ·simp only [evs,evb,zdt] at g3
  obtain rfl:op=0:=by omega
  have hw:IntKind.i64.wrap (a+b)=a+b:=w64 (by omega) (by omega)
  refine ⟨_,z06,l02,a+b,true,?_,by unfold InI;omega,.inl ⟨rfl,rfl⟩⟩
  simp [evs,evb,hw]
 ·simp only [evs,evb,zdt] at g4
  obtain rfl:op=1:=by omega
  have hw:IntKind.i64.wrap (a - b)=a - b:=w64 (by omega) (by omega)
  refine ⟨_,z06,l02,a - b,true,?_,by unfold InI;omega,.inl ⟨rfl,rfl⟩⟩
  simp [evs,evb,hw]
 ·simp only [evs,evb,zdt] at g5
  obtain rfl:op=2:=by omega
  refine z08 zfi (Z1b a b ha hb K2) ?_
  rintro x K3 ⟨l3,n,ok,rfl,hin,hr⟩
  refine ⟨_,[.int .i64 n,.bool ok],rfl,rfl,rfl,z05,_,z06,PH.le_trans l02 l3,n,ok,by simp [evs,evb],hin,?_⟩
  ·have hrd:z2t 2 a b=toldX (a * b):=rfl
   rcases hr with ⟨h3,rfl,h4⟩ | ⟨h3,h4⟩
   ·exact .inl ⟨h3,hrd⟩
   ·refine .inr ⟨h3,?_⟩
    rw [hrd];unfold toldX;rw [h4];rfl
 ·simp only [evs,evb,zdt] at g6
  subst g6
  simp only [evs,evb,zdf] at g3 g4 g5
  refine ⟨l02,0,11,rfl,.inr (.inr ⟨rfl,?_⟩)⟩
  match op,hop,g3,g4,g5 with
  | 3,_,_,_,_=>simp [z2t]
  | 4,_,_,_,_=>simp [z2t]
 ·simp only [evs,evb,zdf] at g3 g4 g5 g6
  have hq:=tdiv_small a b (by omega)
  have hw1:IntKind.i64.wrap (a.tdiv b)=a.tdiv b:=w64 (by omega) (by omega)
  have hm:a.tmod b=a - b * a.tdiv b:=Int.tmod_def ..
  have hml:-1152921504606846976≤a.tmod b∧a.tmod b≤1152921504606846976:=tmod_small a b (by omega)
  have hw2:IntKind.i64.wrap (a.tdiv b * b)=a.tdiv b * b:=by
   rw [Int.mul_comm];exact w64 (by omega) (by omega)
  have hw3:IntKind.i64.wrap (a - a.tdiv b * b)=a.tmod b:=by
   rw [Int.mul_comm,←hm];exact w64 (by omega) (by omega)
  refine ⟨fun _=>?_,?_⟩
  ·simp only [Chk.holds,evs,evb];exact g6
  by_cases e4:op=4
  ·subst e4
   refine ⟨_,z06,l02,a.tmod b,true,?_,by unfold InI;omega,.inl ⟨rfl,?_⟩⟩
   ·simp [evs,evb,hw1,hw2,hw3]
   ·simp [z2t,g6,toldX]
  ·obtain rfl:op=3:=by omega
   refine ⟨_,z06,l02,a.tdiv b,true,?_,by unfold InI;omega,.inl ⟨rfl,?_⟩⟩
   ·simp [evs,evb,hw1]
   ·simp [z2t,g6,toldX]
where
 tdiv_small (M b:Int) (hM:-1152921504606846976≤M∧M≤1152921504606846976):-1152921504606846976≤M.tdiv b∧M.tdiv b≤1152921504606846976:=by
  have h1:(M.tdiv b).natAbs≤M.natAbs:=by
   rw [Int.natAbs_tdiv];exact Nat.div_le_self ..
  omega
 tmod_small (M b:Int) (hM:-1152921504606846976≤M∧M≤1152921504606846976):-1152921504606846976≤M.tmod b∧M.tmod b≤1152921504606846976:=by
  have h1:(M.tmod b).natAbs≤M.natAbs:=by
   rw [Int.natAbs_tmod];exact Nat.mod_le ..
  omega
theorem z1e (b:Bool) (H:PH):Gives Tryz.prog zg4 [.bool b] H (valV (z0g b)):=by
 refine zdp [.bool b] (by kernel_rfl) (by kernel_rfl) ?_
 refine ⟨fun g=>?_,fun g=>?_⟩
 ·simp only [evs,evb] at g
  subst g
  exact ⟨rfl,PH.le_refl _⟩
 ·simp only [evs,evb] at g
  subst g
  exact ⟨rfl,PH.le_refl _⟩
theorem zg2 (n:Int) (H:PH):Gives Tryz.prog zjq [.int .i64 n] H (valV (vNum n)):=by
 refine zgw [.int .i64 n] (by kernel_rfl) (by kernel_rfl) ?_
 exact ⟨rfl,PH.le_refl _⟩
theorem z4f (op:Nat) (hop:op≤4) (a b:VX) (h:HX) (ha:isNum a.int=true) (hb:isNum b.int=true) (H:PH):Gives Tryz.prog zd5 [.int .i64 (op:Int),valV a,valV b] H (.tuple #[valV (z0f h op a b).2.1,.int .i64 (z0f h op a b).2.2]):=by
 have h1:=isNum_iff.1 ha
 have h2:=isNum_iff.1 hb
 have hw1:IntKind.i64.wrap (8 * a.int)=8 * a.int:=w64 (by omega) (by omega)
 have hw2:IntKind.i64.wrap (8 * b.int)=8 * b.int:=w64 (by omega) (by omega)
 refine zay ([.int .i64 (op:Int)]++valVs a++valVs b) (by kernel_rfl) (by kernel_rfl) ?_
 simp only [cns]
 refine z08 ze3 (by simp only [evs,evb,hw1,hw2];exact zxy op hop a.int b.int ha hb H) ?_
 rintro x K1 ⟨l1,w,e,rfl,hr⟩
 refine ⟨_,[.int .i64 w,.int .i64 e],rfl,rfl,rfl,z05,fun g=>?_,fun g=>⟨fun g2=>?_,fun g2=>?_⟩⟩
 ·simp only [evs,evb,zdt] at g
  have hh:(z2t op a.int b.int).2=1:=by
   rcases hr with ⟨n,h3,_⟩ | ⟨_,h4⟩ | ⟨h3,_⟩
   ·omega
   ·exact h4
   ·omega
  refine ⟨?_,l1⟩
  unfold z0f
  simp only [hh,if_true]
  rfl
 ·simp only [evs,evb,zdt] at g2
  have hh:(z2t op a.int b.int).2=2:=by
   rcases hr with ⟨n,h3,_⟩ | ⟨h3,_⟩ | ⟨_,h4⟩
   ·omega
   ·omega
   ·exact h4
  refine ⟨?_,l1⟩
  have:z0f h op a b=(h,vNone,82):=by unfold z0f;simp only [hh];rfl
  rw [this]
  rfl
 ·simp only [evs,evb,zdf] at g g2
  rcases hr with ⟨n,rfl,rfl,hn,h4⟩ | ⟨h3,_⟩ | ⟨h3,_⟩
  ·refine z07 [.int .i64 n] z3k (zex n hn K1) rfl z05 fun K2 l2=>?_
   refine z07 (valVs (vNum n)) z2r (zg2 n K2) rfl z05 fun K3 l3=>⟨?_,PH.le_trans l1 (PH.le_trans l2 l3)⟩
   unfold z0f
   rw [h4]
   rfl
  ·exact absurd h3 g
  ·exact absurd h3 g2
theorem ztk {α:Type}:∀{l:List α} {i:Nat} {x:α},l[i]?=some x→(x::l.eraseIdx i).Perm l
 | [],i,x,h=>by simp at h
 | a::l,0,x,h=>by simp at h;subst h;exact List.Perm.refl _
 | a::l,i+1,x,h=>by
  have:=ztk (l:=l) (i:=i) (x:=x) (by simpa using h)
  exact (List.Perm.swap a x _).trans (this.cons a)
theorem zws {α:Type} {x:α}:∀{l:List α} {i:Nat},i < l.length→(x::l.eraseIdx i).Perm (l.set i x)
 | [],i,h=>by simp at h
 | a::l,0,h=>by exact List.Perm.refl _
 | a::l,i+1,h=>by
  have:=zws (x:=x) (l:=l) (i:=i) (by simpa using h)
  exact (List.Perm.swap a x _).trans (this.cons a)
section
variable {α β:Type} [Enc α] [Enc β] {e1 e2:TypeId} {sl:α→Value} {L:List (α×List β)} {v:Value} {S H:PH} {J:List Itm}
abbrev inner (e2:TypeId) (sl:α→Value) (L:List (α×List β)):List Itm:=L.map fun x=>orow e2 x.2 (sl x.1)
def nest (e1 e2:TypeId) (sl:α→Value) (L:List (α×List β)) (v:Value):List Itm:=orow e1 (L.map Prod.fst) v::inner e2 sl L
theorem zwu:nest e1 e2 sl L v=orow e1 (L.map Prod.fst) v::inner e2 sl L:=rfl
theorem zyx (h:Held S H (nest e1 e2 sl L v++J)):Held S H (orow e1 (L.map Prod.fst) v::(inner e2 sl L++J)):=h
theorem zo6 (h:Held S H (nest e1 e2 sl L v++J)):Row S H e1 (L.map Prod.fst) v:=h.row (zms)
theorem zx0 (h:Held S H (nest e1 e2 sl L v++J)):∃b c,v=.slice b L.length c:=by have:=(zo6 h).sl;simpa using this
theorem znf (h:Held S H (nest e1 e2 sl L v++J)) {i:Nat} {x:α×List β} (hi:L[i]?=some x):Row S H e2 x.2 (sl x.1):=
 h.row (List.mem_append_left _ (zmm _ (List.mem_map.2 ⟨x,List.mem_of_getElem? hi,rfl⟩)))
theorem Z2t (h:Held S H (nest e1 e2 sl L v++J)) {i:Nat} {x:α×List β} (hi:L[i]?=some x) :
  (z04 v).isSome=true∧(pOf (eltV v (i:Int) (sz α))).isSome=true∧∃cs,CsR S x.1 cs∧rowAt H (pOf (eltV v (i:Int) (sz α))) cs:=
 (zo6 h).get (by rw [List.getElem?_map,hi];rfl)
theorem Z05 {a:α} {l:List β} {v':Value} (h:Held S H (orow e1 (L.map Prod.fst++[a]) v'::orow e2 l (sl a)::(inner e2 sl L++J))):Held S H (nest e1 e2 sl (L++[(a,l)]) v'++J):=by
 refine h.perm ?_
 simp only [zwu,inner,List.map_append,List.map_cons,List.map_nil,List.cons_append,List.append_assoc,List.nil_append]
 exact List.Perm.cons _ List.perm_middle.symm
abbrev zu1 (e1 e2:TypeId) (sl:α→Value) (L:List (α×List β)) (v:Value) (i:Nat) (J:List Itm):List Itm:=orow e1 (L.map Prod.fst) v::((inner e2 sl L).eraseIdx i++J)
theorem Z0t {i:Nat} {a:α} {l:List β} (hi:L[i]?=some (a,l)) (h:Held S H (nest e1 e2 sl L v++J)):Held S H (orow e2 l (sl a)::zu1 e1 e2 sl L v i J):=by
 have hx:(inner e2 sl L)[i]?=some (orow e2 l (sl a)):=by simp only [inner,List.getElem?_map,hi,Option.map_some]
 refine (zyx h).perm ?_
 refine List.Perm.trans (List.Perm.cons _ (List.Perm.append_right J (ztk hx).symm)) ?_
 exact List.Perm.swap _ _ _
theorem zw1 {i:Nat} {a:α} {l l':List β} (hi:L[i]?=some (a,l)) (h:Held S H (orow e2 l' (sl a)::zu1 e1 e2 sl L v i J)):Held S H (nest e1 e2 sl (L.set i (a,l')) v++J):=by
 have hlt:=(List.getElem?_eq_some_iff.1 hi).1
 have e1':(L.set i (a,l')).map Prod.fst=L.map Prod.fst:=by
  rw [List.map_set]
  refine List.ext_getElem? fun k=>?_
  rw [List.getElem?_set]
  split
  ·rename_i e
   subst e
   rw [if_pos (by simpa using hlt)]
   simp only [List.getElem?_map,hi,Option.map_some]
  ·rfl
 have e2':inner e2 sl (L.set i (a,l'))=(inner e2 sl L).set i (orow e2 l' (sl a)):=by simp only [inner,List.map_set]
 rw [zwu,e1',e2']
 refine h.perm ?_
 refine List.Perm.trans (List.Perm.swap _ _ _) ?_
 refine List.Perm.cons _ ?_
 show ((orow e2 l' (sl a)::(inner e2 sl L).eraseIdx i)++J).Perm _
 exact List.Perm.append_right J (zws (by simpa [inner] using hlt))
theorem Z0e {γ:Type} [Enc γ] {f:α×List β→γ} (h:Held S H (nest e1 e2 sl L v++J)) (hz:sz γ=sz α) (hf:∀x∈L,∀cs,CsR H x.1 cs→SlR H x.2 (sl x.1)→CsR H (f x) cs):SlR H (L.map f) v:=by
 have hr:=(zo6 h).slR h.sh
 rw [SlR.mk_iff] at hr ⊢
 rw [List.length_map] at hr ⊢
 refine ⟨hr.1,?_⟩
 rcases hr.2 with ⟨h1,h2⟩ | ⟨a,c,h1,h2,h3,h4⟩
 ·exact .inl ⟨h1,by simpa using h2⟩
 ·refine .inr ⟨a,c,h1,h2,h3,?_⟩
  have hrow:∀x∈L,SlR H x.2 (sl x.1):=fun x hx=>by
   obtain ⟨i,hi⟩:=List.getElem?_of_mem hx
   exact (znf h hi).slR h.sh
  clear h hr h1 h2 h3
  induction L generalizing a with
  | nil=>simp [PV.RepRows]
  | cons x L ih=>
   simp only [List.map_cons,PV.RepRows] at h4 ⊢
   obtain ⟨⟨cs,c1,c2⟩,c3⟩:=h4
   refine ⟨⟨cs,hf x (zms) cs c1 (hrow x (zms)),c2⟩,?_⟩
   have:(pv (f x)).length=(pv x.1).length:=by
    show (Enc.pv _).length=(Enc.pv _).length
    rw [Enc.len,Enc.len];exact hz
   rw [this]
   exact ih (fun x hx=>hf x (zmm _ hx)) _ c3 (fun x hx=>hrow x (zmm _ hx))
end
def TX.pv (t:TX):List PV:=[.int .i64 t.kind,slp t.parts]
instance encThingX:Enc TX:=⟨TX.pv,2,fun _=>rfl⟩
theorem thingX_iff {H:PH} {t:TX} {cs:List Value}:CsR H t cs↔∃v,cs=[.int .i64 t.kind,v]∧InI t.kind∧SlR H t.parts v:=by
 show PV.RepRow H (TX.pv t) cs↔_
 simp only [TX.pv,PV.RepRow,z4u]
 constructor
 ·rintro ⟨v1,_,rfl,⟨rfl,h1⟩,v2,_,rfl,h2,rfl⟩
  exact ⟨v2,rfl,h1,h2⟩
 ·rintro ⟨v,rfl,h1,h2⟩
  exact ⟨_,_,rfl,⟨rfl,h1⟩,v,_,rfl,h2,rfl⟩
def VFit (v:VX):Prop:=InI v.kind∧InI v.int∧v.text.length≤maxLen
theorem zin {H:PH} {v:VX} (h:VFit v):CsR H v (valVs v):=val_iff.2 ⟨rfl,h⟩
theorem z2q {H:PH} {v:VX} {cs:List Value} (h:CsR H v cs):cs=valVs v∧VFit v:=by
 obtain ⟨h1,h2⟩:=val_iff.1 h
 exact ⟨h1,h2⟩
def HeapAt (H:PH) (hr:Nat) (h:HX):Prop:=∃thv,rowAt H (some ⟨hr,0,none⟩) [thv]∧SlR H h thv
theorem HeapAt.le {H H':PH} {hr:Nat} {h:HX} (hl:PH.le H H') (hh:HeapAt H hr h):HeapAt H' hr h:=by
 obtain ⟨thv,h1,h2⟩:=hh
 exact ⟨thv,z0b hl h1,h2.le hl⟩
theorem zp5 (h:HX) (hr:Nat) (v:VX) (hv:VFit v) (H:PH) (hh:HeapAt H hr h):Gives Tryz.prog zc4 [pAt hr,valV v] H (.bool (mayV h.length v)):=by
 obtain ⟨thv,hr1,hs⟩:=hh
 obtain ⟨tb,tc,rfl⟩:=hs.sl
 refine zan ([pAt hr]++valVs v) (by kernel_rfl) (by kernel_rfl) ?_
 simp only [cns]
 refine ⟨fun g=>⟨?_,PH.le_refl _⟩,fun g=>⟨fun g0=>⟨?_,PH.le_refl _⟩,fun g0=>⟨fun g1=>?_,fun g1=>⟨fun g2=>⟨?_,PH.le_refl _⟩,fun g2=>⟨fun g3=>?_,fun g3=>?_⟩⟩⟩⟩⟩
 ·simp only [evs,evb,z1d] at g
  simp only [zba,zdt] at g
  simp only [mayV,if_pos g]
  rfl
 all_goals simp only [evs,evb,z1d] at g
 all_goals simp only [Bool.and_eq_false_iff,zdf,Decidable.not_not] at g
 all_goals have g':¬(v.kind≠3∧v.text≠[]):=fun hh=>g.elim (fun g=>hh.1 g) (fun g=>hh.2 g)
 ·simp only [evs,evb,zdt] at g0
  simp only [mayV,if_neg g',if_pos g0]
  by_cases e0:v.int=0<;>simp [evs,evb,e0]
 all_goals simp only [evs,evb,zdf] at g0
 ·simp only [evs,evb,zdt] at g1
  refine z07 [.bool (isNum v.int)] zjc (Z24 v.int H) rfl z05 fun H1 l1=>⟨?_,l1⟩
  simp only [mayV,if_neg g',if_neg g0,if_pos g1]
  rfl
 all_goals simp only [evs,evb,zdf] at g1
 ·simp only [evs,evb,zdt] at g2
  simp only [mayV,if_neg g',if_neg g0,if_neg g1,if_pos g2]
  simp only [evs,evb,Bool.decide_and,ge_iff_le]
 all_goals simp only [evs,evb,zdf] at g2
 ·simp only [evs,evb,zdt] at g3
  have hm:mayV h.length v=(decide (v.int=0) && z0p v.text):=by
   simp only [mayV,if_neg g',if_neg g0,if_neg g1,if_neg g2,if_pos g3]
  refine ⟨fun vs K=>vs=[.bool (mayV h.length v)]∧PH.le H K,?_,fun g4=>?_,fun g4=>?_⟩
  ·rintro vs K _ ⟨rfl,l1⟩;exact ⟨rfl,l1⟩
  ·simp only [evs,evb,zdt] at g4
   refine z07 [.bool (z0p v.text)] z2k (zat v.text hv.2.2 H) rfl z05 fun H1 l1=>⟨_,z06,?_,l1⟩
   simp [evs,evb,hm,g4]
  ·simp only [evs,evb,zdf] at g4
   refine ⟨_,z06,?_,PH.le_refl _⟩
   simp [evs,evb,hm,g4]
 ·simp only [evs,evb,zdf] at g3
  refine ⟨fun vs K=>vs=[.bool (decide (v.kind=4∨v.kind=5∨v.kind=6∨v.kind=7))]∧K=H,?_,fun g4=>?_,fun g4=>⟨fun g5=>?_,fun g5=>?_⟩⟩
  ·rintro vs K _ ⟨rfl,rfl⟩
   refine ⟨fun g4=>⟨?_,PH.le_refl _⟩,fun g4=>⟨fun g5=>?_,fun g5=>⟨?_,PH.le_refl _⟩⟩⟩
   ·simp only [evs,evb,zdt] at g4
    simp only [mayV,if_neg g',if_neg g0,if_neg g1,if_neg g2,if_neg g3,if_pos g4]
    simp only [evs,evb]
   ·simp only [evs,evb,zdf] at g4
    simp only [evs,evb,zdt] at g5
    have hm:mayV h.length v=decide (0≤v.int∧v.int < (h.length:Int)):=by
     simp only [mayV,if_neg g',if_neg g0,if_neg g1,if_neg g2,if_neg g3,if_neg g4,if_pos g5]
    refine ⟨fun vs K2=>vs=[.bool (mayV h.length v)]∧K2=K,?_,?_,?_,fun g6=>?_,fun g6=>?_⟩
    ·rintro vs K2 _ ⟨rfl,rfl⟩;exact ⟨rfl,PH.le_refl _⟩
    ·intro _;simp [Chk.holds,evs,evb]
    ·intro _;simp [Chk.holds,evs,evb]
    ·simp only [evs,evb,ge_iff_le,zdt] at g6
     refine ⟨[.slice tb h.length tc],rfl,by simp only [evs,evb];exact hr1,_,z06,?_,rfl⟩
     simp [evs,evb,hm,g6]
    ·simp only [evs,evb,ge_iff_le,zdf] at g6
     refine ⟨_,z06,?_,rfl⟩
     simp [evs,evb,hm,g6]
   ·simp only [evs,evb,zdf] at g4 g5
    simp only [mayV,if_neg g',if_neg g0,if_neg g1,if_neg g2,if_neg g3,if_neg g4,if_neg g5]
    simp only [evs,evb]
  ·simp only [evs,evb,zdt] at g4
   refine ⟨_,z06,?_,rfl⟩
   simp [evs,evb,g4]
  ·simp only [evs,evb,zdt] at g5
   refine ⟨_,z06,?_,rfl⟩
   simp [evs,evb,g5]
  ·simp only [evs,evb,zdf] at g4 g5
   refine ⟨_,z06,?_,rfl⟩
   by_cases e6:v.kind=6<;>by_cases e7:v.kind=7<;>simp [evs,evb,g4,g5,e6,e7]
theorem zdu {H:PH} {h:HX} {tb:Option Addr} {tc:Nat} (hs:SlR H h (.slice tb h.length tc)) {i:Nat} {t:TX} (hi:h[i]?=some t):(tb.isSome=true)∧∃v,InI t.kind∧SlR H t.parts v∧rowAt H (pOf (eltV (.slice tb h.length tc) (i:Int) 2)) [.int .i64 t.kind,v]:=by
 obtain ⟨h1,_,cs,h2,h3⟩:=hs.get hi
 obtain ⟨v,rfl,h4,h5⟩:=thingX_iff.1 h2
 exact ⟨h1,v,h4,h5,h3⟩
theorem z5y {H:PH} {p:Option Addr} {a b:Value} (h:rowAt H p [a,b]):rowAt H (p.map (·.add 1)) [b]:=z2o h 1 1
theorem zrr {H:PH} {p:Option Addr} {a b:Value} (h:rowAt H p [a,b]):rowAt H (p.map (·.add 0)) [a]:=z2o h 0 1
theorem z5c (h:HX) (hr:Nat) (v:VX) (hm:mayV h.length v=true) (H:PH) (hh:HeapAt H hr h):Gives Tryz.prog zbj [pAt hr,valV v] H (.int .i64 (z0s h v)):=by
 obtain ⟨thv,hr1,hs⟩:=hh
 obtain ⟨tb,tc,rfl⟩:=hs.sl
 refine za4 ([pAt hr]++valVs v) (by kernel_rfl) (by kernel_rfl) ?_
 simp only [cns]
 refine ⟨fun g=>⟨?_,PH.le_refl _⟩,fun g=>?_⟩
 ·simp only [evs,evb,zdt] at g
  simp only [z0s,if_pos g]
  rfl
 simp only [evs,evb,zdf,Decidable.not_not] at g
 have hin:0≤v.int∧v.int < (h.length:Int):=by
  unfold mayV at hm
  split at hm
  ·cases hm
  ·simpa [g] using hm
 obtain ⟨i,hi⟩:∃i:Nat,v.int=(i:Int):=⟨v.int.toNat,by omega⟩
 obtain ⟨t,ht⟩:∃t,h[i]?=some t:=⟨_,zge (by omega)⟩
 obtain ⟨hsome,pv,h4,h5,h6⟩:=zdu hs ht
 refine ⟨fun _=>by simp [Chk.holds,evs,evb],[.slice tb h.length tc],rfl,by simp only [evs,evb];exact hr1,fun _=>?_,[.int .i64 t.kind],rfl,?_,?_,PH.le_refl _⟩
 ·simp only [Chk.holds,evs,evb];exact ⟨hsome,by omega,by omega⟩
 ·simp only [evs,evb,hi]
  exact zrr h6
 ·have:z0s h v=t.kind:=by
   unfold z0s
   rw [if_neg (fun hh=>hh g),hi,Int.toNat_natCast,zgd,ht];rfl
  rw [this];rfl
theorem z9b (h:HX) (hr:Nat) (v:VX) (i:Int) (hin:0≤v.int∧v.int < (h.length:Int)) (H:PH) (hh:HeapAt H hr h):Gives Tryz.prog zca [pAt hr,valV v,.int .i64 i] H (.tuple #[valV (getX h v i).1,.int .i64 (getX h v i).2]):=by
 obtain ⟨thv,hr1,hs⟩:=hh
 obtain ⟨tb,tc,rfl⟩:=hs.sl
 refine zak ([pAt hr]++valVs v++[.int .i64 i]) (by kernel_rfl) (by kernel_rfl) ?_
 simp only [cns]
 obtain ⟨k,hk⟩:∃k:Nat,v.int=(k:Int):=⟨v.int.toNat,by omega⟩
 obtain ⟨t,ht⟩:∃t,h[k]?=some t:=⟨_,zge (by omega)⟩
 obtain ⟨hsome,pv,h4,h5,h6⟩:=zdu hs ht
 have hgd:h.getD v.int.toNat default=t:=by rw [hk,Int.toNat_natCast,zgd,ht];rfl
 obtain ⟨pb,pc,rfl⟩:=h5.sl
 refine ⟨fun _=>by simp [Chk.holds,evs,evb],[.slice tb h.length tc],rfl,by simp only [evs,evb];exact hr1,fun _=>?_,[.slice pb t.parts.length pc],rfl,?_,fun g=>⟨?_,PH.le_refl _⟩,fun g=>?_⟩
 ·simp only [Chk.holds,evs,evb];exact ⟨hsome,by omega,by omega⟩
 ·simp only [evs,evb,hk]
  exact z5y h6
 ·simp only [evs,evb] at g
  simp only [Bool.or_eq_true,zdt,ge_iff_le] at g
  unfold getX
  simp only [hgd,if_pos g]
  rfl
 ·simp only [evs,evb] at g
  simp only [Bool.or_eq_false_iff,zdf,ge_iff_le] at g
  obtain ⟨j,rfl⟩:∃j:Nat,i=(j:Int):=⟨i.toNat,by omega⟩
  obtain ⟨x,hx⟩:∃x,t.parts[j]?=some x:=⟨_,zge (by omega)⟩
  obtain ⟨x1,_,xcs,x2,x3⟩:=h5.get hx
  obtain ⟨rfl,xf⟩:=z2q x2
  refine ⟨fun _=>?_,valVs x,rfl,by simp only [evs,evb];exact x3,?_,PH.le_refl _⟩
  ·simp only [Chk.holds,evs,evb];exact ⟨x1,by omega,by omega⟩
  ·have:getX h v (j:Int)=(x,0):=by
    unfold getX
    simp only [hgd]
    rw [if_neg (by omega),Int.toNat_natCast,zgd,hx];rfl
   rw [this];rfl
section
variable {S H:PH} {I:List Itm} {a b c:Itm}
theorem Held.swap (h:Held S H (a::b::I)):Held S H (b::a::I):=h.perm (List.Perm.swap _ _ _)
theorem Held.third (h:Held S H (a::b::c::I)):Held S H (c::a::b::I):=h.perm ((List.Perm.cons _ (List.Perm.swap _ _ _)).trans (List.Perm.swap _ _ _))
theorem Held.up {I J:List Itm} (h:Held S H (I++a::J)):Held S H (a::(I++J)):=h.perm List.perm_middle
end
theorem z1x {E:List Value} {H:PH} {p:SV} {ss:List SV} (h:rowAt H (pOf (ev0 E p)) (ss.map (ev0 E))):z0m E H [(p,ss)]:=fun x hx=>by
 rw [List.mem_singleton.1 hx];exact h
theorem z4x:Tryz.prog.underlying 74=some (.slice 73):=by kernel_rfl
theorem z2v:ElemOk Tryz.prog 73 3 32=true:=by kernel_rfl
theorem Z2s:Tryz.prog.underlying 69=some (.slice 125):=by kernel_rfl
theorem zyc:ElemOk Tryz.prog 125 2 32=true:=by kernel_rfl
abbrev thX (x:TR×List VX):TX:=⟨x.1.kind,x.2⟩
abbrev hpX (L:List (TR×List VX)):HX:=L.map thX
def heapI (hr:Nat) (L:List (TR×List VX)) (thv:Value):List Itm:=bx hr 71 [thv]::nest 125 73 TR.sl L thv
theorem zbi {S H:PH} {I:List Itm} {r:Nat} {T:TypeId} {v:Value} (h:Held S H I) (hi:bx r T [v]∈I):rowAt H (some ⟨r,0,none⟩) [v]:=zib h hi 0 1
theorem zlw {S H:PH} {I:List Itm} {hr:Nat} {L:List (TR×List VX)} {thv:Value} (h:Held S H (heapI hr L thv++I)):HeapAt H hr (hpX L):=by
 refine ⟨thv,zbi h (zms),?_⟩
 refine Z0e (f:=thX) (J:=I) h.tail rfl fun x _ cs h1 h2=>?_
 obtain ⟨rfl,h3⟩:=thing_iff.1 h1
 exact thingX_iff.2 ⟨_,rfl,h3,h2⟩
def HpR (hr:Nat) (h':HX) (xv:Value):Ending→PH→List Itm→Prop:=fun x _ J'=>x=.returned xv∧∃L' thv',J'=heapI hr L' thv'∧hpX L'=h'
abbrev HpTo (f:FuncId) (args:Array Value) (S K:PH) (hr:Nat) (h':HX) (xv:Value):Prop:=Tri Tryz.prog f args K fun x K'=>∃S' J',PH.le S S'∧Held S' K' J'∧HpR hr h' xv x S' J'
theorem HpTo.beside {f:FuncId} {args:Array Value} {S H:PH} {hr:Nat} {h':HX} {xv:Value} {L:List (TR×List VX)} {thv:Value} {I:List Itm} (h:Held S H (heapI hr L thv++I)) (ht:∀K,Held S K (heapI hr L thv)→HpTo f args S K hr h' xv) :
  Tri Tryz.prog f args H fun x H'=>x=.returned xv∧∃S' L' thv',PH.le S S'∧Held S' H' (heapI hr L' thv'++I)∧hpX L'=h':=by
 refine (h.call ht).mono ?_
 rintro x H' ⟨S',J',h1,h2,h3,L',thv',rfl,h4⟩
 exact ⟨h3,S',L',thv',h1,h2,h4⟩
theorem z82 {S H:PH} {I:List Itm} (h:Held S H I):Held S H (I++[]):=by rw [List.append_nil];exact h
theorem zjn (hr:Nat) (L:List (TR×List VX)) (thv:Value) (kind:Int) (parts:List VX) (pv:Value) (S K:PH) (hK:Held S K (heapI hr L thv)) (hp:SlR S parts pv) (hk:InI kind) (hL:L.length≤16777216) (hpl:parts.length≤1048576) :
  HpTo zbm #[pAt hr,.int .i64 kind,pv] S K hr (addX (hpX L) kind parts).1 (valV (addX (hpX L) kind parts).2):=by
 obtain ⟨pb,pc,rfl⟩:=hp.sl
 obtain ⟨tb,tc,rfl⟩:=zx0 (J:=[]) (z82 hK).tail
 refine zal [pAt hr,.int .i64 kind,.slice pb parts.length pc] (by kernel_rfl) (by kernel_rfl) ?_
 refine ⟨fun _=>by simp [Chk.holds,evs,evb],[.slice tb L.length tc],rfl,by simp only [evs,evb];exact zbi hK (zms),?_⟩
 simp only [cns]
 have hpd:∀{S K:PH} {I:List Itm} {E:List Value},Held S K I→bx hr 71 [.slice tb L.length tc]∈I→rowAt K (some ⟨hr,0,none⟩) [.slice tb L.length tc]:=fun h hi=>zbi h hi
 refine z1k (α:=VX) (b:=32) z4x z2v hK (z1x (by simp only [evs,evb];exact zbi hK (zms))) fun v4 K4 h4 _ _=>?_
 simp only [cns]
 refine z1o (b:=32) (more:=parts) z4x z2v (by kernel_rfl) (by kernel_rfl) h4 (hp.srcS h4.sh) (by simp only [maxLen,List.length_nil];omega) (by simp only [List.length_nil];omega) fun v5 K5 h5 _=>⟨z1x (by simp only [evs,evb];exact zbi h5 (zmm _ (zms))),?_⟩
 rw [List.nil_append] at h5
 obtain ⟨b5,c5,rfl⟩:=(h5.row (zms)).sl
 simp only [cns]
 refine z16 (b:=32) (more:=[(⟨kind,b5,parts.length,c5⟩:TR)]) [.agg #[.int .i64 kind,.slice b5 parts.length c5]] Z2s zyc rfl (by decide) (by decide) h5.third (by kernel_rfl) (.cons (thing_iff.2 ⟨rfl,hk⟩) .nil) (z1x (by simp only [evs,evb];exact zbi h5 (zmm _ (zms)))) (fun u=>by kernel_rfl) (fun u=>by kernel_rfl)
  (by simp only [maxLen,List.length_map,zlc,List.length_nil];omega) (by simp only [List.length_map,zlc,List.length_nil];omega) fun u v7 S7 K7 l7 h7=>⟨z05,?_⟩
 simp only [cns]
 obtain ⟨b7,c7,hv7⟩:=(h7.row (zms)).sl
 have h8:=h7.third
 refine z0u (off:=0) (vs:=[v7]) (by simp only [evs,evb];rfl) h8 (by simp only [evs,evb]) (by rw [hv7];simp [oneC]) (by simp) fun K8 h9=>?_
 have h9':Held S7 K8 (bx hr 71 [v7]::orow 125 (L.map Prod.fst++[(⟨kind,b5,parts.length,c5⟩:TR)]) v7::orow 73 parts (.slice b5 parts.length c5)::inner 73 TR.sl L):=h9
 have h10:Held S7 K8 (orow 125 (L.map Prod.fst++[(⟨kind,b5,parts.length,c5⟩:TR)]) v7::orow 73 parts (TR.sl ⟨kind,b5,parts.length,c5⟩)::(inner 73 TR.sl L++[bx hr 71 [v7]])):=by
  refine h9'.perm ?_
  refine List.Perm.trans (List.Perm.swap _ _ _) (List.Perm.cons _ ?_)
  refine List.Perm.trans (List.Perm.swap _ _ _) (List.Perm.cons _ ?_)
  exact (List.perm_append_comm (l₁:=[_]) (l₂:=inner 73 TR.sl L))
 have h11:=Z05 (a:=(⟨kind,b5,parts.length,c5⟩:TR)) h10
 have h12:Held S7 K8 (heapI hr (L++[((⟨kind,b5,parts.length,c5⟩:TR),parts)]) v7):=h11.perm List.perm_append_comm
 have hlen:slLen v7=L.length+1:=by rw [hv7];simp [slLen]
 refine ⟨[v7],by rw [hv7];rfl,by simp only [evs,evb];exact zbi h12 (zms),?_⟩
 refine ⟨S7,_,l7,h12,?_,_,v7,rfl,?_⟩
 ·rw [hv7]
  have hw:IntKind.i64.wrap (L.length:Int)=L.length:=w64 (by omega) (by omega)
  simp [addX,evs,evb,hw]
 ·simp [addX,hpX,thX]
theorem Z1c (hr:Nat) (L:List (TR×List VX)) (thv:Value) (S K:PH) (hK:Held S K (heapI hr L thv)) (hL:L.length≤16777216) :
  HpTo zb5 #[pAt hr,.int .i64 4,.slice none 0 0] S K hr (addX (hpX L) 4 []).1 (.tuple #[valV (addX (hpX L) 4 []).2,.int .i64 0]):=by
 refine za3 [pAt hr,.int .i64 4,.slice none 0 0] (by kernel_rfl) (by kernel_rfl) ?_
 refine ⟨fun g=>by simp [evs,evb] at g,fun g=>?_⟩
 refine ⟨fun n vs K1=>n=0∧vs=[.int .i64 0,.int .i64 0,.int .i64 0,.int .i64 0,txt []]∧K1=K,⟨0,rfl,rfl,rfl⟩,?_⟩
 rintro n vs K1 _ ⟨rfl,rfl,rfl⟩
 refine ⟨fun g2=>by simp [evs,evb] at g2,fun g2=>?_⟩
 refine z08 z1p (zjn hr L thv 4 [] (.slice none 0 0) S K1 hK (SlR.mk_iff.2 ⟨by simp,.inl ⟨rfl,rfl⟩⟩) (by unfold InI;omega) hL (by simp)) ?_
 rintro x K2 ⟨S2,J2,l2,h2,rfl,L',thv',rfl,hh⟩
 refine ⟨_,valVs (addX (hpX L) 4 []).2,rfl,rfl,rfl,z05,S2,_,l2,h2,rfl,L',thv',rfl,hh⟩
theorem zso {α:Type} (n:Nat) (a:α):List.replicate n a++[a]=List.replicate (n+1) a:=by
 rw [show ([a]:List α)=List.replicate 1 a from rfl,List.replicate_append_replicate]
theorem zn0 (hr:Nat) (L:List (TR×List VX)) (thv:Value) (kind n:Int) (v:VX) (S K:PH) (hK:Held S K (heapI hr L thv)) (hv:VFit v) (hk:InI kind) (hL:L.length≤16777216) :
  HpTo z9z #[pAt hr,.int .i64 kind,.int .i64 n,valV v] S K hr (z1f (hpX L) kind n v).1 (.tuple #[valV (z1f (hpX L) kind n v).2.1,.int .i64 (z1f (hpX L) kind n v).2.2]):=by
 refine z99 ([pAt hr,.int .i64 kind,.int .i64 n]++valVs v) (by kernel_rfl) (by kernel_rfl) ?_
 simp only [cns]
 refine ⟨fun g=>?_,fun g=>?_⟩
 ·simp only [evs,evb] at g
  simp only [Bool.or_eq_true,zdt] at g
  have:z1f (hpX L) kind n v=(hpX L,vNone,83):=by unfold z1f;rw [if_pos (by omega)]
  rw [this]
  exact ⟨S,_,PH.le_refl _,hK,rfl,L,thv,rfl,rfl⟩
 simp only [evs,evb] at g
 simp only [Bool.or_eq_false_iff,zdf] at g
 obtain ⟨N,rfl⟩:∃N:Nat,n=(N:Int):=⟨n.toNat,by omega⟩
 have hN:N≤1000:=by omega
 have hf:z1f (hpX L) kind (N:Int) v=((addX (hpX L) kind (List.replicate N v)).1,(addX (hpX L) kind (List.replicate N v)).2,0):=by
  unfold z1f;rw [if_neg (by omega),Int.toNat_natCast]
 rw [hf]
 refine z1k (α:=VX) (b:=32) z4x z2v hK z05 fun v6 K6 h6 _ _=>?_
 simp only [cns]
 refine ⟨fun m vs K1=>∃(k:Nat) (u:Value) (S1:PH),vs=[u,nI k]∧k+m=N∧PH.le S S1∧Held S1 K1 (orow 73 (List.replicate k v) u::heapI hr L thv),⟨N,0,v6,S,rfl,by omega,PH.le_refl _,h6⟩,?_⟩
 rintro m vs K1 _ ⟨k,u,S1,rfl,hkm,l1,h1⟩
 simp only [cns]
 obtain ⟨ub,uc,hu⟩:=(h1.row (zms)).sl
 rw [List.length_replicate] at hu
 refine ⟨fun g2=>?_,fun g2=>?_⟩
 ·simp only [evs,evb,zdt] at g2
  refine z16 (b:=32) (more:=[v]) [valV v] z4x z2v rfl (by decide) (by decide) h1 (by kernel_rfl) (.cons (zin hv) .nil) z05 (fun u=>by kernel_rfl) (fun u=>by kernel_rfl)
   (by simp only [maxLen,List.length_replicate,zlc,List.length_nil];omega) (by simp only [List.length_replicate,zlc,List.length_nil];omega) fun u2 v7 S7 K7 l7 h7=>⟨z05,?_⟩
  rw [zso] at h7
  refine ⟨_,z06,m - 1,by omega,k+1,v7,S7,?_,by omega,PH.le_trans l1 l7,h7⟩
  simp only [evs,evb];rw [w64 (by omega) (by omega)];rfl
 ·simp only [evs,evb,zdf] at g2
  have:k=N:=by omega
  subst this
  obtain ⟨S3,s3,l3,h3⟩:=h1.freeze
  refine z08 z1p (zjn hr L thv kind (List.replicate k v) u S3 K1 h3 s3 hk hL (by rw [List.length_replicate];omega)) ?_
  rintro x K2 ⟨S2,J2,l2,h2,rfl,L',thv',rfl,hh⟩
  refine ⟨_,valVs (addX (hpX L) kind (List.replicate k v)).2,rfl,rfl,rfl,z05,S2,_,PH.le_trans l1 (PH.le_trans l3 l2),h2,rfl,L',thv',rfl,hh⟩
theorem ze6 (hr:Nat) (L:List (TR×List VX)) (thv:Value) (v:VX) (i:Int) (x:VX) (S K:PH) (hK:Held S K (heapI hr L thv)) (hin:0≤v.int∧v.int < (L.length:Int)) (hx:VFit x) :
  HpTo zby #[pAt hr,valV v,.int .i64 i,valV x] S K hr (putX (hpX L) v i x).1 (.tuple #[valV (putX (hpX L) v i x).2.1,.int .i64 (putX (hpX L) v i x).2.2]):=by
 obtain ⟨tb,tc,rfl⟩:=zx0 (J:=[]) (z82 hK).tail
 refine zai ([pAt hr]++valVs v++[.int .i64 i]++valVs x) (by kernel_rfl) (by kernel_rfl) ?_
 simp only [cns]
 obtain ⟨k,hk⟩:∃k:Nat,v.int=(k:Int):=⟨v.int.toNat,by omega⟩
 obtain ⟨t,ht⟩:∃t,L[k]?=some t:=⟨_,zge (by omega)⟩
 obtain ⟨tr,l⟩:=t
 obtain ⟨hsome,_,cs,h4,h6⟩:=Z2t (J:=[]) (z82 hK).tail ht
 obtain ⟨rfl,h5⟩:=thing_iff.1 h4
 have hgd:(hpX L).getD v.int.toNat default=⟨tr.kind,l⟩:=by rw [hk,Int.toNat_natCast,zgd,List.getElem?_map,ht];rfl
 obtain ⟨pb,pc,hpv⟩:=(znf (J:=[]) (z82 hK).tail ht).sl
 simp only at hpv h6
 refine ⟨fun _=>by simp [Chk.holds,evs,evb],[.slice tb L.length tc],rfl,by simp only [evs,evb];exact zbi hK (zms),fun _=>?_,[.slice pb l.length pc],rfl,?_,fun g=>?_,fun g=>?_⟩
 ·simp only [Chk.holds,evs,evb];exact ⟨hsome,by omega,by omega⟩
 ·simp only [evs,evb,hk]
  rw [←hpv]
  exact z5y h6
 ·simp only [evs,evb] at g
  simp only [Bool.or_eq_true,zdt,ge_iff_le] at g
  have:putX (hpX L) v i x=(hpX L,vNone,83):=by
   unfold putX
   simp only [hgd,if_pos g]
  rw [this]
  exact ⟨S,_,PH.le_refl _,hK,rfl,L,_,rfl,rfl⟩
 ·simp only [evs,evb] at g
  simp only [Bool.or_eq_false_iff,zdf,ge_iff_le] at g
  obtain ⟨j,rfl⟩:∃j:Nat,i=(j:Int):=⟨i.toNat,by omega⟩
  obtain ⟨y,hy⟩:∃y,l[j]?=some y:=⟨_,zge (by omega)⟩
  have hnest:Held S K (nest 125 73 TR.sl L (.slice tb L.length tc)++[bx hr 71 [.slice tb L.length tc]]):=Held.perm (I:=[bx hr 71 [.slice tb L.length tc]]++nest 125 73 TR.sl L (.slice tb L.length tc)) hK List.perm_append_comm
  have hp:=Z0t ht hnest
  rw [hpv] at hp
  obtain ⟨y1,_⟩:=(hp.row (zms)).get hy
  refine ⟨fun _=>?_,?_⟩
  ·simp only [Chk.holds,evs,evb];exact ⟨y1,by omega,by omega⟩
  refine zg0 (i:=j) (a:=y) (a':=x) (us:=valVs x) ?_ hp hy rfl ?_ (by simp [oneC]) (zin hx) fun K9 h9=>?_
  ·simp only [evs,evb];rfl
  ·simp only [evs,evb]
  rw [←hpv] at h9
  have h10:=zw1 ht h9
  have h11:Held S K9 (heapI hr (L.set k (tr,l.set j x)) (.slice tb L.length tc)):=h10.perm List.perm_append_comm
  have:putX (hpX L) v (j:Int) x=((hpX L).set k ⟨tr.kind,l.set j x⟩,vVoid,0):=by
   unfold putX
   simp only [hgd]
   rw [if_neg (by omega),hk,Int.toNat_natCast,Int.toNat_natCast]
  rw [this]
  refine ⟨S,_,PH.le_refl _,h11,rfl,_,_,rfl,?_⟩
  simp [hpX,thX,List.map_set]
def retIs (p:PV):Out→Bool
 | .ret 0 [.pv q]=>PV.same q p
 | _=>false
def ztt (P:Program) (tab:List CK) (fm:Fm VE) (p:PV):Bool:=match run P tab fm [] [] with
 | some outs=>outs.all (retIs p)
 | none=>false
theorem Z44 {P:Program} {S0:PH} {tab:List CK} {fm:Fm VE} {p:PV} {X:List PanicEntry→PH→Prop} (htab:TabOk P S0 tab) (h:ztt P tab fm p=true) {R:Ending→PH→Prop}
  (hR:∀H' v,PH.le S0 H'→p.Rep H' v→R (.returned v) H'):den P X fm [] S0 [] (fun ve E' H' _=>R (.returned (evV E' (fun _=>0) ve)) H'):=by
 unfold ztt at h
 split at h
 ·rename_i outs ho
  refine zzz htab fm [] [] outs [] S0 S0 (fun _=>0) [] ho ⟨rfl,fun i a ha=>by simp at ha,PH.le_refl _,fun k row hk=>by simp at hk,fun i j hi=>by simp at hi,fun i k ha=>by simp at ha⟩ (PH.le_refl _) fun o hm=>?_
  have h1:=List.all_eq_true.1 h o hm
  unfold retIs at h1
  split at h1
  ·intro ve E' S' H' r' L' ss hS hSH hq hss hv
   obtain ⟨v,h2,h3⟩:=hv.2 0 _ rfl
   have hl:=hv.1
   simp only [RelV] at h3
   rw [PV.same_eq h1] at h3
   cases ve with
   | junk=>cases hss
   | sc s=>
    cases hss
    simp only [List.map_cons,List.map_nil,List.getElem?_cons_zero,Option.some.injEq] at h2
    show R (.returned (ev0 E' s)) H'
    rw [h2];exact hR H' v (PH.le_trans hS hSH) (PV.Rep.le hSH h3)
   | ag cs=>cases hq
   | tu l=>cases hq
  ·cases h1
 ·cases h
instance encPrim:Enc (List UInt8×List Int):=⟨fun x=>[.str x.1,slp x.2],2,fun _=>rfl⟩
theorem Z4q {P:Program} {S0:PH}:TabOk P S0 []:=fun c hc=>by cases hc
theorem Z1i:ztt Tryz.prog [] z3x (slp rowsX)=true:=by kernel_rfl
theorem Z1r (S:PH):Tri Tryz.prog zhy #[] S fun x S'=>PH.le S S'∧∃v,x=.returned v∧SlR S' rowsX v:=
 zfl [] (H:=S) (R:=fun x S'=>PH.le S S'∧∃v,x=.returned v∧SlR S' rowsX v) (by kernel_rfl) (by kernel_rfl)
  (Z44 (R:=fun x S'=>PH.le S S'∧∃v,x=.returned v∧SlR S' rowsX v) Z4q Z1i fun H' v hl hv=>⟨hl,v,rfl,hv⟩)
theorem prim_iff {H:PH} {x:List UInt8×List Int} {cs:List Value}:CsR H x cs↔∃v,cs=[txt x.1,v]∧x.1.length≤maxLen∧SlR H x.2 v:=by
 show PV.RepRow H [.str x.1,slp x.2] cs↔_
 simp only [PV.RepRow,zeh]
 constructor
 ·rintro ⟨v1,_,rfl,⟨rfl,h1⟩,v2,_,rfl,h2,rfl⟩
  exact ⟨v2,rfl,h1,h2⟩
 ·rintro ⟨v,rfl,h1,h2⟩
  exact ⟨_,_,rfl,⟨rfl,h1⟩,v,_,rfl,h2,rfl⟩
section
variable {P:Program} {Ψ:Value→PH→Prop} {H:PH}
theorem zw4 {op:BinOp} {t:TypeId} {x y:Operand} {u v:Array Value} (hop:op=.eql∨op=.neq) (hg:P.eqGuardType P.depth t=false) {Ξ:Unit→PH→Prop}:wpS P (eqGuard op t x y (.agg u) (.agg v)) Ξ Ψ H=Ξ () H:=by
 rcases hop with rfl | rfl
 ·show wpS P (if (!P.eqGuardType P.depth t)=true then _ else _) Ξ Ψ H=_
  rw [if_pos (by rw [hg];rfl)];rfl
 ·show wpS P (if (!P.eqGuardType P.depth t)=true then _ else _) Ξ Ψ H=_
  rw [if_pos (by rw [hg];rfl)];rfl
theorem zs5 {X:List PanicEntry→PH→Prop} {β:Type} {E:List Value} {L:LK} {K:β→List Value→PH→LK→Prop} {t U ty:TypeId} {fs:List Field} {asu bs:List Value} {x y:Operand} {args:List (Nat×VE)} {k:Fm β} (ht:P.underlying t=some (.struct fs.toArray)) (hheld:P.stoodInHeld t=false) (hg:P.eqGuardType P.depth t=false) (ho:OffB 0 fs=true)
  (hx:argEv E args x=.agg asu.toArray) (hy:argEv E args y=.agg bs.toArray) (hf:FitB P fs asu bs=true) (hk:den P X k (E++[.bool (z5b asu bs)]) H L K):den P X (.sem (.binOp .eql t x y U) ty args (.sc .bool) [] k) E H L K:=by
 show wpS P (execOp (argEv E args) (bare _ ty)) _ _ H
 rw [zyb,hx,hy,zw4 (.inl rfl) hg]
 show wpS P (do pure (Value.bool (←Op.equal t (.agg asu.toArray) (.agg bs.toArray))):Sem Value) _ _ H
 rw [z0e]
 show wpS P (Op.equalIn (9998+2) t _ _) _ _ H
 rw [zpa ht hheld ho hf]
 exact ⟨[_],rfl,rfl,z05,hk⟩
end
noncomputable def valFields:Array Field:=match Tryz.prog.underlying 73 with
 | some (.struct fs)=>fs
 | _=>#[]
theorem uValS:Tryz.prog.underlying 73=some (.struct valFields.toList.toArray):=by kernel_rfl
theorem Z1u:Tryz.prog.stoodInHeld 73=false:=by kernel_rfl
theorem Z14:Tryz.prog.eqGuardType Tryz.prog.depth 73=false:=by kernel_rfl
theorem Z47:OffB 0 valFields.toList=true:=by kernel_rfl
theorem Z3o (a b:VX):FitB Tryz.prog valFields.toList (valVs a) (valVs b)=true:=by kernel_rfl
theorem eqVal (a b:VX):z5b (valVs a) (valVs b)=decide (a=b):=by
 obtain ⟨k,i,s⟩:=a
 obtain ⟨k',i',s'⟩:=b
 have:z5b (valVs ⟨k,i,s⟩) (valVs ⟨k',i',s'⟩)=(decide (k=k') && (decide (i=i') && (decide (s=s') && true))):=by
  have e:((⟨s.toArray⟩:ByteArray) == ⟨s'.toArray⟩)=decide (s=s'):=by
   show (s.toArray == s'.toArray)=_
   rw [Bool.eq_iff_iff,beq_iff_eq,zdt]
   exact ⟨fun h=>List.toArray_inj h,fun h=>by rw [h]⟩
  simp [z5b,zdl,txt,e]
  rw [show (k == k')=decide (k=k') from rfl,show (i == i')=decide (i=i') from rfl]
 rw [this]
 by_cases h1:k=k'<;>by_cases h2:i=i'<;>by_cases h3:s=s'<;>simp [h1,h2,h3]
theorem zj4 {X:List PanicEntry→PH→Prop} {β:Type} {E:List Value} {L:LK} {K:β→List Value→PH→LK→Prop} {H:PH} {U ty:TypeId} {a b:VX} {x y:Operand} {args:List (Nat×VE)} {k:Fm β} (hx:argEv E args x=valV a) (hy:argEv E args y=valV b) (hk:den Tryz.prog X k (E++[.bool (decide (a=b))]) H L K):den Tryz.prog X (.sem (.binOp .eql 73 x y U) ty args (.sc .bool) [] k) E H L K:=
 zs5 uValS Z1u Z14 Z47 hx hy (Z3o a b) (by rw [eqVal];exact hk)
theorem Z0o:(rowsX.all fun r=>decide ((rowsX.find? fun x=>decide (x.1=r.1))=some r))=true:=by decide +kernel
theorem Z3s {s:List UInt8} {i:Nat} {r:List UInt8×List Int} (hi:rowsX[i]?=some r) (hs:r.1=s):(rowsX.find? fun x=>decide (x.1=s))=some r:=by
 have:=List.all_eq_true.1 Z0o r (List.mem_of_getElem? hi)
 rw [←hs];exact of_decide_eq_true this
theorem zzx {s:List UInt8} (h:∀r∈rowsX,r.1≠s):(rowsX.find? fun x=>decide (x.1=s))=none:=by
 rw [List.find?_eq_none]
 intro x hx;simpa using h x hx
structure ArgsK (h:HX) (ks:List Int) (args:List VX):Prop where
 len:ks.length=args.length
 may:∀v∈args,mayV h.length v=true
 kind:∀(i:Nat) k v,ks[i]?=some k→args[i]?=some v→kOk h k v=true
theorem ArgsK.at_ {h:HX} {ks:List Int} {args:List VX} (a:ArgsK h ks args) {i:Nat} {k:Int} (hk:ks[i]?=some k):mayV h.length (args.getD i vNone)=true∧kOk h k (args.getD i vNone)=true:=by
 have hl:=(List.getElem?_eq_some_iff.1 hk).1
 have hv:args[i]?=some (args[i]'(by rw [←a.len];exact hl)):=zge _
 rw [zgd,hv]
 exact ⟨a.may _ (List.getElem_mem _),a.kind i k _ hk hv⟩
theorem z5e {h:HX} {n:Nat} {v:VX} (hm:mayV n v=true∧kOk h 1 v=true):isNum v.int=true:=by
 obtain ⟨hm,hk⟩:=hm
 have hk:v.kind=1:=by simpa [kOk] using hk
 unfold mayV at hm
 split at hm
 ·cases hm
 ·simpa [hk] using hm
theorem zwx {n:Nat} {v:VX} (hm:mayV n v=true) (h8:v.kind=8):0≤v.int∧v.int < (n:Int):=by
 unfold mayV at hm
 split at hm
 ·cases hm
 ·simpa [h8] using hm
theorem z2c {h:HX} {k:Int} {v:VX} (hk:10≤k) (hm:mayV h.length v=true∧kOk h k v=true):0≤v.int∧v.int < (h.length:Int):=by
 obtain ⟨hm,ho⟩:=hm
 refine zwx hm ?_
 unfold kOk at ho
 rw [if_pos hk] at ho
 have ho:=of_decide_eq_true ho
 unfold z0s at ho
 split at ho
 ·omega
 ·rename_i h8;exact Decidable.not_not.1 h8
section
variable {h:HX} {s:List UInt8} {args:List VX} {r:List UInt8×List Int}
theorem Z1l (hf:(rowsX.find? fun x=>decide (x.1=s))=none):doX h s args=(h,vNone,1):=by
 unfold doX;rw [hf]
theorem Z23 (hf:(rowsX.find? fun x=>decide (x.1=s))=some r) (hl:r.2.length≠args.length):doX h s args=(h,vNone,1):=by
 unfold doX;rw [hf];simp only [if_pos hl]
theorem Z3h (hf:(rowsX.find? fun x=>decide (x.1=s))=some r) (hl:r.2.length=args.length) {v:VX} (hv:v∈args) (hm:mayV h.length v=false):doX h s args=(h,vNone,1):=by
 have:args.all (mayV h.length)=false:=by
  rw [List.all_eq_false];exact ⟨v,hv,by simp [hm]⟩
 unfold doX;rw [hf];simp only [if_neg (fun hh:r.2.length≠args.length=>hh hl),this];rfl
theorem Z2h (hf:(rowsX.find? fun x=>decide (x.1=s))=some r) (hl:r.2.length=args.length) (hm:∀v∈args,mayV h.length v=true) {i:Nat} {k:Int} {v:VX} (hk:r.2[i]?=some k) (hv:args[i]?=some v) (hn:kOk h k v=false):doX h s args=(h,vNone,80):=by
 have h1:args.all (mayV h.length)=true:=List.all_eq_true.2 hm
 have h2:((r.2.zip args).all fun x=>kOk h x.1 x.2)=false:=by
  rw [List.all_eq_false]
  exact ⟨(k,v),List.mem_of_getElem? (i:=i) (by rw [List.getElem?_zip_eq_some];exact ⟨hk,hv⟩),by simp [hn]⟩
 unfold doX;rw [hf];simp only [if_neg (fun hh:r.2.length≠args.length=>hh hl),h1,h2];rfl
theorem Z45 (hf:(rowsX.find? fun x=>decide (x.1=s))=some r) (ha:ArgsK h r.2 args):doX h s args=actX h s args:=by
 have h1:args.all (mayV h.length)=true:=List.all_eq_true.2 ha.may
 have h2:((r.2.zip args).all fun x=>kOk h x.1 x.2)=true:=by
  rw [List.all_eq_true]
  rintro ⟨k,v⟩ hx
  obtain ⟨i,hi⟩:=List.getElem?_of_mem hx
  rw [List.getElem?_zip_eq_some] at hi
  exact ha.kind i k v hi.1 hi.2
 unfold doX;rw [hf];simp only [if_neg (fun hh:r.2.length≠args.length=>hh ha.len),h1,h2];rfl
end
theorem z56 (h:HX) (op:Nat) (a b:VX):(z0f h op a b).1=h:=by
 unfold z0f;simp only
 split
 ·rfl
 ·split<;>rfl
theorem Z3i {H:PH} {l:List VX} {v:Value} (h:SlR H l v) {x:VX} (hx:x∈l):VFit x:=by
 obtain ⟨i,hi⟩:=List.getElem?_of_mem hx
 obtain ⟨_,_,cs,h1,_⟩:=h.get hi
 exact (z2q h1).2
theorem Z2x:VFit vNone:=by unfold VFit vNone InI maxLen;simp
theorem Z25 {l:List VX} (h:∀x∈l,VFit x) (i:Nat):VFit (l.getD i vNone):=by
 rw [zgd]
 cases hi:l[i]? with
 | none=>exact Z2x
 | some x=>exact h x (List.mem_of_getElem? hi)
theorem Z3p (hr:Nat) (L:List (TR×List VX)) (thv:Value) (s:List UInt8) (args:List VX) (av:Value) (S K:PH) (hK:Held S K (heapI hr L thv)) (ha:SlR S args av) (ok:HeapOk (hpX L)) (hL:L.length≤16777216) :
  HpTo zcm #[pAt hr,txt s,av] S K hr (doX (hpX L) s args).1 (.tuple #[valV (doX (hpX L) s args).2.1,.int .i64 (doX (hpX L) s args).2.2]):=by
 obtain ⟨ab,ac,rfl⟩:=ha.sl
 have hamax:=ha.max
 have hmx:maxLen=9223372036854775807:=rfl
 refine zbd [pAt hr,txt s,.slice ab args.length ac] (by kernel_rfl) (by kernel_rfl) ?_
 refine z08 zh8 (hK.pure (R:=fun e S'=>∃v,e=.returned v∧SlR S' rowsX v) (Z1r S)) ?_
 rintro x K1 ⟨S1,l1,h1,rv,rfl,hv⟩
 have ha1:=ha.le l1
 obtain ⟨rb,rc,rfl⟩:=hv.sl
 refine ⟨_,[.slice rb rowsX.length rc],rfl,rfl,rfl,z05,?_⟩
 simp only [cns]
 have hrl:rowsX.length=38:=rfl
 generalize hRL:rowsX.length=RL at *
 refine ⟨fun n vs K=>∃(k:Nat) (at_:Int),k+n=RL∧vs=[.int .i64 at_,nI k]∧K=K1∧((at_=-1∧∀r∈rowsX.take k,r.1≠s)∨∃(i:Nat) (r:List UInt8×List Int),at_=(i:Int)∧rowsX[i]?=some r∧r.1=s),
  ⟨RL,0,-1,by omega,rfl,rfl,.inl ⟨rfl,by simp⟩⟩,?_⟩
 rintro n vs K2 _ ⟨k,at_,hkn,rfl,rfl,hat⟩
 simp only [cns]
 refine ⟨fun g=>?_,fun g=>?_⟩
 ·simp only [evs,evb,zdt] at g
  obtain ⟨r,hr1⟩:∃r,rowsX[k]?=some r:=⟨_,zge (by omega)⟩
  obtain ⟨x1,_,cs,x2,x3⟩:=hv.get hr1
  obtain ⟨v2,rfl,x4,x5⟩:=prim_iff.1 x2
  refine ⟨fun _=>?_,[txt r.1],rfl,?_,_,z06,n - 1,by omega,k+1,if r.1=s then (k:Int) else at_,by omega,?_,rfl,?_⟩
  ·simp only [Chk.holds,evs,evb];exact ⟨x1,by omega,by omega⟩
  ·simp only [evs,evb];exact z0b h1.sh (zrr x3)
  ·have hw:IntKind.i64.wrap ((k:Int)+1)=((k+1:Nat):Int):=by rw [w64 (by omega) (by omega)];rfl
   simp only [evs,evb,z09,hw]
   by_cases e:r.1=s<;>simp [e]
  ·by_cases e:r.1=s
   ·rw [if_pos e];exact .inr ⟨k,r,rfl,hr1,e⟩
   ·rw [if_neg e]
    rcases hat with ⟨rfl,hn⟩ | hat
    ·refine .inl ⟨rfl,fun r' hr'=>?_⟩
     rw [List.take_add_one,List.mem_append] at hr'
     rcases hr' with hr' | hr'
     ·exact hn r' hr'
     ·rw [hr1] at hr'
      rw [List.mem_singleton.1 hr'];exact e
    ·exact .inr hat
 simp only [evs,evb,zdf] at g
 have hk38:k=RL:=by omega
 have stop:∀{K5:PH},Held S1 K5 (heapI hr L thv)→∀{v:VX} {e:Int},doX (hpX L) s args=(hpX L,v,e)→∃S' J',PH.le S S'∧Held S' K5 J'∧HpR hr (doX (hpX L) s args).1 (.tuple #[valV (doX (hpX L) s args).2.1,.int .i64 (doX (hpX L) s args).2.2]) (.returned (.tuple #[valV v,.int .i64 e])) S' J':=fun h5 _ _ he=>by
  rw [he];exact ⟨S1,_,l1,h5,rfl,L,thv,rfl,rfl⟩
 refine ⟨fun vs K=>K=K2∧((vs=[.bool true]∧doX (hpX L) s args=(hpX L,vNone,1))∨(vs=[.bool false]∧∃(i:Nat) (r:List UInt8×List Int),at_=(i:Int)∧rowsX[i]?=some r∧(rowsX.find? fun x=>decide (x.1=s))=some r∧r.2.length=args.length)),?_,?_⟩
 rotate_left
 ·rcases hat with ⟨rfl,hn⟩ | ⟨i,r,rfl,hr1,hr2⟩
  ·have hf:=Z1l (h:=hpX L) (args:=args) (zzx (s:=s) fun r hr'=>hn r (by rw [List.take_of_length_le (by omega)];exact hr'))
   refine ⟨fun hh=>by simp [Guard.holds,evs,evb] at hh,fun hh=>by simp [Guard.holds,evs,evb] at hh,fun _=>⟨_,z06,rfl,.inl ⟨rfl,hf⟩⟩,fun g2=>by simp [evs,evb] at g2⟩
  ·have hf:=Z3s hr1 hr2
   have hil:=(List.getElem?_eq_some_iff.1 hr1).1
   obtain ⟨x1,xn,cs,x2,x3⟩:=hv.get hr1
   obtain ⟨v2,rfl,x4,x5⟩:=prim_iff.1 x2
   obtain ⟨b2,c2,rfl⟩:=x5.sl
   refine ⟨fun hh=>?_,fun hh=>?_,fun g2=>?_,fun g2=>⟨[.slice b2 r.2.length c2],rfl,?_,_,z06,rfl,?_⟩⟩
   ·simp only [Chk.holds,evs,evb];exact ⟨x1,by omega,by omega⟩
   ·simp only [Chk.holds,evs,evb];exact xn
   ·simp only [evs,evb,zdt] at g2;omega
   ·simp only [evs,evb];exact z0b h1.sh (z5y x3)
   ·by_cases e:r.2.length=args.length
    ·exact .inr ⟨by simp [evs,evb,e],i,r,rfl,hr1,hf,e⟩
    ·exact .inl ⟨by simp [evs,evb];omega,Z23 hf e⟩
 rintro vs K3 _ ⟨rfl,hJ⟩
 rcases hJ with ⟨rfl,hf⟩ | ⟨rfl,i,r,rfl,hr1,hf,hlen⟩
 ·exact ⟨fun _=>stop h1 hf,fun g2=>by simp [evs,evb] at g2⟩
 refine ⟨fun g2=>by simp [evs,evb] at g2,fun _=>?_⟩
 clear hat g hkn hk38
 simp only [cns]
 have hil:=(List.getElem?_eq_some_iff.1 hr1).1
 refine ⟨fun n vs K=>∃(k:Nat),k+n=args.length∧vs=[.int .i64 0,nI k,.int .i64 0,.int .i64 0,txt []]∧Held S1 K (heapI hr L thv)∧∀v∈args.take k,mayV (hpX L).length v=true,
  ⟨args.length,0,by omega,rfl,h1,by simp⟩,?_⟩
 rintro n vs K4 _ ⟨k,hkn,rfl,h4,hmay⟩
 simp only [cns]
 refine ⟨fun g=>?_,fun g=>?_⟩
 ·simp only [evs,evb,zdt] at g
  obtain ⟨v,hv1⟩:∃v,args[k]?=some v:=⟨_,zge (by omega)⟩
  obtain ⟨x1,_,cs,x2,x3⟩:=ha1.get hv1
  obtain ⟨rfl,x4⟩:=z2q x2
  refine ⟨fun _=>?_,valVs v,rfl,?_,?_⟩
  ·simp only [Chk.holds,evs,evb];exact ⟨x1,by omega,by omega⟩
  ·simp only [evs,evb];exact z0b h4.sh x3
  simp only [cns]
  refine z07 [.bool (mayV (hpX L).length v)] z4p (zp5 (hpX L) hr v x4 K4 (zlw (I:=[]) (z82 h4))) rfl z05 fun K5 l5=>?_
  refine ⟨fun g2=>?_,fun g2=>?_⟩
  ·simp only [evs,evb,Bool.not_eq_true'] at g2
   exact stop (h4.le l5) (Z3h hf hlen (List.mem_of_getElem? hv1) g2)
  ·simp only [evs,evb,Bool.not_eq_false'] at g2
   refine ⟨_,z06,n - 1,by omega,k+1,by omega,?_,h4.le l5,?_⟩
   ·have hw:IntKind.i64.wrap ((k:Int)+1)=((k+1:Nat):Int):=by rw [w64 (by omega) (by omega)];rfl
    simp only [evs,evb,hw]
   ·intro v' hv'
    rw [List.take_add_one,List.mem_append,hv1] at hv'
    rcases hv' with hv' | hv'
    ·exact hmay v' hv'
    ·rw [List.mem_singleton.1 hv'];exact g2
 simp only [evs,evb,zdf] at g
 have hmay:∀v∈args,mayV (hpX L).length v=true:=fun v hv'=>hmay v (by rw [List.take_of_length_le (by omega)];exact hv')
 clear hkn g
 refine ⟨fun n vs K=>∃(k0:Nat),k0+n=args.length∧vs=[.int .i64 0,nI k0,.int .i64 0,.int .i64 0,txt []]∧Held S1 K (heapI hr L thv)∧∀(j:Nat) kk v,j < k0→r.2[j]?=some kk→args[j]?=some v→kOk (hpX L) kk v=true,
  ⟨args.length,0,by omega,rfl,h4,fun j _ _ hj=>absurd hj (by omega)⟩,?_⟩
 rintro n vs K5 _ ⟨k0,hkn,rfl,h5,hkind⟩
 simp only [cns]
 refine ⟨fun g=>?_,fun g=>?_⟩
 ·simp only [evs,evb,zdt] at g
  obtain ⟨v,hv1⟩:∃v,args[k0]?=some v:=⟨_,zge (by omega)⟩
  obtain ⟨kk,hk1⟩:∃kk,r.2[k0]?=some kk:=⟨_,zge (by omega)⟩
  obtain ⟨y1,yn,cs,y2,y3⟩:=ha1.get hv1
  obtain ⟨rfl,y4⟩:=z2q y2
  obtain ⟨x1,xn,cs,x2,x3⟩:=hv.get hr1
  obtain ⟨v2,rfl,x4,x5⟩:=prim_iff.1 x2
  obtain ⟨b2,c2,rfl⟩:=x5.sl
  obtain ⟨z1,_,cs,z2,z3⟩:=x5.get hk1
  obtain ⟨rfl,z4⟩:=csIK z2
  refine ⟨fun _=>?_,[.slice b2 r.2.length c2],rfl,?_,fun _=>?_,[.int .i64 kk],rfl,?_,?_⟩
  ·simp only [Chk.holds,evs,evb];exact ⟨x1,by omega,by omega⟩
  ·simp only [evs,evb];exact z0b h5.sh (z5y x3)
  ·simp only [Chk.holds,evs,evb];exact ⟨z1,by omega,by omega⟩
  ·simp only [evs,evb];exact z0b h5.sh z3
  simp only [cns]
  refine ⟨fun vs K=>vs=[.bool (!kOk (hpX L) kk v)]∧Held S1 K (heapI hr L thv),?_,fun _=>?_,fun g2=>?_,fun g2=>?_⟩
  ·rintro vs K6 _ ⟨rfl,h6⟩
   refine ⟨fun g2=>?_,fun g2=>?_⟩
   ·simp only [evs,evb,Bool.not_eq_true'] at g2
    exact stop h6 (Z2h hf hlen hmay hk1 hv1 g2)
   ·simp only [evs,evb,Bool.not_eq_false'] at g2
    refine ⟨_,z06,n - 1,by omega,k0+1,by omega,?_,h6,?_⟩
    ·have hw:IntKind.i64.wrap ((k0:Int)+1)=((k0+1:Nat):Int):=by rw [w64 (by omega) (by omega)];rfl
     simp only [evs,evb,hw]
    ·intro j kk' v' hj hk2 hv2
     rcases Nat.lt_succ_iff_lt_or_eq.1 hj with hj | rfl
     ·exact hkind j kk' v' hj hk2 hv2
     ·rw [hk1] at hk2;rw [hv1] at hv2
      cases hk2;cases hv2;exact g2
  ·simp only [Chk.holds,evs,evb];exact ⟨y1,by omega,by omega⟩
  ·simp only [evs,evb,ge_iff_le,zdt] at g2
   refine ⟨valVs v,rfl,by simp only [evs,evb];exact z0b h5.sh y3,?_⟩
   simp only [cns]
   refine z07 [.int .i64 (z0s (hpX L) v)] z0z (z5c (hpX L) hr v (hmay v (List.mem_of_getElem? hv1)) K5 (zlw (I:=[]) (z82 h5))) rfl z05 fun K6 l6=>?_
   have hw:IntKind.i64.wrap (kk - 10)=kk - 10:=by have:=z4;unfold InI at this;exact w64 (by omega) (by omega)
   have hkk:kOk (hpX L) kk v=decide (z0s (hpX L) v=kk - 10):=by unfold kOk;rw [if_pos g2]
   refine ⟨fun _=>?_,fun _=>?_,fun g3=>?_,fun g3=>⟨fun g4=>?_,fun g4=>?_⟩⟩
   ·simp only [Chk.holds,evs,evb];exact ⟨y1,by omega,by omega⟩
   ·simp only [Chk.holds,evs,evb];exact yn
   ·simp only [evs,evb,hw,zdt] at g3
    exact ⟨_,z06,by simp [evs,evb,hkk,g3],h5.le l6⟩
   ·exfalso
    simp only [evs,evb] at g4
    simp only [zba,zdt] at g4
    omega
   ·simp only [evs,evb,hw,zdf,ne_eq,Decidable.not_not] at g3
    exact ⟨_,z06,by simp [evs,evb,hkk,g3],h5.le l6⟩
  ·simp only [evs,evb,ge_iff_le,zdf] at g2
   refine ⟨fun _=>?_,fun _=>?_,fun g3=>?_,fun g3=>?_⟩
   ·simp only [Chk.holds,evs,evb];exact ⟨y1,by omega,by omega⟩
   ·simp only [Chk.holds,evs,evb];exact yn
   ·simp only [evs,evb] at g3
    simp only [zba,zdt,ge_iff_le] at g3
    have hkk:kOk (hpX L) kk v=decide (v.kind=kk):=by unfold kOk;rw [if_neg g2,if_pos g3.1]
    refine ⟨[.int .i64 v.kind],rfl,?_,_,z06,?_,h5⟩
    ·simp only [evs,evb]
     exact z0b h5.sh (z2o y3 0 1)
    ·by_cases e:v.kind=kk<;>simp [evs,evb,hkk,e]
   ·simp only [evs,evb] at g3
    simp only [Bool.and_eq_false_iff,zdf,ge_iff_le] at g3
    have hkk:kOk (hpX L) kk v=true:=by unfold kOk;rw [if_neg g2,if_neg (by omega)]
    exact ⟨_,z06,by simp [evs,evb,hkk],h5⟩
 simp only [evs,evb,zdf] at g
 have hak:ArgsK (hpX L) r.2 args:=⟨hlen,hmay,fun j kk v hj hv'=>hkind j kk v (by have:=(List.getElem?_eq_some_iff.1 hv').1;omega) hj hv'⟩
 have hdo:=Z45 hf hak
 have hfit:∀i,VFit (args.getD i vNone):=Z25 fun x hx=>Z3i ha1 hx
 clear hkind hmay h4 h1
 have get:∀(j:Nat),j < args.length→(ab.isSome=true)∧rowAt K5 (pOf (eltV (.slice ab args.length ac) (j:Int) 3)) (valVs (args.getD j vNone)):=fun j hj=>by
  obtain ⟨v,hv1⟩:∃v,args[j]?=some v:=⟨_,zge hj⟩
  obtain ⟨y1,yn,cs,y2,y3⟩:=ha1.get hv1
  obtain ⟨rfl,y4⟩:=z2q y2
  rw [zgd,hv1]
  exact ⟨y1,z0b h5.sh y3⟩
 have over:∀(j:Nat),args.length≤j→args.getD j vNone=vNone:=fun j hj=>by
  rw [zgd,List.getElem?_eq_none hj];rfl
 have hat5:=zlw (I:=[]) (z82 h5)
 refine ⟨fun vs K=>vs=valVs (args.getD 0 vNone)∧K5=K,?_,fun g2=>?_,fun g2=>?_⟩
 rotate_left
 ·simp only [evs,evb,zdt] at g2
  obtain ⟨y1,y3⟩:=get 0 (by omega)
  refine ⟨fun _=>?_,valVs (args.getD 0 vNone),rfl,by simp only [evs,evb];exact y3,_,z06,rfl,rfl⟩
  simp only [Chk.holds,evs,evb];exact ⟨y1,by omega,by omega⟩
 ·simp only [evs,evb,zdf] at g2
  exact ⟨_,z06,by rw [over 0 (by omega)];rfl,rfl⟩
 rintro vs K _ ⟨rfl,rfl⟩
 simp only [cns]
 refine ⟨fun vs K=>vs=valVs (args.getD 1 vNone)∧K5=K,?_,fun g2=>?_,fun g2=>?_⟩
 rotate_left
 ·simp only [evs,evb,zdt] at g2
  obtain ⟨y1,y3⟩:=get 1 (by omega)
  refine ⟨fun _=>?_,valVs (args.getD 1 vNone),rfl,by simp only [evs,evb];exact y3,_,z06,rfl,rfl⟩
  simp only [Chk.holds,evs,evb];exact ⟨y1,by omega,by omega⟩
 ·simp only [evs,evb,zdf] at g2
  exact ⟨_,z06,by rw [over 1 (by omega)];rfl,rfl⟩
 rintro vs K _ ⟨rfl,rfl⟩
 simp only [cns]
 refine ⟨fun vs K=>vs=valVs (args.getD 2 vNone)∧K5=K,?_,fun g2=>?_,fun g2=>?_⟩
 rotate_left
 ·simp only [evs,evb,zdt] at g2
  obtain ⟨y1,y3⟩:=get 2 (by omega)
  refine ⟨fun _=>?_,valVs (args.getD 2 vNone),rfl,by simp only [evs,evb];exact y3,_,z06,rfl,rfl⟩
  simp only [Chk.holds,evs,evb];exact ⟨y1,by omega,by omega⟩
 ·simp only [evs,evb,zdf] at g2
  exact ⟨_,z06,by rw [over 2 (by omega)];rfl,rfl⟩
 rintro vs K _ ⟨rfl,rfl⟩
 simp only [cns]
 obtain ⟨A,hA⟩:∃A,args.getD 0 vNone=A:=⟨_,rfl⟩
 obtain ⟨B,hB⟩:∃B,args.getD 1 vNone=B:=⟨_,rfl⟩
 obtain ⟨C,hC⟩:∃C,args.getD 2 vNone=C:=⟨_,rfl⟩
 have fA:=hfit 0
 have fB:=hfit 1
 have fC:=hfit 2
 rw [hA] at fA
 rw [hB] at fB
 rw [hC] at fC
 simp only [hA,hB,hC]
 refine ⟨fun gg=>?_,fun gg=>?_⟩
 ·simp only [evs,evb,z09,zdt] at gg
  subst gg
  obtain rfl:([43],[1,1])=r:=Option.some.inj (Eq.trans (by kernel_rfl) hf)
  have q0:=z5e (hak.at_ (i:=0) (k:=1) rfl)
  have q1:=z5e (hak.at_ (i:=1) (k:=1) rfl)
  rw [hA] at q0
  rw [hB] at q1
  have hact:doX (hpX L) [43] args=z0f (hpX L) 0 A B:=by rw [hdo,←hA,←hB];rfl
  refine z08 z1b (z4f 0 (by omega) A B (hpX L) q0 q1 K5) ?_
  rintro x K6 ⟨rfl,l6⟩
  exact ⟨_,valVs (z0f (hpX L) 0 A B).2.1++[Value.int .i64 (z0f (hpX L) 0 A B).2.2],rfl,rfl,rfl,z05,stop (h5.le l6) (hact.trans (Prod.ext (z56 ..) rfl))⟩
 simp only [evs,evb,z09,zdf] at gg
 refine ⟨fun gg=>?_,fun gg=>?_⟩
 ·simp only [evs,evb,z09,zdt] at gg
  subst gg
  obtain rfl:([45],[1,1])=r:=Option.some.inj (Eq.trans (by kernel_rfl) hf)
  have q0:=z5e (hak.at_ (i:=0) (k:=1) rfl)
  have q1:=z5e (hak.at_ (i:=1) (k:=1) rfl)
  rw [hA] at q0
  rw [hB] at q1
  have hact:doX (hpX L) [45] args=z0f (hpX L) 1 A B:=by rw [hdo,←hA,←hB];rfl
  refine z08 z1b (z4f 1 (by omega) A B (hpX L) q0 q1 K5) ?_
  rintro x K6 ⟨rfl,l6⟩
  exact ⟨_,valVs (z0f (hpX L) 1 A B).2.1++[Value.int .i64 (z0f (hpX L) 1 A B).2.2],rfl,rfl,rfl,z05,stop (h5.le l6) (hact.trans (Prod.ext (z56 ..) rfl))⟩
 simp only [evs,evb,z09,zdf] at gg
 refine ⟨fun gg=>?_,fun gg=>?_⟩
 ·simp only [evs,evb,z09,zdt] at gg
  subst gg
  obtain rfl:([42],[1,1])=r:=Option.some.inj (Eq.trans (by kernel_rfl) hf)
  have q0:=z5e (hak.at_ (i:=0) (k:=1) rfl)
  have q1:=z5e (hak.at_ (i:=1) (k:=1) rfl)
  rw [hA] at q0
  rw [hB] at q1
  have hact:doX (hpX L) [42] args=z0f (hpX L) 2 A B:=by rw [hdo,←hA,←hB];rfl
  refine z08 z1b (z4f 2 (by omega) A B (hpX L) q0 q1 K5) ?_
  rintro x K6 ⟨rfl,l6⟩
  exact ⟨_,valVs (z0f (hpX L) 2 A B).2.1++[Value.int .i64 (z0f (hpX L) 2 A B).2.2],rfl,rfl,rfl,z05,stop (h5.le l6) (hact.trans (Prod.ext (z56 ..) rfl))⟩
 simp only [evs,evb,z09,zdf] at gg
 refine ⟨fun gg=>?_,fun gg=>?_⟩
 ·simp only [evs,evb,z09,zdt] at gg
  subst gg
  obtain rfl:([113,117,111,116,105,101,110,116],[1,1])=r:=Option.some.inj (Eq.trans (by kernel_rfl) hf)
  have q0:=z5e (hak.at_ (i:=0) (k:=1) rfl)
  have q1:=z5e (hak.at_ (i:=1) (k:=1) rfl)
  rw [hA] at q0
  rw [hB] at q1
  have hact:doX (hpX L) [113,117,111,116,105,101,110,116] args=z0f (hpX L) 3 A B:=by rw [hdo,←hA,←hB];rfl
  refine z08 z1b (z4f 3 (by omega) A B (hpX L) q0 q1 K5) ?_
  rintro x K6 ⟨rfl,l6⟩
  exact ⟨_,valVs (z0f (hpX L) 3 A B).2.1++[Value.int .i64 (z0f (hpX L) 3 A B).2.2],rfl,rfl,rfl,z05,stop (h5.le l6) (hact.trans (Prod.ext (z56 ..) rfl))⟩
 simp only [evs,evb,z09,zdf] at gg
 refine ⟨fun gg=>?_,fun gg=>?_⟩
 ·simp only [evs,evb,z09,zdt] at gg
  subst gg
  obtain rfl:([114,101,109,97,105,110,100,101,114],[1,1])=r:=Option.some.inj (Eq.trans (by kernel_rfl) hf)
  have q0:=z5e (hak.at_ (i:=0) (k:=1) rfl)
  have q1:=z5e (hak.at_ (i:=1) (k:=1) rfl)
  rw [hA] at q0
  rw [hB] at q1
  have hact:doX (hpX L) [114,101,109,97,105,110,100,101,114] args=z0f (hpX L) 4 A B:=by rw [hdo,←hA,←hB];rfl
  refine z08 z1b (z4f 4 (by omega) A B (hpX L) q0 q1 K5) ?_
  rintro x K6 ⟨rfl,l6⟩
  exact ⟨_,valVs (z0f (hpX L) 4 A B).2.1++[Value.int .i64 (z0f (hpX L) 4 A B).2.2],rfl,rfl,rfl,z05,stop (h5.le l6) (hact.trans (Prod.ext (z56 ..) rfl))⟩
 simp only [evs,evb,z09,zdf] at gg
 refine ⟨fun gg=>?_,fun gg=>?_⟩
 ·simp only [evs,evb,z09,zdt] at gg
  subst gg
  obtain rfl:([60],[1,1])=r:=Option.some.inj (Eq.trans (by kernel_rfl) hf)
  have hact:doX (hpX L) [60] args=(hpX L,z0g (decide (A.int < B.int)),0):=by rw [hdo,←hA,←hB];rfl
  refine z07 (valVs (z0g (decide (A.int < B.int)))) z0h (z1e (decide (A.int < B.int)) K5) rfl z05 fun K6 l6=>?_
  exact stop (h5.le l6) hact
 simp only [evs,evb,z09,zdf] at gg
 refine ⟨fun gg=>?_,fun gg=>?_⟩
 ·have gg:s=[61]∨s=[101,113,63]:=by
   simp only [evs,evb,z09] at gg
   by_cases e:s=[61]
   ·exact .inl e
   ·simp only [e,decide_false,Bool.false_eq_true,if_false,zdt] at gg;exact .inr gg
  rcases gg with rfl | rfl
  ·obtain rfl:([61],[1,1])=r:=Option.some.inj (Eq.trans (by kernel_rfl) hf)
   have hact:doX (hpX L) [61] args=(hpX L,z0g (decide (A=B)),0):=by rw [hdo,←hA,←hB];rfl
   refine zj4 (a:=A) (b:=B) (by kernel_rfl) (by kernel_rfl) ?_
   refine z07 (valVs (z0g (decide (A=B)))) z0h (z1e (decide (A=B)) K5) rfl z05 fun K6 l6=>?_
   exact stop (h5.le l6) hact
  ·obtain rfl:([101,113,63],[-1,-1])=r:=Option.some.inj (Eq.trans (by kernel_rfl) hf)
   have hact:doX (hpX L) [101,113,63] args=(hpX L,z0g (decide (A=B)),0):=by rw [hdo,←hA,←hB];rfl
   refine zj4 (a:=A) (b:=B) (by kernel_rfl) (by kernel_rfl) ?_
   refine z07 (valVs (z0g (decide (A=B)))) z0h (z1e (decide (A=B)) K5) rfl z05 fun K6 l6=>?_
   exact stop (h5.le l6) hact
 have gg:¬(s=[61]∨s=[101,113,63]):=by
  simp only [evs,evb,z09] at gg
  by_cases e:s=[61]
  ·simp [e] at gg
  ·simpa [e] using gg
 refine ⟨fun gg=>?_,fun gg=>?_⟩
 ·simp only [evs,evb,z09,zdt] at gg
  subst gg
  obtain rfl:([110,117,108,108,63],[-1])=r:=Option.some.inj (Eq.trans (by kernel_rfl) hf)
  have hact:doX (hpX L) [110,117,108,108,63] args=(hpX L,z0g (decide (A.kind=4)),0):=by rw [hdo,←hA];rfl
  refine z07 (valVs (z0g (decide (A.kind=4)))) z0h (z1e (decide (A.kind=4)) K5) rfl z05 fun K6 l6=>?_
  exact stop (h5.le l6) hact
 simp only [evs,evb,z09,zdf] at gg
 refine ⟨fun gg=>?_,fun gg=>?_⟩
 ·simp only [evs,evb,z09,zdt] at gg
  subst gg
  obtain rfl:([115,121,109,98,111,108,63],[-1])=r:=Option.some.inj (Eq.trans (by kernel_rfl) hf)
  have hact:doX (hpX L) [115,121,109,98,111,108,63] args=(hpX L,z0g (decide (A.kind=3)),0):=by rw [hdo,←hA];rfl
  refine z07 (valVs (z0g (decide (A.kind=3)))) z0h (z1e (decide (A.kind=3)) K5) rfl z05 fun K6 l6=>?_
  exact stop (h5.le l6) hact
 simp only [evs,evb,z09,zdf] at gg
 refine ⟨fun gg=>?_,fun gg=>?_⟩
 ·simp only [evs,evb,z09,zdt] at gg
  subst gg
  obtain rfl:([99,104,97,114,63],[-1])=r:=Option.some.inj (Eq.trans (by kernel_rfl) hf)
  have hact:doX (hpX L) [99,104,97,114,63] args=(hpX L,z0g (decide (A.kind=2)),0):=by rw [hdo,←hA];rfl
  refine z07 (valVs (z0g (decide (A.kind=2)))) z0h (z1e (decide (A.kind=2)) K5) rfl z05 fun K6 l6=>?_
  exact stop (h5.le l6) hact
 simp only [evs,evb,z09,zdf] at gg
 refine ⟨fun gg=>?_,fun gg=>?_⟩
 ·simp only [evs,evb,z09,zdt] at gg
  subst gg
  obtain rfl:([105,110,116,101,103,101,114,63],[-1])=r:=Option.some.inj (Eq.trans (by kernel_rfl) hf)
  have hact:doX (hpX L) [105,110,116,101,103,101,114,63] args=(hpX L,z0g (decide (A.kind=1)),0):=by rw [hdo,←hA];rfl
  refine z07 (valVs (z0g (decide (A.kind=1)))) z0h (z1e (decide (A.kind=1)) K5) rfl z05 fun K6 l6=>?_
  exact stop (h5.le l6) hact
 simp only [evs,evb,z09,zdf] at gg
 refine ⟨fun gg=>?_,fun gg=>?_⟩
 ·simp only [evs,evb,z09,zdt] at gg
  subst gg
  obtain rfl:([98,111,111,108,101,97,110,63],[-1])=r:=Option.some.inj (Eq.trans (by kernel_rfl) hf)
  have hact:doX (hpX L) [98,111,111,108,101,97,110,63] args=(hpX L,z0g (decide (A.kind=0)),0):=by rw [hdo,←hA];rfl
  refine z07 (valVs (z0g (decide (A.kind=0)))) z0h (z1e (decide (A.kind=0)) K5) rfl z05 fun K6 l6=>?_
  exact stop (h5.le l6) hact
 simp only [evs,evb,z09,zdf] at gg
 refine ⟨fun gg=>?_,fun gg=>?_⟩
 ·simp only [evs,evb,z09,zdt] at gg
  subst gg
  obtain rfl:([101,111,102,45,111,98,106,101,99,116,63],[-1])=r:=Option.some.inj (Eq.trans (by kernel_rfl) hf)
  have hact:doX (hpX L) [101,111,102,45,111,98,106,101,99,116,63] args=(hpX L,z0g (decide (A.kind=6)),0):=by rw [hdo,←hA];rfl
  refine z07 (valVs (z0g (decide (A.kind=6)))) z0h (z1e (decide (A.kind=6)) K5) rfl z05 fun K6 l6=>?_
  exact stop (h5.le l6) hact
 simp only [evs,evb,z09,zdf] at gg
 refine ⟨fun gg=>?_,fun gg=>?_⟩
 ·simp only [evs,evb,z09,zdt] at gg
  subst gg
  obtain rfl:([112,97,105,114,63],[-1])=r:=Option.some.inj (Eq.trans (by kernel_rfl) hf)
  have q0:=(hak.at_ (i:=0) (k:=-1) rfl).1
  rw [hA] at q0
  have hact:doX (hpX L) [112,97,105,114,63] args=(hpX L,z0g (decide (z0s (hpX L) A=0)),0):=by rw [hdo,←hA];rfl
  refine z07 [.int .i64 (z0s (hpX L) A)] z0z (z5c (hpX L) hr A q0 K5 hat5) rfl z05 fun K6 l6=>?_
  refine z07 (valVs (z0g (decide (z0s (hpX L) A=0)))) z0h (z1e (decide (z0s (hpX L) A=0)) K6) rfl z05 fun K7 l7=>?_
  exact stop (h5.le (PH.le_trans l6 l7)) hact
 simp only [evs,evb,z09,zdf] at gg
 refine ⟨fun gg=>?_,fun gg=>?_⟩
 ·simp only [evs,evb,z09,zdt] at gg
  subst gg
  obtain rfl:([118,101,99,116,111,114,63],[-1])=r:=Option.some.inj (Eq.trans (by kernel_rfl) hf)
  have q0:=(hak.at_ (i:=0) (k:=-1) rfl).1
  rw [hA] at q0
  have hact:doX (hpX L) [118,101,99,116,111,114,63] args=(hpX L,z0g (decide (z0s (hpX L) A=1)),0):=by rw [hdo,←hA];rfl
  refine z07 [.int .i64 (z0s (hpX L) A)] z0z (z5c (hpX L) hr A q0 K5 hat5) rfl z05 fun K6 l6=>?_
  refine z07 (valVs (z0g (decide (z0s (hpX L) A=1)))) z0h (z1e (decide (z0s (hpX L) A=1)) K6) rfl z05 fun K7 l7=>?_
  exact stop (h5.le (PH.le_trans l6 l7)) hact
 simp only [evs,evb,z09,zdf] at gg
 refine ⟨fun gg=>?_,fun gg=>?_⟩
 ·simp only [evs,evb,z09,zdt] at gg
  subst gg
  obtain rfl:([115,116,114,105,110,103,63],[-1])=r:=Option.some.inj (Eq.trans (by kernel_rfl) hf)
  have q0:=(hak.at_ (i:=0) (k:=-1) rfl).1
  rw [hA] at q0
  have hact:doX (hpX L) [115,116,114,105,110,103,63] args=(hpX L,z0g (decide (z0s (hpX L) A=2)),0):=by rw [hdo,←hA];rfl
  refine z07 [.int .i64 (z0s (hpX L) A)] z0z (z5c (hpX L) hr A q0 K5 hat5) rfl z05 fun K6 l6=>?_
  refine z07 (valVs (z0g (decide (z0s (hpX L) A=2)))) z0h (z1e (decide (z0s (hpX L) A=2)) K6) rfl z05 fun K7 l7=>?_
  exact stop (h5.le (PH.le_trans l6 l7)) hact
 simp only [evs,evb,z09,zdf] at gg
 refine ⟨fun gg=>?_,fun gg=>?_⟩
 ·simp only [evs,evb,z09,zdt] at gg
  subst gg
  obtain rfl:([112,114,111,99,101,100,117,114,101,63],[-1])=r:=Option.some.inj (Eq.trans (by kernel_rfl) hf)
  have q0:=(hak.at_ (i:=0) (k:=-1) rfl).1
  rw [hA] at q0
  have hact:doX (hpX L) [112,114,111,99,101,100,117,114,101,63] args=(hpX L,z0g (decide (z0s (hpX L) A=4)),0):=by rw [hdo,←hA];rfl
  refine z07 [.int .i64 (z0s (hpX L) A)] z0z (z5c (hpX L) hr A q0 K5 hat5) rfl z05 fun K6 l6=>?_
  refine z07 (valVs (z0g (decide (z0s (hpX L) A=4)))) z0h (z1e (decide (z0s (hpX L) A=4)) K6) rfl z05 fun K7 l7=>?_
  exact stop (h5.le (PH.le_trans l6 l7)) hact
 simp only [evs,evb,z09,zdf] at gg
 refine ⟨fun gg=>?_,fun gg=>?_⟩
 ·simp only [evs,evb,z09,zdt] at gg
  subst gg
  obtain rfl:([99,111,110,115],[-1,-1])=r:=Option.some.inj (Eq.trans (by kernel_rfl) hf)
  have hact:doX (hpX L) [99,111,110,115] args=((addX (hpX L) 0 args).1,(addX (hpX L) 0 args).2,0):=by rw [hdo];rfl
  have hlen:2=args.length:=hlen
  refine z08 z1p (zjn hr L thv 0 args (.slice ab args.length ac) S1 K5 h5 ha1 (by unfold InI;omega) hL (by omega)) ?_
  rintro x K6 ⟨S2,J2,l2,h2,rfl,L',thv',rfl,hh⟩
  refine ⟨_,valVs (addX (hpX L) 0 args).2,rfl,rfl,rfl,z05,?_⟩
  rw [hact]
  exact ⟨S2,_,PH.le_trans l1 l2,h2,rfl,L',thv',rfl,hh⟩
 simp only [evs,evb,z09,zdf] at gg
 refine ⟨fun gg=>?_,fun gg=>?_⟩
 ·simp only [evs,evb,z09,zdt] at gg
  subst gg
  obtain rfl:([37,98,111,120],[-1])=r:=Option.some.inj (Eq.trans (by kernel_rfl) hf)
  have hact:doX (hpX L) [37,98,111,120] args=((addX (hpX L) 3 args).1,(addX (hpX L) 3 args).2,0):=by rw [hdo];rfl
  have hlen:1=args.length:=hlen
  refine z08 z1p (zjn hr L thv 3 args (.slice ab args.length ac) S1 K5 h5 ha1 (by unfold InI;omega) hL (by omega)) ?_
  rintro x K6 ⟨S2,J2,l2,h2,rfl,L',thv',rfl,hh⟩
  refine ⟨_,valVs (addX (hpX L) 3 args).2,rfl,rfl,rfl,z05,?_⟩
  rw [hact]
  exact ⟨S2,_,PH.le_trans l1 l2,h2,rfl,L',thv',rfl,hh⟩
 simp only [evs,evb,z09,zdf] at gg
 refine ⟨fun gg=>?_,fun gg=>?_⟩
 ·simp only [evs,evb,z09,zdt] at gg
  subst gg
  obtain rfl:([109,97,107,101,45,118,101,99,116,111,114],[1,-1])=r:=Option.some.inj (Eq.trans (by kernel_rfl) hf)
  have hact:doX (hpX L) [109,97,107,101,45,118,101,99,116,111,114] args=z1f (hpX L) 1 A.int B:=by rw [hdo,←hA,←hB];rfl
  refine z08 z3m (zn0 hr L thv 1 A.int B S1 K5 h5 fB (by unfold InI;omega) hL) ?_
  rintro x K6 ⟨S2,J2,l2,h2,rfl,L',thv',rfl,hh⟩
  refine ⟨_,valVs (z1f (hpX L) 1 A.int B).2.1++[Value.int .i64 (z1f (hpX L) 1 A.int B).2.2],rfl,rfl,rfl,z05,?_⟩
  rw [hact]
  exact ⟨S2,_,PH.le_trans l1 l2,h2,rfl,L',thv',rfl,hh⟩
 simp only [evs,evb,z09,zdf] at gg
 refine ⟨fun gg=>?_,fun gg=>?_⟩
 ·simp only [evs,evb,z09,zdt] at gg
  subst gg
  obtain rfl:([109,97,107,101,45,115,116,114,105,110,103],[1,2])=r:=Option.some.inj (Eq.trans (by kernel_rfl) hf)
  have hact:doX (hpX L) [109,97,107,101,45,115,116,114,105,110,103] args=z1f (hpX L) 2 A.int B:=by rw [hdo,←hA,←hB];rfl
  refine z08 z3m (zn0 hr L thv 2 A.int B S1 K5 h5 fB (by unfold InI;omega) hL) ?_
  rintro x K6 ⟨S2,J2,l2,h2,rfl,L',thv',rfl,hh⟩
  refine ⟨_,valVs (z1f (hpX L) 2 A.int B).2.1++[Value.int .i64 (z1f (hpX L) 2 A.int B).2.2],rfl,rfl,rfl,z05,?_⟩
  rw [hact]
  exact ⟨S2,_,PH.le_trans l1 l2,h2,rfl,L',thv',rfl,hh⟩
 simp only [evs,evb,z09,zdf] at gg
 refine ⟨fun gg=>?_,fun gg=>?_⟩
 ·have gg:s=[118,101,99,116,111,114,45,108,101,110,103,116,104]∨s=[115,116,114,105,110,103,45,108,101,110,103,116,104]:=by
   simp only [evs,evb,z09] at gg
   by_cases e:s=[118,101,99,116,111,114,45,108,101,110,103,116,104]
   ·exact .inl e
   ·simp only [e,decide_false,Bool.false_eq_true,if_false,zdt] at gg;exact .inr gg
  rcases gg with rfl | rfl
  ·obtain rfl:([118,101,99,116,111,114,45,108,101,110,103,116,104],[11])=r:=Option.some.inj (Eq.trans (by kernel_rfl) hf)
   have q0:=z2c (by decide) (hak.at_ (i:=0) (k:=11) rfl)
   rw [hA] at q0
   have hact:doX (hpX L) [118,101,99,116,111,114,45,108,101,110,103,116,104] args=(hpX L,vNum ((hpX L).getD A.int.toNat default).parts.length,0):=by rw [hdo,←hA];rfl
   obtain ⟨thv5,hr5,hs5⟩:=hat5
   obtain ⟨tb,tc,rfl⟩:=hs5.sl
   obtain ⟨j,hj⟩:∃j:Nat,A.int=(j:Int):=⟨A.int.toNat,by omega⟩
   obtain ⟨t,ht⟩:∃t,(hpX L)[j]?=some t:=⟨_,zge (by omega)⟩
   obtain ⟨hsome,pv,h44,h55,h66⟩:=zdu hs5 ht
   have hgd:(hpX L).getD A.int.toNat default=t:=by rw [hj,Int.toNat_natCast,zgd,ht];rfl
   obtain ⟨pb,pc,rfl⟩:=h55.sl
   rw [hgd] at hact
   refine ⟨fun _=>by simp [Chk.holds,evs,evb],[.slice tb (hpX L).length tc],rfl,by simp only [evs,evb];exact hr5,fun _=>?_,[.slice pb t.parts.length pc],rfl,?_,?_⟩
   ·simp only [Chk.holds,evs,evb];exact ⟨hsome,by omega,by omega⟩
   ·simp only [evs,evb,hj];exact z5y h66
   refine z07 (valVs (vNum t.parts.length)) z2r (zg2 t.parts.length K5) rfl z05 fun K6 l6=>?_
   exact stop (h5.le l6) hact
  ·obtain rfl:([115,116,114,105,110,103,45,108,101,110,103,116,104],[12])=r:=Option.some.inj (Eq.trans (by kernel_rfl) hf)
   have q0:=z2c (by decide) (hak.at_ (i:=0) (k:=12) rfl)
   rw [hA] at q0
   have hact:doX (hpX L) [115,116,114,105,110,103,45,108,101,110,103,116,104] args=(hpX L,vNum ((hpX L).getD A.int.toNat default).parts.length,0):=by rw [hdo,←hA];rfl
   obtain ⟨thv5,hr5,hs5⟩:=hat5
   obtain ⟨tb,tc,rfl⟩:=hs5.sl
   obtain ⟨j,hj⟩:∃j:Nat,A.int=(j:Int):=⟨A.int.toNat,by omega⟩
   obtain ⟨t,ht⟩:∃t,(hpX L)[j]?=some t:=⟨_,zge (by omega)⟩
   obtain ⟨hsome,pv,h44,h55,h66⟩:=zdu hs5 ht
   have hgd:(hpX L).getD A.int.toNat default=t:=by rw [hj,Int.toNat_natCast,zgd,ht];rfl
   obtain ⟨pb,pc,rfl⟩:=h55.sl
   rw [hgd] at hact
   refine ⟨fun _=>by simp [Chk.holds,evs,evb],[.slice tb (hpX L).length tc],rfl,by simp only [evs,evb];exact hr5,fun _=>?_,[.slice pb t.parts.length pc],rfl,?_,?_⟩
   ·simp only [Chk.holds,evs,evb];exact ⟨hsome,by omega,by omega⟩
   ·simp only [evs,evb,hj];exact z5y h66
   refine z07 (valVs (vNum t.parts.length)) z2r (zg2 t.parts.length K5) rfl z05 fun K6 l6=>?_
   exact stop (h5.le l6) hact
 have gg:¬(s=[118,101,99,116,111,114,45,108,101,110,103,116,104]∨s=[115,116,114,105,110,103,45,108,101,110,103,116,104]):=by
  simp only [evs,evb,z09] at gg
  by_cases e:s=[118,101,99,116,111,114,45,108,101,110,103,116,104]
  ·simp [e] at gg
  ·simpa [e] using gg
 refine ⟨fun gg=>?_,fun gg=>?_⟩
 ·have gg:s=[99,97,114]∨s=[37,117,110,98,111,120]:=by
   simp only [evs,evb,z09] at gg
   by_cases e:s=[99,97,114]
   ·exact .inl e
   ·simp only [e,decide_false,Bool.false_eq_true,if_false,zdt] at gg;exact .inr gg
  rcases gg with rfl | rfl
  ·obtain rfl:([99,97,114],[10])=r:=Option.some.inj (Eq.trans (by kernel_rfl) hf)
   have q0:=z2c (by decide) (hak.at_ (i:=0) (k:=10) rfl)
   rw [hA] at q0
   have hact:doX (hpX L) [99,97,114] args=(hpX L,getX (hpX L) A 0):=by rw [hdo,←hA];rfl
   refine z08 z14 (z9b (hpX L) hr A 0 q0 K5 hat5) ?_
   rintro x K6 ⟨rfl,l6⟩
   exact ⟨_,valVs (getX (hpX L) A 0).1++[Value.int .i64 (getX (hpX L) A 0).2],rfl,rfl,rfl,z05,stop (h5.le l6) hact⟩
  ·obtain rfl:([37,117,110,98,111,120],[13])=r:=Option.some.inj (Eq.trans (by kernel_rfl) hf)
   have q0:=z2c (by decide) (hak.at_ (i:=0) (k:=13) rfl)
   rw [hA] at q0
   have hact:doX (hpX L) [37,117,110,98,111,120] args=(hpX L,getX (hpX L) A 0):=by rw [hdo,←hA];rfl
   refine z08 z14 (z9b (hpX L) hr A 0 q0 K5 hat5) ?_
   rintro x K6 ⟨rfl,l6⟩
   exact ⟨_,valVs (getX (hpX L) A 0).1++[Value.int .i64 (getX (hpX L) A 0).2],rfl,rfl,rfl,z05,stop (h5.le l6) hact⟩
 have gg:¬(s=[99,97,114]∨s=[37,117,110,98,111,120]):=by
  simp only [evs,evb,z09] at gg
  by_cases e:s=[99,97,114]
  ·simp [e] at gg
  ·simpa [e] using gg
 refine ⟨fun gg=>?_,fun gg=>?_⟩
 ·simp only [evs,evb,z09,zdt] at gg
  subst gg
  obtain rfl:([99,100,114],[10])=r:=Option.some.inj (Eq.trans (by kernel_rfl) hf)
  have q0:=z2c (by decide) (hak.at_ (i:=0) (k:=10) rfl)
  rw [hA] at q0
  have hact:doX (hpX L) [99,100,114] args=(hpX L,getX (hpX L) A 1):=by rw [hdo,←hA];rfl
  refine z08 z14 (z9b (hpX L) hr A 1 q0 K5 hat5) ?_
  rintro x K6 ⟨rfl,l6⟩
  exact ⟨_,valVs (getX (hpX L) A 1).1++[Value.int .i64 (getX (hpX L) A 1).2],rfl,rfl,rfl,z05,stop (h5.le l6) hact⟩
 simp only [evs,evb,z09,zdf] at gg
 refine ⟨fun gg=>?_,fun gg=>?_⟩
 ·have gg:s=[118,101,99,116,111,114,45,114,101,102]∨s=[115,116,114,105,110,103,45,114,101,102]:=by
   simp only [evs,evb,z09] at gg
   by_cases e:s=[118,101,99,116,111,114,45,114,101,102]
   ·exact .inl e
   ·simp only [e,decide_false,Bool.false_eq_true,if_false,zdt] at gg;exact .inr gg
  rcases gg with rfl | rfl
  ·obtain rfl:([118,101,99,116,111,114,45,114,101,102],[11,1])=r:=Option.some.inj (Eq.trans (by kernel_rfl) hf)
   have q0:=z2c (by decide) (hak.at_ (i:=0) (k:=11) rfl)
   rw [hA] at q0
   have hact:doX (hpX L) [118,101,99,116,111,114,45,114,101,102] args=(hpX L,getX (hpX L) A B.int):=by rw [hdo,←hA,←hB];rfl
   refine z08 z14 (z9b (hpX L) hr A B.int q0 K5 hat5) ?_
   rintro x K6 ⟨rfl,l6⟩
   exact ⟨_,valVs (getX (hpX L) A B.int).1++[Value.int .i64 (getX (hpX L) A B.int).2],rfl,rfl,rfl,z05,stop (h5.le l6) hact⟩
  ·obtain rfl:([115,116,114,105,110,103,45,114,101,102],[12,1])=r:=Option.some.inj (Eq.trans (by kernel_rfl) hf)
   have q0:=z2c (by decide) (hak.at_ (i:=0) (k:=12) rfl)
   rw [hA] at q0
   have hact:doX (hpX L) [115,116,114,105,110,103,45,114,101,102] args=(hpX L,getX (hpX L) A B.int):=by rw [hdo,←hA,←hB];rfl
   refine z08 z14 (z9b (hpX L) hr A B.int q0 K5 hat5) ?_
   rintro x K6 ⟨rfl,l6⟩
   exact ⟨_,valVs (getX (hpX L) A B.int).1++[Value.int .i64 (getX (hpX L) A B.int).2],rfl,rfl,rfl,z05,stop (h5.le l6) hact⟩
 have gg:¬(s=[118,101,99,116,111,114,45,114,101,102]∨s=[115,116,114,105,110,103,45,114,101,102]):=by
  simp only [evs,evb,z09] at gg
  by_cases e:s=[118,101,99,116,111,114,45,114,101,102]
  ·simp [e] at gg
  ·simpa [e] using gg
 refine ⟨fun gg=>?_,fun gg=>?_⟩
 ·have gg:s=[115,101,116,45,99,97,114,33]∨s=[37,115,101,116,45,98,111,120,33]:=by
   simp only [evs,evb,z09] at gg
   by_cases e:s=[115,101,116,45,99,97,114,33]
   ·exact .inl e
   ·simp only [e,decide_false,Bool.false_eq_true,if_false,zdt] at gg;exact .inr gg
  rcases gg with rfl | rfl
  ·obtain rfl:([115,101,116,45,99,97,114,33],[10,-1])=r:=Option.some.inj (Eq.trans (by kernel_rfl) hf)
   have q0:=z2c (by decide) (hak.at_ (i:=0) (k:=10) rfl)
   rw [hA] at q0
   have hact:doX (hpX L) [115,101,116,45,99,97,114,33] args=putX (hpX L) A 0 B:=by rw [hdo,←hA,←hB];rfl
   refine z08 z15 (ze6 hr L thv A 0 B S1 K5 h5 (by simpa [hpX] using q0) fB) ?_
   rintro x K6 ⟨S2,J2,l2,h2,rfl,L',thv',rfl,hh⟩
   refine ⟨_,valVs (putX (hpX L) A 0 B).2.1++[Value.int .i64 (putX (hpX L) A 0 B).2.2],rfl,rfl,rfl,z05,?_⟩
   rw [hact]
   exact ⟨S2,_,PH.le_trans l1 l2,h2,rfl,L',thv',rfl,hh⟩
  ·obtain rfl:([37,115,101,116,45,98,111,120,33],[13,-1])=r:=Option.some.inj (Eq.trans (by kernel_rfl) hf)
   have q0:=z2c (by decide) (hak.at_ (i:=0) (k:=13) rfl)
   rw [hA] at q0
   have hact:doX (hpX L) [37,115,101,116,45,98,111,120,33] args=putX (hpX L) A 0 B:=by rw [hdo,←hA,←hB];rfl
   refine z08 z15 (ze6 hr L thv A 0 B S1 K5 h5 (by simpa [hpX] using q0) fB) ?_
   rintro x K6 ⟨S2,J2,l2,h2,rfl,L',thv',rfl,hh⟩
   refine ⟨_,valVs (putX (hpX L) A 0 B).2.1++[Value.int .i64 (putX (hpX L) A 0 B).2.2],rfl,rfl,rfl,z05,?_⟩
   rw [hact]
   exact ⟨S2,_,PH.le_trans l1 l2,h2,rfl,L',thv',rfl,hh⟩
 have gg:¬(s=[115,101,116,45,99,97,114,33]∨s=[37,115,101,116,45,98,111,120,33]):=by
  simp only [evs,evb,z09] at gg
  by_cases e:s=[115,101,116,45,99,97,114,33]
  ·simp [e] at gg
  ·simpa [e] using gg
 refine ⟨fun gg=>?_,fun gg=>?_⟩
 ·simp only [evs,evb,z09,zdt] at gg
  subst gg
  obtain rfl:([115,101,116,45,99,100,114,33],[10,-1])=r:=Option.some.inj (Eq.trans (by kernel_rfl) hf)
  have q0:=z2c (by decide) (hak.at_ (i:=0) (k:=10) rfl)
  rw [hA] at q0
  have hact:doX (hpX L) [115,101,116,45,99,100,114,33] args=putX (hpX L) A 1 B:=by rw [hdo,←hA,←hB];rfl
  refine z08 z15 (ze6 hr L thv A 1 B S1 K5 h5 (by simpa [hpX] using q0) fB) ?_
  rintro x K6 ⟨S2,J2,l2,h2,rfl,L',thv',rfl,hh⟩
  refine ⟨_,valVs (putX (hpX L) A 1 B).2.1++[Value.int .i64 (putX (hpX L) A 1 B).2.2],rfl,rfl,rfl,z05,?_⟩
  rw [hact]
  exact ⟨S2,_,PH.le_trans l1 l2,h2,rfl,L',thv',rfl,hh⟩
 simp only [evs,evb,z09,zdf] at gg
 refine ⟨fun gg=>?_,fun gg=>?_⟩
 ·have gg:s=[118,101,99,116,111,114,45,115,101,116,33]∨s=[115,116,114,105,110,103,45,115,101,116,33]:=by
   simp only [evs,evb,z09] at gg
   by_cases e:s=[118,101,99,116,111,114,45,115,101,116,33]
   ·exact .inl e
   ·simp only [e,decide_false,Bool.false_eq_true,if_false,zdt] at gg;exact .inr gg
  rcases gg with rfl | rfl
  ·obtain rfl:([118,101,99,116,111,114,45,115,101,116,33],[11,1,-1])=r:=Option.some.inj (Eq.trans (by kernel_rfl) hf)
   have q0:=z2c (by decide) (hak.at_ (i:=0) (k:=11) rfl)
   rw [hA] at q0
   have hact:doX (hpX L) [118,101,99,116,111,114,45,115,101,116,33] args=putX (hpX L) A B.int C:=by rw [hdo,←hA,←hB,←hC];rfl
   refine z08 z15 (ze6 hr L thv A B.int C S1 K5 h5 (by simpa [hpX] using q0) fC) ?_
   rintro x K6 ⟨S2,J2,l2,h2,rfl,L',thv',rfl,hh⟩
   refine ⟨_,valVs (putX (hpX L) A B.int C).2.1++[Value.int .i64 (putX (hpX L) A B.int C).2.2],rfl,rfl,rfl,z05,?_⟩
   rw [hact]
   exact ⟨S2,_,PH.le_trans l1 l2,h2,rfl,L',thv',rfl,hh⟩
  ·obtain rfl:([115,116,114,105,110,103,45,115,101,116,33],[12,1,2])=r:=Option.some.inj (Eq.trans (by kernel_rfl) hf)
   have q0:=z2c (by decide) (hak.at_ (i:=0) (k:=12) rfl)
   rw [hA] at q0
   have hact:doX (hpX L) [115,116,114,105,110,103,45,115,101,116,33] args=putX (hpX L) A B.int C:=by rw [hdo,←hA,←hB,←hC];rfl
   refine z08 z15 (ze6 hr L thv A B.int C S1 K5 h5 (by simpa [hpX] using q0) fC) ?_
   rintro x K6 ⟨S2,J2,l2,h2,rfl,L',thv',rfl,hh⟩
   refine ⟨_,valVs (putX (hpX L) A B.int C).2.1++[Value.int .i64 (putX (hpX L) A B.int C).2.2],rfl,rfl,rfl,z05,?_⟩
   rw [hact]
   exact ⟨S2,_,PH.le_trans l1 l2,h2,rfl,L',thv',rfl,hh⟩
 have gg:¬(s=[118,101,99,116,111,114,45,115,101,116,33]∨s=[115,116,114,105,110,103,45,115,101,116,33]):=by
  simp only [evs,evb,z09] at gg
  by_cases e:s=[118,101,99,116,111,114,45,115,101,116,33]
  ·simp [e] at gg
  ·simpa [e] using gg
 refine ⟨fun gg=>?_,fun gg=>?_⟩
 ·simp only [evs,evb,z09,zdt] at gg
  subst gg
  obtain rfl:([99,104,97,114,45,62,105,110,116,101,103,101,114],[2])=r:=Option.some.inj (Eq.trans (by kernel_rfl) hf)
  have hact:doX (hpX L) [99,104,97,114,45,62,105,110,116,101,103,101,114] args=(hpX L,vNum A.int,0):=by rw [hdo,←hA];rfl
  refine z07 (valVs (vNum A.int)) z2r (zg2 A.int K5) rfl z05 fun K6 l6=>?_
  exact stop (h5.le l6) hact
 simp only [evs,evb,z09,zdf] at gg
 refine ⟨fun gg=>?_,fun gg=>?_⟩
 ·simp only [evs,evb,z09,zdt] at gg
  subst gg
  obtain rfl:([105,110,116,101,103,101,114,45,62,99,104,97,114],[1])=r:=Option.some.inj (Eq.trans (by kernel_rfl) hf)
  have hact:doX (hpX L) [105,110,116,101,103,101,114,45,62,99,104,97,114] args=(if A.int < 0∨255 < A.int then (hpX L,vNone,83) else (hpX L,⟨2,A.int,[]⟩,0)):=by rw [hdo,←hA];rfl
  refine ⟨fun g3=>?_,fun g3=>?_⟩
  ·simp only [evs,evb] at g3
   simp only [Bool.or_eq_true,zdt] at g3
   exact stop h5 (hact.trans (if_pos (by omega)))
  ·simp only [evs,evb] at g3
   simp only [Bool.or_eq_false_iff,zdf] at g3
   exact stop h5 (hact.trans (if_neg (by omega)))
 simp only [evs,evb,z09,zdf] at gg
 refine ⟨fun gg=>?_,fun gg=>?_⟩
 ·simp only [evs,evb,z09,zdt] at gg
  subst gg
  obtain rfl:([37,117,110,115,101,116],[])=r:=Option.some.inj (Eq.trans (by kernel_rfl) hf)
  have hact:doX (hpX L) [37,117,110,115,101,116] args=(hpX L,⟨7,0,[]⟩,0):=by rw [hdo];rfl
  exact stop h5 hact
 simp only [evs,evb,z09,zdf] at gg
 have hact:doX (hpX L) s args=(hpX L,vVoid,0):=by
  rw [hdo]
  unfold actX
  simp only
  repeat' (first | rfl | rw [if_neg (by assumption)])
 exact stop h5 hact
def nameX (k:Int):List UInt8:=if k=5 then [118,111,105,100] else if k=6 then [101,111,102] else [117,110,115,101,116]
def downX (deep:Int) (pair:Bool) (i:Nat):Int:=if pair && decide (i=1) then deep else deep+1
def z33 (tell:VX→Int→Int→Dat×Int×Bool) (deep:Int) (pair:Bool):List VX→Nat→Int→List Dat→List Dat×Int×Bool
 | [],_,seen,acc=>(acc,seen,true)
 | v::l,i,seen,acc=>
  let r:=tell v (downX deep pair i) seen
  if r.2.2 then z33 tell deep pair l (i+1) r.2.1 (acc++[r.1]) else (acc,r.2.1,false)
def zap (h:HX) (tell:VX→Int→Int→Dat×Int×Bool) (v:VX) (deep seen:Int):Dat×Int×Bool:=
 if 200≤seen∨32 < deep then (dat0,seen,false)
 else if v.kind=1∨v.kind=2 then (.mk v.kind v.int [] [],seen+1,true)
 else if v.kind=3 then (.mk 4 0 v.text [],seen+1,true)
 else if v.kind=4 then (.mk 5 0 [] [],seen+1,true)
 else if v.kind=5∨v.kind=6∨v.kind=7 then (.mk 4 0 (nameX v.kind) [],seen+1,true)
 else if v.kind=0 then (.mk 0 v.int [] [],seen+1,true)
 else
  let t:=h.getD v.int.toNat default
  if t.kind=3 then (.mk 4 0 [98,111,120] [],seen+1,true)
  else if t.kind=4 then (.mk 4 0 [112,114,111,99,101,100,117,114,101] [],seen+1,true)
  else if t.kind=2 then (.mk 3 0 (t.parts.map fun p=>z32 p.int) [],seen+1,true)
  else
   let r:=z33 tell deep (decide (t.kind=0)) t.parts 0 (seen+1) []
   if r.2.2 then (if t.kind=0 then makeD (r.1.take 1) (r.1.getD 1 dat0) else .mk 7 0 [] r.1,r.2.1,true) else (dat0,r.2.1,false)
def tellX (h:HX):Nat→VX→Int→Int→Dat×Int×Bool
 | 0=>fun _ _ seen=>(dat0,seen,false)
 | f+1=>zap h (tellX h f)
def tellV (h:HX) (v:VX):Dat×Bool:=
 if !mayV h.length v then (dat0,false) else let r:=tellX h 200 v 0 0;if r.2.2 then (r.1,true) else (dat0,false)
def z2w (d:Dat):VX:=
 if (d.chk 0 0).2≠0 then vNone
 else if d.kind=0∨d.kind=1∨d.kind=2 then ⟨d.kind,d.int,[]⟩
 else if d.kind=4 then ⟨3,0,d.text⟩
 else if d.kind=5∧d.list.isEmpty=true then ⟨4,0,[]⟩
 else vNone
def FewR (seen:Int) (r:Dat×Int×Bool):Prop:=seen≤r.2.1∧r.2.1≤200∧(r.2.2=true→(r.1.cnt:Int)≤r.2.1 - seen)
def FewT (tell:VX→Int→Int→Dat×Int×Bool):Prop:=∀v deep seen,0≤seen→seen≤200→FewR seen (tell v deep seen)
theorem zpb {tell:VX→Int→Int→Dat×Int×Bool} (ht:FewT tell) (deep:Int) (pair:Bool):∀(l:List VX) (i:Nat) (seen:Int) (acc:List Dat),0≤seen→seen≤200 →
  seen≤(z33 tell deep pair l i seen acc).2.1∧(z33 tell deep pair l i seen acc).2.1≤200∧((z33 tell deep pair l i seen acc).2.2=true→(z33 tell deep pair l i seen acc).1.length=acc.length+l.length∧(Dats.cnt (z33 tell deep pair l i seen acc).1:Int)≤Dats.cnt acc+((z33 tell deep pair l i seen acc).2.1 - seen))
 | [],i,seen,acc,h0,h1=>by simp only [z33];exact ⟨Int.le_refl _,h1,fun _=>⟨by simp,by omega⟩⟩
 | v::l,i,seen,acc,h0,h1=>by
  obtain ⟨t1,t2,t3⟩:=ht v (downX deep pair i) seen h0 h1
  simp only [z33]
  split
  ·rename_i hr
   obtain ⟨q1,q2,q3⟩:=zpb ht deep pair l (i+1) _ (acc++[(tell v (downX deep pair i) seen).1]) (by omega) t2
   refine ⟨by omega,q2,fun hok=>?_⟩
   obtain ⟨q4,q5⟩:=q3 hok
   have t4:=t3 hr
   refine ⟨by rw [q4];simp;omega,?_⟩
   rw [Dats.cnt_append] at q5
   simp only [Dats.cnt] at q5
   omega
  ·exact ⟨t1,t2,fun hh=>by cases hh⟩
theorem zzs (a b:Dat):(makeD [a] b).cnt≤1+a.cnt+b.cnt:=by
 unfold makeD
 rw [if_neg (by simp)]
 have hb:=Dat.cnt_eq b
 split
 ·simp only [Dat.cnt,List.cons_append,List.nil_append,Dats.cnt];omega
 ·simp only [Dat.cnt,List.cons_append,List.nil_append,Dats.cnt];omega
theorem zyw {α:Type} {l:List α} (h:l.length=2):∃a b,l=[a,b]:=by
 match l,h with
 | [a,b],_=>exact ⟨a,b,rfl⟩
theorem z8h {seen k n:Int} {t:List UInt8} (hs:seen < 200):FewR seen (.mk k n t [],seen+1,true):=by
 unfold FewR
 simp only [Dat.cnt,Dats.cnt];omega
theorem z5x {seen:Int} {p:Prop} [Decidable p] {a b:Dat×Int×Bool} (ha:p→FewR seen a) (hb:¬p→FewR seen b):FewR seen (if p then a else b):=by
 by_cases h:p
 ·rw [if_pos h];exact ha h
 ·rw [if_neg h];exact hb h
theorem ztr {h:HX} (ok:HeapOk h) {tell:VX→Int→Int→Dat×Int×Bool} (hfew:FewT tell):FewT (zap h tell):=by
 intro v deep seen h0 h1
 unfold zap
 refine z5x (fun _=>⟨Int.le_refl _,h1,fun hh=>by cases hh⟩) fun hs=>?_
 have hs:seen < 200:=by omega
 refine z5x (fun _=>z8h hs) fun _=>z5x (fun _=>z8h hs) fun _=>z5x (fun _=>z8h hs) fun _=>z5x (fun _=>z8h hs) fun _=>z5x (fun _=>z8h hs) fun _=>?_
 refine z5x (fun _=>z8h hs) fun _=>z5x (fun _=>z8h hs) fun _=>z5x (fun _=>z8h hs) fun _=>?_
 generalize ht:h.getD v.int.toNat default=t
 have hin:t∈h∨t=default:=by
  rw [←ht,zgd]
  cases hx:h[v.int.toNat]? with
  | none=>exact .inr rfl
  | some t=>exact .inl (List.mem_of_getElem? hx)
 obtain ⟨q1,q2,q3⟩:=zpb hfew deep (decide (t.kind=0)) t.parts 0 (seen+1) [] (by omega) (by omega)
 generalize hr:z33 tell deep (decide (t.kind=0)) t.parts 0 (seen+1) []=r at q1 q2 q3 ⊢
 obtain ⟨l,seen',okk⟩:=r
 cases okk with
 | false=>
  simp only at q1
  exact ⟨by show seen≤seen';omega,q2,fun hh=>by cases hh⟩
 | true=>
  obtain ⟨q4,q5⟩:=q3 rfl
  simp only [Dats.cnt,List.length_nil,Nat.zero_add] at q1 q2 q4 q5
  simp only [if_true]
  refine ⟨by show seen≤seen';omega,q2,fun _=>?_⟩
  show ((if t.kind=0 then makeD (l.take 1) (l.getD 1 dat0) else Dat.mk 7 0 [] l).cnt:Int)≤seen' - seen
  split
  ·rename_i hk
   rcases hin with hin | rfl
   ·rw [ok.pair _ hin hk] at q4
    obtain ⟨a,b,rfl⟩:=zyw q4
    have:=zzs a b
    simp only [List.take_succ_cons,List.take_zero,List.getD_cons_succ,List.getD_cons_zero]
    simp only [Dats.cnt] at q5
    omega
   ·obtain rfl:l=[]:=List.length_eq_zero_iff.1 q4
    simp only [List.take_nil,List.getD_nil,makeD,List.length_nil,if_true,dat0,Dat.cnt,Dats.cnt]
    omega
  ·simp only [Dat.cnt];omega
theorem zrm {h:HX} (ok:HeapOk h):∀f,FewT (tellX h f)
 | 0=>fun v deep seen h0 h1=>⟨Int.le_refl _,h1,fun hh=>by cases hh⟩
 | f+1=>ztr ok (zrm ok f)
theorem zbx {P:Program} {X:List PanicEntry→PH→Prop} {β:Type} {E:List Value} {H:PH} {L:LK} {K:β→List Value→PH→LK→Prop} {s t e ty:TypeId} {x:Operand} {args:List (Nat×VE)} {pend:List (SV×List SV)} {k:Fm β} {l:List UInt8} {v:Value}
  (hs:P.underlying s=some (.slice e)) (ht:P.underlying t=some .string) (he:P.underlying e=some (.int .u8)) (hx:argEv E args x=v) (h:SlR H l v) (hp:z0m E H pend) (hk:den P X k (E++[txt l]) H L K) :
  den P X (.sem (.convert s t x) ty args (.sc .str) pend k) E H L K:=by
 show wpS P (execOp (argEv E args) (bare _ ty)) _ _ H
 rw [zub,hx]
 rcases (SlR.mk_iff.1 h).2 with ⟨rfl,rfl⟩ | ⟨a,c,rfl,h1,h2,h3⟩
 ·exact zpt hs ht he ⟨[_],rfl,rfl,hp,hk⟩
 ·refine zxc hs ht he (fun j u hu=>?_) ⟨[_],rfl,rfl,hp,hk⟩
  rw [List.getElem?_map] at hu
  cases hb:l[j]? with
  | none=>rw [hb] at hu;cases hu
  | some b=>
   rw [hb] at hu
   obtain ⟨cs,h4,h5⟩:=RepRows.get h3 hb
   obtain ⟨v1,_,rfl,h6,rfl⟩:=h4
   have:=h5 0 v1 rfl
   have e1:v1=.int .u8 (b.toNat:Int):=h6.1
   rw [e1] at this
   cases hu
   have e2:(a.add (j * sz UInt8)).add 0=a.add j:=by
    show Addr.add (Addr.add a (j * 1)) 0=a.add j
    simp [Addr.add]
   rw [e2] at this
   exact this
theorem zlq:ElemOk Tryz.prog 5 1 1=true:=by kernel_rfl
theorem Z4e:Tryz.prog.underlying 22=some (.slice 9):=by kernel_rfl
theorem Z2l:ElemOk Tryz.prog 9 1 16=true:=by kernel_rfl
theorem Z4j {H:PH} {l:List UInt8} {cs:List Value} (h:CsR H l cs):cs=[txt l]∧l.length≤maxLen:=by
 obtain ⟨v,rest,rfl,h1,rfl⟩:=h
 rw [zeh] at h1
 exact ⟨by rw [h1.1],h1.2⟩
theorem zww (H:PH) (b:UInt8):CsR H b [.int .u8 (b.toNat:Int)]:=⟨_,_,rfl,⟨rfl,by
 show (0:Int)≤_∧_≤(255:Int)
 have:=b.toNat_lt
 omega⟩,rfl⟩
theorem zb0 {H:PH} {l:List UInt8} (h:l.length≤maxLen):CsR H l (txt l).cells.toList:=⟨_,_,rfl,⟨rfl,h⟩,rfl⟩
def namesL:List (List UInt8):=[[],[],[],[],[],[118,111,105,100],[101,111,102],[117,110,115,101,116]]
def TellE (r:Dat×Int×Bool) (e:Ending) (S:PH):Prop:=∃cs,e=.returned (.tuple #[.agg cs.toArray,.int .i64 r.2.1,.bool r.2.2])∧r.1.Rep S cs
theorem z28 {k n:Int} {t:List UInt8} {seen seen':Int} {ok:Bool} {S:PH} (hk:InI k) (hn:InI n) (ht:t.length≤maxLen) (hs:seen'=seen):TellE (.mk k n t [],seen,ok) (.returned (.tuple #[.agg #[.int .i64 k,.int .i64 n,txt t,.slice none 0 0],.int .i64 seen',.bool ok])) S:=
 ⟨_,by rw [hs],z2u hk hn ht⟩
theorem Z2q {α:Type} {l:List α} (h:l.length=8):∃a b c d e f g i,l=[a,b,c,d,e,f,g,i]:=by
 match l,h with
 | [a,b,c,d,e,f,g,i],_=>exact ⟨a,b,c,d,e,f,g,i,rfl⟩
theorem zzn (h:HX) (hr:Nat) (ok:HeapOk h):∀(f:Nat) (v:VX) (deep seen:Int) (H:PH),HeapAt H hr h→VFit v→mayV h.length v=true→0≤seen→seen≤200→200 - seen≤f→0≤deep→deep≤33 →
  Tri Tryz.prog z4q #[pAt hr,valV v,.int .i64 deep,.int .i64 seen] H fun e H'=>PH.le H H'∧TellE (tellX h f v deep seen) e H':=by
 intro f
 induction f with
 | zero=>
  intro v deep seen H hh hv hm h0 h1 h2 h3 h4
  refine z42 ([pAt hr]++valVs v++[.int .i64 deep,.int .i64 seen]) (by kernel_rfl) (by kernel_rfl) ?_
  simp only [cns]
  refine ⟨fun g=>⟨PH.le_refl _,z28 (k:=0) (n:=0) (t:=[]) (by decide) (by decide) (by decide) rfl⟩,fun g=>?_⟩
  exfalso
  simp only [evs,evb] at g
  simp only [Bool.or_eq_false_iff,zdf,ge_iff_le] at g
  omega
 | succ f ih=>
  intro v deep seen H hh hv hm h0 h1 h2 h3 h4
  have hfew:=zrm ok f
  have hmx:maxLen=9223372036854775807:=rfl
  show Tri _ _ _ _ fun e H'=>PH.le H H'∧TellE (zap h (tellX h f) v deep seen) e H'
  refine z42 ([pAt hr]++valVs v++[.int .i64 deep,.int .i64 seen]) (by kernel_rfl) (by kernel_rfl) ?_
  simp only [cns]
  generalize hT:zap h (tellX h f) v deep seen=T
  unfold zap at hT
  refine ⟨fun g=>?_,fun g=>?_⟩
  ·simp only [evs,evb] at g
   simp only [Bool.or_eq_true,zdt,ge_iff_le,gt_iff_lt] at g
   rw [if_pos g] at hT
   rw [←hT]
   exact ⟨PH.le_refl _,z28 (k:=0) (n:=0) (t:=[]) (by decide) (by decide) (by decide) rfl⟩
  simp only [evs,evb] at g
  simp only [Bool.or_eq_false_iff,zdf,ge_iff_le,gt_iff_lt] at g
  rw [if_neg (by omega)] at hT
  have hw1:IntKind.i64.wrap (seen+1)=seen+1:=w64 (by omega) (by omega)
  refine Z3e (l:=namesL) (b:=16) (namesL.map txt) Z4e Z2l rfl (by decide) (by decide) (by kernel_rfl) ?_ z05 fun nv H1 a1 l1 _=>?_
  ·exact .cons (zb0 (by decide)) (.cons (zb0 (by decide)) (.cons (zb0 (by decide)) (.cons (zb0 (by decide)) (.cons (zb0 (by decide)) (.cons (zb0 (by decide)) (.cons (zb0 (by decide)) (.cons (zb0 (by decide)) .nil)))))))
  simp only [cns]
  refine ⟨fun g1=>?_,fun g1=>?_⟩
  ·have g1:v.kind=1∨v.kind=2:=by
    simp only [evs,evb] at g1
    by_cases e:v.kind=1
    ·exact .inl e
    ·simp only [e,decide_false,Bool.false_eq_true,if_false,zdt] at g1;exact .inr g1
   rw [if_pos g1] at hT
   rw [←hT]
   exact ⟨l1,z28 (t:=[]) hv.1 hv.2.1 (by decide) hw1⟩
  have g1:¬(v.kind=1∨v.kind=2):=by
   simp only [evs,evb] at g1
   by_cases e:v.kind=1
   ·simp [e] at g1
   ·simpa [e] using g1
  rw [if_neg g1] at hT
  refine ⟨fun g2=>?_,fun g2=>?_⟩
  ·simp only [evs,evb,zdt] at g2
   rw [if_pos g2] at hT
   rw [←hT]
   exact ⟨l1,z28 (k:=4) (n:=0) (by decide) (by decide) hv.2.2 hw1⟩
  simp only [evs,evb,zdf] at g2
  rw [if_neg g2] at hT
  refine ⟨fun g3=>?_,fun g3=>?_⟩
  ·simp only [evs,evb,zdt] at g3
   rw [if_pos g3] at hT
   rw [←hT]
   exact ⟨l1,z28 (k:=5) (n:=0) (t:=[]) (by decide) (by decide) (by decide) hw1⟩
  simp only [evs,evb,zdf] at g3
  rw [if_neg g3] at hT
  refine ⟨fun vs K=>vs=[.bool (decide (v.kind=5∨v.kind=6∨v.kind=7))]∧H1=K,?_,fun g4=>?_,fun g4=>?_⟩
  rotate_left
  ·simp only [evs,evb,zdt] at g4
   exact ⟨_,z06,by simp [evs,evb,g4],rfl⟩
  ·simp only [evs,evb,zdf] at g4
   refine ⟨_,z06,?_,rfl⟩
   by_cases e6:v.kind=6<;>by_cases e7:v.kind=7<;>simp [evs,evb,g4,e6,e7]
  rintro vs K _ ⟨rfl,rfl⟩
  simp only [cns]
  refine ⟨fun g4=>?_,fun g4=>?_⟩
  ·simp only [evs,evb,zdt] at g4
   rw [if_pos g4] at hT
   rw [←hT]
   obtain ⟨k,hk,hn⟩:∃k:Nat,v.kind=(k:Int)∧namesL[k]?=some (nameX v.kind):=by
    rcases g4 with e | e | e
    ·exact ⟨5,e,by rw [e];rfl⟩
    ·exact ⟨6,e,by rw [e];rfl⟩
    ·exact ⟨7,e,by rw [e];rfl⟩
   have hsl:=a1.slR
   obtain ⟨nb,nc,rfl⟩:=hsl.sl
   obtain ⟨x1,_,cs,x2,x3⟩:=hsl.get hn
   obtain ⟨rfl,x4⟩:=Z4j x2
   refine ⟨fun _=>?_,[txt (nameX v.kind)],rfl,?_,?_⟩
   ·simp only [Chk.holds,evs,evb];exact ⟨x1,by omega,by show v.kind < 8;omega⟩
   ·rw [←hk] at x3;simp only [evs,evb];exact x3
   exact ⟨l1,z28 (k:=4) (n:=0) (by decide) (by decide) x4 hw1⟩
  simp only [evs,evb,zdf] at g4
  rw [if_neg g4] at hT
  refine ⟨fun g5=>?_,fun g5=>?_⟩
  ·simp only [evs,evb,zdt] at g5
   rw [if_pos g5] at hT
   rw [←hT]
   exact ⟨l1,z28 (k:=0) (t:=[]) (by decide) hv.2.1 (by decide) hw1⟩
  simp only [evs,evb,zdf] at g5
  rw [if_neg g5] at hT
  have h8:v.kind=8:=by
   have e1:¬v.kind=1:=fun e=>g1 (.inl e)
   have e2:¬v.kind=2:=fun e=>g1 (.inr e)
   have e5:¬v.kind=5:=by omega
   have e6:¬v.kind=6:=by omega
   have e7:¬v.kind=7:=by omega
   by_cases e:v.kind=8
   ·exact e
   ·exfalso
    simp [mayV,g5,e1,e2,g2,g3,e5,e6,e7,e] at hm
  have hin:=zwx hm h8
  obtain ⟨thv,hr1,hs⟩:=hh.le l1
  obtain ⟨tb,tc,rfl⟩:=hs.sl
  obtain ⟨i,hi⟩:∃i:Nat,v.int=(i:Int):=⟨v.int.toNat,by omega⟩
  obtain ⟨t,ht⟩:∃t,h[i]?=some t:=⟨_,zge (by omega)⟩
  have hgd:h.getD v.int.toNat default=t:=by rw [hi,Int.toNat_natCast,zgd,ht];rfl
  have htm:t∈h:=List.mem_of_getElem? ht
  rw [hgd] at hT
  obtain ⟨hsome,pv,q4,q5,q6⟩:=zdu hs ht
  obtain ⟨pb,pc,rfl⟩:=q5.sl
  have hfewp:=ok.few t htm
  refine ⟨fun _=>by simp [Chk.holds,evs,evb],[.slice tb h.length tc],rfl,by simp only [evs,evb];exact hr1,fun _=>?_,[.int .i64 t.kind,.slice pb t.parts.length pc],rfl,?_,?_⟩
  ·simp only [Chk.holds,evs,evb];exact ⟨hsome,by omega,by omega⟩
  ·simp only [evs,evb,hi];exact q6
  simp only [cns]
  refine ⟨fun g6=>?_,fun g6=>?_⟩
  ·simp only [evs,evb,zdt] at g6
   rw [if_pos g6] at hT
   rw [←hT]
   exact ⟨l1,z28 (k:=4) (n:=0) (t:=[98,111,120]) (by decide) (by decide) (by decide) hw1⟩
  simp only [evs,evb,zdf] at g6
  rw [if_neg g6] at hT
  refine ⟨fun g7=>?_,fun g7=>?_⟩
  ·simp only [evs,evb,zdt] at g7
   rw [if_pos g7] at hT
   rw [←hT]
   exact ⟨l1,z28 (k:=4) (n:=0) (t:=[112,114,111,99,101,100,117,114,101]) (by decide) (by decide) (by decide) hw1⟩
  simp only [evs,evb,zdf] at g7
  rw [if_neg g7] at hT
  have hK1:Held H1 H1 []:=Held.nil (PH.le_refl _)
  refine ⟨fun g8=>?_,fun g8=>?_⟩
  ·simp only [evs,evb,zdt] at g8
   rw [if_pos g8] at hT
   rw [←hT]
   refine z1k (α:=UInt8) (b:=1) zhv zlq hK1 z05 fun v11 K2 k2 _ _=>?_
   simp only [cns]
   refine ⟨fun n vs K=>∃(k:Nat) (u:Value) (S1:PH),k+n=t.parts.length∧vs=[u,nI k]∧PH.le H1 S1∧Held S1 K [orow 5 ((t.parts.take k).map fun p=>z32 p.int) u],⟨t.parts.length,0,v11,H1,by omega,rfl,PH.le_refl _,k2⟩,?_⟩
   rintro n vs K3 _ ⟨k,u,S1,hkn,rfl,ls,k3⟩
   simp only [cns]
   obtain ⟨ub,uc,hu⟩:=(k3.row (zms)).sl
   refine ⟨fun g9=>?_,fun g9=>?_⟩
   ·simp only [evs,evb,zdt] at g9
    obtain ⟨p,hp⟩:∃p,t.parts[k]?=some p:=⟨_,zge (by omega)⟩
    obtain ⟨y1,_,cs,y2,y3⟩:=q5.get hp
    obtain ⟨rfl,y4⟩:=z2q y2
    refine ⟨fun _=>?_,[.int .i64 p.int],rfl,?_,?_⟩
    ·simp only [Chk.holds,evs,evb];exact ⟨y1,by omega,by omega⟩
    ·simp only [evs,evb];exact z0b (PH.le_trans ls k3.sh) (z2o y3 1 1)
    simp only [cns]
    refine z16 (b:=1) (more:=[z32 p.int]) [.int .u8 ((z32 p.int).toNat:Int)] zhv zlq rfl (by decide) (by decide) k3 ?_ (.cons (zww _ _) .nil) z05 (fun w=>by kernel_rfl) (fun w=>by kernel_rfl)
     (by simp only [List.length_map,List.length_take,zlc,List.length_nil];omega) (by simp only [List.length_map,List.length_take,zlc,List.length_nil];omega) fun w v7 S7 K7 l7 h7=>⟨z05,?_⟩
    ·rw [←zzk];kernel_rfl
    refine ⟨_,z06,n - 1,by omega,k+1,v7,S7,by omega,?_,PH.le_trans ls l7,?_⟩
    ·have hw:IntKind.i64.wrap ((k:Int)+1)=((k+1:Nat):Int):=by rw [w64 (by omega) (by omega)];rfl
     simp only [evs,evb,hw]
    ·rw [List.take_add_one,hp,List.map_append];exact h7
   ·simp only [evs,evb,zdf] at g9
    obtain ⟨S2,s2,l2,k4⟩:=k3.freeze
    rw [List.take_of_length_le (by omega)] at s2
    refine zbx zhv zqk uByte (by kernel_rfl) (s2.le k4.sh) z05 ?_
    exact ⟨PH.le_trans l1 (PH.le_trans ls k3.sh),z28 (k:=3) (n:=0) (by decide) (by decide) (by rw [List.length_map];omega) hw1⟩
  simp only [evs,evb,zdf] at g8
  rw [if_neg g8] at hT
  refine z1k (α:=Dat) (b:=56) uDats zd8 hK1 z05 fun v11 K2 k2 _ _=>?_
  simp only [cns]
  refine ⟨fun n vs K=>∃(k:Nat) (u:Value) (S1:PH) (acc:List Dat) (seen':Int) (xs:List Value),k+n=t.parts.length∧vs=[.int .i64 seen',.int .i64 0,.bool false,u,.bool true,nI k]++xs∧xs.length=8∧PH.le H1 S1∧Held S1 K [orow 25 acc u]∧acc.length=k∧(Dats.cnt acc:Int)≤seen' - (seen+1)∧seen+1≤seen'∧seen'≤200 ∧
   z33 (tellX h f) deep (decide (t.kind=0)) t.parts 0 (seen+1) []=z33 (tellX h f) deep (decide (t.kind=0)) (t.parts.drop k) k seen' acc,
   ⟨t.parts.length,0,v11,H1,[],seen+1,_,by omega,by simp only [evs,evb,hw1];rfl,rfl,PH.le_refl _,k2,rfl,by simp [Dats.cnt],by omega,by omega,rfl⟩,?_⟩
  rintro n vs K3 _ ⟨k,u,S1,acc,seen',xs,hkn,rfl,hxs,ls,k3,hal,hcnt,hs1,hs2,htl⟩
  obtain ⟨x0,x1,x2,x3,x4,x5,x6,x7,rfl⟩:=Z2q hxs
  simp only [cns]
  have hlw:PH.le H1 K3:=PH.le_trans ls k3.sh
  refine ⟨fun g9=>?_,fun g9=>?_⟩
  ·simp only [evs,evb,zdt] at g9
   obtain ⟨p,hp⟩:∃p,t.parts[k]?=some p:=⟨_,zge (by omega)⟩
   obtain ⟨y1,_,cs,y2,y3⟩:=q5.get hp
   obtain ⟨rfl,y4⟩:=z2q y2
   have hdr:t.parts.drop k=p::t.parts.drop (k+1):=by
    rw [←List.getElem_cons_drop (by omega:k < t.parts.length)]
    rw [(List.getElem?_eq_some_iff.1 hp).2]
   rw [hdr] at htl
   simp only [z33] at htl
   generalize hdn:downX deep (decide (t.kind=0)) k=dn at htl
   have hdb:0≤dn∧dn≤33:=by
    rw [←hdn];unfold downX
    split<;>omega
   refine ⟨fun _=>?_,valVs p,rfl,?_,?_⟩
   ·simp only [Chk.holds,evs,evb];exact ⟨y1,by omega,by omega⟩
   ·simp only [evs,evb];exact z0b hlw y3
   simp only [cns]
   have hw2:IntKind.i64.wrap (deep+1)=deep+1:=w64 (by omega) (by omega)
   have hcall:∀dv,dv=Value.int .i64 dn→Tri Tryz.prog z4q #[pAt hr,valV p,dv,.int .i64 seen'] K3 fun e H'=>∃S',PH.le S1 S'∧Held S' H' [orow 25 acc u]∧TellE (tellX h f p dn seen') e S':=fun dv hdv=>by
    rw [hdv]
    exact k3.pure (R:=fun e S'=>TellE (tellX h f p dn seen') e S') (ih p dn seen' S1 (HeapAt.le (PH.le_trans l1 ls) hh) y4 (ok.may t htm p (List.mem_of_getElem? hp)) (by omega) hs2 (by omega) hdb.1 hdb.2)
   refine z08 z4e (hcall _ ?_) ?_
   ·rw [←hdn];unfold downX
    have hd1:decide ((k:Int)=1)=decide (k=1):=by rw [decide_eq_decide];omega
    simp only [evs,evb,hw2,hd1]
    cases (decide (t.kind=0))<;>cases (decide (k=1))<;>rfl
   rintro x K4 ⟨S2,l2,k4,cs,rfl,hd⟩
   have hfp:=hfew p dn seen' (by omega) hs2
   generalize hR:tellX h f p dn seen'=R at htl hd hfp
   obtain ⟨d,sn,okk⟩:=R
   obtain ⟨sv,rfl,r1,r2,r3,r4⟩:=Dat.Rep_iff.1 hd
   obtain ⟨sb,sc,rfl⟩:=SlR.sl r4
   refine ⟨_,[.int .i64 d.kind,.int .i64 d.int,txt d.text,.slice sb d.list.length sc,.int .i64 sn,.bool okk],rfl,rfl,rfl,z05,?_⟩
   simp only [cns]
   cases okk with
   | false=>
    refine ⟨fun _=>?_,fun g10=>?_⟩
    ·simp only [htl] at hT
     rw [←hT]
     exact ⟨PH.le_trans l1 (PH.le_trans ls (PH.le_trans l2 k4.sh)),z28 (k:=0) (n:=0) (t:=[]) (by decide) (by decide) (by decide) rfl⟩
    ·simp [evs,evb] at g10
   | true=>
    refine ⟨fun g10=>?_,fun _=>?_⟩
    ·simp [evs,evb] at g10
    obtain ⟨f1,f2,f3⟩:=hfp
    have f3:=f3 rfl
    simp only at f1 f2 f3
    simp only [if_true] at htl
    have hml:=Dats.cnt_le acc
    refine z16 (b:=56) (more:=[d]) [.agg #[.int .i64 d.kind,.int .i64 d.int,txt d.text,.slice sb d.list.length sc]] uDats zd8 rfl (by decide) (by decide) k4 (by kernel_rfl) (.cons hd .nil) z05 (fun w=>by kernel_rfl) (fun w=>by kernel_rfl)
     (by simp only [zlc,List.length_nil];omega) (by simp only [zlc,List.length_nil];omega) fun w v7 S7 K7 l7 h7=>⟨z05,?_⟩
    have hcd:1≤d.cnt:=by have:=Dat.cnt_eq d;omega
    refine ⟨_,z06,n - 1,by omega,k+1,v7,S7,acc++[d],sn,[.int .i64 d.kind,.int .i64 d.int,txt d.text,.slice sb d.list.length sc,x4,x5,x6,x7],by omega,?_,rfl,PH.le_trans ls (PH.le_trans l2 l7),h7,by simp [hal],?_,by omega,f2,htl⟩
    ·have hw:IntKind.i64.wrap ((k:Int)+1)=((k+1:Nat):Int):=by rw [w64 (by omega) (by omega)];rfl
     simp only [evs,evb,hw]
    ·rw [Dats.cnt_append];simp only [Dats.cnt];omega
  ·simp only [evs,evb,zdf] at g9
   have hkl:k=t.parts.length:=by omega
   subst hkl
   rw [List.drop_length] at htl
   simp only [z33] at htl
   simp only [htl,if_true] at hT
   obtain ⟨S2,s2,l2,k4⟩:=k3.freeze
   have hlen:=s2.len
   obtain ⟨ub,uc,rfl⟩:=s2.sl
   have hle:=PH.le_trans l1 (PH.le_trans ls (PH.le_trans l2 k4.sh))
   refine ⟨fun g10=>?_,fun g10=>?_⟩
   ·simp only [evs,evb,zdt] at g10
    rw [if_pos g10] at hT
    have h2:acc.length=2:=by rw [hal];exact ok.pair t htm g10
    obtain ⟨a,b,rfl⟩:=zyw h2
    simp only [Dats.cnt,List.take_succ_cons,List.take_zero,List.getD_cons_succ,List.getD_cons_zero] at hcnt hT
    have hcap:2≤uc:=by
     rcases (SlR.mk_iff.1 s2).2 with ⟨_,h⟩ | ⟨_,c,h,h3,_⟩
     ·cases h
     ·cases h;exact h3
    obtain ⟨z1,_,cs,z2,z3⟩:=s2.get (i:=1) (a:=b) rfl
    obtain ⟨sv,rfl,r1,r2,r3,r4⟩:=Dat.Rep_iff.1 z2
    obtain ⟨sb,sc,rfl⟩:=SlR.sl r4
    have hcut:=s2.cut (a:=0) (b:=1) (by omega) (by simp)
    refine ⟨fun _=>?_,fun _=>?_,[.int .i64 b.kind,.int .i64 b.int,txt b.text,.slice sb b.list.length sc],rfl,?_,?_⟩
    ·simp only [Chk.holds,evs,evb,slCap];omega
    ·simp only [Chk.holds,evs,evb];exact ⟨z1,by omega,by simp⟩
    ·simp only [evs,evb];exact z0b k4.sh z3
    simp only [cns]
    refine z08 zh0 (zw5 [a] b _ _ K3 (hcut.le k4.sh) (Dat.Rep.le k4.sh b z2) (by simp only [Dats.cnt];omega) (by omega)) ?_
    rintro x K5 ⟨cs,rfl,l5,hd⟩
    obtain ⟨sv',rfl,r1',r2',r3',r4'⟩:=Dat.Rep_iff.1 hd
    obtain ⟨sb',sc',rfl⟩:=SlR.sl r4'
    refine ⟨_,_,rfl,rfl,rfl,z05,?_⟩
    rw [←hT]
    exact ⟨PH.le_trans hle l5,_,rfl,hd⟩
   ·simp only [evs,evb,zdf] at g10
    rw [if_neg g10] at hT
    rw [←hT]
    exact ⟨hle,_,rfl,Dat.Rep_iff.2 ⟨_,rfl,(by decide:InI 7),(by decide:InI 0),Nat.zero_le _,s2.le k4.sh⟩⟩
theorem zz4 (h:HX) (hr:Nat) (ok:HeapOk h) (v:VX) (hv:VFit v) (H:PH) (hh:HeapAt H hr h) :
  Tri Tryz.prog zb6 #[pAt hr,valV v] H fun e H'=>PH.le H H'∧∃cs,e=.returned (.tuple #[.agg cs.toArray,.bool (tellV h v).2])∧(tellV h v).1.Rep H' cs:=by
 refine za1 ([pAt hr]++valVs v) (by kernel_rfl) (by kernel_rfl) ?_
 simp only [cns]
 have leaf0:∀{S:PH},Dat.Rep S dat0 [.int .i64 0,.int .i64 0,txt [],.slice none 0 0]:=fun {S}=>z2u (k:=0) (n:=0) (t:=[]) (by decide) (by decide) (by decide)
 refine z07 [.bool (mayV h.length v)] z4p (zp5 h hr v hv H hh) rfl z05 fun H1 l1=>⟨fun g=>?_,fun g=>?_⟩
 ·simp only [evs,evb,Bool.not_eq_true'] at g
  have:tellV h v=(dat0,false):=by unfold tellV;rw [g];rfl
  rw [this]
  exact ⟨l1,_,rfl,leaf0⟩
 simp only [evs,evb,Bool.not_eq_false'] at g
 refine z08 z4e (zzn h hr ok 200 v 0 0 H1 (hh.le l1) hv g (by omega) (by omega) (by omega) (by omega) (by omega)) ?_
 rintro x H2 ⟨l2,cs,rfl,hd⟩
 have ht:tellV h v=if (tellX h 200 v 0 0).2.2 then ((tellX h 200 v 0 0).1,true) else (dat0,false):=by unfold tellV;rw [g];rfl
 rw [ht]
 generalize tellX h 200 v 0 0=R at hd
 obtain ⟨d,sn,okk⟩:=R
 obtain ⟨sv,rfl,r1,r2,r3,r4⟩:=Dat.Rep_iff.1 hd
 obtain ⟨sb,sc,rfl⟩:=SlR.sl r4
 refine ⟨_,[.int .i64 d.kind,.int .i64 d.int,txt d.text,.slice sb d.list.length sc,.int .i64 sn,.bool okk],rfl,rfl,rfl,z05,?_⟩
 simp only [cns]
 cases okk with
 | false=>exact ⟨fun _=>⟨PH.le_trans l1 l2,_,rfl,leaf0⟩,fun g3=>by simp [evs,evb] at g3⟩
 | true=>exact ⟨fun g3=>by simp [evs,evb] at g3,fun _=>⟨PH.le_trans l1 l2,_,rfl,hd⟩⟩
theorem zxz (d:Dat) (cs:List Value) (H:PH) (hd:d.Rep H cs):Tri Tryz.prog zg9 #[.agg cs.toArray] H fun e H'=>PH.le H H'∧∃b,e=.returned (.tuple #[valV (z2w d),.bool b]):=by
 have hc:=zk5 d cs H hd
 obtain ⟨sv,rfl,hk,hn,ht,hs⟩:=Dat.Rep_iff.1 hd
 obtain ⟨b,c,rfl⟩:=hs.sl
 refine zdo [.int .i64 d.kind,.int .i64 d.int,txt d.text,.slice b d.list.length c] (by kernel_rfl) (by kernel_rfl) ?_
 refine z07 [.int .i64 (d.chk 0 0).2] z6o hc rfl z05 fun H1 l1=>⟨fun g=>?_,fun g=>?_⟩
 ·simp only [evs,evb,zdt] at g
  have:z2w d=vNone:=by unfold z2w;rw [if_pos g]
  rw [this]
  exact ⟨l1,false,rfl⟩
 simp only [evs,evb,zdf] at g
 have hK:z2w d=if d.kind=0∨d.kind=1∨d.kind=2 then ⟨d.kind,d.int,[]⟩ else if d.kind=4 then ⟨3,0,d.text⟩ else if d.kind=5∧d.list.isEmpty=true then ⟨4,0,[]⟩ else vNone:=by unfold z2w;rw [if_neg g]
 simp only [cns]
 refine ⟨fun vs K=>vs=[]∧H1=K∧z2w d=vNone,?_,?_⟩
 ·rintro vs K _ ⟨rfl,rfl,h3⟩
  rw [h3]
  exact ⟨l1,false,rfl⟩
 refine ⟨fun vs K=>vs=[.bool (decide (d.kind=0∨d.kind=1∨d.kind=2))]∧H1=K,?_,fun g2=>?_,fun g2=>?_⟩
 rotate_left
 ·simp only [evs,evb,zdt] at g2
  exact ⟨_,z06,by simp [evs,evb,g2],rfl⟩
 ·simp only [evs,evb,zdf] at g2
  refine ⟨_,z06,?_,rfl⟩
  by_cases e6:d.kind=1<;>by_cases e7:d.kind=2<;>simp [evs,evb,g2,e6,e7]
 rintro vs K _ ⟨rfl,rfl⟩
 refine ⟨fun g2=>?_,fun g2=>?_⟩
 ·simp only [evs,evb,zdt] at g2
  rw [hK,if_pos g2]
  exact ⟨l1,true,rfl⟩
 simp only [evs,evb,zdf] at g2
 rw [if_neg g2] at hK
 refine ⟨fun g3=>?_,fun g3=>?_⟩
 ·simp only [evs,evb,zdt] at g3
  rw [hK,if_pos g3]
  exact ⟨l1,true,rfl⟩
 simp only [evs,evb,zdf] at g3
 rw [if_neg g3] at hK
 refine ⟨fun g4=>⟨fun g5=>?_,fun g5=>?_⟩,fun g4=>?_⟩
 ·simp only [evs,evb,zdt] at g4 g5
  have:d.list.isEmpty=true:=by rw [List.isEmpty_iff];exact List.length_eq_zero_iff.1 (by omega)
  rw [hK,if_pos ⟨g4,this⟩]
  exact ⟨l1,true,rfl⟩
 ·simp only [evs,evb,zdt,zdf] at g4 g5
  refine ⟨_,z06,rfl,rfl,?_⟩
  rw [hK,if_neg]
  rintro ⟨_,h6⟩
  rw [List.isEmpty_iff] at h6
  rw [h6] at g5;simp at g5
 ·simp only [evs,evb,zdf] at g4
  refine ⟨_,z06,rfl,rfl,?_⟩
  rw [hK,if_neg (fun h=>g4 h.1)]
structure OutX where
 err:Int
 out:List UInt8
 shown:Dat
 whole:Bool
 steps:Nat
def OutX.Rep (o:OutX) (H:PH) (cs:List Value):Prop:=∃ds,cs=[.int .i64 o.err,txt o.out]++ds++[.bool o.whole,nI o.steps]∧o.shown.Rep H ds
theorem zsu (e:Int) (H:PH):(⟨e,[],dat0,false,0⟩:OutX).Rep H [.int .i64 e,txt [],.int .i64 0,.int .i64 0,txt [],.slice none 0 0,.bool false,.int .i64 0]:=
 ⟨[.int .i64 0,.int .i64 0,txt [],.slice none 0 0],rfl,z2u (k:=0) (n:=0) (t:=[]) (by decide) (by decide) (by decide)⟩
theorem zvl (o q:OutX) (os qs:List Value) (H:PH) (ho:o.Rep H os) (hq:q.Rep H qs) (hx:o.err=q.err∧o.out=q.out∧o.whole=q.whole∧o.shown=q.shown):Gives Tryz.prog zh2 [.agg os.toArray,.agg qs.toArray] H (.bool true):=by
 obtain ⟨ds,rfl,hd⟩:=ho
 obtain ⟨es,rfl,he⟩:=hq
 have hd':=hd
 have he':=he
 obtain ⟨sv,rfl,_,_,_,hs⟩:=Dat.Rep_iff.1 hd
 obtain ⟨sw,rfl,_,_,_,hw⟩:=Dat.Rep_iff.1 he
 obtain ⟨b1,c1,rfl⟩:=hs.sl
 obtain ⟨b2,c2,rfl⟩:=hw.sl
 obtain ⟨h1,h2,h3,h4⟩:=hx
 refine zeg [.int .i64 o.err,txt o.out,.int .i64 o.shown.kind,.int .i64 o.shown.int,txt o.shown.text,.slice b1 o.shown.list.length c1,.bool o.whole,nI o.steps,.int .i64 q.err,txt q.out,.int .i64 q.shown.kind,.int .i64 q.shown.int,txt q.shown.text,.slice b2 q.shown.list.length c2,.bool q.whole,nI q.steps] (by kernel_rfl) (by kernel_rfl) ?_
 refine ⟨fun vs K=>vs=[.bool true]∧PH.le H K,?_,fun g=>?_,fun g=>?_⟩
 ·rintro vs K _ ⟨rfl,l⟩;exact ⟨rfl,l⟩
 ·refine z07 [.bool (decide (o.shown=q.shown))] z2l (zj2 o.shown q.shown _ _ H hd' he') rfl z05 fun H1 l1=>⟨_,z06,?_,l1⟩
  simp [evs,evb,h4]
 ·exfalso
  simp only [evs,evb,z09,h1,h2,h3] at g
  simp at g
structure VarX where
 name:List UInt8
 at_:Int
instance encVar:Enc VarX:=⟨fun v=>[.str v.name,.int .i64 v.at_],2,fun _=>rfl⟩
structure TdX where
 act:Int
 e:Xp
 env:List VarX
 at_:Int
instance encTd:Enc TdX:=⟨fun t=>.int .i64 t.act::(Xp.pv t.e++[slp t.env,.int .i64 t.at_]),11,fun t=>by simp only [zlc,zla,Xp.pv_len,List.length_nil]⟩
structure PrX where
 thing:Int
 lam:Xp
 env:List VarX
 kont:Bool
 todo:List TdX
 vals:List VX
instance encPr:Enc PrX:=⟨fun p=>.int .i64 p.thing::(Xp.pv p.lam++[slp p.env,.bool p.kont,slp p.todo,slp p.vals]),13,fun t=>by simp only [zlc,zla,Xp.pv_len,List.length_nil]⟩
structure AX where
 h:HX
 cells:List VX
 procs:List PrX
 input:List UInt8
 out:List UInt8
 winders:VX
 steps:Nat
 most:Nat
 todo:List TdX
 vals:List VX
 e:Int
def tdE (e:Xp) (env:List VarX):TdX:=⟨0,e,env,0⟩
def tdA (act at_:Int):TdX:=⟨act,exZ,[],at_⟩
def cellF (env:List VarX) (s:List UInt8) (k:Int):Int:=env.foldl (fun k v=>if v.name=s then v.at_ else k) k
def cellX (env:List VarX) (s:List UInt8):Int:=cellF env s (-1)
def bindE (env:List VarX):List (List UInt8)→Nat→List VarX
 | [],_=>env
 | s::l,n=>bindE (env++[⟨s,n⟩]) l (n+1)
def AX.bind (m:AX) (env:List VarX) (names:List (List UInt8)) (vals:List VX):AX×List VarX:=
 ({ m with cells:=m.cells++vals.take names.length },bindE env names m.cells.length)
def AX.proc (m:AX) (p:PrX):AX×VX:=
 ({ m with h:=(addX m.h 4 []).1,procs:=m.procs++[{ p with thing:=(addX m.h 4 []).2.int }] },(addX m.h 4 []).2)
def AX.tell (m:AX) (v:VX):AX:={ m with vals:=m.vals++[v] }
def AX.push (m:AX) (l:List TdX):AX:={ m with todo:=m.todo++l }
def allT (l:List Xp) (env:List VarX):List TdX:=l.reverse.map fun e=>tdE e env
def seqT (l:List Xp) (env:List VarX):List TdX:=l.reverse.flatMap fun e=>[tdA 1 0,tdE e env]
def turnT (lam:Bool) (inner:List VarX) (l:List (List UInt8×Xp)):List TdX:=
 l.reverse.flatMap fun x=>if decide (x.2.kind=5)=lam then [tdA 7 (cellX inner x.1),tdE x.2 inner] else []
def AX.recA (m:AX) (e:Xp) (env:List VarX):Option AX:=
 match e.kids[e.names.length]? with
 | none=>none
 | some b=>
  let r:=m.bind env e.names (List.replicate e.names.length ⟨7,0,[]⟩)
  let l:=e.names.zip e.kids
  some (r.1.push (tdE b r.2::(turnT false r.2 l++turnT true r.2 l)))
def z7j {α:Type} (l:List α) (i:Int):Option Nat:=if 0≤i∧i < (l.length:Int) then some i.toNat else none
def AX.eval (m:AX) (e:Xp) (env:List VarX):Option AX:=
 if m.steps=m.most then some { m with e:=93 } else
 if 1000000 < e.kids.length∨1000000 < e.names.length∨4294967296 < env.length then none else
 let m1:={ m with steps:=m.steps+1 }
 let n:=e.kids.length
 if e.kind=0 then some (m1.tell (z2w e.const))
 else if e.kind=1 then (z7j m.cells (cellX env e.name)).map fun k=>m1.tell (m.cells.getD k default)
 else if e.kind=2 then e.kids[0]?.map fun a=>m1.push [tdA 2 (cellX env e.name),tdE a env]
 else if e.kind=3 then e.kids[0]?.map fun a=>m1.push [⟨3,e,env,0⟩,tdE a env]
 else if e.kind=4 then e.kids.getLast?.map fun a=>m1.push (tdE a env::seqT e.kids.dropLast env)
 else if e.kind=5 then
  let r:=m1.proc ⟨0,e,env,false,[],[]⟩
  some (r.1.tell r.2)
 else if e.kind=6 then some (m1.push (tdA 4 n::allT e.kids env))
 else if e.kind=7 then some (m1.push (⟨5,e,[],0⟩::allT e.kids env))
 else if e.kind=8 then if n=0 then none else some (m1.push (⟨6,e,env,0⟩::allT e.kids.dropLast env))
 else if e.kind=9∨e.kind=10 then m1.recA e env
 else some m1
def procF (l:List PrX) (t:Int) (p:PrX):PrX:=l.foldl (fun p q=>if q.thing=t then q else p) p
def z4y:PrX:=⟨0,exZ,[],false,[],[]⟩
def AX.call (m:AX) (v:VX) (args:List VX):Option AX:=
 if !mayV m.h.length v then none
 else if z0s m.h v≠4 then some { m with e:=90 }
 else
  let p:=procF m.procs v.int z4y
  if p.kont=true then
   if 4294967296 < p.todo.length∨4294967296 < p.vals.length then none else
   match args with
   | [y]=>some { m with todo:=p.todo,vals:=p.vals++[y] }
   | _=>some { m with e:=91 }
  else if args.length≠p.lam.names.length then some { m with e:=91 }
  else if 1000000 < p.lam.names.length∨4294967296 < p.env.length then none
  else p.lam.kids[0]?.map fun b=>
   let r:=m.bind p.env p.lam.names args
   r.1.push [tdE b r.2]
def AX.prim (m:AX) (p:List UInt8) (args:List VX):Option AX:=
 if p=[114,101,97,100,45,117,56] then
  match m.input with
  | []=>some (m.tell ⟨6,0,[]⟩)
  | b::l=>some ({ m with input:=l }.tell ⟨1,b.toNat,[]⟩)
 else if p=[119,114,105,116,101,45,117,56] then
  args[0]?.map fun a=>
   if a.kind≠1 then { m with e:=80 }
   else if a.int < 0∨255 < a.int then { m with e:=83 }
   else { m with out:=m.out++[UInt8.ofNat a.int.toNat] }.tell vVoid
 else if p=[101,114,114,111,114] then some { m with e:=92 }
 else if p=[37,119,105,110,100,101,114,115] then some (m.tell m.winders)
 else if p=[37,119,105,110,100,33] then args[0]?.map fun a=>{ m with winders:=a }.tell vVoid
 else if p=[37,99,97,108,108,99,99] then none
 else
  let r:=doX m.h p args
  some ({ m with h:=r.1,e:=r.2.2 }.tell r.2.1)
def AX.pop (m:AX) (n:Nat):Option (AX×List VX):=
 if n≤m.vals.length then some ({ m with vals:=m.vals.take (m.vals.length - n) },m.vals.drop (m.vals.length - n)) else none
def AX.act (m:AX) (t:TdX):Option AX:=
 if t.act=0 then m.eval t.e t.env
 else if t.act=1 then (m.pop 1).map (·.1)
 else if t.act=2 then (m.pop 1).bind fun r=>(z7j m.cells t.at_).map fun k=>{ r.1 with cells:=r.1.cells.set k (r.2.getD 0 default) }.tell vVoid
 else if t.act=3 then (m.pop 1).bind fun r=>(if r.2.getD 0 default=vNone then t.e.kids[2]? else t.e.kids[1]?).map fun k=>r.1.push [tdE k t.env]
 else if t.act=4 then if t.at_ < 1 then none else (m.pop t.at_.toNat).bind fun r=>r.1.call (r.2.getD 0 default) r.2.tail
 else if t.act=5 then (m.pop t.e.kids.length).bind fun r=>r.1.prim t.e.name r.2
 else if t.act=6 then if 1000000 < t.e.names.length∨4294967296 < t.env.length then none else (m.pop t.e.names.length).bind fun r=>t.e.kids[t.e.names.length]?.map fun b=>
  let q:=r.1.bind t.env t.e.names r.2
  q.1.push [tdE b q.2]
 else if t.act=7 then (m.pop 1).bind fun r=>(z7j m.cells t.at_).map fun k=>{ r.1 with cells:=r.1.cells.set k (r.2.getD 0 default) }
 else some m
def AX.few (m:AX):Bool:=decide (m.h.length≤16777215) && decide (m.cells.length≤16777215) && decide (m.procs.length≤16777215) && decide (m.out.length≤16777215) && decide (m.todo.length≤4294967296) && decide (m.vals.length≤4294967296)
def AX.next (m:AX):Option AX:=
 if m.few then
  match m.todo.getLast? with
  | none=>none
  | some t=>{ m with todo:=m.todo.dropLast }.act t
 else none
def AX.go:Nat→AX→Option AX
 | n,m=>if m.e≠0∨m.todo.isEmpty=true then some m else match n with
  | 0=>none
  | n+1=>match m.next with
   | none=>none
   | some m'=>AX.go n m'
def AX.first (e:Xp) (input:List UInt8) (steps:Nat):AX:=⟨[],[],[],input,[],⟨4,0,[]⟩,0,steps,[tdE e []],[],0⟩
def AX.told (m:AX):Option OutX:=
 if m.e=0 then m.vals[0]?.map fun v=>⟨m.e,m.out,(tellV m.h v).1,(tellV m.h v).2,m.steps⟩ else some ⟨m.e,m.out,dat0,false,m.steps⟩
theorem varX_iff {H:PH} {x:VarX} {cs:List Value}:CsR H x cs↔cs=[txt x.name,.int .i64 x.at_]∧x.name.length≤maxLen∧InI x.at_:=by
 show PV.RepRow H [.str x.name,.int .i64 x.at_] cs↔_
 simp only [PV.RepRow,z4u,zeh]
 constructor
 ·rintro ⟨_,_,rfl,⟨rfl,h1⟩,_,_,rfl,⟨rfl,h2⟩,rfl⟩
  exact ⟨rfl,h1,h2⟩
 ·rintro ⟨rfl,h1,h2⟩
  exact ⟨_,_,rfl,⟨rfl,h1⟩,_,_,rfl,⟨rfl,h2⟩,rfl⟩
abbrev tdVs (t:TdX) (es:List Value) (ev:Value):List Value:=.int .i64 t.act::(es++[ev,.int .i64 t.at_])
theorem td_iff {H:PH} {t:TdX} {cs:List Value}:CsR H t cs↔∃es ev,cs=tdVs t es ev∧InI t.act∧t.e.Rep H es∧SlR H t.env ev∧InI t.at_:=by
 show PV.RepRow H (.int .i64 t.act::(Xp.pv t.e++[slp t.env,.int .i64 t.at_])) cs↔_
 simp only [PV.RepRow,z4u]
 constructor
 ·rintro ⟨v1,vs1,rfl,⟨rfl,h1⟩,h2⟩
  have h3:=h2.split
  rw [Xp.pv_len] at h3
  obtain ⟨h4,h5⟩:=h3
  simp only [PV.RepRow,z4u] at h5
  obtain ⟨v,vs,hv,h6,w,ws,rfl,⟨rfl,h7⟩,rfl⟩:=h5
  refine ⟨vs1.take 8,v,?_,h1,h4,h6,h7⟩
  show _=Value.int .i64 t.act::(vs1.take 8++[v,.int .i64 t.at_])
  rw [←hv,List.take_append_drop]
 ·rintro ⟨es,ev,rfl,h1,h2,h3,h4⟩
  refine ⟨_,_,rfl,⟨rfl,h1⟩,PV.RepRow.append h2 ?_⟩
  simp only [PV.RepRow,z4u]
  exact ⟨_,_,rfl,h3,_,_,rfl,⟨rfl,h4⟩,rfl⟩
abbrev prVs (p:PrX) (es:List Value) (ev tv vv:Value):List Value:=.int .i64 p.thing::(es++[ev,.bool p.kont,tv,vv])
theorem pr_iff {H:PH} {p:PrX} {cs:List Value}:CsR H p cs↔∃es ev tv vv,cs=prVs p es ev tv vv∧InI p.thing∧p.lam.Rep H es∧SlR H p.env ev∧SlR H p.todo tv∧SlR H p.vals vv:=by
 show PV.RepRow H (.int .i64 p.thing::(Xp.pv p.lam++[slp p.env,.bool p.kont,slp p.todo,slp p.vals])) cs↔_
 simp only [PV.RepRow,z4u]
 constructor
 ·rintro ⟨v1,vs1,rfl,⟨rfl,h1⟩,h2⟩
  have h3:=h2.split
  rw [Xp.pv_len] at h3
  obtain ⟨h4,h5⟩:=h3
  simp only [PV.RepRow,zrg] at h5
  obtain ⟨v,vs,hv,h6,w,ws,rfl,rfl,u,us,rfl,h7,x,xs,rfl,h8,rfl⟩:=h5
  refine ⟨vs1.take 8,v,u,x,?_,h1,h4,h6,h7,h8⟩
  show _=Value.int .i64 p.thing::(vs1.take 8++[v,.bool p.kont,u,x])
  rw [←hv,List.take_append_drop]
 ·rintro ⟨es,ev,tv,vv,rfl,h1,h2,h3,h4,h5⟩
  refine ⟨_,_,rfl,⟨rfl,h1⟩,PV.RepRow.append h2 ?_⟩
  simp only [PV.RepRow,zrg]
  exact ⟨_,_,rfl,h3,_,_,rfl,rfl,_,_,rfl,h4,_,_,rfl,h5,rfl⟩
theorem zqu:Tryz.prog.underlying 76=some (.slice 82):=by kernel_rfl
theorem zlk:ElemOk Tryz.prog 82 11 168=true:=by kernel_rfl
theorem uPrsA:Tryz.prog.underlying 75=some (.slice 116):=by kernel_rfl
theorem Z3k:ElemOk Tryz.prog 116 13 216=true:=by kernel_rfl
theorem zuo:Tryz.prog.underlying 80=some (.slice 122):=by kernel_rfl
theorem zno:ElemOk Tryz.prog 122 2 24=true:=by kernel_rfl
section
variable {α:Type} [Enc α] {S H:PH} {e:TypeId} {l:List α} {v:Value} {I:List Itm}
theorem Z2j (h:Row S H e l v) (hl:l.length=0):slsV v 0 0 (sz α)=v:=by
 obtain ⟨xs,h1,_⟩:=h.own
 rcases h1.2 with ⟨rfl,_⟩ | ⟨g,cap,cur,rfl,_⟩
 ·rfl
 ·have:l=[]:=List.length_eq_zero_iff.1 hl
  subst this
  simp only [slsV,z04,slCap,List.length_nil]
  by_cases hc:cap=0
  ·subst hc;simp
  ·simp [hc,Addr.add_plain]
theorem Held.cut (h:Held S H (orow e l v::I)) {m:Nat} (hm:m≤l.length):Held S H (orow e (l.take m) (slsV v 0 (m:Int) (sz α))::I):=by
 by_cases h0:0 < l.length
 ·obtain ⟨h1,h2⟩:=(h.row (zms)).take hm h0
  refine Held.step (J:=[orow e l v]) (J':=[orow e (l.take m) (slsV v 0 (m:Int) (sz α))]) h (PH.le_refl _) (fun k o hk _=>hk) (fun k a b=>absurd a b) (Row.held h.sh h1) fun j hj g hg=>?_
  rw [List.mem_singleton.1 hj] at hg
  exact .inr ⟨_,List.mem_singleton.2 rfl,by
   show Vc.ob v=some g
   rw [←h2];exact hg⟩
 ·have hl:l.length=0:=by omega
  have hm0:m=0:=by omega
  subst hm0
  have hr:=h.row (zms)
  rw [show slsV v 0 ((0:Nat):Int) (sz α)=v from Z2j hr hl,show l.take 0=l by rw [List.length_eq_zero_iff.1 hl];rfl]
  exact h
theorem Row.srcDrop (h:Row S H e l v) {m:Nat} (hm:m≤l.length):SrcS S H (l.drop m) (slsV v (m:Int) (l.length:Int) (sz α)):=by
 obtain ⟨xs,h1,h2⟩:=h.own
 have hsp:PV.RepRow S ((l.drop m).flatMap pv) (xs.drop (m * sz α)):=by
  rw [←List.take_append_drop m l,List.flatMap_append] at h2
  have:=h2.split.2
  rw [z2m,List.length_take,Nat.min_eq_left hm] at this
  exact this
 refine ⟨_,hsp,?_⟩
 rcases h1.2 with ⟨rfl,hz⟩ | ⟨g,cap,cur,rfl,h3,h4,h5,h6,h7⟩
 ·have hl:l=[]:=List.length_eq_zero_iff.1 hz
  subst hl
  have hm0:m=0:=by simpa using hm
  subst hm0
  have hx:xs=[]:=List.length_eq_zero_iff.1 (by rw [h1.1];simp)
  exact .inr (.inl ⟨rfl,rfl,by rw [hx];simp⟩)
 ·left
  by_cases hc:cap=m
  ·have hlm:l.length=m:=by omega
   refine ⟨⟨g,0,none⟩,cap - m,?_,fun j u hu=>?_⟩
   ·subst hc
    simp [slsV,z04,slCap]
   ·have hlt:=(List.getElem?_eq_some_iff.1 hu).1
    rw [List.length_drop,h1.1,hlm] at hlt;omega
  ·refine ⟨(⟨g,0,none⟩:Addr).add (m * sz α),cap - m,?_,fun j u hu=>?_⟩
   ·have:¬cap=(m:Int).toNat:=by simpa using hc
    simp [slsV,z04,slCap,hc]
   ·rw [Addr.add_add,Addr.add_plain,PH.cell_at h3]
    rw [List.getElem?_drop] at hu
    rw [←h7,List.getElem?_take] at hu
    split at hu
    ·simpa using hu
    ·cases hu
end
structure MA where
 L:List (TR×List VX)
 thv:Value
 cells:List VX
 cv:Value
 procs:List PrX
 qv:Value
 input:List UInt8
 out:List UInt8
 ov:Value
 w:VX
 steps:Nat
 most:Nat
 todo:List TdX
 tv:Value
 vals:List VX
 vv:Value
 e:Int
def MA.x (s:MA):AX:=⟨hpX s.L,s.cells,s.procs,s.input,s.out,s.w,s.steps,s.most,s.todo,s.vals,s.e⟩
def MA.cs (hr:Nat) (s:MA):List Value:=[pAt hr,s.cv,s.qv,txt s.input,s.ov,.int .i64 s.w.kind,.int .i64 s.w.int,txt s.w.text,nI s.steps,nI s.most,s.tv,s.vv,.int .i64 s.e]
abbrev bxA (mr hr:Nat) (s:MA):Itm:=bx mr 78 (s.cs hr)
abbrev rT (s:MA):Itm:=orow 82 s.todo s.tv
abbrev rV (s:MA):Itm:=orow 73 s.vals s.vv
abbrev rC (s:MA):Itm:=orow 73 s.cells s.cv
abbrev rQ (s:MA):Itm:=orow 116 s.procs s.qv
abbrev rU (s:MA):Itm:=orow 5 s.out s.ov
abbrev machA (mr hr:Nat) (s:MA) (J:List Itm):List Itm:=bxA mr hr s::rT s::rV s::rC s::rQ s::rU s::(heapI hr s.L s.thv++J)
section
variable {S H:PH} {a b c d f x:Itm} {I:List Itm}
theorem Held.to2 (h:Held S H (a::b::x::I)):Held S H (x::a::b::I):=h.perm (List.perm_middle (l₁:=[a,b]))
theorem Held.to3 (h:Held S H (a::b::c::x::I)):Held S H (x::a::b::c::I):=h.perm (List.perm_middle (l₁:=[a,b,c]))
theorem Held.fr3 (h:Held S H (x::a::b::c::I)):Held S H (a::b::c::x::I):=h.perm (List.perm_middle (l₁:=[a,b,c])).symm
theorem Held.to4 (h:Held S H (a::b::c::d::x::I)):Held S H (x::a::b::c::d::I):=h.perm (List.perm_middle (l₁:=[a,b,c,d]))
theorem Held.to5 (h:Held S H (a::b::c::d::f::x::I)):Held S H (x::a::b::c::d::f::I):=h.perm (List.perm_middle (l₁:=[a,b,c,d,f]))
end
section
variable {S K:PH} {mr hr:Nat} {s:MA} {J:List Itm}
theorem mA_ld (h:Held S K (machA mr hr s J)) {off:Nat} {vs:List Value} (hv:((s.cs hr).drop off).take vs.length=vs):rowAt K (some ⟨mr,off,none⟩) vs:=by
 rw [←hv];exact zib h (zms) off vs.length
theorem ztg (h:Held S K (machA mr hr s J)):∃b c,s.tv=.slice b s.todo.length c:=(h.swap.row (zms)).sl
theorem ztx (h:Held S K (machA mr hr s J)):∃b c,s.vv=.slice b s.vals.length c:=(h.to2.row (zms)).sl
theorem zp6 (h:Held S K (machA mr hr s J)):∃b c,s.cv=.slice b s.cells.length c:=(h.to3.row (zms)).sl
theorem zz2 (h:Held S K (machA mr hr s J)):∃b c,s.qv=.slice b s.procs.length c:=(h.to4.row (zms)).sl
theorem Z0k (h:Held S K (machA mr hr s J)):∃b c,s.ov=.slice b s.out.length c:=(h.to5.row (zms)).sl
theorem zwf (h:Held S K (machA mr hr s J)):HeapAt K hr (hpX s.L):=zlw (I:=J) (h.sub (List.Sublist.cons _ (List.Sublist.cons _ (List.Sublist.cons _ (List.Sublist.cons _ (List.Sublist.cons _ (List.Sublist.cons _ (List.Sublist.refl _))))))))
def AFit (s:MA):Prop:=VFit s.w
def ATo (mr hr:Nat) (J:List Itm) (S:PH) (m:AX) (r:Value) (e:Ending) (K':PH):Prop:=∃S' s',PH.le S S'∧Held S' K' (machA mr hr s' J)∧AFit s'∧s'.x=m∧e=.returned r
abbrev vNil:Value:=.tuple #[]
theorem slOne {v:Value} (h:∃b n c,v=.slice b n c):∀u∈[v],oneC u=true:=fun u hu=>by
 rw [List.mem_singleton.1 hu]
 obtain ⟨b,n,c,rfl⟩:=h;rfl
theorem zls (h:Held S K (machA mr hr s J)) (hf:AFit s) {t:TdX} {es:List Value} {ev:Value} (h1:InI t.act) (h2:t.e.Rep S es) (h3:SlR S t.env ev) (h4:InI t.at_) (hl:s.todo.length≤8589934592) :
  Tri Tryz.prog z1h #[pAt mr,.agg (tdVs t es ev).toArray] K (ATo mr hr J S (s.x.push [t]) vNil):=by
 obtain ⟨tb,tc,htv⟩:=ztg h
 obtain ⟨nb,db,kb,nc,dc,kc,rfl,hx⟩:=Xp.Rep.open h2
 obtain ⟨vb,vc,rfl⟩:=h3.sl
 refine z89 (pAt mr::tdVs t (exVs t.e nb db kb nc dc kc) (.slice vb t.env.length vc)) (by kernel_rfl) (by kernel_rfl) ?_
 have hl10:rowAt K (some ⟨mr,10,none⟩) [.slice tb s.todo.length tc]:=by rw [←htv];exact mA_ld h rfl
 refine ⟨fun _=>by simp [Chk.holds,ev0,ev,evV,List.cons_append,List.nil_append,List.getD_cons_zero,List.getD_cons_succ,List.map_cons,List.map_nil,iOf,bOf,sOf,pOf,slLen,z04,cmpI,arI,Value.ite_bool,z01,z03,z00,z02],[.slice tb s.todo.length tc],rfl,by simp only [ev0,ev,evV,List.cons_append,List.nil_append,List.getD_cons_zero,List.getD_cons_succ,List.map_cons,List.map_nil,iOf,bOf,sOf,pOf,slLen,z04,cmpI,arI,Value.ite_bool,z01,z03,z00,z02];exact hl10,?_⟩
 simp only [List.cons_append,List.nil_append]
 have h5:Held S K (orow 82 s.todo (.slice tb s.todo.length tc)::bxA mr hr s::rV s::rC s::rQ s::rU s::(heapI hr s.L s.thv++J)):=by rw [←htv];exact h.swap
 refine z16 (b:=168) (more:=[t]) [.agg (tdVs t (exVs t.e nb db kb nc dc kc) (.slice vb t.env.length vc)).toArray] zqu zlk rfl (by decide) (by decide) h5 (by kernel_rfl) (.cons (td_iff.2 ⟨_,_,rfl,h1,hx.rep,h3,h4⟩) .nil) (z1x (by simp only [ev0,ev,evV,List.cons_append,List.nil_append,List.getD_cons_zero,List.getD_cons_succ,List.map_cons,List.map_nil,iOf,bOf,sOf,pOf,slLen,z04,cmpI,arI,Value.ite_bool,z01,z03,z00,z02];exact hl10)) (fun u=>by kernel_rfl) (fun u=>by kernel_rfl)
  (by simp only [maxLen,zlc,List.length_nil];omega) (by simp only [zlc,List.length_nil];omega) fun u v' S1 K1 l1 h6=>⟨z05,?_⟩
 simp only [List.cons_append,List.nil_append]
 obtain ⟨b6,c6,hv6⟩:=(h6.row (zms)).sl
 refine z0u (off:=10) (vs:=[v']) (by simp only [ev0,ev,evV,List.cons_append,List.nil_append,List.getD_cons_zero,List.getD_cons_succ,List.map_cons,List.map_nil,iOf,bOf,sOf,pOf,slLen,z04,cmpI,arI,Value.ite_bool,z01,z03,z00,z02];rfl) h6.swap rfl (slOne ⟨_,_,_,hv6⟩) (by simp [MA.cs]) fun K2 h7=>?_
 exact ⟨S1,{ s with todo:=s.todo++[t],tv:=v' },l1,h7,hf,rfl,rfl⟩
theorem z8m (h:Held S K (machA mr hr s J)) (hf:AFit s) {v:VX} (hv:VFit v) (hl:s.vals.length≤8589934592) :
  Tri Tryz.prog z3t #[pAt mr,valV v] K (ATo mr hr J S (s.x.tell v) vNil):=by
 obtain ⟨tb,tc,htv⟩:=ztx h
 refine z8b (pAt mr::valVs v) (by kernel_rfl) (by kernel_rfl) ?_
 have hl10:rowAt K (some ⟨mr,11,none⟩) [.slice tb s.vals.length tc]:=by rw [←htv];exact mA_ld h rfl
 refine ⟨fun _=>by simp [Chk.holds,ev0,ev,evV,List.cons_append,List.nil_append,List.getD_cons_zero,List.getD_cons_succ,List.map_cons,List.map_nil,iOf,bOf,sOf,pOf,slLen,z04,cmpI,arI,Value.ite_bool,z01,z03,z00,z02],[.slice tb s.vals.length tc],rfl,by simp only [ev0,ev,evV,List.cons_append,List.nil_append,List.getD_cons_zero,List.getD_cons_succ,List.map_cons,List.map_nil,iOf,bOf,sOf,pOf,slLen,z04,cmpI,arI,Value.ite_bool,z01,z03,z00,z02];exact hl10,?_⟩
 simp only [List.cons_append,List.nil_append]
 have h5:Held S K (orow 73 s.vals (.slice tb s.vals.length tc)::bxA mr hr s::rT s::rC s::rQ s::rU s::(heapI hr s.L s.thv++J)):=by rw [←htv];exact h.to2
 refine z16 (b:=32) (more:=[v]) [valV v] z4x z2v rfl (by decide) (by decide) h5 (by kernel_rfl) (.cons (zin hv) .nil) (z1x (by simp only [ev0,ev,evV,List.cons_append,List.nil_append,List.getD_cons_zero,List.getD_cons_succ,List.map_cons,List.map_nil,iOf,bOf,sOf,pOf,slLen,z04,cmpI,arI,Value.ite_bool,z01,z03,z00,z02];exact hl10)) (fun u=>by kernel_rfl) (fun u=>by kernel_rfl)
  (by simp only [maxLen,zlc,List.length_nil];omega) (by simp only [zlc,List.length_nil];omega) fun u v' S1 K1 l1 h6=>⟨z05,?_⟩
 simp only [List.cons_append,List.nil_append]
 obtain ⟨b6,c6,hv6⟩:=(h6.row (zms)).sl
 refine z0u (off:=11) (vs:=[v']) (by simp only [ev0,ev,evV,List.cons_append,List.nil_append,List.getD_cons_zero,List.getD_cons_succ,List.map_cons,List.map_nil,iOf,bOf,sOf,pOf,slLen,z04,cmpI,arI,Value.ite_bool,z01,z03,z00,z02];rfl) h6.swap rfl (slOne ⟨_,_,_,hv6⟩) (by simp [MA.cs]) fun K2 h7=>?_
 exact ⟨S1,{ s with vals:=s.vals++[v],vv:=v' },l1,h7.perm (List.Perm.cons _ (List.Perm.swap _ _ _)),hf,rfl,rfl⟩
def PopTo (mr hr:Nat) (J:List Itm) (S:PH) (s:MA) (n:Nat) (e:Ending) (K':PH):Prop:=∃S' vv v,PH.le S S'∧Held S' K' (machA mr hr { s with vals:=s.vals.take (s.vals.length - n),vv:=vv } J)∧SlR S' (s.vals.drop (s.vals.length - n)) v∧e=.returned v
theorem z88 (h:Held S K (machA mr hr s J)) {n:Nat} (hn:n≤s.vals.length) (hl:s.vals.length≤8589934592) :
  Tri Tryz.prog za2 #[pAt mr,.int .i64 (n:Int)] K (PopTo mr hr J S s n):=by
 obtain ⟨tb,tc,htv⟩:=ztx h
 refine z90 [pAt mr,.int .i64 (n:Int)] (by kernel_rfl) (by kernel_rfl) ?_
 have hl11:∀{K':PH} {I:List Itm},Held S K' (I++machA mr hr s J)→rowAt K' (some ⟨mr,11,none⟩) [.slice tb s.vals.length tc]:=fun h'=>by rw [←htv];exact zib h' (List.mem_append_right _ (zms)) 11 1
 refine ⟨fun _=>by simp [Chk.holds,ev0,ev,evV,List.cons_append,List.nil_append,List.getD_cons_zero,List.getD_cons_succ,List.map_cons,List.map_nil,iOf,bOf,sOf,pOf,slLen,z04,cmpI,arI,Value.ite_bool,z01,z03,z00,z02],[.slice tb s.vals.length tc],rfl,by simp only [ev0,ev,evV,List.cons_append,List.nil_append,List.getD_cons_zero,List.getD_cons_succ,List.map_cons,List.map_nil,iOf,bOf,sOf,pOf,slLen,z04,cmpI,arI,Value.ite_bool,z01,z03,z00,z02];exact hl11 (I:=[]) h,?_⟩
 simp only [List.cons_append,List.nil_append]
 refine z1k (α:=VX) (b:=32) z4x z2v h z05 fun v1 K1 h1 _ _=>?_
 have hw:IntKind.i64.wrap ((s.vals.length:Int) - (n:Int))=((s.vals.length - n:Nat):Int):=by rw [w64 (by omega) (by omega)];omega
 have hcap:s.vals.length≤tc:=by
  obtain ⟨xs,o1,_⟩:=(h.to2.row (zms)).own
  rcases o1.2 with ⟨e,hz⟩ | ⟨g,cap,cur,e,_,h4,_⟩
  ·omega
  ·rw [htv] at e;cases e;exact h4
 refine ⟨[.slice tb s.vals.length tc],rfl,by simp only [ev0,ev,evV,List.cons_append,List.nil_append,List.getD_cons_zero,List.getD_cons_succ,List.map_cons,List.map_nil,iOf,bOf,sOf,pOf,slLen,z04,cmpI,arI,Value.ite_bool,z01,z03,z00,z02];exact hl11 (I:=[_]) h1,fun _=>?_,?_⟩
 ·simp only [Chk.holds,ev0,ev,evV,List.cons_append,List.nil_append,List.getD_cons_zero,List.getD_cons_succ,List.map_cons,List.map_nil,iOf,bOf,sOf,pOf,slLen,z04,cmpI,arI,Value.ite_bool,z01,z03,z00,z02,hw,slCap];omega
 simp only [List.cons_append,List.nil_append]
 refine z1o (b:=32) (v:=v1) (more:=s.vals.drop (s.vals.length - n)) z4x z2v (by kernel_rfl) (w:=slsV (.slice tb s.vals.length tc) ((s.vals.length - n:Nat):Int) (s.vals.length:Int) 3) ?_ h1 ?_ (by simp only [maxLen,List.length_nil,List.length_drop];omega) (by simp only [List.length_nil,List.length_drop];omega) fun v2 K2 h2 _=>⟨z05,?_⟩
 ·rw [←hw];kernel_rfl
 ·have hr2:=(h1.perm (List.perm_middle (l₁:=[_,_,_]))).row (zms)
  have:=hr2.srcDrop (m:=s.vals.length - n) (by omega)
  rw [htv] at this;exact this
 rw [List.nil_append] at h2
 obtain ⟨b2,c2,hv2⟩:=(h2.row (zms)).sl
 refine ⟨[.slice tb s.vals.length tc],rfl,by simp only [ev0,ev,evV,List.cons_append,List.nil_append,List.getD_cons_zero,List.getD_cons_succ,List.map_cons,List.map_nil,iOf,bOf,sOf,pOf,slLen,z04,cmpI,arI,Value.ite_bool,z01,z03,z00,z02];exact hl11 (I:=[_]) h2,fun _=>?_,?_⟩
 ·simp only [Chk.holds,ev0,ev,evV,List.cons_append,List.nil_append,List.getD_cons_zero,List.getD_cons_succ,List.map_cons,List.map_nil,iOf,bOf,sOf,pOf,slLen,z04,cmpI,arI,Value.ite_bool,z01,z03,z00,z02,hw,slCap];omega
 obtain ⟨S3,hs3,l3,h3⟩:=h2.freeze
 simp only [List.cons_append,List.nil_append]
 have h4:=(h3.to2).cut (m:=s.vals.length - n) (by omega)
 refine z0u (off:=11) (vs:=[slsV s.vv 0 ((s.vals.length - n:Nat):Int) 3]) (by simp only [ev0,ev,evV,List.cons_append,List.nil_append,List.getD_cons_zero,List.getD_cons_succ,List.map_cons,List.map_nil,iOf,bOf,sOf,pOf,slLen,z04,cmpI,arI,Value.ite_bool,z01,z03,z00,z02];rfl) h4.swap ?_ (slOne ⟨_,_,_,rfl⟩) (by simp [MA.cs]) fun K4 h5=>?_
 ·simp only [List.map_cons,List.map_nil,ev0,ev,evV,List.cons_append,List.nil_append,List.getD_cons_zero,List.getD_cons_succ,List.map_cons,List.map_nil,iOf,bOf,sOf,pOf,slLen,z04,cmpI,arI,Value.ite_bool,z01,z03,z00,z02,hw,htv]
 refine ⟨S3,slsV s.vv 0 ((s.vals.length - n:Nat):Int) 3,v2,l3,h5.perm (List.Perm.cons _ (List.Perm.swap _ _ _)),hs3,?_⟩
 rw [hv2];rfl
end
end Go.Proofs.YtjhlndokjkeilaaGreatDoor.Vc
