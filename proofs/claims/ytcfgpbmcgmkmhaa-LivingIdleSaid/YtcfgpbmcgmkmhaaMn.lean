/-
  Texts on the way to the statement, one behind the other, without what it does not reach.
-/
import Derived.Test.YtcfgpbmcgmkmhaaMm
import Derived.OpenShut
set_option linter.unusedSimpArgs false
set_option linter.unusedVariables false
set_option maxRecDepth 100000
/-
 CODE RUN: an instruction done: in memory.
-/
namespace Go.Proofs.Ytcfgpbmcgmkmhaa.Vc
open Go

section
variable {S K : PH} {pv : Value} {mr hr : Nat} {s : MS} {J : List Itm} {c : CodeX} {n : Nat}
/-- the code in memory, and the machine: no act's registers are more than so many -/
theorem regs_at {l : List VX} {r : Int} (h0 : 0 ≤ r) (h1 : r < l.length) : ∃ (j : Nat) (y : VX), r = (j : Int) ∧ l[j]? = some y ∧ l.getD r.toNat vNone = y := by
 refine ⟨r.toNat, l[r.toNat]'(by omega), by omega, List.getElem?_eq_getElem _, ?_⟩
 rw [List.getD_eq_getElem?_getD, List.getElem?_eq_getElem (by omega)]; rfl
/-- a register filled at last -/
theorem put15 {X : List PanicEntry → PH → Prop} {E : List Value} {L : LK} {β : Type} {k : Fm β} {Q : β → List Value → PH → LK → Prop} {ws : List ActX} {a : ActX} {x : ActM × List VX} {p : SV} {ss : List SV} {j : Nat} {y v : VX}
  (h : Held S K (machI pv mr hr s ++ J)) (hA : s.x.acts = ws ++ [a]) (hget : s.A[ws.length]? = some x) (hxa : actX' x = a) (hy : x.2[j]? = some y) (hp : pOf (ev0 E p) = pOf (eltV x.1.sl (j : Int) (sz VX))) (hs : ss.map (ev0 E) = valVs v) (hv : VFit v)
  (hk : ∀ K', Held S K' (machI pv mr hr { s with A := s.A.set ws.length (x.1, x.2.set j v) } ++ J) → ({ s with A := s.A.set ws.length (x.1, x.2.set j v) } : MS).x = s.x.put (j : Int) v → den Try.prog X k E K' L Q) : den Try.prog X (.store p ss k) E K L Q := by
 have hpk := nest_pick hget (h.perm permA)
 refine den_hPutZ (i := j) (a := y) (a' := v) (us := valVs v) hp hpk hy rfl hs (by simp [oneC]) (val_mk hv) fun K1 h1 => ?_
 have h2 := nest_unpick hget h1
 refine hk K1 (h2.perm (permA (s := { s with A := s.A.set ws.length (x.1, x.2.set j v) }) (J := J)).symm) ?_
 have hm : s.x.put (j : Int) v = { s.x with acts := ws ++ [{ a with regs := a.regs.set j v }] } := last_is hA _
 rw [hm]
 obtain ⟨l', x', hl', hws, hxa', hget', _⟩ := last_act (show s.A.map actX' = ws ++ [a] from hA)
 rw [hget] at hget'
 cases hget'
 have : (s.A.set ws.length (x.1, x.2.set j v)).map actX' = ws ++ [{ a with regs := a.regs.set j v }] := by
  have hll : l'.length = ws.length := by rw [← hws]; simp
  rw [hl', ← hll, List.set_append_right _ _ (Nat.le_refl _), Nat.sub_self, List.set_cons_zero, List.map_append, hws, ← hxa]
  simp
 unfold MS.x
 simp only [this]
end
def InsTo (pv : Value) (mr hr : Nat) (J : List Itm) (S : PH) (s : MS) (m : MX) (to : Int) (vs : List Value) (K' : PH) : Prop := ∃ S' s' v, vs = valVs v ∧ VFit v ∧ PH.le S S' ∧ Held S' K' (machI pv mr hr s' ++ J) ∧ MFit s' ∧ s'.A = s.A ∧ s'.av = s.av ∧ m = if s'.x.e = 0 then s'.x.put to v else s'.x
theorem const_fit (d : Dat) {H : PH} {cs : List Value} (h : d.Rep H cs) : VFit (constK d) := by
 obtain ⟨sv, rfl, hk, hn, ht, hs⟩ := Dat.Rep_iff.1 h
 unfold constK
 split
 ·exact fit_none
 split
 ·exact ⟨hk, hn, by simp⟩
 split
 ·exact ⟨(by decide : InI 3), (by decide : InI 0), ht⟩
 split
 ·exact ⟨(by decide : InI 4), (by decide : InI 0), by simp⟩
 ·exact fit_none
section
variable {S K : PH} {pv : Value} {mr hr : Nat} {s : MS} {J : List Itm} {c : CodeX} {n : Nat}
def toldX1 (x : InsX) (r : MX × VX) : MX := if r.1.e = 0 then r.1.put x.to r.2 else r.1
theorem ins_eq {m : MX} {ws : List ActX} {a : ActX} (hA : m.acts = ws ++ [a]) (x : InsX) : m.ins constK x =
  if x.op = [99, 111, 110, 115, 116] then toldX1 x (m, constK x.const)
  else if x.op = [109, 111, 118, 101] then toldX1 x (m, (x.args.map (regAt a)).getD 0 vNone)
  else if x.op = [104, 101, 108, 100] then toldX1 x (m, (m.clos.getD a.clo.toNat default).held.getD x.num.toNat vNone)
  else if x.op = [99, 108, 111, 115, 117, 114, 101] then toldX1 x (m.made ⟨0, x.num, x.args.map (regAt a), false, []⟩)
  else if x.op = tieB then
   match m.find ((x.args.map (regAt a)).getD 0 vNone) with
   | none => { m with e := 80 }
   | some k =>
    let c := m.clos.getD k default
    if (c.held.length : Int) ≤ x.num then { m with e := 80 }
    else { m with clos := m.clos.set k { c with held := c.held.set x.num.toNat ((x.args.map (regAt a)).getD 1 vNone) } }
  else toldX1 x (m.prim x.op (x.args.map (regAt a))) := by
 unfold MX.ins; rw [last_of hA]; rfl
theorem arity_few (p : List UInt8) : arityI p ≤ 3 := by
 unfold arityI
 repeat' split
 all_goals omega
theorem insOk_few (g : GoodC c) {p : PrcX} {x : InsX} (h : insOk c p x = true) : x.args.length ≤ 1000 := by
 have gx := insOk_good h
 unfold insOk at h
 split at h
 ·cases h
 split at h
 ·simp only [Bool.and_eq_true, decide_eq_true_eq] at h; omega
 split at h
 ·simp only [Bool.and_eq_true, decide_eq_true_eq] at h; omega
 split at h
 ·simp only [Bool.and_eq_true, decide_eq_true_eq] at h; omega
 split at h
 ·rename_i hc
  obtain ⟨h1, h2, h3⟩ := gx.closure hc
  have := (g.prc (prcAt_mem (by omega) h2).1).holds
  omega
 split at h
 ·simp only [Bool.and_eq_true, decide_eq_true_eq] at h; omega
 split at h
 ·cases h
 ·simp only [Bool.and_eq_true, decide_eq_true_eq] at h
  have := arity_few x.op
  omega
theorem clo_get {k : Nat} {x : CloM × List VX} (hx : s.C[k]? = some x) : s.x.clos.getD k default = cloX x := by
 show (s.C.map cloX).getD k default = _
 rw [List.getD_eq_getElem?_getD, List.getElem?_map, hx]; rfl
theorem do15_tri (h : Held S K (machI pv mr hr s ++ J)) (hf : MFit s) (g : GoodC c) (hro : RunOk c n s.x) (hn : n ≤ 16777215) {ws : List ActX} {a : ActX} (hA : s.x.acts = ws ++ [a]) (he : s.x.e = 0) {x : InsX} {xs : List Value} (hx : CsR S x xs) (gx : InsGood c (prcAt c a.proc) x) (hal : x.args.length ≤ 1000) :
  Tri Try.prog n_scrimshawref15_Machine__do #[pAt mr, .agg xs.toArray] K (MTo pv mr hr J S (s.x.ins constK x) vNil) := by
 obtain ⟨argsv, dv, rfl, ix1, ix2, ix3, ix4, ix5, ix6, ix7, ix8⟩ := ins_iff.1 hx
 obtain ⟨arb, arc, rfl⟩ := ix3.sl
 obtain ⟨dvb, dvc, rfl⟩ := ix7.sl
 have hmx : maxLen = 9223372036854775807 := rfl
 have hco := hro.core
 have hCl : s.C.length ≤ n := by have := hco.cn; simpa [MS.x] using this
 have hLl : s.L.length ≤ n := by have := hco.hn; simpa [MS.x, hpX] using this
 have hAl : s.A.length ≤ n := by have := hro.acts.an; simpa [MS.x] using this
 obtain ⟨ab, ac, hav⟩ := mach_asl h
 obtain ⟨l', xa, hl', hws, hxa, hget, hlen⟩ := last_act (show s.A.map actX' = ws ++ [a] from hA)
 obtain ⟨x1, x2, x3, x4, x5, x6, x7, x8⟩ := mach_act h hget
 have hrow := mach_act_row h hget
 obtain ⟨rb, rc, hrs⟩ := hrow.sl
 have x1' := x1
 have x3' := x3
 rw [hav] at x1 x3
 rw [hrs] at x3
 have hra : xa.2 = a.regs := by rw [← hxa]
 have hclo : xa.1.clo = a.clo := by rw [← hxa]
 have hd1 : IntKind.i64.wrap ((s.A.length : Int) - 1) = (ws.length : Int) := by rw [w64 (by omega) (by omega)]; omega
 have haok := hro.acts.acts a (by rw [hA]; simp)
 have hregs := haok.regs
 have gp := g.prc (prcAt_mem haok.proc.1 haok.proc.2).1
 have hregin : ∀ {r : Int}, 0 ≤ r ∧ r < (prcAt c a.proc).regs → 0 ≤ r ∧ r < (xa.2.length : Int) := fun hr => by rw [hra, hregs]; exact hr
 refine tri_scrimshawref15_Machine__do [pAt mr, txt x.op, .int .i64 x.to, .slice arb x.args.length arc, .int .i64 x.const.kind, .int .i64 x.const.int, txt x.const.text, .slice dvb x.const.list.length dvc, .int .i64 x.num] (by kernel_rfl) (by kernel_rfl) ?_
 have hl3 : ∀ {S' K' : PH} {s' : MS} {J' : List Itm}, Held S' K' (machI pv mr hr s' ++ J') → s'.A = s.A → s'.av = s.av → rowAt K' (some ⟨mr, 3, none⟩) [.slice ab s.A.length ac] := fun h' _ e2 => by rw [← hav, ← e2]; exact mach_bx h' rfl
 refine ⟨fun _ => by simp [Chk.holds, evs, evb], [.slice ab s.A.length ac], rfl, by simp only [evs, evb]; exact hl3 h rfl rfl, [.slice ab s.A.length ac], rfl, by simp only [evs, evb]; exact hl3 h rfl rfl, fun _ => ?_, ?_⟩
 ·simp only [Chk.holds, evs, evb, hd1]; exact ⟨x1, by omega, by omega⟩
 simp only [cns]
 refine den_hLit0 (α := VX) (b := 32) uValsK elemValK h pendNil fun v11 K1 h1 _ _ => ?_
 simp only [cns]
 refine ⟨fun m vs K2 => ∃ (k : Nat) (u : Value) (S1 : PH), k + m = x.args.length ∧ vs = [u, nI k] ∧ PH.le S S1 ∧ Held S1 K2 (orow 73 ((x.args.take k).map (regAt a)) u :: (machI pv mr hr s ++ J)), ⟨x.args.length, 0, v11, S, by omega, rfl, PH.le_refl _, h1⟩, ?_⟩
 rintro m vs K2 _ ⟨k, u, S1, hkm, rfl, ls, h2⟩
 simp only [cns]
 have xact := fun {S' K' : PH} {s' : MS} {J' : List Itm} (h' : Held S' K' (machI pv mr hr s' ++ J')) (e1 : s'.A = s.A) (e2 : s'.av = s.av) => (mach_act h' (show s'.A[ws.length]? = some xa by rw [e1]; exact hget)).2.2.1
 have xrow := fun {S' K' : PH} {s' : MS} {J' : List Itm} (h' : Held S' K' (machI pv mr hr s' ++ J')) (e1 : s'.A = s.A) => mach_act_row h' (show s'.A[ws.length]? = some xa by rw [e1]; exact hget)
 refine ⟨fun g1 => ?_, fun g1 => ?_⟩
 ·simp only [evs, evb, decide_eq_true_eq] at g1
  obtain ⟨r, hr1⟩ : ∃ r, x.args[k]? = some r := ⟨_, List.getElem?_eq_getElem (by omega)⟩
  have hrin := hregin (gx.args r (List.mem_of_getElem? hr1))
  obtain ⟨j, y, hj, hy, hyd⟩ := regs_at hrin.1 hrin.2
  obtain ⟨z1, _, zcs, z2, z3⟩ := ix3.get hr1
  obtain ⟨rfl, _⟩ := csIK z2
  have hra2 := xrow h2.tail rfl
  obtain ⟨y1, _, ycs, y2, y3⟩ := hra2.get hy
  obtain ⟨rfl, yf⟩ := val_cs y2
  have xa2 := xact h2.tail rfl rfl
  rw [hav, hrs] at xa2
  rw [hrs] at y1 y3
  refine ⟨[.slice rb xa.2.length rc], rfl, ?_, fun _ => ?_, [.int .i64 r], rfl, ?_, fun _ => ?_, valVs y, rfl, ?_, ?_⟩
  ·simp only [evs, evb, hd1]; exact rowAt_sub xa2 1 1
  ·simp only [Chk.holds, evs, evb]; exact ⟨z1, by omega, by omega⟩
  ·simp only [evs, evb]; exact rowAt_le (PH.le_trans ls h2.sh) z3
  ·simp only [Chk.holds, evs, evb]; exact ⟨y1, by omega, by omega⟩
  ·simp only [evs, evb, hj]; exact y3
  simp only [cns]
  refine den_hPush (b := 32) (more := [y]) [valV y] uValsK elemValK rfl (by decide) (by decide) h2 (by kernel_rfl) (.cons (val_mk yf) .nil) pendNil (fun w => by kernel_rfl) (fun w => by kernel_rfl)
   (by simp only [maxLen, List.length_map, List.length_take, List.length_cons, List.length_nil]; omega) (by simp only [List.length_map, List.length_take, List.length_cons, List.length_nil]; omega) fun w v7 S7 K7 l7 h7 => ⟨pendNil, ?_⟩
  refine ⟨_, lookup_hit, m - 1, by omega, k + 1, v7, S7, by omega, ?_, PH.le_trans ls l7, ?_⟩
  ·simp only [evs, evb, up1 (by omega : k < 4611686018427387904)]
  ·rw [List.take_add_one, hr1, List.map_append]
   have : (some r).toList.map (regAt a) = [y] := by
    show [a.regs.getD r.toNat vNone] = [y]
    rw [← hra, hyd]
   rw [this]; exact h7
 simp only [evs, evb, decide_eq_false_iff_not] at g1
 rw [List.take_of_length_le (by omega)] at h2
 have hins := ins_eq hA x
 generalize hM : s.x.ins constK x = M at hins ⊢
 obtain ⟨R, hR⟩ : ∃ R, x.args.map (regAt a) = R := ⟨_, rfl⟩
 rw [hR] at h2 hins
 have hRl : R.length = x.args.length := by rw [← hR]; simp
 obtain ⟨ub, uc, rfl⟩ : ∃ b c', u = .slice b R.length c' := (h2.row (List.mem_cons_self ..)).sl
 refine ⟨fun vs K' => x.op ≠ tieB ∧ InsTo pv mr hr J S s M x.to vs K', ?_, ?_⟩
 ·rintro vs K3 _ ⟨hop, S3, s3, v, rfl, fv, l3, h3, f3, eA, eav, hm⟩
  simp only [cns]
  have hto := hregin (gx.to hop)
  obtain ⟨j, y, hj, hy, hyd⟩ := regs_at hto.1 hto.2
  refine ⟨[.int .i64 s3.e], rfl, by simp only [evs, evb]; exact mach_bx h3 rfl, fun g2 => ?_, fun g2 => ?_⟩
  ·simp only [evs, evb, decide_eq_true_eq] at g2
   have he3 : s3.x.e = 0 := g2
   rw [if_pos he3, hj] at hm
   have xa3 := xact h3 eA eav
   have hra3 := xrow h3 eA
   obtain ⟨y1, _, _⟩ := hra3.get hy
   rw [eav, hav, hrs] at xa3
   rw [hrs] at y1
   refine ⟨[.slice rb xa.2.length rc], rfl, ?_, fun _ => ?_, ?_⟩
   ·simp only [evs, evb, hd1]; exact rowAt_sub xa3 1 1
   ·simp only [Chk.holds, evs, evb]; exact ⟨y1, by omega, by omega⟩
   have hA3 : s3.x.acts = ws ++ [a] := by
    show s3.A.map actX' = _
    rw [eA]; exact hA
   refine put15 (v := v) h3 hA3 (by rw [eA]; exact hget) hxa hy ?_ ?_ fv fun K4 h4 hx4 => ?_
   ·simp only [evs, evb, hj]; rw [hrs]; rfl
   ·kernel_rfl
   ·exact ⟨S3, _, l3, h4, f3, by rw [hx4, hm], rfl⟩
  ·simp only [evs, evb, decide_eq_false_iff_not] at g2
   rw [if_neg (show ¬ s3.x.e = 0 from g2)] at hm
   exact ⟨S3, s3, l3, h3, f3, hm.symm, rfl⟩
 have hmv : ∀ y, R[0]? = some y → R.getD 0 vNone = y := fun y hy => by rw [List.getD_eq_getElem?_getD, hy]; rfl
 refine ⟨fun g2 => ?_, fun g2 => ?_⟩
 ·simp only [evs, evb, txt_eql, decide_eq_true_eq] at g2
  rw [if_pos g2] at hins
  have hnt : x.op ≠ tieB := by rw [g2]; decide
  have hdr : x.const.Rep K2 [.int .i64 x.const.kind, .int .i64 x.const.int, txt x.const.text, .slice dvb x.const.list.length dvc] := Dat.Rep_iff.2 ⟨_, rfl, ix4, ix5, ix6, ix7.le (PH.le_trans ls h2.sh)⟩
  refine den_call cb_scrimshawref08_Const (Const8_tri x.const _ K2 hdr) ?_
  rintro e K3 ⟨l3, b, rfl⟩
  refine ⟨_, valVs (constK x.const) ++ [.bool b], rfl, rfl, rfl, pendNil, _, lookup_hit, hnt, S1, s, constK x.const, by kernel_rfl, const_fit x.const hdr, ls, (h2.tail).le l3, hf, rfl, rfl, hins⟩
 simp only [evs, evb, txt_eql, decide_eq_false_iff_not] at g2
 rw [if_neg g2] at hins
 refine ⟨fun g3 => ?_, fun g3 => ?_⟩
 ·simp only [evs, evb, txt_eql, decide_eq_true_eq] at g3
  rw [if_pos g3] at hins
  have hnt : x.op ≠ tieB := by rw [g3]; decide
  have h1l := gx.move g3
  obtain ⟨y, hy⟩ : ∃ y, R[0]? = some y := ⟨_, List.getElem?_eq_getElem (by omega)⟩
  obtain ⟨S2, s2, l2, h3⟩ := h2.freeze
  obtain ⟨y1, _, ycs, y2, y3⟩ := s2.get hy
  obtain ⟨rfl, yf⟩ := val_cs y2
  rw [hmv y hy] at hins
  refine ⟨fun _ => ?_, valVs y, rfl, by simp only [evs, evb]; exact rowAt_le h3.sh y3, _, lookup_hit, hnt, S2, s, y, by kernel_rfl, yf, PH.le_trans ls l2, h3, hf, rfl, rfl, hins⟩
  simp only [Chk.holds, evs, evb]; exact ⟨y1, by omega, by omega⟩
 simp only [evs, evb, txt_eql, decide_eq_false_iff_not] at g3
 rw [if_neg g3] at hins
 refine ⟨fun g4 => ?_, fun g4 => ?_⟩
 ·simp only [evs, evb, txt_eql, decide_eq_true_eq] at g4
  rw [if_pos g4] at hins
  have hnt : x.op ≠ tieB := by rw [g4]; decide
  have hnum := gx.held g4
  obtain ⟨y0, c1, c2, c3⟩ := haok.clo
  have hc0 := haok.clo0
  obtain ⟨q, hq⟩ : ∃ q : Nat, a.clo = (q : Int) := ⟨a.clo.toNat, by omega⟩
  rw [hq, Int.toNat_natCast] at c1
  have c1' : (s.C.map cloX)[q]? = some y0 := c1
  rw [List.getElem?_map] at c1'
  obtain ⟨xc, hxc, hxy⟩ : ∃ xc, s.C[q]? = some xc ∧ cloX xc = y0 := by
   cases hh : s.C[q]? with
   | none => rw [hh] at c1'; cases c1'
   | some xc => rw [hh] at c1'; exact ⟨xc, rfl, by simpa using c1'⟩
  have hcok := hco.clos y0 (List.mem_of_getElem? c1)
  have hhl := (hcok.fn c2).2
  rw [c3] at hhl
  have hheld : y0.held = xc.2 := by rw [← hxy]
  rw [hheld] at hhl
  obtain ⟨w1, w2, av4, w3, w4, w5, w6⟩ := mach_clo h2.tail hxc
  have hrw := mach_clo_row h2.tail hxc
  obtain ⟨hb, hcc, hxs⟩ := hrw.sl
  obtain ⟨cb, cc, hcv⟩ := mach_csl h2.tail
  obtain ⟨j, y, hj, hy, hyd⟩ := regs_at (l := xc.2) hnum.1 (by omega)
  obtain ⟨y1, _, ycs, y2, y3⟩ := hrw.get hy
  obtain ⟨rfl, yf⟩ := val_cs y2
  rw [hcv] at w1 w3
  rw [hxs] at w3 y1 y3
  have xa2 := xact h2.tail rfl rfl
  rw [hav, hrs] at xa2
  have hqC := (List.getElem?_eq_some_iff.1 hxc).1
  have hgd : s.x.clos.getD a.clo.toNat default = cloX xc := by rw [hq, Int.toNat_natCast]; exact clo_get hxc
  rw [hgd, show (cloX xc).held.getD x.num.toNat vNone = y from hyd] at hins
  refine ⟨[.slice cb s.C.length cc], rfl, by simp only [evs, evb]; rw [← hcv]; exact mach_bx h2.tail rfl, [.int .i64 a.clo], rfl, ?_, fun _ => ?_, [.slice hb xc.2.length hcc], rfl, ?_, fun _ => ?_, valVs y, rfl, ?_, _, lookup_hit, hnt, S1, s, y, by kernel_rfl, yf, ls, h2.tail, hf, rfl, rfl, hins⟩
  ·simp only [evs, evb, hd1]; rw [← hclo]; exact rowAt_sub xa2 2 1
  ·simp only [Chk.holds, evs, evb, hq]; exact ⟨w1, by omega, by omega⟩
  ·simp only [evs, evb, hq]; exact rowAt_sub w3 2 1
  ·simp only [Chk.holds, evs, evb]; exact ⟨y1, by omega, by omega⟩
  ·simp only [evs, evb, hj]; exact y3
 simp only [evs, evb, txt_eql, decide_eq_false_iff_not] at g4
 rw [if_neg g4] at hins
 refine ⟨fun g5 => ?_, fun g5 => ?_⟩
 ·simp only [evs, evb, txt_eql, decide_eq_true_eq] at g5
  rw [if_pos g5] at hins
  have hnt : x.op ≠ tieB := by rw [g5]; decide
  refine den_call cb_scrimshawref15_Machine__made (made15_tri (proc := x.num) (kont := false) (acts := []) (asv := .slice none 0 0) h2 (SlR.mk_iff.2 ⟨Nat.zero_le _, .inl ⟨rfl, rfl⟩⟩) ix8 (by omega) (by omega)) ?_
  rintro e K3 ⟨S3, s3, l3, h3, rfl, hx3, eA, eav, ew, et, _⟩
  refine ⟨_, valVs (s.x.made ⟨0, x.num, R, false, []⟩).2, rfl, rfl, rfl, pendNil, _, lookup_hit, hnt, S3, s3, (s.x.made ⟨0, x.num, R, false, []⟩).2, by kernel_rfl, ?_, PH.le_trans ls l3, h3, ?_, eA, eav, ?_⟩
  ·refine ⟨(by decide : InI 8), ?_, (by decide : ([] : List UInt8).length ≤ maxLen)⟩
   show InI ((hpX s.L).length : Int)
   simp only [hpX, List.length_map]
   unfold InI; omega
  ·unfold MFit; rw [ew, et]; exact hf
  ·rw [hx3]; exact hins
 simp only [evs, evb, txt_eql, decide_eq_false_iff_not] at g5
 rw [if_neg g5] at hins
 refine ⟨fun g6 => ?_, fun g6 => ?_⟩
 ·simp only [evs, evb, txt_eql, decide_eq_true_eq] at g6
  rw [if_pos (show x.op = tieB from g6)] at hins
  obtain ⟨h2l, hnum⟩ := gx.tie g6
  obtain ⟨S2, s2, l2, h3⟩ := h2.freeze
  obtain ⟨p0, hp0⟩ : ∃ y, R[0]? = some y := ⟨_, List.getElem?_eq_getElem (by omega)⟩
  obtain ⟨p1, hp1⟩ : ∃ y, R[1]? = some y := ⟨_, List.getElem?_eq_getElem (by omega)⟩
  obtain ⟨y1, _, ycs, y2, y3⟩ := s2.get hp0
  obtain ⟨rfl, yf⟩ := val_cs y2
  obtain ⟨z1, _, zcs, z2, z3⟩ := s2.get hp1
  obtain ⟨rfl, zf⟩ := val_cs z2
  have hm1 : R.getD 1 vNone = p1 := by rw [List.getD_eq_getElem?_getD, hp1]; rfl
  rw [hmv p0 hp0, hm1] at hins
  refine ⟨fun _ => ?_, valVs p0, rfl, by simp only [evs, evb]; exact rowAt_le h3.sh y3, ?_⟩
  ·simp only [Chk.holds, evs, evb]; exact ⟨y1, by omega, by omega⟩
  simp only [cns]
  refine den_gives [.int .i64 (findI s.x p0)] cb_scrimshawref15_Machine__find (find15_gives h3 p0 (by omega)) rfl pendNil fun K3 l3 => ?_
  have h3 := h3.le l3
  simp only [cns]
  refine ⟨fun vs K' => K3 = K' ∧ ((vs = [.bool true] ∧ M = { s.x with e := 80 }) ∨ (vs = [.bool false] ∧ ∃ (q : Nat) (xc : CloM × List VX), findI s.x p0 = (q : Int) ∧ s.C[q]? = some xc ∧ x.num < (xc.2.length : Int) ∧ M = { s.x with clos := s.x.clos.set q { cloX xc with held := xc.2.set x.num.toNat p1 } })), ?_, ?_⟩
  rotate_left
  ·cases hfd : s.x.find p0 with
   | none =>
    have hfi : findI s.x p0 = -1 := by unfold findI; rw [hfd]
    rw [hfd] at hins
    refine ⟨fun _ => ⟨_, lookup_hit, rfl, .inl ⟨rfl, hins⟩⟩, fun g7 => ?_⟩
    simp [evs, evb, hfi] at g7
   | some q =>
    have hfi : findI s.x p0 = (q : Int) := by unfold findI; rw [hfd]
    rw [hfd] at hins
    obtain ⟨xc, hxc, hxcc⟩ := find_clo hfd
    simp only [hxcc] at hins
    obtain ⟨w1, w2, av4, w3, w4, w5, w6⟩ := mach_clo h3 hxc
    obtain ⟨hb, hcc, hxs⟩ := (mach_clo_row h3 hxc).sl
    obtain ⟨cb, cc, hcv⟩ := mach_csl h3
    have hqC := (List.getElem?_eq_some_iff.1 hxc).1
    rw [hcv] at w1 w3
    rw [hxs] at w3
    refine ⟨fun g7 => ?_, fun _ => ⟨[.slice cb s.C.length cc], rfl, by simp only [evs, evb]; rw [← hcv]; exact mach_bx h3 rfl, fun _ => ?_, [.slice hb xc.2.length hcc], rfl, ?_, _, lookup_hit, rfl, ?_⟩⟩
    ·simp [evs, evb, hfi] at g7; omega
    ·simp only [Chk.holds, evs, evb, hfi]; exact ⟨w1, by omega, by omega⟩
    ·simp only [evs, evb, hfi]; exact rowAt_sub w3 2 1
    ·by_cases hle : (xc.2.length : Int) ≤ x.num
     ·rw [if_pos hle] at hins
      exact .inl ⟨by simp [evs, evb, hle], hins⟩
     ·rw [if_neg hle] at hins
      exact .inr ⟨by simp [evs, evb]; omega, q, xc, hfi, hxc, by omega, hins⟩
  rintro vs K4 _ ⟨rfl, hJ⟩
  rcases hJ with ⟨rfl, hm⟩ | ⟨rfl, q, xc, hfi, hxc, hlt, hm⟩
  ·refine ⟨fun _ => ?_, fun g7 => by simp [evs, evb] at g7⟩
   exact mach_err (e := 80) h3 hf (by simp only [evs, evb]; rfl) (by simp only [evs, evb]) fun K5 h5 f5 => ⟨S2, _, PH.le_trans ls l2, h5, f5, hm.symm, rfl⟩
  refine ⟨fun g7 => by simp [evs, evb] at g7, fun _ => ?_⟩
  obtain ⟨w1, w2, av4, w3, w4, w5, w6⟩ := mach_clo h3 hxc
  have hrw := mach_clo_row h3 hxc
  obtain ⟨hb, hcc, hxs⟩ := hrw.sl
  obtain ⟨cb, cc, hcv⟩ := mach_csl h3
  have hqC := (List.getElem?_eq_some_iff.1 hxc).1
  obtain ⟨j, y, hj, hy, hyd⟩ := regs_at (l := xc.2) hnum hlt
  obtain ⟨v1, _, _⟩ := hrw.get hy
  rw [hcv] at w1 w3
  rw [hxs] at w3 v1
  simp only [cns]
  refine ⟨[.slice cb s.C.length cc], rfl, by simp only [evs, evb]; rw [← hcv]; exact mach_bx h3 rfl, fun _ => ?_, [.slice hb xc.2.length hcc], rfl, ?_, fun _ => ?_, valVs p1, rfl, by simp only [evs, evb]; exact rowAt_le h3.sh z3, fun _ => ?_, ?_⟩
  ·simp only [Chk.holds, evs, evb, hfi]; exact ⟨w1, by omega, by omega⟩
  ·simp only [evs, evb, hfi]; exact rowAt_sub w3 2 1
  ·simp only [Chk.holds, evs, evb]; exact ⟨z1, by omega, by omega⟩
  ·simp only [Chk.holds, evs, evb]; exact ⟨v1, by omega, by omega⟩
  have hpk := nest_pick hxc (h3.perm permC)
  refine den_hPutZ (i := j) (a := y) (a' := p1) (us := valVs p1) ?_ hpk hy rfl (by kernel_rfl) (by simp [oneC]) (val_mk zf) fun K5 h5 => ?_
  ·simp only [evs, evb, hj]; rw [hxs]; rfl
  have h6 := nest_unpick hxc h5
  refine ⟨S2, { s with C := s.C.set q (xc.1, xc.2.set j p1) }, PH.le_trans ls l2, h6.perm (permC (s := { s with C := s.C.set q (xc.1, xc.2.set j p1) }) (J := J)).symm, hf, ?_, rfl⟩
  rw [hm]
  unfold MS.x
  simp only [List.map_set, cloX, hj, Int.toNat_natCast]
 ·simp only [evs, evb, txt_eql, decide_eq_false_iff_not] at g6
  have hnt : x.op ≠ tieB := g6
  rw [if_neg hnt] at hins
  have har := gx.prim g2 g3 g4 g5 hnt
  obtain ⟨S2, s2, l2, h3⟩ := h2.freeze
  refine den_call cb_scrimshawref15_Machine__prim (prim15_tri h3 hf hco hn x.op s2 (by rw [har, hRl])) ?_
  rintro e K3 ⟨S3, s3, l3, h4, f3, hx3, rfl, fv, eA, eav⟩
  refine ⟨_, valVs (s.x.prim x.op R).2, rfl, rfl, rfl, pendNil, _, lookup_hit, hnt, S3, s3, (s.x.prim x.op R).2, by kernel_rfl, fv, PH.le_trans ls (PH.le_trans l2 l3), h4, f3, eA, eav, ?_⟩
  rw [hx3]; exact hins
end
end Go.Proofs.Ytcfgpbmcgmkmhaa.Vc
/-
  CODE RUN: a block's end: in memory.
-/
namespace Go.Proofs.Ytcfgpbmcgmkmhaa.Vc
open Go

section
variable {S K : PH} {pv : Value} {mr hr : Nat} {s : MS} {J : List Itm} {c : CodeX} {n : Nat} {m : MX}
def endOf (e : EndX) (B : Int) (a : ActX) : ActX := { a with at_ := 0, block := B, to := e.to }
theorem fin_core (h : RunOk c n m) {ws : List ActX} {a : ActX} (hs : m.acts = ws ++ [a]) {e : EndX} (hx : FinGood (prcAt c a.proc) e) {B : Int} (hBr : 0 ≤ B ∧ B < (prcAt c a.proc).blocks.length) :
    CoreOk c n { m with acts := ws ++ [endOf e B a] } ∧ ActsOk c n { m with acts := ws ++ [endOf e B a] } ∧ (∀ b ∈ ws, WaitOk b) ∧ (e.kind = 4 ∨ e.kind = 6 → ∀ b ∈ ws ++ [endOf e B a], WaitOk b) := by
  have hao := h.acts.acts a (by rw [hs]; simp)
  have hao' : ActOk c m.clos (endOf e B a) := ⟨hao.proc, hao.regs, hao.clo0, hao.clo, hBr, by show (0 : Int) ≤ 0; omega, by show (0 : Int) ≤ _; omega⟩
  have hws : ∀ b ∈ ws, WaitOk b := fun b hb => h.wait b (by rw [hs]; simpa using hb)
  refine ⟨h.core.same rfl rfl h.core.on, ⟨by have := h.acts.an; rw [hs] at this; simpa using this, fun b hb => ?_⟩, hws, fun hk b hb => ?_⟩
  · rcases List.mem_append.1 (show b ∈ ws ++ [_] from hb) with hb | hb
    · exact h.acts.acts b (by rw [hs]; exact List.mem_append_left _ hb)
    · rw [List.mem_singleton.1 hb]; exact hao'
  · rcases List.mem_append.1 hb with hb | hb
    · exact hws b hb
    · rw [List.mem_singleton.1 hb]
      have := hx.to hk
      refine ⟨this.1, ?_⟩
      show e.to < (a.regs.length : Int)
      rw [hao.regs]; exact this.2
theorem fin_eq {ws : List ActX} {a : ActX} (hs : m.acts = ws ++ [a]) (e : EndX) : m.fin c e =
    (let v := if e.kind = 0 then vNone else regAt a e.reg
     let m1 : MX := { m with acts := ws ++ [endOf e (if e.kind = 1 ∧ v = vNone then e.els else e.next) a] }
      if e.kind = 2 then ({ m1 with acts := ws } : MX).tell v
      else if e.kind = 3 then m1.call c v (e.args.map (regAt a)) false
      else if e.kind = 4 then m1.call c v (e.args.map (regAt a)) true
      else if e.kind = 5 then
        let r := m1.made ⟨0, 0, [], true, ws⟩
        r.1.call c v [r.2] false
      else if e.kind = 6 then
        let r := m1.made ⟨0, 0, [], true, m1.acts⟩
        r.1.call c v [r.2] true
      else m1) := by
  unfold MX.fin
  simp only [last_of hs]
  rw [last_is hs]
  simp only [List.dropLast_concat]
  rfl
theorem putAct {X : List PanicEntry → PH → Prop} {E : List Value} {L : LK} {β : Type} {k : Fm β} {Q : β → List Value → PH → LK → Prop} {p w : SV} {wv : Value} {i off : Nat} {a' : ActM} {x : ActM × List VX} (h : Held S K (machI pv mr hr s ++ J)) (hget : s.A[i]? = some x)
    (hp : pOf (ev0 E p) = (pOf (eltV s.av (i : Int) 6)).map (·.add off)) (hw : ev0 E w = wv) (h1 : oneC wv = true) (hoff : off + 1 ≤ 6) (hsl : a'.sl = x.1.sl) (hu : ∀ ces, CsR S x.1 ces → CsR S a' (ces.take off ++ [wv] ++ ces.drop (off + 1)))
    (hk : ∀ K', Held S K' (machI pv mr hr { s with A := s.A.set i (a', x.2) } ++ J) → den Try.prog X k E K' L Q) : den Try.prog X (.store p [w] k) E K L Q := by
  have h2 := nest_open (h.perm permA)
  refine den_hPut (i := i) (off := off) (a := x.1) (a' := a') (us := [wv]) hp h2 (by rw [List.getElem?_map, hget]; rfl) hoff (by simp only [List.map_cons, List.map_nil, hw]) (by
    intro u hu'
    rw [List.mem_singleton.1 hu']; exact h1) hu fun K1 h3 => ?_
  have h4 := nest_outer (sl := ActM.sl) (l := x.2) hget hsl h3
  exact hk K1 (h4.perm (permA (s := { s with A := s.A.set i (a', x.2) }) (J := J)).symm)
/-- the acts, as they are read -/
theorem acts_read (h : Held S K (machI pv mr hr s ++ J)) : SlR K (s.A.map actX') s.av := by
  refine nest_read (f := actX') (h.perm permA) rfl fun x _ cs h1 h2 => ?_
  obtain ⟨rfl, h3⟩ := actM_iff.1 h1
  exact actX_iff.2 ⟨_, rfl, h2, h3⟩
/-- the last act let go -/
theorem cutAct {X : List PanicEntry → PH → Prop} {E : List Value} {L : LK} {β : Type} {k : Fm β} {Q : β → List Value → PH → LK → Prop} {p w : SV} {j : Nat} (h : Held S K (machI pv mr hr s ++ J)) (hj : s.A.length = j + 1) (hp : pOf (ev0 E p) = some ⟨mr, 3, none⟩) (hw : ev0 E w = slsV s.av 0 (j : Int) 6)
    (hk : ∀ K' s', Held S K' (machI pv mr hr s' ++ J) → s' = { s with A := s.A.take j, av := slsV s.av 0 (j : Int) 6 } → den Try.prog X k E K' L Q) : den Try.prog X (.store p [w] k) E K L Q := by
  have h4 := nest_cut (h.perm permA) (n := j) (by omega) (by omega)
  have h5 := h4.perm List.perm_middle
  obtain ⟨ab, ac, hav⟩ := mach_asl h
  refine den_bxStore (off := 3) (vs := [slsV s.av 0 (j : Int) 6]) hp h5 (by simp only [List.map_cons, List.map_nil, hw]) (by
    intro w hw
    rw [List.mem_singleton.1 hw, hav]; rfl) (by simp [MS.cells]) fun K3 h6 => ?_
  refine hk K3 { s with A := s.A.take j, av := slsV s.av 0 (j : Int) 6 } ?_ rfl
  exact (h6.perm List.perm_middle.symm).perm (permA (s := { s with A := s.A.take j, av := slsV s.av 0 (j : Int) 6 }) (pv := pv) (mr := mr) (hr := hr) (J := J)).symm
theorem nest_acts_freeze {LA : List (ActM × List VX)} {v : Value} {I : List Itm} (h : Held S K (nest 86 73 ActM.sl LA v ++ I)) : ∃ S', SlR S' (LA.map actX') v ∧ PH.le S S' ∧ Held S' K I :=
  nest_freeze (f := actX') h rfl fun S x _ cs h1 h2 => by
    obtain ⟨rfl, h3⟩ := actM_iff.1 h1
    exact actX_iff.2 ⟨_, rfl, h2, h3⟩
theorem end15_tri (h : Held S K (machI pv mr hr s ++ J)) (hf : MFit s) (hc : SlR S c pv) (g : GoodC c) (hro : RunOk c n s.x) (hn : n ≤ 16777214) {ws : List ActX} {a : ActX} (hA : s.x.acts = ws ++ [a]) {e : EndX} {es : List Value} (hx : CsR S e es) (gx : FinGood (prcAt c a.proc) e) :
    Tri Try.prog n_scrimshawref15_Machine__end #[pAt mr, .agg es.toArray] K (MTo pv mr hr J S (s.x.fin c e) vNil) := by
  obtain ⟨argsv, rfl, ex1, ex2, ex3, ex4, ex5, ex6⟩ := end_iff.1 hx
  obtain ⟨arb, arc, rfl⟩ := ex3.sl
  have hmx : maxLen = 9223372036854775807 := rfl
  have hco := hro.core
  have hCl : s.C.length ≤ n := by have := hco.cn; simpa [MS.x] using this
  have hLl : s.L.length ≤ n := by have := hco.hn; simpa [MS.x, hpX] using this
  have hAl : s.A.length ≤ n := by have := hro.acts.an; simpa [MS.x] using this
  obtain ⟨ab, ac, hav⟩ := mach_asl h
  obtain ⟨l', xa, hl', hws, hxa, hget, hlen⟩ := last_act (show s.A.map actX' = ws ++ [a] from hA)
  obtain ⟨x1, x2, x3, x4, x5, x6, x7, x8⟩ := mach_act h hget
  have hrow := mach_act_row h hget
  obtain ⟨rb, rc, hrs⟩ := hrow.sl
  have x1' := x1
  rw [hav] at x1 x3
  rw [hrs] at x3
  have hra : xa.2 = a.regs := by rw [← hxa]
  have hd1 : IntKind.i64.wrap ((s.A.length : Int) - 1) = (ws.length : Int) := by rw [w64 (by omega) (by omega)]; omega
  have haok := hro.acts.acts a (by rw [hA]; simp)
  have hregs := haok.regs
  have gp := g.prc (prcAt_mem haok.proc.1 haok.proc.2).1
  have hregin : ∀ {r : Int}, 0 ≤ r ∧ r < (prcAt c a.proc).regs → 0 ≤ r ∧ r < (xa.2.length : Int) := fun hr => by rw [hra, hregs]; exact hr
  refine tri_scrimshawref15_Machine__end [pAt mr, .int .i64 e.kind, .int .i64 e.reg, .slice arb e.args.length arc, .int .i64 e.to, .int .i64 e.next, .int .i64 e.els] (by kernel_rfl) (by kernel_rfl) ?_
  have hl3 : ∀ {S' K' : PH} {s' : MS} {J' : List Itm}, Held S' K' (machI pv mr hr s' ++ J') → s'.av = s.av → rowAt K' (some ⟨mr, 3, none⟩) [.slice ab s.A.length ac] := fun h' e2 => by rw [← hav, ← e2]; exact mach_bx h' rfl
  refine ⟨fun _ => by simp [Chk.holds, evs, evb], [.slice ab s.A.length ac], rfl, by simp only [evs, evb]; exact hl3 h rfl, [.slice ab s.A.length ac], rfl, by simp only [evs, evb]; exact hl3 h rfl, fun _ => ?_, [.int .i64 xa.1.proc, .slice rb xa.2.length rc, .int .i64 xa.1.clo, .int .i64 xa.1.block, .int .i64 xa.1.at_, .int .i64 xa.1.to], rfl, ?_, ?_⟩
  · simp only [Chk.holds, evs, evb, hd1]; exact ⟨x1, by omega, by omega⟩
  · simp only [evs, evb, hd1]; exact x3
  simp only [cns]
  refine den_hLit0 (α := VX) (b := 32) uValsK elemValK h pendNil fun v11 K1 h1 _ _ => ?_
  simp only [cns]
  refine ⟨fun m vs K2 => ∃ (k : Nat) (u : Value) (S1 : PH), k + m = e.args.length ∧ vs = [u, nI k] ∧ PH.le S S1 ∧ Held S1 K2 (orow 73 ((e.args.take k).map (regAt a)) u :: (machI pv mr hr s ++ J)), ⟨e.args.length, 0, v11, S, by omega, rfl, PH.le_refl _, h1⟩, ?_⟩
  rintro m vs K2 _ ⟨k, u, S1, hkm, rfl, ls, h2⟩
  simp only [cns]
  have hfew := gx.few
  have rget : ∀ {S' K' : PH} {J' : List Itm}, Held S' K' (machI pv mr hr s ++ J') → ∀ {r : Int}, 0 ≤ r ∧ r < (prcAt c a.proc).regs → ∃ j : Nat, r = (j : Int) ∧ j < xa.2.length ∧ rb.isSome = true ∧ VFit (regAt a r) ∧ rowAt K' (pOf (eltV (.slice rb xa.2.length rc) (j : Int) 3)) (valVs (regAt a r)) := fun {S' K' : PH} {J' : List Itm} h' {r : Int} hr => by
    have hrin := hregin hr
    obtain ⟨j, y, hj, hy, hyd⟩ := regs_at hrin.1 hrin.2
    have hra2 := mach_act_row h' hget
    obtain ⟨y1, _, ycs, y2, y3⟩ := hra2.get hy
    obtain ⟨rfl, yf⟩ := val_cs y2
    rw [hrs] at y1 y3
    have : regAt a r = y := by unfold regAt; rw [← hra, hyd]
    rw [this]
    exact ⟨j, hj, by omega, y1, yf, y3⟩
  refine ⟨fun g1 => ?_, fun g1 => ?_⟩
  · simp only [evs, evb, decide_eq_true_eq] at g1
    obtain ⟨r, hr1⟩ : ∃ r, e.args[k]? = some r := ⟨_, List.getElem?_eq_getElem (by omega)⟩
    obtain ⟨j, hj, hjl, y1, yf, y3⟩ := rget h2.tail (gx.args r (List.mem_of_getElem? hr1))
    obtain ⟨z1, _, zcs, z2, z3⟩ := ex3.get hr1
    obtain ⟨rfl, _⟩ := csIK z2
    refine ⟨fun _ => ?_, [.int .i64 r], rfl, ?_, fun _ => ?_, valVs (regAt a r), rfl, ?_, ?_⟩
    · simp only [Chk.holds, evs, evb]; exact ⟨z1, by omega, by omega⟩
    · simp only [evs, evb]; exact rowAt_le (PH.le_trans ls h2.sh) z3
    · simp only [Chk.holds, evs, evb]; exact ⟨y1, by omega, by omega⟩
    · rw [hj] at y3 ⊢; simp only [evs, evb]; exact y3
    simp only [cns]
    refine den_hPush (b := 32) (more := [regAt a r]) [valV (regAt a r)] uValsK elemValK rfl (by decide) (by decide) h2 (by kernel_rfl) (.cons (val_mk yf) .nil) pendNil (fun w => by kernel_rfl) (fun w => by kernel_rfl)
      (by simp only [maxLen, List.length_map, List.length_take, List.length_cons, List.length_nil]; omega) (by simp only [List.length_map, List.length_take, List.length_cons, List.length_nil]; omega) fun w v7 S7 K7 l7 h7 => ⟨pendNil, ?_⟩
    refine ⟨_, lookup_hit, m - 1, by omega, k + 1, v7, S7, by omega, ?_, PH.le_trans ls l7, ?_⟩
    · simp only [evs, evb, up1 (by omega : k < 4611686018427387904)]
    · rw [List.take_add_one, hr1, List.map_append]; exact h7
  simp only [evs, evb, decide_eq_false_iff_not] at g1
  rw [List.take_of_length_le (by omega)] at h2
  have hfin := fin_eq (c := c) hA e
  generalize hM : s.x.fin c e = M at hfin ⊢
  obtain ⟨R, hR⟩ : ∃ R, e.args.map (regAt a) = R := ⟨_, rfl⟩
  rw [hR] at h2 hfin
  have hRl : R.length = e.args.length := by rw [← hR]; simp
  obtain ⟨ub, uc, rfl⟩ : ∃ b c', u = .slice b R.length c' := (h2.row (List.mem_cons_self ..)).sl
  obtain ⟨S2, s2, l2, h3⟩ := h2.freeze
  obtain ⟨V, hV⟩ : ∃ V, (if e.kind = 0 then vNone else regAt a e.reg) = V := ⟨_, rfl⟩
  rw [hV] at hfin
  refine ⟨fun vs K' => vs = valVs V ∧ VFit V ∧ K2 = K', ?_, fun g2 => ?_, fun g2 => ?_⟩
  rotate_left
  · simp only [evs, evb, ne_eq, decide_not, Bool.not_eq_true', decide_eq_false_iff_not] at g2
    rw [if_neg g2] at hV
    obtain ⟨j, hj, hjl, y1, yf, y3⟩ := rget h3 (gx.reg g2)
    rw [hV] at yf y3
    refine ⟨fun _ => ?_, valVs V, rfl, ?_, _, lookup_hit, by kernel_rfl, yf, rfl⟩
    · simp only [Chk.holds, evs, evb]; exact ⟨y1, by omega, by omega⟩
    · simp only [evs, evb, hj]; exact y3
  · simp only [evs, evb, ne_eq, decide_not, Bool.not_eq_false', decide_eq_true_eq] at g2
    rw [if_pos g2] at hV
    rw [← hV]
    exact ⟨_, lookup_hit, by kernel_rfl, fit_none, rfl⟩
  rintro vs K3 _ ⟨rfl, fV, rfl⟩
  simp only [cns]
  -- the act's places
  refine ⟨[.slice ab s.A.length ac], rfl, by simp only [evs, evb]; exact hl3 h3 rfl, fun _ => ?_, ?_⟩
  · simp only [Chk.holds, evs, evb, hd1]; exact ⟨x1, by omega, by omega⟩
  simp only [cns]
  refine putAct (off := 4) (a' := { xa.1 with at_ := 0 }) h3 hget (by simp only [evs, evb, hd1]; rw [hav]) rfl rfl (by omega) rfl (fun ces hce => ?_) fun K4 h4 => ?_
  · obtain ⟨rfl, q1, q2, q3, q4, q5⟩ := actM_iff.1 hce
    exact actM_iff.2 ⟨by simp only [evs, evb]; rfl, q1, q2, q3, (by decide : InI 0), q5⟩
  have hlt : ws.length < s.A.length := by omega
  refine ⟨[.slice ab s.A.length ac], rfl, by simp only [evs, evb]; exact hl3 h4 rfl, fun _ => ?_, ?_⟩
  · simp only [Chk.holds, evs, evb, hd1]; exact ⟨x1, by omega, by omega⟩
  simp only [cns]
  refine putAct (off := 3) (a' := { xa.1 with at_ := 0, block := e.next }) h4 (i := ws.length) (x := ({ xa.1 with at_ := 0 }, xa.2)) (by simp [hlt]) (by simp only [evs, evb, hd1]; rw [hav]) rfl rfl (by omega) rfl (fun ces hce => ?_) fun K5 h5 => ?_
  · obtain ⟨rfl, q1, q2, q3, q4, q5⟩ := actM_iff.1 hce
    exact actM_iff.2 ⟨by simp only [evs, evb]; rfl, q1, q2, ex5, q4, q5⟩
  refine ⟨[.slice ab s.A.length ac], rfl, by simp only [evs, evb]; exact hl3 h5 rfl, fun _ => ?_, ?_⟩
  · simp only [Chk.holds, evs, evb, hd1]; exact ⟨x1, by omega, by omega⟩
  simp only [cns]
  refine putAct (off := 5) (a' := { xa.1 with at_ := 0, block := e.next, to := e.to }) h5 (i := ws.length) (x := ({ xa.1 with at_ := 0, block := e.next }, xa.2)) (by simp [hlt]) (by simp only [evs, evb, hd1]; rw [hav]) rfl rfl (by omega) rfl (fun ces hce => ?_) fun K6 h6 => ?_
  · obtain ⟨rfl, q1, q2, q3, q4, q5⟩ := actM_iff.1 hce
    exact actM_iff.2 ⟨by simp only [evs, evb]; rfl, q1, q2, q3, q4, ex4⟩
  simp only [List.set_set] at h6
  obtain ⟨sA, hsA⟩ : ∃ sA : MS, sA = { s with A := s.A.set ws.length ({ xa.1 with at_ := 0, block := e.next, to := e.to }, xa.2) } := ⟨_, rfl⟩
  rw [← hsA] at h6
  have hset : ∀ B : Int, (s.A.set ws.length ({ xa.1 with at_ := 0, block := B, to := e.to }, xa.2)).map actX' = ws ++ [endOf e B a] := fun B => by
    have hll : l'.length = ws.length := by rw [← hws]; simp
    rw [hl', ← hll, List.set_append_right _ _ (Nat.le_refl _), Nat.sub_self, List.set_cons_zero, List.map_append, hws, ← hxa]
    simp [endOf]
  have hxA : sA.x = { s.x with acts := ws ++ [endOf e e.next a] } := by
    rw [hsA]; unfold MS.x; simp only [hset]
  have hfA : MFit sA := by rw [hsA]; exact hf
  have havA : sA.av = .slice ab s.A.length ac := by rw [hsA]; exact hav
  have hAAl : sA.A.length = ws.length + 1 := by rw [hsA]; simp [hlen]
  have hlS := PH.le_trans ls l2
  simp only at hfin
  have hpos := gp.blocks.1
  have hnx : 0 ≤ e.next ∧ e.next < (prcAt c a.proc).blocks.length := by have := gx.nextA; omega
  obtain ⟨fcr, fa, fws, fall⟩ := fin_core hro hA gx hnx
  have fc : CoreOk c n sA.x := by rw [hxA]; exact fcr
  have fa' : ActsOk c n sA.x := by rw [hxA]; exact fa
  have hcap : s.A.length ≤ ac := by
    have := (nest_row (h.perm permA)).slR h.sh
    rw [hav] at this
    rcases (SlR.mk_iff.1 this).2 with ⟨h', _⟩ | ⟨_, c', h', h3, _⟩
    · obtain ⟨_, e1, e2⟩ := Value.slice.inj h'; omega
    · obtain ⟨_, e1, e2⟩ := Value.slice.inj h'; simp only [List.length_map] at h3; omega
  refine ⟨fun g3 => ?_, fun g3 => ?_⟩
  · simp only [evs, evb, decide_eq_true_eq] at g3
    rw [if_neg (by omega), if_neg (by omega), if_neg (by omega), if_neg (by omega), if_neg (by omega)] at hfin
    refine den_eqlVal (a := V) (b := vNone) (by kernel_rfl) (by kernel_rfl) ?_
    refine ⟨fun g4 => ?_, fun g4 => ?_⟩
    · simp only [evs, evb, decide_eq_true_eq] at g4
      rw [if_pos ⟨g3, g4⟩] at hfin
      refine ⟨[.slice ab s.A.length ac], rfl, by simp only [evs, evb]; rw [← havA]; exact mach_bx h6 rfl, fun _ => ?_, ?_⟩
      · simp only [Chk.holds, evs, evb, hd1]; exact ⟨x1, by omega, by omega⟩
      simp only [cns]
      have hgA : sA.A[ws.length]? = some ({ xa.1 with at_ := 0, block := e.next, to := e.to }, xa.2) := by rw [hsA]; simp [hlt]
      refine putAct (off := 3) (a' := { xa.1 with at_ := 0, block := e.els, to := e.to }) h6 hgA (by simp only [evs, evb, hd1]; rw [havA]) rfl rfl (by omega) rfl (fun ces hce => ?_) fun K7 h7 => ?_
      · obtain ⟨rfl, q1, q2, q3, q4, q5⟩ := actM_iff.1 hce
        exact actM_iff.2 ⟨by simp only [evs, evb]; rfl, q1, q2, ex6, q4, q5⟩
      refine ⟨S2, _, hlS, h7, hfA, ?_, rfl⟩
      rw [hfin, hsA]
      unfold MS.x
      simp only [List.set_set, hset]
    · simp only [evs, evb, decide_eq_false_iff_not] at g4
      rw [if_neg (fun hh => g4 hh.2), ← hxA] at hfin
      exact ⟨S2, sA, hlS, h6, hfA, hfin.symm, rfl⟩
  simp only [evs, evb, decide_eq_false_iff_not] at g3
  rw [show (if e.kind = 1 ∧ V = vNone then e.els else e.next) = e.next from if_neg (fun hh => g3 hh.1)] at hfin
  refine ⟨fun g3 => ?_, fun g3 => ?_⟩
  · simp only [evs, evb, decide_eq_true_eq] at g3
    rw [if_pos g3] at hfin
    refine ⟨[.slice ab s.A.length ac], rfl, by simp only [evs, evb]; rw [← havA]; exact mach_bx h6 rfl, fun _ => ?_, ?_⟩
    · simp only [Chk.holds, evs, evb, slCap, hd1]; omega
    simp only [cns]
    refine cutAct (j := ws.length) h6 hAAl (by simp only [evs, evb]; rfl) (by simp only [evs, evb, hd1]; rw [havA]) fun K7 s7 h7 hs7 => ?_
    have hx7 : s7.x = { sA.x with acts := ws } := by
      rw [hs7]; unfold MS.x
      simp only
      have : (sA.A.take ws.length).map actX' = ws := by
        rw [List.map_take, show sA.A.map actX' = sA.x.acts from rfl, hxA]; simp
      rw [this]
    refine den_call cb_scrimshawref15_Machine__tell (tell15_tri h7 (by rw [hs7]; exact hfA) fV (by rw [hs7]; show (sA.A.take ws.length).length ≤ _; rw [List.length_take]; omega) (fun ws' a' hwa => by
      rw [hx7] at hwa
      have hwa : ws = ws' ++ [a'] := hwa
      exact fws a' (by rw [hwa]; simp))) ?_
    rintro e8 K8 ⟨s8, h8, f8, hx8, rfl⟩
    refine ⟨_, [], rfl, rfl, rfl, pendNil, S2, s8, hlS, h8, f8, ?_, rfl⟩
    rw [hx8, hx7, hfin, hxA]
  simp only [evs, evb, decide_eq_false_iff_not] at g3
  rw [if_neg g3] at hfin
  refine ⟨fun g3 => ?_, fun g3 => ?_⟩
  · simp only [evs, evb, decide_eq_true_eq] at g3
    rw [if_pos g3, ← hxA] at hfin
    refine den_call cb_scrimshawref15_Machine__call (call15_tri h6 hfA (hc.le hlS) g fc fa' (by omega) fV s2 false (fun _ => by rw [hxA]; simp)) ?_
    rintro e7 K7 ⟨S7, s7, l7, h7, f7, hx7, rfl⟩
    exact ⟨_, [], rfl, rfl, rfl, pendNil, S7, s7, PH.le_trans hlS l7, h7, f7, by rw [hx7, hfin], rfl⟩
  simp only [evs, evb, decide_eq_false_iff_not] at g3
  rw [if_neg g3] at hfin
  refine ⟨fun g3 => ?_, fun g3 => ?_⟩
  · simp only [evs, evb, decide_eq_true_eq] at g3
    rw [if_pos g3, ← hxA] at hfin
    refine den_call cb_scrimshawref15_Machine__call (call15_tri h6 hfA (hc.le hlS) g fc fa' (by omega) fV s2 true (fun _ => by rw [hxA]; simp)) ?_
    rintro e7 K7 ⟨S7, s7, l7, h7, f7, hx7, rfl⟩
    exact ⟨_, [], rfl, rfl, rfl, pendNil, S7, s7, PH.le_trans hlS l7, h7, f7, by rw [hx7, hfin], rfl⟩
  simp only [evs, evb, decide_eq_false_iff_not] at g3
  rw [if_neg g3] at hfin
  refine ⟨fun g3 => ?_, fun g3 => ?_⟩
  · simp only [evs, evb, decide_eq_true_eq] at g3
    rw [if_pos g3, ← hxA] at hfin
    have hcall : ∀ v, v = (slsV sA.av 0 (ws.length : Int) 6) → Tri Try.prog n_scrimshawref15_copied #[v] K6 fun e' K' => ∃ S' LA v', e' = .returned v' ∧ PH.le K6 S' ∧ Held S' K' (nest 86 73 ActM.sl LA v' ++ []) ∧ LA.map actX' = ws := by
      rintro _ rfl
      refine copied15_tri _ _ K6 ?_ ?_ ?_
      · have := acts_read h6
        rw [show sA.A.map actX' = sA.x.acts from rfl, hxA] at this
        have h' := this.cut (a := 0) (b := ws.length) (by omega) (by simp)
        rw [show (({ s.x with acts := ws ++ [endOf e e.next a] } : MX).acts.take ws.length).drop 0 = ws by simp] at h'
        exact h'
      · omega
      · intro b hb
        have hb' : b ∈ ws ++ [endOf e e.next a] := List.mem_append_left _ hb
        have hbo := fa.acts b hb'
        have := hbo.regs
        have hp := (g.prc (prcAt_mem hbo.proc.1 hbo.proc.2).1).regs
        omega
    refine ⟨[.slice ab s.A.length ac], rfl, by simp only [evs, evb]; rw [← havA]; exact mach_bx h6 rfl, ?_⟩
    refine ⟨fun _ => ?_, ?_⟩
    · simp only [Chk.holds, evs, evb, slCap, hd1]; omega
    simp only [cns]
    refine den_call cb_scrimshawref15_copied (hcall _ ?_) ?_
    · simp only [evs, evb, hd1]; rw [havA]
    rintro e7 K7 ⟨S3, LA, v3, rfl, l3, h7, hLA⟩
    obtain ⟨b3, c3, hv3⟩ := nest_sl h7
    have h8 := h6.join l3 h7 (nestA_flat LA v3)
    rw [List.append_nil] at h8
    obtain ⟨S4, s4, l4, h9⟩ := nest_acts_freeze h8
    rw [hLA] at s4
    refine ⟨_, [v3], rfl, by rw [hv3]; rfl, rfl, pendNil, ?_⟩
    simp only [cns]
    refine den_call cb_scrimshawref15_Machine__made (made15_tri (proc := 0) (kont := true) (held := []) (hv := .slice none 0 0) (acts := ws) (asv := v3) (h9.empty _) s4 (by decide : InI 0) (by rw [hsA]; show s.L.length ≤ _; omega) (by rw [hsA]; show s.C.length ≤ _; omega)) ?_
    rintro e8 K8 ⟨S5, s5, l5, h10, rfl, hx5, eA, eav, ew, et, _⟩
    have hmade := made_ok fcr (x := ⟨0, 0, [], true, ws⟩) fun i => ⟨fun _ b hb => ⟨(fa.acts b (List.mem_append_left _ hb)).mono (CloLe.add _ _), fws b hb⟩, fun hk => (by cases hk), by show ws.length ≤ n + 1; omega⟩
    rw [← hxA] at hmade
    rw [← hx5] at hmade
    have fr5 : VFit (sA.x.made ⟨0, 0, [], true, ws⟩).2 := by
      refine ⟨(by decide : InI 8), ?_, (by decide : ([] : List UInt8).length ≤ maxLen)⟩
      show InI ((hpX sA.L).length : Int)
      rw [hsA]
      simp only [hpX, List.length_map]
      unfold InI; omega
    generalize hkv : (sA.x.made ⟨0, 0, [], true, ws⟩).2 = kv at *
    refine ⟨_, valVs kv, rfl, rfl, rfl, pendNil, ?_⟩
    simp only [cns]
    refine den_hLit (α := VX) (l := [kv]) (b := 32) [valV kv] uValsK elemValK rfl (by decide) (by decide) h10 (by kernel_rfl) (.cons (val_mk fr5) .nil) pendNil fun v9 K9 h11 _ _ => ?_
    simp only [cns]
    obtain ⟨S6, s6, l6, h12⟩ := h11.freeze
    have hlS6 := PH.le_trans hlS (PH.le_trans l4 (PH.le_trans l5 l6))
    have ha5 : s5.x.acts = ws ++ [endOf e e.next a] := by
      show s5.A.map actX' = _
      rw [eA]
      show sA.x.acts = _
      rw [hxA]
    have fa5 : ActsOk c (n + 1) s5.x := by
      refine ⟨by rw [ha5]; exact Nat.le_succ_of_le fa.an, fun b hb => ?_⟩
      rw [ha5] at hb
      refine (fa.acts b hb).mono ?_
      have := hmade.2
      rw [hxA] at this
      exact this
    refine den_call cb_scrimshawref15_Machine__call (call15_tri h12 (by unfold MFit; rw [ew, et]; exact hfA) (hc.le hlS6) g hmade.1 fa5 (by omega) fV s6 false (fun _ => by rw [ha5]; simp)) ?_
    rintro e10 K10 ⟨S7, s7, l7, h13, f13, hx13, rfl⟩
    refine ⟨_, [], rfl, rfl, rfl, pendNil, S7, s7, PH.le_trans hlS6 l7, h13, f13, ?_, rfl⟩
    rw [hx13, hfin, hx5]
  simp only [evs, evb, decide_eq_false_iff_not] at g3
  rw [if_neg g3] at hfin
  refine ⟨fun g3 => ?_, fun g3 => ?_⟩
  · simp only [evs, evb, decide_eq_true_eq] at g3
    rw [if_pos g3, ← hxA] at hfin
    have hcall : ∀ v, v = sA.av → Tri Try.prog n_scrimshawref15_copied #[v] K6 fun e' K' => ∃ S' LA v', e' = .returned v' ∧ PH.le K6 S' ∧ Held S' K' (nest 86 73 ActM.sl LA v' ++ []) ∧ LA.map actX' = (ws ++ [endOf e e.next a]) := by
      rintro _ rfl
      refine copied15_tri _ _ K6 ?_ ?_ ?_
      · have := acts_read h6
        rw [show sA.A.map actX' = sA.x.acts from rfl, hxA] at this
        exact this
      · exact Nat.le_trans fa.an (by omega)
      · intro b hb
        have hb' : b ∈ ws ++ [endOf e e.next a] := hb
        have hbo := fa.acts b hb'
        have := hbo.regs
        have hp := (g.prc (prcAt_mem hbo.proc.1 hbo.proc.2).1).regs
        omega
    refine ⟨[.slice ab s.A.length ac], rfl, by simp only [evs, evb]; rw [← havA]; exact mach_bx h6 rfl, ?_⟩
    simp only [cns]
    refine den_call cb_scrimshawref15_copied (hcall _ ?_) ?_
    · simp only [evs, evb, hd1]; rw [havA]
    rintro e7 K7 ⟨S3, LA, v3, rfl, l3, h7, hLA⟩
    obtain ⟨b3, c3, hv3⟩ := nest_sl h7
    have h8 := h6.join l3 h7 (nestA_flat LA v3)
    rw [List.append_nil] at h8
    obtain ⟨S4, s4, l4, h9⟩ := nest_acts_freeze h8
    rw [hLA] at s4
    refine ⟨_, [v3], rfl, by rw [hv3]; rfl, rfl, pendNil, ?_⟩
    simp only [cns]
    refine den_call cb_scrimshawref15_Machine__made (made15_tri (proc := 0) (kont := true) (held := []) (hv := .slice none 0 0) (acts := (ws ++ [endOf e e.next a])) (asv := v3) (h9.empty _) s4 (by decide : InI 0) (by rw [hsA]; show s.L.length ≤ _; omega) (by rw [hsA]; show s.C.length ≤ _; omega)) ?_
    rintro e8 K8 ⟨S5, s5, l5, h10, rfl, hx5, eA, eav, ew, et, _⟩
    have hmade := made_ok fcr (x := ⟨0, 0, [], true, (ws ++ [endOf e e.next a])⟩) fun i => ⟨fun _ b hb => ⟨(fa.acts b hb).mono (CloLe.add _ _), fall (.inr g3) b hb⟩, fun hk => (by cases hk), by have := fa.an; exact Nat.le_succ_of_le this⟩
    rw [← hxA] at hmade
    rw [← hx5] at hmade
    have fr5 : VFit (sA.x.made ⟨0, 0, [], true, (ws ++ [endOf e e.next a])⟩).2 := by
      refine ⟨(by decide : InI 8), ?_, (by decide : ([] : List UInt8).length ≤ maxLen)⟩
      show InI ((hpX sA.L).length : Int)
      rw [hsA]
      simp only [hpX, List.length_map]
      unfold InI; omega
    generalize hkv : (sA.x.made ⟨0, 0, [], true, (ws ++ [endOf e e.next a])⟩).2 = kv at *
    refine ⟨_, valVs kv, rfl, rfl, rfl, pendNil, ?_⟩
    simp only [cns]
    refine den_hLit (α := VX) (l := [kv]) (b := 32) [valV kv] uValsK elemValK rfl (by decide) (by decide) h10 (by kernel_rfl) (.cons (val_mk fr5) .nil) pendNil fun v9 K9 h11 _ _ => ?_
    simp only [cns]
    obtain ⟨S6, s6, l6, h12⟩ := h11.freeze
    have hlS6 := PH.le_trans hlS (PH.le_trans l4 (PH.le_trans l5 l6))
    have ha5 : s5.x.acts = ws ++ [endOf e e.next a] := by
      show s5.A.map actX' = _
      rw [eA]
      show sA.x.acts = _
      rw [hxA]
    have fa5 : ActsOk c (n + 1) s5.x := by
      refine ⟨by rw [ha5]; exact Nat.le_succ_of_le fa.an, fun b hb => ?_⟩
      rw [ha5] at hb
      refine (fa.acts b hb).mono ?_
      have := hmade.2
      rw [hxA] at this
      exact this
    refine den_call cb_scrimshawref15_Machine__call (call15_tri h12 (by unfold MFit; rw [ew, et]; exact hfA) (hc.le hlS6) g hmade.1 fa5 (by omega) fV s6 true (fun _ => by rw [ha5]; simp)) ?_
    rintro e10 K10 ⟨S7, s7, l7, h13, f13, hx13, rfl⟩
    refine ⟨_, [], rfl, rfl, rfl, pendNil, S7, s7, PH.le_trans hlS6 l7, h13, f13, ?_, rfl⟩
    rw [hx13, hfin, hx5]
  · simp only [evs, evb, decide_eq_false_iff_not] at g3
    rw [if_neg g3, ← hxA] at hfin
    exact ⟨S2, sA, hlS, h6, hfA, hfin.symm, rfl⟩
end
end Go.Proofs.Ytcfgpbmcgmkmhaa.Vc
/-
 CODE: which codes may be: the document's answer.
-/
namespace Go.Proofs.Ytcfgpbmcgmkmhaa.Vc
open Go

theorem Regs15_gives (p : PrcX) (pcs : List Value) (l : List Int) (lv : Value) (H : PH) (hp : CsR H p pcs) (hl : SlR H l lv) : Gives Try.prog n_scrimshawref15_Regs [.agg pcs.toArray, lv] H (.bool (regsOk p l)) := by
 obtain ⟨bv, rfl, p1, p2, p3, p4⟩ := prc_iff.1 hp
 obtain ⟨pb, pc, rfl⟩ := p4.sl
 obtain ⟨lb, lc, rfl⟩ := hl.sl
 have hmx : maxLen = 9223372036854775807 := rfl
 have hlm := hl.max
 refine tri_scrimshawref15_Regs [.int .i64 p.params, .int .i64 p.holds, .int .i64 p.regs, .slice pb p.blocks.length pc, .slice lb l.length lc] (by kernel_rfl) (by kernel_rfl) ?_
 refine ⟨fun n vs K => ∃ k : Nat, k + n = l.length ∧ vs = [.bool false, nI k] ∧ K = H ∧ regsOk p (l.take k) = true, ⟨l.length, 0, by omega, rfl, rfl, rfl⟩, ?_⟩
 rintro n vs K _ ⟨k, hkn, rfl, rfl, hok⟩
 refine ⟨fun g => ?_, fun g => ?_⟩
 ·simp only [evs, evb, decide_eq_true_eq] at g
  obtain ⟨r, hr⟩ : ∃ r, l[k]? = some r := ⟨_, List.getElem?_eq_getElem (by omega)⟩
  obtain ⟨x1, _, cs, x2, x3⟩ := hl.get hr
  obtain ⟨rfl, _⟩ := csIK x2
  refine ⟨fun vs K2 => vs = [.bool (decide (r < 0 ∨ p.regs ≤ r))] ∧ K = K2, ?_, fun _ => ?_, [.int .i64 r], rfl, by simp only [evs, evb]; exact x3, fun g2 => ?_, fun g2 => ?_⟩
  ·rintro vs K2 _ ⟨rfl, rfl⟩
   refine ⟨fun g2 => ?_, fun g2 => ?_⟩
   ·simp only [evs, evb, decide_eq_true_eq] at g2
    have : regsOk p l = false := by
     unfold regsOk
     rw [List.all_eq_false]
     exact ⟨r, List.mem_of_getElem? hr, by simp; omega⟩
    rw [this]
    exact ⟨rfl, PH.le_refl _⟩
   ·simp only [evs, evb, decide_eq_false_iff_not] at g2
    refine ⟨_, lookup_hit, n - 1, by omega, k + 1, by omega, ?_, rfl, ?_⟩
    ·have hw : IntKind.i64.wrap ((k : Int) + 1) = ((k + 1 : Nat) : Int) := by rw [w64 (by omega) (by omega)]; rfl
     simp only [evs, evb, hw]
    ·unfold regsOk at hok ⊢
     rw [List.take_add_one, hr, List.all_append, hok]
     simp; omega
  ·simp only [Chk.holds, evs, evb]; exact ⟨x1, by omega, by omega⟩
  ·simp only [evs, evb, decide_eq_true_eq] at g2
   exact ⟨_, lookup_hit, by simp [evs, evb, g2], rfl⟩
  ·simp only [evs, evb, decide_eq_false_iff_not] at g2
   refine ⟨[.int .i64 r], rfl, by simp only [evs, evb]; exact x3, _, lookup_hit, ?_, rfl⟩
   simp [evs, evb, g2]
 ·simp only [evs, evb, decide_eq_false_iff_not] at g
  rw [List.take_of_length_le (by omega)] at hok
  rw [hok]
  exact ⟨rfl, PH.le_refl _⟩
/-- one register, in a row of its own -/
theorem den_one {X : List PanicEntry → PH → Prop} {β : Type} {E : List Value} {H : PH} {L : LK} {K : β → List Value → PH → LK → Prop} {ty : TypeId} {ps : Array (Nat × Operand)} {args : List (Nat × VE)} {k : Fm β} {r : Int} (hr : InI r) (hps : ps.toList.map (fun x => (x.1, argEv E args x.2)) = idxs 0 [.int .i64 r])
  (hk : ∀ v H', PH.le H H' → SlR H' [r] v → den Try.prog X k (E ++ [v]) H' L K) : den Try.prog X (.sem (.buildSlice 40 1 ps) ty args (.sc .sl) [] k) E H L K :=
 den_lit (l := [r]) (b := 8) [.int .i64 r] uIntsK elemIntK rfl (by decide) (by decide) hps (.cons (csIK_mk hr) .nil) pendNil fun v H' a l _ => hk v H' l a.slR
theorem isDat0_dec (d : Dat) : decide (d = dat0) = isDat0 d := by
 rw [Bool.eq_iff_iff, decide_eq_true_eq]; exact isDat0_iff.symm
theorem tieB_lit : tieB = [116, 105, 101] := rfl
theorem ins15_gives (c : CodeX) (cv : Value) (p : PrcX) (pcs : List Value) (x : InsX) (xs : List Value) (H : PH) (hc : SlR H c cv) (hp : CsR H p pcs) (hx : CsR H x xs) :
  Gives Try.prog n_scrimshawref15_ins [.agg #[cv], .agg pcs.toArray, .agg xs.toArray] H (.bool (insOk c p x)) := by
 obtain ⟨bv, rfl, p1, p2, p3, p4⟩ := prc_iff.1 hp
 obtain ⟨pb, pc, rfl⟩ := p4.sl
 obtain ⟨argsv, dv, rfl, ix1, ix2, ix3, ix4, ix5, ix6, ix7, ix8⟩ := ins_iff.1 hx
 obtain ⟨arb, arc, rfl⟩ := ix3.sl
 obtain ⟨dvb, dvc, rfl⟩ := ix7.sl
 obtain ⟨cb, cc, rfl⟩ := hc.sl
 have hd : x.const.Rep H [.int .i64 x.const.kind, .int .i64 x.const.int, txt x.const.text, .slice dvb x.const.list.length dvc] := Dat.Rep_iff.2 ⟨_, rfl, ix4, ix5, ix6, ix7⟩
 refine tri_scrimshawref15_ins [.slice cb c.length cc, .int .i64 p.params, .int .i64 p.holds, .int .i64 p.regs, .slice pb p.blocks.length pc, txt x.op, .int .i64 x.to, .slice arb x.args.length arc, .int .i64 x.const.kind, .int .i64 x.const.int, txt x.const.text, .slice dvb x.const.list.length dvc, .int .i64 x.num] (by kernel_rfl) (by kernel_rfl) ?_
 refine ⟨fun vs K => vs = [.bool (!regsOk p x.args || (!regsOk p [x.to] && !decide (x.op = tieB)))] ∧ PH.le H K, ?_, ?_⟩
 rotate_left
 ·refine den_gives [.bool (regsOk p x.args)] cb_scrimshawref15_Regs (Regs15_gives p _ x.args _ H hp ix3) rfl pendNil fun H1 l1 => ⟨fun g => ?_, fun g => ?_⟩
  ·simp only [evs, evb, Bool.not_eq_true'] at g
   exact ⟨_, lookup_hit, by simp [evs, evb, g], l1⟩
  ·simp only [evs, evb, Bool.not_eq_false'] at g
   refine den_one ix2 (by kernel_rfl) fun v H2 l2 h2 => ?_
   refine den_gives [.bool (regsOk p [x.to])] cb_scrimshawref15_Regs (Regs15_gives p _ [x.to] v H2 (CsR.le (PH.le_trans l1 l2) hp) h2) rfl pendNil fun H3 l3 => ⟨_, lookup_hit, ?_, PH.le_trans l1 (PH.le_trans l2 l3)⟩
   simp [evs, evb, txt_neq, g, tieB_lit]
   cases regsOk p [x.to]
   ·simp only [Bool.not_false, Bool.true_and]
    exact congrArg _ (decide_eq_decide.2 Iff.rfl)
   ·rfl
 rintro vs K _ ⟨rfl, lK⟩
 simp only [cns]
 have hdK := Dat.Rep.le lK x.const hd
 refine ⟨fun g => ?_, fun g => ?_⟩
 ·simp only [evs, evb] at g
  refine ⟨?_, lK⟩
  unfold insOk; rw [if_pos g]
  simp only [evs, evb]
 simp only [evs, evb] at g
 have hI : insOk c p x = if x.op = constB then decide (x.args.length = 0) && decide (x.num = 0) && constOk x.const
  else if x.op = movB then decide (x.args.length = 1) && decide (x.num = 0) && isDat0 x.const
  else if x.op = hldB then decide (x.args.length = 0) && decide (0 ≤ x.num) && decide (x.num < p.holds) && isDat0 x.const
  else if x.op = cloB then decide (1 ≤ x.num) && decide (x.num < c.length) && decide ((x.args.length : Int) = (prcAt c x.num).holds) && isDat0 x.const
  else if x.op = tieB then decide (x.args.length = 2) && decide (0 ≤ x.num) && decide (x.to = 0) && isDat0 x.const
  else if x.op = ccB then false
  else decide (arityI x.op = x.args.length) && decide (x.num = 0) && isDat0 x.const := by
  unfold insOk; rw [if_neg (by rw [g]; exact Bool.false_ne_true)]
 rw [hI]
 have leaf0 : Dat.Rep K dat0 [.int .i64 0, .int .i64 0, txt [], .slice none 0 0] := leaf_rep (k := 0) (n := 0) (t := []) (by decide) (by decide) (by decide)
 refine den_gives [.bool (decide (x.const = dat0))] cb_scrimshawref02_Same (Same_gives x.const dat0 _ _ K hdK leaf0) rfl pendNil fun K1 l1 => ?_
 rw [isDat0_dec]
 simp only [cns]
 have lK1 := PH.le_trans lK l1
 refine ⟨fun g2 => ?_, fun g2 => ?_⟩
 ·simp only [evs, evb, txt_eql, decide_eq_true_eq] at g2
  rw [if_pos (show x.op = constB from g2)]
  refine ⟨fun vs K2 => vs = [.bool (decide (x.args.length = 0) && decide (x.num = 0) && constOk x.const)] ∧ PH.le K1 K2, ?_, fun g3 => ?_, fun g3 => ?_⟩
  ·rintro vs K2 _ ⟨rfl, l2⟩
   exact ⟨by simp only [evs, evb], PH.le_trans lK1 l2⟩
  ·simp only [evs, evb] at g3
   simp only [Bool.and_eq_true, decide_eq_true_eq] at g3
   refine den_gives [.bool (constOk x.const)] cb_scrimshawref06_Const (RConst_gives x.const _ K1 (Dat.Rep.le l1 x.const hdK)) rfl pendNil fun K2 l2 => ⟨_, lookup_hit, ?_, l2⟩
   have h0 : x.args.length = 0 := by omega
   simp [evs, evb, h0, g3.2]
  ·simp only [evs, evb] at g3
   refine ⟨_, lookup_hit, ?_, PH.le_refl _⟩
   have : (decide (x.args.length = 0) && decide (x.num = 0)) = false := by
    simp only [Bool.and_eq_false_iff, decide_eq_false_iff_not] at g3 ⊢
    omega
   rw [this]; rfl
 simp only [evs, evb, txt_eql, decide_eq_false_iff_not] at g2
 rw [if_neg (show ¬ x.op = constB from g2)]
 have e1 : ∀ n : Nat, decide ((x.args.length : Int) = (n : Int)) = decide (x.args.length = n) := fun n => by rw [decide_eq_decide]; omega
 refine ⟨fun g3 => ?_, fun g3 => ?_⟩
 ·simp only [evs, evb, txt_eql, decide_eq_true_eq] at g3
  rw [if_pos (show x.op = movB from g3)]
  refine ⟨?_, lK1⟩
  have := e1 1
  simp only [evs, evb, ← this]
  rfl
 simp only [evs, evb, txt_eql, decide_eq_false_iff_not] at g3
 rw [if_neg (show ¬ x.op = movB from g3)]
 refine ⟨fun g4 => ?_, fun g4 => ?_⟩
 ·simp only [evs, evb, txt_eql, decide_eq_true_eq] at g4
  rw [if_pos (show x.op = hldB from g4)]
  refine ⟨?_, lK1⟩
  have := e1 0
  simp only [evs, evb, ← this, ge_iff_le]
  rfl
 simp only [evs, evb, txt_eql, decide_eq_false_iff_not] at g4
 rw [if_neg (show ¬ x.op = hldB from g4)]
 refine ⟨fun g5 => ?_, fun g5 => ?_⟩
 ·simp only [evs, evb, txt_eql, decide_eq_true_eq] at g5
  rw [if_pos (show x.op = cloB from g5)]
  refine ⟨fun vs K2 => vs = [.bool (decide (1 ≤ x.num) && decide (x.num < c.length) && decide ((x.args.length : Int) = (prcAt c x.num).holds) && isDat0 x.const)] ∧ PH.le K1 K2, ?_, ?_⟩
  ·rintro vs K2 _ ⟨rfl, l2⟩
   exact ⟨by simp only [evs, evb], PH.le_trans lK1 l2⟩
  by_cases hb : 1 ≤ x.num ∧ x.num < c.length
  ·obtain ⟨m1, m2⟩ := prcAt_mem (by omega : 0 ≤ x.num) hb.2
   obtain ⟨y1, yn, ycs, y2, y3⟩ := hc.get m2
   obtain ⟨bv', rfl, _⟩ := prc_iff.1 y2
   have hj : ((x.num.toNat : Nat) : Int) = x.num := Int.toNat_of_nonneg (by omega)
   rw [hj] at y3 yn
   refine ⟨fun _ => ?_, fun _ => ?_, fun g6 => ?_, fun g6 => ?_⟩
   ·simp only [Chk.holds, evs, evb]; exact ⟨y1, by omega, by omega⟩
   ·simp only [Chk.holds, evs, evb]; exact yn
   ·refine ⟨[.int .i64 (prcAt c x.num).holds], rfl, ?_, _, lookup_hit, ?_, PH.le_refl _⟩
    ·simp only [evs, evb]; exact rowAt_le lK1 (rowAt_sub y3 1 1)
    ·simp [evs, evb, hb.1, hb.2]
   ·simp only [evs, evb] at g6
    simp [hb.1, hb.2] at g6
  ·refine ⟨fun hg => ?_, fun hg => ?_, fun g6 => ?_, fun g6 => ?_⟩
   ·exfalso; simp [Guard.holds, evs, evb] at hg; omega
   ·exfalso; simp [Guard.holds, evs, evb] at hg; omega
   ·exfalso; simp only [evs, evb] at g6; simp at g6; omega
   ·refine ⟨_, lookup_hit, ?_, PH.le_refl _⟩
    have : (decide (1 ≤ x.num) && decide (x.num < c.length)) = false := by
     simp only [Bool.and_eq_false_iff, decide_eq_false_iff_not]; omega
    rw [this]; rfl
 simp only [evs, evb, txt_eql, decide_eq_false_iff_not] at g5
 rw [if_neg (show ¬ x.op = cloB from g5)]
 refine ⟨fun g6 => ?_, fun g6 => ?_⟩
 ·simp only [evs, evb, txt_eql, decide_eq_true_eq] at g6
  rw [if_pos (show x.op = tieB from g6)]
  refine ⟨?_, lK1⟩
  have := e1 2
  simp only [evs, evb, ← this, ge_iff_le]
  rfl
 simp only [evs, evb, txt_eql, decide_eq_false_iff_not] at g6
 rw [if_neg (show ¬ x.op = tieB from g6)]
 refine ⟨fun g7 => ?_, fun g7 => ?_⟩
 ·simp only [evs, evb, txt_eql, decide_eq_true_eq] at g7
  rw [if_pos (show x.op = ccB from g7)]
  exact ⟨rfl, lK1⟩
 simp only [evs, evb, txt_eql, decide_eq_false_iff_not] at g7
 rw [if_neg (show ¬ x.op = ccB from g7)]
 refine den_gives [.int .i64 (arityI x.op)] cb_scrimshawref06_Arity (RArity_gives x.op K1) rfl pendNil fun K2 l2 => ⟨?_, PH.le_trans lK1 l2⟩
 simp only [evs, evb]
theorem end15f_gives (p : PrcX) (pcs : List Value) (e : EndX) (es : List Value) (H : PH) (hp : CsR H p pcs) (he : CsR H e es) : Gives Try.prog n_scrimshawref15_end [.agg pcs.toArray, .agg es.toArray] H (.bool (finOk p e)) := by
 obtain ⟨bv, rfl, p1, p2, p3, p4⟩ := prc_iff.1 hp
 obtain ⟨pb, pc, rfl⟩ := p4.sl
 obtain ⟨argsv, rfl, ex1, ex2, ex3, ex4, ex5, ex6⟩ := end_iff.1 he
 obtain ⟨arb, arc, rfl⟩ := ex3.sl
 refine tri_scrimshawref15_end [.int .i64 p.params, .int .i64 p.holds, .int .i64 p.regs, .slice pb p.blocks.length pc, .int .i64 e.kind, .int .i64 e.reg, .slice arb e.args.length arc, .int .i64 e.to, .int .i64 e.next, .int .i64 e.els] (by kernel_rfl) (by kernel_rfl) ?_
 refine den_one ex2 (by kernel_rfl) fun v H1 l1 h1 => ?_
 refine den_gives [.bool (regsOk p [e.reg])] cb_scrimshawref15_Regs (Regs15_gives p _ [e.reg] v H1 (CsR.le l1 hp) h1) rfl pendNil fun H2 l2 => ?_
 refine den_one ex4 (by kernel_rfl) fun v2 H3 l3 h3 => ?_
 have l13 := PH.le_trans l1 (PH.le_trans l2 l3)
 refine den_gives [.bool (regsOk p [e.to])] cb_scrimshawref15_Regs (Regs15_gives p _ [e.to] v2 H3 (CsR.le l13 hp) h3) rfl pendNil fun H4 l4 => ?_
 have l14 := PH.le_trans l13 l4
 refine den_gives [.bool (regsOk p e.args)] cb_scrimshawref15_Regs (Regs15_gives p _ e.args _ H4 (CsR.le l14 hp) (ex3.le l14)) rfl pendNil fun H5 l5 => ?_
 have l15 := PH.le_trans l14 l5
 simp only [cns]
 have hem : e.args.isEmpty = decide ((e.args.length : Int) = 0) := by
  rw [Bool.eq_iff_iff, List.isEmpty_iff, decide_eq_true_eq]
  constructor
  ·intro h; rw [h]; rfl
  ·intro h; exact List.length_eq_zero_iff.1 (by omega)
 have hfw : decide (e.args.length ≤ 6) = decide ((e.args.length : Int) ≤ 6) := by rw [decide_eq_decide]; omega
 generalize hF : finOk p e = F
 unfold finOk at hF
 simp only [hem, hfw] at hF
 refine ⟨fun g => ?_, fun g => ?_⟩
 ·simp only [evs, evb, decide_eq_true_eq] at g
  rw [if_pos g] at hF
  refine ⟨?_, l15⟩
  rw [← hF]
  simp only [evs, evb, ge_iff_le]
 simp only [evs, evb, decide_eq_false_iff_not] at g
 rw [if_neg g] at hF
 refine ⟨fun g => ?_, fun g => ?_⟩
 ·simp only [evs, evb, decide_eq_true_eq] at g
  rw [if_pos g] at hF
  refine ⟨?_, l15⟩
  rw [← hF]
  simp only [evs, evb, ge_iff_le]
 simp only [evs, evb, decide_eq_false_iff_not] at g
 rw [if_neg g] at hF
 refine ⟨fun g => ?_, fun g => ?_⟩
 ·have g : e.kind = 2 ∨ e.kind = 5 := by
   simp only [evs, evb] at g
   by_cases h2 : e.kind = 2
   ·exact .inl h2
   ·simp only [h2, decide_false, Bool.false_eq_true, if_false, decide_eq_true_eq] at g; exact .inr g
  rw [if_pos g] at hF
  refine ⟨?_, l15⟩
  rw [← hF]
  simp only [evs, evb, ge_iff_le]
 have g : ¬ (e.kind = 2 ∨ e.kind = 5) := by
  simp only [evs, evb] at g
  by_cases h2 : e.kind = 2
  ·simp [h2] at g
  ·simpa [h2] using g
 rw [if_neg g] at hF
 refine ⟨fun g => ?_, fun g => ?_⟩
 ·simp only [evs, evb, decide_eq_true_eq] at g
  rw [if_pos g] at hF
  refine ⟨?_, l15⟩
  rw [← hF]
  simp only [evs, evb, ge_iff_le]
 simp only [evs, evb, decide_eq_false_iff_not] at g
 rw [if_neg g] at hF
 refine ⟨fun g => ?_, fun g => ?_⟩
 ·simp only [evs, evb, decide_eq_true_eq] at g
  rw [if_pos g] at hF
  refine ⟨?_, l15⟩
  rw [← hF]
  simp only [evs, evb, ge_iff_le]
 simp only [evs, evb, decide_eq_false_iff_not] at g
 rw [if_neg g] at hF
 refine ⟨fun g => ?_, fun g => ?_⟩
 ·simp only [evs, evb, decide_eq_true_eq] at g
  rw [if_pos g] at hF
  refine ⟨?_, l15⟩
  rw [← hF]
  simp only [evs, evb, ge_iff_le]
 simp only [evs, evb, decide_eq_false_iff_not] at g
 rw [if_neg g] at hF
 rw [← hF]
 exact ⟨rfl, l15⟩
end Go.Proofs.Ytcfgpbmcgmkmhaa.Vc
/-
 CODE: which codes may be: the document's answer, whole.
-/
namespace Go.Proofs.Ytcfgpbmcgmkmhaa.Vc
open Go

theorem sum_take {α : Type} (f : α → Nat) : ∀ (l : List α) (k : Nat), ((l.take k).map f).sum ≤ (l.map f).sum
 | [], k => by simp
 | a :: l, 0 => by simp
 | a :: l, k + 1 => by
  have := sum_take f l k
  simp only [List.take_succ_cons, List.map_cons, List.sum_cons]; omega
theorem sum_snoc {α : Type} (f : α → Nat) {l : List α} {k : Nat} {a : α} (h : l[k]? = some a) : ((l.take (k + 1)).map f).sum = ((l.take k).map f).sum + f a := by
 rw [List.take_add_one, h]; simp
theorem check_many {c : CodeX} (h : tooMany c = true) : checkX c = 151 := by unfold checkX; rw [if_pos h]
theorem check_form {c : CodeX} (h : tooMany c = false) (hn : c = [] ∨ (∃ p l, c = p :: l ∧ (p.params ≠ 0 ∨ p.holds ≠ 0)) ∨ ∃ p ∈ c, prcOk c p = false) : checkX c = 150 := by
 unfold checkX
 rw [if_neg (by rw [h]; exact Bool.false_ne_true)]
 match c, hn with
 | [], _ => rfl
 | p :: l, hn =>
  simp only
  rw [if_neg]
  intro hh
  simp only [Bool.and_eq_true, decide_eq_true_eq, List.all_eq_true] at hh
  rcases hn with hn | ⟨p', l', e, hn⟩ | ⟨q, hq, hn⟩
  ·cases hn
  ·cases e; omega
  ·rw [hh.2 q hq] at hn; cases hn
theorem check_fine {c : CodeX} {p : PrcX} {l : CodeX} (h : tooMany c = false) (e : c = p :: l) (h1 : p.params = 0) (h2 : p.holds = 0) (h3 : ∀ q ∈ c, prcOk c q = true) : checkX c = 0 := by
 unfold checkX
 rw [if_neg (by rw [h]; exact Bool.false_ne_true)]
 subst e
 simp only
 rw [if_pos]
 simp only [Bool.and_eq_true, decide_eq_true_eq, List.all_eq_true]
 exact ⟨⟨h1, h2⟩, h3⟩
theorem too_regs {c : CodeX} {p : PrcX} (h : p ∈ c) (hr : 2000 < p.regs) : tooMany c = true := by
 unfold tooMany
 simp only [Bool.or_eq_true, List.any_eq_true, decide_eq_true_eq]
 exact .inl (.inl ⟨p, h, hr⟩)
theorem too_many {c : CodeX} (h : 4096 < manyC c) : tooMany c = true := by
 unfold tooMany
 simp only [Bool.or_eq_true, List.any_eq_true, decide_eq_true_eq]
 exact .inl (.inr h)
theorem too_long {c : CodeX} (h : 300 < c.length) : tooMany c = true := by
 unfold tooMany
 simp only [Bool.or_eq_true, List.any_eq_true, decide_eq_true_eq]
 exact .inr h
theorem not_too {c : CodeX} (h1 : ∀ p ∈ c, p.regs ≤ 2000) (h2 : manyC c ≤ 4096) (h3 : c.length ≤ 300) : tooMany c = false := by
 unfold tooMany
 simp only [Bool.or_eq_false_iff, decide_eq_false_iff_not, List.any_eq_false, decide_eq_true_eq]
 exact ⟨⟨fun p hp => by have := h1 p hp; omega, by omega⟩, by omega⟩
theorem Check15_gives (c : CodeX) (cv : Value) (H : PH) (hc : SlR H c cv) : Gives Try.prog n_scrimshawref15_Check [.agg #[cv]] H (.int .i64 (checkX c)) := by
 obtain ⟨cb, cc, rfl⟩ := hc.sl
 have hmx : maxLen = 9223372036854775807 := rfl
 have hcm := hc.max
 refine tri_scrimshawref15_Check [.slice cb c.length cc] (by kernel_rfl) (by kernel_rfl) ?_
 have upk : ∀ {k m : Nat}, k < m → m ≤ maxLen → IntKind.i64.wrap ((k : Int) + 1) = ((k + 1 : Nat) : Int) := fun h1 h2 => by rw [w64 (by omega) (by omega)]; rfl
 refine ⟨fun n vs K => ∃ (i many : Nat), i + n = c.length ∧ vs = [.int .i64 0, nI many, nI i] ∧ K = H ∧ (∀ p ∈ c.take i, p.regs ≤ 2000) ∧ many ≤ 8193 ∧ (many ≤ 4096 → many = manyC (c.take i)) ∧ (4096 < many → 4096 < manyC c),
  ⟨c.length, 0, 0, by omega, rfl, rfl, by simp, by omega, fun _ => rfl, by omega⟩, ?_⟩
 rintro n vs K _ ⟨i, many, hin, rfl, rfl, hregs, hm1, hm2, hm3⟩
 simp only [cns]
 refine ⟨fun g => ?_, fun g => ?_⟩
 ·simp only [evs, evb, decide_eq_true_eq] at g
  obtain ⟨p, hp⟩ : ∃ p, c[i]? = some p := ⟨_, List.getElem?_eq_getElem (by omega)⟩
  have hpm := List.mem_of_getElem? hp
  obtain ⟨x1, _, cs, x2, x3⟩ := hc.get hp
  obtain ⟨bv, rfl, p1, p2, p3, p4⟩ := prc_iff.1 x2
  obtain ⟨pb, pc, rfl⟩ := p4.sl
  have hbm := p4.max
  refine ⟨fun _ => ?_, [.int .i64 p.params, .int .i64 p.holds, .int .i64 p.regs, .slice pb p.blocks.length pc], rfl, ?_, ?_⟩
  ·simp only [Chk.holds, evs, evb]; exact ⟨x1, by omega, by omega⟩
  ·simp only [evs, evb]; exact x3
  simp only [cns]
  refine ⟨fun g2 => ?_, fun g2 => ?_⟩
  ·simp only [evs, evb, decide_eq_true_eq] at g2
   rw [check_many (too_regs hpm (by omega))]
   exact ⟨rfl, PH.le_refl _⟩
  simp only [evs, evb, decide_eq_false_iff_not] at g2
  refine ⟨fun m vs K2 => ∃ (k many : Nat), k + m = p.blocks.length ∧ vs = [.int .i64 0, nI many, nI k] ∧ K2 = K ∧ many ≤ 8193 ∧ (many ≤ 4096 → many = manyC (c.take i) + ((p.blocks.take k).map BlkX.many).sum) ∧ (4096 < many → 4096 < manyC c),
   ⟨p.blocks.length, 0, many, by omega, rfl, rfl, hm1, fun h => by simpa using hm2 h, hm3⟩, ?_⟩
  rintro m vs K2 _ ⟨k, many2, hkm, rfl, rfl, hq1, hq2, hq3⟩
  simp only [cns]
  refine ⟨fun g3 => ?_, fun g3 => ?_⟩
  ·simp only [evs, evb] at g3
   simp only [Bool.and_eq_true, decide_eq_true_eq] at g3
   obtain ⟨b, hb⟩ : ∃ b, p.blocks[k]? = some b := ⟨_, List.getElem?_eq_getElem (by omega)⟩
   obtain ⟨y1, _, ycs, y2, y3⟩ := p4.get hb
   obtain ⟨iv, es, rfl, i1, i2⟩ := blk_iff.1 y2
   obtain ⟨ib, ic, rfl⟩ := i1.sl
   have hiv : rowAt K2 (pOf (eltV (.slice pb p.blocks.length pc) (k : Int) 7) |>.map (·.add 0)) [.slice ib b.ins.length ic] := rowAt_sub y3 0 1
   refine ⟨fun _ => ?_, [.slice ib b.ins.length ic], rfl, by simp only [evs, evb]; exact hiv, fun g4 => ?_, fun g4 => ⟨[.slice ib b.ins.length ic], rfl, by simp only [evs, evb]; exact hiv, ?_⟩⟩
   ·simp only [Chk.holds, evs, evb]; exact ⟨y1, by omega, by omega⟩
   ·simp only [evs, evb, decide_eq_true_eq] at g4
    have h1 := many_blk (List.mem_of_getElem? hb)
    have h2 := many_prc hpm
    rw [check_many (too_many (by omega))]
    exact ⟨rfl, PH.le_refl _⟩
   ·simp only [evs, evb, decide_eq_false_iff_not] at g4
    have hw1 : IntKind.i64.wrap (IntKind.i64.wrap ((many2 : Int) + 1) + (b.ins.length : Int)) = ((many2 + 1 + b.ins.length : Nat) : Int) := by
     rw [w64 (n := (many2 : Int) + 1) (by omega) (by omega), w64 (by omega) (by omega)]; omega
    have hs := sum_snoc BlkX.many hb
    have hbm2 : BlkX.many b = 1 + b.ins.length := rfl
    have h0 := hq2 (by omega)
    have hle : manyC (c.take i) + ((p.blocks.take (k + 1)).map BlkX.many).sum ≤ manyC c := by
     have h1 := sum_take BlkX.many p.blocks (k + 1)
     have h2 := sum_snoc PrcX.many hp
     have h3 := sum_take PrcX.many c (i + 1)
     have h4 : PrcX.many p = (p.blocks.map BlkX.many).sum := rfl
     unfold manyC; omega
    refine ⟨_, lookup_hit, m - 1, by omega, k + 1, many2 + 1 + b.ins.length, by omega, ?_, rfl, by omega, fun _ => by omega, fun _ => by omega⟩
    simp only [evs, evb, hw1, upk (by omega : k < p.blocks.length) hbm]
  ·simp only [evs, evb] at g3
   simp only [Bool.and_eq_false_iff, decide_eq_false_iff_not] at g3
   refine ⟨_, (lookup_miss (by decide)).trans lookup_hit, n - 1, by omega, i + 1, many2, by omega, ?_, rfl, ?_, hq1, fun h => ?_, hq3⟩
   ·simp only [evs, evb, upk (by omega : i < c.length) hcm]
   ·intro q hq
    rw [List.take_add_one, hp, List.mem_append] at hq
    rcases hq with hq | hq
    ·exact hregs q hq
    ·rw [List.mem_singleton.1 hq]; omega
   ·have h2 := sum_snoc PrcX.many hp
    have h4 : PrcX.many p = (p.blocks.map BlkX.many).sum := rfl
    have h5 := hq2 h
    rw [show p.blocks.take k = p.blocks from List.take_of_length_le (by omega)] at h5
    unfold manyC at h5 ⊢; omega
 simp only [evs, evb, decide_eq_false_iff_not] at g
 rw [List.take_of_length_le (by omega)] at hregs hm2
 refine ⟨fun g2 => ?_, fun g2 => ?_⟩
 ·simp only [evs, evb] at g2
  simp only [Bool.or_eq_true, decide_eq_true_eq] at g2
  have : tooMany c = true := by
   rcases g2 with g2 | g2
   ·exact too_many (hm3 (by omega))
   ·exact too_long (by omega)
  rw [check_many this]
  exact ⟨rfl, PH.le_refl _⟩
 simp only [evs, evb] at g2
 simp only [Bool.or_eq_false_iff, decide_eq_false_iff_not] at g2
 have htm : tooMany c = false := not_too hregs (by have := hm2 (by omega); omega) (by omega)
 refine ⟨fun vs K2 => K = K2 ∧ ((vs = [.bool true] ∧ checkX c = 150) ∨ (vs = [.bool false] ∧ ∃ p l, c = p :: l ∧ p.params = 0 ∧ p.holds = 0)), ?_, ?_⟩
 rotate_left
 ·cases hcl : c with
  | nil =>
   rw [hcl] at htm
   have := check_form htm (.inl rfl)
   refine ⟨fun hg => by exfalso; simp [Guard.holds, evs, evb] at hg, fun hg => by exfalso; simp [Guard.holds, evs, evb] at hg, fun _ => ⟨_, lookup_hit, rfl, .inl ⟨rfl, this⟩⟩, fun g3 => by simp [evs, evb] at g3⟩
  | cons p l =>
   have hp : c[0]? = some p := by rw [hcl]; rfl
   obtain ⟨x1, xn, cs, x2, x3⟩ := hc.get hp
   obtain ⟨bv, rfl, p1, p2, p3, p4⟩ := prc_iff.1 x2
   obtain ⟨pb, pc, rfl⟩ := p4.sl
   have hl1 : (1 : Int) ≤ ((p :: l).length : Int) := by simp; omega
   rw [hcl] at x1 xn x3 htm
   refine ⟨fun _ => ?_, fun _ => ?_, fun g3 => ?_, fun g3 => ⟨[.int .i64 p.params], rfl, ?_, fun _ => ?_, fun _ => ?_, fun g4 => ?_, fun g4 => ⟨[.int .i64 p.holds], rfl, ?_, ?_⟩⟩⟩
   ·simp only [Chk.holds, evs, evb]; exact ⟨x1, by omega, by omega⟩
   ·simp only [Chk.holds, evs, evb]; exact xn
   ·simp [evs, evb] at g3; omega
   ·simp only [evs, evb]; exact rowAt_sub x3 0 1
   ·simp only [Chk.holds, evs, evb]; exact ⟨x1, by omega, by omega⟩
   ·simp only [Chk.holds, evs, evb]; exact xn
   ·simp only [evs, evb, ne_eq, decide_not, Bool.not_eq_true', decide_eq_false_iff_not] at g4
    exact ⟨_, lookup_hit, rfl, .inl ⟨rfl, check_form htm (.inr (.inl ⟨p, l, rfl, .inl g4⟩))⟩⟩
   ·simp only [evs, evb]; exact rowAt_sub x3 1 1
   ·simp only [evs, evb, ne_eq, decide_not, Bool.not_eq_false', decide_eq_true_eq] at g4
    by_cases e : p.holds = 0
    ·exact ⟨_, lookup_hit, rfl, .inr ⟨by simp [evs, evb, e], p, l, rfl, g4, e⟩⟩
    ·exact ⟨_, lookup_hit, rfl, .inl ⟨by simp [evs, evb, e], check_form htm (.inr (.inl ⟨p, l, rfl, .inr e⟩))⟩⟩
 rintro vs K2 _ ⟨rfl, hJ⟩
 rcases hJ with ⟨rfl, hf⟩ | ⟨rfl, p0, l0, hcl, h00, h01⟩
 ·refine ⟨fun _ => ?_, fun g3 => by simp [evs, evb] at g3⟩
  rw [hf]; exact ⟨rfl, PH.le_refl _⟩
 refine ⟨fun g3 => by simp [evs, evb] at g3, fun _ => ?_⟩
 simp only [cns]
 refine ⟨fun n vs K2 => ∃ i : Nat, i + n = c.length ∧ vs = [.int .i64 0, nI i] ∧ PH.le K K2 ∧ ∀ p ∈ c.take i, prcOk c p = true, ⟨c.length, 0, by omega, rfl, PH.le_refl _, by simp⟩, ?_⟩
 rintro n vs K2 _ ⟨i, hin, rfl, lK, hok⟩
 simp only [cns]
 refine ⟨fun g3 => ?_, fun g3 => ?_⟩
 ·simp only [evs, evb, decide_eq_true_eq] at g3
  obtain ⟨p, hp⟩ : ∃ p, c[i]? = some p := ⟨_, List.getElem?_eq_getElem (by omega)⟩
  have hpm := List.mem_of_getElem? hp
  obtain ⟨x1, _, cs, x2, x3⟩ := hc.get hp
  have x2' := x2
  obtain ⟨bv, rfl, p1, p2, p3, p4⟩ := prc_iff.1 x2
  obtain ⟨pb, pc, rfl⟩ := p4.sl
  have hbm := p4.max
  have bad : ∀ {K3 : PH}, PH.le K K3 → prcOk c p = false → Ending.returned (Value.int .i64 150) = Ending.returned (Value.int .i64 (checkX c)) ∧ PH.le K K3 := fun l hb => ⟨by rw [check_form htm (.inr (.inr ⟨p, hpm, hb⟩))], l⟩
  refine ⟨fun _ => ?_, [.int .i64 p.params, .int .i64 p.holds, .int .i64 p.regs, .slice pb p.blocks.length pc], rfl, ?_, ?_⟩
  ·simp only [Chk.holds, evs, evb]; exact ⟨x1, by omega, by omega⟩
  ·simp only [evs, evb]; exact rowAt_le lK x3
  simp only [cns]
  refine ⟨fun g4 => ?_, fun g4 => ?_⟩
  ·simp only [evs, evb] at g4
   simp only [Bool.or_eq_true, decide_eq_true_eq] at g4
   refine bad lK ?_
   unfold prcOk
   have : (decide (0 ≤ p.params) && decide (p.params ≤ 6) && decide (0 ≤ p.holds) && decide (p.holds ≤ 1000) && decide (p.params ≤ p.regs) && !p.blocks.isEmpty) = false := by
    cases hh : (decide (0 ≤ p.params) && decide (p.params ≤ 6) && decide (0 ≤ p.holds) && decide (p.holds ≤ 1000) && decide (p.params ≤ p.regs) && !p.blocks.isEmpty) with
    | false => rfl
    | true =>
     exfalso
     simp only [Bool.and_eq_true, decide_eq_true_eq, Bool.not_eq_true', List.isEmpty_eq_false_iff] at hh
     have := List.length_pos_iff.2 hh.2
     omega
   rw [this]; rfl
  simp only [evs, evb] at g4
  simp only [Bool.or_eq_false_iff, decide_eq_false_iff_not] at g4
  have hpre : prcOk c p = p.blocks.all fun b => b.ins.all (insOk c p) && finOk p b.e := by
   unfold prcOk
   have : (decide (0 ≤ p.params) && decide (p.params ≤ 6) && decide (0 ≤ p.holds) && decide (p.holds ≤ 1000) && decide (p.params ≤ p.regs) && !p.blocks.isEmpty) = true := by
    simp only [Bool.and_eq_true, decide_eq_true_eq, Bool.not_eq_true', List.isEmpty_eq_false_iff]
    have : p.blocks ≠ [] := fun e => by rw [e] at g4; simp at g4
    exact ⟨⟨⟨⟨⟨by omega, by omega⟩, by omega⟩, by omega⟩, by omega⟩, this⟩
   rw [this]; rfl
  refine ⟨fun m vs K3 => ∃ k : Nat, k + m = p.blocks.length ∧ vs = [.int .i64 0, nI k] ∧ PH.le K K3 ∧ ∀ b ∈ p.blocks.take k, (b.ins.all (insOk c p) && finOk p b.e) = true, ⟨p.blocks.length, 0, by omega, rfl, lK, by simp⟩, ?_⟩
  rintro m vs K3 _ ⟨k, hkm, rfl, lK3, hbok⟩
  simp only [cns]
  refine ⟨fun g5 => ?_, fun g5 => ?_⟩
  ·simp only [evs, evb, decide_eq_true_eq] at g5
   obtain ⟨b, hb⟩ : ∃ b, p.blocks[k]? = some b := ⟨_, List.getElem?_eq_getElem (by omega)⟩
   have hbmem := List.mem_of_getElem? hb
   obtain ⟨y1, _, ycs, y2, y3⟩ := p4.get hb
   obtain ⟨iv, es, rfl, i1, i2⟩ := blk_iff.1 y2
   obtain ⟨ib, ic, rfl⟩ := i1.sl
   have i2' := i2
   obtain ⟨eav, rfl, _, _, e3, _⟩ := end_iff.1 i2
   obtain ⟨eb, ec, rfl⟩ := e3.sl
   have him := i1.max
   have bad2 : ∀ {K4 : PH}, PH.le K K4 → (b.ins.all (insOk c p) && finOk p b.e) = false → Ending.returned (Value.int .i64 150) = Ending.returned (Value.int .i64 (checkX c)) ∧ PH.le K K4 := fun l hb2 => bad l (by
    rw [hpre, List.all_eq_false]
    exact ⟨b, hbmem, by rw [hb2]; exact Bool.false_ne_true⟩)
   refine ⟨fun _ => ?_, [.slice ib b.ins.length ic, .int .i64 b.e.kind, .int .i64 b.e.reg, .slice eb b.e.args.length ec, .int .i64 b.e.to, .int .i64 b.e.next, .int .i64 b.e.els], rfl, ?_, ?_⟩
   ·simp only [Chk.holds, evs, evb]; exact ⟨y1, by omega, by omega⟩
   ·simp only [evs, evb]; exact rowAt_le lK3 y3
   simp only [cns]
   refine ⟨fun q vs K4 => ∃ j : Nat, j + q = b.ins.length ∧ vs = [.int .i64 0, nI j] ∧ PH.le K K4 ∧ ∀ x ∈ b.ins.take j, insOk c p x = true, ⟨b.ins.length, 0, by omega, rfl, lK3, by simp⟩, ?_⟩
   rintro q vs K4 _ ⟨j, hjq, rfl, lK4, hiok⟩
   simp only [cns]
   refine ⟨fun g6 => ?_, fun g6 => ?_⟩
   ·simp only [evs, evb, decide_eq_true_eq] at g6
    obtain ⟨x, hx⟩ : ∃ x, b.ins[j]? = some x := ⟨_, List.getElem?_eq_getElem (by omega)⟩
    obtain ⟨z1, _, zcs, z2, z3⟩ := i1.get hx
    have z2' := z2
    obtain ⟨argsv, dv, rfl, _, _, ix3, _, _, _, ix7, _⟩ := ins_iff.1 z2
    obtain ⟨arb, arc, rfl⟩ := ix3.sl
    obtain ⟨dvb, dvc, rfl⟩ := ix7.sl
    refine ⟨fun _ => ?_, [txt x.op, .int .i64 x.to, .slice arb x.args.length arc, .int .i64 x.const.kind, .int .i64 x.const.int, txt x.const.text, .slice dvb x.const.list.length dvc, .int .i64 x.num], rfl, ?_, ?_⟩
    ·simp only [Chk.holds, evs, evb]; exact ⟨z1, by omega, by omega⟩
    ·simp only [evs, evb]; exact rowAt_le lK4 z3
    simp only [cns]
    refine den_gives [.bool (insOk c p x)] cb_scrimshawref15_ins (ins15_gives c _ p _ x _ K4 (hc.le lK4) (CsR.le lK4 x2') (CsR.le lK4 z2')) rfl pendNil fun K5 l5 => ⟨fun g7 => ?_, fun g7 => ?_⟩
    ·simp only [evs, evb, Bool.not_eq_true'] at g7
     refine bad2 (PH.le_trans lK4 l5) ?_
     have : b.ins.all (insOk c p) = false := by
      rw [List.all_eq_false]
      exact ⟨x, List.mem_of_getElem? hx, by rw [g7]; exact Bool.false_ne_true⟩
     rw [this]; rfl
    ·simp only [evs, evb, Bool.not_eq_false'] at g7
     refine ⟨_, lookup_hit, q - 1, by omega, j + 1, by omega, ?_, PH.le_trans lK4 l5, fun y hy => ?_⟩
     ·simp only [evs, evb, upk (by omega : j < b.ins.length) him]
     ·rw [List.take_add_one, hx, List.mem_append] at hy
      rcases hy with hy | hy
      ·exact hiok y hy
      ·rw [List.mem_singleton.1 hy]; exact g7
   ·simp only [evs, evb, decide_eq_false_iff_not] at g6
    rw [List.take_of_length_le (by omega)] at hiok
    have hia : b.ins.all (insOk c p) = true := List.all_eq_true.2 hiok
    refine den_gives [.bool (finOk p b.e)] cb_scrimshawref15_end (end15f_gives p _ b.e _ K4 (CsR.le lK4 x2') (CsR.le lK4 i2')) rfl pendNil fun K5 l5 => ⟨fun g7 => ?_, fun g7 => ?_⟩
    ·simp only [evs, evb, Bool.not_eq_true'] at g7
     exact bad2 (PH.le_trans lK4 l5) (by rw [hia, g7]; rfl)
    ·simp only [evs, evb, Bool.not_eq_false'] at g7
     refine ⟨_, (lookup_miss (by decide)).trans lookup_hit, m - 1, by omega, k + 1, by omega, ?_, PH.le_trans lK4 l5, fun y hy => ?_⟩
     ·simp only [evs, evb, upk (by omega : k < p.blocks.length) hbm]
     ·rw [List.take_add_one, hb, List.mem_append] at hy
      rcases hy with hy | hy
      ·exact hbok y hy
      ·rw [List.mem_singleton.1 hy, hia, g7]; rfl
  ·simp only [evs, evb, decide_eq_false_iff_not] at g5
   rw [List.take_of_length_le (by omega)] at hbok
   refine ⟨_, (lookup_miss (by decide)).trans lookup_hit, n - 1, by omega, i + 1, by omega, ?_, lK3, fun y hy => ?_⟩
   ·simp only [evs, evb, upk (by omega : i < c.length) hcm]
   ·rw [List.take_add_one, hp, List.mem_append] at hy
    rcases hy with hy | hy
    ·exact hok y hy
    ·rw [List.mem_singleton.1 hy, hpre]; exact List.all_eq_true.2 hbok
 ·simp only [evs, evb, decide_eq_false_iff_not] at g3
  rw [List.take_of_length_le (by omega)] at hok
  rw [check_fine htm hcl h00 h01 hok]
  exact ⟨rfl, lK⟩
end Go.Proofs.Ytcfgpbmcgmkmhaa.Vc
/-
 CODE RUN: a run: in memory.
-/
namespace Go.Proofs.Ytcfgpbmcgmkmhaa.Vc
open Go

structure OutX where
 err : Int
 out : List UInt8
 shown : Dat
 whole : Bool
 steps : Nat
def endX (m : MX) (n : Nat) : OutX := ⟨m.e, m.out, if m.e = 0 then (tellV m.h m.told).1 else dat0, if m.e = 0 then (tellV m.h m.told).2 else false, n⟩
def runX (c : CodeX) (input : List UInt8) (steps : Int) : OutX :=
 if steps < 0 ∨ 1000000 < steps then ⟨1, [], dat0, false, 0⟩
 else if checkX c ≠ 0 then ⟨checkX c, [], dat0, false, 0⟩
 else endX (MX.go constK c steps.toNat (MX.first c input) 0).1 (MX.go constK c steps.toNat (MX.first c input) 0).2
def OutX.Rep (o : OutX) (H : PH) (cs : List Value) : Prop := ∃ ds, cs = [.int .i64 o.err, txt o.out] ++ ds ++ [.bool o.whole, nI o.steps] ∧ o.shown.Rep H ds
theorem go_eq (K : Dat → VX) (c : CodeX) (fuel : Nat) (m : MX) (n : Nat) : MX.go K c fuel m n = if m.e ≠ 0 ∨ m.done = true then (m, n) else match fuel with
  | 0 => ({ m with e := 93 }, n)
  | fuel + 1 => MX.go K c fuel (m.step K c) (n + 1) := by
 cases fuel <;> rfl
theorem step_eq {K : Dat → VX} {c : CodeX} {m : MX} {ws : List ActX} {a : ActX} (hs : m.acts = ws ++ [a]) : m.step K c = match (blkAt (prcAt c a.proc) a.block).ins[a.at_.toNat]? with
  | some x => (m.last fun a => { a with at_ := a.at_ + 1 }).ins K x
  | none => m.fin c (blkAt (prcAt c a.proc) a.block).e := by
 unfold MX.step; simp only [last_of hs]; rfl
def ms0 (input : List UInt8) : MS := ⟨[], .slice none 0 0, [], .slice none 0 0, [], .slice none 0 0, input, [], .slice none 0 0, ⟨4, 0, []⟩, vNone, false, 0⟩
theorem out_leaf (e : Int) (H : PH) : (⟨e, [], dat0, false, 0⟩ : OutX).Rep H [.int .i64 e, txt [], .int .i64 0, .int .i64 0, txt [], .slice none 0 0, .bool false, .int .i64 0] :=
 ⟨[.int .i64 0, .int .i64 0, txt [], .slice none 0 0], rfl, leaf_rep (k := 0) (n := 0) (t := []) (by decide) (by decide) (by decide)⟩
theorem Run15_tri (c : CodeX) (cv : Value) (input : List UInt8) (steps : Int) (H : PH) (hc : SlR H c cv) (hst : InI steps) :
  Tri Try.prog n_scrimshawref15_Run #[.agg #[cv], txt input, .int .i64 steps] H fun e H' => PH.le H H' ∧ ∃ cs, e = .returned (.agg cs.toArray) ∧ (runX c input steps).Rep H' cs := by
 obtain ⟨cb, cc, hcv⟩ := hc.sl
 subst hcv
 refine tri_scrimshawref15_Run [.slice cb c.length cc, txt input, .int .i64 steps] (by kernel_rfl) (by kernel_rfl) ?_
 refine ⟨fun g => ?_, fun g => ?_⟩
 ·simp only [evs, evb] at g
  simp only [Bool.or_eq_true, decide_eq_true_eq, gt_iff_lt] at g
  have : runX c input steps = ⟨1, [], dat0, false, 0⟩ := by unfold runX; rw [if_pos g]
  rw [this]
  exact ⟨PH.le_refl _, _, rfl, out_leaf 1 _⟩
 simp only [evs, evb] at g
 simp only [Bool.or_eq_false_iff, decide_eq_false_iff_not, gt_iff_lt] at g
 have hr0 : runX c input steps = if checkX c ≠ 0 then ⟨checkX c, [], dat0, false, 0⟩ else endX (MX.go constK c steps.toNat (MX.first c input) 0).1 (MX.go constK c steps.toNat (MX.first c input) 0).2 := by
  unfold runX; rw [if_neg (by omega)]
 refine den_gives [.int .i64 (checkX c)] cb_scrimshawref15_Check (Check15_gives c _ H hc) rfl pendNil fun H1 l1 => ⟨fun g2 => ?_, fun g2 => ?_⟩
 ·simp only [evs, evb, ne_eq, decide_not, Bool.not_eq_true', decide_eq_false_iff_not] at g2
  rw [if_pos g2] at hr0
  rw [hr0]
  exact ⟨l1, _, rfl, out_leaf _ _⟩
 simp only [evs, evb, ne_eq, decide_not, Bool.not_eq_false', decide_eq_true_eq] at g2
 rw [if_neg (fun hh => hh g2)] at hr0
 have g := checkX_good g2
 obtain ⟨N, hN⟩ : ∃ N : Nat, steps = (N : Int) := ⟨steps.toNat, by omega⟩
 rw [hN, Int.toNat_natCast] at hr0
 have hN6 : N ≤ 1000000 := by omega
 have hcH := hc.le l1
 have h0 : Held H1 H1 [] := Held.nil (PH.le_refl _)
 simp only [cns]
 refine den_bxNew (vs := [.slice none 0 0]) h0 (by simp only [List.map_cons, List.map_nil, evs, evb]; rfl) fun hr H2 l2 h2 => ?_
 simp only [cns]
 refine den_bxNew (vs := (ms0 input).cells (.slice cb c.length cc) hr) h2 (by simp only [List.map_cons, List.map_nil, evs, evb]; rfl) fun mr H3 l3 h3 => ?_
 simp only [cns]
 have h4 : Held H1 H3 (machI (.slice cb c.length cc) mr hr (ms0 input) ++ []) := by
  have := (((h3.empty (α := UInt8) 5).empty (α := ActM) 86).empty (α := CloM) 83).empty (α := TR) 129
  exact this.perm (List.perm_append_comm (l₁ := [orow (α := TR) 129 [] (.slice none 0 0), orow (α := CloM) 83 [] (.slice none 0 0), orow (α := ActM) 86 [] (.slice none 0 0), orow (α := UInt8) 5 [] (.slice none 0 0)]) (l₂ := [bxM (.slice cb c.length cc) mr hr (ms0 input), bx hr 71 [.slice none 0 0]]))
 have f4 : MFit (ms0 input) := ⟨⟨(by decide : InI 4), (by decide : InI 0), (by decide : ([] : List UInt8).length ≤ maxLen)⟩, fit_none⟩
 have nilA : ∀ S : PH, SlR S ([] : List ActX) (.slice none 0 0) := fun S => SlR.mk_iff.2 ⟨Nat.zero_le _, .inl ⟨rfl, rfl⟩⟩
 refine den_call cb_scrimshawref15_Machine__made (made15_tri (proc := 0) (kont := false) (held := []) (hv := .slice none 0 0) (acts := []) (asv := .slice none 0 0) (h4.empty _) (nilA _) (by decide : InI 0) (by show (0 : Nat) ≤ _; omega) (by show (0 : Nat) ≤ _; omega)) ?_
 rintro e5 K5 ⟨S5, s5, l5, h5, rfl, hx5, eA, eav, ew, et, _⟩
 have hx0 : (ms0 input).x = (⟨[], [], [], input, [], ⟨4, 0, []⟩, vNone, false, 0⟩ : MX) := rfl
 rw [hx0] at hx5
 have hfirst : MX.first c input = s5.x.call c (MX.made (⟨[], [], [], input, [], ⟨4, 0, []⟩, vNone, false, 0⟩ : MX) ⟨0, 0, [], false, []⟩).2 [] true := by rw [hx5]; rfl
 have hco0 : CoreOk c 0 (⟨[], [], [], input, [], ⟨4, 0, []⟩, vNone, false, 0⟩ : MX) := by
  refine ⟨⟨?_, ?_, ?_, ?_, ?_, ?_⟩, Nat.le_refl _, Nat.le_refl _, Nat.le_refl _, ?_⟩ <;> intro t ht <;> cases ht
 obtain ⟨p0, l0, hc0, hp0, hh0⟩ := g.first
 obtain ⟨k1, k2⟩ := made_ok hco0 (x := ⟨0, 0, [], false, []⟩) fun i => ⟨fun hk => (by cases hk), fun _ => ⟨⟨by show (0 : Int) ≤ 0; omega, by show (0 : Int) < _; rw [hc0, List.length_cons]; omega⟩, by
  show (0 : Int) = (prcAt c 0).holds
  rw [hc0]
  show (0 : Int) = p0.holds
  exact hh0.symm⟩, Nat.zero_le _⟩
 rw [← hx5] at k1
 have hac5 : s5.x.acts = [] := by rw [hx5]; rfl
 have a1 : ActsOk c 1 s5.x := ⟨by rw [hac5]; simp, fun a ha => by rw [hac5] at ha; cases ha⟩
 generalize hkv : (MX.made (⟨[], [], [], input, [], ⟨4, 0, []⟩, vNone, false, 0⟩ : MX) ⟨0, 0, [], false, []⟩).2 = kv at *
 have fkv : VFit kv := by rw [← hkv]; exact ⟨(by decide : InI 8), (by decide : InI 0), (by decide : ([] : List UInt8).length ≤ maxLen)⟩
 refine ⟨_, valVs kv, by rw [hx0, hkv]; rfl, rfl, rfl, pendNil, ?_⟩
 simp only [cns]
 refine den_call cb_scrimshawref15_Machine__call (call15_tri h5 (by unfold MFit; rw [ew, et]; exact f4) (hcH.le l5) g k1 a1 (by omega) fkv (args := []) (argv := .slice none 0 0) (SlR.mk_iff.2 ⟨Nat.zero_le _, .inl ⟨rfl, rfl⟩⟩) true (fun h => by cases h)) ?_
 rintro e6 K6 ⟨S6, s6, l6, h6, f6, hx6, rfl⟩
 refine ⟨_, [], rfl, rfl, rfl, pendNil, ?_⟩
 rw [← hfirst] at hx6
 have ok6 : StepOk c 2 s6.x := by rw [hx6]; exact first_ok g input
 simp only [List.append_nil]
 generalize hF : MX.first c input = F at *
 have l06 : PH.le H1 S6 := PH.le_trans l5 l6
 refine ⟨fun vs K => ∃ (S7 : PH) (s7 : MS), PH.le H1 S7 ∧ Held S7 K (machI (.slice cb c.length cc) mr hr s7 ++ []) ∧ MFit s7 ∧ s7.x = (MX.go constK c N F 0).1 ∧ vs = [nI (MX.go constK c N F 0).2] ∧ HeapOk s7.x.h ∧ s7.x.out.length ≤ 16777214, ?_, ?_⟩
 rotate_left
 ·refine ⟨fun m vs K => ∃ (k : Nat) (S7 : PH) (s7 : MS), k + m = N ∧ vs = [nI k] ∧ PH.le H1 S7 ∧ Held S7 K (machI (.slice cb c.length cc) mr hr s7 ++ []) ∧ MFit s7 ∧ StepOk c (2 + 2 * k) s7.x ∧ MX.go constK c N F 0 = MX.go constK c (N - k) s7.x k, ⟨N, 0, S6, s6, by omega, rfl, l06, h6, f6, ok6, by rw [hx6]; rfl⟩, ?_⟩
  rintro m vs K _ ⟨k, S7, s7, hkm, rfl, l7, h7, f7, ok7, hgo⟩
  simp only [cns]
  have hcore := ok7.1
  have fin7 : HeapOk s7.x.h ∧ s7.x.out.length ≤ 16777214 := ⟨hcore.heap, by have := hcore.on; omega⟩
  refine ⟨fun vs K' => K = K' ∧ vs = [.bool (decide (s7.e = 0) && !s7.done)], ?_, ?_⟩
  rotate_left
  ·refine ⟨fun _ => by simp [Chk.holds, evs, evb], [.int .i64 s7.e], rfl, by simp only [evs, evb]; exact mach_bx h7 rfl, fun g3 => ?_, fun g3 => ?_⟩
   ·simp only [evs, evb, decide_eq_true_eq] at g3
    refine ⟨[.bool s7.done], rfl, by simp only [evs, evb]; exact mach_bx h7 rfl, _, lookup_hit, rfl, ?_⟩
    simp [evs, evb, g3]
   ·simp only [evs, evb, decide_eq_false_iff_not] at g3
    exact ⟨_, lookup_hit, rfl, by simp [evs, evb, g3]⟩
  rintro vs K' _ ⟨rfl, rfl⟩
  simp only [cns]
  have hgs := go_eq constK c (N - k) s7.x k
  refine ⟨fun g3 => ?_, fun g3 => ?_⟩
  ·simp only [evs, evb] at g3
   simp only [Bool.and_eq_true, decide_eq_true_eq, Bool.not_eq_true'] at g3
   have he0 : s7.x.e = 0 := g3.1
   have hd0 : s7.x.done = false := g3.2
   rw [if_neg (by rw [he0, hd0]; simp)] at hgs
   refine ⟨fun g4 => ?_, fun g4 => ?_⟩
   ·have g4 : k = N := by
     simp only [evs, evb, decide_eq_true_eq] at g4; omega
    subst g4
    rw [Nat.sub_self] at hgs hgo
    simp only at hgs
    refine ⟨fun _ => by simp [Chk.holds, evs, evb], ?_⟩
    refine mach_err (e := 93) h7 f7 (by simp only [evs, evb]; rfl) (by simp only [evs, evb]) fun K8 h8 f8 => ⟨_, (lookup_miss (by decide)).trans lookup_hit, S7, _, l7, h8, f8, ?_, ?_, fin7.1, fin7.2⟩
    ·rw [hgo, hgs]; rfl
    ·rw [hgo, hgs]; rfl
   ·have g4 : ¬ k = N := by
     simp only [evs, evb, decide_eq_false_iff_not] at g4; omega
    have hk1 : N - k = (N - (k + 1)) + 1 := by omega
    have hgs' : MX.go constK c (N - k) s7.x k = MX.go constK c (N - (k + 1)) (s7.x.step constK c) (k + 1) := by rw [hgs, hk1]
    have hro := ok7.2 he0 hd0
    obtain ⟨ws, a, hA⟩ := snoc_of hro.last
    have hAl : s7.A.length ≤ 2 + 2 * k := by have := hro.acts.an; simpa [MS.x] using this
    obtain ⟨ab, ac, hav⟩ := mach_asl h7
    obtain ⟨l', xa, hl', hws, hxa, hget, hlen⟩ := last_act (show s7.A.map actX' = ws ++ [a] from hA)
    obtain ⟨x1, x2, x3, x4, x5, x6, x7, x8⟩ := mach_act h7 hget
    have haok := hro.acts.acts a (by rw [hA]; simp)
    obtain ⟨hpm, hpg⟩ := prcAt_mem haok.proc.1 haok.proc.2
    have gp := g.prc hpm
    obtain ⟨hbm, hbg⟩ := blkAt_mem haok.blk.1 haok.blk.2
    have hd1 : IntKind.i64.wrap ((s7.A.length : Int) - 1) = (ws.length : Int) := by rw [w64 (by omega) (by omega)]; omega
    rw [hav] at x1 x3
    have e1 : xa.1.proc = a.proc := by rw [← hxa]
    have e2 : xa.1.block = a.block := by rw [← hxa]
    have e3 : xa.1.at_ = a.at_ := by rw [← hxa]
    have hcS := hcH.le l7
    obtain ⟨y1, _, pcs, y2, y3⟩ := hcS.get hpg
    obtain ⟨bv, rfl, q1, q2, q3, q4⟩ := prc_iff.1 y2
    obtain ⟨bb, bc, rfl⟩ := q4.sl
    obtain ⟨z1, _, zcs, z2, z3⟩ := q4.get hbg
    obtain ⟨iv, es, rfl, i1, i2⟩ := blk_iff.1 z2
    obtain ⟨ib, ic, rfl⟩ := i1.sl
    have i2' := i2
    obtain ⟨eav, rfl, _, _, ea3, _⟩ := end_iff.1 i2
    obtain ⟨eb, ec, rfl⟩ := ea3.sl
    have hpj : ((a.proc.toNat : Nat) : Int) = a.proc := Int.toNat_of_nonneg haok.proc.1
    have hbj : ((a.block.toNat : Nat) : Int) = a.block := Int.toNat_of_nonneg haok.blk.1
    rw [hpj] at y3
    rw [hbj] at z3
    have hstep := step_eq (K := constK) (c := c) hA
    generalize hB : blkAt (prcAt c a.proc) a.block = B at *
    have hat := haok.at_
    rw [hB] at hat
    have hinl := (gp.ins B hbm).1
    have hl3 : ∀ {S' K' : PH} {s' : MS} {J' : List Itm}, Held S' K' (machI (.slice cb c.length cc) mr hr s' ++ J') → s'.av = s7.av → rowAt K' (some ⟨mr, 3, none⟩) [.slice ab s7.A.length ac] := fun h' e2 => by rw [← hav, ← e2]; exact mach_bx h' rfl
    refine ⟨fun _ => by simp [Chk.holds, evs, evb], [.slice ab s7.A.length ac], rfl, by simp only [evs, evb]; exact hl3 h7 rfl, [.slice ab s7.A.length ac], rfl, by simp only [evs, evb]; exact hl3 h7 rfl, fun _ => ?_, [.int .i64 a.proc], rfl, ?_, fun _ => ?_, [.slice bb (prcAt c a.proc).blocks.length bc], rfl, ?_, [.int .i64 a.block], rfl, ?_, fun _ => ?_, [.slice ib B.ins.length ic, .int .i64 B.e.kind, .int .i64 B.e.reg, .slice eb B.e.args.length ec, .int .i64 B.e.to, .int .i64 B.e.next, .int .i64 B.e.els], rfl, ?_, [.int .i64 a.at_], rfl, ?_, fun g5 => ?_, fun g5 => ?_⟩
    ·simp only [Chk.holds, evs, evb, hd1]; exact ⟨x1, by omega, by omega⟩
    ·simp only [evs, evb, hd1]; rw [← e1]; exact rowAt_sub x3 0 1
    ·simp only [Chk.holds, evs, evb]; exact ⟨y1, by have := haok.proc; omega, by have := haok.proc; omega⟩
    ·simp only [evs, evb]; exact rowAt_le h7.sh (rowAt_sub y3 3 1)
    ·simp only [evs, evb, hd1]; rw [← e2]; exact rowAt_sub x3 3 1
    ·simp only [Chk.holds, evs, evb]; exact ⟨z1, by have := haok.blk; omega, by have := haok.blk; omega⟩
    ·simp only [evs, evb]; exact rowAt_le h7.sh z3
    ·simp only [evs, evb, hd1]; rw [← e3]; exact rowAt_sub x3 4 1
    ·simp only [evs, evb, decide_eq_true_eq] at g5
     obtain ⟨j, hj⟩ : ∃ j : Nat, a.at_ = (j : Int) := ⟨a.at_.toNat, by omega⟩
     obtain ⟨x, hx⟩ : ∃ x, B.ins[j]? = some x := ⟨_, List.getElem?_eq_getElem (by omega)⟩
     have hxj : B.ins[a.at_.toNat]? = some x := by rw [hj, Int.toNat_natCast]; exact hx
     rw [hxj] at hstep
     simp only at hstep
     rw [last_is hA] at hstep
     obtain ⟨w1, _, xs, w2, w3⟩ := i1.get hx
     have w2' := w2
     obtain ⟨argsv, dv, rfl, _, _, ix3, _, _, _, ix7, _⟩ := ins_iff.1 w2
     obtain ⟨arb, arc, rfl⟩ := ix3.sl
     obtain ⟨dvb, dvc, rfl⟩ := ix7.sl
     have hwj : IntKind.i64.wrap (a.at_ + 1) = ((j + 1 : Nat) : Int) := by rw [hj, w64 (by omega) (by omega)]; rfl
     have hwj2 : IntKind.i64.wrap (((j + 1 : Nat) : Int) - 1) = (j : Int) := by rw [w64 (by omega) (by omega)]; omega
     refine ⟨[.int .i64 a.at_], rfl, ?_, ?_⟩
     ·simp only [evs, evb, hd1]; rw [← e3]; exact rowAt_sub x3 4 1
     simp only [cns]
     refine putAct (off := 4) (wv := .int .i64 ((j + 1 : Nat) : Int)) (a' := { xa.1 with at_ := ((j + 1 : Nat) : Int) }) h7 hget (by simp only [evs, evb, hd1]; rw [hav]) (by simp only [evs, evb, hwj]) rfl (by omega) rfl (fun ces hce => ?_) fun K8 h8 => ?_
     ·obtain ⟨rfl, r1, r2, r3, r4, r5⟩ := actM_iff.1 hce
      exact actM_iff.2 ⟨by simp only [evs, evb]; rfl, r1, r2, r3, by show InI ((j + 1 : Nat) : Int); unfold InI; omega, r5⟩
     obtain ⟨s8, hs8⟩ : ∃ s8 : MS, s8 = { s7 with A := s7.A.set ws.length ({ xa.1 with at_ := ((j + 1 : Nat) : Int) }, xa.2) } := ⟨_, rfl⟩
     rw [← hs8] at h8
     have hlt : ws.length < s7.A.length := by omega
     have hg8 : s8.A[ws.length]? = some ({ xa.1 with at_ := ((j + 1 : Nat) : Int) }, xa.2) := by rw [hs8]; simp [hlt]
     have hx8 : s8.x = { s7.x with acts := ws ++ [{ a with at_ := a.at_ + 1 }] } := by
      rw [hs8]; unfold MS.x
      have : (s7.A.set ws.length ({ xa.1 with at_ := ((j + 1 : Nat) : Int) }, xa.2)).map actX' = ws ++ [{ a with at_ := a.at_ + 1 }] := by
       have hll : l'.length = ws.length := by rw [← hws]; simp
       rw [hl', ← hll, List.set_append_right _ _ (Nat.le_refl _), Nat.sub_self, List.set_cons_zero, List.map_append, hws, ← hxa]
       simp only [List.map_cons, List.map_nil, actX']
       rw [e3, hj]; rfl
      simp only [this]
     obtain ⟨v1, v2, v3, _⟩ := mach_act h8 hg8
     rw [show s8.av = .slice ab s7.A.length ac by rw [hs8]; exact hav] at v3
     refine ⟨[.int .i64 ((j + 1 : Nat) : Int)], rfl, ?_, fun _ => ?_, [txt x.op, .int .i64 x.to, .slice arb x.args.length arc, .int .i64 x.const.kind, .int .i64 x.const.int, txt x.const.text, .slice dvb x.const.list.length dvc, .int .i64 x.num], rfl, ?_, ?_⟩
     ·simp only [evs, evb, hd1]; exact rowAt_sub v3 4 1
     ·simp only [Chk.holds, evs, evb, hwj2]; exact ⟨w1, by omega, by omega⟩
     ·simp only [evs, evb, hwj2]; exact rowAt_le h8.sh w3
     simp only [cns]
     have hro8 : RunOk c (2 + 2 * k) s8.x := by
      rw [hx8]
      refine ⟨hro.core.same rfl rfl hro.core.on, ⟨by have := hro.acts.an; rw [hA] at this; simpa using this, fun b hb => ?_⟩, by simp, fun b hb => ?_⟩
      ·rcases List.mem_append.1 (show b ∈ ws ++ [_] from hb) with hb | hb
       ·exact hro.acts.acts b (by rw [hA]; exact List.mem_append_left _ hb)
       ·rw [List.mem_singleton.1 hb]
        exact ⟨haok.proc, haok.regs, haok.clo0, haok.clo, haok.blk, by show 0 ≤ a.at_ + 1; omega, by rw [hB]; show a.at_ + 1 ≤ ((B.ins.length : Nat) : Int); omega⟩
      ·have : b ∈ ws := by simpa using hb
       exact hro.wait b (by rw [hA]; simpa using this)
     have hxok := (gp.ins B hbm).2 x (List.mem_of_getElem? hx)
     have hA8 : s8.x.acts = ws ++ [{ a with at_ := a.at_ + 1 }] := by rw [hx8]
     refine den_call cb_scrimshawref15_Machine__do (do15_tri h8 (by rw [hs8]; exact f7) g hro8 (by omega) hA8 (by rw [hx8]; exact he0) (CsR.le (PH.le_refl _) w2') (insOk_good hxok) (insOk_few g hxok)) ?_
     rintro e9 K9 ⟨S9, s9, l9, h9, f9, hx9, rfl⟩
     refine ⟨_, [], rfl, rfl, rfl, pendNil, ?_⟩
     have hst9 : s9.x = s7.x.step constK c := by rw [hx9, hx8, hstep]
     refine ⟨_, lookup_hit, m - 1, by omega, k + 1, S9, s9, by omega, ?_, PH.le_trans l7 l9, h9, f9, ?_, ?_⟩
     ·simp only [evs, evb, up1 (by omega : k < 4611686018427387904)]
     ·rw [hst9]
      have := step_ok (K := constK) g hro he0 hd0
      rw [show 2 + 2 * (k + 1) = 2 + 2 * k + 2 from by omega]; exact this
     ·rw [hgo, hgs', hst9]
    ·simp only [evs, evb, decide_eq_false_iff_not] at g5
     have hxj : B.ins[a.at_.toNat]? = none := List.getElem?_eq_none (by omega)
     rw [hxj] at hstep
     simp only at hstep
     simp only [cns]
     refine den_call cb_scrimshawref15_Machine__end (end15_tri h7 f7 hcS g hro (by omega) hA i2' (finOk_good (gp.fin B hbm))) ?_
     rintro e9 K9 ⟨S9, s9, l9, h9, f9, hx9, rfl⟩
     refine ⟨_, [], rfl, rfl, rfl, pendNil, ?_⟩
     have hst9 : s9.x = s7.x.step constK c := by rw [hx9, hstep]
     refine ⟨_, lookup_hit, m - 1, by omega, k + 1, S9, s9, by omega, ?_, PH.le_trans l7 l9, h9, f9, ?_, ?_⟩
     ·simp only [evs, evb, up1 (by omega : k < 4611686018427387904)]
     ·rw [hst9]
      have := step_ok (K := constK) g hro he0 hd0
      rw [show 2 + 2 * (k + 1) = 2 + 2 * k + 2 from by omega]; exact this
     ·rw [hgo, hgs', hst9]
  ·simp only [evs, evb] at g3
   simp only [Bool.and_eq_false_iff, decide_eq_false_iff_not, Bool.not_eq_false'] at g3
   rw [if_pos (show s7.x.e ≠ 0 ∨ s7.x.done = true from g3)] at hgs
   exact ⟨_, (lookup_miss (by decide)).trans lookup_hit, S7, s7, l7, h7, f7, by rw [hgo, hgs], by rw [hgo, hgs]; rfl, fin7.1, fin7.2⟩
 rintro vs K _ ⟨S7, s7, l7, h7, f7, hx7, rfl, hh7, ho7⟩
 generalize hG : MX.go constK c N F 0 = G at *
 obtain ⟨mE, nE⟩ := G
 simp only at hx7 hr0 ⊢
 simp only [cns]
 have r13 : rowAt K (some ⟨mr, 13, none⟩) [.int .i64 s7.e] := mach_bx h7 rfl
 have r5 : rowAt K (some ⟨mr, 5, none⟩) [s7.ov] := mach_bx h7 rfl
 have r1 : rowAt K (some ⟨mr, 1, none⟩) [pAt hr] := mach_bx h7 rfl
 have r9 : rowAt K (some ⟨mr, 9, none⟩) [.int .i64 s7.t.kind, .int .i64 s7.t.int, txt s7.t.text] := mach_bx h7 rfl
 have rO : SlR K s7.out s7.ov := ((h7.perm permO).row (List.mem_cons_self ..)).slR h7.sh
 have rH := mach_heap h7
 obtain ⟨ob, oc, hov⟩ := mach_osl h7
 rw [hov] at r5 rO
 have hHK : PH.le H K := PH.le_trans l1 (PH.le_trans l7 h7.sh)
 have hK : Held K K [] := Held.nil (PH.le_refl _)
 have eE : mE.e = s7.e := by rw [← hx7]; rfl
 have eO : mE.out = s7.out := by rw [← hx7]; rfl
 have eH : mE.h = hpX s7.L := by rw [← hx7]; rfl
 have eT : mE.told = s7.t := by rw [← hx7]; rfl
 have hOK : HeapOk (hpX s7.L) := hh7
 clear h7
 refine ⟨fun vs K' => ∃ r, vs = [pAt r] ∧ Held K K' [bx r 49 [.int .i64 s7.e, txt s7.out, .int .i64 0, .int .i64 0, txt [], .slice none 0 0, .bool false, nI nE]], ?_, ?_⟩
 rotate_left
 ·refine ⟨fun _ => by simp [Chk.holds, evs, evb], [.int .i64 s7.e], rfl, by simp only [evs, evb]; exact r13, [.slice ob s7.out.length oc], rfl, by simp only [evs, evb]; exact r5, ?_, ?_⟩
  ·refine den_bytesText uBytes uString uByte (by kernel_rfl) rO (pendOne (by simp only [evs, evb]; exact r13)) ?_
   simp only [cns]
   refine den_bxNew (vs := [.int .i64 0, txt [], .int .i64 0, .int .i64 0, txt [], .slice none 0 0, .bool false, .int .i64 0]) hK (by simp only [List.map_cons, List.map_nil, evs, evb]; rfl) fun r K8 l8 h8 => ?_
   simp only [cns]
   refine den_bxStore (off := 0) (vs := [.int .i64 s7.e, txt s7.out, .int .i64 0, .int .i64 0, txt [], .slice none 0 0, .bool false, nI nE]) (by simp only [evs, evb]) h8 (by simp only [List.map_cons, List.map_nil, evs, evb]; rfl) (by
    intro u hu
    simp only [List.mem_cons, List.not_mem_nil, or_false] at hu
    rcases hu with rfl | rfl | rfl | rfl | rfl | rfl | rfl | rfl <;> rfl) (by simp) fun K9 h9 => ?_
   exact ⟨_, lookup_hit, r, rfl, h9⟩
  ·refine den_bxNew (vs := [.int .i64 0, txt [], .int .i64 0, .int .i64 0, txt [], .slice none 0 0, .bool false, .int .i64 0]) hK (by simp only [List.map_cons, List.map_nil, evs, evb]; rfl) fun r K8 l8 h8 => ?_
   simp only [cns]
   refine den_bytesText uBytes uString uByte (by kernel_rfl) (rO.le l8) (pendOne (by simp only [evs, evb]; exact rowAt_le l8 r13)) ?_
   simp only [cns]
   refine den_bxStore (off := 0) (vs := [.int .i64 s7.e, txt s7.out, .int .i64 0, .int .i64 0, txt [], .slice none 0 0, .bool false, nI nE]) (by simp only [evs, evb]) h8 (by simp only [List.map_cons, List.map_nil, evs, evb]; rfl) (by
    intro u hu
    simp only [List.mem_cons, List.not_mem_nil, or_false] at hu
    rcases hu with rfl | rfl | rfl | rfl | rfl | rfl | rfl | rfl <;> rfl) (by simp) fun K9 h9 => ?_
   exact ⟨_, lookup_hit, r, rfl, h9⟩
 rintro vs K2 _ ⟨r, rfl, h8⟩
 simp only [cns]
 refine ⟨fun vs K' => vs = [] ∧ ∃ (S8 : PH) (dk dn : Int) (dt : List UInt8) (dv : Value), PH.le K S8 ∧ Held S8 K' [bx r 49 [.int .i64 s7.e, txt s7.out, .int .i64 dk, .int .i64 dn, txt dt, dv, .bool (endX mE nE).whole, nI nE]] ∧ (endX mE nE).shown.Rep S8 [.int .i64 dk, .int .i64 dn, txt dt, dv], ?_, fun _ => by simp [Chk.holds, evs, evb], [.int .i64 s7.e], rfl, by simp only [evs, evb]; exact rowAt_le h8.sh r13, fun g3 => ?_, fun g3 => ?_⟩
 rotate_left
 ·simp only [evs, evb, decide_eq_true_eq] at g3
  refine ⟨[pAt hr], rfl, by simp only [evs, evb]; exact rowAt_le h8.sh r1, [.int .i64 s7.t.kind, .int .i64 s7.t.int, txt s7.t.text], rfl, by simp only [evs, evb]; exact rowAt_le h8.sh r9, ?_⟩
  simp only [cns]
  have hw : (endX mE nE).whole = (tellV (hpX s7.L) s7.t).2 := by unfold endX; simp only; rw [if_pos (eE.trans g3), eH, eT]
  have hs : (endX mE nE).shown = (tellV (hpX s7.L) s7.t).1 := by unfold endX; simp only; rw [if_pos (eE.trans g3), eH, eT]
  rw [hw, hs]
  generalize hTV : tellV (hpX s7.L) s7.t = TV
  have hcall := h8.pure (R := fun e S' => ∃ cs, e = .returned (.tuple #[.agg cs.toArray, .bool (tellV (hpX s7.L) s7.t).2]) ∧ (tellV (hpX s7.L) s7.t).1.Rep S' cs) (Tell8_tri (hpX s7.L) hr hOK s7.t f7.2 K rH)
  rw [hTV] at hcall
  refine den_call cb_scrimshawref08_Heap__Tell hcall ?_
  rintro e9 K9 ⟨S9, l9, h9, cs, rfl, hd⟩
  obtain ⟨d, okk⟩ := TV
  obtain ⟨sv, rfl, d1, d2, d3, d4⟩ := Dat.Rep_iff.1 hd
  obtain ⟨sb, sc, rfl⟩ := SlR.sl d4
  refine ⟨_, [.int .i64 d.kind, .int .i64 d.int, txt d.text, .slice sb d.list.length sc, .bool okk], rfl, rfl, rfl, pendNil, fun _ => by simp [Chk.holds, evs, evb], ?_⟩
  simp only [cns]
  refine den_bxStore (off := 2) (vs := [.int .i64 d.kind, .int .i64 d.int, txt d.text, .slice sb d.list.length sc]) (by simp only [evs, evb]; rfl) h9 (by simp only [List.map_cons, List.map_nil, evs, evb]) (by
    intro u hu
    simp only [List.mem_cons, List.not_mem_nil, or_false] at hu
    rcases hu with rfl | rfl | rfl | rfl <;> rfl) (by simp) fun K10 h10 => ?_
  refine den_bxStore (off := 6) (vs := [.bool okk]) (by simp only [evs, evb]; rfl) h10 (by simp only [List.map_cons, List.map_nil, evs, evb]) (by
    intro u hu
    rw [List.mem_singleton.1 hu]; rfl) (by simp) fun K11 h11 => ?_
  exact ⟨_, lookup_hit, rfl, S9, d.kind, d.int, d.text, _, l9, h11, hd⟩
 ·simp only [evs, evb, decide_eq_false_iff_not] at g3
  have hw : (endX mE nE).whole = false := by unfold endX; simp only; rw [if_neg (by rw [eE]; exact g3)]
  have hs : (endX mE nE).shown = dat0 := by unfold endX; simp only; rw [if_neg (by rw [eE]; exact g3)]
  rw [hw, hs]
  exact ⟨_, lookup_hit, rfl, K, 0, 0, [], .slice none 0 0, PH.le_refl _, h8, leaf_rep (k := 0) (n := 0) (t := []) (by decide) (by decide) (by decide)⟩
 rintro vs K3 _ ⟨rfl, S8, dk, dn, dt, dv, l8, h9, hd⟩
 obtain ⟨dvv, e1, d1, d2, d3, d4⟩ := Dat.Rep_iff.1 hd
 obtain ⟨sb, sc, hdv⟩ := SlR.sl d4
 have hdv' : dv = .slice sb (endX mE nE).shown.list.length sc := by
  have : dv = dvv := by simpa using congrArg (fun l : List Value => l.getD 3 (.bool false)) e1
  rw [this, hdv]
 simp only [List.append_nil]
 refine den_bxLoad (off := 0) [.int .i64 s7.e, txt s7.out, .int .i64 dk, .int .i64 dn, txt dt, dv, .bool (endX mE nE).whole, nI nE] (by simp only [evs, evb]) h9 (List.mem_cons_self ..) rfl (by rw [hdv']; rfl) ?_
 simp only [cns]
 refine ⟨PH.le_trans hHK (PH.le_trans l8 h9.sh), _, rfl, ?_⟩
 rw [hN, hr0]
 refine ⟨[.int .i64 dk, .int .i64 dn, txt dt, dv], ?_, Dat.Rep.le h9.sh _ hd⟩
 have e1 : (endX mE nE).err = s7.e := eE
 have e2 : (endX mE nE).out = s7.out := eO
 rw [e1, e2]
 rfl
end Go.Proofs.Ytcfgpbmcgmkmhaa.Vc
/-
 LivingIdle: endings alike; an array's places; the plain law joined.
-/
namespace Go.Proofs.Ytcfgpbmcgmkmhaa.Vc
open Go

theorem Alike_gives (o q : OutX) (os qs : List Value) (H : PH) (ho : o.Rep H os) (hq : q.Rep H qs) (hx : o.err = q.err ∧ o.out = q.out ∧ o.whole = q.whole ∧ o.shown = q.shown) : Gives Try.prog n_scrimshawref09_Alike [.agg os.toArray, .agg qs.toArray] H (.bool true) := by
 obtain ⟨ds, rfl, hd⟩ := ho
 obtain ⟨es, rfl, he⟩ := hq
 have hd' := hd
 have he' := he
 obtain ⟨sv, rfl, _, _, _, hs⟩ := Dat.Rep_iff.1 hd
 obtain ⟨sw, rfl, _, _, _, hw⟩ := Dat.Rep_iff.1 he
 obtain ⟨b1, c1, rfl⟩ := hs.sl
 obtain ⟨b2, c2, rfl⟩ := hw.sl
 obtain ⟨h1, h2, h3, h4⟩ := hx
 refine tri_scrimshawref09_Alike [.int .i64 o.err, txt o.out, .int .i64 o.shown.kind, .int .i64 o.shown.int, txt o.shown.text, .slice b1 o.shown.list.length c1, .bool o.whole, nI o.steps, .int .i64 q.err, txt q.out, .int .i64 q.shown.kind, .int .i64 q.shown.int, txt q.shown.text, .slice b2 q.shown.list.length c2, .bool q.whole, nI q.steps] (by kernel_rfl) (by kernel_rfl) ?_
 refine ⟨fun vs K => vs = [.bool true] ∧ PH.le H K, ?_, fun g => ?_, fun g => ?_⟩
 ·rintro vs K _ ⟨rfl, l⟩; exact ⟨rfl, l⟩
 ·refine den_gives [.bool (decide (o.shown = q.shown))] cb_scrimshawref02_Same (Same_gives o.shown q.shown _ _ H hd' he') rfl pendNil fun H1 l1 => ⟨_, lookup_hit, ?_, l1⟩
  simp [evs, evb, h4]
 ·exfalso
  simp only [evs, evb, txt_eql, h1, h2, h3] at g
  simp at g
/-- an array's place -/
theorem exec_indexAddr {P : Program} {Φ : Next → PH → Prop} {Ψ : Value → PH → Prop} {H : PH} {ρ : Operand → Value} {T ty : TypeId} {x y : Operand} : wpS P (execOp ρ (bare (.indexAddr T x y) ty)) Φ Ψ H = wpS P (Instr.indexAt T (ρ x) (ρ y)) (fun v H' => Φ (.value v) H') Ψ H := by
 simp only [execOp, bare, wpS_bind', wpS_pure]
theorem den_indexP {P : Program} {X : List PanicEntry → PH → Prop} {β : Type} {E : List Value} {H : PH} {L : LK} {K : β → List Value → PH → LK → Prop} {T ty e : TypeId} {n : Nat} {x y : Operand} {args : List (Nat × VE)} {pend : List (SV × List SV)} {k : Fm β} {kk : IntKind} {i : Int} {r : Nat}
  (hT : P.underlying T = some (.array n e)) (hiz : (P.info? e).map (·.size) = some 1) (hx : argEv E args x = pAt r) (hy : argEv E args y = .int kk i) (hi : 0 ≤ i ∧ i < n) (hp : pendOk E H pend)
  (hk : den P X k (E ++ [.pointer (some ⟨r, i.toNat, none⟩)]) H L K) : den P X (.sem (.indexAddr T x y) ty args (.sc .ptr) pend k) E H L K := by
 obtain ⟨inf, hi2, hz⟩ := Option.map_eq_some_iff.1 hiz
 show wpS P (execOp (argEv E args) (bare _ ty)) _ _ H
 rw [exec_indexAddr, hx, hy]
 unfold Instr.indexAt asIntOf
 simp only [wpS_bind', wpS_pure, wpS_underlying hT]
 unfold Instr.sureAddr
 simp only [wpS_bind', wpS_pure]
 rw [if_pos hi]
 simp only [wpS_bind', wpS_pure, wpS_sizeOf hi2, hz, Addr.add_plain, Nat.zero_add, Nat.mul_one]
 exact ⟨[_], rfl, rfl, hp, hk⟩
theorem pendCons {E : List Value} {H : PH} {p : SV} {ss : List SV} {pend : List (SV × List SV)} (h : rowAt H (pOf (ev0 E p)) (ss.map (ev0 E))) (t : pendOk E H pend) : pendOk E H ((p, ss) :: pend) := fun x hx => by
 rcases List.mem_cons.1 hx with rfl | hx
 ·exact h
 ·exact t x hx
theorem uAt3 : Try.prog.underlying 25 = some (.array 3 3) := by kernel_rfl
theorem zInt1 : (Try.prog.info? 3).map (·.size) = some 1 := by kernel_rfl
theorem uProcsK : Try.prog.underlying 22 = some (.slice 36) := by kernel_rfl
theorem elemProcK : ElemOk Try.prog 36 4 48 = true := by kernel_rfl
theorem uBlocksK : Try.prog.underlying 34 = some (.slice 47) := by kernel_rfl
theorem elemBlockK : ElemOk Try.prog 47 7 88 = true := by kernel_rfl

/-! ### the plain law -/
theorem go_end {K : Dat → VX} {c : CodeX} {fuel : Nat} {m : MX} {n : Nat} (h : m.e ≠ 0 ∨ m.done = true) : MX.go K c fuel m n = (m, n) := by rw [go_eq, if_pos h]
theorem end_alike {m m' : MX} (h : TermX m m') (n n' : Nat) : (endX m n).err = (endX m' n').err ∧ (endX m n).out = (endX m' n').out ∧ (endX m n).whole = (endX m' n').whole ∧ (endX m n).shown = (endX m' n').shown := by
 obtain ⟨h1, h2, h3⟩ := h
 refine ⟨h1, h2, ?_, ?_⟩
 ·unfold endX
  simp only
  rw [← h1]
  split
  ·rename_i he
   obtain ⟨e1, e2⟩ := h3 he
   rw [e1, e2]
  ·rfl
 ·unfold endX
  simp only
  rw [← h1]
  split
  ·rename_i he
   obtain ⟨e1, e2⟩ := h3 he
   rw [e1, e2]
  ·rfl
theorem idle_run {c : CodeX} {i bi : Nat} {p : PrcX} {bl : BlkX} {t : Int} {d : Dat} (hc : checkX c = 0) (hp : c[i]? = some p) (hb : p.blocks[bi]? = some bl) (ht : 0 ≤ t) (hidle : ¬ LiveAt p t bi 0) (hc2 : checkX (idleC c i bi p bl t d) = 0) (input : List UInt8) (he : (runX c input 1000).err ≠ 93) (hs : (runX c input 1000).steps ≤ 1000) :
  let a := runX c input 1000
  let b := runX (idleC c i bi p bl t d) input (2 * (a.steps : Int) + 2)
  a.err = b.err ∧ a.out = b.out ∧ a.whole = b.whole ∧ a.shown = b.shown := by
 have ha : runX c input 1000 = endX (MX.go constK c 1000 (MX.first c input) 0).1 (MX.go constK c 1000 (MX.first c input) 0).2 := by
  unfold runX
  rw [if_neg (by omega), if_neg (fun h => h hc)]; rfl
 have hb2 : ∀ k : Nat, k ≤ 1000 → runX (idleC c i bi p bl t d) input (2 * (k : Int) + 2) = endX (MX.go constK (idleC c i bi p bl t d) (2 * k + 2) (MX.first (idleC c i bi p bl t d) input) 0).1 (MX.go constK (idleC c i bi p bl t d) (2 * k + 2) (MX.first (idleC c i bi p bl t d) input) 0).2 := fun k hk => by
  unfold runX
  rw [if_neg (by omega), if_neg (fun h => h hc2)]
  rw [show (2 * (k : Int) + 2).toNat = 2 * k + 2 from by omega]
 have hbb := hb2 _ hs
 simp only
 rw [hbb]
 rw [ha] at he ⊢
 have hst : (endX (MX.go constK c 1000 (MX.first c input) 0).1 (MX.go constK c 1000 (MX.first c input) 0).2).steps = (MX.go constK c 1000 (MX.first c input) 0).2 := rfl
 rw [hst]
 refine end_alike ?_ _ _
 rcases idle_first (bi := bi) (bl := bl) (t := t) (d := d) hp input with h | h
 ·rw [go_end h.1, go_end h.2.1]; exact h.2.2
 ·exact idle_go (checkX_good hc).ok hp hb ht hidle 1000 _ _ 0 0 _ h he (by omega)
theorem go_steps (K : Dat → VX) (c : CodeX) : ∀ (fuel : Nat) (m : MX) (n : Nat), (MX.go K c fuel m n).2 ≤ n + fuel
 | 0, m, n => by rw [go_eq]; split <;> exact Nat.le_refl _
 | fuel + 1, m, n => by
  rw [go_eq]
  split
  ·show n ≤ _; omega
  ·have := go_steps K c fuel (m.step K c) (n + 1)
   simp only; omega
theorem run_steps (c : CodeX) (input : List UInt8) : (runX c input 1000).steps ≤ 1000 := by
 unfold runX
 rw [if_neg (by omega)]
 split
 ·exact Nat.zero_le _
 ·have := go_steps constK c 1000 (MX.first c input) 0
  show (MX.go constK c (1000 : Int).toNat (MX.first c input) 0).2 ≤ 1000
  exact Nat.le_trans this (by omega)
end Go.Proofs.Ytcfgpbmcgmkmhaa.Vc
/-
 LivingIdle: the walk of the law's function.
-/
namespace Go.Proofs.Ytcfgpbmcgmkmhaa.Vc
open Go

/-! ### sizes of a code that may be -/
theorem blk_regs {c : CodeX} (g : GoodC c) {p : PrcX} {b : BlkX} (hi : ∀ x ∈ b.ins, insOk c p x = true) (hf : finOk p b.e = true) : b.regs.length ≤ 1000 * b.many := by
 have h1 : ∀ l : List InsX, (∀ x ∈ l, insOk c p x = true) → (l.flatMap (·.args)).length ≤ 1000 * l.length := by
  intro l
  induction l with
  | nil => intro _; simp
  | cons x l ih =>
   intro h
   have := insOk_few g (h x (List.mem_cons_self ..))
   have := ih fun y hy => h y (List.mem_cons_of_mem _ hy)
   simp only [List.flatMap_cons, List.length_append, List.length_cons]; omega
 have h2 := h1 b.ins hi
 have h3 := (finOk_good hf).few
 unfold BlkX.regs BlkX.many EndX.regs
 rw [List.length_append, List.length_append]
 have h4 : (if b.e.reads b.e.reg = true then [b.e.reg] else []).length ≤ 1 := by split <;> simp
 have h5 : (if b.e.kind = 3 ∨ b.e.kind = 4 then b.e.args else []).length ≤ b.e.args.length := by split <;> simp
 omega
theorem flat_le {α : Type} (f : α → List Int) (m : α → Nat) : ∀ l : List α, (∀ a ∈ l, (f a).length ≤ 1000 * m a) → (l.flatMap f).length ≤ 1000 * (l.map m).sum
 | [], _ => by simp
 | a :: l, h => by
  have h1 := h a (List.mem_cons_self ..)
  have h2 := flat_le f m l fun b hb => h b (List.mem_cons_of_mem _ hb)
  simp only [List.flatMap_cons, List.length_append, List.map_cons, List.sum_cons]; omega
theorem GoodC.fit {c : CodeX} (g : GoodC c) {p : PrcX} (hp : p ∈ c) : p.Fit ∧ ∀ b ∈ p.blocks, b.e.args.length ≤ 20000000 := by
 have gp := g.prc hp
 refine ⟨⟨by have := gp.blocks; omega, fun b hb => by have := (gp.ins b hb).1; omega, ?_⟩, fun b hb => by have := (finOk_good (gp.fin b hb)).few; omega⟩
 have h1 := flat_le BlkX.regs BlkX.many p.blocks fun b hb => blk_regs g (gp.ins b hb).2 (gp.fin b hb)
 have h2 := many_prc hp
 have h3 := g.many
 unfold PrcX.many at h2
 unfold PrcX.regl
 omega
set_option maxHeartbeats 4000000 in
theorem LivingIdle_law (c : CodeX) (cv : Value) (a0 a1 a2 : Int) (d : Dat) (dcs : List Value) (input : List UInt8) (H : PH) (hc : SlR H c cv) (i0 : InI a0) (i1 : InI a1) (i2 : InI a2) (hd : d.Rep H dcs) :
  Gives Try.prog 3 [.agg ([cv, .int .i64 a0, .int .i64 a1, .int .i64 a2] ++ dcs ++ [txt input]).toArray] H (.bool true) := by
 obtain ⟨cb, cc, hcv⟩ := hc.sl
 obtain ⟨dv, rfl, dk, dn, dt, dl⟩ := Dat.Rep_iff.1 hd
 obtain ⟨db, dc, rfl⟩ := SlR.sl dl
 have hmx : maxLen = 9223372036854775807 := rfl
 have hcm := hc.max
 subst hcv
 refine tri_scrimshawlaw17_LivingIdle [.slice cb c.length cc, .int .i64 a0, .int .i64 a1, .int .i64 a2, .int .i64 d.kind, .int .i64 d.int, txt d.text, .slice db d.list.length dc, txt input] (rfl) (by kernel_rfl) ?_
 refine ⟨fun vs K => ∃ rc rt rd, vs = [pAt rc, pAt rt, pAt rd, txt input] ∧ Held H K [bx rc 24 [.slice cb c.length cc], bx rt 25 [.int .i64 a0, .int .i64 a1, .int .i64 a2], bx rd 28 [.int .i64 d.kind, .int .i64 d.int, txt d.text, .slice db d.list.length dc]], ?_, ?_⟩
 rotate_left
 ·have h0 : Held H H [] := Held.nil (PH.le_refl _)
  refine ⟨?_, ?_⟩
  ·refine den_bxNew (vs := [.slice none 0 0]) h0 (by simp only [List.map_cons, List.map_nil, evs, evb]; rfl) fun rc K1 l1 h1 => ?_
   simp only [cns]
   refine ⟨?_, ?_⟩
   ·refine den_bxNew (vs := [.int .i64 0, .int .i64 0, .int .i64 0]) h1 (by simp only [List.map_cons, List.map_nil, evs, evb]) fun rt K2 l2 h2 => ?_
    simp only [cns]
    refine den_bxNew (vs := [.int .i64 0, .int .i64 0, txt [], .slice none 0 0]) h2 (by simp only [List.map_cons, List.map_nil, evs, evb]; rfl) fun rd K3 l3 h3 => ?_
    simp only [cns]
    refine den_bxStore (off := 0) (vs := [.slice cb c.length cc]) (by simp only [evs, evb]) (h3.third) (by simp only [List.map_cons, List.map_nil, evs, evb]) (by intro u hu; rw [List.mem_singleton.1 hu]; rfl) (by simp) fun K4 h4 => ?_
    refine den_bxStore (off := 0) (vs := [.int .i64 a0, .int .i64 a1, .int .i64 a2]) (by simp only [evs, evb]) (h4.third) (by simp only [List.map_cons, List.map_nil, evs, evb]) (by intro u hu; simp only [List.mem_cons, List.not_mem_nil, or_false] at hu; rcases hu with rfl | rfl | rfl <;> rfl) (by simp) fun K5 h5 => ?_
    refine den_bxStore (off := 0) (vs := [.int .i64 d.kind, .int .i64 d.int, txt d.text, .slice db d.list.length dc]) (by simp only [evs, evb]) (h5.third) (by simp only [List.map_cons, List.map_nil, evs, evb]) (by intro u hu; simp only [List.mem_cons, List.not_mem_nil, or_false] at hu; rcases hu with rfl | rfl | rfl | rfl <;> rfl) (by simp) fun K6 h6 => ?_
    exact ⟨_, lookup_hit, rc, rt, rd, rfl, h6.swap.third⟩
   ·refine den_bxNew (vs := [.int .i64 0, .int .i64 0, txt [], .slice none 0 0]) h1 (by simp only [List.map_cons, List.map_nil, evs, evb]; rfl) fun rd K2 l2 h2 => ?_
    simp only [cns]
    refine den_bxNew (vs := [.int .i64 0, .int .i64 0, .int .i64 0]) h2 (by simp only [List.map_cons, List.map_nil, evs, evb]) fun rt K3 l3 h3 => ?_
    simp only [cns]
    refine den_bxStore (off := 0) (vs := [.slice cb c.length cc]) (by simp only [evs, evb]) (h3.third) (by simp only [List.map_cons, List.map_nil, evs, evb]) (by intro u hu; rw [List.mem_singleton.1 hu]; rfl) (by simp) fun K4 h4 => ?_
    refine den_bxStore (off := 0) (vs := [.int .i64 a0, .int .i64 a1, .int .i64 a2]) (by simp only [evs, evb]) (h4.swap) (by simp only [List.map_cons, List.map_nil, evs, evb]) (by intro u hu; simp only [List.mem_cons, List.not_mem_nil, or_false] at hu; rcases hu with rfl | rfl | rfl <;> rfl) (by simp) fun K5 h5 => ?_
    refine den_bxStore (off := 0) (vs := [.int .i64 d.kind, .int .i64 d.int, txt d.text, .slice db d.list.length dc]) (by simp only [evs, evb]) (h5.third) (by simp only [List.map_cons, List.map_nil, evs, evb]) (by intro u hu; simp only [List.mem_cons, List.not_mem_nil, or_false] at hu; rcases hu with rfl | rfl | rfl | rfl <;> rfl) (by simp) fun K6 h6 => ?_
    exact ⟨_, lookup_hit, rc, rt, rd, rfl, h6.swap.third⟩
  ·refine ⟨?_, ?_⟩
   ·refine den_bxNew (vs := [.int .i64 0, .int .i64 0, .int .i64 0]) h0 (by simp only [List.map_cons, List.map_nil, evs, evb]) fun rt K1 l1 h1 => ?_
    simp only [cns]
    refine ⟨?_, ?_⟩
    ·refine den_bxNew (vs := [.slice none 0 0]) h1 (by simp only [List.map_cons, List.map_nil, evs, evb]; rfl) fun rc K2 l2 h2 => ?_
     simp only [cns]
     refine den_bxNew (vs := [.int .i64 0, .int .i64 0, txt [], .slice none 0 0]) h2 (by simp only [List.map_cons, List.map_nil, evs, evb]; rfl) fun rd K3 l3 h3 => ?_
     simp only [cns]
     refine den_bxStore (off := 0) (vs := [.slice cb c.length cc]) (by simp only [evs, evb]) (h3.swap) (by simp only [List.map_cons, List.map_nil, evs, evb]) (by intro u hu; rw [List.mem_singleton.1 hu]; rfl) (by simp) fun K4 h4 => ?_
     refine den_bxStore (off := 0) (vs := [.int .i64 a0, .int .i64 a1, .int .i64 a2]) (by simp only [evs, evb]) (h4.third) (by simp only [List.map_cons, List.map_nil, evs, evb]) (by intro u hu; simp only [List.mem_cons, List.not_mem_nil, or_false] at hu; rcases hu with rfl | rfl | rfl <;> rfl) (by simp) fun K5 h5 => ?_
     refine den_bxStore (off := 0) (vs := [.int .i64 d.kind, .int .i64 d.int, txt d.text, .slice db d.list.length dc]) (by simp only [evs, evb]) (h5.third) (by simp only [List.map_cons, List.map_nil, evs, evb]) (by intro u hu; simp only [List.mem_cons, List.not_mem_nil, or_false] at hu; rcases hu with rfl | rfl | rfl | rfl <;> rfl) (by simp) fun K6 h6 => ?_
     exact ⟨_, lookup_hit, rc, rt, rd, rfl, h6.swap.third⟩
    ·refine den_bxNew (vs := [.int .i64 0, .int .i64 0, txt [], .slice none 0 0]) h1 (by simp only [List.map_cons, List.map_nil, evs, evb]; rfl) fun rd K2 l2 h2 => ?_
     simp only [cns]
     refine den_bxNew (vs := [.slice none 0 0]) h2 (by simp only [List.map_cons, List.map_nil, evs, evb]; rfl) fun rc K3 l3 h3 => ?_
     simp only [cns]
     refine den_bxStore (off := 0) (vs := [.slice cb c.length cc]) (by simp only [evs, evb]) (h3) (by simp only [List.map_cons, List.map_nil, evs, evb]) (by intro u hu; rw [List.mem_singleton.1 hu]; rfl) (by simp) fun K4 h4 => ?_
     refine den_bxStore (off := 0) (vs := [.int .i64 a0, .int .i64 a1, .int .i64 a2]) (by simp only [evs, evb]) (h4.third) (by simp only [List.map_cons, List.map_nil, evs, evb]) (by intro u hu; simp only [List.mem_cons, List.not_mem_nil, or_false] at hu; rcases hu with rfl | rfl | rfl <;> rfl) (by simp) fun K5 h5 => ?_
     refine den_bxStore (off := 0) (vs := [.int .i64 d.kind, .int .i64 d.int, txt d.text, .slice db d.list.length dc]) (by simp only [evs, evb]) (h5.third) (by simp only [List.map_cons, List.map_nil, evs, evb]) (by intro u hu; simp only [List.mem_cons, List.not_mem_nil, or_false] at hu; rcases hu with rfl | rfl | rfl | rfl <;> rfl) (by simp) fun K6 h6 => ?_
     exact ⟨_, lookup_hit, rc, rt, rd, rfl, h6.swap.third⟩
   ·refine den_bxNew (vs := [.int .i64 0, .int .i64 0, txt [], .slice none 0 0]) h0 (by simp only [List.map_cons, List.map_nil, evs, evb]; rfl) fun rd K1 l1 h1 => ?_
    simp only [cns]
    refine ⟨?_, ?_⟩
    ·refine den_bxNew (vs := [.slice none 0 0]) h1 (by simp only [List.map_cons, List.map_nil, evs, evb]; rfl) fun rc K2 l2 h2 => ?_
     simp only [cns]
     refine den_bxNew (vs := [.int .i64 0, .int .i64 0, .int .i64 0]) h2 (by simp only [List.map_cons, List.map_nil, evs, evb]) fun rt K3 l3 h3 => ?_
     simp only [cns]
     refine den_bxStore (off := 0) (vs := [.slice cb c.length cc]) (by simp only [evs, evb]) (h3.swap) (by simp only [List.map_cons, List.map_nil, evs, evb]) (by intro u hu; rw [List.mem_singleton.1 hu]; rfl) (by simp) fun K4 h4 => ?_
     refine den_bxStore (off := 0) (vs := [.int .i64 a0, .int .i64 a1, .int .i64 a2]) (by simp only [evs, evb]) (h4.swap) (by simp only [List.map_cons, List.map_nil, evs, evb]) (by intro u hu; simp only [List.mem_cons, List.not_mem_nil, or_false] at hu; rcases hu with rfl | rfl | rfl <;> rfl) (by simp) fun K5 h5 => ?_
     refine den_bxStore (off := 0) (vs := [.int .i64 d.kind, .int .i64 d.int, txt d.text, .slice db d.list.length dc]) (by simp only [evs, evb]) (h5.third) (by simp only [List.map_cons, List.map_nil, evs, evb]) (by intro u hu; simp only [List.mem_cons, List.not_mem_nil, or_false] at hu; rcases hu with rfl | rfl | rfl | rfl <;> rfl) (by simp) fun K6 h6 => ?_
     exact ⟨_, lookup_hit, rc, rt, rd, rfl, h6.swap.third⟩
    ·refine den_bxNew (vs := [.int .i64 0, .int .i64 0, .int .i64 0]) h1 (by simp only [List.map_cons, List.map_nil, evs, evb]) fun rt K2 l2 h2 => ?_
     simp only [cns]
     refine den_bxNew (vs := [.slice none 0 0]) h2 (by simp only [List.map_cons, List.map_nil, evs, evb]; rfl) fun rc K3 l3 h3 => ?_
     simp only [cns]
     refine den_bxStore (off := 0) (vs := [.slice cb c.length cc]) (by simp only [evs, evb]) (h3) (by simp only [List.map_cons, List.map_nil, evs, evb]) (by intro u hu; rw [List.mem_singleton.1 hu]; rfl) (by simp) fun K4 h4 => ?_
     refine den_bxStore (off := 0) (vs := [.int .i64 a0, .int .i64 a1, .int .i64 a2]) (by simp only [evs, evb]) (h4.swap) (by simp only [List.map_cons, List.map_nil, evs, evb]) (by intro u hu; simp only [List.mem_cons, List.not_mem_nil, or_false] at hu; rcases hu with rfl | rfl | rfl <;> rfl) (by simp) fun K5 h5 => ?_
     refine den_bxStore (off := 0) (vs := [.int .i64 d.kind, .int .i64 d.int, txt d.text, .slice db d.list.length dc]) (by simp only [evs, evb]) (h5.third) (by simp only [List.map_cons, List.map_nil, evs, evb]) (by intro u hu; simp only [List.mem_cons, List.not_mem_nil, or_false] at hu; rcases hu with rfl | rfl | rfl | rfl <;> rfl) (by simp) fun K6 h6 => ?_
     exact ⟨_, lookup_hit, rc, rt, rd, rfl, h6.swap.third⟩
 rintro vs S _ ⟨rc, rt, rd, rfl, hS⟩
 simp only [cns]
 have lHS := hS.sh
 have fC : rowAt S (some ⟨rc, 0, none⟩) [.slice cb c.length cc] := bx_row hS (List.mem_cons_self ..) 0 1
 have fA0 : rowAt S (some ⟨rt, 0, none⟩) [.int .i64 a0] := bx_row hS (List.mem_cons_of_mem _ (List.mem_cons_self ..)) 0 1
 have fA1 : rowAt S (some ⟨rt, 1, none⟩) [.int .i64 a1] := bx_row hS (List.mem_cons_of_mem _ (List.mem_cons_self ..)) 1 1
 have fA2 : rowAt S (some ⟨rt, 2, none⟩) [.int .i64 a2] := bx_row hS (List.mem_cons_of_mem _ (List.mem_cons_self ..)) 2 1
 have fD : rowAt S (some ⟨rd, 0, none⟩) [.int .i64 d.kind, .int .i64 d.int, txt d.text, .slice db d.list.length dc] := bx_row hS (List.mem_cons_of_mem _ (List.mem_cons_of_mem _ (List.mem_cons_self ..))) 0 4
 have hcS := hc.le lHS
 have hdS := Dat.Rep.le lHS d hd
 clear hS
 refine ⟨fun vs K => vs = [.bool (decide (checkX c ≠ 0 ∨ a0 < 0 ∨ (c.length : Int) ≤ a0))] ∧ PH.le S K, ?_, ?_⟩
 rotate_left
 ·refine den_gives [.bool true] cb_scrimshawlaw17_fixed (Fixed17_gives S) rfl pendNil fun K1 l1 => ⟨fun g => by simp [evs, evb] at g, fun _ => ?_⟩
  refine ⟨[.slice cb c.length cc], rfl, by simp only [evs, evb]; exact rowAt_le l1 fC, ?_⟩
  simp only [cns]
  refine den_gives [.int .i64 (checkX c)] cb_scrimshawref15_Check (Check15_gives c _ K1 (hcS.le l1)) rfl pendNil fun K2 l2 => ⟨fun g => ?_, fun g => ?_⟩
  ·simp only [evs, evb, ne_eq, decide_not, Bool.not_eq_true', decide_eq_false_iff_not] at g
   exact ⟨_, lookup_hit, by simp [evs, evb, g], PH.le_trans l1 l2⟩
  simp only [evs, evb, ne_eq, decide_not, Bool.not_eq_false', decide_eq_true_eq] at g
  have l12 := PH.le_trans l1 l2
  simp only [cns]
  refine den_indexP (r := rt) uAt3 zInt1 (by kernel_rfl) rfl (by decide) pendNil ?_
  simp only [cns]
  refine ⟨[.int .i64 a0], rfl, by simp only [evs, evb]; exact rowAt_le l12 fA0, fun g2 => ?_, fun g2 => ?_⟩
  ·simp only [evs, evb, decide_eq_true_eq] at g2
   exact ⟨_, lookup_hit, by simp [evs, evb, g2], l12⟩
  simp only [evs, evb, decide_eq_false_iff_not] at g2
  simp only [cns]
  refine den_indexP (r := rt) uAt3 zInt1 (by kernel_rfl) rfl (by decide) pendNil ?_
  simp only [cns]
  refine ⟨[.int .i64 a0], rfl, by simp only [evs, evb]; exact rowAt_le l12 fA0, fun _ => by simp [Chk.holds, evs, evb], [.slice cb c.length cc], rfl, by simp only [evs, evb]; exact rowAt_le l12 fC, _, lookup_hit, ?_, l12⟩
  simp [evs, evb, g, g2]
 rintro vs K1 _ ⟨rfl, l1⟩
 simp only [cns]
 refine ⟨fun g => ?_, fun g => ?_⟩
 ·exact den_gives [.bool true] cb_scrimshawlaw17_fixed (Fixed17_gives K1) rfl pendNil fun K2 l2 => ⟨rfl, PH.le_trans lHS (PH.le_trans l1 l2)⟩
 simp only [evs, evb, decide_eq_false_iff_not, not_or, ne_eq, Decidable.not_not] at g
 obtain ⟨hck, hn0, hn1⟩ := g
 have gc := checkX_good hck
 obtain ⟨hpm, hpg⟩ := prcAt_mem (c := c) (i := a0) (by omega) (by omega)
 have hp0 : c[a0.toNat]? = some (prcAt c a0) := hpg
 have ha0 : ((a0.toNat : Nat) : Int) = a0 := Int.toNat_of_nonneg (by omega)
 obtain ⟨x1, _, pcs, x2, x3⟩ := hcS.get hpg
 obtain ⟨bv, rfl, p1, p2, p3, p4⟩ := prc_iff.1 x2
 obtain ⟨bb, bc, rfl⟩ := p4.sl
 rw [ha0] at x3
 have gp := gc.prc hpm
 obtain ⟨hfit, hfitE⟩ := gc.fit hpm
 generalize hp : prcAt c a0 = p at *
 have hlK := PH.le_trans lHS l1
 refine ⟨fun _ => by simp [Chk.holds, evs, evb], [.slice cb c.length cc], rfl, by simp only [evs, evb]; exact rowAt_le l1 fC, ?_⟩
 simp only [cns]
 refine den_indexP (r := rt) uAt3 zInt1 (by kernel_rfl) rfl (by decide) pendNil ?_
 simp only [cns]
 refine ⟨[.int .i64 a0], rfl, by simp only [evs, evb]; exact rowAt_le l1 fA0, fun _ => ?_, [.int .i64 p.params, .int .i64 p.holds, .int .i64 p.regs, .slice bb p.blocks.length bc], rfl, by simp only [evs, evb]; exact rowAt_le l1 x3, ?_⟩
 ·simp only [Chk.holds, evs, evb]; exact ⟨x1, by omega, by omega⟩
 simp only [cns]
 refine ⟨fun vs K => vs = [.bool (decide (a1 < 0 ∨ (p.blocks.length : Int) ≤ a1 ∨ a2 < 0 ∨ p.regs ≤ a2))] ∧ K1 = K, ?_, ?_⟩
 rotate_left
 ·refine den_indexP (r := rt) uAt3 zInt1 (by kernel_rfl) rfl (by decide) pendNil ?_
  simp only [cns]
  refine ⟨[.int .i64 a1], rfl, by simp only [evs, evb]; exact rowAt_le l1 fA1, fun g2 => ?_, fun g2 => ?_⟩
  ·simp only [evs, evb, decide_eq_true_eq] at g2
   exact ⟨_, lookup_hit, by simp [evs, evb, g2], rfl⟩
  simp only [evs, evb, decide_eq_false_iff_not] at g2
  simp only [cns]
  refine den_indexP (r := rt) uAt3 zInt1 (by kernel_rfl) rfl (by decide) pendNil ?_
  simp only [cns]
  refine ⟨[.int .i64 a1], rfl, by simp only [evs, evb]; exact rowAt_le l1 fA1, fun g3 => ?_, fun g3 => ?_⟩
  ·simp only [evs, evb, decide_eq_true_eq] at g3
   exact ⟨_, lookup_hit, by simp [evs, evb, g3], rfl⟩
  simp only [evs, evb, decide_eq_false_iff_not] at g3
  simp only [cns]
  refine den_indexP (r := rt) uAt3 zInt1 (by kernel_rfl) rfl (by decide) pendNil ?_
  simp only [cns]
  refine ⟨[.int .i64 a2], rfl, by simp only [evs, evb]; exact rowAt_le l1 fA2, fun g4 => ?_, fun g4 => ?_⟩
  ·simp only [evs, evb, decide_eq_true_eq] at g4
   exact ⟨_, lookup_hit, by simp [evs, evb, g4], rfl⟩
  simp only [evs, evb, decide_eq_false_iff_not] at g4
  simp only [cns]
  refine den_indexP (r := rt) uAt3 zInt1 (by kernel_rfl) rfl (by decide) pendNil ?_
  simp only [cns]
  refine ⟨[.int .i64 a2], rfl, by simp only [evs, evb]; exact rowAt_le l1 fA2, _, lookup_hit, ?_, rfl⟩
  have g3' : ¬ ((p.blocks.length : Int) ≤ a1) := g3
  simp [evs, evb, g2, g3', g4]
 rintro vs K _ ⟨rfl, rfl⟩
 simp only [cns]
 refine ⟨fun g2 => ⟨rfl, hlK⟩, fun g2 => ?_⟩
 simp only [evs, evb, decide_eq_false_iff_not, not_or] at g2
 obtain ⟨n1, n2, n3, n4⟩ := g2
 refine den_call cb_live_In (LIn_tri p (.slice bb p.blocks.length bc) K1 (p4.le l1) hfit hfitE) ?_
 rintro e2 K2 ⟨l2, lv, rfl, hlv⟩
 obtain ⟨lb, lc, rfl⟩ := hlv.sl
 have hlvl := inL_len p
 rw [hlvl] at hlv
 refine ⟨_, [.slice lb p.blocks.length lc], by rw [hlvl]; rfl, rfl, rfl, pendNil, ?_⟩
 simp only [cns]
 have l12 := PH.le_trans l1 l2
 refine ⟨fun g3 => by simp [evs, evb] at g3, fun _ => ?_⟩
 obtain ⟨bi, hbi⟩ : ∃ bi : Nat, a1 = (bi : Int) := ⟨a1.toNat, by omega⟩
 have hlg := inL_get (p := p) (i := bi) (by omega)
 obtain ⟨q1, _, qcs, q2, q3⟩ := hlv.get hlg
 obtain ⟨tv, rfl, hts⟩ := csLK q2
 obtain ⟨tb, tc, rfl⟩ := hts.sl
 refine ⟨fun vs K => vs = [.bool (decide (a2 ∈ liveL p bi 0))] ∧ PH.le K2 K, ?_, ?_, ?_⟩
 rotate_left
 ·refine den_indexP (r := rt) uAt3 zInt1 (by kernel_rfl) rfl (by decide) pendNil ?_
  simp only [cns]
  refine ⟨[.int .i64 a1], rfl, by simp only [evs, evb]; exact rowAt_le l12 fA1, fun _ => ?_, [.slice tb (liveL p bi 0).length tc], rfl, ?_, ?_⟩
  ·simp only [Chk.holds, evs, evb]; exact ⟨q1, by omega, by omega⟩
  ·simp only [evs, evb, hbi]; exact q3
  simp only [cns]
  refine den_indexP (r := rt) uAt3 zInt1 (by kernel_rfl) rfl (by decide) (pendCons (by simp only [evs, evb, hbi]; exact q3) (pendCons (by simp only [evs, evb]; exact rowAt_le l12 fA1) pendNil)) ?_
  simp only [cns]
  refine ⟨[.int .i64 a2], rfl, by simp only [evs, evb]; exact rowAt_le l12 fA2, ?_⟩
  simp only [cns]
  exact den_gives [.bool (decide (a2 ∈ liveL p bi 0))] cb_scrimshawref17_Has (Has17_gives (liveL p bi 0) a2 _ K2 hts) rfl pendNil fun K3 l3 => ⟨_, lookup_hit, rfl, l3⟩
 ·refine den_indexP (r := rt) uAt3 zInt1 (by kernel_rfl) rfl (by decide) pendNil ?_
  simp only [cns]
  refine ⟨[.int .i64 a2], rfl, by simp only [evs, evb]; exact rowAt_le l12 fA2, ?_⟩
  simp only [cns]
  refine den_indexP (r := rt) uAt3 zInt1 (by kernel_rfl) rfl (by decide) (pendCons (by simp only [evs, evb]; exact rowAt_le l12 fA2) pendNil) ?_
  simp only [cns]
  refine ⟨[.int .i64 a1], rfl, by simp only [evs, evb]; exact rowAt_le l12 fA1, fun _ => ?_, [.slice tb (liveL p bi 0).length tc], rfl, ?_, ?_⟩
  ·simp only [Chk.holds, evs, evb]; exact ⟨q1, by omega, by omega⟩
  ·simp only [evs, evb, hbi]; exact q3
  simp only [cns]
  exact den_gives [.bool (decide (a2 ∈ liveL p bi 0))] cb_scrimshawref17_Has (Has17_gives (liveL p bi 0) a2 _ K2 hts) rfl pendNil fun K3 l3 => ⟨_, lookup_hit, rfl, l3⟩
 rintro vs K3 _ ⟨rfl, l3⟩
 simp only [cns]
 have l13 := PH.le_trans l12 l3
 refine ⟨fun g3 => ⟨rfl, PH.le_trans lHS l13⟩, fun g3 => ?_⟩
 simp only [evs, evb, decide_eq_false_iff_not] at g3
 rw [liveL_mem] at g3
 -- the function with another block
 have h0 : Held K3 K3 [] := Held.nil (PH.le_refl _)
 refine ⟨fun vs K => ∃ rq qb qc, vs = [pAt rq] ∧ Held K3 K [orow 47 p.blocks (.slice qb p.blocks.length qc), bx rq 36 [.int .i64 p.params, .int .i64 p.holds, .int .i64 p.regs, .slice qb p.blocks.length qc]], ?_, ?_⟩
 rotate_left
 ·have hbS := p4.le l13
  have hbn := gp.blocks
  have one4 : ∀ {v : Value}, (∃ b c, v = .slice b p.blocks.length c) → ∀ u ∈ [Value.int .i64 p.params, .int .i64 p.holds, .int .i64 p.regs, v], oneC u = true := by
   rintro v ⟨b, c, rfl⟩ u hu
   simp only [List.mem_cons, List.not_mem_nil, or_false] at hu
   rcases hu with rfl | rfl | rfl | rfl <;> rfl
  refine ⟨?_, ?_⟩
  ·refine den_hLit0 (α := BlkX) (b := 88) uBlocksK elemBlockK h0 pendNil fun v K4 h4 _ _ => ?_
   simp only [cns]
   refine ⟨?_, ?_⟩
   ·refine den_hApp (b := 88) (more := p.blocks) uBlocksK elemBlockK (by kernel_rfl) (by kernel_rfl) h4 (hbS.srcS h4.sh) (by simp only [maxLen, List.length_nil]; omega) (by simp only [List.length_nil]; omega) fun w K5 h5 _ => ⟨pendNil, ?_⟩
    rw [List.nil_append] at h5
    obtain ⟨qb, qc, rfl⟩ := (h5.row (List.mem_cons_self ..)).sl
    simp only [cns]
    refine den_bxNew (vs := [.int .i64 0, .int .i64 0, .int .i64 0, .slice none 0 0]) h5 (by simp only [List.map_cons, List.map_nil, evs, evb]; rfl) fun rq K6 l6 h6 => ?_
    simp only [cns]
    refine den_bxStore (off := 0) (vs := [.int .i64 p.params, .int .i64 p.holds, .int .i64 p.regs, .slice qb p.blocks.length qc]) (by simp only [evs, evb]) h6 (by simp only [List.map_cons, List.map_nil, evs, evb]) (one4 ⟨_, _, rfl⟩) (by simp) fun K7 h7 => ?_
    exact ⟨_, lookup_hit, rq, qb, qc, rfl, h7.swap⟩
   ·refine den_bxNew (vs := [.int .i64 0, .int .i64 0, .int .i64 0, .slice none 0 0]) h4 (by simp only [List.map_cons, List.map_nil, evs, evb]; rfl) fun rq K5 l5 h5 => ?_
    simp only [cns]
    refine den_hApp (b := 88) (more := p.blocks) uBlocksK elemBlockK (by kernel_rfl) (by kernel_rfl) h5.swap (hbS.srcS h5.sh) (by simp only [maxLen, List.length_nil]; omega) (by simp only [List.length_nil]; omega) fun w K6 h6 _ => ⟨pendNil, ?_⟩
    rw [List.nil_append] at h6
    obtain ⟨qb, qc, rfl⟩ := (h6.row (List.mem_cons_self ..)).sl
    simp only [cns]
    refine den_bxStore (off := 0) (vs := [.int .i64 p.params, .int .i64 p.holds, .int .i64 p.regs, .slice qb p.blocks.length qc]) (by simp only [evs, evb]) h6.swap (by simp only [List.map_cons, List.map_nil, evs, evb]) (one4 ⟨_, _, rfl⟩) (by simp) fun K7 h7 => ?_
    exact ⟨_, lookup_hit, rq, qb, qc, rfl, h7.swap⟩
  ·refine den_bxNew (vs := [.int .i64 0, .int .i64 0, .int .i64 0, .slice none 0 0]) h0 (by simp only [List.map_cons, List.map_nil, evs, evb]; rfl) fun rq K4 l4 h4 => ?_
   simp only [cns]
   refine den_hLit0 (α := BlkX) (b := 88) uBlocksK elemBlockK h4 pendNil fun v K5 h5 _ _ => ?_
   simp only [cns]
   refine den_hApp (b := 88) (more := p.blocks) uBlocksK elemBlockK (by kernel_rfl) (by kernel_rfl) h5 (hbS.srcS h5.sh) (by simp only [maxLen, List.length_nil]; omega) (by simp only [List.length_nil]; omega) fun w K6 h6 _ => ⟨pendNil, ?_⟩
   rw [List.nil_append] at h6
   obtain ⟨qb, qc, rfl⟩ := (h6.row (List.mem_cons_self ..)).sl
   simp only [cns]
   refine den_bxStore (off := 0) (vs := [.int .i64 p.params, .int .i64 p.holds, .int .i64 p.regs, .slice qb p.blocks.length qc]) (by simp only [evs, evb]) h6.swap (by simp only [List.map_cons, List.map_nil, evs, evb]) (one4 ⟨_, _, rfl⟩) (by simp) fun K7 h7 => ?_
   exact ⟨_, lookup_hit, rq, qb, qc, rfl, h7.swap⟩
 rintro vs K12 _ ⟨rq, qb, qc, rfl, h12⟩
 simp only [cns]
 have fC := rowAt_le l13 fC
 have fA0 := rowAt_le l13 fA0
 have fA1 := rowAt_le l13 fA1
 have fA2 := rowAt_le l13 fA2
 have fD := rowAt_le l13 fD
 have hc3 := hcS.le l13
 have hd3 := Dat.Rep.le l13 d hdS
 obtain ⟨bl, hbl⟩ : ∃ bl, p.blocks[bi]? = some bl := ⟨_, List.getElem?_eq_getElem (by omega)⟩
 have hblm := List.mem_of_getElem? hbl
 have hbil := (gp.ins bl hblm).1
 have hbn := gp.blocks
 obtain ⟨y1, _, ycs, y2, y3⟩ := (p4.le l13).get hbl
 obtain ⟨iv, es, rfl, hins, hend⟩ := blk_iff.1 y2
 obtain ⟨ib, ic, rfl⟩ := hins.sl
 have hsome : bb.isSome = true := y1
 have fI : rowAt K3 ((pOf (eltV (.slice bb p.blocks.length bc) a1 7)).map (·.add 0)) [.slice ib bl.ins.length ic] := by rw [hbi]; exact rowAt_sub y3 0 1
 obtain ⟨hqs, _⟩ := ((h12.row (List.mem_cons_self ..)).slR h12.sh).get hbl
 have fB : ∀ {S' K' : PH} {I : List Itm}, Held S' K' I → bx rq 36 [.int .i64 p.params, .int .i64 p.holds, .int .i64 p.regs, .slice qb p.blocks.length qc] ∈ I → rowAt K' (some ⟨rq, 3, none⟩) [.slice qb p.blocks.length qc] := fun h hi => bx_row h hi 3 1
 have hdl3 : SlR K3 d.list (.slice db d.list.length dc) := by
  obtain ⟨dv', e, _, _, _, h⟩ := Dat.Rep_iff.1 hd3
  have : Value.slice db d.list.length dc = dv' := by simpa using congrArg (fun l : List Value => l.getD 3 (.bool false)) e
  rw [this]; exact h
 have hcins : CsR K3 (⟨constB, a2, [], d, 0⟩ : InsX) [txt [99, 111, 110, 115, 116], .int .i64 a2, .slice none 0 0, .int .i64 d.kind, .int .i64 d.int, txt d.text, .slice db d.list.length dc, .int .i64 0] :=
  ins_iff.2 ⟨_, _, rfl, by simp [constB, maxLen], i2, SlR.mk_iff.2 ⟨Nat.zero_le _, .inl ⟨rfl, rfl⟩⟩, dk, dn, dt, hdl3, (by decide : InI 0)⟩
 obtain ⟨J13, hJ13⟩ : ∃ J13 : List Value → PH → Prop, J13 = fun vs K => vs = [] ∧ ∃ S', PH.le K3 S' ∧ Held S' K [orow 47 (p.blocks.set bi (idleB a2 d bl)) (.slice qb p.blocks.length qc), bx rq 36 [.int .i64 p.params, .int .i64 p.holds, .int .i64 p.regs, .slice qb p.blocks.length qc]] := ⟨_, rfl⟩
 have store13 : ∀ {X : List PanicEntry → PH → Prop} {E : List Value} {L : LK} {Q : VE → List Value → PH → LK → Prop} {pp ww : SV} {K : PH} {w : Value}, pOf (ev0 E pp) = (pOf (eltV (.slice qb p.blocks.length qc) (bi : Int) 7)).map (·.add 0) → ev0 E ww = w →
   Held K3 K (orow 43 ([⟨constB, a2, [], d, 0⟩] ++ bl.ins) w :: [orow 47 p.blocks (.slice qb p.blocks.length qc), bx rq 36 [.int .i64 p.params, .int .i64 p.holds, .int .i64 p.regs, .slice qb p.blocks.length qc]]) → L.lookup 13 = some J13 → den Try.prog X (.store pp [ww] (.next 13 [])) E K L Q := by
  intro X E L Q pp ww K w hp hw h hL
  obtain ⟨S', s1, ls, h1⟩ := h.freeze
  obtain ⟨wb, wc, hwv⟩ := s1.sl
  refine den_hPut (i := bi) (off := 0) (a := bl) (a' := idleB a2 d bl) (us := [w]) hp h1 hbl (by show 0 + 1 ≤ 7; omega) (by simp only [List.map_cons, List.map_nil, hw]) (by
   intro u hu
   rw [List.mem_singleton.1 hu, hwv]; rfl) (fun ces hce => ?_) fun K' h2 => ?_
  ·obtain ⟨iv', es', rfl, _, he'⟩ := blk_iff.1 hce
   exact blk_iff.2 ⟨w, es', rfl, s1, he'⟩
  ·exact ⟨J13, hL, by rw [hJ13]; exact ⟨rfl, S', ls, h2⟩⟩
 refine ⟨J13, ?_, ?_⟩
 rotate_left
 ·refine ⟨fun _ => by simp [Chk.holds, evs, evb], ?_⟩
  refine ⟨[.slice qb p.blocks.length qc], rfl, fB h12 (.tail _ (.head _)), ?_⟩
  refine ⟨[.int .i64 d.kind, .int .i64 d.int, txt d.text, .slice db d.list.length dc], rfl, rowAt_le h12.sh fD, ?_⟩
  simp only [cns]
  refine ⟨?_, ?_⟩
  ·refine den_indexP (r := rt) uAt3 zInt1 (by kernel_rfl) rfl (by decide) (pendCons (rowAt_le h12.sh fD) (pendCons (fB h12 (.tail _ (.head _))) pendNil)) ?_
   simp only [cns]
   refine ⟨[.int .i64 a1], rfl, rowAt_le h12.sh fA1, ?_⟩
   simp only [cns]
   refine ⟨?_, ?_⟩
   ·refine den_indexP (r := rt) uAt3 zInt1 (by kernel_rfl) rfl (by decide) (pendCons (rowAt_le h12.sh (fA1)) (pendCons (rowAt_le h12.sh fD) (pendCons (fB h12 (.tail _ (.head _))) pendNil))) ?_
    simp only [cns]
    refine ⟨[.int .i64 a2], rfl, rowAt_le h12.sh fA2, ?_⟩
    simp only [cns]
    refine ⟨?_, ?_⟩
    ·refine den_hLit (α := InsX) (l := [⟨constB, a2, [], d, 0⟩]) (b := 112) [.agg #[txt [99, 111, 110, 115, 116], .int .i64 a2, .slice none 0 0, .int .i64 d.kind, .int .i64 d.int, txt d.text, .slice db d.list.length dc, .int .i64 0]] uInssK elemInsK rfl (by decide) (by decide) h12 (by kernel_rfl) (.cons hcins .nil) (pendCons (rowAt_le h12.sh (fA1)) (pendCons (fB h12 (.tail _ (.head _))) pendNil)) fun u K13 h13 _ _ => ?_
     simp only [cns]
     refine den_indexP (r := rt) uAt3 zInt1 (by kernel_rfl) rfl (by decide) (pendCons (rowAt_le h13.sh (fA1)) (pendCons (fB h13 (.tail _ (.tail _ (.head _)))) pendNil)) ?_
     simp only [cns]
     refine ⟨[.int .i64 a1], rfl, rowAt_le h13.sh fA1, ?_⟩
     simp only [cns]
     refine ⟨fun _ => by simp only [Chk.holds, evs, evb]; exact ⟨hsome, by omega, by omega⟩, ?_⟩
     refine ⟨[.slice ib bl.ins.length ic], rfl, rowAt_le h13.sh fI, ?_⟩
     simp only [cns]
     refine den_hApp (b := 112) (more := bl.ins) uInssK elemInsK (by kernel_rfl) (by kernel_rfl) h13 (hins.srcS h13.sh) (by simp only [maxLen, List.length_cons, List.length_nil]; omega) (by simp only [List.length_cons, List.length_nil]; omega) fun w K14 h14 _ => ⟨(pendCons (rowAt_le h14.sh (fA1)) (pendCons (fB h14 (.tail _ (.tail _ (.head _)))) pendNil)), ?_⟩
     simp only [cns]
     refine ⟨fun _ => by simp only [Chk.holds, evs, evb]; exact ⟨hqs, by omega, by omega⟩, ?_⟩
     exact store13 (by simp only [evs, evb, hbi]) (by simp only [evs, evb]) h14 lookup_hit
    ·refine den_indexP (r := rt) uAt3 zInt1 (by kernel_rfl) rfl (by decide) (pendCons (rowAt_le h12.sh (fA2)) (pendCons (rowAt_le h12.sh (fA1)) (pendCons (rowAt_le h12.sh fD) (pendCons (fB h12 (.tail _ (.head _))) pendNil)))) ?_
     simp only [cns]
     refine ⟨[.int .i64 a1], rfl, rowAt_le h12.sh fA1, ?_⟩
     simp only [cns]
     refine ⟨fun _ => by simp only [Chk.holds, evs, evb]; exact ⟨hsome, by omega, by omega⟩, ?_⟩
     refine ⟨[.slice ib bl.ins.length ic], rfl, rowAt_le h12.sh fI, ?_⟩
     simp only [cns]
     refine den_hLit (α := InsX) (l := [⟨constB, a2, [], d, 0⟩]) (b := 112) [.agg #[txt [99, 111, 110, 115, 116], .int .i64 a2, .slice none 0 0, .int .i64 d.kind, .int .i64 d.int, txt d.text, .slice db d.list.length dc, .int .i64 0]] uInssK elemInsK rfl (by decide) (by decide) h12 (by kernel_rfl) (.cons hcins .nil) (pendCons (rowAt_le h12.sh fI) (pendCons (rowAt_le h12.sh (fA1)) (pendCons (rowAt_le h12.sh (fA1)) (pendCons (fB h12 (.tail _ (.head _))) pendNil)))) fun u K13 h13 _ _ => ?_
     simp only [cns]
     refine den_hApp (b := 112) (more := bl.ins) uInssK elemInsK (by kernel_rfl) (by kernel_rfl) h13 (hins.srcS h13.sh) (by simp only [maxLen, List.length_cons, List.length_nil]; omega) (by simp only [List.length_cons, List.length_nil]; omega) fun w K14 h14 _ => ⟨(pendCons (rowAt_le h14.sh (fA1)) (pendCons (fB h14 (.tail _ (.tail _ (.head _)))) pendNil)), ?_⟩
     simp only [cns]
     refine ⟨fun _ => by simp only [Chk.holds, evs, evb]; exact ⟨hqs, by omega, by omega⟩, ?_⟩
     exact store13 (by simp only [evs, evb, hbi]) (by simp only [evs, evb]) h14 lookup_hit
   ·refine den_indexP (r := rt) uAt3 zInt1 (by kernel_rfl) rfl (by decide) (pendCons (rowAt_le h12.sh (fA1)) (pendCons (rowAt_le h12.sh fD) (pendCons (fB h12 (.tail _ (.head _))) pendNil))) ?_
    simp only [cns]
    refine ⟨[.int .i64 a1], rfl, rowAt_le h12.sh fA1, ?_⟩
    simp only [cns]
    refine ⟨fun _ => by simp only [Chk.holds, evs, evb]; exact ⟨hsome, by omega, by omega⟩, ?_⟩
    refine ⟨[.slice ib bl.ins.length ic], rfl, rowAt_le h12.sh fI, ?_⟩
    simp only [cns]
    refine den_indexP (r := rt) uAt3 zInt1 (by kernel_rfl) rfl (by decide) (pendCons (rowAt_le h12.sh fI) (pendCons (rowAt_le h12.sh (fA1)) (pendCons (rowAt_le h12.sh (fA1)) (pendCons (rowAt_le h12.sh fD) (pendCons (fB h12 (.tail _ (.head _))) pendNil))))) ?_
    simp only [cns]
    refine ⟨[.int .i64 a2], rfl, rowAt_le h12.sh fA2, ?_⟩
    simp only [cns]
    refine den_hLit (α := InsX) (l := [⟨constB, a2, [], d, 0⟩]) (b := 112) [.agg #[txt [99, 111, 110, 115, 116], .int .i64 a2, .slice none 0 0, .int .i64 d.kind, .int .i64 d.int, txt d.text, .slice db d.list.length dc, .int .i64 0]] uInssK elemInsK rfl (by decide) (by decide) h12 (by kernel_rfl) (.cons hcins .nil) (pendCons (rowAt_le h12.sh fI) (pendCons (rowAt_le h12.sh (fA1)) (pendCons (rowAt_le h12.sh (fA1)) (pendCons (fB h12 (.tail _ (.head _))) pendNil)))) fun u K13 h13 _ _ => ?_
    simp only [cns]
    refine den_hApp (b := 112) (more := bl.ins) uInssK elemInsK (by kernel_rfl) (by kernel_rfl) h13 (hins.srcS h13.sh) (by simp only [maxLen, List.length_cons, List.length_nil]; omega) (by simp only [List.length_cons, List.length_nil]; omega) fun w K14 h14 _ => ⟨(pendCons (rowAt_le h14.sh (fA1)) (pendCons (fB h14 (.tail _ (.tail _ (.head _)))) pendNil)), ?_⟩
    simp only [cns]
    refine ⟨fun _ => by simp only [Chk.holds, evs, evb]; exact ⟨hqs, by omega, by omega⟩, ?_⟩
    exact store13 (by simp only [evs, evb, hbi]) (by simp only [evs, evb]) h14 lookup_hit
  ·refine ⟨?_, ?_⟩
   ·refine den_indexP (r := rt) uAt3 zInt1 (by kernel_rfl) rfl (by decide) (pendCons (rowAt_le h12.sh fD) (pendCons (fB h12 (.tail _ (.head _))) pendNil)) ?_
    simp only [cns]
    refine ⟨[.int .i64 a2], rfl, rowAt_le h12.sh fA2, ?_⟩
    simp only [cns]
    refine ⟨?_, ?_⟩
    ·refine den_indexP (r := rt) uAt3 zInt1 (by kernel_rfl) rfl (by decide) (pendCons (rowAt_le h12.sh (fA2)) (pendCons (rowAt_le h12.sh fD) (pendCons (fB h12 (.tail _ (.head _))) pendNil))) ?_
     simp only [cns]
     refine ⟨[.int .i64 a1], rfl, rowAt_le h12.sh fA1, ?_⟩
     simp only [cns]
     refine ⟨?_, ?_⟩
     ·refine den_hLit (α := InsX) (l := [⟨constB, a2, [], d, 0⟩]) (b := 112) [.agg #[txt [99, 111, 110, 115, 116], .int .i64 a2, .slice none 0 0, .int .i64 d.kind, .int .i64 d.int, txt d.text, .slice db d.list.length dc, .int .i64 0]] uInssK elemInsK rfl (by decide) (by decide) h12 (by kernel_rfl) (.cons hcins .nil) (pendCons (rowAt_le h12.sh (fA1)) (pendCons (fB h12 (.tail _ (.head _))) pendNil)) fun u K13 h13 _ _ => ?_
      simp only [cns]
      refine den_indexP (r := rt) uAt3 zInt1 (by kernel_rfl) rfl (by decide) (pendCons (rowAt_le h13.sh (fA1)) (pendCons (fB h13 (.tail _ (.tail _ (.head _)))) pendNil)) ?_
      simp only [cns]
      refine ⟨[.int .i64 a1], rfl, rowAt_le h13.sh fA1, ?_⟩
      simp only [cns]
      refine ⟨fun _ => by simp only [Chk.holds, evs, evb]; exact ⟨hsome, by omega, by omega⟩, ?_⟩
      refine ⟨[.slice ib bl.ins.length ic], rfl, rowAt_le h13.sh fI, ?_⟩
      simp only [cns]
      refine den_hApp (b := 112) (more := bl.ins) uInssK elemInsK (by kernel_rfl) (by kernel_rfl) h13 (hins.srcS h13.sh) (by simp only [maxLen, List.length_cons, List.length_nil]; omega) (by simp only [List.length_cons, List.length_nil]; omega) fun w K14 h14 _ => ⟨(pendCons (rowAt_le h14.sh (fA1)) (pendCons (fB h14 (.tail _ (.tail _ (.head _)))) pendNil)), ?_⟩
      simp only [cns]
      refine ⟨fun _ => by simp only [Chk.holds, evs, evb]; exact ⟨hqs, by omega, by omega⟩, ?_⟩
      exact store13 (by simp only [evs, evb, hbi]) (by simp only [evs, evb]) h14 lookup_hit
     ·refine den_indexP (r := rt) uAt3 zInt1 (by kernel_rfl) rfl (by decide) (pendCons (rowAt_le h12.sh (fA1)) (pendCons (rowAt_le h12.sh (fA2)) (pendCons (rowAt_le h12.sh fD) (pendCons (fB h12 (.tail _ (.head _))) pendNil)))) ?_
      simp only [cns]
      refine ⟨[.int .i64 a1], rfl, rowAt_le h12.sh fA1, ?_⟩
      simp only [cns]
      refine ⟨fun _ => by simp only [Chk.holds, evs, evb]; exact ⟨hsome, by omega, by omega⟩, ?_⟩
      refine ⟨[.slice ib bl.ins.length ic], rfl, rowAt_le h12.sh fI, ?_⟩
      simp only [cns]
      refine den_hLit (α := InsX) (l := [⟨constB, a2, [], d, 0⟩]) (b := 112) [.agg #[txt [99, 111, 110, 115, 116], .int .i64 a2, .slice none 0 0, .int .i64 d.kind, .int .i64 d.int, txt d.text, .slice db d.list.length dc, .int .i64 0]] uInssK elemInsK rfl (by decide) (by decide) h12 (by kernel_rfl) (.cons hcins .nil) (pendCons (rowAt_le h12.sh fI) (pendCons (rowAt_le h12.sh (fA1)) (pendCons (rowAt_le h12.sh (fA1)) (pendCons (fB h12 (.tail _ (.head _))) pendNil)))) fun u K13 h13 _ _ => ?_
      simp only [cns]
      refine den_hApp (b := 112) (more := bl.ins) uInssK elemInsK (by kernel_rfl) (by kernel_rfl) h13 (hins.srcS h13.sh) (by simp only [maxLen, List.length_cons, List.length_nil]; omega) (by simp only [List.length_cons, List.length_nil]; omega) fun w K14 h14 _ => ⟨(pendCons (rowAt_le h14.sh (fA1)) (pendCons (fB h14 (.tail _ (.tail _ (.head _)))) pendNil)), ?_⟩
      simp only [cns]
      refine ⟨fun _ => by simp only [Chk.holds, evs, evb]; exact ⟨hqs, by omega, by omega⟩, ?_⟩
      exact store13 (by simp only [evs, evb, hbi]) (by simp only [evs, evb]) h14 lookup_hit
    ·refine ⟨?_, ?_⟩
     ·refine den_hLit (α := InsX) (l := [⟨constB, a2, [], d, 0⟩]) (b := 112) [.agg #[txt [99, 111, 110, 115, 116], .int .i64 a2, .slice none 0 0, .int .i64 d.kind, .int .i64 d.int, txt d.text, .slice db d.list.length dc, .int .i64 0]] uInssK elemInsK rfl (by decide) (by decide) h12 (by kernel_rfl) (.cons hcins .nil) (pendCons (fB h12 (.tail _ (.head _))) pendNil) fun u K13 h13 _ _ => ?_
      simp only [cns]
      refine ⟨?_, ?_⟩
      ·refine den_indexP (r := rt) uAt3 zInt1 (by kernel_rfl) rfl (by decide) (pendCons (fB h13 (.tail _ (.tail _ (.head _)))) pendNil) ?_
       simp only [cns]
       refine ⟨[.int .i64 a1], rfl, rowAt_le h13.sh fA1, ?_⟩
       simp only [cns]
       refine den_indexP (r := rt) uAt3 zInt1 (by kernel_rfl) rfl (by decide) (pendCons (rowAt_le h13.sh (fA1)) (pendCons (fB h13 (.tail _ (.tail _ (.head _)))) pendNil)) ?_
       simp only [cns]
       refine ⟨[.int .i64 a1], rfl, rowAt_le h13.sh fA1, ?_⟩
       simp only [cns]
       refine ⟨fun _ => by simp only [Chk.holds, evs, evb]; exact ⟨hsome, by omega, by omega⟩, ?_⟩
       refine ⟨[.slice ib bl.ins.length ic], rfl, rowAt_le h13.sh fI, ?_⟩
       simp only [cns]
       refine den_hApp (b := 112) (more := bl.ins) uInssK elemInsK (by kernel_rfl) (by kernel_rfl) h13 (hins.srcS h13.sh) (by simp only [maxLen, List.length_cons, List.length_nil]; omega) (by simp only [List.length_cons, List.length_nil]; omega) fun w K14 h14 _ => ⟨(pendCons (rowAt_le h14.sh (fA1)) (pendCons (fB h14 (.tail _ (.tail _ (.head _)))) pendNil)), ?_⟩
       simp only [cns]
       refine ⟨fun _ => by simp only [Chk.holds, evs, evb]; exact ⟨hqs, by omega, by omega⟩, ?_⟩
       exact store13 (by simp only [evs, evb, hbi]) (by simp only [evs, evb]) h14 lookup_hit
      ·refine den_indexP (r := rt) uAt3 zInt1 (by kernel_rfl) rfl (by decide) (pendCons (fB h13 (.tail _ (.tail _ (.head _)))) pendNil) ?_
       simp only [cns]
       refine ⟨[.int .i64 a1], rfl, rowAt_le h13.sh fA1, ?_⟩
       simp only [cns]
       refine ⟨fun _ => by simp only [Chk.holds, evs, evb]; exact ⟨hsome, by omega, by omega⟩, ?_⟩
       refine ⟨[.slice ib bl.ins.length ic], rfl, rowAt_le h13.sh fI, ?_⟩
       simp only [cns]
       refine ⟨?_, ?_⟩
       ·refine den_indexP (r := rt) uAt3 zInt1 (by kernel_rfl) rfl (by decide) (pendCons (rowAt_le h13.sh fI) (pendCons (rowAt_le h13.sh (fA1)) (pendCons (fB h13 (.tail _ (.tail _ (.head _)))) pendNil))) ?_
        simp only [cns]
        refine ⟨[.int .i64 a1], rfl, rowAt_le h13.sh fA1, ?_⟩
        simp only [cns]
        refine den_hApp (b := 112) (more := bl.ins) uInssK elemInsK (by kernel_rfl) (by kernel_rfl) h13 (hins.srcS h13.sh) (by simp only [maxLen, List.length_cons, List.length_nil]; omega) (by simp only [List.length_cons, List.length_nil]; omega) fun w K14 h14 _ => ⟨(pendCons (rowAt_le h14.sh (fA1)) (pendCons (fB h14 (.tail _ (.tail _ (.head _)))) pendNil)), ?_⟩
        simp only [cns]
        refine ⟨fun _ => by simp only [Chk.holds, evs, evb]; exact ⟨hqs, by omega, by omega⟩, ?_⟩
        exact store13 (by simp only [evs, evb, hbi]) (by simp only [evs, evb]) h14 lookup_hit
       ·refine den_hApp (b := 112) (more := bl.ins) uInssK elemInsK (by kernel_rfl) (by kernel_rfl) h13 (hins.srcS h13.sh) (by simp only [maxLen, List.length_cons, List.length_nil]; omega) (by simp only [List.length_cons, List.length_nil]; omega) fun w K14 h14 _ => ⟨(pendCons (fB h14 (.tail _ (.tail _ (.head _)))) pendNil), ?_⟩
        simp only [cns]
        refine den_indexP (r := rt) uAt3 zInt1 (by kernel_rfl) rfl (by decide) (pendCons (fB h14 (.tail _ (.tail _ (.head _)))) pendNil) ?_
        simp only [cns]
        refine ⟨[.int .i64 a1], rfl, rowAt_le h14.sh fA1, ?_⟩
        simp only [cns]
        refine ⟨fun _ => by simp only [Chk.holds, evs, evb]; exact ⟨hqs, by omega, by omega⟩, ?_⟩
        exact store13 (by simp only [evs, evb, hbi]) (by simp only [evs, evb]) h14 lookup_hit
     ·refine den_indexP (r := rt) uAt3 zInt1 (by kernel_rfl) rfl (by decide) (pendCons (rowAt_le h12.sh (fA2)) (pendCons (rowAt_le h12.sh fD) (pendCons (fB h12 (.tail _ (.head _))) pendNil))) ?_
      simp only [cns]
      refine ⟨[.int .i64 a1], rfl, rowAt_le h12.sh fA1, ?_⟩
      simp only [cns]
      refine ⟨fun _ => by simp only [Chk.holds, evs, evb]; exact ⟨hsome, by omega, by omega⟩, ?_⟩
      refine ⟨[.slice ib bl.ins.length ic], rfl, rowAt_le h12.sh fI, ?_⟩
      simp only [cns]
      refine ⟨?_, ?_⟩
      ·refine den_indexP (r := rt) uAt3 zInt1 (by kernel_rfl) rfl (by decide) (pendCons (rowAt_le h12.sh fI) (pendCons (rowAt_le h12.sh (fA1)) (pendCons (rowAt_le h12.sh (fA2)) (pendCons (rowAt_le h12.sh fD) (pendCons (fB h12 (.tail _ (.head _))) pendNil))))) ?_
       simp only [cns]
       refine ⟨[.int .i64 a1], rfl, rowAt_le h12.sh fA1, ?_⟩
       simp only [cns]
       refine den_hLit (α := InsX) (l := [⟨constB, a2, [], d, 0⟩]) (b := 112) [.agg #[txt [99, 111, 110, 115, 116], .int .i64 a2, .slice none 0 0, .int .i64 d.kind, .int .i64 d.int, txt d.text, .slice db d.list.length dc, .int .i64 0]] uInssK elemInsK rfl (by decide) (by decide) h12 (by kernel_rfl) (.cons hcins .nil) (pendCons (rowAt_le h12.sh (fA1)) (pendCons (rowAt_le h12.sh fI) (pendCons (rowAt_le h12.sh (fA1)) (pendCons (fB h12 (.tail _ (.head _))) pendNil)))) fun u K13 h13 _ _ => ?_
       simp only [cns]
       refine den_hApp (b := 112) (more := bl.ins) uInssK elemInsK (by kernel_rfl) (by kernel_rfl) h13 (hins.srcS h13.sh) (by simp only [maxLen, List.length_cons, List.length_nil]; omega) (by simp only [List.length_cons, List.length_nil]; omega) fun w K14 h14 _ => ⟨(pendCons (rowAt_le h14.sh (fA1)) (pendCons (fB h14 (.tail _ (.tail _ (.head _)))) pendNil)), ?_⟩
       simp only [cns]
       refine ⟨fun _ => by simp only [Chk.holds, evs, evb]; exact ⟨hqs, by omega, by omega⟩, ?_⟩
       exact store13 (by simp only [evs, evb, hbi]) (by simp only [evs, evb]) h14 lookup_hit
      ·refine den_hLit (α := InsX) (l := [⟨constB, a2, [], d, 0⟩]) (b := 112) [.agg #[txt [99, 111, 110, 115, 116], .int .i64 a2, .slice none 0 0, .int .i64 d.kind, .int .i64 d.int, txt d.text, .slice db d.list.length dc, .int .i64 0]] uInssK elemInsK rfl (by decide) (by decide) h12 (by kernel_rfl) (.cons hcins .nil) (pendCons (rowAt_le h12.sh fI) (pendCons (rowAt_le h12.sh (fA1)) (pendCons (fB h12 (.tail _ (.head _))) pendNil))) fun u K13 h13 _ _ => ?_
       simp only [cns]
       refine ⟨?_, ?_⟩
       ·refine den_indexP (r := rt) uAt3 zInt1 (by kernel_rfl) rfl (by decide) (pendCons (rowAt_le h13.sh fI) (pendCons (rowAt_le h13.sh (fA1)) (pendCons (fB h13 (.tail _ (.tail _ (.head _)))) pendNil))) ?_
        simp only [cns]
        refine ⟨[.int .i64 a1], rfl, rowAt_le h13.sh fA1, ?_⟩
        simp only [cns]
        refine den_hApp (b := 112) (more := bl.ins) uInssK elemInsK (by kernel_rfl) (by kernel_rfl) h13 (hins.srcS h13.sh) (by simp only [maxLen, List.length_cons, List.length_nil]; omega) (by simp only [List.length_cons, List.length_nil]; omega) fun w K14 h14 _ => ⟨(pendCons (rowAt_le h14.sh (fA1)) (pendCons (fB h14 (.tail _ (.tail _ (.head _)))) pendNil)), ?_⟩
        simp only [cns]
        refine ⟨fun _ => by simp only [Chk.holds, evs, evb]; exact ⟨hqs, by omega, by omega⟩, ?_⟩
        exact store13 (by simp only [evs, evb, hbi]) (by simp only [evs, evb]) h14 lookup_hit
       ·refine den_hApp (b := 112) (more := bl.ins) uInssK elemInsK (by kernel_rfl) (by kernel_rfl) h13 (hins.srcS h13.sh) (by simp only [maxLen, List.length_cons, List.length_nil]; omega) (by simp only [List.length_cons, List.length_nil]; omega) fun w K14 h14 _ => ⟨(pendCons (fB h14 (.tail _ (.tail _ (.head _)))) pendNil), ?_⟩
        simp only [cns]
        refine den_indexP (r := rt) uAt3 zInt1 (by kernel_rfl) rfl (by decide) (pendCons (fB h14 (.tail _ (.tail _ (.head _)))) pendNil) ?_
        simp only [cns]
        refine ⟨[.int .i64 a1], rfl, rowAt_le h14.sh fA1, ?_⟩
        simp only [cns]
        refine ⟨fun _ => by simp only [Chk.holds, evs, evb]; exact ⟨hqs, by omega, by omega⟩, ?_⟩
        exact store13 (by simp only [evs, evb, hbi]) (by simp only [evs, evb]) h14 lookup_hit
   ·refine den_indexP (r := rt) uAt3 zInt1 (by kernel_rfl) rfl (by decide) (pendCons (rowAt_le h12.sh fD) (pendCons (fB h12 (.tail _ (.head _))) pendNil)) ?_
    simp only [cns]
    refine ⟨[.int .i64 a1], rfl, rowAt_le h12.sh fA1, ?_⟩
    simp only [cns]
    refine ⟨fun _ => by simp only [Chk.holds, evs, evb]; exact ⟨hsome, by omega, by omega⟩, ?_⟩
    refine ⟨[.slice ib bl.ins.length ic], rfl, rowAt_le h12.sh fI, ?_⟩
    simp only [cns]
    refine ⟨?_, ?_⟩
    ·refine den_indexP (r := rt) uAt3 zInt1 (by kernel_rfl) rfl (by decide) (pendCons (rowAt_le h12.sh fI) (pendCons (rowAt_le h12.sh (fA1)) (pendCons (rowAt_le h12.sh fD) (pendCons (fB h12 (.tail _ (.head _))) pendNil)))) ?_
     simp only [cns]
     refine ⟨[.int .i64 a1], rfl, rowAt_le h12.sh fA1, ?_⟩
     simp only [cns]
     refine den_indexP (r := rt) uAt3 zInt1 (by kernel_rfl) rfl (by decide) (pendCons (rowAt_le h12.sh (fA1)) (pendCons (rowAt_le h12.sh fI) (pendCons (rowAt_le h12.sh (fA1)) (pendCons (rowAt_le h12.sh fD) (pendCons (fB h12 (.tail _ (.head _))) pendNil))))) ?_
     simp only [cns]
     refine ⟨[.int .i64 a2], rfl, rowAt_le h12.sh fA2, ?_⟩
     simp only [cns]
     refine den_hLit (α := InsX) (l := [⟨constB, a2, [], d, 0⟩]) (b := 112) [.agg #[txt [99, 111, 110, 115, 116], .int .i64 a2, .slice none 0 0, .int .i64 d.kind, .int .i64 d.int, txt d.text, .slice db d.list.length dc, .int .i64 0]] uInssK elemInsK rfl (by decide) (by decide) h12 (by kernel_rfl) (.cons hcins .nil) (pendCons (rowAt_le h12.sh (fA1)) (pendCons (rowAt_le h12.sh fI) (pendCons (rowAt_le h12.sh (fA1)) (pendCons (fB h12 (.tail _ (.head _))) pendNil)))) fun u K13 h13 _ _ => ?_
     simp only [cns]
     refine den_hApp (b := 112) (more := bl.ins) uInssK elemInsK (by kernel_rfl) (by kernel_rfl) h13 (hins.srcS h13.sh) (by simp only [maxLen, List.length_cons, List.length_nil]; omega) (by simp only [List.length_cons, List.length_nil]; omega) fun w K14 h14 _ => ⟨(pendCons (rowAt_le h14.sh (fA1)) (pendCons (fB h14 (.tail _ (.tail _ (.head _)))) pendNil)), ?_⟩
     simp only [cns]
     refine ⟨fun _ => by simp only [Chk.holds, evs, evb]; exact ⟨hqs, by omega, by omega⟩, ?_⟩
     exact store13 (by simp only [evs, evb, hbi]) (by simp only [evs, evb]) h14 lookup_hit
    ·refine den_indexP (r := rt) uAt3 zInt1 (by kernel_rfl) rfl (by decide) (pendCons (rowAt_le h12.sh fI) (pendCons (rowAt_le h12.sh (fA1)) (pendCons (rowAt_le h12.sh fD) (pendCons (fB h12 (.tail _ (.head _))) pendNil)))) ?_
     simp only [cns]
     refine ⟨[.int .i64 a2], rfl, rowAt_le h12.sh fA2, ?_⟩
     simp only [cns]
     refine ⟨?_, ?_⟩
     ·refine den_indexP (r := rt) uAt3 zInt1 (by kernel_rfl) rfl (by decide) (pendCons (rowAt_le h12.sh (fA2)) (pendCons (rowAt_le h12.sh fI) (pendCons (rowAt_le h12.sh (fA1)) (pendCons (rowAt_le h12.sh fD) (pendCons (fB h12 (.tail _ (.head _))) pendNil))))) ?_
      simp only [cns]
      refine ⟨[.int .i64 a1], rfl, rowAt_le h12.sh fA1, ?_⟩
      simp only [cns]
      refine den_hLit (α := InsX) (l := [⟨constB, a2, [], d, 0⟩]) (b := 112) [.agg #[txt [99, 111, 110, 115, 116], .int .i64 a2, .slice none 0 0, .int .i64 d.kind, .int .i64 d.int, txt d.text, .slice db d.list.length dc, .int .i64 0]] uInssK elemInsK rfl (by decide) (by decide) h12 (by kernel_rfl) (.cons hcins .nil) (pendCons (rowAt_le h12.sh (fA1)) (pendCons (rowAt_le h12.sh fI) (pendCons (rowAt_le h12.sh (fA1)) (pendCons (fB h12 (.tail _ (.head _))) pendNil)))) fun u K13 h13 _ _ => ?_
      simp only [cns]
      refine den_hApp (b := 112) (more := bl.ins) uInssK elemInsK (by kernel_rfl) (by kernel_rfl) h13 (hins.srcS h13.sh) (by simp only [maxLen, List.length_cons, List.length_nil]; omega) (by simp only [List.length_cons, List.length_nil]; omega) fun w K14 h14 _ => ⟨(pendCons (rowAt_le h14.sh (fA1)) (pendCons (fB h14 (.tail _ (.tail _ (.head _)))) pendNil)), ?_⟩
      simp only [cns]
      refine ⟨fun _ => by simp only [Chk.holds, evs, evb]; exact ⟨hqs, by omega, by omega⟩, ?_⟩
      exact store13 (by simp only [evs, evb, hbi]) (by simp only [evs, evb]) h14 lookup_hit
     ·refine den_hLit (α := InsX) (l := [⟨constB, a2, [], d, 0⟩]) (b := 112) [.agg #[txt [99, 111, 110, 115, 116], .int .i64 a2, .slice none 0 0, .int .i64 d.kind, .int .i64 d.int, txt d.text, .slice db d.list.length dc, .int .i64 0]] uInssK elemInsK rfl (by decide) (by decide) h12 (by kernel_rfl) (.cons hcins .nil) (pendCons (rowAt_le h12.sh fI) (pendCons (rowAt_le h12.sh (fA1)) (pendCons (fB h12 (.tail _ (.head _))) pendNil))) fun u K13 h13 _ _ => ?_
      simp only [cns]
      refine ⟨?_, ?_⟩
      ·refine den_indexP (r := rt) uAt3 zInt1 (by kernel_rfl) rfl (by decide) (pendCons (rowAt_le h13.sh fI) (pendCons (rowAt_le h13.sh (fA1)) (pendCons (fB h13 (.tail _ (.tail _ (.head _)))) pendNil))) ?_
       simp only [cns]
       refine ⟨[.int .i64 a1], rfl, rowAt_le h13.sh fA1, ?_⟩
       simp only [cns]
       refine den_hApp (b := 112) (more := bl.ins) uInssK elemInsK (by kernel_rfl) (by kernel_rfl) h13 (hins.srcS h13.sh) (by simp only [maxLen, List.length_cons, List.length_nil]; omega) (by simp only [List.length_cons, List.length_nil]; omega) fun w K14 h14 _ => ⟨(pendCons (rowAt_le h14.sh (fA1)) (pendCons (fB h14 (.tail _ (.tail _ (.head _)))) pendNil)), ?_⟩
       simp only [cns]
       refine ⟨fun _ => by simp only [Chk.holds, evs, evb]; exact ⟨hqs, by omega, by omega⟩, ?_⟩
       exact store13 (by simp only [evs, evb, hbi]) (by simp only [evs, evb]) h14 lookup_hit
      ·refine den_hApp (b := 112) (more := bl.ins) uInssK elemInsK (by kernel_rfl) (by kernel_rfl) h13 (hins.srcS h13.sh) (by simp only [maxLen, List.length_cons, List.length_nil]; omega) (by simp only [List.length_cons, List.length_nil]; omega) fun w K14 h14 _ => ⟨(pendCons (fB h14 (.tail _ (.tail _ (.head _)))) pendNil), ?_⟩
       simp only [cns]
       refine den_indexP (r := rt) uAt3 zInt1 (by kernel_rfl) rfl (by decide) (pendCons (fB h14 (.tail _ (.tail _ (.head _)))) pendNil) ?_
       simp only [cns]
       refine ⟨[.int .i64 a1], rfl, rowAt_le h14.sh fA1, ?_⟩
       simp only [cns]
       refine ⟨fun _ => by simp only [Chk.holds, evs, evb]; exact ⟨hqs, by omega, by omega⟩, ?_⟩
       exact store13 (by simp only [evs, evb, hbi]) (by simp only [evs, evb]) h14 lookup_hit
 rw [hJ13]
 rintro vs K13 _ ⟨rfl, S4, l4, h13⟩
 simp only [List.append_nil]
 have h0n : (0 : Nat) ≤ 0 := Nat.le_refl _
 -- the code with another function
 refine den_hLit0 (α := PrcX) (b := 48) uProcsK elemProcK h13 pendNil fun v25 K14 h14 _ _ => ?_
 simp only [cns]
 refine ⟨[.slice cb c.length cc], rfl, by simp only [evs, evb]; exact rowAt_le (PH.le_trans l4 h14.sh) fC, ?_⟩
 simp only [cns]
 have hfewc := gc.few
 refine den_hApp (b := 48) (more := c) uProcsK elemProcK (by kernel_rfl) (by kernel_rfl) h14 ((hc3.le l4).srcS h14.sh) (by simp only [maxLen, List.length_nil]; omega) (by simp only [List.length_nil]; omega) fun v27 K15 h15 _ => ⟨pendNil, ?_⟩
 rw [List.nil_append] at h15
 obtain ⟨eb, ec, rfl⟩ := (h15.row (List.mem_cons_self ..)).sl
 simp only [cns]
 have l15 := PH.le_trans l4 h15.sh
 refine den_indexP (r := rt) uAt3 zInt1 (by kernel_rfl) rfl (by decide) pendNil ?_
 simp only [cns]
 refine ⟨[.int .i64 a0], rfl, by simp only [evs, evb]; exact rowAt_le l15 fA0, ?_⟩
 simp only [cns]
 have rq4 : rowAt K15 (some ⟨rq, 0, none⟩) [.int .i64 p.params, .int .i64 p.holds, .int .i64 p.regs, .slice qb p.blocks.length qc] := bx_row h15 (by repeat (first | exact List.mem_cons_self .. | apply List.mem_cons_of_mem)) 0 4
 refine ⟨[.int .i64 p.params, .int .i64 p.holds, .int .i64 p.regs, .slice qb p.blocks.length qc], rfl, by simp only [evs, evb]; exact rq4, fun _ => ?_, ?_⟩
 ·obtain ⟨w1, _⟩ := ((h15.row (List.mem_cons_self ..)).slR h15.sh).get hp0
  simp only [Chk.holds, evs, evb]; exact ⟨w1, by omega, by omega⟩
 simp only [cns]
 obtain ⟨S6, s6, l6, h16⟩ := h15.swap.freeze
 have hset : (p.blocks.set bi (idleB a2 d bl)).length = p.blocks.length := by simp
 have hq : CsR S6 (idleP a2 d bi bl p) [.int .i64 p.params, .int .i64 p.holds, .int .i64 p.regs, .slice qb p.blocks.length qc] := prc_iff.2 ⟨_, rfl, p1, p2, p3, s6⟩
 refine den_hPutZ (i := a0.toNat) (a := p) (a' := idleP a2 d bi bl p) (us := [.int .i64 p.params, .int .i64 p.holds, .int .i64 p.regs, .slice qb p.blocks.length qc]) ?_ h16 hp0 rfl (by simp only [List.map_cons, List.map_nil, evs, evb]) (by
  intro u hu
  simp only [List.mem_cons, List.not_mem_nil, or_false] at hu
  rcases hu with rfl | rfl | rfl | rfl <;> rfl) hq fun K17 h17 => ?_
 ·simp only [evs, evb, ha0]; rfl
 obtain ⟨S7, s7, l7, h18⟩ := h17.freeze
 have heC : c.set a0.toNat (idleP a2 d bi bl p) = idleC c a0.toNat bi p bl a2 d := rfl
 rw [heC] at s7
 have hel : (idleC c a0.toNat bi p bl a2 d).length = c.length := by rw [← heC]; simp
 have l37 : PH.le K3 K17 := PH.le_trans l4 (PH.le_trans l6 (PH.le_trans l7 h18.sh))
 have s7K := s7.le h18.sh
 rw [← hel] at s7K ⊢
 rw [hel]
 refine ⟨[.slice cb c.length cc], rfl, by simp only [evs, evb]; exact rowAt_le l37 fC, ?_⟩
 simp only [cns]
 have lHK : PH.le H K17 := PH.le_trans lHS (PH.le_trans l13 l37)
 refine den_call cb_scrimshawref15_Run (Run15_tri c _ input 1000 K17 (hc3.le l37) (by decide : InI 1000)) ?_
 rintro e18 K18 ⟨l18, rcs, rfl, hrep⟩
 have hst := run_steps c input
 have hrep' := hrep
 obtain ⟨ds, rfl, hds⟩ := hrep
 obtain ⟨dsv, rfl, _, _, _, hdsl⟩ := Dat.Rep_iff.1 hds
 obtain ⟨sb, sc, rfl⟩ := SlR.sl hdsl
 generalize hR : runX c input 1000 = R at *
 refine ⟨_, [.int .i64 R.err, txt R.out, .int .i64 R.shown.kind, .int .i64 R.shown.int, txt R.shown.text, .slice sb R.shown.list.length sc, .bool R.whole, nI R.steps], rfl, rfl, rfl, pendNil, ?_⟩
 simp only [cns]
 refine ⟨fun vs K => vs = [.bool (decide (R.err = 93 ∨ checkX (idleC c a0.toNat bi p bl a2 d) ≠ 0))] ∧ PH.le K18 K, ?_, fun g4 => ?_, fun g4 => ?_⟩
 rotate_left
 ·simp only [evs, evb, decide_eq_true_eq] at g4
  exact ⟨_, lookup_hit, by simp [evs, evb, g4], PH.le_refl _⟩
 ·simp only [evs, evb, decide_eq_false_iff_not] at g4
  refine den_gives [.int .i64 (checkX (idleC c a0.toNat bi p bl a2 d))] cb_scrimshawref15_Check (by rw [← hel]; exact Check15_gives (idleC c a0.toNat bi p bl a2 d) _ K18 (s7K.le l18)) rfl pendNil fun K19 l19 => ⟨_, lookup_hit, ?_, l19⟩
  simp [evs, evb, g4]
 rintro vs K19 _ ⟨rfl, l19⟩
 simp only [cns]
 refine ⟨fun g5 => ⟨rfl, PH.le_trans lHK (PH.le_trans l18 l19)⟩, fun g5 => ?_⟩
 simp only [evs, evb, decide_eq_false_iff_not, not_or, ne_eq, Decidable.not_not] at g5
 have hw2 : IntKind.i64.wrap (IntKind.i64.wrap (2 * (R.steps : Int)) + 2) = 2 * (R.steps : Int) + 2 := by
  rw [w64 (n := 2 * (R.steps : Int)) (by omega) (by omega), w64 (by omega) (by omega)]
 refine den_call cb_scrimshawref15_Run (by
  have := Run15_tri (idleC c a0.toNat bi p bl a2 d) _ input (2 * (R.steps : Int) + 2) K19 ((s7K.le l18).le l19) (by unfold InI; omega)
  rw [hel] at this
  simp only [List.map_cons, List.map_nil, evs, evb, hw2]
  exact this) ?_
 rintro e20 K20 ⟨l20, qcs, rfl, hrepq⟩
 have hrepq' := hrepq
 obtain ⟨es, rfl, hes⟩ := hrepq
 obtain ⟨esv, rfl, _, _, _, hesl⟩ := Dat.Rep_iff.1 hes
 obtain ⟨sb2, sc2, rfl⟩ := SlR.sl hesl
 have halike := idle_run hck hp0 hbl (by omega) g3 g5.2 input (by rw [hR]; exact g5.1) (by rw [hR]; exact hst)
 simp only [hR] at halike
 generalize hQ : runX (idleC c a0.toNat bi p bl a2 d) input (2 * (R.steps : Int) + 2) = Q at *
 refine ⟨_, [.int .i64 Q.err, txt Q.out, .int .i64 Q.shown.kind, .int .i64 Q.shown.int, txt Q.shown.text, .slice sb2 Q.shown.list.length sc2, .bool Q.whole, nI Q.steps], rfl, rfl, rfl, pendNil, ?_⟩
 simp only [cns]
 have hlast := PH.le_trans lHK (PH.le_trans l18 (PH.le_trans l19 l20))
 have repR : R.Rep K20 [.int .i64 R.err, txt R.out, .int .i64 R.shown.kind, .int .i64 R.shown.int, txt R.shown.text, .slice sb R.shown.list.length sc, .bool R.whole, nI R.steps] := ⟨_, rfl, Dat.Rep.le (PH.le_trans l19 l20) _ hds⟩
 have repQ : Q.Rep K20 [.int .i64 Q.err, txt Q.out, .int .i64 Q.shown.kind, .int .i64 Q.shown.int, txt Q.shown.text, .slice sb2 Q.shown.list.length sc2, .bool Q.whole, nI Q.steps] := ⟨_, rfl, hes⟩
 exact den_gives [.bool true] cb_scrimshawref09_Alike (Alike_gives R Q _ _ K20 repR repQ halike) rfl pendNil fun K21 l21 => ⟨rfl, PH.le_trans hlast l21⟩
end Go.Proofs.Ytcfgpbmcgmkmhaa.Vc
/-
 LivingIdle: what comes in.
-/
namespace Go.Proofs.Ytcfgpbmcgmkmhaa.Vc
open Go Go.ChangeShapes Go.WideShapes Go.ChangeAt Go.RowKit

noncomputable def caseFields : Array Field := match Try.prog.underlying 30 with
 | some (.struct fs) => fs
 | _ => #[]
theorem uCaseS : Try.prog.underlying 30 = some (.struct caseFields) := by kernel_rfl
theorem caseF : caseFields.toList.map (fun f => (f.type, f.offset)) = [(24, 0), (25, 1), (28, 4), (9, 8)] := by kernel_rfl
theorem cCaseC : Try.prog.cellsOf 30 = 9 := by kernel_rfl
noncomputable def codeFields : Array Field := match Try.prog.underlying 24 with
 | some (.struct fs) => fs
 | _ => #[]
theorem uCodeS : Try.prog.underlying 24 = some (.struct codeFields) := by kernel_rfl
theorem codeF : codeFields.toList.map (fun f => (f.type, f.offset)) = [(22, 0)] := by kernel_rfl
theorem cCodeC : Try.prog.cellsOf 24 = 1 := by kernel_rfl
theorem cProcsC : Try.prog.cellsOf 22 = 1 := by kernel_rfl
theorem cAt3C : Try.prog.cellsOf 25 = 3 := by kernel_rfl
theorem opens_case {H : Type} {enc : TypeId × Value → H} {w : World} {fuel : Nat} {cs : List Value} {d : DataW H} {ps : List MemPlace} (h : troddenAs enc Try.prog w fuel 30 cs d ps) :
  ∃ (c : CodeX) (cv : Value) (a0 a1 a2 : Int) (dd : Dat) (dcs : List Value) (input : List UInt8), cs = [cv, .int .i64 a0, .int .i64 a1, .int .i64 a2] ++ dcs ++ [txt input] ∧ SlR (whole w) c cv ∧ InI a0 ∧ InI a1 ∧ InI a2 ∧ dd.Rep (whole w) dcs := by
 obtain ⟨xs, n, rfl, rfl, hc, hl, hi⟩ := trod_fields uCaseS caseF h
 rw [cCaseC] at hc
 match xs, hl with
 | [x0, x1, x2, x3], _ =>
 match cs, hc with
 | [c0, c1, c2, c3, c4, c5, c6, c7, c8], _ =>
 have t0 := hi 0 24 0 x0 rfl rfl
 have t1 := hi 1 25 1 x1 rfl rfl
 have t2 := hi 2 28 4 x2 rfl rfl
 have t3 := hi 3 9 8 x3 rfl rfl
 rw [cCodeC] at t0
 rw [cAt3C] at t1
 rw [cDat] at t2
 rw [cStr] at t3
 simp only [List.drop_zero, List.drop_succ_cons, List.take_succ_cons, List.take_zero] at t0 t1 t2 t3
 obtain ⟨ys, k, rfl, e0, hc0, hl0, hi0⟩ := trod_fields uCodeS codeF t0
 match ys, hl0 with
 | [y0], _ =>
 have u0 := hi0 0 22 0 y0 rfl rfl
 rw [cProcsC] at u0
 simp only [List.drop_zero, List.take_succ_cons, List.take_zero] at u0
 obtain ⟨l, v, hlv, hls, _⟩ := opens_slice (α := PrcX) (wt := PrcX.wt) uProcsK cPrcC (fun j hj => opens_prc j) u0
 have hv : c0 = v := by simpa using hlv
 subst hv
 obtain ⟨zs, q, e1, _, hc1, hl1, hi1⟩ := DataW.trod_array uAt3 t1
 match zs, hl1 with
 | [z0, z1, z2], _ =>
 have w0 := hi1 0 (by omega)
 have w1 := hi1 1 (by omega)
 have w2 := hi1 2 (by omega)
 rw [cInt] at w0 w1 w2
 simp only [List.drop_zero, List.drop_succ_cons, List.take_succ_cons, List.take_zero, Nat.zero_mul, Nat.mul_one, Nat.one_mul, List.getElem?_cons_zero, List.getElem?_cons_succ] at w0 w1 w2
 obtain ⟨a0, k0, _⟩ := opens_int uInt q _ _ _ w0
 obtain ⟨a1, k1, _⟩ := opens_int uInt q _ _ _ w1
 obtain ⟨a2, k2, _⟩ := opens_int uInt q _ _ _ w2
 obtain ⟨rfl, i0⟩ := csInt k0
 obtain ⟨rfl, i1⟩ := csInt k1
 obtain ⟨rfl, i2⟩ := csInt k2
 obtain ⟨dd, hd, _⟩ := opens_dat _ _ _ _ t2
 obtain ⟨s, hs, _⟩ := opens_txt uString _ _ _ _ t3
 obtain ⟨rfl, _⟩ := csTxt hs
 exact ⟨l, c0, a0, a1, a2, dd, [c4, c5, c6, c7], s, rfl, hls, i0, i1, i2, hd⟩
theorem arg_case {H : Type} {enc : TypeId × Value → H} {w : World} {v : Value} {d : DataW H} {p : List MemPlace} {r : _root_.Go.Reach} {b : Nat} (hval : Value.okWide Try.prog w r b 30 v) (h : DataW.Trod enc Try.prog w 0 (fun _ => true) true 30 v d p) :
  ∃ (c : CodeX) (cv : Value) (a0 a1 a2 : Int) (dd : Dat) (dcs : List Value) (input : List UInt8), v = .agg ([cv, .int .i64 a0, .int .i64 a1, .int .i64 a2] ++ dcs ++ [txt input]).toArray ∧ SlR (whole w) c cv ∧ InI a0 ∧ InI a1 ∧ InI a2 ∧ dd.Rep (whole w) dcs := by
 obtain ⟨cs, rfl, _⟩ := okWide_struct uCaseS hval
 obtain ⟨fuel, h⟩ := h
 obtain ⟨c, cv, a0, a1, a2, dd, dcs, input, h1, h2⟩ := opens_case h
 exact ⟨c, cv, a0, a1, a2, dd, dcs, input, by rw [← h1]; rfl, h2⟩
end Go.Proofs.Ytcfgpbmcgmkmhaa.Vc
