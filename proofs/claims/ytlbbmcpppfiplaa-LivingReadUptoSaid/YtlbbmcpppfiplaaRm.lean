/-
  Texts on the way to the statement, one behind the other, without what it does not reach.
-/
import Derived.Test.YtlbbmcpppfiplaaRl
set_option linter.unusedSimpArgs false
set_option linter.unusedVariables false
set_option maxRecDepth 100000
/-
  LIVE: LivingRead.
-/
namespace Go.Proofs.Ytlbbmcpppfiplaa.Vc
open Go

def boxI (r : Int) : InsX := ⟨[37, 98, 111, 120], r, [r], fxDt, 0⟩
def endB (i : Nat) : BlkX := ⟨[], ⟨0, 0, [], 0, (i : Int), 0⟩⟩
/-- the function with a register read at once in a block, and a block that leads there -/
def readQ (p : PrcX) (i : Nat) (b : BlkX) (r : Int) : PrcX := ⟨p.params, p.holds, p.regs, p.blocks.set i ⟨boxI r :: b.ins, b.e⟩ ++ [endB i]⟩
theorem readQ_len (p : PrcX) (i : Nat) (b : BlkX) (r : Int) : (readQ p i b r).blocks.length = p.blocks.length + 1 := by simp [readQ]
theorem readQ_at {p : PrcX} {i : Nat} {b : BlkX} {r : Int} (hb : p.blocks[i]? = some b) : (readQ p i b r).blocks[i]? = some ⟨boxI r :: b.ins, b.e⟩ := by
  have hi := (List.getElem?_eq_some_iff.1 hb).1
  unfold readQ
  rw [List.getElem?_append_left (by simpa using hi), List.getElem?_set, if_pos rfl, if_pos hi]
theorem readQ_other {p : PrcX} {i j : Nat} {b c : BlkX} {r : Int} (hj : p.blocks[j]? = some c) (h : i ≠ j) : (readQ p i b r).blocks[j]? = some c := by
  have hi := (List.getElem?_eq_some_iff.1 hj).1
  unfold readQ
  rw [List.getElem?_append_left (by simpa using hi), List.getElem?_set, if_neg h, hj]
theorem readQ_last (p : PrcX) (i : Nat) (b : BlkX) (r : Int) : (readQ p i b r).blocks[p.blocks.length]? = some (endB i) := by
  unfold readQ
  rw [List.getElem?_append_right (by simp)]; simp
theorem endLive_more {e : EndX} {n : Nat} {y : Int} {L L' : Nat → Prop} (h : ∀ c, L c → L' c) (hl : endLive e n y L) : endLive e (n + 1) y L' := by
  rcases hl with hl | ⟨h1, c, h2, h3⟩
  · exact .inl hl
  · refine .inr ⟨h1, c, ?_, h c h3⟩
    obtain ⟨h4, h5⟩ := List.mem_filter.1 h2
    refine List.mem_filter.2 ⟨h4, ?_⟩
    simp only [decide_eq_true_eq] at h5 ⊢
    omega
/-- what was live is live -/
theorem live_more {p : PrcX} {i : Nat} {b : BlkX} {r y : Int} (hb : p.blocks[i]? = some b) {k : Nat} (h : LiveB p y k) : LiveB (readQ p i b r) y k := by
  refine h (fun j => LiveB (readQ p i b r) y j) fun j hj => ?_
  obtain ⟨c, hc, ht⟩ := hj
  refine liveB_of ?_
  by_cases e : i = j
  · subst e
    rw [hb] at hc; cases hc
    refine ⟨_, readQ_at hb, ?_⟩
    rw [readQ_len]
    by_cases e : y = r
    · exact .inl (by simp [boxI, e])
    · refine .inr ⟨fun hf => e hf.2.symm, thru_mono (endLive_more fun _ h => h) ht⟩
  · refine ⟨_, readQ_other hc e, ?_⟩
    rw [readQ_len]
    exact thru_mono (endLive_more fun _ h => h) ht
theorem read_here {p : PrcX} {i : Nat} {b : BlkX} {r : Int} (hb : p.blocks[i]? = some b) : LiveB (readQ p i b r) r i := by
  refine liveB_of ⟨_, readQ_at hb, ?_⟩
  exact .inl (by simp [boxI])
theorem read_last {p : PrcX} {i : Nat} {b : BlkX} {r : Int} (hb : p.blocks[i]? = some b) : LiveB (readQ p i b r) r p.blocks.length := by
  have hi := (List.getElem?_eq_some_iff.1 hb).1
  refine liveB_of ⟨_, readQ_last p i b r, ?_⟩
  refine .inr ⟨by simp [endB, EndX.calls], i, ?_, read_here hb⟩
  rw [readQ_len]
  refine List.mem_filter.2 ⟨by simp [endB, EndX.ways], by simp; omega⟩
theorem flatMap_set (f : BlkX → List Int) (b' : BlkX) : ∀ (l : List BlkX) (i : Nat) (b : BlkX), l[i]? = some b → ((l.set i b').flatMap f).length + (f b).length = (l.flatMap f).length + (f b').length
  | [], i, b, h => by simp at h
  | a :: l, 0, b, h => by
    simp at h; subst h
    simp only [List.set_cons_zero, List.flatMap_cons, List.length_append]; omega
  | a :: l, i + 1, b, h => by
    have := flatMap_set f b' l i b (by simpa using h)
    simp only [List.set_cons_succ, List.flatMap_cons, List.length_append]; omega
theorem readQ_fit {p : PrcX} {i : Nat} {b : BlkX} {r : Int} (h : p.wt ≤ 1048576) (hb : p.blocks[i]? = some b) : (readQ p i b r).Fit ∧ ∀ c ∈ (readQ p i b r).blocks, c.e.args.length ≤ 2000000 := by
  obtain ⟨hf, hE⟩ := PrcX.fit_wt h
  have hw : p.wt = 1 + 1 + 1 + (sumWt BlkX.wt p.blocks + 1) := rfl
  have h1 : ∀ b : BlkX, 1 ≤ b.wt := fun b => by unfold BlkX.wt; omega
  have hlen := sumWt_len1 BlkX.wt h1 p.blocks
  have hbm := sumWt_mem BlkX.wt (List.mem_of_getElem? hb)
  have hbw : b.wt = sumWt InsX.wt b.ins + 1 + b.e.wt := rfl
  have hbi := sumWt_len1 InsX.wt (fun x => by have := x.args_wt; omega) b.ins
  have hreg : (readQ p i b r).regl.length = p.regl.length + 1 := by
    have h2 := flatMap_set BlkX.regs ⟨boxI r :: b.ins, b.e⟩ p.blocks i b hb
    have h3 : (BlkX.regs ⟨boxI r :: b.ins, b.e⟩).length = b.regs.length + 1 := by simp [BlkX.regs, boxI]
    have h4 : (endB i).regs = [] := by simp [BlkX.regs, endB, EndX.regs, EndX.reads]
    unfold PrcX.regl
    simp only [readQ, List.flatMap_append, List.flatMap_cons, List.flatMap_nil, h4, List.length_append, List.length_nil]
    omega
  have hmem : ∀ c ∈ (readQ p i b r).blocks, c ∈ p.blocks ∨ c = ⟨boxI r :: b.ins, b.e⟩ ∨ c = endB i := fun c hc => by
    rcases List.mem_append.1 hc with hc | hc
    · rcases List.mem_or_eq_of_mem_set hc with h | h
      · exact .inl h
      · exact .inr (.inl h)
    · exact .inr (.inr (List.mem_singleton.1 hc))
  have hreg2 := flatMap_wt BlkX.wt BlkX.regs BlkX.regs_wt p.blocks
  refine ⟨⟨by rw [readQ_len]; omega, fun c hc => ?_, by rw [hreg]; unfold PrcX.regl; omega⟩, fun c hc => ?_⟩
  · rcases hmem c hc with h | rfl | rfl
    · exact hf.ins c h
    · simp only [List.length_cons]; omega
    · simp [endB]
  · rcases hmem c hc with h | rfl | rfl
    · exact hE c h
    · exact hE b (List.mem_of_getElem? hb)
    · simp [endB]
theorem InI0 : InI 0 := by decide
set_option maxHeartbeats 4000000 in
theorem LivingRead_law (p : PrcX) (bv : Value) (block r : Int) (H : PH) (hb : SlR H p.blocks bv) (hr : InI r) (hw : p.wt ≤ 1048576) : Gives Try.prog n_scrimshawlaw17_LivingRead [.agg (prcVs p bv).toArray, .int .i64 block, .int .i64 r] H (.bool true) := by
  obtain ⟨hp, hE⟩ := PrcX.fit_wt hw
  have hN := hp.n
  obtain ⟨b0, c0, rfl⟩ := hb.sl
  refine tri_scrimshawlaw17_LivingRead (prcVs p (.slice b0 p.blocks.length c0) ++ [.int .i64 block, .int .i64 r]) (by kernel_rfl) (by kernel_rfl) ?_
  simp only [prcVs, List.cons_append, List.nil_append]
  refine den_gives [.bool true] cb_scrimshawlaw17_fixed (Fixed17_gives H) rfl pendNil fun H1 l1 => ⟨fun g => ?_, fun g => ?_⟩
  · exact den_gives [.bool true] cb_scrimshawlaw17_fixed (Fixed17_gives H1) rfl pendNil fun H2 l2 => ⟨rfl, PH.le_trans l1 l2⟩
  simp only [ev0, ev, evV, List.cons_append, List.nil_append, List.getD_cons_zero, List.getD_cons_succ, List.map_cons, List.map_nil, iOf, bOf, sOf, pOf, slLen, slBase, cmpI, arI, Value.ite_bool, int_beq, int_bne, ite_band, ite_bor] at g
  simp only [Bool.or_eq_false_iff, Bool.not_eq_false', decide_eq_false_iff_not] at g
  obtain ⟨i, rfl⟩ : ∃ i : Nat, block = (i : Int) := ⟨block.toNat, by omega⟩
  have hi : i < p.blocks.length := by omega
  obtain ⟨b, hbi⟩ : ∃ b, p.blocks[i]? = some b := ⟨_, List.getElem?_eq_getElem hi⟩
  have hbl := hp.ins b (List.mem_of_getElem? hbi)
  have hb1 := hb.le l1
  have hmaxb := hb.max
  simp only [maxLen] at hmaxb
  refine ⟨fun vs K => ∃ (qb : Nat) (qv : Value), vs = [pAt qb] ∧ Held H1 K [bx qb 24 [.int .i64 p.params, .int .i64 p.holds, .int .i64 p.regs, qv], orow 38 p.blocks qv], ?_, ?_, ?_⟩
  rotate_left
  · refine den_hLit0 (α := BlkX) (b := 88) uBlksK elemBlkK (Held.nil (PH.le_refl H1)) pendNil fun v7 K7 h7 _ _ => ⟨?_, ?_⟩
    · refine den_hApp (b := 88) (more := p.blocks) uBlksK elemBlkK (by kernel_rfl) (by kernel_rfl) h7 (hb1.srcS h7.sh) (by simp only [maxLen, List.length_nil]; omega) (by simp only [List.length_nil]; omega) fun v8 K8 h8 _ => ⟨pendNil, ?_⟩
      rw [List.nil_append] at h8
      obtain ⟨b8, c8, rfl⟩ := (h8.row (List.mem_cons_self ..)).sl
      refine den_bxNew (vs := [.int .i64 0, .int .i64 0, .int .i64 0, .slice none 0 0]) h8 (by kernel_rfl) fun qb K9 _ h9 => ?_
      refine den_bxStore (off := 0) (vs := [.int .i64 p.params, .int .i64 p.holds, .int .i64 p.regs, .slice b8 p.blocks.length c8]) (by kernel_rfl) h9 (by kernel_rfl) (by simp [oneC]) (by simp) fun K10 h10 => ?_
      exact ⟨_, lookup_hit, qb, _, rfl, h10⟩
    · refine den_bxNew (vs := [.int .i64 0, .int .i64 0, .int .i64 0, .slice none 0 0]) h7 (by kernel_rfl) fun qb K8 _ h8 => ?_
      refine den_hApp (b := 88) (more := p.blocks) uBlksK elemBlkK (by kernel_rfl) (by kernel_rfl) (h8.perm (List.Perm.swap _ _ _)) (hb1.srcS h8.sh) (by simp only [maxLen, List.length_nil]; omega) (by simp only [List.length_nil]; omega) fun v9 K9 h9 _ => ⟨pendNil, ?_⟩
      rw [List.nil_append] at h9
      obtain ⟨b9, c9, rfl⟩ := (h9.row (List.mem_cons_self ..)).sl
      refine den_bxStore (off := 0) (vs := [.int .i64 p.params, .int .i64 p.holds, .int .i64 p.regs, .slice b9 p.blocks.length c9]) (by kernel_rfl) (h9.perm (List.Perm.swap _ _ _)) (by kernel_rfl) (by simp [oneC]) (by simp) fun K10 h10 => ?_
      exact ⟨_, lookup_hit, qb, _, rfl, h10⟩
  · refine den_bxNew (vs := [.int .i64 0, .int .i64 0, .int .i64 0, .slice none 0 0]) (Held.nil (PH.le_refl H1)) (by kernel_rfl) fun qb K7 _ h7 => ?_
    refine den_hLit0 (α := BlkX) (b := 88) uBlksK elemBlkK h7 pendNil fun v8 K8 h8 _ _ => ?_
    refine den_hApp (b := 88) (more := p.blocks) uBlksK elemBlkK (by kernel_rfl) (by kernel_rfl) h8 (hb1.srcS h8.sh) (by simp only [maxLen, List.length_nil]; omega) (by simp only [List.length_nil]; omega) fun v9 K9 h9 _ => ⟨pendNil, ?_⟩
    rw [List.nil_append] at h9
    obtain ⟨b9, c9, rfl⟩ := (h9.row (List.mem_cons_self ..)).sl
    refine den_bxStore (off := 0) (vs := [.int .i64 p.params, .int .i64 p.holds, .int .i64 p.regs, .slice b9 p.blocks.length c9]) (by kernel_rfl) (h9.perm (List.Perm.swap _ _ _)) (by kernel_rfl) (by simp [oneC]) (by simp) fun K10 h10 => ?_
    exact ⟨_, lookup_hit, qb, _, rfl, h10⟩
  rintro vs K _ ⟨qb, qv, rfl, h2⟩
  simp only [List.cons_append, List.nil_append]
  obtain ⟨qb2, qc2, rfl⟩ := (h2.row (List.mem_cons_of_mem _ (List.mem_cons_self ..))).sl
  refine ⟨fun _ => rfl, ?_⟩
  refine den_bxLoad [.slice qb2 p.blocks.length qc2] (off := 3) (by kernel_rfl) h2 (List.mem_cons_self ..) rfl rfl ?_
  obtain ⟨q1, _, ces, q2, q3⟩ := hb1.get hbi
  obtain ⟨iv, es, rfl, his, hes⟩ := blk_iff.1 q2
  obtain ⟨b4, c4, rfl⟩ := his.sl
  refine ⟨fun _ => ?_, [.slice b4 b.ins.length c4], rfl, ?_, ?_⟩
  · simp only [Chk.holds, ev0, ev, evV, List.cons_append, List.nil_append, List.getD_cons_zero, List.getD_cons_succ, List.map_cons, List.map_nil, iOf, bOf, sOf, pOf, slLen, slBase, cmpI, arI, Value.ite_bool, int_beq, int_bne, ite_band, ite_bor]; exact ⟨q1, by omega, by omega⟩
  · simp only [ev0, ev, evV, List.cons_append, List.nil_append, List.getD_cons_zero, List.getD_cons_succ, List.map_cons, List.map_nil, iOf, bOf, sOf, pOf, slLen, slBase, cmpI, arI, Value.ite_bool, int_beq, int_bne, ite_band, ite_bor]; exact rowAt_sub (rowAt_le h2.sh q3) 0 1
  refine den_hLit (α := Int) (l := [r]) (b := 8) [.int .i64 r] uIntsK elemIntK rfl (by decide) (by decide) h2 (by kernel_rfl) (.cons (csIK_mk hr) .nil) ?_ fun v10 K10 h10 _ _ => ?_
  · intro x hx
    simp only [List.mem_cons, List.not_mem_nil, or_false] at hx
    rcases hx with rfl | rfl
    · simp only [ev0, ev, evV, List.cons_append, List.nil_append, List.getD_cons_zero, List.getD_cons_succ, List.map_cons, List.map_nil, iOf, bOf, sOf, pOf, slLen, slBase, cmpI, arI, Value.ite_bool, int_beq, int_bne, ite_band, ite_bor]; exact rowAt_sub (rowAt_le h2.sh q3) 0 1
    · simp only [ev0, ev, evV, List.cons_append, List.nil_append, List.getD_cons_zero, List.getD_cons_succ, List.map_cons, List.map_nil, iOf, bOf, sOf, pOf, slLen, slBase, cmpI, arI, Value.ite_bool, int_beq, int_bne, ite_band, ite_bor]; exact bx_row h2 (List.mem_cons_self ..) 3 1
  obtain ⟨S10, s10, l10, h11⟩ := h10.freeze
  obtain ⟨b10, c10, rfl⟩ := s10.sl
  simp only [List.cons_append, List.nil_append]
  have hbox : CsR S10 (boxI r) [txt [37, 98, 111, 120], .int .i64 r, .slice b10 1 c10, .int .i64 0, .int .i64 0, txt [], .slice none 0 0, .int .i64 0] := by
    refine ins_iff.2 ⟨_, _, rfl, by simp [boxI, maxLen], hr, s10, InI0, InI0, by simp [boxI, fxDt, Dat.text, maxLen], nil_slR _, InI0⟩
  refine den_hLit (α := InsX) (l := [boxI r]) (b := 112) [.agg [txt [37, 98, 111, 120], .int .i64 r, .slice b10 1 c10, .int .i64 0, .int .i64 0, txt [], .slice none 0 0, .int .i64 0].toArray] uInssK elemInsK rfl (by decide) (by decide) h11 (by kernel_rfl) (.cons hbox .nil) ?_ fun v12 K12 h12 _ _ => ?_
  · intro x hx
    simp only [List.mem_cons, List.not_mem_nil, or_false] at hx
    rcases hx with rfl | rfl
    · simp only [ev0, ev, evV, List.cons_append, List.nil_append, List.getD_cons_zero, List.getD_cons_succ, List.map_cons, List.map_nil, iOf, bOf, sOf, pOf, slLen, slBase, cmpI, arI, Value.ite_bool, int_beq, int_bne, ite_band, ite_bor]; exact rowAt_sub (rowAt_le (PH.le_trans l10 h11.sh) q3) 0 1
    · simp only [ev0, ev, evV, List.cons_append, List.nil_append, List.getD_cons_zero, List.getD_cons_succ, List.map_cons, List.map_nil, iOf, bOf, sOf, pOf, slLen, slBase, cmpI, arI, Value.ite_bool, int_beq, int_bne, ite_band, ite_bor]; exact bx_row h11 (List.mem_cons_self ..) 3 1
  refine den_hApp (b := 112) (more := b.ins) uInssK elemInsK (by kernel_rfl) (by kernel_rfl) h12 ((his.le l10).srcS h12.sh) (by simp only [maxLen, List.length_cons, List.length_nil]; omega) (by simp only [List.length_cons, List.length_nil]; omega) fun v13 K13 h13 _ => ⟨?_, ?_⟩
  · intro x hx
    rw [List.mem_singleton.1 hx]
    simp only [ev0, ev, evV, List.cons_append, List.nil_append, List.getD_cons_zero, List.getD_cons_succ, List.map_cons, List.map_nil, iOf, bOf, sOf, pOf, slLen, slBase, cmpI, arI, Value.ite_bool, int_beq, int_bne, ite_band, ite_bor]; exact bx_row h13 (List.mem_cons_of_mem _ (List.mem_cons_self ..)) 3 1
  obtain ⟨S14, s14, l14, h14⟩ := h13.freeze
  obtain ⟨b14, c14, rfl⟩ := s14.sl
  simp only [List.cons_append, List.nil_append]
  refine ⟨fun _ => ?_, ?_⟩
  · simp only [Chk.holds, ev0, ev, evV, List.cons_append, List.nil_append, List.getD_cons_zero, List.getD_cons_succ, List.map_cons, List.map_nil, iOf, bOf, sOf, pOf, slLen, slBase, cmpI, arI, Value.ite_bool, int_beq, int_bne, ite_band, ite_bor]
    obtain ⟨z1, _⟩ := (h14.row (List.mem_cons_of_mem _ (List.mem_cons_self ..))).get hbi
    exact ⟨z1, by omega, by omega⟩
  refine den_hPut (i := i) (off := 0) (a := b) (a' := ⟨boxI r :: b.ins, b.e⟩) (us := [.slice b14 ([boxI r] ++ b.ins).length c14]) ?_ (h14.perm (List.Perm.swap _ _ _)) hbi (show 0 + 1 ≤ 7 by omega) ?_ (by simp [oneC]) ?_ fun K15 h15 => ?_
  · simp only [ev0, ev, evV, List.cons_append, List.nil_append, List.getD_cons_zero, List.getD_cons_succ, List.map_cons, List.map_nil, iOf, bOf, sOf, pOf, slLen, slBase, cmpI, arI, Value.ite_bool, int_beq, int_bne, ite_band, ite_bor]; rfl
  · simp only [ev0, ev, evV, List.cons_append, List.nil_append, List.getD_cons_zero, List.getD_cons_succ, List.map_cons, List.map_nil, iOf, bOf, sOf, pOf, slLen, slBase, cmpI, arI, Value.ite_bool, int_beq, int_bne, ite_band, ite_bor]
  · intro ces hc
    obtain ⟨iv', es', rfl, _, he'⟩ := blk_iff.1 hc
    exact blk_iff.2 ⟨_, _, rfl, s14, he'⟩
  refine den_bxLoad [.slice qb2 p.blocks.length qc2] (off := 3) (by kernel_rfl) h15 (List.mem_cons_of_mem _ (List.mem_cons_self ..)) rfl rfl ?_
  have hend : CsR S14 (endB i) [.slice none 0 0, .int .i64 0, .int .i64 0, .slice none 0 0, .int .i64 0, .int .i64 (i : Int), .int .i64 0] := by
    refine blk_iff.2 ⟨_, _, rfl, nil_slR _, end_iff.2 ⟨_, rfl, InI0, InI0, nil_slR _, InI0, by unfold InI; simp only [endB]; omega, InI0⟩⟩
  refine den_hPush (more := [endB i]) (b := 88) [.agg ([.slice none 0 0, .int .i64 0, .int .i64 0, .slice none 0 0, .int .i64 0, .int .i64 (i : Int), .int .i64 0] : List Value).toArray] uBlksK elemBlkK rfl (by decide) (by decide) h15 (by kernel_rfl) (.cons hend .nil) pendNil (fun _ => by kernel_rfl) (fun _ => by kernel_rfl)
    (by simp only [maxLen, List.length_set, List.length_cons, List.length_nil]; omega) (by simp only [List.length_set, List.length_cons, List.length_nil]; omega) fun u v16 S16 K16 l16 h16 => ⟨pendNil, ?_⟩
  have h16 : Held S16 K16 [orow 38 (readQ p i b r).blocks v16, bx qb 24 [.int .i64 p.params, .int .i64 p.holds, .int .i64 p.regs, .slice qb2 p.blocks.length qc2]] := h16
  obtain ⟨b16, c16, rfl⟩ := (h16.row (List.mem_cons_self ..)).sl
  simp only [List.cons_append, List.nil_append]
  refine den_bxStore (off := 3) (vs := [.slice b16 (readQ p i b r).blocks.length c16]) (by kernel_rfl) (h16.perm (List.Perm.swap _ _ _)) (by kernel_rfl) (by simp [oneC]) (by simp) fun K17 h17 => ?_
  have h17 : Held S16 K17 [bx qb 24 [.int .i64 p.params, .int .i64 p.holds, .int .i64 p.regs, .slice b16 (readQ p i b r).blocks.length c16], orow 38 (readQ p i b r).blocks (.slice b16 (readQ p i b r).blocks.length c16)] := h17
  refine den_bxLoad [.int .i64 p.params, .int .i64 p.holds, .int .i64 p.regs, .slice b16 (readQ p i b r).blocks.length c16] (off := 0) (by kernel_rfl) h17 (List.mem_cons_self ..) rfl rfl ?_
  obtain ⟨S18, s18, l18, h18⟩ := (h17.perm (List.Perm.swap _ _ _)).freeze
  obtain ⟨hqf, hqE⟩ := readQ_fit (r := r) hw hbi
  have l1_18 : PH.le H1 S18 := PH.le_trans l10 (PH.le_trans l14 (PH.le_trans l16 l18))
  refine den_call cb_live_In (h18.pure (R := fun x S' => ∃ v, x = .returned v ∧ SlR S' (inL (readQ p i b r)) v) (LIn_tri (readQ p i b r) (.slice b16 (readQ p i b r).blocks.length c16) S18 s18 hqf hqE)) ?_
  rintro x K19 ⟨S19, l19, h19, v19, rfl, s19⟩
  obtain ⟨b19, c19, rfl⟩ : ∃ b c, v19 = .slice b (p.blocks.length + 1) c := by rw [← readQ_len p i b r, ← inL_len (readQ p i b r)]; exact s19.sl
  refine ⟨_, [_], rfl, rfl, rfl, pendNil, ?_⟩
  have l1_19 := PH.le_trans l1_18 l19
  refine den_call cb_live_In (h19.pure (R := fun x S' => ∃ v, x = .returned v ∧ SlR S' (inL p) v) (LIn_tri p (.slice b0 p.blocks.length c0) S19 (hb1.le l1_19) hp hE)) ?_
  rintro x K20 ⟨S20, l20, h20, v20, rfl, s20⟩
  obtain ⟨b20, c20, rfl⟩ : ∃ b c, v20 = .slice b p.blocks.length c := by rw [← inL_len p]; exact s20.sl
  refine ⟨_, [_], rfl, rfl, rfl, pendNil, ?_⟩
  have s19 := s19.le l20
  simp only [List.cons_append, List.nil_append]
  have hqlen := readQ_len p i b r
  have l1_20 := PH.le_trans l1_19 l20
  refine ⟨fun vs K => vs = [.bool false] ∧ Held S20 K [bx qb 24 [.int .i64 p.params, .int .i64 p.holds, .int .i64 p.regs, .slice b16 (readQ p i b r).blocks.length c16]], ?_, ?_⟩
  rotate_left
  · refine ⟨[.slice b16 (readQ p i b r).blocks.length c16], rfl, ?_, fun g => ?_, fun g => ?_, fun g => ?_⟩
    · simp only [ev0, ev, evV, List.cons_append, List.nil_append, List.getD_cons_zero, List.getD_cons_succ, List.map_cons, List.map_nil, iOf, bOf, sOf, pOf, slLen, slBase, cmpI, arI, Value.ite_bool, int_beq, int_bne, ite_band, ite_bor]; exact bx_row h20 (List.mem_cons_self ..) 3 1
    · obtain ⟨z1, _⟩ := s19.get (inL_get (p := readQ p i b r) (i := i) (by omega))
      simp only [Chk.holds, ev0, ev, evV, List.cons_append, List.nil_append, List.getD_cons_zero, List.getD_cons_succ, List.map_cons, List.map_nil, iOf, bOf, sOf, pOf, slLen, slBase, cmpI, arI, Value.ite_bool, int_beq, int_bne, ite_band, ite_bor]
      exact ⟨z1, by omega, by omega⟩
    · simp [ev0, ev, evV, List.cons_append, List.nil_append, List.getD_cons_zero, List.getD_cons_succ, List.map_cons, List.map_nil, iOf, bOf, sOf, pOf, slLen, slBase, cmpI, arI, Value.ite_bool, int_beq, int_bne, ite_band, ite_bor, hqlen] at g
    obtain ⟨z1, _, zcs, z2, z3⟩ := (s19.le h20.sh).get (inL_get (p := readQ p i b r) (i := i) (by omega))
    obtain ⟨zv, rfl, z4⟩ := csLK z2
    obtain ⟨zb, zc, rfl⟩ := z4.sl
    refine ⟨[.slice zb (liveL (readQ p i b r) i 0).length zc], rfl, ?_, ?_⟩
    · simp only [ev0, ev, evV, List.cons_append, List.nil_append, List.getD_cons_zero, List.getD_cons_succ, List.map_cons, List.map_nil, iOf, bOf, sOf, pOf, slLen, slBase, cmpI, arI, Value.ite_bool, int_beq, int_bne, ite_band, ite_bor]; exact z3
    have hyes : r ∈ liveL (readQ p i b r) i 0 := liveL_mem.2 (liveB_at (read_here hbi))
    refine den_gives [.bool true] cb_scrimshawref17_Has (by have := Has17_gives (liveL (readQ p i b r) i 0) r _ K20 z4; rw [decide_eq_true hyes] at this; exact this) rfl pendNil fun K21 l21 => ⟨fun g2 => ?_, fun g2 => ?_⟩
    · simp [ev0, ev, evV, List.cons_append, List.nil_append, List.getD_cons_zero, List.getD_cons_succ, List.map_cons, List.map_nil, iOf, bOf, sOf, pOf, slLen, slBase, cmpI, arI, Value.ite_bool, int_beq, int_bne, ite_band, ite_bor] at g2
    have h21 := h20.le l21
    have hw1 : IntKind.i64.wrap (((readQ p i b r).blocks.length : Int) - 1) = (p.blocks.length : Int) := by rw [w64 (by omega) (by omega)]; omega
    obtain ⟨y1, _, ycs, y2, y3⟩ := (s19.le h21.sh).get (inL_get (p := readQ p i b r) (i := p.blocks.length) (by omega))
    obtain ⟨yv, rfl, y4⟩ := csLK y2
    obtain ⟨yb, yc, rfl⟩ := y4.sl
    refine ⟨[.slice b16 (readQ p i b r).blocks.length c16], rfl, ?_, fun g => ?_, [.slice yb (liveL (readQ p i b r) p.blocks.length 0).length yc], rfl, ?_, ?_⟩
    · simp only [ev0, ev, evV, List.cons_append, List.nil_append, List.getD_cons_zero, List.getD_cons_succ, List.map_cons, List.map_nil, iOf, bOf, sOf, pOf, slLen, slBase, cmpI, arI, Value.ite_bool, int_beq, int_bne, ite_band, ite_bor]; exact bx_row h21 (List.mem_cons_self ..) 3 1
    · simp only [Chk.holds, ev0, ev, evV, List.cons_append, List.nil_append, List.getD_cons_zero, List.getD_cons_succ, List.map_cons, List.map_nil, iOf, bOf, sOf, pOf, slLen, slBase, cmpI, arI, Value.ite_bool, int_beq, int_bne, ite_band, ite_bor, hw1]; exact ⟨y1, by omega, by omega⟩
    · simp only [ev0, ev, evV, List.cons_append, List.nil_append, List.getD_cons_zero, List.getD_cons_succ, List.map_cons, List.map_nil, iOf, bOf, sOf, pOf, slLen, slBase, cmpI, arI, Value.ite_bool, int_beq, int_bne, ite_band, ite_bor, hw1]; exact y3
    have hyes2 : r ∈ liveL (readQ p i b r) p.blocks.length 0 := liveL_mem.2 (liveB_at (read_last hbi))
    refine den_gives [.bool true] cb_scrimshawref17_Has (by have := Has17_gives (liveL (readQ p i b r) p.blocks.length 0) r _ K21 y4; rw [decide_eq_true hyes2] at this; exact this) rfl pendNil fun K22 l22 => ?_
    exact ⟨_, lookup_hit, rfl, h21.le l22⟩
  rintro vs K22 _ ⟨rfl, h22⟩
  simp only [List.cons_append, List.nil_append]
  refine ⟨fun g => ?_, fun g => ?_⟩
  · simp [ev0, ev, evV, List.cons_append, List.nil_append, List.getD_cons_zero, List.getD_cons_succ, List.map_cons, List.map_nil, iOf, bOf, sOf, pOf, slLen, slBase, cmpI, arI, Value.ite_bool, int_beq, int_bne, ite_band, ite_bor] at g
  refine den_call cb_scrimshawref17_Read (h22.pure (R := fun x S' => ∃ v, x = .returned v ∧ SlR S' (readL p) v) (Read17_tri p (.slice b0 p.blocks.length c0) S20 (hb1.le l1_20) hp.regs)) ?_
  rintro x K23 ⟨S23, l23, h23, v23, rfl, s23⟩
  obtain ⟨b23, c23, rfl⟩ := s23.sl
  refine ⟨_, [_], rfl, rfl, rfl, pendNil, ?_⟩
  have l1_23 := PH.le_trans l1_20 l23
  have t19 := (s19.le l23).le h23.sh
  have t20 := (s20.le l23).le h23.sh
  have t23 := s23.le h23.sh
  have lH : PH.le H K23 := PH.le_trans l1 (PH.le_trans l1_23 h23.sh)
  have hlen := liveL_len hp
  refine ⟨fun n vs K => ∃ (bb : Bool) (k : Nat), vs = [.bool bb, nI k] ∧ k + n = p.blocks.length ∧ PH.le K23 K, ⟨p.blocks.length, false, 0, rfl, by omega, PH.le_refl _⟩, ?_⟩
  rintro n vs K _ ⟨bb, k, rfl, hkn, lk⟩
  simp only [List.cons_append, List.nil_append]
  refine ⟨fun g => ?_, fun g => ⟨rfl, PH.le_trans lH lk⟩⟩
  simp only [ev0, ev, evV, List.cons_append, List.nil_append, List.getD_cons_zero, List.getD_cons_succ, List.map_cons, List.map_nil, iOf, bOf, sOf, pOf, slLen, slBase, cmpI, arI, Value.ite_bool, int_beq, int_bne, ite_band, ite_bor, decide_eq_true_eq] at g
  have hk : k < p.blocks.length := by omega
  refine ⟨fun n vs K' => ∃ (bb : Bool) (j : Nat), vs = [.bool bb, nI j] ∧ j + n = (liveL p k 0).length ∧ PH.le K K', ⟨(liveL p k 0).length, bb, 0, rfl, by omega, PH.le_refl _⟩, ?_⟩
  rintro n1 vs K' _ ⟨bb1, j, rfl, hjn, lj⟩
  simp only [List.cons_append, List.nil_append]
  have lkj := PH.le_trans lk lj
  obtain ⟨z1, _, zcs, z2, z3⟩ := (t20.le lkj).get (inL_get (p := p) (i := k) hk)
  obtain ⟨zv, rfl, z4⟩ := csLK z2
  obtain ⟨zb, zc, rfl⟩ := z4.sl
  have hl0 := hlen k 0
  refine ⟨fun _ => ?_, [.slice zb (liveL p k 0).length zc], rfl, ?_, fun g1 => ?_, fun g1 => ?_⟩
  · simp only [Chk.holds, ev0, ev, evV, List.cons_append, List.nil_append, List.getD_cons_zero, List.getD_cons_succ, List.map_cons, List.map_nil, iOf, bOf, sOf, pOf, slLen, slBase, cmpI, arI, Value.ite_bool, int_beq, int_bne, ite_band, ite_bor]; exact ⟨z1, by omega, by omega⟩
  · simp only [ev0, ev, evV, List.cons_append, List.nil_append, List.getD_cons_zero, List.getD_cons_succ, List.map_cons, List.map_nil, iOf, bOf, sOf, pOf, slLen, slBase, cmpI, arI, Value.ite_bool, int_beq, int_bne, ite_band, ite_bor]; exact z3
  · simp only [ev0, ev, evV, List.cons_append, List.nil_append, List.getD_cons_zero, List.getD_cons_succ, List.map_cons, List.map_nil, iOf, bOf, sOf, pOf, slLen, slBase, cmpI, arI, Value.ite_bool, int_beq, int_bne, ite_band, ite_bor, decide_eq_true_eq] at g1
    obtain ⟨y, hy⟩ : ∃ y, (liveL p k 0)[j]? = some y := ⟨_, List.getElem?_eq_getElem (show j < (liveL p k 0).length by omega)⟩
    obtain ⟨r1, _, rcs, r2, r3⟩ := z4.get hy
    obtain ⟨rfl, _⟩ := csIK r2
    have hyl : LiveAt p y k 0 := liveL_mem.1 (List.mem_of_getElem? hy)
    refine ⟨fun vs K'' => vs = [.bool false] ∧ PH.le K' K'', ?_, ?_⟩
    · rintro vs K'' _ ⟨rfl, l4⟩
      refine ⟨fun g3 => ?_, fun g3 => ?_⟩
      · simp [ev0, ev, evV, List.cons_append, List.nil_append, List.getD_cons_zero, List.getD_cons_succ, List.map_cons, List.map_nil, iOf, bOf, sOf, pOf, slLen, slBase, cmpI, arI, Value.ite_bool, int_beq, int_bne, ite_band, ite_bor] at g3
      refine ⟨_, lookup_hit, n1 - 1, by omega, bb1, j + 1, ?_, by omega, PH.le_trans lj l4⟩
      simp only [ev0, ev, evV, List.cons_append, List.nil_append, List.getD_cons_zero, List.getD_cons_succ, List.map_cons, List.map_nil, iOf, bOf, sOf, pOf, slLen, slBase, cmpI, arI, Value.ite_bool, int_beq, int_bne, ite_band, ite_bor]; rw [w64 (by omega) (by omega)]; rfl
    refine ⟨[.slice zb (liveL p k 0).length zc], rfl, ?_, fun _ => ?_, [.int .i64 y], rfl, ?_, ?_⟩
    · simp only [ev0, ev, evV, List.cons_append, List.nil_append, List.getD_cons_zero, List.getD_cons_succ, List.map_cons, List.map_nil, iOf, bOf, sOf, pOf, slLen, slBase, cmpI, arI, Value.ite_bool, int_beq, int_bne, ite_band, ite_bor]; exact z3
    · simp only [Chk.holds, ev0, ev, evV, List.cons_append, List.nil_append, List.getD_cons_zero, List.getD_cons_succ, List.map_cons, List.map_nil, iOf, bOf, sOf, pOf, slLen, slBase, cmpI, arI, Value.ite_bool, int_beq, int_bne, ite_band, ite_bor]; exact ⟨r1, by omega, by omega⟩
    · simp only [ev0, ev, evV, List.cons_append, List.nil_append, List.getD_cons_zero, List.getD_cons_succ, List.map_cons, List.map_nil, iOf, bOf, sOf, pOf, slLen, slBase, cmpI, arI, Value.ite_bool, int_beq, int_bne, ite_band, ite_bor]; exact r3
    have hyes : y ∈ readL p := (readL_mem p y).2 (live_regl hyl)
    refine den_gives [.bool true] cb_scrimshawref17_Has (by have := Has17_gives (readL p) y _ K' (t23.le lkj); rw [decide_eq_true hyes] at this; exact this) rfl pendNil fun K3 l3 => ⟨fun g2 => ?_, fun g2 => ?_, fun g2 => ?_⟩
    · obtain ⟨w1, _⟩ := t19.get (inL_get (p := readQ p i b r) (i := k) (by omega))
      simp only [Chk.holds, ev0, ev, evV, List.cons_append, List.nil_append, List.getD_cons_zero, List.getD_cons_succ, List.map_cons, List.map_nil, iOf, bOf, sOf, pOf, slLen, slBase, cmpI, arI, Value.ite_bool, int_beq, int_bne, ite_band, ite_bor]; exact ⟨w1, by omega, by omega⟩
    · simp [ev0, ev, evV, List.cons_append, List.nil_append, List.getD_cons_zero, List.getD_cons_succ, List.map_cons, List.map_nil, iOf, bOf, sOf, pOf, slLen, slBase, cmpI, arI, Value.ite_bool, int_beq, int_bne, ite_band, ite_bor] at g2
    obtain ⟨w1, _, wcs, w2, w3⟩ := (t19.le (PH.le_trans lkj l3)).get (inL_get (p := readQ p i b r) (i := k) (by omega))
    obtain ⟨wv, rfl, w4⟩ := csLK w2
    obtain ⟨wb, wc, rfl⟩ := w4.sl
    refine ⟨[.slice wb (liveL (readQ p i b r) k 0).length wc], rfl, ?_, [.slice zb (liveL p k 0).length zc], rfl, ?_, fun _ => ?_, [.int .i64 y], rfl, ?_, ?_⟩
    · simp only [ev0, ev, evV, List.cons_append, List.nil_append, List.getD_cons_zero, List.getD_cons_succ, List.map_cons, List.map_nil, iOf, bOf, sOf, pOf, slLen, slBase, cmpI, arI, Value.ite_bool, int_beq, int_bne, ite_band, ite_bor]; exact w3
    · simp only [ev0, ev, evV, List.cons_append, List.nil_append, List.getD_cons_zero, List.getD_cons_succ, List.map_cons, List.map_nil, iOf, bOf, sOf, pOf, slLen, slBase, cmpI, arI, Value.ite_bool, int_beq, int_bne, ite_band, ite_bor]; exact rowAt_le l3 z3
    · simp only [Chk.holds, ev0, ev, evV, List.cons_append, List.nil_append, List.getD_cons_zero, List.getD_cons_succ, List.map_cons, List.map_nil, iOf, bOf, sOf, pOf, slLen, slBase, cmpI, arI, Value.ite_bool, int_beq, int_bne, ite_band, ite_bor]; exact ⟨r1, by omega, by omega⟩
    · simp only [ev0, ev, evV, List.cons_append, List.nil_append, List.getD_cons_zero, List.getD_cons_succ, List.map_cons, List.map_nil, iOf, bOf, sOf, pOf, slLen, slBase, cmpI, arI, Value.ite_bool, int_beq, int_bne, ite_band, ite_bor]; exact rowAt_le l3 r3
    have hyes2 : y ∈ liveL (readQ p i b r) k 0 := liveL_mem.2 (liveB_at (live_more hbi (liveB_of hyl)))
    refine den_gives [.bool true] cb_scrimshawref17_Has (by have := Has17_gives (liveL (readQ p i b r) k 0) y _ K3 w4; rw [decide_eq_true hyes2] at this; exact this) rfl pendNil fun K4 l4 => ?_
    exact ⟨_, lookup_hit, rfl, PH.le_trans l3 l4⟩
  · refine ⟨_, lookup_skip rfl lookup_hit, n - 1, by omega, bb1, k + 1, ?_, by omega, lkj⟩
    simp only [ev0, ev, evV, List.cons_append, List.nil_append, List.getD_cons_zero, List.getD_cons_succ, List.map_cons, List.map_nil, iOf, bOf, sOf, pOf, slLen, slBase, cmpI, arI, Value.ite_bool, int_beq, int_bne, ite_band, ite_bor]; rw [w64 (by omega) (by omega)]; rfl
end Go.Proofs.Ytlbbmcpppfiplaa.Vc
