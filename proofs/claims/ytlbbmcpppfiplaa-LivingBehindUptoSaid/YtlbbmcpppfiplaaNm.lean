/-
  Texts on the way to the statement, one behind the other, without what it does not reach.
-/
import Derived.Test.YtlbbmcpppfiplaaNl
set_option linter.unusedSimpArgs false
set_option linter.unusedVariables false
set_option maxRecDepth 100000
/-
  LIVE: what is live at the beginnings of blocks, and across a call, by the program.
-/
namespace Go.Proofs.Ytlbbmcpppfiplaa.Vc
open Go

theorem sort_live {p : PrcX} {l : List Int} {c : Nat} (hn : l.Nodup) (hm : ∀ y, y ∈ l ↔ LiveB p y c) : sortI l = liveL p c 0 := by
  refine rises_eq (sortI_rises hn) (liveL_rises p c 0) fun x => ?_
  rw [sortI_mem, hm, liveL_mem, liveB_iff]
theorem sort_liveAt {p : PrcX} {l : List Int} {c a : Nat} (hn : l.Nodup) (hm : ∀ y, y ∈ l ↔ LiveAt p y c a) : sortI l = liveL p c a := by
  refine rises_eq (sortI_rises hn) (liveL_rises p c a) fun x => ?_
  rw [sortI_mem, hm, liveL_mem]
theorem set_len {p : PrcX} {l : List Int} (hp : p.Fit) (hn : l.Nodup) (hm : ∀ y ∈ l, y ∈ p.regl) : l.length ≤ 2000000 :=
  Nat.le_trans (length_le_of_sub hn hm) hp.regs
set_option maxHeartbeats 1000000 in
theorem LIn_tri (p : PrcX) (bv : Value) (S : PH) (hbv : SlR S p.blocks bv) (hp : p.Fit) (hE : ∀ b ∈ p.blocks, b.e.args.length ≤ 2000000) :
    Tri Try.prog n_live_In #[.agg (prcVs p bv).toArray] S fun x S' => PH.le S S' ∧ ∃ v, x = .returned v ∧ SlR S' (inL p) v := by
  have hN := hp.n
  have hbv0 := hbv
  obtain ⟨b0, c0, rfl⟩ := hbv.sl
  refine tri_live_In (prcVs p (.slice b0 p.blocks.length c0)) (by kernel_rfl) (by kernel_rfl) ?_
  simp only [prcVs]
  refine den_call cb_live_solved (solved_tri p (.slice b0 p.blocks.length c0) S hbv hp hE) ?_
  rintro x K1 ⟨fb, ib, ims, sets, Sf, lf, rfl, h1, hil, him, hnd, hmem⟩
  refine ⟨_, [pAt fb], rfl, rfl, rfl, pendNil, ?_⟩
  refine ⟨fun _ => rfl, ?_⟩
  refine den_bxLoad [.slice (some ⟨ib, 0, none⟩) p.blocks.length p.blocks.length] (off := 4) (by kernel_rfl) h1 (List.mem_cons_self ..) rfl rfl ?_
  have h2 := h1.empty (α := List Int) 30
  refine ⟨fun n vs K => ∃ (k : Nat) (v : Value) (S' : PH), vs = [v, nI k] ∧ k + n = p.blocks.length ∧ PH.le Sf S' ∧ Held S' K [orow 30 ((List.range k).map fun i => liveL p i 0) v, flowB fb p (.slice b0 p.blocks.length c0) (.slice (some ⟨ib, 0, none⟩) p.blocks.length p.blocks.length), inB ib ims],
    ⟨p.blocks.length, 0, .slice none 0 0, Sf, rfl, by omega, PH.le_refl _, by simpa using h2⟩, ?_⟩
  rintro n vs K _ ⟨k, v, S1, rfl, hkn, l1, h3⟩
  refine ⟨fun g => ?_, fun g => ?_⟩
  · simp only [ev0, ev, evV, List.cons_append, List.nil_append, List.getD_cons_zero, List.getD_cons_succ, List.map_cons, List.map_nil, iOf, bOf, sOf, pOf, slLen, slBase, cmpI, arI, Value.ite_bool, int_beq, int_bne, ite_band, ite_bor, decide_eq_true_eq] at g
    have hk : k < p.blocks.length := by omega
    obtain ⟨mv, hmv⟩ : ∃ mv, ims[k]? = some mv := ⟨_, List.getElem?_eq_getElem (by omega)⟩
    obtain ⟨rt, est, clt, rfl, hrt, hst⟩ := (him k mv hmv).1
    have hib : K ib = some (.cells ims.toArray 65 (0, 0)) := h3.blk (List.mem_cons_of_mem _ (List.mem_cons_of_mem _ (List.mem_cons_self ..)))
    have hreg : ∀ y ∈ sets k, y ∈ p.regl := fun y hy => live_regl (liveB_at ((hmem k y hk).1 hy))
    refine ⟨fun _ => ?_, [.map (some rt)], rfl, ?_, ?_⟩
    · simp only [Chk.holds, ev0, ev, evV, List.cons_append, List.nil_append, List.getD_cons_zero, List.getD_cons_succ, List.map_cons, List.map_nil, iOf, bOf, sOf, pOf, slLen, slBase, cmpI, arI, Value.ite_bool, int_beq, int_bne, ite_band, ite_bor]; exact ⟨rfl, by omega, by omega⟩
    · simp only [ev0, ev, evV, List.cons_append, List.nil_append, List.getD_cons_zero, List.getD_cons_succ, List.map_cons, List.map_nil, iOf, bOf, sOf, pOf, slLen, slBase, cmpI, arI, Value.ite_bool, int_beq, int_bne, ite_band, ite_bor]; exact inB_row (n := p.blocks.length) hib hmv
    refine den_call cb_live_set_int___rising (rising_tri rt est clt (sets k) S1 K _ h3 (.inl (l1 _ _ hrt)) hst (fun y hy => regl_InI hbv0 y (hreg y hy)) (Nat.le_trans (set_len hp (hnd k) hreg) (by omega))) ?_
    rintro x K2 ⟨S2, wv, l2, rfl, hwv, h4⟩
    rw [sort_live (hnd k) fun y => hmem k y hk] at hwv
    obtain ⟨b3, c3, rfl⟩ := hwv.sl
    refine ⟨_, [.slice b3 (liveL p k 0).length c3], rfl, rfl, rfl, pendNil, ?_⟩
    refine den_hPush (more := [liveL p k 0]) (b := 24) [.slice b3 (liveL p k 0).length c3] uIntssK elemIntsK rfl (by decide) (by decide) h4 (by kernel_rfl) (.cons (csLK_mk hwv) .nil) pendNil (fun _ => by kernel_rfl) (fun _ => by kernel_rfl)
      (by simp only [maxLen, List.length_cons, List.length_nil, List.length_map, List.length_range]; omega) (by simp only [List.length_cons, List.length_nil, List.length_map, List.length_range]; omega) fun u v' S4 K4 l4 h5 => ⟨pendNil, _, lookup_hit, n - 1, by omega, k + 1, v', S4, ?_, by omega, PH.le_trans l1 (PH.le_trans l2 l4), by rw [List.range_succ, List.map_append]; exact h5⟩
    simp only [ev0, ev, evV, List.cons_append, List.nil_append, List.getD_cons_zero, List.getD_cons_succ, List.map_cons, List.map_nil, iOf, bOf, sOf, pOf, slLen, slBase, cmpI, arI, Value.ite_bool, int_beq, int_bne, ite_band, ite_bor]
    rw [w64 (by omega) (by omega)]; rfl
  · simp only [ev0, ev, evV, List.cons_append, List.nil_append, List.getD_cons_zero, List.getD_cons_succ, List.map_cons, List.map_nil, iOf, bOf, sOf, pOf, slLen, slBase, cmpI, arI, Value.ite_bool, int_beq, int_bne, ite_band, ite_bor, decide_eq_false_iff_not] at g
    have : k = p.blocks.length := by omega
    subst this
    obtain ⟨S3, s3, l3, h5⟩ := h3.freeze
    exact ⟨PH.le_trans lf (PH.le_trans l1 (PH.le_trans l3 h5.sh)), v, rfl, s3.le h5.sh⟩
set_option maxHeartbeats 1000000 in
theorem LAcross_tri (p : PrcX) (bv : Value) (block : Int) (S : PH) (hbv : SlR S p.blocks bv) (hp : p.Fit) (hE : ∀ b ∈ p.blocks, b.e.args.length ≤ 2000000) :
    Tri Try.prog n_live_Across #[.agg (prcVs p bv).toArray, .int .i64 block] S fun x S' => PH.le S S' ∧ ∃ v, x = .returned v ∧ SlR S' (acrossL p block) v := by
  have hN := hp.n
  have hbv0 := hbv
  obtain ⟨b0, c0, rfl⟩ := hbv.sl
  refine tri_live_Across (prcVs p (.slice b0 p.blocks.length c0) ++ [.int .i64 block]) (by kernel_rfl) (by kernel_rfl) ?_
  simp only [prcVs, List.cons_append, List.nil_append]
  refine ⟨fun g => ?_, fun g => ?_⟩
  · simp only [ev0, ev, evV, List.cons_append, List.nil_append, List.getD_cons_zero, List.getD_cons_succ, List.map_cons, List.map_nil, iOf, bOf, sOf, pOf, slLen, slBase, cmpI, arI, Value.ite_bool, int_beq, int_bne, ite_band, ite_bor] at g
    simp only [Bool.or_eq_true, decide_eq_true_eq] at g
    exact ⟨PH.le_refl S, _, rfl, by rw [acrossL_none (by omega)]; exact nil_slR S⟩
  simp only [ev0, ev, evV, List.cons_append, List.nil_append, List.getD_cons_zero, List.getD_cons_succ, List.map_cons, List.map_nil, iOf, bOf, sOf, pOf, slLen, slBase, cmpI, arI, Value.ite_bool, int_beq, int_bne, ite_band, ite_bor] at g
  simp only [Bool.or_eq_false_iff, decide_eq_false_iff_not] at g
  obtain ⟨i, rfl⟩ : ∃ i : Nat, block = (i : Int) := ⟨block.toNat, by omega⟩
  have hi : i < p.blocks.length := by omega
  obtain ⟨b, hb⟩ : ∃ b, p.blocks[i]? = some b := ⟨_, List.getElem?_eq_getElem hi⟩
  rw [acrossL_at hb]
  obtain ⟨q1, _, ces, q2, q3⟩ := hbv.get hb
  obtain ⟨iv, es, rfl, his, hes⟩ := blk_iff.1 q2
  obtain ⟨av, rfl, e1, e2, hea, e3, e4, e5⟩ := end_iff.1 hes
  obtain ⟨b3, c3, rfl⟩ := hea.sl
  refine ⟨fun _ => ?_, [.int .i64 b.e.kind, .int .i64 b.e.reg, .slice b3 b.e.args.length c3, .int .i64 b.e.to, .int .i64 b.e.next, .int .i64 b.e.els], rfl, ?_, ?_⟩
  · simp only [Chk.holds, ev0, ev, evV, List.cons_append, List.nil_append, List.getD_cons_zero, List.getD_cons_succ, List.map_cons, List.map_nil, iOf, bOf, sOf, pOf, slLen, slBase, cmpI, arI, Value.ite_bool, int_beq, int_bne, ite_band, ite_bor]; exact ⟨q1, by omega, by omega⟩
  · simp only [ev0, ev, evV, List.cons_append, List.nil_append, List.getD_cons_zero, List.getD_cons_succ, List.map_cons, List.map_nil, iOf, bOf, sOf, pOf, slLen, slBase, cmpI, arI, Value.ite_bool, int_beq, int_bne, ite_band, ite_bor]; exact rowAt_sub q3 1 6
  refine den_gives [.bool b.e.calls] cb_live_calls (calls_gives b.e _ S hea) rfl pendNil fun K1 l1 => ⟨fun g1 => ?_, fun g1 => ?_⟩
  · simp only [ev0, ev, evV, List.cons_append, List.nil_append, List.getD_cons_zero, List.getD_cons_succ, List.map_cons, List.map_nil, iOf, bOf, sOf, pOf, slLen, slBase, cmpI, arI, Value.ite_bool, int_beq, int_bne, ite_band, ite_bor] at g1
    simp only [Bool.or_eq_true, Bool.not_eq_true', decide_eq_true_eq] at g1
    refine ⟨l1, _, rfl, ?_⟩
    have : ¬ b.crosses p.blocks.length := by
      rintro ⟨h1, h2, h3⟩
      rw [h1] at g1
      rcases g1 with (g1 | g1) | g1
      · cases g1
      · omega
      · omega
    rw [if_neg this]
    exact nil_slR K1
  · simp only [ev0, ev, evV, List.cons_append, List.nil_append, List.getD_cons_zero, List.getD_cons_succ, List.map_cons, List.map_nil, iOf, bOf, sOf, pOf, slLen, slBase, cmpI, arI, Value.ite_bool, int_beq, int_bne, ite_band, ite_bor] at g1
    simp only [Bool.or_eq_false_iff, Bool.not_eq_false', decide_eq_false_iff_not] at g1
    obtain ⟨⟨g2, g3⟩, g4⟩ := g1
    have hc : b.crosses p.blocks.length := ⟨g2, by omega, by omega⟩
    rw [if_pos hc]
    obtain ⟨m, hm⟩ : ∃ m : Nat, b.e.next = (m : Int) := ⟨b.e.next.toNat, by omega⟩
    have hmN : m < p.blocks.length := by omega
    rw [hm, Int.toNat_natCast]
    refine den_call cb_live_solved (solved_tri p (.slice b0 p.blocks.length c0) K1 (hbv.le l1) hp hE) ?_
    rintro x K2 ⟨fb, ib, ims, sets, Sf, lf, rfl, h1, hil, him, hnd, hmem⟩
    obtain ⟨mv, hmv⟩ : ∃ mv, ims[m]? = some mv := ⟨_, List.getElem?_eq_getElem (by omega)⟩
    have hno := (him m mv hmv).2
    obtain ⟨rt, est, clt, rfl, hrt, hst⟩ := (him m mv hmv).1
    have hK1 : K1 rt = none := hno rt rfl
    have hib : K2 ib = some (.cells ims.toArray 65 (0, 0)) := h1.blk (List.mem_cons_of_mem _ (List.mem_cons_self ..))
    have hreg : ∀ y ∈ sets m, y ∈ p.regl := fun y hy => live_regl (liveB_at ((hmem m y hmN).1 hy))
    refine ⟨_, [pAt fb], rfl, rfl, rfl, pendNil, ?_⟩
    refine ⟨fun _ => rfl, ?_⟩
    refine den_bxLoad [.slice (some ⟨ib, 0, none⟩) p.blocks.length p.blocks.length] (off := 4) (by kernel_rfl) h1 (List.mem_cons_self ..) rfl rfl ?_
    refine ⟨fun _ => ?_, [.map (some rt)], rfl, ?_, ?_⟩
    · simp only [Chk.holds, ev0, ev, evV, List.cons_append, List.nil_append, List.getD_cons_zero, List.getD_cons_succ, List.map_cons, List.map_nil, iOf, bOf, sOf, pOf, slLen, slBase, cmpI, arI, Value.ite_bool, int_beq, int_bne, ite_band, ite_bor]; exact ⟨rfl, by omega, by omega⟩
    · simp only [ev0, ev, evV, List.cons_append, List.nil_append, List.getD_cons_zero, List.getD_cons_succ, List.map_cons, List.map_nil, iOf, bOf, sOf, pOf, slLen, slBase, cmpI, arI, Value.ite_bool, int_beq, int_bne, ite_band, ite_bor]; exact inB_row (n := p.blocks.length) hib hmv
    have hown : Held K1 K2 [.blk rt (.map est clt)] := ⟨PH.le_trans lf h1.sh, fun i hi => by rw [List.mem_singleton.1 hi]; exact h1.sh _ _ hrt, fun i hi g hg => by
      rw [List.mem_singleton.1 hi] at hg
      simp only [Itm.ob, Option.some.injEq] at hg
      subst hg; exact hK1, List.pairwise_singleton _ _⟩
    refine den_call cb_live_set_int___drop (setDrop_tri rt est clt (sets m) b.e.to K1 K2 hown hst) ?_
    rintro x K3 ⟨es3, cl3, rfl, h3, hs3⟩
    refine ⟨_, [], rfl, rfl, rfl, pendNil, ?_⟩
    have hreg3 : ∀ y ∈ (sets m).filter (fun y => decide (y ≠ b.e.to)), y ∈ p.regl := fun y hy => hreg y (List.mem_filter.1 hy).1
    refine den_call cb_live_set_int___rising (rising_tri rt es3 cl3 _ K1 K3 _ h3 (.inr (List.mem_cons_self ..)) hs3 (fun y hy => regl_InI (hbv0.le l1) y (hreg3 y hy)) (Nat.le_trans (set_len hp hs3.nodup hreg3) (by omega))) ?_
    rintro x K4 ⟨S4, wv, l4, rfl, hwv, h4⟩
    have heq : sortI ((sets m).filter fun y => decide (y ≠ b.e.to)) = (liveL p m 0).filter fun x => decide (x ≠ b.e.to) := by
      refine rises_eq (sortI_rises hs3.nodup) ((liveL_rises p m 0).sublist List.filter_sublist) fun x => ?_
      rw [sortI_mem, List.mem_filter, List.mem_filter, hmem m x hmN, liveL_mem, liveB_iff]
    rw [heq] at hwv
    obtain ⟨b6, c6, rfl⟩ := hwv.sl
    exact ⟨_, [_], rfl, rfl, rfl, pendNil, PH.le_trans l1 (PH.le_trans l4 h4.sh), _, rfl, hwv.le h4.sh⟩
end Go.Proofs.Ytlbbmcpppfiplaa.Vc
/-
  LIVE: what is live behind each instruction, by the program.
-/
namespace Go.Proofs.Ytlbbmcpppfiplaa.Vc
open Go

/-! ### a row turned round -/
structure RevAt {α : Type} (l m : List α) (i : Nat) : Prop where
  len : m.length = l.length
  at_ : ∀ t, t < l.length → m[t]? = if t < i ∨ l.length ≤ t + i then l[l.length - 1 - t]? else l[t]?
theorem RevAt.first {α : Type} (l : List α) : RevAt l l 0 := ⟨rfl, fun t h => by rw [if_neg (by omega)]⟩
theorem RevAt.step {α : Type} {l m : List α} {i : Nat} {a b : α} (h : RevAt l m i) (hi : 2 * i + 1 < l.length) (ha : m[i]? = some a) (hb : m[l.length - 1 - i]? = some b) : RevAt l ((m.set i b).set (l.length - 1 - i) a) (i + 1) := by
  have ha' := h.at_ i (by omega)
  have hb' := h.at_ (l.length - 1 - i) (by omega)
  rw [if_neg (by omega)] at ha' hb'
  refine ⟨by simpa using h.len, fun t ht => ?_⟩
  rw [List.getElem?_set, List.length_set, h.len, List.getElem?_set, h.len]
  by_cases e1 : l.length - 1 - i = t
  · rw [if_pos e1, if_pos (by omega), if_pos (by omega), ← ha, ha']
    congr 1; omega
  · rw [if_neg e1]
    by_cases e2 : i = t
    · rw [if_pos e2, if_pos (by omega), if_pos (by omega), ← hb, hb']
      congr 1; omega
    · rw [if_neg e2, h.at_ t ht]
      by_cases e3 : t < i ∨ l.length ≤ t + i
      · rw [if_pos e3, if_pos (by omega)]
      · rw [if_neg e3, if_neg (by omega)]
theorem RevAt.done {α : Type} {l m : List α} {i : Nat} (h : RevAt l m i) (hi : l.length ≤ 2 * i + 1) : m = l.reverse := by
  refine List.ext_getElem? fun t => ?_
  by_cases ht : t < l.length
  · rw [List.getElem?_reverse ht, h.at_ t ht]
    by_cases e : t < i ∨ l.length ≤ t + i
    · rw [if_pos e]
    · rw [if_neg e]; congr 1; omega
  · rw [List.getElem?_eq_none (by rw [h.len]; omega), List.getElem?_eq_none (by rw [List.length_reverse]; omega)]
set_option maxHeartbeats 1000000 in
theorem Reverse_tri (l : List (List Int)) (v : Value) (S K : PH) (I : List Itm) (h : Held S K (orow 30 l v :: I)) (hl : l.length ≤ 4000000) :
    Tri Try.prog n_slices_Reverse_____int___int_ #[v] K fun x K' => x = .returned (.tuple #[]) ∧ Held S K' (orow 30 l.reverse v :: I) := by
  obtain ⟨b, c, rfl⟩ := (h.row (List.mem_cons_self ..)).sl
  refine tri_slices_Reverse_____int___int_ [.slice b l.length c] (by kernel_rfl) (by kernel_rfl) ?_
  refine ⟨fun n vs K' => ∃ (i : Nat) (m : List (List Int)), vs = [nI i, .int .i64 ((l.length : Int) - 1 - i)] ∧ n = l.length - i ∧ i ≤ l.length ∧ RevAt l m i ∧ Held S K' (orow 30 m (.slice b l.length c) :: I), ⟨_, 0, l, ?_, rfl, by omega, RevAt.first l, h⟩, ?_⟩
  · simp only [ev0, ev, evV, List.cons_append, List.nil_append, List.getD_cons_zero, List.getD_cons_succ, List.map_cons, List.map_nil, iOf, bOf, sOf, pOf, slLen, slBase, cmpI, arI, Value.ite_bool, int_beq, int_bne, ite_band, ite_bor]
    rw [w64 (by omega) (by omega)]
    simp
  rintro n vs K1 _ ⟨i, m, rfl, rfl, hil, hr, h1⟩
  refine ⟨fun g => ?_, fun g => ?_⟩
  · simp only [ev0, ev, evV, List.cons_append, List.nil_append, List.getD_cons_zero, List.getD_cons_succ, List.map_cons, List.map_nil, iOf, bOf, sOf, pOf, slLen, slBase, cmpI, arI, Value.ite_bool, int_beq, int_bne, ite_band, ite_bor, decide_eq_true_eq] at g
    have hi2 : 2 * i + 1 < l.length := by omega
    obtain ⟨k, hk⟩ : ∃ k : Nat, (l.length : Int) - 1 - i = (k : Int) := ⟨l.length - 1 - i, by omega⟩
    have hk' : k = l.length - 1 - i := by omega
    rw [hk]
    obtain ⟨a, ha⟩ : ∃ a, m[i]? = some a := ⟨_, List.getElem?_eq_getElem (by rw [hr.len]; omega)⟩
    obtain ⟨z, hz⟩ : ∃ z, m[k]? = some z := ⟨_, List.getElem?_eq_getElem (by rw [hr.len]; omega)⟩
    obtain ⟨a1, _, acs, a2, a3⟩ := (h1.row (List.mem_cons_self ..)).get ha
    obtain ⟨z1, _, zcs, z2, z3⟩ := (h1.row (List.mem_cons_self ..)).get hz
    obtain ⟨av, rfl, a4⟩ := csLK a2
    obtain ⟨zv, rfl, z4⟩ := csLK z2
    have a4' := a4
    have z4' := z4
    obtain ⟨ab, ac, rfl⟩ := a4'.sl
    obtain ⟨zb, zc, rfl⟩ := z4'.sl
    refine ⟨fun _ => ?_, [.slice zb z.length zc], rfl, ?_, fun _ => ?_, [.slice ab a.length ac], rfl, ?_, ?_⟩
    · simp only [Chk.holds, ev0, ev, evV, List.cons_append, List.nil_append, List.getD_cons_zero, List.getD_cons_succ, List.map_cons, List.map_nil, iOf, bOf, sOf, pOf, slLen, slBase, cmpI, arI, Value.ite_bool, int_beq, int_bne, ite_band, ite_bor]; exact ⟨z1, by omega, by omega⟩
    · simp only [ev0, ev, evV, List.cons_append, List.nil_append, List.getD_cons_zero, List.getD_cons_succ, List.map_cons, List.map_nil, iOf, bOf, sOf, pOf, slLen, slBase, cmpI, arI, Value.ite_bool, int_beq, int_bne, ite_band, ite_bor]; exact z3
    · simp only [Chk.holds, ev0, ev, evV, List.cons_append, List.nil_append, List.getD_cons_zero, List.getD_cons_succ, List.map_cons, List.map_nil, iOf, bOf, sOf, pOf, slLen, slBase, cmpI, arI, Value.ite_bool, int_beq, int_bne, ite_band, ite_bor]; exact ⟨a1, by omega, by omega⟩
    · simp only [ev0, ev, evV, List.cons_append, List.nil_append, List.getD_cons_zero, List.getD_cons_succ, List.map_cons, List.map_nil, iOf, bOf, sOf, pOf, slLen, slBase, cmpI, arI, Value.ite_bool, int_beq, int_bne, ite_band, ite_bor]; exact a3
    refine den_hPutZ (i := i) (a := a) (a' := z) (us := [.slice zb z.length zc]) ?_ h1 ha rfl ?_ (by simp [oneC]) (csLK_mk z4) fun K2 h2 => ?_
    · simp only [ev0, ev, evV, List.cons_append, List.nil_append, List.getD_cons_zero, List.getD_cons_succ, List.map_cons, List.map_nil, iOf, bOf, sOf, pOf, slLen, slBase, cmpI, arI, Value.ite_bool, int_beq, int_bne, ite_band, ite_bor]; rfl
    · simp only [ev0, ev, evV, List.cons_append, List.nil_append, List.getD_cons_zero, List.getD_cons_succ, List.map_cons, List.map_nil, iOf, bOf, sOf, pOf, slLen, slBase, cmpI, arI, Value.ite_bool, int_beq, int_bne, ite_band, ite_bor]
    have hz' : (m.set i z)[k]? = some z := by
      rw [List.getElem?_set, if_neg (by omega)]; exact hz
    refine den_hPutZ (i := k) (a := z) (a' := a) (us := [.slice ab a.length ac]) ?_ h2 hz' rfl ?_ (by simp [oneC]) (csLK_mk a4) fun K3 h3 => ?_
    · simp only [ev0, ev, evV, List.cons_append, List.nil_append, List.getD_cons_zero, List.getD_cons_succ, List.map_cons, List.map_nil, iOf, bOf, sOf, pOf, slLen, slBase, cmpI, arI, Value.ite_bool, int_beq, int_bne, ite_band, ite_bor]; rfl
    · simp only [ev0, ev, evV, List.cons_append, List.nil_append, List.getD_cons_zero, List.getD_cons_succ, List.map_cons, List.map_nil, iOf, bOf, sOf, pOf, slLen, slBase, cmpI, arI, Value.ite_bool, int_beq, int_bne, ite_band, ite_bor]
    refine ⟨_, lookup_hit, l.length - (i + 1), by omega, i + 1, (m.set i z).set k a, ?_, rfl, by omega, ?_, h3⟩
    · simp only [ev0, ev, evV, List.cons_append, List.nil_append, List.getD_cons_zero, List.getD_cons_succ, List.map_cons, List.map_nil, iOf, bOf, sOf, pOf, slLen, slBase, cmpI, arI, Value.ite_bool, int_beq, int_bne, ite_band, ite_bor]
      rw [w64 (by omega) (by omega), w64 (by omega) (by omega)]
      congr 2
      congr 1
      omega
    · subst hk'; exact hr.step hi2 ha hz
  · simp only [ev0, ev, evV, List.cons_append, List.nil_append, List.getD_cons_zero, List.getD_cons_succ, List.map_cons, List.map_nil, iOf, bOf, sOf, pOf, slLen, slBase, cmpI, arI, Value.ite_bool, int_beq, int_bne, ite_band, ite_bor, decide_eq_false_iff_not] at g
    have := hr.done (by omega)
    subst this
    exact ⟨rfl, h1⟩

/-! ### behind -/
/-- what stands in the row after so many rounds -/
noncomputable def backL (p : PrcX) (i n j : Nat) : List (List Int) := (List.range j).map fun t => liveL p i (n - t)
theorem backL_all (p : PrcX) (i : Nat) (b : BlkX) : (backL p i b.ins.length b.ins.length).reverse = behL p i b := by
  unfold backL behL
  refine List.ext_getElem? fun t => ?_
  by_cases ht : t < b.ins.length
  · rw [List.getElem?_reverse (by simpa using ht), List.length_map, List.length_range, List.getElem?_map, List.getElem?_map, List.getElem?_range (by omega), List.getElem?_range ht]
    simp only [Option.map_some]
    congr 2; omega
  · rw [List.getElem?_eq_none (by simp; omega), List.getElem?_eq_none (by simp; omega)]
theorem outS_live {p : PrcX} {sets : Nat → List Int} (hmem : ∀ c y, c < p.blocks.length → (y ∈ sets c ↔ LiveB p y c)) (b : BlkX) (y : Int) : outS p sets b y ↔ endLive b.e p.blocks.length y (LiveB p y) := by
  unfold outS endLive
  constructor
  · rintro (h | ⟨h1, c, h2, h3⟩)
    · exact .inl h
    · have hc : c < p.blocks.length := by have := (List.mem_filter.1 h2).2; simp at this; omega
      exact .inr ⟨h1, c, h2, (hmem c y hc).1 h3⟩
  · rintro (h | ⟨h1, c, h2, h3⟩)
    · exact .inl h
    · have hc : c < p.blocks.length := by have := (List.mem_filter.1 h2).2; simp at this; omega
      exact .inr ⟨h1, c, h2, (hmem c y hc).2 h3⟩
theorem thru_live {p : PrcX} {sets : Nat → List Int} (hmem : ∀ c y, c < p.blocks.length → (y ∈ sets c ↔ LiveB p y c)) {i : Nat} {b : BlkX} (hb : p.blocks[i]? = some b) (k : Nat) (y : Int) : thru y (b.ins.drop k) (outS p sets b y) ↔ LiveAt p y i k := by
  constructor
  · exact fun h => ⟨b, hb, thru_mono (outS_live hmem b y).1 h⟩
  · rintro ⟨b', hb', h⟩
    rw [hb] at hb'; cases hb'
    exact thru_mono (outS_live hmem b y).2 h
set_option maxHeartbeats 4000000 in
theorem LBehind_tri (p : PrcX) (bv : Value) (block : Int) (S : PH) (hbv : SlR S p.blocks bv) (hp : p.Fit) (hE : ∀ b ∈ p.blocks, b.e.args.length ≤ 2000000) :
    Tri Try.prog n_live_Behind #[.agg (prcVs p bv).toArray, .int .i64 block] S fun x S' => PH.le S S' ∧ ∃ v, x = .returned v ∧ SlR S' (behindL p block) v := by
  have hN := hp.n
  have hbv0 := hbv
  obtain ⟨b0, c0, rfl⟩ := hbv.sl
  refine tri_live_Behind (prcVs p (.slice b0 p.blocks.length c0) ++ [.int .i64 block]) (by kernel_rfl) (by kernel_rfl) ?_
  simp only [prcVs, List.cons_append, List.nil_append]
  refine ⟨fun g => ?_, fun g => ?_⟩
  · simp only [ev0, ev, evV, List.cons_append, List.nil_append, List.getD_cons_zero, List.getD_cons_succ, List.map_cons, List.map_nil, iOf, bOf, sOf, pOf, slLen, slBase, cmpI, arI, Value.ite_bool, int_beq, int_bne, ite_band, ite_bor] at g
    simp only [Bool.or_eq_true, decide_eq_true_eq] at g
    refine ⟨PH.le_refl S, _, rfl, ?_⟩
    have : behindL p block = [] := by
      unfold behindL
      by_cases h0 : block < 0
      · rw [if_pos h0]
      · rw [if_neg h0, List.getElem?_eq_none (by omega)]
    rw [this]
    exact nil_slR S
  simp only [ev0, ev, evV, List.cons_append, List.nil_append, List.getD_cons_zero, List.getD_cons_succ, List.map_cons, List.map_nil, iOf, bOf, sOf, pOf, slLen, slBase, cmpI, arI, Value.ite_bool, int_beq, int_bne, ite_band, ite_bor] at g
  simp only [Bool.or_eq_false_iff, decide_eq_false_iff_not] at g
  obtain ⟨i, rfl⟩ : ∃ i : Nat, block = (i : Int) := ⟨block.toNat, by omega⟩
  have hi : i < p.blocks.length := by omega
  obtain ⟨b, hb⟩ : ∃ b, p.blocks[i]? = some b := ⟨_, List.getElem?_eq_getElem hi⟩
  have hbe : behindL p (i : Int) = behL p i b := by
    unfold behindL
    rw [if_neg (by omega), Int.toNat_natCast, hb]
  rw [hbe]
  have hbl := hp.ins b (List.mem_of_getElem? hb)
  refine den_call cb_live_solved (solved_tri p (.slice b0 p.blocks.length c0) S hbv hp hE) ?_
  rintro x K1 ⟨fb, ib, ims, sets, Sf, lf, rfl, h1, hil, him, hnd, hmem⟩
  refine ⟨_, [pAt fb], rfl, rfl, rfl, pendNil, ?_⟩
  refine den_call cb_live_flow__out (out_tri p _ fb ib ims sets i b Sf K1 (hbv.le lf) hb hN (Nat.le_trans (hE b (List.mem_of_getElem? hb)) (by omega)) hil (fun c v h => (him c v h).1) h1) ?_
  rintro x K2 ⟨S2, ro, es2, cl2, s2, l2, rfl, h2, hs2, hm2⟩
  refine ⟨_, [.map (some ro)], rfl, rfl, rfl, pendNil, ?_⟩
  refine den_bxNew (vs := [.map none]) h2 (by kernel_rfl) fun sb K3 _ h3 => ?_
  refine den_bxStore (off := 0) (vs := [.map (some ro)]) (by kernel_rfl) h3 (by kernel_rfl) (by simp [oneC]) (by simp) fun K4 h4 => ?_
  have h4 : Held S2 K4 [bx sb 65 [.map (some ro)], .blk ro (.map es2 cl2), flowB fb p (.slice b0 p.blocks.length c0) (.slice (some ⟨ib, 0, none⟩) p.blocks.length p.blocks.length), inB ib ims] := h4
  refine den_bxNew (vs := [.slice none 0 0]) (h4.sub (J := [bx sb 65 [.map (some ro)], .blk ro (.map es2 cl2)]) ((List.sublist_append_left [bx sb 65 [.map (some ro)], .blk ro (.map es2 cl2)] _))) (by kernel_rfl) fun ob K5 _ h5 => ?_
  have h5 := h5.empty (α := List Int) 30
  obtain ⟨q1, _, ces, q2, q3⟩ := (hbv.le (PH.le_trans lf l2)).get hb
  obtain ⟨iv, esv, rfl, his, hes⟩ := blk_iff.1 q2
  obtain ⟨b2, c2, rfl⟩ := his.sl
  refine ⟨fun _ => ?_, [.slice b2 b.ins.length c2], rfl, ?_, ?_⟩
  · simp only [Chk.holds, ev0, ev, evV, List.cons_append, List.nil_append, List.getD_cons_zero, List.getD_cons_succ, List.map_cons, List.map_nil, iOf, bOf, sOf, pOf, slLen, slBase, cmpI, arI, Value.ite_bool, int_beq, int_bne, ite_band, ite_bor]; exact ⟨q1, by omega, by omega⟩
  · simp only [ev0, ev, evV, List.cons_append, List.nil_append, List.getD_cons_zero, List.getD_cons_succ, List.map_cons, List.map_nil, iOf, bOf, sOf, pOf, slLen, slBase, cmpI, arI, Value.ite_bool, int_beq, int_bne, ite_band, ite_bor]; exact rowAt_sub (rowAt_le h5.sh q3) 0 1
  refine den_call cb_slices_Backward___api_Ins_api_Ins_ (h5.pure (R := fun x S' => ∃ q : Nat, x = .returned (.func (.func 57) #[] #[.pointer (some ⟨q, 0, none⟩)]) ∧ rowAt S' (some ⟨q, 0, none⟩) [.slice b2 b.ins.length c2]) ((Backward_tri b.ins _ S2 his).mono fun x S' ⟨q, t1, t2, t3⟩ => ⟨t1, q, t2, t3⟩)) ?_
  rintro x K9 ⟨S9, l9, h9, q, rfl, hq⟩
  refine ⟨_, [.func (.func 57) #[] #[.pointer (some ⟨q, 0, none⟩)]], rfl, rfl, rfl, pendNil, ?_⟩
  obtain ⟨cells, hcells⟩ := (his.le l9).fn
  have hc8 : ∀ j', j' < b.ins.length → (cells (b.ins.length - 1 - j')).length = 8 := fun j' hj' => by
    obtain ⟨y, hy⟩ : ∃ y, b.ins[b.ins.length - 1 - j']? = some y := ⟨_, List.getElem?_eq_getElem (by omega)⟩
    have := (hcells _ y hy).1
    exact PV.RepRow.length this
  refine ⟨S9, b.ins.length, fun j' => nI (b.ins.length - 1 - j') :: cells (b.ins.length - 1 - j'), fun j' H' => ∃ (es : Array MapEntry) (cl : Nat) (s : List Int) (v : Value) (S' : PH), PH.le S9 S' ∧ Held S' H' [orow 30 (backL p i b.ins.length j') v, bx ob 27 [v], bx sb 65 [.map (some ro)], .blk ro (.map es cl)] ∧ SetAt es cl s ∧ ∀ y, y ∈ s ↔ thru y (b.ins.drop (b.ins.length - j')) (outS p sets b y), h9.sh, ?_, ?_, ?_, ?_, ?_⟩
  · refine Iter.congr (fun j' hj' => ?_) (backward_iter b.ins S9 _ _ hq (his.le l9) (by omega) cells hcells)
    have := hc8 j' hj'
    simp [packAll, RS.pack, RS.tags, List.take_of_length_le, this]
  · rintro j' H' ⟨es, cl, s, v, S', l', hh, _⟩; exact PH.le_trans l' hh.sh
  · exact ⟨es2, cl2, s2, .slice none 0 0, S9, PH.le_refl _, by simpa [backL] using h9, hs2, fun y => by rw [Nat.sub_zero, List.drop_length]; exact hm2 y⟩
  · rintro j' H' hj' ⟨es, cl, s, v, S', l', hh, hs, hm⟩
    obtain ⟨y, hy⟩ : ∃ y, b.ins[b.ins.length - 1 - j']? = some y := ⟨_, List.getElem?_eq_getElem (by omega)⟩
    obtain ⟨hyc, _⟩ := hcells _ y hy
    have hyc' := hyc
    obtain ⟨av, dv, hcell, _, _, hya, _, _, _, hyd, _⟩ := ins_iff.1 hyc
    obtain ⟨ab, ac, rfl⟩ := hya.sl
    obtain ⟨db, dc, rfl⟩ := hyd.sl
    simp only [hcell]
    rw [hcell] at hyc'
    obtain ⟨vb, vc, rfl⟩ := (hh.row (List.mem_cons_self ..)).sl
    have hml : ∀ z, z ∈ s ↔ LiveAt p z i (b.ins.length - j') := fun z => by rw [hm, thru_live hmem hb]
    have hreg : ∀ z ∈ s, z ∈ p.regl := fun z hz => live_regl ((hml z).1 hz)
    have hbk : (backL p i b.ins.length j').length = j' := by simp [backL]
    refine ⟨rfl, ?_⟩
    refine den_bxLoad [.slice vb (backL p i b.ins.length j').length vc] (off := 0) (by kernel_rfl) hh (List.mem_cons_of_mem _ (List.mem_cons_self ..)) rfl rfl ?_
    refine den_bxLoad [.map (some ro)] (off := 0) (by kernel_rfl) hh (List.mem_cons_of_mem _ (List.mem_cons_of_mem _ (List.mem_cons_self ..))) rfl rfl ?_
    refine den_call cb_live_set_int___rising (rising_tri ro es cl s S' H' _ hh (.inr (by simp)) hs (fun z hz => regl_InI hbv0 z (hreg z hz)) (Nat.le_trans (set_len hp hs.nodup hreg) (by omega))) ?_
    rintro x K10 ⟨S10, wv, l10, rfl, hwv, h10⟩
    rw [sort_liveAt hs.nodup hml] at hwv
    obtain ⟨b3, c3, rfl⟩ := hwv.sl
    refine ⟨_, [.slice b3 (liveL p i (b.ins.length - j')).length c3], rfl, rfl, rfl, ?_, ?_⟩
    · intro x hx
      rw [List.mem_singleton.1 hx]
      exact bx_row h10 (List.mem_cons_of_mem _ (List.mem_cons_self ..)) 0 1
    have hst : backL p i b.ins.length (j' + 1) = backL p i b.ins.length j' ++ [liveL p i (b.ins.length - j')] := by unfold backL; rw [List.range_succ, List.map_append]; rfl
    refine den_hPush (more := [liveL p i (b.ins.length - j')]) (b := 24) [.slice b3 (liveL p i (b.ins.length - j')).length c3] uIntssK elemIntsK rfl (by decide) (by decide) h10 (by kernel_rfl) (.cons (csLK_mk hwv) .nil) ?_ (fun _ => by kernel_rfl) (fun _ => by kernel_rfl)
      (by rw [hbk]; simp only [maxLen, List.length_cons, List.length_nil]; omega) (by rw [hbk]; simp only [List.length_cons, List.length_nil]; omega) fun u v' S11 K11 l11 h11 => ⟨pendNil, ?_⟩
    · intro x hx
      rw [List.mem_singleton.1 hx]
      exact bx_row h10 (List.mem_cons_of_mem _ (List.mem_cons_self ..)) 0 1
    rw [← hst] at h11
    obtain ⟨vb', vc', rfl⟩ := (h11.row (List.mem_cons_self ..)).sl
    refine den_bxStore (off := 0) (vs := [.slice vb' (backL p i b.ins.length (j' + 1)).length vc']) (by kernel_rfl) (h11.perm (List.Perm.swap _ _ _)) (by kernel_rfl) (by simp [oneC]) (by simp) fun K12 h12 => ?_
    have h12 : Held S11 K12 [bx ob 27 [.slice vb' (backL p i b.ins.length (j' + 1)).length vc'], orow 30 (backL p i b.ins.length (j' + 1)) (.slice vb' (backL p i b.ins.length (j' + 1)).length vc'), bx sb 65 [.map (some ro)], .blk ro (.map es cl)] := h12
    refine den_bxLoad [.map (some ro)] (off := 0) (by kernel_rfl) h12 (List.mem_cons_of_mem _ (List.mem_cons_of_mem _ (List.mem_cons_self ..))) rfl rfl ?_
    have hperm : [bx ob 27 [.slice vb' (backL p i b.ins.length (j' + 1)).length vc'], orow 30 (backL p i b.ins.length (j' + 1)) (.slice vb' (backL p i b.ins.length (j' + 1)).length vc'), bx sb 65 [.map (some ro)], .blk ro (.map es cl)].Perm ([.blk ro (.map es cl)] ++ [orow 30 (backL p i b.ins.length (j' + 1)) (.slice vb' (backL p i b.ins.length (j' + 1)).length vc'), bx ob 27 [.slice vb' (backL p i b.ins.length (j' + 1)).length vc'], bx sb 65 [.map (some ro)]]) := by
      refine (List.Perm.swap _ _ _).trans ?_
      exact (List.perm_append_comm (l₁ := [orow 30 (backL p i b.ins.length (j' + 1)) (.slice vb' (backL p i b.ins.length (j' + 1)).length vc'), bx ob 27 [.slice vb' (backL p i b.ins.length (j' + 1)).length vc'], bx sb 65 [.map (some ro)]]) (l₂ := [.blk ro (.map es cl)]))
    have lS : PH.le S' S11 := PH.le_trans l10 l11
    refine den_call cb_live_through (Held.call (P := Try.prog) (f := n_live_through) (args := #[.map (some ro), .agg (List.toArray _)]) (J := [.blk ro (.map es cl)]) (I := [orow 30 (backL p i b.ins.length (j' + 1)) (.slice vb' (backL p i b.ins.length (j' + 1)).length vc'), bx ob 27 [.slice vb' (backL p i b.ins.length (j' + 1)).length vc'], bx sb 65 [.map (some ro)]])
      (R := fun e S'' J' => S'' = S11 ∧ ∃ es' cl' s', e = .returned (.tuple #[]) ∧ J' = [.blk ro (.map es' cl')] ∧ SetAt es' cl' s' ∧ ∀ z, z ∈ s' ↔ (z ∈ y.args ∨ (¬ y.fills z ∧ z ∈ s))) (h12.perm hperm)
      (fun K' hK => (through_tri ro es cl s y _ S11 K' (PV.RepRow.le (PH.le_trans l' lS) hyc') hK hs).mono fun e K'' ⟨es', cl', s', t1, t2, t3, t4⟩ => ⟨S11, _, PH.le_refl _, t2, rfl, es', cl', s', t1, rfl, t3, t4⟩)) ?_
    rintro e K'' ⟨S'', J', _, hh', rfl, es', cl', s', rfl, rfl, hs', hm'⟩
    refine ⟨_, [], rfl, rfl, rfl, pendNil, _, lookup_hit, es', cl', s', .slice vb' (backL p i b.ins.length (j' + 1)).length vc', S'', PH.le_trans l' lS, hh'.perm ?_, hs', fun z => ?_⟩
    · exact List.perm_append_comm (l₁ := [.blk ro (.map es' cl')]) (l₂ := [orow 30 (backL p i b.ins.length (j' + 1)) (.slice vb' (backL p i b.ins.length (j' + 1)).length vc'), bx ob 27 [.slice vb' (backL p i b.ins.length (j' + 1)).length vc'], bx sb 65 [.map (some ro)]])
    · rw [hm', hm, thru_step hj' hy]
  · rintro H' ⟨es, cl, s, v, S', l', hh, hs, hm⟩
    obtain ⟨vb, vc, rfl⟩ := (hh.row (List.mem_cons_self ..)).sl
    have hbk : (backL p i b.ins.length b.ins.length).length = b.ins.length := by simp [backL]
    refine den_bxLoad [.slice vb (backL p i b.ins.length b.ins.length).length vc] (off := 0) (by kernel_rfl) hh (List.mem_cons_of_mem _ (List.mem_cons_self ..)) rfl rfl ?_
    refine den_call cb_slices_Reverse_____int___int_ (Reverse_tri _ _ S' H' _ hh (by rw [hbk]; omega)) ?_
    rintro x K13 ⟨rfl, h13⟩
    refine ⟨_, [], rfl, rfl, rfl, pendNil, ?_⟩
    refine den_bxLoad [.slice vb (backL p i b.ins.length b.ins.length).length vc] (off := 0) (by kernel_rfl) h13 (List.mem_cons_of_mem _ (List.mem_cons_self ..)) rfl rfl ?_
    rw [backL_all] at h13
    obtain ⟨S14, s14, l14, h14⟩ := h13.freeze
    exact ⟨PH.le_trans lf (PH.le_trans l2 (PH.le_trans l9 (PH.le_trans l' (PH.le_trans l14 h14.sh)))), _, rfl, s14.le h14.sh⟩
end Go.Proofs.Ytlbbmcpppfiplaa.Vc
/-
  LIVE: functions that come in; the fixed calls; LivingTells, LivingBehind.
-/
namespace Go.Proofs.Ytlbbmcpppfiplaa.Vc
open Go Go.ChangeShapes Go.WideShapes Go.ChangeAt Go.RowKit

/-! ### what comes in -/
noncomputable def insFields : Array Field := match Try.prog.underlying 43 with
  | some (.struct fs) => fs
  | _ => #[]
theorem uInsS : Try.prog.underlying 43 = some (.struct insFields) := by kernel_rfl
theorem insF : insFields.toList.map (fun f => (f.type, f.offset)) = [(9, 0), (3, 1), (30, 2), (41, 3), (3, 7)] := by kernel_rfl
theorem cInsC : Try.prog.cellsOf 43 = 8 := by kernel_rfl
noncomputable def endFields : Array Field := match Try.prog.underlying 36 with
  | some (.struct fs) => fs
  | _ => #[]
theorem uEndS : Try.prog.underlying 36 = some (.struct endFields) := by kernel_rfl
theorem endF : endFields.toList.map (fun f => (f.type, f.offset)) = [(3, 0), (3, 1), (30, 2), (3, 3), (3, 4), (3, 5)] := by kernel_rfl
theorem cEndC : Try.prog.cellsOf 36 = 6 := by kernel_rfl
noncomputable def blkFields : Array Field := match Try.prog.underlying 38 with
  | some (.struct fs) => fs
  | _ => #[]
theorem uBlkS : Try.prog.underlying 38 = some (.struct blkFields) := by kernel_rfl
theorem blkF : blkFields.toList.map (fun f => (f.type, f.offset)) = [(34, 0), (36, 1)] := by kernel_rfl
theorem cBlkC : Try.prog.cellsOf 38 = 7 := by kernel_rfl
noncomputable def prcFields : Array Field := match Try.prog.underlying 24 with
  | some (.struct fs) => fs
  | _ => #[]
theorem uPrcS : Try.prog.underlying 24 = some (.struct prcFields) := by kernel_rfl
theorem prcF : prcFields.toList.map (fun f => (f.type, f.offset)) = [(3, 0), (3, 1), (3, 2), (22, 3)] := by kernel_rfl
theorem cPrcC : Try.prog.cellsOf 24 = 4 := by kernel_rfl
theorem cIntsC : Try.prog.cellsOf 30 = 1 := by kernel_rfl
theorem cInssC : Try.prog.cellsOf 34 = 1 := by kernel_rfl
theorem cBlksC : Try.prog.cellsOf 22 = 1 := by kernel_rfl
theorem opens_ins {H : Type} {enc : TypeId × Value → H} {w : World} (fuel : Nat) : Opens (α := InsX) enc Try.prog w InsX.wt 43 fuel := by
  intro cs d ps h
  obtain ⟨xs, n, rfl, rfl, hc, hl, hi⟩ := trod_fields uInsS insF h
  rw [cInsC] at hc
  match xs, hl with
  | [x0, x1, x2, x3, x4], _ =>
  match cs, hc with
  | [c0, c1, c2, c3, c4, c5, c6, c7], _ =>
  have t0 := hi 0 9 0 x0 rfl rfl
  have t1 := hi 1 3 1 x1 rfl rfl
  have t2 := hi 2 30 2 x2 rfl rfl
  have t3 := hi 3 41 3 x3 rfl rfl
  have t4 := hi 4 3 7 x4 rfl rfl
  rw [cStr] at t0
  rw [cInt] at t1 t4
  rw [cIntsC] at t2
  rw [cDat] at t3
  obtain ⟨s, hs, hsw⟩ := opens_txt uString n _ _ _ t0
  obtain ⟨k, hk, hkw⟩ := opens_int uInt n _ _ _ t1
  obtain ⟨l, v, hlv, hls, hlw⟩ := opens_slice (α := Int) (wt := fun _ => 1) uIntsK cInt (fun j hj => opens_int uInt j) t2
  obtain ⟨dd, hd, hdw⟩ := opens_dat n _ _ _ t3
  obtain ⟨m, hm, hmw⟩ := opens_int uInt n _ _ _ t4
  have hv : c2 = v := by simpa using hlv
  subst hv
  obtain ⟨rfl, hs1⟩ := csTxt hs
  obtain ⟨rfl, hk1⟩ := csInt hk
  obtain ⟨rfl, hm1⟩ := csInt hm
  obtain ⟨dv, hdv, hd1, hd2, hd3, hd4⟩ := Dat.Rep_iff.1 hd
  simp only [List.take_succ_cons, List.take_zero, List.drop_succ_cons, List.drop_zero, List.cons.injEq, and_true] at hdv
  obtain ⟨rfl, rfl, rfl, rfl⟩ := hdv
  refine ⟨⟨s, k, l, dd, m⟩, ins_iff.2 ⟨_, _, rfl, hs1, hk1, hls, hd1, hd2, hd3, hd4, hm1⟩, ?_⟩
  simp only at hkw hmw hsw hdw
  simp only [InsX.wt, intsWt, Rows.uptoBulk, Rows.uptoBulkAll, List.map_cons, List.map_nil]
  omega
theorem opens_end {H : Type} {enc : TypeId × Value → H} {w : World} (fuel : Nat) : Opens (α := EndX) enc Try.prog w EndX.wt 36 fuel := by
  intro cs d ps h
  obtain ⟨xs, n, rfl, rfl, hc, hl, hi⟩ := trod_fields uEndS endF h
  rw [cEndC] at hc
  match xs, hl with
  | [x0, x1, x2, x3, x4, x5], _ =>
  match cs, hc with
  | [c0, c1, c2, c3, c4, c5], _ =>
  have t0 := hi 0 3 0 x0 rfl rfl
  have t1 := hi 1 3 1 x1 rfl rfl
  have t2 := hi 2 30 2 x2 rfl rfl
  have t3 := hi 3 3 3 x3 rfl rfl
  have t4 := hi 4 3 4 x4 rfl rfl
  have t5 := hi 5 3 5 x5 rfl rfl
  rw [cInt] at t0 t1 t3 t4 t5
  rw [cIntsC] at t2
  obtain ⟨k0, hk0, w0⟩ := opens_int uInt n _ _ _ t0
  obtain ⟨k1, hk1, w1⟩ := opens_int uInt n _ _ _ t1
  obtain ⟨l, v, hlv, hls, hlw⟩ := opens_slice (α := Int) (wt := fun _ => 1) uIntsK cInt (fun j hj => opens_int uInt j) t2
  obtain ⟨k3, hk3, w3⟩ := opens_int uInt n _ _ _ t3
  obtain ⟨k4, hk4, w4⟩ := opens_int uInt n _ _ _ t4
  obtain ⟨k5, hk5, w5⟩ := opens_int uInt n _ _ _ t5
  have hv : c2 = v := by simpa using hlv
  subst hv
  obtain ⟨rfl, h0⟩ := csInt hk0
  obtain ⟨rfl, h1⟩ := csInt hk1
  obtain ⟨rfl, h3⟩ := csInt hk3
  obtain ⟨rfl, h4⟩ := csInt hk4
  obtain ⟨rfl, h5⟩ := csInt hk5
  refine ⟨⟨k0, k1, l, k3, k4, k5⟩, end_iff.2 ⟨_, rfl, h0, h1, hls, h3, h4, h5⟩, ?_⟩
  simp only at w0 w1 w3 w4 w5
  simp only [EndX.wt, intsWt, Rows.uptoBulk, Rows.uptoBulkAll, List.map_cons, List.map_nil]
  omega
theorem opens_blk {H : Type} {enc : TypeId × Value → H} {w : World} (fuel : Nat) : Opens (α := BlkX) enc Try.prog w BlkX.wt 38 fuel := by
  intro cs d ps h
  obtain ⟨xs, n, rfl, rfl, hc, hl, hi⟩ := trod_fields uBlkS blkF h
  rw [cBlkC] at hc
  match xs, hl with
  | [x0, x1], _ =>
  match cs, hc with
  | [c0, c1, c2, c3, c4, c5, c6], _ =>
  have t0 := hi 0 34 0 x0 rfl rfl
  have t1 := hi 1 36 1 x1 rfl rfl
  rw [cInssC] at t0
  rw [cEndC] at t1
  obtain ⟨l, v, hlv, hls, hlw⟩ := opens_slice (α := InsX) (wt := InsX.wt) uInssK cInsC (fun j hj => opens_ins j) t0
  obtain ⟨e, he, hew⟩ := opens_end n _ _ _ t1
  have hv : c0 = v := by simpa using hlv
  subst hv
  refine ⟨⟨l, e⟩, blk_iff.2 ⟨_, _, rfl, hls, he⟩, ?_⟩
  simp only [BlkX.wt, Rows.uptoBulk, Rows.uptoBulkAll, List.map_cons, List.map_nil]
  omega
theorem opens_prc {H : Type} {enc : TypeId × Value → H} {w : World} (fuel : Nat) : Opens (α := PrcX) enc Try.prog w PrcX.wt 24 fuel := by
  intro cs d ps h
  obtain ⟨xs, n, rfl, rfl, hc, hl, hi⟩ := trod_fields uPrcS prcF h
  rw [cPrcC] at hc
  match xs, hl with
  | [x0, x1, x2, x3], _ =>
  match cs, hc with
  | [c0, c1, c2, c3], _ =>
  have t0 := hi 0 3 0 x0 rfl rfl
  have t1 := hi 1 3 1 x1 rfl rfl
  have t2 := hi 2 3 2 x2 rfl rfl
  have t3 := hi 3 22 3 x3 rfl rfl
  rw [cInt] at t0 t1 t2
  rw [cBlksC] at t3
  obtain ⟨k0, hk0, w0⟩ := opens_int uInt n _ _ _ t0
  obtain ⟨k1, hk1, w1⟩ := opens_int uInt n _ _ _ t1
  obtain ⟨k2, hk2, w2⟩ := opens_int uInt n _ _ _ t2
  obtain ⟨l, v, hlv, hls, hlw⟩ := opens_slice (α := BlkX) (wt := BlkX.wt) uBlksK cBlkC (fun j hj => opens_blk j) t3
  have hv : c3 = v := by simpa using hlv
  subst hv
  obtain ⟨rfl, h0⟩ := csInt hk0
  obtain ⟨rfl, h1⟩ := csInt hk1
  obtain ⟨rfl, h2⟩ := csInt hk2
  refine ⟨⟨k0, k1, k2, l⟩, prc_iff.2 ⟨_, rfl, h0, h1, h2, hls⟩, ?_⟩
  simp only at w0 w1 w2
  simp only [PrcX.wt, Rows.uptoBulk, Rows.uptoBulkAll, List.map_cons, List.map_nil]
  omega
/-- a function as an argument -/
theorem arg_prc {H : Type} {enc : TypeId × Value → H} {w : World} {v : Value} {d : DataW H} {p : List MemPlace} {r : Reach} {b : Nat} (hval : Value.okWide Try.prog w r b 24 v) (h : DataW.Trod enc Try.prog w 0 (fun _ => true) true 24 v d p) :
    ∃ (a : PrcX) (bv : Value), v = .agg (prcVs a bv).toArray ∧ SlR (whole w) a.blocks bv ∧ (InI a.params ∧ InI a.holds ∧ InI a.regs) ∧ a.wt ≤ Rows.uptoBulk d := by
  obtain ⟨cs, rfl, _⟩ := okWide_struct uPrcS hval
  obtain ⟨fuel, h⟩ := h
  obtain ⟨a, h1, h2⟩ := opens_prc fuel _ _ _ h
  obtain ⟨bv, hcs, i1, i2, i3, hb⟩ := prc_iff.1 h1
  refine ⟨a, bv, ?_, hb, ⟨i1, i2, i3⟩, h2⟩
  rw [show prcVs a bv = cs.toList from hcs.symm]
theorem arg_intK {H : Type} {enc : TypeId × Value → H} {w : World} {v : Value} {d : DataW H} {p : List MemPlace} {r : Reach} {b : Nat} (hval : Value.okWide Try.prog w r b 3 v) (h : DataW.Trod enc Try.prog w 0 (fun _ => true) true 3 v d p) :
    ∃ n : Int, v = .int .i64 n ∧ InI n := by
  obtain ⟨n, rfl, rfl, rfl, hw⟩ := open_int (k := .i64) (by kernel_rfl) hval h
  refine ⟨n, rfl, ?_⟩
  simpa [Lit.wf, IntKind.min, IntKind.max, IntKind.bits, IntKind.signed, InI] using hw

/-! ### sizes -/
theorem ints_wt : ∀ l : List Int, sumWt (fun _ => 1) l = l.length
  | [] => rfl
  | a :: l => by simp only [sumWt, List.length_cons, ints_wt l]; omega
theorem sumWt_mem {α : Type} (f : α → Nat) : ∀ {l : List α} {a : α}, a ∈ l → f a ≤ sumWt f l
  | b :: l, a, h => by
    simp only [sumWt]
    rcases List.mem_cons.1 h with rfl | h
    · omega
    · have := sumWt_mem f h; omega
theorem sumWt_len1 {α : Type} (f : α → Nat) (hf : ∀ a, 1 ≤ f a) : ∀ l : List α, l.length ≤ sumWt f l
  | [] => Nat.le_refl _
  | a :: l => by
    have := sumWt_len1 f hf l
    have := hf a
    simp only [sumWt, List.length_cons]; omega
theorem flatMap_wt {α : Type} (f : α → Nat) (g : α → List Int) (h : ∀ a, (g a).length ≤ f a) : ∀ l : List α, (l.flatMap g).length ≤ sumWt f l
  | [] => Nat.le_refl _
  | a :: l => by
    have := flatMap_wt f g h l
    have := h a
    simp only [sumWt, List.flatMap_cons, List.length_append]; omega
theorem InsX.args_wt (x : InsX) : x.args.length + 1 ≤ x.wt := by
  unfold InsX.wt intsWt; rw [ints_wt]; omega
theorem EndX.regs_wt (e : EndX) : e.regs.length ≤ e.wt := by
  unfold EndX.wt intsWt EndX.regs; rw [ints_wt, List.length_append]
  have h1 : (if e.reads e.reg = true then [e.reg] else []).length ≤ 1 := by split <;> simp
  have h2 : (if e.kind = 3 ∨ e.kind = 4 then e.args else []).length ≤ e.args.length := by split <;> simp
  omega
theorem BlkX.regs_wt (b : BlkX) : b.regs.length ≤ b.wt := by
  have h1 := flatMap_wt InsX.wt (·.args) (fun x => by have := x.args_wt; omega) b.ins
  have h2 := b.e.regs_wt
  unfold BlkX.regs BlkX.wt
  rw [List.length_append]; omega
theorem PrcX.fit_wt {p : PrcX} (h : p.wt ≤ 1048576) : p.Fit ∧ ∀ b ∈ p.blocks, b.e.args.length ≤ 2000000 := by
  unfold PrcX.wt at h
  have h1 : ∀ b : BlkX, 1 ≤ b.wt := fun b => by unfold BlkX.wt; omega
  refine ⟨⟨?_, fun b hb => ?_, ?_⟩, fun b hb => ?_⟩
  · have := sumWt_len1 BlkX.wt h1 p.blocks; omega
  · have h2 := sumWt_mem BlkX.wt hb
    have h3 := sumWt_len1 InsX.wt (fun x => by have := x.args_wt; omega) b.ins
    have h4 : b.wt = sumWt InsX.wt b.ins + 1 + b.e.wt := rfl
    omega
  · have := flatMap_wt BlkX.wt BlkX.regs BlkX.regs_wt p.blocks
    unfold PrcX.regl; omega
  · have h2 := sumWt_mem BlkX.wt hb
    have h4 : b.wt = sumWt InsX.wt b.ins + 1 + b.e.wt := rfl
    have h5 : b.e.wt = 1 + 1 + (sumWt (fun _ => 1) b.e.args + 1) + 1 + 1 + 1 := rfl
    rw [ints_wt] at h5; omega

/-! ### the fixed calls -/
def fxDt : Dat := .mk 0 0 [] []
def fxI1 : InsX := ⟨[99, 111, 110, 115, 116], 1, [], fxDt, 0⟩
def fxI2 : InsX := ⟨[43], 2, [0, 1], fxDt, 0⟩
def fxB0 : BlkX := ⟨[fxI1, fxI2], ⟨4, 2, [], 3, 1, 0⟩⟩
def fxB1 : BlkX := ⟨[], ⟨2, 0, [], 0, 0, 0⟩⟩
def fxPr : PrcX := ⟨0, 0, 4, [fxB0, fxB1]⟩
theorem fxPr_fit : fxPr.Fit ∧ ∀ b ∈ fxPr.blocks, b.e.args.length ≤ 2000000 := by
  refine ⟨⟨by decide, ?_, by decide⟩, ?_⟩ <;> simp [fxPr, fxB0, fxB1]
theorem fx_one (x : Int) : LiveB fxPr x 1 ↔ x = 0 := by
  rw [liveB_iff]
  unfold LiveAt blkLive
  simp [fxPr, fxB1, thru, endLive, EndX.reads, EndX.leads, EndX.ways]
  exact ⟨fun h => h.symm, fun h => h.symm⟩
theorem fx_at (x : Int) (k : Nat) : LiveAt fxPr x 0 k ↔ thru x (fxB0.ins.drop k) (x = 2 ∨ (x ≠ 3 ∧ x = 0)) := by
  have h1 : endLive fxB0.e 2 x (LiveB fxPr x) ↔ (x = 2 ∨ (x ≠ 3 ∧ x = 0)) := by
    unfold endLive
    simp [fxB0, EndX.reads, EndX.calls, EndX.leads, EndX.ways]
    rw [show (∃ b : Nat, (b : Int) = 1 ∧ LiveB fxPr x b) ↔ LiveB fxPr x 1 from ⟨fun ⟨b, hb, h⟩ => by (have : b = 1 := by omega); rw [this] at h; exact h, fun h => ⟨1, rfl, h⟩⟩, fx_one]
    constructor
    · rintro (h | ⟨h1, h2⟩)
      · exact .inl (of_decide_eq_true h).symm
      · exact .inr ⟨fun e => h1 e.symm, h2⟩
    · rintro (h | ⟨h1, h2⟩)
      · exact .inl (decide_eq_true h.symm)
      · exact .inr ⟨fun e => h1 e.symm, h2⟩
  constructor
  · rintro ⟨b, hb, h⟩
    have : b = fxB0 := by simp [fxPr] at hb; exact hb.symm
    subst this
    exact thru_mono h1.1 h
  · intro h
    exact ⟨fxB0, rfl, thru_mono h1.2 h⟩
theorem fx_list {p : PrcX} {i a : Nat} {l : List Int} (hl : l.Pairwise (· < ·)) (h : ∀ x, LiveAt p x i a ↔ x ∈ l) : liveL p i a = l :=
  rises_eq (liveL_rises p i a) hl fun x => by rw [liveL_mem, h]
theorem fx00 : liveL fxPr 0 0 = [0] := fx_list (by decide) fun x => by
  rw [fx_at]; simp [fxB0, fxI1, fxI2, thru, InsX.fills, tieB]; omega
theorem fx01 : liveL fxPr 0 1 = [0, 1] := fx_list (by decide) fun x => by
  rw [fx_at]; simp [fxB0, fxI1, fxI2, thru, InsX.fills, tieB]; omega
theorem fx02 : liveL fxPr 0 2 = [0, 2] := fx_list (by decide) fun x => by
  rw [fx_at]; simp [fxB0, fxI1, fxI2, thru, InsX.fills, tieB]; omega
theorem fx10 : liveL fxPr 1 0 = [0] := fx_list (by decide) fun x => by
  rw [← liveB_iff, fx_one]; simp
theorem fx_in : inL fxPr = [[0], [0]] := by
  show [liveL fxPr 0 0, liveL fxPr 1 0] = _
  rw [fx00, fx10]
theorem fx_beh : behindL fxPr 0 = [[0, 1], [0, 2]] := by
  show [liveL fxPr 0 1, liveL fxPr 0 2] = _
  rw [fx01, fx02]
theorem fx_acr : acrossL fxPr 0 = [0] := by
  have h : acrossL fxPr ((0 : Nat) : Int) = _ := acrossL_at (p := fxPr) (i := 0) (b := fxB0) rfl
  have h' : acrossL fxPr 0 = if fxB0.crosses fxPr.blocks.length then (liveL fxPr fxB0.e.next.toNat 0).filter (fun x => decide (x ≠ fxB0.e.to)) else [] := h
  rw [h', if_pos (by decide), show fxB0.e.next.toNat = 1 from rfl, fx10]
  decide
theorem ck_agsc {P : Program} {S0 : PH} {f : FuncId} {row out : List PV} {p : PV} {sh : Sh} (hcb : callB P f = true) (h : ∀ (S : PH) (cs : List Value) (v : Value), PH.le S0 S → PV.RepRow S row cs → p.Rep S v → Tri P f #[.agg cs.toArray, v] S fun e S' => ∃ us, e = .returned (sh.pack us) ∧ PV.RepRow S' out us ∧ PH.le S S') : CK.Ok P S0 ⟨f, [(true, row), (false, [p])], sh, out⟩ := by
  refine ⟨hcb, fun S vs hS hv => ?_⟩
  cases hv with
  | cons h1 h2 =>
    cases h2 with
    | cons h3 h4 =>
      cases h4
      obtain ⟨cs, h5, h6⟩ := h1
      obtain ⟨cs2, h7, h8⟩ := h3
      simp only [if_true] at h6
      simp only [Bool.false_eq_true, if_false] at h8
      subst h6 h8
      simp only [PV.RepRow] at h7
      obtain ⟨v, vs, h9, h10, rfl⟩ := h7
      cases h9
      exact h S cs _ hS h5 h10
theorem ck_sc2 {P : Program} {S0 : PH} {f : FuncId} {out : List PV} {p q : PV} {sh : Sh} (hcb : callB P f = true) (h : ∀ (S : PH) (u v : Value), PH.le S0 S → p.Rep S u → q.Rep S v → Tri P f #[u, v] S fun e S' => ∃ us, e = .returned (sh.pack us) ∧ PV.RepRow S' out us ∧ PH.le S S') : CK.Ok P S0 ⟨f, [(false, [p]), (false, [q])], sh, out⟩ := by
  refine ⟨hcb, fun S vs hS hv => ?_⟩
  cases hv with
  | cons h1 h2 =>
    cases h2 with
    | cons h3 h4 =>
      cases h4
      obtain ⟨cs, h5, h6⟩ := h1
      obtain ⟨cs2, h7, h8⟩ := h3
      simp only [Bool.false_eq_true, if_false] at h6 h8
      subst h6 h8
      simp only [PV.RepRow] at h5 h7
      obtain ⟨v, vs, h9, h10, rfl⟩ := h7
      cases h9
      obtain ⟨u, us, h11, h12, rfl⟩ := h5
      cases h11
      exact h S _ _ hS h12 h10
def fxTab17 : List CK :=
  [⟨n_live_In, [(true, pv fxPr)], .sc, [slp [[(0 : Int)], [0]]]⟩,
   ⟨n_live_Behind, [(true, pv fxPr), (false, [.int .i64 0])], .sc, [slp [[(0 : Int), 1], [0, 2]]]⟩,
   ⟨n_live_Across, [(true, pv fxPr), (false, [.int .i64 0])], .sc, [slp [(0 : Int)]]⟩,
   ⟨n_scrimshawref17_SameAll, [(false, [slp [[(0 : Int)], [0]]]), (false, [slp [[(0 : Int)], [0]]])], .sc, [.bool true]⟩,
   ⟨n_scrimshawref17_SameAll, [(false, [slp [[(0 : Int), 1], [0, 2]]]), (false, [slp [[(0 : Int), 1], [0, 2]]])], .sc, [.bool true]⟩,
   ⟨n_scrimshawref17_Same, [(false, [slp [(0 : Int)]]), (false, [slp [(0 : Int)]])], .sc, [.bool true]⟩]
theorem rep_intv {S : PH} {n : Int} {v : Value} (h : PV.Rep S (.int .i64 n) v) : v = .int .i64 n := (repI_iff.1 h).1
theorem fxTab17_ok {S0 : PH} : TabOk Try.prog S0 fxTab17 := by
  have key : ∀ c ∈ fxTab17, CK.Ok Try.prog S0 c := by
    simp only [fxTab17, List.forall_mem_cons, List.not_mem_nil, false_imp_iff, implies_true, and_true]
    refine ⟨?_, ?_, ?_, ?_, ?_, ?_⟩
    · refine ck_ag cb_live_In fun S cs hS hr => ?_
      obtain ⟨bv, rfl, _, _, _, hb⟩ := prc_iff.1 (show CsR S fxPr cs from hr)
      refine (LIn_tri fxPr bv S hb fxPr_fit.1 fxPr_fit.2).mono ?_
      rintro x S' ⟨h1, v, rfl, h2⟩
      rw [fx_in] at h2
      exact ⟨[v], rfl, row1 h2, h1⟩
    · refine ck_agsc cb_live_Behind fun S cs v hS hr hv => ?_
      obtain ⟨bv, rfl, _, _, _, hb⟩ := prc_iff.1 (show CsR S fxPr cs from hr)
      rw [rep_intv hv]
      refine (LBehind_tri fxPr bv 0 S hb fxPr_fit.1 fxPr_fit.2).mono ?_
      rintro x S' ⟨h1, v, rfl, h2⟩
      rw [fx_beh] at h2
      exact ⟨[v], rfl, row1 h2, h1⟩
    · refine ck_agsc cb_live_Across fun S cs v hS hr hv => ?_
      obtain ⟨bv, rfl, _, _, _, hb⟩ := prc_iff.1 (show CsR S fxPr cs from hr)
      rw [rep_intv hv]
      refine (LAcross_tri fxPr bv 0 S hb fxPr_fit.1 fxPr_fit.2).mono ?_
      rintro x S' ⟨h1, v, rfl, h2⟩
      rw [fx_acr] at h2
      exact ⟨[v], rfl, row1 h2, h1⟩
    · exact ck_sc2 cb_scrimshawref17_SameAll fun S u v hS hu hv => gives_ck (fun S' => rep_bool S' true) (SameAll17_gives [[0], [0]] [[0], [0]] u v S hu hv)
    · exact ck_sc2 cb_scrimshawref17_SameAll fun S u v hS hu hv => gives_ck (fun S' => rep_bool S' true) (SameAll17_gives [[0, 1], [0, 2]] [[0, 1], [0, 2]] u v S hu hv)
    · exact ck_sc2 cb_scrimshawref17_Same fun S u v hS hu hv => gives_ck (fun S' => rep_bool S' true) (Same17_gives [0] [0] u v S hu hv)
  exact key
theorem fx17_runs : runsTrue Try.prog fxTab17 fm_scrimshawlaw17_fixed = true := by kernel_rfl
theorem Fixed17_gives (H : PH) : Gives Try.prog n_scrimshawlaw17_fixed [] H (.bool true) :=
  gives_run tri_scrimshawlaw17_fixed (by kernel_rfl) (by kernel_rfl) fxTab17_ok fx17_runs

/-! ### the laws -/
theorem LivingBehind_law (p : PrcX) (bv : Value) (block : Int) (H : PH) (hb : SlR H p.blocks bv) (hp : p.Fit) (hE : ∀ b ∈ p.blocks, b.e.args.length ≤ 2000000) : Gives Try.prog n_scrimshawlaw17_LivingBehind [.agg (prcVs p bv).toArray, .int .i64 block] H (.bool true) := by
  obtain ⟨b0, c0, rfl⟩ := hb.sl
  refine tri_scrimshawlaw17_LivingBehind (prcVs p (.slice b0 p.blocks.length c0) ++ [.int .i64 block]) (by kernel_rfl) (by kernel_rfl) ?_
  simp only [prcVs, List.cons_append, List.nil_append]
  refine ⟨fun vs H' => vs = [.bool true] ∧ PH.le H H', ?_, ?_⟩
  · rintro vs H' _ ⟨rfl, h⟩; exact ⟨rfl, h⟩
  refine den_gives [.bool true] cb_scrimshawlaw17_fixed (Fixed17_gives H) rfl pendNil fun H1 l1 => ⟨fun g => ?_, fun g => ?_⟩
  · refine den_call cb_live_Behind (LBehind_tri p (.slice b0 p.blocks.length c0) block H1 (hb.le l1) hp hE) ?_
    rintro x H2 ⟨l2, v2, rfl, h2⟩
    obtain ⟨b2, c2, rfl⟩ := h2.sl
    refine ⟨_, [_], rfl, rfl, rfl, pendNil, ?_⟩
    have l02 := PH.le_trans l1 l2
    refine den_call cb_scrimshawref17_Behind (Behind17_tri p (.slice b0 p.blocks.length c0) block H2 (hb.le l02) hp) ?_
    rintro x H3 ⟨l3, v3, rfl, h3⟩
    obtain ⟨b3, c3, rfl⟩ := h3.sl
    refine ⟨_, [_], rfl, rfl, rfl, pendNil, ?_⟩
    refine den_gives [.bool true] cb_scrimshawref17_SameAll (by have := SameAll17_gives (behindL p block) (behindL p block) _ _ H3 (h2.le l3) h3; rw [decide_eq_true rfl] at this; exact this) rfl pendNil fun H4 l4 => ?_
    exact ⟨_, lookup_hit, rfl, PH.le_trans l02 (PH.le_trans l3 l4)⟩
  · simp [ev0, ev, evV, List.cons_append, List.nil_append, List.getD_cons_zero, List.getD_cons_succ, List.map_cons, List.map_nil, iOf, bOf, sOf, pOf, slLen, slBase, cmpI, arI, Value.ite_bool, int_beq, int_bne, ite_band, ite_bor] at g
end Go.Proofs.Ytlbbmcpppfiplaa.Vc
